/- MADE BY PROGRAM (wip/gen/emit2.py): the instructions are those of the program. -/
import Derived.Test.YtnanlkamcgihlaaDoorCode
import Derived.Test.YtnanlkamcgihlaaDoorSh
import Derived.Test.YtnanlkamcgihlaaDoorX
import Derived.Test.YtnanlkamcgihlaaDoorChecked
import Derived.Laws.Externs
import Derived.KernelRfl
set_option maxRecDepth 100000
namespace Go.L.Try
open Go Go.L Go.Proofs Go.Shelf Go.RowKit
theorem Vl:FnC.of Tryd.prog H7 Kt:=⟨false,by kernel_rfl⟩
theorem Z9:FnC.of Tryd.prog Cv Ox:=⟨false,by kernel_rfl⟩
theorem Ael:FnC.of Tryd.prog Lc Sl:=⟨false,by kernel_rfl⟩
theorem Z8:FnC.of Tryd.prog Ek Ow:=⟨false,by kernel_rfl⟩
theorem Ab4:FnC.of Tryd.prog H5 Qo:=⟨false,by kernel_rfl⟩
theorem Aeh:FnC.of Tryd.prog Fe Sg:=⟨false,by kernel_rfl⟩
theorem Ab2:FnC.of Tryd.prog Ch Qm:=⟨false,by kernel_rfl⟩
theorem Z5:FnC.of Tryd.prog Iv Ot:=⟨false,by kernel_rfl⟩
theorem Z2:FnC.of Tryd.prog Ir On:=⟨false,by kernel_rfl⟩
theorem Ag1:FnC.of Tryd.prog Mu Ut:=⟨false,by kernel_rfl⟩
theorem Abz:FnC.of Tryd.prog Ha Qj:=⟨false,by kernel_rfl⟩
theorem Ab1:FnC.of Tryd.prog Jn Ql:=⟨false,by kernel_rfl⟩
theorem Ag0:FnC.of Tryd.prog Iz Us:=⟨false,by kernel_rfl⟩
theorem Vh:FnC.of Tryd.prog Ds c_ref15_Critical:=⟨false,by kernel_rfl⟩
theorem Z4:FnC.of Tryd.prog Iu Oq:=⟨false,by kernel_rfl⟩
theorem Vg:FnC.of Tryd.prog Dr c_scene_Critical:=⟨false,by kernel_rfl⟩
theorem Ab5:FnC.of Tryd.prog Jp Qp:=⟨false,by kernel_rfl⟩
theorem Ag3:FnC.of Tryd.prog I1 Uv:=⟨false,by kernel_rfl⟩
theorem Z3:FnC.of Tryd.prog Is Oo:=⟨false,by kernel_rfl⟩
theorem Wz:FnC.of Tryd.prog Fu Lt:=⟨false,by kernel_rfl⟩
theorem Yb:FnC.of Tryd.prog E2 Nc:=⟨false,by kernel_rfl⟩
theorem Ab0:FnC.of Tryd.prog Hy Qk:=⟨false,by kernel_rfl⟩
theorem Ag2:FnC.of Tryd.prog I0 Uu:=⟨false,by kernel_rfl⟩
theorem Rt:FnC.of Tryd.prog Af Ii:=⟨false,by kernel_rfl⟩
theorem Z0:FnC.of Tryd.prog Iq Ol:=⟨false,by kernel_rfl⟩
theorem Wy:FnC.of Tryd.prog Ft Ls:=⟨false,by kernel_rfl⟩
theorem Zz:FnC.of Tryd.prog F4 Ok:=⟨false,by kernel_rfl⟩
theorem W0:FnC.of Tryd.prog Db Lu:=⟨false,by kernel_rfl⟩
theorem Ya:FnC.of Tryd.prog Gq M8:=⟨false,by kernel_rfl⟩
theorem X8:FnC.of Tryd.prog Gn M6:=⟨false,by kernel_rfl⟩
theorem Yd:FnC.of Tryd.prog Gs Nk:=⟨false,by kernel_rfl⟩
theorem W5:FnC.of Tryd.prog B7 Lw:=⟨false,by kernel_rfl⟩
theorem Q3:FnC.of Tryd.prog Cy G0:=⟨false,by kernel_rfl⟩
theorem Vi:FnC.of Tryd.prog E3 Kq:=⟨false,by kernel_rfl⟩
theorem Wx:FnC.of Tryd.prog D8 Lr:=⟨false,by kernel_rfl⟩
theorem Abv:FnC.of Tryd.prog Jj Qf:=⟨false,by kernel_rfl⟩
theorem Abt:FnC.of Tryd.prog D9 Qd:=⟨false,by kernel_rfl⟩
theorem Vf:FnC.of Tryd.prog Cr Kn:=⟨false,by kernel_rfl⟩
theorem Th:FnC.of Tryd.prog Bi I3:=⟨false,by kernel_rfl⟩
theorem Ub:FnC.of Tryd.prog Ea Jw:=⟨false,by kernel_rfl⟩
theorem Vk:FnC.of Tryd.prog Dt Ks:=⟨false,by kernel_rfl⟩
theorem X9:FnC.of Tryd.prog Gp M7:=⟨false,by kernel_rfl⟩
theorem Ua:FnC.of Tryd.prog Cg Jv:=⟨false,by kernel_rfl⟩
theorem Jg:FnC.of Tryd.prog Bc Cm:=⟨false,by kernel_rfl⟩
theorem T8:FnC.of Tryd.prog C7 Js:=⟨false,by kernel_rfl⟩
theorem Rw:FnC.of Tryd.prog Dj Ip:=⟨false,by kernel_rfl⟩
theorem Q1:FnC.of Tryd.prog Ba Gx:=⟨false,by kernel_rfl⟩
theorem Px:FnC.of Tryd.prog Ap Gb:=⟨false,by kernel_rfl⟩
theorem Ns:FnC.of Tryd.prog B6 Em:=⟨false,by kernel_rfl⟩
theorem Oj:FnC.of Tryd.prog Cc Fd:=⟨false,by kernel_rfl⟩
theorem Py:FnC.of Tryd.prog Bn Gc:=⟨false,by kernel_rfl⟩
theorem Z6:FnC.of Tryd.prog Iw Ou:=⟨false,by kernel_rfl⟩
theorem Abw:FnC.of Tryd.prog Jk Qg:=⟨false,by kernel_rfl⟩
theorem Wt:FnC.of Tryd.prog Da Ln:=⟨false,by kernel_rfl⟩
theorem Vj:FnC.of Tryd.prog E5 Kr:=⟨false,by kernel_rfl⟩
theorem Ag5:FnC.of Tryd.prog Kh Ux:=⟨false,by kernel_rfl⟩
theorem Abx:FnC.of Tryd.prog Jl Qh:=⟨false,by kernel_rfl⟩
theorem T9:FnC.of Tryd.prog Bo Ju:=⟨false,by kernel_rfl⟩
theorem Mb:FnC.of Tryd.prog Bv Dx:=⟨false,by kernel_rfl⟩
theorem Uc:FnC.of Tryd.prog C8 Jx:=⟨false,by kernel_rfl⟩
theorem Pw:FnC.of Tryd.prog B4 Ga:=⟨false,by kernel_rfl⟩
theorem Qz:FnC.of Tryd.prog Bw Gv:=⟨false,by kernel_rfl⟩
theorem Kf:FnC.of Tryd.prog A8 C5:=⟨false,by kernel_rfl⟩
theorem Kg:FnC.of Tryd.prog At C6:=⟨false,by kernel_rfl⟩
theorem Oi:FnC.of Tryd.prog Cb Fc:=⟨false,by kernel_rfl⟩
theorem J1:FnC.of Tryd.prog Aw Cu:=⟨false,by kernel_rfl⟩
theorem Ru:FnC.of Tryd.prog Ck Im:=⟨false,by kernel_rfl⟩
theorem K0:FnC.of Tryd.prog Az De:=⟨false,by kernel_rfl⟩
theorem Ab3:FnC.of Tryd.prog Jo Qn:=⟨false,by kernel_rfl⟩
theorem Ag4:FnC.of Tryd.prog Fo Uw:=⟨false,by kernel_rfl⟩
theorem Ww:FnC.of Tryd.prog Bd Lq:=⟨false,by kernel_rfl⟩
theorem Wv:FnC.of Tryd.prog Fs Lp:=⟨false,by kernel_rfl⟩
theorem Aek:FnC.of Tryd.prog Lb Sk:=⟨false,by kernel_rfl⟩
theorem Wu:FnC.of Tryd.prog Fq Lo:=⟨false,by kernel_rfl⟩
theorem Abu:FnC.of Tryd.prog Ji Qe:=⟨false,by kernel_rfl⟩
theorem Iy:FnC.of Tryd.prog Ao Cd:=⟨false,by kernel_rfl⟩
theorem Ky:FnC.of Tryd.prog Ah Dd:=⟨false,by kernel_rfl⟩
theorem Jz:FnC.of Tryd.prog Bf Ct:=⟨false,by kernel_rfl⟩
theorem Q2:FnC.of Tryd.prog Cx Gy:=⟨false,by kernel_rfl⟩
theorem Q0:FnC.of Tryd.prog Cw Gw:=⟨false,by kernel_rfl⟩
theorem Aem:FnC.of Tryd.prog Ld Sm:=⟨false,by kernel_rfl⟩
theorem Z1:FnC.of Tryd.prog F5 Om:=⟨false,by kernel_rfl⟩
theorem Aei:FnC.of Tryd.prog La Si:=⟨false,by kernel_rfl⟩
theorem Aej:FnC.of Tryd.prog Gr Sj:=⟨false,by kernel_rfl⟩
theorem Mc:FnC.of Tryd.prog Be Dy:=⟨false,by kernel_rfl⟩
theorem Rv:FnC.of Tryd.prog Di Io:=⟨false,by kernel_rfl⟩
theorem Yc:FnC.of Tryd.prog E4 Nj:=⟨false,by kernel_rfl⟩
theorem Z7:FnC.of Tryd.prog Ej Ov:=⟨false,by kernel_rfl⟩
theorem Aby:FnC.of Tryd.prog Jm Qi:=⟨false,by kernel_rfl⟩
theorem Ke:FnC.of Tryd.prog Ay C4:=⟨false,by kernel_rfl⟩
def tab:List (Nat × Bool × FnC):=[(H7,false,Kt),(Cv,false,Ox),(Lc,false,Sl),(Ek,false,Ow),(H5,false,Qo),(Fe,false,Sg),(Ch,false,Qm),(Iv,false,Ot),(Ir,false,On),(Mu,false,Ut),(Ha,false,Qj),(Jn,false,Ql),(Iz,false,Us),(Ds,false,c_ref15_Critical),(Iu,false,Oq),(Dr,false,c_scene_Critical),(Jp,false,Qp),(I1,false,Uv),(Is,false,Oo),(Fu,false,Lt),(E2,false,Nc),(Hy,false,Qk),(I0,false,Uu),(Af,true,Ii),(Iq,false,Ol),(Ft,false,Ls),(F4,false,Ok),(Db,false,Lu),(Gq,false,M8),(Gn,false,M6),(Gs,false,Nk),(B7,false,Lw),(Cy,true,G0),(E3,false,Kq),(D8,false,Lr),(Jj,false,Qf),(D9,false,Qd),(Cr,false,Kn),(Bi,false,I3),(Ea,false,Jw),(Dt,false,Ks),(Gp,false,M7),(Cg,false,Jv),(Bc,true,Cm),(C7,false,Js),(Dj,false,Ip),(Ba,true,Gx),(Ap,true,Gb),(B6,true,Em),(Cc,true,Fd),(Bn,false,Gc),(Iw,false,Ou),(Jk,false,Qg),(Da,false,Ln),(E5,false,Kr),(Kh,false,Ux),(Jl,false,Qh),(Bo,false,Ju),(Bv,true,Dx),(C8,false,Jx),(B4,false,Ga),(Bw,true,Gv),(A8,true,C5),(At,false,C6),(Cb,false,Fc),(Aw,true,Cu),(Ck,true,Im),(Az,false,De),(Jo,false,Qn),(Fo,false,Uw),(Bd,false,Lq),(Fs,false,Lp),(Lb,false,Sk),(Fq,false,Lo),(Ji,false,Qe),(Ao,true,Cd),(Ah,true,Dd),(Bf,true,Ct),(Cx,false,Gy),(Cw,true,Gw),(Ld,false,Sm),(F5,false,Om),(La,false,Si),(Gr,false,Sj),(Be,true,Dy),(Di,false,Io),(E4,false,Nj),(Ej,false,Ov),(Jm,false,Qi),(Ay,true,C4)]
theorem Azv:∀ p ∈ tab,FnC.of Tryd.prog p.1 p.2.2:=by
 unfold tab
 refine List.forall_mem_cons.2 ⟨Vl,?_⟩
 refine List.forall_mem_cons.2 ⟨Z9,?_⟩
 refine List.forall_mem_cons.2 ⟨Ael,?_⟩
 refine List.forall_mem_cons.2 ⟨Z8,?_⟩
 refine List.forall_mem_cons.2 ⟨Ab4,?_⟩
 refine List.forall_mem_cons.2 ⟨Aeh,?_⟩
 refine List.forall_mem_cons.2 ⟨Ab2,?_⟩
 refine List.forall_mem_cons.2 ⟨Z5,?_⟩
 refine List.forall_mem_cons.2 ⟨Z2,?_⟩
 refine List.forall_mem_cons.2 ⟨Ag1,?_⟩
 refine List.forall_mem_cons.2 ⟨Abz,?_⟩
 refine List.forall_mem_cons.2 ⟨Ab1,?_⟩
 refine List.forall_mem_cons.2 ⟨Ag0,?_⟩
 refine List.forall_mem_cons.2 ⟨Vh,?_⟩
 refine List.forall_mem_cons.2 ⟨Z4,?_⟩
 refine List.forall_mem_cons.2 ⟨Vg,?_⟩
 refine List.forall_mem_cons.2 ⟨Ab5,?_⟩
 refine List.forall_mem_cons.2 ⟨Ag3,?_⟩
 refine List.forall_mem_cons.2 ⟨Z3,?_⟩
 refine List.forall_mem_cons.2 ⟨Wz,?_⟩
 refine List.forall_mem_cons.2 ⟨Yb,?_⟩
 refine List.forall_mem_cons.2 ⟨Ab0,?_⟩
 refine List.forall_mem_cons.2 ⟨Ag2,?_⟩
 refine List.forall_mem_cons.2 ⟨Rt,?_⟩
 refine List.forall_mem_cons.2 ⟨Z0,?_⟩
 refine List.forall_mem_cons.2 ⟨Wy,?_⟩
 refine List.forall_mem_cons.2 ⟨Zz,?_⟩
 refine List.forall_mem_cons.2 ⟨W0,?_⟩
 refine List.forall_mem_cons.2 ⟨Ya,?_⟩
 refine List.forall_mem_cons.2 ⟨X8,?_⟩
 refine List.forall_mem_cons.2 ⟨Yd,?_⟩
 refine List.forall_mem_cons.2 ⟨W5,?_⟩
 refine List.forall_mem_cons.2 ⟨Q3,?_⟩
 refine List.forall_mem_cons.2 ⟨Vi,?_⟩
 refine List.forall_mem_cons.2 ⟨Wx,?_⟩
 refine List.forall_mem_cons.2 ⟨Abv,?_⟩
 refine List.forall_mem_cons.2 ⟨Abt,?_⟩
 refine List.forall_mem_cons.2 ⟨Vf,?_⟩
 refine List.forall_mem_cons.2 ⟨Th,?_⟩
 refine List.forall_mem_cons.2 ⟨Ub,?_⟩
 refine List.forall_mem_cons.2 ⟨Vk,?_⟩
 refine List.forall_mem_cons.2 ⟨X9,?_⟩
 refine List.forall_mem_cons.2 ⟨Ua,?_⟩
 refine List.forall_mem_cons.2 ⟨Jg,?_⟩
 refine List.forall_mem_cons.2 ⟨T8,?_⟩
 refine List.forall_mem_cons.2 ⟨Rw,?_⟩
 refine List.forall_mem_cons.2 ⟨Q1,?_⟩
 refine List.forall_mem_cons.2 ⟨Px,?_⟩
 refine List.forall_mem_cons.2 ⟨Ns,?_⟩
 refine List.forall_mem_cons.2 ⟨Oj,?_⟩
 refine List.forall_mem_cons.2 ⟨Py,?_⟩
 refine List.forall_mem_cons.2 ⟨Z6,?_⟩
 refine List.forall_mem_cons.2 ⟨Abw,?_⟩
 refine List.forall_mem_cons.2 ⟨Wt,?_⟩
 refine List.forall_mem_cons.2 ⟨Vj,?_⟩
 refine List.forall_mem_cons.2 ⟨Ag5,?_⟩
 refine List.forall_mem_cons.2 ⟨Abx,?_⟩
 refine List.forall_mem_cons.2 ⟨T9,?_⟩
 refine List.forall_mem_cons.2 ⟨Mb,?_⟩
 refine List.forall_mem_cons.2 ⟨Uc,?_⟩
 refine List.forall_mem_cons.2 ⟨Pw,?_⟩
 refine List.forall_mem_cons.2 ⟨Qz,?_⟩
 refine List.forall_mem_cons.2 ⟨Kf,?_⟩
 refine List.forall_mem_cons.2 ⟨Kg,?_⟩
 refine List.forall_mem_cons.2 ⟨Oi,?_⟩
 refine List.forall_mem_cons.2 ⟨J1,?_⟩
 refine List.forall_mem_cons.2 ⟨Ru,?_⟩
 refine List.forall_mem_cons.2 ⟨K0,?_⟩
 refine List.forall_mem_cons.2 ⟨Ab3,?_⟩
 refine List.forall_mem_cons.2 ⟨Ag4,?_⟩
 refine List.forall_mem_cons.2 ⟨Ww,?_⟩
 refine List.forall_mem_cons.2 ⟨Wv,?_⟩
 refine List.forall_mem_cons.2 ⟨Aek,?_⟩
 refine List.forall_mem_cons.2 ⟨Wu,?_⟩
 refine List.forall_mem_cons.2 ⟨Abu,?_⟩
 refine List.forall_mem_cons.2 ⟨Iy,?_⟩
 refine List.forall_mem_cons.2 ⟨Ky,?_⟩
 refine List.forall_mem_cons.2 ⟨Jz,?_⟩
 refine List.forall_mem_cons.2 ⟨Q2,?_⟩
 refine List.forall_mem_cons.2 ⟨Q0,?_⟩
 refine List.forall_mem_cons.2 ⟨Aem,?_⟩
 refine List.forall_mem_cons.2 ⟨Z1,?_⟩
 refine List.forall_mem_cons.2 ⟨Aei,?_⟩
 refine List.forall_mem_cons.2 ⟨Aej,?_⟩
 refine List.forall_mem_cons.2 ⟨Mc,?_⟩
 refine List.forall_mem_cons.2 ⟨Rv,?_⟩
 refine List.forall_mem_cons.2 ⟨Yc,?_⟩
 refine List.forall_mem_cons.2 ⟨Z7,?_⟩
 refine List.forall_mem_cons.2 ⟨Aby,?_⟩
 refine List.forall_mem_cons.2 ⟨Ke,?_⟩
 intro p a;cases a
def find:List (Nat × Bool × FnC) → Nat → Def
 | [],_ => .none
 | p :: r,f => if f = p.1 then (if p.2.1 = true then .textK p.2.2 else .text p.2.2) else find r f
theorem Aic:∀ {l:List (Nat × Bool × FnC)} {f:Nat} {c:FnC},find l f = .text c ∨ find l f = .textK c → ∃ k,(f,k,c) ∈ l
 | [],f,c,h => by rcases h with h | h <;> cases h
 | p :: r,f,c,h => by
  obtain ⟨g,a,j⟩:=p
  unfold find at h
  by_cases e:f = g
  ·subst e
   cases a with
   | true => simp at h;subst h;exact ⟨true,List.mem_cons_self⟩
   | false => simp at h;subst h;exact ⟨false,List.mem_cons_self⟩
  ·simp only [e,if_false] at h
   obtain ⟨k,d⟩:=Aic h
   exact ⟨k,List.mem_cons_of_mem _ d⟩
theorem Aie:∀ {l:List (Nat × Bool × FnC)} {f:Nat} {e},find l f ≠ .ext e
 | [],f,e => by intro h;cases h
 | p :: r,f,e => by
  unfold find
  split
  ·split <;> (intro h;cases h)
  ·exact Aie
theorem Alk {f:Nat} {c:FnC} (h:find tab f = .text c ∨ find tab f = .textK c):FnC.of Tryd.prog f c:=by
 obtain ⟨k,a⟩:=Aic h
 exact Azv _ a
def Aav:Env:=fun f => if f = Bp then .ext (tzE 0) else find tab f
def A1n:Go.Shelf.Ren:=⟨fun x => if x = 29 then 59 else x,fun x => if x = 22 then 74 else if x = 3 then 3 else if x = 4 then 4 else if x = 25 then 116 else if x = 54 then 138 else if x = 0 then 0 else if x = 5 then 5 else x,fun x => if x = 1 then 0 else x⟩
theorem A0m:Lays7.n29 Tryd.prog A1n:={ mixed:=by kernel_rfl,f29:=Tryd.func59.trans (by kernel_rfl),t0:=Tryd.underlying0,a0:=Tryd.isAgg0,z0:=Tryd.sizeOf0,v0:=Tryd.zeroValue0,i0:=by kernel_rfl,t3:=Tryd.underlying3,a3:=Tryd.isAgg3,z3:=Tryd.sizeOf3,v3:=Tryd.zeroValue3,i3:=by kernel_rfl,t4:=Tryd.underlying4,a4:=Tryd.isAgg4,z4:=Tryd.sizeOf4,v4:=Tryd.zeroValue4,i4:=by kernel_rfl,t5:=Tryd.underlying5,a5:=Tryd.isAgg5,z5:=Tryd.sizeOf5,v5:=Tryd.zeroValue5,i5:=by kernel_rfl,t22:=Tryd.underlying74,a22:=Tryd.isAgg74,z22:=Tryd.sizeOf74,v22:=Tryd.zeroValue74,i22:=by kernel_rfl,t25:=Tryd.underlying116,a25:=Tryd.isAgg116,z25:=Tryd.sizeOf116,v25:=Tryd.zeroValue116,i25:=by kernel_rfl,t54:=Tryd.underlying138,a54:=Tryd.isAgg138,z54:=Tryd.sizeOf138,g1:=by kernel_rfl }
theorem Aau {f:Nat} {e} (h:Aav f = .ext e):(f = Bp ∧ e = (tzE 0)):=by
 unfold Aav at h
 split at h
 ·rename_i a;cases h;exact ⟨a,rfl⟩
 exact absurd h Aie
theorem Aqi {f:Nat} {c} (h:Aav f = .text c):find tab f = .text c:=by
 unfold Aav at h
 split at h
 ·cases h
 exact h
theorem Aku {f:Nat} {c} (h:Aav f = .textK c):find tab f = .textK c:=by
 unfold Aav at h
 split at h
 ·cases h
 exact h
theorem Adg:No Aav:=by
 intro f e h a g v h2 d c
 rcases Aau h with ⟨rfl,rfl⟩
 ·obtain ⟨rfl,rfl⟩:=Arq c;exact Keeps.refl _ _ _
theorem Adh:Ao5 Aav:=by
 intro f e h
 rcases Aau h with ⟨rfl,rfl⟩
 ·exact Arr 0
theorem envA_ok:Abn Tryd.prog Aav:=by
 refine ⟨by kernel_rfl,Adg,Adh,fun f c h => Alk (.inl (Aqi h)),fun f c h => Alk (.inr (Aku h)),fun f e h => ?_⟩
 rcases Aau h with ⟨rfl,rfl⟩
 ·exact .inl ⟨⟨_,Tryd.func59,by kernel_rfl,by kernel_rfl⟩,Azq A0m⟩
def tabC:List Value:=Lib.deBruijn64tab.map fun n:Nat => .int .u8 (n:Int)
def gd:Aa:=(List.replicate 1 .dead).set 0 (.cells tabC true)
theorem Aq4:C3 Aav 300 (.func (.func Cv) #[] #[]) [] gd = some (.bool true,gd,[]):=by kernel_rfl
theorem Av4:Ao3 Tryd.prog Cv (constE gd (.bool true)):=Ak2 envA_ok (c:=Ox) rfl rfl (by kernel_rfl) rfl rfl Aq4
noncomputable def env:Env:=fun f => if f = Cv then .ext (constE gd (.bool true)) else Aav f
theorem Ail:No env:=by
 intro f e h a g v h2 d c
 unfold env at h
 split at h
 ·cases h;exact Ais _ _ _ _ _ _ _ c
 ·exact Adg f e h a g v h2 d c
theorem Au5:Ao5 env:=by
 intro f e h
 unfold env at h
 split at h
 ·cases h;exact Ait _ _
 ·exact Adh f e h
theorem A0y:Abn Tryd.prog env:=by
 refine ⟨envA_ok.1,Ail,Au5,fun f c h => ?_,fun f c h => ?_,fun f e h => ?_⟩
 ·unfold env at h
  split at h
  ·cases h
  ·exact envA_ok.text f c h
 ·unfold env at h
  split at h
  ·cases h
  ·exact envA_ok.textK f c h
 ·unfold env at h
  split at h
  ·rename_i a;cases h;subst a
   exact .inl ⟨⟨_,Tryd.func4,by kernel_rfl,by kernel_rfl⟩,Av4⟩
  ·exact envA_ok.ext f e h
theorem A2r {E:Env} {g:FuncId} {e:List Value → Aa → Option (Value × Aa × List Nat)} (hf:E g = .ext e) (args:List Value) (h:Aa):callW E (.func (.func g) #[] #[]) args h = e args h:=by
 rw [M4];simp [I9,hf,Eo]
theorem A08:∀ h,h[0]? = some (.cells tabC true) → callW env (.func (.func Cv) #[] #[]) [] h = some (.bool true,h,[]):=fun h ht => by
 rw [A2r (show env Cv = .ext (constE gd (.bool true)) from if_pos rfl)]
 refine Adj (fun g o hg hd => ?_)
 unfold gd at hg
 by_cases e:0 = g
 ·subst e
  rw [List.getElem?_set_self (by decide)] at hg
  cases hg;exact ht
 ·rw [List.getElem?_set_ne e] at hg
  exact absurd (List.eq_of_mem_replicate (List.mem_of_getElem? hg)) hd
theorem laid:As env:=⟨Ail,rfl,rfl,rfl,rfl,rfl,rfl,rfl,rfl,rfl,rfl,rfl,rfl,rfl,rfl,rfl,rfl,rfl,rfl,rfl,rfl,rfl,rfl,rfl,rfl,rfl,rfl,rfl,rfl,rfl,rfl,rfl,rfl,rfl,rfl,rfl,rfl,rfl,rfl,rfl,rfl,rfl,rfl,rfl,rfl,rfl,rfl,rfl,rfl,rfl,rfl,rfl,rfl,rfl,rfl,rfl,rfl,rfl,rfl,rfl,rfl,rfl,rfl,rfl,rfl,rfl,rfl,rfl,rfl,rfl,rfl,rfl,rfl,rfl,rfl,rfl,rfl,rfl,rfl,rfl,rfl,rfl,rfl,rfl,rfl,rfl,rfl,rfl,rfl,rfl⟩
theorem A0n:G6 env 0:=⟨rfl⟩
end Go.L.Try
