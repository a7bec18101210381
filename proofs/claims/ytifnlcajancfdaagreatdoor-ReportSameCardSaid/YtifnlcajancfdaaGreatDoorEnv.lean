/- MADE BY PROGRAM (wip/gen/emit2.py): the instructions are those of the program. -/
import Derived.Test.YtifnlcajancfdaaGreatDoorCode
import Derived.Test.YtifnlcajancfdaaGreatDoorSh
import Derived.Test.YtifnlcajancfdaaGreatDoorX
import Derived.Test.YtifnlcajancfdaaGreatDoorChecked
import Derived.Laws.Externs
import Derived.KernelRfl
set_option maxRecDepth 100000
namespace Go.L.Try
open Go Go.L Go.Proofs Go.Shelf Go.RowKit
theorem T5:FnC.of Tryz.prog Fp I9:=⟨false,by kernel_rfl⟩
theorem Afx:FnC.of Tryz.prog Ln Ta:=⟨false,by kernel_rfl⟩
theorem Abh:FnC.of Tryz.prog Cw O8:=⟨false,by kernel_rfl⟩
theorem V9:FnC.of Tryz.prog E4 K0:=⟨false,by kernel_rfl⟩
theorem Xy:FnC.of Tryz.prog I1 L9:=⟨false,by kernel_rfl⟩
theorem Ade:FnC.of Tryz.prog Jv Q2:=⟨false,by kernel_rfl⟩
theorem Ux:FnC.of Tryz.prog D9 J9:=⟨false,by kernel_rfl⟩
theorem Abf:FnC.of Tryz.prog Iy O6:=⟨false,by kernel_rfl⟩
theorem Afv:FnC.of Tryz.prog Lm S6:=⟨false,by kernel_rfl⟩
theorem Afr:FnC.of Tryz.prog Jf Sy:=⟨false,by kernel_rfl⟩
theorem Adf:FnC.of Tryz.prog Ch Q3:=⟨false,by kernel_rfl⟩
theorem Abg:FnC.of Tryz.prog Iz O7:=⟨false,by kernel_rfl⟩
theorem Zi:FnC.of Tryz.prog E3 Nu:=⟨false,by kernel_rfl⟩
theorem Afw:FnC.of Tryz.prog Gt S9:=⟨false,by kernel_rfl⟩
theorem T3:FnC.of Tryz.prog Fo I7:=⟨false,by kernel_rfl⟩
theorem Abe:FnC.of Tryz.prog Ld O5:=⟨false,by kernel_rfl⟩
theorem Alt:FnC.of Tryz.prog Ph Yd:=⟨false,by kernel_rfl⟩
theorem Aih:FnC.of Tryz.prog Nb Vf:=⟨false,by kernel_rfl⟩
theorem Xw:FnC.of Tryz.prog Bw L7:=⟨false,by kernel_rfl⟩
theorem Ars:FnC.of Tryz.prog Pg Acm:=⟨false,by kernel_rfl⟩
theorem Aij:FnC.of Tryz.prog Nc Vh:=⟨false,by kernel_rfl⟩
theorem Afu:FnC.of Tryz.prog Ll S5:=⟨false,by kernel_rfl⟩
theorem Xz:FnC.of Tryz.prog B7 Ma:=⟨false,by kernel_rfl⟩
theorem Ail:FnC.of Tryz.prog Kp Vk:=⟨false,by kernel_rfl⟩
theorem Adc:FnC.of Tryz.prog Jt Q0:=⟨false,by kernel_rfl⟩
theorem Adg:FnC.of Tryz.prog Jw Q4:=⟨false,by kernel_rfl⟩
theorem V8:FnC.of Tryz.prog Ez c_scene_Critical:=⟨false,by kernel_rfl⟩
theorem Jp:FnC.of Tryz.prog Bd Cm:=⟨false,by kernel_rfl⟩
theorem Adb:FnC.of Tryz.prog Js Qz:=⟨false,by kernel_rfl⟩
theorem Abd:FnC.of Tryz.prog F6 O4:=⟨false,by kernel_rfl⟩
theorem Abi:FnC.of Tryz.prog F7 O9:=⟨false,by kernel_rfl⟩
theorem Abc:FnC.of Tryz.prog F5 O3:=⟨false,by kernel_rfl⟩
theorem Afs:FnC.of Tryz.prog Lk S0:=⟨false,by kernel_rfl⟩
theorem Aft:FnC.of Tryz.prog Gs S4:=⟨false,by kernel_rfl⟩
theorem T4:FnC.of Tryz.prog Bk I8:=⟨false,by kernel_rfl⟩
theorem Uz:FnC.of Tryz.prog Ec Kb:=⟨false,by kernel_rfl⟩
theorem Wb:FnC.of Tryz.prog Dq Lb:=⟨false,by kernel_rfl⟩
theorem Zh:FnC.of Tryz.prog Gr Nr:=⟨false,by kernel_rfl⟩
theorem Zf:FnC.of Tryz.prog Gp Np:=⟨false,by kernel_rfl⟩
theorem Zj:FnC.of Tryz.prog Gu Nx:=⟨false,by kernel_rfl⟩
theorem X0:FnC.of Tryz.prog B8 Mc:=⟨false,by kernel_rfl⟩
theorem Rm:FnC.of Tryz.prog C3 G9:=⟨false,by kernel_rfl⟩
theorem Aii:FnC.of Tryz.prog I5 Vg:=⟨false,by kernel_rfl⟩
theorem Sf:FnC.of Tryz.prog Ag Iq:=⟨false,by kernel_rfl⟩
theorem Abb:FnC.of Tryz.prog Ix O2:=⟨false,by kernel_rfl⟩
theorem Xx:FnC.of Tryz.prog Fw L8:=⟨false,by kernel_rfl⟩
theorem Aba:FnC.of Tryz.prog Ej O1:=⟨false,by kernel_rfl⟩
theorem Mm:FnC.of Tryz.prog Bu Dw:=⟨false,by kernel_rfl⟩
theorem Xv:FnC.of Tryz.prog Bf L6:=⟨false,by kernel_rfl⟩
theorem Xu:FnC.of Tryz.prog Fv L5:=⟨false,by kernel_rfl⟩
theorem Xt:FnC.of Tryz.prog Fu Lz:=⟨false,by kernel_rfl⟩
theorem Ac9:FnC.of Tryz.prog Jr Qx:=⟨false,by kernel_rfl⟩
theorem Afz:FnC.of Tryz.prog Gw Tc:=⟨false,by kernel_rfl⟩
theorem Alu:FnC.of Tryz.prog Jg Ye:=⟨false,by kernel_rfl⟩
theorem Zl:FnC.of Tryz.prog Gx N3:=⟨false,by kernel_rfl⟩
theorem X1:FnC.of Tryz.prog Fx Md:=⟨false,by kernel_rfl⟩
theorem Add:FnC.of Tryz.prog Ju Q1:=⟨false,by kernel_rfl⟩
theorem Zg:FnC.of Tryz.prog Gq Nq:=⟨false,by kernel_rfl⟩
theorem Uw:FnC.of Tryz.prog Cg J8:=⟨false,by kernel_rfl⟩
theorem Uu:FnC.of Tryz.prog C8 J5:=⟨false,by kernel_rfl⟩
theorem Si:FnC.of Tryz.prog Dh Iu:=⟨false,by kernel_rfl⟩
theorem Rk:FnC.of Tryz.prog Bb G6:=⟨false,by kernel_rfl⟩
theorem Qk:FnC.of Tryz.prog Ao Gd:=⟨false,by kernel_rfl⟩
theorem N7:FnC.of Tryz.prog B6 El:=⟨false,by kernel_rfl⟩
theorem Oy:FnC.of Tryz.prog Cc Fd:=⟨false,by kernel_rfl⟩
theorem Ql:FnC.of Tryz.prog Bq Ge:=⟨false,by kernel_rfl⟩
theorem Ada:FnC.of Tryz.prog H9 Qy:=⟨false,by kernel_rfl⟩
theorem Ac8:FnC.of Tryz.prog D8 Qw:=⟨false,by kernel_rfl⟩
theorem V7:FnC.of Tryz.prog Cs Ky:=⟨false,by kernel_rfl⟩
theorem I3:FnC.of Tryz.prog An Cd:=⟨false,by kernel_rfl⟩
theorem Li:FnC.of Tryz.prog Ai Dc:=⟨false,by kernel_rfl⟩
theorem Alw:FnC.of Tryz.prog Pj Yg:=⟨false,by kernel_rfl⟩
theorem Afy:FnC.of Tryz.prog Lo Tb:=⟨false,by kernel_rfl⟩
theorem Zk:FnC.of Tryz.prog Gv Ny:=⟨false,by kernel_rfl⟩
theorem Uv:FnC.of Tryz.prog Br J7:=⟨false,by kernel_rfl⟩
theorem U0:FnC.of Tryz.prog C9 Kc:=⟨false,by kernel_rfl⟩
theorem Qj:FnC.of Tryz.prog B3 Gc:=⟨false,by kernel_rfl⟩
theorem Ri:FnC.of Tryz.prog Bv G4:=⟨false,by kernel_rfl⟩
theorem Kn:FnC.of Tryz.prog A8 C6:=⟨false,by kernel_rfl⟩
theorem Ko:FnC.of Tryz.prog Ar C7:=⟨false,by kernel_rfl⟩
theorem Ox:FnC.of Tryz.prog Cb Fc:=⟨false,by kernel_rfl⟩
theorem Kf:FnC.of Tryz.prog Av Cv:=⟨false,by kernel_rfl⟩
theorem Sg:FnC.of Tryz.prog Ck Ir:=⟨false,by kernel_rfl⟩
theorem Lj:FnC.of Tryz.prog Az Dd:=⟨false,by kernel_rfl⟩
theorem Xs:FnC.of Tryz.prog Db Ly:=⟨false,by kernel_rfl⟩
theorem Wa:FnC.of Tryz.prog E5 La:=⟨false,by kernel_rfl⟩
theorem Mn:FnC.of Tryz.prog Bg Dx:=⟨false,by kernel_rfl⟩
theorem Alv:FnC.of Tryz.prog Pi Yf:=⟨false,by kernel_rfl⟩
theorem Aik:FnC.of Tryz.prog Nd Vj:=⟨false,by kernel_rfl⟩
theorem Ke:FnC.of Tryz.prog Bh Cu:=⟨false,by kernel_rfl⟩
theorem Rl:FnC.of Tryz.prog C0 G7:=⟨false,by kernel_rfl⟩
theorem Rj:FnC.of Tryz.prog Cz G5:=⟨false,by kernel_rfl⟩
theorem Km:FnC.of Tryz.prog Ay C5:=⟨false,by kernel_rfl⟩
theorem Uy:FnC.of Tryz.prog Ea Ka:=⟨false,by kernel_rfl⟩
theorem Sh:FnC.of Tryz.prog Dg Is:=⟨false,by kernel_rfl⟩
def tab:List (Nat × Bool × FnC):=[(Fp,false,I9),(Ln,false,Ta),(Cw,false,O8),(E4,false,K0),(I1,false,L9),(Jv,false,Q2),(D9,false,J9),(Iy,false,O6),(Lm,false,S6),(Jf,false,Sy),(Ch,false,Q3),(Iz,false,O7),(E3,false,Nu),(Gt,false,S9),(Fo,true,I7),(Ld,false,O5),(Ph,false,Yd),(Nb,false,Vf),(Bw,false,L7),(Pg,false,Acm),(Nc,false,Vh),(Ll,false,S5),(B7,false,Ma),(Kp,false,Vk),(Jt,false,Q0),(Jw,false,Q4),(Ez,false,c_scene_Critical),(Bd,true,Cm),(Js,false,Qz),(F6,false,O4),(F7,false,O9),(F5,false,O3),(Lk,false,S0),(Gs,false,S4),(Bk,false,I8),(Ec,false,Kb),(Dq,false,Lb),(Gr,false,Nr),(Gp,false,Np),(Gu,false,Nx),(B8,false,Mc),(C3,true,G9),(I5,false,Vg),(Ag,true,Iq),(Ix,false,O2),(Fw,false,L8),(Ej,false,O1),(Bu,true,Dw),(Bf,false,L6),(Fv,false,L5),(Fu,false,Lz),(Jr,false,Qx),(Gw,false,Tc),(Jg,false,Ye),(Gx,false,N3),(Fx,false,Md),(Ju,false,Q1),(Gq,false,Nq),(Cg,false,J8),(C8,false,J5),(Dh,false,Iu),(Bb,true,G6),(Ao,true,Gd),(B6,true,El),(Cc,true,Fd),(Bq,false,Ge),(H9,false,Qy),(D8,false,Qw),(Cs,false,Ky),(An,true,Cd),(Ai,true,Dc),(Pj,false,Yg),(Lo,false,Tb),(Gv,false,Ny),(Br,false,J7),(C9,false,Kc),(B3,false,Gc),(Bv,true,G4),(A8,true,C6),(Ar,false,C7),(Cb,false,Fc),(Av,true,Cv),(Ck,true,Ir),(Az,false,Dd),(Db,false,Ly),(E5,false,La),(Bg,true,Dx),(Pi,false,Yf),(Nd,false,Vj),(Bh,true,Cu),(C0,false,G7),(Cz,true,G5),(Ay,true,C5),(Ea,false,Ka),(Dg,false,Is)]
theorem A26:∀ p∈tab,FnC.of Tryz.prog p.1 p.2.2:=by
 unfold tab
 refine List.forall_mem_cons.2 ⟨T5,?_⟩
 refine List.forall_mem_cons.2 ⟨Afx,?_⟩
 refine List.forall_mem_cons.2 ⟨Abh,?_⟩
 refine List.forall_mem_cons.2 ⟨V9,?_⟩
 refine List.forall_mem_cons.2 ⟨Xy,?_⟩
 refine List.forall_mem_cons.2 ⟨Ade,?_⟩
 refine List.forall_mem_cons.2 ⟨Ux,?_⟩
 refine List.forall_mem_cons.2 ⟨Abf,?_⟩
 refine List.forall_mem_cons.2 ⟨Afv,?_⟩
 refine List.forall_mem_cons.2 ⟨Afr,?_⟩
 refine List.forall_mem_cons.2 ⟨Adf,?_⟩
 refine List.forall_mem_cons.2 ⟨Abg,?_⟩
 refine List.forall_mem_cons.2 ⟨Zi,?_⟩
 refine List.forall_mem_cons.2 ⟨Afw,?_⟩
 refine List.forall_mem_cons.2 ⟨T3,?_⟩
 refine List.forall_mem_cons.2 ⟨Abe,?_⟩
 refine List.forall_mem_cons.2 ⟨Alt,?_⟩
 refine List.forall_mem_cons.2 ⟨Aih,?_⟩
 refine List.forall_mem_cons.2 ⟨Xw,?_⟩
 refine List.forall_mem_cons.2 ⟨Ars,?_⟩
 refine List.forall_mem_cons.2 ⟨Aij,?_⟩
 refine List.forall_mem_cons.2 ⟨Afu,?_⟩
 refine List.forall_mem_cons.2 ⟨Xz,?_⟩
 refine List.forall_mem_cons.2 ⟨Ail,?_⟩
 refine List.forall_mem_cons.2 ⟨Adc,?_⟩
 refine List.forall_mem_cons.2 ⟨Adg,?_⟩
 refine List.forall_mem_cons.2 ⟨V8,?_⟩
 refine List.forall_mem_cons.2 ⟨Jp,?_⟩
 refine List.forall_mem_cons.2 ⟨Adb,?_⟩
 refine List.forall_mem_cons.2 ⟨Abd,?_⟩
 refine List.forall_mem_cons.2 ⟨Abi,?_⟩
 refine List.forall_mem_cons.2 ⟨Abc,?_⟩
 refine List.forall_mem_cons.2 ⟨Afs,?_⟩
 refine List.forall_mem_cons.2 ⟨Aft,?_⟩
 refine List.forall_mem_cons.2 ⟨T4,?_⟩
 refine List.forall_mem_cons.2 ⟨Uz,?_⟩
 refine List.forall_mem_cons.2 ⟨Wb,?_⟩
 refine List.forall_mem_cons.2 ⟨Zh,?_⟩
 refine List.forall_mem_cons.2 ⟨Zf,?_⟩
 refine List.forall_mem_cons.2 ⟨Zj,?_⟩
 refine List.forall_mem_cons.2 ⟨X0,?_⟩
 refine List.forall_mem_cons.2 ⟨Rm,?_⟩
 refine List.forall_mem_cons.2 ⟨Aii,?_⟩
 refine List.forall_mem_cons.2 ⟨Sf,?_⟩
 refine List.forall_mem_cons.2 ⟨Abb,?_⟩
 refine List.forall_mem_cons.2 ⟨Xx,?_⟩
 refine List.forall_mem_cons.2 ⟨Aba,?_⟩
 refine List.forall_mem_cons.2 ⟨Mm,?_⟩
 refine List.forall_mem_cons.2 ⟨Xv,?_⟩
 refine List.forall_mem_cons.2 ⟨Xu,?_⟩
 refine List.forall_mem_cons.2 ⟨Xt,?_⟩
 refine List.forall_mem_cons.2 ⟨Ac9,?_⟩
 refine List.forall_mem_cons.2 ⟨Afz,?_⟩
 refine List.forall_mem_cons.2 ⟨Alu,?_⟩
 refine List.forall_mem_cons.2 ⟨Zl,?_⟩
 refine List.forall_mem_cons.2 ⟨X1,?_⟩
 refine List.forall_mem_cons.2 ⟨Add,?_⟩
 refine List.forall_mem_cons.2 ⟨Zg,?_⟩
 refine List.forall_mem_cons.2 ⟨Uw,?_⟩
 refine List.forall_mem_cons.2 ⟨Uu,?_⟩
 refine List.forall_mem_cons.2 ⟨Si,?_⟩
 refine List.forall_mem_cons.2 ⟨Rk,?_⟩
 refine List.forall_mem_cons.2 ⟨Qk,?_⟩
 refine List.forall_mem_cons.2 ⟨N7,?_⟩
 refine List.forall_mem_cons.2 ⟨Oy,?_⟩
 refine List.forall_mem_cons.2 ⟨Ql,?_⟩
 refine List.forall_mem_cons.2 ⟨Ada,?_⟩
 refine List.forall_mem_cons.2 ⟨Ac8,?_⟩
 refine List.forall_mem_cons.2 ⟨V7,?_⟩
 refine List.forall_mem_cons.2 ⟨I3,?_⟩
 refine List.forall_mem_cons.2 ⟨Li,?_⟩
 refine List.forall_mem_cons.2 ⟨Alw,?_⟩
 refine List.forall_mem_cons.2 ⟨Afy,?_⟩
 refine List.forall_mem_cons.2 ⟨Zk,?_⟩
 refine List.forall_mem_cons.2 ⟨Uv,?_⟩
 refine List.forall_mem_cons.2 ⟨U0,?_⟩
 refine List.forall_mem_cons.2 ⟨Qj,?_⟩
 refine List.forall_mem_cons.2 ⟨Ri,?_⟩
 refine List.forall_mem_cons.2 ⟨Kn,?_⟩
 refine List.forall_mem_cons.2 ⟨Ko,?_⟩
 refine List.forall_mem_cons.2 ⟨Ox,?_⟩
 refine List.forall_mem_cons.2 ⟨Kf,?_⟩
 refine List.forall_mem_cons.2 ⟨Sg,?_⟩
 refine List.forall_mem_cons.2 ⟨Lj,?_⟩
 refine List.forall_mem_cons.2 ⟨Xs,?_⟩
 refine List.forall_mem_cons.2 ⟨Wa,?_⟩
 refine List.forall_mem_cons.2 ⟨Mn,?_⟩
 refine List.forall_mem_cons.2 ⟨Alv,?_⟩
 refine List.forall_mem_cons.2 ⟨Aik,?_⟩
 refine List.forall_mem_cons.2 ⟨Ke,?_⟩
 refine List.forall_mem_cons.2 ⟨Rl,?_⟩
 refine List.forall_mem_cons.2 ⟨Rj,?_⟩
 refine List.forall_mem_cons.2 ⟨Km,?_⟩
 refine List.forall_mem_cons.2 ⟨Uy,?_⟩
 refine List.forall_mem_cons.2 ⟨Sh,?_⟩
 intro p hp;cases hp
def find:List (Nat × Bool × FnC)→Nat→Def
 | [],_ => .none
 | p :: r,f => if f=p.1 then (if p.2.1=true then .textK p.2.2 else .text p.2.2) else find r f
theorem Ajp:∀ {l:List (Nat × Bool × FnC)} {f:Nat} {c:FnC},find l f = .text c∨find l f = .textK c→∃ k,(f,k,c)∈l
 | [],f,c,h => by rcases h with h | h<;>cases h
 | p :: r,f,c,h => by
  obtain ⟨pn,pk,pc⟩:=p
  unfold find at h
  by_cases e:f=pn
  ·subst e
   cases pk with
   | true => simp at h;subst h;exact ⟨true,List.mem_cons_self⟩
   | false => simp at h;subst h;exact ⟨false,List.mem_cons_self⟩
  ·simp only [e,if_false] at h
   obtain ⟨k,hk⟩:=Ajp h
   exact ⟨k,List.mem_cons_of_mem _ hk⟩
theorem Ajr:∀ {l:List (Nat × Bool × FnC)} {f:Nat} {e},find l f ≠ .ext e
 | [],f,e => by intro h;cases h
 | p :: r,f,e => by
  unfold find
  split
  ·split<;>(intro h;cases h)
  ·exact Ajr
theorem Am1 {f:Nat} {c:FnC} (h:find tab f = .text c∨find tab f = .textK c):FnC.of Tryz.prog f c:=by
 obtain ⟨k,hk⟩:=Ajp h
 exact A26 _ hk
def Adk:Env:=fun f => if f=Eb then .ext Aki else if f=Bs then .ext (tzE 4) else if f=Cy then .ext wsE else if f=Ek then .ext Aq2 else if f=Im then .ext Asa else find tab f
theorem A1k (x y c:Nat) (w:World) (hx:x<18446744073709551616) (hy:y<18446744073709551616) (hc:c≤1):(callFunc 225 #[.int .u64 x,.int .u64 y,.int .u64 c]).run Tryz.prog w = .ok (.value (.tuple #[.int .u64 (((x+y+c) % 18446744073709551616:Nat):Int),.int .u64 (((x+y+c) / 18446744073709551616:Nat):Int)])) w:=by
 rw [run_callFunc_extern Tryz.func225 (by kernel_rfl) (by kernel_rfl) (by kernel_rfl) (e:=add64Entry) (by kernel_rfl),run_add64 x y c (by omega) (by omega) (by omega) (by omega)]
 simp only [Result.andThen]
 congr 5<;>omega
def A4x:Go.Shelf.Ren:=⟨fun x => if x=29 then 178 else x,fun x => if x=22 then 107 else if x=3 then 3 else if x=4 then 4 else if x=25 then 159 else if x=54 then 281 else if x=0 then 0 else if x=5 then 5 else x,fun x => if x=1 then 4 else x⟩
theorem A3x:Lays7.n29 Tryz.prog A4x:={ mixed:=by kernel_rfl,f29:=Tryz.func178.trans (by kernel_rfl),t0:=Tryz.underlying0,a0:=Tryz.isAgg0,z0:=Tryz.sizeOf0,v0:=Tryz.zeroValue0,i0:=by kernel_rfl,t3:=Tryz.underlying3,a3:=Tryz.isAgg3,z3:=Tryz.sizeOf3,v3:=Tryz.zeroValue3,i3:=by kernel_rfl,t4:=Tryz.underlying4,a4:=Tryz.isAgg4,z4:=Tryz.sizeOf4,v4:=Tryz.zeroValue4,i4:=by kernel_rfl,t5:=Tryz.underlying5,a5:=Tryz.isAgg5,z5:=Tryz.sizeOf5,v5:=Tryz.zeroValue5,i5:=by kernel_rfl,t22:=Tryz.underlying107,a22:=Tryz.isAgg107,z22:=Tryz.sizeOf107,v22:=Tryz.zeroValue107,i22:=by kernel_rfl,t25:=Tryz.underlying159,a25:=Tryz.isAgg159,z25:=Tryz.sizeOf159,v25:=Tryz.zeroValue159,i25:=by kernel_rfl,t54:=Tryz.underlying281,a54:=Tryz.isAgg281,z54:=Tryz.sizeOf281,g1:=by kernel_rfl }
def A1y:Go.Shelf.Ren:=⟨fun x => if x=166 then 40 else if x=240 then 75 else x,fun x => if x=70 then 79 else if x=72 then 81 else if x=37 then 76 else if x=164 then 184 else if x=75 then 83 else x,fun x => x⟩
theorem A09 {b:Nat} {p v:Value} {w:World} (hbk:w.heap[b]? = some (.cells #[p,v] 81 (0,0))) (hp:p = .pointer none∨p = .pointer (some ⟨b,0,none⟩)) :
  Calls Tryz.prog 75 #[.pointer (some ⟨b,0,none⟩)] w fun e w1 => e = .returned (.tuple #[])∧w1.heap[b]? = some (.cells #[.pointer (some ⟨b,0,none⟩),v] 81 (0,0))∧w.grownBy w1 (some b)∧w1.heap.size=w.heap.size:=by
 obtain ⟨j,hj,hjs⟩:=Option.map_eq_some_iff.1 (show (Tryz.prog.info? 81).map (·.size)=some 2 by kernel_rfl)
 have hlies:liesAt Tryz.prog Tryz.prog.depth 81 (2 / Tryz.prog.cellsOf 81) 0 81 1=true:=by kernel_rfl
 have mixed:Tryz.prog.follows .mixedOrders=true:=by kernel_rfl
 have t72:=Tryz.underlying81;have a72:=Tryz.isAgg81;have z72:=Tryz.sizeOf81;have u72:=run_underlying Tryz.underlying81
 have t70:=Tryz.underlying79;have a70:=Tryz.isAgg79;have z70:=Tryz.sizeOf79;have v70:=Tryz.zeroValue79;have u70:=run_underlying Tryz.underlying79
 have t4:=Tryz.underlying4;have a4:=Tryz.isAgg4;have z4:=Tryz.sizeOf4;have v4:=Tryz.zeroValue4;have u4:=run_underlying Tryz.underlying4
 have t164:=Tryz.underlying184;have a164:=Tryz.isAgg184;have z164:=Tryz.sizeOf184;have u164:=run_underlying Tryz.underlying184
 rcases hp with rfl | rfl
 ·have h0:w.cell? ⟨b,0,none⟩=some (.pointer none):=by simp [World.cell?,hbk]
  have hsh:w.shape? b=some (81,2):=by simp [World.shape?,hbk]
  have hfz:w.frozen? ⟨b,0,none⟩=false:=by simp [World.frozen?,hbk]
  have hs:(w.setCell ⟨b,0,none⟩ (.pointer (some ⟨b,0,none⟩))).heap.size=w.heap.size:=by simp [World.setCell]
  go_enter Tryz.func75,Tryz.ntmps75
  go_wp2
  rw [Lib.run_to_unsafe w ⟨b,0,none⟩ Tryz.underlying79 Tryz.underlying184 hj (by rw [hjs];decide) hsh (Nat.zero_lt_succ 1)]
  simp only [Result.andThen]
  rw [Oper.upon_value]
  go_wp2
  rw [run_callFunc_extern Tryz.func109 (by kernel_rfl) (by kernel_rfl) (by kernel_rfl) (e:=Extern.AbiNoEscape.same) (by kernel_rfl)]
  rw [Lib.run_noEscape]
  simp only [Result.andThen]
  rw [Oper.upon_value]
  go_wp2
  rw [Lib.run_from_unsafe w ⟨b,0,none⟩ Tryz.underlying184 Tryz.underlying79 hj hsh hlies]
  simp only [Result.andThen]
  rw [Oper.upon_value]
  go_wp2
  go_end0
  refine ⟨rfl,?_,⟨rfl,rfl,rfl,by rw [hs];exact Nat.le_refl _,fun k hk hne => Below.heap_setCell _ _ _ k fun e => hne (by rw [e])⟩,hs⟩
  rw [heap_setCell_same w b 0 _ _ _ hbk];rfl
 ·have h0:w.cell? ⟨b,0,none⟩=some (.pointer (some ⟨b,0,none⟩)):=by simp [World.cell?,hbk]
  go_enter Tryz.func75,Tryz.ntmps75
  go_wp2
  rw [Lib.run_neq_ptr_same w _ Tryz.underlying79 hj]
  go_wp2
  go_end0
  exact ⟨rfl,hbk,⟨rfl,rfl,rfl,Nat.le_refl _,fun _ _ _ => rfl⟩,rfl⟩
theorem A3w:WsL Tryz.prog A1y:={ mixed:=by kernel_rfl,f166:=Tryz.func40.trans (by kernel_rfl),e240:=fun args w => Amb Tryz.func75 (by kernel_rfl) (by kernel_rfl) args w,cc:=fun h1 h2 => A09 h1 h2,t3:=Tryz.underlying3,a3:=Tryz.isAgg3,z3:=Tryz.sizeOf3,v3:=Tryz.zeroValue3,t4:=Tryz.underlying4,a4:=Tryz.isAgg4,z4:=Tryz.sizeOf4,v4:=Tryz.zeroValue4,t9:=Tryz.underlying9,a9:=Tryz.isAgg9,z9:=Tryz.sizeOf9,v9:=Tryz.zeroValue9,t37:=Tryz.underlying76,a37:=Tryz.isAgg76,z37:=Tryz.sizeOf76,v37:=Tryz.zeroValue76,t70:=Tryz.underlying79,a70:=Tryz.isAgg79,z70:=Tryz.sizeOf79,v70:=Tryz.zeroValue79,t72:=Tryz.underlying81,a72:=Tryz.isAgg81,z72:=Tryz.sizeOf81,v72:=Tryz.zeroValue81,t164:=Tryz.underlying184,a164:=Tryz.isAgg184,z164:=Tryz.sizeOf184,v164:=Tryz.zeroValue184 }
theorem Ayx:Builder.Extra Tryz.prog A1y:={ sizeBuilder:=by kernel_rfl,liesBuilder:=by kernel_rfl,t5:=by kernel_rfl,a5:=fun w => by kernel_rfl,z5:=fun w => by kernel_rfl,v5:=fun w => by kernel_rfl,infoByte:=by kernel_rfl,cellsByte:=by kernel_rfl,sizeByte:=by kernel_rfl,neB5:=by decide }
def Aum:Go.Shelf.Ren:=⟨fun x => if x=169 then 44 else x,fun x => if x=70 then 79 else if x=9 then 9 else if x=0 then 0 else if x=72 then 81 else if x=37 then 76 else if x=127 then 140 else if x=3 then 3 else if x=5 then 5 else x,fun x =>  x⟩
theorem A0m:Lays.n169 Tryz.prog Aum:={ mixed:=by kernel_rfl,f169:=Tryz.func44.trans (by kernel_rfl),t0:=Tryz.underlying0,a0:=Tryz.isAgg0,z0:=Tryz.sizeOf0,v0:=Tryz.zeroValue0,t3:=Tryz.underlying3,a3:=Tryz.isAgg3,z3:=Tryz.sizeOf3,v3:=Tryz.zeroValue3,t9:=Tryz.underlying9,a9:=Tryz.isAgg9,z9:=Tryz.sizeOf9,v9:=Tryz.zeroValue9,t37:=Tryz.underlying76,a37:=Tryz.isAgg76,z37:=Tryz.sizeOf76,v37:=Tryz.zeroValue76,t70:=Tryz.underlying79,a70:=Tryz.isAgg79,z70:=Tryz.sizeOf79,v70:=Tryz.zeroValue79,t72:=Tryz.underlying81,a72:=Tryz.isAgg81,z72:=Tryz.sizeOf81,v72:=Tryz.zeroValue81,t127:=Tryz.underlying140,a127:=Tryz.isAgg140,z127:=Tryz.sizeOf140,v127:=Tryz.zeroValue140 }
theorem As6:Builder.Extra Tryz.prog Aum:={ sizeBuilder:=by kernel_rfl,liesBuilder:=by kernel_rfl,t5:=by kernel_rfl,a5:=fun w => by kernel_rfl,z5:=fun w => by kernel_rfl,v5:=fun w => by kernel_rfl,infoByte:=by kernel_rfl,cellsByte:=by kernel_rfl,sizeByte:=by kernel_rfl,neB5:=by decide }
def A3i:Go.Shelf.Ren:=⟨fun x => if x=173 then 43 else if x=246 then 78 else if x=283 then 112 else if x=284 then 113 else if x=285 then 114 else if x=286 then 115 else if x=129 then 154 else if x=317 then 153 else if x=318 then 155 else if x=319 then 156 else if x=320 then 157 else if x=337 then 198 else if x=338 then 178 else x,fun x => if x=2 then 2 else if x=3 then 3 else if x=9 then 9 else if x=4 then 4 else if x=171 then 188 else if x=0 then 0 else if x=53 then 107 else if x=37 then 76 else if x=5 then 5 else if x=173 then 191 else if x=212 then 228 else if x=51 then 229 else if x=20 then 20 else if x=213 then 230 else if x=46 then 159 else if x=232 then 292 else if x=233 then 281 else x,fun x => if x=17 then 0 else if x=18 then 5 else if x=19 then 4 else x⟩
theorem A0n:Lays.n173 Tryz.prog A3i:={ mixed:=by kernel_rfl,f129:=Tryz.func154.trans (by kernel_rfl),f173:=Tryz.func43.trans (by kernel_rfl),f246:=Tryz.func78.trans (by kernel_rfl),f283:=Tryz.func112.trans (by kernel_rfl),f284:=Tryz.func113.trans (by kernel_rfl),f285:=Tryz.func114.trans (by kernel_rfl),f286:=Tryz.func115.trans (by kernel_rfl),f317:=Tryz.func153.trans (by kernel_rfl),f318:=Tryz.func155.trans (by kernel_rfl),f319:=Tryz.func156.trans (by kernel_rfl),f320:=Tryz.func157.trans (by kernel_rfl),f337:=Tryz.func198.trans (by kernel_rfl),f338:=Tryz.func178.trans (by kernel_rfl),t0:=Tryz.underlying0,a0:=Tryz.isAgg0,z0:=Tryz.sizeOf0,v0:=Tryz.zeroValue0,t2:=Tryz.underlying2,a2:=Tryz.isAgg2,z2:=Tryz.sizeOf2,v2:=Tryz.zeroValue2,t3:=Tryz.underlying3,a3:=Tryz.isAgg3,z3:=Tryz.sizeOf3,v3:=Tryz.zeroValue3,t4:=Tryz.underlying4,a4:=Tryz.isAgg4,z4:=Tryz.sizeOf4,v4:=Tryz.zeroValue4,t5:=Tryz.underlying5,a5:=Tryz.isAgg5,z5:=Tryz.sizeOf5,v5:=Tryz.zeroValue5,t9:=Tryz.underlying9,a9:=Tryz.isAgg9,z9:=Tryz.sizeOf9,v9:=Tryz.zeroValue9,t20:=Tryz.underlying20,a20:=Tryz.isAgg20,z20:=Tryz.sizeOf20,v20:=Tryz.zeroValue20,t37:=Tryz.underlying76,a37:=Tryz.isAgg76,z37:=Tryz.sizeOf76,v37:=Tryz.zeroValue76,t46:=Tryz.underlying159,a46:=Tryz.isAgg159,z46:=Tryz.sizeOf159,v46:=Tryz.zeroValue159,t51:=Tryz.underlying229,a51:=Tryz.isAgg229,z51:=Tryz.sizeOf229,v51:=Tryz.zeroValue229,t53:=Tryz.underlying107,a53:=Tryz.isAgg107,z53:=Tryz.sizeOf107,v53:=Tryz.zeroValue107,t171:=Tryz.underlying188,a171:=Tryz.isAgg188,z171:=Tryz.sizeOf188,v171:=Tryz.zeroValue188,t173:=Tryz.underlying191,a173:=Tryz.isAgg191,z173:=Tryz.sizeOf191,v173:=Tryz.zeroValue191,t212:=Tryz.underlying228,a212:=Tryz.isAgg228,z212:=Tryz.sizeOf228,v212:=Tryz.zeroValue228,t213:=Tryz.underlying230,a213:=Tryz.isAgg230,z213:=Tryz.sizeOf230,t232:=Tryz.underlying292,a232:=Tryz.isAgg292,z232:=Tryz.sizeOf292,v232:=Tryz.zeroValue292,t233:=Tryz.underlying281,a233:=Tryz.isAgg281,z233:=Tryz.sizeOf281,v233:=Tryz.zeroValue281,g17:=by kernel_rfl,g18:=by kernel_rfl,g19:=by kernel_rfl }
theorem Ajx {f:Nat} {e} (h:Adk f = .ext e):(f=Eb∧e=Aki)∨(f=Bs∧e=(tzE 4))∨(f=Cy∧e=wsE)∨(f=Ek∧e=Aq2)∨(f=Im∧e=Asa):=by
 unfold Adk at h
 split at h
 ·rename_i e1;cases h;exact .inl ⟨e1,rfl⟩
 split at h
 ·rename_i e1;cases h;exact .inr (.inl ⟨e1,rfl⟩)
 split at h
 ·rename_i e1;cases h;exact .inr (.inr (.inl ⟨e1,rfl⟩))
 split at h
 ·rename_i e1;cases h;exact .inr (.inr (.inr (.inl ⟨e1,rfl⟩)))
 split at h
 ·rename_i e1;cases h;exact .inr (.inr (.inr (.inr (⟨e1,rfl⟩))))
 exact absurd h Ajr
theorem Asc {f:Nat} {c} (h:Adk f = .text c):find tab f = .text c:=by
 unfold Adk at h
 split at h
 ·cases h
 split at h
 ·cases h
 split at h
 ·cases h
 split at h
 ·cases h
 split at h
 ·cases h
 exact h
theorem Ama {f:Nat} {c} (h:Adk f = .textK c):find tab f = .textK c:=by
 unfold Adk at h
 split at h
 ·cases h
 split at h
 ·cases h
 split at h
 ·cases h
 split at h
 ·cases h
 split at h
 ·cases h
 exact h
theorem Aer:N6 Adk:=by
 intro f e h args hh v h2 ws hv
 rcases Ajx h with ⟨rfl,rfl⟩ | ⟨rfl,rfl⟩ | ⟨rfl,rfl⟩ | ⟨rfl,rfl⟩ | ⟨rfl,rfl⟩
 ·obtain ⟨rfl,rfl⟩:=As4 hv;exact Keeps.refl _ _ _
 ·obtain ⟨rfl,rfl⟩:=Atp hv;exact Keeps.refl _ _ _
 ·exact As8 hv
 ·exact Aq1 hv
 ·obtain ⟨rfl,rfl⟩:=Ar9 hv;exact Keeps.refl _ _ _
theorem envA_ok:Ac1 Tryz.prog Adk:=by
 refine ⟨by kernel_rfl,Aer,fun f c h => Am1 (.inl (Asc h)),fun f c h => Am1 (.inr (Ama h)),fun f e h => ?_⟩
 rcases Ajx h with ⟨rfl,rfl⟩ | ⟨rfl,rfl⟩ | ⟨rfl,rfl⟩ | ⟨rfl,rfl⟩ | ⟨rfl,rfl⟩
 ·exact .inr (Ayo fun x y c w hx hy hc => A1k x y c w hx hy hc)
 ·exact .inl ⟨⟨_,Tryz.func178,by kernel_rfl,by kernel_rfl⟩,A20 A3x⟩
 ·exact .inl ⟨⟨_,Tryz.func40,by kernel_rfl,by kernel_rfl⟩,A2u A3w Ayx (by kernel_rfl) (by kernel_rfl)⟩
 ·exact .inl ⟨⟨_,Tryz.func44,by kernel_rfl,by kernel_rfl⟩,Azk A0m As6 (by kernel_rfl) (by kernel_rfl)⟩
 ·exact .inl ⟨⟨_,Tryz.func43,by kernel_rfl,by kernel_rfl⟩,A0x A0n⟩
def tabC:List Value:=Lib.deBruijn64tab.map fun n:Nat => .int .u8 (n:Int)
def gd:Aa:=(List.replicate 6 .dead).set 4 (.cells tabC true)
theorem Asy:Dv Adk 300 (.func (.func Cw) #[] #[]) [] gd=some (.bool true,gd,[]):=by kernel_rfl
theorem Ayg:Ac0 Tryz.prog Cw (constE gd (.bool true)):=Aml envA_ok (c:=O8) rfl rfl (by kernel_rfl) rfl rfl Asy
noncomputable def env:Env:=fun f => if f=Cw then .ext (constE gd (.bool true)) else Adk f
theorem Ajw:N6 env:=by
 intro f e h args hh v h2 ws hv
 unfold env at h
 split at h
 ·cases h;exact Aj4 _ _ _ _ _ _ _ hv
 ·exact Aer f e h args hh v h2 ws hv
theorem A39:Ac1 Tryz.prog env:=by
 refine ⟨envA_ok.1,Ajw,fun f c h => ?_,fun f c h => ?_,fun f e h => ?_⟩
 ·unfold env at h
  split at h
  ·cases h
  ·exact envA_ok.text f c h
 ·unfold env at h
  split at h
  ·cases h
  ·exact envA_ok.textK f c h
 ·unfold env at h
  split at h
  ·rename_i e1;cases h;subst e1
   exact .inl ⟨⟨_,Tryz.func16,by kernel_rfl,by kernel_rfl⟩,Ayg⟩
  ·exact envA_ok.ext f e h
theorem A55 {E:Env} {g:FuncId} {e:List Value→Aa→Option (Value × Aa × List Nat)} (hf:E g = .ext e) (args:List Value) (h:Aa):callW E (.func (.func g) #[] #[]) args h=e args h:=by
 rw [Nn];simp [J4,hf,Fz]
theorem A4k:∀ h,h[4]? = some (.cells tabC true)→callW env (.func (.func Cw) #[] #[]) [] h=some (.bool true,h,[]):=fun h ht => by
 rw [A55 (show env Cw = .ext (constE gd (.bool true)) from if_pos rfl)]
 refine Asp (fun g o hg hd => ?_)
 unfold gd at hg
 by_cases e:4=g
 ·subst e
  rw [List.getElem?_set_self (by decide)] at hg
  cases hg;exact ht
 ·rw [List.getElem?_set_ne e] at hg
  exact absurd (List.eq_of_mem_replicate (List.mem_of_getElem? hg)) hd
theorem A46:Aw env:=⟨Ajw,rfl,rfl,rfl,rfl,rfl,rfl,rfl,rfl,rfl,rfl,rfl,rfl,rfl,rfl,rfl,rfl,rfl,rfl,rfl,rfl,rfl,rfl,rfl,rfl,rfl,rfl,rfl,rfl,rfl,rfl,rfl,rfl,rfl,rfl,rfl,rfl,rfl,rfl,rfl,rfl,rfl,rfl,rfl,rfl,rfl,rfl,rfl,rfl,rfl,rfl,rfl,rfl,rfl,rfl,rfl,rfl,rfl,rfl,rfl,rfl,rfl,rfl,rfl,rfl,rfl,rfl,rfl,rfl,rfl,rfl,rfl,rfl,rfl,rfl,rfl,rfl,rfl,rfl,rfl,rfl,rfl,rfl,rfl,rfl,rfl,rfl,rfl,rfl,rfl,rfl,rfl,rfl,rfl,rfl⟩
theorem A0q:Id env:=⟨rfl⟩
theorem A3z:Dy env 4:=⟨rfl⟩
end Go.L.Try
