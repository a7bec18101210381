/- MADE BY PROGRAM (wip/gen/emit2.py): the instructions are those of the program. -/
import Derived.Test.YtlmadipiopnfeaaDoorCode
import Derived.Test.YtlmadipiopnfeaaDoorSh
import Derived.Test.YtlmadipiopnfeaaDoorX
import Derived.Test.YtlmadipiopnfeaaDoorChecked
import Derived.Laws.Externs
import Derived.KernelRfl
set_option maxRecDepth 100000
namespace Go.L.Try
open Go Go.L Go.Proofs Go.Shelf
theorem W6 : FnC.of Tryd.prog Il Ln := by unfold FnC.of; kernel_rfl
theorem Aab : FnC.of Tryd.prog Ii Of := by unfold FnC.of; kernel_rfl
theorem Aeh : FnC.of Tryd.prog Kw Sg := by unfold FnC.of; kernel_rfl
theorem Ab4 : FnC.of Tryd.prog Ji Qf := by unfold FnC.of; kernel_rfl
theorem Aeg : FnC.of Tryd.prog I2 Sf := by unfold FnC.of; kernel_rfl
theorem Aec : FnC.of Tryd.prog D9 R7 := by unfold FnC.of; kernel_rfl
theorem Ab3 : FnC.of Tryd.prog Ck Qe := by unfold FnC.of; kernel_rfl
theorem Aaa : FnC.of Tryd.prog Ih Oe := by unfold FnC.of; kernel_rfl
theorem Ab5 : FnC.of Tryd.prog Jj Qg := by unfold FnC.of; kernel_rfl
theorem Ap0 : FnC.of Tryd.prog Oo Abd := by unfold FnC.of; kernel_rfl
theorem Agy : FnC.of Tryd.prog Mr Uw := by unfold FnC.of; kernel_rfl
theorem Agw : FnC.of Tryd.prog Mq Uu := by unfold FnC.of; kernel_rfl
theorem Wz : FnC.of Tryd.prog Co Lk := by unfold FnC.of; kernel_rfl
theorem Yj : FnC.of Tryd.prog Gk M5 := by unfold FnC.of; kernel_rfl
theorem Yh : FnC.of Tryd.prog Gi M3 := by unfold FnC.of; kernel_rfl
theorem Yk : FnC.of Tryd.prog Gm Na := by unfold FnC.of; kernel_rfl
theorem W7 : FnC.of Tryd.prog B9 Lp := by unfold FnC.of; kernel_rfl
theorem Qu : FnC.of Tryd.prog C4 Gx := by unfold FnC.of; kernel_rfl
theorem Z9 : FnC.of Tryd.prog Fz Od := by unfold FnC.of; kernel_rfl
theorem Aac : FnC.of Tryd.prog F0 Og := by unfold FnC.of; kernel_rfl
theorem Vj : FnC.of Tryd.prog E3 c_scene_Critical := by unfold FnC.of; kernel_rfl
theorem Ab0 : FnC.of Tryd.prog Jf Qb := by unfold FnC.of; kernel_rfl
theorem Yi : FnC.of Tryd.prog Gj M4 := by unfold FnC.of; kernel_rfl
theorem Ua : FnC.of Tryd.prog Cj Jt := by unfold FnC.of; kernel_rfl
theorem Jc : FnC.of Tryd.prog Bf Cq := by unfold FnC.of; kernel_rfl
theorem T8 : FnC.of Tryd.prog C9 Jq := by unfold FnC.of; kernel_rfl
theorem Rn : FnC.of Tryd.prog Dh Ic := by unfold FnC.of; kernel_rfl
theorem Qs : FnC.of Tryd.prog Be Gu := by unfold FnC.of; kernel_rfl
theorem Ps : FnC.of Tryd.prog Ap F7 := by unfold FnC.of; kernel_rfl
theorem Ni : FnC.of Tryd.prog B7 En := by unfold FnC.of; kernel_rfl
theorem N7 : FnC.of Tryd.prog Cd Fc := by unfold FnC.of; kernel_rfl
theorem Pt : FnC.of Tryd.prog Bt F8 := by unfold FnC.of; kernel_rfl
theorem Aej : FnC.of Tryd.prog Gp Si := by unfold FnC.of; kernel_rfl
theorem Aka : FnC.of Tryd.prog I3 Xl := by unfold FnC.of; kernel_rfl
theorem Ym : FnC.of Tryd.prog Gq Nf := by unfold FnC.of; kernel_rfl
theorem W8 : FnC.of Tryd.prog Fs Lq := by unfold FnC.of; kernel_rfl
theorem Agx : FnC.of Tryd.prog Iq Uv := by unfold FnC.of; kernel_rfl
theorem Rk : FnC.of Tryd.prog Ah H9 := by unfold FnC.of; kernel_rfl
theorem Z7 : FnC.of Tryd.prog Ig Ob := by unfold FnC.of; kernel_rfl
theorem W0 : FnC.of Tryd.prog Fq Ll := by unfold FnC.of; kernel_rfl
theorem Z6 : FnC.of Tryd.prog Em Oa := by unfold FnC.of; kernel_rfl
theorem W5 : FnC.of Tryd.prog B8 Lm := by unfold FnC.of; kernel_rfl
theorem Wy : FnC.of Tryd.prog Bg Lj := by unfold FnC.of; kernel_rfl
theorem Wx : FnC.of Tryd.prog Fp Li := by unfold FnC.of; kernel_rfl
theorem Aef : FnC.of Tryd.prog Kv Sc := by unfold FnC.of; kernel_rfl
theorem Ww : FnC.of Tryd.prog Fo Lh := by unfold FnC.of; kernel_rfl
theorem Aby : FnC.of Tryd.prog Je P9 := by unfold FnC.of; kernel_rfl
theorem Ab1 : FnC.of Tryd.prog Jg Qc := by unfold FnC.of; kernel_rfl
theorem T9 : FnC.of Tryd.prog Bu Js := by unfold FnC.of; kernel_rfl
theorem Lz : FnC.of Tryd.prog By Dv := by unfold FnC.of; kernel_rfl
theorem Ud : FnC.of Tryd.prog Da Jw := by unfold FnC.of; kernel_rfl
theorem Pr : FnC.of Tryd.prog B5 F6 := by unfold FnC.of; kernel_rfl
theorem Qq : FnC.of Tryd.prog Bz Gs := by unfold FnC.of; kernel_rfl
theorem J8 : FnC.of Tryd.prog Bb C7 := by unfold FnC.of; kernel_rfl
theorem J9 : FnC.of Tryd.prog Ar C8 := by unfold FnC.of; kernel_rfl
theorem N6 : FnC.of Tryd.prog Cc Fb := by unfold FnC.of; kernel_rfl
theorem Jz : FnC.of Tryd.prog Av Cy := by unfold FnC.of; kernel_rfl
theorem Rl : FnC.of Tryd.prog Cn Ia := by unfold FnC.of; kernel_rfl
theorem Kt : FnC.of Tryd.prog Az Dd := by unfold FnC.of; kernel_rfl
theorem Akc : FnC.of Tryd.prog Ot Xn := by unfold FnC.of; kernel_rfl
theorem Abz : FnC.of Tryd.prog G5 Qa := by unfold FnC.of; kernel_rfl
theorem Aei : FnC.of Tryd.prog Kx Sh := by unfold FnC.of; kernel_rfl
theorem Yl : FnC.of Tryd.prog Gn Nb := by unfold FnC.of; kernel_rfl
theorem Abx : FnC.of Tryd.prog D8 P8 := by unfold FnC.of; kernel_rfl
theorem Vi : FnC.of Tryd.prog Cv Kk := by unfold FnC.of; kernel_rfl
theorem Te : FnC.of Tryd.prog Bo Is := by unfold FnC.of; kernel_rfl
theorem Uc : FnC.of Tryd.prog Ec Jv := by unfold FnC.of; kernel_rfl
theorem Vl : FnC.of Tryd.prog Dq Km := by unfold FnC.of; kernel_rfl
theorem Z8 : FnC.of Tryd.prog Fy Oc := by unfold FnC.of; kernel_rfl
theorem Aed : FnC.of Tryd.prog Ku Sa := by unfold FnC.of; kernel_rfl
theorem Aee : FnC.of Tryd.prog Gl Sb := by unfold FnC.of; kernel_rfl
theorem Io : FnC.of Tryd.prog Ao Ce := by unfold FnC.of; kernel_rfl
theorem Ks : FnC.of Tryd.prog Ai Dc := by unfold FnC.of; kernel_rfl
theorem Jy : FnC.of Tryd.prog Bi Cx := by unfold FnC.of; kernel_rfl
theorem Qt : FnC.of Tryd.prog C3 Gv := by unfold FnC.of; kernel_rfl
theorem Qr : FnC.of Tryd.prog C0 Gt := by unfold FnC.of; kernel_rfl
theorem Wv : FnC.of Tryd.prog Db Lg := by unfold FnC.of; kernel_rfl
theorem Akb : FnC.of Tryd.prog Oq Xm := by unfold FnC.of; kernel_rfl
theorem Agz : FnC.of Tryd.prog Ms Ux := by unfold FnC.of; kernel_rfl
theorem Vk : FnC.of Tryd.prog E4 Kl := by unfold FnC.of; kernel_rfl
theorem Ag0 : FnC.of Tryd.prog Kb Uy := by unfold FnC.of; kernel_rfl
theorem Ab2 : FnC.of Tryd.prog Jh Qd := by unfold FnC.of; kernel_rfl
theorem L5 : FnC.of Tryd.prog Bh Dw := by unfold FnC.of; kernel_rfl
theorem Rm : FnC.of Tryd.prog Dg Ib := by unfold FnC.of; kernel_rfl
theorem Ub : FnC.of Tryd.prog Ea Ju := by unfold FnC.of; kernel_rfl
theorem J7 : FnC.of Tryd.prog Ax C6 := by unfold FnC.of; kernel_rfl
def tab : List (Nat × Bool × FnC) := [(Il, false, Ln), (Ii, false, Of), (Kw, false, Sg), (Ji, false, Qf), (I2, false, Sf), (D9, false, R7), (Ck, false, Qe), (Ih, false, Oe), (Jj, false, Qg), (Oo, false, Abd), (Mr, false, Uw), (Mq, false, Uu), (Co, false, Lk), (Gk, false, M5), (Gi, false, M3), (Gm, false, Na), (B9, false, Lp), (C4, true, Gx), (Fz, false, Od), (F0, false, Og), (E3, false, c_scene_Critical), (Jf, false, Qb), (Gj, false, M4), (Cj, false, Jt), (Bf, true, Cq), (C9, false, Jq), (Dh, false, Ic), (Be, true, Gu), (Ap, true, F7), (B7, true, En), (Cd, true, Fc), (Bt, false, F8), (Gp, false, Si), (I3, false, Xl), (Gq, false, Nf), (Fs, false, Lq), (Iq, false, Uv), (Ah, true, H9), (Ig, false, Ob), (Fq, false, Ll), (Em, false, Oa), (B8, false, Lm), (Bg, false, Lj), (Fp, false, Li), (Kv, false, Sc), (Fo, false, Lh), (Je, false, P9), (Jg, false, Qc), (Bu, false, Js), (By, true, Dv), (Da, false, Jw), (B5, false, F6), (Bz, true, Gs), (Bb, true, C7), (Ar, false, C8), (Cc, false, Fb), (Av, true, Cy), (Cn, true, Ia), (Az, false, Dd), (Ot, false, Xn), (G5, false, Qa), (Kx, false, Sh), (Gn, false, Nb), (D8, false, P8), (Cv, false, Kk), (Bo, false, Is), (Ec, false, Jv), (Dq, false, Km), (Fy, false, Oc), (Ku, false, Sa), (Gl, false, Sb), (Ao, true, Ce), (Ai, true, Dc), (Bi, true, Cx), (C3, false, Gv), (C0, true, Gt), (Db, false, Lg), (Oq, false, Xm), (Ms, false, Ux), (E4, false, Kl), (Kb, false, Uy), (Jh, false, Qd), (Bh, true, Dw), (Dg, false, Ib), (Ea, false, Ju), (Ax, true, C6)]
theorem A0a : ∀ p ∈ tab, FnC.of Tryd.prog p.1 p.2.2 := by
  unfold tab
  refine List.forall_mem_cons.2 ⟨W6, ?_⟩
  refine List.forall_mem_cons.2 ⟨Aab, ?_⟩
  refine List.forall_mem_cons.2 ⟨Aeh, ?_⟩
  refine List.forall_mem_cons.2 ⟨Ab4, ?_⟩
  refine List.forall_mem_cons.2 ⟨Aeg, ?_⟩
  refine List.forall_mem_cons.2 ⟨Aec, ?_⟩
  refine List.forall_mem_cons.2 ⟨Ab3, ?_⟩
  refine List.forall_mem_cons.2 ⟨Aaa, ?_⟩
  refine List.forall_mem_cons.2 ⟨Ab5, ?_⟩
  refine List.forall_mem_cons.2 ⟨Ap0, ?_⟩
  refine List.forall_mem_cons.2 ⟨Agy, ?_⟩
  refine List.forall_mem_cons.2 ⟨Agw, ?_⟩
  refine List.forall_mem_cons.2 ⟨Wz, ?_⟩
  refine List.forall_mem_cons.2 ⟨Yj, ?_⟩
  refine List.forall_mem_cons.2 ⟨Yh, ?_⟩
  refine List.forall_mem_cons.2 ⟨Yk, ?_⟩
  refine List.forall_mem_cons.2 ⟨W7, ?_⟩
  refine List.forall_mem_cons.2 ⟨Qu, ?_⟩
  refine List.forall_mem_cons.2 ⟨Z9, ?_⟩
  refine List.forall_mem_cons.2 ⟨Aac, ?_⟩
  refine List.forall_mem_cons.2 ⟨Vj, ?_⟩
  refine List.forall_mem_cons.2 ⟨Ab0, ?_⟩
  refine List.forall_mem_cons.2 ⟨Yi, ?_⟩
  refine List.forall_mem_cons.2 ⟨Ua, ?_⟩
  refine List.forall_mem_cons.2 ⟨Jc, ?_⟩
  refine List.forall_mem_cons.2 ⟨T8, ?_⟩
  refine List.forall_mem_cons.2 ⟨Rn, ?_⟩
  refine List.forall_mem_cons.2 ⟨Qs, ?_⟩
  refine List.forall_mem_cons.2 ⟨Ps, ?_⟩
  refine List.forall_mem_cons.2 ⟨Ni, ?_⟩
  refine List.forall_mem_cons.2 ⟨N7, ?_⟩
  refine List.forall_mem_cons.2 ⟨Pt, ?_⟩
  refine List.forall_mem_cons.2 ⟨Aej, ?_⟩
  refine List.forall_mem_cons.2 ⟨Aka, ?_⟩
  refine List.forall_mem_cons.2 ⟨Ym, ?_⟩
  refine List.forall_mem_cons.2 ⟨W8, ?_⟩
  refine List.forall_mem_cons.2 ⟨Agx, ?_⟩
  refine List.forall_mem_cons.2 ⟨Rk, ?_⟩
  refine List.forall_mem_cons.2 ⟨Z7, ?_⟩
  refine List.forall_mem_cons.2 ⟨W0, ?_⟩
  refine List.forall_mem_cons.2 ⟨Z6, ?_⟩
  refine List.forall_mem_cons.2 ⟨W5, ?_⟩
  refine List.forall_mem_cons.2 ⟨Wy, ?_⟩
  refine List.forall_mem_cons.2 ⟨Wx, ?_⟩
  refine List.forall_mem_cons.2 ⟨Aef, ?_⟩
  refine List.forall_mem_cons.2 ⟨Ww, ?_⟩
  refine List.forall_mem_cons.2 ⟨Aby, ?_⟩
  refine List.forall_mem_cons.2 ⟨Ab1, ?_⟩
  refine List.forall_mem_cons.2 ⟨T9, ?_⟩
  refine List.forall_mem_cons.2 ⟨Lz, ?_⟩
  refine List.forall_mem_cons.2 ⟨Ud, ?_⟩
  refine List.forall_mem_cons.2 ⟨Pr, ?_⟩
  refine List.forall_mem_cons.2 ⟨Qq, ?_⟩
  refine List.forall_mem_cons.2 ⟨J8, ?_⟩
  refine List.forall_mem_cons.2 ⟨J9, ?_⟩
  refine List.forall_mem_cons.2 ⟨N6, ?_⟩
  refine List.forall_mem_cons.2 ⟨Jz, ?_⟩
  refine List.forall_mem_cons.2 ⟨Rl, ?_⟩
  refine List.forall_mem_cons.2 ⟨Kt, ?_⟩
  refine List.forall_mem_cons.2 ⟨Akc, ?_⟩
  refine List.forall_mem_cons.2 ⟨Abz, ?_⟩
  refine List.forall_mem_cons.2 ⟨Aei, ?_⟩
  refine List.forall_mem_cons.2 ⟨Yl, ?_⟩
  refine List.forall_mem_cons.2 ⟨Abx, ?_⟩
  refine List.forall_mem_cons.2 ⟨Vi, ?_⟩
  refine List.forall_mem_cons.2 ⟨Te, ?_⟩
  refine List.forall_mem_cons.2 ⟨Uc, ?_⟩
  refine List.forall_mem_cons.2 ⟨Vl, ?_⟩
  refine List.forall_mem_cons.2 ⟨Z8, ?_⟩
  refine List.forall_mem_cons.2 ⟨Aed, ?_⟩
  refine List.forall_mem_cons.2 ⟨Aee, ?_⟩
  refine List.forall_mem_cons.2 ⟨Io, ?_⟩
  refine List.forall_mem_cons.2 ⟨Ks, ?_⟩
  refine List.forall_mem_cons.2 ⟨Jy, ?_⟩
  refine List.forall_mem_cons.2 ⟨Qt, ?_⟩
  refine List.forall_mem_cons.2 ⟨Qr, ?_⟩
  refine List.forall_mem_cons.2 ⟨Wv, ?_⟩
  refine List.forall_mem_cons.2 ⟨Akb, ?_⟩
  refine List.forall_mem_cons.2 ⟨Agz, ?_⟩
  refine List.forall_mem_cons.2 ⟨Vk, ?_⟩
  refine List.forall_mem_cons.2 ⟨Ag0, ?_⟩
  refine List.forall_mem_cons.2 ⟨Ab2, ?_⟩
  refine List.forall_mem_cons.2 ⟨L5, ?_⟩
  refine List.forall_mem_cons.2 ⟨Rm, ?_⟩
  refine List.forall_mem_cons.2 ⟨Ub, ?_⟩
  refine List.forall_mem_cons.2 ⟨J7, ?_⟩
  intro p hp; cases hp
def find : List (Nat × Bool × FnC) → Nat → Def
  | [], _ => .none
  | p :: r, f => if f = p.1 then (if p.2.1 = true then .textK p.2.2 else .text p.2.2) else find r f
theorem Ah4 : ∀ {l : List (Nat × Bool × FnC)} {f : Nat} {c : FnC}, find l f = .text c ∨ find l f = .textK c → ∃ k, (f, k, c) ∈ l
  | [], f, c, h => by rcases h with h | h <;> cases h
  | p :: r, f, c, h => by
    obtain ⟨pn, pk, pc⟩ := p
    unfold find at h
    by_cases e : f = pn
    · subst e
      cases pk with
      | true => simp at h; subst h; exact ⟨true, List.mem_cons_self⟩
      | false => simp at h; subst h; exact ⟨false, List.mem_cons_self⟩
    · simp only [e, if_false] at h
      obtain ⟨k, hk⟩ := Ah4 h
      exact ⟨k, List.mem_cons_of_mem _ hk⟩
theorem Ah6 : ∀ {l : List (Nat × Bool × FnC)} {f : Nat} {e}, find l f ≠ .ext e
  | [], f, e => by intro h; cases h
  | p :: r, f, e => by
    unfold find
    split
    · split <;> (intro h; cases h)
    · exact Ah6
theorem Alb {f : Nat} {c : FnC} (h : find tab f = .text c ∨ find tab f = .textK c) : FnC.of Tryd.prog f c := by
  obtain ⟨k, hk⟩ := Ah4 h
  exact A0a _ hk
def env : Env := fun f => if f = Eb then .ext Aiy else if f = Bv then .ext (tzE 0) else find tab f
theorem Ayv (x y c : Nat) (w : World) (hx : x < 18446744073709551616) (hy : y < 18446744073709551616) (hc : c ≤ 1) : (callFunc 108 #[.int .u64 x, .int .u64 y, .int .u64 c]).run Tryd.prog w = .ok (.value (.tuple #[.int .u64 (((x + y + c) % 18446744073709551616 : Nat) : Int), .int .u64 (((x + y + c) / 18446744073709551616 : Nat) : Int)])) w := by
  rw [run_callFunc_extern Tryd.func108 (by kernel_rfl) (by kernel_rfl) (by kernel_rfl) (e := add64Entry) (by kernel_rfl), run_add64 x y c (by omega) (by omega) (by omega) (by omega)]
  simp only [Result.andThen]
  congr 5 <;> omega
def A15 : Go.Shelf.Ren := ⟨fun x => if x = 29 then 114 else x, fun x => if x = 22 then 70 else if x = 3 then 3 else if x = 4 then 4 else if x = 25 then 172 else if x = 54 then 175 else if x = 0 then 0 else if x = 5 then 5 else x, fun x => if x = 1 then 0 else x⟩
theorem A02 : Lays7.n29 Tryd.prog A15 := { mixed := by kernel_rfl, f29 := Tryd.func114.trans (by kernel_rfl), t0 := Tryd.underlying0, a0 := Tryd.isAgg0, z0 := Tryd.sizeOf0, v0 := Tryd.zeroValue0, i0 := by kernel_rfl, t3 := Tryd.underlying3, a3 := Tryd.isAgg3, z3 := Tryd.sizeOf3, v3 := Tryd.zeroValue3, i3 := by kernel_rfl, t4 := Tryd.underlying4, a4 := Tryd.isAgg4, z4 := Tryd.sizeOf4, v4 := Tryd.zeroValue4, i4 := by kernel_rfl, t5 := Tryd.underlying5, a5 := Tryd.isAgg5, z5 := Tryd.sizeOf5, v5 := Tryd.zeroValue5, i5 := by kernel_rfl, t22 := Tryd.underlying70, a22 := Tryd.isAgg70, z22 := Tryd.sizeOf70, v22 := Tryd.zeroValue70, i22 := by kernel_rfl, t25 := Tryd.underlying172, a25 := Tryd.isAgg172, z25 := Tryd.sizeOf172, v25 := Tryd.zeroValue172, i25 := by kernel_rfl, t54 := Tryd.underlying175, a54 := Tryd.isAgg175, z54 := Tryd.sizeOf175, g1 := by kernel_rfl }
theorem Any {f : Nat} {e} (h : env f = .ext e) : (f = Eb ∧ e = Aiy) ∨ (f = Bv ∧ e = (tzE 0)) := by
  unfold env at h
  split at h
  · rename_i e1; cases h; exact .inl ⟨e1, rfl⟩
  split at h
  · rename_i e1; cases h; exact .inr (⟨e1, rfl⟩)
  exact absurd h Ah6
theorem Au6 {f : Nat} {c} (h : env f = .text c) : find tab f = .text c := by
  unfold env at h
  split at h
  · cases h
  split at h
  · cases h
  exact h
theorem Aqh {f : Nat} {c} (h : env f = .textK c) : find tab f = .textK c := by
  unfold env at h
  split at h
  · cases h
  split at h
  · cases h
  exact h
theorem Aib : N2 env := by
  intro f e h args hh v h2 ws hv
  rcases Any h with ⟨rfl, rfl⟩ | ⟨rfl, rfl⟩
  · obtain ⟨rfl, rfl⟩ := Aq6 hv; exact Keeps.refl _ _ _
  · obtain ⟨rfl, rfl⟩ := Arq hv; exact Keeps.refl _ _ _
theorem A1e : Ai7 Tryd.prog env := by
  refine ⟨by kernel_rfl, Aib, fun f c h => Alb (.inl (Au6 h)), fun f c h => Alb (.inr (Aqh h)), fun f e h => ?_⟩
  rcases Any h with ⟨rfl, rfl⟩ | ⟨rfl, rfl⟩
  · exact .inr (Awd fun x y c w hx hy hc => Ayv x y c w hx hy hc)
  · exact .inl ⟨⟨_, Tryd.func114, by kernel_rfl, by kernel_rfl⟩, Az5 A02⟩
theorem A2l : Ay env := ⟨Aib, rfl, rfl, rfl, rfl, rfl, rfl, rfl, rfl, rfl, rfl, rfl, rfl, rfl, rfl, rfl, rfl, rfl, rfl, rfl, rfl, rfl, rfl, rfl, rfl, rfl, rfl, rfl, rfl, rfl, rfl, rfl, rfl, rfl, rfl, rfl, rfl, rfl, rfl, rfl, rfl, rfl, rfl, rfl, rfl, rfl, rfl, rfl, rfl, rfl, rfl, rfl, rfl, rfl, rfl, rfl, rfl, rfl, rfl, rfl, rfl, rfl, rfl, rfl, rfl, rfl, rfl, rfl, rfl, rfl, rfl, rfl, rfl, rfl, rfl, rfl, rfl, rfl, rfl, rfl, rfl, rfl, rfl, rfl, rfl, rfl, rfl⟩
theorem Ax4 : Kp env := ⟨rfl⟩
theorem A05 : Fd env 0 := ⟨rfl⟩
end Go.L.Try
