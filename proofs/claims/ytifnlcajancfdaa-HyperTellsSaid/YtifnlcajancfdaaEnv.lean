/- MADE BY PROGRAM (wip/gen/emit2.py): the instructions are those of the program. -/
import Derived.Test.YtifnlcajancfdaaCode
import Derived.Test.YtifnlcajancfdaaSh
import Derived.Test.YtifnlcajancfdaaProg
import Derived.KernelRfl
set_option maxRecDepth 100000
set_option linter.unusedVariables false
namespace Go.L.Try
open Go Go.L Go.Proofs
theorem Sy : FnC.of Try.prog Fd c_law17_HyperTells := ⟨true, by kernel_rfl⟩
theorem Zr : FnC.of Try.prog Cd Ny := ⟨false, by kernel_rfl⟩
theorem Zq : FnC.of Try.prog Cs Nx := ⟨false, by kernel_rfl⟩
theorem Adz : FnC.of Try.prog Ik Rx := ⟨false, by kernel_rfl⟩
theorem Ad4 : FnC.of Try.prog Im R7 := ⟨false, by kernel_rfl⟩
theorem Ad5 : FnC.of Try.prog Io Sa := ⟨false, by kernel_rfl⟩
theorem Abr : FnC.of Try.prog Gu Px := ⟨false, by kernel_rfl⟩
theorem Abq : FnC.of Try.prog Fe Pw := ⟨false, by kernel_rfl⟩
theorem Abj : FnC.of Try.prog I6 Pp := ⟨false, by kernel_rfl⟩
theorem Abm : FnC.of Try.prog I7 Ps := ⟨false, by kernel_rfl⟩
theorem Tt : FnC.of Try.prog D5 Jh := ⟨false, by kernel_rfl⟩
theorem Zj : FnC.of Try.prog Hy Nq := ⟨false, by kernel_rfl⟩
theorem Abk : FnC.of Try.prog Gs Pq := ⟨false, by kernel_rfl⟩
theorem Abn : FnC.of Try.prog Cf Pt := ⟨false, by kernel_rfl⟩
theorem Zm : FnC.of Try.prog H5 Nt := ⟨false, by kernel_rfl⟩
theorem Abp : FnC.of Try.prog I9 Pv := ⟨false, by kernel_rfl⟩
theorem Agh : FnC.of Try.prog L8 T8 := ⟨false, by kernel_rfl⟩
theorem Zh : FnC.of Try.prog Fp No := ⟨false, by kernel_rfl⟩
theorem Abs : FnC.of Try.prog Gv Py := ⟨false, by kernel_rfl⟩
theorem Abd : FnC.of Try.prog I0 Pi := ⟨false, by kernel_rfl⟩
theorem V7 : FnC.of Try.prog D3 La := ⟨false, by kernel_rfl⟩
theorem Zp : FnC.of Try.prog H9 Nw := ⟨false, by kernel_rfl⟩
theorem Zs : FnC.of Try.prog Ia Nz := ⟨false, by kernel_rfl⟩
theorem Ur : FnC.of Try.prog Eu Kc := ⟨false, by kernel_rfl⟩
theorem Xr : FnC.of Try.prog Gb Mi := ⟨false, by kernel_rfl⟩
theorem Zl : FnC.of Try.prog Ft Ns := ⟨false, by kernel_rfl⟩
theorem Zk : FnC.of Try.prog Fs Nr := ⟨false, by kernel_rfl⟩
theorem Uo : FnC.of Try.prog Er J8 := ⟨false, by kernel_rfl⟩
theorem Xq : FnC.of Try.prog F9 Mh := ⟨false, by kernel_rfl⟩
theorem Xo : FnC.of Try.prog F7 Mf := ⟨false, by kernel_rfl⟩
theorem Xu : FnC.of Try.prog Gc Mr := ⟨false, by kernel_rfl⟩
theorem V8 : FnC.of Try.prog B6 Le := ⟨false, by kernel_rfl⟩
theorem Ql : FnC.of Try.prog Cw Gm := ⟨false, by kernel_rfl⟩
theorem Abe : FnC.of Try.prog I1 Pj := ⟨false, by kernel_rfl⟩
theorem Abg : FnC.of Try.prog I3 Pm := ⟨false, by kernel_rfl⟩
theorem Ajn : FnC.of Try.prog N9 Wm := ⟨false, by kernel_rfl⟩
theorem Us : FnC.of Try.prog Dk Kd := ⟨false, by kernel_rfl⟩
theorem Zn : FnC.of Try.prog H7 Nu := ⟨false, by kernel_rfl⟩
theorem Ad2 : FnC.of Try.prog Ko R0 := ⟨false, by kernel_rfl⟩
theorem Xs : FnC.of Try.prog Et Mj := ⟨false, by kernel_rfl⟩
theorem Abl : FnC.of Try.prog Gt Pr := ⟨false, by kernel_rfl⟩
theorem Uq : FnC.of Try.prog Es J9 := ⟨false, by kernel_rfl⟩
theorem Xp : FnC.of Try.prog F8 Mg := ⟨false, by kernel_rfl⟩
theorem Ts : FnC.of Try.prog Ce Jg := ⟨false, by kernel_rfl⟩
theorem Iy : FnC.of Try.prog A9 Cl := ⟨false, by kernel_rfl⟩
theorem Tp : FnC.of Try.prog C4 Jd := ⟨false, by kernel_rfl⟩
theorem Rb : FnC.of Try.prog Db G9 := ⟨false, by kernel_rfl⟩
theorem Qj : FnC.of Try.prog A8 Gj := ⟨false, by kernel_rfl⟩
theorem O8 : FnC.of Try.prog Al Fx := ⟨false, by kernel_rfl⟩
theorem Mu : FnC.of Try.prog B5 Eg := ⟨false, by kernel_rfl⟩
theorem Nl : FnC.of Try.prog B8 E4 := ⟨false, by kernel_rfl⟩
theorem O9 : FnC.of Try.prog Bi Fy := ⟨false, by kernel_rfl⟩
theorem V3 : FnC.of Try.prog D0 Kw := ⟨false, by kernel_rfl⟩
theorem V6 : FnC.of Try.prog Bc K0 := ⟨false, by kernel_rfl⟩
theorem V5 : FnC.of Try.prog Fk Ky := ⟨false, by kernel_rfl⟩
theorem Ady : FnC.of Try.prog Kl Rw := ⟨false, by kernel_rfl⟩
theorem V4 : FnC.of Try.prog Fj Kx := ⟨false, by kernel_rfl⟩
theorem Abf : FnC.of Try.prog I2 Pk := ⟨false, by kernel_rfl⟩
theorem Ajm : FnC.of Try.prog N8 Wl := ⟨false, by kernel_rfl⟩
theorem Ajo : FnC.of Try.prog Oa Wn := ⟨false, by kernel_rfl⟩
theorem Abo : FnC.of Try.prog I8 Pu := ⟨false, by kernel_rfl⟩
theorem Agg : FnC.of Try.prog Fc T7 := ⟨false, by kernel_rfl⟩
theorem Ad1 : FnC.of Try.prog Kn Rz := ⟨false, by kernel_rfl⟩
theorem Ad3 : FnC.of Try.prog Il R5 := ⟨false, by kernel_rfl⟩
theorem Abh : FnC.of Try.prog I4 Pn := ⟨false, by kernel_rfl⟩
theorem Tq : FnC.of Try.prog Bj Jf := ⟨false, by kernel_rfl⟩
theorem Ln : FnC.of Try.prog Bq Ds := ⟨false, by kernel_rfl⟩
theorem Tv : FnC.of Try.prog C5 Jj := ⟨false, by kernel_rfl⟩
theorem O7 : FnC.of Try.prog B3 Fw := ⟨false, by kernel_rfl⟩
theorem Qh : FnC.of Try.prog Br Gg := ⟨false, by kernel_rfl⟩
theorem J0 : FnC.of Try.prog Ay Cz := ⟨false, by kernel_rfl⟩
theorem J2 : FnC.of Try.prog An C0 := ⟨false, by kernel_rfl⟩
theorem Nk : FnC.of Try.prog B7 E2 := ⟨false, by kernel_rfl⟩
theorem Jn : FnC.of Try.prog As Cr := ⟨false, by kernel_rfl⟩
theorem Q9 : FnC.of Try.prog Ch G7 := ⟨false, by kernel_rfl⟩
theorem Kj : FnC.of Try.prog Av C8 := ⟨false, by kernel_rfl⟩
theorem Zi : FnC.of Try.prog Fq Np := ⟨false, by kernel_rfl⟩
theorem Adw : FnC.of Try.prog Kk Ru := ⟨false, by kernel_rfl⟩
theorem Adx : FnC.of Try.prog Ga Rv := ⟨false, by kernel_rfl⟩
theorem Tu : FnC.of Try.prog D6 Ji := ⟨false, by kernel_rfl⟩
theorem Ad0 : FnC.of Try.prog Km Ry := ⟨false, by kernel_rfl⟩
theorem Ig : FnC.of Try.prog Ak Cb := ⟨false, by kernel_rfl⟩
theorem Ki : FnC.of Try.prog Ag C7 := ⟨false, by kernel_rfl⟩
theorem Jm : FnC.of Try.prog Be Cq := ⟨false, by kernel_rfl⟩
theorem Qk : FnC.of Try.prog Cv Gk := ⟨false, by kernel_rfl⟩
theorem Qi : FnC.of Try.prog Cu Gi := ⟨false, by kernel_rfl⟩
theorem Abi : FnC.of Try.prog I5 Po := ⟨false, by kernel_rfl⟩
theorem Xt : FnC.of Try.prog Ev Mq := ⟨false, by kernel_rfl⟩
theorem Zo : FnC.of Try.prog Ef Nv := ⟨false, by kernel_rfl⟩
theorem Lo : FnC.of Try.prog Bd Dt := ⟨false, by kernel_rfl⟩
theorem Ra : FnC.of Try.prog Da G8 := ⟨false, by kernel_rfl⟩
theorem Jz : FnC.of Try.prog Au Cy := ⟨false, by kernel_rfl⟩
def tab : List (Nat × Bool × FnC) := [(Fd, false, c_law17_HyperTells), (Cd, false, Ny), (Cs, false, Nx), (Ik, false, Rx), (Im, false, R7), (Io, false, Sa), (Gu, false, Px), (Fe, false, Pw), (I6, false, Pp), (I7, false, Ps), (D5, false, Jh), (Hy, false, Nq), (Gs, false, Pq), (Cf, false, Pt), (H5, false, Nt), (I9, false, Pv), (L8, false, T8), (Fp, false, No), (Gv, false, Py), (I0, false, Pi), (D3, false, La), (H9, false, Nw), (Ia, false, Nz), (Eu, false, Kc), (Gb, false, Mi), (Ft, false, Ns), (Fs, false, Nr), (Er, false, J8), (F9, false, Mh), (F7, false, Mf), (Gc, false, Mr), (B6, false, Le), (Cw, true, Gm), (I1, false, Pj), (I3, false, Pm), (N9, false, Wm), (Dk, false, Kd), (H7, false, Nu), (Ko, false, R0), (Et, false, Mj), (Gt, false, Pr), (Es, false, J9), (F8, false, Mg), (Ce, false, Jg), (A9, true, Cl), (C4, false, Jd), (Db, false, G9), (A8, true, Gj), (Al, true, Fx), (B5, true, Eg), (B8, true, E4), (Bi, false, Fy), (D0, false, Kw), (Bc, false, K0), (Fk, false, Ky), (Kl, false, Rw), (Fj, false, Kx), (I2, false, Pk), (N8, false, Wl), (Oa, false, Wn), (I8, false, Pu), (Fc, false, T7), (Kn, false, Rz), (Il, false, R5), (I4, false, Pn), (Bj, false, Jf), (Bq, true, Ds), (C5, false, Jj), (B3, false, Fw), (Br, true, Gg), (Ay, true, Cz), (An, false, C0), (B7, false, E2), (As, true, Cr), (Ch, true, G7), (Av, false, C8), (Fq, false, Np), (Kk, false, Ru), (Ga, false, Rv), (D6, false, Ji), (Km, false, Ry), (Ak, true, Cb), (Ag, true, C7), (Be, true, Cq), (Cv, false, Gk), (Cu, true, Gi), (I5, false, Po), (Ev, false, Mq), (Ef, false, Nv), (Bd, true, Dt), (Da, false, G8), (Au, true, Cy)]
theorem Ayu : ∀ p ∈ tab, FnC.of Try.prog p.1 p.2.2 := by
 unfold tab
 refine List.forall_mem_cons.2 ⟨Sy, ?_⟩
 refine List.forall_mem_cons.2 ⟨Zr, ?_⟩
 refine List.forall_mem_cons.2 ⟨Zq, ?_⟩
 refine List.forall_mem_cons.2 ⟨Adz, ?_⟩
 refine List.forall_mem_cons.2 ⟨Ad4, ?_⟩
 refine List.forall_mem_cons.2 ⟨Ad5, ?_⟩
 refine List.forall_mem_cons.2 ⟨Abr, ?_⟩
 refine List.forall_mem_cons.2 ⟨Abq, ?_⟩
 refine List.forall_mem_cons.2 ⟨Abj, ?_⟩
 refine List.forall_mem_cons.2 ⟨Abm, ?_⟩
 refine List.forall_mem_cons.2 ⟨Tt, ?_⟩
 refine List.forall_mem_cons.2 ⟨Zj, ?_⟩
 refine List.forall_mem_cons.2 ⟨Abk, ?_⟩
 refine List.forall_mem_cons.2 ⟨Abn, ?_⟩
 refine List.forall_mem_cons.2 ⟨Zm, ?_⟩
 refine List.forall_mem_cons.2 ⟨Abp, ?_⟩
 refine List.forall_mem_cons.2 ⟨Agh, ?_⟩
 refine List.forall_mem_cons.2 ⟨Zh, ?_⟩
 refine List.forall_mem_cons.2 ⟨Abs, ?_⟩
 refine List.forall_mem_cons.2 ⟨Abd, ?_⟩
 refine List.forall_mem_cons.2 ⟨V7, ?_⟩
 refine List.forall_mem_cons.2 ⟨Zp, ?_⟩
 refine List.forall_mem_cons.2 ⟨Zs, ?_⟩
 refine List.forall_mem_cons.2 ⟨Ur, ?_⟩
 refine List.forall_mem_cons.2 ⟨Xr, ?_⟩
 refine List.forall_mem_cons.2 ⟨Zl, ?_⟩
 refine List.forall_mem_cons.2 ⟨Zk, ?_⟩
 refine List.forall_mem_cons.2 ⟨Uo, ?_⟩
 refine List.forall_mem_cons.2 ⟨Xq, ?_⟩
 refine List.forall_mem_cons.2 ⟨Xo, ?_⟩
 refine List.forall_mem_cons.2 ⟨Xu, ?_⟩
 refine List.forall_mem_cons.2 ⟨V8, ?_⟩
 refine List.forall_mem_cons.2 ⟨Ql, ?_⟩
 refine List.forall_mem_cons.2 ⟨Abe, ?_⟩
 refine List.forall_mem_cons.2 ⟨Abg, ?_⟩
 refine List.forall_mem_cons.2 ⟨Ajn, ?_⟩
 refine List.forall_mem_cons.2 ⟨Us, ?_⟩
 refine List.forall_mem_cons.2 ⟨Zn, ?_⟩
 refine List.forall_mem_cons.2 ⟨Ad2, ?_⟩
 refine List.forall_mem_cons.2 ⟨Xs, ?_⟩
 refine List.forall_mem_cons.2 ⟨Abl, ?_⟩
 refine List.forall_mem_cons.2 ⟨Uq, ?_⟩
 refine List.forall_mem_cons.2 ⟨Xp, ?_⟩
 refine List.forall_mem_cons.2 ⟨Ts, ?_⟩
 refine List.forall_mem_cons.2 ⟨Iy, ?_⟩
 refine List.forall_mem_cons.2 ⟨Tp, ?_⟩
 refine List.forall_mem_cons.2 ⟨Rb, ?_⟩
 refine List.forall_mem_cons.2 ⟨Qj, ?_⟩
 refine List.forall_mem_cons.2 ⟨O8, ?_⟩
 refine List.forall_mem_cons.2 ⟨Mu, ?_⟩
 refine List.forall_mem_cons.2 ⟨Nl, ?_⟩
 refine List.forall_mem_cons.2 ⟨O9, ?_⟩
 refine List.forall_mem_cons.2 ⟨V3, ?_⟩
 refine List.forall_mem_cons.2 ⟨V6, ?_⟩
 refine List.forall_mem_cons.2 ⟨V5, ?_⟩
 refine List.forall_mem_cons.2 ⟨Ady, ?_⟩
 refine List.forall_mem_cons.2 ⟨V4, ?_⟩
 refine List.forall_mem_cons.2 ⟨Abf, ?_⟩
 refine List.forall_mem_cons.2 ⟨Ajm, ?_⟩
 refine List.forall_mem_cons.2 ⟨Ajo, ?_⟩
 refine List.forall_mem_cons.2 ⟨Abo, ?_⟩
 refine List.forall_mem_cons.2 ⟨Agg, ?_⟩
 refine List.forall_mem_cons.2 ⟨Ad1, ?_⟩
 refine List.forall_mem_cons.2 ⟨Ad3, ?_⟩
 refine List.forall_mem_cons.2 ⟨Abh, ?_⟩
 refine List.forall_mem_cons.2 ⟨Tq, ?_⟩
 refine List.forall_mem_cons.2 ⟨Ln, ?_⟩
 refine List.forall_mem_cons.2 ⟨Tv, ?_⟩
 refine List.forall_mem_cons.2 ⟨O7, ?_⟩
 refine List.forall_mem_cons.2 ⟨Qh, ?_⟩
 refine List.forall_mem_cons.2 ⟨J0, ?_⟩
 refine List.forall_mem_cons.2 ⟨J2, ?_⟩
 refine List.forall_mem_cons.2 ⟨Nk, ?_⟩
 refine List.forall_mem_cons.2 ⟨Jn, ?_⟩
 refine List.forall_mem_cons.2 ⟨Q9, ?_⟩
 refine List.forall_mem_cons.2 ⟨Kj, ?_⟩
 refine List.forall_mem_cons.2 ⟨Zi, ?_⟩
 refine List.forall_mem_cons.2 ⟨Adw, ?_⟩
 refine List.forall_mem_cons.2 ⟨Adx, ?_⟩
 refine List.forall_mem_cons.2 ⟨Tu, ?_⟩
 refine List.forall_mem_cons.2 ⟨Ad0, ?_⟩
 refine List.forall_mem_cons.2 ⟨Ig, ?_⟩
 refine List.forall_mem_cons.2 ⟨Ki, ?_⟩
 refine List.forall_mem_cons.2 ⟨Jm, ?_⟩
 refine List.forall_mem_cons.2 ⟨Qk, ?_⟩
 refine List.forall_mem_cons.2 ⟨Qi, ?_⟩
 refine List.forall_mem_cons.2 ⟨Abi, ?_⟩
 refine List.forall_mem_cons.2 ⟨Xt, ?_⟩
 refine List.forall_mem_cons.2 ⟨Zo, ?_⟩
 refine List.forall_mem_cons.2 ⟨Lo, ?_⟩
 refine List.forall_mem_cons.2 ⟨Ra, ?_⟩
 refine List.forall_mem_cons.2 ⟨Jz, ?_⟩
 intro p a; cases a
def find : List (Nat × Bool × FnC) → Nat → Def
 | [], _ => .none
 | p :: r, f => if f = p.1 then (if p.2.1 = true then .textK p.2.2 else .text p.2.2) else find r f
theorem Ahn : ∀ {l : List (Nat × Bool × FnC)} {f : Nat} {c : FnC}, find l f = .text c ∨ find l f = .textK c → ∃ k, (f, k, c) ∈ l
 | [], f, c, h => by rcases h with h | h <;> cases h
 | p :: r, f, c, h => by
  obtain ⟨g, a, j⟩ := p
  unfold find at h
  by_cases e : f = g
  ·subst e
   cases a with
   | true => simp at h; subst h; exact ⟨true, List.mem_cons_self⟩
   | false => simp at h; subst h; exact ⟨false, List.mem_cons_self⟩
  ·simp only [e, if_false] at h
   obtain ⟨k, d⟩ := Ahn h
   exact ⟨k, List.mem_cons_of_mem _ d⟩
theorem Uz : ∀ {l : List (Nat × Bool × FnC)} {f : Nat} {e}, find l f ≠ .ext e
 | [], f, e => by intro h; cases h
 | p :: r, f, e => by
  unfold find
  split
  ·split <;> (intro h; cases h)
  ·exact Uz
theorem X3 {f : Nat} {c : FnC} (h : find tab f = .text c ∨ find tab f = .textK c) : FnC.of Try.prog f c := by
 obtain ⟨k, a⟩ := Ahn h
 exact Ayu _ a
def A1x : Env := find tab
theorem Aw7 : Aa8 Try.prog A1x := ⟨by kernel_rfl, fun f e h => absurd h Uz, fun f c h => X3 (.inl h), fun f c h => X3 (.inr h), fun f e h => absurd h Uz⟩
theorem Aqc : Dr A1x 300 (.func (.func Cd) #[] #[]) [] [] = some (.bool true, [], []) := by kernel_rfl
theorem Au7 : Avg Try.prog Cd (constE [] (.bool true)) := Akb Aw7 (c := Ny) rfl rfl (by kernel_rfl) rfl rfl Aqc
noncomputable def env : Env := fun f => if f = Cd then .ext (constE [] (.bool true)) else find tab f
theorem Ang {f : Nat} {e} (h : env f = .ext e) : f = Cd ∧ e = constE [] (.bool true) := by
 unfold env at h
 split at h
 ·rename_i a; cases h; exact ⟨a, rfl⟩
 ·exact absurd h Uz
theorem Aug {f : Nat} {c} (h : env f = .text c) : find tab f = .text c := by
 unfold env at h
 split at h
 ·cases h
 ·exact h
theorem Apy {f : Nat} {c} (h : env f = .textK c) : find tab f = .textK c := by
 unfold env at h
 split at h
 ·cases h
 ·exact h
theorem Ahv : Oq env := by
 intro f e h a g v h2 d c
 obtain ⟨rfl, rfl⟩ := Ang h
 exact Ahx _ _ _ _ _ _ _ c
theorem Azy : Aa8 Try.prog env := by
 refine ⟨by kernel_rfl, Ahv, fun f c h => X3 (.inl (Aug h)), fun f c h => X3 (.inr (Apy h)), fun f e h => ?_⟩
 obtain ⟨rfl, rfl⟩ := Ang h
 exact .inl ⟨⟨_, Try.func4, by kernel_rfl, by kernel_rfl⟩, Au7⟩
theorem A07 : Ap env := ⟨Ahv, rfl, rfl, rfl, rfl, rfl, rfl, rfl, rfl, rfl, rfl, rfl, rfl, rfl, rfl, rfl, rfl, rfl, rfl, rfl, rfl, rfl, rfl, rfl, rfl, rfl, rfl, rfl, rfl, rfl, rfl, rfl, rfl, rfl, rfl, rfl, rfl, rfl, rfl, rfl, rfl, rfl, rfl, rfl, rfl, rfl, rfl, rfl, rfl, rfl, rfl, rfl, rfl, rfl, rfl, rfl, rfl, rfl, rfl, rfl, rfl, rfl, rfl, rfl, rfl, rfl, rfl, rfl, rfl, rfl, rfl, rfl, rfl, rfl, rfl, rfl, rfl, rfl, rfl, rfl, rfl, rfl, rfl, rfl, rfl, rfl, rfl, rfl, rfl, rfl, rfl, rfl⟩
theorem A15 {E : Env} {g : FuncId} {e : List Value → Aa → Option (Value × Aa × List Nat)} (hf : E g = .ext e) (args : List Value) (h : Aa) : callW E (.func (.func g) #[] #[]) args h = e args h := by
 rw [Oi]; simp [Js, hf, F0]
theorem A0a : ∀ h, callW env (.func (.func Cd) #[] #[]) [] h = some (.bool true, h, []) := fun h => by
 rw [A15 (show env Cd = .ext (constE [] (.bool true)) from if_pos rfl)]
 exact Ap3 (fun g o hg => by simp at hg)
end Go.L.Try
