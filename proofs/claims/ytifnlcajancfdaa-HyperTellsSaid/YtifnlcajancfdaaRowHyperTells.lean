/- HyperTells: the row -/
import Derived.Test.YtifnlcajancfdaaPo
import Derived.Test.YtifnlcajancfdaaRPt
import Derived.Test.YtifnlcajancfdaaRows
set_option linter.unusedVariables false
set_option maxRecDepth 100000
set_option maxHeartbeats 2000000
namespace Go.Proofs.Ytifnlcajancfdaa
open Go Go.ChangeShapes Go.WideShapes Go.ChangeAt Go.RowKit Go.L
theorem Ayn {z : Int} (h : (Lit.int .u64 z).wf = true) : Go.L.Try.Bz z := by
 simp only [Lit.wf, Bool.and_eq_true, decide_eq_true_eq] at h
 have a : IntKind.min .u64 = 0 := by decide
 have h2 : IntKind.max .u64 = 18446744073709551615 := by decide
 unfold Go.L.Try.Bz
 omega
theorem Uv (os : Os) (started : os.Started) (H : Type) (enc : TypeId × Value → H) :
  ReturnsInHanded {} Try.checked os 3 .any (Rows.hyperTellsSpec.pre6 enc Try.prog Try.f3 Rows.hyperTellsRow.domain false) (Rows.hyperTellsSpec.post enc Try.prog Try.f3 false true false false) := by
 refine returnsInHanded_of_change_sized (C := Try.checked) Try.own started (by kernel_rfl) Try.func3
  (ChangeSpec.witness6 (enc := enc) (C := Try.checked) false ⟨#[], #[.slice none 0 0, .slice none 0 0, .agg #[.int .i64 0, .int .u64 0]], []⟩ 8 (by kernel_rfl) (by kernel_rfl) (by kernel_rfl) (by kernel_rfl)) ?_
 intro W o g ds gs r e z _ f _
 have c : ∀ (j : Nat) t v, Try.f3.params[j]? = some t → g[j]? = some v → Value.okWide Try.prog W .any o t v := e
 have l : (DataW.weightsEach Try.prog (Try.f3.params.toList ++ Rows.hyperTellsSpec.plain.varTypes Try.prog) (ds ++ gs)).all (· ≤ reachBytes) = true := f
 have u := z
 obtain ⟨p, q, n, hV, rfl, a3, a2⟩ := z
 have hA : DataW.TrodAll enc Try.prog W 0 (fun _ => true) true Try.f3.params.toList g.toList ds p := n
 rw [Try.params3] at hA c
 obtain ⟨v0, v1, v2, d0, d1, d2, p0, p1, p2, rfl, rfl, rfl, ⟨n0, h0⟩, ⟨n1, h1⟩, h2⟩ := trodAll_three hA
 obtain ⟨rfl, rfl⟩ := trodVars_none hV
 clear n e f
 rw [Try.params3] at l
 have f0 := Ahq l (j := 0) (t := 22) (d := d0) rfl rfl
 have k0 := c 0 22 v0 rfl rfl
 obtain ⟨a0, m0, c0, rfl⟩ := Qy Try.underlying22 k0
 have f1 := Ahq l (j := 1) (t := 23) (d := d1) rfl rfl
 have k1 := c 1 23 v1 rfl rfl
 obtain ⟨a1, m1, c1, rfl⟩ := Qy Try.underlying23 k1
 obtain ⟨z2, u2, rfl, y2, x2⟩ := Ar2 (c 2 26 v2 rfl rfl) h2
 have L0 := Apn Try.prog W
 obtain ⟨ι1, H1, w0, a4, l0, e0, s0, L1, P1, r0, x⟩ := Ag6 (en := Rn) L0 (fun _ => rfl) (fun _ => rfl) A2v Try.underlying22 Try.cellsSpec (by decide) Try.bytesSpec Aou h0 f0 (Vj Try.underlying22 k0)
 obtain rfl := (List.cons.inj e0).1
 obtain ⟨ι2, H2, w1, a5, l1, e1, s1, L2, P2, r1, y, g1⟩ := Apo (en := Az) (good := fun a => a.name.size < 1152921504606846976) L1 (fun _ => rfl) (fun _ => rfl) A0r Try.underlying23 Try.cellsTask (by decide) Try.bytesTask Aop h1 f1 (Vj Try.underlying23 k1)
 obtain rfl := (List.cons.inj e1).1
 have m := Go.L.Try.Aj1 Go.L.Try.A07 Go.L.Try.A0a (x.pre P2) y g1 (Ayo y2) (Ayn x2)
 exact Awv Go.L.Try.Azy Go.L.Try.A07.Of Try.laidOut (fn := Try.f3) (s := Rows.hyperTellsSpec) rfl (rb := 4) (by kernel_rfl) Try.underlying4 (by rw [Try.params3]; intro t ht; simp at ht; rcases ht with rfl | rfl | rfl <;> exact ⟨by kernel_rfl, of_decide_eq_true (by kernel_rfl)⟩) rfl rfl rfl u L2
  (.cons (r0.mono s1) (.cons r1 (.cons (.agg (.cons (.int _ _) (.cons (.int _ _) .nil))) .nil))) m
theorem hyperTells_holds : Rows.HyperTellsSaid :=
 OpenClaim.holds_of_wide 3 Try.f3 rfl rfl rfl rfl rfl rfl rfl ⟨rfl, rfl, rfl, rfl, rfl⟩ rfl rfl rfl rfl rfl (by kernel_rfl) Try.func3 (by kernel_rfl)
  (of_decide_eq_true (by kernel_rfl)) (by unfold Func.isWrapper; first | (rw [if_pos (by decide +kernel)]; kernel_rfl) | (rw [if_neg (by decide +kernel)]; exact ⟨rfl, rfl⟩))
  (fun os started H enc _ => Uv os started H enc)
end Go.Proofs.Ytifnlcajancfdaa
#print axioms Go.Proofs.Ytifnlcajancfdaa.hyperTells_holds
