/- TraceFits; of every input: no condition. -/
import Derived.Test.YtkfkdhgnddcfdaaPi
import Derived.Test.YtkfkdhgnddcfdaaRP
import Derived.Test.YtkfkdhgnddcfdaaRows
set_option linter.unusedVariables false
set_option maxRecDepth 100000
set_option maxHeartbeats 2000000
namespace Go.Proofs.Ytkfkdhgnddcfdaa
open Go Go.ChangeShapes Go.WideShapes Go.ChangeAt Go.RowKit Go.L
-- 
theorem traceFits_lifted (os : Os) (started : os.Started) (H : Type) (enc : TypeId × Value → H) :
    ReturnsInHanded {} Try.checked os 11 .any (Rows.traceFitsSpec.pre6 enc Try.prog Try.f11 Rows.traceFitsRow.domain false) (Rows.traceFitsSpec.post enc Try.prog Try.f11 false true false false) := by
  refine returnsInHanded_of_change_sized (C := Try.checked) Try.own started (by kernel_rfl) Try.func11
    (ChangeSpec.witness6 (enc := enc) (C := Try.checked) false ⟨#[], #[.slice none 0 0, .slice none 0 0, .agg #[.int .i64 0, .int .i64 0]], []⟩ 8 (by kernel_rfl) (by kernel_rfl) (by kernel_rfl) (by kernel_rfl)) ?_
  intro W base args ds gs before hval0 hW _ hsz0 _
  have hval : ∀ (j : Nat) t v, Try.f11.params[j]? = some t → args[j]? = some v → Value.okWide Try.prog W .any base t v := hval0
  have hsz : (DataW.weightsEach Try.prog (Try.f11.params.toList ++ Rows.traceFitsSpec.plain.varTypes Try.prog) (ds ++ gs)).all (· ≤ reachBytes) = true := hsz0
  have hW' := hW
  obtain ⟨p, q, hA0, hV, rfl, hfz, hnd⟩ := hW
  have hA : DataW.TrodAll enc Try.prog W 0 (fun _ => true) true Try.f11.params.toList args.toList ds p := hA0
  rw [Try.params11] at hA hval
  obtain ⟨v0, v1, v2, d0, d1, d2, p0, p1, p2, rfl, rfl, rfl, ⟨n0, h0⟩, ⟨n1, h1⟩, h2⟩ := trodAll_three hA
  obtain ⟨rfl, rfl⟩ := trodVars_none hV
  clear hA0 hval0 hsz0
  rw [Try.params11] at hsz
  have f0 := few_each hsz (j := 0) (t := 22) (d := d0) rfl rfl
  have k0 := hval 0 22 v0 rfl rfl
  obtain ⟨a0, m0, c0, rfl⟩ := shape_of_slice Try.underlying22 k0
  have f1 := few_each hsz (j := 1) (t := 23) (d := d1) rfl rfl
  have k1 := hval 1 23 v1 rfl rfl
  obtain ⟨a1, m1, c1, rfl⟩ := shape_of_slice Try.underlying23 k1
  obtain ⟨z2, u2, rfl, y2, x2⟩ := open_pair (hval 2 24 v2 rfl rfl) h2
  have L0 := lay_globs Try.prog W
  obtain ⟨ι1, H1, w0, w0', l0, e0, s0, L1, P1, r0, rd0⟩ := lay_flat (en := encSp) L0 (fun _ => rfl) (fun _ => rfl) five Try.underlying22 Try.cellsSpec (by decide) Try.bytesSpec spec_elem h0 f0 (any_of_slice Try.underlying22 k0)
  obtain rfl := (List.cons.inj e0).1
  obtain ⟨ι2, H2, w1, w1', l1, e1, s1, L2, P2, r1, rd1⟩ := lay_nested (hd := hdR) (csf := Raw.cuts) (put := fun r l => { r with cuts := l }) (fun _ _ => ⟨rfl, rfl⟩) L1 (sz := 5) (fun _ => rfl) (fun _ => rfl) four Try.underlying23 Try.cellsRaw Try.bytesRaw Try.underlyingInts Try.underlying3 Try.cells3 Try.bytes3 raw_elem h1 f1 (any_of_slice Try.underlying23 k1)
  obtain rfl := (List.cons.inj e1).1
  have hlaw := Go.L.Try.traceFits Go.L.Try.laid Go.L.Try.awakes (rd0.pre P2) rd1 (wf_i64 y2) (wf_i64 x2)
  exact law_row Go.L.Try.env_ok Go.L.Try.laid.cadencylaw11_TraceFits Try.laidOut (fn := Try.f11) (s := Rows.traceFitsSpec) rfl (rb := 4) (by kernel_rfl) Try.underlying4 (by rw [Try.params11]; intro t ht; simp at ht; rcases ht with rfl | rfl | rfl <;> exact ⟨by kernel_rfl, of_decide_eq_true (by kernel_rfl)⟩) rfl rfl rfl hW' L2
    (.cons (r0.mono s1) (.cons r1 (.cons (.agg (.cons (.int _ _) (.cons (.int _ _) .nil))) .nil))) hlaw
theorem traceFits_holds : Rows.TraceFitsSaid :=
  OpenClaim.holds_of_wide 11 Try.f11 rfl rfl rfl rfl rfl rfl rfl ⟨rfl, rfl, rfl, rfl, rfl⟩ rfl rfl rfl rfl rfl (by kernel_rfl) Try.func11 (by kernel_rfl)
    (of_decide_eq_true (by kernel_rfl)) (by unfold Func.isWrapper; first | (rw [if_pos (by decide +kernel)]; kernel_rfl) | (rw [if_neg (by decide +kernel)]; exact ⟨rfl, rfl⟩))
    (fun os started H enc _ => traceFits_lifted os started H enc)
end Go.Proofs.Ytkfkdhgnddcfdaa
#print axioms Go.Proofs.Ytkfkdhgnddcfdaa.traceFits_holds
