/- HyperJobs: the jobs of a period are legal, as many of each task as go into it; a lesser cap is refused; of every input: no condition. -/
import Derived.Test.YtdklgcjbjphadaaPd
import Derived.Test.YtdklgcjbjphadaaRPh
import Derived.Test.YtdklgcjbjphadaaRows
set_option linter.unusedVariables false
set_option maxRecDepth 100000
set_option maxHeartbeats 2000000
namespace Go.Proofs.Ytdklgcjbjphadaa
open Go Go.ChangeShapes Go.WideShapes Go.ChangeAt Go.RowKit Go.L
theorem wf_u64 {z : Int} (h : (Lit.int .u64 z).wf = true) : Go.L.Try.u64in z := by
  simp only [Lit.wf, Bool.and_eq_true, decide_eq_true_eq] at h
  have h1 : IntKind.min .u64 = 0 := by decide
  have h2 : IntKind.max .u64 = 18446744073709551615 := by decide
  unfold Go.L.Try.u64in
  omega
theorem hyperJobs_lifted (os : Os) (started : os.Started) (H : Type) (enc : TypeId × Value → H) :
    ReturnsInHanded {} Try.checked os 5 .any (Rows.hyperJobsSpec.pre6 enc Try.prog Try.f5 Rows.hyperJobsRow.domain false) (Rows.hyperJobsSpec.post enc Try.prog Try.f5 false true false false) := by
  refine returnsInHanded_of_change_sized (C := Try.checked) Try.own started (by kernel_rfl) Try.func5
    (ChangeSpec.witness6 (enc := enc) (C := Try.checked) false ⟨#[], #[.slice none 0 0, .int .i64 0, .int .u64 0], []⟩ 8 (by kernel_rfl) (by kernel_rfl) (by kernel_rfl) (by kernel_rfl)) ?_
  intro W base args ds gs before hval0 hW _ hsz0 _
  have hval : ∀ (j : Nat) t v, Try.f5.params[j]? = some t → args[j]? = some v → Value.okWide Try.prog W .any base t v := hval0
  have hsz : (DataW.weightsEach Try.prog (Try.f5.params.toList ++ Rows.hyperJobsSpec.plain.varTypes Try.prog) (ds ++ gs)).all (· ≤ reachBytes) = true := hsz0
  have hW' := hW
  obtain ⟨p, q, hA0, hV, rfl, hfz, hnd⟩ := hW
  have hA : DataW.TrodAll enc Try.prog W 0 (fun _ => true) true Try.f5.params.toList args.toList ds p := hA0
  rw [Try.params5] at hA hval
  obtain ⟨v0, v1, v2, d0, d1, d2, p0, p1, p2, rfl, rfl, rfl, ⟨n0, h0⟩, h1, h2⟩ := trodAll_three hA
  obtain ⟨rfl, rfl⟩ := trodVars_none hV
  clear hA0 hval0 hsz0
  rw [Try.params5] at hsz
  have f0 := few_each hsz (j := 0) (t := 22) (d := d0) rfl rfl
  have k0 := hval 0 22 v0 rfl rfl
  obtain ⟨a0, m0, c0, rfl⟩ := shape_of_slice Try.underlying22 k0
  obtain ⟨z1, rfl, rfl, rfl, y1⟩ := open_int Try.underlying3 (hval 1 3 v1 rfl rfl) h1
  obtain ⟨z2, rfl, rfl, rfl, y2⟩ := open_int Try.underlying24 (hval 2 24 v2 rfl rfl) h2
  have L0 := lay_globs Try.prog W
  obtain ⟨ι1, H1, w0, w0', l0, e0, s0, L1, P1, r0, rd0⟩ := lay_flat (en := encSp) L0 (fun _ => rfl) (fun _ => rfl) five Try.underlying22 Try.cellsSpec (by decide) Try.bytesSpec spec_elem h0 f0 (any_of_slice Try.underlying22 k0)
  obtain rfl := (List.cons.inj e0).1
  have hlaw := Go.L.Try.hyperJobs Go.L.Try.laid Go.L.Try.awakes rd0 (wf_i64 y1) (wf_u64 y2)
  exact law_row Go.L.Try.env_ok Go.L.Try.laid.cadencylaw17_HyperJobs Try.laidOut (fn := Try.f5) (s := Rows.hyperJobsSpec) rfl (rb := 4) (by kernel_rfl) Try.underlying4 (by rw [Try.params5]; intro t ht; simp at ht; rcases ht with rfl | rfl | rfl <;> exact ⟨by kernel_rfl, of_decide_eq_true (by kernel_rfl)⟩) rfl rfl rfl hW' L1
    (.cons r0 (.cons (.int _ _) (.cons (.int _ _) .nil))) hlaw
theorem hyperJobs_holds : Rows.HyperJobsSaid :=
  OpenClaim.holds_of_wide 5 Try.f5 rfl rfl rfl rfl rfl rfl rfl ⟨rfl, rfl, rfl, rfl, rfl⟩ rfl rfl rfl rfl rfl (by kernel_rfl) Try.func5 (by kernel_rfl)
    (of_decide_eq_true (by kernel_rfl)) (by unfold Func.isWrapper; first | (rw [if_pos (by decide +kernel)]; kernel_rfl) | (rw [if_neg (by decide +kernel)]; exact ⟨rfl, rfl⟩))
    (fun os started H enc _ => hyperJobs_lifted os started H enc)
end Go.Proofs.Ytdklgcjbjphadaa
#print axioms Go.Proofs.Ytdklgcjbjphadaa.hyperJobs_holds
