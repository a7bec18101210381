/- HyperMany: a period of more jobs than there may be is refused; of every input: no condition. -/
import Derived.Test.YtdklgcjbjphadaaPc
import Derived.Test.YtdklgcjbjphadaaRPh
import Derived.Test.YtdklgcjbjphadaaRows
set_option linter.unusedVariables false
set_option maxRecDepth 100000
set_option maxHeartbeats 2000000
namespace Go.Proofs.Ytdklgcjbjphadaa
open Go Go.ChangeShapes Go.WideShapes Go.ChangeAt Go.RowKit Go.L
theorem hyperMany_lifted (os : Os) (started : os.Started) (H : Type) (enc : TypeId × Value → H) :
    ReturnsInHanded {} Try.checked os 6 .any (Rows.hyperManySpec.pre6 enc Try.prog Try.f6 Rows.hyperManyRow.domain false) (Rows.hyperManySpec.post enc Try.prog Try.f6 false true false false) := by
  refine returnsInHanded_of_change_sized (C := Try.checked) Try.own started (by kernel_rfl) Try.func6
    (ChangeSpec.witness6 (enc := enc) (C := Try.checked) false ⟨#[], #[.int .i64 0], []⟩ 8 (by kernel_rfl) (by kernel_rfl) (by kernel_rfl) (by kernel_rfl)) ?_
  intro W base args ds gs before hval0 hW _ hsz0 _
  have hval : ∀ (j : Nat) t v, Try.f6.params[j]? = some t → args[j]? = some v → Value.okWide Try.prog W .any base t v := hval0
  have hsz : (DataW.weightsEach Try.prog (Try.f6.params.toList ++ Rows.hyperManySpec.plain.varTypes Try.prog) (ds ++ gs)).all (· ≤ reachBytes) = true := hsz0
  have hW' := hW
  obtain ⟨p, q, hA0, hV, rfl, hfz, hnd⟩ := hW
  have hA : DataW.TrodAll enc Try.prog W 0 (fun _ => true) true Try.f6.params.toList args.toList ds p := hA0
  rw [Try.params6] at hA hval
  obtain ⟨v0, d0, rfl, rfl, h0⟩ := trodAll_one hA
  obtain ⟨rfl, rfl⟩ := trodVars_none hV
  clear hA0 hval0 hsz0
  rw [Try.params6] at hsz
  obtain ⟨z0, rfl, rfl, rfl, y0⟩ := open_int Try.underlying3 (hval 0 3 v0 rfl rfl) h0
  have L0 := lay_globs Try.prog W
  have hlaw := Go.L.Try.hyperMany Go.L.Try.laid Go.L.Try.awakes (h := List.replicate Try.prog.globals.size .dead) (wf_i64 y0)
  exact law_row Go.L.Try.env_ok Go.L.Try.laid.cadencylaw17_HyperMany Try.laidOut (fn := Try.f6) (s := Rows.hyperManySpec) rfl (rb := 4) (by kernel_rfl) Try.underlying4 (by rw [Try.params6]; intro t ht; simp at ht; rcases ht with rfl <;> exact ⟨by kernel_rfl, of_decide_eq_true (by kernel_rfl)⟩) rfl rfl rfl hW' L0
    (.cons (.int _ _) .nil) hlaw
theorem hyperMany_holds : Rows.HyperManySaid :=
  OpenClaim.holds_of_wide 6 Try.f6 rfl rfl rfl rfl rfl rfl rfl ⟨rfl, rfl, rfl, rfl, rfl⟩ rfl rfl rfl rfl rfl (by kernel_rfl) Try.func6 (by kernel_rfl)
    (of_decide_eq_true (by kernel_rfl)) (by unfold Func.isWrapper; first | (rw [if_pos (by decide +kernel)]; kernel_rfl) | (rw [if_neg (by decide +kernel)]; exact ⟨rfl, rfl⟩))
    (fun os started H enc _ => hyperMany_lifted os started H enc)
end Go.Proofs.Ytdklgcjbjphadaa
#print axioms Go.Proofs.Ytdklgcjbjphadaa.hyperMany_holds
