/- SimSame: bounds that are played are those that are reckoned: each task has both, or none (any input whose bytes are reachable). -/
import Derived.Test.YtlmadipiopnfeaaDoorPq
import Derived.Test.YtlmadipiopnfeaaDoorR
import Derived.Test.YtlmadipiopnfeaaDoorCards
import Derived.Test.YtlmadipiopnfeaaDoorTie
import Derived.SevenTiedAt
set_option linter.unusedVariables false
set_option maxRecDepth 100000
set_option maxHeartbeats 2000000
namespace Go.Proofs.YtlmadipiopnfeaaDoor
open Go Go.ChangeShapes Go.WideShapes Go.ChangeAt Go.RowKit Go.L
theorem simSame_lifted (os : Os) (started : os.Started) (H : Type) (enc : TypeId × Value → H) :
    ReturnsInHanded {} Tryd.checked os 5 .any (fun w args => (Rows.simSameSpec.pre enc Tryd.prog Tryd.f5 [] false w args ∧ laidMetH Tryd.prog Ac7 w) ∧ sizedMet enc Tryd.prog Tryd.f5 (OpenSpec.ofChange Rows.simSameSpec) false w args)
      (Rows.simSameSpec.post enc Tryd.prog Tryd.f5 false true false false) := by
  refine returnsInHanded_of_change_and (C := Tryd.checked) (X := fun w _ => laidMetH Tryd.prog Ac7 w) (fun _ _ _ hh h => h.of_heap hh) Tryd.own started (by kernel_rfl) Tryd.func5
    (ChangeSpec.witness_shaped (enc := enc) (C := Tryd.checked) (os := os) (X := fun w _ => laidMetH Tryd.prog Ac7 w) false (World.doorLaid Tryd.prog 400 os) #[.slice none 0 0, .int .i64 0, .int .i64 0] 8 rfl (World.shaped_of_RefB (by kernel_rfl) (by kernel_rfl)) (by kernel_rfl) (by kernel_rfl) (by kernel_rfl) (Ave os _)) ?_
  intro W base args ds gs before hval0 hW _ hsz0 hL _
  have hval : ∀ (j : Nat) t v, Tryd.f5.params[j]? = some t → args[j]? = some v → Value.okWide Tryd.prog W .any base t v := hval0
  have hsz : (DataW.weightsEach Tryd.prog (Tryd.f5.params.toList ++ Rows.simSameSpec.plain.varTypes Tryd.prog) (ds ++ gs)).all (· ≤ reachBytes) = true := hsz0
  have hW' := hW
  obtain ⟨p, q, hA0, hV, rfl, hfz, hnd⟩ := hW
  have hA : DataW.TrodAll enc Tryd.prog W 0 (fun _ => true) true Tryd.f5.params.toList args.toList ds p := hA0
  rw [Tryd.params5] at hA hval
  obtain ⟨v0, v1, v2, d0, d1, d2, p0, p1, p2, rfl, rfl, rfl, ⟨n0, h0⟩, h1, h2⟩ := trodAll_three hA
  obtain ⟨rfl, rfl⟩ := trodVars_none hV
  clear hA0 hval0 hsz0
  rw [Tryd.params5] at hsz
  have f0 := Au2 hsz (j := 0) (t := 22) (d := d0) rfl rfl
  have k0 := hval 0 22 v0 rfl rfl
  obtain ⟨a0, m0, c0, rfl⟩ := Zp Tryd.underlying22 k0
  obtain ⟨z1, rfl, rfl, rfl, y1⟩ := open_int Tryd.underlying3 (hval 1 3 v1 rfl rfl) h1
  obtain ⟨z2, rfl, rfl, rfl, y2⟩ := open_int Tryd.underlying3 (hval 2 3 v2 rfl rfl) h2
  obtain ⟨ι0, H0, L0, T0⟩ := Ap7 hL
  obtain ⟨ι1, H1, w0, w0', l0, e0, s0, L1, P1, r0, rd0⟩ := Aho (en := Vw) L0 (fun _ => rfl) (fun _ => rfl) A35 Tryd.underlying22 Tryd.cellsSpec (by decide) Tryd.bytesSpec Apc h0 f0 (Ae8 Tryd.underlying22 k0)
  obtain rfl := (List.cons.inj e0).1
  have hlaw := Go.L.Try.Axa Go.L.Try.A2l Go.L.Try.Ax4 Go.L.Try.A05 (T0.pre P1) rd0 (Are y1) (Are y2)
  exact Ax3 Go.L.Try.A1e Go.L.Try.A2l.Ts Tryd.laidOut (fn := Tryd.f5) (s := Rows.simSameSpec) rfl (rb := 4) (by kernel_rfl) Tryd.underlying4 (by rw [Tryd.params5]; intro t ht; simp at ht; rcases ht with rfl | rfl <;> exact ⟨by kernel_rfl, of_decide_eq_true (by kernel_rfl)⟩) rfl rfl rfl hW' L1
    (.cons r0 (.cons (.int _ _) (.cons (.int _ _) .nil))) hlaw
theorem simSame_row : Rows.SimSameSaid :=
  OpenClaim.holds_of_wide 5 Tryd.f5 rfl rfl rfl rfl rfl rfl rfl ⟨rfl, rfl, rfl, rfl, rfl⟩ rfl rfl rfl rfl rfl (by kernel_rfl) Tryd.func5 (by kernel_rfl)
    (of_decide_eq_true (by kernel_rfl)) (by unfold Func.isWrapper; first | (rw [if_pos (by decide +kernel)]; kernel_rfl) | (rw [if_neg (by decide +kernel)]; exact ⟨rfl, rfl⟩))
    (fun os started H enc _ => simSame_lifted os started H enc)
theorem simSame_holds : Rows.SimSameCardSaid :=
  Claim7.holds_tied_plain_at .later [] [.data] true (true, "435e744614cddc75e8bf130c559661e1ef1cd582fde73d4d017700dde2a28b62") false
    simSame_row (fun _ h => by cases h) (by kernel_rfl) (fun _ h => by cases h) simSame_row_tie rfl ⟨rfl, rfl⟩ (by kernel_rfl) rfl
    (fun f fn hf hfn => by
      obtain rfl : f = 5 := Option.some.inj ((show Tryd.prog.funcNamed "cadency/cadencylaw16.SimSame" = some 5 by kernel_rfl).symm.trans hf) |>.symm
      obtain rfl : fn = Tryd.f5 := (Option.some.inj (Tryd.func5.symm.trans hfn)).symm
      exact ⟨by kernel_rfl, fun j t ht => by
        rw [Tryd.params5] at ht
        have hm : t ∈ [22, 3] := by
          have := Array.mem_of_getElem? ht
          simpa using this
        have hall : ([22, 3].all fun u => !Tryd.prog.wantsStandIn u) = true := by kernel_rfl
        exact (show Tryd.prog.wantsStandIn t = false by simpa using List.all_eq_true.1 hall t hm)⟩)
    (by kernel_rfl)
end Go.Proofs.YtlmadipiopnfeaaDoor
#print axioms Go.Proofs.YtlmadipiopnfeaaDoor.simSame_holds
