/- OpaBest: the row and its card -/
import Derived.Test.YtifnlcajancfdaaDoorPj
import Derived.Test.YtifnlcajancfdaaDoorR
import Derived.Test.YtifnlcajancfdaaDoorCards
import Derived.Test.YtifnlcajancfdaaDoorTie
import Derived.SevenTiedAt
set_option linter.unusedVariables false
set_option maxRecDepth 100000
set_option maxHeartbeats 2000000
namespace Go.Proofs.YtifnlcajancfdaaDoor
open Go Go.ChangeShapes Go.WideShapes Go.ChangeAt Go.RowKit Go.L
theorem opaBest_lifted (os : Os) (started : os.Started) (H : Type) (enc : TypeId × Value → H) :
    ReturnsInHanded {} Tryd.checked os 4 .any (fun w args => (Rows.opaBestSpec.pre enc Tryd.prog Tryd.f4 [] false w args ∧ laidMetH Tryd.prog laid1 w) ∧ sizedMet enc Tryd.prog Tryd.f4 (OpenSpec.ofChange Rows.opaBestSpec) false w args)
      (Rows.opaBestSpec.post enc Tryd.prog Tryd.f4 false true false false) := by
  refine returnsInHanded_of_change_and (C := Tryd.checked) (X := fun w _ => laidMetH Tryd.prog laid1 w) (fun _ _ _ hh h => h.of_heap hh) Tryd.own started (by kernel_rfl) Tryd.func4
    (ChangeSpec.witness_shaped (enc := enc) (C := Tryd.checked) (os := os) (X := fun w _ => laidMetH Tryd.prog laid1 w) false (World.doorLaid Tryd.prog 400 os) #[.slice none 0 0, .int .i64 0] 8 rfl (World.shaped_of_RefB (by kernel_rfl) (by kernel_rfl)) (by kernel_rfl) (by kernel_rfl) (by kernel_rfl) (door_met os _)) ?_
  intro W base args ds gs before hval0 hW _ hsz0 hL _
  have hval : ∀ (j : Nat) t v, Tryd.f4.params[j]? = some t → args[j]? = some v → Value.okWide Tryd.prog W .any base t v := hval0
  have hsz : (DataW.weightsEach Tryd.prog (Tryd.f4.params.toList ++ Rows.opaBestSpec.plain.varTypes Tryd.prog) (ds ++ gs)).all (· ≤ reachBytes) = true := hsz0
  have hW' := hW
  obtain ⟨p, q, hA0, hV, rfl, hfz, hnd⟩ := hW
  have hA : DataW.TrodAll enc Tryd.prog W 0 (fun _ => true) true Tryd.f4.params.toList args.toList ds p := hA0
  rw [Tryd.params4] at hA hval
  obtain ⟨v0, v1, d0, d1, p0, p1, rfl, rfl, rfl, ⟨n0, h0⟩, h1⟩ := trodAll_two hA
  obtain ⟨rfl, rfl⟩ := trodVars_none hV
  clear hA0 hval0 hsz0
  rw [Tryd.params4] at hsz
  have f0 := few_each hsz (j := 0) (t := 29) (d := d0) rfl rfl
  have k0 := hval 0 29 v0 rfl rfl
  obtain ⟨a0, m0, c0, rfl⟩ := shape_of_slice Tryd.underlying29 k0
  obtain ⟨z1, rfl, rfl, rfl, y1⟩ := open_int Tryd.underlying3 (hval 1 3 v1 rfl rfl) h1
  obtain ⟨ι0, H0, L0, T0⟩ := lay_start hL
  obtain ⟨ι1, H1, w0, w0', l0, e0, s0, L1, P1, r0, rd0⟩ := lay_flat (en := encSp) L0 (fun _ => rfl) (fun _ => rfl) five Tryd.underlying29 Tryd.cellsSpec (by decide) Tryd.bytesSpec spec_elem h0 f0 (any_of_slice Tryd.underlying29 k0)
  obtain rfl := (List.cons.inj e0).1
  have hlaw := Go.L.Try.opaBest Go.L.Try.laid Go.L.Try.laidAdd Go.L.Try.laidTz Go.L.Try.laidIns (T0.pre P1) rd0 (wf_i64 y1)
  exact law_row Go.L.Try.env_ok Go.L.Try.laid.law19_OpaBest Tryd.laidOut (fn := Tryd.f4) (s := Rows.opaBestSpec) rfl (rb := 4) (by kernel_rfl) Tryd.underlying4 (by rw [Tryd.params4]; intro t ht; simp at ht; rcases ht with rfl | rfl <;> exact ⟨by kernel_rfl, of_decide_eq_true (by kernel_rfl)⟩) rfl rfl rfl hW' L1
    (.cons r0 (.cons (.int _ _) .nil)) hlaw
theorem opaBest_row : Rows.OpaBestSaid :=
  OpenClaim.holds_of_wide 4 Tryd.f4 rfl rfl rfl rfl rfl rfl rfl ⟨rfl, rfl, rfl, rfl, rfl⟩ rfl rfl rfl rfl rfl (by kernel_rfl) Tryd.func4 (by kernel_rfl)
    (of_decide_eq_true (by kernel_rfl)) (by unfold Func.isWrapper; first | (rw [if_pos (by decide +kernel)]; kernel_rfl) | (rw [if_neg (by decide +kernel)]; exact ⟨rfl, rfl⟩))
    (fun os started H enc _ => opaBest_lifted os started H enc)
theorem opaBest_holds : Rows.OpaBestCardSaid :=
  Claim7.holds_tied_plain_at .later [] [.data] true (true, "25aea09a51eca2958c03e71927f262f34d16109ce21a8c5b8c4f6d8d8a47240c") true
    opaBest_row (fun _ h => by cases h) (by kernel_rfl) (fun _ h => by cases h) opaBest_row_tie rfl ⟨rfl, rfl⟩ (by kernel_rfl) rfl
    (fun f fn hf hfn => by
      obtain rfl : f = 4 := Option.some.inj ((show Tryd.prog.funcNamed "cadency/cadencylaw19.OpaBest" = some 4 by kernel_rfl).symm.trans hf) |>.symm
      obtain rfl : fn = Tryd.f4 := (Option.some.inj (Tryd.func4.symm.trans hfn)).symm
      exact ⟨by kernel_rfl, fun j t ht => by
        rw [Tryd.params4] at ht
        have hm : t ∈ [29, 3] := by
          have := Array.mem_of_getElem? ht
          simpa using this
        have hall : ([29, 3].all fun u => !Tryd.prog.wantsStandIn u) = true := by kernel_rfl
        exact (show Tryd.prog.wantsStandIn t = false by simpa using List.all_eq_true.1 hall t hm)⟩)
    (by kernel_rfl)
end Go.Proofs.YtifnlcajancfdaaDoor
#print axioms Go.Proofs.YtifnlcajancfdaaDoor.opaBest_holds
