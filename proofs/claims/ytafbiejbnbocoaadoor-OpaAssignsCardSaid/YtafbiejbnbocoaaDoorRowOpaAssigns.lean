/- OpaAssigns: an order is found, or not, as the document says, with as many tests (any input whose bytes are reachable). -/
import Derived.Test.YtafbiejbnbocoaaDoorPj
import Derived.Test.YtafbiejbnbocoaaDoorR
import Derived.Test.YtafbiejbnbocoaaDoorCards
import Derived.Test.YtafbiejbnbocoaaDoorTie
import Derived.SevenTiedAt
set_option linter.unusedVariables false
set_option maxRecDepth 100000
set_option maxHeartbeats 2000000
namespace Go.Proofs.YtafbiejbnbocoaaDoor
open Go Go.ChangeShapes Go.WideShapes Go.ChangeAt Go.RowKit Go.L
theorem opaAssigns_lifted (os : Os) (started : os.Started) (H : Type) (enc : TypeId × Value → H) :
    ReturnsInHanded {} Tryd.checked os 6 .any (fun w args => (Rows.opaAssignsSpec.pre enc Tryd.prog Tryd.f6 [] false w args ∧ laidMetH Tryd.prog laid1 w) ∧ sizedMet enc Tryd.prog Tryd.f6 (OpenSpec.ofChange Rows.opaAssignsSpec) false w args)
      (Rows.opaAssignsSpec.post enc Tryd.prog Tryd.f6 false true false false) := by
  refine returnsInHanded_of_change_and (C := Tryd.checked) (X := fun w _ => laidMetH Tryd.prog laid1 w) (fun _ _ _ hh h => h.of_heap hh) Tryd.own started (by kernel_rfl) Tryd.func6
    (ChangeSpec.witness_shaped (enc := enc) (C := Tryd.checked) (os := os) (X := fun w _ => laidMetH Tryd.prog laid1 w) false (World.doorLaid Tryd.prog 400 os) #[.slice none 0 0, .slice none 0 0, .int .i64 0] 8 rfl (World.shaped_of_RefB (by kernel_rfl) (by kernel_rfl)) (by kernel_rfl) (by kernel_rfl) (by kernel_rfl) (door_met os _)) ?_
  intro W base args ds gs before hval0 hW _ hsz0 hL _
  have hval : ∀ (j : Nat) t v, Tryd.f6.params[j]? = some t → args[j]? = some v → Value.okWide Tryd.prog W .any base t v := hval0
  have hsz : (DataW.weightsEach Tryd.prog (Tryd.f6.params.toList ++ Rows.opaAssignsSpec.plain.varTypes Tryd.prog) (ds ++ gs)).all (· ≤ reachBytes) = true := hsz0
  have hW' := hW
  obtain ⟨p, q, hA0, hV, rfl, hfz, hnd⟩ := hW
  have hA : DataW.TrodAll enc Tryd.prog W 0 (fun _ => true) true Tryd.f6.params.toList args.toList ds p := hA0
  rw [Tryd.params6] at hA hval
  obtain ⟨v0, v1, v2, d0, d1, d2, p0, p1, p2, rfl, rfl, rfl, ⟨n0, h0⟩, ⟨n1, h1⟩, h2⟩ := trodAll_three hA
  obtain ⟨rfl, rfl⟩ := trodVars_none hV
  clear hA0 hval0 hsz0
  rw [Tryd.params6] at hsz
  have f0 := few_each hsz (j := 0) (t := 22) (d := d0) rfl rfl
  have k0 := hval 0 22 v0 rfl rfl
  obtain ⟨a0, m0, c0, rfl⟩ := shape_of_slice Tryd.underlying22 k0
  have f1 := few_each hsz (j := 1) (t := 25) (d := d1) rfl rfl
  have k1 := hval 1 25 v1 rfl rfl
  obtain ⟨a1, m1, c1, rfl⟩ := shape_of_slice Tryd.underlying25 k1
  obtain ⟨z2, rfl, rfl, rfl, y2⟩ := open_int Tryd.underlying3 (hval 2 3 v2 rfl rfl) h2
  obtain ⟨ι0, H0, L0, T0⟩ := lay_start hL
  obtain ⟨ι1, H1, w0, w0', l0, e0, s0, L1, P1, r0, rd0⟩ := lay_flat (en := encSp) L0 (fun _ => rfl) (fun _ => rfl) five Tryd.underlying22 Tryd.cellsSpec (by decide) Tryd.bytesSpec spec_elem h0 f0 (any_of_slice Tryd.underlying22 k0)
  obtain rfl := (List.cons.inj e0).1
  obtain ⟨ι2, H2, w1, w1', l1, e1, s1, L2, P2, r1, rd1, g1⟩ := lay_flatP (en := encT) (good := fun a => a.name.size < 1152921504606846976) L1 (fun _ => rfl) (fun _ => rfl) seven Tryd.underlying25 Tryd.cellsTask (by decide) Tryd.bytesTask task_elem h1 f1 (any_of_slice Tryd.underlying25 k1)
  obtain rfl := (List.cons.inj e1).1
  have hlaw := Go.L.Try.opaAssigns Go.L.Try.laid Go.L.Try.laidAdd Go.L.Try.laidTz Go.L.Try.laidIns ((T0.pre P1).pre P2) (rd0.pre P2) rd1 g1 (wf_i64 y2)
  exact law_row Go.L.Try.env_ok Go.L.Try.laid.law19_OpaAssigns Tryd.laidOut (fn := Tryd.f6) (s := Rows.opaAssignsSpec) rfl (rb := 4) (by kernel_rfl) Tryd.underlying4 (by rw [Tryd.params6]; intro t ht; simp at ht; rcases ht with rfl | rfl | rfl <;> exact ⟨by kernel_rfl, of_decide_eq_true (by kernel_rfl)⟩) rfl rfl rfl hW' L2
    (.cons (r0.mono s1) (.cons r1 (.cons (.int _ _) .nil))) hlaw
theorem opaAssigns_row : Rows.OpaAssignsSaid :=
  OpenClaim.holds_of_wide 6 Tryd.f6 rfl rfl rfl rfl rfl rfl rfl ⟨rfl, rfl, rfl, rfl, rfl⟩ rfl rfl rfl rfl rfl (by kernel_rfl) Tryd.func6 (by kernel_rfl)
    (of_decide_eq_true (by kernel_rfl)) (by unfold Func.isWrapper; first | (rw [if_pos (by decide +kernel)]; kernel_rfl) | (rw [if_neg (by decide +kernel)]; exact ⟨rfl, rfl⟩))
    (fun os started H enc _ => opaAssigns_lifted os started H enc)
theorem opaAssigns_holds : Rows.OpaAssignsCardSaid :=
  Claim7.holds_tied_plain_at .later [] [.data] true (true, "52494834cb38beceb61663781cd784182aacedac8d5a119ffcea160d5a20dd96") false
    opaAssigns_row (fun _ h => by cases h) (by kernel_rfl) (fun _ h => by cases h) opaAssigns_row_tie rfl ⟨rfl, rfl⟩ (by kernel_rfl) rfl
    (fun f fn hf hfn => by
      obtain rfl : f = 6 := Option.some.inj ((show Tryd.prog.funcNamed "cadency/cadencylaw19.OpaAssigns" = some 6 by kernel_rfl).symm.trans hf) |>.symm
      obtain rfl : fn = Tryd.f6 := (Option.some.inj (Tryd.func6.symm.trans hfn)).symm
      exact ⟨by kernel_rfl, fun j t ht => by
        rw [Tryd.params6] at ht
        have hm : t ∈ [22, 25, 3] := by
          have := Array.mem_of_getElem? ht
          simpa using this
        have hall : ([22, 25, 3].all fun u => !Tryd.prog.wantsStandIn u) = true := by kernel_rfl
        exact (show Tryd.prog.wantsStandIn t = false by simpa using List.all_eq_true.1 hall t hm)⟩)
    (by kernel_rfl)
end Go.Proofs.YtafbiejbnbocoaaDoor
#print axioms Go.Proofs.YtafbiejbnbocoaaDoor.opaAssigns_holds
