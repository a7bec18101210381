/- OpaFewer: behind fewer others a task fits, if it fits behind more, with no sections (any input whose bytes are reachable). -/
import Derived.Test.YtafbiejbnbocoaaDoorPi
import Derived.Test.YtafbiejbnbocoaaDoorR
import Derived.Test.YtafbiejbnbocoaaDoorCards
import Derived.Test.YtafbiejbnbocoaaDoorTie
import Derived.SevenTiedAt
set_option linter.unusedVariables false
set_option maxRecDepth 100000
set_option maxHeartbeats 2000000
namespace Go.Proofs.YtafbiejbnbocoaaDoor
open Go Go.ChangeShapes Go.WideShapes Go.ChangeAt Go.RowKit Go.L
theorem opaFewer_lifted (os : Os) (started : os.Started) (H : Type) (enc : TypeId × Value → H) :
    ReturnsInHanded {} Tryd.checked os 5 .any (fun w args => (Rows.opaFewerSpec.pre enc Tryd.prog Tryd.f5 [] false w args ∧ laidMetH Tryd.prog laid1 w) ∧ sizedMet enc Tryd.prog Tryd.f5 (OpenSpec.ofChange Rows.opaFewerSpec) false w args)
      (Rows.opaFewerSpec.post enc Tryd.prog Tryd.f5 false true false false) := by
  refine returnsInHanded_of_change_and (C := Tryd.checked) (X := fun w _ => laidMetH Tryd.prog laid1 w) (fun _ _ _ hh h => h.of_heap hh) Tryd.own started (by kernel_rfl) Tryd.func5
    (ChangeSpec.witness_shaped (enc := enc) (C := Tryd.checked) (os := os) (X := fun w _ => laidMetH Tryd.prog laid1 w) false (World.doorLaid Tryd.prog 400 os) #[.slice none 0 0, .int .i64 0, .slice none 0 0] 8 rfl (World.shaped_of_RefB (by kernel_rfl) (by kernel_rfl)) (by kernel_rfl) (by kernel_rfl) (by kernel_rfl) (door_met os _)) ?_
  intro W base args ds gs before hval0 hW _ hsz0 hL _
  have hval : ∀ (j : Nat) t v, Tryd.f5.params[j]? = some t → args[j]? = some v → Value.okWide Tryd.prog W .any base t v := hval0
  have hsz : (DataW.weightsEach Tryd.prog (Tryd.f5.params.toList ++ Rows.opaFewerSpec.plain.varTypes Tryd.prog) (ds ++ gs)).all (· ≤ reachBytes) = true := hsz0
  have hW' := hW
  obtain ⟨p, q, hA0, hV, rfl, hfz, hnd⟩ := hW
  have hA : DataW.TrodAll enc Tryd.prog W 0 (fun _ => true) true Tryd.f5.params.toList args.toList ds p := hA0
  rw [Tryd.params5] at hA hval
  obtain ⟨v0, v1, v2, d0, d1, d2, p0, p1, p2, rfl, rfl, rfl, ⟨n0, h0⟩, h1, ⟨n2, h2⟩⟩ := trodAll_three hA
  obtain ⟨rfl, rfl⟩ := trodVars_none hV
  clear hA0 hval0 hsz0
  rw [Tryd.params5] at hsz
  have f0 := few_each hsz (j := 0) (t := 22) (d := d0) rfl rfl
  have k0 := hval 0 22 v0 rfl rfl
  obtain ⟨a0, m0, c0, rfl⟩ := shape_of_slice Tryd.underlying22 k0
  obtain ⟨z1, rfl, rfl, rfl, y1⟩ := open_int Tryd.underlying3 (hval 1 3 v1 rfl rfl) h1
  have f2 := few_each hsz (j := 2) (t := 23) (d := d2) rfl rfl
  have k2 := hval 2 23 v2 rfl rfl
  obtain ⟨a2, m2, c2, rfl⟩ := shape_of_slice Tryd.underlying23 k2
  obtain ⟨ι0, H0, L0, T0⟩ := lay_start hL
  obtain ⟨ι1, H1, w0, w0', l0, e0, s0, L1, P1, r0, rd0⟩ := lay_flat (en := encSp) L0 (fun _ => rfl) (fun _ => rfl) five Tryd.underlying22 Tryd.cellsSpec (by decide) Tryd.bytesSpec spec_elem h0 f0 (any_of_slice Tryd.underlying22 k0)
  obtain rfl := (List.cons.inj e0).1
  obtain ⟨ι2, H2, w2, w2', l2, e2, s2, L2, P2, r2, rd2⟩ := lay_flat (en := encI) L1 (fun _ => rfl) (fun _ => rfl) (fun _ _ => .cons (.int _ _) .nil) Tryd.underlying23 Tryd.cells3 (by decide) Tryd.bytes3 int_elem h2 f2 (any_of_slice Tryd.underlying23 k2)
  obtain rfl := (List.cons.inj e2).1
  have hlaw := Go.L.Try.opaFewer Go.L.Try.laid Go.L.Try.laidAdd Go.L.Try.laidTz Go.L.Try.laidIns ((T0.pre P1).pre P2) (rd0.pre P2) (wf_i64 y1) rd2
  exact law_row Go.L.Try.env_ok Go.L.Try.laid.law19_OpaFewer Tryd.laidOut (fn := Tryd.f5) (s := Rows.opaFewerSpec) rfl (rb := 4) (by kernel_rfl) Tryd.underlying4 (by rw [Tryd.params5]; intro t ht; simp at ht; rcases ht with rfl | rfl | rfl <;> exact ⟨by kernel_rfl, of_decide_eq_true (by kernel_rfl)⟩) rfl rfl rfl hW' L2
    (.cons (r0.mono s2) (.cons (.int _ _) (.cons r2 .nil))) hlaw
theorem opaFewer_row : Rows.OpaFewerSaid :=
  OpenClaim.holds_of_wide 5 Tryd.f5 rfl rfl rfl rfl rfl rfl rfl ⟨rfl, rfl, rfl, rfl, rfl⟩ rfl rfl rfl rfl rfl (by kernel_rfl) Tryd.func5 (by kernel_rfl)
    (of_decide_eq_true (by kernel_rfl)) (by unfold Func.isWrapper; first | (rw [if_pos (by decide +kernel)]; kernel_rfl) | (rw [if_neg (by decide +kernel)]; exact ⟨rfl, rfl⟩))
    (fun os started H enc _ => opaFewer_lifted os started H enc)
theorem opaFewer_holds : Rows.OpaFewerCardSaid :=
  Claim7.holds_tied_plain_at .later [] [.data] true (true, "52494834cb38beceb61663781cd784182aacedac8d5a119ffcea160d5a20dd96") false
    opaFewer_row (fun _ h => by cases h) (by kernel_rfl) (fun _ h => by cases h) opaFewer_row_tie rfl ⟨rfl, rfl⟩ (by kernel_rfl) rfl
    (fun f fn hf hfn => by
      obtain rfl : f = 5 := Option.some.inj ((show Tryd.prog.funcNamed "cadency/cadencylaw19.OpaFewer" = some 5 by kernel_rfl).symm.trans hf) |>.symm
      obtain rfl : fn = Tryd.f5 := (Option.some.inj (Tryd.func5.symm.trans hfn)).symm
      exact ⟨by kernel_rfl, fun j t ht => by
        rw [Tryd.params5] at ht
        have hm : t ∈ [22, 3, 23] := by
          have := Array.mem_of_getElem? ht
          simpa using this
        have hall : ([22, 3, 23].all fun u => !Tryd.prog.wantsStandIn u) = true := by kernel_rfl
        exact (show Tryd.prog.wantsStandIn t = false by simpa using List.all_eq_true.1 hall t hm)⟩)
    (by kernel_rfl)
end Go.Proofs.YtafbiejbnbocoaaDoor
#print axioms Go.Proofs.YtafbiejbnbocoaaDoor.opaFewer_holds
