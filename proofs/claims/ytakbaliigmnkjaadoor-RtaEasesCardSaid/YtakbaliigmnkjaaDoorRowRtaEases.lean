/- RtaEases: a task that is easier makes no bound greater: each that had one has one; of every input, at the value of the variable that the program itself lays. -/
import Derived.Test.YtakbaliigmnkjaaDoorPg
import Derived.Test.YtakbaliigmnkjaaDoorR
import Derived.Test.YtakbaliigmnkjaaDoorCards
import Derived.Test.YtakbaliigmnkjaaDoorTie
import Derived.SevenTiedAt
set_option linter.unusedVariables false
set_option maxRecDepth 100000
set_option maxHeartbeats 2000000
namespace Go.Proofs.YtakbaliigmnkjaaDoor
open Go Go.ChangeShapes Go.WideShapes Go.ChangeAt Go.RowKit Go.L
theorem rtaEases_lifted (os : Os) (started : os.Started) (H : Type) (enc : TypeId × Value → H) :
    ReturnsInHanded {} Tryd.checked os 7 .any (fun w args => (Rows.rtaEasesSpec.pre enc Tryd.prog Tryd.f7 [] false w args ∧ laidMetH Tryd.prog laid1 w) ∧ sizedMet enc Tryd.prog Tryd.f7 (OpenSpec.ofChange Rows.rtaEasesSpec) false w args)
      (Rows.rtaEasesSpec.post enc Tryd.prog Tryd.f7 false true false false) := by
  refine returnsInHanded_of_change_and (C := Tryd.checked) (X := fun w _ => laidMetH Tryd.prog laid1 w) (fun _ _ _ hh h => h.of_heap hh) Tryd.own started (by kernel_rfl) Tryd.func7
    (ChangeSpec.witness_shaped (enc := enc) (C := Tryd.checked) (os := os) (X := fun w _ => laidMetH Tryd.prog laid1 w) false (World.doorLaid Tryd.prog 400 os) #[.slice none 0 0, .agg #[.int .i64 0, .int .i64 0], .int .i64 0] 8 rfl (World.shaped_of_RefB (by kernel_rfl) (by kernel_rfl)) (by kernel_rfl) (by kernel_rfl) (by kernel_rfl) (door_met os _)) ?_
  intro W base args ds gs before hval0 hW _ hsz0 hL _
  have hval : ∀ (j : Nat) t v, Tryd.f7.params[j]? = some t → args[j]? = some v → Value.okWide Tryd.prog W .any base t v := hval0
  have hsz : (DataW.weightsEach Tryd.prog (Tryd.f7.params.toList ++ Rows.rtaEasesSpec.plain.varTypes Tryd.prog) (ds ++ gs)).all (· ≤ reachBytes) = true := hsz0
  have hW' := hW
  obtain ⟨p, q, hA0, hV, rfl, hfz, hnd⟩ := hW
  have hA : DataW.TrodAll enc Tryd.prog W 0 (fun _ => true) true Tryd.f7.params.toList args.toList ds p := hA0
  rw [Tryd.params7] at hA hval
  obtain ⟨v0, v1, v2, d0, d1, d2, p0, p1, p2, rfl, rfl, rfl, ⟨n0, h0⟩, h1, h2⟩ := trodAll_three hA
  obtain ⟨rfl, rfl⟩ := trodVars_none hV
  clear hA0 hval0 hsz0
  rw [Tryd.params7] at hsz
  have f0 := few_each hsz (j := 0) (t := 29) (d := d0) rfl rfl
  have k0 := hval 0 29 v0 rfl rfl
  obtain ⟨a0, m0, c0, rfl⟩ := shape_of_slice Tryd.underlying29 k0
  obtain ⟨z1, u1, rfl, y1, x1⟩ := open_pair (hval 1 47 v1 rfl rfl) h1
  obtain ⟨z2, rfl, rfl, rfl, y2⟩ := open_int Tryd.underlying3 (hval 2 3 v2 rfl rfl) h2
  obtain ⟨ι0, H0, L0, T0⟩ := lay_start hL
  obtain ⟨ι1, H1, w0, w0', l0, e0, s0, L1, P1, r0, rd0⟩ := lay_flat (en := encSp) L0 (fun _ => rfl) (fun _ => rfl) five Tryd.underlying29 Tryd.cellsSpec (by decide) Tryd.bytesSpec spec_elem h0 f0 (any_of_slice Tryd.underlying29 k0)
  obtain rfl := (List.cons.inj e0).1
  have hlaw := Go.L.Try.rtaEases Go.L.Try.laid Go.L.Try.laidAdd Go.L.Try.laidTz (T0.pre P1) rd0 (wf_i64 y1) (wf_i64 x1) (wf_i64 y2)
  exact law_row Go.L.Try.env_ok Go.L.Try.laid.cadencylaw14_RtaEases Tryd.laidOut (fn := Tryd.f7) (s := Rows.rtaEasesSpec) rfl (rb := 4) (by kernel_rfl) Tryd.underlying4 (by rw [Tryd.params7]; intro t ht; simp at ht; rcases ht with rfl | rfl | rfl <;> exact ⟨by kernel_rfl, of_decide_eq_true (by kernel_rfl)⟩) rfl rfl rfl hW' L1
    (.cons r0 (.cons (.agg (.cons (.int _ _) (.cons (.int _ _) .nil))) (.cons (.int _ _) .nil))) hlaw
theorem rtaEases_row : Rows.RtaEasesSaid :=
  OpenClaim.holds_of_wide 7 Tryd.f7 rfl rfl rfl rfl rfl rfl rfl ⟨rfl, rfl, rfl, rfl, rfl⟩ rfl rfl rfl rfl rfl (by kernel_rfl) Tryd.func7 (by kernel_rfl)
    (of_decide_eq_true (by kernel_rfl)) (by unfold Func.isWrapper; first | (rw [if_pos (by decide +kernel)]; kernel_rfl) | (rw [if_neg (by decide +kernel)]; exact ⟨rfl, rfl⟩))
    (fun os started H enc _ => rtaEases_lifted os started H enc)
theorem rtaEases_holds : Rows.RtaEasesCardSaid :=
  Claim7.holds_tied_plain_at .later [] [.data] true (true, "c4fccc05e3886d810055458c7af56d21e05880e0f2137840040a13e8437d341e") false
    rtaEases_row (fun _ h => by cases h) (by kernel_rfl) (fun _ h => by cases h) rtaEases_row_tie rfl ⟨rfl, rfl⟩ (by kernel_rfl) rfl
    (fun f fn hf hfn => by
      obtain rfl : f = 7 := Option.some.inj ((show Tryd.prog.funcNamed "cadency/cadencylaw14.RtaEases" = some 7 by kernel_rfl).symm.trans hf) |>.symm
      obtain rfl : fn = Tryd.f7 := (Option.some.inj (Tryd.func7.symm.trans hfn)).symm
      exact ⟨by kernel_rfl, fun j t ht => by
        rw [Tryd.params7] at ht
        have hm : t ∈ [29, 47, 3] := by
          have := Array.mem_of_getElem? ht
          simpa using this
        have hall : ([29, 47, 3].all fun u => !Tryd.prog.wantsStandIn u) = true := by kernel_rfl
        exact (show Tryd.prog.wantsStandIn t = false by simpa using List.all_eq_true.1 hall t hm)⟩)
    (by kernel_rfl)
end Go.Proofs.YtakbaliigmnkjaaDoor
#print axioms Go.Proofs.YtakbaliigmnkjaaDoor.rtaEases_holds
