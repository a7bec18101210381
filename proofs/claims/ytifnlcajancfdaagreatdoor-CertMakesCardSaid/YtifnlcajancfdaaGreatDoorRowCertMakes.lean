/- CertMakes: the row and its card -/
import Derived.Test.YtifnlcajancfdaaGreatDoorPg
import Derived.Test.YtifnlcajancfdaaGreatDoorR
import Derived.Test.YtifnlcajancfdaaGreatDoorCards
import Derived.Test.YtifnlcajancfdaaGreatDoorTie
import Derived.SevenTiedAt
set_option linter.unusedVariables false
set_option maxRecDepth 100000
set_option maxHeartbeats 2000000
namespace Go.Proofs.YtifnlcajancfdaaGreatDoor
open Go Go.ChangeShapes Go.WideShapes Go.ChangeAt Go.RowKit Go.L
theorem certMakes_lifted (os : Os) (started : os.Started) (H : Type) (enc : TypeId × Value → H) :
    ReturnsInHanded {} Tryz.checked os 3 .any (fun w args => (Rows.certMakesSpec.pre enc Tryz.prog Tryz.f3 [] false w args ∧ laidMetH Tryz.prog laid1 w) ∧ sizedMet enc Tryz.prog Tryz.f3 (OpenSpec.ofChange Rows.certMakesSpec) false w args)
      (Rows.certMakesSpec.post enc Tryz.prog Tryz.f3 false true false false) := by
  refine returnsInHanded_of_change_and (C := Tryz.checked) (X := fun w _ => laidMetH Tryz.prog laid1 w) (fun _ _ _ hh h => h.of_heap hh) Tryz.own started (by kernel_rfl) Tryz.func3
    (ChangeSpec.witness_shaped (enc := enc) (C := Tryz.checked) (os := os) (X := fun w _ => laidMetH Tryz.prog laid1 w) false (World.doorLaid Tryz.prog 400 os) #[.slice none 0 0, .slice none 0 0, .int .i64 0] 8 rfl (World.shaped_of_RefB (by kernel_rfl) (by kernel_rfl)) (by kernel_rfl) (by kernel_rfl) (by kernel_rfl) (door_met os _)) ?_
  intro W base args ds gs before hval0 hW _ hsz0 hL _
  have hval : ∀ (j : Nat) t v, Tryz.f3.params[j]? = some t → args[j]? = some v → Value.okWide Tryz.prog W .any base t v := hval0
  have hsz : (DataW.weightsEach Tryz.prog (Tryz.f3.params.toList ++ Rows.certMakesSpec.plain.varTypes Tryz.prog) (ds ++ gs)).all (· ≤ reachBytes) = true := hsz0
  have hW' := hW
  obtain ⟨p, q, hA0, hV, rfl, hfz, hnd⟩ := hW
  have hA : DataW.TrodAll enc Tryz.prog W 0 (fun _ => true) true Tryz.f3.params.toList args.toList ds p := hA0
  rw [Tryz.params3] at hA hval
  obtain ⟨v0, v1, v2, d0, d1, d2, p0, p1, p2, rfl, rfl, rfl, ⟨n0, h0⟩, ⟨n1, h1⟩, h2⟩ := trodAll_three hA
  obtain ⟨rfl, rfl⟩ := trodVars_none hV
  clear hA0 hval0 hsz0
  rw [Tryz.params3] at hsz
  have f0 := few_each hsz (j := 0) (t := 22) (d := d0) rfl rfl
  have k0 := hval 0 22 v0 rfl rfl
  obtain ⟨a0, m0, c0, rfl⟩ := shape_of_slice Tryz.underlying22 k0
  have f1 := few_each hsz (j := 1) (t := 23) (d := d1) rfl rfl
  have k1 := hval 1 23 v1 rfl rfl
  obtain ⟨a1, m1, c1, rfl⟩ := shape_of_slice Tryz.underlying23 k1
  obtain ⟨z2, rfl, rfl, rfl, y2⟩ := open_int Tryz.underlying3 (hval 2 3 v2 rfl rfl) h2
  obtain ⟨ι0, H0, L0, T0⟩ := lay_start hL
  obtain ⟨ι1, H1, w0, w0', l0, e0, s0, L1, P1, r0, rd0⟩ := lay_flat (en := encSp) L0 (fun _ => rfl) (fun _ => rfl) five Tryz.underlying22 Tryz.cellsSpec (by decide) Tryz.bytesSpec spec_elem h0 f0 (any_of_slice Tryz.underlying22 k0)
  obtain rfl := (List.cons.inj e0).1
  obtain ⟨ι2, H2, w1, w1', l1, e1, s1, L2, P2, r1, rd1, g1⟩ := lay_flatP (en := encT) (good := fun a => a.name.size < 1152921504606846976) L1 (fun _ => rfl) (fun _ => rfl) seven Tryz.underlying23 Tryz.cellsTask (by decide) Tryz.bytesTask task_elem h1 f1 (any_of_slice Tryz.underlying23 k1)
  obtain rfl := (List.cons.inj e1).1
  have hlaw := Go.L.Try.certMakes Go.L.Try.laid Go.L.Try.laidAdd Go.L.Try.laidTz ((T0.pre P1).pre P2).tab (Go.L.Try.awakes _ ((T0.pre P1).pre P2).is) (rd0.pre P2) rd1 g1 (wf_i64 y2)
  exact law_row Go.L.Try.env_ok Go.L.Try.laid.law20_CertMakes Tryz.laidOut (fn := Tryz.f3) (s := Rows.certMakesSpec) rfl (rb := 4) (by kernel_rfl) Tryz.underlying4 (by rw [Tryz.params3]; intro t ht; simp at ht; rcases ht with rfl | rfl | rfl <;> exact ⟨by kernel_rfl, of_decide_eq_true (by kernel_rfl)⟩) rfl rfl rfl hW' L2
    (.cons (r0.mono s1) (.cons r1 (.cons (.int _ _) .nil))) hlaw
theorem certMakes_row : Rows.CertMakesSaid :=
  OpenClaim.holds_of_wide 3 Tryz.f3 rfl rfl rfl rfl rfl rfl rfl ⟨rfl, rfl, rfl, rfl, rfl⟩ rfl rfl rfl rfl rfl (by kernel_rfl) Tryz.func3 (by kernel_rfl)
    (of_decide_eq_true (by kernel_rfl)) (by unfold Func.isWrapper; first | (rw [if_pos (by decide +kernel)]; kernel_rfl) | (rw [if_neg (by decide +kernel)]; exact ⟨rfl, rfl⟩))
    (fun os started H enc _ => certMakes_lifted os started H enc)
theorem certMakes_holds : Rows.CertMakesCardSaid :=
  Claim7.holds_tied_plain_at .later [] [.data, .data, .data] true (true, "040894af26aa4a12589c51a308c25e5dc81b955525fb85fb55e1b68333f66c34") true
    certMakes_row (fun _ h => by cases h) (by kernel_rfl) (fun _ h => by cases h) certMakes_row_tie rfl ⟨rfl, rfl⟩ (by kernel_rfl) rfl
    (fun f fn hf hfn => by
      obtain rfl : f = 3 := Option.some.inj ((show Tryz.prog.funcNamed "cadency/cadencylaw20.CertMakes" = some 3 by kernel_rfl).symm.trans hf) |>.symm
      obtain rfl : fn = Tryz.f3 := (Option.some.inj (Tryz.func3.symm.trans hfn)).symm
      exact ⟨by kernel_rfl, fun j t ht => by
        rw [Tryz.params3] at ht
        have hm : t ∈ [22, 23, 3] := by
          have := Array.mem_of_getElem? ht
          simpa using this
        have hall : ([22, 23, 3].all fun u => !Tryz.prog.wantsStandIn u) = true := by kernel_rfl
        exact (show Tryz.prog.wantsStandIn t = false by simpa using List.all_eq_true.1 hall t hm)⟩)
    (by kernel_rfl)
end Go.Proofs.YtifnlcajancfdaaGreatDoor
#print axioms Go.Proofs.YtifnlcajancfdaaGreatDoor.certMakes_holds
