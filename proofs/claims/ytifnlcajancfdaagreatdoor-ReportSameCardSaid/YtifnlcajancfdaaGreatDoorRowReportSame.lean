/- ReportSame: what is reckoned, and what is played, is the same, line by line; all is fine just if each task has a Bp: the row and its card, without any condition. -/
import Derived.Test.YtifnlcajancfdaaGreatDoorPo
import Derived.Test.YtifnlcajancfdaaGreatDoorR
import Derived.Test.YtifnlcajancfdaaGreatDoorCards
import Derived.Test.YtifnlcajancfdaaGreatDoorTie
import Derived.SevenTiedAt
set_option linter.unusedVariables false
set_option maxRecDepth 100000
set_option maxHeartbeats 2000000
namespace Go.Proofs.YtifnlcajancfdaaGreatDoor
open Go Go.ChangeShapes Go.WideShapes Go.ChangeAt Go.RowKit Go.L
theorem V3 (os:Os) (started:os.Started) (H:Type) (enc:TypeId × Value→H) :
  ReturnsInHanded {} Tryz.checked os 8 .any (fun w args => (Rows.reportSameSpec.pre enc Tryz.prog Tryz.f8 [] false w args∧laidMetH Tryz.prog Aej w)∧sizedMet enc Tryz.prog Tryz.f8 (OpenSpec.ofChange Rows.reportSameSpec) false w args)
   (Rows.reportSameSpec.post enc Tryz.prog Tryz.f8 false true false false):=by
 refine returnsInHanded_of_change_and (C:=Tryz.checked) (X:=fun w _ => laidMetH Tryz.prog Aej w) (fun _ _ _ hh h => h.of_heap hh) Tryz.own started (by kernel_rfl) Tryz.func8
  (ChangeSpec.witness_shaped (enc:=enc) (C:=Tryz.checked) (os:=os) (X:=fun w _ => laidMetH Tryz.prog Aej w) false (World.doorLaid Tryz.prog 400 os) #[.slice none 0 0,.int .i64 0] 8 rfl (World.shaped_of_RefB (by kernel_rfl) (by kernel_rfl)) (by kernel_rfl) (by kernel_rfl) (by kernel_rfl) (Axj os _)) ?_
 intro W base args ds gs before hval0 hW _ hsz0 hL _
 have hval:∀ (j:Nat) t v,Tryz.f8.params[j]? = some t→args[j]? = some v→Value.okWide Tryz.prog W .any base t v:=hval0
 have hsz:(DataW.weightsEach Tryz.prog (Tryz.f8.params.toList++Rows.reportSameSpec.plain.varTypes Tryz.prog) (ds++gs)).all (· ≤ reachBytes)=true:=hsz0
 have hW':=hW
 obtain ⟨p,q,hA0,hV,rfl,hfz,hnd⟩:=hW
 have hA:DataW.TrodAll enc Tryz.prog W 0 (fun _ => true) true Tryz.f8.params.toList args.toList ds p:=hA0
 rw [Tryz.params8] at hA hval
 obtain ⟨v0,v1,d0,d1,p0,p1,rfl,rfl,rfl,⟨n0,h0⟩,h1⟩:=trodAll_two hA
 obtain ⟨rfl,rfl⟩:=trodVars_none hV
 clear hA0 hval0 hsz0
 rw [Tryz.params8] at hsz
 have f0:=Aw9 hsz (j:=0) (t:=22) (d:=d0) rfl rfl
 have k0:=hval 0 22 v0 rfl rfl
 obtain ⟨a0,m0,c0,rfl⟩:=Aar Tryz.underlying22 k0
 obtain ⟨z1,rfl,rfl,rfl,y1⟩:=open_int Tryz.underlying3 (hval 1 3 v1 rfl rfl) h1
 obtain ⟨ι0,H0,L0,T0⟩:=Ar0 hL
 obtain ⟨ι1,H1,w0,w0',l0,e0,s0,L1,P1,r0,rd0⟩:=Awn (en:=Y0) L0 (fun _ => rfl) (fun _ => rfl) A6j Tryz.underlying22 Tryz.cellsSpec (by decide) Tryz.bytesSpec Aq4 h0 f0 (Ago Tryz.underlying22 k0)
 obtain rfl:=(List.cons.inj e0).1
 have hlaw:=Go.L.Try.Ali Go.L.Try.A46 Go.L.Try.A0q Go.L.Try.A3z (T0.pre P1).tab (Go.L.Try.A4k _ (T0.pre P1).is) rd0 (A2y y1)
 exact A0p Go.L.Try.A39 Go.L.Try.A46.Pt Tryz.laidOut (fn:=Tryz.f8) (s:=Rows.reportSameSpec) rfl (rb:=4) (by kernel_rfl) Tryz.underlying4 (by rw [Tryz.params8];intro t ht;simp at ht;rcases ht with rfl | rfl<;>exact ⟨by kernel_rfl,of_decide_eq_true (by kernel_rfl)⟩) rfl rfl rfl hW' L1
  (.cons r0 (.cons (.int _ _) .nil)) hlaw
theorem Aa1:Rows.ReportSameSaid :=
 OpenClaim.holds_of_wide 8 Tryz.f8 rfl rfl rfl rfl rfl rfl rfl ⟨rfl,rfl,rfl,rfl,rfl⟩ rfl rfl rfl rfl rfl (by kernel_rfl) Tryz.func8 (by kernel_rfl)
  (of_decide_eq_true (by kernel_rfl)) (by unfold Func.isWrapper;first | (rw [if_pos (by decide +kernel)];kernel_rfl) | (rw [if_neg (by decide +kernel)];exact ⟨rfl,rfl⟩))
  (fun os started H enc _ => V3 os started H enc)
theorem reportSame_holds:Rows.ReportSameCardSaid :=
 Claim7.holds_tied_plain_at .later [] [.data,.data,.data] true (true, "040894af26aa4a12589c51a308c25e5dc81b955525fb85fb55e1b68333f66c34") true
  Aa1 (fun _ h => by cases h) (by kernel_rfl) (fun _ h => by cases h) reportSame_row_tie rfl ⟨rfl,rfl⟩ (by kernel_rfl) rfl
  (fun f fn hf hfn => by
   obtain rfl:f=8:=Option.some.inj ((show Tryz.prog.funcNamed "cadency/cadencylaw23.ReportSame" = some 8 by kernel_rfl).symm.trans hf) |>.symm
   obtain rfl:fn=Tryz.f8:=(Option.some.inj (Tryz.func8.symm.trans hfn)).symm
   exact ⟨by kernel_rfl,fun j t ht => by
    rw [Tryz.params8] at ht
    have hm:t∈[22,3]:=by
     have:=Array.mem_of_getElem? ht
     simpa using this
    have hall:([22,3].all fun u => !Tryz.prog.wantsStandIn u)=true:=by kernel_rfl
    exact (show Tryz.prog.wantsStandIn t=false by simpa using List.all_eq_true.1 hall t hm)⟩)
  (by kernel_rfl)
end Go.Proofs.YtifnlcajancfdaaGreatDoor
#print axioms Go.Proofs.YtifnlcajancfdaaGreatDoor.reportSame_holds
