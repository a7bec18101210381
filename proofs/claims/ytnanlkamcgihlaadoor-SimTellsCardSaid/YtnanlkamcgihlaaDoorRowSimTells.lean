/- SimTells: what is played, and the Br that comes of it, are told as the document says: the row and its card, without any condition. -/
import Derived.Test.YtnanlkamcgihlaaDoorPo
import Derived.Test.YtnanlkamcgihlaaDoorR
import Derived.Test.YtnanlkamcgihlaaDoorCards
import Derived.Test.YtnanlkamcgihlaaDoorTie
import Derived.SevenTiedAt
set_option linter.unusedVariables false
set_option maxRecDepth 100000
set_option maxHeartbeats 2000000
namespace Go.Proofs.YtnanlkamcgihlaaDoor
open Go Go.ChangeShapes Go.WideShapes Go.ChangeAt Go.RowKit Go.L
theorem X3 (os:Os) (started:os.Started) (H:Type) (enc:TypeId × Value → H) :
  ReturnsInHanded {} Tryd.checked os 3 .any (fun w args => (Rows.simTellsSpec.pre enc Tryd.prog Tryd.f3 [] false w args ∧ laidMetH Tryd.prog Ac8 w) ∧ sizedMet enc Tryd.prog Tryd.f3 (OpenSpec.ofChange Rows.simTellsSpec) false w args)
   (Rows.simTellsSpec.post enc Tryd.prog Tryd.f3 false true false false):=by
 refine returnsInHanded_of_change_and (C:=Tryd.checked) (X:=fun w _ => laidMetH Tryd.prog Ac8 w) (fun _ _ _ hh h => h.of_heap hh) Tryd.own started (by kernel_rfl) Tryd.func3
  (ChangeSpec.witness_shaped (enc:=enc) (C:=Tryd.checked) (os:=os) (X:=fun w _ => laidMetH Tryd.prog Ac8 w) false (World.doorLaid Tryd.prog 400 os) #[.slice none 0 0,.slice none 0 0,.int .i64 0] 8 rfl (World.shaped_of_RefB (by kernel_rfl) (by kernel_rfl)) (by kernel_rfl) (by kernel_rfl) (by kernel_rfl) (Avb os _)) ?_
 intro W l args ds gs o e hW _ f hL _
 have c:∀ (j:Nat) t v,Tryd.f3.params[j]? = some t → args[j]? = some v → Value.okWide Tryd.prog W .any l t v:=e
 have g:(DataW.weightsEach Tryd.prog (Tryd.f3.params.toList ++ Rows.simTellsSpec.plain.varTypes Tryd.prog) (ds ++ gs)).all (· ≤ reachBytes) = true:=f
 have u:=hW
 obtain ⟨p,q,m,hV,rfl,a5,a4⟩:=hW
 have hA:DataW.TrodAll enc Tryd.prog W 0 (fun _ => true) true Tryd.f3.params.toList args.toList ds p:=m
 rw [Tryd.params3] at hA c
 obtain ⟨v0,v1,v2,d0,d1,d2,p0,p1,p2,rfl,rfl,rfl,⟨n0,h0⟩,⟨n1,h1⟩,h2⟩:=trodAll_three hA
 obtain ⟨rfl,rfl⟩:=trodVars_none hV
 clear m e f
 rw [Tryd.params3] at g
 have f0:=Aig g (j:=0) (t:=22) (d:=d0) rfl rfl
 have k0:=c 0 22 v0 rfl rfl
 obtain ⟨a0,m0,c0,rfl⟩:=Ri Tryd.underlying22 k0
 have f1:=Aig g (j:=1) (t:=23) (d:=d1) rfl rfl
 have y:=c 1 23 v1 rfl rfl
 obtain ⟨a1,m1,c1,rfl⟩:=Ri Tryd.underlying23 y
 obtain ⟨z2,rfl,rfl,rfl,y2⟩:=open_int Tryd.underlying3 (c 2 3 v2 rfl rfl) h2
 obtain ⟨ι0,H0,L0,T0⟩:=Ap8 hL
 obtain ⟨ι1,H1,w0,a2,l0,e0,s0,L1,P1,r0,x⟩:=Aul (en:=Xv) L0 (fun _ => rfl) (fun _ => rfl) A26 Tryd.underlying22 Tryd.cellsSpec (by decide) Tryd.bytesSpec Aph h0 f0 (V8 Tryd.underlying22 k0)
 obtain rfl:=(List.cons.inj e0).1
 obtain ⟨ι2,H2,w1,a3,l1,e1,s1,L2,P2,r1,r,g1⟩:=Ap9 (en:=Ar) (good:=fun a => a.name.size < 1152921504606846976) L1 (fun _ => rfl) (fun _ => rfl) A1l Tryd.underlying23 Tryd.cellsTask (by decide) Tryd.bytesTask Ape h1 f1 (V8 Tryd.underlying23 y)
 obtain rfl:=(List.cons.inj e1).1
 have n:=Go.L.Try.Ar8 Go.L.Try.laid Go.L.Try.A0n ((T0.pre P1).pre P2).tab (Go.L.Try.A08 _ ((T0.pre P1).pre P2).is) (x.pre P2) r g1 (Azo y2)
 exact Axs Go.L.Try.A0y Go.L.Try.laid.R5 Tryd.laidOut (fn:=Tryd.f3) (s:=Rows.simTellsSpec) rfl (rb:=4) (by kernel_rfl) Tryd.underlying4 (by rw [Tryd.params3];intro t z;simp at z;rcases z with rfl | rfl | rfl <;> exact ⟨by kernel_rfl,of_decide_eq_true (by kernel_rfl)⟩) rfl rfl rfl u L2
  (.cons (r0.mono s1) (.cons r1 (.cons (.int _ _) .nil))) n
theorem Ad3:Rows.SimTellsSaid :=
 OpenClaim.holds_of_wide 3 Tryd.f3 rfl rfl rfl rfl rfl rfl rfl ⟨rfl,rfl,rfl,rfl,rfl⟩ rfl rfl rfl rfl rfl (by kernel_rfl) Tryd.func3 (by kernel_rfl)
  (of_decide_eq_true (by kernel_rfl)) (by unfold Func.isWrapper;first | (rw [if_pos (by decide +kernel)];kernel_rfl) | (rw [if_neg (by decide +kernel)];exact ⟨rfl,rfl⟩))
  (fun os started H enc _ => X3 os started H enc)
theorem simTells_holds:Rows.SimTellsCardSaid :=
 Claim7.holds_tied_plain_at .later [] [.data] true (true, "771debd345814c3d3dafb7ef77dd342a4894cfe1e09f560c846ce3d5e61cc849") false
  Ad3 (fun _ h => by cases h) (by kernel_rfl) (fun _ h => by cases h) simTells_row_tie rfl ⟨rfl,rfl⟩ (by kernel_rfl) rfl
  (fun f fn hf hfn => by
   obtain rfl:f = 3:=Option.some.inj ((show Tryd.prog.funcNamed "cadency/cadencylaw16.SimTells" = some 3 by kernel_rfl).symm.trans hf) |>.symm
   obtain rfl:fn = Tryd.f3:=(Option.some.inj (Tryd.func3.symm.trans hfn)).symm
   exact ⟨by kernel_rfl,fun j t ht => by
    rw [Tryd.params3] at ht
    have hm:t ∈ [22,23,3]:=by
     have:=Array.mem_of_getElem? ht
     simpa using this
    have a:([22,23,3].all fun u => !Tryd.prog.wantsStandIn u) = true:=by kernel_rfl
    exact (show Tryd.prog.wantsStandIn t = false by simpa using List.all_eq_true.1 a t hm)⟩)
  (by kernel_rfl)
end Go.Proofs.YtnanlkamcgihlaaDoor
#print axioms Go.Proofs.YtnanlkamcgihlaaDoor.simTells_holds
