/- THE EXECUTIVE's STEPS: exec.executive.work. -/
import Derived.Test.YtnanlkamcgihlaaDoorPh
import Derived.Test.YtnanlkamcgihlaaDoorPf
import Derived.Test.YtnanlkamcgihlaaDoorPg
import Derived.Test.YtnanlkamcgihlaaDoorPc
set_option linter.unusedVariables false
set_option linter.unusedSimpArgs false
set_option maxRecDepth 100000
set_option maxHeartbeats 2000000
namespace Go.L.Try
open Go Go.L
variable {E:Env}
variable {h0 h h':Aa} {lv:Value} {P:Int → Int} {n:Nat} {l:List Ac} {jobs:List Job} {g:Gh} {s:XS} {r:RS}
theorem XInv.spans0 (k:XInv h0 lv P jobs g h s) {tag':Nat → Nat} (f:Foot g.tag tag' 3 h h') {L:List Span} (hS:CS tag' h0 h' g.vs L):XInv h0 lv P jobs { g with tag:=tag' } h' { s with spans:=L } where
 B:=k.B.fr f (by decide)
 H:=k.H.fr f (by decide)
 M:=k.M.fr f (by decide)
 Q:=fun t l h => ⟨(k.Q t l h).1,(k.Q t l h).2.fr f (by omega)⟩
 W:=fun t i h => (k.W t i h).fr f (by omega)
 S:=hS
 E:=k.E.fr f (by decide)
 X:=k.X.fr f (by decide)
 jr:=k.jr
 cr:=k.cr
theorem Au2 (hE:As E) (c:Ctx E h0 lv P n l jobs) (k:XInv h0 lv P jobs g h s) (sim:SimC jobs s r) {i:Nat} (hr:s.running = some i) {N:Int} (hN:0 < N) (hNl:N ≤ s.left i) (hnow:0 ≤ s.now ∧ s.now + N < 4611686018427387904) (hlf:s.left i ≤ 2147483647) (hsc:0 ≤ s.sec i ∧ s.sec i ≤ 2147483647) (hsp:(s.spans.length:Int) ≤ 1099511627776) (hel:s.ends.length = jobs.length) {W:Nat → Prop} (hW:∀ b,h0.length ≤ b → W b) :
  WX W (callW E (.func (.func Ap) #[Aq g.x] #[]) [.int .i64 N] h) (fun _ h' => ∃ g',XInv h0 lv P jobs g' h' (Ph jobs s i N) ∧ g'.x = g.x):=by
 refine E8 hE.Tl rfl (by simp) ?_
 simp only [List.nil_append,List.cons_append,Ai]
 obtain ⟨b9,c2,af⟩:=Fy sim hr
 have a0:D3 g s = Aq (g.w i):=by unfold D3;rw [hr]
 have K:=Hid.mk k
 have Sim:=Hid.mk sim
 have Hr:=Hid.mk hr
 have b8:=Hid.mk a0
 have bk:=Hid.mk hel
 obtain ⟨vc,w1,w2,w3⟩:=k.W _ i af
 have hx:h[g.x]? = some (.cells [g.vj,g.vc,Aq g.hb,.map (some g.mb),.int .i64 s.now,g.vs,g.ve,D3 g s] false):=k.X.is
 have rs:=k.S.own.rd
 rw [a0] at hx
 have a3:=(GI.1 hx).1
 have b3:=hW g.x (k.B.ge (by rw [k.X.tag];decide))
 have az:=hW (g.w i) (k.B.ge (by rw [w3];omega))
 have W3:=Hid.mk w3
 clear k sim hr a0 w3 hel
 refine WO.cut (fun fr h' => h' = h ∧ get fr 0 = Aq g.x ∧ get fr 1 = .int .i64 N ∧ get fr 4 = Aq (g.w i)) ?_ ?_
 ·(repeat' simp -dsimp (disch:=omega) only [↓EA,EB,Nat.reduceEqDiff,↓reduceIte,reduceCtorEq,eq_self, *])
 rintro fr h1 ⟨rfl,g0,g1,g4⟩
 refine WO.cut (fun fr h' => h' = h1 ∧ get fr 0 = Aq g.x ∧ get fr 1 = .int .i64 N ∧ get fr 4 = Aq (g.w i) ∧ get fr 5 = .int .i64 ((s.spans.length:Int) - 1)) ?_ ?_
 ·(repeat' simp -dsimp (disch:=omega) only [↓EA,EB,Nat.reduceEqDiff,↓reduceIte,reduceCtorEq,eq_self, *,rs.len])
 clear g0 g1 g4
 rintro fr h1 ⟨rfl,g0,g1,g4,g5⟩
 refine WO.cut (fun fr h' => (∃ g',XInv h0 lv P jobs g' h' { s with spans:=Dm s.spans i s.now N } ∧ g'.x = g.x ∧ g'.w = g.w ∧ g'.tag (g.w i) = 7 + 2 * i) ∧ get fr 0 = Aq g.x ∧ get fr 1 = .int .i64 N ∧ get fr 4 = Aq (g.w i)) ?_ ?_
 ·have ag:∀ X:Prop,WL h1.length g.vs X = X:=fun X => by
   have ho:=K.out.S.own
   generalize g.vs = v at ho
   unfold OwnT at ho
   generalize s.spans.map Nt = LL at ho
   cases ho with
   | nil => simp [WL,low]
   | some hm hb _ _ _ => have:=(GI.1 hb).1;simp [WL,low,this]
  have HV:=Hid.mk ag
  clear ag
  (repeat' (first | (with_reducible refine A1 (fun _ => ?_) (fun _ => ?_) <;> try (exfalso;omega)) | (with_reducible refine A3 (fun _ => ?_) (fun _ => ?_) <;> try (exfalso;omega)) | simp -dsimp (disch:=omega) only [↓EA,EB,Nat.reduceEqDiff,↓reduceIte,reduceCtorEq,eq_self, *,rs.ixs,rs.ld,rs.ld0,Nt]))
  ·have a5:(0:Int) < s.spans.length:=by omega
   have a4:s.spans ≠ []:=fun e => by rw [e] at a5;exact absurd a5 (by decide)
   have e:Dm s.spans i s.now N = s.spans.set ((s.spans.length:Int) - 1).toNat { atI s.spans ((s.spans.length:Int) - 1) with to':=(atI s.spans ((s.spans.length:Int) - 1)).to' + N }:=if_pos ⟨a5,by assumption,by assumption⟩
   have bi:(atI s.spans ((s.spans.length:Int) - 1)).to' = s.now:=by assumption
   have He:=Hid.mk e
   clear e
   refine Ad0 K.out.S.own hW (fo:=2) { atI s.spans ((s.spans.length:Int) - 1) with to':=(atI s.spans ((s.spans.length:Int) - 1)).to' + N } (by omega) (by omega) (by decide) rfl (by rw [bi];rfl) fun h' o' bx be => ?_
   have f:Foot g.tag g.tag 3 h1 h':=⟨by omega,fun b hb hn => be b fun e => hn (by rw [e];exact K.out.S.tag a4),fun _ _ => rfl⟩
   have z:=K.out.spans0 f (L:=s.spans.set ((s.spans.length:Int) - 1).toNat { atI s.spans ((s.spans.length:Int) - 1) with to':=(atI s.spans ((s.spans.length:Int) - 1)).to' + N }) ⟨o',fun _ => K.out.S.tag a4⟩
   rw [← He.out] at z
   have K2:=Hid.mk z
   clear z
   (repeat' simp -dsimp (disch:=omega) only [↓EA,EB,Nat.reduceEqDiff,↓reduceIte,reduceCtorEq,eq_self, *])
   exact ⟨_,K2.out,rfl,rfl,W3.out⟩
  all_goals
   have e:Dm s.spans i s.now N = s.spans ++ [⟨i,s.now,s.now + N⟩]:=if_neg (by
    rintro ⟨a,b,c⟩
    first
     | exact absurd b (by assumption)
     | exact absurd c (by assumption)
     | omega)
   rw [e]
   have ag:=HV.out
   have bc:∀ y,(h1 ++ y)[g.x]? = some (.cells [g.vj,g.vc,Aq g.hb,.map (some g.mb),.int .i64 s.now,g.vs,g.ve,Aq (g.w i)] false):=fun y => by rw [GL a3];exact hx
   have bg:∀ y,(h1 ++ y)[g.w i]? = some (.cells [.int .i64 i,.int .i64 (jb jobs i).task,.int .i64 (s.left i),.int .i64 (s.sec i),vc] false):=fun y => by rw [GL (GI.1 w1).1];exact w1
   clear e
   (repeat' simp -dsimp (disch:=omega) only [↓EA,EB,Nat.reduceEqDiff,Nat.reduceAdd,Nat.reduceLeDiff,Nat.reduceMul,↓reduceIte,reduceCtorEq,Ab,Q7,eq_self, *,Av8])
   have aj:s.spans ≠ [] → g.x ≠ blk g.vs:=fun hn e => by
    have h1:=K.out.S.tag hn
    rw [← e] at h1
    have:=K.out.X.tag
    omega
   refine Pg (K.out.S.own.app _) (K.out.B.pre.app' _) (Nat.le_refl _) (by have:=K.out.B.pre.le;rw [LA];omega) (fun hn => hW _ (K.out.S.own.ge hn)) (⟨i,s.now,s.now + N⟩:Span) (by rw [Ci,Bh];rfl) rfl (by decide) (by decide) (by omega) fun v' h2 o2 p2 b2 bj ae => ?_
   rw [LA,List.length_singleton] at b2 bj ae
   have f:Foot g.tag (J3 g.tag h1.length 3) 3 h1 h2:=⟨by omega,fun b hb hn => by
    rw [ae b (by omega) (fun bh e => hn (by rw [e];exact K.out.S.tag bh)),GL hb],fun b hb => if_pos hb⟩
   have z:=K.out.spans f (vs:=v') (L:=s.spans ++ [⟨i,s.now,s.now + N⟩]) ⟨o2,fun _ => by rw [b2];unfold J3;rw [if_neg (by omega)]⟩
   have bf:h2[g.x]? = some (.cells [g.vj,g.vc,Aq g.hb,.map (some g.mb),.int .i64 s.now,g.vs,g.ve,Aq (g.w i)] false):=by
    rw [ae g.x (by omega) aj,GL a3];exact hx
   have ov:=o2.rd.one
   have cv:=o2.rd.cv
   have bo:=(GI.1 bf).1
   have KF:Hid (XInv h0 lv P jobs { g with vs:=v',tag:=J3 g.tag h1.length 3 } (h2.set g.x (LObj.cells [g.vj,g.vc,Aq g.hb,.map (some g.mb),.int .i64 s.now,v',g.ve,Aq (g.w i)] false)) { s with spans:=s.spans ++ [⟨i,s.now,s.now + N⟩] }):=⟨by
    have e5:Lg { g with vs:=v' } { s with spans:=s.spans ++ [⟨i,s.now,s.now + N⟩] } = [g.vj,g.vc,Aq g.hb,.map (some g.mb),.int .i64 s.now,v',g.ve,D3 g s]:=rfl
    rw [b8.out] at e5
    rw [← e5];exact z⟩
   clear z f o2 ae bc bg aj ag
   (repeat' simp -dsimp (disch:=omega) only [↓EA,EB,Nat.reduceEqDiff,Nat.reduceAdd,Nat.reduceLeDiff,↓reduceIte,reduceCtorEq,eq_self, *])
   exact ⟨_,KF.out,rfl,rfl,by
    show J3 g.tag h1.length 3 (g.w i) = _
    rw [Ys (GI.1 w1).1];exact W3.out⟩
 clear hx rs a3 b3 az w1 g0 g1 g4 g5
 rintro fr h2 ⟨⟨d,z,a8,ai,am⟩,g0,g1,g4⟩
 rw [← a8] at g0 ⊢
 rw [← ai] at g4 am
 obtain ⟨m,hq⟩:=Sim.out.run i Hr.out
 have ay:s.Q (jb jobs i).task = some (i :: m):=by rw [← hq];exact Akg af
 obtain ⟨vc,w1,w2,w3⟩:=z.W _ i af
 have hx:h2[d.x]? = some (.cells [d.vj,d.vc,Aq d.hb,.map (some d.mb),.int .i64 s.now,d.vs,d.ve,D3 d s] false):=z.X.is
 have a0:D3 d s = Aq (d.w i):=by unfold D3;rw [Hr.out]
 rw [a0] at hx
 dsimp only at w1 w2 w3
 have a3:=(GI.1 hx).1
 have b3:=hW d.x (z.B.ge (by rw [z.X.tag];decide))
 have az:=hW (d.w i) (z.B.ge (by rw [w3];omega))
 have a4:d.w i ≠ d.x:=by
  intro e
  rw [e] at w3
  have:=z.X.tag
  omega
 have k3:=z.setX (vc:=d.vc) (now:=s.now + N) (running:=s.running) (coming:=s.coming) z.cr
 obtain ⟨h3,ac⟩:∃ h3:Aa,h3 = List.set h2 d.x (LObj.cells [d.vj,d.vc,Aq d.hb,.map (some d.mb),.int .i64 (s.now + N),d.vs,d.ve,Aq (d.w i)] false):=⟨_,rfl⟩
 have K3:Hid (XInv h0 lv P jobs d h3 { s with spans:=Dm s.spans i s.now N,now:=s.now + N }):=⟨by
  rw [ac,← a0];exact k3⟩
 have ab:h3[d.x]? = some (LObj.cells [d.vj,d.vc,Aq d.hb,.map (some d.mb),.int .i64 (s.now + N),d.vs,d.ve,Aq (d.w i)] false):=by rw [ac];exact Bq a3
 have a7:h3[d.w i]? = some (.cells [.int .i64 i,.int .i64 (jb jobs i).task,.int .i64 (s.left i),.int .i64 (s.sec i),vc] false):=by rw [ac,An (Ne.symm a4)];exact w1
 have bl:=Hid.mk ac.symm
 have H3:=Hid.mk (AI ab a7)
 have bt:=Hid.mk a8
 have b6:=Hid.mk a4
 have W2:=Hid.mk w2
 have bz:=w2.one
 have c1:=w2.cv
 have as:=Hid.mk ay
 have Hq:=Hid.mk hq
 clear ac ab a7 a8 ai a4 z k3 a0 w2 ay hq
 (repeat' simp -dsimp (disch:=omega) only [↓EA,EB,Nat.reduceEqDiff,Nat.reduceAdd,Nat.reduceLeDiff,↓reduceIte,reduceCtorEq,eq_self, *])
 rw [bl.out]
 clear hx a3 w1
 obtain ⟨ab,a7⟩:=H3.out
 have ar:=(GI.1 a7).1
 have k4:=K3.out.setW (t:=(jb jobs i).task) (i:=i) af (left:=s.left i - N) (sec:=max (s.sec i - N) 0) (cuts:=s.cuts i) W2.out
 have K4:Hid (XInv h0 lv P jobs d (h3.set (d.w i) (LObj.cells [.int .i64 i,.int .i64 (jb jobs i).task,.int .i64 (s.left i - N),.int .i64 (max (s.sec i - N) 0),vc] false)) { s with spans:=Dm s.spans i s.now N,now:=s.now + N,left:=at1 s.left i (s.left i - N),sec:=at1 s.sec i (max (s.sec i - N) 0) }):=⟨by
  have e:at1 s.cuts i (s.cuts i) = s.cuts:=Abg
  dsimp only at k4
  rw [e] at k4
  exact k4⟩
 obtain ⟨h4,u⟩:∃ h4:Aa,h4 = List.set h3 (d.w i) (LObj.cells [.int .i64 i,.int .i64 (jb jobs i).task,.int .i64 (s.left i - N),.int .i64 (max (s.sec i - N) 0),vc] false):=⟨_,rfl⟩
 rw [← u] at K4
 have a1:h4[d.x]? = some (LObj.cells [d.vj,d.vc,Aq d.hb,.map (some d.mb),.int .i64 (s.now + N),d.vs,d.ve,Aq (d.w i)] false):=by rw [u,An b6.out];exact ab
 have p:h4[d.w i]? = some (.cells [.int .i64 i,.int .i64 (jb jobs i).task,.int .i64 (s.left i - N),.int .i64 (max (s.sec i - N) 0),vc] false):=by rw [u];exact Bq ar
 have au:=fun o:LObj => Bq (h:=h3) (b:=d.w i) (o:=o) ar
 clear k4
 by_cases hz:s.left i - N = 0
 ·have a9:Ph jobs s i N = { s with now:=s.now + N,spans:=Dm s.spans i s.now N,left:=at1 s.left i 0,sec:=at1 s.sec i (max (s.sec i - N) 0),ends:=s.ends.set i (s.now + N),running:=none,Q:=at1 s.Q (jb jobs i).task (some m),ready:=if m = [] then s.ready else (jb jobs i).task :: s.ready }:=by
   unfold Ph
   rw [if_pos hz,hz,Hq.out];rfl
  rw [hz] at u K4 p
  have H4:=Hid.mk (AI a1 p)
  have ap:=Hid.mk u.symm
  have ad:=Hid.mk a9
  clear u a1 p a9
  have bv:(0:Int) = 0:=rfl
  (repeat' simp -dsimp (disch:=omega) only [↓EA,EB,Nat.reduceEqDiff,Nat.reduceAdd,Nat.reduceLeDiff,↓reduceIte,reduceCtorEq,eq_self, *,List.set_set])
  rw [ap.out]
  obtain ⟨a1,p⟩:=H4.out
  clear au ab a7 ar
  have ho:=K4.out.E.own
  have b1:(i:Int) < s.ends.length:=by rw [bk.out];omega
  have ax:s.ends ≠ []:=fun e => by rw [e] at b1;simp at b1;omega
  have re:=ho.rd
  have ak:=K4.out.E.tag (RdO.ne ho ax)
  (repeat' simp -dsimp (disch:=omega) only [↓EA,EB,Nat.reduceEqDiff,↓reduceIte,reduceCtorEq,eq_self, *,re.ixs])
  refine Awe ho hW (s.now + N) (i:=(i:Int)) (by omega) (by omega) (by decide) rfl rfl fun h5 o5 bu b7 => ?_
  rw [Int.toNat_natCast] at o5
  have f5:Foot d.tag d.tag 4 h4 h5:=⟨by omega,fun b hb hn => b7 b fun e => hn (by rw [e];exact ak),fun _ _ => rfl⟩
  have k5:=K4.out.ends f5 (L:=s.ends.set i (s.now + N)) ⟨o5,fun _ => ak⟩
  have b5:h5[d.x]? = some (LObj.cells [d.vj,d.vc,Aq d.hb,.map (some d.mb),.int .i64 (s.now + N),d.vs,d.ve,Aq (d.w i)] false):=(f5.get a1 (by rw [K4.out.X.tag];decide)).1
  have av:=(f5.get p (by show d.tag (d.w i) ≠ 4;rw [w3];omega)).1
  have al:=(GI.1 b5).1
  have k6:=k5.setX (vc:=d.vc) (now:=s.now + N) (running:=none) (coming:=s.coming) k5.cr
  obtain ⟨h6,a6⟩:∃ h6:Aa,h6 = List.set h5 d.x (LObj.cells [d.vj,d.vc,Aq d.hb,.map (some d.mb),.int .i64 (s.now + N),d.vs,d.ve,.pointer none] false):=⟨_,rfl⟩
  have K6:Hid (XInv h0 lv P jobs d h6 { s with spans:=Dm s.spans i s.now N,now:=s.now + N,left:=at1 s.left i 0,sec:=at1 s.sec i (max (s.sec i - N) 0),ends:=s.ends.set i (s.now + N),running:=none }):=⟨by rw [a6];exact k6⟩
  have ah:h6[d.x]? = some (LObj.cells [d.vj,d.vc,Aq d.hb,.map (some d.mb),.int .i64 (s.now + N),d.vs,d.ve,.pointer none] false):=by rw [a6];exact Bq al
  have aa:h6[d.w i]? = some (.cells [.int .i64 i,.int .i64 (jb jobs i).task,.int .i64 0,.int .i64 (max (s.sec i - N) 0),vc] false):=by rw [a6,An (Ne.symm b6.out)];exact av
  have H6:=Hid.mk (AI ah aa)
  have bm:=Hid.mk a6.symm
  clear k5 k6 a6 ah aa av f5 a1 p ho re o5 b7
  (repeat' simp -dsimp (disch:=omega) only [↓EA,EB,Nat.reduceEqDiff,Nat.reduceAdd,↓reduceIte,reduceCtorEq,eq_self, *])
  rw [bm.out]
  obtain ⟨ah,aa⟩:=H6.out
  clear b5 al
  obtain ⟨es,m1,m2,m3,m4⟩:=K6.out.M
  have lk:=Ue m2 (.pointer none) (jb jobs i).task
  rw [m3] at lk
  dsimp only at lk
  rw [as.out] at lk
  simp only [Option.map_some,Option.getD_some] at lk
  have b0:=A20 hE K6.out.B (K6.out.Q (jb jobs i).task (i :: m) as.out).2 (fun j hj => (K6.out.W (jb jobs i).task j (by show j ∈ s.q _;rw [Hq.out];exact hj)).lt) hW
  (repeat' simp -dsimp (disch:=omega) only [↓EA,EB,Nat.reduceEqDiff,↓reduceIte,reduceCtorEq,eq_self, *])
  refine WX.mono b0 (fun b hb => hb) fun v7 h7 ⟨br,f7,ao⟩ => ?_
  have k7:=K6.out.queue as.out f7 ao (fun j hj => K6.out.W (jb jobs i).task j (by show j ∈ s.q _;rw [Hq.out];exact List.mem_cons_of_mem _ hj))
  have c0:h7[d.x]? = some (LObj.cells [d.vj,d.vc,Aq d.hb,.map (some d.mb),.int .i64 (s.now + N),d.vs,d.ve,.pointer none] false):=k7.X.is
  have bw:=(f7.get aa (by show d.tag (d.w i) ≠ _;rw [w3];omega)).1
  have bd:=A0k hE ao
  have bb:(m.length:Int) ≤ 4096:=by
   have h5:=Ae5 (Sim.out.asc (jb jobs i).task) (fun x hx => ((Sim.out.mem _ x).1 hx).1)
   have h6:=c.few
   rw [Hq.out,List.length_cons] at h5
   omega
  have b4:=Aed c Sim.out
  have bn:=(Fy Sim.out Hr.out).2.1
  have K7:=Hid.mk k7
  clear k7 ah aa m1 m2 m3 m4 lk b0 ao f7
  by_cases a2:m = []
  ·have aw:(m.length:Int) = 0:=by rw [a2];rfl
   rw [aw] at bd
   have an:=Hid.mk a2
   clear a2 aw
   (repeat' (first | (with_reducible refine A3 (fun _ => ?_) (fun _ => ?_) <;> try (exfalso;omega)) | simp -dsimp (disch:=omega) only [↓EA,EB,Nat.reduceEqDiff,↓reduceIte,reduceCtorEq,eq_self, *]))
   obtain ⟨g',kf,aq⟩:∃ g',XInv h0 lv P jobs g' h7 (Ph jobs s i N) ∧ g'.x = d.x:=by
    refine ⟨?_,?_,?_⟩
    rotate_left
    ·rw [ad.out,if_pos an.out];exact K7.out
    ·rfl
   exact ⟨g',kf,aq⟩
  ·have bq:=List.length_pos_iff.2 a2
   have ba:=S4 hE c K7.out.B K7.out.H b4 (c.task b9) bn hW
   have an:=Hid.mk a2
   clear a2
   (repeat' (first | (with_reducible refine A3 (fun _ => ?_) (fun _ => ?_) <;> try (exfalso;omega)) | simp -dsimp (disch:=omega) only [↓EA,EB,Nat.reduceEqDiff,↓reduceIte,reduceCtorEq,eq_self, *]))
   refine WX.mono ba (fun b hb => hb) fun v8 h8 ⟨bp,f8,H8⟩ => ?_
   have k8:=K7.out.ready f8 H8
   have K8:=Hid.mk k8
   clear k8 f8 H8
   (repeat' simp -dsimp (disch:=omega) only [↓EA,EB, *])
   obtain ⟨g',kf,aq⟩:∃ g',XInv h0 lv P jobs g' h8 (Ph jobs s i N) ∧ g'.x = d.x:=by
    refine ⟨?_,?_,?_⟩
    rotate_left
    ·rw [ad.out,if_neg an.out];exact K8.out
    ·rfl
   exact ⟨g',kf,aq⟩
 ·have a9:Ph jobs s i N = { s with spans:=Dm s.spans i s.now N,now:=s.now + N,left:=at1 s.left i (s.left i - N),sec:=at1 s.sec i (max (s.sec i - N) 0) }:=by
   unfold Ph
   rw [if_neg hz]
  have H4:=Hid.mk (AI a1 p)
  have ap:=Hid.mk u
  have ad:=Hid.mk a9
  clear u a1 p a9
  (repeat' simp -dsimp (disch:=omega) only [↓EA,EB,Nat.reduceEqDiff,Nat.reduceAdd,Nat.reduceLeDiff,↓reduceIte,reduceCtorEq,eq_self, *,List.set_set])
  rw [ad.out,← ap.out]
  exact ⟨d,K4.out,rfl⟩
end Go.L.Try
namespace Go.L.Try
open Go Go.L
variable {E:Env}
variable {h0 h h':Aa} {lv:Value} {P:Int → Int} {n:Nat} {l:List Ac} {jobs:List Job} {g:Gh} {s:XS} {r:RS} {e:Int}
theorem U3 (S:Script l jobs) (sim:SimC jobs s r) (hi:RsInv jobs r) {t:Int} {i:Nat} (him:i ∈ s.q t):0 ≤ s.sec i ∧ s.sec i ≤ s.left i ∧ s.left i ≤ (jb jobs i).work:=by
 obtain ⟨e,_,_,_⟩:=(sim.mem _ i).1 him
 have a:=sim.cut _ i him
 have o:=sim.left _ i him
 obtain ⟨d,p⟩:=S.cuts e
 obtain ⟨pre,f,j,h2⟩:=a.is
 have g:=a.nn
 have u:=Nx fun c m => d c (show c ∈ (jb jobs i).cuts by rw [f];exact List.mem_append_left _ m)
 have n:J9 pre ≤ (jb jobs i).work:=by
  have:J9 (jb jobs i).cuts = J9 pre + J9 (s.cuts i):=by rw [f,U0]
  have:=Nx fun c m => d c (show c ∈ (jb jobs i).cuts by rw [f];exact List.mem_append_right _ m)
  omega
 refine ⟨g,?_,?_⟩
 ·have:=((sim.mem _ i).1 him).2.2.2
  rcases j with j | ⟨_,j,_⟩ <;> omega
 ·have:=(hi.done i e).1;omega
theorem Yo (sim:SimC jobs s r):∀ k ∈ s.coming,En jobs s ≤ (jb jobs k).release:=fun k hk => by
 unfold En
 cases hc:s.coming with
 | nil => rw [hc] at hk;cases hk
 | cons c rest =>
  have a:=sim.sorted
  rw [hc] at hk a
  rw [List.pairwise_cons] at a
  rcases List.mem_cons.1 hk with rfl | hk
  ·exact Int.le_refl _
  ·have:=a.1 k hk;unfold ltO at this;dsimp only;omega
theorem Rg (hE:As E) (c:Ctx E h0 lv P n l jobs) (k:XInv h0 lv P jobs g h s) (sim:SimC jobs s r) (hi:RsInv jobs r) (hsum:Ev jobs ≤ 1099511627776) {i:Nat} (hr:s.running = some i) (hp:rsRuns l jobs r = i) (hmin:s.sec i = 0 → ∀ u,s.q u ≠ [] → (atI l (jb jobs i).task).P ≤ (atI l u).P) {N:Int} (hN:0 < N)
  (hn:N ≤ s.sec i ∨ (s.sec i = 0 ∧ s.cuts i = [] ∧ N ≤ s.left i ∧ ∀ k ∈ s.coming,s.now + N ≤ (jb jobs k).release)) (he:s.now + N ≤ e) {W:Nat → Prop} (hW:∀ b,h0.length ≤ b → W b) :
  WX W (callW E (.func (.func Ap) #[Aq g.x] #[]) [.int .i64 N] h) (fun _ h' => ∃ g' s' r',XInv h0 lv P jobs g' h' s' ∧ g'.x = g.x ∧ Sr jobs s' r' ∧ RsInv jobs r' ∧ Bb l jobs e r = Bb l jobs e r' ∧ Eh jobs r' < Eh jobs r):=by
 obtain ⟨f,v,d⟩:=Fy sim hr
 obtain ⟨o,s2,s3⟩:=U3 c.S sim hi d
 have hw:=c.S.ok.work _ (D6 f)
 have ht:=sim.t
 have h1:=hi.t0
 have h2:=hi.t1
 have h3:=hi.sum
 have j:N ≤ s.left i:=by rcases hn with hn | hn <;> omega
 have p:=hi.L
 rw [sim.L] at p
 have a:=hi.elen
 rw [sim.ends] at a
 refine WX.mono (Au2 hE c k sim hr hN j ⟨by omega,by unfold Eb at h2;omega⟩ (by omega) ⟨o,by omega⟩ (by omega) a hW) (fun b y => y) fun _ h' ⟨g',k',m⟩ => ?_
 obtain ⟨M,rfl⟩:∃ M:Nat,N = M:=⟨N.toNat,by omega⟩
 obtain ⟨r',q1,q2,q3,z⟩:=Ar3 (e:=e) c.S sim hi hr hp hmin (N:=M) (by omega) hn (.inr he)
 exact ⟨g',_,r',k',m,q1,q2,q3,z⟩
def A27 (h0:Aa) (lv:Value) (P:Int → Int) (jobs:List Job) (x:Nat) (R:RS) (h:Aa):Prop:=∃ g s,XInv h0 lv P jobs g h s ∧ g.x = x ∧ R.L = s.spans ∧ R.ends = s.ends
theorem Ax3 (hE:As E) (c:Ctx E h0 lv P n l jobs) (k:XInv h0 lv P jobs g h s) (sim:Sr jobs s r) (hri:RsInv jobs r) (hsum:Ev jobs ≤ 1099511627776) (he:Mw e) {W:Nat → Prop} (hW:∀ b,h0.length ≤ b → W b) :
  WX W (callW E (.func (.func Cy) #[] #[]) [Aq g.x,.int .i64 e] h) (fun _ h' => A27 h0 lv P jobs g.x (Bb l jobs (max e 0) r) h'):=by
 refine E8 hE.Uj rfl (by simp) ?_
 simp only [List.nil_append,List.cons_append,Ai]
 obtain ⟨e',bu⟩:∃ e',e' = max e 0:=⟨_,rfl⟩
 have bo:0 ≤ e':=by omega
 have c3:e ≤ e' ∧ (0 < e → e' = e) ∧ (e ≤ 0 → e' = 0):=by omega
 rw [← bu]
 clear bu
 unfold Mw at he
 have K:=Hid.mk (AI k (AI sim hri))
 clear k sim hri
 (repeat' simp -dsimp (disch:=omega) only [↓EA,EB,Nat.reduceEqDiff,↓reduceIte,reduceCtorEq,eq_self, *])
 obtain ⟨R,hR⟩:∃ R,R = Bb l jobs e' r:=⟨_,rfl⟩
 rw [← hR]
 have HR:=Hid.mk hR
 refine WO.loop (fun (a:Gh × XS × RS) fr h' => XInv h0 lv P jobs a.1 h' a.2.1 ∧ Sr jobs a.2.1 a.2.2 ∧ RsInv jobs a.2.2 ∧ R = Bb l jobs e' a.2.2 ∧ a.1.x = g.x ∧ get fr 0 = Aq a.1.x ∧ get fr 1 = .int .i64 e ∧ get fr 4 = .func (.func Ap) #[Aq a.1.x] #[]) (fun a => Eh jobs a.2.2) ?_ (g,s,r) ⟨K.out.1,K.out.2.1,K.out.2.2,hR,rfl,rfl,rfl,rfl⟩
 clear K HR hR
 rintro ⟨g1,s1,r1⟩ fr h1 ⟨k,sim,hri,a3,b9,g0,c9,g4⟩
 dsimp only at k sim hri a3 b9 g0 g4 ⊢
 rw [← b9]
 have hx:h1[g1.x]? = some (.cells [g1.vj,g1.vc,Aq g1.hb,.map (some g1.mb),.int .i64 s1.now,g1.vs,g1.ve,D3 g1 s1] false):=k.X.is
 have ht:=sim.t
 have t0:=hri.t0
 have t1:=hri.t1
 have t2:=hri.sum
 have b0:0 ≤ s1.now ∧ s1.now < 4611686018427387904:=by unfold Eb at t1;omega
 have K:=Hid.mk (AI k sim)
 replace a3:=Hid.mk a3
 replace hri:=Hid.mk hri
 have c2:=Hid.mk b9
 clear k sim ht t0 t1 t2 b9
 unfold Jc
 by_cases av:s1.now < e
 ·have bb:=Aii hE c K.out.1 K.out.2 hW
  (repeat' simp -dsimp (disch:=omega) only [↓EA,EB,Nat.reduceEqDiff,↓reduceIte,reduceCtorEq,eq_self, *])
  refine WX.mono bb (fun b hb => hb) fun v2 h2 ⟨g2,d,k2,f,ba,bq,a5⟩ => ?_
  rw [← ba] at g0 g4 ⊢
  have a4:∀ i ∈ d.coming,i < jobs.length:=fun i hi => (f.coming i hi).1
  have au:h2[g2.x]? = some (.cells [g2.vj,g2.vc,Aq g2.hb,.map (some g2.mb),.int .i64 d.now,g2.vs,g2.ve,D3 g2 d] false):=k2.X.is
  rw [← bq] at av b0 a5
  have ca:=Hid.mk ba
  have b8:=Hid.mk (ba.trans c2.out)
  clear hx ba bq bb K
  cases hr2:d.running with
  | none =>
   have b2:D3 g2 d = .pointer none:=by unfold D3;rw [hr2]
   rw [b2] at au
   have b3:=Hid.mk hr2
   clear b2 hr2
   (repeat' simp -dsimp (disch:=omega) only [↓EA,EB,Nat.reduceEqDiff,↓reduceIte,reduceCtorEq,eq_self, *,Ai1])
   have ai:∀ k,d.running = some k → d.sec k = 0:=fun k hk => by rw [b3.out] at hk;cases hk
   have b4:=Hid.mk ai
   clear ai
   have as:=Aat hE c k2 f.toSimC hW
   refine WX.mono as (fun b hb => hb) fun v3 h3 bk => ?_
   rcases bk with ⟨rfl,hz,m,k3,z⟩ | ⟨rfl,m,t,rd,i,bw,ac,ak,ar,k3,z⟩
   ·have ae:d.running = none:=by
     cases hh:d.running with
     | none => rfl
     | some j => unfold back at hz;rw [hh] at hz;simp at hz
    have al:d.ready = []:=by unfold back at hz;rw [ae] at hz;exact hz
    have c8:=Vs hE k3 a4
    have af:h3[m.x]? = some (.cells [m.vj,m.vc,Aq m.hb,.map (some m.mb),.int .i64 d.now,m.vs,m.ve,D3 m d] false):=k3.X.is
    have y:D3 m d = .pointer none:=by unfold D3;rw [ae]
    rw [y] at af
    rw [← z] at g0 g4 ⊢
    have br:=(GI.1 af).1
    have bp:=hW m.x (k3.B.ge (by rw [k3.X.tag];decide))
    have Kz:=Hid.mk (AI k3 (AI f (AI ae al)))
    have bl:=Hid.mk (z.trans b8.out)
    have b5:=Yo f.toSimC
    have bi:=Hid.mk b5
    have bx:=Hid.mk a4
    have bg:=Hid.mk a5
    clear hz k3 ae al z au b5 a4 as a5 y k2 f
    by_cases ah:e ≤ En jobs d
    ·have ag:=Hid.mk ah
     (repeat' simp -dsimp (disch:=omega) only [↓EA,EB,Nat.reduceEqDiff,↓reduceIte,reduceCtorEq,eq_self, *])
     obtain ⟨q1,q2⟩:=All c.S Kz.out.2.1 hri.out Kz.out.2.2.1 Kz.out.2.2.2 (e:=e') fun k hk => ⟨bo,by have:=bi.out k hk;have:=ag.out;omega⟩
     rw [a3.out]
     exact ⟨m,d,Kz.out.1,rfl,q1,q2⟩
    ·have ag:=Hid.mk ah
     have k5:=Kz.out.1.setX (vc:=m.vc) (now:=En jobs d) (running:=d.running) (coming:=d.coming) Kz.out.1.cr
     have K5:=Hid.mk k5
     clear k5
     (repeat' simp -dsimp (disch:=omega) only [↓EA,EB,Nat.reduceEqDiff,Nat.reduceAdd,Nat.reduceLeDiff,↓reduceIte,reduceCtorEq,eq_self, *])
     have ax:d.coming ≠ []:=by
      intro a9
      have:=ag.out
      unfold En at this
      rw [a9] at this
      dsimp only at this
      omega
     obtain ⟨c0,a8,a9⟩:∃ c0 a8,d.coming = c0 :: a8:=by
      cases hh:d.coming with
      | nil => exact absurd hh ax
      | cons a b => exact ⟨a,b,rfl⟩
     have am:En jobs d = (jb jobs c0).release:=by unfold En;rw [a9]
     obtain ⟨r',q1,q2,q3,q4⟩:=Afp (e:=e') c.S Kz.out.2.1 hri.out Kz.out.2.2.1 Kz.out.2.2.2 a9 (bg.out c0 (by rw [a9];simp)) (.inr (by rw [← am];have:=ag.out;omega))
     rw [← am] at q1
     refine Next.mk (m,{ d with now:=En jobs d },r') ⟨?_,q1,q2,a3.out.trans q3,rfl,rfl,rfl,rfl⟩ q4
     have k6:=K5.out
     unfold Lg at k6
     have e6:D3 { m with vc:=m.vc } { d with now:=En jobs d,running:=d.running,coming:=d.coming } = .pointer none:=by unfold D3;dsimp only;rw [Kz.out.2.2.1]
     rw [e6] at k6
     exact k6
   ·obtain ⟨o,bn,aa,aq,p,aw,ap,b6,az⟩:=Zh c.S f (fun i hi => a5 i hi) b4.out ac (fun u hu => by have:=ak u hu;rw [c.Pl,c.Pl] at this;exact this)
    have be:o = i:=by rw [ar] at aa;cases aa;rfl
    subst be
    have hB:(back jobs d).now = d.now ∧ (back jobs d).coming = d.coming:=by unfold back;split <;> exact ⟨rfl,rfl⟩
    have hS:(chosen (back jobs d) rd o).now = d.now ∧ (chosen (back jobs d) rd o).coming = d.coming ∧ ∀ u,(chosen (back jobs d) rd o).q u = d.q u:=by
     have bm:∀ u,(back jobs d).q u = d.q u:=fun u => by unfold back;split <;> rfl
     refine ⟨?_,?_,fun u => ?_⟩
     ·unfold chosen;split <;> exact hB.1
     ·unfold chosen;split <;> exact hB.2
     ·rw [← bm u];unfold chosen;split <;> rfl
    generalize chosen (back jobs d) rd o = s3 at *
    obtain ⟨ad,b1,ao⟩:=hS
    have af:h3[m.x]? = some (.cells [m.vj,m.vc,Aq m.hb,.map (some m.mb),.int .i64 s3.now,m.vs,m.ve,D3 m s3] false):=k3.X.is
    have y:D3 m s3 = Aq (m.w o):=by unfold D3;rw [ap]
    rw [y] at af
    have a1:o ∈ s3.q (jb jobs o).task:=by rw [ao,aq,ar];simp
    obtain ⟨c5,bf,bd,bc⟩:=k3.W _ o a1
    obtain ⟨y1,y2,y3⟩:=U3 c.S p hri.out a1
    have bh:=c.S.ok.work _ (D6 ((p.mem _ o).1 a1).1)
    have a7:∀ k ∈ s3.coming,k < jobs.length:=fun k hk => (p.coming k hk).1
    have bv:=Vs hE k3 a7
    have aj:=Yo p
    have bt:s3.now < En jobs s3:=by
     unfold En
     cases hc3:s3.coming with
     | nil => dsimp only;rw [ad];omega
     | cons a b => dsimp only;rw [ad];exact a5 a (by rw [← b1,hc3];simp)
    have c6:En jobs s3 ≤ 9223372036854775807:=by
     unfold En
     cases hc3:s3.coming with
     | nil => exact Int.le_refl _
     | cons a b =>
      have:=(c.S.ok.rel _ (D6 (a7 a (by rw [hc3];simp)))).2
      unfold Eb at this
      dsimp only;omega
    rw [← z] at g0 g4 ⊢
    rw [← ad] at av b0
    have K3:=Hid.mk (AI k3 p)
    have a0:=Hid.mk (AI ap (AI aw az))
    have ay:Hid (s3.sec o = 0 → ∀ u,s3.q u ≠ [] → (atI l (jb jobs o).task).P ≤ (atI l u).P):=⟨fun _ u hu => by rw [aq];exact b6 u (by rw [← ao];exact hu)⟩
    have bj:=Hid.mk aj
    have bl:=Hid.mk (z.trans b8.out)
    clear au ap aw az b6 aj y k3 p ad b1 ao hB ar aa ac ak aq a1 a4 a7 as a5 bd bc z k2 f
    by_cases a6:0 < s3.sec o
    ·(repeat' (first | (with_reducible refine A3 (fun _ => ?_) (fun _ => ?_) <;> try (exfalso;omega)) | simp -dsimp (disch:=omega) only [↓EA,EB,Nat.reduceEqDiff,↓reduceIte,reduceCtorEq,eq_self, *]))
     refine WX.mono (Rg hE c K3.out.1 K3.out.2 hri.out hsum a0.out.1 a0.out.2.1 ay.out (N:=(min (s3.sec o) (e - s3.now))) (e:=e') (by omega) (.inl (by omega)) (by omega) hW) (fun b hb => hb) fun v9 h9 ⟨g9,s9,r9,k9,a2,z1,z2,z3,z4⟩ => ?_
     have K9:=Hid.mk (AI k9 (AI z1 (AI z2 z3)))
     have v:=Hid.mk a2
     clear k9 z1 z2 z3 a2
     (repeat' simp -dsimp (disch:=omega) only [↓EA,EB,Nat.reduceEqDiff,↓reduceIte,reduceCtorEq,eq_self, *])
     exact Next.mk (g9,s9,r9) ⟨K9.out.1,K9.out.2.1,K9.out.2.2.1,a3.out.trans K9.out.2.2.2,v.out,by show _ = Aq g9.x;rw [v.out];rfl,rfl,by show _ = Value.func (.func Ap) #[Aq g9.x] #[];rw [v.out];rfl⟩ z4
    ·have ab:s3.sec o = 0:=by omega
     have b7:s3.cuts o = []:=by rcases a0.out.2.2 with h5 | h5;omega;exact h5.2
     have c7:0 < s3.left o:=by
      have h5:=(K3.out.2.mem (jb jobs o).task o).1 (Fy K3.out.2 a0.out.1).2.2
      have h6:=K3.out.2.left _ o (Fy K3.out.2 a0.out.1).2.2
      omega
     rw [ab] at bf
     have an:=Hid.mk (AI ab b7)
     clear ab b7 a6 y1 y2
     (repeat' simp -dsimp (disch:=omega) only [↓EA,EB,Nat.reduceEqDiff,↓reduceIte,reduceCtorEq,eq_self, *])
     refine WX.mono (Rg hE c K3.out.1 K3.out.2 hri.out hsum a0.out.1 a0.out.2.1 ay.out (N:=(min (min (s3.left o) (En jobs s3 - s3.now)) (e - s3.now))) (e:=e') (by omega) (.inr ⟨an.out.1,an.out.2,by omega,fun k hk => by have:=bj.out k hk;omega⟩) (by omega) hW) (fun b hb => hb) fun v9 h9 ⟨g9,s9,r9,k9,a2,z1,z2,z3,z4⟩ => ?_
     have K9:=Hid.mk (AI k9 (AI z1 (AI z2 z3)))
     have v:=Hid.mk a2
     clear k9 z1 z2 z3 a2
     (repeat' simp -dsimp (disch:=omega) only [↓EA,EB,Nat.reduceEqDiff,↓reduceIte,reduceCtorEq,eq_self, *])
     exact Next.mk (g9,s9,r9) ⟨K9.out.1,K9.out.2.1,K9.out.2.2.1,a3.out.trans K9.out.2.2.2,v.out,by show _ = Aq g9.x;rw [v.out];rfl,rfl,by show _ = Value.func (.func Ap) #[Aq g9.x] #[];rw [v.out];rfl⟩ z4
  | some i =>
   have b2:D3 g2 d = Aq (g2.w i):=by unfold D3;rw [hr2]
   rw [b2] at au
   have a1:=(Fy f.toSimC hr2).2.2
   obtain ⟨vc,w1,w2,w3⟩:=k2.W _ i a1
   obtain ⟨y1,y2,y3⟩:=U3 c.S f.toSimC hri.out a1
   have bh:=c.S.ok.work _ (D6 ((f.mem _ i).1 a1).1)
   have b3:=Hid.mk hr2
   clear b2 hr2 w2 w3 a1
   by_cases a6:0 < d.sec i
   ·have bz:=Ajv (l:=l) f b3.out a6
    have c4:=Hid.mk bz
    have c1:=Hid.mk a6
    clear bz
    (repeat' (first | (with_reducible refine A3 (fun _ => ?_) (fun _ => ?_) <;> try (exfalso;omega)) | simp -dsimp (disch:=omega) only [↓EA,EB,Nat.reduceEqDiff,↓reduceIte,reduceCtorEq,eq_self, *,Abd]))
    refine WX.mono (Rg hE c k2 f.toSimC hri.out hsum b3.out c4.out (fun h0 => absurd c1.out (by omega)) (N:=(min (d.sec i) (e - d.now))) (e:=e') (by omega) (.inl (by omega)) (by omega) hW) (fun b hb => hb) fun v9 h9 ⟨g9,s9,r9,k9,a2,z1,z2,z3,z4⟩ => ?_
    have K9:=Hid.mk (AI k9 (AI z1 (AI z2 z3)))
    have v:=Hid.mk a2
    clear k9 z1 z2 z3 a2
    (repeat' simp -dsimp (disch:=omega) only [↓EA,EB,Nat.reduceEqDiff,↓reduceIte,reduceCtorEq,eq_self, *])
    exact Next.mk (g9,s9,r9) ⟨K9.out.1,K9.out.2.1,K9.out.2.2.1,a3.out.trans K9.out.2.2.2,v.out,by show _ = Aq g9.x;rw [v.out];rfl,rfl,by show _ = Value.func (.func Ap) #[Aq g9.x] #[];rw [v.out];rfl⟩ z4
   ·have ab:d.sec i = 0:=by omega
    rw [ab] at w1
    have an:=Hid.mk ab
    clear ab a6 y1 y2 y3 bh
    (repeat' (first | (with_reducible refine A1 (fun _ => ?_) (fun _ => ?_) <;> try (exfalso;omega)) | simp -dsimp (disch:=omega) only [↓EA,EB,Nat.reduceEqDiff,↓reduceIte,reduceCtorEq,eq_self, *,Abd]))
    clear w1
    have ai:∀ k,d.running = some k → d.sec k = 0:=fun k hk => by rw [b3.out] at hk;cases hk;exact an.out
    have b4:=Hid.mk ai
    clear ai
    have as:=Aat hE c k2 f.toSimC hW
    refine WX.mono as (fun b hb => hb) fun v3 h3 bk => ?_
    rcases bk with ⟨rfl,hz,m,k3,z⟩ | ⟨rfl,m,t,rd,i,bw,ac,ak,ar,k3,z⟩
    ·have ae:d.running = none:=by
      cases hh:d.running with
      | none => rfl
      | some j => unfold back at hz;rw [hh] at hz;simp at hz
     have al:d.ready = []:=by unfold back at hz;rw [ae] at hz;exact hz
     have c8:=Vs hE k3 a4
     have af:h3[m.x]? = some (.cells [m.vj,m.vc,Aq m.hb,.map (some m.mb),.int .i64 d.now,m.vs,m.ve,D3 m d] false):=k3.X.is
     have y:D3 m d = .pointer none:=by unfold D3;rw [ae]
     rw [y] at af
     rw [← z] at g0 g4 ⊢
     have br:=(GI.1 af).1
     have bp:=hW m.x (k3.B.ge (by rw [k3.X.tag];decide))
     have Kz:=Hid.mk (AI k3 (AI f (AI ae al)))
     have bl:=Hid.mk (z.trans b8.out)
     have b5:=Yo f.toSimC
     have bi:=Hid.mk b5
     have bx:=Hid.mk a4
     have bg:=Hid.mk a5
     clear hz k3 ae al z au b5 a4 as a5 y k2 f
     by_cases ah:e ≤ En jobs d
     ·have ag:=Hid.mk ah
      (repeat' simp -dsimp (disch:=omega) only [↓EA,EB,Nat.reduceEqDiff,↓reduceIte,reduceCtorEq,eq_self, *])
      obtain ⟨q1,q2⟩:=All c.S Kz.out.2.1 hri.out Kz.out.2.2.1 Kz.out.2.2.2 (e:=e') fun k hk => ⟨bo,by have:=bi.out k hk;have:=ag.out;omega⟩
      rw [a3.out]
      exact ⟨m,d,Kz.out.1,rfl,q1,q2⟩
     ·have ag:=Hid.mk ah
      have k5:=Kz.out.1.setX (vc:=m.vc) (now:=En jobs d) (running:=d.running) (coming:=d.coming) Kz.out.1.cr
      have K5:=Hid.mk k5
      clear k5
      (repeat' simp -dsimp (disch:=omega) only [↓EA,EB,Nat.reduceEqDiff,Nat.reduceAdd,Nat.reduceLeDiff,↓reduceIte,reduceCtorEq,eq_self, *])
      have ax:d.coming ≠ []:=by
       intro a9
       have:=ag.out
       unfold En at this
       rw [a9] at this
       dsimp only at this
       omega
      obtain ⟨c0,a8,a9⟩:∃ c0 a8,d.coming = c0 :: a8:=by
       cases hh:d.coming with
       | nil => exact absurd hh ax
       | cons a b => exact ⟨a,b,rfl⟩
      have am:En jobs d = (jb jobs c0).release:=by unfold En;rw [a9]
      obtain ⟨r',q1,q2,q3,q4⟩:=Afp (e:=e') c.S Kz.out.2.1 hri.out Kz.out.2.2.1 Kz.out.2.2.2 a9 (bg.out c0 (by rw [a9];simp)) (.inr (by rw [← am];have:=ag.out;omega))
      rw [← am] at q1
      refine Next.mk (m,{ d with now:=En jobs d },r') ⟨?_,q1,q2,a3.out.trans q3,rfl,rfl,rfl,rfl⟩ q4
      have k6:=K5.out
      unfold Lg at k6
      have e6:D3 { m with vc:=m.vc } { d with now:=En jobs d,running:=d.running,coming:=d.coming } = .pointer none:=by unfold D3;dsimp only;rw [Kz.out.2.2.1]
      rw [e6] at k6
      exact k6
    ·obtain ⟨o,bn,aa,aq,p,aw,ap,b6,az⟩:=Zh c.S f (fun i hi => a5 i hi) b4.out ac (fun u hu => by have:=ak u hu;rw [c.Pl,c.Pl] at this;exact this)
     have be:o = i:=by rw [ar] at aa;cases aa;rfl
     subst be
     have hB:(back jobs d).now = d.now ∧ (back jobs d).coming = d.coming:=by unfold back;split <;> exact ⟨rfl,rfl⟩
     have hS:(chosen (back jobs d) rd o).now = d.now ∧ (chosen (back jobs d) rd o).coming = d.coming ∧ ∀ u,(chosen (back jobs d) rd o).q u = d.q u:=by
      have bm:∀ u,(back jobs d).q u = d.q u:=fun u => by unfold back;split <;> rfl
      refine ⟨?_,?_,fun u => ?_⟩
      ·unfold chosen;split <;> exact hB.1
      ·unfold chosen;split <;> exact hB.2
      ·rw [← bm u];unfold chosen;split <;> rfl
     generalize chosen (back jobs d) rd o = s3 at *
     obtain ⟨ad,b1,ao⟩:=hS
     have af:h3[m.x]? = some (.cells [m.vj,m.vc,Aq m.hb,.map (some m.mb),.int .i64 s3.now,m.vs,m.ve,D3 m s3] false):=k3.X.is
     have y:D3 m s3 = Aq (m.w o):=by unfold D3;rw [ap]
     rw [y] at af
     have a1:o ∈ s3.q (jb jobs o).task:=by rw [ao,aq,ar];simp
     obtain ⟨c5,bf,bd,bc⟩:=k3.W _ o a1
     obtain ⟨y1,y2,y3⟩:=U3 c.S p hri.out a1
     have bh:=c.S.ok.work _ (D6 ((p.mem _ o).1 a1).1)
     have a7:∀ k ∈ s3.coming,k < jobs.length:=fun k hk => (p.coming k hk).1
     have bv:=Vs hE k3 a7
     have aj:=Yo p
     have bt:s3.now < En jobs s3:=by
      unfold En
      cases hc3:s3.coming with
      | nil => dsimp only;rw [ad];omega
      | cons a b => dsimp only;rw [ad];exact a5 a (by rw [← b1,hc3];simp)
     have c6:En jobs s3 ≤ 9223372036854775807:=by
      unfold En
      cases hc3:s3.coming with
      | nil => exact Int.le_refl _
      | cons a b =>
       have:=(c.S.ok.rel _ (D6 (a7 a (by rw [hc3];simp)))).2
       unfold Eb at this
       dsimp only;omega
     rw [← z] at g0 g4 ⊢
     rw [← ad] at av b0
     have K3:=Hid.mk (AI k3 p)
     have a0:=Hid.mk (AI ap (AI aw az))
     have ay:Hid (s3.sec o = 0 → ∀ u,s3.q u ≠ [] → (atI l (jb jobs o).task).P ≤ (atI l u).P):=⟨fun _ u hu => by rw [aq];exact b6 u (by rw [← ao];exact hu)⟩
     have bj:=Hid.mk aj
     have bl:=Hid.mk (z.trans b8.out)
     clear au ap aw az b6 aj y k3 p ad b1 ao hB ar aa ac ak aq a1 a4 a7 as a5 bd bc z k2 f
     by_cases a6:0 < s3.sec o
     ·(repeat' (first | (with_reducible refine A3 (fun _ => ?_) (fun _ => ?_) <;> try (exfalso;omega)) | simp -dsimp (disch:=omega) only [↓EA,EB,Nat.reduceEqDiff,↓reduceIte,reduceCtorEq,eq_self, *]))
      refine WX.mono (Rg hE c K3.out.1 K3.out.2 hri.out hsum a0.out.1 a0.out.2.1 ay.out (N:=(min (s3.sec o) (e - s3.now))) (e:=e') (by omega) (.inl (by omega)) (by omega) hW) (fun b hb => hb) fun v9 h9 ⟨g9,s9,r9,k9,a2,z1,z2,z3,z4⟩ => ?_
      have K9:=Hid.mk (AI k9 (AI z1 (AI z2 z3)))
      have v:=Hid.mk a2
      clear k9 z1 z2 z3 a2
      (repeat' simp -dsimp (disch:=omega) only [↓EA,EB,Nat.reduceEqDiff,↓reduceIte,reduceCtorEq,eq_self, *])
      exact Next.mk (g9,s9,r9) ⟨K9.out.1,K9.out.2.1,K9.out.2.2.1,a3.out.trans K9.out.2.2.2,v.out,by show _ = Aq g9.x;rw [v.out];rfl,rfl,by show _ = Value.func (.func Ap) #[Aq g9.x] #[];rw [v.out];rfl⟩ z4
     ·have ab:s3.sec o = 0:=by omega
      have b7:s3.cuts o = []:=by rcases a0.out.2.2 with h5 | h5;omega;exact h5.2
      have c7:0 < s3.left o:=by
       have h5:=(K3.out.2.mem (jb jobs o).task o).1 (Fy K3.out.2 a0.out.1).2.2
       have h6:=K3.out.2.left _ o (Fy K3.out.2 a0.out.1).2.2
       omega
      rw [ab] at bf
      have an:=Hid.mk (AI ab b7)
      clear ab b7 a6 y1 y2
      (repeat' simp -dsimp (disch:=omega) only [↓EA,EB,Nat.reduceEqDiff,↓reduceIte,reduceCtorEq,eq_self, *])
      refine WX.mono (Rg hE c K3.out.1 K3.out.2 hri.out hsum a0.out.1 a0.out.2.1 ay.out (N:=(min (min (s3.left o) (En jobs s3 - s3.now)) (e - s3.now))) (e:=e') (by omega) (.inr ⟨an.out.1,an.out.2,by omega,fun k hk => by have:=bj.out k hk;omega⟩) (by omega) hW) (fun b hb => hb) fun v9 h9 ⟨g9,s9,r9,k9,a2,z1,z2,z3,z4⟩ => ?_
      have K9:=Hid.mk (AI k9 (AI z1 (AI z2 z3)))
      have v:=Hid.mk a2
      clear k9 z1 z2 z3 a2
      (repeat' simp -dsimp (disch:=omega) only [↓EA,EB,Nat.reduceEqDiff,↓reduceIte,reduceCtorEq,eq_self, *])
      exact Next.mk (g9,s9,r9) ⟨K9.out.1,K9.out.2.1,K9.out.2.2.1,a3.out.trans K9.out.2.2.2,v.out,by show _ = Aq g9.x;rw [v.out];rfl,rfl,by show _ = Value.func (.func Ap) #[Aq g9.x] #[];rw [v.out];rfl⟩ z4
 ·(repeat' simp -dsimp (disch:=omega) only [↓EA,EB,Nat.reduceEqDiff,↓reduceIte,reduceCtorEq,eq_self, *])
  obtain ⟨q1,q2⟩:=Ar4 K.out.2 bo (by have:=c3;omega)
  rw [a3.out]
  exact ⟨g1,s1,K.out.1,rfl,q1,q2⟩
end Go.L.Try
namespace Go.L.Try
open Go Go.L
variable {E:Env}
theorem Rd.nt {α : Type} {sz:Nat} {enc:α → List Value} {h:Aa} {v:Value} {l:List α} (r:Rd sz enc h v l):Fm v = true:=by
 obtain ⟨a,n,c,rfl⟩:=r.shape.1;rfl
def GotX (m:Nat) (s:RS) (h:Aa) (v:Value):Prop:=∃ vs,v = .tuple vs.toArray ∧ Each h [fun h v => RdM m 3 Nt h v s.L,fun h v => RdM m 1 D7 h v s.ends] vs
theorem GotX.movable {m:Nat} (s:RS):Movable m (GotX m s) 2 :=
 Movable.tuples (fun R hR => by
  rcases List.mem_cons.1 hR with rfl | hR
  ·exact RdM.movable Ah9 _
  ·rw [List.mem_singleton.1 hR];exact RdM.movable Add _) (by simp)
theorem Ap7 (hE:As E) {h:Aa} {bx:Nat} {vl:Value} {l:List Ac} (hb:h[bx]? = some (.cells [vl] false)) (hl:Rd 7 Ar h vl l) {a b:Int} (ha:0 ≤ a ∧ a < l.length) (hb2:0 ≤ b ∧ b < l.length) :
  callW E (.func (.func B7) #[] #[.pointer (some ⟨bx,0,none⟩)]) [.int .i64 a,.int .i64 b] h = some (.bool (decide ((atI l a).P < (atI l b).P)),h,[]):=by
 rw [Aa9 hE.Tu]
 refine Ak hE.Tu rfl (by simp) ?_
 simp only [List.nil_append,List.cons_append,Ai]
 (repeat' simp -dsimp (disch:=omega) only [↓EA,EB,Nat.reduceEqDiff,Nat.reduceAdd,↓reduceIte,reduceCtorEq,eq_self, *,hl.ixs,hl.ld,Ar])
theorem Apd (hE:As E) {W:Nat → Prop} {hB:Aa} {m x:Nat} {c0 c1 c2 c3 c4 c5 c7:Value} {k:Nat} (hx:hB[x]? = some (.cells [c0,c1,c2,c3,c4,c5,.slice none 0 0,c7] false)) (hm:m ≤ x) (hW:∀ b,m ≤ b → W b) (hk:k ≤ 1048576)
  {fr:Fr} {e:Value} (g2:get fr 2 = e) (g8:get fr 8 = Aq x) (g25:get fr 25 = .int .i64 k) (g26:get fr 26 = .int .i64 0) {Q:Ex → Fr → Aa → Prop}
  (hq:∀ fr' h' ve,get fr' 2 = e → get fr' 8 = Aq x → OwnT hB.length 1 D7 h' ve (List.replicate k (-1)) → hB.length ≤ h'.length → (∀ b,b < hB.length → b ≠ x → h'[b]? = hB[b]?) → h'[x]? = some (.cells [c0,c1,c2,c3,c4,c5,ve,c7] false) → Q (.exit 0) fr' h') :
  WO W (iterW (code (callW E) iterW 49 Lv) fr hB) Q:=by
 have a5:=(GI.1 hx).1
 refine WO.loop (fun (a:Nat × Value) fr h' => OwnT hB.length 1 D7 h' a.2 (List.replicate a.1 (-1)) ∧ a.1 ≤ k ∧ hB.length ≤ h'.length ∧ (∀ b,b < hB.length → b ≠ x → h'[b]? = hB[b]?) ∧ h'[x]? = some (.cells [c0,c1,c2,c3,c4,c5,a.2,c7] false) ∧ get fr 2 = e ∧ get fr 8 = Aq x ∧ get fr 25 = .int .i64 k ∧ get fr 26 = .int .i64 a.1) (fun a => k - a.1) ?_ (0,.slice none 0 0) ⟨OwnT.nil,Nat.zero_le _,Nat.le_refl _,fun b _ _ => rfl,hx,g2,g8,g25,g26⟩
 clear g2 g8 g25 g26 hx
 rintro ⟨i,ve⟩ fr h1 ⟨o,hi,hl,l,hx,g2,g8,g25,g26⟩
 dsimp only at o hi hl l hx g26 ⊢
 have ov:=o.rd.one
 have cv:=o.rd.cv
 have s:=Hid.mk l
 have Hq:=Hid.mk hq
 have O:=Hid.mk o
 clear l hq o
 unfold Lv
 by_cases a4:i < k
 ·have a2:=hW x hm
  have a0:∀ y,(h1 ++ y)[x]? = some (.cells [c0,c1,c2,c3,c4,c5,ve,c7] false):=fun y => by rw [GL (by omega)];exact hx
  have t:x < h1.length:=by omega
  (repeat' (first | (with_reducible refine A3 (fun _ => ?_) (fun _ => ?_) <;> try (exfalso;omega)) | simp -dsimp (disch:=omega) only [↓EA,EB,Nat.reduceEqDiff,Nat.reduceLeDiff,Nat.reduceMul,↓reduceIte,Ab,Q7,eq_self, *]))
  refine Pg (α:=Int) (h0:=[]) (O.out.app _) (fun b o p => by simp at p) (Nat.zero_le _) (by rw [LA];omega) (fun d => hW _ (by have:=O.out.ge d;omega)) (-1:Int) (by rw [Ci,Bh];rfl) rfl (by decide) (by decide) (by rw [List.length_replicate];omega) fun v' h2 n p2 f v g => ?_
  rw [LA,List.length_singleton] at f v g
  have j:List.replicate i (-1:Int) ≠ [] → hB.length ≤ blk ve:=fun d => O.out.ge d
  have u:h2[x]? = some (.cells [c0,c1,c2,c3,c4,c5,ve,c7] false):=by
   rw [g x (by omega) (fun d e => by have:=j d;omega),GL t];exact hx
  have r:=(GI.1 u).1
  have a1:=n.rd.one
  have a3:=n.rd.cv
  have c:∀ b,b < hB.length → b ≠ x → h2[b]? = hB[b]?:=fun b p d => by
   rw [g b (by omega) (fun z e => by have:=j z;omega),GL (by omega)];exact s.out b p d
  have HH:=Hid.mk (AI c (AI n f))
  clear c n f g a0 p2 j hx
  (repeat' simp -dsimp (disch:=omega) only [↓EA,EB,Nat.reduceEqDiff,Nat.reduceAdd,Nat.reduceLeDiff,↓reduceIte,eq_self, *])
  obtain ⟨c,n,f⟩:=HH.out
  refine Next.mk (i + 1,v') ⟨?_,by dsimp only;omega,by rw [List.length_set];omega,fun b p d => ?_,Bq r,rfl,rfl,rfl,by simp only [get];simp⟩ (by dsimp only;omega)
  ·dsimp only
   rw [List.replicate_succ']
   exact OwnT.keep n fun _ => An (by omega)
  ·rw [An (Ne.symm d)];exact c b p d
 ·have e1:i = k:=by omega
  subst e1
  (repeat' (first | (with_reducible refine A3 (fun _ => ?_) (fun _ => ?_) <;> try (exfalso;omega)) | simp -dsimp (disch:=omega) only [↓EA,EB,Nat.reduceEqDiff,↓reduceIte,eq_self, *]))
  exact Hq.out _ _ ve rfl rfl O.out hl s.out hx
def Y6 (m hb k:Nat) (b:Nat):Nat:=if b < m then 5 else if b = m then 2 else if b = m + 1 then 0 else if b = hb then 1 else if k ≤ b then 4 else 5
theorem Awn {m hb k b:Nat} (h:b < m):Y6 m hb k b = 5:=if_pos h
theorem Azs {m hb k:Nat}:Y6 m hb k m = 2:=by unfold Y6;rw [if_neg (Nat.lt_irrefl _),if_pos rfl]
theorem Azr {m hb k:Nat}:Y6 m hb k (m + 1) = 0:=by unfold Y6;rw [if_neg (by omega),if_neg (by omega),if_pos rfl]
theorem Azu {m hb k:Nat} (h:m + 2 ≤ hb):Y6 m hb k hb = 1:=by unfold Y6;rw [if_neg (by omega),if_neg (by omega),if_neg (by omega),if_pos rfl]
theorem Azt {m hb k b:Nat} (h:m + 2 ≤ b) (h2:hb < b) (h3:k ≤ b):Y6 m hb k b = 4:=by unfold Y6;rw [if_neg (by omega),if_neg (by omega),if_neg (by omega),if_neg (by omega),if_pos h3]
def T3 (l:List Ac) (jobs:List Job) (e:Int):RS:=if legalB l jobs then Bb l jobs (max e 0) (Cq jobs.length) else ⟨0,-1,[],[],0,[]⟩
theorem Azp (hE:As E) {h:Aa} {vl vj:Value} {l:List Ac} {jobs:List Job} (hl:Rd 7 Ar h vl l) (hs:∀ t ∈ l,t.name.size < 1152921504606846976) (hj:RdJ h vj jobs) (hn:jobs.length ≤ 65536) (hsum:Ev jobs ≤ 1099511627776) {e:Int} (he:Mw e) :
  ∃ v ys,callW E (.func (.func Jp) #[] #[]) [vl,vj,.int .i64 e] h = some (v,h ++ ys,[]) ∧ GotX h.length (T3 l jobs e) (h ++ ys) v:=by
 refine Lk hE.Akt rfl (GotX.movable _) (by simp) ?_
 have q:=fun x => A0l hE (hl.app x) hs (hj.pre (Pre.app h x))
 have b7:=hl.one
 have bg:=hl.cv
 simp only [Ai]
 cases hb:legalB l jobs
 ·rw [hb] at q
  have hR:T3 l jobs e = ⟨0,-1,[],[],0,[]⟩:=by simp [T3,hb]
  rw [hR]
  (repeat' simp -dsimp (disch:=omega) only [↓EA,EB,Nat.reduceEqDiff,Nat.reduceAdd,↓reduceIte,reduceCtorEq,Ab,eq_self, *])
  exact ⟨⟨_,rfl⟩,_,rfl,.cons ⟨Rd.of_nil,fun h => absurd rfl h⟩ (.cons ⟨Rd.of_nil,fun h => absurd rfl h⟩ .nil)⟩
 ·rw [hb] at q
  have hR:T3 l jobs e = Bb l jobs (max e 0) (Cq jobs.length):=by simp [T3,hb]
  rw [hR]
  have Hb:=Hid.mk hb
  clear hb hR
  have aj:(h ++ [LObj.cells [vl] false])[h.length]? = some (.cells [vl] false):=by rw [Bh];rfl
  (repeat' simp -dsimp (disch:=omega) only [↓EA,EB,Nat.reduceEqDiff,Nat.reduceAdd,↓reduceIte,reduceCtorEq,Ab,eq_self, *])
  refine Gi (Az8 hE (hj.pre (Pre.app h _)) hn) fun vo ys ⟨o,ho,g,c⟩ p1 => ?_
  have a5:=p1 _ _ aj
  have a9:=(hl.app _).pre p1
  have a8:=(hj.pre (Pre.app h [LObj.cells [vl] false])).pre p1
  have aa:=(Pre.app h [LObj.cells [vl] false]).trans p1
  generalize (h ++ [LObj.cells [vl] false]) ++ ys = H1 at ho p1 a5 a9 a8 aa ⊢
  have bb:=ho.rd.one
  have bc:=ho.rd.cv
  obtain ⟨jl,a4,r,_⟩:=a8.is
  have b8:=r.one
  have b5:=r.cv
  have b4:Ly false vj = some (.int .i64 jobs.length):=by rw [r.len,← a4,List.length_map]
  have ay:=(GI.1 a5).1
  have Ho:=Hid.mk (AI ho (AI g c))
  have b9:=Hid.mk (AI a4 r)
  clear ho g c p1 aj q a4 r
  (repeat' simp -dsimp (disch:=omega) only [↓EA,EB,Nat.reduceEqDiff,Nat.reduceAdd,Nat.reduceLeDiff,↓reduceIte,Ab,eq_self, *])
  obtain ⟨H2,p⟩:∃ H2:Aa,H2 = H1 ++ [LObj.map [],LObj.cells [vj,vo,.pointer none,.map (some H1.length),.int .i64 0,.slice none 0 0,.slice none 0 0,.pointer none] false]:=⟨_,rfl⟩
  have ao:H2[H1.length]? = some (.map []):=by rw [p,Bh];rfl
  have ai:H2[H1.length + 1]? = some (LObj.cells [vj,vo,.pointer none,.map (some H1.length),.int .i64 0,.slice none 0 0,.slice none 0 0,.pointer none] false):=by rw [p,Jr];rfl
  have ap:Pre H1 H2:=by rw [p];exact Pre.app _ _
  have bf:H2.length = H1.length + 2:=by rw [p,LA];rfl
  rw [← p]
  clear p
  refine Gi (Axy hE (h:=H2) (f:=B7) (bx:=h.length) (by omega)) fun vh ys ⟨hb,eh,b2,u⟩ p3 => ?_
  subst eh
  have a7:=p3 _ _ ao
  have a6:=p3 _ _ ai
  have a3:=ap.trans p3
  have b1:=p3.le
  generalize H2 ++ ys = H3 at u p3 a7 a6 a3 b1 ⊢
  have a0:=(GI.1 a6).1
  have b3:=(GI.1 u).1
  have az:h.length ≤ H1.length + 1:=by omega
  clear ao ai ap p3
  obtain ⟨H4,n⟩:∃ H4:Aa,H4 = List.set H3 (H1.length + 1) (LObj.cells [vj,vo,Aq hb,.map (some H1.length),.int .i64 0,.slice none 0 0,.slice none 0 0,.pointer none] false):=⟨_,rfl⟩
  have s:H4[H1.length + 1]? = some (LObj.cells [vj,vo,Aq hb,.map (some H1.length),.int .i64 0,.slice none 0 0,.slice none 0 0,.pointer none] false):=by rw [n];exact Bq a0
  have ad:H4[H1.length]? = some (.map []):=by rw [n,An (by omega)];exact a7
  have ag:H4[hb]? = some (.cells [.func (.func B7) #[] #[Aq h.length],.slice none 0 0,.int .u64 0] false):=by rw [n,An (by omega)];exact u
  have ac:Pre H1 H4:=by rw [n];exact a3.set (by omega) _
  have bd:H4.length = H3.length:=by rw [n,List.length_set]
  have av:=Hid.mk n.symm
  have au:=Hid.mk s
  clear n s a7 u a3 a0
  (repeat' simp -dsimp (disch:=omega) only [↓EA,EB,Nat.reduceEqDiff,Nat.reduceAdd,Nat.reduceLeDiff,↓reduceIte,eq_self, *])
  rw [av.out]
  have s:=au.out
  clear a6
  (repeat' simp -dsimp (disch:=omega) only [↓EA,EB,Nat.reduceEqDiff,Nat.reduceAdd,Nat.reduceLeDiff,Nat.reduceMul,↓reduceIte,reduceCtorEq,Ab,Q7,eq_self, *])
  refine Apd hE (m:=h.length) (k:=jobs.length) (e:=.int .i64 e) s az (fun b hb => hb) (by omega) rfl rfl rfl rfl fun ba h5 ve g2 g8 o5 b6 y am => ?_
  have af:Pre H1 h5:=fun b o ah => by
   have be:=(GI.1 ah).1
   rw [y b (by omega) (by omega)];exact ac b o ah
  have d:=Ahu Hb.out
  have hS:=Sx Hb.out
  have ak:=By d.2.2
  obtain ⟨ho,g,c⟩:=Ho.out
  have a2:Ctx E H1 (.func (.func B7) #[] #[Aq h.length]) (fun t => (atI l t).P) l.length l jobs:=⟨hS,rfl,ak.2.1,fun _ => rfl,rfl,fun hh hp a b ax ar aq ab => Ap7 hE (hp _ _ a5) (a9.pre hp) ⟨ax,ar⟩ ⟨aq,ab⟩,d.2.1⟩
  have an:ve ≠ .slice none 0 0 → H4.length ≤ blk ve:=fun hn => OwnT.ge o5 (OwnT.ne o5 hn)
  have ae:XInv H1 (.func (.func B7) #[] #[Aq h.length]) (fun t => (atI l t).P) jobs ⟨H1.length + 1,hb,H1.length,fun _ => 0,fun _ => 0,Y6 H1.length hb H4.length,vj,vo,.slice none 0 0,ve⟩ h5 (Ara jobs.length o) :=
   {B:=⟨af,fun b z => Awn z⟩
    H:=⟨[],fun b => b = hb,.nil (by rw [y hb (by omega) (by omega)];exact ag),fun b z => by
     subst z
     exact Azu (by omega),fun i h1 h2 => by simp at h2,List.Perm.refl _⟩
    M:=⟨[],by show h5[H1.length]? = _;rw [y _ (by omega) (by omega)];exact ad,(fun e he => by cases he),fun t => rfl,Azs⟩
    Q:=fun t l h => by cases h
    W:=fun t i h => by cases h
    S:=⟨OwnT.nil,fun h => absurd rfl h⟩
    E:=⟨(OwnT.rdO o5).less (by omega),fun hn => by
     have h7:H4.length ≤ blk ve:=an hn
     show Y6 H1.length hb H4.length (blk ve) = 4
     exact Azt (by omega) (by omega) h7⟩
    X:=⟨am,Azr⟩
    jr:=a8
    cr:=ho.rd }
  have a1:=Ax3 hE a2 ae (Ar6 g c) (Mr jobs hS.ok.work) hsum he (W:=fun b => h.length ≤ b) (fun b z => by omega)
  have j:=Hid.mk (AI aa (AI af ay))
  clear ae a2 hS ak d y o5 ho g c an s am ag ad ac
  (repeat' simp -dsimp (disch:=omega) only [↓EA,EB,Nat.reduceEqDiff,↓reduceIte,eq_self, *])
  refine WX.mono a1 (fun b hb => hb) fun v6 h6 ⟨gR,sR,kR,aw,hL,al⟩ => ?_
  have b0:h6[gR.x]? = some (.cells [gR.vj,gR.vc,Aq gR.hb,.map (some gR.mb),.int .i64 sR.now,gR.vs,gR.ve,D3 gR sR] false):=kR.X.is
  rw [aw] at b0
  have KR:=Hid.mk kR
  have HL:=Hid.mk (AI hL al)
  clear kR hL al a1
  (repeat' simp -dsimp (disch:=omega) only [↓EA,EB,Nat.reduceEqDiff,↓reduceIte,eq_self, *])
  have as:Pre h h6:=j.out.1.trans KR.out.B.pre
  refine ⟨as.ex,_,rfl,.cons ?_ (.cons ?_ .nil)⟩
  ·rw [HL.out.1]
   exact ⟨KR.out.S.own.rd,fun hn => by have:=OwnT.ge KR.out.S.own (OwnT.ne KR.out.S.own hn);have:=j.out.1.le;omega⟩
  ·rw [HL.out.2]
   exact ⟨KR.out.E.own.rd,fun hn => by have:=KR.out.B.ge (by rw [KR.out.E.tag hn];decide);have:=j.out.1.le;omega⟩
end Go.L.Try
