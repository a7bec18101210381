/- THE EXECUTIVE's STEPS: exec.executive.work. -/
import Derived.Test.YtifnlcajancfdaaGreatDoorPh
import Derived.Test.YtifnlcajancfdaaGreatDoorPf
import Derived.Test.YtifnlcajancfdaaGreatDoorPg
import Derived.Test.YtifnlcajancfdaaGreatDoorPc
set_option linter.unusedVariables false
set_option linter.unusedSimpArgs false
set_option maxRecDepth 100000
set_option maxHeartbeats 2000000
namespace Go.L.Try
open Go Go.L
variable {E:Env}
variable {h0 h h':Aa} {lv:Value} {P:Int→Int} {n:Nat} {l:List Ab} {jobs:List Job} {g:Gh} {s:XS} {r:RS}
theorem XInv.spans0 (k:XInv h0 lv P jobs g h s) {tag':Nat→Nat} (f:Foot g.tag tag' 3 h h') {L:List Span} (hS:CS tag' h0 h' g.vs L):XInv h0 lv P jobs { g with tag:=tag' } h' { s with spans:=L } where
 B:=k.B.fr f (by decide)
 H:=k.H.fr f (by decide)
 M:=k.M.fr f (by decide)
 Q:=fun t l h => ⟨(k.Q t l h).1,(k.Q t l h).2.fr f (by omega)⟩
 W:=fun t i h => (k.W t i h).fr f (by omega)
 S:=hS
 E:=k.E.fr f (by decide)
 X:=k.X.fr f (by decide)
 jr:=k.jr
 cr:=k.cr
theorem Axa (hE:Aw E) (c:Ctx E h0 lv P n l jobs) (k:XInv h0 lv P jobs g h s) (sim:SimC jobs s r) {i:Nat} (hr:s.running=some i) {N:Int} (hN:0<N) (hNl:N≤s.left i) (hnow:0≤s.now∧s.now+N<4611686018427387904) (hlf:s.left i≤2147483647) (hsc:0≤s.sec i∧s.sec i≤2147483647) (hsp:(s.spans.length:Int)≤1099511627776) (hel:s.ends.length=jobs.length) {W:Nat→Prop} (hW:∀ b,h0.length≤b→W b) :
  WX W (callW E (.func (.func Ao) #[Aq g.x] #[]) [.int .i64 N] h) (fun _ h' => ∃ g',XInv h0 lv P jobs g' h' (P6 jobs s i N)∧g'.x=g.x):=by
 refine E9 hE.T9 rfl (by simp) ?_
 simp only [List.nil_append,List.cons_append,Ak]
 obtain ⟨hi1,hi2,hi3⟩:=F0 sim hr
 have hrv:D3 g s=Aq (g.w i):=by unfold D3;rw [hr]
 have K:=Hid.mk k
 have Sim:=Hid.mk sim
 have Hr:=Hid.mk hr
 have Hrv:=Hid.mk hrv
 have Hel:=Hid.mk hel
 obtain ⟨vc,w1,w2,w3⟩:=k.W _ i hi3
 have hx:h[g.x]? = some (.cells [g.vj,g.vc,Aq g.hb,.map (some g.mb),.int .i64 s.now,g.vs,g.ve,D3 g s] false):=k.X.is
 have rs:=k.S.own.rd
 rw [hrv] at hx
 have hgl:=(GI.1 hx).1
 have hWx:=hW g.x (k.B.ge (by rw [k.X.tag];decide))
 have hWw:=hW (g.w i) (k.B.ge (by rw [w3];omega))
 have W3:=Hid.mk w3
 clear k sim hr hrv w3 hel
 refine WO.cut (fun fr h' => h'=h∧get fr 0=Aq g.x∧get fr 1 = .int .i64 N∧get fr 4=Aq (g.w i)) ?_ ?_
 ·(repeat' simp -dsimp (disch:=omega) only [↓EA,EB,Nat.reduceEqDiff,↓reduceIte,reduceCtorEq,eq_self, *])
 rintro fr h1 ⟨rfl,g0,g1,g4⟩
 refine WO.cut (fun fr h' => h'=h1∧get fr 0=Aq g.x∧get fr 1 = .int .i64 N∧get fr 4=Aq (g.w i)∧get fr 5 = .int .i64 ((s.spans.length:Int) - 1)) ?_ ?_
 ·(repeat' simp -dsimp (disch:=omega) only [↓EA,EB,Nat.reduceEqDiff,↓reduceIte,reduceCtorEq,eq_self, *,rs.len])
 clear g0 g1 g4
 rintro fr h1 ⟨rfl,g0,g1,g4,g5⟩
 refine WO.cut (fun fr h' => (∃ g',XInv h0 lv P jobs g' h' { s with spans:=Dm s.spans i s.now N }∧g'.x=g.x∧g'.w=g.w∧g'.tag (g.w i)=7+2 * i)∧get fr 0=Aq g.x∧get fr 1 = .int .i64 N∧get fr 4=Aq (g.w i)) ?_ ?_
 ·have hvl:∀ X:Prop,WL h1.length g.vs X=X:=fun X => by
   have ho:=K.out.S.own
   generalize g.vs=v at ho
   unfold OwnT at ho
   generalize s.spans.map Ajy=LL at ho
   cases ho with
   | nil => simp [WL,low]
   | some hm hb _ _ _ => have:=(GI.1 hb).1;simp [WL,low,this]
  have HV:=Hid.mk hvl
  clear hvl
  (repeat' (first | (with_reducible refine A1 (fun _ => ?_) (fun _ => ?_)<;>try (exfalso;omega)) | (with_reducible refine A3 (fun _ => ?_) (fun _ => ?_)<;>try (exfalso;omega)) | simp -dsimp (disch:=omega) only [↓EA,EB,Nat.reduceEqDiff,↓reduceIte,reduceCtorEq,eq_self, *,rs.ixs,rs.ld,rs.ld0,Ajy]))
  ·have hlen:(0:Int)<s.spans.length:=by omega
   have hne:s.spans≠[]:=fun e => by rw [e] at hlen;exact absurd hlen (by decide)
   have e:Dm s.spans i s.now N=s.spans.set ((s.spans.length:Int) - 1).toNat { atI s.spans ((s.spans.length:Int) - 1) with to':=(atI s.spans ((s.spans.length:Int) - 1)).to'+N }:=if_pos ⟨hlen,by assumption,by assumption⟩
   have hto:(atI s.spans ((s.spans.length:Int) - 1)).to'=s.now:=by assumption
   have He:=Hid.mk e
   clear e
   refine Amx K.out.S.own hW (fo:=2) { atI s.spans ((s.spans.length:Int) - 1) with to':=(atI s.spans ((s.spans.length:Int) - 1)).to'+N } (by omega) (by omega) (by decide) rfl (by rw [hto];rfl) fun h' o' hl' hk' => ?_
   have f:Foot g.tag g.tag 3 h1 h':=⟨by omega,fun b hb hn => hk' b fun e => hn (by rw [e];exact K.out.S.tag hne),fun _ _ => rfl⟩
   have k2:=K.out.spans0 f (L:=s.spans.set ((s.spans.length:Int) - 1).toNat { atI s.spans ((s.spans.length:Int) - 1) with to':=(atI s.spans ((s.spans.length:Int) - 1)).to'+N }) ⟨o',fun _ => K.out.S.tag hne⟩
   rw [← He.out] at k2
   have K2:=Hid.mk k2
   clear k2
   (repeat' simp -dsimp (disch:=omega) only [↓EA,EB,Nat.reduceEqDiff,↓reduceIte,reduceCtorEq,eq_self, *])
   exact ⟨_,K2.out,rfl,rfl,W3.out⟩
  all_goals
   have e:Dm s.spans i s.now N=s.spans++[⟨i,s.now,s.now+N⟩]:=if_neg (by
    rintro ⟨a,b,c⟩
    first
     | exact absurd b (by assumption)
     | exact absurd c (by assumption)
     | omega)
   rw [e]
   have hvl:=HV.out
   have hgx:∀ y,(h1++y)[g.x]? = some (.cells [g.vj,g.vc,Aq g.hb,.map (some g.mb),.int .i64 s.now,g.vs,g.ve,Aq (g.w i)] false):=fun y => by rw [GL hgl];exact hx
   have hww:∀ y,(h1++y)[g.w i]? = some (.cells [.int .i64 i,.int .i64 (jb jobs i).task,.int .i64 (s.left i),.int .i64 (s.sec i),vc] false):=fun y => by rw [GL (GI.1 w1).1];exact w1
   clear e
   (repeat' simp -dsimp (disch:=omega) only [↓EA,EB,Nat.reduceEqDiff,Nat.reduceAdd,Nat.reduceLeDiff,Nat.reduceMul,↓reduceIte,reduceCtorEq,Ac,Rq,eq_self, *,Ayr])
   have hgne:s.spans≠[]→g.x≠blk g.vs:=fun hn e => by
    have h1:=K.out.S.tag hn
    rw [← e] at h1
    have:=K.out.X.tag
    omega
   refine Afb (K.out.S.own.app _) (K.out.B.pre.app' _) (Nat.le_refl _) (by have:=K.out.B.pre.le;rw [LA];omega) (fun hn => hW _ (K.out.S.own.ge hn)) (⟨i,s.now,s.now+N⟩:Span) (by rw [Ci,Bm];rfl) rfl (by decide) (by decide) (by omega) fun v' h2 o2 p2 hb2 hl2 hk2 => ?_
   rw [LA,List.length_singleton] at hb2 hl2 hk2
   have f:Foot g.tag (Kg g.tag h1.length 3) 3 h1 h2:=⟨by omega,fun b hb hn => by
    rw [hk2 b (by omega) (fun hsn e => hn (by rw [e];exact K.out.S.tag hsn)),GL hb],fun b hb => if_pos hb⟩
   have k2:=K.out.spans f (vs:=v') (L:=s.spans++[⟨i,s.now,s.now+N⟩]) ⟨o2,fun _ => by rw [hb2];unfold Kg;rw [if_neg (by omega)]⟩
   have hx2:h2[g.x]? = some (.cells [g.vj,g.vc,Aq g.hb,.map (some g.mb),.int .i64 s.now,g.vs,g.ve,Aq (g.w i)] false):=by
    rw [hk2 g.x (by omega) hgne,GL hgl];exact hx
   have ov:=o2.rd.one
   have cv:=o2.rd.cv
   have hgl2:=(GI.1 hx2).1
   have KF:Hid (XInv h0 lv P jobs { g with vs:=v',tag:=Kg g.tag h1.length 3 } (h2.set g.x (LObj.cells [g.vj,g.vc,Aq g.hb,.map (some g.mb),.int .i64 s.now,v',g.ve,Aq (g.w i)] false)) { s with spans:=s.spans++[⟨i,s.now,s.now+N⟩] }):=⟨by
    have e5:Lq { g with vs:=v' } { s with spans:=s.spans++[⟨i,s.now,s.now+N⟩] }=[g.vj,g.vc,Aq g.hb,.map (some g.mb),.int .i64 s.now,v',g.ve,D3 g s]:=rfl
    rw [Hrv.out] at e5
    rw [← e5];exact k2⟩
   clear k2 f o2 hk2 hgx hww hgne hvl
   (repeat' simp -dsimp (disch:=omega) only [↓EA,EB,Nat.reduceEqDiff,Nat.reduceAdd,Nat.reduceLeDiff,↓reduceIte,reduceCtorEq,eq_self, *])
   exact ⟨_,KF.out,rfl,rfl,by
    show Kg g.tag h1.length 3 (g.w i)=_
    rw [Z1 (GI.1 w1).1];exact W3.out⟩
 clear hx rs hgl hWx hWw w1 g0 g1 g4 g5
 rintro fr h2 ⟨⟨g2,k2,hgx2,hgw2,htag2⟩,g0,g1,g4⟩
 rw [← hgx2] at g0 ⊢
 rw [← hgw2] at g4 htag2
 obtain ⟨rest,hq⟩:=Sim.out.run i Hr.out
 have hQi:s.Q (jb jobs i).task=some (i :: rest):=by rw [← hq];exact Alp hi3
 obtain ⟨vc,w1,w2,w3⟩:=k2.W _ i hi3
 have hx:h2[g2.x]? = some (.cells [g2.vj,g2.vc,Aq g2.hb,.map (some g2.mb),.int .i64 s.now,g2.vs,g2.ve,D3 g2 s] false):=k2.X.is
 have hrv:D3 g2 s=Aq (g2.w i):=by unfold D3;rw [Hr.out]
 rw [hrv] at hx
 dsimp only at w1 w2 w3
 have hgl:=(GI.1 hx).1
 have hWx:=hW g2.x (k2.B.ge (by rw [k2.X.tag];decide))
 have hWw:=hW (g2.w i) (k2.B.ge (by rw [w3];omega))
 have hne:g2.w i≠g2.x:=by
  intro e
  rw [e] at w3
  have:=k2.X.tag
  omega
 have k3:=k2.setX (vc:=g2.vc) (now:=s.now+N) (running:=s.running) (coming:=s.coming) k2.cr
 obtain ⟨h3,hh3⟩:∃ h3:Aa,h3=List.set h2 g2.x (LObj.cells [g2.vj,g2.vc,Aq g2.hb,.map (some g2.mb),.int .i64 (s.now+N),g2.vs,g2.ve,Aq (g2.w i)] false):=⟨_,rfl⟩
 have K3:Hid (XInv h0 lv P jobs g2 h3 { s with spans:=Dm s.spans i s.now N,now:=s.now+N }):=⟨by
  rw [hh3,← hrv];exact k3⟩
 have hx3:h3[g2.x]? = some (LObj.cells [g2.vj,g2.vc,Aq g2.hb,.map (some g2.mb),.int .i64 (s.now+N),g2.vs,g2.ve,Aq (g2.w i)] false):=by rw [hh3];exact B9 hgl
 have w13:h3[g2.w i]? = some (.cells [.int .i64 i,.int .i64 (jb jobs i).task,.int .i64 (s.left i),.int .i64 (s.sec i),vc] false):=by rw [hh3,Ba (Ne.symm hne)];exact w1
 have Hh3:=Hid.mk hh3.symm
 have H3:=Hid.mk (AI hx3 w13)
 have Hgx2:=Hid.mk hgx2
 have Hne:=Hid.mk hne
 have W2:=Hid.mk w2
 have ovc:=w2.one
 have cvc:=w2.cv
 have HQi:=Hid.mk hQi
 have Hq:=Hid.mk hq
 clear hh3 hx3 w13 hgx2 hgw2 hne k2 k3 hrv w2 hQi hq
 (repeat' simp -dsimp (disch:=omega) only [↓EA,EB,Nat.reduceEqDiff,Nat.reduceAdd,Nat.reduceLeDiff,↓reduceIte,reduceCtorEq,eq_self, *])
 rw [Hh3.out]
 clear hx hgl w1
 obtain ⟨hx3,w13⟩:=H3.out
 have hwl:=(GI.1 w13).1
 have k4:=K3.out.setW (t:=(jb jobs i).task) (i:=i) hi3 (left:=s.left i - N) (sec:=max (s.sec i - N) 0) (cuts:=s.cuts i) W2.out
 have K4:Hid (XInv h0 lv P jobs g2 (h3.set (g2.w i) (LObj.cells [.int .i64 i,.int .i64 (jb jobs i).task,.int .i64 (s.left i - N),.int .i64 (max (s.sec i - N) 0),vc] false)) { s with spans:=Dm s.spans i s.now N,now:=s.now+N,left:=at1 s.left i (s.left i - N),sec:=at1 s.sec i (max (s.sec i - N) 0) }):=⟨by
  have e:at1 s.cuts i (s.cuts i)=s.cuts:=Acu
  dsimp only at k4
  rw [e] at k4
  exact k4⟩
 obtain ⟨h4,hh4⟩:∃ h4:Aa,h4=List.set h3 (g2.w i) (LObj.cells [.int .i64 i,.int .i64 (jb jobs i).task,.int .i64 (s.left i - N),.int .i64 (max (s.sec i - N) 0),vc] false):=⟨_,rfl⟩
 rw [← hh4] at K4
 have hx4:h4[g2.x]? = some (LObj.cells [g2.vj,g2.vc,Aq g2.hb,.map (some g2.mb),.int .i64 (s.now+N),g2.vs,g2.ve,Aq (g2.w i)] false):=by rw [hh4,Ba Hne.out];exact hx3
 have w14:h4[g2.w i]? = some (.cells [.int .i64 i,.int .i64 (jb jobs i).task,.int .i64 (s.left i - N),.int .i64 (max (s.sec i - N) 0),vc] false):=by rw [hh4];exact B9 hwl
 have hgset:=fun o:LObj => B9 (h:=h3) (b:=g2.w i) (o:=o) hwl
 clear k4
 by_cases hz:s.left i - N=0
 ·have hwk:P6 jobs s i N={ s with now:=s.now+N,spans:=Dm s.spans i s.now N,left:=at1 s.left i 0,sec:=at1 s.sec i (max (s.sec i - N) 0),ends:=s.ends.set i (s.now+N),running:=none,Q:=at1 s.Q (jb jobs i).task (some rest),ready:=if rest=[] then s.ready else (jb jobs i).task :: s.ready }:=by
   unfold P6
   rw [if_pos hz,hz,Hq.out];rfl
  rw [hz] at hh4 K4 w14
  have H4:=Hid.mk (AI hx4 w14)
  have Hh4:=Hid.mk hh4.symm
  have Hwk:=Hid.mk hwk
  clear hh4 hx4 w14 hwk
  have hz2:(0:Int)=0:=rfl
  (repeat' simp -dsimp (disch:=omega) only [↓EA,EB,Nat.reduceEqDiff,Nat.reduceAdd,Nat.reduceLeDiff,↓reduceIte,reduceCtorEq,eq_self, *,List.set_set])
  rw [Hh4.out]
  obtain ⟨hx4,w14⟩:=H4.out
  clear hgset hx3 w13 hwl
  have ho:=K4.out.E.own
  have hil:(i:Int)<s.ends.length:=by rw [Hel.out];omega
  have hsne:s.ends≠[]:=fun e => by rw [e] at hil;simp at hil;omega
  have re:=ho.rd
  have htag:=K4.out.E.tag (RdO.ne ho hsne)
  (repeat' simp -dsimp (disch:=omega) only [↓EA,EB,Nat.reduceEqDiff,↓reduceIte,reduceCtorEq,eq_self, *,re.ixs])
  refine Ay0 ho hW (s.now+N) (i:=(i:Int)) (by omega) (by omega) (by decide) rfl rfl fun h5 o5 hl5 hk5 => ?_
  rw [Int.toNat_natCast] at o5
  have f5:Foot g2.tag g2.tag 4 h4 h5:=⟨by omega,fun b hb hn => hk5 b fun e => hn (by rw [e];exact htag),fun _ _ => rfl⟩
  have k5:=K4.out.ends f5 (L:=s.ends.set i (s.now+N)) ⟨o5,fun _ => htag⟩
  have hx5:h5[g2.x]? = some (LObj.cells [g2.vj,g2.vc,Aq g2.hb,.map (some g2.mb),.int .i64 (s.now+N),g2.vs,g2.ve,Aq (g2.w i)] false):=(f5.get hx4 (by rw [K4.out.X.tag];decide)).1
  have w15:=(f5.get w14 (by show g2.tag (g2.w i)≠4;rw [w3];omega)).1
  have hgl5:=(GI.1 hx5).1
  have k6:=k5.setX (vc:=g2.vc) (now:=s.now+N) (running:=none) (coming:=s.coming) k5.cr
  obtain ⟨h6,hh6⟩:∃ h6:Aa,h6=List.set h5 g2.x (LObj.cells [g2.vj,g2.vc,Aq g2.hb,.map (some g2.mb),.int .i64 (s.now+N),g2.vs,g2.ve,.pointer none] false):=⟨_,rfl⟩
  have K6:Hid (XInv h0 lv P jobs g2 h6 { s with spans:=Dm s.spans i s.now N,now:=s.now+N,left:=at1 s.left i 0,sec:=at1 s.sec i (max (s.sec i - N) 0),ends:=s.ends.set i (s.now+N),running:=none }):=⟨by rw [hh6];exact k6⟩
  have hx6:h6[g2.x]? = some (LObj.cells [g2.vj,g2.vc,Aq g2.hb,.map (some g2.mb),.int .i64 (s.now+N),g2.vs,g2.ve,.pointer none] false):=by rw [hh6];exact B9 hgl5
  have w16:h6[g2.w i]? = some (.cells [.int .i64 i,.int .i64 (jb jobs i).task,.int .i64 0,.int .i64 (max (s.sec i - N) 0),vc] false):=by rw [hh6,Ba (Ne.symm Hne.out)];exact w15
  have H6:=Hid.mk (AI hx6 w16)
  have Hh6:=Hid.mk hh6.symm
  clear k5 k6 hh6 hx6 w16 w15 f5 hx4 w14 ho re o5 hk5
  (repeat' simp -dsimp (disch:=omega) only [↓EA,EB,Nat.reduceEqDiff,Nat.reduceAdd,↓reduceIte,reduceCtorEq,eq_self, *])
  rw [Hh6.out]
  obtain ⟨hx6,w16⟩:=H6.out
  clear hx5 hgl5
  obtain ⟨es,m1,m2,m3,m4⟩:=K6.out.M
  have lk:=U1 m2 (.pointer none) (jb jobs i).task
  rw [m3] at lk
  dsimp only at lk
  rw [HQi.out] at lk
  simp only [Option.map_some,Option.getD_some] at lk
  have hpq:=A6f hE K6.out.B (K6.out.Q (jb jobs i).task (i :: rest) HQi.out).2 (fun j hj => (K6.out.W (jb jobs i).task j (by show j∈s.q _;rw [Hq.out];exact hj)).lt) hW
  (repeat' simp -dsimp (disch:=omega) only [↓EA,EB,Nat.reduceEqDiff,↓reduceIte,reduceCtorEq,eq_self, *])
  refine WX.mono hpq (fun b hb => hb) fun v7 h7 ⟨tag7,f7,cq7⟩ => ?_
  have k7:=K6.out.queue HQi.out f7 cq7 (fun j hj => K6.out.W (jb jobs i).task j (by show j∈s.q _;rw [Hq.out];exact List.mem_cons_of_mem _ hj))
  have hx7:h7[g2.x]? = some (LObj.cells [g2.vj,g2.vc,Aq g2.hb,.map (some g2.mb),.int .i64 (s.now+N),g2.vs,g2.ve,.pointer none] false):=k7.X.is
  have w17:=(f7.get w16 (by show g2.tag (g2.w i)≠_;rw [w3];omega)).1
  have hl7:=A3u hE cq7
  have hlen7:(rest.length:Int)≤4096:=by
   have h5:=Agm (Sim.out.asc (jb jobs i).task) (fun x hx => ((Sim.out.mem _ x).1 hx).1)
   have h6:=c.few
   rw [Hq.out,List.length_cons] at h5
   omega
  have hrdy:=Afn c Sim.out
  have hnt:=(F0 Sim.out Hr.out).2.1
  have K7:=Hid.mk k7
  clear k7 hx6 w16 m1 m2 m3 m4 lk hpq cq7 f7
  by_cases hr0:rest=[]
  ·have hl0:(rest.length:Int)=0:=by rw [hr0];rfl
   rw [hl0] at hl7
   have Hr0:=Hid.mk hr0
   clear hr0 hl0
   (repeat' (first | (with_reducible refine A3 (fun _ => ?_) (fun _ => ?_)<;>try (exfalso;omega)) | simp -dsimp (disch:=omega) only [↓EA,EB,Nat.reduceEqDiff,↓reduceIte,reduceCtorEq,eq_self, *]))
   obtain ⟨g',kf,hg'⟩:∃ g',XInv h0 lv P jobs g' h7 (P6 jobs s i N)∧g'.x=g2.x:=by
    refine ⟨?_,?_,?_⟩
    rotate_left
    ·rw [Hwk.out,if_pos Hr0.out];exact K7.out
    ·rfl
   exact ⟨g',kf,hg'⟩
  ·have hpos:=List.length_pos_iff.2 hr0
   have hpr:=Tq hE c K7.out.B K7.out.H hrdy (c.task hi1) hnt hW
   have Hr0:=Hid.mk hr0
   clear hr0
   (repeat' (first | (with_reducible refine A3 (fun _ => ?_) (fun _ => ?_)<;>try (exfalso;omega)) | simp -dsimp (disch:=omega) only [↓EA,EB,Nat.reduceEqDiff,↓reduceIte,reduceCtorEq,eq_self, *]))
   refine WX.mono hpr (fun b hb => hb) fun v8 h8 ⟨tag8,f8,H8⟩ => ?_
   have k8:=K7.out.ready f8 H8
   have K8:=Hid.mk k8
   clear k8 f8 H8
   (repeat' simp -dsimp (disch:=omega) only [↓EA,EB, *])
   obtain ⟨g',kf,hg'⟩:∃ g',XInv h0 lv P jobs g' h8 (P6 jobs s i N)∧g'.x=g2.x:=by
    refine ⟨?_,?_,?_⟩
    rotate_left
    ·rw [Hwk.out,if_neg Hr0.out];exact K8.out
    ·rfl
   exact ⟨g',kf,hg'⟩
 ·have hwk:P6 jobs s i N={ s with spans:=Dm s.spans i s.now N,now:=s.now+N,left:=at1 s.left i (s.left i - N),sec:=at1 s.sec i (max (s.sec i - N) 0) }:=by
   unfold P6
   rw [if_neg hz]
  have H4:=Hid.mk (AI hx4 w14)
  have Hh4:=Hid.mk hh4
  have Hwk:=Hid.mk hwk
  clear hh4 hx4 w14 hwk
  (repeat' simp -dsimp (disch:=omega) only [↓EA,EB,Nat.reduceEqDiff,Nat.reduceAdd,Nat.reduceLeDiff,↓reduceIte,reduceCtorEq,eq_self, *,List.set_set])
  rw [Hwk.out,← Hh4.out]
  exact ⟨g2,K4.out,rfl⟩
end Go.L.Try
namespace Go.L.Try
open Go Go.L
variable {E:Env}
variable {h0 h h':Aa} {lv:Value} {P:Int→Int} {n:Nat} {l:List Ab} {jobs:List Job} {g:Gh} {s:XS} {r:RS} {e:Int}
theorem Vt (S:Script l jobs) (sim:SimC jobs s r) (hi:RsInv jobs r) {t:Int} {i:Nat} (him:i∈s.q t):0≤s.sec i∧s.sec i≤s.left i∧s.left i≤(jb jobs i).work:=by
 obtain ⟨hi1,_,_,_⟩:=(sim.mem _ i).1 him
 have hcv:=sim.cut _ i him
 have hlf:=sim.left _ i him
 obtain ⟨hc1,hc2⟩:=S.cuts hi1
 obtain ⟨pre,e1,h1,h2⟩:=hcv.is
 have hnn:=hcv.nn
 have hp0:=Ob fun c hc => hc1 c (show c∈(jb jobs i).cuts by rw [e1];exact List.mem_append_left _ hc)
 have hpre:Gb pre≤(jb jobs i).work:=by
  have:Gb (jb jobs i).cuts=Gb pre+Gb (s.cuts i):=by rw [e1,Vp]
  have:=Ob fun c hc => hc1 c (show c∈(jb jobs i).cuts by rw [e1];exact List.mem_append_right _ hc)
  omega
 refine ⟨hnn,?_,?_⟩
 ·have:=((sim.mem _ i).1 him).2.2.2
  rcases h1 with h1 | ⟨_,h1,_⟩<;>omega
 ·have:=(hi.done i hi1).1;omega
theorem Zz (sim:SimC jobs s r):∀ k∈s.coming,Em jobs s≤(jb jobs k).release:=fun k hk => by
 unfold Em
 cases hc:s.coming with
 | nil => rw [hc] at hk;cases hk
 | cons c rest =>
  have hs:=sim.sorted
  rw [hc] at hk hs
  rw [List.pairwise_cons] at hs
  rcases List.mem_cons.1 hk with rfl | hk
  ·exact Int.le_refl _
  ·have:=hs.1 k hk;unfold ltO at this;dsimp only;omega
theorem R0 (hE:Aw E) (c:Ctx E h0 lv P n l jobs) (k:XInv h0 lv P jobs g h s) (sim:SimC jobs s r) (hi:RsInv jobs r) (hsum:Hy jobs≤1099511627776) {i:Nat} (hr:s.running=some i) (hp:Bj l jobs r=i) (hmin:s.sec i=0→∀ u,s.q u≠[]→(atI l (jb jobs i).task).P≤(atI l u).P) {N:Int} (hN:0<N)
  (hn:N≤s.sec i∨(s.sec i=0∧s.cuts i=[]∧N≤s.left i∧∀ k∈s.coming,s.now+N≤(jb jobs k).release)) (he:s.now+N≤e) {W:Nat→Prop} (hW:∀ b,h0.length≤b→W b) :
  WX W (callW E (.func (.func Ao) #[Aq g.x] #[]) [.int .i64 N] h) (fun _ h' => ∃ g' s' r',XInv h0 lv P jobs g' h' s'∧g'.x=g.x∧Tk jobs s' r'∧RsInv jobs r'∧Bt l jobs e r=Bt l jobs e r'∧Ey jobs r'<Ey jobs r):=by
 obtain ⟨hi1,hi2,hi3⟩:=F0 sim hr
 obtain ⟨s1,s2,s3⟩:=Vt c.S sim hi hi3
 have hw:=c.S.ok.work _ (Dk hi1)
 have ht:=sim.t
 have h1:=hi.t0
 have h2:=hi.t1
 have h3:=hi.sum
 have hNl:N≤s.left i:=by rcases hn with hn | hn<;>omega
 have hL:=hi.L
 rw [sim.L] at hL
 have hel:=hi.elen
 rw [sim.ends] at hel
 refine WX.mono (Axa hE c k sim hr hN hNl ⟨by omega,by unfold Eu at h2;omega⟩ (by omega) ⟨s1,by omega⟩ (by omega) hel hW) (fun b hb => hb) fun _ h' ⟨g',k',hg'⟩ => ?_
 obtain ⟨M,rfl⟩:∃ M:Nat,N=M:=⟨N.toNat,by omega⟩
 obtain ⟨r',q1,q2,q3,q4⟩:=At0 (e:=e) c.S sim hi hr hp hmin (N:=M) (by omega) hn (.inr he)
 exact ⟨g',_,r',k',hg',q1,q2,q3,q4⟩
def A6k (h0:Aa) (lv:Value) (P:Int→Int) (jobs:List Job) (x:Nat) (R:RS) (h:Aa):Prop:=∃ g s,XInv h0 lv P jobs g h s∧g.x=x∧R.L=s.spans∧R.ends=s.ends
theorem A03 (hE:Aw E) (c:Ctx E h0 lv P n l jobs) (k:XInv h0 lv P jobs g h s) (sim:Tk jobs s r) (hri:RsInv jobs r) (hsum:Hy jobs≤1099511627776) (he:Nj e) {W:Nat→Prop} (hW:∀ b,h0.length≤b→W b) :
  WX W (callW E (.func (.func C3) #[] #[]) [Aq g.x,.int .i64 e] h) (fun _ h' => A6k h0 lv P jobs g.x (Bt l jobs (max e 0) r) h'):=by
 refine E9 hE.U8 rfl (by simp) ?_
 simp only [List.nil_append,List.cons_append,Ak]
 obtain ⟨e',he'⟩:∃ e',e'=max e 0:=⟨_,rfl⟩
 have hne:0≤e':=by omega
 have hee:e≤e'∧(0<e→e'=e)∧(e≤0→e'=0):=by omega
 rw [← he']
 clear he'
 unfold Nj at he
 have K:=Hid.mk (AI k (AI sim hri))
 clear k sim hri
 (repeat' simp -dsimp (disch:=omega) only [↓EA,EB,Nat.reduceEqDiff,↓reduceIte,reduceCtorEq,eq_self, *])
 obtain ⟨R,hR⟩:∃ R,R=Bt l jobs e' r:=⟨_,rfl⟩
 rw [← hR]
 have HR:=Hid.mk hR
 refine WO.loop (fun (a:Gh × XS × RS) fr h' => XInv h0 lv P jobs a.1 h' a.2.1∧Tk jobs a.2.1 a.2.2∧RsInv jobs a.2.2∧R=Bt l jobs e' a.2.2∧a.1.x=g.x∧get fr 0=Aq a.1.x∧get fr 1 = .int .i64 e∧get fr 4 = .func (.func Ao) #[Aq a.1.x] #[]) (fun a => Ey jobs a.2.2) ?_ (g,s,r) ⟨K.out.1,K.out.2.1,K.out.2.2,hR,rfl,rfl,rfl,rfl⟩
 clear K HR hR
 rintro ⟨g1,s1,r1⟩ fr h1 ⟨k,sim,hri,hst,hgx,g0,g1',g4⟩
 dsimp only at k sim hri hst hgx g0 g4 ⊢
 rw [← hgx]
 have hx:h1[g1.x]? = some (.cells [g1.vj,g1.vc,Aq g1.hb,.map (some g1.mb),.int .i64 s1.now,g1.vs,g1.ve,D3 g1 s1] false):=k.X.is
 have ht:=sim.t
 have t0:=hri.t0
 have t1:=hri.t1
 have t2:=hri.sum
 have hnow:0≤s1.now∧s1.now<4611686018427387904:=by unfold Eu at t1;omega
 have K:=Hid.mk (AI k sim)
 replace hst:=Hid.mk hst
 replace hri:=Hid.mk hri
 have Hgx:=Hid.mk hgx
 clear k sim ht t0 t1 t2 hgx
 unfold Jl
 by_cases hend:s1.now<e
 ·have hrel:=Ajt hE c K.out.1 K.out.2 hW
  (repeat' simp -dsimp (disch:=omega) only [↓EA,EB,Nat.reduceEqDiff,↓reduceIte,reduceCtorEq,eq_self, *])
  refine WX.mono hrel (fun b hb => hb) fun v2 h2 ⟨g2,s2,k2,sim2,hg2,hn2,hco⟩ => ?_
  rw [← hg2] at g0 g4 ⊢
  have hin2:∀ i∈s2.coming,i<jobs.length:=fun i hi => (sim2.coming i hi).1
  have hx2:h2[g2.x]? = some (.cells [g2.vj,g2.vc,Aq g2.hb,.map (some g2.mb),.int .i64 s2.now,g2.vs,g2.ve,D3 g2 s2] false):=k2.X.is
  rw [← hn2] at hend hnow hco
  have Hg2:=Hid.mk hg2
  have HG2:=Hid.mk (hg2.trans Hgx.out)
  clear hx hg2 hn2 hrel K
  cases hr2:s2.running with
  | none =>
   have hrv:D3 g2 s2 = .pointer none:=by unfold D3;rw [hr2]
   rw [hrv] at hx2
   have Hr2:=Hid.mk hr2
   clear hrv hr2
   (repeat' simp -dsimp (disch:=omega) only [↓EA,EB,Nat.reduceEqDiff,↓reduceIte,reduceCtorEq,eq_self, *,Aka])
   have hin0:∀ k,s2.running=some k→s2.sec k=0:=fun k hk => by rw [Hr2.out] at hk;cases hk
   have Hin0:=Hid.mk hin0
   clear hin0
   have hch:=Ab5 hE c k2 sim2.toSimC hW
   refine WX.mono hch (fun b hb => hb) fun v3 h3 hv3 => ?_
   rcases hv3 with ⟨rfl,hz,g3,k3,hg3⟩ | ⟨rfl,g3,t,rd,i,rest,hperm,hmin,hqt,k3,hg3⟩
   ·have hrn:s2.running=none:=by
     cases hh:s2.running with
     | none => rfl
     | some j => unfold back at hz;rw [hh] at hz;simp at hz
    have hrdy:s2.ready=[]:=by unfold back at hz;rw [hrn] at hz;exact hz
    have hnx:=Wj hE k3 hin2
    have hx3:h3[g3.x]? = some (.cells [g3.vj,g3.vc,Aq g3.hb,.map (some g3.mb),.int .i64 s2.now,g3.vs,g3.ve,D3 g3 s2] false):=k3.X.is
    have hrv3:D3 g3 s2 = .pointer none:=by unfold D3;rw [hrn]
    rw [hrv3] at hx3
    rw [← hg3] at g0 g4 ⊢
    have hgl3:=(GI.1 hx3).1
    have hWx3:=hW g3.x (k3.B.ge (by rw [k3.X.tag];decide))
    have Kz:=Hid.mk (AI k3 (AI sim2 (AI hrn hrdy)))
    have HG3:=Hid.mk (hg3.trans HG2.out)
    have hng:=Zz sim2.toSimC
    have Hng:=Hid.mk hng
    have Hin2:=Hid.mk hin2
    have Hco:=Hid.mk hco
    clear hz k3 hrn hrdy hg3 hx2 hng hin2 hch hco hrv3 k2 sim2
    by_cases hne2:e≤Em jobs s2
    ·have Hne:=Hid.mk hne2
     (repeat' simp -dsimp (disch:=omega) only [↓EA,EB,Nat.reduceEqDiff,↓reduceIte,reduceCtorEq,eq_self, *])
     obtain ⟨q1,q2⟩:=Am3 c.S Kz.out.2.1 hri.out Kz.out.2.2.1 Kz.out.2.2.2 (e:=e') fun k hk => ⟨hne,by have:=Hng.out k hk;have:=Hne.out;omega⟩
     rw [hst.out]
     exact ⟨g3,s2,Kz.out.1,rfl,q1,q2⟩
    ·have Hne:=Hid.mk hne2
     have k5:=Kz.out.1.setX (vc:=g3.vc) (now:=Em jobs s2) (running:=s2.running) (coming:=s2.coming) Kz.out.1.cr
     have K5:=Hid.mk k5
     clear k5
     (repeat' simp -dsimp (disch:=omega) only [↓EA,EB,Nat.reduceEqDiff,Nat.reduceAdd,Nat.reduceLeDiff,↓reduceIte,reduceCtorEq,eq_self, *])
     have hcne:s2.coming≠[]:=by
      intro hc0
      have:=Hne.out
      unfold Em at this
      rw [hc0] at this
      dsimp only at this
      omega
     obtain ⟨c0,rest0,hc0⟩:∃ c0 rest0,s2.coming=c0 :: rest0:=by
      cases hh:s2.coming with
      | nil => exact absurd hh hcne
      | cons a b => exact ⟨a,b,rfl⟩
     have hnx0:Em jobs s2=(jb jobs c0).release:=by unfold Em;rw [hc0]
     obtain ⟨r',q1,q2,q3,q4⟩:=Aha (e:=e') c.S Kz.out.2.1 hri.out Kz.out.2.2.1 Kz.out.2.2.2 hc0 (Hco.out c0 (by rw [hc0];simp)) (.inr (by rw [← hnx0];have:=Hne.out;omega))
     rw [← hnx0] at q1
     refine Next.mk (g3,{ s2 with now:=Em jobs s2 },r') ⟨?_,q1,q2,hst.out.trans q3,rfl,rfl,rfl,rfl⟩ q4
     have k6:=K5.out
     unfold Lq at k6
     have e6:D3 { g3 with vc:=g3.vc } { s2 with now:=Em jobs s2,running:=s2.running,coming:=s2.coming } = .pointer none:=by unfold D3;dsimp only;rw [Kz.out.2.2.1]
     rw [e6] at k6
     exact k6
   ·obtain ⟨i',rest',hqt',htk,sim3,hp3,hr3,hm3,hs3⟩:=Aaq c.S sim2 (fun i hi => hco i hi) Hin0.out hperm (fun u hu => by have:=hmin u hu;rw [c.Pl,c.Pl] at this;exact this)
    have hii:i'=i:=by rw [hqt] at hqt';cases hqt';rfl
    subst hii
    have hB:(back jobs s2).now=s2.now∧(back jobs s2).coming=s2.coming:=by unfold back;split<;>exact ⟨rfl,rfl⟩
    have hS:(chosen (back jobs s2) rd i').now=s2.now∧(chosen (back jobs s2) rd i').coming=s2.coming∧∀ u,(chosen (back jobs s2) rd i').q u=s2.q u:=by
     have hq0:∀ u,(back jobs s2).q u=s2.q u:=fun u => by unfold back;split<;>rfl
     refine ⟨?_,?_,fun u => ?_⟩
     ·unfold chosen;split<;>exact hB.1
     ·unfold chosen;split<;>exact hB.2
     ·rw [← hq0 u];unfold chosen;split<;>rfl
    generalize chosen (back jobs s2) rd i'=s3 at *
    obtain ⟨hS1,hS2,hS3⟩:=hS
    have hx3:h3[g3.x]? = some (.cells [g3.vj,g3.vc,Aq g3.hb,.map (some g3.mb),.int .i64 s3.now,g3.vs,g3.ve,D3 g3 s3] false):=k3.X.is
    have hrv3:D3 g3 s3=Aq (g3.w i'):=by unfold D3;rw [hr3]
    rw [hrv3] at hx3
    have him:i'∈s3.q (jb jobs i').task:=by rw [hS3,htk,hqt];simp
    obtain ⟨vc3,w13,w23,w33⟩:=k3.W _ i' him
    obtain ⟨y1,y2,y3⟩:=Vt c.S sim3 hri.out him
    have hwk:=c.S.ok.work _ (Dk ((sim3.mem _ i').1 him).1)
    have hin3:∀ k∈s3.coming,k<jobs.length:=fun k hk => (sim3.coming k hk).1
    have hnx3:=Wj hE k3 hin3
    have hnl3:=Zz sim3
    have hco3:s3.now<Em jobs s3:=by
     unfold Em
     cases hc3:s3.coming with
     | nil => dsimp only;rw [hS1];omega
     | cons a b => dsimp only;rw [hS1];exact hco a (by rw [← hS2,hc3];simp)
    have hnb:Em jobs s3≤9223372036854775807:=by
     unfold Em
     cases hc3:s3.coming with
     | nil => exact Int.le_refl _
     | cons a b =>
      have:=(c.S.ok.rel _ (Dk (hin3 a (by rw [hc3];simp)))).2
      unfold Eu at this
      dsimp only;omega
    rw [← hg3] at g0 g4 ⊢
    rw [← hS1] at hend hnow
    have K3:=Hid.mk (AI k3 sim3)
    have Hr3:=Hid.mk (AI hr3 (AI hp3 hs3))
    have Hm3:Hid (s3.sec i'=0→∀ u,s3.q u≠[]→(atI l (jb jobs i').task).P≤(atI l u).P):=⟨fun _ u hu => by rw [htk];exact hm3 u (by rw [← hS3];exact hu)⟩
    have Hnl:=Hid.mk hnl3
    have HG3:=Hid.mk (hg3.trans HG2.out)
    clear hx2 hr3 hp3 hs3 hm3 hnl3 hrv3 k3 sim3 hS1 hS2 hS3 hB hqt hqt' hperm hmin htk him hin2 hin3 hch hco w23 w33 hg3 k2 sim2
    by_cases hsec:0<s3.sec i'
    ·(repeat' (first | (with_reducible refine A3 (fun _ => ?_) (fun _ => ?_)<;>try (exfalso;omega)) | simp -dsimp (disch:=omega) only [↓EA,EB,Nat.reduceEqDiff,↓reduceIte,reduceCtorEq,eq_self, *]))
     refine WX.mono (R0 hE c K3.out.1 K3.out.2 hri.out hsum Hr3.out.1 Hr3.out.2.1 Hm3.out (N:=(min (s3.sec i') (e - s3.now))) (e:=e') (by omega) (.inl (by omega)) (by omega) hW) (fun b hb => hb) fun v9 h9 ⟨g9,s9,r9,k9,hg9,z1,z2,z3,z4⟩ => ?_
     have K9:=Hid.mk (AI k9 (AI z1 (AI z2 z3)))
     have Hg9:=Hid.mk hg9
     clear k9 z1 z2 z3 hg9
     (repeat' simp -dsimp (disch:=omega) only [↓EA,EB,Nat.reduceEqDiff,↓reduceIte,reduceCtorEq,eq_self, *])
     exact Next.mk (g9,s9,r9) ⟨K9.out.1,K9.out.2.1,K9.out.2.2.1,hst.out.trans K9.out.2.2.2,Hg9.out,by show _=Aq g9.x;rw [Hg9.out];rfl,rfl,by show _=Value.func (.func Ao) #[Aq g9.x] #[];rw [Hg9.out];rfl⟩ z4
    ·have hs0:s3.sec i'=0:=by omega
     have hcu:s3.cuts i'=[]:=by rcases Hr3.out.2.2 with h5 | h5;omega;exact h5.2
     have hlp:0<s3.left i':=by
      have h5:=(K3.out.2.mem (jb jobs i').task i').1 (F0 K3.out.2 Hr3.out.1).2.2
      have h6:=K3.out.2.left _ i' (F0 K3.out.2 Hr3.out.1).2.2
      omega
     rw [hs0] at w13
     have Hs0:=Hid.mk (AI hs0 hcu)
     clear hs0 hcu hsec y1 y2
     (repeat' simp -dsimp (disch:=omega) only [↓EA,EB,Nat.reduceEqDiff,↓reduceIte,reduceCtorEq,eq_self, *])
     refine WX.mono (R0 hE c K3.out.1 K3.out.2 hri.out hsum Hr3.out.1 Hr3.out.2.1 Hm3.out (N:=(min (min (s3.left i') (Em jobs s3 - s3.now)) (e - s3.now))) (e:=e') (by omega) (.inr ⟨Hs0.out.1,Hs0.out.2,by omega,fun k hk => by have:=Hnl.out k hk;omega⟩) (by omega) hW) (fun b hb => hb) fun v9 h9 ⟨g9,s9,r9,k9,hg9,z1,z2,z3,z4⟩ => ?_
     have K9:=Hid.mk (AI k9 (AI z1 (AI z2 z3)))
     have Hg9:=Hid.mk hg9
     clear k9 z1 z2 z3 hg9
     (repeat' simp -dsimp (disch:=omega) only [↓EA,EB,Nat.reduceEqDiff,↓reduceIte,reduceCtorEq,eq_self, *])
     exact Next.mk (g9,s9,r9) ⟨K9.out.1,K9.out.2.1,K9.out.2.2.1,hst.out.trans K9.out.2.2.2,Hg9.out,by show _=Aq g9.x;rw [Hg9.out];rfl,rfl,by show _=Value.func (.func Ao) #[Aq g9.x] #[];rw [Hg9.out];rfl⟩ z4
  | some i =>
   have hrv:D3 g2 s2=Aq (g2.w i):=by unfold D3;rw [hr2]
   rw [hrv] at hx2
   have him:=(F0 sim2.toSimC hr2).2.2
   obtain ⟨vc,w1,w2,w3⟩:=k2.W _ i him
   obtain ⟨y1,y2,y3⟩:=Vt c.S sim2.toSimC hri.out him
   have hwk:=c.S.ok.work _ (Dk ((sim2.mem _ i).1 him).1)
   have Hr2:=Hid.mk hr2
   clear hrv hr2 w2 w3 him
   by_cases hsec:0<s2.sec i
   ·have hp2:=Ak0 (l:=l) sim2 Hr2.out hsec
    have Hp2:=Hid.mk hp2
    have Hsec:=Hid.mk hsec
    clear hp2
    (repeat' (first | (with_reducible refine A3 (fun _ => ?_) (fun _ => ?_)<;>try (exfalso;omega)) | simp -dsimp (disch:=omega) only [↓EA,EB,Nat.reduceEqDiff,↓reduceIte,reduceCtorEq,eq_self, *,Acq]))
    refine WX.mono (R0 hE c k2 sim2.toSimC hri.out hsum Hr2.out Hp2.out (fun h0 => absurd Hsec.out (by omega)) (N:=(min (s2.sec i) (e - s2.now))) (e:=e') (by omega) (.inl (by omega)) (by omega) hW) (fun b hb => hb) fun v9 h9 ⟨g9,s9,r9,k9,hg9,z1,z2,z3,z4⟩ => ?_
    have K9:=Hid.mk (AI k9 (AI z1 (AI z2 z3)))
    have Hg9:=Hid.mk hg9
    clear k9 z1 z2 z3 hg9
    (repeat' simp -dsimp (disch:=omega) only [↓EA,EB,Nat.reduceEqDiff,↓reduceIte,reduceCtorEq,eq_self, *])
    exact Next.mk (g9,s9,r9) ⟨K9.out.1,K9.out.2.1,K9.out.2.2.1,hst.out.trans K9.out.2.2.2,Hg9.out,by show _=Aq g9.x;rw [Hg9.out];rfl,rfl,by show _=Value.func (.func Ao) #[Aq g9.x] #[];rw [Hg9.out];rfl⟩ z4
   ·have hs0:s2.sec i=0:=by omega
    rw [hs0] at w1
    have Hs0:=Hid.mk hs0
    clear hs0 hsec y1 y2 y3 hwk
    (repeat' (first | (with_reducible refine A1 (fun _ => ?_) (fun _ => ?_)<;>try (exfalso;omega)) | simp -dsimp (disch:=omega) only [↓EA,EB,Nat.reduceEqDiff,↓reduceIte,reduceCtorEq,eq_self, *,Acq]))
    clear w1
    have hin0:∀ k,s2.running=some k→s2.sec k=0:=fun k hk => by rw [Hr2.out] at hk;cases hk;exact Hs0.out
    have Hin0:=Hid.mk hin0
    clear hin0
    have hch:=Ab5 hE c k2 sim2.toSimC hW
    refine WX.mono hch (fun b hb => hb) fun v3 h3 hv3 => ?_
    rcases hv3 with ⟨rfl,hz,g3,k3,hg3⟩ | ⟨rfl,g3,t,rd,i,rest,hperm,hmin,hqt,k3,hg3⟩
    ·have hrn:s2.running=none:=by
      cases hh:s2.running with
      | none => rfl
      | some j => unfold back at hz;rw [hh] at hz;simp at hz
     have hrdy:s2.ready=[]:=by unfold back at hz;rw [hrn] at hz;exact hz
     have hnx:=Wj hE k3 hin2
     have hx3:h3[g3.x]? = some (.cells [g3.vj,g3.vc,Aq g3.hb,.map (some g3.mb),.int .i64 s2.now,g3.vs,g3.ve,D3 g3 s2] false):=k3.X.is
     have hrv3:D3 g3 s2 = .pointer none:=by unfold D3;rw [hrn]
     rw [hrv3] at hx3
     rw [← hg3] at g0 g4 ⊢
     have hgl3:=(GI.1 hx3).1
     have hWx3:=hW g3.x (k3.B.ge (by rw [k3.X.tag];decide))
     have Kz:=Hid.mk (AI k3 (AI sim2 (AI hrn hrdy)))
     have HG3:=Hid.mk (hg3.trans HG2.out)
     have hng:=Zz sim2.toSimC
     have Hng:=Hid.mk hng
     have Hin2:=Hid.mk hin2
     have Hco:=Hid.mk hco
     clear hz k3 hrn hrdy hg3 hx2 hng hin2 hch hco hrv3 k2 sim2
     by_cases hne2:e≤Em jobs s2
     ·have Hne:=Hid.mk hne2
      (repeat' simp -dsimp (disch:=omega) only [↓EA,EB,Nat.reduceEqDiff,↓reduceIte,reduceCtorEq,eq_self, *])
      obtain ⟨q1,q2⟩:=Am3 c.S Kz.out.2.1 hri.out Kz.out.2.2.1 Kz.out.2.2.2 (e:=e') fun k hk => ⟨hne,by have:=Hng.out k hk;have:=Hne.out;omega⟩
      rw [hst.out]
      exact ⟨g3,s2,Kz.out.1,rfl,q1,q2⟩
     ·have Hne:=Hid.mk hne2
      have k5:=Kz.out.1.setX (vc:=g3.vc) (now:=Em jobs s2) (running:=s2.running) (coming:=s2.coming) Kz.out.1.cr
      have K5:=Hid.mk k5
      clear k5
      (repeat' simp -dsimp (disch:=omega) only [↓EA,EB,Nat.reduceEqDiff,Nat.reduceAdd,Nat.reduceLeDiff,↓reduceIte,reduceCtorEq,eq_self, *])
      have hcne:s2.coming≠[]:=by
       intro hc0
       have:=Hne.out
       unfold Em at this
       rw [hc0] at this
       dsimp only at this
       omega
      obtain ⟨c0,rest0,hc0⟩:∃ c0 rest0,s2.coming=c0 :: rest0:=by
       cases hh:s2.coming with
       | nil => exact absurd hh hcne
       | cons a b => exact ⟨a,b,rfl⟩
      have hnx0:Em jobs s2=(jb jobs c0).release:=by unfold Em;rw [hc0]
      obtain ⟨r',q1,q2,q3,q4⟩:=Aha (e:=e') c.S Kz.out.2.1 hri.out Kz.out.2.2.1 Kz.out.2.2.2 hc0 (Hco.out c0 (by rw [hc0];simp)) (.inr (by rw [← hnx0];have:=Hne.out;omega))
      rw [← hnx0] at q1
      refine Next.mk (g3,{ s2 with now:=Em jobs s2 },r') ⟨?_,q1,q2,hst.out.trans q3,rfl,rfl,rfl,rfl⟩ q4
      have k6:=K5.out
      unfold Lq at k6
      have e6:D3 { g3 with vc:=g3.vc } { s2 with now:=Em jobs s2,running:=s2.running,coming:=s2.coming } = .pointer none:=by unfold D3;dsimp only;rw [Kz.out.2.2.1]
      rw [e6] at k6
      exact k6
    ·obtain ⟨i',rest',hqt',htk,sim3,hp3,hr3,hm3,hs3⟩:=Aaq c.S sim2 (fun i hi => hco i hi) Hin0.out hperm (fun u hu => by have:=hmin u hu;rw [c.Pl,c.Pl] at this;exact this)
     have hii:i'=i:=by rw [hqt] at hqt';cases hqt';rfl
     subst hii
     have hB:(back jobs s2).now=s2.now∧(back jobs s2).coming=s2.coming:=by unfold back;split<;>exact ⟨rfl,rfl⟩
     have hS:(chosen (back jobs s2) rd i').now=s2.now∧(chosen (back jobs s2) rd i').coming=s2.coming∧∀ u,(chosen (back jobs s2) rd i').q u=s2.q u:=by
      have hq0:∀ u,(back jobs s2).q u=s2.q u:=fun u => by unfold back;split<;>rfl
      refine ⟨?_,?_,fun u => ?_⟩
      ·unfold chosen;split<;>exact hB.1
      ·unfold chosen;split<;>exact hB.2
      ·rw [← hq0 u];unfold chosen;split<;>rfl
     generalize chosen (back jobs s2) rd i'=s3 at *
     obtain ⟨hS1,hS2,hS3⟩:=hS
     have hx3:h3[g3.x]? = some (.cells [g3.vj,g3.vc,Aq g3.hb,.map (some g3.mb),.int .i64 s3.now,g3.vs,g3.ve,D3 g3 s3] false):=k3.X.is
     have hrv3:D3 g3 s3=Aq (g3.w i'):=by unfold D3;rw [hr3]
     rw [hrv3] at hx3
     have him:i'∈s3.q (jb jobs i').task:=by rw [hS3,htk,hqt];simp
     obtain ⟨vc3,w13,w23,w33⟩:=k3.W _ i' him
     obtain ⟨y1,y2,y3⟩:=Vt c.S sim3 hri.out him
     have hwk:=c.S.ok.work _ (Dk ((sim3.mem _ i').1 him).1)
     have hin3:∀ k∈s3.coming,k<jobs.length:=fun k hk => (sim3.coming k hk).1
     have hnx3:=Wj hE k3 hin3
     have hnl3:=Zz sim3
     have hco3:s3.now<Em jobs s3:=by
      unfold Em
      cases hc3:s3.coming with
      | nil => dsimp only;rw [hS1];omega
      | cons a b => dsimp only;rw [hS1];exact hco a (by rw [← hS2,hc3];simp)
     have hnb:Em jobs s3≤9223372036854775807:=by
      unfold Em
      cases hc3:s3.coming with
      | nil => exact Int.le_refl _
      | cons a b =>
       have:=(c.S.ok.rel _ (Dk (hin3 a (by rw [hc3];simp)))).2
       unfold Eu at this
       dsimp only;omega
     rw [← hg3] at g0 g4 ⊢
     rw [← hS1] at hend hnow
     have K3:=Hid.mk (AI k3 sim3)
     have Hr3:=Hid.mk (AI hr3 (AI hp3 hs3))
     have Hm3:Hid (s3.sec i'=0→∀ u,s3.q u≠[]→(atI l (jb jobs i').task).P≤(atI l u).P):=⟨fun _ u hu => by rw [htk];exact hm3 u (by rw [← hS3];exact hu)⟩
     have Hnl:=Hid.mk hnl3
     have HG3:=Hid.mk (hg3.trans HG2.out)
     clear hx2 hr3 hp3 hs3 hm3 hnl3 hrv3 k3 sim3 hS1 hS2 hS3 hB hqt hqt' hperm hmin htk him hin2 hin3 hch hco w23 w33 hg3 k2 sim2
     by_cases hsec:0<s3.sec i'
     ·(repeat' (first | (with_reducible refine A3 (fun _ => ?_) (fun _ => ?_)<;>try (exfalso;omega)) | simp -dsimp (disch:=omega) only [↓EA,EB,Nat.reduceEqDiff,↓reduceIte,reduceCtorEq,eq_self, *]))
      refine WX.mono (R0 hE c K3.out.1 K3.out.2 hri.out hsum Hr3.out.1 Hr3.out.2.1 Hm3.out (N:=(min (s3.sec i') (e - s3.now))) (e:=e') (by omega) (.inl (by omega)) (by omega) hW) (fun b hb => hb) fun v9 h9 ⟨g9,s9,r9,k9,hg9,z1,z2,z3,z4⟩ => ?_
      have K9:=Hid.mk (AI k9 (AI z1 (AI z2 z3)))
      have Hg9:=Hid.mk hg9
      clear k9 z1 z2 z3 hg9
      (repeat' simp -dsimp (disch:=omega) only [↓EA,EB,Nat.reduceEqDiff,↓reduceIte,reduceCtorEq,eq_self, *])
      exact Next.mk (g9,s9,r9) ⟨K9.out.1,K9.out.2.1,K9.out.2.2.1,hst.out.trans K9.out.2.2.2,Hg9.out,by show _=Aq g9.x;rw [Hg9.out];rfl,rfl,by show _=Value.func (.func Ao) #[Aq g9.x] #[];rw [Hg9.out];rfl⟩ z4
     ·have hs0:s3.sec i'=0:=by omega
      have hcu:s3.cuts i'=[]:=by rcases Hr3.out.2.2 with h5 | h5;omega;exact h5.2
      have hlp:0<s3.left i':=by
       have h5:=(K3.out.2.mem (jb jobs i').task i').1 (F0 K3.out.2 Hr3.out.1).2.2
       have h6:=K3.out.2.left _ i' (F0 K3.out.2 Hr3.out.1).2.2
       omega
      rw [hs0] at w13
      have Hs0:=Hid.mk (AI hs0 hcu)
      clear hs0 hcu hsec y1 y2
      (repeat' simp -dsimp (disch:=omega) only [↓EA,EB,Nat.reduceEqDiff,↓reduceIte,reduceCtorEq,eq_self, *])
      refine WX.mono (R0 hE c K3.out.1 K3.out.2 hri.out hsum Hr3.out.1 Hr3.out.2.1 Hm3.out (N:=(min (min (s3.left i') (Em jobs s3 - s3.now)) (e - s3.now))) (e:=e') (by omega) (.inr ⟨Hs0.out.1,Hs0.out.2,by omega,fun k hk => by have:=Hnl.out k hk;omega⟩) (by omega) hW) (fun b hb => hb) fun v9 h9 ⟨g9,s9,r9,k9,hg9,z1,z2,z3,z4⟩ => ?_
      have K9:=Hid.mk (AI k9 (AI z1 (AI z2 z3)))
      have Hg9:=Hid.mk hg9
      clear k9 z1 z2 z3 hg9
      (repeat' simp -dsimp (disch:=omega) only [↓EA,EB,Nat.reduceEqDiff,↓reduceIte,reduceCtorEq,eq_self, *])
      exact Next.mk (g9,s9,r9) ⟨K9.out.1,K9.out.2.1,K9.out.2.2.1,hst.out.trans K9.out.2.2.2,Hg9.out,by show _=Aq g9.x;rw [Hg9.out];rfl,rfl,by show _=Value.func (.func Ao) #[Aq g9.x] #[];rw [Hg9.out];rfl⟩ z4
 ·(repeat' simp -dsimp (disch:=omega) only [↓EA,EB,Nat.reduceEqDiff,↓reduceIte,reduceCtorEq,eq_self, *])
  obtain ⟨q1,q2⟩:=At1 K.out.2 hne (by have:=hee;omega)
  rw [hst.out]
  exact ⟨g1,s1,K.out.1,rfl,q1,q2⟩
end Go.L.Try
namespace Go.L.Try
open Go Go.L
variable {E:Env}
theorem Rd.nt {α : Type} {sz:Nat} {enc:α → List Value} {h:Aa} {v:Value} {l:List α} (r:Rd sz enc h v l):Et v=true:=by
 obtain ⟨a,n,c,rfl⟩:=r.shape.1;rfl
def GotX (m:Nat) (s:RS) (h:Aa) (v:Value):Prop:=∃ vs,v = .tuple vs.toArray∧Each h [fun h v => RdM m 3 Ajy h v s.L,fun h v => RdM m 1 Gk h v s.ends] vs
theorem GotX.movable {m:Nat} (s:RS):Movable m (GotX m s) 2 :=
 Movable.tuples (fun R hR => by
  rcases List.mem_cons.1 hR with rfl | hR
  ·exact RdM.movable A2k _
  ·rw [List.mem_singleton.1 hR];exact RdM.movable Aeo _) (by simp)
theorem Arz (hE:Aw E) {h:Aa} {bx:Nat} {vl:Value} {l:List Ab} (hb:h[bx]? = some (.cells [vl] false)) (hl:Rd 7 A5 h vl l) {a b:Int} (ha:0≤a∧a<l.length) (hb2:0≤b∧b<l.length) :
  callW E (.func (.func B8) #[] #[.pointer (some ⟨bx,0,none⟩)]) [.int .i64 a,.int .i64 b] h=some (.bool (decide ((atI l a).P<(atI l b).P)),h,[]):=by
 rw [Acl hE.Ui]
 refine Am hE.Ui rfl (by simp) ?_
 simp only [List.nil_append,List.cons_append,Ak]
 (repeat' simp -dsimp (disch:=omega) only [↓EA,EB,Nat.reduceEqDiff,Nat.reduceAdd,↓reduceIte,reduceCtorEq,eq_self, *,hl.ixs,hl.ld,A5])
theorem Aqz (hE:Aw E) {W:Nat→Prop} {hB:Aa} {m x:Nat} {c0 c1 c2 c3 c4 c5 c7:Value} {k:Nat} (hx:hB[x]? = some (.cells [c0,c1,c2,c3,c4,c5,.slice none 0 0,c7] false)) (hm:m≤x) (hW:∀ b,m≤b→W b) (hk:k≤1048576)
  {fr:Fr} {e:Value} (g2:get fr 2=e) (g8:get fr 8=Aq x) (g25:get fr 25 = .int .i64 k) (g26:get fr 26 = .int .i64 0) {Q:Ex→Fr→Aa→Prop}
  (hq:∀ fr' h' ve,get fr' 2=e→get fr' 8=Aq x→OwnT hB.length 1 Gk h' ve (List.replicate k (-1))→hB.length≤h'.length→(∀ b,b<hB.length→b≠x→h'[b]? = hB[b]?)→h'[x]? = some (.cells [c0,c1,c2,c3,c4,c5,ve,c7] false)→Q (.exit 0) fr' h') :
  WO W (iterW (code (callW E) iterW 49 Mb) fr hB) Q:=by
 have hxl:=(GI.1 hx).1
 refine WO.loop (fun (a:Nat × Value) fr h' => OwnT hB.length 1 Gk h' a.2 (List.replicate a.1 (-1))∧a.1≤k∧hB.length≤h'.length∧(∀ b,b<hB.length→b≠x→h'[b]? = hB[b]?)∧h'[x]? = some (.cells [c0,c1,c2,c3,c4,c5,a.2,c7] false)∧get fr 2=e∧get fr 8=Aq x∧get fr 25 = .int .i64 k∧get fr 26 = .int .i64 a.1) (fun a => k - a.1) ?_ (0,.slice none 0 0) ⟨OwnT.nil,Nat.zero_le _,Nat.le_refl _,fun b _ _ => rfl,hx,g2,g8,g25,g26⟩
 clear g2 g8 g25 g26 hx
 rintro ⟨i,ve⟩ fr h1 ⟨o,hi,hl,hkp,hx,g2,g8,g25,g26⟩
 dsimp only at o hi hl hkp hx g26 ⊢
 have ov:=o.rd.one
 have cv:=o.rd.cv
 have Hkp:=Hid.mk hkp
 have Hq:=Hid.mk hq
 have O:=Hid.mk o
 clear hkp hq o
 unfold Mb
 by_cases hlt:i<k
 ·have hWx:=hW x hm
  have hgx:∀ y,(h1++y)[x]? = some (.cells [c0,c1,c2,c3,c4,c5,ve,c7] false):=fun y => by rw [GL (by omega)];exact hx
  have hx1l:x<h1.length:=by omega
  (repeat' (first | (with_reducible refine A3 (fun _ => ?_) (fun _ => ?_)<;>try (exfalso;omega)) | simp -dsimp (disch:=omega) only [↓EA,EB,Nat.reduceEqDiff,Nat.reduceLeDiff,Nat.reduceMul,↓reduceIte,Ac,Rq,eq_self, *]))
  refine Afb (α:=Int) (h0:=[]) (O.out.app _) (fun b o hb => by simp at hb) (Nat.zero_le _) (by rw [LA];omega) (fun hn => hW _ (by have:=O.out.ge hn;omega)) (-1:Int) (by rw [Ci,Bm];rfl) rfl (by decide) (by decide) (by rw [List.length_replicate];omega) fun v' h2 o2 p2 hb2 hl2 hk2 => ?_
  rw [LA,List.length_singleton] at hb2 hl2 hk2
  have hbv:List.replicate i (-1:Int)≠[]→hB.length≤blk ve:=fun hn => O.out.ge hn
  have hx2:h2[x]? = some (.cells [c0,c1,c2,c3,c4,c5,ve,c7] false):=by
   rw [hk2 x (by omega) (fun hn e => by have:=hbv hn;omega),GL hx1l];exact hx
  have hx2l:=(GI.1 hx2).1
  have ov2:=o2.rd.one
  have cv2:=o2.rd.cv
  have hkeep:∀ b,b<hB.length→b≠x→h2[b]? = hB[b]?:=fun b hb hn => by
   rw [hk2 b (by omega) (fun hnn e => by have:=hbv hnn;omega),GL (by omega)];exact Hkp.out b hb hn
  have HH:=Hid.mk (AI hkeep (AI o2 hb2))
  clear hkeep o2 hb2 hk2 hgx p2 hbv hx
  (repeat' simp -dsimp (disch:=omega) only [↓EA,EB,Nat.reduceEqDiff,Nat.reduceAdd,Nat.reduceLeDiff,↓reduceIte,eq_self, *])
  obtain ⟨hkeep,o2,hb2⟩:=HH.out
  refine Next.mk (i+1,v') ⟨?_,by dsimp only;omega,by rw [List.length_set];omega,fun b hb hn => ?_,B9 hx2l,rfl,rfl,rfl,by simp only [get];simp⟩ (by dsimp only;omega)
  ·dsimp only
   rw [List.replicate_succ']
   exact OwnT.keep o2 fun _ => Ba (by omega)
  ·rw [Ba (Ne.symm hn)];exact hkeep b hb hn
 ·have e1:i=k:=by omega
  subst e1
  (repeat' (first | (with_reducible refine A3 (fun _ => ?_) (fun _ => ?_)<;>try (exfalso;omega)) | simp -dsimp (disch:=omega) only [↓EA,EB,Nat.reduceEqDiff,↓reduceIte,eq_self, *]))
  exact Hq.out _ _ ve rfl rfl O.out hl Hkp.out hx
def Aai (m hb k:Nat) (b:Nat):Nat:=if b<m then 5 else if b=m then 2 else if b=m+1 then 0 else if b=hb then 1 else if k≤b then 4 else 5
theorem Ay9 {m hb k b:Nat} (h:b<m):Aai m hb k b=5:=if_pos h
theorem A23 {m hb k:Nat}:Aai m hb k m=2:=by unfold Aai;rw [if_neg (Nat.lt_irrefl _),if_pos rfl]
theorem A22 {m hb k:Nat}:Aai m hb k (m+1)=0:=by unfold Aai;rw [if_neg (by omega),if_neg (by omega),if_pos rfl]
theorem A25 {m hb k:Nat} (h:m+2≤hb):Aai m hb k hb=1:=by unfold Aai;rw [if_neg (by omega),if_neg (by omega),if_neg (by omega),if_pos rfl]
theorem A24 {m hb k b:Nat} (h:m+2≤b) (h2:hb<b) (h3:k≤b):Aai m hb k b=4:=by unfold Aai;rw [if_neg (by omega),if_neg (by omega),if_neg (by omega),if_neg (by omega),if_pos h3]
def Rg (l:List Ab) (jobs:List Job) (e:Int):RS:=if legalB l jobs then Bt l jobs (max e 0) (Fm jobs.length) else ⟨0,-1,[],[],0,[]⟩
theorem A2z (hE:Aw E) {h:Aa} {vl vj:Value} {l:List Ab} {jobs:List Job} (hl:Rd 7 A5 h vl l) (hs:∀ t∈l,t.name.size<1152921504606846976) (hj:RdJ h vj jobs) (hn:jobs.length≤65536) (hsum:Hy jobs≤1099511627776) {e:Int} (he:Nj e) :
  ∃ v ys,callW E (.func (.func Jw) #[] #[]) [vl,vj,.int .i64 e] h=some (v,h++ys,[])∧GotX h.length (Rg l jobs e) (h++ys) v:=by
 refine Ku hE.Al9 rfl (GotX.movable _) (by simp) ?_
 have q:=fun x => A3v hE (hl.app x) hs (hj.pre (Pre.app h x))
 have hlo:=hl.one
 have hlc:=hl.cv
 simp only [Ak]
 cases hb:legalB l jobs
 ·rw [hb] at q
  have hR:Rg l jobs e=⟨0,-1,[],[],0,[]⟩:=by simp [Rg,hb]
  rw [hR]
  (repeat' simp -dsimp (disch:=omega) only [↓EA,EB,Nat.reduceEqDiff,Nat.reduceAdd,↓reduceIte,reduceCtorEq,Ac,eq_self, *])
  exact ⟨⟨_,rfl⟩,_,rfl,.cons ⟨Rd.of_nil,fun h => absurd rfl h⟩ (.cons ⟨Rd.of_nil,fun h => absurd rfl h⟩ .nil)⟩
 ·rw [hb] at q
  have hR:Rg l jobs e=Bt l jobs (max e 0) (Fm jobs.length):=by simp [Rg,hb]
  rw [hR]
  have Hb:=Hid.mk hb
  clear hb hR
  have hb0:(h++[LObj.cells [vl] false])[h.length]? = some (.cells [vl] false):=by rw [Bm];rfl
  (repeat' simp -dsimp (disch:=omega) only [↓EA,EB,Nat.reduceEqDiff,Nat.reduceAdd,↓reduceIte,reduceCtorEq,Ac,eq_self, *])
  refine F9 (A3k hE (hj.pre (Pre.app h _)) hn) fun vo ys ⟨o,ho,hmem,hsort⟩ p1 => ?_
  have hb1:=p1 _ _ hb0
  have hl1:=(hl.app _).pre p1
  have hj1:=(hj.pre (Pre.app h [LObj.cells [vl] false])).pre p1
  have hp1:=(Pre.app h [LObj.cells [vl] false]).trans p1
  generalize (h++[LObj.cells [vl] false])++ys=H1 at ho p1 hb1 hl1 hj1 hp1 ⊢
  have ovo:=ho.rd.one
  have cvo:=ho.rd.cv
  obtain ⟨jl,hjl,hjr,_⟩:=hj1.is
  have ovj:=hjr.one
  have cvj:=hjr.cv
  have hlj:Pq false vj=some (.int .i64 jobs.length):=by rw [hjr.len,← hjl,List.length_map]
  have hbl:=(GI.1 hb1).1
  have Ho:=Hid.mk (AI ho (AI hmem hsort))
  have Hjl:=Hid.mk (AI hjl hjr)
  clear ho hmem hsort p1 hb0 q hjl hjr
  (repeat' simp -dsimp (disch:=omega) only [↓EA,EB,Nat.reduceEqDiff,Nat.reduceAdd,Nat.reduceLeDiff,↓reduceIte,Ac,eq_self, *])
  obtain ⟨H2,hH2⟩:∃ H2:Aa,H2=H1++[LObj.map [],LObj.cells [vj,vo,.pointer none,.map (some H1.length),.int .i64 0,.slice none 0 0,.slice none 0 0,.pointer none] false]:=⟨_,rfl⟩
  have hm2:H2[H1.length]? = some (.map []):=by rw [hH2,Bm];rfl
  have hx2:H2[H1.length+1]? = some (LObj.cells [vj,vo,.pointer none,.map (some H1.length),.int .i64 0,.slice none 0 0,.slice none 0 0,.pointer none] false):=by rw [hH2,Kr];rfl
  have hp2:Pre H1 H2:=by rw [hH2];exact Pre.app _ _
  have hl2:H2.length=H1.length+2:=by rw [hH2,LA];rfl
  rw [← hH2]
  clear hH2
  refine F9 (A0w hE (h:=H2) (f:=B8) (bx:=h.length) (by omega)) fun vh ys ⟨hb,eh,hbge,hbc⟩ p3 => ?_
  subst eh
  have hm3:=p3 _ _ hm2
  have hx3:=p3 _ _ hx2
  have hp3:=hp2.trans p3
  have hl3:=p3.le
  generalize H2++ys=H3 at hbc p3 hm3 hx3 hp3 hl3 ⊢
  have hx3l:=(GI.1 hx3).1
  have hb3l:=(GI.1 hbc).1
  have hWx:h.length≤H1.length+1:=by omega
  clear hm2 hx2 hp2 p3
  obtain ⟨H4,hH4⟩:∃ H4:Aa,H4=List.set H3 (H1.length+1) (LObj.cells [vj,vo,Aq hb,.map (some H1.length),.int .i64 0,.slice none 0 0,.slice none 0 0,.pointer none] false):=⟨_,rfl⟩
  have hx4:H4[H1.length+1]? = some (LObj.cells [vj,vo,Aq hb,.map (some H1.length),.int .i64 0,.slice none 0 0,.slice none 0 0,.pointer none] false):=by rw [hH4];exact B9 hx3l
  have hm4:H4[H1.length]? = some (.map []):=by rw [hH4,Ba (by omega)];exact hm3
  have hb4:H4[hb]? = some (.cells [.func (.func B8) #[] #[Aq h.length],.slice none 0 0,.int .u64 0] false):=by rw [hH4,Ba (by omega)];exact hbc
  have hp4:Pre H1 H4:=by rw [hH4];exact hp3.set (by omega) _
  have hl4:H4.length=H3.length:=by rw [hH4,List.length_set]
  have HH4:=Hid.mk hH4.symm
  have HX4:=Hid.mk hx4
  clear hH4 hx4 hm3 hbc hp3 hx3l
  (repeat' simp -dsimp (disch:=omega) only [↓EA,EB,Nat.reduceEqDiff,Nat.reduceAdd,Nat.reduceLeDiff,↓reduceIte,eq_self, *])
  rw [HH4.out]
  have hx4:=HX4.out
  clear hx3
  (repeat' simp -dsimp (disch:=omega) only [↓EA,EB,Nat.reduceEqDiff,Nat.reduceAdd,Nat.reduceLeDiff,Nat.reduceMul,↓reduceIte,reduceCtorEq,Ac,Rq,eq_self, *])
  refine Aqz hE (m:=h.length) (k:=jobs.length) (e:=.int .i64 e) hx4 hWx (fun b hb => hb) (by omega) rfl rfl rfl rfl fun fr' h5 ve g2 g8 o5 hl5 hk5 hx5 => ?_
  have hp5:Pre H1 h5:=fun b o hbo => by
   have hlt:=(GI.1 hbo).1
   rw [hk5 b (by omega) (by omega)];exact hp4 b o hbo
  have hlegal:=Ng Hb.out
  have hS:=Mu Hb.out
  have hck:=Bc hlegal.2.2
  obtain ⟨ho,hmem,hsort⟩:=Ho.out
  have hctx:Ctx E H1 (.func (.func B8) #[] #[Aq h.length]) (fun t => (atI l t).P) l.length l jobs:=⟨hS,rfl,hck.2.1,fun _ => rfl,rfl,fun hh hp a b ha1 ha2 hb1' hb2' => Arz hE (hp _ _ hb1) (hl1.pre hp) ⟨ha1,ha2⟩ ⟨hb1',hb2'⟩,hlegal.2.1⟩
  have hve:ve ≠ .slice none 0 0→H4.length≤blk ve:=fun hn => OwnT.ge o5 (OwnT.ne o5 hn)
  have hxi:XInv H1 (.func (.func B8) #[] #[Aq h.length]) (fun t => (atI l t).P) jobs ⟨H1.length+1,hb,H1.length,fun _ => 0,fun _ => 0,Aai H1.length hb H4.length,vj,vo,.slice none 0 0,ve⟩ h5 (As5 jobs.length o) :=
   {B:=⟨hp5,fun b hb' => Ay9 hb'⟩
    H:=⟨[],fun b => b=hb,.nil (by rw [hk5 hb (by omega) (by omega)];exact hb4),fun b hb' => by
     subst hb'
     exact A25 (by omega),fun i h1 h2 => by simp at h2,List.Perm.refl _⟩
    M:=⟨[],by show h5[H1.length]? = _;rw [hk5 _ (by omega) (by omega)];exact hm4,(fun e he => by cases he),fun t => rfl,A23⟩
    Q:=fun t l h => by cases h
    W:=fun t i h => by cases h
    S:=⟨OwnT.nil,fun h => absurd rfl h⟩
    E:=⟨(OwnT.rdO o5).less (by omega),fun hn => by
     have h7:H4.length≤blk ve:=hve hn
     show Aai H1.length hb H4.length (blk ve)=4
     exact A24 (by omega) (by omega) h7⟩
    X:=⟨hx5,A22⟩
    jr:=hj1
    cr:=ho.rd }
  have hrun:=A03 hE hctx hxi (At4 hmem hsort) (Qh jobs hS.ok.work) hsum he (W:=fun b => h.length≤b) (fun b hb' => by omega)
  have Hrest:=Hid.mk (AI hp1 (AI hp5 hbl))
  clear hxi hctx hS hck hlegal hk5 o5 ho hmem hsort hve hx4 hx5 hb4 hm4 hp4
  (repeat' simp -dsimp (disch:=omega) only [↓EA,EB,Nat.reduceEqDiff,↓reduceIte,eq_self, *])
  refine WX.mono hrun (fun b hb => hb) fun v6 h6 ⟨gR,sR,kR,hgR,hL,hEn⟩ => ?_
  have hx6:h6[gR.x]? = some (.cells [gR.vj,gR.vc,Aq gR.hb,.map (some gR.mb),.int .i64 sR.now,gR.vs,gR.ve,D3 gR sR] false):=kR.X.is
  rw [hgR] at hx6
  have KR:=Hid.mk kR
  have HL:=Hid.mk (AI hL hEn)
  clear kR hL hEn hrun
  (repeat' simp -dsimp (disch:=omega) only [↓EA,EB,Nat.reduceEqDiff,↓reduceIte,eq_self, *])
  have hpf:Pre h h6:=Hrest.out.1.trans KR.out.B.pre
  refine ⟨hpf.ex,_,rfl,.cons ?_ (.cons ?_ .nil)⟩
  ·rw [HL.out.1]
   exact ⟨KR.out.S.own.rd,fun hn => by have:=OwnT.ge KR.out.S.own (OwnT.ne KR.out.S.own hn);have:=Hrest.out.1.le;omega⟩
  ·rw [HL.out.2]
   exact ⟨KR.out.E.own.rd,fun hn => by have:=KR.out.B.ge (by rw [KR.out.E.tag hn];decide);have:=Hrest.out.1.le;omega⟩
end Go.L.Try
