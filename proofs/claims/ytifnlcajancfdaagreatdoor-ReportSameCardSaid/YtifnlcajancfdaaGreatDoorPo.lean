/- THE CRITICAL SCENE, PLAYED: what it tells is the Bp (plain). -/
import Derived.Test.YtifnlcajancfdaaGreatDoorPm
import Derived.Test.YtifnlcajancfdaaGreatDoorPl
import Derived.Test.YtifnlcajancfdaaGreatDoorPn
import Derived.Test.YtifnlcajancfdaaGreatDoorPk
import Derived.Test.YtifnlcajancfdaaGreatDoorPa
set_option linter.unusedVariables false
set_option linter.unusedSimpArgs false
set_option maxRecDepth 100000
set_option maxHeartbeats 2000000
namespace Go.L.Try
open Go Go.L
variable {l:List Ab} {jobs:List Job} {i:Nat}
theorem Apq (hb:legalB l jobs=true) {e:Int} (he:0≤e) {k x:Nat} (hk:k<jobs.length) (hx:EndAt l jobs k x):(Rg l jobs e).ends.length=jobs.length∧atI (Rg l jobs e).ends (k:Int)=if (x:Int)≤e then (x:Int) else -1:=by
 have S:=Mu hb
 have hr:Rg l jobs e=Bt l jobs e (Fm jobs.length):=by
  unfold Rg;rw [if_pos hb,show max e 0=e by omega]
 obtain ⟨T,h1,h2,h3⟩:=Atm S (e:=e)
 rw [hr,h1]
 refine ⟨(M0 S T).elen,?_⟩
 have hle:=h3 he
 have hend:=Aga S hk T
 have hd:=(Q9 S hk T).2
 by_cases hxe:(x:Int)≤e
 ·rw [if_pos hxe]
  have hdone:dn l jobs k T=(jb jobs k).work:=by
   rcases Int.lt_or_le 0 (st l jobs T).left with hl | hl
   ·have hT2:¬ (T:Int)<e:=fun h => h2 ⟨hl,.inr (by rw [Ac4 S];exact h)⟩
    exact (hx.lt S hk T).2 (by omega)
   ·rcases Int.lt_or_le (dn l jobs k T) (jb jobs k).work with h4 | h4
    ·exfalso
     have h5:=(Un (e:=e) S.ok (fun _ => True) (fun _ _ _ _ => trivial) (Qh jobs S.ok.work) trivial).1
     rw [h1] at h5
     have:=So h5 hk h4
     omega
    ·omega
  obtain ⟨x',e1,_,e3⟩:=hend.2 hdone
  have a1:=(e3.lt S hk x).1 ((hx.lt S hk x).2 (Nat.le_refl _))
  have a2:=(hx.lt S hk x').1 ((e3.lt S hk x').2 (Nat.le_refl _))
  rw [e1];omega
 ·rw [if_neg hxe]
  refine hend.1 ?_
  rcases Int.lt_or_le (dn l jobs k T) (jb jobs k).work with h4 | h4
  ·exact h4
  ·exfalso
   have:=(hx.lt S hk T).1 (by omega)
   omega
theorem Axd (hb:legalB l jobs=true) {k:Nat} (hk:k<jobs.length):∃ x,EndAt l jobs k x:=by
 obtain ⟨T,r⟩:=A3g (Mu hb) (e:=-1) (by decide)
 obtain ⟨x,_,_,h⟩:=r.ends k hk
 exact ⟨x,h⟩
theorem Apr:(Bi l (i:Int)).length<(A7 l (i:Int)).length∧jb (A7 l (i:Int)) (Bi l (i:Int)).length=Cx l (i:Int) :=
 ⟨by unfold A7;simp,Apf⟩
theorem Asl (hv:B5 l) (hl:∀ t∈l,Mid t) (hi:i<l.length) {j:Job} (hj:j∈A7 l i):1≤j.work∧j.work≤134217728:=by
 obtain ⟨_,_,hok⟩:=Bc hv
 have one:∀ k:Int,0≤k→k<l.length→(1≤(atI l k).C∧(atI l k).C≤134217728)∧1≤(atI l k).Q∧(atI l k).Q≤(atI l k).C:=fun k h0 h1 => by
  have hm:=Aj h0 h1
  obtain ⟨h3,h4⟩:=hok _ hm
  simp only [Ap,Eg] at h3 h4
  exact ⟨(hl _ hm).C,by omega,by omega⟩
 rcases Ya hj with ⟨h1,rfl⟩ | rfl | ⟨h,k,h1,_,_,rfl⟩
 ·have:=(W5 (i:=(i:Int)) hok l.length (Nat.le_refl _)).2 h1
  have:=one _ this.1.1 this.1.2
  dsimp only;omega
 ·have:=one (i:Int) (by omega) (by omega)
  show 1≤(atI l (i:Int)).C∧(atI l (i:Int)).C≤134217728;omega
 ·have:=one (h:Int) (by omega) (by omega)
  dsimp only;omega
theorem Axk (hv:B5 l) (hl:∀ t∈l,Mid t) (hi:i<l.length) (hf:(A7 l i).length≤4096):Hy (A7 l i)≤1099511627776:=by
 have:=Akw (jobs:=A7 l i) (k:=134217728) fun j hj => (Asl hv hl hi hj).2
 omega
theorem Ak8 (hv:B5 l) (hl:∀ t∈l,Mid t) (hn:l.length≤6) (hi:i<l.length) (hf:(A7 l i).length≤4096) :
  (Rg l (A7 l i) ((Cx l i).arrive+(atI l (i:Int)).D)).ends.length=(A7 l i).length ∧
  ((boundP l (i:Int)).2=0→0≤atI (Rg l (A7 l i) ((Cx l i).arrive+(atI l (i:Int)).D)).ends ((Bi l i).length:Int)∧atI (Rg l (A7 l i) ((Cx l i).arrive+(atI l (i:Int)).D)).ends ((Bi l i).length:Int) - (Cx l i).arrive=(boundP l (i:Int)).1) ∧
  ((boundP l (i:Int)).2≠0→atI (Rg l (A7 l i) ((Cx l i).arrive+(atI l (i:Int)).D)).ends ((Bi l i).length:Int) = -1∧boundP l (i:Int)=(0,16)):=by
 have sc:=Amg hv hl hn hi hf
 have hleg:=Qp hv hi hf
 obtain ⟨hat,hself⟩:=Apr (l:=l) (i:=i)
 obtain ⟨x,hx⟩:=Axd hleg hat
 obtain ⟨_,_,hok⟩:=Bc hv
 have hit:=hok _ (Aj (l:=l) (i:=(i:Int)) (by omega) (by omega))
 obtain ⟨hrg,hft⟩:=hit
 simp only [Ap,Eg] at hrg hft
 have hst:=(Jx (i:=(i:Int)) hok ⟨by omega,by omega⟩ l.length (Nat.le_refl _)).1
 have harr:(Cx l i).arrive=Af l i - (atI l (i:Int)).J:=rfl
 have hst2:Af l i=1+mostJ l i l.length:=rfl
 have he:0≤(Cx l i).arrive+(atI l (i:Int)).D:=by omega
 obtain ⟨c1,c2⟩:=Apq hleg he hat hx
 refine ⟨c1,fun hb => ?_,fun hb => ?_⟩
 ·have hj:=sc.just hx hb
  have hs:=Y7 hleg hl hn hat hx (by rw [hself];exact hb)
  rw [hself] at hj hs
  have:(Cx l i).task=(i:Int):=rfl
  rw [this] at hs
  rw [c2,if_pos (by omega)]
  exact ⟨by omega,hj⟩
 ·have hj:=sc.late hx hb
  rw [hself] at hj
  rw [c2,if_neg (by omega)]
  refine ⟨rfl,?_⟩
  have hp:=sc.isP
  unfold boundP at hb ⊢
  rw [if_pos hp] at hb ⊢
  cases hls:Lu l (i:Int) with
  | some w => rw [hls] at hb;exact absurd rfl hb
  | none => rfl
end Go.L.Try
set_option maxHeartbeats 8000000
namespace Go.L.Try
open Go Go.L
variable {E:Env} {G:Nat}
def V4 (l:List Ab) (i:Nat):RS:=Rg l (A7 l i) ((Cx l i).arrive+(atI l (i:Int)).D)
def PlayR (m:Nat) (R:RS) (a arr:Int) (h:Aa) (v:Value):Prop:=∃ vs,v = .tuple vs.toArray∧Each h [fun h v => RdM m 3 Ajy h v R.L,fun _ v => v = .int .i64 a,fun _ v => v = .int .i64 arr,fun _ v => v = .int .i64 0] vs
theorem PlayR.movable {m:Nat} (R:RS) (a arr:Int):Movable m (PlayR m R a arr) 2 :=
 Movable.tuples (k:=1) (fun R hR => by
  simp only [List.mem_cons,List.not_mem_nil,or_false] at hR
  rcases hR with rfl | rfl | rfl | rfl
  ·exact RdM.movable A2k _
  ·exact Gy rfl
  ·exact Gy rfl
  ·exact Gy rfl) (by simp)
theorem A41 (hE:Aw E) (hZ:Dy E G) {h:Aa} (ht:Tab G h) {vl:Value} {l:List Ab} (hl:Rd 7 A5 h vl l) (hs:∀ t∈l,t.name.size<1152921504606846976) {i:Nat} (hv:B5 l) (hm:∀ t∈l,Mid t) (hi:i<l.length) (few:(A7 l i).length≤4096) :
  ∃ v ys,callW E (.func (.func Nb) #[] #[]) [vl,.int .i64 i] h=some (v,h++ys,[])∧PlayR h.length (V4 l i) (atI (V4 l i).ends (Bi l i).length) (Cx l i).arrive (h++ys) v:=by
 refine Ku hE.At3 rfl (PlayR.movable _ _ _) (by simp) ?_
 obtain ⟨hat,hself⟩:=Apr (l:=l) (i:=i)
 obtain ⟨_,hlen,hok⟩:=Bc hv
 have hit:=hok _ (Aj (l:=l) (i:=(i:Int)) (by omega) (by omega))
 obtain ⟨hrg,hft⟩:=hit
 simp only [Ap,Eg] at hrg hft
 have hst:=(Jx (i:=(i:Int)) hok ⟨by omega,by omega⟩ l.length (Nat.le_refl _)).1
 have harr:(Cx l i).arrive=Af l i - (atI l (i:Int)).J:=rfl
 have hst2:Af l i=1+mostJ l i l.length:=rfl
 have ha:1≤(Cx l i).arrive∧(Cx l i).arrive≤2147483648:=by omega
 have hD:1≤(atI l (i:Int)).D∧(atI l (i:Int)).D≤2147483647:=by omega
 obtain ⟨ha1,ha2⟩:=ha
 obtain ⟨hD1,hD2⟩:=hD
 have hsum:=Axk hv hm hi few
 have helen:=(Apq (Qp hv hi few) (e:=(Cx l i).arrive+(atI l (i:Int)).D) (by omega) hat (Axd (Qp hv hi few) hat).choose_spec).1
 clear hrg hft hst harr hst2 hlen hok
 simp only [Ak]
 have hlc:=hl.cv
 have hlo:=hl.one
 have hii:(i:Int)<l.length:=by omega
 (repeat' simp -dsimp (disch:=omega) only [↓EA,EB,Nat.reduceEqDiff,↓reduceIte,reduceCtorEq,eq_self, *])
 refine F9 (Ask hE hZ ht hl hs hv hi few) fun v2 ys r2 p2 => ?_
 obtain ⟨vj,rfl,rj⟩:=(by
  obtain ⟨vs,rfl,hv⟩:=r2
  rcases hv with _ | ⟨ra,_ | ⟨rb,_ | ⟨rc,_ | _⟩⟩⟩
  subst rb;subst rc
  exact ⟨_,rfl,ra⟩:∃ v1,v2 = .tuple #[v1,.int .i64 ((Bi l i).length:Int),.int .i64 0]∧RdNO h.length 5 hdJ Job.cuts (h++ys) v1 (A7 l i))
 have hrdj:=rj.rd
 obtain ⟨jl,hjl,rjl⟩:=RdJ.open_ hrdj
 have hjn:jl.length=(A7 l i).length:=by rw [hjl,List.length_map]
 have hjat:(atI jl ((Bi l i).length:Int)).j=Cx l i:=by
  rw [← hself]
  show _=atI (A7 l i) _
  rw [hjl,← Tg NV.j jl _ (by omega) (by rw [hjn];omega)]
 have hlti:((Bi l i).length:Int)<jl.length:=by rw [hjn];omega
 have rl:=hl.pre p2
 have hun:=A2z hE rl hs hrdj (by omega) hsum (e:=(Cx l i).arrive+(atI l (i:Int)).D) (by unfold Nj;omega)
 have hcj:=rjl.cv
 have hoj:=rjl.one
 have hnj:=Rd.nt rjl
 have bb:=p2.le
 have HU:=Hid.mk hun
 have Hh:=Hid.mk (AI helen (AI hat hjl))
 clear hun r2 rj hrdj helen hat hjl hsum
 generalize h++ys=H1 at *
 generalize (Bi l i).length=at' at *
 generalize hsj:Cx l i=sj at *
 (repeat' simp -dsimp (disch:=omega) only [↓EA,EB,Nat.reduceEqDiff,↓reduceIte,reduceCtorEq,eq_self, *,rjl.ixs,rjl.ld,rl.ixs,rl.ld,A5,Ia,hdJ])
 refine F9 HU.out fun v3 ys3 r3 p3 => ?_
 obtain ⟨va,vb,rfl,ra,rb⟩:=(by
  obtain ⟨vs,rfl,hv⟩:=r3
  rcases hv with _ | ⟨ra,_ | ⟨rb,_ | _⟩⟩
  exact ⟨_,_,rfl,ra,rb⟩:∃ va vb,v3 = .tuple #[va,vb]∧RdM H1.length 3 Ajy (H1++ys3) va (Rg l (A7 l i) (sj.arrive+(atI l (i:Int)).D)).L∧RdM H1.length 1 Gk (H1++ys3) vb (Rg l (A7 l i) (sj.arrive+(atI l (i:Int)).D)).ends)
 have hpl:V4 l i=Rg l (A7 l i) (sj.arrive+(atI l (i:Int)).D):=by unfold V4;rw [hsj]
 rw [hpl]
 have na:=Rd.nt ra.1
 have nb:=Rd.nt rb.1
 have oa:=ra.1.one
 have ca:=ra.1.cv
 have rb1:=rb.1
 obtain ⟨helen,hat,hjl⟩:=Hh.out
 rw [← hpl] at rb1
 have hpe:(at':Int)<(V4 l i).ends.length:=by rw [hpl,helen];omega
 have Ra:=Hid.mk (AI ra p3)
 clear ra rb helen hat r3 HU Hh p3 hjl
 generalize H1++ys3=H2 at *
 (repeat' simp -dsimp (disch:=omega) only [↓EA,EB,Nat.reduceEqDiff,↓reduceIte,reduceCtorEq,eq_self, *,rb1.ixs,rb1.ld0,Gk])
 obtain ⟨ra,p3⟩:=Ra.out
 exact ⟨(p2.trans p3).ex,_,rfl,.cons ⟨ra.1,fun hn => Nat.le_trans bb (ra.2 hn)⟩ (.cons rfl (.cons rfl (.cons rfl .nil)))⟩
theorem Ass {l:List Ab} {i:Int} (hb:isP l i=true):0≤(boundP l i).1∧(boundP l i).1≤(atI l i).D:=by
 obtain ⟨hi,_,hok⟩:=E8 hb
 have h1:=(hok _ (Aj hi.1 hi.2)).1
 simp only [Ap] at h1
 unfold boundP
 rw [if_pos hb]
 cases hls:Lu l i with
 | none => simp only;omega
 | some w =>
  obtain ⟨⟨w1,w2⟩,_⟩:=Aja hb hls
  unfold Ig at w2
  simp only;omega
theorem At5 (hE:Aw E) (hZ:Dy E G) {h:Aa} (ht:Tab G h) {vl:Value} {l:List Ab} (hl:Rd 7 A5 h vl l) (hs:∀ t∈l,t.name.size<1152921504606846976) (hv:B5 l) (hm:∀ t∈l,Mid t) (hn:l.length≤6) {i:Nat} (hi:i<l.length) (few:(A7 l i).length≤4096) :
  callW E (.func (.func Jf) #[] #[]) [vl,.int .i64 i] h=some (.tuple #[.int .i64 (boundP l (i:Int)).1,.int .i64 (boundP l (i:Int)).2],h,[]):=by
 refine Am hE.Aq8 rfl (by simp) ?_
 simp only [Ak]
 (repeat' simp -dsimp (disch:=omega) only [↓EA,EB,Nat.reduceEqDiff,↓reduceIte,reduceCtorEq,eq_self, *])
 refine F9 (A41 hE hZ ht hl hs hv hm hi few) fun v2 ys r2 p2 => ?_
 obtain ⟨va,rfl,ra⟩:=(by
  obtain ⟨vs,rfl,hv⟩:=r2
  rcases hv with _ | ⟨ra,_ | ⟨rb,_ | ⟨rc,_ | ⟨rd,_ | _⟩⟩⟩⟩
  subst rb;subst rc;subst rd
  exact ⟨_,rfl,ra⟩:∃ va,v2 = .tuple #[va,.int .i64 (atI (V4 l i).ends (Bi l i).length),.int .i64 (Cx l i).arrive,.int .i64 0]∧RdM h.length 3 Ajy (h++ys) va (V4 l i).L)
 have na:=Rd.nt ra.1
 obtain ⟨_,hA,hB⟩:=Ak8 hv hm hn hi few
 obtain ⟨_,hlen,hok⟩:=Bc hv
 have hit:=hok _ (Aj (l:=l) (i:=(i:Int)) (by omega) (by omega))
 obtain ⟨hrg,hft⟩:=hit
 simp only [Ap,Eg] at hrg hft
 have hst:=(Jx (i:=(i:Int)) hok ⟨by omega,by omega⟩ l.length (Nat.le_refl _)).1
 have harr:(Cx l i).arrive=Af l i - (atI l (i:Int)).J:=rfl
 have hst2:Af l i=1+mostJ l i l.length:=rfl
 have ha:1≤(Cx l i).arrive∧(Cx l i).arrive≤2147483648:=by omega
 have hbi:=Ass (Xe hv (i:=(i:Int)) (by omega) (by omega))
 have hD:(atI l (i:Int)).D≤2147483647:=by omega
 have hpu:V4 l i=Rg l (A7 l i) ((Cx l i).arrive+(atI l (i:Int)).D):=rfl
 rw [← hpu] at hA hB
 have Hr:=Hid.mk (AI hA hB)
 clear hA hB hpu r2 hrg hft hst harr hst2 hok hlen
 generalize atI (V4 l i).ends (Bi l i).length=e at *
 generalize (Cx l i).arrive=a at *
 generalize boundP l (i:Int)=b at *
 obtain ⟨b1,b2⟩:=b
 dsimp only at Hr hbi ⊢
 by_cases h0:b2=0
 ·subst h0
  obtain ⟨e1,e2⟩:=Hr.out.1 rfl
  have e3:e - a=b1:=e2
  have e4:¬ e<0:=by omega
  have e5:e≤4294967295:=by omega
  subst e3
  (repeat' simp -dsimp (disch:=omega) only [↓EA,EB,Nat.reduceEqDiff,↓reduceIte,eq_self, *])
 ·obtain ⟨e1,e2⟩:=Hr.out.2 h0
  cases e2
  subst e1
  (repeat' (first | (with_reducible refine A3 (fun _ => ?_) (fun _ => ?_)<;>try (exfalso;omega)) | simp -dsimp (disch:=omega) only [↓EA,EB,Nat.reduceEqDiff,↓reduceIte,eq_self, *]))
end Go.L.Try
set_option maxHeartbeats 2000000
namespace Go.L.Try
open Go Go.L
variable {E:Env} {G:Nat}
theorem A5z {h:Aa} {R1 R2 R3:Aa→Value→Prop} {vs:List Value} (e:Each h [R1,R2,R3] vs):∃ a b c,vs=[a,b,c]∧R1 h a∧R2 h b∧R3 h c:=by
 cases e with
 | cons h1 t1 => cases t1 with
  | cons h2 t2 => cases t2 with
   | cons h3 t3 => cases t3;exact ⟨_,_,_,rfl,h1,h2,h3⟩
def rN (l:List Ab) (n:Nat):List Int:=(List.range n).map fun k:Nat => (boundP l (k:Int)).1
def missN (l:List Ab) (n:Nat):List Int:=((List.range n).filter fun k:Nat => decide ((boundP l (k:Int)).2≠0)).map fun k:Nat => (k:Int)
theorem Azz (l:List Ab) (n:Nat):rN l (n+1)=rN l n++[(boundP l (n:Int)).1]:=by unfold rN;rw [List.range_succ,List.map_append];rfl
theorem Abj (l:List Ab) (n:Nat):missN l (n+1)=if (boundP l (n:Int)).2≠0 then missN l n++[(n:Int)] else missN l n:=by
 unfold missN
 rw [List.range_succ,List.filter_append,List.map_append]
 by_cases h:(boundP l (n:Int)).2≠0
 ·rw [if_pos h];simp [h]
 ·rw [if_neg h];simp [h]
theorem A3j (l:List Ab) (n:Nat):(rN l n).length=n:=by simp [rN]
theorem Arw (l:List Ab) (n:Nat):(missN l n).length≤n:=by
 unfold missN;rw [List.length_map]
 have:=List.length_filter_le (fun k:Nat => decide ((boundP l (k:Int)).2≠0)) (List.range n)
 rwa [List.length_range] at this
def Aym (l:List Ab):List Int:=if B5 l then rN l l.length else []
def Ayn (l:List Ab):List Int:=if B5 l then missN l l.length else []
def allE (l:List Ab):Int:=if B5 l then (if missN l l.length=[] then 0 else 16) else 1
def A6l (R M:List Int) (e:Int):Aa→Value→Prop:=fun h v => ∃ vs,v = .tuple vs.toArray∧Each h [fun h v => Rd 1 Gk h v R,fun h v => Rd 1 Gk h v M,fun _ v => v = .int .i64 e] vs
theorem A57 (hE:Aw E) (hX:Id E) (hZ:Dy E G) {h:Aa} (ht:Tab G h) {vl:Value} {l:List Ab} (hl:Rd 7 A5 h vl l) (hs:∀ t∈l,t.name.size<1152921504606846976) :
  ∃ v ys,callW E (.func (.func Ph) #[] #[]) [vl] h=some (v,h++ys,[])∧A6l (Aym l) (Ayn l) (allE l) (h++ys) v:=by
 have hc:=Mw hE hl hs
 refine Ku hE.Azt rfl (Movable.tuples (k:=1) (fun R hR => by
  simp only [List.mem_cons,List.not_mem_nil,or_false] at hR
  rcases hR with rfl | rfl | rfl
  ·exact Rd.movable Aeo _
  ·exact Rd.movable Aeo _
  ·exact Gy rfl) (by simp)) (by simp) ?_
 have few:=hl.few
 simp only [Ak]
 by_cases hv:B5 l
 ·have hv2:=hv
  unfold B5 at hv2
  have hlen:l.length≤1024:=(Bc hv2).2.1
  have eR:Aym l=rN l l.length:=by unfold Aym;rw [if_pos hv]
  have eM:Ayn l=missN l l.length:=by unfold Ayn;rw [if_pos hv]
  have eE:allE l=if missN l l.length=[] then 0 else 16:=by unfold allE;rw [if_pos hv]
  rw [eR,eM,eE]
  rw [hv2] at hc
  clear eR eM eE hv hv2
  (repeat' simp -dsimp (disch:=omega) only [↓EA,EB,Nat.reduceEqDiff,↓reduceIte,reduceCtorEq,eq_self, *,hl.len])
  refine WO.loop (fun (n:Nat) fr h' => Pre h h'∧n≤l.length∧get fr 0=vl∧get fr 20 = .int .i64 l.length∧get fr 21 = .int .i64 n∧OwnT h.length 1 Gk h' (get fr 7) (rN l n)∧OwnT h.length 1 Gk h' (get fr 8) (missN l n)∧(rN l n≠[]→missN l n≠[]→blk (get fr 7)≠blk (get fr 8))) (fun n => l.length - n) ?_ 0 ⟨Pre.refl _,Nat.zero_le _,rfl,rfl,rfl,OwnT.nil,OwnT.nil,fun h => absurd rfl h⟩
  rintro n fr h' ⟨hp,hn,g0,g20,g21,ho7,ho8,hne⟩
  generalize hv7:get fr 7=v7 at ho7 hne
  generalize hv8:get fr 8=v8 at ho8 hne
  have hr:=Azz l n
  have hm:=Abj l n
  have hr2:=A3j l n
  have hm2:=Arw l n
  unfold Wy
  rcases Nat.lt_or_ge n l.length with hlt | hge
  ·have q:=fun x => Amn hE hX hZ ((ht.pre hp).app x) ((hl.pre hp).app x) hs (n:Int)
   have q0:=Amn hE hX hZ (ht.pre hp) (hl.pre hp) hs (n:Int)
   have Hr:=Hid.mk hr
   have Hm:=Hid.mk hm
   have Hne:=Hid.mk hne
   clear hr hm hne
   generalize (boundP l (n:Int)).1=B1 at *
   generalize (boundP l (n:Int)).2=B2 at *
   generalize rN l n=R at *
   generalize missN l n=M at *
   have hrl:R.length≤1024:=by omega
   clear hr2
   have hml:=hp.le
   (repeat' (first | (with_reducible refine A3 (fun _ => ?_) (fun _ => ?_)<;>try (exfalso;omega)) | simp -dsimp (disch:=omega) only [↓EA,EB,Nat.reduceEqDiff,Nat.reduceLeDiff,Nat.reduceMul,↓reduceIte,reduceCtorEq,Ac,Rq,eq_self, *]))
   refine Zt (sz:=1) (bytes:=8) (ho7.app _) (hp.app' _) (Nat.le_refl _) (by simp;omega) (fun b hb => hb) B1 (by simp -dsimp (disch:=omega) only [EB,Nat.reduceMul,↓reduceIte];rfl) rfl (by decide) (by decide) (by omega) ?_
   intro v2 h2 k1 k2 k3 k4 k5
   have ho8':=OwnT.other (m':=0) (sz':=1) (enc':=Gk) (ho8.app [LObj.cells [Value.int IntKind.i64 B1] false]) (fun a b => fun e => Hne.out b a e.symm) k5
   have hlt8:=fun hn => (ho8.lt hn)
   have hml2:=k2.le
   simp only [LA,List.length_cons,List.length_nil] at k3 k4
   have K3:=Hid.mk k3
   have K4:h'.length<h2.length:=by omega
   clear k5 k3 k4
   (repeat' (first | (with_reducible refine A3 (fun _ => ?_) (fun _ => ?_)<;>try (exfalso;omega)) | simp -dsimp (disch:=omega) only [↓EA,EB,Nat.reduceEqDiff,Nat.reduceLeDiff,Nat.reduceMul,↓reduceIte,reduceCtorEq,Ac,Rq,eq_self, *]))
   ·refine Zt (sz:=1) (bytes:=8) (ho8'.app _) (k2.app' _) (Nat.le_refl _) (by simp;omega) (fun b hb => hb) (n:Int) (by simp -dsimp (disch:=omega) only [EB,Nat.reduceMul,↓reduceIte];rfl) rfl (by decide) (by decide) (by omega) ?_
    intro v3 h3 j1 j2 j3 j4 j5
    simp only [LA,List.length_cons,List.length_nil] at j3 j4
    have k1':=OwnT.other (m':=0) (sz':=1) (enc':=Gk) (k1.app [LObj.cells [Value.int IntKind.i64 (n:Int)] false]) (fun a b e => by have:=hlt8 b;have:=K3.out;omega) j5
    clear j5
    have J3:=Hid.mk j3
    clear j3 j4
    (repeat' simp -dsimp (disch:=omega) only [↓EA,EB,Nat.reduceEqDiff,↓reduceIte,reduceCtorEq,eq_self, *])
    refine Next.mk (n+1) ⟨j2,by omega,rfl,rfl,rfl,by rw [Hr.out];exact k1',by rw [Hm.out,if_pos (by assumption)];exact j1,?_⟩ (by omega)
    intro _ _
    show blk v2≠blk v3
    have:=K3.out
    have:=J3.out
    omega
   ·refine Next.mk (n+1) ⟨k2,by omega,rfl,rfl,rfl,by rw [Hr.out];exact k1,by rw [Hm.out,if_neg (by omega)];exact ho8',?_⟩ (by omega)
    intro _ hn
    rw [Hm.out,if_neg (by omega)] at hn
    show blk v2≠blk v8
    have:=hlt8 hn
    have:=K3.out
    omega
  ·have e:n=l.length:=by omega
   subst e
   clear hr hm hr2
   generalize rN l l.length=R at *
   generalize missN l l.length=M at *
   have hM:0<M.length↔M≠[]:=List.length_pos_iff
   have HM:=Hid.mk hM
   have hl8:=ho8.rd.len
   clear hM
   (repeat' (first | (with_reducible refine A3 (fun _ => ?_) (fun _ => ?_)<;>try (exfalso;omega)) | simp -dsimp (disch:=omega) only [↓EA,EB,Nat.reduceEqDiff,↓reduceIte,reduceCtorEq,eq_self, *]))
   ·refine ⟨hp.ex,[v7,v8,.int .i64 16],rfl,.cons ho7.rd (.cons ho8.rd (.cons ?_ .nil))⟩
    rw [if_neg (HM.out.1 (by omega))]
   ·have e:M=[]:=by
     cases M with
     | nil => rfl
     | cons a r => simp only [List.length_cons] at *;omega
    refine ⟨hp.ex,[v7,.slice none 0 0,.int .i64 0],rfl,.cons ho7.rd (.cons ?_ (.cons ?_ .nil))⟩
    ·subst e;exact Rd.of_nil
    ·rw [if_pos e]
 ·have eR:Aym l=[]:=by unfold Aym;rw [if_neg hv]
  have eM:Ayn l=[]:=by unfold Ayn;rw [if_neg hv]
  have eE:allE l=1:=by unfold allE;rw [if_neg hv]
  rw [eR,eM,eE]
  unfold B5 at hv
  generalize (Da l).2=e at *
  (repeat' simp -dsimp (disch:=omega) only [↓EA,EB,Nat.reduceEqDiff,↓reduceIte,reduceCtorEq,eq_self, *])
  exact ⟨⟨[],by simp⟩,[.slice none 0 0,.slice none 0 0,.int .i64 1],rfl,.cons Rd.of_nil (.cons Rd.of_nil (.cons rfl .nil))⟩
end Go.L.Try
namespace Go.L.Try
open Go Go.L
variable {E:Env} {G:Nat}
theorem A21 (hE:Aw E) (hX:Id E) (hZ:Dy E G) {h:Aa} (ht:Tab G h) {vl:Value} {l:List Ab} (hl:Rd 7 A5 h vl l) (hs:∀ t∈l,t.name.size<1152921504606846976) :
  callW E (.func (.func Lm) #[] #[]) [vl] h=some (.bool (decide (allE l=0)),h,[]):=by
 refine Am hE.Arh rfl (by simp) ?_
 simp only [Ak]
 (repeat' simp -dsimp (disch:=omega) only [↓EA,EB,↓reduceIte,reduceCtorEq,eq_self, *])
 refine F9 (A57 hE hX hZ ht hl hs) fun v ys hr hp => ?_
 obtain ⟨vs,rfl,he⟩:=hr
 obtain ⟨a,b,c,rfl,ha,hb,rfl⟩:=A5z he
 have na:=Rd.nt ha
 have nb:=Rd.nt hb
 generalize allE l=e at *
 (repeat' simp -dsimp (disch:=omega) only [↓EA,EB,Nat.reduceEqDiff,↓reduceIte,eq_self, *])
end Go.L.Try
namespace Go.L.Try
open Go Go.L
variable {E:Env} {G:Nat}
theorem Aeg (l:List Ab):∀ n:Nat,missN l n=[]↔∀ k:Nat,k<n→(boundP l (k:Int)).2=0
 | 0 => ⟨fun _ k hk => by omega,fun _ => rfl⟩
 | n+1 => by
  rw [Abj]
  have ih:=Aeg l n
  by_cases h:(boundP l (n:Int)).2≠0
  ·rw [if_pos h]
   exact ⟨fun e => by simp at e,fun e => absurd (e n (by omega)) h⟩
  ·rw [if_neg h,ih]
   exact ⟨fun e k hk => by rcases Nat.lt_or_ge k n with h2 | h2;exact e k h2;rw [show k=n by omega];omega,fun e k hk => e k (by omega)⟩
theorem As2 (l:List Ab):allE l=0↔B5 l∧∀ k:Nat,k<l.length→(boundP l (k:Int)).2=0:=by
 unfold allE
 by_cases hv:B5 l
 ·rw [if_pos hv,← Aeg]
  split
  ·rename_i h;exact ⟨fun _ => ⟨hv,h⟩,fun _ => rfl⟩
  ·rename_i h;exact ⟨fun e => absurd e (by decide),fun e => absurd e.2 h⟩
 ·rw [if_neg hv]
  exact ⟨fun e => absurd e (by decide),fun e => absurd e.1 hv⟩
end Go.L.Try
set_option maxHeartbeats 8000000
namespace Go.L.Try
open Go Go.L
variable {E:Env} {G:Nat}
theorem Asr (s:ByteArray):(s == s)=true:=by
 cases s with
 | mk d => exact beq_self_eq_true d
theorem A56 (x:Line) {q:List FK} (hq:q=[.one .s,.one .i,.one .b]):binOp .neq (.flat q) (.agg #[.string x.name,.int .i64 x.r,.bool x.ok]) (.agg #[.string x.name,.int .i64 x.r,.bool x.ok])=some (.bool false):=by
 subst hq
 simp [binOp,Ih,Ca,Gm]
 exact Asr _
theorem A4v (hE:Aw E) {h:Aa} {va vb:Value} {l:List Line} (ha:Rd 3 Adl h va l) (hb:Rd 3 Adl h vb l) :
  callW E (.func (.func Jv) #[] #[]) [va,vb] h=some (.bool true,h,[]):=by
 refine Am hE.Alk rfl (by simp) ?_
 have few:=ha.few
 have hla:=ha.len
 have hlb:=hb.len
 simp only [Ak]
 (repeat' simp -dsimp (disch:=omega) only [↓EA,EB,Nat.reduceEqDiff,↓reduceIte,reduceCtorEq,eq_self, *])
 refine WO.loop (fun (n:Nat) fr h' => h'=h∧n≤l.length∧get fr 0=va∧get fr 1=vb∧get fr 5 = .int .i64 n) (fun n => l.length - n) ?_ 0 ⟨rfl,Nat.zero_le _,rfl,rfl,rfl⟩
 rintro n fr h' ⟨rfl,hn,g0,g1,g5⟩
 unfold Re
 rcases Nat.lt_or_ge n l.length with hlt | hge
 ·have hbl:=A56 (atI l (n:Int)) (q:=[.one .s,.one .i,.one .b]) rfl
  (repeat' (first | (with_reducible refine A3 (fun _ => ?_) (fun _ => ?_)<;>try (exfalso;omega)) | simp -dsimp (disch:=omega) only [↓EA,EB,Nat.reduceEqDiff,↓reduceIte,reduceCtorEq,eq_self, *,ha.len,ha.ixs,ha.lda,hb.ixs,hb.lda,Adl]))
  exact Next.mk (n+1) ⟨rfl,by omega,rfl,rfl,rfl⟩ (by omega)
 ·have e:n=l.length:=by omega
  subst e
  (repeat' (first | (with_reducible refine A3 (fun _ => ?_) (fun _ => ?_)<;>try (exfalso;omega)) | simp -dsimp (disch:=omega) only [↓EA,EB,Nat.reduceEqDiff,↓reduceIte,reduceCtorEq,eq_self, *]))
def Ai6 (l:List Ab) (i:Nat):Line:=⟨(atI l (i:Int)).name,(boundP l (i:Int)).1,decide ((boundP l (i:Int)).2=0)⟩
def Lt (l:List Ab) (n:Nat):List Line:=(List.range n).map (Ai6 l)
theorem Ai5 (l:List Ab) (n:Nat):Lt l (n+1)=Lt l n++[Ai6 l n]:=by unfold Lt;rw [List.range_succ,List.map_append];rfl
def LinesV (m:Nat) (l:List Line) (h:Aa) (v:Value):Prop:=∃ vs,v = .tuple vs.toArray∧Each h [fun h v => RdM m 3 Adl h v l,fun _ v => v = .int .i64 0] vs
theorem A5s:Agu Adl:=fun _ => rfl
theorem LinesV.movable {m:Nat} (l:List Line):Movable m (LinesV m l) 2 :=
 Movable.tuples (k:=1) (fun R hR => by
  simp only [List.mem_cons,List.not_mem_nil,or_false] at hR
  rcases hR with rfl | rfl
  ·exact RdM.movable A5s _
  ·exact Gy rfl) (by simp)
theorem Awi (hE:Aw E) {h:Aa} {vl:Value} {l:List Ab} (hl:Rd 7 A5 h vl l) (hs:∀ t∈l,t.name.size<1152921504606846976) (hv:B5 l) {f:FuncId} (hf:∀ hh,Pre h hh→∀ i:Nat,i<l.length→callW E (.func (.func f) #[] #[]) [vl,.int .i64 i] hh=some (.tuple #[.int .i64 (boundP l (i:Int)).1,.int .i64 (boundP l (i:Int)).2],hh,[])) :
  ∃ v ys,callW E (.func (.func E3) #[] #[]) [vl,.func (.func f) #[] #[]] h=some (v,h++ys,[])∧LinesV h.length (Lt l l.length) (h++ys) v:=by
 refine Ku hE.Afm rfl (LinesV.movable _) (by simp) ?_
 have hc:=Mw hE hl hs
 have hv':=hv
 unfold B5 at hv'
 have hlen:=(Bc hv').2.1
 rw [hv'] at hc
 have hll:=hl.len
 simp only [Ak]
 (repeat' simp -dsimp (disch:=omega) only [↓EA,EB,Nat.reduceEqDiff,↓reduceIte,reduceCtorEq,eq_self, *])
 refine WO.loop (fun (n:Nat) fr h' => Pre h h'∧n≤l.length∧get fr 0=vl∧get fr 1 = .func (.func f) #[] #[]∧get fr 20=vl∧get fr 21 = .int .i64 l.length∧get fr 22 = .int .i64 n∧OwnT h.length 3 Adl h' (get fr 8) (Lt l n)) (fun n => l.length - n) ?_ 0 ⟨Pre.refl _,Nat.zero_le _,rfl,rfl,rfl,rfl,rfl,OwnT.nil⟩
 rintro n fr h' ⟨hp,hn,g0,g1,g20,g21,g22,ho⟩
 generalize hvo:get fr 8=vo at ho
 unfold Ok
 have hr':=hl.pre hp
 have hml:=hp.le
 rcases Nat.lt_or_ge n l.length with hlt | hge
 ·have hlt2:(n:Int)<l.length:=by omega
  have hq:=hf _ (hp.app' [.cells (A5 (atI l (n:Int))) false]) n hlt
  have hne:¬ (boundP l (n:Int)).2=15:=by
   unfold boundP
   split
   ·split<;>simp
   ·simp
  have Hst:=Hid.mk (Ai5 l n)
  have Ho:=Hid.mk ho
  have oo:=ho.rd.one
  have oc:=ho.rd.cv
  have hgl:(Lt l n).length=n:=by simp [Lt]
  clear ho
  have hlp:Ai6 l n=⟨(atI l (n:Int)).name,(boundP l (n:Int)).1,decide ((boundP l (n:Int)).2=0)⟩:=rfl
  have Hlp:=Hid.mk hlp
  clear hlp hf hc
  unfold A5 at hq
  generalize (boundP l (n:Int)).1=b1 at *
  generalize (boundP l (n:Int)).2=b2 at *
  (repeat' simp -dsimp (disch:=omega) only [↓EA,EB,Nat.reduceEqDiff,Nat.reduceAdd,Nat.reduceLeDiff,Nat.reduceMul,↓reduceIte,reduceCtorEq,Ac,Rq,eq_self, *,hr'.ixs,hr'.lda,A5])
  refine Zt (sz:=3) (bytes:=32) (Ho.out.app _) (hp.app' _) (Nat.le_refl _) (by simp;omega) (fun b hb => hb) (Ai6 l n) (by rw [Hlp.out];simp -dsimp (disch:=omega) only [EB,Nat.reduceAdd,Nat.reduceMul,↓reduceIte];rfl) rfl (by decide) (by decide) (by omega) ?_
  intro v2 h2 k1 k2 k3 k4 k5
  clear k5
  (repeat' simp -dsimp (disch:=omega) only [↓EA,EB,Nat.reduceEqDiff,↓reduceIte,reduceCtorEq,eq_self, *])
  refine Next.mk (n+1) ⟨k2,by omega,rfl,rfl,rfl,rfl,rfl,?_⟩ (by omega)
  rw [Hst.out];exact k1
 ·have e:n=l.length:=by omega
  subst e
  have na:=Rd.nt ho.rd
  have Hpp:=Hid.mk (AI hp ho)
  clear ho
  (repeat' (first | (with_reducible refine A3 (fun _ => ?_) (fun _ => ?_)<;>try (exfalso;omega)) | simp -dsimp (disch:=omega) only [↓EA,EB,Nat.reduceEqDiff,↓reduceIte,reduceCtorEq,eq_self, *]))
  obtain ⟨hp,ho⟩:=Hpp.out
  exact ⟨hp.ex,_,rfl,.cons ⟨ho.rd,fun hn => ho.ge (ho.ne hn)⟩ (.cons rfl .nil)⟩
theorem Oe {m:Nat} {l:List Line} {h:Aa} {v:Value} (r:LinesV m l h v):∃ va,v = .tuple #[va,.int .i64 0]∧RdM m 3 Adl h va l:=by
 obtain ⟨vs,rfl,hv⟩:=r
 rcases hv with _ | ⟨ra,_ | ⟨rb,_ | _⟩⟩
 subst rb
 exact ⟨_,rfl,ra⟩
theorem Ayj (hE:Aw E) (hX:Id E) (hZ:Dy E G) {h:Aa} (ht:Tab G h) {vl:Value} {l:List Ab} (hl:Rd 7 A5 h vl l) (hs:∀ t∈l,t.name.size<1152921504606846976) (hv:B5 l) :
  ∃ v ys,callW E (.func (.func E4) #[] #[]) [vl] h=some (v,h++ys,[])∧LinesV h.length (Lt l l.length) (h++ys) v:=by
 refine Ku hE.Aa0 rfl (LinesV.movable _) (by simp) ?_
 simp only [Ak]
 (repeat' simp -dsimp (disch:=omega) only [↓EA,EB,↓reduceIte,reduceCtorEq,eq_self, *])
 refine F9 (Awi hE hl hs hv (f:=Gt) fun hh p i _ => Amn hE hX hZ (ht.pre p) (hl.pre p) hs (i:Int)) fun v2 ys r2 p2 => ?_
 obtain ⟨va,rfl,ra⟩:=Oe r2
 have na:=Rd.nt ra.1
 have Ra:=Hid.mk (AI ra p2.ex)
 clear ra r2 p2
 (repeat' simp -dsimp (disch:=omega) only [↓EA,EB,Nat.reduceEqDiff,↓reduceIte,eq_self, *])
 obtain ⟨ra,px⟩:=Ra.out
 exact ⟨px,_,rfl,.cons ra (.cons rfl .nil)⟩
theorem Aq7 (hE:Aw E) (hZ:Dy E G) {h:Aa} (ht:Tab G h) {vl:Value} {l:List Ab} (hl:Rd 7 A5 h vl l) (hs:∀ t∈l,t.name.size<1152921504606846976) (hv:B5 l) (hm:∀ t∈l,Mid t) (hn:l.length≤6) (few:∀ i:Nat,i<l.length→(A7 l i).length≤4096) :
  ∃ v ys,callW E (.func (.func D9) #[] #[]) [vl] h=some (v,h++ys,[])∧LinesV h.length (Lt l l.length) (h++ys) v:=by
 refine Ku hE.Ze rfl (LinesV.movable _) (by simp) ?_
 simp only [Ak]
 (repeat' simp -dsimp (disch:=omega) only [↓EA,EB,↓reduceIte,reduceCtorEq,eq_self, *])
 refine F9 (Awi hE hl hs hv (f:=Jf) fun hh p i hi => At5 hE hZ (ht.pre p) (hl.pre p) hs hv hm hn hi (few i hi)) fun v2 ys r2 p2 => ?_
 obtain ⟨va,rfl,ra⟩:=Oe r2
 have na:=Rd.nt ra.1
 have Ra:=Hid.mk (AI ra p2.ex)
 clear ra r2 p2
 (repeat' simp -dsimp (disch:=omega) only [↓EA,EB,Nat.reduceEqDiff,↓reduceIte,eq_self, *])
 obtain ⟨ra,px⟩:=Ra.out
 exact ⟨px,_,rfl,.cons ra (.cons rfl .nil)⟩
theorem Al1 {l:List Ab} (hv:B5 l):(Lt l l.length).all Line.ok=decide (allE l=0):=by
 rw [Bool.eq_iff_iff,List.all_eq_true,decide_eq_true_eq,As2]
 constructor
 ·intro h
  refine ⟨hv,fun k hk => ?_⟩
  have:=h (Ai6 l k) (List.mem_map.2 ⟨k,List.mem_range.2 hk,rfl⟩)
  exact of_decide_eq_true this
 ·rintro ⟨_,h⟩ x hx
  obtain ⟨k,hk,rfl⟩:=List.mem_map.1 hx
  exact decide_eq_true (h k (List.mem_range.1 hk))
theorem Ati {l:List Ab} {i:Int} {b:Nat} (h:∀ k:Nat,k<l.length→Jy l i k≤b):∀ n,n≤l.length→(upC l i n).length≤n * b
 | 0,_ => by simp [upC]
 | n+1,hn => by
  have ih:=Ati h n (by omega)
  have:=h n (by omega)
  rw [Nat.add_mul,Nat.one_mul]
  unfold upC
  split
  ·rw [LA]
   simp only [Iv,List.length_map,List.length_range]
   omega
  ·omega
theorem Azr {l:List Ab} {i:Nat} (h:∀ t∈l,Amv t) (hn:l.length≤6) (hi:i<l.length):(A7 l i).length≤4096:=by
 have hb:(Bi l i).length≤1:=by unfold Bi;split<;>simp
 have hm:∀ m:Nat,m<l.length→Jy l (i:Int) m≤27:=fun m hm => by
  have h1:=h _ (Aj (l:=l) (i:=(m:Int)) (by omega) (by omega))
  have h2:=h _ (Aj (l:=l) (i:=(i:Int)) (by omega) (by omega))
  obtain ⟨_,a1,a2,a3,a4,a5,a6⟩:=h1
  obtain ⟨_,b1,b2,b3,b4,b5,b6⟩:=h2
  rcases Nat.lt_or_ge 27 (Jy l (i:Int) m) with h3 | h3
  ·exfalso
   unfold Jy at h3
   have h4:=(Tt (T:=(atI l (m:Int)).T) (p:=(atI l (i:Int)).D - (atI l (i:Int)).J+(atI l (m:Int)).J) (by omega) 27).1 h3
   omega
  ·exact h3
 have:=Ati hm l.length (Nat.le_refl _)
 unfold A7
 rw [LA,List.length_cons]
 omega
theorem Ali (hE:Aw E) (hX:Id E) (hZ:Dy E G) {h:Aa} (ht:Tab G h) (ha:callW E (.func (.func Cw) #[] #[]) [] h=some (.bool true,h,[])) {vl:Value} {l:List Spec} (hl:Rd 5 Y0 h vl l) {turn:Int} (hturn:Nj turn) :
  callW E (.func (.func Fp) #[] #[]) [vl,.int .i64 turn] h=some (.bool true,h,[]):=by
 refine Am hE.Pt rfl (by simp) ?_
 simp only [Ak]
 (repeat' simp -dsimp (disch:=omega) only [↓EA,EB,Nat.reduceEqDiff,↓reduceIte,reduceCtorEq,eq_self, *])
 refine F9 (A3e hE hl (most:=6) (by decide) (by decide) hturn) fun v ys r p => ?_
 have hsm:∀ t∈setP l 6 turn,Amv t:=fun t ht => Ak5 (by decide) (by decide) ht
 have hval:B5 (setP l 6 turn):=Ak4 _ _ (by decide) (by decide)
 have hn:=(Aas l (most:=6) (turn:=turn) (by decide)).2
 have hnm:∀ t∈setP l 6 turn,t.name.size<1152921504606846976:=fun t ht => by have:=(hsm t ht).name;omega
 have rv:=r.rd
 have t1:=ht.pre p
 have ro:=rv.one
 have rc:=rv.cv
 have hp:=p
 clear r
 generalize setP l 6 turn=s at *
 have hle:=hp.le
 generalize h++ys=K at *
 have hmid:∀ t∈s,Mid t:=fun t ht => by
  obtain ⟨_,hC,hD,hJ,hQ,hT,hP⟩:=hsm t ht
  exact ⟨⟨by omega,by omega⟩,⟨by omega,by omega⟩,⟨by omega,by omega⟩⟩
 (repeat' simp -dsimp (disch:=omega) only [↓EA,EB,Nat.reduceEqDiff,↓reduceIte,reduceCtorEq,eq_self, *])
 refine F9 (Ayj hE hX hZ t1 rv hnm hval) fun v1 y1 r1 p1 => ?_
 obtain ⟨va,rfl,ra⟩:=Oe r1
 have na:=Rd.nt ra.1
 have oa:=ra.1.one
 have ca:=ra.1.cv
 have ra1:=ra.1
 have rv2:=rv.pre p1
 have t2:=t1.pre p1
 have hle2:=p1.le
 clear ra r1 p1 rv t1
 generalize K++y1=K2 at *
 (repeat' simp -dsimp (disch:=omega) only [↓EA,EB,Nat.reduceEqDiff,↓reduceIte,eq_self, *])
 refine F9 (Aq7 hE hZ t2 rv2 hnm hval hmid (by omega) fun i hi => Azr hsm (by omega) hi) fun v3 y3 r3 p3 => ?_
 obtain ⟨vb,rfl,rb⟩:=Oe r3
 have nb:=Rd.nt rb.1
 have ob:=rb.1.one
 have cb:=rb.1.cv
 have q1:=A4v hE (ra1.pre p3) rb.1
 have q2:=A5u hE (ra1.pre p3)
 have q3:=A21 hE hX hZ (t2.pre p3) (rv2.pre p3) hnm
 rw [Al1 hval] at q2
 have l1:=ra1.len
 have l2:=rv2.len
 have l3:(Lt s s.length).length=s.length:=by simp [Lt]
 rw [l3] at l1
 clear rb r3 p3 rv2 t2 ra1 hmid hsm hnm
 generalize K2++y3=K3 at *
 generalize allE s=e at *
 by_cases h0:e=0
 ·subst h0
  (repeat' simp -dsimp (disch:=omega) only [↓EA,EB,Nat.reduceEqDiff,↓reduceIte,eq_self, *])
 ·rw [decide_eq_false h0] at q2 q3
  (repeat' simp -dsimp (disch:=omega) only [↓EA,EB,Nat.reduceEqDiff,↓reduceIte,eq_self, *])
end Go.L.Try
