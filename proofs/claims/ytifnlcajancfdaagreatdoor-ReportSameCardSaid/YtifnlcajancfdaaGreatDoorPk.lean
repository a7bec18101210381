/- PLACES THAT ARE SO: task.those, Higher, Lower. -/
import Derived.Test.YtifnlcajancfdaaGreatDoorPj
import Derived.Test.YtifnlcajancfdaaGreatDoorPa
set_option linter.unusedVariables false
set_option linter.unusedSimpArgs false
set_option maxRecDepth 100000
set_option maxHeartbeats 2000000
namespace Go.L.Try
open Go Go.L
variable {E:Env} {G:Nat}
def thoseW (p:Ab→Bool) (l:List Ab):Nat→List Nat
 | 0 => List.replicate 16 0
 | k+1 => if p (atI l (k:Int))=true then withM (thoseW p l k) (k:Int) else thoseW p l k
theorem D7 (p:Ab→Bool) (l:List Ab):∀ k,okM (thoseW p l k)
 | 0 => Avz
 | k+1 => by
  unfold thoseW
  split
  ·exact Aaa (D7 p l k) _
  ·exact D7 p l k
theorem Aaf (p:Ab→Bool) (l:List Ab):∀ (k:Nat),k≤1024→∀ m,T6 (thoseW p l k) m=(decide (m<k) && p (atI l (m:Int)))
 | 0,_,m => by rw [thoseW,Arx];simp
 | k+1,hk,m => by
  have ih:=Aaf p l k (by omega) m
  unfold thoseW
  by_cases hp:p (atI l (k:Int))=true
  ·rw [if_pos hp,Aqy (D7 p l k) (by omega),ih]
   by_cases h:m=k
   ·subst h;simp [hp]
   ·have e:decide (m<k+1)=decide (m<k):=decide_eq_decide.2 (by omega)
    simp [h,e]
  ·rw [if_neg hp,ih]
   by_cases h:m=k
   ·subst h
    have hp':p (atI l (m:Int))=false:=by simpa using hp
    simp [hp']
   ·have e:decide (m<k+1)=decide (m<k):=decide_eq_decide.2 (by omega)
    rw [e]
theorem Ads (hE:Aw E) {h:Aa} {vl vf:Value} {l:List Ab} (hl:Rd 7 A5 h vl l) {f:FuncId} {ca cb:Array Value} (hf:vf = .func (.func f) ca cb) {i:Int} {p:Ab→Bool} (hi:0≤i∧i<l.length) (hn:l.length≤1024)
  (hp:∀ (h':Aa) (t:Ab),Pre h h'→callW E vf [.agg (A5 t).toArray] h'=some (.bool (p t),h',[])) :
  callW E (.func (.func D8) #[] #[]) [vl,.int .i64 i,vf] h=some (.agg (Fy (thoseW p l l.length)).toArray,h,[]):=by
 refine Am hE.Aks rfl (by simp) ?_
 simp only [Ak]
 have few:=hl.few
 have Hf:=Hid.mk hf
 clear hf
 have hz:([.int .u64 0,.int .u64 0,.int .u64 0,.int .u64 0,.int .u64 0,.int .u64 0,.int .u64 0,.int .u64 0,.int .u64 0,.int .u64 0,.int .u64 0,.int .u64 0,.int .u64 0,.int .u64 0,.int .u64 0,.int .u64 0]:List Value)=z16:=rfl
 have Hz:=Hid.mk hz
 clear hz
 (repeat' (first | (with_reducible refine A2 (fun _ => ?_) (fun _ => ?_)<;>try (exfalso;omega)) | (with_reducible refine A3 (fun _ => ?_) (fun _ => ?_)<;>try (exfalso;omega)) | simp -dsimp (disch:=omega) only [↓EA,EB,Nat.reduceEqDiff,Nat.reduceAdd,↓reduceIte,reduceCtorEq,Ac,eq_self, *,hl.len]))
 rw [Hz.out]
 refine WO.loop (fun (n:Nat) fr h' => Pre h h'∧h.length+2≤h'.length∧n≤l.length∧get fr 2=vf∧get fr 6 = .pointer (some ⟨h.length,0,none⟩)∧get fr 7 = .pointer (some ⟨h.length+1,0,none⟩)∧get fr 19=vl∧get fr 20 = .int .i64 l.length∧get fr 21 = .int .i64 n∧h'[h.length]? = some (.cells z16 false)∧h'[h.length+1]? = some (.cells (Fy (thoseW p l n)) false)) (fun n => l.length - n) ?_ 0 ⟨Pre.app h _,by simp,Nat.zero_le _,rfl,rfl,rfl,rfl,rfl,rfl,by rw [Bm];rfl,by rw [Kr];rfl⟩
 rintro n fr h' ⟨hpre,hlen,hn',g2,g6,g7,g19,g20,g21,b1,b2⟩
 unfold Rb
 have ok:=D7 p l n
 have hlM:=Fa ok
 have hoM:=G3 (thoseW p l n)
 have htk:=Ji ok
 have hs16:=fun w (hw:okM w) => A3d (d:=z16) rfl hw
 have hl16:z16.length=16:=rfl
 rcases Nat.lt_or_ge n l.length with hlt | hge
 ·have hl':=hl.pre hpre
  have q:=fun (x:Aa) => hp (h'++x) (atI l (n:Int)) (hpre.app' x)
  have hset:∀ (x:Aa) (o:LObj),Pre h ((h'++x).set (h.length+1) o):=fun x o => (hpre.app' x).set (by omega) o
  have w1:=fun x => A4r hE (h'++x) ok (n:Int)
  have ok2:=Aaa ok (n:Int)
  have hlM2:=Fa ok2
  have hoM2:=G3 (withM (thoseW p l n) (n:Int))
  have hsM:=A3d hlM ok2
  have Hst:=Hid.mk (show thoseW p l (n+1)=if p (atI l (n:Int))=true then withM (thoseW p l n) (n:Int) else thoseW p l n from rfl)
  have Hset:=Hid.mk hset
  have Hpre:=Hid.mk hpre
  have b1x:∀ x,(h'++x)[h.length]? = some (.cells z16 false):=fun x => by rw [GL (by omega)];exact b1
  have b2x:∀ x,(h'++x)[h.length+1]? = some (.cells (Fy (thoseW p l n)) false):=fun x => by rw [GL (by omega)];exact b2
  clear ok ok2 hs16 hset
  generalize withM (thoseW p l n) (n:Int)=w2 at *
  generalize thoseW p l n=w1 at *
  simp only [A5] at q
  (repeat' (first | (with_reducible refine A3 (fun _ => ?_) (fun _ => ?_)<;>try (exfalso;omega)) | refine A4 (fun _ => ?_) (fun _ => ?_) | simp -dsimp (disch:=omega) only [↓EA,EB,Nat.reduceEqDiff,Nat.reduceAdd,↓reduceIte,Ac,eq_self, *,hl'.ixs,hl'.lda,A5,hpre.le]))
  ·refine Next.mk (n+1) ⟨Hset.out _ _,by simp;omega,by omega,rfl,rfl,rfl,rfl,rfl,rfl,?_,?_⟩ (by omega)
   ·rw [Ba (by omega)];exact b1x _
   ·rw [B9 (by simp;omega),Hst.out,if_pos (by assumption)]
  ·refine Next.mk (n+1) ⟨hpre.app' _,by simp;omega,by omega,rfl,rfl,rfl,rfl,rfl,rfl,b1x _,?_⟩ (by omega)
   rw [b2x,Hst.out,if_neg (Bool.eq_false_iff.1 (by assumption))]
 ·have e:n=l.length:=by omega
  subst e
  have hnn:=Wm (thoseW p l l.length) h.length
  have hsM:=hs16 _ ok
  (repeat' (first | (with_reducible refine A3 (fun _ => ?_) (fun _ => ?_)<;>try (exfalso;omega)) | simp -dsimp (disch:=omega) only [↓EA,EB,Nat.reduceEqDiff,↓reduceIte,eq_self, *]))
def A9 (l:List Ab) (i:Int):Ab→Bool:=fun t => decide (t.P<(atI l i).P)
def Du (l:List Ab) (i:Int):Ab→Bool:=fun t => decide ((atI l i).P<t.P)
theorem Ar5 (hE:Aw E) {h:Aa} {vl:Value} {l:List Ab} (hl:Rd 7 A5 h vl l) {i:Int} (hi:0≤i∧i<l.length) {b c:Nat} (hb:h[b]? = some (.cells [vl] false)) (hc:h[c]? = some (.cells [.int .i64 i] false)) (t:Ab) :
  callW E (.func (.func Cs) #[] #[.pointer (some ⟨b,0,none⟩),.pointer (some ⟨c,0,none⟩)]) [.agg (A5 t).toArray] h=some (.bool (A9 l i t),h,[]):=by
 rw [Tz hE.Ry]
 refine Am hE.Ry rfl (by simp) ?_
 simp only [List.nil_append,List.cons_append,Ak]
 have hb':∀ x,(h++x)[b]? = some (.cells [vl] false):=fun x => by rw [GL (GI.1 hb).1];exact hb
 have hc':∀ x,(h++x)[c]? = some (.cells [.int .i64 i] false):=fun x => by rw [GL (GI.1 hc).1];exact hc
 unfold A9
 (repeat' simp -dsimp (disch:=omega) only [↓EA,EB,Nat.reduceEqDiff,Nat.reduceAdd,↓reduceIte,reduceCtorEq,Ac,eq_self, *,hl.ixs,hl.ldx,A5])
theorem Af4 (hE:Aw E) {h:Aa} {vl:Value} {l:List Ab} (hl:Rd 7 A5 h vl l) {i:Int} (hi:0≤i∧i<l.length) (hn:l.length≤1024) :
  callW E (.func (.func Ej) #[] #[]) [vl,.int .i64 i] h=some (.agg (Fy (thoseW (A9 l i) l l.length)).toArray,h,[]):=by
 refine Am hE.Ag1 rfl (by simp) ?_
 have hc:=hl.cv
 have ho:=hl.one
 have q:=fun (x:Aa) (hb:(h++x)[h.length]? = some (.cells [vl] false)) (hc:(h++x)[h.length+1]? = some (.cells [.int .i64 i] false)) => Ads hE (hl.app x) (vf:=.func (.func Cs) #[] #[.pointer (some ⟨h.length,0,none⟩),.pointer (some ⟨h.length+1,0,none⟩)]) rfl (i:=i) (p:=A9 l i) hi hn (fun h' t hp => Ar5 hE ((hl.app x).pre hp) hi (hp _ _ hb) (hp _ _ hc) t)
 have q2:∀ y,callW E (.func (.func D8) #[] #[]) [vl,.int .i64 i,.func (.func Cs) #[] #[.pointer (some ⟨h.length,0,none⟩),.pointer (some ⟨h.length+1,0,none⟩)]] (h++(LObj.cells [vl] false :: LObj.cells [.int .i64 i] false :: y))=some (.agg (Fy (thoseW (A9 l i) l l.length)).toArray,h++(LObj.cells [vl] false :: LObj.cells [.int .i64 i] false :: y),[]):=fun y => q _ (by rw [Bm];rfl) (by rw [Kr];rfl)
 clear q
 have ok:=D7 (A9 l i) l l.length
 generalize thoseW (A9 l i) l l.length=w at *
 have hlM:=Fa ok
 have hoM:=G3 w
 have htk:=Ji ok
 have hs0:=Am4 ok
 have hnn:=Wm w h.length
 simp only [Ak]
 (repeat' simp -dsimp (disch:=omega) only [↓EA,EB,Nat.reduceEqDiff,Nat.reduceAdd,↓reduceIte,reduceCtorEq,Ac,eq_self, *])
theorem Awg (hE:Aw E) {h:Aa} {vl:Value} {l:List Ab} (hl:Rd 7 A5 h vl l) {i:Int} (hi:0≤i∧i<l.length) {b c:Nat} (hb:h[b]? = some (.cells [vl] false)) (hc:h[c]? = some (.cells [.int .i64 i] false)) (t:Ab) :
  callW E (.func (.func Db) #[] #[.pointer (some ⟨b,0,none⟩),.pointer (some ⟨c,0,none⟩)]) [.agg (A5 t).toArray] h=some (.bool (Du l i t),h,[]):=by
 rw [Tz hE.Uc]
 refine Am hE.Uc rfl (by simp) ?_
 simp only [List.nil_append,List.cons_append,Ak]
 have hb':∀ x,(h++x)[b]? = some (.cells [vl] false):=fun x => by rw [GL (GI.1 hb).1];exact hb
 have hc':∀ x,(h++x)[c]? = some (.cells [.int .i64 i] false):=fun x => by rw [GL (GI.1 hc).1];exact hc
 unfold Du
 (repeat' simp -dsimp (disch:=omega) only [↓EA,EB,Nat.reduceEqDiff,Nat.reduceAdd,↓reduceIte,reduceCtorEq,Ac,eq_self, *,hl.ixs,hl.ldx,A5])
theorem Awh (hE:Aw E) {h:Aa} {vl:Value} {l:List Ab} (hl:Rd 7 A5 h vl l) {i:Int} (hi:0≤i∧i<l.length) (hn:l.length≤1024) :
  callW E (.func (.func H9) #[] #[]) [vl,.int .i64 i] h=some (.agg (Fy (thoseW (Du l i) l l.length)).toArray,h,[]):=by
 refine Am hE.Aku rfl (by simp) ?_
 have hc:=hl.cv
 have ho:=hl.one
 have q:=fun (x:Aa) (hb:(h++x)[h.length]? = some (.cells [vl] false)) (hc:(h++x)[h.length+1]? = some (.cells [.int .i64 i] false)) => Ads hE (hl.app x) (vf:=.func (.func Db) #[] #[.pointer (some ⟨h.length,0,none⟩),.pointer (some ⟨h.length+1,0,none⟩)]) rfl (i:=i) (p:=Du l i) hi hn (fun h' t hp => Awg hE ((hl.app x).pre hp) hi (hp _ _ hb) (hp _ _ hc) t)
 have q2:∀ y,callW E (.func (.func D8) #[] #[]) [vl,.int .i64 i,.func (.func Db) #[] #[.pointer (some ⟨h.length,0,none⟩),.pointer (some ⟨h.length+1,0,none⟩)]] (h++(LObj.cells [vl] false :: LObj.cells [.int .i64 i] false :: y))=some (.agg (Fy (thoseW (Du l i) l l.length)).toArray,h++(LObj.cells [vl] false :: LObj.cells [.int .i64 i] false :: y),[]):=fun y => q _ (by rw [Bm];rfl) (by rw [Kr];rfl)
 clear q
 have ok:=D7 (Du l i) l l.length
 generalize thoseW (Du l i) l l.length=w at *
 have hlM:=Fa ok
 have hoM:=G3 w
 have htk:=Ji ok
 have hs0:=Am4 ok
 have hnn:=Wm w h.length
 simp only [Ak]
 (repeat' simp -dsimp (disch:=omega) only [↓EA,EB,Nat.reduceEqDiff,Nat.reduceAdd,↓reduceIte,reduceCtorEq,Ac,eq_self, *])
end Go.L.Try
namespace Go.L.Try
open Go Go.L
variable {E:Env} {G:Nat}
theorem Afo (n:Nat):List.range' 0 n=List.range n:=List.range_eq_range'.symm
theorem Aj0 {w:List Nat} {n:Nat} {q:Nat→Bool} (hn:n≤1024) (hm:∀ m,T6 w m=(decide (m<n) && q m)):Al w 0=(List.range n).filter q:=by
 unfold Al
 have e:1024 - 0=n+(1024 - n):=by omega
 rw [e,List.range'_append_1.symm,List.filter_append,Afo]
 have h1:(List.range n).filter (T6 w)=(List.range n).filter q:=by
  apply List.filter_congr
  intro m hmem
  rw [hm,decide_eq_true (List.mem_range.1 hmem),Bool.true_and]
 have h2:(List.range' (0+n) (1024 - n)).filter (T6 w)=[]:=by
  rw [List.filter_eq_nil_iff]
  intro m hmem
  have:=(List.mem_range'_1.1 hmem).1
  rw [hm,decide_eq_false (by omega),Bool.false_and];decide
 rw [h1,h2,List.append_nil]
theorem Kt {α : Type} {f:α → Nat → α} {a0:α} {q:Nat→Bool} (N:Nat → α) (h0:N 0=a0) (hN:∀ k,N (k+1)=if q k=true then f (N k) k else N k):∀ n,((List.range n).filter q).foldl f a0=N n
 | 0 => h0.symm
 | n+1 => by
  rw [List.range_succ,List.filter_append,List.foldl_append,Kt N h0 hN n,hN]
  by_cases h:q n=true
  ·rw [if_pos h];simp [h]
  ·rw [if_neg h];simp [h]
def accL {α : Type} (f:α → Nat → α) (a0:α) (es:List Nat) (k:Nat):α:=(es.take k).foldl f a0
theorem Mx {α : Type} {f:α → Nat → α} {a0:α} {es:List Nat} {k m:Nat} (h:es[k]? = some m):accL f a0 es (k+1)=f (accL f a0 es k) m:=by
 unfold accL
 have hlt:=(GI.1 h).1
 have e:es.take (k+1)=es.take k++[m]:=by
  rw [List.take_add_one,h];rfl
 rw [e,List.foldl_append];rfl
theorem Tj {α : Type} (f:α → Nat → α) (a0:α) (es:List Nat):accL f a0 es es.length=es.foldl f a0:=by unfold accL;rw [List.take_length]
theorem P5 {α : Type} {f:α → Nat → α} {a0:α} {es:List Nat} (I:α → Prop) (h0:I a0) (hs:∀ a m,m∈es→I a→I (f a m)):∀ k,I (accL f a0 es k)
 | 0 => h0
 | k+1 => by
  cases h:es[k]? with
  | some m => rw [Mx h];exact hs _ _ (List.mem_of_getElem? h) (P5 I h0 hs k)
  | none =>
   have e:accL f a0 es (k+1)=accL f a0 es k:=by
    unfold accL
    rw [List.getElem?_eq_none_iff] at h
    rw [List.take_of_length_le (by omega),List.take_of_length_le h]
   rw [e];exact P5 I h0 hs k
def placesQ (q:Ab→Bool) (l:List Ab):List Nat:=(List.range l.length).filter fun m => q (atI l (m:Int))
theorem J2 (q:Ab→Bool) {l:List Ab} (hn:l.length≤1024):Al (thoseW q l l.length) 0=placesQ q l :=
 Aj0 hn fun m => Aaf q l l.length hn m
theorem Nf {q:Ab→Bool} {l:List Ab} {m:Nat} (h:m∈placesQ q l):m<l.length:=List.mem_range.1 (List.mem_filter.1 h).1
def Y6 (l:List Ab) (a:Int) (m:Nat):Int:=max a ((atI l (m:Int)).Q - 1)
theorem Amo (l:List Ab) (i:Int):accL (Y6 l) 0 (placesQ (Du l i) l) (placesQ (Du l i) l).length=Ja l i l.length:=by
 rw [Tj]
 exact Kt (Ja l i) rfl (fun k => by show (if _ then _ else _)=_;simp only [Du,decide_eq_true_eq];rfl) _
theorem A4j (hE:Aw E) (hZ:Dy E G) {h:Aa} (ht:Tab G h) {vl:Value} {l:List Ab} (hl:Rd 7 A5 h vl l) (hs:∀ t∈l,t.name.size<1152921504606846976) (i:Int) :
  callW E (.func (.func Gx) #[] #[]) [vl,.int .i64 i] h=some (.int .i64 (blockP l i),h,[]):=by
 have hi:=fun x => Awu hE (hl.app x) hs i
 have hc:=hl.cv
 have ho:=hl.one
 refine Am hE.Agf rfl (by simp) ?_
 simp only [Ak]
 unfold blockP
 cases hb:isP l i
 ·rw [hb] at hi
  (repeat' simp -dsimp (disch:=omega) only [↓EA,EB,Nat.reduceEqDiff,↓reduceIte,reduceCtorEq,Ac,eq_self, *])
 ·rw [hb] at hi
  obtain ⟨hi2,hlen,hok⟩:=E8 hb
  have q:=fun x => Awh hE (hl.app x) hi2 hlen
  have ok:=D7 (Du l i) l l.length
  have ev:=J2 (Du l i) hlen
  have Hf:=Hid.mk (Amo l i)
  have Hm:=Hid.mk (fun m (h:m∈placesQ (Du l i) l) => Nf h)
  generalize placesQ (Du l i) l=es at *
  generalize thoseW (Du l i) l l.length=w at *
  rw [if_pos rfl]
  (repeat' simp -dsimp (disch:=omega) only [↓EA,EB,Nat.reduceEqDiff,↓reduceIte,reduceCtorEq,Ac,eq_self, *])
  refine F9 (Ayl hE _ ok) fun v ys hr hpre => ?_
  obtain ⟨bx,rfl,hge,hbx⟩:=hr
  (repeat' simp -dsimp (disch:=omega) only [↓EA,EB,Nat.reduceEqDiff,↓reduceIte,eq_self, *])
  simp only [List.append_assoc,List.cons_append,List.nil_append,LA,List.length_cons,List.length_nil] at hbx hge
  have hbxl:=(GI.1 hbx).1
  have hpH:Pre h (h++LObj.cells [vl] false :: LObj.cells [Value.int IntKind.i64 0] false :: ys):=Pre.app h _
  have hbt:∀ m,m∈es→1≤(atI l (m:Int)).Q∧(atI l (m:Int)).Q≤2147483647:=fun m hm => by
   have hml:=Hm.out m hm
   have:=(hok _ (Aj (l:=l) (i:=(m:Int)) (by omega) (by omega))).1
   simp only [Ap] at this;omega
  have hac:∀ k,0≤accL (Y6 l) 0 es k∧accL (Y6 l) 0 es k≤2147483647:=P5 (fun a => 0≤a∧a≤2147483647) ⟨by decide,by decide⟩ (fun a m hm ⟨h1,h2⟩ => by
   have:=hbt m hm
   unfold Y6;omega)
  refine Wt hE.keep rfl (W7 hE hZ ok bx) (c:=h.length+1) (by simp) (by omega) (fun k => .int .i64 (accL (Y6 l) 0 es k)) (fun _ => rfl) (by rw [Kr];rfl) rfl (fun hh e1 e2 => ⟨by rw [e2 bx hbxl (by omega)];exact hbx,ht.pre fun b o hb => by have hlt:=(GI.1 hb).1;rw [e2 b (by simp;omega) (by omega)];exact hpH b o hb⟩) ?_ ?_
  ·intro k a ha
   rw [ev,List.getElem?_map] at ha
   obtain ⟨m,hm,rfl⟩:=OM.1 ha
   have hmem:=List.mem_of_getElem? hm
   have hml:=Hm.out m hmem
   have hq:=hbt m hmem
   have hsucc:=Hid.mk (Mx (f:=Y6 l) (a0:=0) hm)
   have hak:=hac k
   clear ha hm hac hbt Hf ev ok q hi hb hok
   refine ⟨_,rfl,fun hh g1 g2 g3 => ?_⟩
   unfold On
   (repeat' simp -dsimp (disch:=omega) only [↓EA,EB,Nat.reduceEqDiff,Nat.reduceAdd,↓reduceIte,eq_self, *])
   refine ⟨[],(List.append_nil _).symm,fun hh2 k1 k2 k3 => ?_⟩
   have hp2:Pre h hh2:=fun b o hb => by
    have hlt:=(GI.1 hb).1
    rw [k3 b (by omega) (by omega)];exact hpH b o hb
   have hl2:=hl.pre hp2
   have b1:hh2[h.length]? = some (.cells [vl] false):=by rw [k3 h.length (by omega) (by omega),Bm];rfl
   generalize accL (Y6 l) 0 es k=A at *
   have Hb:=Hid.mk (show Y6 l A m=max A ((atI l (m:Int)).Q - 1) from rfl)
   unfold Om
   (repeat' simp -dsimp (disch:=omega) only [↓EA,EB,Nat.reduceEqDiff,↓reduceIte,eq_self, *,hl2.ixs,hl2.ld,A5,true_or])
   exact ⟨[],by rw [List.append_nil,hsucc.out,Hb.out]⟩
  ·rw [ev,List.length_map,Hf.out]
   clear Hf hac hbt ev
   (repeat' simp -dsimp (disch:=omega) only [↓EA,EB,Nat.reduceEqDiff,↓reduceIte,eq_self, *])
def hstep (l:List Ab) (w:Int) (a:Int) (m:Nat):Int:=sat (a+sat (oftenP (atI l (m:Int)) w * (atI l (m:Int)).C))
theorem Ajh (l:List Ab) (i w:Int):accL (hstep l w) 0 (placesQ (A9 l i) l) (placesQ (A9 l i) l).length=Ee l i w l.length:=by
 rw [Tj]
 exact Kt (Ee l i w) rfl (fun k => by show (if _ then _ else _)=_;simp only [A9,decide_eq_true_eq];rfl) _
theorem A0u (hE:Aw E) (hX:Id E) (hZ:Dy E G) {h:Aa} (ht:Tab G h) {vl:Value} {l:List Ab} (hl:Rd 7 A5 h vl l) (hs:∀ t∈l,t.name.size<1152921504606846976) (i:Int) {w:Int} (hw:A0 w) :
  callW E (.func (.func Fx) #[] #[]) [vl,.int .i64 i,.int .u64 w] h=some (.int .u64 (higherP l i w),h,[]):=by
 have hi:=fun x => Awu hE (hl.app x) hs i
 have hc:=hl.cv
 have ho:=hl.one
 refine Am hE.Adm rfl (by simp) ?_
 simp only [Ak]
 have hw2:=hw
 unfold A0 at hw2
 unfold higherP
 by_cases hw0:w=0
 ·subst hw0
  rw [if_neg (by omega)]
  (repeat' simp -dsimp (disch:=omega) only [↓EA,EB,Nat.reduceEqDiff,Nat.reduceAdd,↓reduceIte,reduceCtorEq,Ac,eq_self, *])
 cases hb:isP l i
 ·rw [hb] at hi
  rw [if_neg (by simp)]
  (repeat' simp -dsimp (disch:=omega) only [↓EA,EB,Nat.reduceEqDiff,Nat.reduceAdd,↓reduceIte,reduceCtorEq,Ac,eq_self, *])
 ·rw [hb] at hi
  obtain ⟨hi2,hlen,hok⟩:=E8 hb
  have q:=fun x => Af4 hE (hl.app x) hi2 hlen
  have ok:=D7 (A9 l i) l l.length
  have ev:=J2 (A9 l i) hlen
  have Hf:=Hid.mk (Ajh l i w)
  have Hm:=Hid.mk (fun m (h:m∈placesQ (A9 l i) l) => Nf h)
  generalize placesQ (A9 l i) l=es at *
  generalize thoseW (A9 l i) l l.length=wm at *
  rw [if_pos ⟨rfl,by omega⟩]
  (repeat' simp -dsimp (disch:=omega) only [↓EA,EB,Nat.reduceEqDiff,Nat.reduceAdd,↓reduceIte,reduceCtorEq,Ac,eq_self, *])
  refine F9 (Ayl hE _ ok) fun v ys hr hpre => ?_
  obtain ⟨bx,rfl,hge,hbx⟩:=hr
  (repeat' simp -dsimp (disch:=omega) only [↓EA,EB,Nat.reduceEqDiff,↓reduceIte,eq_self, *])
  simp only [List.append_assoc,List.cons_append,List.nil_append,LA,List.length_cons,List.length_nil] at hbx hge
  have hbxl:=(GI.1 hbx).1
  have hpH:Pre h (h++LObj.cells [vl] false :: LObj.cells [Value.int IntKind.u64 w] false :: LObj.cells [Value.int IntKind.u64 0] false :: ys):=Pre.app h _
  have hbt:∀ m,m∈es→Cr (atI l (m:Int)):=fun m hm => by
   have hml:=Hm.out m hm
   exact hok _ (Aj (l:=l) (i:=(m:Int)) (by omega) (by omega))
  have hac:∀ k,A0 (accL (hstep l w) 0 es k):=P5 A0 ⟨by decide,by decide⟩ (fun a m hm ha => by
   have htk:=hbt m hm
   have h1:=(V6 htk hw).2
   have h2:=(Iw htk).1
   have h3:=R7 (Int.mul_nonneg h1.1 (show 0≤(atI l (m:Int)).C by omega))
   exact R7 (by have:=ha.1;have:=h3.1;omega))
  refine Wt hE.keep rfl (W7 hE hZ ok bx) (c:=h.length+2) (by simp) (by omega) (fun k => .int .u64 (accL (hstep l w) 0 es k)) (fun _ => rfl) (by rw [Kr];rfl) rfl (fun hh e1 e2 => ⟨by rw [e2 bx hbxl (by omega)];exact hbx,ht.pre fun b o hb => by have hlt:=(GI.1 hb).1;rw [e2 b (by simp;omega) (by omega)];exact hpH b o hb⟩) ?_ ?_
  ·intro k a ha
   rw [ev,List.getElem?_map] at ha
   obtain ⟨m,hm,rfl⟩:=OM.1 ha
   have hmem:=List.mem_of_getElem? hm
   have hml:=Hm.out m hmem
   have hq:=hbt m hmem
   have hsucc:=Hid.mk (Mx (f:=hstep l w) (a0:=0) hm)
   have hak:=hac k
   clear ha hm hac hbt Hf ev ok q hi hb hok
   refine ⟨_,rfl,fun hh g1 g2 g3 => ?_⟩
   unfold N2
   (repeat' simp -dsimp (disch:=omega) only [↓EA,EB,Nat.reduceEqDiff,Nat.reduceAdd,↓reduceIte,eq_self, *])
   refine ⟨[],(List.append_nil _).symm,fun hh2 k1 k2 k3 => ?_⟩
   have hp2:Pre h hh2:=fun b o hb => by
    have hlt:=(GI.1 hb).1
    rw [k3 b (by omega) (by omega)];exact hpH b o hb
   have hl2:=hl.pre hp2
   have b1:hh2[h.length]? = some (.cells [vl] false):=by rw [k3 h.length (by omega) (by omega),Bm];rfl
   have b2:hh2[h.length+1]? = some (.cells [.int .u64 w] false):=by rw [k3 (h.length+1) (by omega) (by omega),Kr];rfl
   obtain ⟨hC,hT,hJ⟩:=Iw hq
   have q1:=fun x => Az7 hE hX (hh2++x) hq hw
   have o2:=(V6 hq hw).2
   have hcu:A0 (atI l (m:Int)).C:=by unfold A0;omega
   have q2:=fun x => Av1 hE (hh2++x) o2 hcu
   have hsi:=R7 (Int.mul_nonneg o2.1 hcu.1)
   generalize accL (hstep l w) 0 es k=A at *
   have Hb:=Hid.mk (show hstep l w A m=sat (A+sat (oftenP (atI l (m:Int)) w * (atI l (m:Int)).C)) from rfl)
   generalize oftenP (atI l (m:Int)) w=O at *
   generalize sat (O * (atI l (m:Int)).C)=S at *
   have q3:=Aly hE hX (h:=hh2++[LObj.cells [.int .u64 S] false]) (vl:=.slice (some ⟨hh2.length,0,none⟩) 1 1) (l:=[S]) (Rd.lit (enc:=Asd) [S] (by rw [Bm];rfl) rfl (fun _ => rfl) (by simp) (by simp) (.inl rfl)) hak (fun x hx => by rw [List.mem_singleton.1 hx];exact hsi)
   have e3:sumU A [S]=sat (A+S):=rfl
   rw [e3] at q3
   have k1a:h.length+3≤hh2.length:=by omega
   have k1b:h.length+(ys.length+3)<hh2.length:=by omega
   clear k1 hq hw hcu hak hsi o2 hpre g1 g2 g3 k3
   simp only [A5] at q1
   have b1x:∀ x,(hh2++x)[h.length]? = some (.cells [vl] false):=fun x => by rw [GL (by omega)];exact b1
   have b2x:∀ x,(hh2++x)[h.length+1]? = some (.cells [.int .u64 w] false):=fun x => by rw [GL (by omega)];exact b2
   have b3x:∀ x,(hh2++x)[h.length+2]? = some (.cells [.int .u64 A] false):=fun x => by rw [GL (by omega)];exact k2
   have b4x:∀ x o,(hh2++x).set (h.length+2) o=hh2.set (h.length+2) o++x:=fun x o => by rw [List.set_append_left _ _ (by omega)]
   rw [List.append_nil]
   unfold Nz
   (repeat' simp -dsimp (disch:=omega) only [↓EA,EB,Nat.reduceEqDiff,Nat.reduceLeDiff,Nat.reduceMul,↓reduceIte,Ac,Rq,eq_self, *,hl2.ixs,hl2.ldx,hl2.ldxa,A5,true_or,Amu])
   exact ⟨_,by rw [hsucc.out,Hb.out]⟩
  ·rw [ev,List.length_map,Hf.out]
   clear Hf hac hbt ev
   (repeat' simp -dsimp (disch:=omega) only [↓EA,EB,Nat.reduceEqDiff,↓reduceIte,eq_self, *])
theorem A2a (hE:Aw E) (hX:Id E) (hZ:Dy E G) {h:Aa} (ht:Tab G h) {vl:Value} {l:List Ab} (hl:Rd 7 A5 h vl l) (hs:∀ t∈l,t.name.size<1152921504606846976) (i:Int) {w:Int} (hw:A0 w) :
  callW E (.func (.func F7) #[] #[]) [vl,.int .i64 i,.int .u64 w] h=some (.int .u64 (Ce l i w),h,[]):=by
 have hi:=Awu hE hl hs i
 refine Am hE.Aj2 rfl (by simp) ?_
 simp only [Ak]
 unfold Ce
 cases hb:isP l i
 ·rw [hb] at hi
  (repeat' simp -dsimp (disch:=omega) only [↓EA,EB,Nat.reduceEqDiff,Nat.reduceAdd,↓reduceIte,reduceCtorEq,eq_self, *])
 ·rw [hb] at hi
  have q1:=fun x => A4j hE hZ (ht.app x) (hl.app x) hs i
  have q2:=fun x => A0u hE hX hZ (ht.app x) (hl.app x) hs i hw
  obtain ⟨hi2,hlen,hok⟩:=E8 hb
  have htk:=hok _ (Aj hi2.1 hi2.2)
  obtain ⟨hC,hT,hJ⟩:=Iw htk
  have hbi:=Ae0 hb
  have hhi:A0 (higherP l i w):=Ab0 hw
  clear hb htk hok
  generalize blockP l i=B at *
  generalize higherP l i w=Hi at *
  have q3:=Aly hE hX (h:=h++[LObj.cells [.int .u64 B,.int .u64 Hi] false]) (vl:=.slice (some ⟨h.length,0,none⟩) 2 2) (l:=[B,Hi]) (Rd.lit (enc:=Asd) [B,Hi] (by rw [Bm];rfl) rfl (fun _ => rfl) (by simp) (by simp) (.inl rfl)) (s:=(atI l i).C) (by unfold A0;omega) (fun x hx => by
   simp only [List.mem_cons,List.not_mem_nil,or_false] at hx
   rcases hx with rfl | rfl
   ·unfold A0;omega
   ·exact hhi)
  have e3:sumU 0 [(atI l i).C,B,Hi]=sumU (atI l i).C [B,Hi]:=by
   show sat (sat (sat (0+(atI l i).C)+B)+Hi)=sat (sat ((atI l i).C+B)+Hi)
   have:sat (0+(atI l i).C)=(atI l i).C:=by unfold sat;rw [if_pos (by omega)];omega
   rw [this]
  rw [if_pos rfl,e3]
  have hblk:blk vl<h.length:=hl.lt' (by
   rintro rfl
   have:=hl.len
   simp only [U2,OI,Value.int.injEq,true_and] at this
   omega)
  generalize sumU (atI l i).C [B,Hi]=S at *
  clear hhi hw e3
  (repeat' simp -dsimp (disch:=omega) only [↓EA,EB,Nat.reduceEqDiff,Nat.reduceAdd,Nat.reduceLeDiff,Nat.reduceMul,↓reduceIte,reduceCtorEq,Ac,Rq,eq_self, *,hl.ixs,hl.ldx,A5,Amu])
end Go.L.Try
namespace Go.L.Try
open Go Go.L
variable {E:Env} {G:Nat}
theorem Ab8 (l:List Ab) (i:Int) (n:Nat) (w:Int):∃ r,Oh l i n w=w :: r:=by
 cases n with
 | zero => exact ⟨[],rfl⟩
 | succ n => unfold Oh;split<;>exact ⟨_,rfl⟩
def uV (w:Int):List Value:=[.int .u64 w]
theorem Asg (hE:Aw E) (hX:Id E) (hZ:Dy E G) {vl:Value} {l:List Ab} (hs:∀ t∈l,t.name.size<1152921504606846976) (i:Int) (b1 b2:Nat) :
  Agt E (.func (.func F6) #[] #[.pointer (some ⟨b1,0,none⟩),.pointer (some ⟨b2,0,none⟩)]) (fun h => (h[b1]? = some (.cells [vl] false)∧h[b2]? = some (.cells [.int .i64 i] false))∧Rd 7 A5 h vl l∧Tab G h) ((Uj l i).map uV):=by
 intro h1 L W J Stop hJ h0 hS step
 refine Aw4 hE.keep hE.Ahn rfl (by simp) ?_
 obtain ⟨_,⟨hb1,hb2⟩,hl,ht⟩:=hJ 0 h1 h0
 have hi:=A2g hE hl hs i
 simp only [List.cons_append,List.nil_append,Ak]
 have HJ:=Hid.mk hJ
 have HS:=Hid.mk hS
 have Hst:=Hid.mk step
 have H0:=Hid.mk h0
 clear hJ hS step h0
 cases hb:isP l i
 ·rw [hb] at hi
  have e:Uj l i=[]:=by unfold Uj;rw [hb];rfl
  rw [e]
  have H0':=H0.out
  clear H0 HJ HS Hst
  have H0:=Hid.mk H0'
  clear H0'
  (repeat' simp -dsimp (disch:=omega) only [↓EA,EB,Nat.reduceEqDiff,Nat.reduceAdd,↓reduceIte,reduceCtorEq,eq_self, *])
  exact .inl H0.out
 ·rw [hb] at hi
  obtain ⟨hi2,hlen,hok⟩:=E8 hb
  have hm:=Sl hb
  have htk:=(hok _ (Aj hi2.1 hi2.2)).1
  simp only [Ap] at htk
  have hD:=htk.2.2.2.2.1
  have hJt:=htk.2.2.2.2.2.2.1
  have hmd:Ig l i=(atI l i).D - (atI l i).J:=rfl
  have z0:A0 0:=⟨by decide,by decide⟩
  have q0:=A2a hE hX hZ ht hl hs i z0
  obtain ⟨u0,u1⟩:=Sk hb z0
  have u2:=I4 hb z0 u0.1
  have ev:Uj l i=Oh l i ((Ig l i).toNat+1) (Ce l i 0):=by unfold Uj;rw [hb];rfl
  generalize hvals:(Uj l i).map uV=vals at *
  rw [ev] at hvals
  generalize hN0:Ce l i 0=N0 at *
  have Hvals:=Hid.mk hvals
  have Hmd:=Hid.mk hmd
  have Hb:=Hid.mk hb
  clear hok htk hvals ev hN0 hb
  generalize hmost:Ig l i=most at *
  (repeat' simp -dsimp (disch:=omega) only [↓EA,EB,Nat.reduceEqDiff,Nat.reduceAdd,↓reduceIte,reduceCtorEq,eq_self, *,hl.ixs,hl.ld,A5])
  rw [← Hmd.out]
  clear hmd
  refine WO.loop (α:=List Int × Int) (fun s fr h' => J s.1.length h'∧get fr 0 = .func (.yield L) #[] #[]∧get fr 1 = .pointer (some ⟨b1,0,none⟩)∧get fr 2 = .pointer (some ⟨b2,0,none⟩)∧get fr 4 = .int .u64 most∧get fr 5 = .int .u64 s.2∧A0 s.2∧s.2≤Ce l i s.2∧∃ k,Oh l i (most.toNat+1) N0=s.1++Oh l i k s.2∧(most+1 - s.2).toNat≤k) (fun s => (most+1 - s.2).toNat) ?_ ([],N0) ⟨H0.out,rfl,rfl,rfl,rfl,rfl,u0,u2,most.toNat+1,rfl,by simp only [];omega⟩
  rintro ⟨pre,w⟩ fr h' ⟨hj,g0,g1,g2,g4,g5,hu,hle,k,hk,hkb⟩
  dsimp only at hj hu hle hk hkb g5
  unfold P0
  have Hhead:=Ab8 l i k w
  obtain ⟨rest,hrest⟩:=Hhead
  have hv:vals[pre.length]? = some (uV w):=by
   rw [← Hvals.out,List.getElem?_map,hk,hrest,List.getElem?_append_right (Nat.le_refl _),Nat.sub_self];rfl
  have hst:=Hid.mk (Hst.out pre.length h' _ hv hj)
  have Hlen:=Hid.mk (HJ.out pre.length h' hj).1
  have Hk:=Hid.mk hk
  have Hj:=Hid.mk hj
  have hstep:∀ m,Oh l i (m+1) w=if most<w∨Ce l i w=w then [w] else w :: Oh l i m (Ce l i w):=fun m => by rw [← hmost];rfl
  have Hstep:=Hid.mk hstep
  have hend:Oh l i k w=[w]→vals.length=pre.length+1:=fun e => by rw [← Hvals.out,hk,e];simp
  have Hend:=Hid.mk hend
  have Hle:=Hid.mk hle
  have hsing:most<w∨Ce l i w=w→Oh l i k w=[w]:=fun e => by
   cases k with
   | zero => rfl
   | succ m => rw [hstep,if_pos e]
  have Hsing:=Hid.mk hsing
  have Hmost:=Hid.mk hmost
  clear hk hv hj hstep hend hrest H0 q0 u0 u1 u2 hi hb1 hb2 hle hsing Hst hmost z0
  unfold uV at hst
  (repeat' simp -dsimp (disch:=omega) only [↓EA,EB,Nat.reduceEqDiff,↓reduceIte,eq_self, *])
  refine WX.mono hst.out (fun b h => h) fun v h2 hx => ?_
  rcases hx with ⟨rfl,hj2⟩ | ⟨rfl,hs2⟩
  ·obtain ⟨hlen2,⟨c1,c2⟩,hl2,ht2⟩:=HJ.out (pre.length+1) h2 hj2
   have q:=A2a hE hX hZ ht2 hl2 hs i hu
   obtain ⟨n0,_⟩:=Sk Hb.out hu
   have n1:=I4 Hb.out hu Hle.out
   have Hj2:=Hid.mk hj2
   have Hn1:=Hid.mk n1
   have Hlen2:=Hid.mk hlen2
   have Hn0:=Hid.mk n0
   have Hu:=Hid.mk hu
   clear hj2 hst n1 hlen2 hl2 ht2
   generalize hN:Ce l i w=N at *
   have HN:=Hid.mk hN
   clear hN
   unfold A0 at hu n0
   have e2:vals.length=pre.length+1→J vals.length h2:=fun e => by rw [e];exact Hj2.out
   have E2:=Hid.mk e2
   clear e2
   (repeat' (first | (with_reducible refine A3 (fun _ => ?_) (fun _ => ?_)<;>try (exfalso;omega)) | simp -dsimp (disch:=omega) only [↓EA,EB,Nat.reduceEqDiff,↓reduceIte,reduceCtorEq,eq_self, *]))
   ·exact ⟨Hlen2.out,.inl (E2.out (Hend.out (Hsing.out (.inr (by assumption)))))⟩
   ·obtain ⟨k',rfl⟩:∃ k',k=k'+1:=⟨k - 1,by omega⟩
    have hlt:=Hle.out
    refine Next.mk (pre++[w],N) ⟨by simpa using Hj2.out,rfl,rfl,rfl,rfl,rfl,Hn0.out,Hn1.out,k',?_,by simp only [];omega⟩ (by simp only [];omega)
    rw [Hk.out,Hstep.out,if_neg (by omega)];simp
   ·exact ⟨Hlen2.out,.inl (E2.out (Hend.out (Hsing.out (.inl (by omega)))))⟩
  ·have Hs2:=Hid.mk hs2
   clear hs2 hst
   (repeat' simp -dsimp (disch:=omega) only [↓EA,EB,Nat.reduceEqDiff,↓reduceIte,reduceCtorEq,eq_self, *])
   first
    | exact ⟨HS.out _ Hs2.out,.inr Hs2.out⟩
    | exact .inr Hs2.out
def A6d (m:Nat) (vl:Value) (l:List Ab) (i:Int):Aa→Value→Prop:=Clo2 m F6 (fun h v => v=vl∧Rd 7 A5 h vl l) (fun _ v => v = .int .i64 i)
theorem A5y (hE:Aw E) {h:Aa} {vl:Value} {l:List Ab} (hl:Rd 7 A5 h vl l) (i:Int) :
  ∃ v ys,callW E (.func (.func Nc) #[] #[]) [vl,.int .i64 i] h=some (v,h++ys,[])∧A6d h.length vl l i (h++ys) v:=by
 refine Ku hE.Aud rfl (Clo2.movable (hl.old_movable A2j) (Gy rfl)) (by simp) ?_
 have hc:=hl.cv
 have ho:=hl.one
 simp only [Ak]
 (repeat' simp -dsimp (disch:=omega) only [↓EA,EB,Nat.reduceEqDiff,↓reduceIte,reduceCtorEq,Ac,eq_self, *])
 exact ⟨⟨_,rfl⟩,_,_,_,_,rfl,⟨Nat.le_refl _,by omega⟩,⟨by rw [Bm];rfl,by rw [Kr];rfl⟩,⟨rfl,hl.app _⟩,rfl⟩
def Apc (es:List Int) (k:Nat):Int:=if k=0 then 0 else es.getD (k - 1) 0
theorem Abv {es:List Int} {k:Nat} {w:Int} (h:es[k]? = some w):Apc es (k+1)=w:=by
 unfold Apc
 rw [if_neg (by omega),Nat.add_sub_cancel,List.getD_eq_getElem?_getD,h];rfl
theorem Abs {l:List Ab} {i:Int}:∀ (n:Nat) (w:Int),(∀ v,w≤v→v<w+n→v<Ce l i v)→Oz l i n w=none
 | 0,_,_ => rfl
 | n+1,w,h => by
  have h1:=h w (Int.le_refl _) (by omega)
  unfold Oz
  rw [if_neg (by omega)]
  exact Abs n (w+1) fun v a b => h v (by omega) (by omega)
theorem Abr {l:List Ab} {i w0:Int} (hw:Ce l i w0≤w0):∀ (n:Nat) (w:Int),w≤w0→w0<w+n→(∀ v,w≤v→v<w0→v<Ce l i v)→Oz l i n w=some w0
 | 0,w,h1,h2,_ => by omega
 | n+1,w,h1,h2,h => by
  unfold Oz
  by_cases e:w=w0
  ·subst e;rw [if_pos hw]
  ·have:=h w (Int.le_refl _) (by omega)
   rw [if_neg (by omega)]
   exact Abr hw n (w+1) (by omega) (by omega) fun v a b => h v (by omega) b
theorem Ab7 {l:List Ab} {i:Int} (hb:isP l i=true):∀ (n:Nat) (w:Int),(Ig l i+1 - w).toNat≤n→A0 w→1≤w→w≤Ce l i w→(∀ v,1≤v→v<w→v<Ce l i v) →
  ∃ z,(Oh l i n w).getLast? = some z∧A0 z∧1≤z∧(z≤Ig l i→Ce l i z=z)∧∀ v,1≤v→v<z→v<Ce l i v
 | 0,w,hn,hu,h1,hle,hv => ⟨w,rfl,hu,h1,fun h => by omega,hv⟩
 | n+1,w,hn,hu,h1,hle,hv => by
  unfold Oh
  by_cases h:Ig l i<w∨Ce l i w=w
  ·rw [if_pos h]
   exact ⟨w,rfl,hu,h1,fun hz => by rcases h with h | h;omega;exact h,hv⟩
  ·rw [if_neg h]
   have h2:=(Sk hb hu).1
   obtain ⟨z,e,hz⟩:=Ab7 hb n (Ce l i w) (by omega) h2 (by omega) (I4 hb hu hle) (fun v a b => by
    rcases Int.lt_or_le v w with hc | hc
    ·exact hv v a hc
    ·have:=I4 hb hu hc;omega)
   refine ⟨z,?_,hz⟩
   obtain ⟨r,er⟩:=Ab8 l i n (Ce l i w)
   rw [er] at e ⊢
   rw [List.getLast?_cons_cons];exact e
theorem Amd {l:List Ab} {i:Int} (hb:isP l i=true):∃ z,(Uj l i).getLast? = some z∧A0 z∧1≤z∧(z≤Ig l i→Lu l i=some z)∧(Ig l i<z→Lu l i=none):=by
 have z0:A0 0:=⟨by decide,by decide⟩
 obtain ⟨u0,u1⟩:=Sk hb z0
 have hm:=Sl hb
 obtain ⟨z,h1,h2,h3,h4,h5⟩:=Ab7 hb ((Ig l i).toNat+1) (Ce l i 0) (by omega) u0 u1 (I4 hb z0 u0.1) (fun v a b => by have:=I4 hb z0 (show 0≤v by omega);omega)
 have ev:Uj l i=Oh l i ((Ig l i).toNat+1) (Ce l i 0):=by unfold Uj;rw [hb];rfl
 rw [ev]
 refine ⟨z,h1,h2,h3,fun hz => ?_,fun hz => ?_⟩
 ·have:=h4 hz
  exact Abr (by omega) _ _ h3 (by omega) h5
 ·exact Abs _ _ fun v a b => h5 v a (by omega)
theorem Ar3 {es:List Int} {z:Int} (h:es.getLast? = some z):Apc es es.length=z:=by
 rw [List.getLast?_eq_getElem?] at h
 have hlt:=(GI.1 h).1
 obtain ⟨k,hk⟩:∃ k,es.length=k+1:=⟨es.length - 1,by omega⟩
 rw [hk] at h ⊢
 exact Abv h
theorem Amn (hE:Aw E) (hX:Id E) (hZ:Dy E G) {h:Aa} (ht:Tab G h) {vl:Value} {l:List Ab} (hl:Rd 7 A5 h vl l) (hs:∀ t∈l,t.name.size<1152921504606846976) (i:Int) :
  callW E (.func (.func Gt) #[] #[]) [vl,.int .i64 i] h=some (.tuple #[.int .i64 (boundP l i).1,.int .i64 (boundP l i).2],h,[]):=by
 have hi:=A2g hE hl hs i
 refine Am hE.Ari rfl (by simp) ?_
 simp only [Ak]
 unfold boundP
 cases hb:isP l i
 ·rw [hb] at hi
  rw [if_neg (by decide)]
  (repeat' simp -dsimp (disch:=omega) only [↓EA,EB,Nat.reduceEqDiff,↓reduceIte,reduceCtorEq,eq_self, *])
 ·rw [hb] at hi
  rw [if_pos rfl]
  obtain ⟨hi2,hlen,hok⟩:=E8 hb
  have hm:=Sl hb
  have htk:=(hok _ (Aj hi2.1 hi2.2)).1
  simp only [Ap] at htk
  have hD:=htk.2.2.2.2.1
  have hJt:=htk.2.2.2.2.2.2.1
  have hmd:Ig l i=(atI l i).D - (atI l i).J:=rfl
  obtain ⟨z,z1,z2,z3,z4,z5⟩:=Amd hb
  have Hz:=Hid.mk (Ar3 z1)
  have Z4:=Hid.mk z4
  have Z5:=Hid.mk z5
  clear hok htk z1 z4 z5
  (repeat' simp -dsimp (disch:=omega) only [↓EA,EB,Nat.reduceEqDiff,↓reduceIte,reduceCtorEq,Ac,eq_self, *])
  refine F9 (A5y hE (hl.app _) i) fun v ys hr hpre => ?_
  obtain ⟨b1,b2,u1,u2,rfl,⟨hg1,hg2⟩,⟨hb1,hb2⟩,⟨rfl,_⟩,rfl⟩:=hr
  (repeat' simp -dsimp (disch:=omega) only [↓EA,EB,Nat.reduceEqDiff,↓reduceIte,reduceCtorEq,eq_self, *])
  simp only [List.append_assoc,List.cons_append,List.nil_append,LA,List.length_cons,List.length_nil] at hb1 hb2 hg1 hg2
  have hl1:=(GI.1 hb1).1
  have hl2:=(GI.1 hb2).1
  have hpH:Pre h (h++LObj.cells [Value.int IntKind.u64 0] false :: ys):=Pre.app h _
  refine Wt hE.keep rfl (Asg hE hX hZ hs i b1 b2) (c:=h.length) (by simp) (by omega) (fun k => .int .u64 (Apc (Uj l i) k)) (fun _ => rfl) (by rw [Bm];rfl) rfl (fun hh e1 e2 => ⟨⟨by rw [e2 b1 hl1 (by omega)];exact hb1,by rw [e2 b2 hl2 (by omega)];exact hb2⟩,?_⟩) ?_ ?_
  ·have hp2:Pre h hh:=fun b o hb => by have hlt:=(GI.1 hb).1;rw [e2 b (by simp;omega) (by omega)];exact hpH b o hb
   exact ⟨hl.pre hp2,ht.pre hp2⟩
  ·intro k a ha
   rw [List.getElem?_map] at ha
   obtain ⟨w,hw,rfl⟩:=OM.1 ha
   have hsucc:=Hid.mk (Abv hw)
   clear ha hw
   refine ⟨_,rfl,fun hh g1 g2 g3 => ?_⟩
   unfold S8
   (repeat' simp -dsimp (disch:=omega) only [↓EA,EB,Nat.reduceEqDiff,Nat.reduceAdd,↓reduceIte,reduceCtorEq,eq_self, *])
   refine ⟨[],(List.append_nil _).symm,fun hh2 k1 k2 k3 => ?_⟩
   unfold S7
   (repeat' simp -dsimp (disch:=omega) only [↓EA,EB,Nat.reduceEqDiff,↓reduceIte,eq_self, *,true_or])
   exact ⟨[],by rw [List.append_nil,hsucc.out]⟩
  ·rw [List.length_map,Hz.out]
   have hl2:=hl.app (LObj.cells [Value.int IntKind.u64 z] false :: ys)
   clear hb hpre hb1 hb2
   unfold A0 at z2
   (repeat' (first | (with_reducible refine A3 (fun _ => ?_) (fun _ => ?_)<;>try (exfalso;omega)) | simp -dsimp (disch:=omega) only [↓EA,EB,Nat.reduceEqDiff,Nat.reduceAdd,↓reduceIte,reduceCtorEq,Ac,eq_self, *,hl2.ixs,hl2.lda,A5]))
   ·rw [Z5.out (by omega)]
   ·rw [Z4.out (by omega)]
end Go.L.Try
namespace Go.L.Try
open Go Go.L
variable {E:Env} {G:Nat}
theorem Yx {l:List Ab} {i:Int}:∀ {n:Nat} {w:Int},Oz l i n w=none→∀ v,w≤v→v<w+n→v<Ce l i v
 | 0,w,_,v,h1,h2 => by omega
 | n+1,w,h,v,h1,h2 => by
  unfold Oz at h
  split at h
  ·cases h
  ·rename_i hn
   by_cases e:v=w
   ·subst e;omega
   ·exact Yx h v (by omega) (by omega)
theorem Og {l:List Ab} {i z:Int}:∀ {n:Nat} {w:Int},Oz l i n w=some z→(w≤z∧z<w+n)∧Ce l i z≤z∧∀ v,w≤v→v<z→v<Ce l i v
 | 0,w,h => by cases h
 | n+1,w,h => by
  unfold Oz at h
  split at h
  ·rename_i hn
   cases h
   exact ⟨by omega,hn,fun v h1 h2 => by omega⟩
  ·rename_i hn
   obtain ⟨h1,h2,h3⟩:=Og h
   refine ⟨by omega,h2,fun v a b => ?_⟩
   by_cases e:v=w
   ·subst e;omega
   ·exact h3 v (by omega) b
theorem Aja {l:List Ab} {i z:Int} (hb:isP l i=true) (h:Lu l i=some z):(1≤z∧z≤Ig l i)∧Ce l i z=z∧∀ v,1≤v→v<z→v<Ce l i v:=by
 obtain ⟨h1,h2,h3⟩:=Og h
 have hm:=Sl hb
 refine ⟨by omega,?_,h3⟩
 have hu:A0 z:=by unfold A0;omega
 obtain ⟨n1,n2⟩:=Sk hb hu
 rcases Int.lt_or_le (Ce l i z) z with hlt | hge
 ·have h4:=h3 _ n2 hlt
  have h5:=I4 hb n1 (show Ce l i z≤z by omega)
  omega
 ·omega
end Go.L.Try
set_option maxHeartbeats 1000000
namespace Go.L.Try
open Go Go.L
def hN (l:List Ab) (i w:Int):Nat→Int
 | 0 => 0
 | k+1 => if (atI l (k:Int)).P<(atI l i).P then hN l i w k+((w+(atI l (k:Int)).J+(atI l (k:Int)).T - 1) / (atI l (k:Int)).T) * (atI l (k:Int)).C else hN l i w k
structure Mid (t:Ab):Prop where
 C:1≤t.C∧t.C≤134217728
 T:1≤t.T∧t.T≤1073741824
 J:0≤t.J∧t.J≤536870912
theorem Ay7 {t:Ab} (m:Mid t) {w:Int} (hw:0≤w∧w≤1073741824):oftenP t w=(w+t.J+t.T - 1) / t.T∧0≤((w+t.J+t.T - 1) / t.T) * t.C∧((w+t.J+t.T - 1) / t.T) * t.C≤576460752303423488:=by
 obtain ⟨hC,hT,hJ⟩:=m
 have e:oftenP t w=(w+t.J+t.T - 1) / t.T:=by
  unfold oftenP sat
  rw [if_pos (by omega)]
 have h1:0≤(w+t.J+t.T - 1) / t.T:=Int.ediv_nonneg (by omega) (by omega)
 have h2:(w+t.J+t.T - 1) / t.T≤2684354560:=Int.le_trans (Int.ediv_le_self _ (by omega)) (by omega)
 refine ⟨e,Int.mul_nonneg h1 (by omega),?_⟩
 exact Int.le_trans (Int.mul_le_mul h2 hC.2 (by omega) (by omega)) (by decide)
theorem A18 {l:List Ab} (hl:∀ t∈l,Mid t) (hn:l.length≤6) {i w:Int} (hw:0≤w∧w≤1073741824):∀ n:Nat,n≤l.length→Ee l i w n=hN l i w n∧0≤hN l i w n∧hN l i w n≤n * 576460752303423488
 | 0,_ => by simp [Ee,hN]
 | n+1,h => by
  obtain ⟨e,h1,h2⟩:=A18 hl hn (i:=i) hw n (by omega)
  obtain ⟨e3,h4,h5⟩:=Ay7 (hl _ (Aj (l:=l) (i:=(n:Int)) (by omega) (by omega))) hw
  unfold Ee hN
  split
  ·rw [e,e3]
   generalize ((w+(atI l (n:Int)).J+(atI l (n:Int)).T - 1) / (atI l (n:Int)).T) * (atI l (n:Int)).C=x at *
   have e5:sat x=x:=by unfold sat;rw [if_pos (by omega)]
   rw [e5]
   have e6:sat (hN l i w n+x)=hN l i w n+x:=by unfold sat;rw [if_pos (by omega)]
   rw [e6]
   exact ⟨rfl,by omega,by omega⟩
  ·exact ⟨e,h1,by omega⟩
def sc (k:Int) (t:Ab):Ab:=⟨t.name,t.C * k,t.T * k,t.D * k,t.J * k,1,t.P⟩
structure Sml (t:Ab):Prop where
 ok:Cr t
 C:1≤t.C∧t.C≤4
 D:t.C≤t.D∧t.D≤14
 J:0≤t.J∧t.C+t.J≤t.D
 T:t.D≤t.T∧t.T≤20
 Q:t.Q=1
theorem Xe {l:List Ab} (hv:B5 l) {i:Int} (h0:0≤i) (h1:i<l.length):isP l i=true:=by
 unfold B5 at hv;unfold isP;exact decide_eq_true ⟨hv,h0,h1⟩
end Go.L.Try
