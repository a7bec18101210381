/- PLACES THAT ARE SO: task.those, Higher, Lower. -/
import Derived.Test.YtnanlkamcgihlaaDoorPj
import Derived.Test.YtnanlkamcgihlaaDoorPg
set_option linter.unusedVariables false
set_option linter.unusedSimpArgs false
set_option maxRecDepth 100000
set_option maxHeartbeats 2000000
namespace Go.L.Try
open Go Go.L
variable {E:Env} {G:Nat}
def thoseW (p:Ac → Bool) (l:List Ac):Nat → List Nat
 | 0 => List.replicate 16 0
 | k + 1 => if p (atI l (k:Int)) = true then withM (thoseW p l k) (k:Int) else thoseW p l k
theorem Fz (p:Ac → Bool) (l:List Ac):∀ k,okM (thoseW p l k)
 | 0 => At3
 | k + 1 => by
  unfold thoseW
  split
  ·exact Yy (Fz p l k) _
  ·exact Fz p l k
theorem Y1 (p:Ac → Bool) (l:List Ac):∀ (k:Nat),k ≤ 1024 → ∀ m,Ti (thoseW p l k) m = (decide (m < k) && p (atI l (m:Int)))
 | 0,_,m => by rw [thoseW,Ap5];simp
 | k + 1,hk,m => by
  have d:=Y1 p l k (by omega) m
  unfold thoseW
  by_cases a:p (atI l (k:Int)) = true
  ·rw [if_pos a,Apc (Fz p l k) (by omega),d]
   by_cases h:m = k
   ·subst h;simp [a]
   ·have e:decide (m < k + 1) = decide (m < k):=decide_eq_decide.2 (by omega)
    simp [h,e]
  ·rw [if_neg a,d]
   by_cases h:m = k
   ·subst h
    have c:p (atI l (m:Int)) = false:=by simpa using a
    simp [c]
   ·have e:decide (m < k + 1) = decide (m < k):=decide_eq_decide.2 (by omega)
    rw [e]
theorem Acg (hE:As E) {h:Aa} {vl vf:Value} {l:List Ac} (hl:Rd 7 Ar h vl l) {f:FuncId} {ca cb:Array Value} (hf:vf = .func (.func f) ca cb) {i:Int} {p:Ac → Bool} (hi:0 ≤ i ∧ i < l.length) (hn:l.length ≤ 1024)
  (hp:∀ (h':Aa) (t:Ac),Pre h h' → callW E vf [.agg (Ar t).toArray] h' = some (.bool (p t),h',[])) :
  callW E (.func (.func D9) #[] #[]) [vl,.int .i64 i,vf] h = some (.agg (Fx (thoseW p l l.length)).toArray,h,[]):=by
 refine Ak hE.Ajm rfl (by simp) ?_
 simp only [Ai]
 have few:=hl.few
 have Hf:=Hid.mk hf
 clear hf
 have hz:([.int .u64 0,.int .u64 0,.int .u64 0,.int .u64 0,.int .u64 0,.int .u64 0,.int .u64 0,.int .u64 0,.int .u64 0,.int .u64 0,.int .u64 0,.int .u64 0,.int .u64 0,.int .u64 0,.int .u64 0,.int .u64 0]:List Value) = z16:=rfl
 have Hz:=Hid.mk hz
 clear hz
 (repeat' (first | (with_reducible refine A2 (fun _ => ?_) (fun _ => ?_) <;> try (exfalso;omega)) | (with_reducible refine A3 (fun _ => ?_) (fun _ => ?_) <;> try (exfalso;omega)) | simp -dsimp (disch:=omega) only [↓EA,EB,Nat.reduceEqDiff,Nat.reduceAdd,↓reduceIte,reduceCtorEq,Ab,eq_self, *,hl.len]))
 rw [Hz.out]
 refine WO.loop (fun (n:Nat) fr h' => Pre h h' ∧ h.length + 2 ≤ h'.length ∧ n ≤ l.length ∧ get fr 2 = vf ∧ get fr 6 = .pointer (some ⟨h.length,0,none⟩) ∧ get fr 7 = .pointer (some ⟨h.length + 1,0,none⟩) ∧ get fr 19 = vl ∧ get fr 20 = .int .i64 l.length ∧ get fr 21 = .int .i64 n ∧ h'[h.length]? = some (.cells z16 false) ∧ h'[h.length + 1]? = some (.cells (Fx (thoseW p l n)) false)) (fun n => l.length - n) ?_ 0 ⟨Pre.app h _,by simp,Nat.zero_le _,rfl,rfl,rfl,rfl,rfl,rfl,by rw [Bh];rfl,by rw [Jr];rfl⟩
 rintro n fr h' ⟨a,a2,a9,g2,g6,g7,ac,a8,a7,b1,b2⟩
 unfold Qs
 have m:=Fz p l n
 have z:=E9 m
 have ab:=Gu (thoseW p l n)
 have a6:=I8 m
 have g:=fun w (hw:okM w) => Az2 (d:=z16) rfl hw
 have a1:z16.length = 16:=rfl
 rcases Nat.lt_or_ge n l.length with hlt | hge
 ·have v:=hl.pre a
  have q:=fun (x:Aa) => hp (h' ++ x) (atI l (n:Int)) (a.app' x)
  have c:∀ (x:Aa) (o:LObj),Pre h ((h' ++ x).set (h.length + 1) o):=fun x o => (a.app' x).set (by omega) o
  have w1:=fun x => A1i hE (h' ++ x) m (n:Int)
  have j:=Yy m (n:Int)
  have a3:=E9 j
  have a4:=Gu (withM (thoseW p l n) (n:Int))
  have y:=Az2 z j
  have u:=Hid.mk (show thoseW p l (n + 1) = if p (atI l (n:Int)) = true then withM (thoseW p l n) (n:Int) else thoseW p l n from rfl)
  have r:=Hid.mk c
  have a5:=Hid.mk a
  have s:∀ x,(h' ++ x)[h.length]? = some (.cells z16 false):=fun x => by rw [GL (by omega)];exact b1
  have a0:∀ x,(h' ++ x)[h.length + 1]? = some (.cells (Fx (thoseW p l n)) false):=fun x => by rw [GL (by omega)];exact b2
  clear m j g c
  generalize withM (thoseW p l n) (n:Int) = w2 at *
  generalize thoseW p l n = w1 at *
  simp only [Ar] at q
  (repeat' (first | (with_reducible refine A3 (fun _ => ?_) (fun _ => ?_) <;> try (exfalso;omega)) | refine A4 (fun _ => ?_) (fun _ => ?_) | simp -dsimp (disch:=omega) only [↓EA,EB,Nat.reduceEqDiff,Nat.reduceAdd,↓reduceIte,Ab,eq_self, *,v.ixs,v.lda,Ar,a.le]))
  ·refine Next.mk (n + 1) ⟨r.out _ _,by simp;omega,by omega,rfl,rfl,rfl,rfl,rfl,rfl,?_,?_⟩ (by omega)
   ·rw [An (by omega)];exact s _
   ·rw [Bq (by simp;omega),u.out,if_pos (by assumption)]
  ·refine Next.mk (n + 1) ⟨a.app' _,by simp;omega,by omega,rfl,rfl,rfl,rfl,rfl,rfl,s _,?_⟩ (by omega)
   rw [a0,u.out,if_neg (Bool.eq_false_iff.1 (by assumption))]
 ·have e:n = l.length:=by omega
  subst e
  have aa:=Vv (thoseW p l l.length) h.length
  have y:=g _ m
  (repeat' (first | (with_reducible refine A3 (fun _ => ?_) (fun _ => ?_) <;> try (exfalso;omega)) | simp -dsimp (disch:=omega) only [↓EA,EB,Nat.reduceEqDiff,↓reduceIte,eq_self, *]))
def Bu (l:List Ac) (i:Int):Ac → Bool:=fun t => decide (t.P < (atI l i).P)
def I2 (l:List Ac) (i:Int):Ac → Bool:=fun t => decide ((atI l i).P < t.P)
theorem Aqc (hE:As E) {h:Aa} {vl:Value} {l:List Ac} (hl:Rd 7 Ar h vl l) {i:Int} (hi:0 ≤ i ∧ i < l.length) {b c:Nat} (hb:h[b]? = some (.cells [vl] false)) (hc:h[c]? = some (.cells [.int .i64 i] false)) (t:Ac) :
  callW E (.func (.func Cr) #[] #[.pointer (some ⟨b,0,none⟩),.pointer (some ⟨c,0,none⟩)]) [.agg (Ar t).toArray] h = some (.bool (Bu l i t),h,[]):=by
 rw [Td hE.Rf]
 refine Ak hE.Rf rfl (by simp) ?_
 simp only [List.nil_append,List.cons_append,Ai]
 have d:∀ x,(h ++ x)[b]? = some (.cells [vl] false):=fun x => by rw [GL (GI.1 hb).1];exact hb
 have a:∀ x,(h ++ x)[c]? = some (.cells [.int .i64 i] false):=fun x => by rw [GL (GI.1 hc).1];exact hc
 unfold Bu
 (repeat' simp -dsimp (disch:=omega) only [↓EA,EB,Nat.reduceEqDiff,Nat.reduceAdd,↓reduceIte,reduceCtorEq,Ab,eq_self, *,hl.ixs,hl.ldx,Ar])
theorem Anw (hE:As E) {h:Aa} {vl:Value} {l:List Ac} (hl:Rd 7 Ar h vl l) {i:Int} (hi:0 ≤ i ∧ i < l.length) (hn:l.length ≤ 1024) :
  callW E (.func (.func F4) #[] #[]) [vl,.int .i64 i] h = some (.agg (Fx (thoseW (Bu l i) l l.length)).toArray,h,[]):=by
 refine Ak hE.Afg rfl (by simp) ?_
 have d:=hl.cv
 have o:=hl.one
 have q:=fun (x:Aa) (hb:(h ++ x)[h.length]? = some (.cells [vl] false)) (d:(h ++ x)[h.length + 1]? = some (.cells [.int .i64 i] false)) => Acg hE (hl.app x) (vf:=.func (.func Cr) #[] #[.pointer (some ⟨h.length,0,none⟩),.pointer (some ⟨h.length + 1,0,none⟩)]) rfl (i:=i) (p:=Bu l i) hi hn (fun h' t c => Aqc hE ((hl.app x).pre c) hi (c _ _ hb) (c _ _ d) t)
 have n:∀ y,callW E (.func (.func D9) #[] #[]) [vl,.int .i64 i,.func (.func Cr) #[] #[.pointer (some ⟨h.length,0,none⟩),.pointer (some ⟨h.length + 1,0,none⟩)]] (h ++ (LObj.cells [vl] false :: LObj.cells [.int .i64 i] false :: y)) = some (.agg (Fx (thoseW (Bu l i) l l.length)).toArray,h ++ (LObj.cells [vl] false :: LObj.cells [.int .i64 i] false :: y),[]):=fun y => q _ (by rw [Bh];rfl) (by rw [Jr];rfl)
 clear q
 have a:=Fz (Bu l i) l l.length
 generalize thoseW (Bu l i) l l.length = w at *
 have g:=E9 a
 have e:=Gu w
 have m:=I8 a
 have j:=Alm a
 have f:=Vv w h.length
 simp only [Ai]
 (repeat' simp -dsimp (disch:=omega) only [↓EA,EB,Nat.reduceEqDiff,Nat.reduceAdd,↓reduceIte,reduceCtorEq,Ab,eq_self, *])
theorem Aug (hE:As E) {h:Aa} {vl:Value} {l:List Ac} (hl:Rd 7 Ar h vl l) {i:Int} (hi:0 ≤ i ∧ i < l.length) {b c:Nat} (hb:h[b]? = some (.cells [vl] false)) (hc:h[c]? = some (.cells [.int .i64 i] false)) (t:Ac) :
  callW E (.func (.func Da) #[] #[.pointer (some ⟨b,0,none⟩),.pointer (some ⟨c,0,none⟩)]) [.agg (Ar t).toArray] h = some (.bool (I2 l i t),h,[]):=by
 rw [Td hE.To]
 refine Ak hE.To rfl (by simp) ?_
 simp only [List.nil_append,List.cons_append,Ai]
 have d:∀ x,(h ++ x)[b]? = some (.cells [vl] false):=fun x => by rw [GL (GI.1 hb).1];exact hb
 have a:∀ x,(h ++ x)[c]? = some (.cells [.int .i64 i] false):=fun x => by rw [GL (GI.1 hc).1];exact hc
 unfold I2
 (repeat' simp -dsimp (disch:=omega) only [↓EA,EB,Nat.reduceEqDiff,Nat.reduceAdd,↓reduceIte,reduceCtorEq,Ab,eq_self, *,hl.ixs,hl.ldx,Ar])
theorem A0j (hE:As E) {h:Aa} {vl:Value} {l:List Ac} (hl:Rd 7 Ar h vl l) {i:Int} (hi:0 ≤ i ∧ i < l.length) (hn:l.length ≤ 1024) :
  callW E (.func (.func Jj) #[] #[]) [vl,.int .i64 i] h = some (.agg (Fx (thoseW (I2 l i) l l.length)).toArray,h,[]):=by
 refine Ak hE.Ajo rfl (by simp) ?_
 have d:=hl.cv
 have o:=hl.one
 have q:=fun (x:Aa) (hb:(h ++ x)[h.length]? = some (.cells [vl] false)) (d:(h ++ x)[h.length + 1]? = some (.cells [.int .i64 i] false)) => Acg hE (hl.app x) (vf:=.func (.func Da) #[] #[.pointer (some ⟨h.length,0,none⟩),.pointer (some ⟨h.length + 1,0,none⟩)]) rfl (i:=i) (p:=I2 l i) hi hn (fun h' t c => Aug hE ((hl.app x).pre c) hi (c _ _ hb) (c _ _ d) t)
 have n:∀ y,callW E (.func (.func D9) #[] #[]) [vl,.int .i64 i,.func (.func Da) #[] #[.pointer (some ⟨h.length,0,none⟩),.pointer (some ⟨h.length + 1,0,none⟩)]] (h ++ (LObj.cells [vl] false :: LObj.cells [.int .i64 i] false :: y)) = some (.agg (Fx (thoseW (I2 l i) l l.length)).toArray,h ++ (LObj.cells [vl] false :: LObj.cells [.int .i64 i] false :: y),[]):=fun y => q _ (by rw [Bh];rfl) (by rw [Jr];rfl)
 clear q
 have a:=Fz (I2 l i) l l.length
 generalize thoseW (I2 l i) l l.length = w at *
 have g:=E9 a
 have e:=Gu w
 have m:=I8 a
 have j:=Alm a
 have f:=Vv w h.length
 simp only [Ai]
 (repeat' simp -dsimp (disch:=omega) only [↓EA,EB,Nat.reduceEqDiff,Nat.reduceAdd,↓reduceIte,reduceCtorEq,Ab,eq_self, *])
end Go.L.Try
namespace Go.L.Try
open Go Go.L
variable {E:Env} {G:Nat}
theorem Aee (n:Nat):List.range' 0 n = List.range n:=List.range_eq_range'.symm
theorem Ain {w:List Nat} {n:Nat} {q:Nat → Bool} (hn:n ≤ 1024) (hm:∀ m,Ti w m = (decide (m < n) && q m)):Aj w 0 = (List.range n).filter q:=by
 unfold Aj
 have e:1024 - 0 = n + (1024 - n):=by omega
 rw [e,List.range'_append_1.symm,List.filter_append,Aee]
 have c:(List.range n).filter (Ti w) = (List.range n).filter q:=by
  apply List.filter_congr
  intro m a
  rw [hm,decide_eq_true (List.mem_range.1 a),Bool.true_and]
 have h2:(List.range' (0 + n) (1024 - n)).filter (Ti w) = []:=by
  rw [List.filter_eq_nil_iff]
  intro m a
  have:=(List.mem_range'_1.1 a).1
  rw [hm,decide_eq_false (by omega),Bool.false_and];decide
 rw [c,h2,List.append_nil]
theorem P0 {α : Type} {f:α → Nat → α} {a0:α} {q:Nat → Bool} (N:Nat → α) (h0:N 0 = a0) (hN:∀ k,N (k + 1) = if q k = true then f (N k) k else N k):∀ n,((List.range n).filter q).foldl f a0 = N n
 | 0 => h0.symm
 | n + 1 => by
  rw [List.range_succ,List.filter_append,List.foldl_append,P0 N h0 hN n,hN]
  by_cases h:q n = true
  ·rw [if_pos h];simp [h]
  ·rw [if_neg h];simp [h]
def accL {α : Type} (f:α → Nat → α) (a0:α) (es:List Nat) (k:Nat):α:=(es.take k).foldl f a0
theorem Tg {α : Type} {f:α → Nat → α} {a0:α} {es:List Nat} {k m:Nat} (h:es[k]? = some m):accL f a0 es (k + 1) = f (accL f a0 es k) m:=by
 unfold accL
 have a:=(GI.1 h).1
 have e:es.take (k + 1) = es.take k ++ [m]:=by
  rw [List.take_add_one,h];rfl
 rw [e,List.foldl_append];rfl
theorem Abi {α : Type} (f:α → Nat → α) (a0:α) (es:List Nat):accL f a0 es es.length = es.foldl f a0:=by unfold accL;rw [List.take_length]
theorem Wa {α : Type} {f:α → Nat → α} {a0:α} {es:List Nat} (I:α → Prop) (h0:I a0) (hs:∀ a m,m ∈ es → I a → I (f a m)):∀ k,I (accL f a0 es k)
 | 0 => h0
 | k + 1 => by
  cases h:es[k]? with
  | some m => rw [Tg h];exact hs _ _ (List.mem_of_getElem? h) (Wa I h0 hs k)
  | none =>
   have e:accL f a0 es (k + 1) = accL f a0 es k:=by
    unfold accL
    rw [List.getElem?_eq_none_iff] at h
    rw [List.take_of_length_le (by omega),List.take_of_length_le h]
   rw [e];exact Wa I h0 hs k
def placesQ (q:Ac → Bool) (l:List Ac):List Nat:=(List.range l.length).filter fun m => q (atI l (m:Int))
theorem P5 (q:Ac → Bool) {l:List Ac} (hn:l.length ≤ 1024):Aj (thoseW q l l.length) 0 = placesQ q l :=
 Ain hn fun m => Y1 q l l.length hn m
theorem Ud {q:Ac → Bool} {l:List Ac} {m:Nat} (h:m ∈ placesQ q l):m < l.length:=List.mem_range.1 (List.mem_filter.1 h).1
end Go.L.Try
namespace Go.L.Try
open Go Go.L
variable {E:Env} {G:Nat}
end Go.L.Try
set_option maxHeartbeats 1000000
namespace Go.L.Try
open Go Go.L
def mostJ (l:List Ac) (i:Int):Nat → Int
 | 0 => (atI l i).J
 | n + 1 => if (atI l (n:Int)).P < (atI l i).P then max (mostJ l i n) (atI l (n:Int)).J else mostJ l i n
def startP (l:List Ac) (i:Int):Int:=1 + mostJ l i l.length
def blkN (l:List Ac) (i:Int):Nat → Int × Bool
 | 0 => (0,false)
 | n + 1 => if (atI l i).P < (atI l (n:Int)).P ∧ 1 < (atI l (n:Int)).Q ∧ ((blkN l i n).2 = false ∨ (atI l (blkN l i n).1).Q < (atI l (n:Int)).Q) then ((n:Int),true) else blkN l i n
def Id (s:Int) (h:Nat) (t:Ac) (N:Nat):List Job:=(List.range N).map fun (n:Nat) => ⟨h,s - t.J + n * t.T,if n = 0 then s else s - t.J + n * t.T,t.C,[]⟩
def Jq (l:List Ac) (i:Int) (h:Nat):Nat:=J5 (atI l (h:Int)).T ((atI l i).D - (atI l i).J + (atI l (h:Int)).J)
def upC (l:List Ac) (i:Int):Nat → List Job
 | 0 => []
 | n + 1 => if (atI l (n:Int)).P < (atI l i).P then upC l i n ++ Id (startP l i) n (atI l (n:Int)) (Jq l i n) else upC l i n
def A9 (l:List Ac) (i:Int):List Job:=if (blkN l i l.length).2 = true then [⟨(blkN l i l.length).1,startP l i - 1,startP l i - 1,(atI l (blkN l i l.length).1).Q,[(atI l (blkN l i l.length).1).Q]⟩] else []
def Cf (l:List Ac) (i:Int):Job:=⟨i,startP l i - (atI l i).J,startP l i,(atI l i).C,[]⟩
def Bg (l:List Ac) (i:Int):List Job:=A9 l i ++ Cf l i :: upC l i l.length
variable {l:List Ac} {i:Int}
theorem Fv (hok:∀ t ∈ l,Gm t) (hi:0 ≤ i ∧ i < l.length):∀ n,n ≤ l.length → ((atI l i).J ≤ mostJ l i n ∧ mostJ l i n ≤ 2147483647) ∧ ∀ h:Nat,h < n → (atI l (h:Int)).P < (atI l i).P → (atI l (h:Int)).J ≤ mostJ l i n
 | 0,_ => by
  have:=(hok _ (Al hi.1 hi.2)).1
  simp only [Am] at this
  exact ⟨⟨Int.le_refl _,by show (atI l i).J ≤ _;omega⟩,fun h c => absurd c (Nat.not_lt_zero _)⟩
 | n + 1,hn => by
  obtain ⟨f,h2⟩:=Fv hok hi n (by omega)
  have:=(hok _ (Al (l:=l) (i:=(n:Int)) (by omega) (by omega))).1
  simp only [Am] at this
  unfold mostJ
  split
  ·refine ⟨by omega,fun h c a => ?_⟩
   by_cases e:h = n
   ·subst e;omega
   ·have:=h2 h (by omega) a;omega
  ·refine ⟨f,fun h c a => ?_⟩
   by_cases e:h = n
   ·subst e;rename_i d;exact absurd a d
   ·exact h2 h (by omega) a
theorem V6 (hok:∀ t ∈ l,Gm t):∀ n,n ≤ l.length → ((blkN l i n).2 = false → True) ∧ ((blkN l i n).2 = true → (0 ≤ (blkN l i n).1 ∧ (blkN l i n).1 < n) ∧ (atI l i).P < (atI l (blkN l i n).1).P ∧ 1 < (atI l (blkN l i n).1).Q ∧ True)
 | 0,_ => ⟨fun _ => trivial,fun h => by cases h⟩
 | n + 1,hn => by
  obtain ⟨e,h2⟩:=V6 hok n (by omega)
  unfold blkN
  by_cases a:(atI l i).P < (atI l (n:Int)).P ∧ 1 < (atI l (n:Int)).Q ∧ ((blkN l i n).2 = false ∨ (atI l (blkN l i n).1).Q < (atI l (n:Int)).Q)
  ·rw [if_pos a]
   exact ⟨fun h => trivial,fun _ => ⟨⟨by dsimp only;omega,by dsimp only;omega⟩,a.1,a.2.1,trivial⟩⟩
  ·rw [if_neg a]
   refine ⟨fun h => trivial,fun h => ?_⟩
   obtain ⟨f,d,c,g⟩:=h2 h
   exact ⟨by omega,d,c,trivial⟩
theorem Pj {j:Job}:∀ {n:Nat},j ∈ upC l i n → ∃ h k:Nat,h < n ∧ (atI l (h:Int)).P < (atI l i).P ∧ k < Jq l i h ∧ j = ⟨h,startP l i - (atI l (h:Int)).J + k * (atI l (h:Int)).T,if k = 0 then startP l i else startP l i - (atI l (h:Int)).J + k * (atI l (h:Int)).T,(atI l (h:Int)).C,[]⟩
 | 0,h => by simp [upC] at h
 | n + 1,h => by
  unfold upC at h
  split at h
  ·rename_i e
   rcases List.mem_append.1 h with h | h
   ·obtain ⟨a,b,c,d⟩:=Pj h
    exact ⟨a,b,by omega,d⟩
   ·obtain ⟨k,f,rfl⟩:=List.mem_map.1 h
    exact ⟨n,k,by omega,e,List.mem_range.1 f,rfl⟩
  ·obtain ⟨a,b,c,d⟩:=Pj h
   exact ⟨a,b,by omega,d⟩
def Ae6 (l:List Ac) (x y:Job):Prop:=x.task = y.task → x.arrive + (atI l y.task).T ≤ y.arrive
theorem Aj5 {s:Int} {h:Nat} (N:Nat) (hT:0 ≤ (atI l (h:Int)).T):(Id s h (atI l (h:Int)) N).Pairwise (Ae6 l):=by
 unfold Id
 rw [List.pairwise_map]
 refine List.Pairwise.imp ?_ (List.pairwise_lt_range (n:=N))
 intro a b c _
 dsimp only
 have:((a:Int) + 1) * (atI l (h:Int)).T ≤ (b:Int) * (atI l (h:Int)).T:=Int.mul_le_mul_of_nonneg_right (by omega) hT
 rw [Int.add_mul,Int.one_mul] at this
 omega
theorem Acf (hok:∀ t ∈ l,Gm t):∀ n,n ≤ l.length → (upC l i n).Pairwise (Ae6 l)
 | 0,_ => List.Pairwise.nil
 | n + 1,hn => by
  have d:=Acf hok n (by omega)
  have f:=(hok _ (Al (l:=l) (i:=(n:Int)) (by omega) (by omega))).1
  simp only [Am] at f
  unfold upC
  split
  ·refine List.pairwise_append.2 ⟨d,Aj5 _ (by omega),fun x g y j e => ?_⟩
   obtain ⟨a,b,c,_,_,rfl⟩:=Pj g
   obtain ⟨k,m,rfl⟩:=List.mem_map.1 j
   have:(a:Int) = (n:Int):=e
   omega
  ·exact d
theorem Axd {r:Job → Job → Prop} {jobs:List Job} (h:jobs.Pairwise r) {a b:Nat} (hab:a < b) (hb:b < jobs.length):r (jb jobs a) (jb jobs b):=by
 have c:jb jobs a = jobs[a]:=B8 (by omega)
 have d:jb jobs b = jobs[b]:=B8 hb
 rw [c,d];exact List.pairwise_iff_getElem.1 h a b (by omega) hb hab
theorem Ac5 (hok:∀ t ∈ l,Gm t) (hi:0 ≤ i ∧ i < l.length) {h:Nat} (hh:h < l.length):(1 ≤ (atI l (h:Int)).T ∧ 0 ≤ (atI l (h:Int)).J ∧ (atI l (h:Int)).J + 1 ≤ (atI l (h:Int)).T) ∧ ∀ k:Nat,k < Jq l i h ↔ (k:Int) * (atI l (h:Int)).T < (atI l i).D - (atI l i).J + (atI l (h:Int)).J:=by
 obtain ⟨a,h2⟩:=hok _ (Al (l:=l) (i:=(h:Int)) (by omega) (by omega))
 simp only [Am,C9] at a h2
 exact ⟨by omega,fun k => Yp (by omega) k⟩
end Go.L.Try
set_option maxHeartbeats 2000000
namespace Go.L.Try
open Go Go.L
variable {l:List Ac} {i:Nat}
theorem Axt {A R:List Job} {j:Job}:jb (A ++ j :: R) A.length = j:=by
 unfold jb atI
 rw [List.getD_eq_getElem?_getD,Int.toNat_natCast,List.getElem?_append_right (Nat.le_refl _),Nat.sub_self];rfl
theorem Adi {j:Job} (h:j ∈ Bg l i):((blkN l i l.length).2 = true ∧ j = ⟨(blkN l i l.length).1,startP l i - 1,startP l i - 1,(atI l (blkN l i l.length).1).Q,[(atI l (blkN l i l.length).1).Q]⟩) ∨ j = Cf l i ∨ ∃ h k:Nat,h < l.length ∧ (atI l (h:Int)).P < (atI l (i:Int)).P ∧ k < Jq l i h ∧ j = ⟨h,startP l i - (atI l (h:Int)).J + k * (atI l (h:Int)).T,if k = 0 then startP l i else startP l i - (atI l (h:Int)).J + k * (atI l (h:Int)).T,(atI l (h:Int)).C,[]⟩:=by
 unfold Bg at h
 rcases List.mem_append.1 h with h | h
 ·unfold A9 at h
  split at h
  ·rename_i a;exact .inl ⟨a,by simpa using h⟩
  ·simp at h
 ·rcases List.mem_cons.1 h with h | h
  ·exact .inr (.inl h)
  ·exact .inr (.inr (Pj h))
theorem P7 (hv:F7 l) (hi:i < l.length) (hf:(Bg l i).length ≤ 4096):legalB l (Bg l i) = true:=by
 obtain ⟨_,_,c⟩:=By hv
 have f:∀ h:Nat,h < l.length → atI l (h:Int) ∈ l:=fun h hh => Al (by omega) (by omega)
 obtain ⟨⟨m0,m1⟩,m2⟩:=Fv (i:=(i:Int)) c ⟨by omega,by omega⟩ l.length (Nat.le_refl _)
 have z:=(V6 (i:=(i:Int)) c l.length (Nat.le_refl _)).2
 have hs:startP l (i:Int) = 1 + mostJ l (i:Int) l.length:=rfl
 obtain ⟨ri,fi⟩:=c _ (f i hi)
 simp only [Am,C9] at ri fi
 refine Auj hv hf (fun j v => ?_) fun a b s o => ?_
 ·rcases Adi v with ⟨o,rfl⟩ | rfl | ⟨h,k,g,h2,h3,rfl⟩
  ·obtain ⟨m,u,b3,_⟩:=z o
   obtain ⟨n,p⟩:=c _ (Al m.1 m.2)
   simp only [Am,C9] at n p
   refine ⟨m,⟨by dsimp only;omega,by dsimp only;omega⟩,⟨Int.le_refl _,by dsimp only;omega⟩,⟨by dsimp only;omega,by dsimp only;omega⟩,?_⟩
   simp [Dc];omega
  ·refine ⟨⟨by show (0:Int) ≤ (i:Int);omega,by show (i:Int) < l.length;omega⟩,⟨?_,?_⟩,⟨?_,?_⟩,⟨?_,?_⟩,rfl⟩
   ·show 0 ≤ startP l (i:Int) - (atI l (i:Int)).J;omega
   ·show startP l (i:Int) - (atI l (i:Int)).J ≤ _;omega
   ·show startP l (i:Int) - (atI l (i:Int)).J ≤ startP l (i:Int);omega
   ·show startP l (i:Int) ≤ startP l (i:Int) - (atI l (i:Int)).J + (atI l (i:Int)).J;omega
   ·show 1 ≤ (atI l (i:Int)).C;omega
   ·exact Int.le_refl _
  ·obtain ⟨n,p⟩:=c _ (f h g)
   simp only [Am,C9] at n p
   have v:=m2 h g h2
   have a1:0 ≤ (k:Int) * (atI l (h:Int)).T:=Int.mul_nonneg (by omega) (by omega)
   have a0:=((Ac5 (i:=(i:Int)) c ⟨by omega,by omega⟩ g).2 k).1 h3
   refine ⟨⟨by dsimp only;omega,by dsimp only;omega⟩,⟨by dsimp only;omega,by dsimp only;omega⟩,?_,⟨by dsimp only;omega,Int.le_refl _⟩,rfl⟩
   dsimp only
   by_cases e:k = 0
   ·subst e;rw [if_pos rfl];constructor <;> simp <;> omega
   ·rw [if_neg e];omega
 ·refine (Axd (r:=Ae6 l) ?_ s o:Ae6 l _ _)
  unfold Bg
  refine List.pairwise_append.2 ⟨?_,List.pairwise_cons.2 ⟨fun y hy e => ?_,Acf c _ (Nat.le_refl _)⟩,fun x d y hy e => ?_⟩
  ·unfold A9;split
   ·exact List.pairwise_singleton _ _
   ·exact List.Pairwise.nil
  ·obtain ⟨h,k,g,h2,_,rfl⟩:=Pj hy
   have e:(i:Int) = (h:Int):=e
   rw [e] at h2;omega
  ·unfold A9 at d
   split at d
   ·rename_i t
    obtain ⟨m,u,b3,_⟩:=z t
    have d:=List.mem_singleton.1 d
    rcases List.mem_cons.1 hy with hy | hy
    ·rw [d,hy] at e
     have e:(blkN l (i:Int) l.length).1 = (i:Int):=e
     rw [e] at u;omega
    ·obtain ⟨h,k,g,h2,_,rfl⟩:=Pj hy
     rw [d] at e
     have e:(blkN l (i:Int) l.length).1 = (h:Int):=e
     rw [e] at u;omega
   ·simp at d
end Go.L.Try
set_option maxHeartbeats 4000000
namespace Go.L.Try
open Go Go.L
variable {E:Env} {G:Nat}
theorem Yq (hE:As E) {h:Aa} {vl:Value} {l:List Ac} (hl:Rd 7 Ar h vl l) (hs:∀ t ∈ l,t.name.size < 1152921504606846976) (i:Int) :
  callW E (.func (.func I0) #[] #[]) [vl,.int .i64 i] h = some (.bool (isP l i),h,[]):=by
 have a:=Adl hE hl hs
 have few:=hl.few
 refine Ak hE.Asc rfl (by simp) ?_
 simp only [Ai]
 (repeat' (first | (with_reducible refine A1 (fun _ => ?_) (fun _ => ?_) <;> try (exfalso;omega)) | simp -dsimp (disch:=omega) only [↓EA,EB,Nat.reduceEqDiff,↓reduceIte,reduceCtorEq,eq_self, *,hl.len]))
 ·congr 1;unfold isP;exact decide_eq_decide.2 (by omega)
 ·congr 1;unfold isP;exact (decide_eq_false (by omega)).symm
 ·congr 1;unfold isP;exact (decide_eq_false (by omega)).symm
def Xt (l:List Ac) (a:Int) (m:Nat):Int:=max a (atI l (m:Int)).J
theorem Ajt (l:List Ac) (i:Int):accL (Xt l) (atI l i).J (placesQ (Bu l i) l) (placesQ (Bu l i) l).length = mostJ l i l.length:=by
 rw [Abi]
 exact P0 (mostJ l i) rfl (fun k => by show (if _ then _ else _) = _;simp only [Bu,decide_eq_true_eq];rfl) _
theorem Azx (hE:As E) (hZ:G6 E G) {h:Aa} (ht:Tab G h) {vl:Value} {l:List Ac} (hl:Rd 7 Ar h vl l) (hs:∀ t ∈ l,t.name.size < 1152921504606846976) {i:Int} (hb:isP l i = true) :
  callW E (.func (.func Iq) #[] #[]) [vl,.int .i64 i] h = some (.int .i64 (startP l i),h,[]):=by
 have hi:=fun x => Yq hE (hl.app x) hs i
 have hc:=hl.cv
 have ho:=hl.one
 refine Ak hE.Afw rfl (by simp) ?_
 simp only [Ai]
 rw [hb] at hi
 obtain ⟨y,n,z⟩:=R7 hb
 have q:=fun x => Anw hE (hl.app x) y n
 have ok:=Fz (Bu l i) l l.length
 have ev:=P5 (Bu l i) n
 have Hf:=Hid.mk (Ajt l i)
 have Hm:=Hid.mk (fun m (h:m ∈ placesQ (Bu l i) l) => Ud h)
 have a5:=(z _ (Al y.1 y.2)).1
 simp only [Am] at a5
 have a1:0 ≤ (atI l i).J ∧ (atI l i).J ≤ 2147483647:=by omega
 clear a5
 generalize placesQ (Bu l i) l = es at *
 generalize thoseW (Bu l i) l l.length = w at *
 have p:=fun x => hl.app x
 have g:=hl.app [LObj.cells [vl] false]
 (repeat' simp -dsimp (disch:=omega) only [↓EA,EB,Nat.reduceEqDiff,↓reduceIte,reduceCtorEq,Ab,eq_self, *,g.ixs,g.ld,Ar])
 refine Gi (A1a hE _ ok) fun v ys hr ad => ?_
 obtain ⟨bx,rfl,ab,s⟩:=hr
 (repeat' simp -dsimp (disch:=omega) only [↓EA,EB,Nat.reduceEqDiff,↓reduceIte,eq_self, *])
 simp only [List.append_assoc,List.cons_append,List.nil_append,LA,List.length_cons,List.length_nil] at s ab
 have a6:=(GI.1 s).1
 have a4:Pre h (h ++ LObj.cells [vl] false :: LObj.cells [Value.int IntKind.i64 (atI l i).J] false :: ys):=Pre.app h _
 have e:∀ m,m ∈ es → 0 ≤ (atI l (m:Int)).J ∧ (atI l (m:Int)).J ≤ 2147483647:=fun m u => by
  have a8:=Hm.out m u
  have:=(z _ (Al (l:=l) (i:=(m:Int)) (by omega) (by omega))).1
  simp only [Am] at this;omega
 have d:∀ k,0 ≤ accL (Xt l) (atI l i).J es k ∧ accL (Xt l) (atI l i).J es k ≤ 2147483647:=Wa (fun a => 0 ≤ a ∧ a ≤ 2147483647) a1 (fun a m u ⟨h1,h2⟩ => by
  have:=e m u
  unfold Xt;omega)
 refine Avm hE.keep rfl (Ai7 hE hZ ok bx) (c:=h.length + 1) (by simp) (by omega) (fun k => .int .i64 (accL (Xt l) (atI l i).J es k)) (fun _ => rfl) (by rw [Jr];rfl) rfl (fun hh e1 e2 => ⟨by rw [e2 bx a6 (by omega)];exact s,ht.pre fun b o hb => by have aa:=(GI.1 hb).1;rw [e2 b (by simp;omega) (by omega)];exact a4 b o hb⟩) ?_ ?_
 ·intro k a ha
  rw [ev,List.getElem?_map] at ha
  obtain ⟨m,u,rfl⟩:=OM.1 ha
  have j:=List.mem_of_getElem? u
  have a8:=Hm.out m j
  have hq:=e m j
  have r:=Hid.mk (Tg (f:=Xt l) (a0:=(atI l i).J) u)
  have ae:=d k
  clear ha u d e Hf ev ok q hi hb z g p
  refine ⟨_,rfl,fun hh g1 g2 g3 => ?_⟩
  unfold Pd
  (repeat' simp -dsimp (disch:=omega) only [↓EA,EB,Nat.reduceEqDiff,Nat.reduceAdd,↓reduceIte,eq_self, *])
  refine ⟨[],(List.append_nil _).symm,fun a2 k1 k2 k3 => ?_⟩
  have ac:Pre h a2:=fun b o hb => by
   have aa:=(GI.1 hb).1
   rw [k3 b (by omega) (by omega)];exact a4 b o hb
  have a3:=hl.pre ac
  have b1:a2[h.length]? = some (.cells [vl] false):=by rw [k3 h.length (by omega) (by omega),Bh];rfl
  generalize accL (Xt l) (atI l i).J es k = A at *
  have Hb:=Hid.mk (show Xt l A m = max A (atI l (m:Int)).J from rfl)
  unfold Pc
  (repeat' simp -dsimp (disch:=omega) only [↓EA,EB,Nat.reduceEqDiff,↓reduceIte,eq_self, *,a3.ixs,a3.ld,Ar,true_or])
  exact ⟨[],by rw [List.append_nil,r.out,Hb.out]⟩
 ·rw [ev,List.length_map,Hf.out]
  have a9:startP l i = 1 + mostJ l i l.length:=rfl
  have a7:=d es.length
  rw [Hf.out] at a7
  rw [a9]
  clear Hf d e ev g p
  generalize mostJ l i l.length = mj at *
  (repeat' simp -dsimp (disch:=omega) only [↓EA,EB,Nat.reduceEqDiff,↓reduceIte,eq_self, *])
end Go.L.Try
namespace Go.L.Try
open Go Go.L
variable {E:Env} {G:Nat}
theorem Avl (hK:No E) {sz:Nat} {fr:Fr} {H:Aa} {g:X} {ps:List Nat} {assign body:C} {W:Nat → Prop} {Q:Ex → Fr → Aa → Prop} {f:FuncId} {ca cb:Array Value} {base:Aa → Prop} {vals:List (List Value)}
  (hg:ev (get fr) g = .func (.func f) ca cb) (hI:Ale E (.func (.func f) ca cb) base vals) {c:Nat} (hcl:c + 1 < H.length) (hWc:W c) (hWd:W (c + 1)) (acc acd:Nat → Value) (hs:∀ k,U6 (acc k) = true ∧ U6 (acd k) = true) (h0:H[c]? = some (.cells [acc 0] false)) (h1:H[c + 1]? = some (.cells [acd 0] false))
  (hps:ps.all (fun p => decide (p < sz)) = true) (hbase:∀ hh:Aa,H.length ≤ hh.length → (∀ b,b < H.length → b ≠ c → b ≠ c + 1 → hh[b]? = H[b]?) → base hh)
  (hstep:∀ k a,vals[k]? = some a → ∃ fr0,Go.L.setPs ps a fr = some fr0 ∧ ∀ hh:Aa,hh.length = H.length + 1 → hh[c]? = some (.cells [acc k] false) → hh[c + 1]? = some (.cells [acd k] false) → (∀ b,b < H.length → b ≠ c → b ≠ c + 1 → hh[b]? = H[b]?) →
   WO (fun b => (b = c ∨ b = c + 1) ∨ H.length < b) (code (callW E) iterW sz assign fr0 hh) (fun e fr1 h1 => e = .normal ∧ ∃ zs,h1 = hh ++ zs ∧ ∀ hh2:Aa,hh2.length = H.length + 1 → hh2[c]? = some (.cells [acc k] false) → hh2[c + 1]? = some (.cells [acd k] false) → (∀ b,b < H.length → b ≠ c → b ≠ c + 1 → hh2[b]? = H[b]?) →
    WO (fun b => (b = c ∨ b = c + 1) ∨ H.length < b) (code (callW E) iterW sz body fr1 (hh2 ++ zs)) (fun e2 _ h2 => e2 = .normal ∧ ∃ ys,h2 = (hh2.set c (.cells [acc (k + 1)] false)).set (c + 1) (.cells [acd (k + 1)] false) ++ ys)))
  (hend:Q .normal fr ((H.set c (.cells [acc vals.length] false)).set (c + 1) (.cells [acd vals.length] false))) :
  WO W (code (callW E) iterW sz (.rng g ps assign body) fr H) Q:=by
 refine Avi hK (W':=fun b => (b = c ∨ b = c + 1) ∨ H.length ≤ b) hg (fun x hx a0 => by rcases hx with (rfl | rfl) | hx;exact hWc;exact hWd;omega) ?_
 generalize hLr:LObj.loop _ = lo
 have l:∀ k,(((H ++ [lo]).set c (.cells [acc k] false)).set (c + 1) (.cells [acd k] false)).length = H.length + 1 ∧ (((H ++ [lo]).set c (.cells [acc k] false)).set (c + 1) (.cells [acd k] false))[c]? = some (.cells [acc k] false) ∧ (((H ++ [lo]).set c (.cells [acc k] false)).set (c + 1) (.cells [acd k] false))[c + 1]? = some (.cells [acd k] false) ∧ ∀ b,b < H.length → b ≠ c → b ≠ c + 1 → (((H ++ [lo]).set c (.cells [acc k] false)).set (c + 1) (.cells [acd k] false))[b]? = H[b]?:=fun k => by
  refine ⟨by simp,by rw [An (by omega)];exact Bq (by simp;omega),Bq (by simp;omega),fun b j o r => ?_⟩
  rw [An (Ne.symm r),An (Ne.symm o),GL j]
 refine WX.mono (hI (H ++ [lo]) H.length (fun b => (b = c ∨ b = c + 1) ∨ H.length ≤ b) (fun k hh => hh = ((H ++ [lo]).set c (.cells [acc k] false)).set (c + 1) (.cells [acd k] false)) (fun _ => False) ?_ ?_ (fun _ hf => hf.elim) ?_) (fun b j => j) ?_
 ·rintro k hh rfl
  obtain ⟨a,b,d,e⟩:=l k
  exact ⟨by simp,hbase _ (by rw [a];omega) e⟩
 ·have e1:(H ++ [lo]).set c (.cells [acc 0] false) = H ++ [lo]:=Dw (by rw [GL (by omega)];exact h0)
  rw [e1]
  exact (Dw (by rw [GL (by omega)];exact h1)).symm
 ·rintro k hh a ha rfl
  obtain ⟨fr0,s,u⟩:=hstep k a ha
  obtain ⟨g1,y,t,z⟩:=l k
  have hL:(((H ++ [lo]).set c (.cells [acc k] false)).set (c + 1) (.cells [acd k] false))[H.length]? = some lo:=by rw [An (by omega),An (by omega),Bh];rfl
  have hA:=u _ g1 y t z
  have n:((((H ++ [lo]).set c (.cells [acc k] false)).set (c + 1) (.cells [acd k] false)).set c (.cells [acc (k + 1)] false)).set (c + 1) (.cells [acd (k + 1)] false) = ((H ++ [lo]).set c (.cells [acc (k + 1)] false)).set (c + 1) (.cells [acd (k + 1)] false):=by
   have e:(((H ++ [lo]).set c (.cells [acc k] false)).set (c + 1) (.cells [acd k] false)).set c (.cells [acc (k + 1)] false) = ((H ++ [lo]).set c (.cells [acc (k + 1)] false)).set (c + 1) (.cells [acd k] false):=by
    rw [List.set_comm (LObj.cells [acd k] false) (LObj.cells [acc (k + 1)] false) (show c + 1 ≠ c by omega),List.set_set]
   rw [e,List.set_set]
  generalize ((H ++ [lo]).set c (.cells [acc k] false)).set (c + 1) (.cells [acd k] false) = hh at *
  subst hLr
  refine WX.mono (Afe hK (W:=fun b => (b = c ∨ b = c + 1) ∨ H.length < b) (Rr:=fun e h3 => e = .normal ∧ h3 = (hh.set c (.cells [acc (k + 1)] false)).set (c + 1) (.cells [acd (k + 1)] false)) hL rfl rfl hps s (fun b j => by omega) ?_) (fun b j => by omega) ?_
  ·refine hA.mono (fun b j => j) ?_
   rintro e fr1 h1 ⟨rfl,zs,rfl,hB⟩
   refine ⟨rfl,?_⟩
   have m:∀ x:LObj,(hh ++ zs).set H.length x = hh.set H.length x ++ zs:=fun x => by rw [List.set_append_left _ _ (by omega)]
   rw [m]
   refine (hB (hh.set H.length _) (by rw [List.length_set];exact g1) (by rw [An (by omega)];exact y) (by rw [An (by omega)];exact t) (fun b j o r => by rw [An (by omega)];exact z b j o r)).mono (fun b j => j) ?_
   rintro e2 a1 h2 ⟨rfl,ys,rfl⟩
   refine ⟨fun b j hw => ?_,rfl,?_⟩
   ·rcases hw with (rfl | rfl) | hw
    ·rw [GL (by simp;omega),An (by omega),Bq (by simp;omega)]
     exact I6 (hs _).1
    ·rw [GL (by simp;omega),Bq (by simp;omega)]
     exact I6 (hs _).2
    ·omega
   ·rw [List.set_append_left _ _ (by simp;omega),List.set_comm _ _ (show c + 1 ≠ H.length by omega),Afs hL (by omega),List.take_left' (by simp)]
  ·rintro v h' ⟨e,h3,⟨rfl,rfl⟩,rfl,rfl⟩
   exact .inl ⟨rfl,n⟩
 ·rintro v h' (rfl | hf)
  ·refine ⟨_,by rw [An (by omega),An (by omega),Bh,← hLr];rfl,by simp,?_,?_⟩
   ·rintro b j ((rfl | rfl) | hw)
    ·rw [An (by omega),Bq (by simp;omega)];exact I6 (hs _).1
    ·rw [Bq (by simp;omega)];exact I6 (hs _).2
    ·omega
   ·have e:(((H ++ [lo]).set c (.cells [acc vals.length] false)).set (c + 1) (.cells [acd vals.length] false)).take H.length = (H.set c (.cells [acc vals.length] false)).set (c + 1) (.cells [acd vals.length] false):=by
     rw [List.set_append_left _ _ (by omega),List.set_append_left _ _ (by simp;omega),List.take_left' (by simp)]
    rw [e];exact hend
  ·exact hf.elim
def Oz (l:List Ac) (a:Int × Bool) (m:Nat):Int × Bool:=if 1 < (atI l (m:Int)).Q ∧ (a.2 = false ∨ (atI l a.1).Q < (atI l (m:Int)).Q) then ((m:Int),true) else a
theorem Ae3 (l:List Ac) (i:Int):accL (Oz l) (0,false) (placesQ (I2 l i) l) (placesQ (I2 l i) l).length = blkN l i l.length:=by
 rw [Abi]
 refine P0 (blkN l i) rfl (fun k => ?_) _
 show (if _ then _ else _) = _
 simp only [I2,decide_eq_true_eq]
 unfold Oz
 by_cases h:(atI l i).P < (atI l (k:Int)).P
 ·rw [if_pos h]
  simp only [h,true_and]
 ·rw [if_neg h,if_neg fun a => h a.1]
theorem Avs (hE:As E) (hZ:G6 E G) {h:Aa} (ht:Tab G h) {vl:Value} {l:List Ac} (hl:Rd 7 Ar h vl l) (hs:∀ t ∈ l,t.name.size < 1152921504606846976) {i:Int} (hb:isP l i = true) :
  callW E (.func (.func Ft) #[] #[]) [vl,.int .i64 i] h = some (.tuple #[.int .i64 (blkN l i l.length).1,.bool (blkN l i l.length).2],h,[]):=by
 have hi:=fun x => Yq hE (hl.app x) hs i
 have hc:=hl.cv
 have ho:=hl.one
 refine Ak hE.Abr rfl (by simp) ?_
 simp only [Ai]
 rw [hb] at hi
 obtain ⟨a8,g,ac⟩:=R7 hb
 have q:=fun x => A0j hE (hl.app x) a8 g
 have ok:=Fz (I2 l i) l l.length
 have ev:=P5 (I2 l i) g
 have Hf:=Hid.mk (Ae3 l i)
 have Hm:=Hid.mk (fun m (h:m ∈ placesQ (I2 l i) l) => Ud h)
 generalize placesQ (I2 l i) l = es at *
 generalize thoseW (I2 l i) l l.length = w at *
 (repeat' simp -dsimp (disch:=omega) only [↓EA,EB,Nat.reduceEqDiff,Nat.reduceAdd,↓reduceIte,reduceCtorEq,Ab,eq_self, *])
 refine Gi (A1a hE _ ok) fun v ys hr ad => ?_
 obtain ⟨bx,rfl,a9,p⟩:=hr
 (repeat' simp -dsimp (disch:=omega) only [↓EA,EB,Nat.reduceEqDiff,↓reduceIte,eq_self, *])
 simp only [List.append_assoc,List.cons_append,List.nil_append,LA,List.length_cons,List.length_nil] at p a9
 have a4:=(GI.1 p).1
 have a3:Pre h (h ++ LObj.cells [vl] false :: LObj.cells [Value.int IntKind.i64 0] false :: LObj.cells [Value.bool false] false :: ys):=Pre.app h _
 have n:∀ k,0 ≤ (accL (Oz l) (0,false) es k).1 ∧ (accL (Oz l) (0,false) es k).1 < l.length:=Wa (fun (a:Int × Bool) => 0 ≤ a.1 ∧ a.1 < l.length) ⟨by dsimp only;omega,by dsimp only;omega⟩ (fun a m y ⟨h1,h2⟩ => by
  have:=Hm.out m y
  unfold Oz
  split
  ·dsimp only;omega
  ·exact ⟨h1,h2⟩)
 refine Avl hE.keep rfl (Ai7 hE hZ ok bx) (c:=h.length + 1) (by simp;omega) (by omega) (by omega) (fun k => .int .i64 (accL (Oz l) (0,false) es k).1) (fun k => .bool (accL (Oz l) (0,false) es k).2) (fun _ => ⟨rfl,rfl⟩) (by rw [Jr];rfl) (by rw [show h.length + 1 + 1 = h.length + 2 from rfl,Jr];rfl) rfl (fun hh e1 e2 => ⟨by rw [e2 bx a4 (by omega) (by omega)];exact p,ht.pre fun b o hb => by have a7:=(GI.1 hb).1;rw [e2 b (by simp;omega) (by omega) (by omega)];exact a3 b o hb⟩) ?_ ?_
 ·intro k a ha
  rw [ev,List.getElem?_map] at ha
  obtain ⟨m,y,rfl⟩:=OM.1 ha
  have s:=List.mem_of_getElem? y
  have ah:=Hm.out m s
  have d:=Hid.mk (Tg (f:=Oz l) (a0:=(0,false)) y)
  have a6:=n k
  clear ha y n Hf ev ok q hi hb ac
  refine ⟨_,rfl,fun hh g1 g2 aj g3 => ?_⟩
  unfold Na
  (repeat' simp -dsimp (disch:=omega) only [↓EA,EB,Nat.reduceEqDiff,Nat.reduceAdd,↓reduceIte,eq_self, *])
  refine ⟨[],(List.append_nil _).symm,fun j k1 k2 ab k3 => ?_⟩
  have aa:Pre h j:=fun b o hb => by
   have a7:=(GI.1 hb).1
   rw [k3 b (by omega) (by omega) (by omega)];exact a3 b o hb
  have e:=hl.pre aa
  have b1:j[h.length]? = some (.cells [vl] false):=by rw [k3 h.length (by omega) (by omega) (by omega),Bh];rfl
  generalize accL (Oz l) (0,false) es k = A at *
  obtain ⟨a1,r⟩:=A
  have Hb:=Hid.mk (show Oz l (a1,r) m = if 1 < (atI l (m:Int)).Q ∧ (r = false ∨ (atI l a1).Q < (atI l (m:Int)).Q) then ((m:Int),true) else (a1,r) from rfl)
  unfold M9
  dsimp only at *
  obtain ⟨af,ae⟩:=a6
  rw [show h.length + 1 + 1 = h.length + 2 from rfl] at *
  have ag:(m:Int) < l.length:=by omega
  have ai:h.length + 2 < j.length:=by omega
  have u:=Dw k2
  have z:=Dw ab
  by_cases c1:1 < (atI l (m:Int)).Q
  ·by_cases c2:r = false
   ·subst c2
    (repeat' simp -dsimp (disch:=omega) only [↓EA,EB,Nat.reduceEqDiff,↓reduceIte,eq_self, *,e.ixs,e.ld,Ar,true_or,or_true])
    refine ⟨[],?_⟩
    rw [List.append_nil,d.out,Hb.out,if_pos ⟨c1,.inl rfl⟩]
   ·have a5:r = true:=by cases r;exact absurd rfl c2;rfl
    subst a5
    by_cases c3:(atI l a1).Q < (atI l (m:Int)).Q
    ·(repeat' simp -dsimp (disch:=omega) only [↓EA,EB,Nat.reduceEqDiff,↓reduceIte,eq_self, *,e.ixs,e.ld,Ar,true_or,or_true])
     refine ⟨[],?_⟩
     rw [List.append_nil,d.out,Hb.out,if_pos ⟨c1,.inr c3⟩]
    ·(repeat' simp -dsimp (disch:=omega) only [↓EA,EB,Nat.reduceEqDiff,↓reduceIte,eq_self, *,e.ixs,e.ld,Ar])
     refine ⟨[],?_⟩
     rw [List.append_nil,d.out,Hb.out,if_neg fun hh => by rcases hh.2 with h1 | h1;cases h1;exact c3 h1]
     dsimp only
     rw [u,z]
  ·(repeat' simp -dsimp (disch:=omega) only [↓EA,EB,Nat.reduceEqDiff,↓reduceIte,eq_self, *,e.ixs,e.ld,Ar])
   refine ⟨[],?_⟩
   rw [List.append_nil,d.out,Hb.out,if_neg fun hh => c1 hh.1]
   dsimp only
   rw [u,z]
 ·rw [ev,List.length_map,Hf.out]
  clear Hf n ev
  generalize blkN l i l.length = bk at *
  obtain ⟨b1,b2⟩:=bk
  dsimp only
  rw [show h.length + 1 + 1 = h.length + 2 from rfl]
  (repeat' simp -dsimp (disch:=omega) only [↓EA,EB,Nat.reduceEqDiff,↓reduceIte,eq_self, *])
end Go.L.Try
namespace Go.L.Try
open Go Go.L
variable {E:Env} {G:Nat}
theorem Aw9 (hE:As E) {hh:Aa} {b m:Nat} {v vc:Value} {A:List (NV Job)} (hb:hh[b]? = some (.cells [v] false)) (o:OwnT m 5 (Du hdJ) hh v A) (hbm:b < m) (hml:m ≤ hh.length) (hA:A.length ≤ 1048576) (j:Job) (hvc:Ag vc = true) (hvn:Bj vc = [vc]) {W:Nat → Prop} (hWb:W b) (hWv:A ≠ [] → W (blk v)) :
  WX W (callW E (.func (.func Af) #[] #[.pointer (some ⟨b,0,none⟩)]) [.int .i64 j.task,.int .i64 j.arrive,.int .i64 j.release,.int .i64 j.work,vc] hh) (fun res h' => res = .bool (decide (A.length + 1 ≤ 4096)) ∧ ∃ v',hh.length ≤ blk v' ∧ hh.length ≤ h'.length ∧ h'[b]? = some (.cells [v'] false) ∧ OwnT m 5 (Du hdJ) h' v' (A ++ [⟨j,vc⟩]) ∧ ∀ y,y < hh.length → y ≠ b → (A ≠ [] → y ≠ blk v) → h'[y]? = hh[y]?):=by
 refine E8 hE.U4 rfl (by simp) ?_
 simp only [List.nil_append,List.cons_append,Ai]
 have u:=(GI.1 hb).1
 have z:∀ x,(hh ++ x)[b]? = some (.cells [v] false):=fun x => by rw [GL u];exact hb
 have ov:=o.rd.one
 have cv:=o.rd.cv
 have s:=o.ge
 have O:=Hid.mk o
 clear o
 (repeat' simp -dsimp (disch:=omega) only [↓EA,EB,Nat.reduceEqDiff,Nat.reduceAdd,Nat.reduceLeDiff,Nat.reduceMul,↓reduceIte,reduceCtorEq,Ab,Q7,eq_self, *])
 refine Pg (sz:=5) (bytes:=56) (h0:=[]) (O.out.app _) (fun b o hb => by simp at hb) (Nat.zero_le _) (by simp;omega) hWv (⟨j,vc⟩:NV Job) ?_ rfl (by decide) (by decide) (by omega) ?_
 ·simp -dsimp (disch:=omega) only [EB,Nat.reduceAdd,Nat.reduceMul,↓reduceIte]
  rfl
 ·intro v2 h2 a k2 f k4 l
  rw [LA,List.length_singleton] at f k4 l
  have n:h2[b]? = some (.cells [v] false):=by
   rw [l b (by omega) (fun c e => by have:=s c;omega)];exact z _
  have d:∀ y,y < hh.length → (A ≠ [] → y ≠ blk v) → h2[y]? = hh[y]?:=fun y g c => by
   rw [l y (by omega) c,GL g]
  have a0:=(GI.1 n).1
  have a1:=a.rd.one
  have a2:=a.rd.cv
  have t:=a.rd.len
  have K:=Hid.mk (AI a (AI d f))
  have r:(((A ++ [(⟨j,vc⟩:NV Job)]).length:Nat):Int) = (A.length:Int) + 1:=by simp
  rw [r] at t
  clear a k2 f l d
  by_cases hc:A.length + 1 ≤ 4096
  ·have p:(A.length:Int) + 1 ≤ 4096:=by omega
   (repeat' simp -dsimp (disch:=omega) only [↓EA,EB,Nat.reduceEqDiff,Nat.reduceAdd,↓reduceIte,reduceCtorEq,eq_self, *])
   obtain ⟨a,d,f⟩:=K.out
   exact ⟨v2,by omega,rfl,a.keep fun _ => An (by omega),fun y g c hv => by rw [An (Ne.symm c)];exact d y g hv⟩
  ·have p:¬ (A.length:Int) + 1 ≤ 4096:=by omega
   (repeat' simp -dsimp (disch:=omega) only [↓EA,EB,Nat.reduceEqDiff,Nat.reduceAdd,↓reduceIte,reduceCtorEq,eq_self, *])
   obtain ⟨a,d,f⟩:=K.out
   exact ⟨v2,by omega,rfl,a.keep fun _ => An (by omega),fun y g c hv => by rw [An (Ne.symm c)];exact d y g hv⟩
end Go.L.Try
