/- WHAT A SCENE TELLS, WHEN IT IS PLAYED (plain): of whatever set, and place. -/
import Derived.Test.YtnanlkamcgihlaaDoorPm
set_option linter.unusedVariables false
set_option linter.unusedSimpArgs false
set_option maxRecDepth 100000
set_option maxHeartbeats 2000000
namespace Go.L.Try
open Go Go.L
variable {l:List Ac} {i:Int}
theorem Arh {l:List Ac} {i:Int} {b:Nat} (h:∀ k:Nat,k < l.length → Jq l i k ≤ b):∀ n,n ≤ l.length → (upC l i n).length ≤ n * b
 | 0,_ => by simp [upC]
 | n + 1,hn => by
  have a:=Arh h n (by omega)
  have:=h n (by omega)
  rw [Nat.add_mul,Nat.one_mul]
  unfold upC
  split
  ·rw [LA]
   simp only [Id,List.length_map,List.length_range]
   omega
  ·omega
structure Fit (l:List Ac):Prop where
 n:l.length ≤ 6
 t:∀ t ∈ l,t.T ≤ 40
theorem Fit.mid (f:Fit l) (hv:F7 l):∀ t ∈ l,Mid t:=fun t ht => by
 obtain ⟨_,_,hok⟩:=By hv
 obtain ⟨h1,h2⟩:=hok t ht
 simp only [Am,C9] at h1 h2
 have:=f.t t ht
 exact ⟨⟨by omega,by omega⟩,⟨by omega,by omega⟩,⟨by omega,by omega⟩⟩
theorem Fit.many (f:Fit l) (hv:F7 l) (hi:0 ≤ i ∧ i < l.length) {m:Nat} (hm:m < l.length):Jq l i m ≤ 80:=by
 obtain ⟨_,_,a⟩:=By hv
 have d:=Al (l:=l) (i:=(m:Int)) (by omega) (by omega)
 have e:=Al hi.1 hi.2
 obtain ⟨j,h2⟩:=a _ d
 obtain ⟨g,c⟩:=a _ e
 simp only [Am,C9] at j h2 g c
 have n:=f.t _ d
 have o:=f.t _ e
 rcases Nat.lt_or_ge 80 (Jq l i m) with h | h
 ·exfalso
  unfold Jq at h
  have c:=(Yp (T:=(atI l (m:Int)).T) (p:=(atI l i).D - (atI l i).J + (atI l (m:Int)).J) (by omega) 80).1 h
  omega
 ·exact h
theorem Fit.few (f:Fit l) (hv:F7 l) (hi:0 ≤ i ∧ i < l.length):(Bg l i).length ≤ 500:=by
 have c:(A9 l i).length ≤ 1:=by unfold A9;split <;> simp
 have:=Arh (fun m a => f.many hv hi a) l.length (Nat.le_refl _)
 have d:=f.n
 unfold Bg
 rw [LA,List.length_cons]
 omega
def plL (l:List Ac) (i:Int):List Span:=if isP l i then (Lx l i.toNat).L else []
def plE (l:List Ac) (i:Int):Int:=if isP l i then atI (Lx l i.toNat).ends (A9 l i).length else -1
def plA (l:List Ac) (i:Int):Int:=if isP l i then (Cf l i).arrive else 0
def plX (l:List Ac) (i:Int):Int:=if isP l i then 0 else 1
def bdR (l:List Ac) (i:Int):Int:=if isP l i then (if plE l i < 0 then 0 else plE l i - plA l i) else 0
def bdX (l:List Ac) (i:Int):Int:=if isP l i then (if plE l i < 0 then 16 else 0) else 1
theorem Aep (hb:isP l i = true):∃ k:Nat,i = k ∧ k < l.length ∧ i.toNat = k:=by
 obtain ⟨h,_⟩:=R7 hb
 exact ⟨i.toNat,by omega,by omega,rfl⟩
theorem S7 (hb:isP l i = true):F7 l:=by
 unfold isP at hb
 exact (of_decide_eq_true hb).1
theorem Ayy (f:Fit l) (hb:isP l i = true):(1 ≤ plA l i ∧ plA l i ≤ 2147483648) ∧ -1 ≤ plE l i ∧ plE l i ≤ 4294967296 ∧ (0 ≤ plE l i → plA l i ≤ plE l i + 2147483648):=by
 obtain ⟨k,rfl,hk,v⟩:=Aep hb
 have n:=S7 hb
 obtain ⟨_,o,d⟩:=By n
 have few:=f.few n (i:=(k:Int)) ⟨by omega,by omega⟩
 have j:=d _ (Al (l:=l) (i:=(k:Int)) (by omega) (by omega))
 obtain ⟨g,m⟩:=j
 simp only [Am,C9] at g m
 have t:=(Fv (i:=(k:Int)) d ⟨by omega,by omega⟩ l.length (Nat.le_refl _)).1
 have r:(Cf l k).arrive = startP l k - (atI l (k:Int)).J:=rfl
 have p:startP l k = 1 + mostJ l k l.length:=rfl
 have a:=P7 n hk (by omega)
 obtain ⟨c,e⟩:=Yu (l:=l) (i:=k)
 obtain ⟨x,z⟩:=Akv a c
 have u:0 ≤ (Cf l k).arrive + (atI l (k:Int)).D:=by omega
 obtain ⟨c1,c2⟩:=Aex a u c z
 have s:plA l (k:Int) = (Cf l k).arrive:=by unfold plA;rw [if_pos hb]
 have y:plE l (k:Int) = if (x:Int) ≤ (Cf l k).arrive + (atI l (k:Int)).D then (x:Int) else -1:=by
  unfold plE;rw [if_pos hb]
  show atI (T3 l (Bg l ((k:Int).toNat:Nat)) _).ends _ = _
  rw [Int.toNat_natCast];exact c2
 rw [s,y]
 refine ⟨⟨by omega,by omega⟩,?_,?_,?_⟩ <;> split <;> omega
end Go.L.Try
set_option maxHeartbeats 8000000
namespace Go.L.Try
open Go Go.L
variable {E:Env} {G:Nat}
theorem Aqo (hE:As E) {h:Aa} {vl:Value} {l:List Ac} (hl:Rd 7 Ar h vl l) (hs:∀ t ∈ l,t.name.size < 1152921504606846976) {i:Int} (hb:isP l i = false) :
  callW E (.func (.func Dr) #[] #[]) [vl,.int .i64 i] h = some (.tuple #[.slice none 0 0,.int .i64 0,.int .i64 1],h,[]):=by
 have q:=fun x => Yq hE (hl.app x) hs i
 rw [hb] at q
 have a:=hl.cv
 have c:=hl.one
 refine Ak hE.Rk rfl (by simp) ?_
 simp only [Ai]
 (repeat' simp -dsimp (disch:=omega) only [↓EA,EB,Nat.reduceEqDiff,↓reduceIte,reduceCtorEq,Ab,eq_self, *])
def A2x (m:Nat) (l:List Ac) (i:Int) (h:Aa) (v:Value):Prop:=∃ vs,v = .tuple vs.toArray ∧ Each h [fun h v => RdM m 3 Nt h v (plL l i),fun _ v => v = .int .i64 (plE l i),fun _ v => v = .int .i64 (plA l i),fun _ v => v = .int .i64 (plX l i)] vs
theorem Ayx (hE:As E) (hZ:G6 E G) {h:Aa} (ht:Tab G h) {vl:Value} {l:List Ac} (hl:Rd 7 Ar h vl l) (hs:∀ t ∈ l,t.name.size < 1152921504606846976) (f:Fit l) (i:Int) :
  ∃ v ys,callW E (.func (.func Iz) #[] #[]) [vl,.int .i64 i] h = some (v,h ++ ys,[]) ∧ A2x h.length l i (h ++ ys) v:=by
 cases hb:isP l i
 ·have q:=Aqo hE hl hs hb
  refine ⟨.tuple #[.slice none 0 0,.int .i64 (-1),.int .i64 0,.int .i64 1],[],?_,_,rfl,.cons ?_ (.cons ?_ (.cons ?_ (.cons ?_ .nil)))⟩
  ·rw [List.append_nil]
   refine Ak hE.Afn rfl (by simp) ?_
   simp only [Ai]
   (repeat' (first | (with_reducible refine A3 (fun _ => ?_) (fun _ => ?_) <;> try (exfalso;omega)) | simp -dsimp (disch:=omega) only [↓EA,EB,Nat.reduceEqDiff,↓reduceIte,reduceCtorEq,eq_self, *]))
  ·unfold plL;rw [hb];exact ⟨Rd.of_nil,fun d => absurd rfl d⟩
  ·unfold plE;rw [hb];rfl
  ·unfold plA;rw [hb];rfl
  ·unfold plX;rw [hb];rfl
 ·obtain ⟨k,rfl,g,a⟩:=Aep hb
  have c:=S7 hb
  obtain ⟨v,ys,e,j,rfl,r⟩:=A1r hE hZ ht hl hs (i:=k) c (f.mid c) g (by have:=f.few c (i:=(k:Int)) ⟨by omega,by omega⟩;omega)
  refine ⟨_,ys,e,j,rfl,?_⟩
  have m:plL l (k:Int) = (Lx l k).L:=by unfold plL;rw [if_pos hb,a]
  have p:plE l (k:Int) = atI (Lx l k).ends (A9 l k).length:=by unfold plE;rw [if_pos hb,a]
  have n:plA l (k:Int) = (Cf l k).arrive:=by unfold plA;rw [if_pos hb]
  have o:plX l (k:Int) = 0:=by unfold plX;rw [if_pos hb]
  rw [m,p,n,o];exact r
theorem Apl (hE:As E) (hZ:G6 E G) {h:Aa} (ht:Tab G h) {vl:Value} {l:List Ac} (hl:Rd 7 Ar h vl l) (hs:∀ t ∈ l,t.name.size < 1152921504606846976) (f:Fit l) (i:Int) :
  callW E (.func (.func Fe) #[] #[]) [vl,.int .i64 i] h = some (.tuple #[.int .i64 (bdR l i),.int .i64 (bdX l i)],h,[]):=by
 refine Ak hE.Apk rfl (by simp) ?_
 simp only [Ai]
 (repeat' simp -dsimp (disch:=omega) only [↓EA,EB,Nat.reduceEqDiff,↓reduceIte,reduceCtorEq,eq_self, *])
 refine Gi (Ayx hE hZ ht hl hs f i) fun n r m v => ?_
 obtain ⟨d,rfl,g⟩:=(by
  obtain ⟨s,rfl,p⟩:=m
  rcases p with _ | ⟨g,_ | ⟨rb,_ | ⟨rc,_ | ⟨rd,_ | _⟩⟩⟩⟩
  subst rb;subst rc;subst rd
  exact ⟨_,rfl,g⟩:∃ d,n = .tuple #[d,.int .i64 (plE l i),.int .i64 (plA l i),.int .i64 (plX l i)] ∧ RdM h.length 3 Nt (h ++ r) d (plL l i))
 have y:=Rd.nt g.1
 unfold bdR bdX
 clear m
 cases hb:isP l i
 ·have j:plX l i = 1:=by unfold plX;rw [hb];rfl
  rw [j]
  (repeat' (first | (with_reducible refine A3 (fun _ => ?_) (fun _ => ?_) <;> try (exfalso;omega)) | simp -dsimp (disch:=omega) only [↓EA,EB,Nat.reduceEqDiff,↓reduceIte,reduceCtorEq,eq_self, *]))
 ·have j:plX l i = 0:=by unfold plX;rw [hb];rfl
  obtain ⟨⟨u,x⟩,b1,b2,b3⟩:=Ayy f hb
  rw [j]
  generalize plE l i = e at *
  generalize plA l i = a at *
  simp only []
  by_cases c:e < 0
  ·rw [if_pos c,if_pos c]
   (repeat' simp -dsimp (disch:=omega) only [↓EA,EB,Nat.reduceEqDiff,↓reduceIte,eq_self, *])
  ·rw [if_neg c,if_neg c]
   have o:=b3 (by omega)
   (repeat' simp -dsimp (disch:=omega) only [↓EA,EB,Nat.reduceEqDiff,↓reduceIte,eq_self, *])
def PlayT (m:Nat) (l:List Ac) (i:Int) (h:Aa) (v:Value):Prop:=∃ vs,v = .tuple vs.toArray ∧ Each h [fun h v => RdM m 3 Nt h v (plL l i),fun _ v => v = .int .i64 (plE l i),fun _ v => v = .bool (decide (0 ≤ plE l i))] vs
theorem PlayT.movable {m:Nat} (l:List Ac) (i:Int):Movable m (PlayT m l i) 2 :=
 Movable.tuples (k:=1) (fun R hR => by
  simp only [List.mem_cons,List.not_mem_nil,or_false] at hR
  rcases hR with rfl | rfl | rfl
  ·exact RdM.movable Ah9 _
  ·exact El rfl
  ·exact El rfl) (by simp)
theorem Ar9 (hE:As E) (hZ:G6 E G) {h:Aa} (ht:Tab G h) {vl:Value} {l:List Ac} (hl:Rd 7 Ar h vl l) (hs:∀ t ∈ l,t.name.size < 1152921504606846976) (f:Fit l) (i:Int) :
  ∃ v ys,callW E (.func (.func Mu) #[] #[]) [vl,.int .i64 i] h = some (v,h ++ ys,[]) ∧ PlayT h.length l i (h ++ ys) v:=by
 refine Lk hE.Ar7 rfl (PlayT.movable _ _) (by simp) ?_
 simp only [Ai]
 (repeat' simp -dsimp (disch:=omega) only [↓EA,EB,Nat.reduceEqDiff,↓reduceIte,reduceCtorEq,eq_self, *])
 refine Gi (Ayx hE hZ ht hl hs f i) fun n ys m p => ?_
 obtain ⟨j,rfl,c⟩:=(by
  obtain ⟨s,rfl,r⟩:=m
  rcases r with _ | ⟨c,_ | ⟨rb,_ | ⟨rc,_ | ⟨rd,_ | _⟩⟩⟩⟩
  subst rb;subst rc;subst rd
  exact ⟨_,rfl,c⟩:∃ j,n = .tuple #[j,.int .i64 (plE l i),.int .i64 (plA l i),.int .i64 (plX l i)] ∧ RdM h.length 3 Nt (h ++ ys) j (plL l i))
 have u:=Rd.nt c.1
 clear m
 generalize hee:plE l i = e at *
 generalize plA l i = a at *
 generalize plX l i = x at *
 have d:=p.ex
 have Ra:=Hid.mk (AI c d)
 clear c d
 by_cases g:0 ≤ e
 ·have o:decide (0 ≤ e) = true:=decide_eq_true g
  (repeat' simp -dsimp (disch:=omega) only [↓EA,EB,Nat.reduceEqDiff,↓reduceIte,eq_self, *])
  obtain ⟨c,d⟩:=Ra.out
  exact ⟨d,_,rfl,.cons c (.cons (by rw [hee]) (.cons (by rw [hee];simp [g]) .nil))⟩
 ·have o:decide (0 ≤ e) = false:=decide_eq_false g
  (repeat' simp -dsimp (disch:=omega) only [↓EA,EB,Nat.reduceEqDiff,↓reduceIte,eq_self, *])
  obtain ⟨c,d⟩:=Ra.out
  exact ⟨d,_,rfl,.cons c (.cons (by rw [hee]) (.cons (by rw [hee];simp [g]) .nil))⟩
end Go.L.Try
set_option maxHeartbeats 4000000
namespace Go.L.Try
open Go Go.L
variable {E:Env}
theorem A0o (hE:As E) {h:Aa} {vl:Value} {l:List Ac} (hl:Rd 7 Ar h vl l) (hs:∀ t ∈ l,t.name.size < 1152921504606846976) (i:Int) :
  callW E (.func (.func I1) #[] #[]) [vl,.int .i64 i] h = some (.bool (isP l i),h,[]):=by
 have a:=Ak5 hE hl hs
 refine Ak hE.Asq rfl (by simp) ?_
 simp only [Ai]
 (repeat' (first | (with_reducible refine A1 (fun _ => ?_) (fun _ => ?_) <;> try (exfalso;omega)) | simp -dsimp (disch:=omega) only [↓EA,EB,Nat.reduceEqDiff,↓reduceIte,reduceCtorEq,eq_self, *,hl.len]))
 ·congr 1;unfold isP;exact decide_eq_decide.2 (by omega)
 ·congr 1;unfold isP;exact (decide_eq_false (by omega)).symm
 ·congr 1;unfold isP;exact (decide_eq_false (by omega)).symm
theorem Aww (hE:As E) {h:Aa} {vl:Value} {l:List Ac} (hl:Rd 7 Ar h vl l) (hs:∀ t ∈ l,t.name.size < 1152921504606846976) {i:Int} (hb:isP l i = true) :
  callW E (.func (.func Is) #[] #[]) [vl,.int .i64 i] h = some (.int .i64 (startP l i),h,[]):=by
 have m:=A0o hE hl hs i
 rw [hb] at m
 obtain ⟨a,j,c⟩:=R7 hb
 refine Ak hE.Af9 rfl (by simp) ?_
 simp only [Ai]
 unfold startP
 (repeat' simp -dsimp (disch:=omega) only [↓EA,EB,Nat.reduceEqDiff,↓reduceIte,reduceCtorEq,eq_self, *,hl.ixs,hl.ld,Ar])
 refine WO.loop (fun (n:Nat) fr h' => h' = h ∧ n ≤ l.length ∧ get fr 0 = vl ∧ get fr 1 = .int .i64 i ∧ get fr 6 = .int .i64 (mostJ l i n) ∧ get fr 7 = .int .i64 n) (fun n => l.length - n) ?_ 0 ⟨rfl,Nat.zero_le _,rfl,rfl,rfl,rfl⟩
 rintro n fr h' ⟨rfl,s,g0,z,g6,x⟩
 unfold Pe
 have p:=(Fv (i:=i) c a n s).1
 have f:=Hid.mk (show mostJ l i (n + 1) = if (atI l (n:Int)).P < (atI l i).P then max (mostJ l i n) (atI l (n:Int)).J else mostJ l i n from rfl)
 rcases Nat.lt_or_ge n l.length with hlt | hge
 ·have g:=(c _ (Al (l:=l) (i:=(n:Int)) (by omega) (by omega))).1
  simp only [Am] at g
  have y:0 ≤ (atI l (n:Int)).J ∧ (atI l (n:Int)).J ≤ 2147483647:=by omega
  have u:(n:Int) < l.length:=by omega
  obtain ⟨o,v⟩:=a
  clear g hb m c
  generalize mostJ l i n = B at *
  (repeat' (first | (with_reducible refine A3 (fun _ => ?_) (fun _ => ?_) <;> try (exfalso;omega)) | simp -dsimp (disch:=omega) only [↓EA,EB,Nat.reduceEqDiff,↓reduceIte,reduceCtorEq,eq_self, *,hl.len,hl.ixs,hl.ld,Ar]))
  ·refine Next.mk (n + 1) ⟨rfl,by omega,rfl,rfl,?_,rfl⟩ (by omega)
   rw [f.out,if_pos (by omega)];rfl
  ·refine Next.mk (n + 1) ⟨rfl,by omega,rfl,rfl,?_,rfl⟩ (by omega)
   rw [f.out,if_neg (by omega)];rfl
 ·have e:n = l.length:=by omega
  subst e
  have d:=(c _ (Al a.1 a.2)).1
  simp only [Am] at d
  have r:0 ≤ mostJ l i l.length:=by omega
  clear d
  generalize mostJ l i l.length = B at *
  (repeat' (first | (with_reducible refine A3 (fun _ => ?_) (fun _ => ?_) <;> try (exfalso;omega)) | simp -dsimp (disch:=omega) only [↓EA,EB,Nat.reduceEqDiff,↓reduceIte,reduceCtorEq,eq_self, *,hl.len]))
def blkI (l:List Ac) (i:Int) (n:Nat):Int:=if (blkN l i n).2 = true then (blkN l i n).1 else -1
theorem Aoc {l:List Ac} (hok:∀ t ∈ l,Gm t) {i:Int} {n:Nat} (hn:n ≤ l.length):(-1 ≤ blkI l i n ∧ blkI l i n < n) ∧ ((blkN l i n).2 = false ↔ blkI l i n < 0) ∧ (0 ≤ blkI l i n → (blkN l i n).1 = blkI l i n):=by
 have h:=(V6 (i:=i) hok n hn).2
 unfold blkI
 cases hb:(blkN l i n).2
 ·simp;omega
 ·have:=(h hb).1
  simp;omega
theorem Aqz (hE:As E) {h:Aa} {vl:Value} {l:List Ac} (hl:Rd 7 Ar h vl l) (hs:∀ t ∈ l,t.name.size < 1152921504606846976) {i:Int} (hb:isP l i = true) :
  callW E (.func (.func Fu) #[] #[]) [vl,.int .i64 i] h = some (.int .i64 (blkI l i l.length),h,[]):=by
 have m:=A0o hE hl hs i
 rw [hb] at m
 obtain ⟨g,o,c⟩:=R7 hb
 refine Ak hE.Abs rfl (by simp) ?_
 simp only [Ai]
 (repeat' simp -dsimp (disch:=omega) only [↓EA,EB,Nat.reduceEqDiff,↓reduceIte,reduceCtorEq,eq_self, *])
 refine WO.loop (fun (n:Nat) fr h' => h' = h ∧ n ≤ l.length ∧ get fr 0 = vl ∧ get fr 1 = .int .i64 i ∧ get fr 5 = .bool true ∧ get fr 6 = .int .i64 (blkI l i n) ∧ get fr 7 = .int .i64 n) (fun n => l.length - n) ?_ 0 ⟨rfl,Nat.zero_le _,rfl,rfl,rfl,rfl,rfl⟩
 rintro n fr h' ⟨rfl,u,g0,g1,g5,g6,g7⟩
 unfold Nb
 obtain ⟨⟨b1,b2⟩,b3,b4⟩:=Aoc (i:=i) c u
 have f:Hid (blkI l i (n + 1) = if (atI l i).P < (atI l (n:Int)).P ∧ 1 < (atI l (n:Int)).Q ∧ (blkI l i n < 0 ∨ (atI l (blkI l i n)).Q < (atI l (n:Int)).Q) then (n:Int) else blkI l i n):=Hid.mk (by
  have e:blkN l i (n + 1) = if (atI l i).P < (atI l (n:Int)).P ∧ 1 < (atI l (n:Int)).Q ∧ ((blkN l i n).2 = false ∨ (atI l (blkN l i n).1).Q < (atI l (n:Int)).Q) then ((n:Int),true) else blkN l i n:=rfl
  rw [show blkI l i (n + 1) = if (blkN l i (n + 1)).2 = true then (blkN l i (n + 1)).1 else -1 from rfl,e]
  by_cases a:(atI l i).P < (atI l (n:Int)).P ∧ 1 < (atI l (n:Int)).Q ∧ ((blkN l i n).2 = false ∨ (atI l (blkN l i n).1).Q < (atI l (n:Int)).Q)
  ·rw [if_pos a,if_pos rfl,if_pos]
   refine ⟨a.1,a.2.1,?_⟩
   rcases a.2.2 with h | h
   ·exact .inl (b3.1 h)
   ·by_cases d:blkI l i n < 0
    ·exact .inl d
    ·right;rw [← b4 (by omega)];exact h
  ·have j:¬ ((atI l i).P < (atI l (n:Int)).P ∧ 1 < (atI l (n:Int)).Q ∧ (blkI l i n < 0 ∨ (atI l (blkI l i n)).Q < (atI l (n:Int)).Q)):=by
    rintro ⟨v,y,x⟩
    refine a ⟨v,y,?_⟩
    by_cases d:blkI l i n < 0
    ·exact .inl (b3.2 d)
    ·right;rw [b4 (by omega)];exact x.resolve_left d
   rw [if_neg a,if_neg j];rfl)
 clear b3 b4
 rcases Nat.lt_or_ge n l.length with hlt | hge
 ·have r:(n:Int) < l.length:=by omega
  obtain ⟨p,s⟩:=g
  clear hb m c
  generalize blkI l i n = B at *
  have z:0 ≤ B → B < l.length:=fun _ => by omega
  (repeat' (first | (with_reducible refine A1 (fun _ => ?_) (fun _ => ?_) <;> try (exfalso;omega)) | (with_reducible refine A2 (fun _ => ?_) (fun _ => ?_) <;> try (exfalso;omega)) | (with_reducible refine A3 (fun _ => ?_) (fun _ => ?_) <;> try (exfalso;omega)) | simp -dsimp (disch:=omega) only [↓EA,EB,Nat.reduceEqDiff,↓reduceIte,reduceCtorEq,eq_self, *,hl.len,hl.ixs,hl.ld,Ar]))
  all_goals
   refine Next.mk (n + 1) ⟨rfl,by omega,rfl,rfl,rfl,?_,rfl⟩ (by omega)
   rw [f.out]
   first
    | rw [if_pos (by omega)];done
    | rw [if_pos (by omega)];rfl
    | rw [if_neg (by omega)];done
    | rw [if_neg (by omega)];rfl
 ·have e:n = l.length:=by omega
  subst e
  generalize blkI l i l.length = B at *
  (repeat' (first | (with_reducible refine A1 (fun _ => ?_) (fun _ => ?_) <;> try (exfalso;omega)) | simp -dsimp (disch:=omega) only [↓EA,EB,Nat.reduceEqDiff,↓reduceIte,reduceCtorEq,eq_self, *,hl.len]))
end Go.L.Try
set_option maxHeartbeats 8000000
namespace Go.L.Try
open Go Go.L
variable {E:Env}
structure SR (h:Aa) (a:Int) (v:Value) (LV:List (NV Job)) (jobs:List Job) (hh:Aa):Prop where
 len:h.length + 2 ≤ hh.length
 pre:Pre h hh
 b4:hh[h.length]? = some (.cells [.slice none 0 0,.int .i64 0,.int .i64 0] false)
 b6:hh[h.length + 1]? = some (.cells [v,.int .i64 a,.int .i64 0] false)
 out:A1e (h.length + 2) hh v LV jobs
theorem SR.next {h hh zs h2:Aa} {a:Int} {v v':Value} {LV:List (NV Job)} {jobs:List Job} {p:NV Job} (s:SR h a v LV jobs hh)
  (k1:OwnT (h.length + 2) 5 (Du hdJ) h2 v' (LV ++ [p])) (k3:blk v' = (hh ++ zs).length) (k4:h2.length = (hh ++ zs).length + 1) (k5:∀ b,b < (hh ++ zs).length → (LV ≠ [] → b ≠ blk v) → h2[b]? = (hh ++ zs)[b]?)
  (hp:Rd 1 D7 (hh ++ zs) p.v p.j.cuts ∧ (p.v ≠ .slice none 0 0 → hh.length ≤ blk p.v ∧ blk p.v < (hh ++ zs).length)) :
  SR h a v' (LV ++ [p]) (jobs ++ [p.j]) (h2.set (h.length + 1) (.cells [v',.int .i64 a,.int .i64 0] false)):=by
 obtain ⟨sl,z,s4,s6,e⟩:=s
 have d:LV ≠ [] → h.length + 2 ≤ blk v:=fun c => e.own.ge (by simpa using c)
 have f:LV ≠ [] → blk v < hh.length:=fun c => e.own.lt (by simpa using c)
 have u:hh.length ≤ (hh ++ zs).length:=by simp
 have keep:∀ b,b < hh.length → b ≠ h.length + 1 → (LV ≠ [] → b ≠ blk v) → (h2.set (h.length + 1) (.cells [v',.int .i64 a,.int .i64 0] false))[b]? = hh[b]?:=fun b x h2 t => by
  rw [An (Ne.symm h2),k5 b (by omega) t,GL x]
 refine ⟨by rw [List.length_set];omega,fun b o n => ?_,?_,Bq (by omega),⟨k1.keep fun _ => An (by omega),by rw [List.map_append,e.is];rfl,fun q hq => ?_⟩⟩
 ·have:=(GI.1 n).1
  rw [keep b (by omega) (by omega) (fun c => by have:=d c;omega)];exact z b o n
 ·rw [keep _ (by omega) (by omega) (fun c => by have:=d c;omega)];exact s4
 ·rcases List.mem_append.1 hq with hq | hq
  ·obtain ⟨c1,l⟩:=e.cut q hq
   refine ⟨c1.keep fun c => ?_,fun c => ?_⟩
   ·obtain ⟨g,r,m⟩:=l c
    exact keep _ r (by omega) (fun _ => m)
   ·obtain ⟨g,r,m⟩:=l c
    rw [List.length_set]
    exact ⟨g,by omega,by omega⟩
  ·rw [List.mem_singleton.1 hq]
   refine ⟨hp.1.keep fun c => ?_,fun c => ?_⟩
   ·have:=hp.2 c
    rw [An (by omega),k5 _ this.2 (fun y => by have:=f y;omega)]
   ·have:=hp.2 c
    rw [List.length_set]
    exact ⟨by omega,by omega,by omega⟩
theorem Asi {s:Int} {k:Nat} {t:Ac} {n:Nat} (hn:1 ≤ n):Id s k t (n + 1) = Id s k t n ++ [⟨k,s - t.J + n * t.T,s - t.J + n * t.T,t.C,[]⟩]:=by
 unfold Id
 rw [List.range_succ,List.map_append]
 simp [show n ≠ 0 by omega]
theorem Aqs (hE:As E) {W:Nat → Prop} {h:Aa} {vl:Value} {l:List Ac} (hl:Rd 7 Ar h vl l) {k N:Nat} (hk:k < l.length) (hW:∀ b,h.length ≤ b → W b) {a s e:Int} {vi:Value} {J0:List Job} (few:J0.length + N ≤ 4096) (hN1:1 ≤ N)
  (hT:1 ≤ (atI l (k:Int)).T ∧ (atI l (k:Int)).T ≤ 2147483647) (hJ:0 ≤ (atI l (k:Int)).J ∧ (atI l (k:Int)).J ≤ 2147483647) (hs:1 ≤ s ∧ s ≤ 2147483648) (he:e ≤ 4294967296) (hN:∀ n:Nat,n < N ↔ s - (atI l (k:Int)).J + n * (atI l (k:Int)).T < e)
  {hh:Aa} {v:Value} {LV:List (NV Job)} (st:SR h a v LV (J0 ++ Id s k (atI l (k:Int)) 1) hh) {fr:Fr} (g0:get fr 0 = vl) (g1:get fr 1 = vi) (g4:get fr 4 = .pointer (some ⟨h.length,0,none⟩)) (g6:get fr 6 = .pointer (some ⟨h.length + 1,0,none⟩)) (g7:get fr 7 = .int .i64 s) (g9:get fr 9 = .int .i64 e) (g10:get fr 10 = .int .i64 k) (g11:get fr 11 = .int .i64 (s - (atI l (k:Int)).J + (atI l (k:Int)).T)) {Q:Ex → Fr → Aa → Prop}
  (hq:∀ fr' h' v' LV',get fr' 0 = vl → get fr' 1 = vi → get fr' 4 = .pointer (some ⟨h.length,0,none⟩) → get fr' 6 = .pointer (some ⟨h.length + 1,0,none⟩) → get fr' 7 = .int .i64 s → get fr' 9 = .int .i64 e → get fr' 10 = .int .i64 k → SR h a v' LV' (J0 ++ Id s k (atI l (k:Int)) N) h' → Q (.exit 2) fr' h') :
  WO W (iterW (code (callW E) iterW 169 Ik) fr hh) Q:=by
 refine WO.loop (fun (n:Nat) fr h' => (1 ≤ n ∧ n ≤ N) ∧ (∃ v LV,SR h a v LV (J0 ++ Id s k (atI l (k:Int)) n) h') ∧ get fr 0 = vl ∧ get fr 1 = vi ∧ get fr 4 = .pointer (some ⟨h.length,0,none⟩) ∧ get fr 6 = .pointer (some ⟨h.length + 1,0,none⟩) ∧ get fr 7 = .int .i64 s ∧ get fr 9 = .int .i64 e ∧ get fr 10 = .int .i64 k ∧ get fr 11 = .int .i64 (s - (atI l (k:Int)).J + n * (atI l (k:Int)).T)) (fun n => N - n) ?_ 1 ⟨⟨Nat.le_refl _,hN1⟩,⟨v,LV,st⟩,g0,g1,g4,g6,g7,g9,g10,by rw [g11];simp⟩
 clear st g0 g1 g4 g6 g7 g9 g10 g11 v LV hh fr
 rintro n fr hh ⟨o,⟨v,LV,st⟩,g0,g1,g4,g6,g7,g9,g10,g11⟩
 have Hq:=Hid.mk hq
 clear hq
 unfold Ik
 have a2:=hN n
 have a4:=hl.pre st.pre
 have ac:=st.len
 have y:=st.b6
 have a8:LV.length = J0.length + n:=by
  rw [← List.length_map (f:=(·.j)),st.out.is,LA];simp [Id]
 have a0:=st.out.own.rd.len
 have a6:=st.out.own.rd.one
 have a7:=st.out.own.rd.cv
 have ai:(k:Int) < l.length:=by omega
 have g:((n + 1:Nat):Int) * (atI l (k:Int)).T = (n:Int) * (atI l (k:Int)).T + (atI l (k:Int)).T:=by rw [Int.natCast_add,Int.natCast_one,Int.add_mul,Int.one_mul]
 have ag:0 ≤ (n:Int) * (atI l (k:Int)).T:=Int.mul_nonneg (by omega) (by omega)
 have ae:(n:Int) * (atI l (k:Int)).T ≤ e - s + (atI l (k:Int)).J + (atI l (k:Int)).T:=by
  have h1:=(hN (n - 1)).1 (by omega)
  have e2:(n:Int) * (atI l (k:Int)).T = ((n - 1:Nat):Int) * (atI l (k:Int)).T + (atI l (k:Int)).T:=by
   rw [show (n:Int) = ((n - 1:Nat):Int) + 1 by omega,Int.add_mul,Int.one_mul]
  omega
 have Hs:=Hid.mk g
 have HN:=Hid.mk hN
 have d:=Hid.mk st
 clear g hN st
 generalize hxx:s - (atI l (k:Int)).J + n * (atI l (k:Int)).T = x at *
 have u:0 ≤ x + 2147483648 ∧ x ≤ 4294967296 + 2147483647:=by omega
 obtain ⟨u,ad⟩:=u
 by_cases r:n < N
 ·have hx:x < e:=a2.1 r
  have ab:(LV.length:Int) ≤ 4096:=by omega
  have t:∀ x,(hh ++ x)[h.length + 1]? = some (.cells [v,.int .i64 a,.int .i64 0] false):=fun x => by rw [GL (by omega)];exact y
  have a1:(room hh 1)[h.length + 1]? = some (.cells [v,.int .i64 a,.int .i64 0] false):=t _
  have c:Rd 7 Ar (hh ++ [LObj.dead]) vl l:=a4.app _
  have af:h.length ≤ hh.length:=by omega
  (repeat' (first | (with_reducible refine A3 (fun _ => ?_) (fun _ => ?_) <;> try (exfalso;omega)) | simp -dsimp (disch:=omega) only [↓EA,EB,Nat.reduceEqDiff,↓reduceIte,reduceCtorEq,eq_self, *]))
  ·refine ⟨by simp [low];omega,?_⟩
   (repeat' simp -dsimp (disch:=omega) only [↓EA,EB,Nat.reduceEqDiff,Nat.reduceAdd,Nat.reduceLeDiff,Nat.reduceMul,↓reduceIte,reduceCtorEq,Ab,Q7,eq_self, *,c.ixs,c.ld,Ar])
   have a3:LV ≠ [] → h.length + 2 ≤ blk v:=fun o => d.out.out.own.ge (by simpa using o)
   refine Pg (h0:=h) (m:=h.length + 2) (d.out.out.own.app _) (d.out.pre.app' _) (by omega) (by simp;omega) (fun o => hW _ (by have:=a3 o;omega)) (J2 ⟨k,x,x,(atI l (k:Int)).C,[]⟩) (by simp -dsimp (disch:=omega) only [EB,Nat.reduceAdd,Nat.reduceMul,↓reduceIte];rfl) rfl (by decide) (by decide) (by omega) ?_
   intro v2 h2 k1 k2 k3 k4 k5
   have c6:h2[h.length + 1]? = some (.cells [v,.int .i64 a,.int .i64 0] false):=(k5 _ (by simp;omega) (fun o => by have:=a3 o;omega)).trans (t _)
   have S2:=d.out.next (p:=J2 ⟨k,x,x,(atI l (k:Int)).C,[]⟩) k1 k3 k4 k5 ⟨Rd.of_nil,fun o => absurd rfl o⟩
   have z:=hl.pre S2.pre
   have a9:=k1.rd.cv
   have aa:=k1.rd.one
   have ah:=hW (h.length + 1) (by omega)
   have a5:=Hid.mk S2
   clear k1 k2 k3 k4 k5 S2 a4 c t a1 y a0 a7 a6
   (repeat' simp -dsimp (disch:=omega) only [↓EA,EB,Nat.reduceEqDiff,Nat.reduceAdd,Nat.reduceLeDiff,↓reduceIte,reduceCtorEq,eq_self, *,z.ixs,z.ld,Ar])
   refine Next.mk (n + 1) ⟨⟨by omega,by omega⟩,⟨v2,LV ++ [J2 ⟨k,x,x,(atI l (k:Int)).C,[]⟩],?_⟩,rfl,rfl,rfl,rfl,rfl,rfl,rfl,?_⟩ (by omega)
   ·rw [Asi (by omega),hxx,← List.append_assoc];exact a5.out
   ·show Value.int .i64 (x + (atI l (k:Int)).T) = _
    rw [Hs.out,← hxx]
    congr 1;omega
 ·have hx:¬ x < e:=fun h => r (a2.2 h)
  have e1:n = N:=by omega
  (repeat' simp -dsimp (disch:=omega) only [↓EA,EB,Nat.reduceEqDiff,↓reduceIte,reduceCtorEq,eq_self, *])
  exact Hq.out _ hh v LV rfl rfl rfl rfl rfl rfl rfl (by rw [← e1];exact d.out)
end Go.L.Try
namespace Go.L.Try
open Go Go.L
variable {E:Env}
theorem Ajk {l:List Ac} {i:Int}:∀ {n m:Nat},n ≤ m → (upC l i n).length ≤ (upC l i m).length
 | n,0,h => by rw [show n = 0 by omega];exact Nat.le_refl _
 | n,m + 1,h => by
  by_cases e:n = m + 1
  ·rw [e];exact Nat.le_refl _
  ·have a:=Ajk (l:=l) (i:=i) (show n ≤ m by omega)
   have:(upC l i m).length ≤ (upC l i (m + 1)).length:=by
    show _ ≤ (if _ then _ else _:List Job).length
    split
    ·rw [LA];omega
    ·exact Nat.le_refl _
   omega
theorem Aqr (hE:As E) {W:Nat → Prop} {h:Aa} {vl:Value} {l:List Ac} (hl:Rd 7 Ar h vl l) {i:Int} (hb:isP l i = true) (hW:∀ b,h.length ≤ b → W b) {a:Int} {B:List Job} (few:B.length + (upC l i l.length).length ≤ 4096)
  {hh:Aa} {v:Value} {LV:List (NV Job)} (st:SR h a v LV B hh) {fr:Fr} (g0:get fr 0 = vl) (g1:get fr 1 = .int .i64 i) (g4:get fr 4 = .pointer (some ⟨h.length,0,none⟩)) (g6:get fr 6 = .pointer (some ⟨h.length + 1,0,none⟩)) (g7:get fr 7 = .int .i64 (startP l i)) (g9:get fr 9 = .int .i64 (startP l i + (atI l i).D - (atI l i).J)) (g10:get fr 10 = .int .i64 0) {Q:Ex → Fr → Aa → Prop}
  (hq:∀ fr' h' v' LV',get fr' 4 = .pointer (some ⟨h.length,0,none⟩) → get fr' 6 = .pointer (some ⟨h.length + 1,0,none⟩) → SR h a v' LV' (B ++ upC l i l.length) h' → Q (.exit 0) fr' h') :
  WO W (iterW (code (callW E) iterW 169 Ij) fr hh) Q:=by
 obtain ⟨y,a7,o⟩:=R7 hb
 have t:=(Fv (i:=i) o y l.length (Nat.le_refl _))
 have z:startP l i = 1 + mostJ l i l.length:=rfl
 have aj:=o _ (Al y.1 y.2)
 obtain ⟨aa,ac⟩:=aj
 simp only [Am,C9] at aa ac
 have hs:1 ≤ startP l i ∧ startP l i ≤ 2147483648:=by omega
 have hD:(1 ≤ (atI l i).D - (atI l i).J) ∧ (atI l i).D - (atI l i).J ≤ 2147483647:=by omega
 refine WO.loop (fun (k:Nat) fr h' => k ≤ l.length ∧ (∃ v LV,SR h a v LV (B ++ upC l i k) h') ∧ get fr 0 = vl ∧ get fr 1 = .int .i64 i ∧ get fr 4 = .pointer (some ⟨h.length,0,none⟩) ∧ get fr 6 = .pointer (some ⟨h.length + 1,0,none⟩) ∧ get fr 7 = .int .i64 (startP l i) ∧ get fr 9 = .int .i64 (startP l i + (atI l i).D - (atI l i).J) ∧ get fr 10 = .int .i64 k) (fun k => l.length - k) ?_ 0 ⟨Nat.zero_le _,⟨v,LV,by simpa [upC] using st⟩,g0,g1,g4,g6,g7,g9,g10⟩
 clear st g0 g1 g4 g6 g7 g9 g10 v LV hh fr aa ac
 rintro k fr hh ⟨hk,⟨v,LV,st⟩,g0,g1,g4,g6,g7,g9,g10⟩
 have Hq:=Hid.mk hq
 clear hq
 unfold Ij
 have d:=hl.pre st.pre
 have ao:=st.len
 have a4:=st.b6
 have a8:=st.out.own.rd.len
 have ai:=st.out.own.rd.one
 have ak:=st.out.own.rd.cv
 have ab:=Ajk (l:=l) (i:=i) hk
 have a7:LV.length = B.length + (upC l i k).length:=by
  rw [← List.length_map (f:=(·.j)),st.out.is,LA]
 have e:=Hid.mk st
 obtain ⟨ad,af⟩:=y
 rcases Nat.lt_or_ge k l.length with hkl | hge
 ·have au:(k:Int) < l.length:=by omega
  have a5:=Hid.mk (show upC l i (k + 1) = if (atI l (k:Int)).P < (atI l i).P then upC l i k ++ Id (startP l i) k (atI l (k:Int)) (Jq l i k) else upC l i k from rfl)
  by_cases hp:(atI l (k:Int)).P < (atI l i).P
  ·have a1:=Ac5 (i:=i) o ⟨ad,af⟩ hkl
   have a2:=Ajk (l:=l) (i:=i) (show k + 1 ≤ l.length by omega)
   have g:=a5.out
   rw [if_pos hp] at g
   have c:(B ++ upC l i k).length + Jq l i k ≤ 4096:=by
    rw [g,LA] at a2
    simp only [Id,List.length_map,List.length_range] at a2
    rw [LA];omega
   have a6:=(o _ (Al (l:=l) (i:=(k:Int)) (by omega) (by omega))).1
   simp only [Am] at a6
   have ap:=t.2 k hkl hp
   have hT:1 ≤ (atI l (k:Int)).T ∧ (atI l (k:Int)).T ≤ 2147483647:=by omega
   have hJ:0 ≤ (atI l (k:Int)).J ∧ (atI l (k:Int)).J ≤ 2147483647:=by omega
   have u:1 ≤ Jq l i k:=by
    have:=(a1.2 0).2 (by simp;omega)
    omega
   have hN:∀ n:Nat,n < Jq l i k ↔ startP l i - (atI l (k:Int)).J + n * (atI l (k:Int)).T < startP l i + (atI l i).D - (atI l i).J:=fun n => by
    rw [a1.2 n];omega
   have a3:∀ x,(hh ++ x)[h.length + 1]? = some (.cells [v,.int .i64 a,.int .i64 0] false):=fun x => by rw [GL (by omega)];exact a4
   have a9:(room hh 1)[h.length + 1]? = some (.cells [v,.int .i64 a,.int .i64 0] false):=a3 _
   have r:Rd 7 Ar (hh ++ [LObj.dead]) vl l:=d.app _
   have an:LV.length + 1 ≤ 4096:=by rw [LA] at c;omega
   have ae:=Hid.mk (AI hN (AI u (AI c g)))
   have ar:1 ≤ startP l i - (atI l (k:Int)).J:=by omega
   clear a6 a1 a2 hN u c g ab t z few hb o st
   generalize startP l i = s at *
   (repeat' (first | (with_reducible refine A3 (fun _ => ?_) (fun _ => ?_) <;> try (exfalso;omega)) | simp -dsimp (disch:=omega) only [↓EA,EB,Nat.reduceEqDiff,↓reduceIte,reduceCtorEq,eq_self, *,d.len,d.ixs,d.ld,Ar]))
   refine ⟨by simp [low];omega,?_⟩
   (repeat' simp -dsimp (disch:=omega) only [↓EA,EB,Nat.reduceEqDiff,Nat.reduceAdd,Nat.reduceLeDiff,Nat.reduceMul,↓reduceIte,reduceCtorEq,Ab,Q7,eq_self, *,r.ixs,r.ld,Ar])
   have hge:LV ≠ [] → h.length + 2 ≤ blk v:=fun hn => e.out.out.own.ge (by simpa using hn)
   refine Pg (h0:=h) (m:=h.length + 2) (e.out.out.own.app _) (e.out.pre.app' _) (by omega) (by simp;omega) (fun hn => hW _ (by have:=hge hn;omega)) (J2 ⟨k,s - (atI l (k:Int)).J,s,(atI l (k:Int)).C,[]⟩) (by simp -dsimp (disch:=omega) only [EB,Nat.reduceAdd,Nat.reduceMul,↓reduceIte];rfl) rfl (by decide) (by decide) (by omega) ?_
   intro v2 h2 k1 k2 k3 k4 k5
   have c6:h2[h.length + 1]? = some (.cells [v,.int .i64 a,.int .i64 0] false):=(k5 _ (by simp;omega) (fun hn => by have:=hge hn;omega)).trans (a3 _)
   have S2:=e.out.next (p:=J2 ⟨k,s - (atI l (k:Int)).J,s,(atI l (k:Int)).C,[]⟩) k1 k3 k4 k5 ⟨Rd.of_nil,fun hn => absurd rfl hn⟩
   have a0:=hl.pre S2.pre
   have al:=k1.rd.cv
   have am:=k1.rd.one
   have as:=hW (h.length + 1) (by omega)
   have ag:=Hid.mk S2
   clear k1 k2 k3 k4 k5 S2 d r a3 a9 a4 a8 ak ai
   (repeat' simp -dsimp (disch:=omega) only [↓EA,EB,Nat.reduceEqDiff,Nat.reduceAdd,Nat.reduceLeDiff,↓reduceIte,reduceCtorEq,eq_self, *,a0.ixs,a0.ld,Ar])
   obtain ⟨hN,u,c,g⟩:=ae.out
   refine Aqs hE hl hkl hW c u hT hJ hs (by omega) hN (by rw [Af2];exact ag.out) rfl rfl rfl rfl rfl rfl rfl rfl fun fr' h' v' LV' q0 q1 q4 q6 q7 q9 aq S3 => ?_
   rw [List.append_assoc,← g] at S3
   have ah:=Hid.mk S3
   clear S3 hN u c g a0 c6
   (repeat' simp -dsimp (disch:=omega) only [↓EA,EB,Nat.reduceEqDiff,↓reduceIte,reduceCtorEq,eq_self, *])
   exact Next.mk (k + 1) ⟨by omega,⟨v',LV',ah.out⟩,rfl,rfl,rfl,rfl,rfl,rfl,rfl⟩ (by omega)
  ·have g:=a5.out
   rw [if_neg hp] at g
   rw [← g] at e
   clear ab t z few hb o st g
   generalize startP l i = s at *
   (repeat' (first | (with_reducible refine A3 (fun _ => ?_) (fun _ => ?_) <;> try (exfalso;omega)) | simp -dsimp (disch:=omega) only [↓EA,EB,Nat.reduceEqDiff,↓reduceIte,reduceCtorEq,eq_self, *,d.len,d.ixs,d.ld,Ar]))
   exact Next.mk (k + 1) ⟨by omega,⟨v,LV,e.out⟩,rfl,rfl,rfl,rfl,rfl,rfl,rfl⟩ (by omega)
 ·have g:k = l.length:=by omega
  subst g
  generalize startP l i = s at *
  (repeat' (first | (with_reducible refine A3 (fun _ => ?_) (fun _ => ?_) <;> try (exfalso;omega)) | simp -dsimp (disch:=omega) only [↓EA,EB,Nat.reduceEqDiff,↓reduceIte,reduceCtorEq,eq_self, *,hl.len]))
  refine Hq.out _ hh v LV ?_ ?_ e.out <;> rfl
end Go.L.Try
namespace Go.L.Try
open Go Go.L
variable {E:Env}
def crL (l:List Ac) (i:Int):List Job:=if isP l i then Bg l i else []
def crA (l:List Ac) (i:Int):Int:=if isP l i then ((A9 l i).length:Int) else 0
def Crit15 (m:Nat) (l:List Ac) (i:Int) (h:Aa) (v:Value):Prop:=∃ vs,v = .agg vs.toArray ∧ Each h [fun h v => RdNO m 5 hdJ Job.cuts h v (crL l i),fun _ v => v = .int .i64 (crA l i),fun _ v => v = .int .i64 (plX l i)] vs
theorem Crit15.movable {m:Nat} (l:List Ac) (i:Int):Movable m (Crit15 m l i) 2 :=
 Movable.aggs (k:=1) (fun R hR => by
  simp only [List.mem_cons,List.not_mem_nil,or_false] at hR
  rcases hR with rfl | rfl | rfl
  ·exact RdNO.movable (hd:=hdJ) (cs:=Job.cuts) (sz:=5) (fun _ => rfl) (fun _ => rfl) _
  ·exact El rfl
  ·exact El rfl) (by simp)
theorem SR.fin {h hh:Aa} {a:Int} {v:Value} {LV:List (NV Job)} {jobs:List Job} (s:SR h a v LV jobs hh) (x:LObj):RdNO h.length 5 hdJ Job.cuts (hh.set h.length x) v jobs ∧ Pre h (hh.set h.length x):=by
 obtain ⟨r,j,n,m,d⟩:=s
 refine ⟨⟨LV,d.is,((d.own.keep fun c => ?_).less (by omega)).rdO,fun p g => ?_⟩,fun b o f => ?_⟩
 ·have:=d.own.ge c
  exact An (by omega)
 ·obtain ⟨l,e⟩:=d.cut p g
  refine ⟨l.keep fun c => ?_,fun c => (e c).2.2⟩
  have:=(e c).1
  exact An (by omega)
 ·have:=(GI.1 f).1
  rw [An (by omega)];exact j b o f
theorem Aiq (hE:As E) {h:Aa} {vl:Value} {l:List Ac} (hl:Rd 7 Ar h vl l) {i:Int} (hb:isP l i = true) (few:(Bg l i).length ≤ 500)
  {hh:Aa} {v:Value} {LV:List (NV Job)} (st:SR h (A9 l i).length v LV (A9 l i) hh) {fr:Fr} (g0:get fr 0 = vl) (g1:get fr 1 = .int .i64 i) (g4:get fr 4 = .pointer (some ⟨h.length,0,none⟩)) (g6:get fr 6 = .pointer (some ⟨h.length + 1,0,none⟩)) (g7:get fr 7 = .int .i64 (startP l i)) :
  WO (fun b => h.length ≤ b) (code (callW E) iterW 169 (Gl 7 c_ref15_Critical.body) fr hh) (Res [(.v (some 3) 4)] fun v h' => (∃ ys,h' = h ++ ys) ∧ Crit15 h.length l i h' v):=by
 obtain ⟨e,am,a1⟩:=R7 hb
 have a9:=(Fv (i:=i) a1 e l.length (Nat.le_refl _)).1
 have a4:startP l i = 1 + mostJ l i l.length:=rfl
 have aj:=a1 _ (Al e.1 e.2)
 obtain ⟨a7,ab⟩:=aj
 simp only [Am,C9] at a7 ab
 have hs:1 ≤ startP l i ∧ startP l i ≤ 2147483648:=by omega
 have hJ:0 ≤ (atI l i).J ∧ (atI l i).J ≤ 2147483647:=by omega
 have hD:1 ≤ (atI l i).D ∧ (atI l i).D ≤ 2147483647:=by omega
 obtain ⟨as,aw⟩:=e
 have aa:=hl.pre st.pre
 have ax:=st.len
 have a2:=st.b6
 have ar:=st.b4
 have a5:=st.out.own.rd.len
 have ai:=st.out.own.rd.one
 have ak:=st.out.own.rd.cv
 have ae:LV.length = (A9 l i).length:=by rw [← List.length_map (f:=(·.j)),st.out.is]
 have ac:(Bg l i).length = (A9 l i).length + 1 + (upC l i l.length).length:=by
  unfold Bg;rw [LA,List.length_cons];omega
 have d:=Hid.mk st
 have y:Cf l i = ⟨i,startP l i - (atI l i).J,startP l i,(atI l i).C,[]⟩:=rfl
 have a0:∀ x,(hh ++ x)[h.length + 1]? = some (.cells [v,.int .i64 ((A9 l i).length:Int),.int .i64 0] false):=fun x => by rw [GL (by omega)];exact a2
 have a6:(room hh 1)[h.length + 1]? = some (.cells [v,.int .i64 ((A9 l i).length:Int),.int .i64 0] false):=a0 _
 have c:Rd 7 Ar (hh ++ [LObj.dead]) vl l:=aa.app _
 have aq:(fun (b:Nat) => h.length ≤ b) (h.length + 1):=by show h.length ≤ h.length + 1;omega
 have g:=Hid.mk (fun (v':Value) (LV':List (NV Job)) (h':Aa) => Aqr hE hl hb (W:=fun b => h.length ≤ b) (fun b hb => hb) (a:=(A9 l i).length) (B:=A9 l i ++ [Cf l i]) (by rw [LA,List.length_singleton];omega) (v:=v') (LV:=LV') (hh:=h'))
 have af:=Hid.mk ac
 have n:crL l i = Bg l i:=by unfold crL;rw [if_pos hb]
 have t:crA l i = (A9 l i).length:=by unfold crA;rw [if_pos hb]
 have o:plX l i = 0:=by unfold plX;rw [if_pos hb]
 have ag:=Hid.mk (AI n (AI t o))
 have ad:(A9 l i ++ [Cf l i]) ++ upC l i l.length = Bg l i:=by unfold Bg;simp
 have al:=Hid.mk ad
 clear a7 ab a9 a4 a1 n t o ad ac st
 unfold c_ref15_Critical Gl Gl Gl Gl Gl Gl Gl Gl
 generalize startP l i = s at *
 generalize (A9 l i).length = a at *
 (repeat' simp -dsimp (disch:=omega) only [↓EA,EB,↓reduceIte,eq_self, *])
 refine ⟨by simp [low];omega,?_⟩
 (repeat' simp -dsimp (disch:=omega) only [↓EA,EB,Nat.reduceEqDiff,Nat.reduceAdd,Nat.reduceLeDiff,Nat.reduceMul,↓reduceIte,reduceCtorEq,Ab,Q7,eq_self, *,c.ixs,c.ld,Ar])
 have a8:LV ≠ [] → h.length + 2 ≤ blk v:=fun hn => d.out.out.own.ge (by simpa using hn)
 have au:LV.length ≤ 500:=by have:=af.out;omega
 refine Pg (h0:=h) (m:=h.length + 2) (d.out.out.own.app _) (d.out.pre.app' _) (by omega) (by simp;omega) (fun hn => by have:=a8 hn;show h.length ≤ _;omega) (J2 ⟨i,s - (atI l i).J,s,(atI l i).C,[]⟩) (by simp -dsimp (disch:=omega) only [EB,Nat.reduceAdd,Nat.reduceMul,↓reduceIte];rfl) rfl (by decide) (by decide) (by omega) ?_
 intro v2 h2 k1 k2 k3 k4 k5
 have c6:h2[h.length + 1]? = some (.cells [v,.int .i64 a,.int .i64 0] false):=(k5 _ (by simp;omega) (fun hn => by have:=a8 hn;omega)).trans (a0 _)
 have S2:=d.out.next (p:=J2 ⟨i,s - (atI l i).J,s,(atI l i).C,[]⟩) k1 k3 k4 k5 ⟨Rd.of_nil,fun hn => absurd rfl hn⟩
 rw [show (J2 ⟨i,s - (atI l i).J,s,(atI l i).C,[]⟩).j = Cf l i from y.symm] at S2
 have z:=hl.pre S2.pre
 have an:=k1.rd.cv
 have ao:=k1.rd.one
 have a3:=Hid.mk S2
 clear k1 k2 k3 k4 k5 S2 aa c a0 a6 a2 a5 ak ai
 (repeat' simp -dsimp (disch:=omega) only [↓EA,EB,Nat.reduceEqDiff,Nat.reduceAdd,Nat.reduceLeDiff,↓reduceIte,reduceCtorEq,eq_self, *,z.ixs,z.ld,Ar])
 refine g.out v2 _ _ a3.out rfl rfl rfl rfl rfl rfl rfl fun az h' v' LV' q4 q6 S3 => ?_
 rw [al.out] at S3
 have u:LV'.length = (Bg l i).length:=by rw [← List.length_map (f:=(·.j)),S3.out.is]
 have e6:=S3.b6
 have e4:=S3.b4
 have ew:=S3.out.own.rd.len
 have eo:=S3.out.own.rd.one
 have ec:=S3.out.own.rd.cv
 have ap:¬ (4096:Int) < (LV'.length:Int):=by omega
 have ah:=Hid.mk S3
 have av:=S3.len
 have ay:h.length < h'.length:=by omega
 clear S3 z c6 u g a3
 (repeat' simp -dsimp (disch:=omega) only [↓EA,EB,Nat.reduceEqDiff,Nat.reduceAdd,↓reduceIte,eq_self, *])
 obtain ⟨r,p⟩:=ah.out.fin (.cells [v',.int .i64 a,.int .i64 0] false)
 obtain ⟨c1,c2,c3⟩:=ag.out
 exact ⟨p.ex,_,rfl,.cons (by rw [c1];exact r) (.cons (by rw [c2]) (.cons (by rw [c3]) .nil))⟩
theorem SR.at_ {h hh:Aa} {a:Int} {v:Value} {LV:List (NV Job)} {jobs:List Job} (s:SR h a v LV jobs hh) (b:Int):SR h b v LV jobs (hh.set (h.length + 1) (.cells [v,.int .i64 b,.int .i64 0] false)):=by
 obtain ⟨n,j,l,r,d⟩:=s
 refine ⟨by rw [List.length_set];exact n,fun b o f => ?_,by rw [An (by omega)];exact l,Bq (by omega),⟨d.own.keep fun c => ?_,d.is,fun p g => ?_⟩⟩
 ·have:=(GI.1 f).1
  rw [An (by omega)];exact j b o f
 ·have:=d.own.ge c
  exact An (by omega)
 ·obtain ⟨m,e⟩:=d.cut p g
  refine ⟨m.keep fun c => ?_,fun c => ?_⟩
  ·have:=(e c).1
   exact An (by omega)
  ·rw [List.length_set];exact e c
def Aru:C → C
 | .seq (.seq _ (.cond _ x _)) _ => x
 | c => c
theorem Aez (hE:As E) {h:Aa} {vl:Value} {l:List Ac} (hl:Rd 7 Ar h vl l) {k s:Int} (hk:0 ≤ k ∧ k < l.length) (hs:1 ≤ s ∧ s ≤ 2147483648) {hh:Aa} {v:Value} (st:SR h 0 v [] [] hh) {fr:Fr} {vi:Value} (g0:get fr 0 = vl) (g1:get fr 1 = vi) (g4:get fr 4 = .pointer (some ⟨h.length,0,none⟩)) (g6:get fr 6 = .pointer (some ⟨h.length + 1,0,none⟩)) (g7:get fr 7 = .int .i64 s) (g8:get fr 8 = .int .i64 k) {Q:Ex → Fr → Aa → Prop}
  (hq:∀ fr' h' v' LV',get fr' 0 = vl → get fr' 1 = vi → get fr' 4 = .pointer (some ⟨h.length,0,none⟩) → get fr' 6 = .pointer (some ⟨h.length + 1,0,none⟩) → get fr' 7 = .int .i64 s → SR h 1 v' LV' [⟨k,s - 1,s - 1,(atI l k).Q,[(atI l k).Q]⟩] h' → Q .normal fr' h') :
  WO (fun b => h.length ≤ b) (code (callW E) iterW 169 (Aru (Gl 6 c_ref15_Critical.body)) fr hh) Q:=by
 have o:=hl.pre st.pre
 have a5:=st.len
 have f:=st.b6
 have g:=st.out.own.rd.len
 have z:=st.out.own.rd.one
 have a0:=st.out.own.rd.cv
 have c:=Hid.mk st
 have Hq:=Hid.mk hq
 have d:∀ x,(hh ++ x)[h.length + 1]? = some (.cells [v,.int .i64 0,.int .i64 0] false):=fun x => by rw [GL (by omega)];exact f
 have j:(room hh 2)[h.length + 1]? = some (.cells [v,.int .i64 0,.int .i64 0] false):=d _
 have a:Rd 7 Ar (hh ++ [LObj.dead,LObj.dead]) vl l:=o.app _
 obtain ⟨a4,a7⟩:=hk
 clear hq st
 unfold c_ref15_Critical Gl Gl Gl Gl Gl Gl Gl Aru
 have a6:blk vl < h.length:=by
  refine hl.lt' fun e => ?_
  have:=hl.len
  rw [e] at this
  simp [Ly] at this
  omega
 generalize hQv:(atI l k).Q = n at *
 (repeat' simp -dsimp (disch:=omega) only [↓EA,EB,↓reduceIte,eq_self, *])
 refine ⟨by simp [low];omega,?_⟩
 (repeat' simp -dsimp (disch:=omega) only [↓EA,EB,Nat.reduceEqDiff,↓reduceIte,reduceCtorEq,eq_self, *,a.ixs])
 refine ⟨by simp [low];omega,?_⟩
 (repeat' simp -dsimp (disch:=omega) only [↓EA,EB,Nat.reduceEqDiff,Nat.reduceAdd,Nat.reduceLeDiff,Nat.reduceMul,↓reduceIte,reduceCtorEq,Ab,Q7,eq_self, *,a.ixs,a.ld,Ar])
 refine Pg (h0:=h) (m:=h.length + 2) (c.out.out.own.app _) (c.out.pre.app' _) (by omega) (by simp;omega) (fun t => absurd rfl t) (⟨⟨k,s - 1,s - 1,n,[n]⟩,.slice (some ⟨hh.length,0,none⟩) 1 1⟩:NV Job) (by simp -dsimp (disch:=omega) only [EB,Nat.reduceAdd,Nat.reduceMul,↓reduceIte];rfl) rfl (by decide) (by decide) (by simp) ?_
 intro v2 h2 r k2 k3 k4 u
 have c6:h2[h.length + 1]? = some (.cells [v,.int .i64 0,.int .i64 0] false):=(u _ (by simp;omega) (fun t => absurd rfl t)).trans (d _)
 have S2:=c.out.next (p:=(⟨⟨k,s - 1,s - 1,n,[n]⟩,.slice (some ⟨hh.length,0,none⟩) 1 1⟩:NV Job)) r k3 k4 u ⟨Vb (l:=[n]) (by rw [Bh];rfl) rfl (by simp) (by simp),fun t => by show hh.length ≤ hh.length ∧ hh.length < _;simp⟩
 have S3:=S2.at_ 1
 have a2:=r.rd.cv
 have a3:=r.rd.one
 have a1:h.length + 1 < h2.length:=by rw [k4];simp;omega
 have y:=Hid.mk S3
 clear r k2 k3 k4 u S2 S3 o a d j f g a0 z
 (repeat' simp -dsimp (disch:=omega) only [↓EA,EB,Nat.reduceEqDiff,Nat.reduceAdd,Nat.reduceLeDiff,↓reduceIte,reduceCtorEq,eq_self, *])
 exact Hq.out _ _ v2 _ rfl rfl rfl rfl rfl y.out
theorem Ave (hE:As E) {h:Aa} {vl:Value} {l:List Ac} (hl:Rd 7 Ar h vl l) (hs:∀ t ∈ l,t.name.size < 1152921504606846976) (f:Fit l) (i:Int) :
  ∃ v ys,callW E (.func (.func Ds) #[] #[]) [vl,.int .i64 i] h = some (v,h ++ ys,[]) ∧ Crit15 h.length l i (h ++ ys) v:=by
 refine Lk hE.Zo rfl (Crit15.movable _ _) (by simp) ?_
 have q1:=fun x => A0o hE (hl.app x) hs i
 have aa:=hl.cv
 have a9:=hl.one
 simp only [Ai]
 cases hb:isP l i
 ·rw [hb] at q1
  (repeat' simp -dsimp (disch:=omega) only [↓EA,EB,Nat.reduceEqDiff,Nat.reduceAdd,↓reduceIte,reduceCtorEq,Ab,eq_self, *])
  refine ⟨⟨_,rfl⟩,_,rfl,.cons ?_ (.cons ?_ (.cons ?_ .nil))⟩
  ·unfold crL;rw [hb];exact ⟨⟨[],rfl,OwnT.nil.rdO,fun p hp => by cases hp⟩⟩
  ·unfold crA;rw [hb];rfl
  ·unfold plX;rw [hb];rfl
 ·rw [hb] at q1
  have q2:=fun x => Aww hE (hl.app x) hs hb
  have q3:=fun x => Aqz hE (hl.app x) hs hb
  obtain ⟨d,a6,e⟩:=R7 hb
  have hv:=S7 hb
  have few:=f.few hv d
  have a0:=(Fv (i:=i) e d l.length (Nat.le_refl _)).1
  have o:startP l i = 1 + mostJ l i l.length:=rfl
  have a3:=e _ (Al d.1 d.2)
  obtain ⟨z,a2⟩:=a3
  simp only [Am,C9] at z a2
  obtain ⟨a7,a8⟩:=d
  have a5:1 ≤ startP l i ∧ startP l i ≤ 2147483648:=by omega
  obtain ⟨⟨b1,b2⟩,b3,b4⟩:=Aoc (i:=i) e (Nat.le_refl l.length)
  have a:A9 l i = if (blkN l i l.length).2 = true then [⟨(blkN l i l.length).1,startP l i - 1,startP l i - 1,(atI l (blkN l i l.length).1).Q,[(atI l (blkN l i l.length).1).Q]⟩] else []:=rfl
  have hQ:0 ≤ blkI l i l.length → (1 ≤ (atI l (blkI l i l.length)).Q ∧ (atI l (blkI l i l.length)).Q ≤ 2147483647):=fun h2 => by
   have h3:=(e _ (Al (l:=l) (i:=blkI l i l.length) h2 (by omega))).1
   simp only [Am] at h3
   omega
  have c:=Hid.mk (fun (v':Value) (LV':List (NV Job)) (h':Aa) (j:Fr) => Aiq hE hl hb few (v:=v') (LV:=LV') (hh:=h') (fr:=j))
  generalize hR:(C.seq (C.drw [0,1,4,6,7] 1 _) _) = R
  have y:R = Gl 7 c_ref15_Critical.body:=by rw [← hR];rfl
  have HR:=Hid.mk y
  clear hR y a0 o z a2 e few
  have S0:SR h 0 (.slice none 0 0) [] [] (h ++ [.cells [.slice none 0 0,.int .i64 0,.int .i64 0] false] ++ [.cells [.slice none 0 0,.int .i64 0,.int .i64 0] false]) :=
   ⟨by simp,(Pre.app h _).app' _,by rw [List.append_assoc,Bh];rfl,by rw [List.append_assoc,Jr];rfl,OwnT.nil,rfl,fun p hp => by cases hp⟩
  have a1:=Hid.mk S0
  clear S0
  by_cases n:blkI l i l.length < 0
  ·rw [if_neg (by rw [b3.2 n];decide)] at a
   have g:=Hid.mk a
   clear a b3 b4 hQ
   generalize startP l i = s at *
   generalize blkI l i l.length = bk at *
   (repeat' (first | (with_reducible refine A3 (fun _ => ?_) (fun _ => ?_) <;> try (exfalso;omega)) | simp -dsimp (disch:=omega) only [↓EA,EB,Nat.reduceEqDiff,Nat.reduceAdd,↓reduceIte,reduceCtorEq,Ab,eq_self, *]))
   rw [HR.out]
   refine c.out (.slice none 0 0) [] _ _ (by rw [g.out];simpa using a1.out) rfl rfl rfl rfl rfl
  ·have r:0 ≤ blkI l i l.length:=by omega
   have e1:=b4 r
   rw [if_pos (by cases hbb:(blkN l i l.length).2 with
    | true => rfl
    | false => exact absurd (b3.1 hbb) n),e1] at a
   have m:=Hid.mk (fun (hh':Aa) (v':Value) (j:Fr) (Q':Ex → Fr → Aa → Prop) => Aez hE hl (k:=blkI l i l.length) ⟨r,b2⟩ a5 (hh:=hh') (v:=v') (fr:=j) (vi:=.int .i64 i) (Q:=Q'))
   have g:=Hid.mk a
   generalize hX:(C.seq (C.drw [0,1,4,6,7] 2 _) _) = X
   have u:X = Aru (Gl 6 c_ref15_Critical.body):=by rw [← hX];rfl
   have HX:=Hid.mk u
   clear a b3 b4 hQ e1 hX u
   generalize startP l i = s at *
   generalize blkI l i l.length = bk at *
   (repeat' simp -dsimp (disch:=omega) only [↓EA,EB,Nat.reduceEqDiff,Nat.reduceAdd,↓reduceIte,reduceCtorEq,Ab,eq_self, *])
   rw [HX.out]
   refine m.out _ _ _ _ (by simpa using a1.out) rfl rfl rfl rfl rfl rfl fun j h' v' LV' q0 a4 q4 q6 q7 S3 => ?_
   dsimp only
   rw [HR.out]
   rw [← g.out] at S3
   refine c.out v' LV' _ _ ?_ q0 a4 q4 q6 q7
   rw [show ((A9 l i).length:Int) = 1 by rw [g.out];rfl]
   exact S3
end Go.L.Try
