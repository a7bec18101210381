/- PLACES BY RELEASES: stream.Order, of few jobs (an insertion sort). -/
import Derived.Test.YtnanlkamcgihlaaDoorPd
set_option linter.unusedVariables false
set_option linter.unusedSimpArgs false
set_option maxRecDepth 100000
set_option maxHeartbeats 2000000
namespace Go.L.Try
open Go Go.L
variable {E:Env}
def Nu (x y:Int):Int:=if x < y then -1 else if y < x then 1 else 0
theorem Ak1 (hE:As E) (h:Aa) (x y:Int):callW E (.func (.func Dj) #[] #[]) [.int .i64 x,.int .i64 y] h = some (.int .i64 (Nu x y),h,[]):=by
 have a:∀ (h:Aa) (x:Int),callW E (.func (.func C8) #[] #[]) [.int .i64 x] h = some (.bool false,h,[]):=fun h x => by
  refine Ak hE.Yh rfl (by simp) ?_
  simp -dsimp (disch:=omega) only [↓EA,EB,Nat.reduceEqDiff,↓reduceIte,reduceCtorEq,eq_self,Ai]
 refine Ak hE.V2 rfl (by simp) ?_
 simp only [Ai]
 (repeat' (first | (with_reducible refine A3 (fun _ => ?_) (fun _ => ?_) <;> try (exfalso;omega)) | simp -dsimp (disch:=omega) only [↓EA,EB,Nat.reduceEqDiff,↓reduceIte,reduceCtorEq,eq_self, *]))
 ·simp [Nu, *]
 ·have:¬ x < y:=by omega
  simp [Nu, *]
 ·have:¬ x < y:=by omega
  have:¬ y < x:=by omega
  simp [Nu, *]
def X2 (E:Env) (h0:Aa) (cv:Value) (key:Int → Int) (n:Nat):Prop:=∀ hh,Pre h0 hh → ∀ a b:Int,0 ≤ a → a < n → 0 ≤ b → b < n → callW E cv [.int .i64 a,.int .i64 b] hh = some (.int .i64 (Nu (key a) (key b)),hh,[])
def leK (key:Int → Int) (x y:Int):Prop:=key x < key y ∨ (key x = key y ∧ x < y)
theorem Aao {key:Int → Int} {S:List Int} {x:Int} {j:Nat} (hS:S.Pairwise (leK key)) (hx:∀ y ∈ S,key y = key x → y < x) (hj:j ≤ S.length) (hd:∀ y ∈ S.drop j,key x < key y) (hs:0 < j → ¬ key x < key (atI S ((j:Int) - 1))):(S.take j ++ x :: S.drop j).Pairwise (leK key):=by
 have f:=hS
 rw [← List.take_append_drop j S,List.pairwise_append] at hS
 obtain ⟨n,h2,l⟩:=hS
 have c:∀ y ∈ S.take j,leK key y x:=fun y a => by
  have d:=List.mem_of_mem_take a
  have g:0 < j:=by
   rcases Nat.eq_zero_or_pos j with e | e
   ·subst e;simp at a
   ·exact e
  have o:key y ≤ key (atI S ((j:Int) - 1)):=by
   obtain ⟨k,m,rfl⟩:=List.getElem_of_mem a
   rw [List.length_take] at m
   rw [List.getElem_take]
   rw [show ((j:Int) - 1) = ((j - 1:Nat):Int) by omega,B8 (by omega)]
   by_cases e:k = j - 1
   ·subst e;exact Int.le_refl _
   ·have:=List.pairwise_iff_getElem.1 f k (j - 1) (by omega) (by omega) (by omega)
    unfold leK at this;omega
  have:=hs g
  unfold leK
  by_cases e:key y = key x
  ·exact .inr ⟨e,hx y d e⟩
  ·left;omega
 refine List.pairwise_append.2 ⟨n,List.pairwise_cons.2 ⟨fun y a => .inl (hd y a),h2⟩,fun y a z hz => ?_⟩
 rcases List.mem_cons.1 hz with rfl | hz
 ·exact c y a
 ·exact l y a z hz
theorem Ach {P S R:List Int} {x:Int} {j:Nat} (hj:0 < j) (hl:j ≤ S.length) :
  ((P ++ (S.take j ++ x :: S.drop j) ++ R).set (P.length + j) (atI S ((j:Int) - 1))).set (P.length + j - 1) x = P ++ (S.take (j - 1) ++ x :: S.drop (j - 1)) ++ R:=by
 obtain ⟨k,rfl⟩:∃ k,j = k + 1:=⟨j - 1,by omega⟩
 have a:k < S.length:=by omega
 have d:S.take (k + 1) = S.take k ++ [S[k]]:=by rw [List.take_succ_eq_append_getElem a]
 have g:S.drop k = S[k] :: S.drop (k + 1):=List.drop_eq_getElem_cons a
 have e:atI S (((k + 1:Nat):Int) - 1) = S[k]:=by rw [show (((k + 1:Nat):Int) - 1) = (k:Int) by omega,B8 a]
 rw [e,d,show k + 1 - 1 = k from rfl,g]
 have c:(S.take k).length = k:=by rw [List.length_take];omega
 have f:P ++ (S.take k ++ [S[k]] ++ x :: S.drop (k + 1)) ++ R = (P ++ S.take k) ++ (S[k] :: x :: (S.drop (k + 1) ++ R)):=by simp only [List.append_assoc,List.cons_append,List.nil_append]
 rw [f,List.set_append_right _ _ (by simp;omega)]
 rw [show P.length + (k + 1) - (P ++ S.take k).length = 1 by rw [LA,c];omega,List.set_cons_succ,List.set_cons_zero]
 rw [show P.length + (k + 1) - 1 = P.length + k by omega,List.set_append_right _ _ (by simp;omega),show P.length + k - (P ++ S.take k).length = 0 by rw [LA,c];omega,List.set_cons_zero]
 simp only [List.append_assoc,List.cons_append]
theorem Mi {P R:List Int} {x:Int} {i:Int} (h:i = P.length):atI (P ++ x :: R) i = x:=by
 subst h
 unfold atI
 rw [List.getD_eq_getElem?_getD,Int.toNat_natCast,List.getElem?_append_right (Nat.le_refl _),Nat.sub_self];rfl
theorem Axw (hE:As E) {h0 h:Aa} {b cap n:Nat} {P M T:List Int} {key:Int → Int} {cv:Value} (hb:h[b]? = some (Ad (P ++ M ++ T))) (hp:Pre h0 h) (hbm:h0.length ≤ b) (hc:X2 E h0 cv key n) (hin:∀ x ∈ M,0 ≤ x ∧ x < n) (hpre:M.Pairwise fun x y => key x = key y → x < y) (hfew:(P ++ M ++ T).length ≤ 1048576) {W:Nat → Prop} (hW:W b) :
  WX W (callW E (.func (.func Ao) #[] #[]) [.slice (some ⟨b,0,none⟩) (P ++ M ++ T).length cap,.int .i64 P.length,.int .i64 ((P.length:Int) + M.length),cv] h) (fun _ h' => ∃ M',M'.Perm M ∧ M'.Pairwise (leK key) ∧ h' = h.set b (Ad (P ++ M' ++ T))):=by
 refine E8 hE.Jy rfl (by simp) ?_
 simp only [List.nil_append,List.cons_append,Ai]
 have ae:=(GI.1 hb).1
 have a0:(P ++ M ++ T).length = P.length + M.length + T.length:=by simp only [LA]
 rw [a0] at hfew ⊢
 have aq:(P.length:Int) + M.length + T.length ≤ 1048576:=by omega
 have af:=Dw hb
 have ab:=Hid.mk hin
 have ag:=Hid.mk hpre
 have Hc:=Hid.mk hc
 clear hin hpre a0 hc
 (repeat' simp -dsimp (disch:=omega) only [↓EA,EB,Nat.reduceEqDiff,Nat.reduceAdd,↓reduceIte,reduceCtorEq,eq_self, *])
 refine WO.loop (fun (S:List Int) fr h' => h' = h.set b (Ad (P ++ (S ++ M.drop S.length) ++ T)) ∧ (M = [] ∨ (S.length ≤ M.length ∧ 1 ≤ S.length)) ∧ S.Perm (M.take S.length) ∧ S.Pairwise (leK key) ∧ get fr 0 = .slice (some ⟨b,0,none⟩) (P.length + M.length + T.length) cap ∧ get fr 1 = .int .i64 P.length ∧ get fr 2 = .int .i64 ((P.length:Int) + M.length) ∧ get fr 3 = cv ∧ get fr 8 = .int .i64 ((P.length:Int) + ((max 1 S.length:Nat):Int))) (fun S => M.length - S.length) ?_ (M.take 1) ?_
 ·rintro S fr h' ⟨rfl,v,a,m,g0,g1,g2,g3,g8⟩
  unfold Dk
  by_cases ac:max 1 S.length < M.length
  ·have as:S.length ≤ M.length ∧ 1 ≤ S.length:=by rcases v with e | e;subst e;simp at ac;exact e
   have a2:S.length < M.length:=by omega
   have a8:max 1 S.length = S.length:=by omega
   have hd:M.drop S.length = M[S.length] :: M.drop (S.length + 1):=List.drop_eq_getElem_cons a2
   obtain ⟨x,hx⟩:∃ x,x = M[S.length]:=⟨_,rfl⟩
   have am:x ∈ M:=by rw [hx];exact List.getElem_mem _
   rw [hd,← hx]
   rw [a8] at g8
   have ak:=ab.out x am
   have a1:∀ y ∈ S,0 ≤ y ∧ y < n:=fun y hy => ab.out y (List.mem_of_mem_take (a.mem_iff.1 hy))
   have a5:∀ y ∈ S,key y = key x → y < x:=fun y hy => by
    have ao:=a.mem_iff.1 hy
    obtain ⟨k,hk,rfl⟩:=List.getElem_of_mem ao
    rw [List.length_take] at hk
    rw [List.getElem_take,hx]
    exact List.pairwise_iff_getElem.1 ag.out k S.length (by omega) a2 (by omega)
   have t:∀ j:Nat,j ≤ S.length → (∀ y ∈ S.drop j,key x < key y) → (0 < j → ¬ key x < key (atI S ((j:Int) - 1))) → (S.take j ++ x :: S.drop j).length = S.length + 1 ∧ (S.take j ++ x :: S.drop j).Perm (M.take (S.length + 1)) ∧ (S.take j ++ x :: S.drop j).Pairwise (leK key):=fun j hj h1 h2 => by
    refine ⟨by simp only [LA,List.length_cons,List.length_take,List.length_drop];omega,?_,Aao m a5 hj h1 h2⟩
    rw [List.take_succ_eq_append_getElem a2,← hx]
    refine List.Perm.trans List.perm_middle ?_
    rw [List.take_append_drop]
    exact (a.cons x).trans (List.perm_append_singleton x _).symm
   have p:=Hid.mk t
   clear t
   have ax:=Hid.mk a5
   have ah:=Hid.mk a1
   have av:=Hid.mk a
   have ar:=Hid.mk m
   have Hx:=Hid.mk hx
   have Hd:=Hid.mk hd
   clear a m v a8 a5 a1 hx hd
   (repeat' (first | (with_reducible refine A3 (fun _ => ?_) (fun _ => ?_) <;> try (exfalso;omega)) | simp -dsimp (disch:=omega) only [↓EA,EB,Nat.reduceEqDiff,↓reduceIte,reduceCtorEq,eq_self, *]))
   have e0:P ++ (S ++ x :: (M.drop (S.length + 1) ++ T)) = P ++ (S.take S.length ++ x :: S.drop S.length) ++ (M.drop (S.length + 1) ++ T):=by simp
   rw [e0]
   refine WO.loop (fun (j:Nat) fr h' => h' = h.set b (Ad (P ++ (S.take j ++ x :: S.drop j) ++ (M.drop (S.length + 1) ++ T))) ∧ j ≤ S.length ∧ (∀ y ∈ S.drop j,key x < key y) ∧ get fr 0 = .slice (some ⟨b,0,none⟩) (P.length + M.length + T.length) cap ∧ get fr 1 = .int .i64 P.length ∧ get fr 2 = .int .i64 ((P.length:Int) + M.length) ∧ get fr 3 = cv ∧ get fr 8 = .int .i64 ((P.length:Int) + S.length) ∧ get fr 9 = .int .i64 ((P.length:Int) + j)) (fun j => j) ?_ S.length ⟨rfl,Nat.le_refl _,by simp,rfl,rfl,rfl,rfl,rfl,rfl⟩
   rintro j fr h' ⟨rfl,a7,ad,g0,g1,g2,g3,g8,g9⟩
   unfold Dl
   have a6:=Hid.mk ad
   clear ad
   have aa:(P ++ (S.take j ++ x :: S.drop j) ++ (M.drop (S.length + 1) ++ T)).length = P.length + M.length + T.length:=by
    simp only [LA,List.length_cons,List.length_take,List.length_drop];omega
   have ai:atI (P ++ (S.take j ++ x :: S.drop j) ++ (M.drop (S.length + 1) ++ T)) ((P.length:Int) + j) = x:=by
    have e5:P ++ (S.take j ++ x :: S.drop j) ++ (M.drop (S.length + 1) ++ T) = (P ++ S.take j) ++ x :: (S.drop j ++ (M.drop (S.length + 1) ++ T)):=by simp
    rw [e5,Mi];rw [LA,List.length_take];omega
   have s:0 < j → atI (P ++ (S.take j ++ x :: S.drop j) ++ (M.drop (S.length + 1) ++ T)) ((P.length:Int) + j - 1) = atI S ((j:Int) - 1):=fun g => by
    obtain ⟨k,rfl⟩:∃ k,j = k + 1:=⟨j - 1,by omega⟩
    have hk:k < S.length:=by omega
    have e5:P ++ (S.take (k + 1) ++ x :: S.drop (k + 1)) ++ (M.drop (S.length + 1) ++ T) = (P ++ S.take k) ++ S[k] :: (x :: S.drop (k + 1) ++ (M.drop (S.length + 1) ++ T)):=by
     rw [List.take_succ_eq_append_getElem hk];simp only [List.append_assoc,List.cons_append,List.nil_append]
    rw [e5,Mi (by rw [LA,List.length_take];omega),show (((k + 1:Nat):Int) - 1) = (k:Int) by omega,B8 hk]
   have r:=fun g => Ach (P:=P) (S:=S) (R:=M.drop (S.length + 1) ++ T) (x:=x) (j:=j) g a7
   generalize hA:P ++ (S.take j ++ x :: S.drop j) ++ (M.drop (S.length + 1) ++ T) = A at *
   have a3:Pre h0 (h.set b (Ad A)):=hp.set hbm _
   have aw:(h.set b (Ad A))[b]? = some (Ad A):=Bq ae
   have aj:((A.length:Nat):Int) = (P.length:Int) + M.length + T.length:=by omega
   have au:(j:Int) ≤ S.length ∧ (S.length:Int) < M.length ∧ (0:Int) ≤ P.length ∧ (0:Int) ≤ T.length:=by omega
   have HA:=Hid.mk hA
   have a4:=Hid.mk r
   have ay:=Hid.mk aa
   have u:=Hid.mk aj
   clear hA r aa aj
   by_cases g:0 < j
   ·have d:=s g
    have an:atI S ((j:Int) - 1) ∈ S:=Al (by omega) (by omega)
    have a9:=ah.out _ an
    have al:=Hc.out _ a3 x (atI S ((j:Int) - 1)) ak.1 ak.2 a9.1 a9.2
    have i1:=Cn (size:=1) (n:=P.length + M.length + T.length) (c:=cap) (b:=b) (o:=0) (sp:=none) (k:=.i64) (j:=(P.length:Int) + j) (by omega) (by omega)
    have i2:=Cn (size:=1) (n:=P.length + M.length + T.length) (c:=cap) (b:=b) (o:=0) (sp:=none) (k:=.i64) (j:=(P.length:Int) + j - 1) (by omega) (by omega)
    have l1:=Ed (l:=A) (i:=(P.length:Int) + j) (by omega) (by rw [u.out];omega)
    have l2:=Ed (l:=A) (i:=(P.length:Int) + j - 1) (by omega) (by rw [u.out];omega)
    rw [ai] at l1
    rw [d] at l2
    generalize hy:atI S ((j:Int) - 1) = y at *
    by_cases f:key x < key y
    ·have h3:Nu (key x) (key y) = -1:=by simp [Nu,f]
     rw [h3] at al
     have s1:=Ix (h:=h.set b (Ad A)) (b:=b) (l:=A) (i:=(P.length:Int) + j) (x:=y) (by omega) (by rw [u.out];omega)
     have s2:=Ix (h:=h.set b (Ad (A.set ((P.length:Int) + j).toNat y))) (b:=b) (l:=A.set ((P.length:Int) + j).toNat y) (i:=(P.length:Int) + j - 1) (x:=x) (by omega) (by rw [List.length_set,u.out];omega)
     have ap:(h.set b (Ad (A.set ((P.length:Int) + j).toNat y)))[b]? = some (Ad (A.set ((P.length:Int) + j).toNat y)):=Bq ae
     rw [Nat.mul_one] at l1 l2 s1 s2
     clear s d
     (repeat' (first | (with_reducible refine A1 (fun _ => ?_) (fun _ => ?_) <;> try (exfalso;omega)) | (with_reducible refine A3 (fun _ => ?_) (fun _ => ?_) <;> try (exfalso;omega)) | simp -dsimp (disch:=omega) only [↓EA,EB,Nat.reduceEqDiff,↓reduceIte,reduceCtorEq,eq_self, *,List.set_set,Nat.mul_one]))
     refine Next.mk (j - 1) ⟨?_,by omega,?_,rfl,rfl,rfl,rfl,rfl,by simp only [get];simp;omega⟩ (by omega)
     ·have:=a4.out g
      rw [show ((P.length:Int) + j).toNat = P.length + j by omega,show ((P.length:Int) + j - 1).toNat = P.length + j - 1 by omega,this]
     ·intro z hz
      rw [show j - 1 = j - 1 from rfl,List.drop_eq_getElem_cons (by omega:j - 1 < S.length)] at hz
      rcases List.mem_cons.1 hz with rfl | hz
      ·have e6:y = S[j - 1]:=by rw [← hy,show ((j:Int) - 1) = ((j - 1:Nat):Int) by omega,B8 (by omega)]
       rw [← e6];exact f
      ·rw [show j - 1 + 1 = j by omega] at hz;exact a6.out z hz
    ·have h3:¬ Nu (key x) (key y) < 0:=by unfold Nu;rw [if_neg f];split <;> decide
     clear s d
     rw [Nat.mul_one] at l1 l2
     (repeat' (first | (with_reducible refine A1 (fun _ => ?_) (fun _ => ?_) <;> try (exfalso;omega)) | simp -dsimp (disch:=omega) only [↓EA,EB,Nat.reduceEqDiff,↓reduceIte,reduceCtorEq,eq_self, *,Nat.mul_one]))
     obtain ⟨d1,d2,d3⟩:=p.out j a7 a6.out (fun _ => by rw [hy];exact f)
     refine Next.mk (S.take j ++ x :: S.drop j) ⟨?_,.inr ⟨by omega,by omega⟩,by rw [d1];exact d2,d3,rfl,rfl,rfl,rfl,?_⟩ (by omega)
     ·rw [d1,← HA.out];simp only [List.append_assoc,List.cons_append]
     ·rw [d1];simp only [get];simp;omega
   ·(repeat' (first | (with_reducible refine A1 (fun _ => ?_) (fun _ => ?_) <;> try (exfalso;omega)) | simp -dsimp (disch:=omega) only [↓EA,EB,Nat.reduceEqDiff,↓reduceIte,reduceCtorEq,eq_self, *]))
    obtain ⟨d1,d2,d3⟩:=p.out j a7 a6.out (fun h => absurd h g)
    refine Next.mk (S.take j ++ x :: S.drop j) ⟨?_,.inr ⟨by omega,by omega⟩,by rw [d1];exact d2,d3,rfl,rfl,rfl,rfl,?_⟩ (by omega)
    ·rw [d1,← HA.out];simp only [List.append_assoc,List.cons_append]
    ·rw [d1];simp only [get];simp;omega
  ·have he:S.length = M.length:=by
    have h5:=a.length_eq
    rw [List.length_take] at h5
    rcases v with e | e
    ·subst e;simp at h5 ⊢;omega
    ·omega
   have h6:M.drop S.length = []:=List.drop_of_length_le (by omega)
   rw [he,List.take_length] at a
   have Hf:=Hid.mk (AI a m)
   have He:=Hid.mk he
   have a8:¬ ((P.length:Int) + ((max 1 S.length:Nat):Int) < (P.length:Int) + M.length):=by omega
   clear a m he v
   (repeat' simp -dsimp (disch:=omega) only [↓EA,EB,Nat.reduceEqDiff,↓reduceIte,reduceCtorEq,eq_self, *])
   exact ⟨S,Hf.out.1,Hf.out.2,rfl⟩
 ·have e1:(M.take 1).length = min 1 M.length:=List.length_take ..
  have e2:M.take 1 ++ M.drop (M.take 1).length = M:=by
   rcases M with _ | ⟨x,M⟩
   ·rfl
   ·rfl
  refine ⟨by rw [e2,af],?_,?_,?_,rfl,rfl,rfl,rfl,?_⟩
  ·rcases M with _ | ⟨x,M⟩
   ·exact .inl rfl
   ·exact .inr ⟨by simp,by simp⟩
  ·rcases M with _ | ⟨x,M⟩
   ·exact List.Perm.refl _
   ·exact List.Perm.refl _
  ·rcases M with _ | ⟨x,M⟩
   ·exact List.Pairwise.nil
   ·exact List.pairwise_singleton _ _
  ·have:max 1 (M.take 1).length = 1:=by omega
   rw [this];rfl
theorem Aa9 {g:FuncId} {c:FnC} (hf:E g = .text c) (a b:Array Value) (args:List Value) (h:Aa):callW E (.func (.func g) a b) args h = callW E (.func (.func g) #[] #[]) (a.toList ++ args ++ b.toList) h:=by
 rw [Qc hf,Qb hf]
theorem Avo (hE:As E) {h:Aa} {bx:Nat} {vj:Value} {lv:List (NV Job)} (hb:h[bx]? = some (.cells [vj] false)) (hj:Rd 5 (Du hdJ) h vj lv) {a b:Int} (ha:0 ≤ a ∧ a < lv.length) (hb2:0 ≤ b ∧ b < lv.length) :
  callW E (.func (.func C7) #[] #[.pointer (some ⟨bx,0,none⟩)]) [.int .i64 a,.int .i64 b] h = some (.int .i64 (Nu (atI lv a).j.release (atI lv b).j.release),h,[]):=by
 rw [Aa9 hE.Qr]
 have d:=fun c => Ak1 hE c (atI lv a).j.release (atI lv b).j.release
 refine Ak hE.Qr rfl (by simp) ?_
 simp only [List.nil_append,List.cons_append,Ai]
 (repeat' simp -dsimp (disch:=omega) only [↓EA,EB,Nat.reduceEqDiff,Nat.reduceAdd,↓reduceIte,reduceCtorEq,eq_self, *,hj.ixs,hj.ld,Du,hdJ])
def Y0 (i n:Nat):List Int:=(List.range i).map Int.ofNat ++ List.replicate (n - i) 0
theorem Arf {i n:Nat} (h:i ≤ n):(Y0 i n).length = n:=by simp [Y0];omega
theorem Are {i n:Nat} (h:i < n):(Y0 i n).set i (i:Int) = Y0 (i + 1) n:=by
 unfold Y0
 rw [List.set_append_right _ _ (by simp),List.length_map,List.length_range,Nat.sub_self,show n - i = (n - (i + 1)) + 1 by omega,List.replicate_succ,List.set_cons_zero,List.range_succ,List.map_append]
 simp
def ltR (jobs:List Job) (a b:Nat):Prop:=(atI jobs (a:Int)).release < (atI jobs (b:Int)).release ∨ ((atI jobs (a:Int)).release = (atI jobs (b:Int)).release ∧ a < b)
end Go.L.Try
namespace Go.L.Try
open Go Go.L
theorem Yk {α : Type} {U V:List α} {x y:α} {k:Nat} (h:k = U.length):(U ++ x :: V).set k y = U ++ y :: V:=by
 subst h
 rw [List.set_append_right _ _ (Nat.le_refl _),Nat.sub_self,List.set_cons_zero]
theorem Pa {l:List Int} {i:Nat} (h:i < l.length):l.drop i = atI l (i:Int) :: l.drop (i + 1):=by
 rw [B8 h];exact List.drop_eq_getElem_cons h
theorem take_snoc {l:List Int} {i:Nat} (h:i < l.length):l.take (i + 1) = l.take i ++ [atI l (i:Int)]:=by
 rw [B8 h];exact List.take_succ_eq_append_getElem h
def swA (P X M Y T:List Int) (i:Nat):List Int:=P ++ (Y.take i ++ X.drop i) ++ M ++ (X.take i ++ Y.drop i) ++ T
theorem Awr {P X M Y T:List Int} {i:Nat} (h:X.length = Y.length) (hi:i ≤ X.length):(swA P X M Y T i).length = P.length + X.length + M.length + Y.length + T.length:=by
 unfold swA
 simp only [LA,List.length_take,List.length_drop];omega
theorem A1k {P X M Y T:List Int}:swA P X M Y T 0 = P ++ X ++ M ++ Y ++ T:=by simp [swA]
theorem Aws {P X M Y T:List Int} {n:Nat} (hx:n = X.length) (hy:n = Y.length):swA P X M Y T n = P ++ Y ++ M ++ X ++ T:=by
 have d:X.take n = X:=List.take_of_length_le (by omega)
 have e:Y.take n = Y:=List.take_of_length_le (by omega)
 have a:X.drop n = []:=List.drop_of_length_le (by omega)
 have c:Y.drop n = []:=List.drop_of_length_le (by omega)
 simp only [swA,d,e,a,c,List.append_nil]
theorem T1 {P X M Y T:List Int} {i:Nat} (hx:i < X.length) (hy:i < Y.length):swA P X M Y T i = (P ++ Y.take i) ++ atI X (i:Int) :: (X.drop (i + 1) ++ M ++ X.take i ++ atI Y (i:Int) :: (Y.drop (i + 1) ++ T)):=by
 unfold swA
 rw [Pa hx,Pa hy]
 simp only [List.append_assoc,List.cons_append]
theorem Awu {P X M Y T:List Int} {i:Nat} (hx:i < X.length) (hy:i < Y.length):atI (swA P X M Y T i) ((P.length:Int) + i) = atI X (i:Int):=by
 rw [T1 hx hy,Mi];rw [LA,List.length_take];omega
theorem Y8 {P X M Y T:List Int} {i:Nat} {z:Int}:(P ++ Y.take i) ++ z :: (X.drop (i + 1) ++ M ++ X.take i ++ atI Y (i:Int) :: (Y.drop (i + 1) ++ T)) = (P ++ Y.take i ++ z :: (X.drop (i + 1) ++ M ++ X.take i)) ++ atI Y (i:Int) :: (Y.drop (i + 1) ++ T):=by
 simp only [List.append_assoc,List.cons_append]
theorem Afi {P X M Y:List Int} {i:Nat} {z:Int} (hx:i < X.length) (hy:i < Y.length):(P ++ Y.take i ++ z :: (X.drop (i + 1) ++ M ++ X.take i)).length = P.length + X.length + M.length + i:=by
 simp only [LA,List.length_cons,List.length_take,List.length_drop];omega
theorem Awt {P X M Y T:List Int} {i:Nat} (hx:i < X.length) (hy:i < Y.length):atI (swA P X M Y T i) ((P.length:Int) + X.length + M.length + i) = atI Y (i:Int):=by
 rw [T1 hx hy,Y8,Mi];rw [Afi hx hy];omega
theorem Ary {P X M Y T:List Int} {i:Nat} (hx:i < X.length) (hy:i < Y.length) :
  ((swA P X M Y T i).set (P.length + i) (atI Y (i:Int))).set (P.length + X.length + M.length + i) (atI X (i:Int)) = swA P X M Y T (i + 1):=by
 rw [T1 hx hy,Yk (by rw [LA,List.length_take];omega),Y8,Yk (by rw [Afi hx hy])]
 unfold swA
 rw [take_snoc hx,take_snoc hy]
 simp only [List.append_assoc,List.cons_append,List.nil_append]
theorem Awq {P S R:List Int} {x:Int} {j:Nat} (hl:j < S.length) :
  ((P ++ (S.take j ++ x :: S.drop j) ++ R).set (P.length + j) (atI S (j:Int))).set (P.length + j + 1) x = P ++ (S.take (j + 1) ++ x :: S.drop (j + 1)) ++ R:=by
 rw [Pa hl,take_snoc hl]
 have c:∀ y z:Int,P ++ (S.take j ++ y :: z :: S.drop (j + 1)) ++ R = (P ++ S.take j) ++ y :: (z :: S.drop (j + 1) ++ R):=fun y z => by simp only [List.append_assoc,List.cons_append]
 have a:∀ y z:Int,(P ++ S.take j) ++ y :: (z :: S.drop (j + 1) ++ R) = (P ++ S.take j ++ [y]) ++ z :: (S.drop (j + 1) ++ R):=fun y z => by simp only [List.append_assoc,List.cons_append,List.nil_append]
 rw [c,Yk (by rw [LA,List.length_take];omega),a,Yk (by simp only [LA,List.length_take,List.length_cons,List.length_nil];omega)]
 simp only [List.append_assoc,List.cons_append,List.nil_append]
theorem Mp {key:Int → Int} {A:List Int} (hA:A.Pairwise (leK key)) {i j:Nat} (h1:i ≤ j) (h2:j < A.length):key (atI A (i:Int)) ≤ key (atI A (j:Int)):=by
 rw [B8 h2,B8 (by omega)]
 by_cases e:i = j
 ·subst e;exact Int.le_refl _
 ·have:=List.pairwise_iff_getElem.1 hA i j (by omega) h2 (by omega)
  unfold leK at this;omega
theorem Ry {l:List Int} {k:Nat} {x:Int} (h:x ∈ l.take k):∃ i:Nat,i < k ∧ i < l.length ∧ x = atI l (i:Int):=by
 obtain ⟨i,a,rfl⟩:=List.getElem_of_mem h
 rw [List.length_take] at a
 exact ⟨i,by omega,by omega,by rw [List.getElem_take,B8 (by omega)]⟩
theorem N0 {l:List Int} {k:Nat} {x:Int} (h:x ∈ l.drop k):∃ i:Nat,k ≤ i ∧ i < l.length ∧ x = atI l (i:Int):=by
 obtain ⟨i,a,rfl⟩:=List.getElem_of_mem h
 rw [List.length_drop] at a
 exact ⟨k + i,by omega,by omega,by rw [List.getElem_drop,B8 (by omega)]⟩
theorem Uz {r:Int → Int → Prop} {l:List Int} (h:l.Pairwise r) (k:Nat):(l.take k).Pairwise r:=h.sublist (List.take_sublist k l)
theorem Vw {r:Int → Int → Prop} {l:List Int} (h:l.Pairwise r) (k:Nat):(l.drop k).Pairwise r:=h.sublist (List.drop_sublist k l)
theorem Axc {key:Int → Int} {A B:List Int} (hA:A.Pairwise (leK key)) (hB:B.Pairwise (leK key)) (hst:∀ x ∈ A,∀ y ∈ B,key x = key y → x < y) {mid s:Nat} (hm:mid = (A.length + B.length) / 2)
  (h1:mid - B.length ≤ s) (h2:s ≤ A.length) (h3:s ≤ mid) (i1:mid - B.length < s → ¬ key (atI B ((mid - s:Nat):Int)) < key (atI A ((s - 1:Nat):Int))) (i2:s < A.length → s < mid → key (atI B ((mid - 1 - s:Nat):Int)) < key (atI A (s:Int))) :
  (∀ x ∈ A.take s ++ B.take (mid - s),∀ y ∈ A.drop s ++ B.drop (mid - s),leK key x y):=by
 intro x hx y hy
 rcases List.mem_append.1 hx with hx | hx <;> rcases List.mem_append.1 hy with hy | hy
 ·rw [← List.take_append_drop s A] at hA
  exact (List.pairwise_append.1 hA).2.2 x hx y hy
 ·have a:=List.mem_of_mem_take hx
  have c:=List.mem_of_mem_drop hy
  obtain ⟨i,p,g,rfl⟩:=Ry hx
  obtain ⟨j,f,l,rfl⟩:=N0 hy
  have d:=i1 (by omega)
  have m:=Mp hA (i:=i) (j:=s - 1) (by omega) (by omega)
  have n:=Mp hB (i:=mid - s) (j:=j) (by omega) (by omega)
  have o:=hst _ a _ c
  unfold leK
  by_cases e:key (atI A (i:Int)) = key (atI B (j:Int))
  ·exact .inr ⟨e,o e⟩
  ·left;omega
 ·obtain ⟨j,f,l,rfl⟩:=Ry hx
  obtain ⟨i,p,g,rfl⟩:=N0 hy
  have d:=i2 (by omega) (by omega)
  have m:=Mp hA (i:=s) (j:=i) (by omega) (by omega)
  have n:=Mp hB (i:=j) (j:=mid - 1 - s) (by omega) (by omega)
  left;omega
 ·rw [← List.take_append_drop (mid - s) B] at hB
  exact (List.pairwise_append.1 hB).2.2 x hx y hy
theorem Ap2 {key:Int → Int} {B:List Int} {x:Int} (hB:B.Pairwise (leK key)) (hst:∀ y ∈ B,key x = key y → x < y) {s:Nat} (hs:s ≤ B.length)
  (i1:0 < s → key (atI B ((s - 1:Nat):Int)) < key x) (i2:s < B.length → ¬ key (atI B (s:Int)) < key x):(B.take s ++ x :: B.drop s).Pairwise (leK key):=by
 refine List.pairwise_append.2 ⟨Uz hB s,List.pairwise_cons.2 ⟨fun y a => ?_,Vw hB s⟩,fun y a z hz => ?_⟩
 ·have c:=List.mem_of_mem_drop a
  obtain ⟨i,f,d,rfl⟩:=N0 a
  have g:=i2 (by omega)
  have l:=Mp hB f d
  have m:=hst _ c
  unfold leK
  by_cases e:key x = key (atI B (i:Int))
  ·exact .inr ⟨e,m e⟩
  ·left;omega
 ·rcases List.mem_cons.1 hz with rfl | hz
  ·obtain ⟨i,f,d,rfl⟩:=Ry a
   have g:=i1 (by omega)
   have l:=Mp hB (i:=i) (j:=s - 1) (by omega) (by omega)
   left;omega
  ·rw [← List.take_append_drop s B] at hB
   exact (List.pairwise_append.1 hB).2.2 y a z hz
inductive Blk (key:Int → Int) (bs:Nat):List Int → List Int → Prop
 | last {M L:List Int}:M.length ≤ bs → L.Perm M → L.Pairwise (leK key) → Blk key bs M L
 | cons {M1 L1 M2 L2:List Int}:M1.length = bs → L1.Perm M1 → L1.Pairwise (leK key) → Blk key bs M2 L2 → Blk key bs (M1 ++ M2) (L1 ++ L2)
theorem Blk.perm {key:Int → Int} {bs:Nat} {M L:List Int} (h:Blk key bs M L):L.Perm M:=by
 induction h with
 | last _ p _ => exact p
 | cons _ p _ _ ih => exact p.append ih
theorem Blk.len {key:Int → Int} {bs:Nat} {M L:List Int} (h:Blk key bs M L):L.length = M.length:=h.perm.length_eq
theorem Blk.first {key:Int → Int} {bs:Nat} {M L:List Int} (h:Blk key bs M L) (hl:bs ≤ M.length):∃ L1 L2,L = L1 ++ L2 ∧ L1.length = bs ∧ L1.Perm (M.take bs) ∧ L1.Pairwise (leK key) ∧ Blk key bs (M.drop bs) L2:=by
 cases h with
 | last h1 h2 a =>
  refine ⟨L,[],by rw [List.append_nil],by rw [h2.length_eq];omega,?_,a,?_⟩
  ·rw [List.take_of_length_le h1];exact h2
  ·rw [List.drop_of_length_le h1];exact .last (Nat.zero_le _) (List.Perm.refl _) .nil
 | cons h1 h2 a h4 =>
  refine ⟨_,_,rfl,by rw [h2.length_eq,h1],?_,a,?_⟩
  ·rw [List.take_append_of_le_length (by omega),List.take_of_length_le (by omega)];exact h2
  ·rw [List.drop_append_of_le_length (by omega),List.drop_of_length_le (by omega),List.nil_append];exact h4
theorem Blk.one {key:Int → Int} {bs:Nat} {M L:List Int} (h:Blk key bs M L) (hl:M.length ≤ bs):L.Perm M ∧ L.Pairwise (leK key):=by
 cases h with
 | last h1 h2 a => exact ⟨h2,a⟩
 | cons h1 h2 a h4 =>
  rename_i M1 L1 M2 L2
  have e:M2.length = 0:=by rw [LA] at hl;omega
  have d:M2 = []:=List.length_eq_zero_iff.1 e
  have c:L2 = []:=List.length_eq_zero_iff.1 (by rw [h4.len,e])
  subst d;subst c
  rw [List.append_nil,List.append_nil];exact ⟨h2,a⟩
def Dn (key:Int → Int) (bs:Nat) (M S:List Int):Prop:=S.length ≤ M.length ∧ ∀ L,Blk key bs (M.drop S.length) L → Blk key bs M (S ++ L)
theorem Dn.nil {key:Int → Int} {bs:Nat} {M:List Int}:Dn key bs M []:=⟨Nat.zero_le _,fun L h => by simpa using h⟩
theorem Dn.snoc {key:Int → Int} {bs:Nat} {M S N:List Int} (h:Dn key bs M S) (hl:S.length + bs ≤ M.length) (hp:N.Perm ((M.drop S.length).take bs)) (hs:N.Pairwise (leK key)):Dn key bs M (S ++ N):=by
 have c:N.length = bs:=by rw [hp.length_eq,List.length_take,List.length_drop];omega
 refine ⟨by rw [LA];omega,fun L a => ?_⟩
 rw [LA,c,← List.drop_drop] at a
 rw [List.append_assoc]
 refine h.2 _ ?_
 have:=Blk.cons (M1:=(M.drop S.length).take bs) (by rw [List.length_take,List.length_drop];omega) hp hs a
 rwa [List.take_append_drop] at this
theorem Dn.fin {key:Int → Int} {bs:Nat} {M S N:List Int} (h:Dn key bs M S) (hl:M.length ≤ S.length + bs) (hp:N.Perm (M.drop S.length)) (hs:N.Pairwise (leK key)):Blk key bs M (S ++ N) :=
 h.2 _ (.last (by rw [List.length_drop];omega) hp hs)
theorem Ap1 {key:Int → Int} {M:List Int} (h:M.Pairwise fun x y => key x = key y → x < y) (k:Nat):∀ x ∈ M.take k,∀ y ∈ M.drop k,key x = key y → x < y:=by
 rw [← List.take_append_drop k M] at h
 exact fun x a y c => (List.pairwise_append.1 h).2.2 x a y c
end Go.L.Try
namespace Go.L.Try
open Go Go.L
variable {E:Env}
theorem Wf (hE:As E) {h:Aa} {b cap:Nat} {P X M Y T:List Int} {cv:Value} (hb:h[b]? = some (Ad (P ++ X ++ M ++ Y ++ T))) (hxy:X.length = Y.length) {N:Nat} (hN:N = (P ++ X ++ M ++ Y ++ T).length) (hfew:N ≤ 1048576) {W:Nat → Prop} (hW:W b) :
  WX W (callW E (.func (.func Ay) #[] #[]) [.slice (some ⟨b,0,none⟩) N cap,.int .i64 P.length,.int .i64 ((P.length:Int) + X.length + M.length),.int .i64 X.length,cv] h) (fun _ h' => h' = h.set b (Ad (P ++ Y ++ M ++ X ++ T))):=by
 refine E8 hE.L8 rfl (by simp) ?_
 simp only [List.nil_append,List.cons_append,Ai]
 have m:=(GI.1 hb).1
 have a:N = P.length + X.length + M.length + Y.length + T.length:=by rw [hN];simp only [LA]
 have p:=Dw hb
 have s:=Hid.mk hxy
 have g:=Hid.mk a
 clear hN hxy a
 (repeat' simp -dsimp (disch:=omega) only [↓EA,EB,Nat.reduceEqDiff,Nat.reduceAdd,↓reduceIte,reduceCtorEq,eq_self, *])
 refine WO.loop (fun (i:Nat) fr h' => h' = h.set b (Ad (swA P X M Y T i)) ∧ i ≤ X.length ∧ get fr 0 = .slice (some ⟨b,0,none⟩) N cap ∧ get fr 1 = .int .i64 P.length ∧ get fr 2 = .int .i64 ((P.length:Int) + X.length + M.length) ∧ get fr 3 = .int .i64 X.length ∧ get fr 10 = .int .i64 i) (fun i => X.length - i) ?_ 0 ⟨by rw [A1k,p],Nat.zero_le _,rfl,rfl,rfl,rfl,rfl⟩
 rintro i fr h' ⟨rfl,t,g0,g1,g2,g3,a3⟩
 unfold Ef
 have hxy:=s.out
 have a:=g.out
 by_cases r:i < X.length
 ·have f:i < Y.length:=by omega
  have a1:=Awu (P:=P) (M:=M) (T:=T) r f
  have a2:=Awt (P:=P) (M:=M) (T:=T) r f
  have al:=Awr (P:=P) (M:=M) (T:=T) hxy t
  have d:=Ary (P:=P) (M:=M) (T:=T) r f
  have Hs:=Hid.mk d
  clear d
  generalize swA P X M Y T i = A at *
  have a4:(h.set b (Ad A))[b]? = some (Ad A):=Bq m
  have i1:=Cn (size:=1) (n:=N) (c:=cap) (b:=b) (o:=0) (sp:=none) (k:=.i64) (j:=(P.length:Int) + i) (by omega) (by omega)
  have i2:=Cn (size:=1) (n:=N) (c:=cap) (b:=b) (o:=0) (sp:=none) (k:=.i64) (j:=(P.length:Int) + X.length + M.length + i) (by omega) (by omega)
  have z:=Ed (l:=A) (i:=(P.length:Int) + i) (by omega) (by omega)
  have l2:=Ed (l:=A) (i:=(P.length:Int) + X.length + M.length + i) (by omega) (by omega)
  rw [a1] at z
  rw [a2] at l2
  generalize atI X (i:Int) = x at *
  generalize atI Y (i:Int) = y at *
  have s1:=Ix (h:=h.set b (Ad A)) (b:=b) (l:=A) (i:=(P.length:Int) + i) (x:=y) (by omega) (by omega)
  have s2:=Ix (h:=h.set b (Ad (A.set ((P.length:Int) + i).toNat y))) (b:=b) (l:=A.set ((P.length:Int) + i).toNat y) (i:=(P.length:Int) + X.length + M.length + i) (x:=x) (by omega) (by rw [List.length_set];omega)
  have u:(h.set b (Ad (A.set ((P.length:Int) + i).toNat y)))[b]? = some (Ad (A.set ((P.length:Int) + i).toNat y)):=Bq m
  rw [Nat.mul_one] at z l2 s1 s2
  have a0:(P.length:Int) + X.length + M.length + Y.length + T.length ≤ 1048576:=by omega
  have v:(i:Int) < X.length:=by omega
  clear a1 a2 al hxy a
  (repeat' simp -dsimp (disch:=omega) only [↓EA,EB,Nat.reduceEqDiff,↓reduceIte,reduceCtorEq,eq_self, *,List.set_set,Nat.mul_one])
  refine Next.mk (i + 1) ⟨?_,by omega,rfl,rfl,rfl,rfl,by simp only [get];simp⟩ (by omega)
  have:=Hs.out
  rw [← this,show ((P.length:Int) + i).toNat = P.length + i by omega,show ((P.length:Int) + X.length + M.length + i).toNat = P.length + X.length + M.length + i by omega]
 ·have e:i = X.length:=by omega
  subst e
  rw [Aws rfl hxy]
  clear hxy a
  (repeat' (first | (with_reducible refine A3 (fun _ => ?_) (fun _ => ?_) <;> try (exfalso;omega)) | simp -dsimp (disch:=omega) only [↓EA,EB,Nat.reduceEqDiff,↓reduceIte,reduceCtorEq,eq_self, *]))
theorem Aw5 (hE:As E) {h:Aa} {b cap:Nat} {P A B T:List Int} {cv:Value} (hb:h[b]? = some (Ad (P ++ A ++ B ++ T))) (hA:A ≠ []) (hB:B ≠ []) {N:Nat} (hN:N = (P ++ A ++ B ++ T).length) (hfew:N ≤ 1048576) {W:Nat → Prop} (hW:W b) :
  WX W (callW E (.func (.func Be) #[] #[]) [.slice (some ⟨b,0,none⟩) N cap,.int .i64 P.length,.int .i64 ((P.length:Int) + A.length),.int .i64 ((P.length:Int) + A.length + B.length),cv] h) (fun _ h' => h' = h.set b (Ad (P ++ B ++ A ++ T))):=by
 refine E8 hE.Oe rfl (by simp) ?_
 simp only [List.nil_append,List.cons_append,Ai]
 have u:=(GI.1 hb).1
 have c:N = P.length + A.length + B.length + T.length:=by rw [hN];simp only [LA]
 have n:=Dw hb
 have r:0 < A.length:=List.length_pos_iff.2 hA
 have a0:0 < B.length:=List.length_pos_iff.2 hB
 have a1:(P.length:Int) + A.length + B.length + T.length ≤ 1048576:=by omega
 have e1:(P.length:Int) + A.length - P.length = A.length:=by omega
 have e2:(P.length:Int) + A.length + B.length - ((P.length:Int) + A.length) = B.length:=by omega
 have l:=Hid.mk c
 clear hN hA hB c
 (repeat' simp -dsimp (disch:=omega) only [↓EA,EB,Nat.reduceEqDiff,Nat.reduceAdd,↓reduceIte,reduceCtorEq,eq_self, *])
 refine WO.loop (fun (q:List Int × List Int × List Int × List Int) fr h' => h' = h.set b (Ad (P ++ q.1 ++ q.2.1 ++ q.2.2.1 ++ q.2.2.2 ++ T)) ∧ q.1 ++ q.2.2.1 ++ q.2.1 ++ q.2.2.2 = B ++ A ∧ 0 < q.2.1.length ∧ 0 < q.2.2.1.length ∧ q.1.length + q.2.1.length = A.length ∧ q.2.2.1.length + q.2.2.2.length = B.length ∧ get fr 0 = .slice (some ⟨b,0,none⟩) N cap ∧ get fr 2 = .int .i64 ((P.length:Int) + A.length) ∧ get fr 4 = cv ∧ get fr 10 = .int .i64 q.2.1.length ∧ get fr 11 = .int .i64 q.2.2.1.length) (fun q => q.2.1.length + q.2.2.1.length) ?_ ([],A,B,[]) ⟨by simp only [List.append_nil];rw [n],by simp,r,a0,by simp,by simp,rfl,rfl,rfl,rfl,rfl⟩
 rintro ⟨U,A',B',V⟩ fr h' ⟨rfl,f,a4,y,o,m,g0,g2,g4,a5,t⟩
 unfold Fj
 have c:=l.out
 dsimp only at *
 have s:(U.length:Int) + A'.length = A.length:=by omega
 have x:(B'.length:Int) + V.length = B.length:=by omega
 have d:(h.set b (Ad (P ++ U ++ A' ++ B' ++ V ++ T)))[b]? = some (Ad (P ++ U ++ A' ++ B' ++ V ++ T)):=Bq u
 rcases Nat.lt_trichotomy A'.length B'.length with hlt2 | heq | hgt
 ·have f1:A'.length ≤ B'.length:=by omega
  obtain ⟨B1,B2,rfl,g⟩:∃ B1 B2,B' = B1 ++ B2 ∧ B2.length = A'.length:=⟨B'.take (B'.length - A'.length),B'.drop (B'.length - A'.length),(List.take_append_drop _ _).symm,by rw [List.length_drop];omega⟩
  have a:=Wf hE (h:=h.set b (Ad (P ++ U ++ A' ++ (B1 ++ B2) ++ V ++ T))) (b:=b) (cap:=cap) (P:=P ++ U) (X:=A') (M:=B1) (Y:=B2) (T:=V ++ T) (cv:=cv) (by rw [d];simp only [List.append_assoc]) g.symm (N:=N) (by simp only [LA] at *;omega) hfew hW
  have k1:(P.length:Int) + A.length - A'.length = ((P ++ U).length:Nat):=by rw [LA];omega
  have p:(P.length:Int) + A.length + (B1 ++ B2).length - A'.length = ((P ++ U).length:Nat) + A'.length + B1.length:=by simp only [LA] at *;omega
  have k3:((B1 ++ B2).length:Int) - A'.length = B1.length:=by simp only [LA] at *;omega
  have z:0 < B1.length:=by simp only [LA] at *;omega
  have c1:(A'.length:Int) < (B1 ++ B2).length:=by omega
  have c2:((B1 ++ B2).length:Int) ≤ B.length:=by omega
  rw [List.set_set] at a
  have Hk:=Hid.mk (AI f (AI c (AI o m)))
  generalize h.set b (Ad (P ++ U ++ A' ++ (B1 ++ B2) ++ V ++ T)) = H at a d ⊢
  generalize j:(B1 ++ B2).length = nb at *
  generalize hpu:(P ++ U).length = pu at *
  have Hn:=Hid.mk j
  clear f c o m d j hpu
  (repeat' (first | (with_reducible refine A3 (fun _ => ?_) (fun _ => ?_) <;> try (exfalso;omega)) | simp -dsimp (disch:=omega) only [↓EA,EB,Nat.reduceEqDiff,↓reduceIte,reduceCtorEq,eq_self, *]))
  refine WX.mono a (fun b hb => hb) fun v h2 e => ?_
  subst e
  (repeat' simp -dsimp (disch:=omega) only [↓EA,EB,Nat.reduceEqDiff,↓reduceIte,reduceCtorEq,eq_self, *])
  refine Next.mk (U,B2,B1,A' ++ V) ⟨?_,?_,by dsimp only;omega,z,by dsimp only;omega,?_,rfl,rfl,rfl,?_,?_⟩ ?_
  ·simp only [List.append_assoc]
  ·dsimp only
   rw [← Hk.out.1];simp only [List.append_assoc]
  ·have:=Hk.out.2.2.2
   have j:=Hn.out
   simp only [LA] at *;omega
  ·simp only [get];simp;omega
  ·simp only [get];simp
  ·have j:=Hn.out
   dsimp only;rw [LA] at *;omega
 ·have a:=Wf hE (h:=h.set b (Ad (P ++ U ++ A' ++ B' ++ V ++ T))) (b:=b) (cap:=cap) (P:=P ++ U) (X:=A') (M:=[]) (Y:=B') (T:=V ++ T) (cv:=cv) (by rw [d];simp only [List.append_assoc,List.append_nil]) heq (N:=N) (by simp only [LA,List.length_nil] at *;omega) hfew hW
  have k1:(P.length:Int) + A.length - A'.length = ((P ++ U).length:Nat):=by rw [LA];omega
  have p:((P ++ U).length:Int) + A'.length + ([]:List Int).length = (P.length:Int) + A.length:=by simp only [LA,List.length_nil];omega
  rw [p] at a
  rw [List.set_set] at a
  generalize h.set b (Ad (P ++ U ++ A' ++ B' ++ V ++ T)) = H at a d ⊢
  rw [← heq] at t
  have e3:P ++ B ++ A ++ T = P ++ U ++ B' ++ [] ++ A' ++ (V ++ T):=by
   rw [List.append_assoc P B A,← f];simp only [List.append_assoc,List.nil_append]
  rw [e3]
  generalize hpu:(P ++ U).length = pu at *
  have c2:(A'.length:Int) ≤ A.length:=by omega
  clear f c o m d hpu e3 heq s x y
  (repeat' simp -dsimp (disch:=omega) only [↓EA,EB,Nat.reduceEqDiff,↓reduceIte,reduceCtorEq,eq_self, *])
  refine WX.mono a (fun b hb => hb) fun v h2 e => ?_
  subst e
  (repeat' simp -dsimp (disch:=omega) only [↓EA,EB,eq_self, *])
 ·obtain ⟨A1,A2,rfl,g⟩:∃ A1 A2,A' = A1 ++ A2 ∧ A1.length = B'.length:=⟨A'.take B'.length,A'.drop B'.length,(List.take_append_drop _ _).symm,by rw [List.length_take];omega⟩
  have a:=Wf hE (h:=h.set b (Ad (P ++ U ++ (A1 ++ A2) ++ B' ++ V ++ T))) (b:=b) (cap:=cap) (P:=P ++ U) (X:=A1) (M:=A2) (Y:=B') (T:=V ++ T) (cv:=cv) (by rw [d];simp only [List.append_assoc]) g (N:=N) (by simp only [LA] at *;omega) hfew hW
  have k1:(P.length:Int) + A.length - (A1 ++ A2).length = ((P ++ U).length:Nat):=by simp only [LA] at *;omega
  have p:((P ++ U).length:Int) + A1.length + A2.length = (P.length:Int) + A.length:=by simp only [LA] at *;omega
  have k3:((A1 ++ A2).length:Int) - B'.length = A2.length:=by simp only [LA] at *;omega
  have z:0 < A2.length:=by simp only [LA] at *;omega
  rw [p,show (A1.length:Int) = B'.length by omega] at a
  have c1:(B'.length:Int) < (A1 ++ A2).length:=by omega
  have c2:((A1 ++ A2).length:Int) ≤ A.length:=by omega
  rw [List.set_set] at a
  have Hk:=Hid.mk (AI f (AI c (AI o m)))
  generalize h.set b (Ad (P ++ U ++ (A1 ++ A2) ++ B' ++ V ++ T)) = H at a d ⊢
  generalize j:(A1 ++ A2).length = nb at *
  generalize hpu:(P ++ U).length = pu at *
  clear f c o m d hpu
  (repeat' (first | (with_reducible refine A3 (fun _ => ?_) (fun _ => ?_) <;> try (exfalso;omega)) | simp -dsimp (disch:=omega) only [↓EA,EB,Nat.reduceEqDiff,↓reduceIte,reduceCtorEq,eq_self, *]))
  refine WX.mono a (fun b hb => hb) fun v h2 e => ?_
  subst e
  (repeat' simp -dsimp (disch:=omega) only [↓EA,EB,Nat.reduceEqDiff,↓reduceIte,reduceCtorEq,eq_self, *])
  have a2:A1.length + A2.length = nb:=by rw [← j,LA]
  have a3:=Hk.out.2.2.1
  refine Next.mk (U ++ B',A2,A1,V) ⟨?_,?_,z,by dsimp only;omega,?_,by dsimp only;omega,rfl,rfl,rfl,?_,?_⟩ ?_
  ·simp only [List.append_assoc]
  ·dsimp only
   rw [← Hk.out.1];simp only [List.append_assoc]
  ·simp only [LA];omega
  ·simp only [get];simp
  ·simp only [get];simp;omega
  ·dsimp only;omega
end Go.L.Try
set_option maxHeartbeats 4000000
namespace Go.L.Try
open Go Go.L
variable {E:Env}
theorem Adt {P A R:List Int} {i:Nat} (h:i < A.length):atI (P ++ A ++ R) ((P.length:Int) + i) = atI A (i:Int):=by
 have e:P ++ A ++ R = (P ++ A.take i) ++ atI A (i:Int) :: (A.drop (i + 1) ++ R):=by
  conv => lhs;rw [← List.take_append_drop i A,Pa h]
  simp only [List.append_assoc,List.cons_append]
 rw [e,Mi];rw [LA,List.length_take];omega
theorem Lf {q:EqK} {a:Int} (h1:0 ≤ a):binOp .shr q (.int .u64 a) (.int .u64 1) = some (.int .u64 (a / 2)):=by
 have e:binOp .shr q (.int .u64 a) (.int .u64 1) = some (.int .u64 (Int.fdiv a 2)):=by simp [binOp,Gf];rfl
 rw [e,Int.fdiv_eq_ediv_of_nonneg _ (by decide)]
theorem Awp (hE:As E) {h0 h:Aa} {b cap n N:Nat} {P B T:List Int} {x:Int} {key:Int → Int} {cv:Value} (hb:h[b]? = some (Ad (P ++ [x] ++ B ++ T))) (hp:Pre h0 h) (hbm:h0.length ≤ b) (hc:X2 E h0 cv key n) (hN:N = P.length + 1 + B.length + T.length) (hfew:N ≤ 1048576)
  (hx:0 ≤ x ∧ x < n) (hB:∀ y ∈ B,0 ≤ y ∧ y < n) (hs:B.Pairwise (leK key)) (hst:∀ y ∈ B,key x = key y → x < y) {W:Nat → Prop} (hW:W b) :
  WX W (callW E (.func (.func Ah) #[] #[]) [.slice (some ⟨b,0,none⟩) N cap,.int .i64 P.length,.int .i64 ((P.length:Int) + 1),.int .i64 ((P.length:Int) + 1 + B.length),cv] h) (fun _ h' => ∃ S,S.Perm (x :: B) ∧ S.Pairwise (leK key) ∧ h' = h.set b (Ad (P ++ S ++ T))):=by
 refine E8 hE.Dv rfl (by simp) ?_
 simp only [List.nil_append,List.cons_append,Ai]
 have r:=(GI.1 hb).1
 have s:=Dw hb
 have e1:(P.length:Int) + 1 - P.length = 1:=by omega
 have a7:(P.length:Int) + 1 + B.length + T.length ≤ 1048576:=by omega
 have Hx:=Hid.mk (AI hc (AI hx (AI hB (AI hs (AI hst hN)))))
 have Hb:=Hid.mk hb
 clear hc hx hB hs hst hN hb
 (repeat' simp -dsimp (disch:=omega) only [↓EA,EB,Nat.reduceEqDiff,Nat.reduceAdd,↓reduceIte,reduceCtorEq,eq_self, *])
 refine WO.loop (fun (q:Nat × Nat) fr h' => h' = h ∧ q.1 ≤ q.2 ∧ q.2 ≤ B.length ∧ (0 < q.1 → key (atI B ((q.1 - 1:Nat):Int)) < key x) ∧ (q.2 < B.length → ¬ key (atI B (q.2:Int)) < key x) ∧ get fr 0 = .slice (some ⟨b,0,none⟩) N cap ∧ get fr 1 = .int .i64 P.length ∧ get fr 4 = cv ∧ get fr 10 = .int .i64 ((P.length:Int) + 1 + q.1) ∧ get fr 11 = .int .i64 ((P.length:Int) + 1 + q.2)) (fun q => q.2 - q.1) ?_ (0,B.length) ⟨rfl,Nat.zero_le _,Nat.le_refl _,fun h => absurd h (Nat.lt_irrefl _),fun h => absurd h (Nat.lt_irrefl _),rfl,rfl,rfl,by simp only [get];simp,rfl⟩
 rintro ⟨i,j⟩ fr h' ⟨e0,a0,a4,f1,f2,g0,g1,g4,a3,a8⟩
 subst h'
 unfold Et
 dsimp only at *
 obtain ⟨hc,hx,hB,hs,hst,hN⟩:=Hx.out
 have F1:=Hid.mk f1
 have F2:=Hid.mk f2
 clear f1 f2
 by_cases t:i < j
 ·obtain ⟨c,d⟩:∃ c,c = (i + j) / 2:=⟨_,rfl⟩
  have hb:=Hb.out
  have u:=Adt (P:=P ++ [x]) (A:=B) (R:=T) (i:=c) (by omega)
  have z:=Adt (P:=P) (A:=[x]) (R:=B ++ T) (i:=0) (by simp)
  rw [show ((P ++ [x]).length:Int) = (P.length:Int) + 1 by simp] at u
  rw [Int.natCast_zero,Int.add_zero,show atI [x] 0 = x from rfl,← List.append_assoc] at z
  have hL:(P ++ [x] ++ B ++ T).length = N:=by simp only [LA,List.length_cons,List.length_nil];omega
  have a5:atI B (c:Int) ∈ B:=Al (by omega) (by omega)
  have hy:=hB _ a5
  have l1:=Ed (l:=P ++ [x] ++ B ++ T) (i:=(P.length:Int) + 1 + c) (by omega) (by omega)
  have l2:=Ed (l:=P ++ [x] ++ B ++ T) (i:=(P.length:Int)) (by omega) (by omega)
  rw [u,Nat.mul_one] at l1
  rw [z,Nat.mul_one] at l2
  generalize P ++ [x] ++ B ++ T = A at *
  have p:=hc _ hp (atI B (c:Int)) x hy.1 hy.2 hx.1 hx.2
  have i1:=Cn (size:=1) (n:=N) (c:=cap) (b:=b) (o:=0) (sp:=none) (k:=.i64) (j:=(P.length:Int) + 1 + c) (by omega) (by omega)
  have i2:=Cn (size:=1) (n:=N) (c:=cap) (b:=b) (o:=0) (sp:=none) (k:=.i64) (j:=(P.length:Int)) (by omega) (by omega)
  rw [Nat.mul_one] at i1 i2
  have k1:((P.length:Int) + 1 + i + ((P.length:Int) + 1 + j)) / 2 = (P.length:Int) + 1 + c:=by omega
  have k2:(c:Int) < B.length:=by omega
  have k3:(i:Int) < j:=by omega
  have k4:(j:Int) ≤ B.length:=by omega
  have v:=Hid.mk d
  generalize hyv:atI B (c:Int) = y at *
  clear d hc hB hs hst hN hL
  by_cases hk:key y < key x
  ·have h3:Nu (key y) (key x) = -1:=by simp [Nu,hk]
   rw [h3] at p
   (repeat' (first | (with_reducible refine A3 (fun _ => ?_) (fun _ => ?_) <;> try (exfalso;omega)) | simp -dsimp (disch:=omega) only [↓EA,EB,Nat.reduceEqDiff,↓reduceIte,reduceCtorEq,eq_self, *,Lf]))
   have d:=v.out
   refine Next.mk (c + 1,j) ⟨rfl,by dsimp only;omega,by dsimp only;omega,fun _ => ?_,F2.out,rfl,rfl,rfl,?_,rfl⟩ ?_
   ·dsimp only
    rw [show c + 1 - 1 = c from rfl,hyv];exact hk
   ·simp only [get];simp;omega
   ·dsimp only;omega
  ·have h3:¬ Nu (key y) (key x) < 0:=by unfold Nu;rw [if_neg hk];split <;> decide
   (repeat' (first | (with_reducible refine A3 (fun _ => ?_) (fun _ => ?_) <;> try (exfalso;omega)) | simp -dsimp (disch:=omega) only [↓EA,EB,Nat.reduceEqDiff,↓reduceIte,reduceCtorEq,eq_self, *,Lf]))
   have d:=v.out
   refine Next.mk (i,c) ⟨rfl,by dsimp only;omega,by dsimp only;omega,F1.out,fun _ => ?_,rfl,rfl,rfl,rfl,?_⟩ ?_
   ·dsimp only
    rw [hyv];exact hk
   ·simp only [get];simp
   ·dsimp only;omega
 ·have e:j = i:=by omega
  subst e
  have f:=Ap2 hs hst a4 F1.out F2.out
  have g:(B.take j ++ x :: B.drop j).Perm (x :: B):=by
   refine List.perm_middle.trans ?_
   rw [List.take_append_drop]
  have HR:=Hid.mk (AI f g)
  have aa:=Hid.mk hB
  clear f g hc hx hB hs hst hN
  have k5:(P.length:Int) + 1 + j - 1 = (P.length:Int) + j:=by omega
  have k6:(j:Int) ≤ B.length:=by omega
  (repeat' (first | (with_reducible refine A3 (fun _ => ?_) (fun _ => ?_) <;> try (exfalso;omega)) | simp -dsimp (disch:=omega) only [↓EA,EB,Nat.reduceEqDiff,↓reduceIte,reduceCtorEq,eq_self, *]))
  refine WO.loop (fun (i:Nat) fr h' => h' = h.set b (Ad (P ++ (B.take i ++ x :: B.drop i) ++ T)) ∧ i ≤ j ∧ get fr 0 = .slice (some ⟨b,0,none⟩) N cap ∧ get fr 10 = .int .i64 ((P.length:Int) + 1 + j) ∧ get fr 13 = .int .i64 ((P.length:Int) + i)) (fun i => j - i) ?_ 0 ⟨?_,Nat.zero_le _,rfl,rfl,?_⟩
  ·rintro i fr h' ⟨rfl,a0,g0,a3,a9⟩
   unfold Es
   by_cases t:i < j
   ·have m:i < B.length:=by omega
    have a:=Awq (P:=P) (S:=B) (R:=T) (x:=x) (j:=i) m
    have u:atI (P ++ (B.take i ++ x :: B.drop i) ++ T) ((P.length:Int) + i) = x:=by
     rw [show P ++ (B.take i ++ x :: B.drop i) ++ T = (P ++ B.take i) ++ x :: (B.drop i ++ T) by simp only [List.append_assoc,List.cons_append],Mi];rw [LA,List.length_take];omega
    have z:atI (P ++ (B.take i ++ x :: B.drop i) ++ T) ((P.length:Int) + i + 1) = atI B (i:Int):=by
     rw [Pa m,show ∀ y,P ++ (B.take i ++ x :: y :: B.drop (i + 1)) ++ T = (P ++ B.take i ++ [x]) ++ y :: (B.drop (i + 1) ++ T) from fun y => by simp only [List.append_assoc,List.cons_append,List.nil_append],Mi]
     simp only [LA,List.length_take,List.length_cons,List.length_nil];omega
    have hL:(P ++ (B.take i ++ x :: B.drop i) ++ T).length = P.length + 1 + B.length + T.length:=by simp only [LA,List.length_cons,List.length_take,List.length_drop];omega
    have Hs:=Hid.mk a
    clear a
    have hN:=Hx.out.2.2.2.2.2
    generalize P ++ (B.take i ++ x :: B.drop i) ++ T = A at *
    have ab:(h.set b (Ad A))[b]? = some (Ad A):=Bq r
    have i1:=Cn (size:=1) (n:=N) (c:=cap) (b:=b) (o:=0) (sp:=none) (k:=.i64) (j:=(P.length:Int) + i) (by omega) (by omega)
    have i2:=Cn (size:=1) (n:=N) (c:=cap) (b:=b) (o:=0) (sp:=none) (k:=.i64) (j:=(P.length:Int) + i + 1) (by omega) (by omega)
    have l1:=Ed (l:=A) (i:=(P.length:Int) + i) (by omega) (by omega)
    have l2:=Ed (l:=A) (i:=(P.length:Int) + i + 1) (by omega) (by omega)
    rw [u] at l1
    rw [z] at l2
    generalize atI B (i:Int) = y at *
    have s1:=Ix (h:=h.set b (Ad A)) (b:=b) (l:=A) (i:=(P.length:Int) + i) (x:=y) (by omega) (by omega)
    have s2:=Ix (h:=h.set b (Ad (A.set ((P.length:Int) + i).toNat y))) (b:=b) (l:=A.set ((P.length:Int) + i).toNat y) (i:=(P.length:Int) + i + 1) (x:=x) (by omega) (by rw [List.length_set];omega)
    have a6:(h.set b (Ad (A.set ((P.length:Int) + i).toNat y)))[b]? = some (Ad (A.set ((P.length:Int) + i).toNat y)):=Bq r
    rw [Nat.mul_one] at l1 l2 s1 s2
    have k7:(i:Int) < j:=by omega
    clear u z hL hN
    (repeat' (first | (with_reducible refine A3 (fun _ => ?_) (fun _ => ?_) <;> try (exfalso;omega)) | simp -dsimp (disch:=omega) only [↓EA,EB,Nat.reduceEqDiff,↓reduceIte,reduceCtorEq,eq_self, *,List.set_set,Nat.mul_one]))
    refine Next.mk (i + 1) ⟨?_,by omega,rfl,rfl,by simp only [get];simp;omega⟩ (by omega)
    have:=Hs.out
    rw [← this,show ((P.length:Int) + i).toNat = P.length + i by omega,show ((P.length:Int) + i + 1).toNat = P.length + i + 1 by omega]
   ·have e:i = j:=by omega
    subst e
    (repeat' (first | (with_reducible refine A3 (fun _ => ?_) (fun _ => ?_) <;> try (exfalso;omega)) | simp -dsimp (disch:=omega) only [↓EA,EB,Nat.reduceEqDiff,↓reduceIte,reduceCtorEq,eq_self, *]))
    refine ⟨_,HR.out.2,HR.out.1,?_⟩
    simp only [List.append_assoc,List.cons_append]
  ·rw [List.take_zero,List.drop_zero,List.nil_append,show P ++ (x :: B) ++ T = P ++ [x] ++ B ++ T by simp only [List.append_assoc,List.cons_append,List.nil_append]]
   have hb:=Hb.out
   rw [s]
  ·simp only [get];simp
theorem Arw (hE:As E) {h0 h:Aa} {b cap n N:Nat} {P A T:List Int} {y:Int} {key:Int → Int} {cv:Value} (hb:h[b]? = some (Ad (P ++ A ++ [y] ++ T))) (hp:Pre h0 h) (hbm:h0.length ≤ b) (hc:X2 E h0 cv key n) (hN:N = P.length + A.length + 1 + T.length) (hfew:N ≤ 1048576) (hA2:1 < A.length)
  (hy:0 ≤ y ∧ y < n) (hA:∀ x ∈ A,0 ≤ x ∧ x < n) (hs:A.Pairwise (leK key)) (hst:∀ x ∈ A,key x = key y → x < y) {W:Nat → Prop} (hW:W b) :
  WX W (callW E (.func (.func Ah) #[] #[]) [.slice (some ⟨b,0,none⟩) N cap,.int .i64 P.length,.int .i64 ((P.length:Int) + A.length),.int .i64 ((P.length:Int) + A.length + 1),cv] h) (fun _ h' => ∃ S,S.Perm (A ++ [y]) ∧ S.Pairwise (leK key) ∧ h' = h.set b (Ad (P ++ S ++ T))):=by
 refine E8 hE.Dv rfl (by simp) ?_
 simp only [List.nil_append,List.cons_append,Ai]
 have r:=(GI.1 hb).1
 have t:=Dw hb
 have e1:(P.length:Int) + A.length - P.length = A.length:=by omega
 have e2:(P.length:Int) + A.length + 1 - ((P.length:Int) + A.length) = 1:=by omega
 have e3:¬ (A.length:Int) = 1:=by omega
 have a8:(P.length:Int) + A.length + 1 + T.length ≤ 1048576:=by omega
 have Hx:=Hid.mk (AI hc (AI hy (AI hA (AI hs (AI hst hN)))))
 have Hb:=Hid.mk hb
 clear hc hy hA hs hst hN hb
 (repeat' simp -dsimp (disch:=omega) only [↓EA,EB,Nat.reduceEqDiff,Nat.reduceAdd,↓reduceIte,reduceCtorEq,eq_self, *])
 refine WO.loop (fun (q:Nat × Nat) fr h' => h' = h ∧ q.1 ≤ q.2 ∧ q.2 ≤ A.length ∧ (0 < q.1 → ¬ key y < key (atI A ((q.1:Int) - 1))) ∧ (q.2 < A.length → key y < key (atI A (q.2:Int))) ∧ get fr 0 = .slice (some ⟨b,0,none⟩) N cap ∧ get fr 2 = .int .i64 ((P.length:Int) + A.length) ∧ get fr 4 = cv ∧ get fr 14 = .int .i64 ((P.length:Int) + q.1) ∧ get fr 15 = .int .i64 ((P.length:Int) + q.2)) (fun q => q.2 - q.1) ?_ (0,A.length) ⟨rfl,Nat.zero_le _,Nat.le_refl _,fun h => absurd h (Nat.lt_irrefl _),fun h => absurd h (Nat.lt_irrefl _),rfl,rfl,rfl,by simp only [get];simp,rfl⟩
 rintro ⟨i,j⟩ fr h' ⟨e0,a4,s,f1,f2,g0,g2,g4,a6,ab⟩
 subst h'
 unfold Er
 dsimp only at *
 obtain ⟨hc,hy,hA,hs,hst,hN⟩:=Hx.out
 have F1:=Hid.mk f1
 have F2:=Hid.mk f2
 clear f1 f2
 by_cases u:i < j
 ·obtain ⟨c,d⟩:∃ c,c = (i + j) / 2:=⟨_,rfl⟩
  have hb:=Hb.out
  have v:=Adt (P:=P) (A:=A) (R:=[y] ++ T) (i:=c) (by omega)
  have a2:=Adt (P:=P ++ A) (A:=[y]) (R:=T) (i:=0) (by simp)
  rw [← List.append_assoc] at v
  rw [Int.natCast_zero,Int.add_zero,show atI [y] 0 = y from rfl,show ((P ++ A).length:Int) = (P.length:Int) + A.length by simp] at a2
  have hL:(P ++ A ++ [y] ++ T).length = N:=by simp only [LA,List.length_cons,List.length_nil];omega
  have a5:atI A (c:Int) ∈ A:=Al (by omega) (by omega)
  have hx:=hA _ a5
  have l1:=Ed (l:=P ++ A ++ [y] ++ T) (i:=(P.length:Int) + c) (by omega) (by omega)
  have l2:=Ed (l:=P ++ A ++ [y] ++ T) (i:=(P.length:Int) + A.length) (by omega) (by omega)
  rw [v,Nat.mul_one] at l1
  rw [a2,Nat.mul_one] at l2
  generalize P ++ A ++ [y] ++ T = L at *
  have m:=hc _ hp y (atI A (c:Int)) hy.1 hy.2 hx.1 hx.2
  have i1:=Cn (size:=1) (n:=N) (c:=cap) (b:=b) (o:=0) (sp:=none) (k:=.i64) (j:=(P.length:Int) + c) (by omega) (by omega)
  have i2:=Cn (size:=1) (n:=N) (c:=cap) (b:=b) (o:=0) (sp:=none) (k:=.i64) (j:=(P.length:Int) + A.length) (by omega) (by omega)
  rw [Nat.mul_one] at i1 i2
  have k1:((P.length:Int) + i + ((P.length:Int) + j)) / 2 = (P.length:Int) + c:=by omega
  have k2:(c:Int) < A.length:=by omega
  have k3:(i:Int) < j:=by omega
  have k4:(j:Int) ≤ A.length:=by omega
  have a0:=Hid.mk d
  generalize hxv:atI A (c:Int) = x at *
  clear d hc hA hs hst hN hL
  by_cases hk:key y < key x
  ·have h3:Nu (key y) (key x) = -1:=by simp [Nu,hk]
   rw [h3] at m
   (repeat' (first | (with_reducible refine A3 (fun _ => ?_) (fun _ => ?_) <;> try (exfalso;omega)) | simp -dsimp (disch:=omega) only [↓EA,EB,Nat.reduceEqDiff,↓reduceIte,reduceCtorEq,eq_self, *,Lf]))
   have d:=a0.out
   refine Next.mk (i,c) ⟨rfl,by dsimp only;omega,by dsimp only;omega,F1.out,fun _ => ?_,rfl,rfl,rfl,rfl,?_⟩ ?_
   ·dsimp only
    rw [hxv];exact hk
   ·simp only [get];simp
   ·dsimp only;omega
  ·have h3:¬ Nu (key y) (key x) < 0:=by unfold Nu;rw [if_neg hk];split <;> decide
   (repeat' (first | (with_reducible refine A3 (fun _ => ?_) (fun _ => ?_) <;> try (exfalso;omega)) | simp -dsimp (disch:=omega) only [↓EA,EB,Nat.reduceEqDiff,↓reduceIte,reduceCtorEq,eq_self, *,Lf]))
   have d:=a0.out
   refine Next.mk (c + 1,j) ⟨rfl,by dsimp only;omega,by dsimp only;omega,fun _ => ?_,F2.out,rfl,rfl,rfl,?_,rfl⟩ ?_
   ·dsimp only
    rw [show ((c + 1:Nat):Int) - 1 = c by omega,hxv];exact hk
   ·simp only [get];simp;omega
   ·dsimp only;omega
 ·have e:j = i:=by omega
  subst e
  have g:(A.take j ++ y :: A.drop j).Perm (A ++ [y]):=by
   refine List.perm_middle.trans ?_
   rw [List.take_append_drop]
   exact (List.perm_append_singleton y A).symm
  have p:∀ z ∈ A.drop j,key y < key z:=fun z hz => by
   obtain ⟨i,c1,c2,rfl⟩:=N0 hz
   have:=F2.out (by omega)
   have:=Mp hs c1 c2
   omega
  have f:=Aao hs hst s p F1.out
  have HR:=Hid.mk (AI f g)
  have HA:=Hid.mk hA
  clear f g hc hy hA hs hst hN p
  have k6:(j:Int) ≤ A.length:=by omega
  (repeat' (first | (with_reducible refine A3 (fun _ => ?_) (fun _ => ?_) <;> try (exfalso;omega)) | simp -dsimp (disch:=omega) only [↓EA,EB,Nat.reduceEqDiff,↓reduceIte,reduceCtorEq,eq_self, *]))
  refine WO.loop (fun (i:Nat) fr h' => h' = h.set b (Ad (P ++ (A.take i ++ y :: A.drop i) ++ T)) ∧ j ≤ i ∧ i ≤ A.length ∧ get fr 0 = .slice (some ⟨b,0,none⟩) N cap ∧ get fr 14 = .int .i64 ((P.length:Int) + j) ∧ get fr 17 = .int .i64 ((P.length:Int) + i)) (fun i => i) ?_ A.length ⟨?_,s,Nat.le_refl _,rfl,rfl,rfl⟩
  ·rintro i fr h' ⟨rfl,a4,a3,g0,a6,a9⟩
   unfold Ep
   by_cases u:j < i
   ·have a:=Ach (P:=P) (S:=A) (R:=T) (x:=y) (j:=i) (by omega) a3
    have v:atI (P ++ (A.take i ++ y :: A.drop i) ++ T) ((P.length:Int) + i) = y:=by
     rw [show P ++ (A.take i ++ y :: A.drop i) ++ T = (P ++ A.take i) ++ y :: (A.drop i ++ T) by simp only [List.append_assoc,List.cons_append],Mi];rw [LA,List.length_take];omega
    have a2:atI (P ++ (A.take i ++ y :: A.drop i) ++ T) ((P.length:Int) + i - 1) = atI A ((i:Int) - 1):=by
     obtain ⟨k,rfl⟩:∃ k,i = k + 1:=⟨i - 1,by omega⟩
     rw [take_snoc (by omega:k < A.length),show ∀ z,P ++ (A.take k ++ [z] ++ y :: A.drop (k + 1)) ++ T = (P ++ A.take k) ++ z :: (y :: A.drop (k + 1) ++ T) from fun z => by simp only [List.append_assoc,List.cons_append,List.nil_append],Mi (by rw [LA,List.length_take];omega),show (((k + 1:Nat):Int) - 1) = (k:Int) by omega]
    have hL:(P ++ (A.take i ++ y :: A.drop i) ++ T).length = P.length + A.length + 1 + T.length:=by simp only [LA,List.length_cons,List.length_take,List.length_drop];omega
    have Hs:=Hid.mk a
    clear a
    have hN:=Hx.out.2.2.2.2.2
    generalize P ++ (A.take i ++ y :: A.drop i) ++ T = L at *
    have aa:(h.set b (Ad L))[b]? = some (Ad L):=Bq r
    have i1:=Cn (size:=1) (n:=N) (c:=cap) (b:=b) (o:=0) (sp:=none) (k:=.i64) (j:=(P.length:Int) + i) (by omega) (by omega)
    have i2:=Cn (size:=1) (n:=N) (c:=cap) (b:=b) (o:=0) (sp:=none) (k:=.i64) (j:=(P.length:Int) + i - 1) (by omega) (by omega)
    have l1:=Ed (l:=L) (i:=(P.length:Int) + i) (by omega) (by omega)
    have l2:=Ed (l:=L) (i:=(P.length:Int) + i - 1) (by omega) (by omega)
    rw [v] at l1
    rw [a2] at l2
    generalize atI A ((i:Int) - 1) = x at *
    have s1:=Ix (h:=h.set b (Ad L)) (b:=b) (l:=L) (i:=(P.length:Int) + i) (x:=x) (by omega) (by omega)
    have s2:=Ix (h:=h.set b (Ad (L.set ((P.length:Int) + i).toNat x))) (b:=b) (l:=L.set ((P.length:Int) + i).toNat x) (i:=(P.length:Int) + i - 1) (x:=y) (by omega) (by rw [List.length_set];omega)
    have a7:(h.set b (Ad (L.set ((P.length:Int) + i).toNat x)))[b]? = some (Ad (L.set ((P.length:Int) + i).toNat x)):=Bq r
    rw [Nat.mul_one] at l1 l2 s1 s2
    have k7:(j:Int) < i:=by omega
    have k8:(i:Int) ≤ A.length:=by omega
    clear v a2 hL hN
    (repeat' (first | (with_reducible refine A3 (fun _ => ?_) (fun _ => ?_) <;> try (exfalso;omega)) | simp -dsimp (disch:=omega) only [↓EA,EB,Nat.reduceEqDiff,↓reduceIte,reduceCtorEq,eq_self, *,List.set_set,Nat.mul_one]))
    refine Next.mk (i - 1) ⟨?_,by omega,by omega,rfl,rfl,by simp only [get];simp;omega⟩ (by omega)
    have:=Hs.out
    rw [← this,show ((P.length:Int) + i).toNat = P.length + i by omega,show ((P.length:Int) + i - 1).toNat = P.length + i - 1 by omega]
   ·have e:i = j:=by omega
    subst e
    (repeat' simp -dsimp (disch:=omega) only [↓EA,EB,Nat.reduceEqDiff,↓reduceIte,reduceCtorEq,eq_self, *])
    refine ⟨_,HR.out.2,HR.out.1,?_⟩
    simp only [List.append_assoc,List.cons_append]
  ·rw [List.take_length,List.drop_length,show P ++ (A ++ [y]) ++ T = P ++ A ++ [y] ++ T by simp only [List.append_assoc]]
   have hb:=Hb.out
   rw [t]
end Go.L.Try
