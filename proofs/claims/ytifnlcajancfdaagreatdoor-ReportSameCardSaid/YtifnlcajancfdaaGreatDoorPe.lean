/- PLACES BY RELEASES: stream.Order, of few jobs (an insertion sort). -/
import Derived.Test.YtifnlcajancfdaaGreatDoorPd
set_option linter.unusedVariables false
set_option linter.unusedSimpArgs false
set_option maxRecDepth 100000
set_option maxHeartbeats 2000000
namespace Go.L.Try
open Go Go.L
variable {E:Env}
def N8 (x y:Int):Int:=if x<y then -1 else if y<x then 1 else 0
theorem Amk (hE:Aw E) (h:Aa) (x y:Int):callW E (.func (.func Dh) #[] #[]) [.int .i64 x,.int .i64 y] h=some (.int .i64 (N8 x y),h,[]):=by
 have nan:∀ (h:Aa) (x:Int),callW E (.func (.func C9) #[] #[]) [.int .i64 x] h=some (.bool false,h,[]):=fun h x => by
  refine Am hE.Zr rfl (by simp) ?_
  simp -dsimp (disch:=omega) only [↓EA,EB,Nat.reduceEqDiff,↓reduceIte,reduceCtorEq,eq_self,Ak]
 refine Am hE.Wv rfl (by simp) ?_
 simp only [Ak]
 (repeat' (first | (with_reducible refine A3 (fun _ => ?_) (fun _ => ?_)<;>try (exfalso;omega)) | simp -dsimp (disch:=omega) only [↓EA,EB,Nat.reduceEqDiff,↓reduceIte,reduceCtorEq,eq_self, *]))
 ·simp [N8, *]
 ·have:¬ x<y:=by omega
  simp [N8, *]
 ·have:¬ x<y:=by omega
  have:¬ y<x:=by omega
  simp [N8, *]
def Y9 (E:Env) (h0:Aa) (cv:Value) (key:Int→Int) (n:Nat):Prop:=∀ hh,Pre h0 hh→∀ a b:Int,0≤a→a<n→0≤b→b<n→callW E cv [.int .i64 a,.int .i64 b] hh=some (.int .i64 (N8 (key a) (key b)),hh,[])
def leK (key:Int→Int) (x y:Int):Prop:=key x<key y∨(key x=key y∧x<y)
theorem Abz {key:Int→Int} {S:List Int} {x:Int} {j:Nat} (hS:S.Pairwise (leK key)) (hx:∀ y∈S,key y=key x→y<x) (hj:j≤S.length) (hd:∀ y∈S.drop j,key x<key y) (hs:0<j→¬ key x<key (atI S ((j:Int) - 1))):(S.take j++x :: S.drop j).Pairwise (leK key):=by
 have hSS:=hS
 rw [← List.take_append_drop j S,List.pairwise_append] at hS
 obtain ⟨h1,h2,h3⟩:=hS
 have htake:∀ y∈S.take j,leK key y x:=fun y hy => by
  have hyS:=List.mem_of_mem_take hy
  have hj0:0<j:=by
   rcases Nat.eq_zero_or_pos j with e | e
   ·subst e;simp at hy
   ·exact e
  have hle:key y≤key (atI S ((j:Int) - 1)):=by
   obtain ⟨k,hk,rfl⟩:=List.getElem_of_mem hy
   rw [List.length_take] at hk
   rw [List.getElem_take]
   rw [show ((j:Int) - 1)=((j - 1:Nat):Int) by omega,By (by omega)]
   by_cases e:k=j - 1
   ·subst e;exact Int.le_refl _
   ·have:=List.pairwise_iff_getElem.1 hSS k (j - 1) (by omega) (by omega) (by omega)
    unfold leK at this;omega
  have:=hs hj0
  unfold leK
  by_cases e:key y=key x
  ·exact .inr ⟨e,hx y hyS e⟩
  ·left;omega
 refine List.pairwise_append.2 ⟨h1,List.pairwise_cons.2 ⟨fun y hy => .inl (hd y hy),h2⟩,fun y hy z hz => ?_⟩
 rcases List.mem_cons.1 hz with rfl | hz
 ·exact htake y hy
 ·exact h3 y hy z hz
theorem Adt {P S R:List Int} {x:Int} {j:Nat} (hj:0<j) (hl:j≤S.length) :
  ((P++(S.take j++x :: S.drop j)++R).set (P.length+j) (atI S ((j:Int) - 1))).set (P.length+j - 1) x=P++(S.take (j - 1)++x :: S.drop (j - 1))++R:=by
 obtain ⟨k,rfl⟩:∃ k,j=k+1:=⟨j - 1,by omega⟩
 have hk:k<S.length:=by omega
 have e1:S.take (k+1)=S.take k++[S[k]]:=by rw [List.take_succ_eq_append_getElem hk]
 have e2:S.drop k=S[k] :: S.drop (k+1):=List.drop_eq_getElem_cons hk
 have e3:atI S (((k+1:Nat):Int) - 1)=S[k]:=by rw [show (((k+1:Nat):Int) - 1)=(k:Int) by omega,By hk]
 rw [e3,e1,show k+1 - 1=k from rfl,e2]
 have l1:(S.take k).length=k:=by rw [List.length_take];omega
 have e5:P++(S.take k++[S[k]]++x :: S.drop (k+1))++R=(P++S.take k)++(S[k] :: x :: (S.drop (k+1)++R)):=by simp only [List.append_assoc,List.cons_append,List.nil_append]
 rw [e5,List.set_append_right _ _ (by simp;omega)]
 rw [show P.length+(k+1) - (P++S.take k).length=1 by rw [LA,l1];omega,List.set_cons_succ,List.set_cons_zero]
 rw [show P.length+(k+1) - 1=P.length+k by omega,List.set_append_right _ _ (by simp;omega),show P.length+k - (P++S.take k).length=0 by rw [LA,l1];omega,List.set_cons_zero]
 simp only [List.append_assoc,List.cons_append]
theorem Ms {P R:List Int} {x:Int} {i:Int} (h:i=P.length):atI (P++x :: R) i=x:=by
 subst h
 unfold atI
 rw [List.getD_eq_getElem?_getD,Int.toNat_natCast,List.getElem?_append_right (Nat.le_refl _),Nat.sub_self];rfl
theorem A0t (hE:Aw E) {h0 h:Aa} {b cap n:Nat} {P M T:List Int} {key:Int→Int} {cv:Value} (hb:h[b]? = some (Ad (P++M++T))) (hp:Pre h0 h) (hbm:h0.length≤b) (hc:Y9 E h0 cv key n) (hin:∀ x∈M,0≤x∧x<n) (hpre:M.Pairwise fun x y => key x=key y→x<y) (hfew:(P++M++T).length≤1048576) {W:Nat→Prop} (hW:W b) :
  WX W (callW E (.func (.func An) #[] #[]) [.slice (some ⟨b,0,none⟩) (P++M++T).length cap,.int .i64 P.length,.int .i64 ((P.length:Int)+M.length),cv] h) (fun _ h' => ∃ M',M'.Perm M∧M'.Pairwise (leK key)∧h'=h.set b (Ad (P++M'++T))):=by
 refine E9 hE.Kd rfl (by simp) ?_
 simp only [List.nil_append,List.cons_append,Ak]
 have hlt:=(GI.1 hb).1
 have hlen:(P++M++T).length=P.length+M.length+T.length:=by simp only [LA]
 rw [hlen] at hfew ⊢
 have few1:(P.length:Int)+M.length+T.length≤1048576:=by omega
 have hset:=Ds hb
 have Hin:=Hid.mk hin
 have Hpre:=Hid.mk hpre
 have Hc:=Hid.mk hc
 clear hin hpre hlen hc
 (repeat' simp -dsimp (disch:=omega) only [↓EA,EB,Nat.reduceEqDiff,Nat.reduceAdd,↓reduceIte,reduceCtorEq,eq_self, *])
 refine WO.loop (fun (S:List Int) fr h' => h'=h.set b (Ad (P++(S++M.drop S.length)++T))∧(M=[]∨(S.length≤M.length∧1≤S.length))∧S.Perm (M.take S.length)∧S.Pairwise (leK key)∧get fr 0 = .slice (some ⟨b,0,none⟩) (P.length+M.length+T.length) cap∧get fr 1 = .int .i64 P.length∧get fr 2 = .int .i64 ((P.length:Int)+M.length)∧get fr 3=cv∧get fr 8 = .int .i64 ((P.length:Int)+((max 1 S.length:Nat):Int))) (fun S => M.length - S.length) ?_ (M.take 1) ?_
 ·rintro S fr h' ⟨rfl,hSl,hSp,hSs,g0,g1,g2,g3,g8⟩
  unfold Di
  by_cases hend:max 1 S.length<M.length
  ·have hS1:S.length≤M.length∧1≤S.length:=by rcases hSl with e | e;subst e;simp at hend;exact e
   have hSM:S.length<M.length:=by omega
   have hmx:max 1 S.length=S.length:=by omega
   have hd:M.drop S.length=M[S.length] :: M.drop (S.length+1):=List.drop_eq_getElem_cons hSM
   obtain ⟨x,hx⟩:∃ x,x=M[S.length]:=⟨_,rfl⟩
   have hxm:x∈M:=by rw [hx];exact List.getElem_mem _
   rw [hd,← hx]
   rw [hmx] at g8
   have hxn:=Hin.out x hxm
   have hSin:∀ y∈S,0≤y∧y<n:=fun y hy => Hin.out y (List.mem_of_mem_take (hSp.mem_iff.1 hy))
   have hxS:∀ y∈S,key y=key x→y<x:=fun y hy => by
    have hy':=hSp.mem_iff.1 hy
    obtain ⟨k,hk,rfl⟩:=List.getElem_of_mem hy'
    rw [List.length_take] at hk
    rw [List.getElem_take,hx]
    exact List.pairwise_iff_getElem.1 Hpre.out k S.length (by omega) hSM (by omega)
   have hdone:∀ j:Nat,j≤S.length→(∀ y∈S.drop j,key x<key y)→(0<j→¬ key x<key (atI S ((j:Int) - 1)))→(S.take j++x :: S.drop j).length=S.length+1∧(S.take j++x :: S.drop j).Perm (M.take (S.length+1))∧(S.take j++x :: S.drop j).Pairwise (leK key):=fun j hj h1 h2 => by
    refine ⟨by simp only [LA,List.length_cons,List.length_take,List.length_drop];omega,?_,Abz hSs hxS hj h1 h2⟩
    rw [List.take_succ_eq_append_getElem hSM,← hx]
    refine List.Perm.trans List.perm_middle ?_
    rw [List.take_append_drop]
    exact (hSp.cons x).trans (List.perm_append_singleton x _).symm
   have Hdone:=Hid.mk hdone
   clear hdone
   have HxS:=Hid.mk hxS
   have HSin:=Hid.mk hSin
   have HSp:=Hid.mk hSp
   have HSs:=Hid.mk hSs
   have Hx:=Hid.mk hx
   have Hd:=Hid.mk hd
   clear hSp hSs hSl hmx hxS hSin hx hd
   (repeat' (first | (with_reducible refine A3 (fun _ => ?_) (fun _ => ?_)<;>try (exfalso;omega)) | simp -dsimp (disch:=omega) only [↓EA,EB,Nat.reduceEqDiff,↓reduceIte,reduceCtorEq,eq_self, *]))
   have e0:P++(S++x :: (M.drop (S.length+1)++T))=P++(S.take S.length++x :: S.drop S.length)++(M.drop (S.length+1)++T):=by simp
   rw [e0]
   refine WO.loop (fun (j:Nat) fr h' => h'=h.set b (Ad (P++(S.take j++x :: S.drop j)++(M.drop (S.length+1)++T)))∧j≤S.length∧(∀ y∈S.drop j,key x<key y)∧get fr 0 = .slice (some ⟨b,0,none⟩) (P.length+M.length+T.length) cap∧get fr 1 = .int .i64 P.length∧get fr 2 = .int .i64 ((P.length:Int)+M.length)∧get fr 3=cv∧get fr 8 = .int .i64 ((P.length:Int)+S.length)∧get fr 9 = .int .i64 ((P.length:Int)+j)) (fun j => j) ?_ S.length ⟨rfl,Nat.le_refl _,by simp,rfl,rfl,rfl,rfl,rfl,rfl⟩
   rintro j fr h' ⟨rfl,hjS,hdr,g0,g1,g2,g3,g8,g9⟩
   unfold Dj
   have Hdr:=Hid.mk hdr
   clear hdr
   have hll:(P++(S.take j++x :: S.drop j)++(M.drop (S.length+1)++T)).length=P.length+M.length+T.length:=by
    simp only [LA,List.length_cons,List.length_take,List.length_drop];omega
   have hatj:atI (P++(S.take j++x :: S.drop j)++(M.drop (S.length+1)++T)) ((P.length:Int)+j)=x:=by
    have e5:P++(S.take j++x :: S.drop j)++(M.drop (S.length+1)++T)=(P++S.take j)++x :: (S.drop j++(M.drop (S.length+1)++T)):=by simp
    rw [e5,Ms];rw [LA,List.length_take];omega
   have hatp:0<j→atI (P++(S.take j++x :: S.drop j)++(M.drop (S.length+1)++T)) ((P.length:Int)+j - 1)=atI S ((j:Int) - 1):=fun hj0 => by
    obtain ⟨k,rfl⟩:∃ k,j=k+1:=⟨j - 1,by omega⟩
    have hk:k<S.length:=by omega
    have e5:P++(S.take (k+1)++x :: S.drop (k+1))++(M.drop (S.length+1)++T)=(P++S.take k)++S[k] :: (x :: S.drop (k+1)++(M.drop (S.length+1)++T)):=by
     rw [List.take_succ_eq_append_getElem hk];simp only [List.append_assoc,List.cons_append,List.nil_append]
    rw [e5,Ms (by rw [LA,List.length_take];omega),show (((k+1:Nat):Int) - 1)=(k:Int) by omega,By hk]
   have hstep:=fun hj0 => Adt (P:=P) (S:=S) (R:=M.drop (S.length+1)++T) (x:=x) (j:=j) hj0 hjS
   generalize hA:P++(S.take j++x :: S.drop j)++(M.drop (S.length+1)++T)=A at *
   have hpre2:Pre h0 (h.set b (Ad A)):=hp.set hbm _
   have hbA:(h.set b (Ad A))[b]? = some (Ad A):=B9 hlt
   have hAl:((A.length:Nat):Int)=(P.length:Int)+M.length+T.length:=by omega
   have hjb:(j:Int)≤S.length∧(S.length:Int)<M.length∧(0:Int)≤P.length∧(0:Int)≤T.length:=by omega
   have HA:=Hid.mk hA
   have Hstep:=Hid.mk hstep
   have Hll:=Hid.mk hll
   have HAl:=Hid.mk hAl
   clear hA hstep hll hAl
   by_cases hj0:0<j
   ·have hatp':=hatp hj0
    have hyS:atI S ((j:Int) - 1)∈S:=Aj (by omega) (by omega)
    have hyn:=HSin.out _ hyS
    have hcc:=Hc.out _ hpre2 x (atI S ((j:Int) - 1)) hxn.1 hxn.2 hyn.1 hyn.2
    have i1:=Co (size:=1) (n:=P.length+M.length+T.length) (c:=cap) (b:=b) (o:=0) (sp:=none) (k:=.i64) (j:=(P.length:Int)+j) (by omega) (by omega)
    have i2:=Co (size:=1) (n:=P.length+M.length+T.length) (c:=cap) (b:=b) (o:=0) (sp:=none) (k:=.i64) (j:=(P.length:Int)+j - 1) (by omega) (by omega)
    have l1:=Ed (l:=A) (i:=(P.length:Int)+j) (by omega) (by rw [HAl.out];omega)
    have l2:=Ed (l:=A) (i:=(P.length:Int)+j - 1) (by omega) (by rw [HAl.out];omega)
    rw [hatj] at l1
    rw [hatp'] at l2
    generalize hy:atI S ((j:Int) - 1)=y at *
    by_cases hlt2:key x<key y
    ·have h3:N8 (key x) (key y) = -1:=by simp [N8,hlt2]
     rw [h3] at hcc
     have s1:=Jz (h:=h.set b (Ad A)) (b:=b) (l:=A) (i:=(P.length:Int)+j) (x:=y) (by omega) (by rw [HAl.out];omega)
     have s2:=Jz (h:=h.set b (Ad (A.set ((P.length:Int)+j).toNat y))) (b:=b) (l:=A.set ((P.length:Int)+j).toNat y) (i:=(P.length:Int)+j - 1) (x:=x) (by omega) (by rw [List.length_set,HAl.out];omega)
     have hbA2:(h.set b (Ad (A.set ((P.length:Int)+j).toNat y)))[b]? = some (Ad (A.set ((P.length:Int)+j).toNat y)):=B9 hlt
     rw [Nat.mul_one] at l1 l2 s1 s2
     clear hatp hatp'
     (repeat' (first | (with_reducible refine A1 (fun _ => ?_) (fun _ => ?_)<;>try (exfalso;omega)) | (with_reducible refine A3 (fun _ => ?_) (fun _ => ?_)<;>try (exfalso;omega)) | simp -dsimp (disch:=omega) only [↓EA,EB,Nat.reduceEqDiff,↓reduceIte,reduceCtorEq,eq_self, *,List.set_set,Nat.mul_one]))
     refine Next.mk (j - 1) ⟨?_,by omega,?_,rfl,rfl,rfl,rfl,rfl,by simp only [get];simp;omega⟩ (by omega)
     ·have:=Hstep.out hj0
      rw [show ((P.length:Int)+j).toNat=P.length+j by omega,show ((P.length:Int)+j - 1).toNat=P.length+j - 1 by omega,this]
     ·intro z hz
      rw [show j - 1=j - 1 from rfl,List.drop_eq_getElem_cons (by omega:j - 1<S.length)] at hz
      rcases List.mem_cons.1 hz with rfl | hz
      ·have e6:y=S[j - 1]:=by rw [← hy,show ((j:Int) - 1)=((j - 1:Nat):Int) by omega,By (by omega)]
       rw [← e6];exact hlt2
      ·rw [show j - 1+1=j by omega] at hz;exact Hdr.out z hz
    ·have h3:¬ N8 (key x) (key y)<0:=by unfold N8;rw [if_neg hlt2];split<;>decide
     clear hatp hatp'
     rw [Nat.mul_one] at l1 l2
     (repeat' (first | (with_reducible refine A1 (fun _ => ?_) (fun _ => ?_)<;>try (exfalso;omega)) | simp -dsimp (disch:=omega) only [↓EA,EB,Nat.reduceEqDiff,↓reduceIte,reduceCtorEq,eq_self, *,Nat.mul_one]))
     obtain ⟨d1,d2,d3⟩:=Hdone.out j hjS Hdr.out (fun _ => by rw [hy];exact hlt2)
     refine Next.mk (S.take j++x :: S.drop j) ⟨?_,.inr ⟨by omega,by omega⟩,by rw [d1];exact d2,d3,rfl,rfl,rfl,rfl,?_⟩ (by omega)
     ·rw [d1,← HA.out];simp only [List.append_assoc,List.cons_append]
     ·rw [d1];simp only [get];simp;omega
   ·(repeat' (first | (with_reducible refine A1 (fun _ => ?_) (fun _ => ?_)<;>try (exfalso;omega)) | simp -dsimp (disch:=omega) only [↓EA,EB,Nat.reduceEqDiff,↓reduceIte,reduceCtorEq,eq_self, *]))
    obtain ⟨d1,d2,d3⟩:=Hdone.out j hjS Hdr.out (fun h => absurd h hj0)
    refine Next.mk (S.take j++x :: S.drop j) ⟨?_,.inr ⟨by omega,by omega⟩,by rw [d1];exact d2,d3,rfl,rfl,rfl,rfl,?_⟩ (by omega)
    ·rw [d1,← HA.out];simp only [List.append_assoc,List.cons_append]
    ·rw [d1];simp only [get];simp;omega
  ·have he:S.length=M.length:=by
    have h5:=hSp.length_eq
    rw [List.length_take] at h5
    rcases hSl with e | e
    ·subst e;simp at h5 ⊢;omega
    ·omega
   have h6:M.drop S.length=[]:=List.drop_of_length_le (by omega)
   rw [he,List.take_length] at hSp
   have Hf:=Hid.mk (AI hSp hSs)
   have He:=Hid.mk he
   have hmx:¬ ((P.length:Int)+((max 1 S.length:Nat):Int)<(P.length:Int)+M.length):=by omega
   clear hSp hSs he hSl
   (repeat' simp -dsimp (disch:=omega) only [↓EA,EB,Nat.reduceEqDiff,↓reduceIte,reduceCtorEq,eq_self, *])
   exact ⟨S,Hf.out.1,Hf.out.2,rfl⟩
 ·have e1:(M.take 1).length=min 1 M.length:=List.length_take ..
  have e2:M.take 1++M.drop (M.take 1).length=M:=by
   rcases M with _ | ⟨x,M⟩
   ·rfl
   ·rfl
  refine ⟨by rw [e2,hset],?_,?_,?_,rfl,rfl,rfl,rfl,?_⟩
  ·rcases M with _ | ⟨x,M⟩
   ·exact .inl rfl
   ·exact .inr ⟨by simp,by simp⟩
  ·rcases M with _ | ⟨x,M⟩
   ·exact List.Perm.refl _
   ·exact List.Perm.refl _
  ·rcases M with _ | ⟨x,M⟩
   ·exact List.Pairwise.nil
   ·exact List.pairwise_singleton _ _
  ·have:max 1 (M.take 1).length=1:=by omega
   rw [this];rfl
theorem Acl {g:FuncId} {c:FnC} (hf:E g = .text c) (a b:Array Value) (args:List Value) (h:Aa):callW E (.func (.func g) a b) args h=callW E (.func (.func g) #[] #[]) (a.toList++args++b.toList) h:=by
 rw [Qv hf,Qu hf]
theorem Axw (hE:Aw E) {h:Aa} {bx:Nat} {vj:Value} {lv:List (NV Job)} (hb:h[bx]? = some (.cells [vj] false)) (hj:Rd 5 (Ia hdJ) h vj lv) {a b:Int} (ha:0≤a∧a<lv.length) (hb2:0≤b∧b<lv.length) :
  callW E (.func (.func C8) #[] #[.pointer (some ⟨bx,0,none⟩)]) [.int .i64 a,.int .i64 b] h=some (.int .i64 (N8 (atI lv a).j.release (atI lv b).j.release),h,[]):=by
 rw [Acl hE.Q8]
 have hc:=fun hh => Amk hE hh (atI lv a).j.release (atI lv b).j.release
 refine Am hE.Q8 rfl (by simp) ?_
 simp only [List.nil_append,List.cons_append,Ak]
 (repeat' simp -dsimp (disch:=omega) only [↓EA,EB,Nat.reduceEqDiff,Nat.reduceAdd,↓reduceIte,reduceCtorEq,eq_self, *,hj.ixs,hj.ld,Ia,hdJ])
def Aad (i n:Nat):List Int:=(List.range i).map Int.ofNat++List.replicate (n - i) 0
theorem Atf {i n:Nat} (h:i≤n):(Aad i n).length=n:=by simp [Aad];omega
theorem Ate {i n:Nat} (h:i<n):(Aad i n).set i (i:Int)=Aad (i+1) n:=by
 unfold Aad
 rw [List.set_append_right _ _ (by simp),List.length_map,List.length_range,Nat.sub_self,show n - i=(n - (i+1))+1 by omega,List.replicate_succ,List.set_cons_zero,List.range_succ,List.map_append]
 simp
def ltR (jobs:List Job) (a b:Nat):Prop:=(atI jobs (a:Int)).release<(atI jobs (b:Int)).release∨((atI jobs (a:Int)).release=(atI jobs (b:Int)).release∧a<b)
end Go.L.Try
namespace Go.L.Try
open Go Go.L
theorem Zv {α : Type} {U V:List α} {x y:α} {k:Nat} (h:k=U.length):(U++x :: V).set k y=U++y :: V:=by
 subst h
 rw [List.set_append_right _ _ (Nat.le_refl _),Nat.sub_self,List.set_cons_zero]
theorem Pw {l:List Int} {i:Nat} (h:i<l.length):l.drop i=atI l (i:Int) :: l.drop (i+1):=by
 rw [By h];exact List.drop_eq_getElem_cons h
theorem take_snoc {l:List Int} {i:Nat} (h:i<l.length):l.take (i+1)=l.take i++[atI l (i:Int)]:=by
 rw [By h];exact List.take_succ_eq_append_getElem h
def swA (P X M Y T:List Int) (i:Nat):List Int:=P++(Y.take i++X.drop i)++M++(X.take i++Y.drop i)++T
theorem Azd {P X M Y T:List Int} {i:Nat} (h:X.length=Y.length) (hi:i≤X.length):(swA P X M Y T i).length=P.length+X.length+M.length+Y.length+T.length:=by
 unfold swA
 simp only [LA,List.length_take,List.length_drop];omega
theorem A4t {P X M Y T:List Int}:swA P X M Y T 0=P++X++M++Y++T:=by simp [swA]
theorem Aze {P X M Y T:List Int} {n:Nat} (hx:n=X.length) (hy:n=Y.length):swA P X M Y T n=P++Y++M++X++T:=by
 have e1:X.take n=X:=List.take_of_length_le (by omega)
 have e2:Y.take n=Y:=List.take_of_length_le (by omega)
 have e3:X.drop n=[]:=List.drop_of_length_le (by omega)
 have e4:Y.drop n=[]:=List.drop_of_length_le (by omega)
 simp only [swA,e1,e2,e3,e4,List.append_nil]
theorem Up {P X M Y T:List Int} {i:Nat} (hx:i<X.length) (hy:i<Y.length):swA P X M Y T i=(P++Y.take i)++atI X (i:Int) :: (X.drop (i+1)++M++X.take i++atI Y (i:Int) :: (Y.drop (i+1)++T)):=by
 unfold swA
 rw [Pw hx,Pw hy]
 simp only [List.append_assoc,List.cons_append]
theorem Azg {P X M Y T:List Int} {i:Nat} (hx:i<X.length) (hy:i<Y.length):atI (swA P X M Y T i) ((P.length:Int)+i)=atI X (i:Int):=by
 rw [Up hx hy,Ms];rw [LA,List.length_take];omega
theorem Aak {P X M Y T:List Int} {i:Nat} {z:Int}:(P++Y.take i)++z :: (X.drop (i+1)++M++X.take i++atI Y (i:Int) :: (Y.drop (i+1)++T))=(P++Y.take i++z :: (X.drop (i+1)++M++X.take i))++atI Y (i:Int) :: (Y.drop (i+1)++T):=by
 simp only [List.append_assoc,List.cons_append]
theorem Ag3 {P X M Y:List Int} {i:Nat} {z:Int} (hx:i<X.length) (hy:i<Y.length):(P++Y.take i++z :: (X.drop (i+1)++M++X.take i)).length=P.length+X.length+M.length+i:=by
 simp only [LA,List.length_cons,List.length_take,List.length_drop];omega
theorem Azf {P X M Y T:List Int} {i:Nat} (hx:i<X.length) (hy:i<Y.length):atI (swA P X M Y T i) ((P.length:Int)+X.length+M.length+i)=atI Y (i:Int):=by
 rw [Up hx hy,Aak,Ms];rw [Ag3 hx hy];omega
theorem Atu {P X M Y T:List Int} {i:Nat} (hx:i<X.length) (hy:i<Y.length) :
  ((swA P X M Y T i).set (P.length+i) (atI Y (i:Int))).set (P.length+X.length+M.length+i) (atI X (i:Int))=swA P X M Y T (i+1):=by
 rw [Up hx hy,Zv (by rw [LA,List.length_take];omega),Aak,Zv (by rw [Ag3 hx hy])]
 unfold swA
 rw [take_snoc hx,take_snoc hy]
 simp only [List.append_assoc,List.cons_append,List.nil_append]
theorem Azc {P S R:List Int} {x:Int} {j:Nat} (hl:j<S.length) :
  ((P++(S.take j++x :: S.drop j)++R).set (P.length+j) (atI S (j:Int))).set (P.length+j+1) x=P++(S.take (j+1)++x :: S.drop (j+1))++R:=by
 rw [Pw hl,take_snoc hl]
 have e5:∀ y z:Int,P++(S.take j++y :: z :: S.drop (j+1))++R=(P++S.take j)++y :: (z :: S.drop (j+1)++R):=fun y z => by simp only [List.append_assoc,List.cons_append]
 have e6:∀ y z:Int,(P++S.take j)++y :: (z :: S.drop (j+1)++R)=(P++S.take j++[y])++z :: (S.drop (j+1)++R):=fun y z => by simp only [List.append_assoc,List.cons_append,List.nil_append]
 rw [e5,Zv (by rw [LA,List.length_take];omega),e6,Zv (by simp only [LA,List.length_take,List.length_cons,List.length_nil];omega)]
 simp only [List.append_assoc,List.cons_append,List.nil_append]
theorem M4 {key:Int→Int} {A:List Int} (hA:A.Pairwise (leK key)) {i j:Nat} (h1:i≤j) (h2:j<A.length):key (atI A (i:Int))≤key (atI A (j:Int)):=by
 rw [By h2,By (by omega)]
 by_cases e:i=j
 ·subst e;exact Int.le_refl _
 ·have:=List.pairwise_iff_getElem.1 hA i j (by omega) h2 (by omega)
  unfold leK at this;omega
theorem Sm {l:List Int} {k:Nat} {x:Int} (h:x∈l.take k):∃ i:Nat,i<k∧i<l.length∧x=atI l (i:Int):=by
 obtain ⟨i,hi,rfl⟩:=List.getElem_of_mem h
 rw [List.length_take] at hi
 exact ⟨i,by omega,by omega,by rw [List.getElem_take,By (by omega)]⟩
theorem Od {l:List Int} {k:Nat} {x:Int} (h:x∈l.drop k):∃ i:Nat,k≤i∧i<l.length∧x=atI l (i:Int):=by
 obtain ⟨i,hi,rfl⟩:=List.getElem_of_mem h
 rw [List.length_drop] at hi
 exact ⟨k+i,by omega,by omega,by rw [List.getElem_drop,By (by omega)]⟩
theorem Vn {r:Int→Int→Prop} {l:List Int} (h:l.Pairwise r) (k:Nat):(l.take k).Pairwise r:=h.sublist (List.take_sublist k l)
theorem Wn {r:Int→Int→Prop} {l:List Int} (h:l.Pairwise r) (k:Nat):(l.drop k).Pairwise r:=h.sublist (List.drop_sublist k l)
theorem Az2 {key:Int→Int} {A B:List Int} (hA:A.Pairwise (leK key)) (hB:B.Pairwise (leK key)) (hst:∀ x∈A,∀ y∈B,key x=key y→x<y) {mid s:Nat} (hm:mid=(A.length+B.length) / 2)
  (h1:mid - B.length≤s) (h2:s≤A.length) (h3:s≤mid) (i1:mid - B.length<s→¬ key (atI B ((mid - s:Nat):Int))<key (atI A ((s - 1:Nat):Int))) (i2:s<A.length→s<mid→key (atI B ((mid - 1 - s:Nat):Int))<key (atI A (s:Int))) :
  (∀ x∈A.take s++B.take (mid - s),∀ y∈A.drop s++B.drop (mid - s),leK key x y):=by
 intro x hx y hy
 rcases List.mem_append.1 hx with hx | hx<;>rcases List.mem_append.1 hy with hy | hy
 ·rw [← List.take_append_drop s A] at hA
  exact (List.pairwise_append.1 hA).2.2 x hx y hy
 ·have hxA:=List.mem_of_mem_take hx
  have hyB:=List.mem_of_mem_drop hy
  obtain ⟨i,c1,c2,rfl⟩:=Sm hx
  obtain ⟨j,d1,d2,rfl⟩:=Od hy
  have k1:=i1 (by omega)
  have k2:=M4 hA (i:=i) (j:=s - 1) (by omega) (by omega)
  have k3:=M4 hB (i:=mid - s) (j:=j) (by omega) (by omega)
  have k4:=hst _ hxA _ hyB
  unfold leK
  by_cases e:key (atI A (i:Int))=key (atI B (j:Int))
  ·exact .inr ⟨e,k4 e⟩
  ·left;omega
 ·obtain ⟨j,d1,d2,rfl⟩:=Sm hx
  obtain ⟨i,c1,c2,rfl⟩:=Od hy
  have k1:=i2 (by omega) (by omega)
  have k2:=M4 hA (i:=s) (j:=i) (by omega) (by omega)
  have k3:=M4 hB (i:=j) (j:=mid - 1 - s) (by omega) (by omega)
  left;omega
 ·rw [← List.take_append_drop (mid - s) B] at hB
  exact (List.pairwise_append.1 hB).2.2 x hx y hy
theorem Arr {key:Int→Int} {B:List Int} {x:Int} (hB:B.Pairwise (leK key)) (hst:∀ y∈B,key x=key y→x<y) {s:Nat} (hs:s≤B.length)
  (i1:0<s→key (atI B ((s - 1:Nat):Int))<key x) (i2:s<B.length→¬ key (atI B (s:Int))<key x):(B.take s++x :: B.drop s).Pairwise (leK key):=by
 refine List.pairwise_append.2 ⟨Vn hB s,List.pairwise_cons.2 ⟨fun y hy => ?_,Wn hB s⟩,fun y hy z hz => ?_⟩
 ·have hyB:=List.mem_of_mem_drop hy
  obtain ⟨i,c1,c2,rfl⟩:=Od hy
  have k1:=i2 (by omega)
  have k2:=M4 hB c1 c2
  have k3:=hst _ hyB
  unfold leK
  by_cases e:key x=key (atI B (i:Int))
  ·exact .inr ⟨e,k3 e⟩
  ·left;omega
 ·rcases List.mem_cons.1 hz with rfl | hz
  ·obtain ⟨i,c1,c2,rfl⟩:=Sm hy
   have k1:=i1 (by omega)
   have k2:=M4 hB (i:=i) (j:=s - 1) (by omega) (by omega)
   left;omega
  ·rw [← List.take_append_drop s B] at hB
   exact (List.pairwise_append.1 hB).2.2 y hy z hz
inductive Blk (key:Int→Int) (bs:Nat):List Int→List Int→Prop
 | last {M L:List Int}:M.length≤bs→L.Perm M→L.Pairwise (leK key)→Blk key bs M L
 | cons {M1 L1 M2 L2:List Int}:M1.length=bs→L1.Perm M1→L1.Pairwise (leK key)→Blk key bs M2 L2→Blk key bs (M1++M2) (L1++L2)
theorem Blk.perm {key:Int→Int} {bs:Nat} {M L:List Int} (h:Blk key bs M L):L.Perm M:=by
 induction h with
 | last _ p _ => exact p
 | cons _ p _ _ ih => exact p.append ih
theorem Blk.len {key:Int→Int} {bs:Nat} {M L:List Int} (h:Blk key bs M L):L.length=M.length:=h.perm.length_eq
theorem Blk.first {key:Int→Int} {bs:Nat} {M L:List Int} (h:Blk key bs M L) (hl:bs≤M.length):∃ L1 L2,L=L1++L2∧L1.length=bs∧L1.Perm (M.take bs)∧L1.Pairwise (leK key)∧Blk key bs (M.drop bs) L2:=by
 cases h with
 | last h1 h2 h3 =>
  refine ⟨L,[],by rw [List.append_nil],by rw [h2.length_eq];omega,?_,h3,?_⟩
  ·rw [List.take_of_length_le h1];exact h2
  ·rw [List.drop_of_length_le h1];exact .last (Nat.zero_le _) (List.Perm.refl _) .nil
 | cons h1 h2 h3 h4 =>
  refine ⟨_,_,rfl,by rw [h2.length_eq,h1],?_,h3,?_⟩
  ·rw [List.take_append_of_le_length (by omega),List.take_of_length_le (by omega)];exact h2
  ·rw [List.drop_append_of_le_length (by omega),List.drop_of_length_le (by omega),List.nil_append];exact h4
theorem Blk.one {key:Int→Int} {bs:Nat} {M L:List Int} (h:Blk key bs M L) (hl:M.length≤bs):L.Perm M∧L.Pairwise (leK key):=by
 cases h with
 | last h1 h2 h3 => exact ⟨h2,h3⟩
 | cons h1 h2 h3 h4 =>
  rename_i M1 L1 M2 L2
  have e:M2.length=0:=by rw [LA] at hl;omega
  have e2:M2=[]:=List.length_eq_zero_iff.1 e
  have e3:L2=[]:=List.length_eq_zero_iff.1 (by rw [h4.len,e])
  subst e2;subst e3
  rw [List.append_nil,List.append_nil];exact ⟨h2,h3⟩
def Dn (key:Int→Int) (bs:Nat) (M S:List Int):Prop:=S.length≤M.length∧∀ L,Blk key bs (M.drop S.length) L→Blk key bs M (S++L)
theorem Dn.nil {key:Int→Int} {bs:Nat} {M:List Int}:Dn key bs M []:=⟨Nat.zero_le _,fun L h => by simpa using h⟩
theorem Dn.snoc {key:Int→Int} {bs:Nat} {M S N:List Int} (h:Dn key bs M S) (hl:S.length+bs≤M.length) (hp:N.Perm ((M.drop S.length).take bs)) (hs:N.Pairwise (leK key)):Dn key bs M (S++N):=by
 have hn:N.length=bs:=by rw [hp.length_eq,List.length_take,List.length_drop];omega
 refine ⟨by rw [LA];omega,fun L hL => ?_⟩
 rw [LA,hn,← List.drop_drop] at hL
 rw [List.append_assoc]
 refine h.2 _ ?_
 have:=Blk.cons (M1:=(M.drop S.length).take bs) (by rw [List.length_take,List.length_drop];omega) hp hs hL
 rwa [List.take_append_drop] at this
theorem Dn.fin {key:Int→Int} {bs:Nat} {M S N:List Int} (h:Dn key bs M S) (hl:M.length≤S.length+bs) (hp:N.Perm (M.drop S.length)) (hs:N.Pairwise (leK key)):Blk key bs M (S++N) :=
 h.2 _ (.last (by rw [List.length_drop];omega) hp hs)
theorem Arq {key:Int→Int} {M:List Int} (h:M.Pairwise fun x y => key x=key y→x<y) (k:Nat):∀ x∈M.take k,∀ y∈M.drop k,key x=key y→x<y:=by
 rw [← List.take_append_drop k M] at h
 exact fun x hx y hy => (List.pairwise_append.1 h).2.2 x hx y hy
end Go.L.Try
namespace Go.L.Try
open Go Go.L
variable {E:Env}
theorem Xf (hE:Aw E) {h:Aa} {b cap:Nat} {P X M Y T:List Int} {cv:Value} (hb:h[b]? = some (Ad (P++X++M++Y++T))) (hxy:X.length=Y.length) {N:Nat} (hN:N=(P++X++M++Y++T).length) (hfew:N≤1048576) {W:Nat→Prop} (hW:W b) :
  WX W (callW E (.func (.func Ay) #[] #[]) [.slice (some ⟨b,0,none⟩) N cap,.int .i64 P.length,.int .i64 ((P.length:Int)+X.length+M.length),.int .i64 X.length,cv] h) (fun _ h' => h'=h.set b (Ad (P++Y++M++X++T))):=by
 refine E9 hE.Mh rfl (by simp) ?_
 simp only [List.nil_append,List.cons_append,Ak]
 have hlt:=(GI.1 hb).1
 have hlen:N=P.length+X.length+M.length+Y.length+T.length:=by rw [hN];simp only [LA]
 have hset:=Ds hb
 have Hxy:=Hid.mk hxy
 have Hlen:=Hid.mk hlen
 clear hN hxy hlen
 (repeat' simp -dsimp (disch:=omega) only [↓EA,EB,Nat.reduceEqDiff,Nat.reduceAdd,↓reduceIte,reduceCtorEq,eq_self, *])
 refine WO.loop (fun (i:Nat) fr h' => h'=h.set b (Ad (swA P X M Y T i))∧i≤X.length∧get fr 0 = .slice (some ⟨b,0,none⟩) N cap∧get fr 1 = .int .i64 P.length∧get fr 2 = .int .i64 ((P.length:Int)+X.length+M.length)∧get fr 3 = .int .i64 X.length∧get fr 10 = .int .i64 i) (fun i => X.length - i) ?_ 0 ⟨by rw [A4t,hset],Nat.zero_le _,rfl,rfl,rfl,rfl,rfl⟩
 rintro i fr h' ⟨rfl,hiX,g0,g1,g2,g3,g10⟩
 unfold Eh
 have hxy:=Hxy.out
 have hlen:=Hlen.out
 by_cases hi:i<X.length
 ·have hiY:i<Y.length:=by omega
  have a1:=Azg (P:=P) (M:=M) (T:=T) hi hiY
  have a2:=Azf (P:=P) (M:=M) (T:=T) hi hiY
  have al:=Azd (P:=P) (M:=M) (T:=T) hxy hiX
  have hstep:=Atu (P:=P) (M:=M) (T:=T) hi hiY
  have Hs:=Hid.mk hstep
  clear hstep
  generalize swA P X M Y T i=A at *
  have hbA:(h.set b (Ad A))[b]? = some (Ad A):=B9 hlt
  have i1:=Co (size:=1) (n:=N) (c:=cap) (b:=b) (o:=0) (sp:=none) (k:=.i64) (j:=(P.length:Int)+i) (by omega) (by omega)
  have i2:=Co (size:=1) (n:=N) (c:=cap) (b:=b) (o:=0) (sp:=none) (k:=.i64) (j:=(P.length:Int)+X.length+M.length+i) (by omega) (by omega)
  have l1:=Ed (l:=A) (i:=(P.length:Int)+i) (by omega) (by omega)
  have l2:=Ed (l:=A) (i:=(P.length:Int)+X.length+M.length+i) (by omega) (by omega)
  rw [a1] at l1
  rw [a2] at l2
  generalize atI X (i:Int)=x at *
  generalize atI Y (i:Int)=y at *
  have s1:=Jz (h:=h.set b (Ad A)) (b:=b) (l:=A) (i:=(P.length:Int)+i) (x:=y) (by omega) (by omega)
  have s2:=Jz (h:=h.set b (Ad (A.set ((P.length:Int)+i).toNat y))) (b:=b) (l:=A.set ((P.length:Int)+i).toNat y) (i:=(P.length:Int)+X.length+M.length+i) (x:=x) (by omega) (by rw [List.length_set];omega)
  have hbA2:(h.set b (Ad (A.set ((P.length:Int)+i).toNat y)))[b]? = some (Ad (A.set ((P.length:Int)+i).toNat y)):=B9 hlt
  rw [Nat.mul_one] at l1 l2 s1 s2
  have few1:(P.length:Int)+X.length+M.length+Y.length+T.length≤1048576:=by omega
  have hiX':(i:Int)<X.length:=by omega
  clear a1 a2 al hxy hlen
  (repeat' simp -dsimp (disch:=omega) only [↓EA,EB,Nat.reduceEqDiff,↓reduceIte,reduceCtorEq,eq_self, *,List.set_set,Nat.mul_one])
  refine Next.mk (i+1) ⟨?_,by omega,rfl,rfl,rfl,rfl,by simp only [get];simp⟩ (by omega)
  have:=Hs.out
  rw [← this,show ((P.length:Int)+i).toNat=P.length+i by omega,show ((P.length:Int)+X.length+M.length+i).toNat=P.length+X.length+M.length+i by omega]
 ·have e:i=X.length:=by omega
  subst e
  rw [Aze rfl hxy]
  clear hxy hlen
  (repeat' (first | (with_reducible refine A3 (fun _ => ?_) (fun _ => ?_)<;>try (exfalso;omega)) | simp -dsimp (disch:=omega) only [↓EA,EB,Nat.reduceEqDiff,↓reduceIte,reduceCtorEq,eq_self, *]))
theorem Azu (hE:Aw E) {h:Aa} {b cap:Nat} {P A B T:List Int} {cv:Value} (hb:h[b]? = some (Ad (P++A++B++T))) (hA:A≠[]) (hB:B≠[]) {N:Nat} (hN:N=(P++A++B++T).length) (hfew:N≤1048576) {W:Nat→Prop} (hW:W b) :
  WX W (callW E (.func (.func Bg) #[] #[]) [.slice (some ⟨b,0,none⟩) N cap,.int .i64 P.length,.int .i64 ((P.length:Int)+A.length),.int .i64 ((P.length:Int)+A.length+B.length),cv] h) (fun _ h' => h'=h.set b (Ad (P++B++A++T))):=by
 refine E9 hE.Ov rfl (by simp) ?_
 simp only [List.nil_append,List.cons_append,Ak]
 have hlt:=(GI.1 hb).1
 have hlen:N=P.length+A.length+B.length+T.length:=by rw [hN];simp only [LA]
 have hset:=Ds hb
 have hA1:0<A.length:=List.length_pos_iff.2 hA
 have hB1:0<B.length:=List.length_pos_iff.2 hB
 have few1:(P.length:Int)+A.length+B.length+T.length≤1048576:=by omega
 have e1:(P.length:Int)+A.length - P.length=A.length:=by omega
 have e2:(P.length:Int)+A.length+B.length - ((P.length:Int)+A.length)=B.length:=by omega
 have Hlen:=Hid.mk hlen
 clear hN hA hB hlen
 (repeat' simp -dsimp (disch:=omega) only [↓EA,EB,Nat.reduceEqDiff,Nat.reduceAdd,↓reduceIte,reduceCtorEq,eq_self, *])
 refine WO.loop (fun (q:List Int × List Int × List Int × List Int) fr h' => h'=h.set b (Ad (P++q.1++q.2.1++q.2.2.1++q.2.2.2++T))∧q.1++q.2.2.1++q.2.1++q.2.2.2=B++A∧0<q.2.1.length∧0<q.2.2.1.length∧q.1.length+q.2.1.length=A.length∧q.2.2.1.length+q.2.2.2.length=B.length∧get fr 0 = .slice (some ⟨b,0,none⟩) N cap∧get fr 2 = .int .i64 ((P.length:Int)+A.length)∧get fr 4=cv∧get fr 10 = .int .i64 q.2.1.length∧get fr 11 = .int .i64 q.2.2.1.length) (fun q => q.2.1.length+q.2.2.1.length) ?_ ([],A,B,[]) ⟨by simp only [List.append_nil];rw [hset],by simp,hA1,hB1,by simp,by simp,rfl,rfl,rfl,rfl,rfl⟩
 rintro ⟨U,A',B',V⟩ fr h' ⟨rfl,hUV,hA2,hB2,hU,hV,g0,g2,g4,g10,g11⟩
 unfold Fj
 have hlen:=Hlen.out
 dsimp only at *
 have hU':(U.length:Int)+A'.length=A.length:=by omega
 have hV':(B'.length:Int)+V.length=B.length:=by omega
 have hbc:(h.set b (Ad (P++U++A'++B'++V++T)))[b]? = some (Ad (P++U++A'++B'++V++T)):=B9 hlt
 rcases Nat.lt_trichotomy A'.length B'.length with hlt2 | heq | hgt
 ·have f1:A'.length≤B'.length:=by omega
  obtain ⟨B1,B2,rfl,hl2⟩:∃ B1 B2,B'=B1++B2∧B2.length=A'.length:=⟨B'.take (B'.length - A'.length),B'.drop (B'.length - A'.length),(List.take_append_drop _ _).symm,by rw [List.length_drop];omega⟩
  have hsw:=Xf hE (h:=h.set b (Ad (P++U++A'++(B1++B2)++V++T))) (b:=b) (cap:=cap) (P:=P++U) (X:=A') (M:=B1) (Y:=B2) (T:=V++T) (cv:=cv) (by rw [hbc];simp only [List.append_assoc]) hl2.symm (N:=N) (by simp only [LA] at *;omega) hfew hW
  have k1:(P.length:Int)+A.length - A'.length=((P++U).length:Nat):=by rw [LA];omega
  have k2:(P.length:Int)+A.length+(B1++B2).length - A'.length=((P++U).length:Nat)+A'.length+B1.length:=by simp only [LA] at *;omega
  have k3:((B1++B2).length:Int) - A'.length=B1.length:=by simp only [LA] at *;omega
  have k4:0<B1.length:=by simp only [LA] at *;omega
  have c1:(A'.length:Int)<(B1++B2).length:=by omega
  have c2:((B1++B2).length:Int)≤B.length:=by omega
  rw [List.set_set] at hsw
  have Hk:=Hid.mk (AI hUV (AI hlen (AI hU hV)))
  generalize h.set b (Ad (P++U++A'++(B1++B2)++V++T))=H at hsw hbc ⊢
  generalize hn:(B1++B2).length=nb at *
  generalize hpu:(P++U).length=pu at *
  have Hn:=Hid.mk hn
  clear hUV hlen hU hV hbc hn hpu
  (repeat' (first | (with_reducible refine A3 (fun _ => ?_) (fun _ => ?_)<;>try (exfalso;omega)) | simp -dsimp (disch:=omega) only [↓EA,EB,Nat.reduceEqDiff,↓reduceIte,reduceCtorEq,eq_self, *]))
  refine WX.mono hsw (fun b hb => hb) fun v h2 e => ?_
  subst e
  (repeat' simp -dsimp (disch:=omega) only [↓EA,EB,Nat.reduceEqDiff,↓reduceIte,reduceCtorEq,eq_self, *])
  refine Next.mk (U,B2,B1,A'++V) ⟨?_,?_,by dsimp only;omega,k4,by dsimp only;omega,?_,rfl,rfl,rfl,?_,?_⟩ ?_
  ·simp only [List.append_assoc]
  ·dsimp only
   rw [← Hk.out.1];simp only [List.append_assoc]
  ·have:=Hk.out.2.2.2
   have hn:=Hn.out
   simp only [LA] at *;omega
  ·simp only [get];simp;omega
  ·simp only [get];simp
  ·have hn:=Hn.out
   dsimp only;rw [LA] at *;omega
 ·have hsw:=Xf hE (h:=h.set b (Ad (P++U++A'++B'++V++T))) (b:=b) (cap:=cap) (P:=P++U) (X:=A') (M:=[]) (Y:=B') (T:=V++T) (cv:=cv) (by rw [hbc];simp only [List.append_assoc,List.append_nil]) heq (N:=N) (by simp only [LA,List.length_nil] at *;omega) hfew hW
  have k1:(P.length:Int)+A.length - A'.length=((P++U).length:Nat):=by rw [LA];omega
  have k2:((P++U).length:Int)+A'.length+([]:List Int).length=(P.length:Int)+A.length:=by simp only [LA,List.length_nil];omega
  rw [k2] at hsw
  rw [List.set_set] at hsw
  generalize h.set b (Ad (P++U++A'++B'++V++T))=H at hsw hbc ⊢
  rw [← heq] at g11
  have e3:P++B++A++T=P++U++B'++[]++A'++(V++T):=by
   rw [List.append_assoc P B A,← hUV];simp only [List.append_assoc,List.nil_append]
  rw [e3]
  generalize hpu:(P++U).length=pu at *
  have c2:(A'.length:Int)≤A.length:=by omega
  clear hUV hlen hU hV hbc hpu e3 heq hU' hV' hB2
  (repeat' simp -dsimp (disch:=omega) only [↓EA,EB,Nat.reduceEqDiff,↓reduceIte,reduceCtorEq,eq_self, *])
  refine WX.mono hsw (fun b hb => hb) fun v h2 e => ?_
  subst e
  (repeat' simp -dsimp (disch:=omega) only [↓EA,EB,eq_self, *])
 ·obtain ⟨A1,A2,rfl,hl2⟩:∃ A1 A2,A'=A1++A2∧A1.length=B'.length:=⟨A'.take B'.length,A'.drop B'.length,(List.take_append_drop _ _).symm,by rw [List.length_take];omega⟩
  have hsw:=Xf hE (h:=h.set b (Ad (P++U++(A1++A2)++B'++V++T))) (b:=b) (cap:=cap) (P:=P++U) (X:=A1) (M:=A2) (Y:=B') (T:=V++T) (cv:=cv) (by rw [hbc];simp only [List.append_assoc]) hl2 (N:=N) (by simp only [LA] at *;omega) hfew hW
  have k1:(P.length:Int)+A.length - (A1++A2).length=((P++U).length:Nat):=by simp only [LA] at *;omega
  have k2:((P++U).length:Int)+A1.length+A2.length=(P.length:Int)+A.length:=by simp only [LA] at *;omega
  have k3:((A1++A2).length:Int) - B'.length=A2.length:=by simp only [LA] at *;omega
  have k4:0<A2.length:=by simp only [LA] at *;omega
  rw [k2,show (A1.length:Int)=B'.length by omega] at hsw
  have c1:(B'.length:Int)<(A1++A2).length:=by omega
  have c2:((A1++A2).length:Int)≤A.length:=by omega
  rw [List.set_set] at hsw
  have Hk:=Hid.mk (AI hUV (AI hlen (AI hU hV)))
  generalize h.set b (Ad (P++U++(A1++A2)++B'++V++T))=H at hsw hbc ⊢
  generalize hn:(A1++A2).length=nb at *
  generalize hpu:(P++U).length=pu at *
  clear hUV hlen hU hV hbc hpu
  (repeat' (first | (with_reducible refine A3 (fun _ => ?_) (fun _ => ?_)<;>try (exfalso;omega)) | simp -dsimp (disch:=omega) only [↓EA,EB,Nat.reduceEqDiff,↓reduceIte,reduceCtorEq,eq_self, *]))
  refine WX.mono hsw (fun b hb => hb) fun v h2 e => ?_
  subst e
  (repeat' simp -dsimp (disch:=omega) only [↓EA,EB,Nat.reduceEqDiff,↓reduceIte,reduceCtorEq,eq_self, *])
  have hn2:A1.length+A2.length=nb:=by rw [← hn,LA]
  have hu2:=Hk.out.2.2.1
  refine Next.mk (U++B',A2,A1,V) ⟨?_,?_,k4,by dsimp only;omega,?_,by dsimp only;omega,rfl,rfl,rfl,?_,?_⟩ ?_
  ·simp only [List.append_assoc]
  ·dsimp only
   rw [← Hk.out.1];simp only [List.append_assoc]
  ·simp only [LA];omega
  ·simp only [get];simp
  ·simp only [get];simp;omega
  ·dsimp only;omega
end Go.L.Try
set_option maxHeartbeats 4000000
namespace Go.L.Try
open Go Go.L
variable {E:Env}
theorem Ae6 {P A R:List Int} {i:Nat} (h:i<A.length):atI (P++A++R) ((P.length:Int)+i)=atI A (i:Int):=by
 have e:P++A++R=(P++A.take i)++atI A (i:Int) :: (A.drop (i+1)++R):=by
  conv => lhs;rw [← List.take_append_drop i A,Pw h]
  simp only [List.append_assoc,List.cons_append]
 rw [e,Ms];rw [LA,List.length_take];omega
theorem Lp {q:EqK} {a:Int} (h1:0≤a):binOp .shr q (.int .u64 a) (.int .u64 1)=some (.int .u64 (a / 2)):=by
 have e:binOp .shr q (.int .u64 a) (.int .u64 1)=some (.int .u64 (Int.fdiv a 2)):=by simp [binOp,Fe];rfl
 rw [e,Int.fdiv_eq_ediv_of_nonneg _ (by decide)]
theorem Azb (hE:Aw E) {h0 h:Aa} {b cap n N:Nat} {P B T:List Int} {x:Int} {key:Int→Int} {cv:Value} (hb:h[b]? = some (Ad (P++[x]++B++T))) (hp:Pre h0 h) (hbm:h0.length≤b) (hc:Y9 E h0 cv key n) (hN:N=P.length+1+B.length+T.length) (hfew:N≤1048576)
  (hx:0≤x∧x<n) (hB:∀ y∈B,0≤y∧y<n) (hs:B.Pairwise (leK key)) (hst:∀ y∈B,key x=key y→x<y) {W:Nat→Prop} (hW:W b) :
  WX W (callW E (.func (.func Ai) #[] #[]) [.slice (some ⟨b,0,none⟩) N cap,.int .i64 P.length,.int .i64 ((P.length:Int)+1),.int .i64 ((P.length:Int)+1+B.length),cv] h) (fun _ h' => ∃ S,S.Perm (x :: B)∧S.Pairwise (leK key)∧h'=h.set b (Ad (P++S++T))):=by
 refine E9 hE.Dr rfl (by simp) ?_
 simp only [List.nil_append,List.cons_append,Ak]
 have hlt:=(GI.1 hb).1
 have hset:=Ds hb
 have e1:(P.length:Int)+1 - P.length=1:=by omega
 have few1:(P.length:Int)+1+B.length+T.length≤1048576:=by omega
 have Hx:=Hid.mk (AI hc (AI hx (AI hB (AI hs (AI hst hN)))))
 have Hb:=Hid.mk hb
 clear hc hx hB hs hst hN hb
 (repeat' simp -dsimp (disch:=omega) only [↓EA,EB,Nat.reduceEqDiff,Nat.reduceAdd,↓reduceIte,reduceCtorEq,eq_self, *])
 refine WO.loop (fun (q:Nat × Nat) fr h' => h'=h∧q.1≤q.2∧q.2≤B.length∧(0<q.1→key (atI B ((q.1 - 1:Nat):Int))<key x)∧(q.2<B.length→¬ key (atI B (q.2:Int))<key x)∧get fr 0 = .slice (some ⟨b,0,none⟩) N cap∧get fr 1 = .int .i64 P.length∧get fr 4=cv∧get fr 10 = .int .i64 ((P.length:Int)+1+q.1)∧get fr 11 = .int .i64 ((P.length:Int)+1+q.2)) (fun q => q.2 - q.1) ?_ (0,B.length) ⟨rfl,Nat.zero_le _,Nat.le_refl _,fun h => absurd h (Nat.lt_irrefl _),fun h => absurd h (Nat.lt_irrefl _),rfl,rfl,rfl,by simp only [get];simp,rfl⟩
 rintro ⟨i,j⟩ fr h' ⟨e0,hij,hjB,f1,f2,g0,g1,g4,g10,g11⟩
 subst h'
 unfold Er
 dsimp only at *
 obtain ⟨hc,hx,hB,hs,hst,hN⟩:=Hx.out
 have F1:=Hid.mk f1
 have F2:=Hid.mk f2
 clear f1 f2
 by_cases hlt2:i<j
 ·obtain ⟨c,hcc⟩:∃ c,c=(i+j) / 2:=⟨_,rfl⟩
  have hb:=Hb.out
  have a1:=Ae6 (P:=P++[x]) (A:=B) (R:=T) (i:=c) (by omega)
  have a2:=Ae6 (P:=P) (A:=[x]) (R:=B++T) (i:=0) (by simp)
  rw [show ((P++[x]).length:Int)=(P.length:Int)+1 by simp] at a1
  rw [Int.natCast_zero,Int.add_zero,show atI [x] 0=x from rfl,← List.append_assoc] at a2
  have hL:(P++[x]++B++T).length=N:=by simp only [LA,List.length_cons,List.length_nil];omega
  have hyB:atI B (c:Int)∈B:=Aj (by omega) (by omega)
  have hy:=hB _ hyB
  have l1:=Ed (l:=P++[x]++B++T) (i:=(P.length:Int)+1+c) (by omega) (by omega)
  have l2:=Ed (l:=P++[x]++B++T) (i:=(P.length:Int)) (by omega) (by omega)
  rw [a1,Nat.mul_one] at l1
  rw [a2,Nat.mul_one] at l2
  generalize P++[x]++B++T=A at *
  have hcc2:=hc _ hp (atI B (c:Int)) x hy.1 hy.2 hx.1 hx.2
  have i1:=Co (size:=1) (n:=N) (c:=cap) (b:=b) (o:=0) (sp:=none) (k:=.i64) (j:=(P.length:Int)+1+c) (by omega) (by omega)
  have i2:=Co (size:=1) (n:=N) (c:=cap) (b:=b) (o:=0) (sp:=none) (k:=.i64) (j:=(P.length:Int)) (by omega) (by omega)
  rw [Nat.mul_one] at i1 i2
  have k1:((P.length:Int)+1+i+((P.length:Int)+1+j)) / 2=(P.length:Int)+1+c:=by omega
  have k2:(c:Int)<B.length:=by omega
  have k3:(i:Int)<j:=by omega
  have k4:(j:Int)≤B.length:=by omega
  have Hcc:=Hid.mk hcc
  generalize hyv:atI B (c:Int)=y at *
  clear hcc hc hB hs hst hN hL
  by_cases hk:key y<key x
  ·have h3:N8 (key y) (key x) = -1:=by simp [N8,hk]
   rw [h3] at hcc2
   (repeat' (first | (with_reducible refine A3 (fun _ => ?_) (fun _ => ?_)<;>try (exfalso;omega)) | simp -dsimp (disch:=omega) only [↓EA,EB,Nat.reduceEqDiff,↓reduceIte,reduceCtorEq,eq_self, *,Lp]))
   have hcc:=Hcc.out
   refine Next.mk (c+1,j) ⟨rfl,by dsimp only;omega,by dsimp only;omega,fun _ => ?_,F2.out,rfl,rfl,rfl,?_,rfl⟩ ?_
   ·dsimp only
    rw [show c+1 - 1=c from rfl,hyv];exact hk
   ·simp only [get];simp;omega
   ·dsimp only;omega
  ·have h3:¬ N8 (key y) (key x)<0:=by unfold N8;rw [if_neg hk];split<;>decide
   (repeat' (first | (with_reducible refine A3 (fun _ => ?_) (fun _ => ?_)<;>try (exfalso;omega)) | simp -dsimp (disch:=omega) only [↓EA,EB,Nat.reduceEqDiff,↓reduceIte,reduceCtorEq,eq_self, *,Lp]))
   have hcc:=Hcc.out
   refine Next.mk (i,c) ⟨rfl,by dsimp only;omega,by dsimp only;omega,F1.out,fun _ => ?_,rfl,rfl,rfl,rfl,?_⟩ ?_
   ·dsimp only
    rw [hyv];exact hk
   ·simp only [get];simp
   ·dsimp only;omega
 ·have e:j=i:=by omega
  subst e
  have hres:=Arr hs hst hjB F1.out F2.out
  have hper:(B.take j++x :: B.drop j).Perm (x :: B):=by
   refine List.perm_middle.trans ?_
   rw [List.take_append_drop]
  have HR:=Hid.mk (AI hres hper)
  have Hb2:=Hid.mk hB
  clear hres hper hc hx hB hs hst hN
  have k5:(P.length:Int)+1+j - 1=(P.length:Int)+j:=by omega
  have k6:(j:Int)≤B.length:=by omega
  (repeat' (first | (with_reducible refine A3 (fun _ => ?_) (fun _ => ?_)<;>try (exfalso;omega)) | simp -dsimp (disch:=omega) only [↓EA,EB,Nat.reduceEqDiff,↓reduceIte,reduceCtorEq,eq_self, *]))
  refine WO.loop (fun (i:Nat) fr h' => h'=h.set b (Ad (P++(B.take i++x :: B.drop i)++T))∧i≤j∧get fr 0 = .slice (some ⟨b,0,none⟩) N cap∧get fr 10 = .int .i64 ((P.length:Int)+1+j)∧get fr 13 = .int .i64 ((P.length:Int)+i)) (fun i => j - i) ?_ 0 ⟨?_,Nat.zero_le _,rfl,rfl,?_⟩
  ·rintro i fr h' ⟨rfl,hij,g0,g10,g13⟩
   unfold Ep
   by_cases hlt2:i<j
   ·have hiB:i<B.length:=by omega
    have hstep:=Azc (P:=P) (S:=B) (R:=T) (x:=x) (j:=i) hiB
    have a1:atI (P++(B.take i++x :: B.drop i)++T) ((P.length:Int)+i)=x:=by
     rw [show P++(B.take i++x :: B.drop i)++T=(P++B.take i)++x :: (B.drop i++T) by simp only [List.append_assoc,List.cons_append],Ms];rw [LA,List.length_take];omega
    have a2:atI (P++(B.take i++x :: B.drop i)++T) ((P.length:Int)+i+1)=atI B (i:Int):=by
     rw [Pw hiB,show ∀ y,P++(B.take i++x :: y :: B.drop (i+1))++T=(P++B.take i++[x])++y :: (B.drop (i+1)++T) from fun y => by simp only [List.append_assoc,List.cons_append,List.nil_append],Ms]
     simp only [LA,List.length_take,List.length_cons,List.length_nil];omega
    have hL:(P++(B.take i++x :: B.drop i)++T).length=P.length+1+B.length+T.length:=by simp only [LA,List.length_cons,List.length_take,List.length_drop];omega
    have Hs:=Hid.mk hstep
    clear hstep
    have hN:=Hx.out.2.2.2.2.2
    generalize P++(B.take i++x :: B.drop i)++T=A at *
    have hbA:(h.set b (Ad A))[b]? = some (Ad A):=B9 hlt
    have i1:=Co (size:=1) (n:=N) (c:=cap) (b:=b) (o:=0) (sp:=none) (k:=.i64) (j:=(P.length:Int)+i) (by omega) (by omega)
    have i2:=Co (size:=1) (n:=N) (c:=cap) (b:=b) (o:=0) (sp:=none) (k:=.i64) (j:=(P.length:Int)+i+1) (by omega) (by omega)
    have l1:=Ed (l:=A) (i:=(P.length:Int)+i) (by omega) (by omega)
    have l2:=Ed (l:=A) (i:=(P.length:Int)+i+1) (by omega) (by omega)
    rw [a1] at l1
    rw [a2] at l2
    generalize atI B (i:Int)=y at *
    have s1:=Jz (h:=h.set b (Ad A)) (b:=b) (l:=A) (i:=(P.length:Int)+i) (x:=y) (by omega) (by omega)
    have s2:=Jz (h:=h.set b (Ad (A.set ((P.length:Int)+i).toNat y))) (b:=b) (l:=A.set ((P.length:Int)+i).toNat y) (i:=(P.length:Int)+i+1) (x:=x) (by omega) (by rw [List.length_set];omega)
    have hbA2:(h.set b (Ad (A.set ((P.length:Int)+i).toNat y)))[b]? = some (Ad (A.set ((P.length:Int)+i).toNat y)):=B9 hlt
    rw [Nat.mul_one] at l1 l2 s1 s2
    have k7:(i:Int)<j:=by omega
    clear a1 a2 hL hN
    (repeat' (first | (with_reducible refine A3 (fun _ => ?_) (fun _ => ?_)<;>try (exfalso;omega)) | simp -dsimp (disch:=omega) only [↓EA,EB,Nat.reduceEqDiff,↓reduceIte,reduceCtorEq,eq_self, *,List.set_set,Nat.mul_one]))
    refine Next.mk (i+1) ⟨?_,by omega,rfl,rfl,by simp only [get];simp;omega⟩ (by omega)
    have:=Hs.out
    rw [← this,show ((P.length:Int)+i).toNat=P.length+i by omega,show ((P.length:Int)+i+1).toNat=P.length+i+1 by omega]
   ·have e:i=j:=by omega
    subst e
    (repeat' (first | (with_reducible refine A3 (fun _ => ?_) (fun _ => ?_)<;>try (exfalso;omega)) | simp -dsimp (disch:=omega) only [↓EA,EB,Nat.reduceEqDiff,↓reduceIte,reduceCtorEq,eq_self, *]))
    refine ⟨_,HR.out.2,HR.out.1,?_⟩
    simp only [List.append_assoc,List.cons_append]
  ·rw [List.take_zero,List.drop_zero,List.nil_append,show P++(x :: B)++T=P++[x]++B++T by simp only [List.append_assoc,List.cons_append,List.nil_append]]
   have hb:=Hb.out
   rw [hset]
  ·simp only [get];simp
theorem Ats (hE:Aw E) {h0 h:Aa} {b cap n N:Nat} {P A T:List Int} {y:Int} {key:Int→Int} {cv:Value} (hb:h[b]? = some (Ad (P++A++[y]++T))) (hp:Pre h0 h) (hbm:h0.length≤b) (hc:Y9 E h0 cv key n) (hN:N=P.length+A.length+1+T.length) (hfew:N≤1048576) (hA2:1<A.length)
  (hy:0≤y∧y<n) (hA:∀ x∈A,0≤x∧x<n) (hs:A.Pairwise (leK key)) (hst:∀ x∈A,key x=key y→x<y) {W:Nat→Prop} (hW:W b) :
  WX W (callW E (.func (.func Ai) #[] #[]) [.slice (some ⟨b,0,none⟩) N cap,.int .i64 P.length,.int .i64 ((P.length:Int)+A.length),.int .i64 ((P.length:Int)+A.length+1),cv] h) (fun _ h' => ∃ S,S.Perm (A++[y])∧S.Pairwise (leK key)∧h'=h.set b (Ad (P++S++T))):=by
 refine E9 hE.Dr rfl (by simp) ?_
 simp only [List.nil_append,List.cons_append,Ak]
 have hlt:=(GI.1 hb).1
 have hset:=Ds hb
 have e1:(P.length:Int)+A.length - P.length=A.length:=by omega
 have e2:(P.length:Int)+A.length+1 - ((P.length:Int)+A.length)=1:=by omega
 have e3:¬ (A.length:Int)=1:=by omega
 have few1:(P.length:Int)+A.length+1+T.length≤1048576:=by omega
 have Hx:=Hid.mk (AI hc (AI hy (AI hA (AI hs (AI hst hN)))))
 have Hb:=Hid.mk hb
 clear hc hy hA hs hst hN hb
 (repeat' simp -dsimp (disch:=omega) only [↓EA,EB,Nat.reduceEqDiff,Nat.reduceAdd,↓reduceIte,reduceCtorEq,eq_self, *])
 refine WO.loop (fun (q:Nat × Nat) fr h' => h'=h∧q.1≤q.2∧q.2≤A.length∧(0<q.1→¬ key y<key (atI A ((q.1:Int) - 1)))∧(q.2<A.length→key y<key (atI A (q.2:Int)))∧get fr 0 = .slice (some ⟨b,0,none⟩) N cap∧get fr 2 = .int .i64 ((P.length:Int)+A.length)∧get fr 4=cv∧get fr 14 = .int .i64 ((P.length:Int)+q.1)∧get fr 15 = .int .i64 ((P.length:Int)+q.2)) (fun q => q.2 - q.1) ?_ (0,A.length) ⟨rfl,Nat.zero_le _,Nat.le_refl _,fun h => absurd h (Nat.lt_irrefl _),fun h => absurd h (Nat.lt_irrefl _),rfl,rfl,rfl,by simp only [get];simp,rfl⟩
 rintro ⟨i,j⟩ fr h' ⟨e0,hij,hjA,f1,f2,g0,g2,g4,g14,g15⟩
 subst h'
 unfold Eo
 dsimp only at *
 obtain ⟨hc,hy,hA,hs,hst,hN⟩:=Hx.out
 have F1:=Hid.mk f1
 have F2:=Hid.mk f2
 clear f1 f2
 by_cases hlt2:i<j
 ·obtain ⟨c,hcc⟩:∃ c,c=(i+j) / 2:=⟨_,rfl⟩
  have hb:=Hb.out
  have a1:=Ae6 (P:=P) (A:=A) (R:=[y]++T) (i:=c) (by omega)
  have a2:=Ae6 (P:=P++A) (A:=[y]) (R:=T) (i:=0) (by simp)
  rw [← List.append_assoc] at a1
  rw [Int.natCast_zero,Int.add_zero,show atI [y] 0=y from rfl,show ((P++A).length:Int)=(P.length:Int)+A.length by simp] at a2
  have hL:(P++A++[y]++T).length=N:=by simp only [LA,List.length_cons,List.length_nil];omega
  have hxA:atI A (c:Int)∈A:=Aj (by omega) (by omega)
  have hx:=hA _ hxA
  have l1:=Ed (l:=P++A++[y]++T) (i:=(P.length:Int)+c) (by omega) (by omega)
  have l2:=Ed (l:=P++A++[y]++T) (i:=(P.length:Int)+A.length) (by omega) (by omega)
  rw [a1,Nat.mul_one] at l1
  rw [a2,Nat.mul_one] at l2
  generalize P++A++[y]++T=L at *
  have hcc2:=hc _ hp y (atI A (c:Int)) hy.1 hy.2 hx.1 hx.2
  have i1:=Co (size:=1) (n:=N) (c:=cap) (b:=b) (o:=0) (sp:=none) (k:=.i64) (j:=(P.length:Int)+c) (by omega) (by omega)
  have i2:=Co (size:=1) (n:=N) (c:=cap) (b:=b) (o:=0) (sp:=none) (k:=.i64) (j:=(P.length:Int)+A.length) (by omega) (by omega)
  rw [Nat.mul_one] at i1 i2
  have k1:((P.length:Int)+i+((P.length:Int)+j)) / 2=(P.length:Int)+c:=by omega
  have k2:(c:Int)<A.length:=by omega
  have k3:(i:Int)<j:=by omega
  have k4:(j:Int)≤A.length:=by omega
  have Hcc:=Hid.mk hcc
  generalize hxv:atI A (c:Int)=x at *
  clear hcc hc hA hs hst hN hL
  by_cases hk:key y<key x
  ·have h3:N8 (key y) (key x) = -1:=by simp [N8,hk]
   rw [h3] at hcc2
   (repeat' (first | (with_reducible refine A3 (fun _ => ?_) (fun _ => ?_)<;>try (exfalso;omega)) | simp -dsimp (disch:=omega) only [↓EA,EB,Nat.reduceEqDiff,↓reduceIte,reduceCtorEq,eq_self, *,Lp]))
   have hcc:=Hcc.out
   refine Next.mk (i,c) ⟨rfl,by dsimp only;omega,by dsimp only;omega,F1.out,fun _ => ?_,rfl,rfl,rfl,rfl,?_⟩ ?_
   ·dsimp only
    rw [hxv];exact hk
   ·simp only [get];simp
   ·dsimp only;omega
  ·have h3:¬ N8 (key y) (key x)<0:=by unfold N8;rw [if_neg hk];split<;>decide
   (repeat' (first | (with_reducible refine A3 (fun _ => ?_) (fun _ => ?_)<;>try (exfalso;omega)) | simp -dsimp (disch:=omega) only [↓EA,EB,Nat.reduceEqDiff,↓reduceIte,reduceCtorEq,eq_self, *,Lp]))
   have hcc:=Hcc.out
   refine Next.mk (c+1,j) ⟨rfl,by dsimp only;omega,by dsimp only;omega,fun _ => ?_,F2.out,rfl,rfl,rfl,?_,rfl⟩ ?_
   ·dsimp only
    rw [show ((c+1:Nat):Int) - 1=c by omega,hxv];exact hk
   ·simp only [get];simp;omega
   ·dsimp only;omega
 ·have e:j=i:=by omega
  subst e
  have hper:(A.take j++y :: A.drop j).Perm (A++[y]):=by
   refine List.perm_middle.trans ?_
   rw [List.take_append_drop]
   exact (List.perm_append_singleton y A).symm
  have hdr:∀ z∈A.drop j,key y<key z:=fun z hz => by
   obtain ⟨i,c1,c2,rfl⟩:=Od hz
   have:=F2.out (by omega)
   have:=M4 hs c1 c2
   omega
  have hres:=Abz hs hst hjA hdr F1.out
  have HR:=Hid.mk (AI hres hper)
  have HA:=Hid.mk hA
  clear hres hper hc hy hA hs hst hN hdr
  have k6:(j:Int)≤A.length:=by omega
  (repeat' (first | (with_reducible refine A3 (fun _ => ?_) (fun _ => ?_)<;>try (exfalso;omega)) | simp -dsimp (disch:=omega) only [↓EA,EB,Nat.reduceEqDiff,↓reduceIte,reduceCtorEq,eq_self, *]))
  refine WO.loop (fun (i:Nat) fr h' => h'=h.set b (Ad (P++(A.take i++y :: A.drop i)++T))∧j≤i∧i≤A.length∧get fr 0 = .slice (some ⟨b,0,none⟩) N cap∧get fr 14 = .int .i64 ((P.length:Int)+j)∧get fr 17 = .int .i64 ((P.length:Int)+i)) (fun i => i) ?_ A.length ⟨?_,hjA,Nat.le_refl _,rfl,rfl,rfl⟩
  ·rintro i fr h' ⟨rfl,hij,hiA,g0,g14,g17⟩
   unfold En
   by_cases hlt2:j<i
   ·have hstep:=Adt (P:=P) (S:=A) (R:=T) (x:=y) (j:=i) (by omega) hiA
    have a1:atI (P++(A.take i++y :: A.drop i)++T) ((P.length:Int)+i)=y:=by
     rw [show P++(A.take i++y :: A.drop i)++T=(P++A.take i)++y :: (A.drop i++T) by simp only [List.append_assoc,List.cons_append],Ms];rw [LA,List.length_take];omega
    have a2:atI (P++(A.take i++y :: A.drop i)++T) ((P.length:Int)+i - 1)=atI A ((i:Int) - 1):=by
     obtain ⟨k,rfl⟩:∃ k,i=k+1:=⟨i - 1,by omega⟩
     rw [take_snoc (by omega:k<A.length),show ∀ z,P++(A.take k++[z]++y :: A.drop (k+1))++T=(P++A.take k)++z :: (y :: A.drop (k+1)++T) from fun z => by simp only [List.append_assoc,List.cons_append,List.nil_append],Ms (by rw [LA,List.length_take];omega),show (((k+1:Nat):Int) - 1)=(k:Int) by omega]
    have hL:(P++(A.take i++y :: A.drop i)++T).length=P.length+A.length+1+T.length:=by simp only [LA,List.length_cons,List.length_take,List.length_drop];omega
    have Hs:=Hid.mk hstep
    clear hstep
    have hN:=Hx.out.2.2.2.2.2
    generalize P++(A.take i++y :: A.drop i)++T=L at *
    have hbA:(h.set b (Ad L))[b]? = some (Ad L):=B9 hlt
    have i1:=Co (size:=1) (n:=N) (c:=cap) (b:=b) (o:=0) (sp:=none) (k:=.i64) (j:=(P.length:Int)+i) (by omega) (by omega)
    have i2:=Co (size:=1) (n:=N) (c:=cap) (b:=b) (o:=0) (sp:=none) (k:=.i64) (j:=(P.length:Int)+i - 1) (by omega) (by omega)
    have l1:=Ed (l:=L) (i:=(P.length:Int)+i) (by omega) (by omega)
    have l2:=Ed (l:=L) (i:=(P.length:Int)+i - 1) (by omega) (by omega)
    rw [a1] at l1
    rw [a2] at l2
    generalize atI A ((i:Int) - 1)=x at *
    have s1:=Jz (h:=h.set b (Ad L)) (b:=b) (l:=L) (i:=(P.length:Int)+i) (x:=x) (by omega) (by omega)
    have s2:=Jz (h:=h.set b (Ad (L.set ((P.length:Int)+i).toNat x))) (b:=b) (l:=L.set ((P.length:Int)+i).toNat x) (i:=(P.length:Int)+i - 1) (x:=y) (by omega) (by rw [List.length_set];omega)
    have hbA2:(h.set b (Ad (L.set ((P.length:Int)+i).toNat x)))[b]? = some (Ad (L.set ((P.length:Int)+i).toNat x)):=B9 hlt
    rw [Nat.mul_one] at l1 l2 s1 s2
    have k7:(j:Int)<i:=by omega
    have k8:(i:Int)≤A.length:=by omega
    clear a1 a2 hL hN
    (repeat' (first | (with_reducible refine A3 (fun _ => ?_) (fun _ => ?_)<;>try (exfalso;omega)) | simp -dsimp (disch:=omega) only [↓EA,EB,Nat.reduceEqDiff,↓reduceIte,reduceCtorEq,eq_self, *,List.set_set,Nat.mul_one]))
    refine Next.mk (i - 1) ⟨?_,by omega,by omega,rfl,rfl,by simp only [get];simp;omega⟩ (by omega)
    have:=Hs.out
    rw [← this,show ((P.length:Int)+i).toNat=P.length+i by omega,show ((P.length:Int)+i - 1).toNat=P.length+i - 1 by omega]
   ·have e:i=j:=by omega
    subst e
    (repeat' simp -dsimp (disch:=omega) only [↓EA,EB,Nat.reduceEqDiff,↓reduceIte,reduceCtorEq,eq_self, *])
    refine ⟨_,HR.out.2,HR.out.1,?_⟩
    simp only [List.append_assoc,List.cons_append]
  ·rw [List.take_length,List.drop_length,show P++(A++[y])++T=P++A++[y]++T by simp only [List.append_assoc]]
   have hb:=Hb.out
   rw [hset]
end Go.L.Try
