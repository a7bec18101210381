/- MERGES IN PLACE: the general case. -/
import Derived.Test.YtifnlcajancfdaaGreatDoorPe
set_option linter.unusedVariables false
set_option linter.unusedSimpArgs false
set_option maxRecDepth 100000
set_option maxHeartbeats 8000000
namespace Go.L.Try
open Go Go.L
variable {E:Env}
structure MIn (h0 h:Aa) (b n N:Nat) (key:Int→Int) (P A B T:List Int):Prop where
 hb:h[b]? = some (Ad (P++A++B++T))
 hp:Pre h0 h
 hN:N=P.length+A.length+B.length+T.length
 hA:∀ x∈A,0≤x∧x<n
 hB:∀ x∈B,0≤x∧x<n
 sA:A.Pairwise (leK key)
 sB:B.Pairwise (leK key)
 hst:∀ x∈A,∀ y∈B,key x=key y→x<y
theorem Aaj (hE:Aw E) {h0 h:Aa} {b cap n N:Nat} {P A B T:List Int} {key:Int→Int} {cv:Value} (hc:Y9 E h0 cv key n) (hfew:N≤1048576) {W:Nat→Prop} (M:MIn h0 h b n N key P A B T) {mid i j:Nat} (hmid:mid=(A.length+B.length) / 2)
  {fr:Fr} (h1:mid - B.length≤i) (hij:i≤j) (h2:j≤A.length) (h3:j≤mid) (f1:¬ mid - B.length<i) (f2:¬ (j<A.length∧j<mid))
  (g0:get fr 0 = .slice (some ⟨b,0,none⟩) N cap) (g1:get fr 1 = .int .i64 P.length) (g2:get fr 2 = .int .i64 ((P.length:Int)+A.length)) (g3:get fr 3 = .int .i64 ((P.length:Int)+A.length+B.length)) (g4:get fr 4=cv) (g18:get fr 18 = .int .i64 ((P.length:Int)+mid)) (g19:get fr 19 = .int .i64 ((P.length:Int)+mid+((P.length:Int)+A.length)))
  (g20:get fr 20 = .int .i64 ((P.length:Int)+i)) (g21:get fr 21 = .int .i64 ((P.length:Int)+j)) (g22:get fr 22 = .int .i64 ((P.length:Int)+mid+((P.length:Int)+A.length) - 1)) {Q:Ex→Fr→Aa→Prop}
  (hq:∀ fr' s,mid - B.length≤s→s≤A.length→s≤mid→(mid - B.length<s→¬ key (atI B ((mid - s:Nat):Int))<key (atI A ((s - 1:Nat):Int)))→(s<A.length→s<mid→key (atI B ((mid - 1 - s:Nat):Int))<key (atI A (s:Int))) →
   get fr' 0 = .slice (some ⟨b,0,none⟩) N cap→get fr' 1 = .int .i64 P.length→get fr' 2 = .int .i64 ((P.length:Int)+A.length)→get fr' 3 = .int .i64 ((P.length:Int)+A.length+B.length)→get fr' 4=cv→get fr' 18 = .int .i64 ((P.length:Int)+mid)→get fr' 19 = .int .i64 ((P.length:Int)+mid+((P.length:Int)+A.length))→get fr' 20 = .int .i64 ((P.length:Int)+s)→Q (.exit 8) fr' h) :
  WO W (iterW (code (callW E) iterW 220 Cl) fr h) Q:=by
 refine WO.loop (fun (q:Nat × Nat) fr h' => h'=h∧mid - B.length≤q.1∧q.1≤q.2∧q.2≤A.length∧q.2≤mid∧(mid - B.length<q.1→¬ key (atI B ((mid - q.1:Nat):Int))<key (atI A ((q.1 - 1:Nat):Int)))∧(q.2<A.length→q.2<mid→key (atI B ((mid - 1 - q.2:Nat):Int))<key (atI A (q.2:Int))) ∧
  get fr 0 = .slice (some ⟨b,0,none⟩) N cap∧get fr 1 = .int .i64 P.length∧get fr 2 = .int .i64 ((P.length:Int)+A.length)∧get fr 3 = .int .i64 ((P.length:Int)+A.length+B.length)∧get fr 4=cv∧get fr 18 = .int .i64 ((P.length:Int)+mid)∧get fr 19 = .int .i64 ((P.length:Int)+mid+((P.length:Int)+A.length))∧get fr 20 = .int .i64 ((P.length:Int)+q.1)∧get fr 21 = .int .i64 ((P.length:Int)+q.2)∧get fr 22 = .int .i64 ((P.length:Int)+mid+((P.length:Int)+A.length) - 1)) (fun q => q.2 - q.1) ?_ (i,j) ⟨rfl,h1,hij,h2,h3,fun h => absurd h f1,fun ha hb => absurd ⟨ha,hb⟩ f2,g0,g1,g2,g3,g4,g18,g19,g20,g21,g22⟩
 clear h1 hij h2 h3 f1 f2 g0 g1 g2 g3 g4 g18 g19 g20 g21 g22
 rintro ⟨i,j⟩ fr h' ⟨e0,h1,hij,h2,h3,f1,f2,g0,g1,g2,g3,g4,g18,g19,g20,g21,g22⟩
 subst h'
 unfold Cl
 dsimp only at *
 obtain ⟨hb,hp,hN,hA,hB,_,_,_⟩:=M
 have F1:=Hid.mk f1
 have F2:=Hid.mk f2
 have Hq:=Hid.mk hq
 clear f1 f2 hq
 by_cases hlt2:i<j
 ·obtain ⟨c,hcc⟩:∃ c,c=(i+j) / 2:=⟨_,rfl⟩
  have a1:=Ae6 (P:=P) (A:=A) (R:=B++T) (i:=c) (by omega)
  have a2:=Ae6 (P:=P++A) (A:=B) (R:=T) (i:=mid - 1 - c) (by omega)
  rw [← List.append_assoc] at a1
  rw [show ((P++A).length:Int)=(P.length:Int)+A.length by simp] at a2
  have hL:(P++A++B++T).length=N:=by simp only [LA];omega
  have hx:=hA _ (Aj (l:=A) (i:=(c:Int)) (by omega) (by omega))
  have hy:=hB _ (Aj (l:=B) (i:=((mid - 1 - c:Nat):Int)) (by omega) (by omega))
  have l1:=Ed (l:=P++A++B++T) (i:=(P.length:Int)+c) (by omega) (by omega)
  have l2:=Ed (l:=P++A++B++T) (i:=(P.length:Int)+A.length+(mid - 1 - c:Nat)) (by omega) (by omega)
  rw [a1,Nat.mul_one] at l1
  rw [a2,Nat.mul_one] at l2
  generalize P++A++B++T=L at *
  have hcc2:=hc _ hp (atI B ((mid - 1 - c:Nat):Int)) (atI A (c:Int)) hy.1 hy.2 hx.1 hx.2
  have i1:=Co (size:=1) (n:=N) (c:=cap) (b:=b) (o:=0) (sp:=none) (k:=.i64) (j:=(P.length:Int)+c) (by omega) (by omega)
  have i2:=Co (size:=1) (n:=N) (c:=cap) (b:=b) (o:=0) (sp:=none) (k:=.i64) (j:=(P.length:Int)+A.length+(mid - 1 - c:Nat)) (by omega) (by omega)
  rw [Nat.mul_one] at i1 i2
  have k1:((P.length:Int)+i+((P.length:Int)+j)) / 2=(P.length:Int)+c:=by omega
  have k2:(P.length:Int)+mid+((P.length:Int)+A.length) - 1 - ((P.length:Int)+c)=(P.length:Int)+A.length+(mid - 1 - c:Nat):=by omega
  have k3:(i:Int)<j:=by omega
  have k4:(j:Int)≤A.length∧(c:Int)<A.length∧(mid:Int)≤A.length+B.length∧(P.length:Int)+A.length+B.length≤1048576:=by omega
  have Hcc:=Hid.mk (AI hcc (AI h1 (AI h2 h3)))
  generalize hyv:atI B ((mid - 1 - c:Nat):Int)=y at *
  generalize hxv:atI A (c:Int)=x at *
  obtain ⟨k41,k42,k43,k44⟩:=k4
  generalize hpc:(P.length:Int)+A.length+(mid - 1 - c:Nat)=pc at *
  clear hcc hc hA hB hN hL h1 h2 h3 hmid hpc
  by_cases hk:key y<key x
  ·have h3:N8 (key y) (key x) = -1:=by simp [N8,hk]
   rw [h3] at hcc2
   (repeat' (first | (with_reducible refine A3 (fun _ => ?_) (fun _ => ?_)<;>try (exfalso;omega)) | simp -dsimp (disch:=omega) only [↓EA,EB,Nat.reduceEqDiff,↓reduceIte,reduceCtorEq,eq_self, *,Lp]))
   obtain ⟨hcc,h1,h2,h3⟩:=Hcc.out
   refine Next.mk (i,c) ⟨rfl,h1,by dsimp only;omega,by dsimp only;omega,by dsimp only;omega,F1.out,fun _ _ => ?_,rfl,rfl,rfl,rfl,rfl,rfl,rfl,rfl,?_,?_⟩ ?_
   ·dsimp only
    rw [hyv,hxv];exact hk
   ·simp only [get];simp
   ·simp only [get];simp
   ·dsimp only;omega
  ·have h3:¬ N8 (key y) (key x)<0:=by unfold N8;rw [if_neg hk];split<;>decide
   (repeat' (first | (with_reducible refine A3 (fun _ => ?_) (fun _ => ?_)<;>try (exfalso;omega)) | simp -dsimp (disch:=omega) only [↓EA,EB,Nat.reduceEqDiff,↓reduceIte,reduceCtorEq,eq_self, *,Lp]))
   obtain ⟨hcc,h1,h2,h3⟩:=Hcc.out
   refine Next.mk (c+1,j) ⟨rfl,by dsimp only;omega,by dsimp only;omega,h2,h3,fun _ => ?_,F2.out,rfl,rfl,rfl,rfl,rfl,rfl,rfl,?_,rfl,?_⟩ ?_
   ·dsimp only
    rw [show mid - (c+1)=mid - 1 - c by omega,show c+1 - 1=c from rfl,hyv,hxv];exact hk
   ·simp only [get];simp;omega
   ·simp only [get];simp
   ·dsimp only;omega
 ·have e:j=i:=by omega
  subst e
  have Hh:=Hid.mk (AI h1 (AI h2 h3))
  clear hA hB hN hc hmid h1 h2 h3
  (repeat' (first | (with_reducible refine A3 (fun _ => ?_) (fun _ => ?_)<;>try (exfalso;omega)) | simp -dsimp (disch:=omega) only [↓EA,EB,Nat.reduceEqDiff,↓reduceIte,reduceCtorEq,eq_self, *]))
  obtain ⟨h1,h2,h3⟩:=Hh.out
  exact Hq.out _ j h1 h2 h3 F1.out F2.out rfl rfl rfl rfl rfl rfl rfl rfl
theorem Att (hE:Aw E) {h0:Aa} {b cap n N:Nat} {key:Int→Int} {cv:Value} (hbm:h0.length≤b) (hc:Y9 E h0 cv key n) (hfew:N≤1048576) {W:Nat→Prop} (hW:W b) :
  ∀ (k:Nat) {h:Aa} {P A B T:List Int},A.length+B.length≤k→A≠[]→B≠[]→MIn h0 h b n N key P A B T →
  WX W (callW E (.func (.func Ai) #[] #[]) [.slice (some ⟨b,0,none⟩) N cap,.int .i64 P.length,.int .i64 ((P.length:Int)+A.length),.int .i64 ((P.length:Int)+A.length+B.length),cv] h) (fun _ h' => ∃ S,S.Perm (A++B)∧S.Pairwise (leK key)∧h'=h.set b (Ad (P++S++T))):=by
 intro k
 induction k with
 | zero => intro h P A B T hk hA;exact absurd (List.length_eq_zero_iff.1 (by omega)) hA
 | succ k ih =>
  intro h P A B T hk hA0 hB0 M
  have uA:0<A.length:=List.length_pos_iff.2 hA0
  have uB:0<B.length:=List.length_pos_iff.2 hB0
  by_cases c1:A.length=1
  ·obtain ⟨x,rfl⟩:=List.length_eq_one_iff.1 c1
   have:=Azb hE (cap:=cap) M.hb M.hp hbm hc (by have:=M.hN;simpa using this) hfew (M.hA x (by simp)) M.hB M.sB (fun y hy => M.hst x (by simp) y hy) hW
   simpa using this
  by_cases c2:B.length=1
  ·obtain ⟨y,rfl⟩:=List.length_eq_one_iff.1 c2
   have:=Ats hE (cap:=cap) M.hb M.hp hbm hc (by have:=M.hN;simpa using this) hfew (by omega) (M.hB y (by simp)) M.hA M.sA (fun x hx => M.hst x hx y (by simp)) hW
   simpa using this
  have hb:=M.hb
  have hp:=M.hp
  have hN:=M.hN
  have hlt:=(GI.1 hb).1
  have hset:=Ds hb
  obtain ⟨mid,hmid⟩:∃ mid,mid=(A.length+B.length) / 2:=⟨_,rfl⟩
  have hrot:∀ s,mid - B.length≤s→s<A.length→s<mid→s≤mid→WX W (callW E (.func (.func Bg) #[] #[]) [.slice (some ⟨b,0,none⟩) N cap,.int .i64 ((P.length:Int)+s),.int .i64 ((P.length:Int)+A.length),.int .i64 ((P.length:Int)+A.length+(mid - s:Nat)),cv] h) (fun _ h' => h'=h.set b (Ad (P++(A.take s++B.take (mid - s))++(A.drop s++B.drop (mid - s))++T))):=fun s hs0 hs1 hs2 hs3 => by
   have r:=Azu hE (h:=h) (b:=b) (cap:=cap) (P:=P++A.take s) (A:=A.drop s) (B:=B.take (mid - s)) (T:=B.drop (mid - s)++T) (cv:=cv) (by
    rw [hb]
    conv => lhs;rw [← List.take_append_drop s A,← List.take_append_drop (mid - s) B]
    simp only [List.append_assoc]) (by intro e;have:=congrArg List.length e;rw [List.length_drop,List.length_nil] at this;omega) (by intro e;have:=congrArg List.length e;rw [List.length_take,List.length_nil] at this;omega) (N:=N) (by simp only [LA,List.length_take,List.length_drop];omega) hfew hW
   have g1:((P++A.take s).length:Int)=(P.length:Int)+s:=by rw [LA,List.length_take];omega
   have g2:((A.drop s).length:Int)=A.length - s:=by rw [List.length_drop];omega
   have g3:((B.take (mid - s)).length:Int)=(mid - s:Nat):=by rw [List.length_take];omega
   rw [g1,g2,g3,show (P.length:Int)+s+(A.length - s)=(P.length:Int)+A.length by omega] at r
   refine WX.mono r (fun b hb => hb) fun v h' e => ?_
   rw [e];simp only [List.append_assoc]
  have subA:∀ s,(∀ x∈A.take s,0≤x∧x<n)∧(∀ x∈A.drop s,0≤x∧x<n):=fun s => ⟨fun x hx => M.hA x (List.mem_of_mem_take hx),fun x hx => M.hA x (List.mem_of_mem_drop hx)⟩
  have subB:∀ s,(∀ x∈B.take s,0≤x∧x<n)∧(∀ x∈B.drop s,0≤x∧x<n):=fun s => ⟨fun x hx => M.hB x (List.mem_of_mem_take hx),fun x hx => M.hB x (List.mem_of_mem_drop hx)⟩
  have hm1:∀ s,mid - B.length≤s→s≤A.length→0<s→s<mid→WX W (callW E (.func (.func Ai) #[] #[]) [.slice (some ⟨b,0,none⟩) N cap,.int .i64 P.length,.int .i64 ((P.length:Int)+s),.int .i64 ((P.length:Int)+mid),cv] (h.set b (Ad (P++(A.take s++B.take (mid - s))++(A.drop s++B.drop (mid - s))++T)))) (fun _ h' => ∃ S1,S1.Perm (A.take s++B.take (mid - s))∧S1.Pairwise (leK key)∧h'=h.set b (Ad (P++S1++(A.drop s++B.drop (mid - s))++T))):=fun s a1 a2 a3 a4 => by
   have g1:(A.take s).length=s:=by rw [List.length_take];omega
   have g2:(B.take (mid - s)).length=mid - s:=by rw [List.length_take];omega
   have r:=ih (h:=h.set b (Ad (P++(A.take s++B.take (mid - s))++(A.drop s++B.drop (mid - s))++T))) (P:=P) (A:=A.take s) (B:=B.take (mid - s)) (T:=A.drop s++B.drop (mid - s)++T) (by omega) (by intro e;rw [e,List.length_nil] at g1;omega) (by intro e;rw [e,List.length_nil] at g2;omega)
    ⟨by rw [B9 hlt];simp only [List.append_assoc],hp.set hbm _,by rw [g1,g2,hN];simp only [LA,List.length_drop];omega,(subA s).1,(subB _).1,Vn M.sA _,Vn M.sB _,fun x hx y hy => M.hst x (List.mem_of_mem_take hx) y (List.mem_of_mem_take hy)⟩
   rw [g1,g2,show (P.length:Int)+s+(mid - s:Nat)=(P.length:Int)+mid by omega] at r
   refine WX.mono r (fun b hb => hb) fun v h' ⟨S1,p1,p2,p3⟩ => ⟨S1,p1,p2,?_⟩
   rw [p3,List.set_set];simp only [List.append_assoc]
  have hf1:∀ s,s≤A.length→s≤mid→¬ (0<s∧s<mid)→∃ S1,S1.Perm (A.take s++B.take (mid - s))∧S1.Pairwise (leK key)∧h.set b (Ad (P++(A.take s++B.take (mid - s))++(A.drop s++B.drop (mid - s))++T))=h.set b (Ad (P++S1++(A.drop s++B.drop (mid - s))++T)):=fun s a1 a2 a3 => by
   refine ⟨_,List.Perm.refl _,?_,rfl⟩
   rcases Nat.eq_zero_or_pos s with e | e
   ·subst e;rw [List.take_zero,List.nil_append];exact Vn M.sB _
   ·have e2:mid - s=0:=by omega
    rw [e2,List.take_zero,List.append_nil];exact Vn M.sA _
  have hm2:∀ s S1,mid - B.length≤s→s≤mid→S1.length=mid→s<A.length→mid - s<B.length→WX W (callW E (.func (.func Ai) #[] #[]) [.slice (some ⟨b,0,none⟩) N cap,.int .i64 ((P.length:Int)+mid),.int .i64 ((P.length:Int)+A.length+(mid - s:Nat)),.int .i64 ((P.length:Int)+A.length+B.length),cv] (h.set b (Ad (P++S1++(A.drop s++B.drop (mid - s))++T)))) (fun _ h' => ∃ S2,S2.Perm (A.drop s++B.drop (mid - s))∧S2.Pairwise (leK key)∧h'=h.set b (Ad (P++S1++S2++T))):=fun s S1 a1 a5 a2 a3 a4 => by
   have g1:(A.drop s).length=A.length - s:=by rw [List.length_drop]
   have g2:(B.drop (mid - s)).length=B.length - (mid - s):=by rw [List.length_drop]
   have r:=ih (h:=h.set b (Ad (P++S1++(A.drop s++B.drop (mid - s))++T))) (P:=P++S1) (A:=A.drop s) (B:=B.drop (mid - s)) (T:=T) (by omega) (by intro e;rw [e,List.length_nil] at g1;omega) (by intro e;rw [e,List.length_nil] at g2;omega)
    ⟨by rw [B9 hlt];simp only [List.append_assoc],hp.set hbm _,by rw [g1,g2,hN,LA,a2];omega,(subA s).2,(subB _).2,Wn M.sA _,Wn M.sB _,fun x hx y hy => M.hst x (List.mem_of_mem_drop hx) y (List.mem_of_mem_drop hy)⟩
   rw [g1,g2,show ((P++S1).length:Int)=(P.length:Int)+mid by rw [LA,a2];omega,show (P.length:Int)+mid+(A.length - s:Nat)=(P.length:Int)+A.length+(mid - s:Nat) by omega,show (P.length:Int)+A.length+(mid - s:Nat)+(B.length - (mid - s):Nat)=(P.length:Int)+A.length+B.length by omega] at r
   refine WX.mono r (fun b hb => hb) fun v h' ⟨S2,p1,p2,p3⟩ => ⟨S2,p1,p2,?_⟩
   rw [p3,List.set_set]
  have hf2:∀ s,s≤A.length→s≤mid→¬ (s<A.length∧mid - s<B.length)→(A.drop s++B.drop (mid - s)).Pairwise (leK key):=fun s a1 a2 a3 => by
   by_cases e:s=A.length
   ·rw [e,List.drop_length,List.nil_append];exact Wn M.sB _
   ·have e2:B.drop (mid - s)=[]:=List.drop_of_length_le (by omega)
    rw [e2,List.append_nil];exact Wn M.sA _
  have hnr:∀ s,s≤A.length→s≤mid→¬ (s<A.length∧s<mid)→h=h.set b (Ad (P++(A.take s++B.take (mid - s))++(A.drop s++B.drop (mid - s))++T)):=fun s a1 a2 a3 => by
   have e:A.take s++B.take (mid - s)++(A.drop s++B.drop (mid - s))=A++B:=by
    by_cases e:s=A.length
    ·rw [e,List.drop_length,List.take_length,List.nil_append,List.append_assoc,List.take_append_drop]
    ·have e2:mid - s=0:=by omega
     rw [e2,List.take_zero,List.drop_zero,List.append_nil,← List.append_assoc,List.take_append_drop]
   have e3:P++(A.take s++B.take (mid - s))++(A.drop s++B.drop (mid - s))=P++A++B:=by rw [List.append_assoc P,e,← List.append_assoc]
   rw [e3,hset]
  have hfin:∀ s S1 S2,mid - B.length≤s→s≤A.length→s≤mid→(mid - B.length<s→¬ key (atI B ((mid - s:Nat):Int))<key (atI A ((s - 1:Nat):Int)))→(s<A.length→s<mid→key (atI B ((mid - 1 - s:Nat):Int))<key (atI A (s:Int)))→S1.Perm (A.take s++B.take (mid - s))→S1.Pairwise (leK key)→S2.Perm (A.drop s++B.drop (mid - s))→S2.Pairwise (leK key)→∃ S,S.Perm (A++B)∧S.Pairwise (leK key)∧h.set b (Ad (P++S1++S2++T))=h.set b (Ad (P++S++T)):=fun s S1 S2 a1 a2 a3 f1 f2 p1 q1 p2 q2 => by
   have hpt:=Az2 M.sA M.sB M.hst hmid a1 a2 a3 f1 f2
   refine ⟨S1++S2,?_,List.pairwise_append.2 ⟨q1,q2,fun x hx y hy => hpt x (p1.mem_iff.1 hx) y (p2.mem_iff.1 hy)⟩,by rw [List.append_assoc P]⟩
   refine (p1.append p2).trans ?_
   have e:A.take s++B.take (mid - s)++(A.drop s++B.drop (mid - s))=A.take s++(B.take (mid - s)++A.drop s)++B.drop (mid - s):=by simp only [List.append_assoc]
   rw [e]
   have e2:A++B=A.take s++(A.drop s++B.take (mid - s))++B.drop (mid - s):=by
    conv => lhs;rw [← List.take_append_drop s A,← List.take_append_drop (mid - s) B]
    simp only [List.append_assoc]
   rw [e2]
   exact ((List.perm_append_comm).append_left _).append_right _
  have hl1:∀ (s:Nat) (S1:List Int),mid - B.length≤s→s≤A.length→s≤mid→S1.Perm (A.take s++B.take (mid - s))→S1.length=mid:=fun s S1 a1 a2 a3 p => by
   rw [p.length_eq,LA,List.length_take,List.length_take];omega
  refine E9 hE.Dr rfl (by simp) ?_
  simp only [List.nil_append,List.cons_append,Ak]
  have e1:(P.length:Int)+A.length - P.length=A.length:=by omega
  have e2:(P.length:Int)+A.length+B.length - ((P.length:Int)+A.length)=B.length:=by omega
  have e3:¬ (A.length:Int)=1:=by omega
  have e4:¬ (B.length:Int)=1:=by omega
  have e5:((P.length:Int)+((P.length:Int)+A.length+B.length)) / 2=(P.length:Int)+mid:=by omega
  have few1:(P.length:Int)+A.length+B.length≤1048576:=by omega
  have few2:(mid:Int)≤(A.length:Int)+B.length:=by omega
  have Hs:=Hid.mk (AI hc M)
  have H1:=Hid.mk (AI hrot (AI hm1 (AI hf1 (AI hm2 (AI hf2 (AI hnr (AI hfin hl1)))))))
  have Hm:=Hid.mk (AI hmid (AI hN (AI uA uB)))
  clear hrot hm1 hf1 hm2 hf2 hnr hfin hl1 hmid hN subA subB ih M hc hb hset c1 c2 hA0 hB0 hk uA uB
  by_cases hu:mid<A.length
  case' pos =>
   have e6:(P.length:Int)+mid<(P.length:Int)+A.length:=by omega
   have e7:(P.length:Int)+mid+((P.length:Int)+A.length) - ((P.length:Int)+A.length+B.length)=(P.length:Int)+(mid - B.length:Nat):=by
    have:=Hm.out;omega
   (repeat' simp -dsimp (disch:=omega) only [↓EA,EB,Nat.reduceEqDiff,Nat.reduceAdd,↓reduceIte,reduceCtorEq,eq_self, *,Lp])
   have ⟨m1,m2,m3,m4⟩:=Hm.out
   refine Aaj hE (i:=mid - B.length) (j:=mid) Hs.out.1 hfew Hs.out.2 m1 (Nat.le_refl _) (by omega) (by omega) (Nat.le_refl _) (by omega) (by omega) rfl rfl rfl rfl rfl rfl rfl rfl rfl rfl fun fr' s s1 s2 s3 f1 f2 g0 g1 g2 g3 g4 g18 g19 g20 => ?_
  case' neg =>
   have e6:¬ (P.length:Int)+mid<(P.length:Int)+A.length:=by omega
   (repeat' simp -dsimp (disch:=omega) only [↓EA,EB,Nat.reduceEqDiff,Nat.reduceAdd,↓reduceIte,reduceCtorEq,eq_self, *,Lp])
   have ⟨m1,m2,m3,m4⟩:=Hm.out
   refine Aaj hE (i:=0) (j:=A.length) Hs.out.1 hfew Hs.out.2 m1 (by omega) (by omega) (Nat.le_refl _) (by omega) (by omega) (by omega) rfl rfl rfl rfl rfl rfl rfl ?_ rfl rfl fun fr' s s1 s2 s3 f1 f2 g0 g1 g2 g3 g4 g18 g19 g20 => ?_
   ·simp only [get];simp
  all_goals
   clear m1 m2 m3 m4
   have hk5:(P.length:Int)+mid+((P.length:Int)+A.length) - ((P.length:Int)+s)=(P.length:Int)+A.length+(mid - s:Nat):=by omega
   have hms:((mid - s:Nat):Int)≤A.length+B.length:=by omega
   have hsA:(s:Int)≤A.length:=by omega
   have hms0:(0:Int)≤((mid - s:Nat):Int):=by omega
   obtain ⟨HH,hHH⟩:∃ HH,HH=h.set b (Ad (P++(A.take s++B.take (mid - s))++(A.drop s++B.drop (mid - s))++T)):=⟨_,rfl⟩
   have HHH:=Hid.mk hHH
   have Hsf:=Hid.mk (AI s1 (AI s2 (AI s3 (AI f1 f2))))
   clear f1 f2
   by_cases c1:s<A.length
   ·-- s<A.length
    by_cases c2:s<mid
    ·-- s<mid
     by_cases c3:0<s
     ·-- 0<s
      by_cases c4:mid - s<B.length
      ·-- mid - s<B.length
       have q0:(P.length:Int)+s<(P.length:Int)+A.length:=by omega
       have q1:(P.length:Int)+A.length<(P.length:Int)+A.length+(mid - s:Nat):=by omega
       have q2:(P.length:Int)<(P.length:Int)+s:=by omega
       have q3:(P.length:Int)+s<(P.length:Int)+mid:=by omega
       have q4:(P.length:Int)+mid<(P.length:Int)+A.length+(mid - s:Nat):=by omega
       have q5:(P.length:Int)+A.length+(mid - s:Nat)<(P.length:Int)+A.length+B.length:=by omega
       clear s1 s2 s3
       have r:=H1.out.1 s Hsf.out.1 c1 c2 Hsf.out.2.2.1
       rw [← hHH] at r
       clear hHH
       (repeat' simp -dsimp (disch:=omega) only [↓EA,EB,Nat.reduceEqDiff,↓reduceIte,reduceCtorEq,eq_self, *])
       refine WX.mono r (fun b hb => hb) fun v h2 e => ?_
       subst e
       clear r
       have r:=H1.out.2.1 s Hsf.out.1 Hsf.out.2.1 c3 c2
       rw [← HHH.out] at r
       (repeat' simp -dsimp (disch:=omega) only [↓EA,EB,Nat.reduceEqDiff,↓reduceIte,reduceCtorEq,eq_self, *])
       refine WX.mono r (fun b hb => hb) fun v h2 ⟨S1,p1,y1,e1⟩ => ?_
       clear r
       have Y:=Hid.mk (AI p1 (AI y1 e1))
       clear p1 y1 e1
       have r:=H1.out.2.2.2.1 s S1 Hsf.out.1 Hsf.out.2.2.1 (H1.out.2.2.2.2.2.2.2 s S1 Hsf.out.1 Hsf.out.2.1 Hsf.out.2.2.1 Y.out.1) c1 c4
       rw [← Y.out.2.2] at r
       (repeat' simp -dsimp (disch:=omega) only [↓EA,EB,Nat.reduceEqDiff,↓reduceIte,reduceCtorEq,eq_self, *])
       refine WX.mono r (fun b hb => hb) fun v h3 ⟨S2,p2,y2,e2⟩ => ?_
       have Y2:=Hid.mk (AI p2 (AI y2 e2))
       clear r p2 y2 e2
       (repeat' simp -dsimp (disch:=omega) only [↓EA,EB, *])
       obtain ⟨S,x1,x2,x3⟩:=H1.out.2.2.2.2.2.2.1 s S1 S2 Hsf.out.1 Hsf.out.2.1 Hsf.out.2.2.1 Hsf.out.2.2.2.1 Hsf.out.2.2.2.2 Y.out.1 Y.out.2.1 Y2.out.1 Y2.out.2.1
       exact ⟨S,x1,x2,by rw [← List.append_assoc];exact Y2.out.2.2.trans x3⟩
      ·-- not
       have q0:(P.length:Int)+s<(P.length:Int)+A.length:=by omega
       have q1:(P.length:Int)+A.length<(P.length:Int)+A.length+(mid - s:Nat):=by omega
       have q2:(P.length:Int)<(P.length:Int)+s:=by omega
       have q3:(P.length:Int)+s<(P.length:Int)+mid:=by omega
       have q4:(P.length:Int)+mid<(P.length:Int)+A.length+(mid - s:Nat):=by omega
       have q5:¬ ((P.length:Int)+A.length+(mid - s:Nat)<(P.length:Int)+A.length+B.length):=by omega
       clear s1 s2 s3
       have r:=H1.out.1 s Hsf.out.1 c1 c2 Hsf.out.2.2.1
       rw [← hHH] at r
       clear hHH
       (repeat' simp -dsimp (disch:=omega) only [↓EA,EB,Nat.reduceEqDiff,↓reduceIte,reduceCtorEq,eq_self, *])
       refine WX.mono r (fun b hb => hb) fun v h2 e => ?_
       subst e
       clear r
       have r:=H1.out.2.1 s Hsf.out.1 Hsf.out.2.1 c3 c2
       rw [← HHH.out] at r
       (repeat' simp -dsimp (disch:=omega) only [↓EA,EB,Nat.reduceEqDiff,↓reduceIte,reduceCtorEq,eq_self, *])
       refine WX.mono r (fun b hb => hb) fun v h2 ⟨S1,p1,y1,e1⟩ => ?_
       clear r
       have Y:=Hid.mk (AI p1 (AI y1 e1))
       clear p1 y1 e1
       (repeat' simp -dsimp (disch:=omega) only [↓EA,EB,Nat.reduceEqDiff,↓reduceIte,reduceCtorEq,eq_self, *])
       obtain ⟨S,x1,x2,x3⟩:=H1.out.2.2.2.2.2.2.1 s S1 _ Hsf.out.1 Hsf.out.2.1 Hsf.out.2.2.1 Hsf.out.2.2.2.1 Hsf.out.2.2.2.2 Y.out.1 Y.out.2.1 (List.Perm.refl _) (H1.out.2.2.2.2.1 s Hsf.out.2.1 Hsf.out.2.2.1 (by omega))
       exact ⟨S,x1,x2,by rw [← List.append_assoc];exact Y.out.2.2.trans x3⟩
     ·-- not
      by_cases c4:mid - s<B.length
      ·-- mid - s<B.length
       have q0:(P.length:Int)+s<(P.length:Int)+A.length:=by omega
       have q1:(P.length:Int)+A.length<(P.length:Int)+A.length+(mid - s:Nat):=by omega
       have q2:¬ ((P.length:Int)<(P.length:Int)+s):=by omega
       have q3:(P.length:Int)+s<(P.length:Int)+mid:=by omega
       have q4:(P.length:Int)+mid<(P.length:Int)+A.length+(mid - s:Nat):=by omega
       have q5:(P.length:Int)+A.length+(mid - s:Nat)<(P.length:Int)+A.length+B.length:=by omega
       clear s1 s2 s3
       have r:=H1.out.1 s Hsf.out.1 c1 c2 Hsf.out.2.2.1
       rw [← hHH] at r
       clear hHH
       (repeat' simp -dsimp (disch:=omega) only [↓EA,EB,Nat.reduceEqDiff,↓reduceIte,reduceCtorEq,eq_self, *])
       refine WX.mono r (fun b hb => hb) fun v h2 e => ?_
       subst e
       clear r
       obtain ⟨S1,p1,y1,e1⟩:=H1.out.2.2.1 s Hsf.out.2.1 Hsf.out.2.2.1 (by omega)
       rw [← HHH.out] at e1
       have Y:=Hid.mk (AI p1 (AI y1 e1))
       clear p1 y1 e1
       have r:=H1.out.2.2.2.1 s S1 Hsf.out.1 Hsf.out.2.2.1 (H1.out.2.2.2.2.2.2.2 s S1 Hsf.out.1 Hsf.out.2.1 Hsf.out.2.2.1 Y.out.1) c1 c4
       rw [← Y.out.2.2] at r
       (repeat' simp -dsimp (disch:=omega) only [↓EA,EB,Nat.reduceEqDiff,↓reduceIte,reduceCtorEq,eq_self, *])
       refine WX.mono r (fun b hb => hb) fun v h3 ⟨S2,p2,y2,e2⟩ => ?_
       have Y2:=Hid.mk (AI p2 (AI y2 e2))
       clear r p2 y2 e2
       (repeat' simp -dsimp (disch:=omega) only [↓EA,EB, *])
       obtain ⟨S,x1,x2,x3⟩:=H1.out.2.2.2.2.2.2.1 s S1 S2 Hsf.out.1 Hsf.out.2.1 Hsf.out.2.2.1 Hsf.out.2.2.2.1 Hsf.out.2.2.2.2 Y.out.1 Y.out.2.1 Y2.out.1 Y2.out.2.1
       exact ⟨S,x1,x2,by rw [← List.append_assoc];exact Y2.out.2.2.trans x3⟩
      ·-- not
       have q0:(P.length:Int)+s<(P.length:Int)+A.length:=by omega
       have q1:(P.length:Int)+A.length<(P.length:Int)+A.length+(mid - s:Nat):=by omega
       have q2:¬ ((P.length:Int)<(P.length:Int)+s):=by omega
       have q3:(P.length:Int)+s<(P.length:Int)+mid:=by omega
       have q4:(P.length:Int)+mid<(P.length:Int)+A.length+(mid - s:Nat):=by omega
       have q5:¬ ((P.length:Int)+A.length+(mid - s:Nat)<(P.length:Int)+A.length+B.length):=by omega
       clear s1 s2 s3
       have r:=H1.out.1 s Hsf.out.1 c1 c2 Hsf.out.2.2.1
       rw [← hHH] at r
       clear hHH
       (repeat' simp -dsimp (disch:=omega) only [↓EA,EB,Nat.reduceEqDiff,↓reduceIte,reduceCtorEq,eq_self, *])
       refine WX.mono r (fun b hb => hb) fun v h2 e => ?_
       subst e
       clear r
       obtain ⟨S1,p1,y1,e1⟩:=H1.out.2.2.1 s Hsf.out.2.1 Hsf.out.2.2.1 (by omega)
       rw [← HHH.out] at e1
       have Y:=Hid.mk (AI p1 (AI y1 e1))
       clear p1 y1 e1
       (repeat' simp -dsimp (disch:=omega) only [↓EA,EB,Nat.reduceEqDiff,↓reduceIte,reduceCtorEq,eq_self, *])
       obtain ⟨S,x1,x2,x3⟩:=H1.out.2.2.2.2.2.2.1 s S1 _ Hsf.out.1 Hsf.out.2.1 Hsf.out.2.2.1 Hsf.out.2.2.2.1 Hsf.out.2.2.2.2 Y.out.1 Y.out.2.1 (List.Perm.refl _) (H1.out.2.2.2.2.1 s Hsf.out.2.1 Hsf.out.2.2.1 (by omega))
       exact ⟨S,x1,x2,by rw [← List.append_assoc];exact Y.out.2.2.trans x3⟩
    ·-- not
     by_cases c3:0<s
     ·-- 0<s
      by_cases c4:mid - s<B.length
      ·-- mid - s<B.length
       have q0:(P.length:Int)+s<(P.length:Int)+A.length:=by omega
       have q1:¬ ((P.length:Int)+A.length<(P.length:Int)+A.length+(mid - s:Nat)):=by omega
       have q2:(P.length:Int)<(P.length:Int)+s:=by omega
       have q3:¬ ((P.length:Int)+s<(P.length:Int)+mid):=by omega
       have q4:(P.length:Int)+mid<(P.length:Int)+A.length+(mid - s:Nat):=by omega
       have q5:(P.length:Int)+A.length+(mid - s:Nat)<(P.length:Int)+A.length+B.length:=by omega
       clear s1 s2 s3
       have eh:HH=h:=hHH.trans (H1.out.2.2.2.2.2.1 s Hsf.out.2.1 Hsf.out.2.2.1 (by omega)).symm
       subst eh
       clear hHH
       obtain ⟨S1,p1,y1,e1⟩:=H1.out.2.2.1 s Hsf.out.2.1 Hsf.out.2.2.1 (by omega)
       rw [← HHH.out] at e1
       have Y:=Hid.mk (AI p1 (AI y1 e1))
       clear p1 y1 e1
       have r:=H1.out.2.2.2.1 s S1 Hsf.out.1 Hsf.out.2.2.1 (H1.out.2.2.2.2.2.2.2 s S1 Hsf.out.1 Hsf.out.2.1 Hsf.out.2.2.1 Y.out.1) c1 c4
       rw [← Y.out.2.2] at r
       (repeat' simp -dsimp (disch:=omega) only [↓EA,EB,Nat.reduceEqDiff,↓reduceIte,reduceCtorEq,eq_self, *])
       refine WX.mono r (fun b hb => hb) fun v h3 ⟨S2,p2,y2,e2⟩ => ?_
       have Y2:=Hid.mk (AI p2 (AI y2 e2))
       clear r p2 y2 e2
       (repeat' simp -dsimp (disch:=omega) only [↓EA,EB, *])
       obtain ⟨S,x1,x2,x3⟩:=H1.out.2.2.2.2.2.2.1 s S1 S2 Hsf.out.1 Hsf.out.2.1 Hsf.out.2.2.1 Hsf.out.2.2.2.1 Hsf.out.2.2.2.2 Y.out.1 Y.out.2.1 Y2.out.1 Y2.out.2.1
       exact ⟨S,x1,x2,by rw [← List.append_assoc];exact Y2.out.2.2.trans x3⟩
      ·-- not
       have q0:(P.length:Int)+s<(P.length:Int)+A.length:=by omega
       have q1:¬ ((P.length:Int)+A.length<(P.length:Int)+A.length+(mid - s:Nat)):=by omega
       have q2:(P.length:Int)<(P.length:Int)+s:=by omega
       have q3:¬ ((P.length:Int)+s<(P.length:Int)+mid):=by omega
       have q4:(P.length:Int)+mid<(P.length:Int)+A.length+(mid - s:Nat):=by omega
       have q5:¬ ((P.length:Int)+A.length+(mid - s:Nat)<(P.length:Int)+A.length+B.length):=by omega
       clear s1 s2 s3
       have eh:HH=h:=hHH.trans (H1.out.2.2.2.2.2.1 s Hsf.out.2.1 Hsf.out.2.2.1 (by omega)).symm
       subst eh
       clear hHH
       obtain ⟨S1,p1,y1,e1⟩:=H1.out.2.2.1 s Hsf.out.2.1 Hsf.out.2.2.1 (by omega)
       rw [← HHH.out] at e1
       have Y:=Hid.mk (AI p1 (AI y1 e1))
       clear p1 y1 e1
       (repeat' simp -dsimp (disch:=omega) only [↓EA,EB,Nat.reduceEqDiff,↓reduceIte,reduceCtorEq,eq_self, *])
       obtain ⟨S,x1,x2,x3⟩:=H1.out.2.2.2.2.2.2.1 s S1 _ Hsf.out.1 Hsf.out.2.1 Hsf.out.2.2.1 Hsf.out.2.2.2.1 Hsf.out.2.2.2.2 Y.out.1 Y.out.2.1 (List.Perm.refl _) (H1.out.2.2.2.2.1 s Hsf.out.2.1 Hsf.out.2.2.1 (by omega))
       exact ⟨S,x1,x2,by rw [← List.append_assoc];exact Y.out.2.2.trans x3⟩
     ·-- not
      by_cases c4:mid - s<B.length
      ·-- mid - s<B.length
       have q0:(P.length:Int)+s<(P.length:Int)+A.length:=by omega
       have q1:¬ ((P.length:Int)+A.length<(P.length:Int)+A.length+(mid - s:Nat)):=by omega
       have q2:¬ ((P.length:Int)<(P.length:Int)+s):=by omega
       have q3:¬ ((P.length:Int)+s<(P.length:Int)+mid):=by omega
       have q4:(P.length:Int)+mid<(P.length:Int)+A.length+(mid - s:Nat):=by omega
       have q5:(P.length:Int)+A.length+(mid - s:Nat)<(P.length:Int)+A.length+B.length:=by omega
       clear s1 s2 s3
       have eh:HH=h:=hHH.trans (H1.out.2.2.2.2.2.1 s Hsf.out.2.1 Hsf.out.2.2.1 (by omega)).symm
       subst eh
       clear hHH
       obtain ⟨S1,p1,y1,e1⟩:=H1.out.2.2.1 s Hsf.out.2.1 Hsf.out.2.2.1 (by omega)
       rw [← HHH.out] at e1
       have Y:=Hid.mk (AI p1 (AI y1 e1))
       clear p1 y1 e1
       have r:=H1.out.2.2.2.1 s S1 Hsf.out.1 Hsf.out.2.2.1 (H1.out.2.2.2.2.2.2.2 s S1 Hsf.out.1 Hsf.out.2.1 Hsf.out.2.2.1 Y.out.1) c1 c4
       rw [← Y.out.2.2] at r
       (repeat' simp -dsimp (disch:=omega) only [↓EA,EB,Nat.reduceEqDiff,↓reduceIte,reduceCtorEq,eq_self, *])
       refine WX.mono r (fun b hb => hb) fun v h3 ⟨S2,p2,y2,e2⟩ => ?_
       have Y2:=Hid.mk (AI p2 (AI y2 e2))
       clear r p2 y2 e2
       (repeat' simp -dsimp (disch:=omega) only [↓EA,EB, *])
       obtain ⟨S,x1,x2,x3⟩:=H1.out.2.2.2.2.2.2.1 s S1 S2 Hsf.out.1 Hsf.out.2.1 Hsf.out.2.2.1 Hsf.out.2.2.2.1 Hsf.out.2.2.2.2 Y.out.1 Y.out.2.1 Y2.out.1 Y2.out.2.1
       exact ⟨S,x1,x2,by rw [← List.append_assoc];exact Y2.out.2.2.trans x3⟩
      ·-- not
       have q0:(P.length:Int)+s<(P.length:Int)+A.length:=by omega
       have q1:¬ ((P.length:Int)+A.length<(P.length:Int)+A.length+(mid - s:Nat)):=by omega
       have q2:¬ ((P.length:Int)<(P.length:Int)+s):=by omega
       have q3:¬ ((P.length:Int)+s<(P.length:Int)+mid):=by omega
       have q4:(P.length:Int)+mid<(P.length:Int)+A.length+(mid - s:Nat):=by omega
       have q5:¬ ((P.length:Int)+A.length+(mid - s:Nat)<(P.length:Int)+A.length+B.length):=by omega
       clear s1 s2 s3
       have eh:HH=h:=hHH.trans (H1.out.2.2.2.2.2.1 s Hsf.out.2.1 Hsf.out.2.2.1 (by omega)).symm
       subst eh
       clear hHH
       obtain ⟨S1,p1,y1,e1⟩:=H1.out.2.2.1 s Hsf.out.2.1 Hsf.out.2.2.1 (by omega)
       rw [← HHH.out] at e1
       have Y:=Hid.mk (AI p1 (AI y1 e1))
       clear p1 y1 e1
       (repeat' simp -dsimp (disch:=omega) only [↓EA,EB,Nat.reduceEqDiff,↓reduceIte,reduceCtorEq,eq_self, *])
       obtain ⟨S,x1,x2,x3⟩:=H1.out.2.2.2.2.2.2.1 s S1 _ Hsf.out.1 Hsf.out.2.1 Hsf.out.2.2.1 Hsf.out.2.2.2.1 Hsf.out.2.2.2.2 Y.out.1 Y.out.2.1 (List.Perm.refl _) (H1.out.2.2.2.2.1 s Hsf.out.2.1 Hsf.out.2.2.1 (by omega))
       exact ⟨S,x1,x2,by rw [← List.append_assoc];exact Y.out.2.2.trans x3⟩
   ·-- not
    by_cases c2:s<mid
    ·-- s<mid
     by_cases c3:0<s
     ·-- 0<s
      by_cases c4:mid - s<B.length
      ·-- mid - s<B.length
       have q0:¬ ((P.length:Int)+s<(P.length:Int)+A.length):=by omega
       have q1:(P.length:Int)+A.length<(P.length:Int)+A.length+(mid - s:Nat):=by omega
       have q2:(P.length:Int)<(P.length:Int)+s:=by omega
       have q3:(P.length:Int)+s<(P.length:Int)+mid:=by omega
       have q4:¬ ((P.length:Int)+mid<(P.length:Int)+A.length+(mid - s:Nat)):=by omega
       have q5:(P.length:Int)+A.length+(mid - s:Nat)<(P.length:Int)+A.length+B.length:=by omega
       clear s1 s2 s3
       have eh:HH=h:=hHH.trans (H1.out.2.2.2.2.2.1 s Hsf.out.2.1 Hsf.out.2.2.1 (by omega)).symm
       subst eh
       clear hHH
       have r:=H1.out.2.1 s Hsf.out.1 Hsf.out.2.1 c3 c2
       rw [← HHH.out] at r
       (repeat' simp -dsimp (disch:=omega) only [↓EA,EB,Nat.reduceEqDiff,↓reduceIte,reduceCtorEq,eq_self, *])
       refine WX.mono r (fun b hb => hb) fun v h2 ⟨S1,p1,y1,e1⟩ => ?_
       clear r
       have Y:=Hid.mk (AI p1 (AI y1 e1))
       clear p1 y1 e1
       (repeat' simp -dsimp (disch:=omega) only [↓EA,EB,Nat.reduceEqDiff,↓reduceIte,reduceCtorEq,eq_self, *])
       obtain ⟨S,x1,x2,x3⟩:=H1.out.2.2.2.2.2.2.1 s S1 _ Hsf.out.1 Hsf.out.2.1 Hsf.out.2.2.1 Hsf.out.2.2.2.1 Hsf.out.2.2.2.2 Y.out.1 Y.out.2.1 (List.Perm.refl _) (H1.out.2.2.2.2.1 s Hsf.out.2.1 Hsf.out.2.2.1 (by omega))
       exact ⟨S,x1,x2,by rw [← List.append_assoc];exact Y.out.2.2.trans x3⟩
      ·-- not
       have q0:¬ ((P.length:Int)+s<(P.length:Int)+A.length):=by omega
       have q1:(P.length:Int)+A.length<(P.length:Int)+A.length+(mid - s:Nat):=by omega
       have q2:(P.length:Int)<(P.length:Int)+s:=by omega
       have q3:(P.length:Int)+s<(P.length:Int)+mid:=by omega
       have q4:¬ ((P.length:Int)+mid<(P.length:Int)+A.length+(mid - s:Nat)):=by omega
       have q5:¬ ((P.length:Int)+A.length+(mid - s:Nat)<(P.length:Int)+A.length+B.length):=by omega
       clear s1 s2 s3
       have eh:HH=h:=hHH.trans (H1.out.2.2.2.2.2.1 s Hsf.out.2.1 Hsf.out.2.2.1 (by omega)).symm
       subst eh
       clear hHH
       have r:=H1.out.2.1 s Hsf.out.1 Hsf.out.2.1 c3 c2
       rw [← HHH.out] at r
       (repeat' simp -dsimp (disch:=omega) only [↓EA,EB,Nat.reduceEqDiff,↓reduceIte,reduceCtorEq,eq_self, *])
       refine WX.mono r (fun b hb => hb) fun v h2 ⟨S1,p1,y1,e1⟩ => ?_
       clear r
       have Y:=Hid.mk (AI p1 (AI y1 e1))
       clear p1 y1 e1
       (repeat' simp -dsimp (disch:=omega) only [↓EA,EB,Nat.reduceEqDiff,↓reduceIte,reduceCtorEq,eq_self, *])
       obtain ⟨S,x1,x2,x3⟩:=H1.out.2.2.2.2.2.2.1 s S1 _ Hsf.out.1 Hsf.out.2.1 Hsf.out.2.2.1 Hsf.out.2.2.2.1 Hsf.out.2.2.2.2 Y.out.1 Y.out.2.1 (List.Perm.refl _) (H1.out.2.2.2.2.1 s Hsf.out.2.1 Hsf.out.2.2.1 (by omega))
       exact ⟨S,x1,x2,by rw [← List.append_assoc];exact Y.out.2.2.trans x3⟩
     ·-- not
      by_cases c4:mid - s<B.length
      ·-- mid - s<B.length
       have q0:¬ ((P.length:Int)+s<(P.length:Int)+A.length):=by omega
       have q1:(P.length:Int)+A.length<(P.length:Int)+A.length+(mid - s:Nat):=by omega
       have q2:¬ ((P.length:Int)<(P.length:Int)+s):=by omega
       have q3:(P.length:Int)+s<(P.length:Int)+mid:=by omega
       have q4:¬ ((P.length:Int)+mid<(P.length:Int)+A.length+(mid - s:Nat)):=by omega
       have q5:(P.length:Int)+A.length+(mid - s:Nat)<(P.length:Int)+A.length+B.length:=by omega
       clear s1 s2 s3
       have eh:HH=h:=hHH.trans (H1.out.2.2.2.2.2.1 s Hsf.out.2.1 Hsf.out.2.2.1 (by omega)).symm
       subst eh
       clear hHH
       obtain ⟨S1,p1,y1,e1⟩:=H1.out.2.2.1 s Hsf.out.2.1 Hsf.out.2.2.1 (by omega)
       rw [← HHH.out] at e1
       have Y:=Hid.mk (AI p1 (AI y1 e1))
       clear p1 y1 e1
       (repeat' simp -dsimp (disch:=omega) only [↓EA,EB,Nat.reduceEqDiff,↓reduceIte,reduceCtorEq,eq_self, *])
       obtain ⟨S,x1,x2,x3⟩:=H1.out.2.2.2.2.2.2.1 s S1 _ Hsf.out.1 Hsf.out.2.1 Hsf.out.2.2.1 Hsf.out.2.2.2.1 Hsf.out.2.2.2.2 Y.out.1 Y.out.2.1 (List.Perm.refl _) (H1.out.2.2.2.2.1 s Hsf.out.2.1 Hsf.out.2.2.1 (by omega))
       exact ⟨S,x1,x2,by rw [← List.append_assoc];exact Y.out.2.2.trans x3⟩
      ·-- not
       have q0:¬ ((P.length:Int)+s<(P.length:Int)+A.length):=by omega
       have q1:(P.length:Int)+A.length<(P.length:Int)+A.length+(mid - s:Nat):=by omega
       have q2:¬ ((P.length:Int)<(P.length:Int)+s):=by omega
       have q3:(P.length:Int)+s<(P.length:Int)+mid:=by omega
       have q4:¬ ((P.length:Int)+mid<(P.length:Int)+A.length+(mid - s:Nat)):=by omega
       have q5:¬ ((P.length:Int)+A.length+(mid - s:Nat)<(P.length:Int)+A.length+B.length):=by omega
       clear s1 s2 s3
       have eh:HH=h:=hHH.trans (H1.out.2.2.2.2.2.1 s Hsf.out.2.1 Hsf.out.2.2.1 (by omega)).symm
       subst eh
       clear hHH
       obtain ⟨S1,p1,y1,e1⟩:=H1.out.2.2.1 s Hsf.out.2.1 Hsf.out.2.2.1 (by omega)
       rw [← HHH.out] at e1
       have Y:=Hid.mk (AI p1 (AI y1 e1))
       clear p1 y1 e1
       (repeat' simp -dsimp (disch:=omega) only [↓EA,EB,Nat.reduceEqDiff,↓reduceIte,reduceCtorEq,eq_self, *])
       obtain ⟨S,x1,x2,x3⟩:=H1.out.2.2.2.2.2.2.1 s S1 _ Hsf.out.1 Hsf.out.2.1 Hsf.out.2.2.1 Hsf.out.2.2.2.1 Hsf.out.2.2.2.2 Y.out.1 Y.out.2.1 (List.Perm.refl _) (H1.out.2.2.2.2.1 s Hsf.out.2.1 Hsf.out.2.2.1 (by omega))
       exact ⟨S,x1,x2,by rw [← List.append_assoc];exact Y.out.2.2.trans x3⟩
    ·-- not
     by_cases c3:0<s
     ·-- 0<s
      by_cases c4:mid - s<B.length
      ·-- mid - s<B.length
       have q0:¬ ((P.length:Int)+s<(P.length:Int)+A.length):=by omega
       have q1:¬ ((P.length:Int)+A.length<(P.length:Int)+A.length+(mid - s:Nat)):=by omega
       have q2:(P.length:Int)<(P.length:Int)+s:=by omega
       have q3:¬ ((P.length:Int)+s<(P.length:Int)+mid):=by omega
       have q4:¬ ((P.length:Int)+mid<(P.length:Int)+A.length+(mid - s:Nat)):=by omega
       have q5:(P.length:Int)+A.length+(mid - s:Nat)<(P.length:Int)+A.length+B.length:=by omega
       clear s1 s2 s3
       have eh:HH=h:=hHH.trans (H1.out.2.2.2.2.2.1 s Hsf.out.2.1 Hsf.out.2.2.1 (by omega)).symm
       subst eh
       clear hHH
       obtain ⟨S1,p1,y1,e1⟩:=H1.out.2.2.1 s Hsf.out.2.1 Hsf.out.2.2.1 (by omega)
       rw [← HHH.out] at e1
       have Y:=Hid.mk (AI p1 (AI y1 e1))
       clear p1 y1 e1
       (repeat' simp -dsimp (disch:=omega) only [↓EA,EB,Nat.reduceEqDiff,↓reduceIte,reduceCtorEq,eq_self, *])
       obtain ⟨S,x1,x2,x3⟩:=H1.out.2.2.2.2.2.2.1 s S1 _ Hsf.out.1 Hsf.out.2.1 Hsf.out.2.2.1 Hsf.out.2.2.2.1 Hsf.out.2.2.2.2 Y.out.1 Y.out.2.1 (List.Perm.refl _) (H1.out.2.2.2.2.1 s Hsf.out.2.1 Hsf.out.2.2.1 (by omega))
       exact ⟨S,x1,x2,by rw [← List.append_assoc];exact Y.out.2.2.trans x3⟩
      ·-- not
       have q0:¬ ((P.length:Int)+s<(P.length:Int)+A.length):=by omega
       have q1:¬ ((P.length:Int)+A.length<(P.length:Int)+A.length+(mid - s:Nat)):=by omega
       have q2:(P.length:Int)<(P.length:Int)+s:=by omega
       have q3:¬ ((P.length:Int)+s<(P.length:Int)+mid):=by omega
       have q4:¬ ((P.length:Int)+mid<(P.length:Int)+A.length+(mid - s:Nat)):=by omega
       have q5:¬ ((P.length:Int)+A.length+(mid - s:Nat)<(P.length:Int)+A.length+B.length):=by omega
       clear s1 s2 s3
       have eh:HH=h:=hHH.trans (H1.out.2.2.2.2.2.1 s Hsf.out.2.1 Hsf.out.2.2.1 (by omega)).symm
       subst eh
       clear hHH
       obtain ⟨S1,p1,y1,e1⟩:=H1.out.2.2.1 s Hsf.out.2.1 Hsf.out.2.2.1 (by omega)
       rw [← HHH.out] at e1
       have Y:=Hid.mk (AI p1 (AI y1 e1))
       clear p1 y1 e1
       (repeat' simp -dsimp (disch:=omega) only [↓EA,EB,Nat.reduceEqDiff,↓reduceIte,reduceCtorEq,eq_self, *])
       obtain ⟨S,x1,x2,x3⟩:=H1.out.2.2.2.2.2.2.1 s S1 _ Hsf.out.1 Hsf.out.2.1 Hsf.out.2.2.1 Hsf.out.2.2.2.1 Hsf.out.2.2.2.2 Y.out.1 Y.out.2.1 (List.Perm.refl _) (H1.out.2.2.2.2.1 s Hsf.out.2.1 Hsf.out.2.2.1 (by omega))
       exact ⟨S,x1,x2,by rw [← List.append_assoc];exact Y.out.2.2.trans x3⟩
     ·-- not
      by_cases c4:mid - s<B.length
      ·-- mid - s<B.length
       have q0:¬ ((P.length:Int)+s<(P.length:Int)+A.length):=by omega
       have q1:¬ ((P.length:Int)+A.length<(P.length:Int)+A.length+(mid - s:Nat)):=by omega
       have q2:¬ ((P.length:Int)<(P.length:Int)+s):=by omega
       have q3:¬ ((P.length:Int)+s<(P.length:Int)+mid):=by omega
       have q4:¬ ((P.length:Int)+mid<(P.length:Int)+A.length+(mid - s:Nat)):=by omega
       have q5:(P.length:Int)+A.length+(mid - s:Nat)<(P.length:Int)+A.length+B.length:=by omega
       clear s1 s2 s3
       have eh:HH=h:=hHH.trans (H1.out.2.2.2.2.2.1 s Hsf.out.2.1 Hsf.out.2.2.1 (by omega)).symm
       subst eh
       clear hHH
       obtain ⟨S1,p1,y1,e1⟩:=H1.out.2.2.1 s Hsf.out.2.1 Hsf.out.2.2.1 (by omega)
       rw [← HHH.out] at e1
       have Y:=Hid.mk (AI p1 (AI y1 e1))
       clear p1 y1 e1
       (repeat' simp -dsimp (disch:=omega) only [↓EA,EB,Nat.reduceEqDiff,↓reduceIte,reduceCtorEq,eq_self, *])
       obtain ⟨S,x1,x2,x3⟩:=H1.out.2.2.2.2.2.2.1 s S1 _ Hsf.out.1 Hsf.out.2.1 Hsf.out.2.2.1 Hsf.out.2.2.2.1 Hsf.out.2.2.2.2 Y.out.1 Y.out.2.1 (List.Perm.refl _) (H1.out.2.2.2.2.1 s Hsf.out.2.1 Hsf.out.2.2.1 (by omega))
       exact ⟨S,x1,x2,by rw [← List.append_assoc];exact Y.out.2.2.trans x3⟩
      ·-- not
       have q0:¬ ((P.length:Int)+s<(P.length:Int)+A.length):=by omega
       have q1:¬ ((P.length:Int)+A.length<(P.length:Int)+A.length+(mid - s:Nat)):=by omega
       have q2:¬ ((P.length:Int)<(P.length:Int)+s):=by omega
       have q3:¬ ((P.length:Int)+s<(P.length:Int)+mid):=by omega
       have q4:¬ ((P.length:Int)+mid<(P.length:Int)+A.length+(mid - s:Nat)):=by omega
       have q5:¬ ((P.length:Int)+A.length+(mid - s:Nat)<(P.length:Int)+A.length+B.length):=by omega
       clear s1 s2 s3
       have eh:HH=h:=hHH.trans (H1.out.2.2.2.2.2.1 s Hsf.out.2.1 Hsf.out.2.2.1 (by omega)).symm
       subst eh
       clear hHH
       obtain ⟨S1,p1,y1,e1⟩:=H1.out.2.2.1 s Hsf.out.2.1 Hsf.out.2.2.1 (by omega)
       rw [← HHH.out] at e1
       have Y:=Hid.mk (AI p1 (AI y1 e1))
       clear p1 y1 e1
       (repeat' simp -dsimp (disch:=omega) only [↓EA,EB,Nat.reduceEqDiff,↓reduceIte,reduceCtorEq,eq_self, *])
       obtain ⟨S,x1,x2,x3⟩:=H1.out.2.2.2.2.2.2.1 s S1 _ Hsf.out.1 Hsf.out.2.1 Hsf.out.2.2.1 Hsf.out.2.2.2.1 Hsf.out.2.2.2.2 Y.out.1 Y.out.2.1 (List.Perm.refl _) (H1.out.2.2.2.2.1 s Hsf.out.2.1 Hsf.out.2.2.1 (by omega))
       exact ⟨S,x1,x2,by rw [← List.append_assoc];exact Y.out.2.2.trans x3⟩
end Go.L.Try
set_option maxHeartbeats 4000000
namespace Go.L.Try
open Go Go.L
variable {E:Env}
theorem Axg {r:Int→Int→Prop} {l:List Int} (h:l.Pairwise r) (k:Nat):(l.drop k).Pairwise r:=h.sublist (List.drop_sublist k l)
theorem Azl (hE:Aw E) {h0 h:Aa} {b n N cap:Nat} {M:List Int} {key:Int→Int} {cv:Value} (hb:h[b]? = some (Ad M)) (hp:Pre h0 h) (hbm:h0.length≤b) (hc:Y9 E h0 cv key n) (hin:∀ x∈M,0≤x∧x<n) (hpre:M.Pairwise fun x y => key x=key y→x<y) (hN:M.length=N) (hfew:N≤1048576) {W:Nat→Prop} (hW:W b) :
  WX W (callW E (.func (.func Bu) #[] #[]) [.slice (some ⟨b,0,none⟩) N cap,.int .i64 N,cv] h) (fun _ h' => ∃ M',M'.Perm M∧M'.Pairwise (leK key)∧h'=h.set b (Ad M')):=by
 refine E9 hE.Ou rfl (by simp) ?_
 simp only [List.nil_append,List.cons_append,Ak]
 have hlt:=(GI.1 hb).1
 have hset:=Ds hb
 have hins:∀ (P K T:List Int),(P++K++T).length=N→K <+: M.drop P.length→WX W (callW E (.func (.func An) #[] #[]) [.slice (some ⟨b,0,none⟩) N cap,.int .i64 P.length,.int .i64 ((P.length:Int)+K.length),cv] (h.set b (Ad (P++K++T)))) (fun _ h' => ∃ M',M'.Perm K∧M'.Pairwise (leK key)∧h'=h.set b (Ad (P++M'++T))):=fun P K T hl hk => by
  have hsub:List.Sublist K M:=hk.sublist.trans (List.drop_sublist _ _)
  have r:=A0t hE (h0:=h0) (h:=h.set b (Ad (P++K++T))) (b:=b) (cap:=cap) (n:=n) (P:=P) (M:=K) (T:=T) (key:=key) (cv:=cv) (B9 hlt) (hp.set hbm _) hbm hc (fun x hx => hin x (hsub.subset hx)) (hpre.sublist hsub) (by omega) hW
  rw [hl] at r
  refine WX.mono r (fun b hb => hb) fun v h' ⟨M',p1,p2,p3⟩ => ⟨M',p1,p2,?_⟩
  rw [p3,List.set_set]
 have hmer:∀ (bs:Nat) (P A B T:List Int),(P++A++B++T).length=N→A.length=bs→A≠[]→B≠[]→A.Perm ((M.drop P.length).take bs)→(∀ x∈B,x∈(M.drop P.length).drop bs)→A.Pairwise (leK key)→B.Pairwise (leK key)→WX W (callW E (.func (.func Ai) #[] #[]) [.slice (some ⟨b,0,none⟩) N cap,.int .i64 P.length,.int .i64 ((P.length:Int)+bs),.int .i64 ((P.length:Int)+bs+B.length),cv] (h.set b (Ad (P++A++B++T)))) (fun _ h' => ∃ S,S.Perm (A++B)∧S.Pairwise (leK key)∧h'=h.set b (Ad (P++S++T))):=fun bs P A B T hl ha hA hB pA pB sA sB => by
  have r:=Att hE (b:=b) (cap:=cap) (n:=n) (N:=N) (key:=key) hbm hc hfew hW (A.length+B.length) (h:=h.set b (Ad (P++A++B++T))) (P:=P) (A:=A) (B:=B) (T:=T) (Nat.le_refl _) hA hB
   ⟨B9 hlt,hp.set hbm _,by rw [← hl];simp only [LA],fun x hx => hin x (List.mem_of_mem_drop (List.mem_of_mem_take (pA.mem_iff.1 hx))),fun x hx => hin x (List.mem_of_mem_drop (List.mem_of_mem_drop (pB x hx))),sA,sB,fun x hx y hy => Arq (Axg hpre _) bs x (pA.mem_iff.1 hx) y (pB y hy)⟩
  rw [ha] at r
  refine WX.mono r (fun b hb => hb) fun v h' ⟨S,p1,p2,p3⟩ => ⟨S,p1,p2,?_⟩
  rw [p3,List.set_set]
 have HX:=Hid.mk (AI hins (AI hmer (AI hN hset)))
 have few1:(N:Int)≤1048576:=by omega
 clear hins hmer hN hset hc hin hpre hb
 (repeat' simp -dsimp (disch:=omega) only [↓EA,EB,Nat.reduceEqDiff,Nat.reduceAdd,↓reduceIte,reduceCtorEq,eq_self, *])
 refine WO.loop (fun (S:List Int) fr h' => h'=h.set b (Ad (S++M.drop S.length))∧Dn key 20 M S∧get fr 0 = .slice (some ⟨b,0,none⟩) N cap∧get fr 1 = .int .i64 N∧get fr 2=cv∧get fr 6 = .int .i64 20∧get fr 7 = .int .i64 S.length∧get fr 8 = .int .i64 ((S.length:Int)+20)) (fun S => N - S.length) ?_ [] ⟨by rw [List.length_nil,List.drop_zero,List.nil_append];exact HX.out.2.2.2.symm,Dn.nil,rfl,rfl,rfl,rfl,rfl,rfl⟩
 rintro S fr h' ⟨rfl,hD,g0,g1,g2,g6,g7,g8⟩
 unfold Fi
 obtain ⟨hins,hmer,hN,hset⟩:=HX.out
 by_cases hlt2:S.length+20≤N
 ·have hk:((M.drop S.length).take 20).length=20:=by rw [List.length_take,List.length_drop];omega
  have e1:S++M.drop S.length=S++(M.drop S.length).take 20++M.drop (S.length+20):=by
   rw [List.append_assoc,← List.drop_drop,List.take_append_drop]
  have r:=hins S ((M.drop S.length).take 20) (M.drop (S.length+20)) (by rw [← e1,LA,List.length_drop];omega) (List.take_prefix _ _)
  rw [← e1,hk] at r
  have k1:(S.length:Int)+20≤N:=by omega
  have HD:=Hid.mk (AI hD e1)
  clear hins hmer hN hset hD e1 hk
  generalize h.set b (Ad (S++M.drop S.length))=H at r ⊢
  (repeat' simp -dsimp (disch:=omega) only [↓EA,EB,Nat.reduceEqDiff,↓reduceIte,reduceCtorEq,eq_self, *])
  refine WX.mono r (fun b hb => hb) fun v h2 ⟨M',p1,p2,p3⟩ => ?_
  have HM:=Hid.mk (AI p1 (AI p2 p3))
  clear r p1 p2 p3
  (repeat' simp -dsimp (disch:=omega) only [↓EA,EB,Nat.reduceEqDiff,↓reduceIte,reduceCtorEq,eq_self, *])
  obtain ⟨p1,p2,p3⟩:=HM.out
  obtain ⟨hD,e1⟩:=HD.out
  have hN:=HX.out.2.2.1
  have hl:M'.length=20:=by rw [p1.length_eq,List.length_take,List.length_drop];omega
  refine Next.mk (S++M') ⟨?_,hD.snoc (by omega) p1 p2,rfl,rfl,rfl,rfl,?_,?_⟩ ?_
  ·rw [p3,LA,hl]
  ·simp only [get];simp [hl]
  ·simp only [get];simp [hl]
  ·rw [LA];omega
 ·have e1:S++M.drop S.length=S++M.drop S.length++[]:=by rw [List.append_nil]
  have hSM:=hD.1
  have r:=hins S (M.drop S.length) [] (by rw [← e1,LA,List.length_drop];omega) (List.prefix_refl _)
  rw [← e1,show (S.length:Int)+(M.drop S.length).length=N by rw [List.length_drop];omega] at r
  have k1:¬ (S.length:Int)+20≤N:=by omega
  have k2:(S.length:Int)≤N:=by omega
  have HD:=Hid.mk hD
  clear hins hmer hN hset hD e1
  generalize h.set b (Ad (S++M.drop S.length))=H at r ⊢
  (repeat' simp -dsimp (disch:=omega) only [↓EA,EB,Nat.reduceEqDiff,↓reduceIte,reduceCtorEq,eq_self, *])
  refine WX.mono r (fun b hb => hb) fun v h2 ⟨M',p1,p2,p3⟩ => ?_
  have hB:Blk key 20 M (S++M'):=by
   have hN:=HX.out.2.2.1
   exact HD.out.fin (by omega) p1 p2
  rw [List.append_nil] at p3
  subst p3
  have HB:=Hid.mk hB
  clear r p1 p2 hB
  (repeat' simp -dsimp (disch:=omega) only [↓EA,EB,Nat.reduceEqDiff,↓reduceIte,reduceCtorEq,eq_self, *])
  refine WO.loop (fun (q:Nat × List Int) fr h' => h'=h.set b (Ad q.2)∧Blk key q.1 M q.2∧0<q.1∧q.1≤2097152∧get fr 0 = .slice (some ⟨b,0,none⟩) N cap∧get fr 1 = .int .i64 N∧get fr 2=cv∧get fr 6 = .int .i64 q.1) (fun q => N - q.1) ?_ (20,S++M') ⟨rfl,HB.out,by dsimp only;omega,by dsimp only;omega,rfl,rfl,rfl,rfl⟩
  clear HB HD k1 k2 g0 g1 g2 g6 g7 g8 hlt2 hSM
  rintro ⟨bs,L⟩ fr h' ⟨rfl,hB,hb0,hb1,g0,g1,g2,g6⟩
  unfold Fg
  dsimp only at *
  by_cases hlt3:bs<N
  ·have k1:(bs:Int)<N:=by omega
   have k2:(0:Int)<bs:=by omega
   have HB:=Hid.mk hB
   clear hB
   (repeat' simp -dsimp (disch:=omega) only [↓EA,EB,Nat.reduceEqDiff,↓reduceIte,reduceCtorEq,eq_self, *])
   refine WO.loop (fun (q:List Int × List Int) fr h' => h'=h.set b (Ad (q.1++q.2))∧Dn key (2 * bs) M q.1∧Blk key bs (M.drop q.1.length) q.2∧get fr 0 = .slice (some ⟨b,0,none⟩) N cap∧get fr 1 = .int .i64 N∧get fr 2=cv∧get fr 6 = .int .i64 bs∧get fr 7 = .int .i64 q.1.length∧get fr 8 = .int .i64 ((q.1.length:Int)+2 * bs)) (fun q => N - q.1.length) ?_ ([],L) ⟨rfl,Dn.nil,HB.out,rfl,rfl,rfl,rfl,rfl,by simp only [get];simp⟩
   rintro ⟨S,R⟩ fr h' ⟨rfl,hD,hR,g0,g1,g2,g6,g7,g8⟩
   unfold Fh
   dsimp only at *
   obtain ⟨hins,hmer,hN,hset⟩:=HX.out
   have hSM:=hD.1
   have hRl:=hR.len
   rw [List.length_drop] at hRl
   by_cases hlt4:S.length+2 * bs≤N
   ·obtain ⟨L1,R1,rfl,l1,p1,s1,hR1⟩:=hR.first (by rw [List.length_drop];omega)
    obtain ⟨L2,R2,rfl,l2,p2,s2,hR2⟩:=hR1.first (by rw [List.length_drop,List.length_drop];omega)
    have r:=hmer bs S L1 L2 R2 (by simp only [LA] at hRl ⊢;omega) l1 (by intro e;rw [e,List.length_nil] at l1;omega) (by intro e;rw [e,List.length_nil] at l2;omega) p1 (fun x hx => List.mem_of_mem_take (p2.mem_iff.1 hx)) s1 s2
    rw [l2,show (S.length:Int)+bs+bs=(S.length:Int)+2 * bs by omega] at r
    have e1:S++(L1++(L2++R2))=S++L1++L2++R2:=by simp only [List.append_assoc]
    rw [e1]
    have k3:(S.length:Int)+2 * bs≤N:=by omega
    have HD:=Hid.mk (AI hD (AI p1 (AI p2 (AI hR2 (AI l1 l2)))))
    clear hins hmer hN hset hD hSM hRl p1 p2 hR2 l1 l2 s1 s2 hR hR1 e1
    generalize h.set b (Ad (S++L1++L2++R2))=H at r ⊢
    (repeat' simp -dsimp (disch:=omega) only [↓EA,EB,Nat.reduceEqDiff,↓reduceIte,reduceCtorEq,eq_self, *])
    refine WX.mono r (fun b hb => hb) fun v h2 ⟨S',q1,q2,q3⟩ => ?_
    have HM:=Hid.mk (AI q1 (AI q2 q3))
    clear r q1 q2 q3
    (repeat' simp -dsimp (disch:=omega) only [↓EA,EB,Nat.reduceEqDiff,↓reduceIte,reduceCtorEq,eq_self, *])
    obtain ⟨q1,q2,q3⟩:=HM.out
    obtain ⟨hD,p1,p2,hR2,l1,l2⟩:=HD.out
    have hN:=HX.out.2.2.1
    have hl:S'.length=2 * bs:=by rw [q1.length_eq,LA];omega
    have hpp:S'.Perm ((M.drop S.length).take (2 * bs)):=by
     rw [show 2 * bs=bs+bs by omega,List.take_add]
     exact q1.trans (p1.append p2)
    refine Next.mk (S++S',R2) ⟨q3,hD.snoc (by omega) hpp q2,?_,rfl,rfl,rfl,rfl,?_,?_⟩ ?_
    ·dsimp only
     rw [LA,hl,show S.length+2 * bs=S.length+(bs+bs) by omega,← List.drop_drop,← List.drop_drop]
     exact hR2
    ·simp only [get];simp [hl]
    ·simp only [get];simp [hl]
    ·dsimp only
     rw [LA];omega
   ·have k3:¬ (S.length:Int)+2 * bs≤N:=by omega
    have k4:(S.length:Int)≤N:=by omega
    by_cases hlt5:S.length+bs<N
    ·obtain ⟨L1,R1,rfl,l1,p1,s1,hR1⟩:=hR.first (by rw [List.length_drop];omega)
     obtain ⟨p2,s2⟩:=hR1.one (by rw [List.length_drop,List.length_drop];omega)
     have l2:R1.length=N - S.length - bs:=by rw [p2.length_eq,List.length_drop,List.length_drop];omega
     have r:=hmer bs S L1 R1 [] (by simp only [LA,List.length_nil];omega) l1 (by intro e;rw [e,List.length_nil] at l1;omega) (by intro e;rw [e,List.length_nil] at l2;omega) p1 (fun x hx => p2.mem_iff.1 hx) s1 s2
     rw [show (S.length:Int)+bs+R1.length=N by omega,List.append_nil] at r
     have e1:S++(L1++R1)=S++L1++R1:=by simp only [List.append_assoc]
     rw [e1]
     have k5:(S.length:Int)+bs<N:=by omega
     have HD:=Hid.mk (AI hD (AI p1 p2))
     clear hins hmer hN hset hD hSM hRl p1 p2 l1 l2 s1 s2 hR hR1 e1
     generalize h.set b (Ad (S++L1++R1))=H at r ⊢
     (repeat' simp -dsimp (disch:=omega) only [↓EA,EB,Nat.reduceEqDiff,↓reduceIte,reduceCtorEq,eq_self, *])
     refine WX.mono r (fun b hb => hb) fun v h2 ⟨S',q1,q2,q3⟩ => ?_
     have HM:=Hid.mk (AI q1 (AI q2 q3))
     clear r q1 q2 q3
     (repeat' simp -dsimp (disch:=omega) only [↓EA,EB,Nat.reduceEqDiff,↓reduceIte,reduceCtorEq,eq_self, *])
     obtain ⟨q1,q2,q3⟩:=HM.out
     obtain ⟨hD,p1,p2⟩:=HD.out
     have hN:=HX.out.2.2.1
     have hpp:S'.Perm (M.drop S.length):=by
      have:=q1.trans (p1.append p2)
      rwa [List.take_append_drop] at this
     rw [List.append_nil] at q3
     refine Next.mk (2 * bs,S++S') ⟨q3,hD.fin (by omega) hpp q2,by dsimp only;omega,by dsimp only;omega,rfl,rfl,rfl,?_⟩ ?_
     ·simp only [get];simp;omega
     ·dsimp only;omega
    ·have k5:¬ (S.length:Int)+bs<N:=by omega
     obtain ⟨p2,s2⟩:=hR.one (by rw [List.length_drop];omega)
     have HD:=Hid.mk (AI hD (AI p2 s2))
     clear hins hmer hN hset hD hSM hRl p2 s2 hR
     generalize hH:h.set b (Ad (S++R))=H at *
     have HH:=Hid.mk hH
     clear hH
     (repeat' simp -dsimp (disch:=omega) only [↓EA,EB,Nat.reduceEqDiff,↓reduceIte,reduceCtorEq,eq_self, *])
     obtain ⟨hD,p2,s2⟩:=HD.out
     have hN:=HX.out.2.2.1
     refine Next.mk (2 * bs,S++R) ⟨HH.out.symm,hD.fin (by omega) p2 s2,by dsimp only;omega,by dsimp only;omega,rfl,rfl,rfl,?_⟩ ?_
     ·simp only [get];simp;omega
     ·dsimp only;omega
  ·have k1:¬ (bs:Int)<N:=by omega
   have hN:=HX.out.2.2.1
   have ho:=hB.one (by omega)
   have HO:=Hid.mk ho
   clear hB ho hN
   (repeat' simp -dsimp (disch:=omega) only [↓EA,EB,Nat.reduceEqDiff,↓reduceIte,reduceCtorEq,eq_self, *])
   exact ⟨L,HO.out.1,HO.out.2,rfl⟩
theorem Ag7 (hE:Aw E) {h0 h:Aa} {b n cap:Nat} {M:List Int} {key:Int→Int} {cv:Value} (hb:h[b]? = some (Ad M)) (hp:Pre h0 h) (hbm:h0.length≤b) (hc:Y9 E h0 cv key n) (hin:∀ x∈M,0≤x∧x<n) (hpre:M.Pairwise fun x y => key x=key y→x<y) (hfew:M.length≤1048576) {W:Nat→Prop} (hW:W b) :
  WX W (callW E (.func (.func Bd) #[] #[]) [.slice (some ⟨b,0,none⟩) M.length cap,cv] h) (fun _ h' => ∃ M',M'.Perm M∧M'.Pairwise (leK key)∧h'=h.set b (Ad M')):=by
 have hst:=Azl hE (cap:=cap) hb hp hbm hc hin hpre rfl hfew hW
 refine E9 hE.Lg rfl (by simp) ?_
 simp only [List.nil_append,List.cons_append,Ak]
 have Hx:=Hid.mk (AI hc (AI hin (AI hpre hb)))
 clear hc hin hpre hb
 (repeat' simp -dsimp (disch:=omega) only [↓EA,EB,Nat.reduceEqDiff,↓reduceIte,reduceCtorEq,eq_self, *])
 refine WX.mono hst (fun b hb => hb) fun v h2 q => ?_
 have Hq:=Hid.mk q
 clear q
 (repeat' simp -dsimp (disch:=omega) only [↓EA,EB, *])
 exact Hq.out
theorem A3k (hE:Aw E) {h:Aa} {vj:Value} {jobs:List Job} (hj:RdJ h vj jobs) (hn:jobs.length≤65536) :
  ∃ v ys,callW E (.func (.func Gp) #[] #[]) [vj] h=some (v,h++ys,[])∧∃ o:List Nat,RdO h.length 1 Gk (h++ys) v (o.map Int.ofNat)∧(∀ i,i∈o↔i<jobs.length)∧o.Pairwise (ltR jobs):=by
 have hmov:Movable h.length (fun hh v => ∃ o:List Nat,RdO h.length 1 Gk hh v (o.map Int.ofNat)∧(∀ i,i∈o↔i<jobs.length)∧o.Pairwise (ltR jobs)) 1:=by
  refine Movable.ex fun o => ?_
  have h1:=RdO.movable (m:=h.length) (sz:=1) Aeo (o.map Int.ofNat)
  exact ⟨fun ρ a b d v v' hm hv ⟨p,q⟩ => ⟨h1.move ρ a b d v v' hm hv p,q⟩,fun a v ⟨p,_⟩ => h1.noy a v p⟩
 refine Ku hE.Afe rfl hmov (by simp) ?_
 obtain ⟨lv,rfl,hlv,_⟩:=hj.is
 rw [List.length_map] at hn
 have few:=hlv.few
 have o1:=hlv.one
 have c1:=hlv.cv
 obtain ⟨n,hnn⟩:∃ n,n=lv.length:=⟨_,rfl⟩
 have hl2:Pq false vj=some (.int .i64 n):=by rw [hlv.len,hnn]
 have hn2:(n:Int)≤65536:=by omega
 have Hnn:=Hid.mk hnn
 clear hnn
 simp only [Ak]
 have hup0:List.replicate ((n:Int)).toNat (0:Int)=Aad 0 n:=by simp [Aad]
 (repeat' simp -dsimp (disch:=omega) only [↓EA,EB,Nat.reduceEqDiff,↓reduceIte,Ac,eq_self, *,Int.toNat_natCast])
 refine WO.loop (fun (i:Nat) fr h' => h'=h++[.cells [vj] false,Ad (Aad i n)]∧i≤n∧get fr 1 = .pointer (some ⟨h.length,0,none⟩)∧get fr 3 = .slice (some ⟨h.length+1,0,none⟩) n n∧get fr 9 = .int .i64 n∧get fr 10 = .int .i64 i) (fun i => n - i) ?_ 0 ⟨rfl,Nat.zero_le _,rfl,rfl,rfl,rfl⟩
 rintro i fr h' ⟨rfl,hin,g1,g3,g9,g10⟩
 unfold Oi
 by_cases hlt:i<n
 ·have hul:=Atf hin
  have hus:=Ate hlt
  have i1:=Co (size:=1) (n:=n) (c:=n) (b:=h.length+1) (o:=0) (sp:=none) (k:=.i64) (j:=(i:Int)) (by omega) (by omega)
  have s1:=fun hh => Jz (h:=hh) (b:=h.length+1) (l:=Aad i n) (i:=(i:Int)) (x:=(i:Int)) (by omega) (by omega)
  rw [Int.toNat_natCast,Nat.mul_one] at i1
  rw [Int.toNat_natCast,Nat.mul_one,hus] at s1
  clear hup0
  (repeat' (first | (with_reducible refine A3 (fun _ => ?_) (fun _ => ?_)<;>try (exfalso;omega)) | simp -dsimp (disch:=omega) only [↓EA,EB,Nat.reduceEqDiff,↓reduceIte,eq_self, *]))
  refine Next.mk (i+1) ⟨rfl,by omega,rfl,rfl,rfl,by simp only [get];simp⟩ (by omega)
 ·have hie:i=n:=by omega
  subst hie
  have hu:Aad i i=(List.range i).map Int.ofNat:=by simp [Aad]
  rw [hu]
  clear hup0
  (repeat' (first | (with_reducible refine A3 (fun _ => ?_) (fun _ => ?_)<;>try (exfalso;omega)) | simp -dsimp (disch:=omega) only [↓EA,EB,Nat.reduceEqDiff,↓reduceIte,eq_self, *]))
  have hpb:Pre (h++[.cells [vj] false]) (h++[.cells [vj] false,Ad ((List.range i).map Int.ofNat)]):=by
   have:=Pre.app (h++[.cells [vj] false]) [Ad ((List.range i).map Int.ofNat)]
   rwa [List.append_assoc] at this
  have hcmp:Y9 E (h++[.cells [vj] false]) (.func (.func C8) #[] #[.pointer (some ⟨h.length,0,none⟩)]) (fun a => (atI lv a).j.release) i:=fun hh hp a b ha1 ha2 hb1 hb2 => by
   have hbx:hh[h.length]? = some (.cells [vj] false):=hp _ _ (by rw [Bm];rfl)
   have hnn:=Hnn.out
   exact Axw hE hbx ((hlv.app _).pre hp) (by omega) (by omega)
  have hsort:=Ag7 hE (h:=h++[.cells [vj] false,Ad ((List.range i).map Int.ofNat)]) (b:=h.length+1) (cap:=i) (M:=(List.range i).map Int.ofNat) (by rw [Kr];rfl) hpb (by simp) hcmp (fun x hx => by
   obtain ⟨k,hk,rfl⟩:=List.mem_map.1 hx
   have:=List.mem_range.1 hk
   show 0≤(k:Int)∧(k:Int)<i
   omega) (by
   rw [List.pairwise_map]
   refine List.Pairwise.imp ?_ (List.pairwise_lt_range (n:=i))
   intro a b hab _
   show (a:Int)<b
   omega) (by simp;omega) (W:=fun b => h.length≤b) (by omega)
  rw [List.length_map,List.length_range] at hsort
  refine WX.mono hsort (fun b hb => hb) fun v h2 ⟨M',p1,p2,p3⟩ => ?_
  subst p3
  have hset:(h++[.cells [vj] false,Ad ((List.range i).map Int.ofNat)]).set (h.length+1) (Ad M')=h++[.cells [vj] false,Ad M']:=by rw [A3b];rfl
  rw [hset]
  have Hp:=Hid.mk (AI p1 p2)
  clear p1 p2
  (repeat' simp -dsimp (disch:=omega) only [↓EA,EB,Nat.reduceEqDiff,↓reduceIte,eq_self, *])
  refine ⟨⟨_,rfl⟩,?_⟩
  have hnn:=Hnn.out
  obtain ⟨p1,p2⟩:=Hp.out
  have hM:∀ x∈M',0≤x∧x<i:=fun x hx => by
   obtain ⟨k,hk,rfl⟩:=List.mem_map.1 (p1.mem_iff.1 hx)
   have:=List.mem_range.1 hk
   show 0≤(k:Int)∧(k:Int)<i
   omega
  have hMl:M'.length=i:=by rw [p1.length_eq];simp
  have hback:(M'.map Int.toNat).map Int.ofNat=M':=by
   rw [List.map_map]
   conv => rhs;rw [← List.map_id M']
   refine List.map_congr_left fun x hx => ?_
   have:=hM x hx
   show ((x.toNat:Nat):Int)=x
   omega
  refine ⟨M'.map Int.toNat,?_,fun k => ?_,?_⟩
  ·rw [hback]
   refine ⟨fun e he => by obtain ⟨a,_,rfl⟩:=List.mem_map.1 he;rfl,by rw [List.length_map];omega,.inr ⟨h.length+1,0,none,i,Aby M',by omega,by rw [List.length_map,hMl],by rw [Kr];rfl,?_,?_,by rw [List.length_map];omega,.inl rfl⟩⟩
   ·rw [List.length_map,Sq];omega
   ·rw [List.drop_zero,List.length_map,Nat.mul_one,← Sq M',List.take_length,X6]
  ·rw [List.length_map,← hnn]
   constructor
   ·intro hk
    obtain ⟨x,hx,rfl⟩:=List.mem_map.1 hk
    have:=hM x hx;omega
   ·intro hk
    refine List.mem_map.2 ⟨(k:Int),p1.mem_iff.2 (List.mem_map.2 ⟨k,List.mem_range.2 hk,rfl⟩),by omega⟩
  ·rw [List.pairwise_map]
   refine List.Pairwise.imp_of_mem ?_ p2
   intro a b ha hb hab
   have ha1:=hM a ha
   have hb1:=hM b hb
   unfold ltR
   unfold leK at hab
   dsimp only at hab
   rw [show ((a.toNat:Nat):Int)=a by omega,show ((b.toNat:Nat):Int)=b by omega]
   have e1:=Tg NV.j lv a (by omega) (by omega)
   have e2:=Tg NV.j lv b (by omega) (by omega)
   rw [← e1,← e2]
   omega
end Go.L.Try
