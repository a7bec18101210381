/- SPANS HELD AGAINST ONE ANOTHER. -/
import Derived.Test.YtnanlkamcgihlaaDoorVb
import Derived.Test.YtnanlkamcgihlaaDoorPg
import Derived.Test.YtnanlkamcgihlaaDoorPi
import Derived.Test.YtnanlkamcgihlaaDoorPk
import Derived.Test.YtnanlkamcgihlaaDoorPl
set_option linter.unusedVariables false
set_option linter.unusedSimpArgs false
namespace Go.L.Try
open Go Go.L
theorem span_ext {x y:Span}:x = y ↔ (x.job = y.job ∧ x.from' = y.from' ∧ x.to' = y.to'):=by
 cases x;cases y;simp
instance:DecidableEq Span:=fun x y => decidable_of_iff _ span_ext.symm
theorem Aq0 {a b c x y z:Int}:binOp .neq (.flat [(.one .i),(.one .i),(.one .i)]) (.agg #[.int .i64 a,.int .i64 b,.int .i64 c]) (.agg #[.int .i64 x,.int .i64 y,.int .i64 z]) = some (.bool (decide (¬ (a = x ∧ b = y ∧ c = z)))):=by
 simp [binOp,Ia,Ca,Gj]
 by_cases e:a = x <;> by_cases h2:b = y <;> by_cases d:c = z <;> simp [e,h2,d]
end Go.L.Try
set_option maxRecDepth 100000
set_option maxHeartbeats 1000000
namespace Go.L.Try
open Go Go.L
def st (l:List Ac) (jobs:List Job):Nat → RS
  | 0 => Cq jobs.length
  | n + 1 => Eg l jobs (st l jobs n)
def who (l:List Ac) (jobs:List Job) (n:Nat):Int:=rsRuns l jobs (st l jobs n)
def dn (l:List Ac) (jobs:List Job) (i n:Nat):Int:=atI (st l jobs n).done (i:Int)
variable {l:List Ac} {jobs:List Job}
structure Ajg (jobs:List Job) (s:RS):Prop where
  dlen:s.done.length = jobs.length
  elen:s.ends.length = jobs.length
  runs:-1 ≤ s.runs ∧ s.runs < jobs.length
  done:∀ i:Nat,i < jobs.length → 0 ≤ atI s.done (i:Int) ∧ atI s.done (i:Int) ≤ (jb jobs i).work
theorem Aw3 (S:Script l jobs) {s:RS} (hi:Ajg jobs s):-1 ≤ rsRuns l jobs s ∧ rsRuns l jobs s < jobs.length ∧ (0 ≤ rsRuns l jobs s → atI s.done (rsRuns l jobs s) < (atI jobs (rsRuns l jobs s)).work):=by
  unfold rsRuns
  split
  · have:=O2 l jobs s.done s.t jobs.length
    exact ⟨this.1,this.2,fun h => (Kd h).2⟩
  · rename_i c
    have d:0 ≤ s.runs:=by omega
    have e:A5 (atI jobs s.runs).cuts 0 (atI s.done s.runs) = true:=by simpa using fun h => c (.inr h)
    refine ⟨by omega,hi.runs.2,fun _ => ?_⟩
    obtain ⟨q,a⟩:=S.ok.cuts _ (Al d hi.runs.2)
    have:=We a e;omega
theorem Ka (S:Script l jobs) {s:RS} (hi:Ajg jobs s):(rsRuns l jobs s = -1 ∧ Eg l jobs s = { s with t:=s.t + 1,runs:=-1 }) ∨ ∃ r:Nat,r < jobs.length ∧ rsRuns l jobs s = r ∧ atI s.done (r:Int) < (jb jobs r).work ∧ Eg l jobs s = Kb jobs s r:=by
  obtain ⟨f,h2,d⟩:=Aw3 S hi
  unfold Eg
  by_cases c:rsRuns l jobs s < 0
  · left
    have e:rsRuns l jobs s = -1:=by omega
    rw [if_pos c,e];exact ⟨rfl,rfl⟩
  · right
    obtain ⟨r,a⟩:∃ r:Nat,rsRuns l jobs s = r:=⟨(rsRuns l jobs s).toNat,by omega⟩
    rw [if_neg c,a]
    rw [a] at h2 d
    exact ⟨r,by omega,rfl,d (by omega),rfl⟩
theorem Acc {s:RS} {r:Nat} (hr:r < s.done.length) (i:Nat):atI (Kb jobs s r).done (i:Int) = if i = r then atI s.done (r:Int) + 1 else atI s.done (i:Int):=by
  show atI (s.done.set ((r:Int)).toNat (atI s.done (r:Int) + 1)) (i:Int) = _
  rw [Int.toNat_natCast];exact Te hr i
theorem Ao9 {s:RS} {r:Nat} (hr:r < s.ends.length) (i:Nat):atI (Kb jobs s r).ends (i:Int) = if i = r ∧ atI s.done (r:Int) + 1 = (jb jobs r).work then s.t + 1 else atI s.ends (i:Int):=by
  show atI (if atI s.done (r:Int) + 1 = (atI jobs (r:Int)).work then s.ends.set ((r:Int)).toNat (s.t + 1) else s.ends) (i:Int) = _
  rw [Int.toNat_natCast]
  by_cases h:atI s.done (r:Int) + 1 = (jb jobs r).work
  · have h':atI s.done (r:Int) + 1 = (atI jobs (r:Int)).work:=h
    rw [if_pos h',Te hr]
    by_cases e:i = r
    · rw [if_pos e,if_pos ⟨e,h⟩]
    · rw [if_neg e,if_neg fun h => e h.1]
  · have h':¬ atI s.done (r:Int) + 1 = (atI jobs (r:Int)).work:=h
    rw [if_neg h',if_neg fun a => h a.2]
theorem Aju (S:Script l jobs) {s:RS} (hi:Ajg jobs s):Ajg jobs (Eg l jobs s):=by
  rcases Ka S hi with ⟨_,h⟩ | ⟨r,c,h2,d,h⟩
  · rw [h];exact ⟨hi.dlen,hi.elen,⟨Int.le_refl _,by show (-1:Int) < _;omega⟩,hi.done⟩
  · rw [h]
    refine ⟨by simp [Kb,hi.dlen],?_,⟨by show -1 ≤ (r:Int);omega,by show (r:Int) < _;omega⟩,fun i a => ?_⟩
    · simp only [Kb];split
      · rw [List.length_set];exact hi.elen
      · exact hi.elen
    · rw [Acc (by rw [hi.dlen];exact c)]
      split
      · rename_i e;subst e;have:=hi.done i a;omega
      · exact hi.done i a
theorem Aj9 {n:Nat} {x:Int} (i:Nat) (hi:i < n):atI (List.replicate n x) (i:Int) = x:=by
  rw [B8 (by simpa using hi)];simp
theorem Pn (S:Script l jobs):∀ n,Ajg jobs (st l jobs n)
  | 0 => by
    refine ⟨by simp [st,Cq],by simp [st,Cq],⟨by simp [st,Cq],by simp [st,Cq];omega⟩,fun i a => ?_⟩
    show 0 ≤ atI (List.replicate jobs.length (0:Int)) (i:Int) ∧ atI (List.replicate jobs.length (0:Int)) (i:Int) ≤ _
    rw [Aj9 i a]
    have:=(S.ok.work _ (D6 a)).1
    omega
  | n + 1 => Aju S (Pn S n)
theorem Apg (S:Script l jobs):∀ n,(st l jobs n).t = n
  | 0 => rfl
  | n + 1 => by
    have d:=Apg S n
    show (Eg l jobs (st l jobs n)).t = _
    rcases Ka S (Pn S n) with ⟨_,h⟩ | ⟨r,a,h2,c,h⟩
    · rw [h];show (st l jobs n).t + 1 = _;omega
    · rw [h];show (st l jobs n).t + 1 = _;omega
theorem P6 (S:Script l jobs) {i:Nat} (hi:i < jobs.length) (n:Nat):dn l jobs i (n + 1) = dn l jobs i n + if who l jobs n = i then 1 else 0:=by
  show atI (Eg l jobs (st l jobs n)).done (i:Int) = atI (st l jobs n).done (i:Int) + if rsRuns l jobs (st l jobs n) = i then 1 else 0
  have a:=Pn S n
  rcases Ka S a with ⟨d,h⟩ | ⟨r,c,h2,f,h⟩
  · rw [h,d,if_neg (by omega)];show atI (st l jobs n).done (i:Int) = _;omega
  · rw [h,h2,Acc (by rw [a.dlen];exact c)]
    by_cases e:i = r
    · rw [if_pos e,if_pos (by omega),e]
    · rw [if_neg e,if_neg (by omega)];omega
theorem Aew {i:Nat} (hi:i < jobs.length):dn l jobs i 0 = 0:=Aj9 i hi
theorem Avc (S:Script l jobs) {i:Nat} (hi:i < jobs.length) (n:Nat):0 ≤ dn l jobs i n ∧ dn l jobs i n ≤ (jb jobs i).work:=(Pn S n).done i hi
theorem An5 (S:Script l jobs) {i:Nat} (hi:i < jobs.length) {m n:Nat} (h:m ≤ n):dn l jobs i m ≤ dn l jobs i n:=by
  induction n with
  | zero => have:m = 0:=by omega
            subst this;exact Int.le_refl _
  | succ n ih =>
    by_cases e:m = n + 1
    · subst e;exact Int.le_refl _
    · have:=ih (by omega)
      rw [P6 S hi n]
      split <;> omega
theorem Aps (S:Script l jobs) (n:Nat):(st l jobs (n + 1)).runs = who l jobs n:=by
  show (Eg l jobs (st l jobs n)).runs = rsRuns l jobs (st l jobs n)
  rcases Ka S (Pn S n) with ⟨a,h⟩ | ⟨r,d,h2,c,h⟩
  · rw [h,a]
  · rw [h,h2];rfl
theorem Acd (n:Nat):(0 ≤ (st l jobs n).runs ∧ A5 (atI jobs (st l jobs n).runs).cuts 0 (atI (st l jobs n).done (st l jobs n).runs) = true ∧ who l jobs n = (st l jobs n).runs) ∨ ((st l jobs n).runs < 0 ∨ A5 (atI jobs (st l jobs n).runs).cuts 0 (atI (st l jobs n).done (st l jobs n).runs) = false) ∧ who l jobs n = Bs l jobs (st l jobs n).done (st l jobs n).t jobs.length:=by
  unfold who rsRuns
  by_cases h:(st l jobs n).runs < 0 ∨ A5 (atI jobs (st l jobs n).runs).cuts 0 (atI (st l jobs n).done (st l jobs n).runs) = false
  · right;rw [if_pos h];exact ⟨h,rfl⟩
  · left
    rw [if_neg h]
    exact ⟨by omega,by cases hw:A5 (atI jobs (st l jobs n).runs).cuts 0 (atI (st l jobs n).done (st l jobs n).runs) with | true => rfl | false => exact absurd (.inr hw) h,rfl⟩
theorem Alh (S:Script l jobs):∀ {n i:Nat},who l jobs n = i → (jb jobs i).release ≤ n
  | 0,i,h => by
    rcases Acd (l:=l) (jobs:=jobs) 0 with ⟨a,_⟩ | ⟨_,h2⟩
    · simp [st,Cq] at a
    · rw [h2] at h
      have:=(Kd (l:=l) (jobs:=jobs) (done:=(st l jobs 0).done) (t:=(st l jobs 0).t) (n:=jobs.length) (by omega)).1
      rw [h] at this
      exact this
  | n + 1,i,h => by
    rcases Acd (l:=l) (jobs:=jobs) (n + 1) with ⟨a,_,c⟩ | ⟨_,h2⟩
    · rw [c,Aps S] at h
      have:=Alh S h;omega
    · rw [h2] at h
      have:=(Kd (l:=l) (jobs:=jobs) (done:=(st l jobs (n + 1)).done) (t:=(st l jobs (n + 1)).t) (n:=jobs.length) (by omega)).1
      rw [h,Apg S] at this
      exact this
structure A28 (l:List Ac) (jobs:List Job) (i n σ : Nat):Prop where
  lt:σ < n
  run:∀ k,σ ≤ k → k < n → who l jobs k = i
  best:∀ k,k < jobs.length → (jb jobs k).release ≤ σ → dn l jobs k σ < (jb jobs k).work → (atI l (jb jobs i).task).P ≤ (atI l (jb jobs k).task).P ∧ ((atI l (jb jobs i).task).P = (atI l (jb jobs k).task).P → i ≤ k)
  sec:∃ pre c post,(jb jobs i).cuts = pre ++ c :: post ∧ J9 pre = dn l jobs i σ ∧ J9 pre + (n - σ : Nat) = dn l jobs i n ∧ dn l jobs i n < J9 pre + c
end Go.L.Try
namespace Go.L.Try
open Go Go.L
variable {l:List Ac} {jobs:List Job}
theorem Yj (n:Nat):st l jobs (n + 1) = Eg l jobs (st l jobs n):=rfl
structure EndAt (l:List Ac) (jobs:List Job) (i e:Nat):Prop where
 pos:0 < e
 run:who l jobs (e - 1) = i
 fin:dn l jobs i (e - 1) + 1 = (jb jobs i).work
theorem EndAt.lt (S:Script l jobs) {i e:Nat} (h:EndAt l jobs i e) (hi:i < jobs.length) (n:Nat):dn l jobs i n = (jb jobs i).work ↔ e ≤ n:=by
 have c:=P6 S hi (e - 1)
 rw [if_pos h.run,show e - 1 + 1 = e by have:=h.pos;omega] at c
 have h2:=h.fin
 constructor
 ·intro a
  rcases Nat.lt_or_ge n e with h3 | h3
  ·have:=An5 S hi (show n ≤ e - 1 by omega);omega
  ·exact h3
 ·intro a
  have:=An5 S hi a
  have:=(Avc S hi n).2
  omega
theorem Aeu (S:Script l jobs) {i:Nat} (hi:i < jobs.length):∀ n,(dn l jobs i n < (jb jobs i).work → atI (st l jobs n).ends (i:Int) = -1) ∧ (dn l jobs i n = (jb jobs i).work → ∃ e:Nat,atI (st l jobs n).ends (i:Int) = e ∧ e ≤ n ∧ EndAt l jobs i e)
 | 0 => by
  have f:=(S.ok.work _ (D6 hi)).1
  rw [Aew hi]
  exact ⟨fun _ => Aj9 i hi,fun h => by omega⟩
 | n + 1 => by
  obtain ⟨m,h2⟩:=Aeu S hi n
  have p:=Pn S n
  have g:=P6 S hi n
  rcases Ka S p with ⟨s,h⟩ | ⟨r,t,j,u,h⟩
  ·have f:who l jobs n = -1:=s
   rw [f,if_neg (by omega)] at g
   rw [Yj,h]
   rw [Int.add_zero] at g
   rw [g]
   exact ⟨m,fun d => by obtain ⟨e,a,b,c⟩:=h2 d;exact ⟨e,a,by omega,c⟩⟩
  ·have f:who l jobs n = r:=j
   rw [Yj,h,Ao9 (by rw [p.elen];exact t)]
   by_cases e:i = r
   ·subst e
    rw [f,if_pos rfl] at g
    have v:atI (st l jobs n).done (i:Int) = dn l jobs i n:=rfl
    by_cases o:atI (st l jobs n).done (i:Int) + 1 = (jb jobs i).work
    ·rw [if_pos ⟨rfl,o⟩]
     refine ⟨fun d => by omega,fun _ => ⟨n + 1,by rw [Apg S];omega,Nat.le_refl _,by omega,by rw [Nat.add_sub_cancel];exact f,by rw [Nat.add_sub_cancel];omega⟩⟩
    ·rw [if_neg (fun d => o d.2)]
     exact ⟨fun _ => m (by omega),fun d => by omega⟩
   ·rw [if_neg (fun d => e d.1)]
    rw [f,if_neg (by omega),Int.add_zero] at g
    rw [g]
    exact ⟨m,fun d => by obtain ⟨x,a,b,c⟩:=h2 d;exact ⟨x,a,by omega,c⟩⟩
theorem Ayh (S:Script l jobs) {e:Int} (he:e < 0):∃ T,Bb l jobs e (Cq jobs.length) = st l jobs T ∧ ∀ i,i < jobs.length → dn l jobs i T = (jb jobs i).work:=by
 obtain ⟨h1,⟨T,h2⟩,h3⟩:=Pk (e:=e) S.ok (fun s => ∃ n,s = st l jobs n) (fun s _ _ ⟨n,c⟩ => ⟨n + 1,by rw [c];rfl⟩) (Mr jobs S.ok.work) ⟨0,rfl⟩
 refine ⟨T,h2,fun i a => ?_⟩
 have d:¬ 0 < (Bb l jobs e (Cq jobs.length)).left:=fun h => h3 ⟨h,.inl he⟩
 have f:=(Avc S a T).2
 rcases Int.lt_or_le (dn l jobs i T) (jb jobs i).work with h4 | h4
 ·exfalso
  apply d
  refine R0 h1 a ?_
  rw [h2];exact h4
 ·omega
theorem Arl (S:Script l jobs) {e:Int}:∃ T,Bb l jobs e (Cq jobs.length) = st l jobs T ∧ (¬ Nr e (st l jobs T)) ∧ (0 ≤ e → (T:Int) ≤ e):=by
 obtain ⟨h1,⟨T,h2,c⟩,h3⟩:=Pk (e:=e) S.ok (fun s => ∃ n,s = st l jobs n ∧ (0 ≤ e → (n:Int) ≤ e)) (fun s _ ho ⟨n,a,d⟩ => ⟨n + 1,by rw [a];rfl,fun f => by have:=ho.2;rw [a,Apg S] at this;omega⟩) (Mr jobs S.ok.work) ⟨0,rfl,fun h => h⟩
 exact ⟨T,h2,by rw [← h2];exact h3,c⟩
def Zf (L:List Span) (k:Int):Int:=L.foldr (fun x a => (if x.job = k then x.to' - x.from' else 0) + a) 0
theorem Wi (k:Int):Zf [] k = 0:=rfl
theorem Mo (x:Span) (L:List Span) (k:Int):Zf (x :: L) k = (if x.job = k then x.to' - x.from' else 0) + Zf L k:=rfl
theorem Wj (A B:List Span) (k:Int):Zf (A ++ B) k = Zf A k + Zf B k:=by
 induction A with
 | nil => simp [Wi]
 | cons x r ih => rw [List.cons_append,Mo,Mo,ih];omega
theorem Ap6 {α : Type} [Inhabited α] {L:List α} (h:0 < (L.length:Int)):∃ A x,L = A ++ [x] ∧ atI L ((L.length:Int) - 1) = x ∧ ∀ y,L.set ((L.length:Int) - 1).toNat y = A ++ [y]:=by
 rcases List.eq_nil_or_concat L with e | ⟨A,x,e⟩
 ·rw [e] at h;simp at h
 ·rw [List.concat_eq_append] at e
  subst e
  refine ⟨A,x,rfl,Abf A x,fun y => ?_⟩
  rw [LA,List.length_singleton,show (((A.length + 1:Nat):Int) - 1).toNat = A.length by omega,List.set_append_right _ _ (Nat.le_refl _),Nat.sub_self];rfl
theorem Acb (L:List Span) (r t:Int):(∃ A x,L = A ++ [x] ∧ x.job = r ∧ x.to' = t ∧ D0 L r t = A ++ [{ x with to':=x.to' + 1 }]) ∨ ((∀ A x,L = A ++ [x] → ¬ (x.job = r ∧ x.to' = t)) ∧ D0 L r t = L ++ [⟨r,t,t + 1⟩]):=by
 unfold D0
 by_cases a:0 < (L.length:Int) ∧ (atI L ((L.length:Int) - 1)).job = r ∧ (atI L ((L.length:Int) - 1)).to' = t
 ·left
  rw [if_pos a]
  obtain ⟨A,x,c,h2,d⟩:=Ap6 a.1
  rw [h2] at a ⊢
  exact ⟨A,x,c,a.2.1,a.2.2,d _⟩
 ·right
  rw [if_neg a]
  refine ⟨fun A x h => ?_,rfl⟩
  rintro ⟨c,h2⟩
  apply a
  subst h
  rw [Abf]
  exact ⟨by simp,c,h2⟩
structure A2v (l:List Ac) (jobs:List Job) (n:Nat) (L:List Span):Prop where
 run:∀ x ∈ L,∃ j a b:Nat,x = ⟨j,a,b⟩ ∧ a < b ∧ b ≤ n ∧ ∀ k,a ≤ k → k < b → who l jobs k = j
 sort:L.Pairwise fun x y => x.to' ≤ y.from'
 apart:L.Pairwise fun x y => x.to' = y.from' → x.job ≠ y.job
 all:∀ k:Nat,k < n → 0 ≤ who l jobs k → ∃ x ∈ L,x.from' ≤ k ∧ (k:Int) < x.to'
 sum:∀ k:Nat,k < jobs.length → Zf L k = dn l jobs k n
theorem Ayl (S:Script l jobs):∀ n,A2v l jobs n (st l jobs n).L
 | 0 => ⟨(fun x hx => by cases hx),List.Pairwise.nil,List.Pairwise.nil,(fun k d => by omega),fun k d => by rw [Aew d];rfl⟩
 | n + 1 => by
  have c:=Ayl S n
  have hv:=Pn S n
  rcases Ka S hv with ⟨h0,h⟩ | ⟨r,hr,a2,a6,h⟩
  ·have s:who l jobs n = -1:=h0
   rw [Yj,h]
   refine ⟨fun x hx => ?_,c.sort,c.apart,fun k d f => ?_,fun k d => ?_⟩
   ·obtain ⟨j,a,b,e,u,h2,o⟩:=c.run x hx
    exact ⟨j,a,b,e,u,by omega,o⟩
   ·by_cases e:k = n
    ·subst e;omega
    ·exact c.all k (by omega) f
   ·rw [P6 S d,s,if_neg (by omega),Int.add_zero];exact c.sum k d
  ·have s:who l jobs n = r:=a2
   rw [Yj,h]
   have eL:(Kb jobs (st l jobs n) r).L = D0 (st l jobs n).L r n:=by show D0 _ _ (st l jobs n).t = _;rw [Apg S]
   rw [eL]
   generalize (st l jobs n).L = L at c ⊢
   have a0:∀ x ∈ L,x.to' ≤ n:=fun x hx => by
    obtain ⟨j,a,b,e,u,h2,o⟩:=c.run x hx
    rw [e];dsimp only;omega
   rcases Acb L r n with ⟨A,x,hL,a3,a4,he⟩ | ⟨a5,he⟩
   ·rw [he]
    subst hL
    obtain ⟨j,a,b,e,u,h2,o⟩:=c.run x (by simp)
    subst e
    dsimp only at a3 a4
    have hb:b = n:=by omega
    subst hb
    have hj:j = r:=by omega
    subst hj
    have v:=List.pairwise_append.1 c.sort
    have hp:=List.pairwise_append.1 c.apart
    refine ⟨fun y hy => ?_,?_,?_,fun k d f => ?_,fun k d => ?_⟩
    ·rcases List.mem_append.1 hy with hy | hy
     ·obtain ⟨j',a',b',e',m,a1,g⟩:=c.run y (by simp [hy])
      exact ⟨j',a',b',e',m,by omega,g⟩
     ·rw [List.mem_singleton.1 hy]
      refine ⟨j,a,b + 1,by simp,by omega,Nat.le_refl _,fun k k1 k2 => ?_⟩
      by_cases e:k = b
      ·rw [e];exact s
      ·exact o k k1 (by omega)
    ·refine List.pairwise_append.2 ⟨v.1,List.pairwise_singleton _ _,fun y hy z p => ?_⟩
     rw [List.mem_singleton.1 p]
     exact v.2.2 y hy ⟨j,a,b⟩ (List.mem_singleton.2 rfl)
    ·refine List.pairwise_append.2 ⟨hp.1,List.pairwise_singleton _ _,fun y hy z p => ?_⟩
     rw [List.mem_singleton.1 p]
     exact hp.2.2 y hy ⟨j,a,b⟩ (List.mem_singleton.2 rfl)
    ·by_cases e:k = b
     ·subst e
      exact ⟨_,List.mem_append_right _ (List.mem_singleton.2 rfl),by dsimp only;omega,by dsimp only;omega⟩
     ·obtain ⟨y,hy,q1,q2⟩:=c.all k (by omega) f
      rcases List.mem_append.1 hy with hy | hy
      ·exact ⟨y,List.mem_append_left _ hy,q1,q2⟩
      ·rw [List.mem_singleton.1 hy] at q1 q2
       exact ⟨_,List.mem_append_right _ (List.mem_singleton.2 rfl),q1,by dsimp only at q2 ⊢;omega⟩
    ·rw [P6 S d,← c.sum k d,Wj,Wj,Mo,Mo,Wi,s]
     dsimp only
     by_cases e:(j:Int) = k
     ·rw [if_pos e,if_pos e,if_pos (by omega)];omega
     ·rw [if_neg e,if_neg e,if_neg (by omega)];omega
   ·rw [he]
    refine ⟨fun y hy => ?_,?_,?_,fun k d f => ?_,fun k d => ?_⟩
    ·rcases List.mem_append.1 hy with hy | hy
     ·obtain ⟨j',a',b',e',m,a1,g⟩:=c.run y hy
      exact ⟨j',a',b',e',m,by omega,g⟩
     ·rw [List.mem_singleton.1 hy]
      exact ⟨r,n,n + 1,by simp,by omega,Nat.le_refl _,fun k k1 k2 => by rw [show k = n by omega];exact s⟩
    ·refine List.pairwise_append.2 ⟨c.sort,List.pairwise_singleton _ _,fun y hy z p => ?_⟩
     rw [List.mem_singleton.1 p]
     exact a0 y hy
    ·refine List.pairwise_append.2 ⟨c.apart,List.pairwise_singleton _ _,fun y hy z p => ?_⟩
     rw [List.mem_singleton.1 p]
     dsimp only
     intro u h2
     rcases List.eq_nil_or_concat L with e | ⟨A,x,e⟩
     ·rw [e] at hy;cases hy
     ·rw [List.concat_eq_append] at e
      have v:=c.sort
      rw [e] at hy v
      rcases List.mem_append.1 hy with hy | hy
      ·have o:=(List.pairwise_append.1 v).2.2 y hy x (List.mem_singleton.2 rfl)
       obtain ⟨j',a',b',e',m,a1,g⟩:=c.run x (by rw [e];simp)
       have h4:=a0 x (by rw [e];simp)
       rw [e'] at o h4
       dsimp only at o h4
       omega
      ·rw [List.mem_singleton.1 hy] at u h2
       exact a5 A x e ⟨h2,u⟩
    ·by_cases e:k = n
     ·subst e
      exact ⟨_,List.mem_append_right _ (List.mem_singleton.2 rfl),by dsimp only;omega,by dsimp only;omega⟩
     ·obtain ⟨y,hy,q1,q2⟩:=c.all k (by omega) f
      exact ⟨y,List.mem_append_left _ hy,q1,q2⟩
    ·rw [P6 S d,← c.sum k d,Wj,Mo,Wi,s]
     dsimp only
     by_cases e:(r:Int) = k
     ·rw [if_pos e,if_pos e];omega
     ·rw [if_neg e,if_neg e];omega
structure A2w (l:List Ac) (jobs:List Job) (R:RS) (T:Nat):Prop where
 is:R = st l jobs T
 done:∀ i,i < jobs.length → dn l jobs i T = (jb jobs i).work
 sp:A2v l jobs T R.L
 elen:R.ends.length = jobs.length
 ends:∀ i,i < jobs.length → ∃ e:Nat,atI R.ends (i:Int) = e ∧ e ≤ T ∧ EndAt l jobs i e
theorem Az6 (S:Script l jobs) {e:Int} (he:e < 0):∃ T,A2w l jobs (Bb l jobs e (Cq jobs.length)) T:=by
 obtain ⟨T,c,h2⟩:=Ayh S he
 rw [c]
 exact ⟨T,rfl,h2,Ayl S T,(Pn S T).elen,fun i a => (Aeu S a T).2 (h2 i a)⟩
end Go.L.Try
namespace Go.L.Try
open Go Go.L
variable {l:List Ac} {jobs:List Job} {R:RS} {T:Nat}
theorem Azf (S:Script l jobs) {i:Nat} (hi:i < jobs.length):∀ n:Nat,dn l jobs i n ≤ max 0 (n - (jb jobs i).release)
 | 0 => by rw [Aew hi];omega
 | n + 1 => by
  have c:=Azf S hi n
  have a:=P6 S hi n
  by_cases e:who l jobs n = i
  ·have:=Alh S e
   rw [if_pos e] at a;omega
  ·rw [if_neg e] at a;omega
theorem EndAt.late (S:Script l jobs) {i e:Nat} (h:EndAt l jobs i e) (hi:i < jobs.length):(jb jobs i).release + (jb jobs i).work ≤ e:=by
 have a:=(h.lt S hi e).2 (Nat.le_refl _)
 have h2:=Azf S hi e
 have:=(S.ok.work _ (D6 hi)).1
 omega
end Go.L.Try
namespace Go.L.Try
open Go Go.L
theorem RdJ.open_ {h:Aa} {v:Value} {jobs:List Job} (r:RdJ h v jobs):∃ jl:List (NV Job),jobs = jl.map NV.j ∧ Rd 5 (Du hdJ) h v jl:=by
 obtain ⟨jl,a,h2,_⟩:=r.is
 exact ⟨jl,a.symm,h2⟩
end Go.L.Try
namespace Go.L.Try
open Go Go.L
structure Mid (t:Ac):Prop where
 C:1 ≤ t.C ∧ t.C ≤ 134217728
 T:1 ≤ t.T ∧ t.T ≤ 1073741824
 J:0 ≤ t.J ∧ t.J ≤ 536870912
end Go.L.Try
set_option maxHeartbeats 2000000
namespace Go.L.Try
open Go Go.L
variable {l:List Ac} {jobs:List Job} {i:Nat}
theorem Aex (hb:legalB l jobs = true) {e:Int} (he:0 ≤ e) {k x:Nat} (hk:k < jobs.length) (hx:EndAt l jobs k x):(T3 l jobs e).ends.length = jobs.length ∧ atI (T3 l jobs e).ends (k:Int) = if (x:Int) ≤ e then (x:Int) else -1:=by
 have S:=Sx hb
 have p:T3 l jobs e = Bb l jobs e (Cq jobs.length):=by
  unfold T3;rw [if_pos hb,show max e 0 = e by omega]
 obtain ⟨T,j,h2,n⟩:=Arl S (e:=e)
 rw [p,j]
 refine ⟨(Pn S T).elen,?_⟩
 have r:=n he
 have a:=Aeu S hk T
 have t:=(Avc S hk T).2
 by_cases d:(x:Int) ≤ e
 ·rw [if_pos d]
  have c:dn l jobs k T = (jb jobs k).work:=by
   rcases Int.lt_or_le 0 (st l jobs T).left with hl | hl
   ·have s:¬ (T:Int) < e:=fun h => h2 ⟨hl,.inr (by rw [Apg S];exact h)⟩
    exact (hx.lt S hk T).2 (by omega)
   ·rcases Int.lt_or_le (dn l jobs k T) (jb jobs k).work with h4 | h4
    ·exfalso
     have g:=(Pk (e:=e) S.ok (fun _ => True) (fun _ _ _ _ => trivial) (Mr jobs S.ok.work) trivial).1
     rw [j] at g
     have:=R0 g hk h4
     omega
    ·omega
  obtain ⟨m,o,_,f⟩:=a.2 c
  have u:=(f.lt S hk x).1 ((hx.lt S hk x).2 (Nat.le_refl _))
  have v:=(hx.lt S hk m).1 ((f.lt S hk m).2 (Nat.le_refl _))
  rw [o];omega
 ·rw [if_neg d]
  refine a.1 ?_
  rcases Int.lt_or_le (dn l jobs k T) (jb jobs k).work with h4 | h4
  ·exact h4
  ·exfalso
   have:=(hx.lt S hk T).1 (by omega)
   omega
theorem Akv (hb:legalB l jobs = true) {k:Nat} (hk:k < jobs.length):∃ x,EndAt l jobs k x:=by
 obtain ⟨T,r⟩:=Az6 (Sx hb) (e:=-1) (by decide)
 obtain ⟨x,_,_,h⟩:=r.ends k hk
 exact ⟨x,h⟩
theorem Yu:(A9 l (i:Int)).length < (Bg l (i:Int)).length ∧ jb (Bg l (i:Int)) (A9 l (i:Int)).length = Cf l (i:Int) :=
 ⟨by unfold Bg;simp,Axt⟩
theorem Aqp (hv:F7 l) (hl:∀ t ∈ l,Mid t) (hi:i < l.length) {j:Job} (hj:j ∈ Bg l i):1 ≤ j.work ∧ j.work ≤ 134217728:=by
 obtain ⟨_,_,a⟩:=By hv
 have one:∀ k:Int,0 ≤ k → k < l.length → (1 ≤ (atI l k).C ∧ (atI l k).C ≤ 134217728) ∧ 1 ≤ (atI l k).Q ∧ (atI l k).Q ≤ (atI l k).C:=fun k f c => by
  have d:=Al f c
  obtain ⟨e,g⟩:=a _ d
  simp only [Am,C9] at e g
  exact ⟨(hl _ d).C,by omega,by omega⟩
 rcases Adi hj with ⟨c,rfl⟩ | rfl | ⟨h,k,c,_,_,rfl⟩
 ·have:=(V6 (i:=(i:Int)) a l.length (Nat.le_refl _)).2 c
  have:=one _ this.1.1 this.1.2
  dsimp only;omega
 ·have:=one (i:Int) (by omega) (by omega)
  show 1 ≤ (atI l (i:Int)).C ∧ (atI l (i:Int)).C ≤ 134217728;omega
 ·have:=one (h:Int) (by omega) (by omega)
  dsimp only;omega
theorem Aip (hv:F7 l) (hl:∀ t ∈ l,Mid t) (hi:i < l.length) (hf:(Bg l i).length ≤ 4096):Ev (Bg l i) ≤ 1099511627776:=by
 have:=Ajq (jobs:=Bg l i) (k:=134217728) fun j a => (Aqp hv hl hi a).2
 omega
end Go.L.Try
set_option maxHeartbeats 8000000
namespace Go.L.Try
open Go Go.L
variable {E:Env} {G:Nat}
def Lx (l:List Ac) (i:Nat):RS:=T3 l (Bg l i) ((Cf l i).arrive + (atI l (i:Int)).D)
def PlayR (m:Nat) (R:RS) (a arr:Int) (h:Aa) (v:Value):Prop:=∃ vs,v = .tuple vs.toArray ∧ Each h [fun h v => RdM m 3 Nt h v R.L,fun _ v => v = .int .i64 a,fun _ v => v = .int .i64 arr,fun _ v => v = .int .i64 0] vs
theorem PlayR.movable {m:Nat} (R:RS) (a arr:Int):Movable m (PlayR m R a arr) 2 :=
 Movable.tuples (k:=1) (fun R hR => by
  simp only [List.mem_cons,List.not_mem_nil,or_false] at hR
  rcases hR with rfl | rfl | rfl | rfl
  ·exact RdM.movable Ah9 _
  ·exact El rfl
  ·exact El rfl
  ·exact El rfl) (by simp)
theorem A1r (hE:As E) (hZ:G6 E G) {h:Aa} (ht:Tab G h) {vl:Value} {l:List Ac} (hl:Rd 7 Ar h vl l) (hs:∀ t ∈ l,t.name.size < 1152921504606846976) {i:Nat} (hv:F7 l) (hm:∀ t ∈ l,Mid t) (hi:i < l.length) (few:(Bg l i).length ≤ 4096) :
  ∃ v ys,callW E (.func (.func Iz) #[] #[]) [vl,.int .i64 i] h = some (v,h ++ ys,[]) ∧ PlayR h.length (Lx l i) (atI (Lx l i).ends (A9 l i).length) (Cf l i).arrive (h ++ ys) v:=by
 refine Lk hE.Afn rfl (PlayR.movable _ _ _) (by simp) ?_
 obtain ⟨d,o⟩:=Yu (l:=l) (i:=i)
 obtain ⟨_,a0,x⟩:=By hv
 have a6:=x _ (Al (l:=l) (i:=(i:Int)) (by omega) (by omega))
 obtain ⟨a1,a4⟩:=a6
 simp only [Am,C9] at a1 a4
 have a5:=(Fv (i:=(i:Int)) x ⟨by omega,by omega⟩ l.length (Nat.le_refl _)).1
 have a3:(Cf l i).arrive = startP l i - (atI l (i:Int)).J:=rfl
 have a2:startP l i = 1 + mostJ l i l.length:=rfl
 have ha:1 ≤ (Cf l i).arrive ∧ (Cf l i).arrive ≤ 2147483648:=by omega
 have hD:1 ≤ (atI l (i:Int)).D ∧ (atI l (i:Int)).D ≤ 2147483647:=by omega
 obtain ⟨ai,ab⟩:=ha
 obtain ⟨a9,ah⟩:=hD
 have n:=Aip hv hm hi few
 have a:=(Aex (P7 hv hi few) (e:=(Cf l i).arrive + (atI l (i:Int)).D) (by omega) d (Akv (P7 hv hi few) d).choose_spec).1
 clear a1 a4 a5 a3 a2 a0 x
 simp only [Ai]
 have ae:=hl.cv
 have aj:=hl.one
 have ag:(i:Int) < l.length:=by omega
 (repeat' simp -dsimp (disch:=omega) only [↓EA,EB,Nat.reduceEqDiff,↓reduceIte,reduceCtorEq,eq_self, *])
 refine Gi (Aqn hE hZ ht hl hs hv hi few) fun v2 ys r2 p2 => ?_
 obtain ⟨vj,rfl,rj⟩:=(by
  obtain ⟨vs,rfl,hv⟩:=r2
  rcases hv with _ | ⟨f,_ | ⟨p,_ | ⟨rc,_ | _⟩⟩⟩
  subst p;subst rc
  exact ⟨_,rfl,f⟩:∃ v1,v2 = .tuple #[v1,.int .i64 ((A9 l i).length:Int),.int .i64 0] ∧ RdNO h.length 5 hdJ Job.cuts (h ++ ys) v1 (Bg l i))
 have m:=rj.rd
 obtain ⟨jl,c,g⟩:=RdJ.open_ m
 have y:jl.length = (Bg l i).length:=by rw [c,List.length_map]
 have a8:(atI jl ((A9 l i).length:Int)).j = Cf l i:=by
  rw [← o]
  show _ = atI (Bg l i) _
  rw [c,← G5 NV.j jl _ (by omega) (by rw [y];omega)]
 have a7:((A9 l i).length:Int) < jl.length:=by rw [y];omega
 have rl:=hl.pre p2
 have z:=Azp hE rl hs m (by omega) n (e:=(Cf l i).arrive + (atI l (i:Int)).D) (by unfold Mw;omega)
 have aa:=g.cv
 have ac:=g.one
 have ad:=Rd.nt g
 have bb:=p2.le
 have HU:=Hid.mk z
 have Hh:=Hid.mk (AI a (AI d c))
 clear z r2 rj m a d c n
 generalize h ++ ys = H1 at *
 generalize (A9 l i).length = at' at *
 generalize hsj:Cf l i = sj at *
 (repeat' simp -dsimp (disch:=omega) only [↓EA,EB,Nat.reduceEqDiff,↓reduceIte,reduceCtorEq,eq_self, *,g.ixs,g.ld,rl.ixs,rl.ld,Ar,Du,hdJ])
 refine Gi HU.out fun v3 s r3 p3 => ?_
 obtain ⟨va,vb,rfl,f,p⟩:=(by
  obtain ⟨vs,rfl,hv⟩:=r3
  rcases hv with _ | ⟨f,_ | ⟨p,_ | _⟩⟩
  exact ⟨_,_,rfl,f,p⟩:∃ va vb,v3 = .tuple #[va,vb] ∧ RdM H1.length 3 Nt (H1 ++ s) va (T3 l (Bg l i) (sj.arrive + (atI l (i:Int)).D)).L ∧ RdM H1.length 1 D7 (H1 ++ s) vb (T3 l (Bg l i) (sj.arrive + (atI l (i:Int)).D)).ends)
 have r:Lx l i = T3 l (Bg l i) (sj.arrive + (atI l (i:Int)).D):=by unfold Lx;rw [hsj]
 rw [r]
 have na:=Rd.nt f.1
 have nb:=Rd.nt p.1
 have oa:=f.1.one
 have ca:=f.1.cv
 have u:=p.1
 obtain ⟨a,d,c⟩:=Hh.out
 rw [← r] at u
 have af:(at':Int) < (Lx l i).ends.length:=by rw [r,a];omega
 have Ra:=Hid.mk (AI f p3)
 clear f p a d r3 HU Hh p3 c
 generalize H1 ++ s = H2 at *
 (repeat' simp -dsimp (disch:=omega) only [↓EA,EB,Nat.reduceEqDiff,↓reduceIte,reduceCtorEq,eq_self, *,u.ixs,u.ld0,D7])
 obtain ⟨f,p3⟩:=Ra.out
 exact ⟨(p2.trans p3).ex,_,rfl,.cons ⟨f.1,fun hn => Nat.le_trans bb (f.2 hn)⟩ (.cons rfl (.cons rfl (.cons rfl .nil)))⟩
end Go.L.Try
