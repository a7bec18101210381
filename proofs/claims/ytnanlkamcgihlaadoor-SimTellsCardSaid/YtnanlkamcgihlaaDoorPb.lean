/- JOBS: cadencyref08.last, Few, Decode. -/
import Derived.Test.YtnanlkamcgihlaaDoorPa
import Derived.Test.YtnanlkamcgihlaaDoorVc
set_option linter.unusedVariables false
set_option linter.unusedSimpArgs false
set_option maxRecDepth 4000
set_option maxHeartbeats 1000000
namespace Go.L.Try
open Go Go.L
variable {E:Env}
end Go.L.Try
set_option maxRecDepth 100000
namespace Go.L.Try
open Go Go.L
variable {E:Env}
end Go.L.Try
set_option maxHeartbeats 2000000
namespace Go.L.Try
open Go Go.L
def Dc (q:Int):List Int → Int → Bool
 | [],_ => true
 | c :: r,left => decide (1 ≤ c ∧ c ≤ q ∧ c ≤ left) && Dc q r (left - c)
def Ec (l:List Ac) (jobs:List Job) (i:Nat):Prop :=
 let j:=atI jobs (i:Int)
 let t:=atI l j.task
 let k:=Cz jobs j.task i
 (0 ≤ j.task ∧ j.task < l.length) ∧ (0 ≤ j.arrive ∧ j.arrive ≤ 17592186044416) ∧ (0 ≤ k → (atI jobs k).arrive + t.T ≤ j.arrive) ∧ j.arrive ≤ j.release ∧ j.release ≤ j.arrive + t.J ∧ 1 ≤ j.work ∧ j.work ≤ t.C
instance (l:List Ac) (jobs:List Job) (i:Nat):Decidable (Ec l jobs i):=by unfold Ec;dsimp only;infer_instance
def E7 (l:List Ac) (jobs:List Job) (i:Nat):Bool:=decide (Ec l jobs i) && Dc (atI l (atI jobs (i:Int)).task).Q (atI jobs (i:Int)).cuts (atI jobs (i:Int)).work
def Ib (l:List Ac) (jobs:List Job):Nat → Bool
 | 0 => true
 | n + 1 => Ib l jobs n && E7 l jobs n
def legalB (l:List Ac) (jobs:List Job):Bool:=decide ((Bz l).2 = 0 ∧ jobs.length ≤ 4096) && Ib l jobs jobs.length
theorem Sp {l:List Ac} {jobs:List Job}:∀ {n:Nat},Ib l jobs n = true → ∀ i,i < n → E7 l jobs i = true
 | 0,_,i,hi => by omega
 | n + 1,h,i,hi => by
  simp only [Ib,Bool.and_eq_true] at h
  rcases Nat.lt_or_ge i n with h1 | h1
  ·exact Sp h.1 i h1
  ·have:i = n:=by omega
   subst this;exact h.2
theorem Aq8 {l:List Ac} {jobs:List Job} {n i:Nat} (hi:i < n) (h:E7 l jobs i = false):Ib l jobs n = false:=by
 cases hc:Ib l jobs n
 ·rfl
 ·rw [Sp hc i hi] at h;cases h
theorem Aaj {jobs:List Job} {task:Int}:∀ {k i:Nat},k ≤ i → Cz (jobs.take i) task k = Cz jobs task k
 | 0,i,_ => rfl
 | k + 1,i,h => by
  have e:atI (jobs.take i) (k:Int) = atI jobs (k:Int):=by
   unfold atI
   rw [List.getD_eq_getElem?_getD,List.getD_eq_getElem?_getD,List.getElem?_take,if_pos (by omega)]
  simp only [Cz,e,Aaj (k:=k) (by omega:k ≤ i)]
theorem Mv {jobs:List Job} {task:Int}:∀ {n:Nat},0 ≤ Cz jobs task n → (atI jobs (Cz jobs task n)).task = task
 | 0,h => by simp [Cz] at h
 | n + 1,h => by
  unfold Cz at h ⊢
  split
  ·assumption
  ·rename_i a;rw [if_neg a] at h;exact Mv h
end Go.L.Try
namespace Go.L.Try
open Go Go.L
def A5:List Int → Int → Int → Bool
 | [],_,_ => false
 | c :: r,a,d => decide (a < d ∧ d < a + c) || A5 r (a + c) d
def Bs (l:List Ac) (jobs:List Job) (done:List Int) (t:Int):Nat → Int
| 0 => -1
| n+1 => if (atI jobs n).release ≤ t ∧ atI done n < (atI jobs n).work ∧ (Bs l jobs done t n < 0 ∨ (atI l (atI jobs n).task).P < (atI l (atI jobs (Bs l jobs done t n)).task).P) then n else Bs l jobs done t n
theorem O2 (l:List Ac) (jobs:List Job) (done:List Int) (t:Int):∀ n,-1 ≤ Bs l jobs done t n ∧ Bs l jobs done t n < n
| 0 => by simp [Bs]
| n+1 => by have:=O2 l jobs done t n;unfold Bs;split <;> omega
end Go.L.Try
namespace Go.L.Try
open Go Go.L
def Dq (f:Nat → Int):Nat → Int
 | 0 => 0
 | n + 1 => Dq f n + f n
theorem Sw {f g:Nat → Int}:∀ {n:Nat},(∀ i,i < n → g i = f i) → Dq g n = Dq f n
 | 0,_ => rfl
 | n + 1,h => by simp only [Dq];rw [Sw (n:=n) fun i a => h i (by omega),h n (by omega)]
theorem Y9 {f g:Nat → Int} {r:Nat}:∀ {n:Nat},(∀ i,i ≠ r → g i = f i) → r < n → Dq g n = Dq f n + (g r - f r)
 | 0,_,h => by omega
 | n + 1,h,hr => by
  simp only [Dq]
  by_cases e:r = n
  ·subst e
   rw [Sw (f:=f) (g:=g) fun i a => h i (by omega)];omega
  ·rw [Y9 h (by omega),h n (fun h => e h.symm)];omega
theorem Pm {f g:Nat → Int}:∀ {n:Nat},(∀ i,i < n → f i ≤ g i) → Dq f n ≤ Dq g n
 | 0,_ => Int.le_refl _
 | n + 1,h => by have:=Pm (n:=n) fun i a => h i (by omega);have:=h n (by omega);simp only [Dq];omega
theorem Wh:∀ {n:Nat},Dq (fun _ => 0) n = 0
 | 0 => rfl
 | n + 1 => by simp only [Dq,Wh (n:=n)];rfl
theorem Xk {f:Nat → Int} {n:Nat} (h:∀ i,i < n → 0 ≤ f i):0 ≤ Dq f n:=by
 have:=Pm (f:=fun _ => 0) (g:=f) (n:=n) h;rw [Wh] at this;exact this
theorem Za {f:Nat → Int}:∀ {n:Nat},0 < Dq f n → ∃ i,i < n ∧ 0 < f i
 | 0,h => by simp [Dq] at h
 | n + 1,h => by
  simp only [Dq] at h
  by_cases e:0 < f n
  ·exact ⟨n,by omega,e⟩
  ·obtain ⟨i,c,a⟩:=Za (f:=f) (n:=n) (by omega);exact ⟨i,by omega,a⟩
theorem Te {α : Type} [Inhabited α] {l:List α} {r:Nat} {x:α} (hr:r < l.length) (i:Nat):atI (l.set r x) (i:Int) = if i = r then x else atI l (i:Int):=by
 unfold atI
 rw [List.getD_eq_getElem?_getD,List.getD_eq_getElem?_getD,show ((i:Int)).toNat = i by omega,List.getElem?_set]
 by_cases e:i = r
 ·subst e;simp [hr]
 ·rw [if_neg (fun h => e h.symm),if_neg e]
structure RS where
 t:Int
 runs:Int
 done:List Int
 ends:List Int
 left:Int
 L:List Span
def rsRuns (l:List Ac) (jobs:List Job) (s:RS):Int :=
 if s.runs < 0 ∨ A5 (atI jobs s.runs).cuts 0 (atI s.done s.runs) = false then Bs l jobs s.done s.t jobs.length else s.runs
def D0 (L:List Span) (r t:Int):List Span :=
 if 0 < (L.length:Int) ∧ (atI L ((L.length:Int) - 1)).job = r ∧ (atI L ((L.length:Int) - 1)).to' = t then L.set ((L.length:Int) - 1).toNat { atI L ((L.length:Int) - 1) with to':=(atI L ((L.length:Int) - 1)).to' + 1 } else L ++ [⟨r,t,t + 1⟩]
def Kb (jobs:List Job) (s:RS) (r:Int):RS :=
 {t:=s.t + 1,runs:=r,done:=s.done.set r.toNat (atI s.done r + 1),L:=D0 s.L r s.t,
  ends:=if atI s.done r + 1 = (atI jobs r).work then s.ends.set r.toNat (s.t + 1) else s.ends,
  left:=if atI s.done r + 1 = (atI jobs r).work then s.left - 1 else s.left }
def Eg (l:List Ac) (jobs:List Job) (s:RS):RS :=
 if rsRuns l jobs s < 0 then { s with t:=s.t + 1,runs:=rsRuns l jobs s } else Kb jobs s (rsRuns l jobs s)
def Nr (e:Int) (s:RS):Prop:=0 < s.left ∧ (e < 0 ∨ s.t < e)
instance (e:Int) (s:RS):Decidable (Nr e s):=by unfold Nr;infer_instance
def Xp (l:List Ac) (jobs:List Job) (e:Int):Nat → RS → RS
 | 0,s => s
 | n + 1,s => if Nr e s then Xp l jobs e n (Eg l jobs s) else s
def Cq (n:Nat):RS:=⟨0,-1,List.replicate n 0,List.replicate n (-1),n,[]⟩
def Eb:Int:=17594333528064
structure Nq (l:List Ac) (jobs:List Job):Prop where
 task:∀ j ∈ jobs,0 ≤ j.task ∧ j.task < l.length
 rel:∀ j ∈ jobs,0 ≤ j.release ∧ j.release < Eb
 work:∀ j ∈ jobs,1 ≤ j.work ∧ j.work ≤ 2147483647
 cuts:∀ j ∈ jobs,∃ q,Dc q j.cuts j.work = true
structure RsInv (jobs:List Job) (s:RS):Prop where
 dlen:s.done.length = jobs.length
 elen:s.ends.length = jobs.length
 t0:0 ≤ s.t
 t1:s.t ≤ Eb + Dq (fun i => atI s.done (i:Int)) jobs.length
 runs:-1 ≤ s.runs ∧ s.runs < jobs.length
 done:∀ i:Nat,i < jobs.length → 0 ≤ atI s.done (i:Int) ∧ atI s.done (i:Int) ≤ (atI jobs (i:Int)).work
 left:s.left = Dq (fun i => if atI s.done (i:Int) < (atI jobs (i:Int)).work then 1 else 0) jobs.length
 L:(s.L.length:Int) ≤ Dq (fun i => atI s.done (i:Int)) jobs.length
def Ev (jobs:List Job):Int:=Dq (fun i => (atI jobs (i:Int)).work) jobs.length
def Eh (jobs:List Job) (s:RS):Nat:=(Eb - s.t).toNat + (Ev jobs - Dq (fun i => atI s.done (i:Int)) jobs.length).toNat
theorem RsInv.sum {jobs:List Job} {s:RS} (h:RsInv jobs s):0 ≤ Dq (fun i => atI s.done (i:Int)) jobs.length ∧ Dq (fun i => atI s.done (i:Int)) jobs.length ≤ Ev jobs :=
 ⟨Xk fun i hi => (h.done i hi).1,Pm fun i hi => (h.done i hi).2⟩
theorem Zb:∀ n:Nat,Dq (fun _ => 1) n = n
 | 0 => rfl
 | n + 1 => by simp only [Dq,Zb n];omega
theorem RsInv.left_le {jobs:List Job} {s:RS} (h:RsInv jobs s):s.left ≤ jobs.length:=by
 rw [h.left,← Zb]
 exact Pm fun i _ => by split <;> omega
theorem Mr (jobs:List Job) (hw:∀ j ∈ jobs,1 ≤ j.work ∧ j.work ≤ 2147483647):RsInv jobs (Cq jobs.length):=by
 have c:∀ i:Nat,i < jobs.length → atI (List.replicate jobs.length (0:Int)) (i:Int) = 0:=fun i a => by
  rw [B8 (by simpa using a)];simp
 have d:Dq (fun i => atI (List.replicate jobs.length (0:Int)) (i:Int)) jobs.length = 0:=by
  rw [Sw (f:=fun _ => 0) c,Wh]
 refine ⟨by simp [Cq],by simp [Cq],Int.le_refl _,?_,⟨by simp [Cq],by simp [Cq];omega⟩,fun i a => ?_,?_,?_⟩
 ·show (0:Int) ≤ Eb + Dq (fun i => atI (List.replicate jobs.length (0:Int)) (i:Int)) jobs.length
  rw [d];decide
 ·show 0 ≤ atI (List.replicate jobs.length (0:Int)) (i:Int) ∧ atI (List.replicate jobs.length (0:Int)) (i:Int) ≤ _
  rw [c i a]
  have:=(hw _ (Al (l:=jobs) (i:=i) (by omega) (by omega))).1
  omega
 ·show (jobs.length:Int) = Dq (fun i => if atI (List.replicate jobs.length (0:Int)) (i:Int) < (atI jobs (i:Int)).work then 1 else 0) jobs.length
  rw [Sw (f:=fun _ => 1) fun i a => by
   have:=(hw _ (Al (l:=jobs) (i:=i) (by omega) (by omega))).1
   rw [c i a,if_pos (by omega)]]
  have:∀ n:Nat,(n:Int) = Dq (fun _ => 1) n:=by
   intro n
   induction n with
   | zero => rfl
   | succ n ih => simp only [Dq];omega
  exact this _
 ·show ((List.length ([]:List Span):Nat):Int) ≤ Dq (fun i => atI (List.replicate jobs.length (0:Int)) (i:Int)) jobs.length
  rw [d];decide
theorem We {q:Int}:∀ {cuts:List Int} {w a d:Int},Dc q cuts w = true → A5 cuts a d = true → d < a + w
 | [],w,a,d,_,h => by simp [A5] at h
 | c :: r,w,a,d,h1,h2 => by
  simp only [Dc,Bool.and_eq_true,decide_eq_true_eq] at h1
  simp only [A5,Bool.or_eq_true,decide_eq_true_eq] at h2
  rcases h2 with h2 | h2
  ·omega
  ·have:=We h1.2 h2;omega
theorem Kd {l:List Ac} {jobs:List Job} {done:List Int} {t:Int}:∀ {n:Nat},0 ≤ Bs l jobs done t n → (atI jobs (Bs l jobs done t n)).release ≤ t ∧ atI done (Bs l jobs done t n) < (atI jobs (Bs l jobs done t n)).work
 | 0,h => by simp [Bs] at h
 | n + 1,h => by
  unfold Bs at h ⊢
  split
  ·rename_i a;exact ⟨a.1,a.2.1⟩
  ·rename_i a
   rw [if_neg a] at h
   exact Kd h
theorem Zu {l:List Ac} {jobs:List Job} {done:List Int} {t:Int}:∀ {n:Nat},Bs l jobs done t n < 0 → ∀ i:Nat,i < n → ¬ ((atI jobs (i:Int)).release ≤ t ∧ atI done (i:Int) < (atI jobs (i:Int)).work)
 | 0,_,i,hi => by omega
 | n + 1,h,i,hi => by
  unfold Bs at h
  split at h
  ·omega
  ·rename_i c
   rintro ⟨a,h2⟩
   rcases Nat.lt_or_ge i n with hlt | hge
   ·exact Zu h i hlt ⟨a,h2⟩
   ·have:i = n:=by omega
    subst this
    exact c ⟨a,h2,.inl h⟩
theorem Acm {l:List Ac} {jobs:List Job} {s:RS} (hj:Nq l jobs) (hi:RsInv jobs s):-1 ≤ rsRuns l jobs s ∧ rsRuns l jobs s < jobs.length ∧ (0 ≤ rsRuns l jobs s → atI s.done (rsRuns l jobs s) < (atI jobs (rsRuns l jobs s)).work):=by
 unfold rsRuns
 split
 ·have:=O2 l jobs s.done s.t jobs.length
  exact ⟨this.1,this.2,fun h => (Kd h).2⟩
 ·rename_i c
  have d:0 ≤ s.runs:=by omega
  have e:A5 (atI jobs s.runs).cuts 0 (atI s.done s.runs) = true:=by simpa using fun h => c (.inr h)
  refine ⟨by omega,hi.runs.2,fun _ => ?_⟩
  obtain ⟨q,a⟩:=hj.cuts _ (Al d hi.runs.2)
  have:=We a e;omega
theorem Aja (L:List Span) (r t:Int):(D0 L r t).length ≤ L.length + 1:=by unfold D0;split <;> simp
theorem G8 {l:List Ac} {jobs:List Job} {s:RS} {e:Int} (hj:Nq l jobs) (hi:RsInv jobs s) (ho:Nr e s):RsInv jobs (Eg l jobs s) ∧ Eh jobs (Eg l jobs s) < Eh jobs s:=by
 obtain ⟨r1,v,y⟩:=Acm hj hi
 unfold Eg
 split
 ·rename_i n
  have m:s.t < Eb:=by
   have:=ho.1
   rw [hi.left] at this
   obtain ⟨i,d,hp⟩:=Za this
   split at hp
   ·rename_i hd
    have u:Bs l jobs s.done s.t jobs.length < 0:=by
     unfold rsRuns at n
     split at n
     ·exact n
     ·rename_i hc;omega
    have h1:=Zu u i d
    have h2:=(hj.rel _ (Al (l:=jobs) (i:=i) (by omega) (by omega))).2
    omega
   ·omega
  have z:=hi.sum
  refine ⟨⟨hi.dlen,hi.elen,by have:=hi.t0;show 0 ≤ s.t + 1;omega,?_,⟨r1,v⟩,hi.done,hi.left,hi.L⟩,?_⟩
  ·show s.t + 1 ≤ Eb + Dq (fun i => atI s.done (i:Int)) jobs.length
   omega
  ·show (Eb - (s.t + 1)).toNat + (Ev jobs - Dq (fun i => atI s.done (i:Int)) jobs.length).toNat < (Eb - s.t).toNat + (Ev jobs - Dq (fun i => atI s.done (i:Int)) jobs.length).toNat
   omega
 ·rename_i n
  generalize hrr:rsRuns l jobs s = r at *
  have x:0 ≤ r:=by omega
  have m:=y x
  obtain ⟨k,rfl⟩:∃ k:Nat,r = k:=⟨r.toNat,by omega⟩
  have o:k < jobs.length:=by omega
  have p:k < s.done.length:=by rw [hi.dlen];exact o
  have c:∀ i:Nat,atI (s.done.set k (atI s.done (k:Int) + 1)) (i:Int) = if i = k then atI s.done (k:Int) + 1 else atI s.done (i:Int):=fun i => Te p i
  have a:Dq (fun i => atI (s.done.set k (atI s.done (k:Int) + 1)) (i:Int)) jobs.length = Dq (fun i => atI s.done (i:Int)) jobs.length + 1:=by
   rw [Y9 (f:=fun i => atI s.done (i:Int)) (r:=k) (fun i j => by rw [c,if_neg j]) o,c,if_pos rfl];omega
  have z:=hi.sum
  have hb:=hi.done k o
  have a0:Dq (fun i => atI s.done (i:Int)) jobs.length + 1 ≤ Ev jobs:=by
   rw [← a]
   refine Pm fun i d => ?_
   rw [c]
   split
   ·rename_i e;subst e;omega
   ·exact (hi.done i d).2
  have g:((k:Int)).toNat = k:=by omega
  refine ⟨⟨?_,?_,?_,?_,⟨by show -1 ≤ (k:Int);omega,v⟩,?_,?_,?_⟩,?_⟩
  ·simp only [Kb,List.length_set];exact hi.dlen
  ·simp only [Kb];split
   ·rw [List.length_set];exact hi.elen
   ·exact hi.elen
  ·have:=hi.t0;show 0 ≤ s.t + 1;omega
  ·show s.t + 1 ≤ Eb + Dq (fun i => atI (s.done.set ((k:Int)).toNat (atI s.done (k:Int) + 1)) (i:Int)) jobs.length
   rw [g,a];have:=hi.t1;omega
  ·intro i d
   show 0 ≤ atI (s.done.set ((k:Int)).toNat (atI s.done (k:Int) + 1)) (i:Int) ∧ atI (s.done.set ((k:Int)).toNat (atI s.done (k:Int) + 1)) (i:Int) ≤ _
   rw [g,c]
   split
   ·rename_i e;subst e;omega
   ·exact hi.done i d
  ·show (if atI s.done (k:Int) + 1 = (atI jobs (k:Int)).work then s.left - 1 else s.left) = Dq (fun i => if atI (s.done.set ((k:Int)).toNat (atI s.done (k:Int) + 1)) (i:Int) < (atI jobs (i:Int)).work then 1 else 0) jobs.length
   rw [g,Y9 (f:=fun i => if atI s.done (i:Int) < (atI jobs (i:Int)).work then 1 else 0) (r:=k) (fun i j => by rw [c,if_neg j]) o,← hi.left,c,if_pos rfl,if_pos m]
   split
   ·rw [if_neg (by omega)];omega
   ·rw [if_pos (by omega)];omega
  ·show (((D0 s.L (k:Int) s.t).length:Nat):Int) ≤ Dq (fun i => atI (s.done.set ((k:Int)).toNat (atI s.done (k:Int) + 1)) (i:Int)) jobs.length
   rw [g,a]
   have:=Aja s.L k s.t
   have:=hi.L
   omega
  ·show (Eb - (s.t + 1)).toNat + (Ev jobs - Dq (fun i => atI (s.done.set ((k:Int)).toNat (atI s.done (k:Int) + 1)) (i:Int)) jobs.length).toNat < (Eb - s.t).toNat + (Ev jobs - Dq (fun i => atI s.done (i:Int)) jobs.length).toNat
   rw [g,a]
   omega
theorem Zn {l:List Ac} {jobs:List Job} {e:Int} (hj:Nq l jobs):∀ {n m:Nat} {s:RS},RsInv jobs s → Eh jobs s ≤ n → Eh jobs s ≤ m → Xp l jobs e n s = Xp l jobs e m s
 | 0,0,s,_,_,_ => rfl
 | 0,m + 1,s,hi,h0,_ => by
  unfold Xp
  by_cases a:Nr e s
  ·have:=(G8 hj hi a).2;omega
  ·rw [if_neg a]
 | n + 1,0,s,hi,_,h0 => by
  unfold Xp
  by_cases a:Nr e s
  ·have:=(G8 hj hi a).2;omega
  ·rw [if_neg a]
 | n + 1,m + 1,s,hi,h1,h2 => by
  unfold Xp
  by_cases a:Nr e s
  ·have c:=G8 hj hi a
   rw [if_pos a,if_pos a]
   exact Zn hj c.1 (by omega) (by omega)
  ·rw [if_neg a,if_neg a]
def Bb (l:List Ac) (jobs:List Job) (e:Int) (s:RS):RS:=Xp l jobs e (Eh jobs s) s
theorem Nw {l:List Ac} {jobs:List Job} {e:Int} {s:RS} (hj:Nq l jobs) (hi:RsInv jobs s) (ho:Nr e s):Bb l jobs e s = Bb l jobs e (Eg l jobs s):=by
 have a:=G8 hj hi ho
 unfold Bb
 obtain ⟨k,c⟩:∃ k,Eh jobs s = k + 1:=⟨Eh jobs s - 1,by omega⟩
 rw [c]
 show (if Nr e s then Xp l jobs e k (Eg l jobs s) else s) = _
 rw [if_pos ho]
 exact Zn hj a.1 (by omega) (Nat.le_refl _)
theorem I5 {l:List Ac} {jobs:List Job} {e:Int} {s:RS} (ho:¬ Nr e s):Bb l jobs e s = s:=by
 unfold Bb
 cases Eh jobs s with
 | zero => rfl
 | succ k => exact if_neg ho
theorem Pk {l:List Ac} {jobs:List Job} {e:Int} (hj:Nq l jobs) (p:RS → Prop) (hp:∀ s,RsInv jobs s → Nr e s → p s → p (Eg l jobs s)):∀ {s:RS},RsInv jobs s → p s → RsInv jobs (Bb l jobs e s) ∧ p (Bb l jobs e s) ∧ ¬ Nr e (Bb l jobs e s):=by
 have d:∀ n (s:RS),Eh jobs s ≤ n → RsInv jobs s → p s → RsInv jobs (Bb l jobs e s) ∧ p (Bb l jobs e s) ∧ ¬ Nr e (Bb l jobs e s):=by
  intro n
  induction n with
  | zero =>
   intro s f a h
   by_cases c:Nr e s
   ·have:=(G8 hj a c).2;omega
   ·rw [I5 c];exact ⟨a,h,c⟩
  | succ n ih =>
   intro s f a h
   by_cases c:Nr e s
   ·have g:=G8 hj a c
    rw [Nw hj a c]
    exact ih _ (by omega) g.1 (hp s a c h)
   ·rw [I5 c];exact ⟨a,h,c⟩
 intro s a h
 exact d _ s (Nat.le_refl _) a h
end Go.L.Try
