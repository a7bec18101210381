/- JOBS: cadencyref08.last, Few, Decode. -/
import Derived.Test.YtofmllajjolcgaaPa
import Derived.Test.YtofmllajjolcgaaVc
set_option linter.unusedVariables false
set_option linter.unusedSimpArgs false
set_option maxRecDepth 4000
set_option maxHeartbeats 1000000
namespace Go.L.Try
open Go Go.L
variable {E : Env}
end Go.L.Try
set_option maxRecDepth 100000
namespace Go.L.Try
open Go Go.L
variable {E : Env}
end Go.L.Try
set_option maxHeartbeats 2000000
namespace Go.L.Try
open Go Go.L
def cutsOk (q : Int) : List Int → Int → Bool
 | [], _ => true
 | c :: r, left => decide (1 ≤ c ∧ c ≤ q ∧ c ≤ left) && cutsOk q r (left - c)
def jobNums (l : List Task) (jobs : List Job) (i : Nat) : Prop :=
 let j := atI jobs (i : Int)
 let t := atI l j.task
 let k := lastN jobs j.task i
 (0 ≤ j.task ∧ j.task < l.length) ∧ (0 ≤ j.arrive ∧ j.arrive ≤ 17592186044416) ∧ (0 ≤ k → (atI jobs k).arrive + t.T ≤ j.arrive) ∧ j.arrive ≤ j.release ∧ j.release ≤ j.arrive + t.J ∧ 1 ≤ j.work ∧ j.work ≤ t.C
instance (l : List Task) (jobs : List Job) (i : Nat) : Decidable (jobNums l jobs i) := by unfold jobNums; dsimp only; infer_instance
def jobOkB (l : List Task) (jobs : List Job) (i : Nat) : Bool := decide (jobNums l jobs i) && cutsOk (atI l (atI jobs (i : Int)).task).Q (atI jobs (i : Int)).cuts (atI jobs (i : Int)).work
def allOk (l : List Task) (jobs : List Job) : Nat → Bool
 | 0 => true
 | n + 1 => allOk l jobs n && jobOkB l jobs n
def legalB (l : List Task) (jobs : List Job) : Bool := decide ((checkAllP l).2 = 0 ∧ jobs.length ≤ 4096) && allOk l jobs jobs.length
theorem allOk_at {l : List Task} {jobs : List Job} : ∀ {n : Nat}, allOk l jobs n = true → ∀ i, i < n → jobOkB l jobs i = true
 | 0, _, i, hi => by omega
 | n + 1, h, i, hi => by
  simp only [allOk, Bool.and_eq_true] at h
  rcases Nat.lt_or_ge i n with h1 | h1
  ·exact allOk_at h.1 i h1
  ·have : i = n := by omega
   subst this; exact h.2
theorem allOk_not {l : List Task} {jobs : List Job} {n i : Nat} (hi : i < n) (h : jobOkB l jobs i = false) : allOk l jobs n = false := by
 cases hc : allOk l jobs n
 ·rfl
 ·rw [allOk_at hc i hi] at h; cases h
theorem lastN_take {jobs : List Job} {task : Int} : ∀ {k i : Nat}, k ≤ i → lastN (jobs.take i) task k = lastN jobs task k
 | 0, i, _ => rfl
 | k + 1, i, h => by
  have e : atI (jobs.take i) (k : Int) = atI jobs (k : Int) := by
   unfold atI
   rw [List.getD_eq_getElem?_getD, List.getD_eq_getElem?_getD, List.getElem?_take, if_pos (by omega)]
  simp only [lastN, e, lastN_take (k := k) (by omega : k ≤ i)]
theorem lastN_task {jobs : List Job} {task : Int} : ∀ {n : Nat}, 0 ≤ lastN jobs task n → (atI jobs (lastN jobs task n)).task = task
 | 0, h => by simp [lastN] at h
 | n + 1, h => by
  unfold lastN at h ⊢
  split
  ·assumption
  ·rename_i hn; rw [if_neg hn] at h; exact lastN_task h
end Go.L.Try
namespace Go.L.Try
open Go Go.L
def withinP : List Int → Int → Int → Bool
 | [], _, _ => false
 | c :: r, a, d => decide (a < d ∧ d < a + c) || withinP r (a + c) d
def pickN (l : List Task) (jobs : List Job) (done : List Int) (t : Int) : Nat → Int
| 0 => -1
| n+1 => if (atI jobs n).release ≤ t ∧ atI done n < (atI jobs n).work ∧ (pickN l jobs done t n < 0 ∨ (atI l (atI jobs n).task).P < (atI l (atI jobs (pickN l jobs done t n)).task).P) then n else pickN l jobs done t n
theorem pickN_in (l : List Task) (jobs : List Job) (done : List Int) (t : Int) : ∀ n, -1 ≤ pickN l jobs done t n ∧ pickN l jobs done t n < n
| 0 => by simp [pickN]
| n+1 => by have := pickN_in l jobs done t n; unfold pickN; split <;> omega
end Go.L.Try
namespace Go.L.Try
open Go Go.L
def sumN (f : Nat → Int) : Nat → Int
 | 0 => 0
 | n + 1 => sumN f n + f n
theorem sumN_same {f g : Nat → Int} : ∀ {n : Nat}, (∀ i, i < n → g i = f i) → sumN g n = sumN f n
 | 0, _ => rfl
 | n + 1, h => by simp only [sumN]; rw [sumN_same (n := n) fun i hi => h i (by omega), h n (by omega)]
theorem sumN_upd {f g : Nat → Int} {r : Nat} : ∀ {n : Nat}, (∀ i, i ≠ r → g i = f i) → r < n → sumN g n = sumN f n + (g r - f r)
 | 0, _, h => by omega
 | n + 1, h, hr => by
  simp only [sumN]
  by_cases e : r = n
  ·subst e
   rw [sumN_same (f := f) (g := g) fun i hi => h i (by omega)]; omega
  ·rw [sumN_upd h (by omega), h n (fun h => e h.symm)]; omega
theorem sumN_le {f g : Nat → Int} : ∀ {n : Nat}, (∀ i, i < n → f i ≤ g i) → sumN f n ≤ sumN g n
 | 0, _ => Int.le_refl _
 | n + 1, h => by have := sumN_le (n := n) fun i hi => h i (by omega); have := h n (by omega); simp only [sumN]; omega
theorem sumN_zero : ∀ {n : Nat}, sumN (fun _ => 0) n = 0
 | 0 => rfl
 | n + 1 => by simp only [sumN, sumN_zero (n := n)]; rfl
theorem sumN_nonneg {f : Nat → Int} {n : Nat} (h : ∀ i, i < n → 0 ≤ f i) : 0 ≤ sumN f n := by
 have := sumN_le (f := fun _ => 0) (g := f) (n := n) h; rw [sumN_zero] at this; exact this
theorem sumN_pos {f : Nat → Int} : ∀ {n : Nat}, 0 < sumN f n → ∃ i, i < n ∧ 0 < f i
 | 0, h => by simp [sumN] at h
 | n + 1, h => by
  simp only [sumN] at h
  by_cases e : 0 < f n
  ·exact ⟨n, by omega, e⟩
  ·obtain ⟨i, hi, h1⟩ := sumN_pos (f := f) (n := n) (by omega); exact ⟨i, by omega, h1⟩
theorem atI_set {α : Type} [Inhabited α] {l : List α} {r : Nat} {x : α} (hr : r < l.length) (i : Nat) : atI (l.set r x) (i : Int) = if i = r then x else atI l (i : Int) := by
 unfold atI
 rw [List.getD_eq_getElem?_getD, List.getD_eq_getElem?_getD, show ((i : Int)).toNat = i by omega, List.getElem?_set]
 by_cases e : i = r
 ·subst e; simp [hr]
 ·rw [if_neg (fun h => e h.symm), if_neg e]
structure RS where
 t : Int
 runs : Int
 done : List Int
 ends : List Int
 left : Int
 L : List Span
def rsRuns (l : List Task) (jobs : List Job) (s : RS) : Int :=
 if s.runs < 0 ∨ withinP (atI jobs s.runs).cuts 0 (atI s.done s.runs) = false then pickN l jobs s.done s.t jobs.length else s.runs
def addTick (L : List Span) (r t : Int) : List Span :=
 if 0 < (L.length : Int) ∧ (atI L ((L.length : Int) - 1)).job = r ∧ (atI L ((L.length : Int) - 1)).to' = t then L.set ((L.length : Int) - 1).toNat { atI L ((L.length : Int) - 1) with to' := (atI L ((L.length : Int) - 1)).to' + 1 } else L ++ [⟨r, t, t + 1⟩]
def rsWork (jobs : List Job) (s : RS) (r : Int) : RS :=
 {t := s.t + 1, runs := r, done := s.done.set r.toNat (atI s.done r + 1), L := addTick s.L r s.t,
  ends := if atI s.done r + 1 = (atI jobs r).work then s.ends.set r.toNat (s.t + 1) else s.ends,
  left := if atI s.done r + 1 = (atI jobs r).work then s.left - 1 else s.left }
def rsStep (l : List Task) (jobs : List Job) (s : RS) : RS :=
 if rsRuns l jobs s < 0 then { s with t := s.t + 1, runs := rsRuns l jobs s } else rsWork jobs s (rsRuns l jobs s)
def rsOn (e : Int) (s : RS) : Prop := 0 < s.left ∧ (e < 0 ∨ s.t < e)
instance (e : Int) (s : RS) : Decidable (rsOn e s) := by unfold rsOn; infer_instance
def rsRun (l : List Task) (jobs : List Job) (e : Int) : Nat → RS → RS
 | 0, s => s
 | n + 1, s => if rsOn e s then rsRun l jobs e n (rsStep l jobs s) else s
def rsInit (n : Nat) : RS := ⟨0, -1, List.replicate n 0, List.replicate n (-1), n, []⟩
def lastRel : Int := 17594333528064
structure JobsOk (l : List Task) (jobs : List Job) : Prop where
 task : ∀ j ∈ jobs, 0 ≤ j.task ∧ j.task < l.length
 rel : ∀ j ∈ jobs, 0 ≤ j.release ∧ j.release < lastRel
 work : ∀ j ∈ jobs, 1 ≤ j.work ∧ j.work ≤ 2147483647
 cuts : ∀ j ∈ jobs, ∃ q, cutsOk q j.cuts j.work = true
structure RsInv (jobs : List Job) (s : RS) : Prop where
 dlen : s.done.length = jobs.length
 elen : s.ends.length = jobs.length
 t0 : 0 ≤ s.t
 t1 : s.t ≤ lastRel + sumN (fun i => atI s.done (i : Int)) jobs.length
 runs : -1 ≤ s.runs ∧ s.runs < jobs.length
 done : ∀ i : Nat, i < jobs.length → 0 ≤ atI s.done (i : Int) ∧ atI s.done (i : Int) ≤ (atI jobs (i : Int)).work
 left : s.left = sumN (fun i => if atI s.done (i : Int) < (atI jobs (i : Int)).work then 1 else 0) jobs.length
 L : (s.L.length : Int) ≤ sumN (fun i => atI s.done (i : Int)) jobs.length
def sumWork (jobs : List Job) : Int := sumN (fun i => (atI jobs (i : Int)).work) jobs.length
def rsLeft (jobs : List Job) (s : RS) : Nat := (lastRel - s.t).toNat + (sumWork jobs - sumN (fun i => atI s.done (i : Int)) jobs.length).toNat
theorem RsInv.sum {jobs : List Job} {s : RS} (h : RsInv jobs s) : 0 ≤ sumN (fun i => atI s.done (i : Int)) jobs.length ∧ sumN (fun i => atI s.done (i : Int)) jobs.length ≤ sumWork jobs :=
 ⟨sumN_nonneg fun i hi => (h.done i hi).1, sumN_le fun i hi => (h.done i hi).2⟩
theorem rsInit_inv (jobs : List Job) (hw : ∀ j ∈ jobs, 1 ≤ j.work ∧ j.work ≤ 2147483647) : RsInv jobs (rsInit jobs.length) := by
 have h0 : ∀ i : Nat, i < jobs.length → atI (List.replicate jobs.length (0 : Int)) (i : Int) = 0 := fun i hi => by
  rw [atI_nat (by simpa using hi)]; simp
 have hs : sumN (fun i => atI (List.replicate jobs.length (0 : Int)) (i : Int)) jobs.length = 0 := by
  rw [sumN_same (f := fun _ => 0) h0, sumN_zero]
 refine ⟨by simp [rsInit], by simp [rsInit], Int.le_refl _, ?_, ⟨by simp [rsInit], by simp [rsInit]; omega⟩, fun i hi => ?_, ?_, ?_⟩
 ·show (0 : Int) ≤ lastRel + sumN (fun i => atI (List.replicate jobs.length (0 : Int)) (i : Int)) jobs.length
  rw [hs]; decide
 ·show 0 ≤ atI (List.replicate jobs.length (0 : Int)) (i : Int) ∧ atI (List.replicate jobs.length (0 : Int)) (i : Int) ≤ _
  rw [h0 i hi]
  have := (hw _ (atI_mem (l := jobs) (i := i) (by omega) (by omega))).1
  omega
 ·show (jobs.length : Int) = sumN (fun i => if atI (List.replicate jobs.length (0 : Int)) (i : Int) < (atI jobs (i : Int)).work then 1 else 0) jobs.length
  rw [sumN_same (f := fun _ => 1) fun i hi => by
   have := (hw _ (atI_mem (l := jobs) (i := i) (by omega) (by omega))).1
   rw [h0 i hi, if_pos (by omega)]]
  have : ∀ n : Nat, (n : Int) = sumN (fun _ => 1) n := by
   intro n
   induction n with
   | zero => rfl
   | succ n ih => simp only [sumN]; omega
  exact this _
 ·show ((List.length ([] : List Span) : Nat) : Int) ≤ sumN (fun i => atI (List.replicate jobs.length (0 : Int)) (i : Int)) jobs.length
  rw [hs]; decide
theorem within_lt {q : Int} : ∀ {cuts : List Int} {w a d : Int}, cutsOk q cuts w = true → withinP cuts a d = true → d < a + w
 | [], w, a, d, _, h => by simp [withinP] at h
 | c :: r, w, a, d, h1, h2 => by
  simp only [cutsOk, Bool.and_eq_true, decide_eq_true_eq] at h1
  simp only [withinP, Bool.or_eq_true, decide_eq_true_eq] at h2
  rcases h2 with h2 | h2
  ·omega
  ·have := within_lt h1.2 h2; omega
theorem pickN_some {l : List Task} {jobs : List Job} {done : List Int} {t : Int} : ∀ {n : Nat}, 0 ≤ pickN l jobs done t n → (atI jobs (pickN l jobs done t n)).release ≤ t ∧ atI done (pickN l jobs done t n) < (atI jobs (pickN l jobs done t n)).work
 | 0, h => by simp [pickN] at h
 | n + 1, h => by
  unfold pickN at h ⊢
  split
  ·rename_i hc; exact ⟨hc.1, hc.2.1⟩
  ·rename_i hc
   rw [if_neg hc] at h
   exact pickN_some h
theorem pickN_none {l : List Task} {jobs : List Job} {done : List Int} {t : Int} : ∀ {n : Nat}, pickN l jobs done t n < 0 → ∀ i : Nat, i < n → ¬ ((atI jobs (i : Int)).release ≤ t ∧ atI done (i : Int) < (atI jobs (i : Int)).work)
 | 0, _, i, hi => by omega
 | n + 1, h, i, hi => by
  unfold pickN at h
  split at h
  ·omega
  ·rename_i hc
   rintro ⟨h1, h2⟩
   rcases Nat.lt_or_ge i n with hlt | hge
   ·exact pickN_none h i hlt ⟨h1, h2⟩
   ·have : i = n := by omega
    subst this
    exact hc ⟨h1, h2, .inl h⟩
theorem rsRuns_ok {l : List Task} {jobs : List Job} {s : RS} (hj : JobsOk l jobs) (hi : RsInv jobs s) : -1 ≤ rsRuns l jobs s ∧ rsRuns l jobs s < jobs.length ∧ (0 ≤ rsRuns l jobs s → atI s.done (rsRuns l jobs s) < (atI jobs (rsRuns l jobs s)).work) := by
 unfold rsRuns
 split
 ·have := pickN_in l jobs s.done s.t jobs.length
  exact ⟨this.1, this.2, fun h => (pickN_some h).2⟩
 ·rename_i hc
  have h0 : 0 ≤ s.runs := by omega
  have hw : withinP (atI jobs s.runs).cuts 0 (atI s.done s.runs) = true := by simpa using fun h => hc (.inr h)
  refine ⟨by omega, hi.runs.2, fun _ => ?_⟩
  obtain ⟨q, hq⟩ := hj.cuts _ (atI_mem h0 hi.runs.2)
  have := within_lt hq hw; omega
theorem addTick_len (L : List Span) (r t : Int) : (addTick L r t).length ≤ L.length + 1 := by unfold addTick; split <;> simp
theorem rsStep_ok {l : List Task} {jobs : List Job} {s : RS} {e : Int} (hj : JobsOk l jobs) (hi : RsInv jobs s) (ho : rsOn e s) : RsInv jobs (rsStep l jobs s) ∧ rsLeft jobs (rsStep l jobs s) < rsLeft jobs s := by
 obtain ⟨r1, r2, r3⟩ := rsRuns_ok hj hi
 unfold rsStep
 split
 ·rename_i hr
  have hlt : s.t < lastRel := by
   have := ho.1
   rw [hi.left] at this
   obtain ⟨i, hin, hp⟩ := sumN_pos this
   split at hp
   ·rename_i hd
    have hpn : pickN l jobs s.done s.t jobs.length < 0 := by
     unfold rsRuns at hr
     split at hr
     ·exact hr
     ·rename_i hc; omega
    have h1 := pickN_none hpn i hin
    have h2 := (hj.rel _ (atI_mem (l := jobs) (i := i) (by omega) (by omega))).2
    omega
   ·omega
  have hs := hi.sum
  refine ⟨⟨hi.dlen, hi.elen, by have := hi.t0; show 0 ≤ s.t + 1; omega, ?_, ⟨r1, r2⟩, hi.done, hi.left, hi.L⟩, ?_⟩
  ·show s.t + 1 ≤ lastRel + sumN (fun i => atI s.done (i : Int)) jobs.length
   omega
  ·show (lastRel - (s.t + 1)).toNat + (sumWork jobs - sumN (fun i => atI s.done (i : Int)) jobs.length).toNat < (lastRel - s.t).toNat + (sumWork jobs - sumN (fun i => atI s.done (i : Int)) jobs.length).toNat
   omega
 ·rename_i hr
  generalize hrr : rsRuns l jobs s = r at *
  have h0 : 0 ≤ r := by omega
  have hlt := r3 h0
  obtain ⟨k, rfl⟩ : ∃ k : Nat, r = k := ⟨r.toNat, by omega⟩
  have hk : k < jobs.length := by omega
  have hkd : k < s.done.length := by rw [hi.dlen]; exact hk
  have hat : ∀ i : Nat, atI (s.done.set k (atI s.done (k : Int) + 1)) (i : Int) = if i = k then atI s.done (k : Int) + 1 else atI s.done (i : Int) := fun i => atI_set hkd i
  have hsum : sumN (fun i => atI (s.done.set k (atI s.done (k : Int) + 1)) (i : Int)) jobs.length = sumN (fun i => atI s.done (i : Int)) jobs.length + 1 := by
   rw [sumN_upd (f := fun i => atI s.done (i : Int)) (r := k) (fun i hik => by rw [hat, if_neg hik]) hk, hat, if_pos rfl]; omega
  have hs := hi.sum
  have hb := hi.done k hk
  have hle : sumN (fun i => atI s.done (i : Int)) jobs.length + 1 ≤ sumWork jobs := by
   rw [← hsum]
   refine sumN_le fun i hin => ?_
   rw [hat]
   split
   ·rename_i e; subst e; omega
   ·exact (hi.done i hin).2
  have htk : ((k : Int)).toNat = k := by omega
  refine ⟨⟨?_, ?_, ?_, ?_, ⟨by show -1 ≤ (k : Int); omega, r2⟩, ?_, ?_, ?_⟩, ?_⟩
  ·simp only [rsWork, List.length_set]; exact hi.dlen
  ·simp only [rsWork]; split
   ·rw [List.length_set]; exact hi.elen
   ·exact hi.elen
  ·have := hi.t0; show 0 ≤ s.t + 1; omega
  ·show s.t + 1 ≤ lastRel + sumN (fun i => atI (s.done.set ((k : Int)).toNat (atI s.done (k : Int) + 1)) (i : Int)) jobs.length
   rw [htk, hsum]; have := hi.t1; omega
  ·intro i hin
   show 0 ≤ atI (s.done.set ((k : Int)).toNat (atI s.done (k : Int) + 1)) (i : Int) ∧ atI (s.done.set ((k : Int)).toNat (atI s.done (k : Int) + 1)) (i : Int) ≤ _
   rw [htk, hat]
   split
   ·rename_i e; subst e; omega
   ·exact hi.done i hin
  ·show (if atI s.done (k : Int) + 1 = (atI jobs (k : Int)).work then s.left - 1 else s.left) = sumN (fun i => if atI (s.done.set ((k : Int)).toNat (atI s.done (k : Int) + 1)) (i : Int) < (atI jobs (i : Int)).work then 1 else 0) jobs.length
   rw [htk, sumN_upd (f := fun i => if atI s.done (i : Int) < (atI jobs (i : Int)).work then 1 else 0) (r := k) (fun i hik => by rw [hat, if_neg hik]) hk, ← hi.left, hat, if_pos rfl, if_pos hlt]
   split
   ·rw [if_neg (by omega)]; omega
   ·rw [if_pos (by omega)]; omega
  ·show (((addTick s.L (k : Int) s.t).length : Nat) : Int) ≤ sumN (fun i => atI (s.done.set ((k : Int)).toNat (atI s.done (k : Int) + 1)) (i : Int)) jobs.length
   rw [htk, hsum]
   have := addTick_len s.L k s.t
   have := hi.L
   omega
  ·show (lastRel - (s.t + 1)).toNat + (sumWork jobs - sumN (fun i => atI (s.done.set ((k : Int)).toNat (atI s.done (k : Int) + 1)) (i : Int)) jobs.length).toNat < (lastRel - s.t).toNat + (sumWork jobs - sumN (fun i => atI s.done (i : Int)) jobs.length).toNat
   rw [htk, hsum]
   omega
theorem rsRun_more {l : List Task} {jobs : List Job} {e : Int} (hj : JobsOk l jobs) : ∀ {n m : Nat} {s : RS}, RsInv jobs s → rsLeft jobs s ≤ n → rsLeft jobs s ≤ m → rsRun l jobs e n s = rsRun l jobs e m s
 | 0, 0, s, _, _, _ => rfl
 | 0, m + 1, s, hi, h0, _ => by
  unfold rsRun
  by_cases ho : rsOn e s
  ·have := (rsStep_ok hj hi ho).2; omega
  ·rw [if_neg ho]
 | n + 1, 0, s, hi, _, h0 => by
  unfold rsRun
  by_cases ho : rsOn e s
  ·have := (rsStep_ok hj hi ho).2; omega
  ·rw [if_neg ho]
 | n + 1, m + 1, s, hi, h1, h2 => by
  unfold rsRun
  by_cases ho : rsOn e s
  ·have h3 := rsStep_ok hj hi ho
   rw [if_pos ho, if_pos ho]
   exact rsRun_more hj h3.1 (by omega) (by omega)
  ·rw [if_neg ho, if_neg ho]
def untilP (l : List Task) (jobs : List Job) (e : Int) (s : RS) : RS := rsRun l jobs e (rsLeft jobs s) s
theorem untilP_step {l : List Task} {jobs : List Job} {e : Int} {s : RS} (hj : JobsOk l jobs) (hi : RsInv jobs s) (ho : rsOn e s) : untilP l jobs e s = untilP l jobs e (rsStep l jobs s) := by
 have h3 := rsStep_ok hj hi ho
 unfold untilP
 obtain ⟨k, hk⟩ : ∃ k, rsLeft jobs s = k + 1 := ⟨rsLeft jobs s - 1, by omega⟩
 rw [hk]
 show (if rsOn e s then rsRun l jobs e k (rsStep l jobs s) else s) = _
 rw [if_pos ho]
 exact rsRun_more hj h3.1 (by omega) (Nat.le_refl _)
theorem untilP_stop {l : List Task} {jobs : List Job} {e : Int} {s : RS} (ho : ¬ rsOn e s) : untilP l jobs e s = s := by
 unfold untilP
 cases rsLeft jobs s with
 | zero => rfl
 | succ k => exact if_neg ho
theorem untilP_ind {l : List Task} {jobs : List Job} {e : Int} (hj : JobsOk l jobs) (p : RS → Prop) (hp : ∀ s, RsInv jobs s → rsOn e s → p s → p (rsStep l jobs s)) : ∀ {s : RS}, RsInv jobs s → p s → RsInv jobs (untilP l jobs e s) ∧ p (untilP l jobs e s) ∧ ¬ rsOn e (untilP l jobs e s) := by
 have key : ∀ n (s : RS), rsLeft jobs s ≤ n → RsInv jobs s → p s → RsInv jobs (untilP l jobs e s) ∧ p (untilP l jobs e s) ∧ ¬ rsOn e (untilP l jobs e s) := by
  intro n
  induction n with
  | zero =>
   intro s hn hi h
   by_cases ho : rsOn e s
   ·have := (rsStep_ok hj hi ho).2; omega
   ·rw [untilP_stop ho]; exact ⟨hi, h, ho⟩
  | succ n ih =>
   intro s hn hi h
   by_cases ho : rsOn e s
   ·have h3 := rsStep_ok hj hi ho
    rw [untilP_step hj hi ho]
    exact ih _ (by omega) h3.1 (hp s hi ho h)
   ·rw [untilP_stop ho]; exact ⟨hi, h, ho⟩
 intro s hi h
 exact key _ s (Nat.le_refl _) hi h
end Go.L.Try
