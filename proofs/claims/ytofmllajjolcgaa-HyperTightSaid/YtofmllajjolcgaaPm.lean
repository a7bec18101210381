/- WHEN JOBS END: cadencyref11.Ends, trace.Ends. -/
import Derived.Test.YtofmllajjolcgaaPa
import Derived.Test.YtofmllajjolcgaaPj
import Derived.Test.YtofmllajjolcgaaVb
import Derived.Test.YtofmllajjolcgaaPh
set_option linter.unusedVariables false
set_option linter.unusedSimpArgs false
set_option maxRecDepth 100000
set_option maxHeartbeats 2000000
namespace Go.L.Try
open Go Go.L
variable {E : Env}
def SpansOk (l : List Span) : Prop := ∀ x ∈ l, (0 ≤ x.from' ∧ x.from' ≤ 35184372088832) ∧ 0 ≤ x.to' ∧ x.to' ≤ 35184372088832
def endStep (i : Int) (s : Int × Int) (x : Span) : Int × Int :=
 if x.job = i ∧ 0 < x.to' - x.from' ∧ s.2 < 0 then (s.1 - (x.to' - x.from'), if s.1 ≤ x.to' - x.from' then x.from' + s.1 else s.2) else s
def endSt (w i : Int) (l : List Span) : Int × Int := l.foldl (endStep i) (w, -1)
def endsN (jobs : List Job) (l : List Span) : Nat → List Int
 | 0 => []
 | n + 1 => endsN jobs l n ++ [(endSt (atI jobs (n : Int)).work n l).2]
end Go.L.Try
namespace Go.L.Try
open Go Go.L
variable {E : Env}
theorem busy (hE : Laid E) {h : Heap} {vs : Value} {l : List Span} (hl : Rd 3 encS h vs l) :
  ∃ v ys, callW E (.func (.func n_trace_Busy) #[] #[]) [vs] h = some (v, h ++ ys, []) ∧ Clo1 h.length n_trace_Busy_f1 (fun h v => v = vs ∧ Rd 3 encS h vs l) (h ++ ys) v := by
 refine fn_new hE.trace_Busy rfl (Clo1.movable (hl.old_movable flatS)) (by simp) ?_
 have hc := hl.cv
 have ho := hl.one
 simp only [argsF]
 (repeat' simp -dsimp (disch := omega) only [↓EA, EB, Nat.reduceEqDiff, ↓reduceIte, newCells, eq_self, *])
 exact ⟨⟨_, rfl⟩, _, _, rfl, Nat.le_refl _, by rw [geta0]; rfl, rfl, hl.app _⟩
end Go.L.Try
namespace Go.L.Try
open Go Go.L
theorem span_ext {x y : Span} : x = y ↔ (x.job = y.job ∧ x.from' = y.from' ∧ x.to' = y.to') := by
 cases x; cases y; simp
instance : DecidableEq Span := fun x y => decidable_of_iff _ span_ext.symm
end Go.L.Try
set_option maxHeartbeats 1000000
namespace Go.L.Try
open Go Go.L
def st (l : List Task) (jobs : List Job) : Nat → RS
 | 0 => rsInit jobs.length
 | n + 1 => rsStep l jobs (st l jobs n)
def who (l : List Task) (jobs : List Job) (n : Nat) : Int := rsRuns l jobs (st l jobs n)
def dn (l : List Task) (jobs : List Job) (i n : Nat) : Int := atI (st l jobs n).done (i : Int)
variable {l : List Task} {jobs : List Job}
structure StInv (jobs : List Job) (s : RS) : Prop where
 dlen : s.done.length = jobs.length
 elen : s.ends.length = jobs.length
 runs : -1 ≤ s.runs ∧ s.runs < jobs.length
 done : ∀ i : Nat, i < jobs.length → 0 ≤ atI s.done (i : Int) ∧ atI s.done (i : Int) ≤ (jb jobs i).work
theorem runs_ok (S : Script l jobs) {s : RS} (hi : StInv jobs s) : -1 ≤ rsRuns l jobs s ∧ rsRuns l jobs s < jobs.length ∧ (0 ≤ rsRuns l jobs s → atI s.done (rsRuns l jobs s) < (atI jobs (rsRuns l jobs s)).work) := by
 unfold rsRuns
 split
 ·have := pickN_in l jobs s.done s.t jobs.length
  exact ⟨this.1, this.2, fun h => (pickN_some h).2⟩
 ·rename_i hc
  have h0 : 0 ≤ s.runs := by omega
  have hw : withinP (atI jobs s.runs).cuts 0 (atI s.done s.runs) = true := by simpa using fun h => hc (.inr h)
  refine ⟨by omega, hi.runs.2, fun _ => ?_⟩
  obtain ⟨q, hq⟩ := S.ok.cuts _ (atI_mem h0 hi.runs.2)
  have := within_lt hq hw; omega
theorem step_cases (S : Script l jobs) {s : RS} (hi : StInv jobs s) : (rsRuns l jobs s = -1 ∧ rsStep l jobs s = { s with t := s.t + 1, runs := -1 }) ∨ ∃ r : Nat, r < jobs.length ∧ rsRuns l jobs s = r ∧ atI s.done (r : Int) < (jb jobs r).work ∧ rsStep l jobs s = rsWork jobs s r := by
 obtain ⟨h1, h2, h3⟩ := runs_ok S hi
 unfold rsStep
 by_cases hr : rsRuns l jobs s < 0
 ·left
  have e : rsRuns l jobs s = -1 := by omega
  rw [if_pos hr, e]; exact ⟨rfl, rfl⟩
 ·right
  obtain ⟨r, hr2⟩ : ∃ r : Nat, rsRuns l jobs s = r := ⟨(rsRuns l jobs s).toNat, by omega⟩
  rw [if_neg hr, hr2]
  rw [hr2] at h2 h3
  exact ⟨r, by omega, rfl, h3 (by omega), rfl⟩
theorem work_done {s : RS} {r : Nat} (hr : r < s.done.length) (i : Nat) : atI (rsWork jobs s r).done (i : Int) = if i = r then atI s.done (r : Int) + 1 else atI s.done (i : Int) := by
 show atI (s.done.set ((r : Int)).toNat (atI s.done (r : Int) + 1)) (i : Int) = _
 rw [Int.toNat_natCast]; exact atI_set hr i
theorem work_ends {s : RS} {r : Nat} (hr : r < s.ends.length) (i : Nat) : atI (rsWork jobs s r).ends (i : Int) = if i = r ∧ atI s.done (r : Int) + 1 = (jb jobs r).work then s.t + 1 else atI s.ends (i : Int) := by
 show atI (if atI s.done (r : Int) + 1 = (atI jobs (r : Int)).work then s.ends.set ((r : Int)).toNat (s.t + 1) else s.ends) (i : Int) = _
 rw [Int.toNat_natCast]
 by_cases h : atI s.done (r : Int) + 1 = (jb jobs r).work
 ·have h' : atI s.done (r : Int) + 1 = (atI jobs (r : Int)).work := h
  rw [if_pos h', atI_set hr]
  by_cases e : i = r
  ·rw [if_pos e, if_pos ⟨e, h⟩]
  ·rw [if_neg e, if_neg fun h => e h.1]
 ·have h' : ¬ atI s.done (r : Int) + 1 = (atI jobs (r : Int)).work := h
  rw [if_neg h', if_neg fun hh => h hh.2]
theorem stInv_step (S : Script l jobs) {s : RS} (hi : StInv jobs s) : StInv jobs (rsStep l jobs s) := by
 rcases step_cases S hi with ⟨_, h⟩ | ⟨r, h1, h2, h3, h⟩
 ·rw [h]; exact ⟨hi.dlen, hi.elen, ⟨Int.le_refl _, by show (-1 : Int) < _; omega⟩, hi.done⟩
 ·rw [h]
  refine ⟨by simp [rsWork, hi.dlen], ?_, ⟨by show -1 ≤ (r : Int); omega, by show (r : Int) < _; omega⟩, fun i hin => ?_⟩
  ·simp only [rsWork]; split
   ·rw [List.length_set]; exact hi.elen
   ·exact hi.elen
  ·rw [work_done (by rw [hi.dlen]; exact h1)]
   split
   ·rename_i e; subst e; have := hi.done i hin; omega
   ·exact hi.done i hin
theorem rep_at {n : Nat} {x : Int} (i : Nat) (hi : i < n) : atI (List.replicate n x) (i : Int) = x := by
 rw [atI_nat (by simpa using hi)]; simp
theorem st_inv (S : Script l jobs) : ∀ n, StInv jobs (st l jobs n)
 | 0 => by
  refine ⟨by simp [st, rsInit], by simp [st, rsInit], ⟨by simp [st, rsInit], by simp [st, rsInit]; omega⟩, fun i hi => ?_⟩
  show 0 ≤ atI (List.replicate jobs.length (0 : Int)) (i : Int) ∧ atI (List.replicate jobs.length (0 : Int)) (i : Int) ≤ _
  rw [rep_at i hi]
  have := (S.ok.work _ (jb_mem hi)).1
  omega
 | n + 1 => stInv_step S (st_inv S n)
theorem st_t (S : Script l jobs) : ∀ n, (st l jobs n).t = n
 | 0 => rfl
 | n + 1 => by
  have ih := st_t S n
  show (rsStep l jobs (st l jobs n)).t = _
  rcases step_cases S (st_inv S n) with ⟨_, h⟩ | ⟨r, h1, h2, h3, h⟩
  ·rw [h]; show (st l jobs n).t + 1 = _; omega
  ·rw [h]; show (st l jobs n).t + 1 = _; omega
theorem dn_succ (S : Script l jobs) {i : Nat} (hi : i < jobs.length) (n : Nat) : dn l jobs i (n + 1) = dn l jobs i n + if who l jobs n = i then 1 else 0 := by
 show atI (rsStep l jobs (st l jobs n)).done (i : Int) = atI (st l jobs n).done (i : Int) + if rsRuns l jobs (st l jobs n) = i then 1 else 0
 have hv := st_inv S n
 rcases step_cases S hv with ⟨h0, h⟩ | ⟨r, h1, h2, h3, h⟩
 ·rw [h, h0, if_neg (by omega)]; show atI (st l jobs n).done (i : Int) = _; omega
 ·rw [h, h2, work_done (by rw [hv.dlen]; exact h1)]
  by_cases e : i = r
  ·rw [if_pos e, if_pos (by omega), e]
  ·rw [if_neg e, if_neg (by omega)]; omega
theorem dn_zero {i : Nat} (hi : i < jobs.length) : dn l jobs i 0 = 0 := rep_at i hi
theorem dn_in (S : Script l jobs) {i : Nat} (hi : i < jobs.length) (n : Nat) : 0 ≤ dn l jobs i n ∧ dn l jobs i n ≤ (jb jobs i).work := (st_inv S n).done i hi
theorem dn_mono (S : Script l jobs) {i : Nat} (hi : i < jobs.length) {m n : Nat} (h : m ≤ n) : dn l jobs i m ≤ dn l jobs i n := by
  induction n with
  | zero => have : m = 0 := by omega
            subst this; exact Int.le_refl _
  | succ n ih =>
    by_cases e : m = n + 1
    · subst e; exact Int.le_refl _
    · have := ih (by omega)
      rw [dn_succ S hi n]
      split <;> omega
theorem who_dn (S : Script l jobs) {n i : Nat} (h : who l jobs n = i) : i < jobs.length ∧ dn l jobs i n < (jb jobs i).work := by
 have h1 := runs_ok S (st_inv S n)
 have h2 : rsRuns l jobs (st l jobs n) = i := h
 rw [h2] at h1
 exact ⟨by omega, h1.2.2 (by omega)⟩
theorem runs_succ (S : Script l jobs) (n : Nat) : (st l jobs (n + 1)).runs = who l jobs n := by
 show (rsStep l jobs (st l jobs n)).runs = rsRuns l jobs (st l jobs n)
 rcases step_cases S (st_inv S n) with ⟨h0, h⟩ | ⟨r, h1, h2, h3, h⟩
 ·rw [h, h0]
 ·rw [h, h2]; rfl
theorem who_cases (n : Nat) : (0 ≤ (st l jobs n).runs ∧ withinP (atI jobs (st l jobs n).runs).cuts 0 (atI (st l jobs n).done (st l jobs n).runs) = true ∧ who l jobs n = (st l jobs n).runs) ∨ ((st l jobs n).runs < 0 ∨ withinP (atI jobs (st l jobs n).runs).cuts 0 (atI (st l jobs n).done (st l jobs n).runs) = false) ∧ who l jobs n = pickN l jobs (st l jobs n).done (st l jobs n).t jobs.length := by
 unfold who rsRuns
 by_cases h : (st l jobs n).runs < 0 ∨ withinP (atI jobs (st l jobs n).runs).cuts 0 (atI (st l jobs n).done (st l jobs n).runs) = false
 ·right; rw [if_pos h]; exact ⟨h, rfl⟩
 ·left
  rw [if_neg h]
  exact ⟨by omega, by cases hw : withinP (atI jobs (st l jobs n).runs).cuts 0 (atI (st l jobs n).done (st l jobs n).runs) with | true => rfl | false => exact absurd (.inr hw) h, rfl⟩
theorem who_rel (S : Script l jobs) : ∀ {n i : Nat}, who l jobs n = i → (jb jobs i).release ≤ n
 | 0, i, h => by
  rcases who_cases (l := l) (jobs := jobs) 0 with ⟨h1, _⟩ | ⟨_, h2⟩
  ·simp [st, rsInit] at h1
  ·rw [h2] at h
   have := (pickN_some (l := l) (jobs := jobs) (done := (st l jobs 0).done) (t := (st l jobs 0).t) (n := jobs.length) (by omega)).1
   rw [h] at this
   exact this
 | n + 1, i, h => by
  rcases who_cases (l := l) (jobs := jobs) (n + 1) with ⟨h1, _, h3⟩ | ⟨_, h2⟩
  ·rw [h3, runs_succ S] at h
   have := who_rel S h; omega
  ·rw [h2] at h
   have := (pickN_some (l := l) (jobs := jobs) (done := (st l jobs (n + 1)).done) (t := (st l jobs (n + 1)).t) (n := jobs.length) (by omega)).1
   rw [h, st_t S] at this
   exact this
theorem who_none (S : Script l jobs) {n : Nat} (h : who l jobs n < 0) {i : Nat} (hi : i < jobs.length) (hr : (jb jobs i).release ≤ n) : dn l jobs i n = (jb jobs i).work := by
 rcases who_cases (l := l) (jobs := jobs) n with ⟨h1, _, h3⟩ | ⟨_, h2⟩
 ·omega
 ·rw [h2] at h
  have h5 := pickN_none h i hi
  rw [st_t S] at h5
  have h6 := dn_in S hi n
  have : ¬ dn l jobs i n < (jb jobs i).work := fun hd => h5 ⟨hr, hd⟩
  omega
theorem pickN_best {l : List Task} {jobs : List Job} {done : List Int} {t : Int} : ∀ {n : Nat} {r : Nat}, pickN l jobs done t n = r → ∀ i : Nat, i < n → (jb jobs i).release ≤ t → atI done (i : Int) < (jb jobs i).work → (atI l (jb jobs r).task).P ≤ (atI l (jb jobs i).task).P ∧ ((atI l (jb jobs r).task).P = (atI l (jb jobs i).task).P → r ≤ i)
 | 0, r, h, i, hi, _, _ => by omega
 | n + 1, r, h, i, hi, h1, h2 => by
  unfold pickN at h
  split at h
  ·rename_i hc
   have hrn : r = n := by omega
   subst hrn
   by_cases e : i = r
   ·subst e; exact ⟨Int.le_refl _, fun _ => Nat.le_refl _⟩
   ·have hlt : i < r := by omega
    rcases hc.2.2 with h3 | h3
    ·exact absurd ⟨h1, h2⟩ (pickN_none h3 i hlt)
    ·have h0 : 0 ≤ pickN l jobs done t r := by
      rcases Int.lt_or_le (pickN l jobs done t r) 0 with h4 | h4
      ·exact absurd ⟨h1, h2⟩ (pickN_none h4 i hlt)
      ·exact h4
     obtain ⟨p, hp⟩ : ∃ p : Nat, pickN l jobs done t r = p := ⟨(pickN l jobs done t r).toNat, by omega⟩
     have h5 := pickN_best hp i hlt h1 h2
     rw [hp] at h3
     have h3' : (atI l (jb jobs r).task).P < (atI l (jb jobs p).task).P := h3
     exact ⟨by omega, fun e => by omega⟩
  ·rename_i hc
   by_cases e : i = n
   ·subst e
    have h3 : ¬ (pickN l jobs done t i < 0 ∨ (atI l (atI jobs (i : Int)).task).P < (atI l (atI jobs (pickN l jobs done t i)).task).P) := fun h4 => hc ⟨h1, h2, h4⟩
    rw [h] at h3
    have hb := (pickN_in l jobs done t i).2
    rw [h] at hb
    have h4 : ¬ (atI l (jb jobs i).task).P < (atI l (jb jobs r).task).P := fun h5 => h3 (.inr h5)
    exact ⟨by omega, fun _ => by omega⟩
   ·exact pickN_best h i (by omega) h1 h2
structure SecAt (l : List Task) (jobs : List Job) (i n σ : Nat) : Prop where
 lt : σ < n
 run : ∀ k, σ ≤ k → k < n → who l jobs k = i
 best : ∀ k, k < jobs.length → (jb jobs k).release ≤ σ → dn l jobs k σ < (jb jobs k).work → (atI l (jb jobs i).task).P ≤ (atI l (jb jobs k).task).P ∧ ((atI l (jb jobs i).task).P = (atI l (jb jobs k).task).P → i ≤ k)
 sec : ∃ pre c post, (jb jobs i).cuts = pre ++ c :: post ∧ sumI pre = dn l jobs i σ ∧ sumI pre + (n - σ : Nat) = dn l jobs i n ∧ dn l jobs i n < sumI pre + c
theorem within_split : ∀ {cs : List Int} {a d : Int}, withinP cs a d = true → ∃ pre c post, cs = pre ++ c :: post ∧ a + sumI pre < d ∧ d < a + sumI pre + c
 | [], a, d, h => by simp [withinP] at h
 | c :: r, a, d, h => by
  simp only [withinP, Bool.or_eq_true, decide_eq_true_eq] at h
  rcases h with h | h
  ·exact ⟨[], c, r, rfl, by simp only [sumI_nil]; omega, by simp only [sumI_nil]; omega⟩
  ·obtain ⟨pre, c', post, h1, h2, h3⟩ := within_split h
   exact ⟨c :: pre, c', post, by rw [h1]; rfl, by rw [sumI_cons]; omega, by rw [sumI_cons]; omega⟩
theorem within_mid {pre post : List Int} {c d : Int} (hp : ∀ x ∈ pre ++ c :: post, 1 ≤ x) (h1 : sumI pre ≤ d) (h2 : d ≤ sumI pre + c) : withinP (pre ++ c :: post) 0 d = decide (sumI pre < d ∧ d < sumI pre + c) := by
 rw [within_app, within_above (fun x hx => hp x (by simp [hx])) (by omega), Bool.false_or, Int.zero_add]
 show (decide (sumI pre < d ∧ d < sumI pre + c) || withinP post (sumI pre + c) d) = _
 rw [within_below (fun x hx => hp x (by simp [hx])) h2, Bool.or_false]
theorem only_runs (S : Script l jobs) {i : Nat} (hi : i < jobs.length) : ∀ {n : Nat}, withinP (jb jobs i).cuts 0 (dn l jobs i n) = true → (st l jobs n).runs = i
 | 0, hw => by
  rw [dn_zero hi, within_below (S.cuts hi).1 (Int.le_refl _)] at hw
  cases hw
 | n + 1, hw => by
  rw [runs_succ S]
  by_cases e : who l jobs n = i
  ·exact e
  ·have hd := dn_succ S hi n
   rw [if_neg e] at hd
   rw [show dn l jobs i (n + 1) = dn l jobs i n by omega] at hw
   have hr := only_runs S hi hw
   rcases who_cases (l := l) (jobs := jobs) n with ⟨h1, h2, h3⟩ | ⟨hout, h2⟩
   ·rw [h3]; exact hr
   ·rw [hr] at hout
    rcases hout with h4 | h4
    ·omega
    ·have h5 : withinP (jb jobs i).cuts 0 (dn l jobs i n) = false := h4
     rw [hw] at h5; cases h5
theorem sec_at (S : Script l jobs) : ∀ {n i : Nat}, (st l jobs n).runs = i → withinP (jb jobs i).cuts 0 (dn l jobs i n) = true → ∃ σ, SecAt l jobs i n σ
 | 0, i, h, _ => by
  have : (-1 : Int) = i := h
  omega
 | n + 1, i, h, hw => by
  rw [runs_succ S] at h
  obtain ⟨hi, hlt⟩ := who_dn S h
  have hc := (S.cuts hi).1
  have hd := dn_succ S hi n
  rw [if_pos h] at hd
  rcases who_cases (l := l) (jobs := jobs) n with ⟨h1, h2, h3⟩ | ⟨hout, h2⟩
  ·rw [h] at h3
   rw [← h3] at h2
   obtain ⟨σ, q1, q2, q3, pre, c, post, q4, q5, q6, q7⟩ := sec_at S h3.symm h2
   rw [q4] at hc hw
   rw [within_mid hc (by omega) (by omega), decide_eq_true_eq] at hw
   exact ⟨σ, by omega, fun k k1 k2 => by
    by_cases e : k = n
    ·subst e; exact h
    ·exact q2 k k1 (by omega), q3, pre, c, post, q4, q5, by omega, hw.2⟩
  ·refine ⟨n, Nat.lt_succ_self n, fun k k1 k2 => by rw [show k = n by omega]; exact h, fun k hk hr hdk => ?_, ?_⟩
   ·rw [h2] at h
    have := pickN_best h k hk (by rw [st_t S]; exact hr) hdk
    exact this
   ·obtain ⟨pre, c, post, e1, e2, e3⟩ := within_split hw
    have hnot : withinP (jb jobs i).cuts 0 (dn l jobs i n) = false := by
     cases hwn : withinP (jb jobs i).cuts 0 (dn l jobs i n) with
     | false => rfl
     | true =>
      have hr := only_runs S hi hwn
      rw [hr] at hout
      rcases hout with h4 | h4
      ·omega
      ·have h5 : withinP (jb jobs i).cuts 0 (dn l jobs i n) = false := h4
       rw [hwn] at h5; exact h5
    rw [e1] at hnot hc
    rw [Int.zero_add] at e2 e3
    by_cases e : sumI pre = dn l jobs i n
    ·exact ⟨pre, c, post, e1, e, by omega, by omega⟩
    ·rw [within_mid hc (by omega) (by omega), decide_eq_false_iff_not] at hnot
     omega
end Go.L.Try
namespace Go.L.Try
open Go Go.L
variable {l : List Task} {jobs : List Job}
theorem st_succ (n : Nat) : st l jobs (n + 1) = rsStep l jobs (st l jobs n) := rfl
structure EndAt (l : List Task) (jobs : List Job) (i e : Nat) : Prop where
 pos : 0 < e
 run : who l jobs (e - 1) = i
 fin : dn l jobs i (e - 1) + 1 = (jb jobs i).work
theorem EndAt.lt (S : Script l jobs) {i e : Nat} (h : EndAt l jobs i e) (hi : i < jobs.length) (n : Nat) : dn l jobs i n = (jb jobs i).work ↔ e ≤ n := by
 have h1 := dn_succ S hi (e - 1)
 rw [if_pos h.run, show e - 1 + 1 = e by have := h.pos; omega] at h1
 have h2 := h.fin
 constructor
 ·intro hd
  rcases Nat.lt_or_ge n e with h3 | h3
  ·have := dn_mono S hi (show n ≤ e - 1 by omega); omega
  ·exact h3
 ·intro hd
  have := dn_mono S hi hd
  have := (dn_in S hi n).2
  omega
theorem ends_at (S : Script l jobs) {i : Nat} (hi : i < jobs.length) : ∀ n, (dn l jobs i n < (jb jobs i).work → atI (st l jobs n).ends (i : Int) = -1) ∧ (dn l jobs i n = (jb jobs i).work → ∃ e : Nat, atI (st l jobs n).ends (i : Int) = e ∧ e ≤ n ∧ EndAt l jobs i e)
 | 0 => by
  have hw := (S.ok.work _ (jb_mem hi)).1
  rw [dn_zero hi]
  exact ⟨fun _ => rep_at i hi, fun h => by omega⟩
 | n + 1 => by
  obtain ⟨h1, h2⟩ := ends_at S hi n
  have hv := st_inv S n
  have hd := dn_succ S hi n
  rcases step_cases S hv with ⟨h0, h⟩ | ⟨r, hr, hr2, hr3, h⟩
  ·have hw : who l jobs n = -1 := h0
   rw [hw, if_neg (by omega)] at hd
   rw [st_succ, h]
   rw [Int.add_zero] at hd
   rw [hd]
   exact ⟨h1, fun hh => by obtain ⟨e, a, b, c⟩ := h2 hh; exact ⟨e, a, by omega, c⟩⟩
  ·have hw : who l jobs n = r := hr2
   rw [st_succ, h, work_ends (by rw [hv.elen]; exact hr)]
   by_cases e : i = r
   ·subst e
    rw [hw, if_pos rfl] at hd
    have hdd : atI (st l jobs n).done (i : Int) = dn l jobs i n := rfl
    by_cases hf : atI (st l jobs n).done (i : Int) + 1 = (jb jobs i).work
    ·rw [if_pos ⟨rfl, hf⟩]
     refine ⟨fun hh => by omega, fun _ => ⟨n + 1, by rw [st_t S]; omega, Nat.le_refl _, by omega, by rw [Nat.add_sub_cancel]; exact hw, by rw [Nat.add_sub_cancel]; omega⟩⟩
    ·rw [if_neg (fun hh => hf hh.2)]
     exact ⟨fun _ => h1 (by omega), fun hh => by omega⟩
   ·rw [if_neg (fun hh => e hh.1)]
    rw [hw, if_neg (by omega), Int.add_zero] at hd
    rw [hd]
    exact ⟨h1, fun hh => by obtain ⟨x, a, b, c⟩ := h2 hh; exact ⟨x, a, by omega, c⟩⟩
theorem all_end (S : Script l jobs) {e : Int} (he : e < 0) : ∃ T, untilP l jobs e (rsInit jobs.length) = st l jobs T ∧ ∀ i, i < jobs.length → dn l jobs i T = (jb jobs i).work := by
 obtain ⟨h1, ⟨T, h2⟩, h3⟩ := untilP_ind (e := e) S.ok (fun s => ∃ n, s = st l jobs n) (fun s _ _ ⟨n, hn⟩ => ⟨n + 1, by rw [hn]; rfl⟩) (rsInit_inv jobs S.ok.work) ⟨0, rfl⟩
 refine ⟨T, h2, fun i hi => ?_⟩
 have hl : ¬ 0 < (untilP l jobs e (rsInit jobs.length)).left := fun h => h3 ⟨h, .inl he⟩
 have hd := (dn_in S hi T).2
 rcases Int.lt_or_le (dn l jobs i T) (jb jobs i).work with h4 | h4
 ·exfalso
  apply hl
  refine left_pos h1 hi ?_
  rw [h2]; exact h4
 ·omega
theorem until_st (S : Script l jobs) {e : Int} : ∃ T, untilP l jobs e (rsInit jobs.length) = st l jobs T ∧ (¬ rsOn e (st l jobs T)) ∧ (0 ≤ e → (T : Int) ≤ e) := by
 obtain ⟨h1, ⟨T, h2, h4⟩, h3⟩ := untilP_ind (e := e) S.ok (fun s => ∃ n, s = st l jobs n ∧ (0 ≤ e → (n : Int) ≤ e)) (fun s _ ho ⟨n, hn, hle⟩ => ⟨n + 1, by rw [hn]; rfl, fun h0 => by have := ho.2; rw [hn, st_t S] at this; omega⟩) (rsInit_inv jobs S.ok.work) ⟨0, rfl, fun h => h⟩
 exact ⟨T, h2, by rw [← h2]; exact h3, h4⟩
def spanW (L : List Span) (k : Int) : Int := L.foldr (fun x a => (if x.job = k then x.to' - x.from' else 0) + a) 0
theorem spanW_nil (k : Int) : spanW [] k = 0 := rfl
theorem spanW_cons (x : Span) (L : List Span) (k : Int) : spanW (x :: L) k = (if x.job = k then x.to' - x.from' else 0) + spanW L k := rfl
theorem spanW_app (A B : List Span) (k : Int) : spanW (A ++ B) k = spanW A k + spanW B k := by
 induction A with
 | nil => simp [spanW_nil]
 | cons x r ih => rw [List.cons_append, spanW_cons, spanW_cons, ih]; omega
theorem list_last {α : Type} [Inhabited α] {L : List α} (h : 0 < (L.length : Int)) : ∃ A x, L = A ++ [x] ∧ atI L ((L.length : Int) - 1) = x ∧ ∀ y, L.set ((L.length : Int) - 1).toNat y = A ++ [y] := by
 rcases List.eq_nil_or_concat L with e | ⟨A, x, e⟩
 ·rw [e] at h; simp at h
 ·rw [List.concat_eq_append] at e
  subst e
  refine ⟨A, x, rfl, atI_snoc A x, fun y => ?_⟩
  rw [LA, List.length_singleton, show (((A.length + 1 : Nat) : Int) - 1).toNat = A.length by omega, List.set_append_right _ _ (Nat.le_refl _), Nat.sub_self]; rfl
theorem addTick_cases (L : List Span) (r t : Int) : (∃ A x, L = A ++ [x] ∧ x.job = r ∧ x.to' = t ∧ addTick L r t = A ++ [{ x with to' := x.to' + 1 }]) ∨ ((∀ A x, L = A ++ [x] → ¬ (x.job = r ∧ x.to' = t)) ∧ addTick L r t = L ++ [⟨r, t, t + 1⟩]) := by
 unfold addTick
 by_cases hc : 0 < (L.length : Int) ∧ (atI L ((L.length : Int) - 1)).job = r ∧ (atI L ((L.length : Int) - 1)).to' = t
 ·left
  rw [if_pos hc]
  obtain ⟨A, x, h1, h2, h3⟩ := list_last hc.1
  rw [h2] at hc ⊢
  exact ⟨A, x, h1, hc.2.1, hc.2.2, h3 _⟩
 ·right
  rw [if_neg hc]
  refine ⟨fun A x h => ?_, rfl⟩
  rintro ⟨h1, h2⟩
  apply hc
  subst h
  rw [atI_snoc]
  exact ⟨by simp, h1, h2⟩
structure SpOk (l : List Task) (jobs : List Job) (n : Nat) (L : List Span) : Prop where
 run : ∀ x ∈ L, ∃ j a b : Nat, x = ⟨j, a, b⟩ ∧ a < b ∧ b ≤ n ∧ ∀ k, a ≤ k → k < b → who l jobs k = j
 sort : L.Pairwise fun x y => x.to' ≤ y.from'
 apart : L.Pairwise fun x y => x.to' = y.from' → x.job ≠ y.job
 all : ∀ k : Nat, k < n → 0 ≤ who l jobs k → ∃ x ∈ L, x.from' ≤ k ∧ (k : Int) < x.to'
 sum : ∀ k : Nat, k < jobs.length → spanW L k = dn l jobs k n
theorem sp_ok (S : Script l jobs) : ∀ n, SpOk l jobs n (st l jobs n).L
 | 0 => ⟨(fun x hx => by cases hx), List.Pairwise.nil, List.Pairwise.nil, (fun k hk => by omega), fun k hk => by rw [dn_zero hk]; rfl⟩
 | n + 1 => by
  have ih := sp_ok S n
  have hv := st_inv S n
  rcases step_cases S hv with ⟨h0, h⟩ | ⟨r, hr, hr2, hr3, h⟩
  ·have hw : who l jobs n = -1 := h0
   rw [st_succ, h]
   refine ⟨fun x hx => ?_, ih.sort, ih.apart, fun k hk hk0 => ?_, fun k hk => ?_⟩
   ·obtain ⟨j, a, b, e, h1, h2, h3⟩ := ih.run x hx
    exact ⟨j, a, b, e, h1, by omega, h3⟩
   ·by_cases e : k = n
    ·subst e; omega
    ·exact ih.all k (by omega) hk0
   ·rw [dn_succ S hk, hw, if_neg (by omega), Int.add_zero]; exact ih.sum k hk
  ·have hw : who l jobs n = r := hr2
   rw [st_succ, h]
   have eL : (rsWork jobs (st l jobs n) r).L = addTick (st l jobs n).L r n := by show addTick _ _ (st l jobs n).t = _; rw [st_t S]
   rw [eL]
   generalize (st l jobs n).L = L at ih ⊢
   have hle : ∀ x ∈ L, x.to' ≤ n := fun x hx => by
    obtain ⟨j, a, b, e, h1, h2, h3⟩ := ih.run x hx
    rw [e]; dsimp only; omega
   rcases addTick_cases L r n with ⟨A, x, hL, hxj, hxt, he⟩ | ⟨hno, he⟩
   ·rw [he]
    subst hL
    obtain ⟨j, a, b, e, h1, h2, h3⟩ := ih.run x (by simp)
    subst e
    dsimp only at hxj hxt
    have hb : b = n := by omega
    subst hb
    have hj : j = r := by omega
    subst hj
    have hs := List.pairwise_append.1 ih.sort
    have hp := List.pairwise_append.1 ih.apart
    refine ⟨fun y hy => ?_, ?_, ?_, fun k hk hk0 => ?_, fun k hk => ?_⟩
    ·rcases List.mem_append.1 hy with hy | hy
     ·obtain ⟨j', a', b', e', h1', h2', h3'⟩ := ih.run y (by simp [hy])
      exact ⟨j', a', b', e', h1', by omega, h3'⟩
     ·rw [List.mem_singleton.1 hy]
      refine ⟨j, a, b + 1, by simp, by omega, Nat.le_refl _, fun k k1 k2 => ?_⟩
      by_cases e : k = b
      ·rw [e]; exact hw
      ·exact h3 k k1 (by omega)
    ·refine List.pairwise_append.2 ⟨hs.1, List.pairwise_singleton _ _, fun y hy z hz => ?_⟩
     rw [List.mem_singleton.1 hz]
     exact hs.2.2 y hy ⟨j, a, b⟩ (List.mem_singleton.2 rfl)
    ·refine List.pairwise_append.2 ⟨hp.1, List.pairwise_singleton _ _, fun y hy z hz => ?_⟩
     rw [List.mem_singleton.1 hz]
     exact hp.2.2 y hy ⟨j, a, b⟩ (List.mem_singleton.2 rfl)
    ·by_cases e : k = b
     ·subst e
      exact ⟨_, List.mem_append_right _ (List.mem_singleton.2 rfl), by dsimp only; omega, by dsimp only; omega⟩
     ·obtain ⟨y, hy, q1, q2⟩ := ih.all k (by omega) hk0
      rcases List.mem_append.1 hy with hy | hy
      ·exact ⟨y, List.mem_append_left _ hy, q1, q2⟩
      ·rw [List.mem_singleton.1 hy] at q1 q2
       exact ⟨_, List.mem_append_right _ (List.mem_singleton.2 rfl), q1, by dsimp only at q2 ⊢; omega⟩
    ·rw [dn_succ S hk, ← ih.sum k hk, spanW_app, spanW_app, spanW_cons, spanW_cons, spanW_nil, hw]
     dsimp only
     by_cases e : (j : Int) = k
     ·rw [if_pos e, if_pos e, if_pos (by omega)]; omega
     ·rw [if_neg e, if_neg e, if_neg (by omega)]; omega
   ·rw [he]
    refine ⟨fun y hy => ?_, ?_, ?_, fun k hk hk0 => ?_, fun k hk => ?_⟩
    ·rcases List.mem_append.1 hy with hy | hy
     ·obtain ⟨j', a', b', e', h1', h2', h3'⟩ := ih.run y hy
      exact ⟨j', a', b', e', h1', by omega, h3'⟩
     ·rw [List.mem_singleton.1 hy]
      exact ⟨r, n, n + 1, by simp, by omega, Nat.le_refl _, fun k k1 k2 => by rw [show k = n by omega]; exact hw⟩
    ·refine List.pairwise_append.2 ⟨ih.sort, List.pairwise_singleton _ _, fun y hy z hz => ?_⟩
     rw [List.mem_singleton.1 hz]
     exact hle y hy
    ·refine List.pairwise_append.2 ⟨ih.apart, List.pairwise_singleton _ _, fun y hy z hz => ?_⟩
     rw [List.mem_singleton.1 hz]
     dsimp only
     intro h1 h2
     rcases List.eq_nil_or_concat L with e | ⟨A, x, e⟩
     ·rw [e] at hy; cases hy
     ·rw [List.concat_eq_append] at e
      have hs := ih.sort
      rw [e] at hy hs
      rcases List.mem_append.1 hy with hy | hy
      ·have h3 := (List.pairwise_append.1 hs).2.2 y hy x (List.mem_singleton.2 rfl)
       obtain ⟨j', a', b', e', h1', h2', h3'⟩ := ih.run x (by rw [e]; simp)
       have h4 := hle x (by rw [e]; simp)
       rw [e'] at h3 h4
       dsimp only at h3 h4
       omega
      ·rw [List.mem_singleton.1 hy] at h1 h2
       exact hno A x e ⟨h2, h1⟩
    ·by_cases e : k = n
     ·subst e
      exact ⟨_, List.mem_append_right _ (List.mem_singleton.2 rfl), by dsimp only; omega, by dsimp only; omega⟩
     ·obtain ⟨y, hy, q1, q2⟩ := ih.all k (by omega) hk0
      exact ⟨y, List.mem_append_left _ hy, q1, q2⟩
    ·rw [dn_succ S hk, ← ih.sum k hk, spanW_app, spanW_cons, spanW_nil, hw]
     dsimp only
     by_cases e : (r : Int) = k
     ·rw [if_pos e, if_pos e]; omega
     ·rw [if_neg e, if_neg e]; omega
structure RunAt (l : List Task) (jobs : List Job) (R : RS) (T : Nat) : Prop where
 is : R = st l jobs T
 done : ∀ i, i < jobs.length → dn l jobs i T = (jb jobs i).work
 sp : SpOk l jobs T R.L
 elen : R.ends.length = jobs.length
 ends : ∀ i, i < jobs.length → ∃ e : Nat, atI R.ends (i : Int) = e ∧ e ≤ T ∧ EndAt l jobs i e
theorem run_at (S : Script l jobs) {e : Int} (he : e < 0) : ∃ T, RunAt l jobs (untilP l jobs e (rsInit jobs.length)) T := by
 obtain ⟨T, h1, h2⟩ := all_end S he
 rw [h1]
 exact ⟨T, rfl, h2, sp_ok S T, (st_inv S T).elen, fun i hi => (ends_at S hi T).2 (h2 i hi)⟩
end Go.L.Try
namespace Go.L.Try
open Go Go.L
variable {l : List Task} {jobs : List Job} {R : RS} {T : Nat}
theorem dn_le (S : Script l jobs) {i : Nat} (hi : i < jobs.length) : ∀ n : Nat, dn l jobs i n ≤ max 0 (n - (jb jobs i).release)
 | 0 => by rw [dn_zero hi]; omega
 | n + 1 => by
  have ih := dn_le S hi n
  have hd := dn_succ S hi n
  by_cases e : who l jobs n = i
  ·have := who_rel S e
   rw [if_pos e] at hd; omega
  ·rw [if_neg e] at hd; omega
theorem EndAt.late (S : Script l jobs) {i e : Nat} (h : EndAt l jobs i e) (hi : i < jobs.length) : (jb jobs i).release + (jb jobs i).work ≤ e := by
 have h1 := (h.lt S hi e).2 (Nat.le_refl _)
 have h2 := dn_le S hi e
 have := (S.ok.work _ (jb_mem hi)).1
 omega
theorem since (S : Script l jobs) {q : Int → Int} (hq : ∀ i : Nat, i < jobs.length → ∀ c ∈ (jb jobs i).cuts, c ≤ q i) {n i : Nat} (h : who l jobs n = i) : ∃ σ, σ ≤ n ∧ (∀ k, σ ≤ k → k ≤ n → who l jobs k = i) ∧ (n = σ ∨ ((n - σ : Nat) : Int) < q i) ∧
  ∀ k, k < jobs.length → (jb jobs k).release ≤ σ → dn l jobs k σ < (jb jobs k).work → (atI l (jb jobs i).task).P ≤ (atI l (jb jobs k).task).P ∧ ((atI l (jb jobs i).task).P = (atI l (jb jobs k).task).P → i ≤ k) := by
 rcases who_cases (l := l) (jobs := jobs) n with ⟨h1, h2, h3⟩ | ⟨_, h2⟩
 ·rw [h] at h3
  rw [← h3] at h2
  obtain ⟨σ, s1, s2, s3, pre, c, post, e1, e2, e3, e4⟩ := sec_at S h3.symm h2
  refine ⟨σ, by omega, fun k k1 k2 => ?_, .inr ?_, s3⟩
  ·by_cases e : k = n
   ·rw [e]; exact h
   ·exact s2 k k1 (by omega)
  ·have := hq i (who_dn S h).1 c (by rw [e1]; simp)
   omega
 ·refine ⟨n, Nat.le_refl _, fun k k1 k2 => by rw [show k = n by omega]; exact h, .inl rfl, fun k hk hr hd => ?_⟩
  rw [h2] at h
  exact pickN_best h k hk (by rw [st_t S]; exact hr) hd
end Go.L.Try
namespace Go.L.Try
open Go Go.L
variable {l l' : List Task} {jobs jobs' : List Job}
def inSec (l : List Task) (jobs : List Job) (i n : Nat) : Bool := withinP (jb jobs i).cuts 0 (dn l jobs i n)
def bestAt (l : List Task) (jobs : List Job) (i n : Nat) : Prop := i < jobs.length ∧ (jb jobs i).release ≤ n ∧ dn l jobs i n < (jb jobs i).work ∧ ∀ k : Nat, k < jobs.length → (jb jobs k).release ≤ n → dn l jobs k n < (jb jobs k).work → (atI l (jb jobs i).task).P < (atI l (jb jobs k).task).P ∨ ((atI l (jb jobs i).task).P ≤ (atI l (jb jobs k).task).P ∧ i ≤ k)
theorem who_pick (S : Script l jobs) {n : Nat} (h : ∀ i, i < jobs.length → inSec l jobs i n = false) : who l jobs n = pickN l jobs (st l jobs n).done n jobs.length := by
 rcases who_cases (l := l) (jobs := jobs) n with ⟨h1, h2, h3⟩ | ⟨_, h2⟩
 ·obtain ⟨r, hr⟩ : ∃ r : Nat, (st l jobs n).runs = r := ⟨(st l jobs n).runs.toNat, by omega⟩
  have hlt := (st_inv S n).runs.2
  rw [hr] at h2 hlt
  have := h r (by omega)
  unfold inSec at this
  have h2' : withinP (jb jobs r).cuts 0 (dn l jobs r n) = true := h2
  rw [this] at h2'; cases h2'
 ·rw [h2, st_t S]
theorem best_of (S : Script l jobs) {i n : Nat} (h : ∀ i, i < jobs.length → inSec l jobs i n = false) (hw : who l jobs n = i) : bestAt l jobs i n := by
 obtain ⟨hi, hd⟩ := who_dn S hw
 refine ⟨hi, who_rel S hw, hd, fun k hk hr hdk => ?_⟩
 have h1 := hw
 rw [who_pick S h] at h1
 have h2 := pickN_best h1 k hk hr hdk
 by_cases e : (atI l (jb jobs i).task).P = (atI l (jb jobs k).task).P
 ·exact .inr ⟨h2.1, h2.2 e⟩
 ·left; omega
theorem st_L (S : Script l jobs) (n : Nat) : (st l jobs (n + 1)).L = if who l jobs n < 0 then (st l jobs n).L else addTick (st l jobs n).L (who l jobs n) n := by
 rcases step_cases S (st_inv S n) with ⟨h0, h⟩ | ⟨r, hr, hr2, hr3, h⟩
 ·have hw : who l jobs n = -1 := h0
  rw [st_succ, h, hw, if_pos (by decide)]
 ·have hw : who l jobs n = r := hr2
  rw [st_succ, h, hw, if_neg (by omega)]
  show addTick _ _ (st l jobs n).t = _
  rw [st_t S]
def laterJ (k : Int) (j : Job) : Job := { j with arrive := j.arrive + k, release := j.release + k }
def laterS (k : Int) (x : Span) : Span := ⟨x.job, x.from' + k, x.to' + k⟩
structure LaterAt (l : List Task) (jobs : List Job) (k n : Nat) : Prop where
 dn : ∀ i, i < jobs.length → Try.dn l (jobs.map (laterJ k)) i (n + k) = Try.dn l jobs i n
 L : (st l (jobs.map (laterJ k)) (n + k)).L = ((st l jobs n).L).map (laterS k)
end Go.L.Try
namespace Go.L.Try
open Go Go.L
variable {l l' : List Task} {jobs jobs' : List Job}
def sumF (f : Nat → Int) : Nat → Int
 | 0 => 0
 | n + 1 => sumF f n + f n
theorem sumF_le {f g : Nat → Int} : ∀ {m : Nat}, (∀ i, i < m → f i ≤ g i) → sumF f m ≤ sumF g m
 | 0, _ => Int.le_refl _
 | m + 1, h => by
  have h1 := sumF_le (m := m) fun i hi => h i (by omega)
  have h2 := h m (by omega)
  show sumF f m + f m ≤ sumF g m + g m
  omega
theorem sumF_eq {f g : Nat → Int} : ∀ {m : Nat}, (∀ i, i < m → f i = g i) → sumF f m = sumF g m
 | 0, _ => rfl
 | m + 1, h => by
  show sumF f m + f m = sumF g m + g m
  rw [sumF_eq (m := m) fun i hi => h i (by omega), h m (by omega)]
theorem sumF_one {f g : Nat → Int} {r : Nat} : ∀ {m : Nat}, r < m → (∀ i, i < m → g i = f i + if i = r then 1 else 0) → sumF g m = sumF f m + 1
 | 0, h, _ => by omega
 | m + 1, h, he => by
  show sumF g m + g m = sumF f m + f m + 1
  have h1 := he m (by omega)
  by_cases e : m = r
  ·subst e
   rw [if_pos rfl] at h1
   rw [sumF_eq (f := g) (g := f) fun i hi => by have := he i (by omega); rw [if_neg (by omega)] at this; omega]
   omega
  ·rw [if_neg e] at h1
   rw [sumF_one (m := m) (by omega) fun i hi => he i (by omega)]; omega
def dnAll (l : List Task) (jobs : List Job) (n : Nat) : Int := sumF (fun i => dn l jobs i n) jobs.length
def allW (jobs : List Job) : Int := sumF (fun i => (jb jobs i).work) jobs.length
theorem dnAll_succ (S : Script l jobs) (n : Nat) : dnAll l jobs (n + 1) = dnAll l jobs n + if who l jobs n < 0 then 0 else 1 := by
 unfold dnAll
 by_cases h : who l jobs n < 0
 ·rw [if_pos h, Int.add_zero]
  exact sumF_eq fun i hi => by rw [dn_succ S hi, if_neg (by omega), Int.add_zero]
 ·rw [if_neg h]
  obtain ⟨r, hr⟩ : ∃ r : Nat, who l jobs n = r := ⟨(who l jobs n).toNat, by omega⟩
  refine sumF_one (r := r) (who_dn S hr).1 fun i hi => ?_
  rw [dn_succ S hi, hr]
  by_cases e : i = r
  ·rw [if_pos e, if_pos (by omega)]
  ·rw [if_neg e, if_neg (by omega)]
theorem dnAll_zero : dnAll l jobs 0 = 0 := by
 unfold dnAll
 have key : ∀ m, m ≤ jobs.length → sumF (fun i => dn l jobs i 0) m = 0 := by
  intro m
  induction m with
  | zero => intro _; rfl
  | succ m ih =>
   intro hm
   show sumF (fun i => dn l jobs i 0) m + dn l jobs m 0 = 0
   rw [ih (by omega), dn_zero (by omega)]; rfl
 exact key _ (Nat.le_refl _)
variable {R R' : RS} {T T' : Nat}
end Go.L.Try
namespace Go.L.Try
open Go Go.L
theorem runU_is {l : List Task} {jobs : List Job} (hb : legalB l jobs = true) (hs : sumWork jobs ≤ 1099511627776) : runU l jobs 9223372036854775807 = untilP l jobs (-1) (rsInit jobs.length) := by
 unfold runU
 rw [if_pos hb, untilP_ever (legal_ok hb).1 hs (rsInit_inv jobs (legal_ok hb).1.work)]
 rfl
theorem runU_at {l : List Task} {jobs : List Job} (hb : legalB l jobs = true) (hs : sumWork jobs ≤ 1099511627776) : ∃ T, RunAt l jobs (runU l jobs 9223372036854775807) T := by
 rw [runU_is hb hs]; exact run_at (script_of hb) (by decide)
theorem runAt_T {l : List Task} {jobs : List Job} (hb : legalB l jobs = true) (hs : sumWork jobs ≤ 1099511627776) {T : Nat} (r : RunAt l jobs (runU l jobs 9223372036854775807) T) : (T : Int) ≤ 1117105961155840 := by
 have S := script_of hb
 have h1 := (untilP_ind (e := -1) S.ok (fun _ => True) (fun _ _ _ _ => trivial) (rsInit_inv jobs S.ok.work) trivial).1
 rw [← runU_is hb hs, r.is] at h1
 have h2 := h1.t1
 have h3 := h1.sum
 rw [st_t S] at h2
 unfold lastRel at h2
 omega
theorem cuts_q {l : List Task} {jobs : List Job} (hb : legalB l jobs = true) (i : Nat) (hi : i < jobs.length) : ∀ c ∈ (jb jobs i).cuts, c ≤ (atI l (jb jobs i).task).Q := by
 have h3 := (legal_job hb hi).2.2
 have key : ∀ {q : Int} {cs : List Int} {w : Int}, cutsOk q cs w = true → ∀ c ∈ cs, c ≤ q := by
  intro q cs
  induction cs with
  | nil => intro w _ c hc; cases hc
  | cons x r ih =>
   intro w h c hc
   simp only [cutsOk, Bool.and_eq_true, decide_eq_true_eq] at h
   rcases List.mem_cons.1 hc with rfl | hc
   ·exact h.1.2.1
   ·exact ih h.2 c hc
 exact key h3
theorem RdJ.open_ {h : Heap} {v : Value} {jobs : List Job} (r : RdJ h v jobs) : ∃ jl : List (NV Job), jobs = jl.map NV.j ∧ Rd 5 (encN hdJ) h v jl := by
 obtain ⟨jl, h1, h2, _⟩ := r.is
 exact ⟨jl, h1.symm, h2⟩
end Go.L.Try
namespace Go.L.Try
open Go Go.L
variable {l : List Task} {jobs : List Job} {R R' : RS} {T T' : Nat}
theorem EndAt.same (S : Script l jobs) {i e e' : Nat} (hi : i < jobs.length) (h : EndAt l jobs i e) (h' : EndAt l jobs i e') : e = e' := by
 have h1 := (h'.lt S hi e).1 ((h.lt S hi e).2 (Nat.le_refl _))
 have h2 := (h.lt S hi e').1 ((h'.lt S hi e').2 (Nat.le_refl _))
 omega
theorem spansOk_st (S : Script l jobs) {n : Nat} (hn : (n : Int) ≤ 18693845155840) : SpansOk (st l jobs n).L := fun x hx => by
 obtain ⟨j, a, b, e, h1, h2, _⟩ := (sp_ok S n).run x hx
 rw [e]
 dsimp only
 omega
structure CutAt (l : List Task) (jobs : List Job) (e : Int) (R : RS) : Prop where
 ok : SpansOk R.L
 elen : R.ends.length = jobs.length
 ends : endsN jobs R.L jobs.length = R.ends
 cut : ∀ {A : RS} {T : Nat}, RunAt l jobs A T → ∀ i : Nat, i < jobs.length → (atI A.ends (i : Int) ≤ e → atI R.ends (i : Int) = atI A.ends (i : Int)) ∧ (e < atI A.ends (i : Int) → atI R.ends (i : Int) = -1)
end Go.L.Try
namespace Go.L.Try
open Go Go.L
variable {l : List Task} {jobs : List Job} {R : RS} {T : Nat}
def sumL : List Span → Int
 | [] => 0
 | x :: r => x.to' - x.from' + sumL r
theorem sumL_app : ∀ A B : List Span, sumL (A ++ B) = sumL A + sumL B
 | [], B => by simp [sumL]
 | x :: r, B => by rw [List.cons_append, sumL, sumL, sumL_app r B]; omega
theorem sumL_tick (L : List Span) (r t : Int) : sumL (addTick L r t) = sumL L + 1 := by
 rcases addTick_cases L r t with ⟨A, x, h1, _, _, h4⟩ | ⟨_, h4⟩
 ·rw [h4, h1, sumL_app, sumL_app]; simp only [sumL]; omega
 ·rw [h4, sumL_app]; simp only [sumL]; omega
theorem sumL_st (S : Script l jobs) : ∀ n, sumL (st l jobs n).L = dnAll l jobs n
 | 0 => by rw [dnAll_zero]; rfl
 | n + 1 => by
  rw [st_L S, dnAll_succ S]
  split
  ·rw [sumL_st S n]; omega
  ·rw [sumL_tick, sumL_st S n]
def lastB (B : List (Int × Int)) : Nat → Int
 | 0 => -1
 | k + 1 => (B.getD k (0, 0)).2
def sumBK (B : List (Int × Int)) : Nat → Int
 | 0 => 0
 | k + 1 => sumBK B k + ((B.getD k (0, 0)).2 - (B.getD k (0, 0)).1)
structure BusyOk (jobs : List Job) (B : List (Int × Int)) : Prop where
 row : ∀ {k : Nat} {p : Int × Int}, B[k]? = some p → lastB B k < p.1 ∧ p.1 < p.2 ∧ ∃ j : Nat, j < jobs.length ∧ (jb jobs j).release = p.1
 sum : sumBK B B.length = allW jobs
end Go.L.Try
namespace Go.L.Try
open Go Go.L
structure JobOK (l : List Task) (j : Job) : Prop where
 task : 0 ≤ j.task ∧ j.task < l.length
 arrive : 0 ≤ j.arrive ∧ j.arrive ≤ 17592186044416
 release : j.arrive ≤ j.release ∧ j.release ≤ j.arrive + (atI l j.task).J
 work : 1 ≤ j.work ∧ j.work ≤ (atI l j.task).C
 cuts : cutsOk (atI l j.task).Q j.cuts j.work = true
theorem jobOK_of {l : List Task} {jobs : List Job} (h : legalB l jobs = true) {i : Nat} (hi : i < jobs.length) : JobOK l (jb jobs i) := by
 obtain ⟨h1, _, h3⟩ := legal_job h hi
 unfold jobNums at h1
 dsimp only at h1
 exact ⟨h1.1, h1.2.1, ⟨h1.2.2.2.1, h1.2.2.2.2.1⟩, h1.2.2.2.2.2, h3⟩
end Go.L.Try
