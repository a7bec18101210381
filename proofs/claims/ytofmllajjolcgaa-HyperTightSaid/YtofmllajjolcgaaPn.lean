/- RtaLeast: a bound is enough, and nothing less is. -/
import Derived.Test.YtofmllajjolcgaaPc
import Derived.Test.YtofmllajjolcgaaPa
import Derived.Test.YtofmllajjolcgaaPm
import Derived.Test.YtofmllajjolcgaaPl
import Derived.Test.YtofmllajjolcgaaPh
set_option linter.unusedVariables false
set_option linter.unusedSimpArgs false
set_option maxRecDepth 100000
set_option maxHeartbeats 2000000
namespace Go.L.Try
open Go Go.L
variable {E : Env} {G : Nat}
theorem leastN_none {l : List Task} {i : Int} : ∀ {n : Nat} {w : Int}, leastN l i n w = none → ∀ v, w ≤ v → v < w + n → v < needP l i v
 | 0, w, _, v, h1, h2 => by omega
 | n + 1, w, h, v, h1, h2 => by
  unfold leastN at h
  split at h
  ·cases h
  ·rename_i hn
   by_cases e : v = w
   ·subst e; omega
   ·exact leastN_none h v (by omega) (by omega)
theorem leastN_some {l : List Task} {i z : Int} : ∀ {n : Nat} {w : Int}, leastN l i n w = some z → (w ≤ z ∧ z < w + n) ∧ needP l i z ≤ z ∧ ∀ v, w ≤ v → v < z → v < needP l i v
 | 0, w, h => by cases h
 | n + 1, w, h => by
  unfold leastN at h
  split at h
  ·rename_i hn
   cases h
   exact ⟨by omega, hn, fun v h1 h2 => by omega⟩
  ·rename_i hn
   obtain ⟨h1, h2, h3⟩ := leastN_some h
   refine ⟨by omega, h2, fun v a b => ?_⟩
   by_cases e : v = w
   ·subst e; omega
   ·exact h3 v (by omega) b
end Go.L.Try
set_option maxHeartbeats 1000000
namespace Go.L.Try
open Go Go.L
def hN (l : List Task) (i w : Int) : Nat → Int
 | 0 => 0
 | k + 1 => if (atI l (k : Int)).P < (atI l i).P then hN l i w k + ((w + (atI l (k : Int)).J + (atI l (k : Int)).T - 1) / (atI l (k : Int)).T) * (atI l (k : Int)).C else hN l i w k
structure Mid (t : Task) : Prop where
 C : 1 ≤ t.C ∧ t.C ≤ 134217728
 T : 1 ≤ t.T ∧ t.T ≤ 1073741824
 J : 0 ≤ t.J ∧ t.J ≤ 536870912
theorem term_in {t : Task} (m : Mid t) {w : Int} (hw : 0 ≤ w ∧ w ≤ 1073741824) : oftenP t w = (w + t.J + t.T - 1) / t.T ∧ 0 ≤ ((w + t.J + t.T - 1) / t.T) * t.C ∧ ((w + t.J + t.T - 1) / t.T) * t.C ≤ 576460752303423488 := by
 obtain ⟨hC, hT, hJ⟩ := m
 have e : oftenP t w = (w + t.J + t.T - 1) / t.T := by
  unfold oftenP sat
  rw [if_pos (by omega)]
 have h1 : 0 ≤ (w + t.J + t.T - 1) / t.T := Int.ediv_nonneg (by omega) (by omega)
 have h2 : (w + t.J + t.T - 1) / t.T ≤ 2684354560 := Int.le_trans (Int.ediv_le_self _ (by omega)) (by omega)
 refine ⟨e, Int.mul_nonneg h1 (by omega), ?_⟩
 exact Int.le_trans (Int.mul_le_mul h2 hC.2 (by omega) (by omega)) (by decide)
theorem nosat {l : List Task} (hl : ∀ t ∈ l, Mid t) (hn : l.length ≤ 6) {i w : Int} (hw : 0 ≤ w ∧ w ≤ 1073741824) : ∀ n : Nat, n ≤ l.length → higherN l i w n = hN l i w n ∧ 0 ≤ hN l i w n ∧ hN l i w n ≤ n * 576460752303423488
 | 0, _ => by simp [higherN, hN]
 | n + 1, h => by
  obtain ⟨e, h1, h2⟩ := nosat hl hn (i := i) hw n (by omega)
  obtain ⟨e3, h4, h5⟩ := term_in (hl _ (atI_mem (l := l) (i := (n : Int)) (by omega) (by omega))) hw
  unfold higherN hN
  split
  ·rw [e, e3]
   generalize ((w + (atI l (n : Int)).J + (atI l (n : Int)).T - 1) / (atI l (n : Int)).T) * (atI l (n : Int)).C = x at *
   have e5 : sat x = x := by unfold sat; rw [if_pos (by omega)]
   rw [e5]
   have e6 : sat (hN l i w n + x) = hN l i w n + x := by unfold sat; rw [if_pos (by omega)]
   rw [e6]
   exact ⟨rfl, by omega, by omega⟩
  ·exact ⟨e, h1, by omega⟩
def sc (k : Int) (t : Task) : Task := ⟨t.name, t.C * k, t.T * k, t.D * k, t.J * k, 1, t.P⟩
structure Sml (t : Task) : Prop where
 ok : okTask t
 C : 1 ≤ t.C ∧ t.C ≤ 4
 D : t.C ≤ t.D ∧ t.D ≤ 14
 J : 0 ≤ t.J ∧ t.C + t.J ≤ t.D
 T : t.D ≤ t.T ∧ t.T ≤ 20
 Q : t.Q = 1
end Go.L.Try
namespace Go.L.Try
open Go Go.L
variable {l : List Task} {jobs : List Job} {i : Nat}
theorem sumF_at {f g : Nat → Int} {r : Nat} {c : Int} : ∀ {m : Nat}, r < m → (∀ h, h < m → g h = f h + if h = r then c else 0) → sumF g m = sumF f m + c
 | 0, h, _ => by omega
 | m + 1, h, he => by
  show sumF g m + g m = sumF f m + f m + c
  have h1 := he m (by omega)
  by_cases e : m = r
  ·subst e
   rw [if_pos rfl] at h1
   rw [sumF_eq (f := g) (g := f) fun i hi => by have := he i (by omega); rw [if_neg (by omega)] at this; omega]
   omega
  ·rw [if_neg e] at h1
   rw [sumF_at (m := m) (by omega) fun i hi => he i (by omega)]; omega
theorem sumF_strict {f g : Nat → Int} {r : Nat} : ∀ {m : Nat}, r < m → (∀ h, h < m → g h ≤ f h) → g r + 1 ≤ f r → sumF g m + 1 ≤ sumF f m
 | 0, h, _, _ => by omega
 | m + 1, h, he, hr => by
  show sumF g m + g m + 1 ≤ sumF f m + f m
  have h1 := he m (by omega)
  by_cases e : m = r
  ·subst e
   have := sumF_le (f := g) (g := f) (m := m) fun i hi => he i (by omega)
   omega
  ·have := sumF_strict (m := m) (by omega) (fun i hi => he i (by omega)) hr
   omega
def lev (l : List Task) (jobs : List Job) (i m : Nat) : Prop := (atI l (jb jobs m).task).P ≤ (atI l (i : Int)).P
instance (l : List Task) (jobs : List Job) (i m : Nat) : Decidable (lev l jobs i m) := by unfold lev; infer_instance
def quiet (l : List Task) (jobs : List Job) (i t : Nat) : Prop := ∀ m, m < jobs.length → lev l jobs i m → (jb jobs m).release < t → dn l jobs m t = (jb jobs m).work
theorem quiet_zero (S : Script l jobs) : quiet l jobs i 0 := fun m hm _ hr => by
 have := (S.ok.rel _ (jb_mem hm)).1
 have hr' : (jb jobs m).release < ((0 : Nat) : Int) := hr
 omega
theorem not_quiet {t : Nat} (h : ¬ quiet l jobs i t) (S : Script l jobs) : ∃ m, m < jobs.length ∧ lev l jobs i m ∧ (jb jobs m).release < t ∧ dn l jobs m t < (jb jobs m).work := by
 apply Classical.byContradiction
 intro hn
 apply h
 intro m hm hl hr
 have h1 := (dn_in S hm t).2
 have h2 : ¬ dn l jobs m t < (jb jobs m).work := fun hd => hn ⟨m, hm, hl, hr, hd⟩
 omega
theorem last_quiet (S : Script l jobs) : ∀ R : Nat, ∃ t0, t0 ≤ R ∧ quiet l jobs i t0 ∧ ∀ t, t0 < t → t ≤ R → ¬ quiet l jobs i t
 | 0 => ⟨0, Nat.le_refl _, quiet_zero S, fun t h1 h2 => by omega⟩
 | R + 1 => by
  by_cases h : quiet l jobs i (R + 1)
  ·exact ⟨R + 1, Nat.le_refl _, h, fun t h1 h2 => by omega⟩
  ·obtain ⟨t0, h1, h2, h3⟩ := last_quiet S R
   refine ⟨t0, by omega, h2, fun t h4 h5 => ?_⟩
   by_cases e : t = R + 1
   ·rw [e]; exact h
   ·exact h3 t h4 (by omega)
def wrk (l : List Task) (jobs : List Job) (i t0 n : Nat) : Int := sumF (fun m => if lev l jobs i m then dn l jobs m (t0 + n) - dn l jobs m t0 else 0) jobs.length
open Classical in
theorem wrk_succ (S : Script l jobs) (t0 n : Nat) : wrk l jobs i t0 (n + 1) = wrk l jobs i t0 n + if ∃ r : Nat, who l jobs (t0 + n) = r ∧ lev l jobs i r then 1 else 0 := by
 unfold wrk
 have key : ∀ m, m < jobs.length → dn l jobs m (t0 + (n + 1)) = dn l jobs m (t0 + n) + if who l jobs (t0 + n) = m then 1 else 0 := fun m hm => by
  rw [← Nat.add_assoc]; exact dn_succ S hm _
 by_cases h : ∃ r : Nat, who l jobs (t0 + n) = r ∧ lev l jobs i r
 ·rw [if_pos h]
  obtain ⟨r, h1, h2⟩ := h
  refine sumF_at (r := r) (who_dn S h1).1 fun m hm => ?_
  rw [key m hm, h1]
  by_cases e : m = r
  ·subst e; rw [if_pos h2, if_pos h2, if_pos rfl, if_pos rfl]; omega
  ·have e2 : ¬ ((r : Int) = (m : Int)) := by omega
   rw [if_neg e, if_neg e2]; split <;> omega
 ·rw [if_neg h, Int.add_zero]
  refine sumF_eq fun m hm => ?_
  rw [key m hm]
  split
  ·rename_i hl
   rw [if_neg fun e => h ⟨m, e, hl⟩]; omega
  ·rfl
theorem window_len (hb : legalB l jobs = true) {B : Int} (hB : 0 ≤ B) (hq : ∀ m, m < jobs.length → ¬ lev l jobs i m → (atI l (jb jobs m).task).Q - 1 ≤ B) {t0 : Nat} : ∀ n : Nat, (∀ t, t0 < t → t ≤ t0 + n → ¬ quiet l jobs i t) → (n : Int) ≤ wrk l jobs i t0 n + min (n : Int) B
 | 0, _ => by
  have : wrk l jobs i t0 0 = 0 := by
   unfold wrk
   have h0 : ∀ m, sumF (fun m => if lev l jobs i m then dn l jobs m (t0 + 0) - dn l jobs m t0 else 0) m = 0 := by
    intro m
    induction m with
    | zero => rfl
    | succ m ih => show _ + _ = (0 : Int); rw [ih, Nat.add_zero]; dsimp only; split <;> omega
   exact h0 _
  rw [this]; omega
 | n + 1, hn => by
  have S := script_of hb
  have ih := window_len hb hB hq (t0 := t0) n fun t h1 h2 => hn t h1 (by omega)
  have hs := wrk_succ (i := i) S t0 n
  by_cases h : ∃ r : Nat, who l jobs (t0 + n) = r ∧ lev l jobs i r
  ·rw [if_pos h] at hs; omega
  ·rw [if_neg h] at hs
   have pend : ∀ t, t0 ≤ t → t ≤ t0 + n → ∃ m, m < jobs.length ∧ lev l jobs i m ∧ (jb jobs m).release ≤ t ∧ dn l jobs m t < (jb jobs m).work := fun t h1 h2 => by
    obtain ⟨m, m1, m2, m3, m4⟩ := not_quiet (hn (t + 1) (by omega) (by omega)) S
    have := dn_mono S m1 (show t ≤ t + 1 by omega)
    exact ⟨m, m1, m2, by omega, by omega⟩
   obtain ⟨m, m1, m2, m3, m4⟩ := pend (t0 + n) (by omega) (Nat.le_refl _)
   have hw : 0 ≤ who l jobs (t0 + n) := by
    rcases Int.lt_or_le (who l jobs (t0 + n)) 0 with h1 | h1
    ·have := who_none S h1 m1 m3; omega
    ·exact h1
   obtain ⟨r, hr⟩ : ∃ r : Nat, who l jobs (t0 + n) = r := ⟨(who l jobs (t0 + n)).toNat, by omega⟩
   have hnl : ¬ lev l jobs i r := fun hl => h ⟨r, hr, hl⟩
   have hrl := (who_dn S hr).1
   obtain ⟨σ, s1, s2, s3, s4⟩ := since S (q := fun j => (atI l (atI jobs j).task).Q) (fun j hj c hc => cuts_q hb j hj c hc) hr
   have hσ : σ < t0 := by
    rcases Nat.lt_or_ge σ t0 with h1 | h1
    ·exact h1
    ·exfalso
     obtain ⟨k, k1, k2, k3, k4⟩ := pend σ h1 s1
     have h5 := (s4 k k1 k3 k4).1
     unfold lev at k2 hnl
     omega
   have h6 := hq r hrl hnl
   have h7 : ((t0 + n - σ : Nat) : Int) < (atI l (jb jobs r).task).Q := by
    rcases s3 with h8 | h8
    ·omega
    ·exact h8
   omega
def inW (jobs : List Job) (h t0 w m : Nat) : Prop := (jb jobs m).task = h ∧ (t0 : Int) ≤ (jb jobs m).release ∧ (jb jobs m).release < ((t0 + w : Nat) : Int)
instance (jobs : List Job) (h t0 w m : Nat) : Decidable (inW jobs h t0 w m) := by unfold inW; infer_instance
def cntW (jobs : List Job) (h t0 w : Nat) : Nat → Int
 | 0 => 0
 | m + 1 => cntW jobs h t0 w m + if inW jobs h t0 w m then 1 else 0
theorem cntW_succ (jobs : List Job) (h t0 w m : Nat) : cntW jobs h t0 w (m + 1) = cntW jobs h t0 w m + if inW jobs h t0 w m then 1 else 0 := rfl
theorem cntW_at (hb : legalB l jobs = true) (h t0 w : Nat) : ∀ M, M ≤ jobs.length → 0 ≤ cntW jobs h t0 w M ∧ (cntW jobs h t0 w M = 0 ∨ ∃ m, m < M ∧ inW jobs h t0 w m ∧ (t0 : Int) - (atI l (h : Int)).J + (cntW jobs h t0 w M - 1) * (atI l (h : Int)).T ≤ (jb jobs m).arrive)
 | 0, _ => ⟨Int.le_refl _, .inl rfl⟩
 | M + 1, hM => by
  obtain ⟨h0, ih⟩ := cntW_at hb h t0 w M (by omega)
  have hj := jobOK_of hb (show M < jobs.length by omega)
  unfold cntW
  by_cases hc : inW jobs h t0 w M
  ·rw [if_pos hc]
   refine ⟨by omega, .inr ⟨M, by omega, hc, ?_⟩⟩
   have hrel := hj.release.2
   rw [hc.1] at hrel
   rcases ih with ih | ⟨m, m1, m2, m3⟩
   ·rw [ih]
    have := hc.2.1
    simp only [Int.zero_add, Int.sub_self, Int.zero_mul]
    omega
   ·have h5 := arrive_le hb M m1 (by omega) (by show (jb jobs m).task = (jb jobs M).task; rw [m2.1, hc.1])
    have h6 : (jb jobs m).arrive + (atI l (jb jobs M).task).T ≤ (jb jobs M).arrive := h5
    rw [hc.1] at h6
    have e : (cntW jobs h t0 w M + 1 - 1) * (atI l (h : Int)).T = (cntW jobs h t0 w M - 1) * (atI l (h : Int)).T + (atI l (h : Int)).T := by
     rw [Int.add_sub_cancel, Int.sub_mul, Int.one_mul]; omega
    rw [e]; omega
  ·rw [if_neg hc, Int.add_zero]
   refine ⟨h0, ?_⟩
   rcases ih with ih | ⟨m, m1, m2, m3⟩
   ·exact .inl ih
   ·exact .inr ⟨m, by omega, m2, m3⟩
theorem cntW_le (hb : legalB l jobs = true) {h t0 w : Nat} (hT : 1 ≤ (atI l (h : Int)).T) (hJ : 0 ≤ (atI l (h : Int)).J) (hw : 1 ≤ w) : 0 ≤ cntW jobs h t0 w jobs.length ∧ (cntW jobs h t0 w jobs.length - 1) * (atI l (h : Int)).T < w + (atI l (h : Int)).J := by
 obtain ⟨h0, h1⟩ := cntW_at hb h t0 w jobs.length (Nat.le_refl _)
 refine ⟨h0, ?_⟩
 rcases h1 with h1 | ⟨m, m1, m2, m3⟩
 ·rw [h1]
  have : (0 - 1 : Int) * (atI l (h : Int)).T = -(atI l (h : Int)).T := by rw [Int.zero_sub, Int.neg_mul, Int.one_mul]
  rw [this]; omega
 ·have hj := (jobOK_of hb m1).release.1
  have := m2.2.2
  omega
def askN (l : List Task) (i : Nat) (w : Int) : Nat → Int := sumF fun h => if (atI l (h : Int)).P < (atI l (i : Int)).P then ((w + (atI l (h : Int)).J + (atI l (h : Int)).T - 1) / (atI l (h : Int)).T) * (atI l (h : Int)).C else 0
def gotN (l : List Task) (jobs : List Job) (i t0 w M : Nat) (h : Nat) : Int := if (atI l (h : Int)).P ≤ (atI l (i : Int)).P then cntW jobs h t0 w M * (atI l (h : Int)).C else 0
theorem got_le (hb : legalB l jobs = true) (t0 w : Nat) : ∀ M, M ≤ jobs.length → sumF (fun m => if lev l jobs i m ∧ (t0 : Int) ≤ (jb jobs m).release ∧ (jb jobs m).release < ((t0 + w : Nat) : Int) then (jb jobs m).work else 0) M ≤ sumF (gotN l jobs i t0 w M) l.length
 | 0, _ => by
  have : sumF (gotN l jobs i t0 w 0) l.length = sumF (fun _ => 0) l.length := sumF_eq fun h _ => by
   unfold gotN cntW; split <;> simp
  rw [this]
  have h0 : ∀ n, sumF (fun _ => (0 : Int)) n = 0 := fun n => by
   induction n with
   | zero => rfl
   | succ n ih => show sumF (fun _ => (0 : Int)) n + 0 = 0; rw [ih]; rfl
  rw [h0]; exact Int.le_refl _
 | M + 1, hM => by
  have ih := got_le hb t0 w M (by omega)
  have hj := jobOK_of hb (show M < jobs.length by omega)
  obtain ⟨r, hr⟩ : ∃ r : Nat, (jb jobs M).task = r := ⟨(jb jobs M).task.toNat, by have := hj.task; omega⟩
  have hrl : r < l.length := by have := hj.task; omega
  have hC := hj.work.2
  rw [hr] at hC
  show _ + (if _ then _ else _) ≤ _
  by_cases hc : lev l jobs i M ∧ (t0 : Int) ≤ (jb jobs M).release ∧ (jb jobs M).release < ((t0 + w : Nat) : Int)
  ·rw [if_pos hc]
   have hin : inW jobs r t0 w M := ⟨hr, hc.2⟩
   have e : sumF (gotN l jobs i t0 w (M + 1)) l.length = sumF (gotN l jobs i t0 w M) l.length + (atI l (r : Int)).C := sumF_at hrl fun h hh => by
    unfold gotN
    by_cases eh : h = r
    ·subst eh
     have hl : (atI l (h : Int)).P ≤ (atI l (i : Int)).P := by have := hc.1; unfold lev at this; rw [hr] at this; exact this
     rw [if_pos hl, if_pos hl, if_pos rfl]
     rw [cntW_succ, if_pos hin, Int.add_mul, Int.one_mul]
    ·rw [if_neg eh, Int.add_zero]
     have : ¬ inW jobs h t0 w M := fun hi => eh (by have := hi.1; omega)
     rw [cntW_succ, if_neg this, Int.add_zero]
   rw [e]; omega
  ·rw [if_neg hc, Int.add_zero]
   refine Int.le_trans ih (sumF_le fun h hh => ?_)
   unfold gotN
   split
   ·rename_i hP
    have hC0 : 0 ≤ (atI l (h : Int)).C := by
     have := (legal_ok hb).2.2
     obtain ⟨_, _, hok⟩ := checkAll_ok this
     have := (hok _ (atI_mem (l := l) (i := (h : Int)) (by omega) (by omega))).1
     simp only [rangesB] at this; omega
    have : cntW jobs h t0 w M ≤ cntW jobs h t0 w (M + 1) := by
     show _ ≤ _ + (if _ then _ else _)
     split <;> omega
    exact Int.mul_le_mul_of_nonneg_right this hC0
   ·exact Int.le_refl _
theorem window (hb : legalB l jobs = true) (hi : i < l.length) {B : Int} {w : Nat} (hB : 0 ≤ B) (hq : ∀ m, m < jobs.length → ¬ lev l jobs i m → (atI l (jb jobs m).task).Q - 1 ≤ B) (hw1 : 1 ≤ w) (hwT : (w : Int) + (atI l (i : Int)).J ≤ (atI l (i : Int)).T) (hneed : (atI l (i : Int)).C + B + askN l i w l.length ≤ w) {k e : Nat} (hk : k < jobs.length) (ht : (jb jobs k).task = i) (he : EndAt l jobs k e) : (e : Int) ≤ (jb jobs k).release + w := by
 have S := script_of hb
 have hr0 := (S.ok.rel _ (jb_mem hk)).1
 obtain ⟨R, hR⟩ : ∃ R : Nat, (jb jobs k).release = R := ⟨(jb jobs k).release.toNat, by omega⟩
 have hlk : lev l jobs i k := by unfold lev; rw [ht]; exact Int.le_refl _
 obtain ⟨t0, h1, h2, h3⟩ := last_quiet (i := i) S R
 by_cases hex : ∃ t, t0 < t ∧ t ≤ t0 + w ∧ quiet l jobs i t
 ·obtain ⟨t, a1, a2, a3⟩ := hex
  have hRt : R < t := by
   rcases Nat.lt_or_ge R t with h | h
   ·exact h
   ·exact absurd a3 (h3 t a1 h)
  have := (he.lt S hk t).1 (a3 k hk hlk (by omega))
  omega
 ·exfalso
  have hnq : ∀ t, t0 < t → t ≤ t0 + w → ¬ quiet l jobs i t := fun t a b c => hex ⟨t, a, b, c⟩
  have hlen := window_len hb hB hq (t0 := t0) w hnq
  obtain ⟨m, m1, m2, m3, m4⟩ := not_quiet (hnq (t0 + w) (by omega) (Nat.le_refl _)) S
  have hstep : ∀ x, x < jobs.length → (if lev l jobs i x then dn l jobs x (t0 + w) - dn l jobs x t0 else 0) ≤ if lev l jobs i x ∧ (t0 : Int) ≤ (jb jobs x).release ∧ (jb jobs x).release < ((t0 + w : Nat) : Int) then (jb jobs x).work else 0 := fun x hx => by
   have d0 := dn_in S hx t0
   have d1 := dn_in S hx (t0 + w)
   by_cases hl : lev l jobs i x
   ·rw [if_pos hl]
    by_cases hra : (t0 : Int) ≤ (jb jobs x).release
    ·by_cases hrb : (jb jobs x).release < ((t0 + w : Nat) : Int)
     ·rw [if_pos ⟨hl, hra, hrb⟩]; omega
     ·rw [if_neg fun h => hrb h.2.2]
      have := dn_le S hx (t0 + w)
      omega
    ·rw [if_neg fun h => hra h.2.1]
     have := h2 x hx hl (by omega)
     omega
   ·rw [if_neg hl, if_neg fun h => hl h.1]; exact Int.le_refl _
  have hmr : (t0 : Int) ≤ (jb jobs m).release := by
   rcases Int.lt_or_le (jb jobs m).release (t0 : Int) with h | h
   ·have := h2 m m1 m2 h
    have := dn_mono S m1 (show t0 ≤ t0 + w by omega)
    omega
   ·exact h
  have hstr := sumF_strict m1 hstep (by
   rw [if_pos m2, if_pos ⟨m2, hmr, m3⟩]
   have := (dn_in S m1 t0).1
   omega)
  have hgot := got_le (i := i) hb t0 w jobs.length (Nat.le_refl _)
  have hok : ∀ h : Nat, h < l.length → (1 ≤ (atI l (h : Int)).T ∧ 0 ≤ (atI l (h : Int)).J) ∧ 1 ≤ (atI l (h : Int)).C := fun h hh => by
   obtain ⟨_, _, hok⟩ := checkAll_ok (legal_ok hb).2.2
   have := (hok _ (atI_mem (l := l) (i := (h : Int)) (by omega) (by omega))).1
   simp only [rangesB] at this; omega
  have hsum : sumF (gotN l jobs i t0 w jobs.length) l.length ≤ askN l i w l.length + (atI l (i : Int)).C := by
   have e := sumF_at (f := fun h => if (atI l (h : Int)).P < (atI l (i : Int)).P then (((w : Int) + (atI l (h : Int)).J + (atI l (h : Int)).T - 1) / (atI l (h : Int)).T) * (atI l (h : Int)).C else 0) (g := fun h => (if (atI l (h : Int)).P < (atI l (i : Int)).P then (((w : Int) + (atI l (h : Int)).J + (atI l (h : Int)).T - 1) / (atI l (h : Int)).T) * (atI l (h : Int)).C else 0) + if h = i then (atI l (i : Int)).C else 0) (c := (atI l (i : Int)).C) hi fun h hh => rfl
   unfold askN
   rw [← e]
   refine sumF_le fun h hh => ?_
   obtain ⟨⟨hT, hJ⟩, hC⟩ := hok h hh
   obtain ⟨c0, c1⟩ := cntW_le (t0 := t0) hb hT hJ hw1
   unfold gotN
   by_cases hlt : (atI l (h : Int)).P < (atI l (i : Int)).P
   ·have hne : h ≠ i := fun e => by rw [e] at hlt; omega
    rw [if_pos (by omega), if_pos hlt, if_neg hne, Int.add_zero]
    refine Int.mul_le_mul_of_nonneg_right ?_ (by omega)
    refine Int.le_ediv_of_mul_le (by omega) ?_
    rw [Int.sub_mul, Int.one_mul] at c1
    omega
   ·rw [if_neg hlt, Int.zero_add]
    by_cases hle : (atI l (h : Int)).P ≤ (atI l (i : Int)).P
    ·have hhi : (h : Int) = i := S.prio h i (by omega) (by omega) (by omega) (by omega) (by omega)
     have hhi2 : h = i := by omega
     subst hhi2
     rw [if_pos hle, if_pos rfl]
     have hone : cntW jobs h t0 w jobs.length ≤ 1 := by
      rcases Int.lt_or_le 1 (cntW jobs h t0 w jobs.length) with hh2 | hh2
      ·exfalso
       have h5 : 1 * (atI l (h : Int)).T ≤ (cntW jobs h t0 w jobs.length - 1) * (atI l (h : Int)).T := Int.mul_le_mul_of_nonneg_right (by omega) (by omega)
       omega
      ·exact hh2
     have h6 : cntW jobs h t0 w jobs.length * (atI l (h : Int)).C ≤ 1 * (atI l (h : Int)).C := Int.mul_le_mul_of_nonneg_right hone (by omega)
     omega
    ·rw [if_neg hle]
     have hCi := (hok i hi).2
     split <;> omega
  unfold wrk at hlen
  omega
end Go.L.Try
namespace Go.L.Try
open Go Go.L
theorem askN_hN (l : List Task) (i : Nat) (w : Int) : ∀ n, askN l i w n = hN l (i : Int) w n
 | 0 => rfl
 | n + 1 => by
  have ih := askN_hN l i w n
  show askN l i w n + (if _ then _ else _) = _
  rw [ih, hN]
  split <;> simp
theorem blockN_ge {l : List Task} {i : Int} (hok : ∀ t ∈ l, okTask t) : ∀ n, n ≤ l.length → ∀ k : Nat, k < n → (atI l i).P < (atI l (k : Int)).P → (atI l (k : Int)).Q - 1 ≤ blockN l i n
 | 0, _, k, hk, _ => by omega
 | n + 1, hn, k, hk, hp => by
  have ih := blockN_ge (i := i) hok n (by omega)
  unfold blockN
  by_cases e : k = n
  ·subst e; rw [if_pos hp]; omega
  ·have := ih k (by omega) hp
   split <;> omega
theorem need_full {l : List Task} {i : Int} (hb : isP l i = true) (hl : ∀ t ∈ l, Mid t) (hn : l.length ≤ 6) {w : Int} (hw : 1 ≤ w ∧ w ≤ 1073741824) : needP l i w = (atI l i).C + blockP l i + hN l i w l.length := by
 obtain ⟨hi, _, hok⟩ := isP_ok hb
 obtain ⟨e, h1, h2⟩ := nosat hl hn (i := i) (w := w) (by omega) l.length (Nat.le_refl _)
 have hC := (hl _ (atI_mem hi.1 hi.2)).C
 have hB : 0 ≤ blockP l i ∧ blockP l i ≤ 2147483647 := by unfold blockP; rw [if_pos hb]; exact blockN_in hok i _ (Nat.le_refl _)
 have eh : higherP l i w = hN l i w l.length := by unfold higherP; rw [if_pos ⟨hb, by omega⟩]; exact e
 rw [needP_eq hb, eh]
 have e2 : sat ((atI l i).C + blockP l i) = (atI l i).C + blockP l i := by unfold sat; rw [if_pos (by omega)]
 rw [e2]
 unfold sat
 rw [if_pos (by omega)]
theorem bound_sound {l : List Task} {jobs : List Job} (hb : legalB l jobs = true) (hl : ∀ t ∈ l, Mid t) (hn : l.length ≤ 6) {k e : Nat} (hk : k < jobs.length) (he : EndAt l jobs k e) (hr : (boundP l (jb jobs k).task).2 = 0) : (e : Int) - (jb jobs k).arrive ≤ (boundP l (jb jobs k).task).1 ∧ (boundP l (jb jobs k).task).1 ≤ (atI l (jb jobs k).task).D := by
 have hj := jobOK_of hb hk
 obtain ⟨i, hi⟩ : ∃ i : Nat, (jb jobs k).task = i := ⟨(jb jobs k).task.toNat, by have := hj.task; omega⟩
 rw [hi] at hr ⊢
 have hil : i < l.length := by have := hj.task; omega
 obtain ⟨_, _, hok⟩ := checkAll_ok (legal_ok hb).2.2
 have hp : isP l (i : Int) = true := by unfold isP; exact decide_eq_true ⟨(legal_ok hb).2.2, by omega, by omega⟩
 unfold boundP at hr ⊢
 rw [if_pos hp] at hr ⊢
 cases hls : leastP l (i : Int) with
 | none => rw [hls] at hr; simp at hr
 | some w =>
  dsimp only
  unfold leastP at hls
  obtain ⟨h1, h2, _⟩ := leastN_some hls
  have hit := hok _ (atI_mem (l := l) (i := (i : Int)) (by omega) (by omega))
  obtain ⟨hrg, hft⟩ := hit
  simp only [rangesB, fitsB] at hrg hft
  have hmost : w ≤ (atI l (i : Int)).D - (atI l (i : Int)).J := by unfold mostP at h1; omega
  obtain ⟨W, hW⟩ : ∃ W : Nat, w = W := ⟨w.toNat, by omega⟩
  subst hW
  have hmid := hl _ (atI_mem (l := l) (i := (i : Int)) (by omega) (by omega))
  have hT := hmid.T
  rw [need_full hp hl hn (by omega)] at h2
  have hB : 0 ≤ blockP l (i : Int) := by unfold blockP; rw [if_pos hp]; exact (blockN_in hok _ _ (Nat.le_refl _)).1
  have hq : ∀ m, m < jobs.length → ¬ lev l jobs i m → (atI l (jb jobs m).task).Q - 1 ≤ blockP l (i : Int) := fun m hm hnl => by
   have hjm := (jobOK_of hb hm).task
   obtain ⟨t, ht⟩ : ∃ t : Nat, (jb jobs m).task = t := ⟨(jb jobs m).task.toNat, by omega⟩
   unfold lev at hnl
   rw [ht] at hnl hjm ⊢
   unfold blockP
   rw [if_pos hp]
   exact blockN_ge hok l.length (Nat.le_refl _) t (by omega) (by omega)
  have hwin := window hb hil hB hq (w := W) (by omega) (by omega) (by rw [askN_hN]; omega) hk hi he
  have hrel := hj.release.2
  rw [hi] at hrel
  omega
end Go.L.Try
namespace Go.L.Try
open Go Go.L
variable {l : List Task} {jobs : List Job} {k s0 B M : Nat}
def upL (l : List Task) (jobs : List Job) (k m : Nat) : Prop := m = k ∨ (atI l (jb jobs m).task).P < (atI l (jb jobs k).task).P
instance (l : List Task) (jobs : List Job) (k m : Nat) : Decidable (upL l jobs k m) := by unfold upL; infer_instance
structure Crit (l : List Task) (jobs : List Job) (k s0 B M : Nat) : Prop where
 script : Script l jobs
 hk : k < jobs.length
 rel : (jb jobs k).release = s0
 before : ∀ j, j < jobs.length → upL l jobs k j → (s0 : Int) ≤ (jb jobs j).release
 low : ∀ n, n < B → n < M → ∀ r : Nat, who l jobs (s0 + n) = r → ¬ upL l jobs k r
 high : ∀ n, B ≤ n → n < M → dn l jobs k (s0 + n) < (jb jobs k).work → ∃ r : Nat, who l jobs (s0 + n) = r ∧ upL l jobs k r
 best : ∀ n, n < M → who l jobs (s0 + n) = k → ∀ j, j < jobs.length → upL l jobs k j → j ≠ k → (jb jobs j).release ≤ ((s0 + n : Nat) : Int) → dn l jobs j (s0 + n) = (jb jobs j).work
def wrkL (l : List Task) (jobs : List Job) (k s0 n : Nat) : Int := sumF (fun m => if upL l jobs k m then dn l jobs m (s0 + n) else 0) jobs.length
def relL (l : List Task) (jobs : List Job) (k s0 n : Nat) : Int := sumF (fun m => if upL l jobs k m ∧ (jb jobs m).release < ((s0 + n : Nat) : Int) then (jb jobs m).work else 0) jobs.length
theorem sumF_zero {f : Nat → Int} : ∀ {m : Nat}, (∀ i, i < m → f i = 0) → sumF f m = 0
 | 0, _ => rfl
 | m + 1, h => by
  show sumF f m + f m = 0
  rw [sumF_zero (m := m) fun i hi => h i (by omega), h m (by omega)]; rfl
theorem dn_none (S : Script l jobs) {m n : Nat} (hm : m < jobs.length) (h : (n : Int) ≤ (jb jobs m).release) : dn l jobs m n = 0 := by
 have h1 := dn_le S hm n
 have h2 := (dn_in S hm n).1
 omega
theorem wrkL_zero (C : Crit l jobs k s0 B M) : wrkL l jobs k s0 0 = 0 :=
 sumF_zero fun m hm => by
  split
  ·rename_i h; exact dn_none C.script hm (by rw [Nat.add_zero]; exact C.before m hm h)
  ·rfl
open Classical in
theorem wrkL_succ (S : Script l jobs) (n : Nat) : wrkL l jobs k s0 (n + 1) = wrkL l jobs k s0 n + if ∃ r : Nat, who l jobs (s0 + n) = r ∧ upL l jobs k r then 1 else 0 := by
 unfold wrkL
 have key : ∀ m, m < jobs.length → dn l jobs m (s0 + (n + 1)) = dn l jobs m (s0 + n) + if who l jobs (s0 + n) = m then 1 else 0 := fun m hm => by
  rw [← Nat.add_assoc]; exact dn_succ S hm _
 by_cases h : ∃ r : Nat, who l jobs (s0 + n) = r ∧ upL l jobs k r
 ·rw [if_pos h]
  obtain ⟨r, h1, h2⟩ := h
  refine sumF_at (r := r) (who_dn S h1).1 fun m hm => ?_
  rw [key m hm, h1]
  by_cases e : m = r
  ·subst e; rw [if_pos h2, if_pos h2, if_pos rfl, if_pos rfl]
  ·have e2 : ¬ ((r : Int) = (m : Int)) := by omega
   rw [if_neg e, if_neg e2]; split <;> omega
 ·rw [if_neg h, Int.add_zero]
  refine sumF_eq fun m hm => ?_
  rw [key m hm]
  split
  ·rename_i hl
   rw [if_neg fun e => h ⟨m, e, hl⟩]; omega
  ·rfl
theorem wrkL_busy (C : Crit l jobs k s0 B M) : ∀ n, n ≤ M → (∀ n', n' < n → dn l jobs k (s0 + n') < (jb jobs k).work) → wrkL l jobs k s0 n = if n ≤ B then 0 else (n : Int) - B
 | 0, _, _ => by rw [wrkL_zero C, if_pos (Nat.zero_le _)]
 | n + 1, hn, hp => by
  have ih := wrkL_busy C n (by omega) fun n' h => hp n' (by omega)
  rw [wrkL_succ C.script, ih]
  by_cases h : n < B
  ·rw [if_neg (c := ∃ r : Nat, who l jobs (s0 + n) = r ∧ upL l jobs k r) (by rintro ⟨r, h1, h2⟩; exact C.low n h (by omega) r h1 h2)]
   split <;> split <;> omega
  ·rw [if_pos (c := ∃ r : Nat, who l jobs (s0 + n) = r ∧ upL l jobs k r) (C.high n (by omega) (by omega) (hp n (by omega)))]
   split <;> split <;> omega
theorem crit_end (C : Crit l jobs k s0 B M) {n : Nat} (h1 : 1 ≤ n) (hn : n ≤ M) (he : EndAt l jobs k (s0 + n)) : relL l jobs k s0 n + B = n := by
 have S := C.script
 have hk : upL l jobs k k := .inl rfl
 have hlt : ∀ n', n' < n → dn l jobs k (s0 + n') < (jb jobs k).work := fun n' h => by
  have h2 := (he.lt S C.hk (s0 + n')).1
  have h3 := (dn_in S C.hk (s0 + n')).2
  by_cases e : dn l jobs k (s0 + n') = (jb jobs k).work
  ·have := h2 e; omega
  ·omega
 have hd := (he.lt S C.hk (s0 + n)).2 (Nat.le_refl _)
 have hsucc := dn_succ S C.hk (s0 + (n - 1))
 rw [show s0 + (n - 1) + 1 = s0 + n by omega] at hsucc
 have hl1 := hlt (n - 1) (by omega)
 have hwho : who l jobs (s0 + (n - 1)) = k := by
  apply Classical.byContradiction
  intro hh
  rw [if_neg hh] at hsucc; omega
 have hB : B ≤ n - 1 := by
  apply Classical.byContradiction
  intro hh
  exact C.low (n - 1) (by omega) (by omega) k hwho hk
 have hw := wrkL_busy C n hn hlt
 rw [if_neg (by omega)] at hw
 have hs : wrkL l jobs k s0 n = relL l jobs k s0 n := by
  refine sumF_eq fun m hm => ?_
  by_cases hu : upL l jobs k m
  ·rw [if_pos hu]
   by_cases hrl : (jb jobs m).release < ((s0 + n : Nat) : Int)
   ·rw [if_pos ⟨hu, hrl⟩]
    by_cases e : m = k
    ·rw [e]; exact hd
    ·have h2 := C.best (n - 1) (by omega) hwho m hm hu e (by omega)
     have h3 := dn_mono S hm (show s0 + (n - 1) ≤ s0 + n by omega)
     have h4 := (dn_in S hm (s0 + n)).2
     omega
   ·rw [if_neg fun h => hrl h.2, dn_none S hm (by omega)]
  ·rw [if_neg hu, if_neg fun h => hu h.1]
 omega
end Go.L.Try
namespace Go.L.Try
open Go Go.L
variable {l : List Task} {jobs : List Job} {k s0 B M : Nat}
def cntB (jobs : List Job) (h : Nat) (x : Int) : Nat := jobs.countP fun j => decide (j.task = (h : Int) ∧ j.release < x)
theorem cntB_app (A C : List Job) (h : Nat) (x : Int) : cntB (A ++ C) h x = cntB A h x + cntB C h x := List.countP_append
theorem cntB_cons (j : Job) (A : List Job) (h : Nat) (x : Int) : cntB (j :: A) h x = cntB A h x + if j.task = (h : Int) ∧ j.release < x then 1 else 0 := by
 unfold cntB
 rw [List.countP_cons]
 by_cases hc : j.task = (h : Int) ∧ j.release < x <;> simp [hc]
def upW (l : List Task) (p : Int) (x : Int) (j : Job) : Int := if (atI l j.task).P < p ∧ j.release < x then j.work else 0
theorem sumF_list (g : Job → Int) : ∀ (A : List Job), sumF (fun m => g (jb A m)) A.length = (A.map g).foldr (· + ·) 0
 | [] => rfl
 | j :: A => by
  have ih := sumF_list g A
  have key : ∀ n, sumF (fun m => g (jb (j :: A) m)) (n + 1) = g j + sumF (fun m => g (jb A m)) n := by
   intro n
   induction n with
   | zero => show (0 : Int) + g j = g j + 0; omega
   | succ n ih2 =>
    show sumF (fun m => g (jb (j :: A) m)) (n + 1) + g (jb (j :: A) (n + 1)) = g j + (sumF (fun m => g (jb A m)) n + g (jb A n))
    rw [ih2]
    have : jb (j :: A) (n + 1) = jb A n := rfl
    rw [this]; omega
  rw [List.length_cons, key, ih]; rfl
theorem up_sum {l : List Task} {p x : Int} : ∀ (A : List Job), (∀ j ∈ A, (0 ≤ j.task ∧ j.task < l.length) ∧ ((atI l j.task).P < p → j.work = (atI l j.task).C)) → (A.map (upW l p x)).foldr (· + ·) 0 = sumF (fun h => if (atI l (h : Int)).P < p then (cntB A h x : Int) * (atI l (h : Int)).C else 0) l.length
 | [], _ => by
  rw [sumF_zero fun h _ => by unfold cntB; split <;> simp]; rfl
 | j :: A, hA => by
  have ih := up_sum (p := p) (x := x) A fun j hj => hA j (by simp [hj])
  obtain ⟨ht, hw⟩ := hA j (by simp)
  show upW l p x j + (A.map (upW l p x)).foldr (· + ·) 0 = _
  rw [ih]
  obtain ⟨r, hr⟩ : ∃ r : Nat, j.task = r := ⟨j.task.toNat, by omega⟩
  have e := sumF_at (f := fun h => if (atI l (h : Int)).P < p then (cntB A h x : Int) * (atI l (h : Int)).C else 0) (g := fun h => if (atI l (h : Int)).P < p then (cntB (j :: A) h x : Int) * (atI l (h : Int)).C else 0) (r := r) (c := upW l p x j) (m := l.length) (by omega) fun h hh => by
   rw [cntB_cons]
   by_cases eh : h = r
   ·subst eh
    rw [if_pos rfl]
    unfold upW
    rw [hr] at hw ⊢
    by_cases hp : (atI l (h : Int)).P < p
    ·rw [if_pos hp, if_pos hp]
     by_cases hx : j.release < x
     ·rw [if_pos ⟨rfl, hx⟩, if_pos ⟨hp, hx⟩, hw hp, Int.natCast_add, Int.natCast_one, Int.add_mul, Int.one_mul]
     ·rw [if_neg fun h => hx h.2, if_neg fun h => hx h.2, Nat.add_zero, Int.add_zero]
    ·rw [if_neg hp, if_neg hp, if_neg fun h => hp h.1]; rfl
   ·rw [if_neg eh, Int.add_zero, if_neg (c := j.task = (h : Int) ∧ j.release < x) (fun h2 => eh (by omega)), Nat.add_zero]
  rw [e]; omega
theorem relL_sum (C : Crit l jobs k s0 B M) (hw : ∀ j ∈ jobs, (0 ≤ j.task ∧ j.task < l.length) ∧ ((atI l j.task).P < (atI l (jb jobs k).task).P → j.work = (atI l j.task).C)) {n : Nat} (hn : 1 ≤ n) :
  relL l jobs k s0 n = (jb jobs k).work + sumF (fun h => if (atI l (h : Int)).P < (atI l (jb jobs k).task).P then (cntB jobs h ((s0 + n : Nat) : Int) : Int) * (atI l (h : Int)).C else 0) l.length := by
 rw [← up_sum (x := ((s0 + n : Nat) : Int)) jobs hw, ← sumF_list]
 unfold relL
 rw [Int.add_comm]
 refine sumF_at (r := k) C.hk fun m hm => ?_
 unfold upW
 by_cases e : m = k
 ·subst e
  rw [if_pos rfl, if_pos ⟨.inl rfl, by rw [C.rel]; omega⟩, if_neg fun h => by have := h.1; omega]; omega
 ·rw [if_neg e, Int.add_zero]
  by_cases hc : (atI l (jb jobs m).task).P < (atI l (jb jobs k).task).P ∧ (jb jobs m).release < ((s0 + n : Nat) : Int)
  ·rw [if_pos hc, if_pos ⟨.inr hc.1, hc.2⟩]
  ·rw [if_neg hc, if_neg]
   rintro ⟨h1 | h1, h2⟩
   ·exact e h1
   ·exact hc ⟨h1, h2⟩
structure Scene (l : List Task) (jobs : List Job) (i k s0 B M : Nat) : Prop where
 crit : Crit l jobs k s0 B M
 legal : legalB l jobs = true
 mid : ∀ t ∈ l, Mid t
 six : l.length ≤ 6
 task : (jb jobs k).task = i
 most : (M : Int) = (atI l (i : Int)).D - (atI l (i : Int)).J
 block : (B : Int) = blockP l (i : Int)
 work : (jb jobs k).work = (atI l (i : Int)).C
 arrive : (jb jobs k).arrive = (s0 : Int) - (atI l (i : Int)).J
 works : ∀ j ∈ jobs, (atI l j.task).P < (atI l (i : Int)).P → j.work = (atI l j.task).C
 many : ∀ h : Nat, h < l.length → (atI l (h : Int)).P < (atI l (i : Int)).P → ∀ n : Nat, 1 ≤ n → n ≤ M → ((n : Int) + (atI l (h : Int)).J + (atI l (h : Int)).T - 1) / (atI l (h : Int)).T ≤ cntB jobs h ((s0 + n : Nat) : Int)
theorem Scene.isP {i : Nat} (s : Scene l jobs i k s0 B M) : isP l (i : Int) = true := by
 have := (jobOK_of s.legal s.crit.hk).task
 rw [s.task] at this
 unfold Try.isP; exact decide_eq_true ⟨(legal_ok s.legal).2.2, by omega, by omega⟩
theorem Scene.enough {i : Nat} (s : Scene l jobs i k s0 B M) {n : Nat} (h1 : 1 ≤ n) (hn : n ≤ M) (he : EndAt l jobs k (s0 + n)) : needP l (i : Int) n ≤ n := by
 have hp := s.isP
 obtain ⟨hi, _, hok⟩ := isP_ok hp
 have hit := hok _ (atI_mem (l := l) (i := (i : Int)) hi.1 hi.2)
 obtain ⟨hrg, hft⟩ := hit
 simp only [rangesB, fitsB] at hrg hft
 have hmid := (s.mid _ (atI_mem (l := l) (i := (i : Int)) hi.1 hi.2)).T
 have hmost := s.most
 rw [need_full hp s.mid s.six (by omega)]
 have hce := crit_end s.crit h1 hn he
 rw [relL_sum s.crit (fun j hj => by
  obtain ⟨m, hm, rfl⟩ := List.getElem_of_mem hj
  have h3 := (jobOK_of s.legal hm).task
  have h4 := s.works _ (List.getElem_mem hm)
  rw [s.task]
  refine ⟨?_, h4⟩
  have e : jb jobs m = jobs[m] := atI_nat hm
  rwa [e] at h3) h1, s.task, s.work] at hce
 have hask : hN l (i : Int) n l.length ≤ sumF (fun h => if (atI l (h : Int)).P < (atI l (i : Int)).P then (cntB jobs h ((s0 + n : Nat) : Int) : Int) * (atI l (h : Int)).C else 0) l.length := by
  rw [← askN_hN]
  refine sumF_le fun h hh => ?_
  by_cases hc : (atI l (h : Int)).P < (atI l (i : Int)).P
  ·rw [if_pos hc, if_pos hc]
   have hC := (s.mid _ (atI_mem (l := l) (i := (h : Int)) (by omega) (by omega))).C
   exact Int.mul_le_mul_of_nonneg_right (s.many h hh hc n h1 hn) (by omega)
  ·rw [if_neg hc, if_neg hc]; exact Int.le_refl _
 have := s.block
 omega
theorem Scene.after {i : Nat} (s : Scene l jobs i k s0 B M) {e : Nat} (he : EndAt l jobs k e) : ∃ n, 1 ≤ n ∧ e = s0 + n := by
 have h1 := he.late s.crit.script s.crit.hk
 rw [s.crit.rel, s.work] at h1
 have := (s.mid _ (atI_mem (l := l) (i := (i : Int)) (isP_ok s.isP).1.1 (isP_ok s.isP).1.2)).C
 exact ⟨e - s0, by omega, by omega⟩
theorem Scene.just {i : Nat} (s : Scene l jobs i k s0 B M) {e : Nat} (he : EndAt l jobs k e) (hb : (boundP l (i : Int)).2 = 0) : (e : Int) - (jb jobs k).arrive = (boundP l (i : Int)).1 := by
 have hs := bound_sound s.legal s.mid s.six s.crit.hk he (by rw [s.task]; exact hb)
 rw [s.task] at hs
 obtain ⟨n, h1, rfl⟩ := s.after he
 have hp := s.isP
 unfold boundP at hb hs ⊢
 rw [if_pos hp] at hb hs ⊢
 cases hls : leastP l (i : Int) with
 | none => rw [hls] at hb; simp at hb
 | some w =>
  rw [hls] at hs
  dsimp only at hs ⊢
  unfold leastP at hls
  obtain ⟨h2, h3, h4⟩ := leastN_some hls
  have hm : n ≤ M := by have := s.most; have := s.arrive; omega
  have hen := s.enough h1 hm he
  have : w ≤ n := by
   rcases Int.lt_or_le (n : Int) w with h | h
   ·have := h4 n (by omega) h; omega
   ·exact h
  have := s.arrive
  omega
theorem Scene.late {i : Nat} (s : Scene l jobs i k s0 B M) {e : Nat} (he : EndAt l jobs k e) (hb : (boundP l (i : Int)).2 ≠ 0) : (atI l (i : Int)).D < (e : Int) - (jb jobs k).arrive := by
 obtain ⟨n, h1, rfl⟩ := s.after he
 have hp := s.isP
 have hm1 := mostP_in hp
 rcases Int.lt_or_le (atI l (i : Int)).D (((s0 + n : Nat) : Int) - (jb jobs k).arrive) with h | h
 ·exact h
 ·exfalso
  have hm : n ≤ M := by have := s.most; have := s.arrive; omega
  have hen := s.enough h1 hm he
  apply hb
  unfold boundP
  rw [if_pos hp]
  cases hls : leastP l (i : Int) with
  | some w => rfl
  | none =>
   unfold leastP at hls
   have hmost : mostP l (i : Int) = M := by unfold mostP; rw [s.most]
   have := leastN_none hls n (by omega) (by omega)
   omega
end Go.L.Try
namespace Go.L.Try
open Go Go.L
theorem allH_mem {l : List Task} {p : Int} : ∀ {i : Nat} {x : Job}, x ∈ allH l p i → ∃ t k : Nat, t < i ∧ k < manyP (atI l (t : Int)).T p ∧ x = jobH t (atI l (t : Int)) k
 | 0, x, h => by simp [allH] at h
 | i + 1, x, h => by
  rcases List.mem_append.1 h with h | h
  ·obtain ⟨t, k, h1, h2, h3⟩ := allH_mem h
   exact ⟨t, k, by omega, h2, h3⟩
  ·obtain ⟨k, hk, rfl⟩ := List.mem_map.1 h
   exact ⟨i, k, by omega, List.mem_range.1 hk, rfl⟩
theorem allH_job {l : List Task} {p : Int} (hok : ∀ t ∈ l, okTask t) (hT : ∀ t ∈ l, 1 ≤ t.T ∧ t.T ∣ p ∧ t.T ≤ p) {x : Job} (h : x ∈ allH l p l.length) : (0 ≤ x.task ∧ x.task < l.length) ∧ x.release = x.arrive ∧ (0 ≤ x.arrive ∧ x.arrive < p) ∧ (1 ≤ x.work ∧ x.work ≤ p) ∧ x.cuts = [] ∧ x.work = (atI l x.task).C := by
 obtain ⟨t, k, h1, h2, rfl⟩ := allH_mem h
 have ht := atI_mem (l := l) (i := (t : Int)) (by omega) (by omega)
 have h3 := hT _ ht
 have h4 := (many_le h3.1 k).1 h2
 obtain ⟨h5, h6⟩ := hok _ ht
 simp only [rangesB] at h5
 unfold fitsB at h6
 have h7 : 0 ≤ (k : Int) * (atI l (t : Int)).T := Int.mul_nonneg (by omega) (by omega)
 refine ⟨⟨?_, ?_⟩, rfl, ⟨h7, h4⟩, ⟨?_, ?_⟩, rfl, rfl⟩
 ·show (0 : Int) ≤ (t : Int); omega
 ·show (t : Int) < l.length; omega
 ·show 1 ≤ (atI l (t : Int)).C; omega
 ·show (atI l (t : Int)).C ≤ p; omega
theorem allH_sum {l : List Task} {p : Int} (hok : ∀ t ∈ l, okTask t) (hT : ∀ t ∈ l, 1 ≤ t.T ∧ t.T ∣ p ∧ t.T ≤ p) (hp : p ≤ 268435456) (hn : (allH l p l.length).length ≤ 4096) : sumWork (allH l p l.length) ≤ 1099511627776 := by
 have h1 : sumWork (allH l p l.length) ≤ sumN (fun _ => 268435456) (allH l p l.length).length := sumN_le fun i hi => by
  have := (allH_job hok hT (atI_mem (l := allH l p l.length) (i := (i : Int)) (by omega) (by omega))).2.2.2.1; omega
 rw [sumN_mul] at h1
 omega
end Go.L.Try
namespace Go.L.Try
open Go Go.L
variable {l : List Task} {p : Int}
theorem allH_more {i : Nat} : ∀ {n : Nat}, i ≤ n → ∃ R, allH l p n = allH l p i ++ R
 | 0, h => by
  have e : i = 0 := by omega
  subst e; exact ⟨[], by simp⟩
 | n + 1, h => by
  by_cases e : i = n + 1
  ·subst e; exact ⟨[], by simp⟩
  ·obtain ⟨R, hR⟩ := allH_more (i := i) (n := n) (by omega)
   exact ⟨R ++ rowH n (atI l (n : Int)) (manyP (atI l (n : Int)).T p), by rw [← List.append_assoc, ← hR]; rfl⟩
theorem allH_split {i : Nat} (hi : i < l.length) : ∃ R, allH l p l.length = allH l p i ++ rowH i (atI l (i : Int)) (manyP (atI l (i : Int)).T p) ++ R :=
 allH_more (l := l) (p := p) (i := i + 1) (n := l.length) hi
theorem rowH_more (i : Nat) (t : Task) {c n : Nat} (h : c ≤ n) : ∃ R, rowH i t n = rowH i t c ++ R := by
 obtain ⟨d, rfl⟩ : ∃ d, n = c + d := ⟨n - c, by omega⟩
 unfold rowH
 rw [List.range_add, List.map_append]
 exact ⟨_, rfl⟩
theorem cntB_row (h : Nat) (t : Task) {x : Int} {c n : Nat} (hc : c ≤ n) (hx : ∀ k : Nat, k < c → (k : Int) * t.T < x) : c ≤ cntB (rowH h t n) h x := by
 obtain ⟨R, hR⟩ := rowH_more h t hc
 rw [hR, cntB_app]
 have : cntB (rowH h t c) h x = (rowH h t c).length := by
  unfold cntB
  rw [List.countP_eq_length]
  intro j hj
  obtain ⟨k, hk, rfl⟩ := List.mem_map.1 hj
  exact decide_eq_true ⟨rfl, hx k (List.mem_range.1 hk)⟩
 rw [this, rowH_len]; omega
theorem jb_mid {A R : List Job} {j : Job} : jb (A ++ j :: R) A.length = j := by
 unfold jb atI
 rw [List.getD_eq_getElem?_getD, Int.toNat_natCast, List.getElem?_append_right (Nat.le_refl _), Nat.sub_self]; rfl
theorem rowH_pos (i : Nat) (t : Task) {n : Nat} (h : 0 < n) : ∃ R, rowH i t n = jobH i t 0 :: R := by
 obtain ⟨R, hR⟩ := rowH_more i t (show 1 ≤ n from h)
 exact ⟨R, hR⟩
theorem hyper_scene (hv : validP l) (hl : ∀ t ∈ l, Mid t) (hn : l.length ≤ 6) (hT : ∀ t ∈ l, 1 ≤ t.T ∧ t.T ∣ p ∧ t.T ≤ p) (hp : 0 < p) (hp2 : p ≤ 268435456) (hpl : ∀ t ∈ l, t.J = 0 ∧ t.Q = 1) (hf : (allH l p l.length).length ≤ 4096) {i : Nat} (hi : i < l.length) :
  Scene l (allH l p l.length) i (allH l p i).length 0 0 (atI l (i : Int)).D.toNat := by
 have hb := allH_legal hv (p := p) (by omega) hf
 have S := script_of hb
 obtain ⟨_, _, hok⟩ := checkAll_ok hv
 have mem : ∀ h : Nat, h < l.length → atI l (h : Int) ∈ l := fun h hh => atI_mem (by omega) (by omega)
 have ti := hT _ (mem i hi)
 have pi := hpl _ (mem i hi)
 obtain ⟨rg, ft⟩ := hok _ (mem i hi)
 simp only [rangesB, fitsB] at rg ft
 obtain ⟨R, hR⟩ := allH_split (p := p) hi
 have hN : 0 < manyP (atI l (i : Int)).T p := (many_le ti.1 0).2 (by simpa using hp)
 obtain ⟨R2, hR2⟩ := rowH_pos i (atI l (i : Int)) hN
 have hjk : jb (allH l p l.length) (allH l p i).length = jobH i (atI l (i : Int)) 0 := by
  rw [hR, hR2, List.append_assoc, List.cons_append]; exact jb_mid
 have hk : (allH l p i).length < (allH l p l.length).length := by
  rw [hR, hR2]; simp only [LA, List.length_cons]; omega
 have job : ∀ m, m < (allH l p l.length).length → (0 ≤ (jb (allH l p l.length) m).task ∧ (jb (allH l p l.length) m).task < l.length) ∧ (jb (allH l p l.length) m).release = (jb (allH l p l.length) m).arrive ∧ (0 ≤ (jb (allH l p l.length) m).arrive ∧ (jb (allH l p l.length) m).arrive < p) ∧ (1 ≤ (jb (allH l p l.length) m).work ∧ (jb (allH l p l.length) m).work ≤ p) ∧ (jb (allH l p l.length) m).cuts = [] ∧ (jb (allH l p l.length) m).work = (atI l (jb (allH l p l.length) m).task).C := fun m hm =>
  allH_job hok hT (jb_mem hm)
 have harr := @arrive_le l (allH l p l.length) hb
 have rest : (∀ h : Nat, h < l.length → ∀ n : Nat, 1 ≤ n → n ≤ (atI l (i : Int)).D.toNat → ((n : Int) + (atI l (h : Int)).J + (atI l (h : Int)).T - 1) / (atI l (h : Int)).T ≤ cntB (allH l p l.length) h (((0 + n : Nat)) : Int)) := fun h hh n h1 h2 => by
  have th := hT _ (mem h hh)
  have ph := hpl _ (mem h hh)
  obtain ⟨R3, hR3⟩ := allH_split (p := p) hh
  have hc : manyP (atI l (h : Int)).T n ≤ cntB (allH l p l.length) h ((0 + n : Nat) : Int) := by
   rw [hR3, cntB_app, cntB_app, Nat.zero_add]
   have := cntB_row h (atI l (h : Int)) (x := (n : Int)) (c := manyP (atI l (h : Int)).T n) (n := manyP (atI l (h : Int)).T p) (by
    apply Classical.byContradiction
    intro hh2
    have a1 := (many_le th.1 (manyP (atI l (h : Int)).T p)).1 (show manyP (atI l (h : Int)).T p < manyP (atI l (h : Int)).T n by omega)
    have a2 := (many_le th.1 (p := p) (manyP (atI l (h : Int)).T p)).2 (by omega)
    omega) (fun k hk => (many_le th.1 k).1 hk)
   omega
  rw [ph.1, Int.add_zero]
  unfold manyP at hc
  have h0 : 0 ≤ ((n : Int) + (atI l (h : Int)).T - 1) / (atI l (h : Int)).T := Int.ediv_nonneg (by omega) (by omega)
  omega
 generalize hJ : allH l p l.length = jobs at *
 generalize hkk : (allH l p i).length = k at *
 have nosec : ∀ n m, m < jobs.length → inSec l jobs m n = false := fun n m hm => by
  unfold inSec; rw [(job m hm).2.2.2.2.1]; rfl
 have same : ∀ r, r < jobs.length → (atI l (jb jobs r).task).P = (atI l (jb jobs k).task).P → ∀ n : Nat, n < (atI l (i : Int)).D.toNat → (jb jobs r).release ≤ n → r = k := fun r hr hP n hn hrel => by
  obtain ⟨a1, a2, a3, _⟩ := job r hr
  have e : (jb jobs r).task = (i : Int) := by
   have := S.prio (jb jobs r).task (jb jobs k).task a1.1 a1.2 (by rw [hjk]; show (0 : Int) ≤ (i : Int); omega) (by rw [hjk]; show (i : Int) < l.length; omega) hP
   rw [this, hjk]; rfl
  rcases Nat.lt_trichotomy r k with h | h | h
  ·have h5 : (jb jobs r).arrive + (atI l (jb jobs k).task).T ≤ (jb jobs k).arrive := harr k h hk (by show (jb jobs r).task = (jb jobs k).task; rw [e, hjk]; rfl)
   rw [hjk] at h5
   have h6 : (jb jobs r).arrive + (atI l (i : Int)).T ≤ ((0 : Nat) : Int) * (atI l (i : Int)).T := h5
   simp at h6; omega
  ·exact h
  ·have h5 : (jb jobs k).arrive + (atI l (jb jobs r).task).T ≤ (jb jobs r).arrive := harr r h hr (by show (jb jobs k).task = (jb jobs r).task; rw [e, hjk]; rfl)
   rw [hjk, e] at h5
   have h6 : ((0 : Nat) : Int) * (atI l (i : Int)).T + (atI l (i : Int)).T ≤ (jb jobs r).arrive := h5
   simp at h6; omega
 refine ⟨⟨S, hk, ?_, fun j hj _ => ?_, fun n h => absurd h (Nat.not_lt_zero _), fun n _ hn hd => ?_, fun n hn hw j hj hu hne hr => ?_⟩, hb, hl, hn, by rw [hjk]; rfl, ?_, ?_, by rw [hjk]; rfl, ?_, fun j hj hP => ?_, fun h hh _ => rest h hh⟩
 ·rw [hjk]; show ((0 : Nat) : Int) * _ = _; simp
 ·have := (job j hj).2; omega
 ·rw [Nat.zero_add] at hd ⊢
  have hw0 : 0 ≤ who l jobs n := by
   rcases Int.lt_or_le (who l jobs n) 0 with h | h
   ·have := who_none S h hk (by rw [hjk]; show ((0 : Nat) : Int) * _ ≤ _; simp); omega
   ·exact h
  obtain ⟨r, hr⟩ : ∃ r : Nat, who l jobs n = r := ⟨(who l jobs n).toNat, by omega⟩
  refine ⟨r, hr, ?_⟩
  obtain ⟨b1, b2, b3, b4⟩ := best_of S (nosec n) hr
  have h4 := b4 k hk (by rw [hjk]; show ((0 : Nat) : Int) * _ ≤ _; simp) hd
  rcases Int.lt_or_le (atI l (jb jobs r).task).P (atI l (jb jobs k).task).P with h | h
  ·exact .inr h
  ·exact .inl (same r b1 (by omega) n hn b2)
 ·rw [Nat.zero_add] at hw hr ⊢
  obtain ⟨b1, b2, b3, b4⟩ := best_of S (nosec n) hw
  have hd := (dn_in S hj n).2
  by_cases hlt : dn l jobs j n < (jb jobs j).work
  ·have h4 := b4 j hj hr hlt
   rcases hu with hu | hu
   ·exact absurd hu hne
   ·omega
  ·omega
 ·rw [pi.1]; omega
 ·have hp : isP l (i : Int) = true := by unfold isP; exact decide_eq_true ⟨hv, by omega, by omega⟩
  unfold blockP
  rw [if_pos hp]
  have : ∀ n, n ≤ l.length → blockN l (i : Int) n = 0 := by
   intro n
   induction n with
   | zero => intro _; rfl
   | succ n ih =>
    intro h
    have := (hpl _ (mem n (by omega))).2
    unfold blockN
    rw [ih (by omega), this]
    split <;> rfl
  rw [this _ (Nat.le_refl _)]; rfl
 ·rw [hjk, pi.1]; show ((0 : Nat) : Int) * _ = _; simp
 ·obtain ⟨m, hm, rfl⟩ := List.getElem_of_mem hj
  have e : jb jobs m = jobs[m] := atI_nat hm
  have := (job m hm).2.2.2.2.2
  rwa [e] at this
end Go.L.Try
