/- BUSY OR IDLE, whoever works (plain). -/
import Derived.Test.YtlmadipiopnfeaaDoorPh
import Derived.Test.YtlmadipiopnfeaaDoorPk
import Derived.Test.YtlmadipiopnfeaaDoorPa
set_option linter.unusedVariables false
set_option linter.unusedSimpArgs false
set_option maxRecDepth 100000
set_option maxHeartbeats 1000000
namespace Go.L.Try
open Go Go.L
variable {l l' : List Task} {jobs jobs' : List Job}
def sumF (f : Nat → Int) : Nat → Int
  | 0 => 0
  | n + 1 => sumF f n + f n
theorem sumF_le {f g : Nat → Int} : ∀ {m : Nat}, (∀ i, i < m → f i ≤ g i) → sumF f m ≤ sumF g m
  | 0, _ => Int.le_refl _
  | m + 1, h => by
    have h1 := sumF_le (m := m) fun i hi => h i (by omega)
    have h2 := h m (by omega)
    show sumF f m + f m ≤ sumF g m + g m
    omega
theorem sumF_eq {f g : Nat → Int} : ∀ {m : Nat}, (∀ i, i < m → f i = g i) → sumF f m = sumF g m
  | 0, _ => rfl
  | m + 1, h => by
    show sumF f m + f m = sumF g m + g m
    rw [sumF_eq (m := m) fun i hi => h i (by omega), h m (by omega)]
variable {R R' : RS} {T T' : Nat}
end Go.L.Try
namespace Go.L.Try
open Go Go.L
variable {l : List Task} {jobs : List Job} {i : Nat}
theorem sumF_at {f g : Nat → Int} {r : Nat} {c : Int} : ∀ {m : Nat}, r < m → (∀ h, h < m → g h = f h + if h = r then c else 0) → sumF g m = sumF f m + c
  | 0, h, _ => by omega
  | m + 1, h, he => by
    show sumF g m + g m = sumF f m + f m + c
    have h1 := he m (by omega)
    by_cases e : m = r
    · subst e
      rw [if_pos rfl] at h1
      rw [sumF_eq (f := g) (g := f) fun i hi => by have := he i (by omega); rw [if_neg (by omega)] at this; omega]
      omega
    · rw [if_neg e] at h1
      rw [sumF_at (m := m) (by omega) fun i hi => he i (by omega)]; omega
theorem sumF_strict {f g : Nat → Int} {r : Nat} : ∀ {m : Nat}, r < m → (∀ h, h < m → g h ≤ f h) → g r + 1 ≤ f r → sumF g m + 1 ≤ sumF f m
  | 0, h, _, _ => by omega
  | m + 1, h, he, hr => by
    show sumF g m + g m + 1 ≤ sumF f m + f m
    have h1 := he m (by omega)
    by_cases e : m = r
    · subst e
      have := sumF_le (f := g) (g := f) (m := m) fun i hi => he i (by omega)
      omega
    · have := sumF_strict (m := m) (by omega) (fun i hi => he i (by omega)) hr
      omega
def lev (l : List Task) (jobs : List Job) (i m : Nat) : Prop := (atI l (jb jobs m).task).P ≤ (atI l (i : Int)).P
instance (l : List Task) (jobs : List Job) (i m : Nat) : Decidable (lev l jobs i m) := by unfold lev; infer_instance
def quiet (l : List Task) (jobs : List Job) (i t : Nat) : Prop := ∀ m, m < jobs.length → lev l jobs i m → (jb jobs m).release < t → dn l jobs m t = (jb jobs m).work
theorem quiet_zero (S : Script l jobs) : quiet l jobs i 0 := fun m hm _ hr => by
  have := (S.ok.rel _ (jb_mem hm)).1
  have hr' : (jb jobs m).release < ((0 : Nat) : Int) := hr
  omega
theorem not_quiet {t : Nat} (h : ¬ quiet l jobs i t) (S : Script l jobs) : ∃ m, m < jobs.length ∧ lev l jobs i m ∧ (jb jobs m).release < t ∧ dn l jobs m t < (jb jobs m).work := by
  apply Classical.byContradiction
  intro hn
  apply h
  intro m hm hl hr
  have h1 := (dn_in S hm t).2
  have h2 : ¬ dn l jobs m t < (jb jobs m).work := fun hd => hn ⟨m, hm, hl, hr, hd⟩
  omega
theorem last_quiet (S : Script l jobs) : ∀ R : Nat, ∃ t0, t0 ≤ R ∧ quiet l jobs i t0 ∧ ∀ t, t0 < t → t ≤ R → ¬ quiet l jobs i t
  | 0 => ⟨0, Nat.le_refl _, quiet_zero S, fun t h1 h2 => by omega⟩
  | R + 1 => by
    by_cases h : quiet l jobs i (R + 1)
    · exact ⟨R + 1, Nat.le_refl _, h, fun t h1 h2 => by omega⟩
    · obtain ⟨t0, h1, h2, h3⟩ := last_quiet S R
      refine ⟨t0, by omega, h2, fun t h4 h5 => ?_⟩
      by_cases e : t = R + 1
      · rw [e]; exact h
      · exact h3 t h4 (by omega)
def wrk (l : List Task) (jobs : List Job) (i t0 n : Nat) : Int := sumF (fun m => if lev l jobs i m then dn l jobs m (t0 + n) - dn l jobs m t0 else 0) jobs.length
open Classical in
theorem wrk_succ (S : Script l jobs) (t0 n : Nat) : wrk l jobs i t0 (n + 1) = wrk l jobs i t0 n + if ∃ r : Nat, who l jobs (t0 + n) = r ∧ lev l jobs i r then 1 else 0 := by
  unfold wrk
  have key : ∀ m, m < jobs.length → dn l jobs m (t0 + (n + 1)) = dn l jobs m (t0 + n) + if who l jobs (t0 + n) = m then 1 else 0 := fun m hm => by
    rw [← Nat.add_assoc]; exact dn_succ S hm _
  by_cases h : ∃ r : Nat, who l jobs (t0 + n) = r ∧ lev l jobs i r
  · rw [if_pos h]
    obtain ⟨r, h1, h2⟩ := h
    refine sumF_at (r := r) (who_dn S h1).1 fun m hm => ?_
    rw [key m hm, h1]
    by_cases e : m = r
    · subst e; rw [if_pos h2, if_pos h2, if_pos rfl, if_pos rfl]; omega
    · have e2 : ¬ ((r : Int) = (m : Int)) := by omega
      rw [if_neg e, if_neg e2]; split <;> omega
  · rw [if_neg h, Int.add_zero]
    refine sumF_eq fun m hm => ?_
    rw [key m hm]
    split
    · rename_i hl
      rw [if_neg fun e => h ⟨m, e, hl⟩]; omega
    · rfl
theorem window_len (hb : legalB l jobs = true) {B : Int} (hB : 0 ≤ B) (hq : ∀ m, m < jobs.length → ¬ lev l jobs i m → (atI l (jb jobs m).task).Q - 1 ≤ B) {t0 : Nat} : ∀ n : Nat, (∀ t, t0 < t → t ≤ t0 + n → ¬ quiet l jobs i t) → (n : Int) ≤ wrk l jobs i t0 n + min (n : Int) B
  | 0, _ => by
    have : wrk l jobs i t0 0 = 0 := by
      unfold wrk
      have h0 : ∀ m, sumF (fun m => if lev l jobs i m then dn l jobs m (t0 + 0) - dn l jobs m t0 else 0) m = 0 := by
        intro m
        induction m with
        | zero => rfl
        | succ m ih => show _ + _ = (0 : Int); rw [ih, Nat.add_zero]; dsimp only; split <;> omega
      exact h0 _
    rw [this]; omega
  | n + 1, hn => by
    have S := script_of hb
    have ih := window_len hb hB hq (t0 := t0) n fun t h1 h2 => hn t h1 (by omega)
    have hs := wrk_succ (i := i) S t0 n
    by_cases h : ∃ r : Nat, who l jobs (t0 + n) = r ∧ lev l jobs i r
    · rw [if_pos h] at hs; omega
    · rw [if_neg h] at hs
      have pend : ∀ t, t0 ≤ t → t ≤ t0 + n → ∃ m, m < jobs.length ∧ lev l jobs i m ∧ (jb jobs m).release ≤ t ∧ dn l jobs m t < (jb jobs m).work := fun t h1 h2 => by
        obtain ⟨m, m1, m2, m3, m4⟩ := not_quiet (hn (t + 1) (by omega) (by omega)) S
        have := dn_mono S m1 (show t ≤ t + 1 by omega)
        exact ⟨m, m1, m2, by omega, by omega⟩
      obtain ⟨m, m1, m2, m3, m4⟩ := pend (t0 + n) (by omega) (Nat.le_refl _)
      have hw : 0 ≤ who l jobs (t0 + n) := by
        rcases Int.lt_or_le (who l jobs (t0 + n)) 0 with h1 | h1
        · have := who_none S h1 m1 m3; omega
        · exact h1
      obtain ⟨r, hr⟩ : ∃ r : Nat, who l jobs (t0 + n) = r := ⟨(who l jobs (t0 + n)).toNat, by omega⟩
      have hnl : ¬ lev l jobs i r := fun hl => h ⟨r, hr, hl⟩
      have hrl := (who_dn S hr).1
      obtain ⟨σ, s1, s2, s3, s4⟩ := since S (q := fun j => (atI l (atI jobs j).task).Q) (fun j hj c hc => cuts_q hb j hj c hc) hr
      have hσ : σ < t0 := by
        rcases Nat.lt_or_ge σ t0 with h1 | h1
        · exact h1
        · exfalso
          obtain ⟨k, k1, k2, k3, k4⟩ := pend σ h1 s1
          have h5 := (s4 k k1 k3 k4).1
          unfold lev at k2 hnl
          omega
      have h6 := hq r hrl hnl
      have h7 : ((t0 + n - σ : Nat) : Int) < (atI l (jb jobs r).task).Q := by
        rcases s3 with h8 | h8
        · omega
        · exact h8
      omega
def inW (jobs : List Job) (h t0 w m : Nat) : Prop := (jb jobs m).task = h ∧ (t0 : Int) ≤ (jb jobs m).release ∧ (jb jobs m).release < ((t0 + w : Nat) : Int)
instance (jobs : List Job) (h t0 w m : Nat) : Decidable (inW jobs h t0 w m) := by unfold inW; infer_instance
def cntW (jobs : List Job) (h t0 w : Nat) : Nat → Int
  | 0 => 0
  | m + 1 => cntW jobs h t0 w m + if inW jobs h t0 w m then 1 else 0
theorem cntW_succ (jobs : List Job) (h t0 w m : Nat) : cntW jobs h t0 w (m + 1) = cntW jobs h t0 w m + if inW jobs h t0 w m then 1 else 0 := rfl
theorem cntW_at (hb : legalB l jobs = true) (h t0 w : Nat) : ∀ M, M ≤ jobs.length → 0 ≤ cntW jobs h t0 w M ∧ (cntW jobs h t0 w M = 0 ∨ ∃ m, m < M ∧ inW jobs h t0 w m ∧ (t0 : Int) - (atI l (h : Int)).J + (cntW jobs h t0 w M - 1) * (atI l (h : Int)).T ≤ (jb jobs m).arrive)
  | 0, _ => ⟨Int.le_refl _, .inl rfl⟩
  | M + 1, hM => by
    obtain ⟨h0, ih⟩ := cntW_at hb h t0 w M (by omega)
    have hj := jobOK_of hb (show M < jobs.length by omega)
    unfold cntW
    by_cases hc : inW jobs h t0 w M
    · rw [if_pos hc]
      refine ⟨by omega, .inr ⟨M, by omega, hc, ?_⟩⟩
      have hrel := hj.release.2
      rw [hc.1] at hrel
      rcases ih with ih | ⟨m, m1, m2, m3⟩
      · rw [ih]
        have := hc.2.1
        simp only [Int.zero_add, Int.sub_self, Int.zero_mul]
        omega
      · have h5 := arrive_le hb M m1 (by omega) (by show (jb jobs m).task = (jb jobs M).task; rw [m2.1, hc.1])
        have h6 : (jb jobs m).arrive + (atI l (jb jobs M).task).T ≤ (jb jobs M).arrive := h5
        rw [hc.1] at h6
        have e : (cntW jobs h t0 w M + 1 - 1) * (atI l (h : Int)).T = (cntW jobs h t0 w M - 1) * (atI l (h : Int)).T + (atI l (h : Int)).T := by
          rw [Int.add_sub_cancel, Int.sub_mul, Int.one_mul]; omega
        rw [e]; omega
    · rw [if_neg hc, Int.add_zero]
      refine ⟨h0, ?_⟩
      rcases ih with ih | ⟨m, m1, m2, m3⟩
      · exact .inl ih
      · exact .inr ⟨m, by omega, m2, m3⟩
theorem cntW_le (hb : legalB l jobs = true) {h t0 w : Nat} (hT : 1 ≤ (atI l (h : Int)).T) (hJ : 0 ≤ (atI l (h : Int)).J) (hw : 1 ≤ w) : 0 ≤ cntW jobs h t0 w jobs.length ∧ (cntW jobs h t0 w jobs.length - 1) * (atI l (h : Int)).T < w + (atI l (h : Int)).J := by
  obtain ⟨h0, h1⟩ := cntW_at hb h t0 w jobs.length (Nat.le_refl _)
  refine ⟨h0, ?_⟩
  rcases h1 with h1 | ⟨m, m1, m2, m3⟩
  · rw [h1]
    have : (0 - 1 : Int) * (atI l (h : Int)).T = -(atI l (h : Int)).T := by rw [Int.zero_sub, Int.neg_mul, Int.one_mul]
    rw [this]; omega
  · have hj := (jobOK_of hb m1).release.1
    have := m2.2.2
    omega
def askN (l : List Task) (i : Nat) (w : Int) : Nat → Int := sumF fun h => if (atI l (h : Int)).P < (atI l (i : Int)).P then ((w + (atI l (h : Int)).J + (atI l (h : Int)).T - 1) / (atI l (h : Int)).T) * (atI l (h : Int)).C else 0
def gotN (l : List Task) (jobs : List Job) (i t0 w M : Nat) (h : Nat) : Int := if (atI l (h : Int)).P ≤ (atI l (i : Int)).P then cntW jobs h t0 w M * (atI l (h : Int)).C else 0
theorem got_le (hb : legalB l jobs = true) (t0 w : Nat) : ∀ M, M ≤ jobs.length → sumF (fun m => if lev l jobs i m ∧ (t0 : Int) ≤ (jb jobs m).release ∧ (jb jobs m).release < ((t0 + w : Nat) : Int) then (jb jobs m).work else 0) M ≤ sumF (gotN l jobs i t0 w M) l.length
  | 0, _ => by
    have : sumF (gotN l jobs i t0 w 0) l.length = sumF (fun _ => 0) l.length := sumF_eq fun h _ => by
      unfold gotN cntW; split <;> simp
    rw [this]
    have h0 : ∀ n, sumF (fun _ => (0 : Int)) n = 0 := fun n => by
      induction n with
      | zero => rfl
      | succ n ih => show sumF (fun _ => (0 : Int)) n + 0 = 0; rw [ih]; rfl
    rw [h0]; exact Int.le_refl _
  | M + 1, hM => by
    have ih := got_le hb t0 w M (by omega)
    have hj := jobOK_of hb (show M < jobs.length by omega)
    obtain ⟨r, hr⟩ : ∃ r : Nat, (jb jobs M).task = r := ⟨(jb jobs M).task.toNat, by have := hj.task; omega⟩
    have hrl : r < l.length := by have := hj.task; omega
    have hC := hj.work.2
    rw [hr] at hC
    show _ + (if _ then _ else _) ≤ _
    by_cases hc : lev l jobs i M ∧ (t0 : Int) ≤ (jb jobs M).release ∧ (jb jobs M).release < ((t0 + w : Nat) : Int)
    · rw [if_pos hc]
      have hin : inW jobs r t0 w M := ⟨hr, hc.2⟩
      have e : sumF (gotN l jobs i t0 w (M + 1)) l.length = sumF (gotN l jobs i t0 w M) l.length + (atI l (r : Int)).C := sumF_at hrl fun h hh => by
        unfold gotN
        by_cases eh : h = r
        · subst eh
          have hl : (atI l (h : Int)).P ≤ (atI l (i : Int)).P := by have := hc.1; unfold lev at this; rw [hr] at this; exact this
          rw [if_pos hl, if_pos hl, if_pos rfl]
          rw [cntW_succ, if_pos hin, Int.add_mul, Int.one_mul]
        · rw [if_neg eh, Int.add_zero]
          have : ¬ inW jobs h t0 w M := fun hi => eh (by have := hi.1; omega)
          rw [cntW_succ, if_neg this, Int.add_zero]
      rw [e]; omega
    · rw [if_neg hc, Int.add_zero]
      refine Int.le_trans ih (sumF_le fun h hh => ?_)
      unfold gotN
      split
      · rename_i hP
        have hC0 : 0 ≤ (atI l (h : Int)).C := by
          have := (legal_ok hb).2.2
          obtain ⟨_, _, hok⟩ := checkAll_ok this
          have := (hok _ (atI_mem (l := l) (i := (h : Int)) (by omega) (by omega))).1
          simp only [rangesB] at this; omega
        have : cntW jobs h t0 w M ≤ cntW jobs h t0 w (M + 1) := by
          show _ ≤ _ + (if _ then _ else _)
          split <;> omega
        exact Int.mul_le_mul_of_nonneg_right this hC0
      · exact Int.le_refl _
theorem window (hb : legalB l jobs = true) (hi : i < l.length) {B : Int} {w : Nat} (hB : 0 ≤ B) (hq : ∀ m, m < jobs.length → ¬ lev l jobs i m → (atI l (jb jobs m).task).Q - 1 ≤ B) (hw1 : 1 ≤ w) (hwT : (w : Int) + (atI l (i : Int)).J ≤ (atI l (i : Int)).T) (hneed : (atI l (i : Int)).C + B + askN l i w l.length ≤ w) {k e : Nat} (hk : k < jobs.length) (ht : (jb jobs k).task = i) (he : EndAt l jobs k e) : (e : Int) ≤ (jb jobs k).release + w := by
  have S := script_of hb
  have hr0 := (S.ok.rel _ (jb_mem hk)).1
  obtain ⟨R, hR⟩ : ∃ R : Nat, (jb jobs k).release = R := ⟨(jb jobs k).release.toNat, by omega⟩
  have hlk : lev l jobs i k := by unfold lev; rw [ht]; exact Int.le_refl _
  obtain ⟨t0, h1, h2, h3⟩ := last_quiet (i := i) S R
  by_cases hex : ∃ t, t0 < t ∧ t ≤ t0 + w ∧ quiet l jobs i t
  · obtain ⟨t, a1, a2, a3⟩ := hex
    have hRt : R < t := by
      rcases Nat.lt_or_ge R t with h | h
      · exact h
      · exact absurd a3 (h3 t a1 h)
    have := (he.lt S hk t).1 (a3 k hk hlk (by omega))
    omega
  · exfalso
    have hnq : ∀ t, t0 < t → t ≤ t0 + w → ¬ quiet l jobs i t := fun t a b c => hex ⟨t, a, b, c⟩
    have hlen := window_len hb hB hq (t0 := t0) w hnq
    obtain ⟨m, m1, m2, m3, m4⟩ := not_quiet (hnq (t0 + w) (by omega) (Nat.le_refl _)) S
    have hstep : ∀ x, x < jobs.length → (if lev l jobs i x then dn l jobs x (t0 + w) - dn l jobs x t0 else 0) ≤ if lev l jobs i x ∧ (t0 : Int) ≤ (jb jobs x).release ∧ (jb jobs x).release < ((t0 + w : Nat) : Int) then (jb jobs x).work else 0 := fun x hx => by
      have d0 := dn_in S hx t0
      have d1 := dn_in S hx (t0 + w)
      by_cases hl : lev l jobs i x
      · rw [if_pos hl]
        by_cases hra : (t0 : Int) ≤ (jb jobs x).release
        · by_cases hrb : (jb jobs x).release < ((t0 + w : Nat) : Int)
          · rw [if_pos ⟨hl, hra, hrb⟩]; omega
          · rw [if_neg fun h => hrb h.2.2]
            have := dn_le S hx (t0 + w)
            omega
        · rw [if_neg fun h => hra h.2.1]
          have := h2 x hx hl (by omega)
          omega
      · rw [if_neg hl, if_neg fun h => hl h.1]; exact Int.le_refl _
    have hmr : (t0 : Int) ≤ (jb jobs m).release := by
      rcases Int.lt_or_le (jb jobs m).release (t0 : Int) with h | h
      · have := h2 m m1 m2 h
        have := dn_mono S m1 (show t0 ≤ t0 + w by omega)
        omega
      · exact h
    have hstr := sumF_strict m1 hstep (by
      rw [if_pos m2, if_pos ⟨m2, hmr, m3⟩]
      have := (dn_in S m1 t0).1
      omega)
    have hgot := got_le (i := i) hb t0 w jobs.length (Nat.le_refl _)
    have hok : ∀ h : Nat, h < l.length → (1 ≤ (atI l (h : Int)).T ∧ 0 ≤ (atI l (h : Int)).J) ∧ 1 ≤ (atI l (h : Int)).C := fun h hh => by
      obtain ⟨_, _, hok⟩ := checkAll_ok (legal_ok hb).2.2
      have := (hok _ (atI_mem (l := l) (i := (h : Int)) (by omega) (by omega))).1
      simp only [rangesB] at this; omega
    have hsum : sumF (gotN l jobs i t0 w jobs.length) l.length ≤ askN l i w l.length + (atI l (i : Int)).C := by
      have e := sumF_at (f := fun h => if (atI l (h : Int)).P < (atI l (i : Int)).P then (((w : Int) + (atI l (h : Int)).J + (atI l (h : Int)).T - 1) / (atI l (h : Int)).T) * (atI l (h : Int)).C else 0) (g := fun h => (if (atI l (h : Int)).P < (atI l (i : Int)).P then (((w : Int) + (atI l (h : Int)).J + (atI l (h : Int)).T - 1) / (atI l (h : Int)).T) * (atI l (h : Int)).C else 0) + if h = i then (atI l (i : Int)).C else 0) (c := (atI l (i : Int)).C) hi fun h hh => rfl
      unfold askN
      rw [← e]
      refine sumF_le fun h hh => ?_
      obtain ⟨⟨hT, hJ⟩, hC⟩ := hok h hh
      obtain ⟨c0, c1⟩ := cntW_le (t0 := t0) hb hT hJ hw1
      unfold gotN
      by_cases hlt : (atI l (h : Int)).P < (atI l (i : Int)).P
      · have hne : h ≠ i := fun e => by rw [e] at hlt; omega
        rw [if_pos (by omega), if_pos hlt, if_neg hne, Int.add_zero]
        refine Int.mul_le_mul_of_nonneg_right ?_ (by omega)
        refine Int.le_ediv_of_mul_le (by omega) ?_
        rw [Int.sub_mul, Int.one_mul] at c1
        omega
      · rw [if_neg hlt, Int.zero_add]
        by_cases hle : (atI l (h : Int)).P ≤ (atI l (i : Int)).P
        · have hhi : (h : Int) = i := S.prio h i (by omega) (by omega) (by omega) (by omega) (by omega)
          have hhi2 : h = i := by omega
          subst hhi2
          rw [if_pos hle, if_pos rfl]
          have hone : cntW jobs h t0 w jobs.length ≤ 1 := by
            rcases Int.lt_or_le 1 (cntW jobs h t0 w jobs.length) with hh2 | hh2
            · exfalso
              have h5 : 1 * (atI l (h : Int)).T ≤ (cntW jobs h t0 w jobs.length - 1) * (atI l (h : Int)).T := Int.mul_le_mul_of_nonneg_right (by omega) (by omega)
              omega
            · exact hh2
          have h6 : cntW jobs h t0 w jobs.length * (atI l (h : Int)).C ≤ 1 * (atI l (h : Int)).C := Int.mul_le_mul_of_nonneg_right hone (by omega)
          omega
        · rw [if_neg hle]
          have hCi := (hok i hi).2
          split <;> omega
    unfold wrk at hlen
    omega
end Go.L.Try
namespace Go.L.Try
open Go Go.L
theorem askN_hN (l : List Task) (i : Nat) (w : Int) : ∀ n, askN l i w n = hN l (i : Int) w n
  | 0 => rfl
  | n + 1 => by
    have ih := askN_hN l i w n
    show askN l i w n + (if _ then _ else _) = _
    rw [ih, hN]
    split <;> simp
theorem blockN_ge {l : List Task} {i : Int} (hok : ∀ t ∈ l, okTask t) : ∀ n, n ≤ l.length → ∀ k : Nat, k < n → (atI l i).P < (atI l (k : Int)).P → (atI l (k : Int)).Q - 1 ≤ blockN l i n
  | 0, _, k, hk, _ => by omega
  | n + 1, hn, k, hk, hp => by
    have ih := blockN_ge (i := i) hok n (by omega)
    unfold blockN
    by_cases e : k = n
    · subst e; rw [if_pos hp]; omega
    · have := ih k (by omega) hp
      split <;> omega
theorem need_full {l : List Task} {i : Int} (hb : isP l i = true) (hl : ∀ t ∈ l, Mid t) (hn : l.length ≤ 6) {w : Int} (hw : 1 ≤ w ∧ w ≤ 1073741824) : needP l i w = (atI l i).C + blockP l i + hN l i w l.length := by
  obtain ⟨hi, _, hok⟩ := isP_ok hb
  obtain ⟨e, h1, h2⟩ := nosat hl hn (i := i) (w := w) (by omega) l.length (Nat.le_refl _)
  have hC := (hl _ (atI_mem hi.1 hi.2)).C
  have hB : 0 ≤ blockP l i ∧ blockP l i ≤ 2147483647 := by unfold blockP; rw [if_pos hb]; exact blockN_in hok i _ (Nat.le_refl _)
  have eh : higherP l i w = hN l i w l.length := by unfold higherP; rw [if_pos ⟨hb, by omega⟩]; exact e
  rw [needP_eq hb, eh]
  have e2 : sat ((atI l i).C + blockP l i) = (atI l i).C + blockP l i := by unfold sat; rw [if_pos (by omega)]
  rw [e2]
  unfold sat
  rw [if_pos (by omega)]
theorem bound_sound {l : List Task} {jobs : List Job} (hb : legalB l jobs = true) (hl : ∀ t ∈ l, Mid t) (hn : l.length ≤ 6) {k e : Nat} (hk : k < jobs.length) (he : EndAt l jobs k e) (hr : (boundP l (jb jobs k).task).2 = 0) : (e : Int) - (jb jobs k).arrive ≤ (boundP l (jb jobs k).task).1 ∧ (boundP l (jb jobs k).task).1 ≤ (atI l (jb jobs k).task).D := by
  have hj := jobOK_of hb hk
  obtain ⟨i, hi⟩ : ∃ i : Nat, (jb jobs k).task = i := ⟨(jb jobs k).task.toNat, by have := hj.task; omega⟩
  rw [hi] at hr ⊢
  have hil : i < l.length := by have := hj.task; omega
  obtain ⟨_, _, hok⟩ := checkAll_ok (legal_ok hb).2.2
  have hp : isP l (i : Int) = true := by unfold isP; exact decide_eq_true ⟨(legal_ok hb).2.2, by omega, by omega⟩
  unfold boundP at hr ⊢
  rw [if_pos hp] at hr ⊢
  cases hls : leastP l (i : Int) with
  | none => rw [hls] at hr; simp at hr
  | some w =>
    dsimp only
    unfold leastP at hls
    obtain ⟨h1, h2, _⟩ := leastN_some hls
    have hit := hok _ (atI_mem (l := l) (i := (i : Int)) (by omega) (by omega))
    obtain ⟨hrg, hft⟩ := hit
    simp only [rangesB, fitsB] at hrg hft
    have hmost : w ≤ (atI l (i : Int)).D - (atI l (i : Int)).J := by unfold mostP at h1; omega
    obtain ⟨W, hW⟩ : ∃ W : Nat, w = W := ⟨w.toNat, by omega⟩
    subst hW
    have hmid := hl _ (atI_mem (l := l) (i := (i : Int)) (by omega) (by omega))
    have hT := hmid.T
    rw [need_full hp hl hn (by omega)] at h2
    have hB : 0 ≤ blockP l (i : Int) := by unfold blockP; rw [if_pos hp]; exact (blockN_in hok _ _ (Nat.le_refl _)).1
    have hq : ∀ m, m < jobs.length → ¬ lev l jobs i m → (atI l (jb jobs m).task).Q - 1 ≤ blockP l (i : Int) := fun m hm hnl => by
      have hjm := (jobOK_of hb hm).task
      obtain ⟨t, ht⟩ : ∃ t : Nat, (jb jobs m).task = t := ⟨(jb jobs m).task.toNat, by omega⟩
      unfold lev at hnl
      rw [ht] at hnl hjm ⊢
      unfold blockP
      rw [if_pos hp]
      exact blockN_ge hok l.length (Nat.le_refl _) t (by omega) (by omega)
    have hwin := window hb hil hB hq (w := W) (by omega) (by omega) (by rw [askN_hN]; omega) hk hi he
    have hrel := hj.release.2
    rw [hi] at hrel
    omega
end Go.L.Try
set_option maxHeartbeats 2000000
namespace Go.L.Try
open Go Go.L
variable {E : Env} {G : Nat}
theorem small_mid {t : Task} (h : SmallT t) : Mid t := ⟨by have := h.C; omega, by have := h.T; have := h.D; have := h.C; omega, by have := h.J; have := h.D; have := h.C; omega⟩
theorem sound_at {s : List Task} {jobs : List Job} {R : RS} {T : Nat} (hb : legalB s jobs = true) (hsm : ∀ t ∈ s, SmallT t) (hn : s.length ≤ 6) (r : RunAt s jobs R T) {n : Nat} (hk : n < jobs.length) (hr : (boundP s (jb jobs n).task).2 = 0) :
    atI R.ends (n : Int) - (jb jobs n).arrive ≤ (boundP s (jb jobs n).task).1 ∧ (boundP s (jb jobs n).task).1 ≤ (atI s (jb jobs n).task).D := by
  obtain ⟨e, h1, _, h3⟩ := r.ends n hk
  rw [h1]
  exact bound_sound hb (fun t ht => small_mid (hsm t ht)) hn hk h3 hr
theorem RdJ.open2 {h : Heap} {v : Value} {jobs : List Job} (r : RdJ h v jobs) : ∃ jl : List (NV Job), jobs = jl.map NV.j ∧ Rd 5 (encN hdJ) h v jl ∧ ∀ p ∈ jl, Rd 1 encI h p.v p.j.cuts := by
  obtain ⟨jl, h1, h2, h3⟩ := r.is
  exact ⟨jl, h1.symm, h2, h3⟩
theorem rtaSound (hE : Laid E) (hX : LaidAdd E) (hZ : LaidTz E G) {h : Heap} (htb : Tab G h) {vl vr : Value} {l : List Spec} {raw : List Raw} {turn : Int} (hl : Rd 5 encSp h vl l) (hr : RdR h vr raw) (ht : i64in turn) :
    callW E (.func (.func n_law14_RtaSound) #[] #[]) [vl, vr, .int .i64 turn] h = some (.bool true, h, []) := by
  refine fn_same hE.law14_RtaSound rfl (by simp) ?_
  have aw0 := awake14 hE hX hZ htb
  simp only [argsF]
  (repeat' simp -dsimp (disch := omega) only [↓EA, EB, Nat.reduceEqDiff, Nat.reduceAdd, ↓reduceIte, reduceCtorEq, eq_self, *])
  clear aw0
  refine wx_new (set04 hE hl (most := 5) (by decide) (by decide) ht) fun v1 ys r1 p1 => ?_
  have P1 := p1
  generalize _ ++ ys = H1 at r1 p1 P1 ⊢
  have hv := setP_valid l (most := 5) turn (by decide) (by decide)
  have hsl := setP_len l (most := 5) (turn := turn) (by decide)
  have hsm := fun t ht => setP_small (l := l) (most := 5) (turn := turn) (t := t) (by decide) (by decide) ht
  generalize setP l 5 turn = s at *
  have hnm : ∀ t ∈ s, t.name.size < 1152921504606846976 := fun t ht => by have := (hsm t ht).name; omega
  have o1 := r1.one
  have c1 := r1.cv
  clear p1
  (repeat' simp -dsimp (disch := omega) only [↓EA, EB, Nat.reduceEqDiff, ↓reduceIte, reduceCtorEq, eq_self, *])
  refine wx_new (few08 hE (hr.pre P1) (most := 12) (by decide) (by decide)) fun v2 ys r2 p2 => ?_
  have P2 := P1.trans p2
  replace r1 := r1.pre p2
  generalize _ ++ ys = H2 at r2 p2 P2 r1 ⊢
  clear p2 P1
  generalize hraw : List.map fewOf (List.take (12 : Int).toNat raw) = rw8 at *
  have hraw8 : rw8.length ≤ 12 := by rw [← hraw, List.length_map, List.length_take]; omega
  clear hraw
  (repeat' simp -dsimp (disch := omega) only [↓EA, EB, Nat.reduceEqDiff, ↓reduceIte, eq_self, *])
  refine wx_new (decode08 hE r1 hnm r2) fun v3 ys r3 p3 => ?_
  have P3 := P2.trans p3
  replace r1 := r1.pre p3
  generalize _ ++ ys = H3 at r3 p3 P3 r1 ⊢
  have sj := decode_small hv hsm rw8 hraw8 (by decide)
  clear p3 P2 r2
  generalize decodeP s rw8 = jobs at *
  have hsum : sumWork jobs ≤ 1099511627776 := by have := sj.sum; omega
  have hjl := sj.len
  have SJ := Hid.mk sj
  clear sj
  obtain ⟨jl, hjl2, hj, hcuts⟩ := RdJ.open2 r3
  have hlen : jl.length ≤ 12 := by rw [hjl2, List.length_map] at hjl; exact hjl
  have hjlen : jobs.length = jl.length := by rw [hjl2, List.length_map]
  have hW0 := P3.le
  have Hone := Hid.mk (fun p hp => (hcuts p hp).one : ∀ p ∈ jl, oneCell p.v = true)
  have Hjl2 := Hid.mk hjl2
  clear hjl2 hcuts
  have hrun := runX hE r1 hnm r3 (by omega) hsum
  (repeat' simp -dsimp (disch := omega) only [↓EA, EB, Nat.reduceEqDiff, ↓reduceIte, eq_self, *])
  refine wx_new (hrun) fun v5 ys r5 p5 => ?_
  have P5 := (P3).trans p5
  generalize _ ++ ys = H5 at r5 p5 P5 ⊢
  obtain ⟨vs, rfl, hv5⟩ := r5
  rcases hv5 with _ | @⟨_, _, va5, _, ra5, _ | @⟨_, _, vb5, _, rb5, _ | _⟩⟩
  have na5 := Rd.nt ra5.1
  have nb5 := Rd.nt rb5.1
  have oa5 := ra5.1.one
  have ob5 := rb5.1.one
  have ca5 := ra5.1.cv
  have cb5 := rb5.1.cv
  have r15 := r1.pre p5
  have hj5 := hj.pre p5
  have rb5' := rb5.1
  have ht5 := htb.pre P5
  clear p5 hrun rb5
  obtain ⟨T, R⟩ := runU_at SJ.out.legal hsum
  have S := script_of SJ.out.legal
  have HEn := Hid.mk (fun i hi => works_end S R (k := i) hi)
  have hel := R.elen
  have HS := Hid.mk (fun n (hk : n < jobs.length) => sound_at SJ.out.legal hsm (by omega) R hk)
  have hbd := fun i => boundS hE hX hZ ht5 r15 hnm i
  generalize runU s jobs 9223372036854775807 = rs at *
  have hl3 : lensV false v3 = some (.int .i64 jobs.length) := by rw [hj5.len, hjlen]
  have hl5 : lensV false vb5 = some (.int .i64 jobs.length) := by rw [rb5'.len, hel]
  have hW5 := P5.le
  have HEl := Hid.mk hel
  clear R S hv
  (repeat' simp -dsimp (disch := omega) only [↓EA, EB, Nat.reduceEqDiff, ↓reduceIte, eq_self, *])
  refine WO.loop (fun (n : Nat) fr h' => h' = H5 ∧ n ≤ jobs.length ∧ get fr 7 = .bool true ∧ get fr 8 = v1 ∧ get fr 9 = v3 ∧ get fr 11 = vb5 ∧ get fr 12 = .int .i64 n) (fun n => jobs.length - n) ?_ 0 ⟨rfl, Nat.zero_le _, rfl, rfl, rfl, rfl, rfl⟩
  rintro n fr h' ⟨rfl, hn, g7, g8, g9, g11, g12⟩
  unfold c_law14_RtaSound_l0
  by_cases hnj : n < jobs.length
  · have hn3 : (n : Int) < jl.length ∧ (n : Int) < jobs.length ∧ (n : Int) < rs.ends.length := by have := HEl.out; omega
    have e3 : (atI jl (n : Int)).j = jb jobs n := by
      show _ = atI jobs (n : Int)
      rw [Hjl2.out]; exact atI_map' NV.j jl (n : Int) (by omega) (by omega)
    have hjk := jobOK_of SJ.out.legal hnj
    have htk := hjk.task
    have hrl := hjk.release
    have har := hjk.arrive
    have hwk := hjk.work
    have hDs := (hsm _ (atI_mem htk.1 htk.2)).D
    have hS := HS.out n hnj
    have hb := hbd (jb jobs n).task
    have hen := HEn.out n hnj
    generalize boundP s (jb jobs n).task = b at *
    obtain ⟨b1, b2⟩ := b
    dsimp only at hS hb
    have hr5 : -9223372036854775808 ≤ atI rs.ends (n : Int) - (jb jobs n).arrive := by omega
    clear hbd hjk hj ra5 r1
    by_cases hb2 : b2 = 0
    · obtain ⟨s1, s2⟩ := hS hb2
      subst hb2
      (repeat' (first | (with_reducible refine A2 (fun _ => ?_) (fun _ => ?_) <;> try (exfalso; omega)) | (with_reducible refine A3 (fun _ => ?_) (fun _ => ?_) <;> try (exfalso; omega)) | simp -dsimp (disch := omega) only [↓EA, EB, Nat.reduceEqDiff, ↓reduceIte, eq_self, *, hj5.len, hj5.ixs, hj5.ld, hj5.ld0, r15.ixs, r15.ld, rb5'.ixs, rb5'.ld0, encN, hdJ, encT, encI]))
      all_goals first | exact Next.mk (n + 1) ⟨rfl, by omega, rfl, rfl, rfl, rfl, rfl⟩ (by omega) | (exfalso; omega)
    · (repeat' simp -dsimp (disch := omega) only [↓EA, EB, Nat.reduceEqDiff, ↓reduceIte, eq_self, *, hj5.len, hj5.ixs, hj5.ld0, encN, hdJ])
      all_goals first | exact Next.mk (n + 1) ⟨rfl, by omega, rfl, rfl, rfl, rfl, rfl⟩ (by omega) | (exfalso; omega)
  · have hnn : n = jobs.length := by omega
    (repeat' (first | (with_reducible refine A3 (fun _ => ?_) (fun _ => ?_) <;> try (exfalso; omega)) | simp -dsimp (disch := omega) only [↓EA, EB, Nat.reduceEqDiff, ↓reduceIte, eq_self, *]))
end Go.L.Try
