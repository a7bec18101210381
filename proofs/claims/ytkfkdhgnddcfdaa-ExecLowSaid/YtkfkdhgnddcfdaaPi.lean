/- BUSY OR IDLE, whoever works (plain). -/
import Derived.Test.YtkfkdhgnddcfdaaPh
set_option linter.unusedVariables false
set_option linter.unusedSimpArgs false
set_option maxRecDepth 100000
set_option maxHeartbeats 1000000
namespace Go.L.Try
open Go Go.L
variable {l l' : List Task} {jobs jobs' : List Job}
def sumF (f : Nat → Int) : Nat → Int
  | 0 => 0
  | n + 1 => sumF f n + f n
theorem sumF_le {f g : Nat → Int} : ∀ {m : Nat}, (∀ i, i < m → f i ≤ g i) → sumF f m ≤ sumF g m
  | 0, _ => Int.le_refl _
  | m + 1, h => by
    have h1 := sumF_le (m := m) fun i hi => h i (by omega)
    have h2 := h m (by omega)
    show sumF f m + f m ≤ sumF g m + g m
    omega
theorem sumF_eq {f g : Nat → Int} : ∀ {m : Nat}, (∀ i, i < m → f i = g i) → sumF f m = sumF g m
  | 0, _ => rfl
  | m + 1, h => by
    show sumF f m + f m = sumF g m + g m
    rw [sumF_eq (m := m) fun i hi => h i (by omega), h m (by omega)]
theorem sumF_all {f g : Nat → Int} : ∀ {m : Nat}, (∀ i, i < m → f i ≤ g i) → sumF f m = sumF g m → ∀ i, i < m → f i = g i
  | 0, _, _ => fun i hi => by omega
  | m + 1, h, he => by
    have h1 := sumF_le (m := m) fun i hi => h i (by omega)
    have h2 := h m (by omega)
    have he' : sumF f m + f m = sumF g m + g m := he
    intro i hi
    by_cases e : i = m
    · subst e; omega
    · exact sumF_all (m := m) (fun i hi => h i (by omega)) (by omega) i (by omega)
theorem sumF_one {f g : Nat → Int} {r : Nat} : ∀ {m : Nat}, r < m → (∀ i, i < m → g i = f i + if i = r then 1 else 0) → sumF g m = sumF f m + 1
  | 0, h, _ => by omega
  | m + 1, h, he => by
    show sumF g m + g m = sumF f m + f m + 1
    have h1 := he m (by omega)
    by_cases e : m = r
    · subst e
      rw [if_pos rfl] at h1
      rw [sumF_eq (f := g) (g := f) fun i hi => by have := he i (by omega); rw [if_neg (by omega)] at this; omega]
      omega
    · rw [if_neg e] at h1
      rw [sumF_one (m := m) (by omega) fun i hi => he i (by omega)]; omega
/-- All that is done by a tick. -/
def dnAll (l : List Task) (jobs : List Job) (n : Nat) : Int := sumF (fun i => dn l jobs i n) jobs.length
/-- All work that is released at a tick. -/
def relW (jobs : List Job) (n : Nat) : Int := sumF (fun i => if (jb jobs i).release ≤ n then (jb jobs i).work else 0) jobs.length
def allW (jobs : List Job) : Int := sumF (fun i => (jb jobs i).work) jobs.length
theorem dn_unrel (S : Script l jobs) {i n : Nat} (hi : i < jobs.length) (h : ¬ (jb jobs i).release ≤ n) : dn l jobs i n = 0 := by
  have h1 := dn_le S hi n
  have h2 := (dn_in S hi n).1
  omega
theorem dn_relW (S : Script l jobs) {i n : Nat} (hi : i < jobs.length) : dn l jobs i n ≤ if (jb jobs i).release ≤ n then (jb jobs i).work else 0 := by
  split
  · exact (dn_in S hi n).2
  · rename_i h; have := dn_unrel S hi h; omega
theorem idle_iff (S : Script l jobs) (n : Nat) : who l jobs n < 0 ↔ dnAll l jobs n = relW jobs n := by
  constructor
  · intro h
    refine sumF_eq fun i hi => ?_
    split
    · rename_i hr; exact who_none S h hi hr
    · rename_i hr; exact dn_unrel S hi hr
  · intro h
    rcases Int.lt_or_le (who l jobs n) 0 with h1 | h1
    · exact h1
    · obtain ⟨r, hr⟩ : ∃ r : Nat, who l jobs n = r := ⟨(who l jobs n).toNat, by omega⟩
      obtain ⟨h2, h3⟩ := who_dn S hr
      have h4 := sumF_all (fun i hi => dn_relW S (n := n) hi) h r h2
      rw [if_pos (who_rel S hr)] at h4
      omega
theorem dnAll_succ (S : Script l jobs) (n : Nat) : dnAll l jobs (n + 1) = dnAll l jobs n + if who l jobs n < 0 then 0 else 1 := by
  unfold dnAll
  by_cases h : who l jobs n < 0
  · rw [if_pos h, Int.add_zero]
    exact sumF_eq fun i hi => by rw [dn_succ S hi, if_neg (by omega), Int.add_zero]
  · rw [if_neg h]
    obtain ⟨r, hr⟩ : ∃ r : Nat, who l jobs n = r := ⟨(who l jobs n).toNat, by omega⟩
    refine sumF_one (r := r) (who_dn S hr).1 fun i hi => ?_
    rw [dn_succ S hi, hr]
    by_cases e : i = r
    · rw [if_pos e, if_pos (by omega)]
    · rw [if_neg e, if_neg (by omega)]
theorem dnAll_zero : dnAll l jobs 0 = 0 := by
  unfold dnAll
  have key : ∀ m, m ≤ jobs.length → sumF (fun i => dn l jobs i 0) m = 0 := by
    intro m
    induction m with
    | zero => intro _; rfl
    | succ m ih =>
      intro hm
      show sumF (fun i => dn l jobs i 0) m + dn l jobs m 0 = 0
      rw [ih (by omega), dn_zero (by omega)]; rfl
  exact key _ (Nat.le_refl _)
theorem all_iff (S : Script l jobs) (n : Nat) : (∀ i, i < jobs.length → dn l jobs i n = (jb jobs i).work) ↔ dnAll l jobs n = allW jobs :=
  ⟨fun h => sumF_eq h, fun h => sumF_all (fun i hi => (dn_in S hi n).2) h⟩
/-- Who works differs: but when somebody does, does not. -/
theorem dnAll_same (S : Script l jobs) (S' : Script l' jobs') (h : ∀ n, relW jobs' n = relW jobs n) : ∀ n, dnAll l' jobs' n = dnAll l jobs n
  | 0 => by rw [dnAll_zero, dnAll_zero]
  | n + 1 => by
    have ih := dnAll_same S S' h n
    rw [dnAll_succ S, dnAll_succ S', ih]
    have h1 := idle_iff S n
    have h2 := idle_iff S' n
    rw [ih, h n, ← h1] at h2
    by_cases hw : who l jobs n < 0
    · rw [if_pos hw, if_pos (h2.2 hw)]
    · rw [if_neg hw, if_neg fun hh => hw (h2.1 hh)]
theorem idle_same (S : Script l jobs) (S' : Script l' jobs') (h : ∀ n, relW jobs' n = relW jobs n) (n : Nat) : who l' jobs' n < 0 ↔ who l jobs n < 0 := by
  rw [idle_iff S, idle_iff S', dnAll_same S S' h, h]
/-! ### The last end -/
def maxF (f : Nat → Int) : Nat → Int
  | 0 => 0
  | n + 1 => max (maxF f n) (f n)
theorem maxF_le {f : Nat → Int} {x : Int} (hx : 0 ≤ x) : ∀ {m : Nat}, maxF f m ≤ x ↔ ∀ i, i < m → f i ≤ x
  | 0 => ⟨fun _ i hi => by omega, fun _ => hx⟩
  | m + 1 => by
    have ih := maxF_le (f := f) hx (m := m)
    show max (maxF f m) (f m) ≤ x ↔ _
    constructor
    · intro h i hi
      by_cases e : i = m
      · subst e; omega
      · exact ih.1 (by omega) i (by omega)
    · intro h
      have h1 := ih.2 fun i hi => h i (by omega)
      have h2 := h m (by omega)
      omega
theorem maxF_ge {f : Nat → Int} {m i : Nat} (hi : i < m) : f i ≤ maxF f m ∧ 0 ≤ maxF f m := by
  have h0 : ∀ m, 0 ≤ maxF f m := fun m => by
    cases m with
    | zero => exact Int.le_refl _
    | succ m => induction m with
      | zero => show 0 ≤ max 0 (f 0); omega
      | succ m ih => show 0 ≤ max _ _; omega
  exact ⟨(maxF_le (h0 m)).1 (Int.le_refl _) i hi, h0 m⟩
theorem maxF_nn {f : Nat → Int} : ∀ m : Nat, 0 ≤ maxF f m
  | 0 => Int.le_refl _
  | m + 1 => by have := maxF_nn (f := f) m; show 0 ≤ max _ _; omega
theorem maxF_is {f : Nat → Int} : ∀ {m : Nat}, 0 < maxF f m → ∃ i, i < m ∧ f i = maxF f m
  | 0, h => by have : (0 : Int) < 0 := h
               omega
  | m + 1, h => by
    have h' : 0 < max (maxF f m) (f m) := h
    show ∃ i, i < m + 1 ∧ f i = max (maxF f m) (f m)
    rcases Int.lt_or_le (maxF f m) (f m) with h1 | h1
    · exact ⟨m, by omega, by omega⟩
    · obtain ⟨i, hi, e⟩ := maxF_is (f := f) (m := m) (by omega)
      exact ⟨i, by omega, by omega⟩
variable {R R' : RS} {T T' : Nat}
theorem lastEnd_iff (S : Script l jobs) (r : RunAt l jobs R T) (n : Nat) : maxF (fun i => atI R.ends (i : Int)) jobs.length ≤ n ↔ dnAll l jobs n = allW jobs := by
  rw [maxF_le (by omega), ← all_iff S]
  constructor
  · intro h i hi
    obtain ⟨e, e1, e2, e3⟩ := r.ends i hi
    have := h i hi
    rw [e1] at this
    exact (e3.lt S hi n).2 (by omega)
  · intro h i hi
    obtain ⟨e, e1, e2, e3⟩ := r.ends i hi
    have := (e3.lt S hi n).1 (h i hi)
    rw [e1]; omega
theorem spans_any (S : Script l jobs) (r : RunAt l jobs R T) : R.L.length = 0 ↔ jobs.length = 0 := by
  constructor
  · intro h
    rcases Nat.eq_zero_or_pos jobs.length with h1 | h1
    · exact h1
    · exfalso
      obtain ⟨e, e1, e2, e3⟩ := r.ends 0 h1
      have h2 := e3.run
      have := e3.pos
      obtain ⟨i, hi, _⟩ := span_all r (k := e - 1) (by omega) (by omega)
      omega
  · intro h
    rcases Nat.eq_zero_or_pos R.L.length with h1 | h1
    · exact h1
    · have := (works_span S r h1).1; omega
theorem last_span (S : Script l jobs) (r : RunAt l jobs R T) (h : 0 < R.L.length) : (atI R.L ((R.L.length : Int) - 1)).to' = maxF (fun i => atI R.ends (i : Int)) jobs.length := by
  have e0 : ((R.L.length : Int) - 1) = ((R.L.length - 1 : Nat) : Int) := by omega
  rw [e0]
  have hl : R.L.length - 1 < R.L.length := by omega
  obtain ⟨q1, _, q3, _, q5, q6, _⟩ := works_span S r hl
  obtain ⟨j, hj⟩ : ∃ j : Nat, (atI R.L ((R.L.length - 1 : Nat) : Int)).job = j := ⟨(atI R.L ((R.L.length - 1 : Nat) : Int)).job.toNat, by omega⟩
  rw [hj] at q5 q1
  have h1 : (atI R.ends (j : Int)) ≤ _ := (maxF_ge (f := fun i => atI R.ends (i : Int)) (m := jobs.length) (i := j) (by omega)).1
  have h2 : 0 < maxF (fun i => atI R.ends (i : Int)) jobs.length := by omega
  obtain ⟨i, hi, he⟩ := maxF_is h2
  obtain ⟨e, e1, e2, e3⟩ := r.ends i hi
  have h3 := e3.run
  have h4 := e3.pos
  obtain ⟨k, hk, k1, k2⟩ := span_all r (k := e - 1) (by omega) (by omega)
  by_cases e4 : k = R.L.length - 1
  · rw [e4] at k2; omega
  · have := span_sort r hl (show k < R.L.length - 1 by omega)
    omega
theorem first_span (S : Script l jobs) (r : RunAt l jobs R T) (h : 0 < R.L.length) : ∃ a : Nat, (atI R.L 0).from' = a ∧ 0 ≤ who l jobs a ∧ ∀ k, k < a → who l jobs k < 0 := by
  obtain ⟨j, a, b, e, h1, h2, h3⟩ := span_at r h
  have hg := fun k => gap_none S r h (k := k)
  have e' : atI R.L 0 = ⟨j, a, b⟩ := e
  refine ⟨a, by rw [e'], ?_, fun k hk => ?_⟩
  · rw [h3 a (Nat.le_refl _) h1]; omega
  · refine hg k (by rw [endB_zero]; omega) ?_
    rw [e]; dsimp only; omega
theorem ends_same (S : Script l jobs) (S' : Script l' jobs') (r : RunAt l jobs R T) (r' : RunAt l' jobs' R' T') (h : ∀ n, relW jobs' n = relW jobs n) (hw : allW jobs' = allW jobs) :
    maxF (fun i => atI R'.ends (i : Int)) jobs'.length = maxF (fun i => atI R.ends (i : Int)) jobs.length ∧
    ((0 < R.L.length) → (0 < R'.L.length) → (atI R'.L 0).from' = (atI R.L 0).from') := by
  refine ⟨?_, fun hl hl' => ?_⟩
  · have h1 := lastEnd_iff S r
    have h2 := lastEnd_iff S' r'
    have n1 := maxF_nn (f := fun i => atI R.ends (i : Int)) jobs.length
    have n2 := maxF_nn (f := fun i => atI R'.ends (i : Int)) jobs'.length
    generalize maxF (fun i => atI R.ends (i : Int)) jobs.length = A at *
    generalize maxF (fun i => atI R'.ends (i : Int)) jobs'.length = B at *
    have hb : ∀ n : Nat, B ≤ n ↔ A ≤ n := fun n => by rw [h1, h2, dnAll_same S S' h, hw]
    have h3 := (hb A.toNat).2 (by omega)
    have h4 := (hb B.toNat).1 (by omega)
    omega
  · obtain ⟨a, a1, a2, a3⟩ := first_span S r hl
    obtain ⟨b, b1, b2, b3⟩ := first_span S' r' hl'
    have hi := idle_same S S' h
    rw [a1, b1]
    rcases Nat.lt_trichotomy a b with h5 | h5 | h5
    · have := (hi a).1 (b3 a h5); omega
    · rw [h5]
    · have := (hi b).2 (a3 b h5); omega
/-! ### Without sections -/
def softJ (j : Job) : Job := { j with cuts := [] }
theorem relW_map {f : Job → Job} (hr : ∀ j, (f j).release = j.release) (hw : ∀ j, (f j).work = j.work) (n : Nat) : relW (jobs.map f) n = relW jobs n := by
  unfold relW
  rw [List.length_map]
  exact sumF_eq fun i hi => by rw [jb_map' hi, hr, hw]
theorem allW_map {f : Job → Job} (hw : ∀ j, (f j).work = j.work) : allW (jobs.map f) = allW jobs := by
  unfold allW
  rw [List.length_map]
  exact sumF_eq fun i hi => by rw [jb_map' hi, hw]
theorem sumW_map {f : Job → Job} (hw : ∀ j, (f j).work = j.work) : sumWork (jobs.map f) = sumWork jobs := by
  unfold sumWork
  rw [List.length_map]
  have key : ∀ m, m ≤ jobs.length → sumN (fun i => (atI (jobs.map f) (i : Int)).work) m = sumN (fun i => (atI jobs (i : Int)).work) m := by
    intro m
    induction m with
    | zero => intro _; rfl
    | succ m ih =>
      intro hm
      have e : (jb (jobs.map f) m).work = (jb jobs m).work := by rw [jb_map' (show m < jobs.length by omega), hw]
      simp only [sumN]
      rw [ih (by omega)]
      congr 1
  exact key _ (Nat.le_refl _)
end Go.L.Try

/- THE LEAST URGENT TASK, without sections: it changes nothing of the others (plain). -/
set_option linter.unusedVariables false
set_option linter.unusedSimpArgs false
set_option maxRecDepth 100000
set_option maxHeartbeats 1000000
namespace Go.L.Try
open Go Go.L
variable {l : List Task} {jobs : List Job}
/-! ### What is left of a list, and where -/
section
variable {α : Type} [Inhabited α]
def cntF (p : α → Bool) (L : List α) (i : Nat) : Nat := ((L.take i).filter p).length
theorem cntF_succ (p : α → Bool) (L : List α) {i : Nat} (hi : i < L.length) : cntF p L (i + 1) = cntF p L i + if p (atI L (i : Int)) then 1 else 0 := by
  unfold cntF
  rw [take_snoc hi, List.filter_append, List.length_append]
  by_cases h : p (atI L (i : Int)) = true
  · rw [if_pos h, List.filter_cons_of_pos h]; rfl
  · rw [if_neg h, List.filter_cons_of_neg h]; rfl
theorem cntF_mono (p : α → Bool) (L : List α) {i j : Nat} (h : i ≤ j) (hj : j ≤ L.length) : cntF p L i ≤ cntF p L j := by
  induction j with
  | zero => rw [show i = 0 by omega]; exact Nat.le_refl _
  | succ j ih =>
    by_cases e : i = j + 1
    · rw [e]; exact Nat.le_refl _
    · rw [cntF_succ p L (by omega)]
      have := ih (by omega) (by omega)
      omega
theorem cntF_lt (p : α → Bool) (L : List α) {i j : Nat} (h : i < j) (hj : j ≤ L.length) (hp : p (atI L (i : Int)) = true) : cntF p L i < cntF p L j := by
  have h1 := cntF_succ p L (show i < L.length by omega)
  rw [if_pos hp] at h1
  have h2 := cntF_mono p L (show i + 1 ≤ j by omega) hj
  omega
omit [Inhabited α] in
theorem cntF_all (p : α → Bool) (L : List α) : cntF p L L.length = (L.filter p).length := by
  unfold cntF; rw [List.take_length]
theorem filt_at (p : α → Bool) (L : List α) {i : Nat} (hi : i < L.length) (hp : p (atI L (i : Int)) = true) : cntF p L i < (L.filter p).length ∧ atI (L.filter p) (cntF p L i : Int) = atI L (i : Int) := by
  have h1 : cntF p L i < (L.filter p).length := by rw [← cntF_all]; exact cntF_lt p L hi (Nat.le_refl _) hp
  refine ⟨h1, ?_⟩
  rw [atI_nat h1]
  have e : L = L.take i ++ atI L (i : Int) :: L.drop (i + 1) := by
    rw [atI_nat hi]
    rw [List.getElem_cons_drop, List.take_append_drop]
  have key : ∀ (k : Nat) (X : List α) (hk : k < X.length) (A B : List α) (x : α), X = A ++ x :: B → k = A.length → X[k] = x := by
    intro k X hk A B x hX hA
    subst hX hA
    simp
  refine key _ _ h1 ((L.take i).filter p) ((L.drop (i + 1)).filter p) _ ?_ rfl
  conv => lhs; rw [e]
  rw [List.filter_append, List.filter_cons_of_pos hp]
theorem filt_ex (p : α → Bool) (L : List α) : ∀ (n : Nat), n ≤ L.length → ∀ k, k < cntF p L n → ∃ i, i < n ∧ p (atI L (i : Int)) = true ∧ cntF p L i = k := by
  intro n
  induction n with
  | zero => intro _ k hk; exact absurd hk (by simp [cntF])
  | succ n ih =>
    intro hn k hk
    rw [cntF_succ p L (by omega)] at hk
    by_cases h : k < cntF p L n
    · obtain ⟨i, h1, h2, h3⟩ := ih (by omega) k h
      exact ⟨i, by omega, h2, h3⟩
    · by_cases hp : p (atI L (n : Int)) = true
      · rw [if_pos hp] at hk
        exact ⟨n, by omega, hp, by omega⟩
      · rw [if_neg hp] at hk; omega
theorem filt_ix (p : α → Bool) (L : List α) {k : Nat} (hk : k < (L.filter p).length) : ∃ i, i < L.length ∧ p (atI L (i : Int)) = true ∧ cntF p L i = k := by
  rw [← cntF_all] at hk
  exact filt_ex p L L.length (Nat.le_refl _) k hk
end
/-! ### The least urgent task -/
def lowN (l : List Task) : Nat → Int
  | 0 => 0
  | n + 1 => if (atI l (n : Int)).P > (atI l (lowN l n)).P then n else lowN l n
theorem lowN_in (hl : 0 < l.length) : ∀ n, n ≤ l.length → (0 ≤ lowN l n ∧ lowN l n < l.length) ∧ ∀ k : Nat, k < n → (atI l (k : Int)).P ≤ (atI l (lowN l n)).P
  | 0, _ => ⟨⟨Int.le_refl _, by show (0 : Int) < _; omega⟩, fun k hk => by omega⟩
  | n + 1, hn => by
    obtain ⟨h1, h2⟩ := lowN_in hl n (by omega)
    unfold lowN
    split
    · refine ⟨⟨by omega, by omega⟩, fun k hk => ?_⟩
      by_cases e : k = n
      · rw [e]; exact Int.le_refl _
      · have := h2 k (by omega); omega
    · refine ⟨h1, fun k hk => ?_⟩
      by_cases e : k = n
      · rw [e]; omega
      · exact h2 k (by omega)
def others (low : Int) (j : Job) : Bool := decide (j.task ≠ low)
theorem others_iff {low : Int} {j : Job} : others low j = true ↔ j.task ≠ low := by simp [others]
structure LowOK (l : List Task) (J : List Job) (low : Int) : Prop where
  cuts : ∀ i : Nat, i < J.length → (jb J i).task = low → (jb J i).cuts = []
  prio : ∀ t : Int, 0 ≤ t → t < l.length → t ≠ low → (atI l t).P < (atI l low).P
variable {J : List Job} {low : Int}
/-- Where a job of another task stands among them. -/
abbrev cnt (low : Int) (J : List Job) (i : Nat) : Nat := cntF (others low) J i
theorem cnt_jb {i : Nat} (hi : i < J.length) (h : (jb J i).task ≠ low) : cnt low J i < (J.filter (others low)).length ∧ jb (J.filter (others low)) (cnt low J i) = jb J i := filt_at _ J hi (others_iff.2 h)
def LowAt (l : List Task) (J : List Job) (low : Int) (n : Nat) : Prop := ∀ i, i < J.length → (jb J i).task ≠ low → dn l (J.filter (others low)) (cnt low J i) n = dn l J i n
theorem low_sec {n : Nat} (a : LowAt l J low n) {i : Nat} (hi : i < J.length) (h : (jb J i).task ≠ low) : inSec l (J.filter (others low)) (cnt low J i) n = inSec l J i n := by
  unfold inSec; rw [a i hi h, (cnt_jb hi h).2]
theorem cnt_ix {k : Nat} (hk : k < (J.filter (others low)).length) : ∃ i, i < J.length ∧ (jb J i).task ≠ low ∧ cnt low J i = k := by
  obtain ⟨i, h1, h2, h3⟩ := filt_ix _ J hk
  exact ⟨i, h1, others_iff.1 h2, h3⟩
theorem cnt_inj {i k : Nat} (hi : i < J.length) (hk : k < J.length) (h1 : (jb J i).task ≠ low) (h2 : (jb J k).task ≠ low) (e : cnt low J i = cnt low J k) : i = k := by
  rcases Nat.lt_trichotomy i k with h | h | h
  · have : cnt low J i < cnt low J k := cntF_lt (others low) J h (by omega) (others_iff.2 h1)
    omega
  · exact h
  · have : cnt low J k < cnt low J i := cntF_lt (others low) J h (by omega) (others_iff.2 h2)
    omega
theorem low_who (S : Script l J) (S' : Script l (J.filter (others low))) (o : LowOK l J low) {n : Nat} (a : LowAt l J low n) : (∃ i, i < J.length ∧ (jb J i).task ≠ low ∧ who l J n = i ∧ who l (J.filter (others low)) n = cnt low J i) ∨ (who l (J.filter (others low)) n < 0 ∧ ∀ i : Nat, (jb J i).task ≠ low → who l J n ≠ i) := by
  rcases inSec_cases l J n with ⟨i, hi, hs⟩ | hno
  · left
    have ht : (jb J i).task ≠ low := fun e => by
      unfold inSec at hs
      rw [o.cuts i hi e] at hs; cases hs
    exact ⟨i, hi, ht, who_in S hi hs, who_in S' (cnt_jb hi ht).1 (by rw [low_sec a hi ht]; exact hs)⟩
  · have hno' : ∀ k, k < (J.filter (others low)).length → inSec l (J.filter (others low)) k n = false := fun k hk => by
      obtain ⟨i, h1, h2, rfl⟩ := cnt_ix hk
      rw [low_sec a h1 h2]; exact hno i h1
    rcases Int.lt_or_le (who l J n) 0 with hw | hw
    · right
      refine ⟨who_no S' hno' fun k hk hr hd => ?_, fun i _ h => by omega⟩
      obtain ⟨i, h1, h2, rfl⟩ := cnt_ix hk
      rw [(cnt_jb h1 h2).2] at hr hd
      rw [a i h1 h2] at hd
      have := who_none S hw h1 hr
      omega
    · obtain ⟨r, hr⟩ : ∃ r : Nat, who l J n = r := ⟨(who l J n).toNat, by omega⟩
      obtain ⟨b1, b2, b3, b4⟩ := best_of S hno hr
      by_cases ht : (jb J r).task = low
      · right
        refine ⟨who_no S' hno' fun k hk hr hd => ?_, fun i hi h => ?_⟩
        · obtain ⟨i, h1, h2, rfl⟩ := cnt_ix hk
          rw [(cnt_jb h1 h2).2] at hr hd
          rw [a i h1 h2] at hd
          have h3 := b4 i h1 hr hd
          rw [ht] at h3
          have h4 := S.ok.task _ (jb_mem h1)
          have h5 := o.prio _ h4.1 h4.2 h2
          rcases h3 with h3 | h3 <;> omega
        · rw [hr] at h
          have : i = r := by omega
          subst this
          exact hi ht
      · left
        refine ⟨r, b1, ht, hr, who_best S' hno' ⟨(cnt_jb b1 ht).1, ?_, ?_, fun k hk hkr hkd => ?_⟩⟩
        · rw [(cnt_jb b1 ht).2]; exact b2
        · rw [(cnt_jb b1 ht).2, a r b1 ht]; exact b3
        · obtain ⟨i, h1, h2, rfl⟩ := cnt_ix hk
          rw [(cnt_jb h1 h2).2] at hkr hkd ⊢
          rw [a i h1 h2] at hkd
          rw [(cnt_jb b1 ht).2]
          rcases b4 i h1 hkr hkd with h3 | ⟨h3, h4⟩
          · exact .inl h3
          · exact .inr ⟨h3, cntF_mono _ J h4 (by omega)⟩
theorem low_at (S : Script l J) (S' : Script l (J.filter (others low))) (o : LowOK l J low) : ∀ n, LowAt l J low n
  | 0 => fun i hi h => by rw [dn_zero hi, dn_zero (cnt_jb hi h).1]
  | n + 1 => by
    have ih := low_at S S' o n
    intro i hi h
    rw [dn_succ S hi, dn_succ S' (cnt_jb hi h).1, ih i hi h]
    rcases low_who S S' o ih with ⟨r, h1, h2, h3, h4⟩ | ⟨h1, h2⟩
    · rw [h3, h4]
      by_cases e : r = i
      · subst e; rw [if_pos rfl, if_pos rfl]
      · have : cnt low J r ≠ cnt low J i := fun e2 => e (cnt_inj h1 hi h2 h e2)
        rw [if_neg (by omega), if_neg (by omega)]
    · rw [if_neg (by omega), if_neg (h2 i h)]
variable {R R' : RS} {T T' : Nat}
theorem low_ends (S : Script l J) (S' : Script l (J.filter (others low))) (o : LowOK l J low) (r : RunAt l J R T) (r' : RunAt l (J.filter (others low)) R' T') {i : Nat} (hi : i < J.length) (h : (jb J i).task ≠ low) : atI R'.ends (cnt low J i : Int) = atI R.ends (i : Int) := by
  obtain ⟨e, e1, e2, e3⟩ := r.ends i hi
  obtain ⟨x, x1, x2, x3⟩ := r'.ends _ (cnt_jb hi h).1
  rw [e1, x1]
  have hh := end_eq S S' hi (cnt_jb hi h).1 e3 x3 id fun n => by
    show _ ↔ dn l (J.filter (others low)) (cnt low J i) n = _
    rw [low_at S S' o n i hi h, (cnt_jb hi h).2]
  have h1 := (hh e).1 (Nat.le_refl _)
  have h2 := (hh x).2 (Nat.le_refl _)
  simp only [id] at h1
  omega
theorem low_legal (h : legalB l J = true) (low : Int) : legalB l (J.filter (others low)) = true := by
  obtain ⟨_, h2, h3⟩ := legal_ok h
  refine legal_of h3 (Nat.le_trans (List.length_filter_le _ _) h2) (fun j hm => jobOK_mem h (List.mem_filter.1 hm).1) fun a b hab hb he => ?_
  obtain ⟨x, x1, x2, rfl⟩ := cnt_ix (J := J) (low := low) (show a < _ by omega)
  obtain ⟨y, y1, y2, rfl⟩ := cnt_ix hb
  rw [(cnt_jb x1 x2).2, (cnt_jb y1 y2).2] at he ⊢
  refine arrive_le h y ?_ y1 he
  rcases Nat.lt_or_ge x y with h5 | h5
  · exact h5
  · have : cnt low J y ≤ cnt low J x := cntF_mono (others low) J h5 (by omega)
    omega
def lowJ (low : Int) (j : Job) : Job := if j.task = low then softJ j else j
theorem lowJ_task (low : Int) (j : Job) : (lowJ low j).task = j.task := by unfold lowJ; split <;> rfl
theorem lowJ_filter (low : Int) : ∀ J : List Job, (J.map (lowJ low)).filter (others low) = J.filter (others low)
  | [] => rfl
  | j :: r => by
    rw [List.map_cons]
    by_cases h : j.task = low
    · rw [List.filter_cons_of_neg (by rw [others_iff, lowJ_task]; exact fun hh => hh h), List.filter_cons_of_neg (by rw [others_iff]; exact fun hh => hh h), lowJ_filter low r]
    · have e : lowJ low j = j := by unfold lowJ; rw [if_neg h]
      rw [List.filter_cons_of_pos (by rw [others_iff, lowJ_task]; exact h), List.filter_cons_of_pos (by rw [others_iff]; exact h), lowJ_filter low r, e]
theorem lowJ_legal (h : legalB l J = true) (low : Int) : legalB l (J.map (lowJ low)) = true :=
  legal_map h (lowJ_task low) (k := 0) (fun j => by unfold lowJ; split <;> exact (Int.add_zero _).symm) fun j hj => by
    have h1 := jobOK_mem h hj
    unfold lowJ
    split
    · exact ⟨h1.task, h1.arrive, h1.release, h1.work, rfl⟩
    · exact h1
theorem lowJ_ok (hl : 0 < l.length) (hp : ∀ t u : Int, 0 ≤ t → t < l.length → 0 ≤ u → u < l.length → (atI l t).P = (atI l u).P → t = u) (J : List Job) : LowOK l (J.map (lowJ (lowN l l.length))) (lowN l l.length) := by
  obtain ⟨h1, h2⟩ := lowN_in hl l.length (Nat.le_refl _)
  refine ⟨fun i hi ht => ?_, fun t t0 t1 hne => ?_⟩
  · rw [List.length_map] at hi
    rw [jb_map' hi] at ht ⊢
    rw [lowJ_task] at ht
    unfold lowJ; rw [if_pos ht]; rfl
  · obtain ⟨k, rfl⟩ : ∃ k : Nat, t = k := ⟨t.toNat, by omega⟩
    have h3 := h2 k (by omega)
    have h4 : ¬ (atI l (k : Int)).P = (atI l (lowN l l.length)).P := fun e => hne (hp _ _ t0 t1 h1.1 h1.2 e)
    omega
end Go.L.Try

/- ExecLow: the least urgent task, without sections. -/
set_option linter.unusedVariables false
set_option linter.unusedSimpArgs false
set_option maxRecDepth 100000
set_option maxHeartbeats 2000000
namespace Go.L.Try
open Go Go.L
variable {E : Env}

/-! ### A list, turned up to a place -/
section
variable {α : Type} [Inhabited α]
def upTo (f : α → α) (i : Nat) (L : List α) : List α := (L.take i).map f ++ L.drop i
omit [Inhabited α] in
theorem upTo_len (f : α → α) (i : Nat) (L : List α) : (upTo f i L).length = L.length := by
  unfold upTo; rw [List.length_append, List.length_map, List.length_take, List.length_drop]; omega
theorem upTo_cut (f : α → α) {i : Nat} {L : List α} (h : i < L.length) : upTo f i L = (L.take i).map f ++ atI L (i : Int) :: L.drop (i + 1) := by
  unfold upTo; rw [atI_nat h, List.getElem_cons_drop]
theorem upTo_at (f : α → α) {i : Nat} {L : List α} (h : i < L.length) : atI (upTo f i L) (i : Int) = atI L (i : Int) := by
  have hl : i < (upTo f i L).length := by rw [upTo_len]; exact h
  have e0 : ((L.take i).map f).length = i := by rw [List.length_map, List.length_take]; omega
  rw [atI_nat hl]
  simp only [upTo_cut f h]
  rw [List.getElem_append_right (by rw [e0]; exact Nat.le_refl _)]
  simp only [e0, Nat.sub_self, List.getElem_cons_zero]
theorem upTo_set (f : α → α) {i : Nat} {L : List α} (h : i < L.length) : (upTo f i L).set i (f (atI L (i : Int))) = upTo f (i + 1) L := by
  rw [upTo_cut f h, List.set_append_right _ _ (by rw [List.length_map, List.length_take]; omega)]
  have : i - ((L.take i).map f).length = 0 := by rw [List.length_map, List.length_take]; omega
  rw [this, List.set_cons_zero]
  unfold upTo
  rw [take_snoc h, List.map_append, List.append_assoc]; rfl
theorem upTo_same (f : α → α) {i : Nat} {L : List α} (h : i < L.length) (he : f (atI L (i : Int)) = atI L (i : Int)) : upTo f (i + 1) L = upTo f i L := by
  rw [← upTo_set f h, he]
  conv => rhs; rw [upTo_cut f h]
  rw [upTo_cut f h, List.set_append_right _ _ (by rw [List.length_map, List.length_take]; omega)]
  have : i - ((L.take i).map f).length = 0 := by rw [List.length_map, List.length_take]; omega
  rw [this, List.set_cons_zero]
omit [Inhabited α] in
theorem upTo_all (f : α → α) (L : List α) : upTo f L.length L = L.map f := by unfold upTo; rw [List.take_length, List.drop_length, List.append_nil]
end
def lowP (low : Int) (p : NV Job) : NV Job := if p.j.task = low then ⟨softJ p.j, .slice none 0 0⟩ else p
theorem lowP_j (low : Int) (p : NV Job) : (lowP low p).j = lowJ low p.j := by unfold lowP lowJ; split <;> rfl
theorem lowP_map (low : Int) (L : List (NV Job)) : (L.map (lowP low)).map NV.j = (L.map NV.j).map (lowJ low) := by
  rw [List.map_map, List.map_map]
  exact List.map_congr_left fun p _ => lowP_j low p
theorem oth_map (low : Int) : ∀ L : List (NV Job), (L.filter fun p => others low p.j).map NV.j = (L.map NV.j).filter (others low)
  | [] => rfl
  | p :: r => by
    rw [List.map_cons]
    cases h : others low p.j with
    | true => rw [List.filter_cons_of_pos (by exact h), List.filter_cons_of_pos h, List.map_cons, oth_map low r]
    | false => rw [List.filter_cons_of_neg (by simp [h]), List.filter_cons_of_neg (by simp [h]), oth_map low r]
theorem execLow (hE : Laid E) (ha : ∀ h, callW E (.func (.func n_cadencylaw10_awake) #[] #[]) [] h = some (.bool true, h, [])) {h : Heap} {vl vr : Value} {l : List Spec} {raw : List Raw} {turn : Int} (hl : Rd 5 encSp h vl l) (hr : RdR h vr raw) (ht : i64in turn) :
    callW E (.func (.func n_cadencylaw10_ExecLow) #[] #[]) [vl, vr, .int .i64 turn] h = some (.bool true, h, []) := by
  refine fn_same hE.cadencylaw10_ExecLow rfl (by simp) ?_
  simp only [argsF]
  (repeat' simp -dsimp (disch := omega) only [↓EA, EB, Nat.reduceEqDiff, Nat.reduceAdd, ↓reduceIte, reduceCtorEq, eq_self, *])
  refine wx_new (set04 hE hl (most := 5) (by decide) (by decide) ht) fun v1 ys r1 p1 => ?_
  have P1 := p1
  generalize _ ++ ys = H1 at r1 p1 P1 ⊢
  have hv := setP_valid l (most := 5) turn (by decide) (by decide)
  have hsl := setP_len l (most := 5) (turn := turn) (by decide)
  have hsm := fun t ht => setP_small (l := l) (most := 5) (turn := turn) (t := t) (by decide) (by decide) ht
  generalize setP l 5 turn = s at *
  have hnm : ∀ t ∈ s, t.name.size < 1152921504606846976 := fun t ht => by have := (hsm t ht).name; omega
  have o1 := r1.one
  have c1 := r1.cv
  clear p1
  obtain ⟨hsl0, hsl1⟩ := hsl
  (repeat' simp -dsimp (disch := omega) only [↓EA, EB, Nat.reduceEqDiff, ↓reduceIte, reduceCtorEq, eq_self, *])
  refine WO.loop (fun (n : Nat) fr h' => h' = H1 ∧ n ≤ s.length ∧ get fr 1 = vr ∧ get fr 7 = .bool true ∧ get fr 8 = v1 ∧ get fr 9 = .int .i64 (lowN s n) ∧ get fr 10 = .int .i64 n) (fun n => s.length - n) ?_ 0 ⟨rfl, Nat.zero_le _, rfl, rfl, rfl, rfl, rfl⟩
  rintro n fr h' ⟨rfl, hn, g1, g7, g8, g9, g10⟩
  unfold c_cadencylaw10_ExecLow_l0
  obtain ⟨hlo, -⟩ := lowN_in (l := s) (by omega) n hn
  by_cases hlt : n < s.length
  · have hn2 : (n : Int) < s.length := by omega
    by_cases hc : (atI s (n : Int)).P > (atI s (lowN s n)).P
    · have hc' : (atI s (lowN s n)).P < (atI s (n : Int)).P := hc
      (repeat' simp -dsimp (disch := omega) only [↓EA, EB, Nat.reduceEqDiff, ↓reduceIte, eq_self, *, r1.len, r1.ixs, r1.ld, encT])
      exact Next.mk (n + 1) ⟨rfl, by omega, rfl, rfl, rfl, by simp only [get, lowN]; rw [if_pos hc]; simp, by simp only [get]; simp⟩ (by omega)
    · have hc' : ¬ (atI s (lowN s n)).P < (atI s (n : Int)).P := hc
      (repeat' simp -dsimp (disch := omega) only [↓EA, EB, Nat.reduceEqDiff, ↓reduceIte, eq_self, *, r1.len, r1.ixs, r1.ld, encT])
      exact Next.mk (n + 1) ⟨rfl, by omega, rfl, rfl, rfl, by simp only [get, lowN]; rw [if_neg hc]; simp, by simp only [get]; simp⟩ (by omega)
  · have hnn : n = s.length := by omega
    subst hnn
    have hn2 : ¬ ((s.length : Nat) : Int) < s.length := by omega
    generalize hlow : lowN s s.length = low at *
    have r00 := r1
    (repeat' simp -dsimp (disch := omega) only [↓EA, EB, Nat.reduceEqDiff, ↓reduceIte, eq_self, *, r1.len])
    refine wx_new (few08 hE (hr.pre P1) (most := 10) (by decide) (by decide)) fun v2 ys r2 p2 => ?_
    have P2 := P1.trans p2
    replace r1 := r1.pre p2
    generalize _ ++ ys = H2 at r2 p2 P2 r1 ⊢
    clear p2 P1
    generalize hraw : List.map fewOf (List.take (10 : Int).toNat raw) = rw8 at *
    have hraw8 : rw8.length ≤ 10 := by rw [← hraw, List.length_map, List.length_take]; omega
    clear hraw
    (repeat' simp -dsimp (disch := omega) only [↓EA, EB, Nat.reduceEqDiff, ↓reduceIte, eq_self, *])
    refine wx_new (decode08O hE r1 hnm r2) fun v3 ys r3 p3 => ?_
    have P3 := P2.trans p3
    have hml := P2.le
    have hml2 := p3.le
    have r0 := r1
    replace r1 := r1.pre p3
    generalize _ ++ ys = H3 at r3 p3 P3 r1 hml2 ⊢
    have sj := decode_small hv hsm rw8 hraw8 (by decide)
    clear p3 P2 r2
    generalize decodeP s rw8 = jobs at *
    have hsum : sumWork jobs ≤ 1099511627776 := by have := sj.sum; omega
    have hjl := sj.len
    have SJ := Hid.mk sj
    clear sj
    obtain ⟨lv, hlvj, ho, hw⟩ := r3.is
    have Hlv := Hid.mk hlvj
    have hlen : lv.length = jobs.length := by rw [← hlvj, List.length_map]
    clear hlvj r3
    have Hw := Hid.mk hw
    clear hw
    have hlv8 : lv.length ≤ 10 := by omega
    have hvo := ho.rd.one
    have hvc := ho.rd.cv
    (repeat' simp -dsimp (disch := omega) only [↓EA, EB, Nat.reduceEqDiff, ↓reduceIte, eq_self, *])
    have hge : ∀ b, H3.length ≤ b → h.length ≤ b := fun b hb => by omega
    have hge2 : ∀ b, H2.length ≤ b → h.length ≤ b := fun b hb => by omega
    refine WO.loop (fun (a : Nat × Value) fr h' => H3.length ≤ h'.length ∧ (∀ b, b < H3.length → (lv ≠ [] → b ≠ blk v3) → h'[b]? = H3[b]?) ∧ a.1 ≤ lv.length ∧ RdO H2.length 5 (encN hdJ) h' v3 (upTo (lowP low) a.1 lv) ∧ OwnT H3.length 5 (encN hdJ) h' a.2 ((lv.take a.1).filter fun p => others low p.j) ∧ get fr 7 = .bool true ∧ get fr 8 = v1 ∧ get fr 9 = .int .i64 low ∧ get fr 11 = v3 ∧ get fr 12 = a.2 ∧ get fr 13 = .int .i64 a.1) (fun a => lv.length - a.1) ?_ (0, .slice none 0 0) ⟨Nat.le_refl _, fun _ _ _ => rfl, Nat.zero_le _, ho, OwnT.nil, rfl, rfl, rfl, rfl, rfl, rfl⟩
    rintro ⟨i, vo⟩ fr h' ⟨hlh, hk, hi, hu, hv2, q7, q8, q9, q11, q12, q13⟩
    dsimp only at hi hu hv2 q12 q13 ⊢
    clear g1 g7 g8 g9 g10
    have hrd := hu.rd
    have hul := upTo_len (lowP low) i lv
    have oo := hv2.rd.one
    have co := hv2.rd.cv
    unfold c_cadencylaw10_ExecLow_l1
    by_cases hlt : i < lv.length
    · have hne : lv ≠ [] := fun e => by rw [e] at hlt; exact absurd hlt (Nat.not_lt_zero _)
      have hune : upTo (lowP low) i lv ≠ [] := fun e => by rw [e] at hul; simp at hul; omega
      have hb1 := hu.ge hune
      have hb0 := ho.ge hne
      have hi2 : (i : Int) < (upTo (lowP low) i lv).length := by rw [hul]; omega
      have hat := upTo_at (lowP low) hlt
      have hcu := Hw.out _ (atI_mem (l := lv) (i := (i : Int)) (by omega) (by omega))
      have ocu := hcu.1.one
      have ccu := hcu.1.cv
      have HO := Hid.mk hv2
      have HU := Hid.mk hu
      have HK := Hid.mk hk
      clear hv2 hu hk hb1
      by_cases hc : (atI lv (i : Int)).j.task = low
      · have hset := upTo_set (lowP low) hlt
        have hf : lowP low (atI lv (i : Int)) = ⟨softJ (atI lv (i : Int)).j, .slice none 0 0⟩ := by unfold lowP; rw [if_pos hc]
        have ho0 : others low (atI lv (i : Int)).j = false := by unfold others; rw [hc]; simp
        (repeat' (first | (with_reducible refine A3 (fun _ => ?_) (fun _ => ?_) <;> try (exfalso; omega)) | simp -dsimp (disch := omega) only [↓EA, EB, Nat.reduceEqDiff, ↓reduceIte, eq_self, *, hrd.len, hrd.ixs, hrd.ld0, encN, hdJ]))
        refine wh_rdO HU.out hge2 (fo := 4) ⟨softJ (atI lv (i : Int)).j, .slice none 0 0⟩ (by omega) hi2 (by decide) rfl (by rw [hat]; rfl) fun h2 k1 k2 kk => ?_
        have K := Hid.mk (And.intro k1 (And.intro k2 kk))
        clear k1 k2 kk
        (repeat' simp -dsimp (disch := omega) only [↓EA, EB, Nat.reduceEqDiff, ↓reduceIte, eq_self, *])
        refine Next.mk (i + 1, vo) ⟨by rw [K.out.2.1]; exact hlh, fun b hb hbn => by rw [K.out.2.2 b (hbn hne)]; exact HK.out b hb hbn, by dsimp only; omega, ?_, ?_, rfl, rfl, rfl, rfl, rfl, by simp only [get]; simp⟩ (by dsimp only; omega)
        · dsimp only
          rw [← hset, hf]
          have := K.out.1
          rwa [Int.toNat_natCast] at this
        · dsimp only
          rw [take_snoc hlt, List.filter_append, List.filter_cons_of_neg (by rw [ho0]; simp), List.filter_nil, List.append_nil]
          exact HO.out.keep fun hn => K.out.2.2 _ (by have := HO.out.ge hn; omega)
      · have hsame := upTo_same (lowP low) hlt (by unfold lowP; rw [if_neg hc])
        have ho1 : others low (atI lv (i : Int)).j = true := by unfold others; simp [hc]
        have hcnt : ((lv.take i).filter fun p => others low p.j).length ≤ 10 := Nat.le_trans (List.length_filter_le _ _) (by rw [List.length_take]; omega)
        (repeat' (first | (with_reducible refine A3 (fun _ => ?_) (fun _ => ?_) <;> try (exfalso; omega)) | simp -dsimp (disch := omega) only [↓EA, EB, Nat.reduceEqDiff, Nat.reduceAdd, Nat.reduceLeDiff, Nat.reduceMul, ↓reduceIte, newCells, bslV, eq_self, *, hrd.len, hrd.ixs, hrd.ld0, hrd.lda, encN, hdJ]))
        refine wx_app2 (h0 := []) (HO.out.app _) (fun b o hb => by simp at hb) (Nat.zero_le _) (by rw [List.length_append]; omega) (fun hn => by have := HO.out.ge hn; omega) (atI lv (i : Int)) (by rw [cellsOf_some, geta0]; rfl) rfl (by decide) (by decide) (by omega) fun v' h2 o2 _ hb2 hl2 hk2 => ?_
        have K := Hid.mk (And.intro o2 (And.intro hl2 hk2))
        clear o2 hb2 hl2 hk2
        (repeat' simp -dsimp (disch := omega) only [↓EA, EB, Nat.reduceEqDiff, ↓reduceIte, eq_self, *])
        have hkeep : ∀ b, b < H3.length → h2[b]? = h'[b]? := fun b hb => by
          rw [K.out.2.2 b (by rw [List.length_append]; omega) (fun hn => by have := HO.out.ge hn; omega), List.getElem?_append_left (by omega)]
        refine Next.mk (i + 1, v') ⟨by rw [K.out.2.1, List.length_append]; omega, fun b hb hbn => by rw [hkeep b hb]; exact HK.out b hb hbn, by dsimp only; omega, ?_, ?_, rfl, rfl, rfl, rfl, rfl, by simp only [get]; simp⟩ (by dsimp only; omega)
        · dsimp only
          rw [hsame]
          exact HU.out.keep hune (hkeep _ (by omega))
        · dsimp only
          rw [take_snoc hlt, List.filter_append, List.filter_cons_of_pos (by exact ho1), List.filter_nil]
          exact K.out.1
    · have hie : i = lv.length := by omega
      subst hie
      rw [upTo_all] at hu hrd
      rw [List.take_length] at hv2
      rw [upTo_all] at hul
      have hi2 : ¬ ((lv.length : Nat) : Int) < (lv.map (lowP low)).length := by rw [hul]; omega
      have hkp : ∀ {v : Value} {L : List Int}, Rd 1 encI H3 v L → (v ≠ .slice none 0 0 → blk v ≠ blk v3) → Rd 1 encI h' v L := fun {v L} hr hn => hr.keep fun hne => hk _ (hr.lt' hne) fun _ => hn hne
      have rJ : RdJ h' v3 (jobs.map (lowJ low)) := ⟨lv.map (lowP low), by rw [← Hlv.out]; exact lowP_map low lv, hrd, fun p hp => by
        obtain ⟨x, hx, rfl⟩ := List.mem_map.1 hp
        have h1 := Hw.out x hx
        unfold lowP
        split
        · exact Rd.of_nil
        · exact hkp h1.1 h1.2⟩
      have rO : RdJ h' vo ((jobs.map (lowJ low)).filter (others low)) := ⟨lv.filter fun p => others low p.j, by rw [lowJ_filter, ← Hlv.out]; exact oth_map low lv, hv2.rd, fun p hp => by
        have h1 := Hw.out p (List.mem_filter.1 hp).1
        exact hkp h1.1 h1.2⟩
      have r1' : Rd 7 encT h' v1 s := r1.keep fun hne => hk _ (by have := r0.lt' hne; omega) fun hn => by have h1 := r0.lt' hne; have h2 := ho.ge hn; omega
      have hleg := lowJ_legal SJ.out.legal low
      have hleg2 := low_legal hleg low
      have hwork : ∀ j ∈ jobs.map (lowJ low), j.work ≤ 4 := fun j hj => by
        obtain ⟨x, hx, rfl⟩ := List.mem_map.1 hj
        have := (SJ.out.work x hx).2
        unfold lowJ; split
        · exact this
        · exact this
      have hs1 := sumWork_le (jobs := jobs.map (lowJ low)) (k := 4) hwork
      have hs2 := sumWork_le (jobs := (jobs.map (lowJ low)).filter (others low)) (k := 4) fun j hj => hwork j (List.mem_filter.1 hj).1
      have hll : (jobs.map (lowJ low)).length = jobs.length := List.length_map ..
      have hlf : ((jobs.map (lowJ low)).filter (others low)).length ≤ jobs.length := Nat.le_trans (List.length_filter_le _ _) (Nat.le_of_eq hll)
      have lok := lowJ_ok (l := s) hsl0 (script_of SJ.out.legal).prio jobs
      rw [hlow] at lok
      have HN := Hid.mk hnm
      have hrun1 := runX hE r1' hnm rJ (by omega) (by omega)
      have hLP : ∀ k : Nat, k < jobs.length → (atI (lv.map (lowP low)) (k : Int)).j = jb (jobs.map (lowJ low)) k := fun k hk => by
        rw [← Hlv.out, ← lowP_map low lv]
        exact atI_map' NV.j (lv.map (lowP low)) (k : Int) (by omega) (by rw [List.length_map]; omega)
      generalize hJ : jobs.map (lowJ low) = J at *
      generalize hLv : lv.map (lowP low) = lp at *
      have HJ := Hid.mk (And.intro rO (And.intro hleg (And.intro hleg2 (And.intro hs1 (And.intro hs2 (And.intro lok hLP))))))
      have Hpre : Pre h' h' := Pre.refl _
      clear rJ rO hleg hleg2 hs1 hs2 hwork hkp lok hk hu hv2 hLP
      clear r1 r0 ho
      have hl3 : lensV false v3 = some (.int .i64 jobs.length) := by rw [hrd.len, hul, hlen]
      have hi3 : ¬ ((lv.length : Nat) : Int) < jobs.length := by omega
      (repeat' (first | (with_reducible refine A3 (fun _ => ?_) (fun _ => ?_) <;> try (exfalso; omega)) | simp -dsimp (disch := omega) only [↓EA, EB, Nat.reduceEqDiff, ↓reduceIte, eq_self, *]))
      refine wx_new (hrun1) fun v5 ys r5 p5 => ?_
      have P5 := (Hpre).trans p5
      generalize _ ++ ys = H5 at r5 p5 P5 ⊢
      obtain ⟨vs, rfl, hv5⟩ := r5
      rcases hv5 with _ | @⟨_, _, va5, _, ra5, _ | @⟨_, _, vb5, _, rb5, _ | _⟩⟩
      have na5 := Rd.nt ra5.1
      have nb5 := Rd.nt rb5.1
      have oa5 := ra5.1.one
      have ob5 := rb5.1.one
      have ca5 := ra5.1.cv
      have cb5 := rb5.1.cv
      have rJ5 := HJ.out.1.pre p5
      have r15 := r1'.pre p5
      have hrun2 := runX hE r15 hnm rJ5 (by omega) (by have := HJ.out.2.2.2.2.1; omega)
      have ra5' := ra5.1
      have rb5' := rb5.1
      clear rJ5 hrun1
      (repeat' simp -dsimp (disch := omega) only [↓EA, EB, Nat.reduceEqDiff, ↓reduceIte, eq_self, *])
      refine wx_new (hrun2) fun v6 ys r6 p6 => ?_
      have P6 := (P5).trans p6
      generalize _ ++ ys = H6 at r6 p6 P6 ⊢
      obtain ⟨vs, rfl, hv6⟩ := r6
      rcases hv6 with _ | @⟨_, _, va6, _, ra6, _ | @⟨_, _, vb6, _, rb6, _ | _⟩⟩
      have na6 := Rd.nt ra6.1
      have nb6 := Rd.nt rb6.1
      have oa6 := ra6.1.one
      have ob6 := rb6.1.one
      have ca6 := ra6.1.cv
      have cb6 := rb6.1.cv
      have ra56 := ra5'.pre p6
      have rb56 := rb5'.pre p6
      have ra6' := ra6.1
      have rb6' := rb6.1
      clear p6 hrun2
      obtain ⟨T, R⟩ := runU_at HJ.out.2.1 (by have := HJ.out.2.2.2.1; omega)
      obtain ⟨T', R'⟩ := runU_at HJ.out.2.2.1 (by have := HJ.out.2.2.2.2.1; omega)
      have S := script_of HJ.out.2.1
      have S' := script_of HJ.out.2.2.1
      have hle := fun i hi ht => low_ends S S' HJ.out.2.2.2.2.2.1 R R' (i := i) hi ht
      have hel := R.elen
      have hel' := R'.elen
      generalize runU s J 9223372036854775807 = rs at *
      generalize runU s (J.filter (others low)) 9223372036854775807 = rs' at *
      have hl5 : lensV false vb5 = some (.int .i64 jobs.length) := by rw [rb56.len, hel, hll]
      have hl6 : lensV false vb6 = some (.int .i64 (J.filter (others low)).length) := by rw [rb6'.len, hel']
      have hl7 : lensV false vo = some (.int .i64 (J.filter (others low)).length) := by
        obtain ⟨w, hw1, hw2, _⟩ := HJ.out.1.is
        rw [hw2.len, ← hw1, List.length_map]
      have hrd6 := hrd.pre P6
      have HF := Hid.mk hle
      have HEl := Hid.mk (And.intro hel hel')
      clear hle hel hel' R R' S S' ra5' rb5' ra5 rb5 ra6 rb6 hrd
      (repeat' simp -dsimp (disch := omega) only [↓EA, EB, Nat.reduceEqDiff, ↓reduceIte, eq_self, *])
      refine WO.loop (fun (n : Nat) fr h'' => h'' = H6 ∧ n ≤ jobs.length ∧ get fr 7 = .bool true ∧ get fr 9 = .int .i64 low ∧ get fr 11 = v3 ∧ get fr 15 = vb5 ∧ get fr 17 = vb6 ∧ get fr 18 = .int .i64 (cnt low J n) ∧ get fr 19 = .int .i64 n) (fun n => jobs.length - n) ?_ 0 ⟨rfl, Nat.zero_le _, rfl, rfl, rfl, rfl, rfl, rfl, rfl⟩
      rintro n fr h'' ⟨rfl, hn, g7, g9, g11, g15, g17, g18, g19⟩
      unfold c_cadencylaw10_ExecLow_l2
      by_cases hnj : n < jobs.length
      · have hn3 : (n : Int) < rs.ends.length ∧ (n : Int) < lp.length ∧ (n : Int) < jobs.length := by
          have := HEl.out; omega
        have hJn : n < J.length := by omega
        have hja := HJ.out.2.2.2.2.2.2 n hnj
        have hcs : cnt low J (n + 1) = cnt low J n + if others low (jb J n) = true then 1 else 0 := cntF_succ (others low) J hJn
        have hcb : cnt low J n ≤ 10 := by
          have h1 : cnt low J n ≤ cnt low J J.length := cntF_mono (others low) J (by omega) (Nat.le_refl _)
          have h2 : cnt low J J.length = (J.filter (others low)).length := cntF_all _ _
          omega
        by_cases hc : (jb J n).task = low
        · have ho0 : others low (jb J n) = false := by unfold others; rw [hc]; simp
          rw [ho0, if_neg (by decide), Nat.add_zero] at hcs
          (repeat' simp -dsimp (disch := omega) only [↓EA, EB, Nat.reduceEqDiff, ↓reduceIte, eq_self, *, hrd6.len, hrd6.ixs, hrd6.ld0, encN, hdJ])
          exact Next.mk (n + 1) ⟨rfl, by omega, rfl, rfl, rfl, rfl, rfl, by rw [hcs]; rfl, by simp only [get]; simp⟩ (by omega)
        · have ho1 : others low (jb J n) = true := by unfold others; simp [hc]
          rw [ho1, if_pos rfl] at hcs
          have hend := HF.out n hJn hc
          have hcl := (cnt_jb hJn hc).1
          have hc3 : (cnt low J n : Int) < rs'.ends.length := by have := HEl.out; omega
          have hc' : decide (¬ (jb J n).task = low) = true := by simp [hc]
          (repeat' simp -dsimp (disch := omega) only [↓EA, EB, Nat.reduceEqDiff, ↓reduceIte, eq_self, *, hrd6.len, hrd6.ixs, hrd6.ld0, rb56.ixs, rb56.ld0, rb6'.ixs, rb6'.ld0, encN, hdJ, encI])
          exact Next.mk (n + 1) ⟨rfl, by omega, rfl, rfl, rfl, rfl, rfl, by simp only [get, hcs]; simp, by simp only [get]; simp⟩ (by omega)
      · have hn3 : ¬ (n : Int) < jobs.length := by omega
        (repeat' simp -dsimp (disch := omega) only [↓EA, EB, Nat.reduceEqDiff, ↓reduceIte, eq_self, *])
end Go.L.Try
