/- SPANS HELD AGAINST ONE ANOTHER. -/
import Derived.Test.YtlmadipiopnfeaaDoorVb
import Derived.Test.YtlmadipiopnfeaaDoorPg
import Derived.Test.YtlmadipiopnfeaaDoorPi
set_option linter.unusedVariables false
set_option linter.unusedSimpArgs false
namespace Go.L.Try
open Go Go.L
theorem span_ext {x y : Span} : x = y ↔ (x.job = y.job ∧ x.from' = y.from' ∧ x.to' = y.to') := by
 cases x; cases y; simp
instance : DecidableEq Span := fun x y => decidable_of_iff _ span_ext.symm
end Go.L.Try
set_option maxRecDepth 100000
set_option maxHeartbeats 1000000
namespace Go.L.Try
open Go Go.L
def st (l : List Ab) (jobs : List Job) : Nat → RS
  | 0 => Fj jobs.length
  | n + 1 => Ey l jobs (st l jobs n)
def who (l : List Ab) (jobs : List Job) (n : Nat) : Int := Bl l jobs (st l jobs n)
def dn (l : List Ab) (jobs : List Job) (i n : Nat) : Int := atI (st l jobs n).done (i : Int)
variable {l : List Ab} {jobs : List Job}
structure Ai4 (jobs : List Job) (s : RS) : Prop where
  dlen : s.done.length = jobs.length
  elen : s.ends.length = jobs.length
  runs : -1 ≤ s.runs ∧ s.runs < jobs.length
  done : ∀ i : Nat, i < jobs.length → 0 ≤ atI s.done (i : Int) ∧ atI s.done (i : Int) ≤ (jb jobs i).work
theorem Alg (S : Script l jobs) {s : RS} (hi : Ai4 jobs s) : -1 ≤ Bl l jobs s ∧ Bl l jobs s < jobs.length ∧ (0 ≤ Bl l jobs s → atI s.done (Bl l jobs s) < (atI jobs (Bl l jobs s)).work) := by
  unfold Bl
  split
  · have := Om l jobs s.done s.t jobs.length
    exact ⟨this.1, this.2, fun h => (J6 h).2⟩
  · rename_i c
    have a : 0 ≤ s.runs := by omega
    have d : As (atI jobs s.runs).cuts 0 (atI s.done s.runs) = true := by simpa using fun h => c (.inr h)
    refine ⟨by omega, hi.runs.2, fun _ => ?_⟩
    obtain ⟨q, e⟩ := S.ok.cuts _ (Aj a hi.runs.2)
    have := Wf e d; omega
theorem J5 (S : Script l jobs) {s : RS} (hi : Ai4 jobs s) : (Bl l jobs s = -1 ∧ Ey l jobs s = { s with t := s.t + 1, runs := -1 }) ∨ ∃ r : Nat, r < jobs.length ∧ Bl l jobs s = r ∧ atI s.done (r : Int) < (jb jobs r).work ∧ Ey l jobs s = Ml jobs s r := by
  obtain ⟨f, h2, d⟩ := Alg S hi
  unfold Ey
  by_cases c : Bl l jobs s < 0
  · left
    have e : Bl l jobs s = -1 := by omega
    rw [if_pos c, e]; exact ⟨rfl, rfl⟩
  · right
    obtain ⟨r, a⟩ : ∃ r : Nat, Bl l jobs s = r := ⟨(Bl l jobs s).toNat, by omega⟩
    rw [if_neg c, a]
    rw [a] at h2 d
    exact ⟨r, by omega, rfl, d (by omega), rfl⟩
theorem Acd {s : RS} {r : Nat} (hr : r < s.done.length) (i : Nat) : atI (Ml jobs s r).done (i : Int) = if i = r then atI s.done (r : Int) + 1 else atI s.done (i : Int) := by
  show atI (s.done.set ((r : Int)).toNat (atI s.done (r : Int) + 1)) (i : Int) = _
  rw [Int.toNat_natCast]; exact Tc hr i
theorem Ao6 {s : RS} {r : Nat} (hr : r < s.ends.length) (i : Nat) : atI (Ml jobs s r).ends (i : Int) = if i = r ∧ atI s.done (r : Int) + 1 = (jb jobs r).work then s.t + 1 else atI s.ends (i : Int) := by
  show atI (if atI s.done (r : Int) + 1 = (atI jobs (r : Int)).work then s.ends.set ((r : Int)).toNat (s.t + 1) else s.ends) (i : Int) = _
  rw [Int.toNat_natCast]
  by_cases h : atI s.done (r : Int) + 1 = (jb jobs r).work
  · have h' : atI s.done (r : Int) + 1 = (atI jobs (r : Int)).work := h
    rw [if_pos h', Tc hr]
    by_cases e : i = r
    · rw [if_pos e, if_pos ⟨e, h⟩]
    · rw [if_neg e, if_neg fun h => e h.1]
  · have h' : ¬ atI s.done (r : Int) + 1 = (atI jobs (r : Int)).work := h
    rw [if_neg h', if_neg fun a => h a.2]
theorem Aji (S : Script l jobs) {s : RS} (hi : Ai4 jobs s) : Ai4 jobs (Ey l jobs s) := by
  rcases J5 S hi with ⟨_, h⟩ | ⟨r, c, h2, d, h⟩
  · rw [h]; exact ⟨hi.dlen, hi.elen, ⟨Int.le_refl _, by show (-1 : Int) < _; omega⟩, hi.done⟩
  · rw [h]
    refine ⟨by simp [Ml, hi.dlen], ?_, ⟨by show -1 ≤ (r : Int); omega, by show (r : Int) < _; omega⟩, fun i a => ?_⟩
    · simp only [Ml]; split
      · rw [List.length_set]; exact hi.elen
      · exact hi.elen
    · rw [Acd (by rw [hi.dlen]; exact c)]
      split
      · rename_i e; subst e; have := hi.done i a; omega
      · exact hi.done i a
theorem Aj3 {n : Nat} {x : Int} (i : Nat) (hi : i < n) : atI (List.replicate n x) (i : Int) = x := by
  rw [Bw (by simpa using hi)]; simp
theorem Mg (S : Script l jobs) : ∀ n, Ai4 jobs (st l jobs n)
  | 0 => by
    refine ⟨by simp [st, Fj], by simp [st, Fj], ⟨by simp [st, Fj], by simp [st, Fj]; omega⟩, fun i a => ?_⟩
    show 0 ≤ atI (List.replicate jobs.length (0 : Int)) (i : Int) ∧ atI (List.replicate jobs.length (0 : Int)) (i : Int) ≤ _
    rw [Aj3 i a]
    have := (S.ok.work _ (Dk a)).1
    omega
  | n + 1 => Aji S (Mg S n)
theorem Abu (S : Script l jobs) : ∀ n, (st l jobs n).t = n
  | 0 => rfl
  | n + 1 => by
    have a := Abu S n
    show (Ey l jobs (st l jobs n)).t = _
    rcases J5 S (Mg S n) with ⟨_, h⟩ | ⟨r, c, h2, d, h⟩
    · rw [h]; show (st l jobs n).t + 1 = _; omega
    · rw [h]; show (st l jobs n).t + 1 = _; omega
theorem G6 (S : Script l jobs) {i : Nat} (hi : i < jobs.length) (n : Nat) : dn l jobs i (n + 1) = dn l jobs i n + if who l jobs n = i then 1 else 0 := by
  show atI (Ey l jobs (st l jobs n)).done (i : Int) = atI (st l jobs n).done (i : Int) + if Bl l jobs (st l jobs n) = i then 1 else 0
  have a := Mg S n
  rcases J5 S a with ⟨c, h⟩ | ⟨r, d, h2, f, h⟩
  · rw [h, c, if_neg (by omega)]; show atI (st l jobs n).done (i : Int) = _; omega
  · rw [h, h2, Acd (by rw [a.dlen]; exact d)]
    by_cases e : i = r
    · rw [if_pos e, if_pos (by omega), e]
    · rw [if_neg e, if_neg (by omega)]; omega
theorem Y3 {i : Nat} (hi : i < jobs.length) : dn l jobs i 0 = 0 := Aj3 i hi
theorem Qk (S : Script l jobs) {i : Nat} (hi : i < jobs.length) (n : Nat) : 0 ≤ dn l jobs i n ∧ dn l jobs i n ≤ (jb jobs i).work := (Mg S n).done i hi
theorem S7 (S : Script l jobs) {i : Nat} (hi : i < jobs.length) {m n : Nat} (h : m ≤ n) : dn l jobs i m ≤ dn l jobs i n := by
  induction n with
  | zero => have : m = 0 := by omega
            subst this; exact Int.le_refl _
  | succ n ih =>
    by_cases e : m = n + 1
    · subst e; exact Int.le_refl _
    · have := ih (by omega)
      rw [G6 S hi n]
      split <;> omega
theorem Tx (S : Script l jobs) {n i : Nat} (h : who l jobs n = i) : i < jobs.length ∧ dn l jobs i n < (jb jobs i).work := by
  have a := Alg S (Mg S n)
  have h2 : Bl l jobs (st l jobs n) = i := h
  rw [h2] at a
  exact ⟨by omega, a.2.2 (by omega)⟩
theorem Wo (S : Script l jobs) (n : Nat) : (st l jobs (n + 1)).runs = who l jobs n := by
  show (Ey l jobs (st l jobs n)).runs = Bl l jobs (st l jobs n)
  rcases J5 S (Mg S n) with ⟨a, h⟩ | ⟨r, c, h2, d, h⟩
  · rw [h, a]
  · rw [h, h2]; rfl
theorem Ix (n : Nat) : (0 ≤ (st l jobs n).runs ∧ As (atI jobs (st l jobs n).runs).cuts 0 (atI (st l jobs n).done (st l jobs n).runs) = true ∧ who l jobs n = (st l jobs n).runs) ∨ ((st l jobs n).runs < 0 ∨ As (atI jobs (st l jobs n).runs).cuts 0 (atI (st l jobs n).done (st l jobs n).runs) = false) ∧ who l jobs n = Ch l jobs (st l jobs n).done (st l jobs n).t jobs.length := by
  unfold who Bl
  by_cases h : (st l jobs n).runs < 0 ∨ As (atI jobs (st l jobs n).runs).cuts 0 (atI (st l jobs n).done (st l jobs n).runs) = false
  · right; rw [if_pos h]; exact ⟨h, rfl⟩
  · left
    rw [if_neg h]
    exact ⟨by omega, by cases hw : As (atI jobs (st l jobs n).runs).cuts 0 (atI (st l jobs n).done (st l jobs n).runs) with | true => rfl | false => exact absurd (.inr hw) h, rfl⟩
theorem Adx (S : Script l jobs) : ∀ {n i : Nat}, who l jobs n = i → (jb jobs i).release ≤ n
  | 0, i, h => by
    rcases Ix (l := l) (jobs := jobs) 0 with ⟨a, _⟩ | ⟨_, h2⟩
    · simp [st, Fj] at a
    · rw [h2] at h
      have := (J6 (l := l) (jobs := jobs) (done := (st l jobs 0).done) (t := (st l jobs 0).t) (n := jobs.length) (by omega)).1
      rw [h] at this
      exact this
  | n + 1, i, h => by
    rcases Ix (l := l) (jobs := jobs) (n + 1) with ⟨a, _, c⟩ | ⟨_, h2⟩
    · rw [c, Wo S] at h
      have := Adx S h; omega
    · rw [h2] at h
      have := (J6 (l := l) (jobs := jobs) (done := (st l jobs (n + 1)).done) (t := (st l jobs (n + 1)).t) (n := jobs.length) (by omega)).1
      rw [h, Abu S] at this
      exact this
theorem Afk (S : Script l jobs) {n : Nat} (h : who l jobs n < 0) {i : Nat} (hi : i < jobs.length) (hr : (jb jobs i).release ≤ n) : dn l jobs i n = (jb jobs i).work := by
  rcases Ix (l := l) (jobs := jobs) n with ⟨d, _, e⟩ | ⟨_, h2⟩
  · omega
  · rw [h2] at h
    have a := Mn h i hi
    rw [Abu S] at a
    have f := Qk S hi n
    have : ¬ dn l jobs i n < (jb jobs i).work := fun c => a ⟨hr, c⟩
    omega
theorem Mo {l : List Ab} {jobs : List Job} {done : List Int} {t : Int} : ∀ {n : Nat} {r : Nat}, Ch l jobs done t n = r → ∀ i : Nat, i < n → (jb jobs i).release ≤ t → atI done (i : Int) < (jb jobs i).work → (atI l (jb jobs r).task).P ≤ (atI l (jb jobs i).task).P ∧ ((atI l (jb jobs r).task).P = (atI l (jb jobs i).task).P → r ≤ i)
  | 0, r, h, i, hi, _, _ => by omega
  | n + 1, r, h, i, hi, c, h2 => by
    unfold Ch at h
    split at h
    · rename_i d
      have f : r = n := by omega
      subst f
      by_cases e : i = r
      · subst e; exact ⟨Int.le_refl _, fun _ => Nat.le_refl _⟩
      · have a : i < r := by omega
        rcases d.2.2 with h3 | h3
        · exact absurd ⟨c, h2⟩ (Mn h3 i a)
        · have s : 0 ≤ Ch l jobs done t r := by
            rcases Int.lt_or_le (Ch l jobs done t r) 0 with h4 | h4
            · exact absurd ⟨c, h2⟩ (Mn h4 i a)
            · exact h4
          obtain ⟨p, j⟩ : ∃ p : Nat, Ch l jobs done t r = p := ⟨(Ch l jobs done t r).toNat, by omega⟩
          have g := Mo j i a c h2
          rw [j] at h3
          have m : (atI l (jb jobs r).task).P < (atI l (jb jobs p).task).P := h3
          exact ⟨by omega, fun e => by omega⟩
    · rename_i d
      by_cases e : i = n
      · subst e
        have h3 : ¬ (Ch l jobs done t i < 0 ∨ (atI l (atI jobs (i : Int)).task).P < (atI l (atI jobs (Ch l jobs done t i)).task).P) := fun h4 => d ⟨c, h2, h4⟩
        rw [h] at h3
        have o := (Om l jobs done t i).2
        rw [h] at o
        have h4 : ¬ (atI l (jb jobs i).task).P < (atI l (jb jobs r).task).P := fun g => h3 (.inr g)
        exact ⟨by omega, fun _ => by omega⟩
      · exact Mo h i (by omega) c h2
structure A3k (l : List Ab) (jobs : List Job) (i n σ : Nat) : Prop where
  lt : σ < n
  run : ∀ k, σ ≤ k → k < n → who l jobs k = i
  best : ∀ k, k < jobs.length → (jb jobs k).release ≤ σ → dn l jobs k σ < (jb jobs k).work → (atI l (jb jobs i).task).P ≤ (atI l (jb jobs k).task).P ∧ ((atI l (jb jobs i).task).P = (atI l (jb jobs k).task).P → i ≤ k)
  sec : ∃ pre c post, (jb jobs i).cuts = pre ++ c :: post ∧ F5 pre = dn l jobs i σ ∧ F5 pre + (n - σ : Nat) = dn l jobs i n ∧ dn l jobs i n < F5 pre + c
theorem Uz : ∀ {cs : List Int} {a d : Int}, As cs a d = true → ∃ pre c post, cs = pre ++ c :: post ∧ a + F5 pre < d ∧ d < a + F5 pre + c
  | [], a, d, h => by simp [As] at h
  | c :: r, a, d, h => by
    simp only [As, Bool.or_eq_true, decide_eq_true_eq] at h
    rcases h with h | h
    · exact ⟨[], c, r, rfl, by simp only [Q6]; omega, by simp only [Q6]; omega⟩
    · obtain ⟨pre, e, post, f, h2, g⟩ := Uz h
      exact ⟨c :: pre, e, post, by rw [f]; rfl, by rw [Iy]; omega, by rw [Iy]; omega⟩
theorem Y7 {pre post : List Int} {c d : Int} (hp : ∀ x ∈ pre ++ c :: post, 1 ≤ x) (h1 : F5 pre ≤ d) (h2 : d ≤ F5 pre + c) : As (pre ++ c :: post) 0 d = decide (F5 pre < d ∧ d < F5 pre + c) := by
  rw [Pg, Lu (fun x a => hp x (by simp [a])) (by omega), Bool.false_or, Int.zero_add]
  show (decide (F5 pre < d ∧ d < F5 pre + c) || As post (F5 pre + c) d) = _
  rw [Pf (fun x a => hp x (by simp [a])) h2, Bool.or_false]
theorem Wu (S : Script l jobs) {i : Nat} (hi : i < jobs.length) : ∀ {n : Nat}, As (jb jobs i).cuts 0 (dn l jobs i n) = true → (st l jobs n).runs = i
  | 0, hw => by
    rw [Y3 hi, Pf (S.cuts hi).1 (Int.le_refl _)] at hw
    cases hw
  | n + 1, hw => by
    rw [Wo S]
    by_cases e : who l jobs n = i
    · exact e
    · have f := G6 S hi n
      rw [if_neg e] at f
      rw [show dn l jobs i (n + 1) = dn l jobs i n by omega] at hw
      have d := Wu S hi hw
      rcases Ix (l := l) (jobs := jobs) n with ⟨j, h2, g⟩ | ⟨a, h2⟩
      · rw [g]; exact d
      · rw [d] at a
        rcases a with h4 | h4
        · omega
        · have c : As (jb jobs i).cuts 0 (dn l jobs i n) = false := h4
          rw [hw] at c; cases c
theorem Ar6 (S : Script l jobs) : ∀ {n i : Nat}, (st l jobs n).runs = i → As (jb jobs i).cuts 0 (dn l jobs i n) = true → ∃ σ, A3k l jobs i n σ
  | 0, i, h, _ => by
    have : (-1 : Int) = i := h
    omega
  | n + 1, i, h, hw => by
    rw [Wo S] at h
    obtain ⟨p, v⟩ := Tx S h
    have g := (S.cuts p).1
    have y := G6 S p n
    rw [if_pos h] at y
    rcases Ix (l := l) (jobs := jobs) n with ⟨h1, h2, o⟩ | ⟨d, h2⟩
    · rw [h] at o
      rw [← o] at h2
      obtain ⟨σ, q1, q2, q3, pre, c, a, t, z, q6, q7⟩ := Ar6 S o.symm h2
      rw [t] at g hw
      rw [Y7 g (by omega) (by omega), decide_eq_true_eq] at hw
      exact ⟨σ, by omega, fun k s k2 => by
        by_cases e : k = n
        · subst e; exact h
        · exact q2 k s (by omega), q3, pre, c, a, t, z, by omega, hw.2⟩
    · refine ⟨n, Nat.lt_succ_self n, fun k s k2 => by rw [show k = n by omega]; exact h, fun k x j m => ?_, ?_⟩
      · rw [h2] at h
        have := Mo h k x (by rw [Abu S]; exact j) m
        exact this
      · obtain ⟨pre, c, a, u, e2, e3⟩ := Uz hw
        have f : As (jb jobs i).cuts 0 (dn l jobs i n) = false := by
          cases hwn : As (jb jobs i).cuts 0 (dn l jobs i n) with
          | false => rfl
          | true =>
            have j := Wu S p hwn
            rw [j] at d
            rcases d with h4 | h4
            · omega
            · have r : As (jb jobs i).cuts 0 (dn l jobs i n) = false := h4
              rw [hwn] at r; exact r
        rw [u] at f g
        rw [Int.zero_add] at e2 e3
        by_cases e : F5 pre = dn l jobs i n
        · exact ⟨pre, c, a, u, e, by omega, by omega⟩
        · rw [Y7 g (by omega) (by omega), decide_eq_false_iff_not] at f
          omega
end Go.L.Try
namespace Go.L.Try
open Go Go.L
variable {l : List Ab} {jobs : List Job}
theorem Yu (n : Nat) : st l jobs (n + 1) = Ey l jobs (st l jobs n) := rfl
structure EndAt (l : List Ab) (jobs : List Job) (i e : Nat) : Prop where
 pos : 0 < e
 run : who l jobs (e - 1) = i
 fin : dn l jobs i (e - 1) + 1 = (jb jobs i).work
theorem EndAt.lt (S : Script l jobs) {i e : Nat} (h : EndAt l jobs i e) (hi : i < jobs.length) (n : Nat) : dn l jobs i n = (jb jobs i).work ↔ e ≤ n := by
 have c := G6 S hi (e - 1)
 rw [if_pos h.run, show e - 1 + 1 = e by have := h.pos; omega] at c
 have h2 := h.fin
 constructor
 ·intro a
  rcases Nat.lt_or_ge n e with h3 | h3
  ·have := S7 S hi (show n ≤ e - 1 by omega); omega
  ·exact h3
 ·intro a
  have := S7 S hi a
  have := (Qk S hi n).2
  omega
theorem Aeu (S : Script l jobs) {i : Nat} (hi : i < jobs.length) : ∀ n, (dn l jobs i n < (jb jobs i).work → atI (st l jobs n).ends (i : Int) = -1) ∧ (dn l jobs i n = (jb jobs i).work → ∃ e : Nat, atI (st l jobs n).ends (i : Int) = e ∧ e ≤ n ∧ EndAt l jobs i e)
 | 0 => by
  have g := (S.ok.work _ (Dk hi)).1
  rw [Y3 hi]
  exact ⟨fun _ => Aj3 i hi, fun h => by omega⟩
 | n + 1 => by
  obtain ⟨j, h2⟩ := Aeu S hi n
  have p := Mg S n
  have f := G6 S hi n
  rcases J5 S p with ⟨s, h⟩ | ⟨r, u, m, v, h⟩
  ·have g : who l jobs n = -1 := s
   rw [g, if_neg (by omega)] at f
   rw [Yu, h]
   rw [Int.add_zero] at f
   rw [f]
   exact ⟨j, fun d => by obtain ⟨e, a, b, c⟩ := h2 d; exact ⟨e, a, by omega, c⟩⟩
  ·have g : who l jobs n = r := m
   rw [Yu, h, Ao6 (by rw [p.elen]; exact u)]
   by_cases e : i = r
   ·subst e
    rw [g, if_pos rfl] at f
    have t : atI (st l jobs n).done (i : Int) = dn l jobs i n := rfl
    by_cases o : atI (st l jobs n).done (i : Int) + 1 = (jb jobs i).work
    ·rw [if_pos ⟨rfl, o⟩]
     refine ⟨fun d => by omega, fun _ => ⟨n + 1, by rw [Abu S]; omega, Nat.le_refl _, by omega, by rw [Nat.add_sub_cancel]; exact g, by rw [Nat.add_sub_cancel]; omega⟩⟩
    ·rw [if_neg (fun d => o d.2)]
     exact ⟨fun _ => j (by omega), fun d => by omega⟩
   ·rw [if_neg (fun d => e d.1)]
    rw [g, if_neg (by omega), Int.add_zero] at f
    rw [f]
    exact ⟨j, fun d => by obtain ⟨x, a, b, c⟩ := h2 d; exact ⟨x, a, by omega, c⟩⟩
theorem Ayu (S : Script l jobs) {e : Int} (he : e < 0) : ∃ T, Bx l jobs e (Fj jobs.length) = st l jobs T ∧ ∀ i, i < jobs.length → dn l jobs i T = (jb jobs i).work := by
 obtain ⟨h1, ⟨T, h2⟩, h3⟩ := Ty (e := e) S.ok (fun s => ∃ n, s = st l jobs n) (fun s _ _ ⟨n, c⟩ => ⟨n + 1, by rw [c]; rfl⟩) (Pq jobs S.ok.work) ⟨0, rfl⟩
 refine ⟨T, h2, fun i a => ?_⟩
 have d : ¬ 0 < (Bx l jobs e (Fj jobs.length)).left := fun h => h3 ⟨h, .inl he⟩
 have f := (Qk S a T).2
 rcases Int.lt_or_le (dn l jobs i T) (jb jobs i).work with h4 | h4
 ·exfalso
  apply d
  refine Rv h1 a ?_
  rw [h2]; exact h4
 ·omega
theorem Arn (S : Script l jobs) {e : Int} : ∃ T, Bx l jobs e (Fj jobs.length) = st l jobs T ∧ (¬ Pp e (st l jobs T)) ∧ (0 ≤ e → (T : Int) ≤ e) := by
 obtain ⟨h1, ⟨T, h2, c⟩, h3⟩ := Ty (e := e) S.ok (fun s => ∃ n, s = st l jobs n ∧ (0 ≤ e → (n : Int) ≤ e)) (fun s _ ho ⟨n, a, d⟩ => ⟨n + 1, by rw [a]; rfl, fun f => by have := ho.2; rw [a, Abu S] at this; omega⟩) (Pq jobs S.ok.work) ⟨0, rfl, fun h => h⟩
 exact ⟨T, h2, by rw [← h2]; exact h3, c⟩
def Zm (L : List Span) (k : Int) : Int := L.foldr (fun x a => (if x.job = k then x.to' - x.from' else 0) + a) 0
theorem Wl (k : Int) : Zm [] k = 0 := rfl
theorem Mh (x : Span) (L : List Span) (k : Int) : Zm (x :: L) k = (if x.job = k then x.to' - x.from' else 0) + Zm L k := rfl
theorem Wm (A B : List Span) (k : Int) : Zm (A ++ B) k = Zm A k + Zm B k := by
 induction A with
 | nil => simp [Wl]
 | cons x r ih => rw [List.cons_append, Mh, Mh, ih]; omega
theorem Ap5 {α : Type} [Inhabited α] {L : List α} (h : 0 < (L.length : Int)) : ∃ A x, L = A ++ [x] ∧ atI L ((L.length : Int) - 1) = x ∧ ∀ y, L.set ((L.length : Int) - 1).toNat y = A ++ [y] := by
 rcases List.eq_nil_or_concat L with e | ⟨A, x, e⟩
 ·rw [e] at h; simp at h
 ·rw [List.concat_eq_append] at e
  subst e
  refine ⟨A, x, rfl, Abj A x, fun y => ?_⟩
  rw [LA, List.length_singleton, show (((A.length + 1 : Nat) : Int) - 1).toNat = A.length by omega, List.set_append_right _ _ (Nat.le_refl _), Nat.sub_self]; rfl
theorem Acb (L : List Span) (r t : Int) : (∃ A x, L = A ++ [x] ∧ x.job = r ∧ x.to' = t ∧ Gd L r t = A ++ [{ x with to' := x.to' + 1 }]) ∨ ((∀ A x, L = A ++ [x] → ¬ (x.job = r ∧ x.to' = t)) ∧ Gd L r t = L ++ [⟨r, t, t + 1⟩]) := by
 unfold Gd
 by_cases a : 0 < (L.length : Int) ∧ (atI L ((L.length : Int) - 1)).job = r ∧ (atI L ((L.length : Int) - 1)).to' = t
 ·left
  rw [if_pos a]
  obtain ⟨A, x, c, h2, d⟩ := Ap5 a.1
  rw [h2] at a ⊢
  exact ⟨A, x, c, a.2.1, a.2.2, d _⟩
 ·right
  rw [if_neg a]
  refine ⟨fun A x h => ?_, rfl⟩
  rintro ⟨c, h2⟩
  apply a
  subst h
  rw [Abj]
  exact ⟨by simp, c, h2⟩
structure A3j (l : List Ab) (jobs : List Job) (n : Nat) (L : List Span) : Prop where
 run : ∀ x ∈ L, ∃ j a b : Nat, x = ⟨j, a, b⟩ ∧ a < b ∧ b ≤ n ∧ ∀ k, a ≤ k → k < b → who l jobs k = j
 sort : L.Pairwise fun x y => x.to' ≤ y.from'
 apart : L.Pairwise fun x y => x.to' = y.from' → x.job ≠ y.job
 all : ∀ k : Nat, k < n → 0 ≤ who l jobs k → ∃ x ∈ L, x.from' ≤ k ∧ (k : Int) < x.to'
 sum : ∀ k : Nat, k < jobs.length → Zm L k = dn l jobs k n
theorem Ayy (S : Script l jobs) : ∀ n, A3j l jobs n (st l jobs n).L
 | 0 => ⟨(fun x hx => by cases hx), List.Pairwise.nil, List.Pairwise.nil, (fun k d => by omega), fun k d => by rw [Y3 d]; rfl⟩
 | n + 1 => by
  have c := Ayy S n
  have hv := Mg S n
  rcases J5 S hv with ⟨h0, h⟩ | ⟨r, hr, a4, a6, h⟩
  ·have s : who l jobs n = -1 := h0
   rw [Yu, h]
   refine ⟨fun x hx => ?_, c.sort, c.apart, fun k d f => ?_, fun k d => ?_⟩
   ·obtain ⟨j, a, b, e, u, h2, o⟩ := c.run x hx
    exact ⟨j, a, b, e, u, by omega, o⟩
   ·by_cases e : k = n
    ·subst e; omega
    ·exact c.all k (by omega) f
   ·rw [G6 S d, s, if_neg (by omega), Int.add_zero]; exact c.sum k d
  ·have s : who l jobs n = r := a4
   rw [Yu, h]
   have eL : (Ml jobs (st l jobs n) r).L = Gd (st l jobs n).L r n := by show Gd _ _ (st l jobs n).t = _; rw [Abu S]
   rw [eL]
   generalize (st l jobs n).L = L at c ⊢
   have a0 : ∀ x ∈ L, x.to' ≤ n := fun x hx => by
    obtain ⟨j, a, b, e, u, h2, o⟩ := c.run x hx
    rw [e]; dsimp only; omega
   rcases Acb L r n with ⟨A, x, hL, a5, a3, he⟩ | ⟨a2, he⟩
   ·rw [he]
    subst hL
    obtain ⟨j, a, b, e, u, h2, o⟩ := c.run x (by simp)
    subst e
    dsimp only at a5 a3
    have hb : b = n := by omega
    subst hb
    have hj : j = r := by omega
    subst hj
    have hs := List.pairwise_append.1 c.sort
    have hp := List.pairwise_append.1 c.apart
    refine ⟨fun y hy => ?_, ?_, ?_, fun k d f => ?_, fun k d => ?_⟩
    ·rcases List.mem_append.1 hy with hy | hy
     ·obtain ⟨j', a', b', v, m, a1, g⟩ := c.run y (by simp [hy])
      exact ⟨j', a', b', v, m, by omega, g⟩
     ·rw [List.mem_singleton.1 hy]
      refine ⟨j, a, b + 1, by simp, by omega, Nat.le_refl _, fun k k1 k2 => ?_⟩
      by_cases e : k = b
      ·rw [e]; exact s
      ·exact o k k1 (by omega)
    ·refine List.pairwise_append.2 ⟨hs.1, List.pairwise_singleton _ _, fun y hy z p => ?_⟩
     rw [List.mem_singleton.1 p]
     exact hs.2.2 y hy ⟨j, a, b⟩ (List.mem_singleton.2 rfl)
    ·refine List.pairwise_append.2 ⟨hp.1, List.pairwise_singleton _ _, fun y hy z p => ?_⟩
     rw [List.mem_singleton.1 p]
     exact hp.2.2 y hy ⟨j, a, b⟩ (List.mem_singleton.2 rfl)
    ·by_cases e : k = b
     ·subst e
      exact ⟨_, List.mem_append_right _ (List.mem_singleton.2 rfl), by dsimp only; omega, by dsimp only; omega⟩
     ·obtain ⟨y, hy, q1, q2⟩ := c.all k (by omega) f
      rcases List.mem_append.1 hy with hy | hy
      ·exact ⟨y, List.mem_append_left _ hy, q1, q2⟩
      ·rw [List.mem_singleton.1 hy] at q1 q2
       exact ⟨_, List.mem_append_right _ (List.mem_singleton.2 rfl), q1, by dsimp only at q2 ⊢; omega⟩
    ·rw [G6 S d, ← c.sum k d, Wm, Wm, Mh, Mh, Wl, s]
     dsimp only
     by_cases e : (j : Int) = k
     ·rw [if_pos e, if_pos e, if_pos (by omega)]; omega
     ·rw [if_neg e, if_neg e, if_neg (by omega)]; omega
   ·rw [he]
    refine ⟨fun y hy => ?_, ?_, ?_, fun k d f => ?_, fun k d => ?_⟩
    ·rcases List.mem_append.1 hy with hy | hy
     ·obtain ⟨j', a', b', v, m, a1, g⟩ := c.run y hy
      exact ⟨j', a', b', v, m, by omega, g⟩
     ·rw [List.mem_singleton.1 hy]
      exact ⟨r, n, n + 1, by simp, by omega, Nat.le_refl _, fun k k1 k2 => by rw [show k = n by omega]; exact s⟩
    ·refine List.pairwise_append.2 ⟨c.sort, List.pairwise_singleton _ _, fun y hy z p => ?_⟩
     rw [List.mem_singleton.1 p]
     exact a0 y hy
    ·refine List.pairwise_append.2 ⟨c.apart, List.pairwise_singleton _ _, fun y hy z p => ?_⟩
     rw [List.mem_singleton.1 p]
     dsimp only
     intro u h2
     rcases List.eq_nil_or_concat L with e | ⟨A, x, e⟩
     ·rw [e] at hy; cases hy
     ·rw [List.concat_eq_append] at e
      have hs := c.sort
      rw [e] at hy hs
      rcases List.mem_append.1 hy with hy | hy
      ·have o := (List.pairwise_append.1 hs).2.2 y hy x (List.mem_singleton.2 rfl)
       obtain ⟨j', a', b', v, m, a1, g⟩ := c.run x (by rw [e]; simp)
       have h4 := a0 x (by rw [e]; simp)
       rw [v] at o h4
       dsimp only at o h4
       omega
      ·rw [List.mem_singleton.1 hy] at u h2
       exact a2 A x e ⟨h2, u⟩
    ·by_cases e : k = n
     ·subst e
      exact ⟨_, List.mem_append_right _ (List.mem_singleton.2 rfl), by dsimp only; omega, by dsimp only; omega⟩
     ·obtain ⟨y, hy, q1, q2⟩ := c.all k (by omega) f
      exact ⟨y, List.mem_append_left _ hy, q1, q2⟩
    ·rw [G6 S d, ← c.sum k d, Wm, Mh, Wl, s]
     dsimp only
     by_cases e : (r : Int) = k
     ·rw [if_pos e, if_pos e]; omega
     ·rw [if_neg e, if_neg e]; omega
structure A3l (l : List Ab) (jobs : List Job) (R : RS) (T : Nat) : Prop where
 is : R = st l jobs T
 done : ∀ i, i < jobs.length → dn l jobs i T = (jb jobs i).work
 sp : A3j l jobs T R.L
 elen : R.ends.length = jobs.length
 ends : ∀ i, i < jobs.length → ∃ e : Nat, atI R.ends (i : Int) = e ∧ e ≤ T ∧ EndAt l jobs i e
theorem A0n (S : Script l jobs) {e : Int} (he : e < 0) : ∃ T, A3l l jobs (Bx l jobs e (Fj jobs.length)) T := by
 obtain ⟨T, c, h2⟩ := Ayu S he
 rw [c]
 exact ⟨T, rfl, h2, Ayy S T, (Mg S T).elen, fun i a => (Aeu S a T).2 (h2 i a)⟩
end Go.L.Try
namespace Go.L.Try
open Go Go.L
variable {l : List Ab} {jobs : List Job} {R : RS} {T : Nat}
theorem Anz (S : Script l jobs) {i : Nat} (hi : i < jobs.length) : ∀ n : Nat, dn l jobs i n ≤ max 0 (n - (jb jobs i).release)
 | 0 => by rw [Y3 hi]; omega
 | n + 1 => by
  have c := Anz S hi n
  have a := G6 S hi n
  by_cases e : who l jobs n = i
  ·have := Adx S e
   rw [if_pos e] at a; omega
  ·rw [if_neg e] at a; omega
theorem EndAt.late (S : Script l jobs) {i e : Nat} (h : EndAt l jobs i e) (hi : i < jobs.length) : (jb jobs i).release + (jb jobs i).work ≤ e := by
 have a := (h.lt S hi e).2 (Nat.le_refl _)
 have h2 := Anz S hi e
 have := (S.ok.work _ (Dk hi)).1
 omega
theorem A13 (S : Script l jobs) {q : Int → Int} (hq : ∀ i : Nat, i < jobs.length → ∀ c ∈ (jb jobs i).cuts, c ≤ q i) {n i : Nat} (h : who l jobs n = i) : ∃ σ, σ ≤ n ∧ (∀ k, σ ≤ k → k ≤ n → who l jobs k = i) ∧ (n = σ ∨ ((n - σ : Nat) : Int) < q i) ∧
  ∀ k, k < jobs.length → (jb jobs k).release ≤ σ → dn l jobs k σ < (jb jobs k).work → (atI l (jb jobs i).task).P ≤ (atI l (jb jobs k).task).P ∧ ((atI l (jb jobs i).task).P = (atI l (jb jobs k).task).P → i ≤ k) := by
 rcases Ix (l := l) (jobs := jobs) n with ⟨t, h2, a⟩ | ⟨_, h2⟩
 ·rw [h] at a
  rw [← a] at h2
  obtain ⟨σ, u, p, j, pre, c, d, r, y, v, x⟩ := Ar6 S a.symm h2
  refine ⟨σ, by omega, fun k f m => ?_, .inr ?_, j⟩
  ·by_cases e : k = n
   ·rw [e]; exact h
   ·exact p k f (by omega)
  ·have := hq i (Tx S h).1 c (by rw [r]; simp)
   omega
 ·refine ⟨n, Nat.le_refl _, fun k f m => by rw [show k = n by omega]; exact h, .inl rfl, fun k s o g => ?_⟩
  rw [h2] at h
  exact Mo h k s (by rw [Abu S]; exact o) g
end Go.L.Try
namespace Go.L.Try
open Go Go.L
variable {l l' : List Ab} {jobs jobs' : List Job}
def O3 (l : List Ab) (jobs : List Job) (i n : Nat) : Bool := As (jb jobs i).cuts 0 (dn l jobs i n)
def Av3 (l : List Ab) (jobs : List Job) (i n : Nat) : Prop := i < jobs.length ∧ (jb jobs i).release ≤ n ∧ dn l jobs i n < (jb jobs i).work ∧ ∀ k : Nat, k < jobs.length → (jb jobs k).release ≤ n → dn l jobs k n < (jb jobs k).work → (atI l (jb jobs i).task).P < (atI l (jb jobs k).task).P ∨ ((atI l (jb jobs i).task).P ≤ (atI l (jb jobs k).task).P ∧ i ≤ k)
theorem Arb (S : Script l jobs) {i n : Nat} (hi : i < jobs.length) (h : O3 l jobs i n = true) : who l jobs n = i := by
 have d := Wu S hi h
 rcases Ix (l := l) (jobs := jobs) n with ⟨_, _, e⟩ | ⟨a, _⟩
 ·rw [e]; exact d
 ·rw [d] at a
  rcases a with h4 | h4
  ·omega
  ·have c : O3 l jobs i n = false := h4
   rw [h] at c; cases c
theorem Afj (S : Script l jobs) {n : Nat} (h : ∀ i, i < jobs.length → O3 l jobs i n = false) : who l jobs n = Ch l jobs (st l jobs n).done n jobs.length := by
 rcases Ix (l := l) (jobs := jobs) n with ⟨e, h2, f⟩ | ⟨_, h2⟩
 ·obtain ⟨r, d⟩ : ∃ r : Nat, (st l jobs n).runs = r := ⟨(st l jobs n).runs.toNat, by omega⟩
  have c := (Mg S n).runs.2
  rw [d] at h2 c
  have := h r (by omega)
  unfold O3 at this
  have a : As (jb jobs r).cuts 0 (dn l jobs r n) = true := h2
  rw [this] at a; cases a
 ·rw [h2, Abu S]
theorem Arc (S : Script l jobs) {i n : Nat} (h : ∀ i, i < jobs.length → O3 l jobs i n = false) (hb : Av3 l jobs i n) : who l jobs n = i := by
 rw [Afj S h]
 exact Z3 ⟨hb.2.1, hb.2.2.1⟩ hb.1 hb.2.2.2
theorem Ayq (S : Script l jobs) {i n : Nat} (h : ∀ i, i < jobs.length → O3 l jobs i n = false) (hw : who l jobs n = i) : Av3 l jobs i n := by
 obtain ⟨g, d⟩ := Tx S hw
 refine ⟨g, Adx S hw, d, fun k j f a => ?_⟩
 have c := hw
 rw [Afj S h] at c
 have h2 := Mo c k j f a
 by_cases e : (atI l (jb jobs i).task).P = (atI l (jb jobs k).task).P
 ·exact .inr ⟨h2.1, h2.2 e⟩
 ·left; omega
def Auh (k : Int) (j : Job) : Job := { j with arrive := j.arrive + k, release := j.release + k }
def A04 (k : Int) (x : Span) : Span := ⟨x.job, x.from' + k, x.to' + k⟩
structure A3z (l : List Ab) (jobs : List Job) (k n : Nat) : Prop where
 dn : ∀ i, i < jobs.length → Try.dn l (jobs.map (Auh k)) i (n + k) = Try.dn l jobs i n
 L : (st l (jobs.map (Auh k)) (n + k)).L = ((st l jobs n).L).map (A04 k)
end Go.L.Try
namespace Go.L.Try
open Go Go.L
structure Azz (l : List Ab) (j : Job) : Prop where
 task : 0 ≤ j.task ∧ j.task < l.length
 arrive : 0 ≤ j.arrive ∧ j.arrive ≤ 17592186044416
 release : j.arrive ≤ j.release ∧ j.release ≤ j.arrive + (atI l j.task).J
 work : 1 ≤ j.work ∧ j.work ≤ (atI l j.task).C
 cuts : Dl (atI l j.task).Q j.cuts j.work = true
theorem Aiv {l : List Ab} {jobs : List Job} : ∀ {n : Nat}, (∀ i, i < n → E6 l jobs i = true) → Ha l jobs n = true
 | 0, _ => rfl
 | n + 1, h => by
  show (Ha l jobs n && E6 l jobs n) = true
  rw [Aiv fun i a => h i (by omega), h n (by omega)]; rfl
theorem Auf {l : List Ab} {jobs : List Job} (hv : D5 l) (hn : jobs.length ≤ 4096) (hj : ∀ j ∈ jobs, Azz l j) (hp : ∀ a b : Nat, a < b → b < jobs.length → (jb jobs a).task = (jb jobs b).task → (jb jobs a).arrive + (atI l (jb jobs b).task).T ≤ (jb jobs b).arrive) : legalB l jobs = true := by
 simp only [legalB, Bool.and_eq_true, decide_eq_true_eq]
 refine ⟨⟨hv, hn⟩, Aiv fun i d => ?_⟩
 have h := hj _ (Dk d)
 simp only [E6, Bool.and_eq_true, decide_eq_true_eq]
 refine ⟨?_, h.cuts⟩
 unfold Dy
 dsimp only
 refine ⟨h.task, h.arrive, fun e => ?_, h.release.1, h.release.2, h.work.1, h.work.2⟩
 have f := O2 jobs (atI jobs (i : Int)).task i
 have h2 := Mv (jobs := jobs) (task := (atI jobs (i : Int)).task) (n := i) e
 obtain ⟨k, c⟩ : ∃ k : Nat, C5 jobs (atI jobs (i : Int)).task i = k := ⟨(C5 jobs (atI jobs (i : Int)).task i).toNat, by omega⟩
 rw [c] at f h2 ⊢
 exact hp k i (by omega) d h2
theorem Mw {l : List Ab} {jobs : List Job} (h : legalB l jobs = true) {i : Nat} (hi : i < jobs.length) : Azz l (jb jobs i) := by
 obtain ⟨a, _, c⟩ := O0 h hi
 unfold Dy at a
 dsimp only at a
 exact ⟨a.1, a.2.1, ⟨a.2.2.2.1, a.2.2.2.2.1⟩, a.2.2.2.2.2, c⟩
end Go.L.Try
namespace Go.L.Try
open Go Go.L
theorem A1j {l : List Ab} {jobs : List Job} (hb : legalB l jobs = true) (i : Nat) (hi : i < jobs.length) : ∀ c ∈ (jb jobs i).cuts, c ≤ (atI l (jb jobs i).task).Q := by
 have e := (O0 hb hi).2.2
 have d : ∀ {q : Int} {a : List Int} {w : Int}, Dl q a w = true → ∀ c ∈ a, c ≤ q := by
  intro q a
  induction a with
  | nil => intro w _ c hc; cases hc
  | cons x r ih =>
   intro w h c hc
   simp only [Dl, Bool.and_eq_true, decide_eq_true_eq] at h
   rcases List.mem_cons.1 hc with rfl | hc
   ·exact h.1.2.1
   ·exact ih h.2 c hc
 exact d e
theorem RdJ.open_ {h : Aa} {v : Value} {jobs : List Job} (r : RdJ h v jobs) : ∃ jl : List (NV Job), jobs = jl.map NV.j ∧ Rd 5 (Ft hdJ) h v jl := by
 obtain ⟨jl, a, h2, _⟩ := r.is
 exact ⟨jl, a.symm, h2⟩
end Go.L.Try
namespace Go.L.Try
open Go Go.L
variable {l l' : List Ab} {jobs jobs' : List Job}
def Ew (f : Nat → Int) : Nat → Int
 | 0 => 0
 | n + 1 => Ew f n + f n
theorem U3 {f g : Nat → Int} : ∀ {m : Nat}, (∀ i, i < m → f i ≤ g i) → Ew f m ≤ Ew g m
 | 0, _ => Int.le_refl _
 | m + 1, h => by
  have c := U3 (m := m) fun i a => h i (by omega)
  have h2 := h m (by omega)
  show Ew f m + f m ≤ Ew g m + g m
  omega
theorem Sv {f g : Nat → Int} : ∀ {m : Nat}, (∀ i, i < m → f i = g i) → Ew f m = Ew g m
 | 0, _ => rfl
 | m + 1, h => by
  show Ew f m + f m = Ew g m + g m
  rw [Sv (m := m) fun i a => h i (by omega), h m (by omega)]
variable {R R' : RS} {T T' : Nat}
end Go.L.Try
