/- THE BUSY WINDOW: no job of a legal script takes longer than its task's Bs (plain). -/
import Derived.Test.YtlmadipiopnfeaaDoorPm
import Derived.Test.YtlmadipiopnfeaaDoorPl
import Derived.Test.YtlmadipiopnfeaaDoorPa
set_option linter.unusedVariables false
set_option linter.unusedSimpArgs false
set_option maxRecDepth 100000
set_option maxHeartbeats 1000000
namespace Go.L.Try
open Go Go.L
variable {l : List Ab} {jobs : List Job} {i : Nat}
theorem Ph {f g : Nat → Int} {r : Nat} {c : Int} : ∀ {m : Nat}, r < m → (∀ h, h < m → g h = f h + if h = r then c else 0) → Ew g m = Ew f m + c
 | 0, h, _ => by omega
 | m + 1, h, he => by
  show Ew g m + g m = Ew f m + f m + c
  have a := he m (by omega)
  by_cases e : m = r
  ·subst e
   rw [if_pos rfl] at a
   rw [Sv (f := g) (g := f) fun i d => by have := he i (by omega); rw [if_neg (by omega)] at this; omega]
   omega
  ·rw [if_neg e] at a
   rw [Ph (m := m) (by omega) fun i d => he i (by omega)]; omega
theorem Xs {f g : Nat → Int} {r : Nat} : ∀ {m : Nat}, r < m → (∀ h, h < m → g h ≤ f h) → g r + 1 ≤ f r → Ew g m + 1 ≤ Ew f m
 | 0, h, _, _ => by omega
 | m + 1, h, he, hr => by
  show Ew g m + g m + 1 ≤ Ew f m + f m
  have c := he m (by omega)
  by_cases e : m = r
  ·subst e
   have := U3 (f := g) (g := f) (m := m) fun i a => he i (by omega)
   omega
  ·have := Xs (m := m) (by omega) (fun i a => he i (by omega)) hr
   omega
def lev (l : List Ab) (jobs : List Job) (i m : Nat) : Prop := (atI l (jb jobs m).task).P ≤ (atI l (i : Int)).P
instance (l : List Ab) (jobs : List Job) (i m : Nat) : Decidable (lev l jobs i m) := by unfold lev; infer_instance
def quiet (l : List Ab) (jobs : List Job) (i t : Nat) : Prop := ∀ m, m < jobs.length → lev l jobs i m → (jb jobs m).release < t → dn l jobs m t = (jb jobs m).work
theorem Aj6 (S : Script l jobs) : quiet l jobs i 0 := fun m hm _ hr => by
 have := (S.ok.rel _ (Dk hm)).1
 have hr' : (jb jobs m).release < ((0 : Nat) : Int) := hr
 omega
theorem Acw {t : Nat} (h : ¬ quiet l jobs i t) (S : Script l jobs) : ∃ m, m < jobs.length ∧ lev l jobs i m ∧ (jb jobs m).release < t ∧ dn l jobs m t < (jb jobs m).work := by
 apply Classical.byContradiction
 intro d
 apply h
 intro m a e f
 have g := (Qk S a t).2
 have h2 : ¬ dn l jobs m t < (jb jobs m).work := fun c => d ⟨m, a, e, f, c⟩
 omega
theorem Aan (S : Script l jobs) : ∀ R : Nat, ∃ t0, t0 ≤ R ∧ quiet l jobs i t0 ∧ ∀ t, t0 < t → t ≤ R → ¬ quiet l jobs i t
 | 0 => ⟨0, Nat.le_refl _, Aj6 S, fun t a h2 => by omega⟩
 | R + 1 => by
  by_cases h : quiet l jobs i (R + 1)
  ·exact ⟨R + 1, Nat.le_refl _, h, fun t a h2 => by omega⟩
  ·obtain ⟨t0, a, h2, d⟩ := Aan S R
   refine ⟨t0, by omega, h2, fun t c f => ?_⟩
   by_cases e : t = R + 1
   ·rw [e]; exact h
   ·exact d t c (by omega)
def wrk (l : List Ab) (jobs : List Job) (i t0 n : Nat) : Int := Ew (fun m => if lev l jobs i m then dn l jobs m (t0 + n) - dn l jobs m t0 else 0) jobs.length
open Classical in
theorem Aq8 (S : Script l jobs) (t0 n : Nat) : wrk l jobs i t0 (n + 1) = wrk l jobs i t0 n + if ∃ r : Nat, who l jobs (t0 + n) = r ∧ lev l jobs i r then 1 else 0 := by
 unfold wrk
 have c : ∀ m, m < jobs.length → dn l jobs m (t0 + (n + 1)) = dn l jobs m (t0 + n) + if who l jobs (t0 + n) = m then 1 else 0 := fun m a => by
  rw [← Nat.add_assoc]; exact G6 S a _
 by_cases h : ∃ r : Nat, who l jobs (t0 + n) = r ∧ lev l jobs i r
 ·rw [if_pos h]
  obtain ⟨r, d, h2⟩ := h
  refine Ph (r := r) (Tx S d).1 fun m a => ?_
  rw [c m a, d]
  by_cases e : m = r
  ·subst e; rw [if_pos h2, if_pos h2, if_pos rfl, if_pos rfl]; omega
  ·have g : ¬ ((r : Int) = (m : Int)) := by omega
   rw [if_neg e, if_neg g]; split <;> omega
 ·rw [if_neg h, Int.add_zero]
  refine Sv fun m a => ?_
  rw [c m a]
  split
  ·rename_i f
   rw [if_neg fun e => h ⟨m, e, f⟩]; omega
  ·rfl
theorem Y9 (hb : legalB l jobs = true) {B : Int} (hB : 0 ≤ B) (hq : ∀ m, m < jobs.length → ¬ lev l jobs i m → (atI l (jb jobs m).task).Q - 1 ≤ B) {t0 : Nat} : ∀ n : Nat, (∀ t, t0 < t → t ≤ t0 + n → ¬ quiet l jobs i t) → (n : Int) ≤ wrk l jobs i t0 n + min (n : Int) B
 | 0, _ => by
  have : wrk l jobs i t0 0 = 0 := by
   unfold wrk
   have y : ∀ m, Ew (fun m => if lev l jobs i m then dn l jobs m (t0 + 0) - dn l jobs m t0 else 0) m = 0 := by
    intro m
    induction m with
    | zero => rfl
    | succ m o => show _ + _ = (0 : Int); rw [o, Nat.add_zero]; dsimp only; split <;> omega
   exact y _
  rw [this]; omega
 | n + 1, hn => by
  have S := Mc hb
  have o := Y9 hb hB hq (t0 := t0) n fun t h1 h2 => hn t h1 (by omega)
  have s := Aq8 (i := i) S t0 n
  by_cases h : ∃ r : Nat, who l jobs (t0 + n) = r ∧ lev l jobs i r
  ·rw [if_pos h] at s; omega
  ·rw [if_neg h] at s
   have a : ∀ t, t0 ≤ t → t ≤ t0 + n → ∃ m, m < jobs.length ∧ lev l jobs i m ∧ (jb jobs m).release ≤ t ∧ dn l jobs m t < (jb jobs m).work := fun t h1 h2 => by
    obtain ⟨m, e, p, u, m4⟩ := Acw (hn (t + 1) (by omega) (by omega)) S
    have := S7 S e (show t ≤ t + 1 by omega)
    exact ⟨m, e, p, by omega, by omega⟩
   obtain ⟨m, e, p, u, m4⟩ := a (t0 + n) (by omega) (Nat.le_refl _)
   have hw : 0 ≤ who l jobs (t0 + n) := by
    rcases Int.lt_or_le (who l jobs (t0 + n)) 0 with h1 | h1
    ·have := Afk S h1 e u; omega
    ·exact h1
   obtain ⟨r, f⟩ : ∃ r : Nat, who l jobs (t0 + n) = r := ⟨(who l jobs (t0 + n)).toNat, by omega⟩
   have d : ¬ lev l jobs i r := fun hl => h ⟨r, f, hl⟩
   have g := (Tx S f).1
   obtain ⟨σ, x, s2, s3, s4⟩ := A13 S (q := fun j => (atI l (atI jobs j).task).Q) (fun j hj c hc => A1j hb j hj c hc) f
   have hσ : σ < t0 := by
    rcases Nat.lt_or_ge σ t0 with h1 | h1
    ·exact h1
    ·exfalso
     obtain ⟨k, k1, k2, z, v⟩ := a σ h1 x
     have h5 := (s4 k k1 z v).1
     unfold lev at k2 d
     omega
   have h6 := hq r g d
   have h7 : ((t0 + n - σ : Nat) : Int) < (atI l (jb jobs r).task).Q := by
    rcases s3 with h8 | h8
    ·omega
    ·exact h8
   omega
def inW (jobs : List Job) (h t0 w m : Nat) : Prop := (jb jobs m).task = h ∧ (t0 : Int) ≤ (jb jobs m).release ∧ (jb jobs m).release < ((t0 + w : Nat) : Int)
instance (jobs : List Job) (h t0 w m : Nat) : Decidable (inW jobs h t0 w m) := by unfold inW; infer_instance
def P2 (jobs : List Job) (h t0 w : Nat) : Nat → Int
 | 0 => 0
 | m + 1 => P2 jobs h t0 w m + if inW jobs h t0 w m then 1 else 0
theorem Ade (jobs : List Job) (h t0 w m : Nat) : P2 jobs h t0 w (m + 1) = P2 jobs h t0 w m + if inW jobs h t0 w m then 1 else 0 := rfl
theorem An8 (hb : legalB l jobs = true) (h t0 w : Nat) : ∀ M, M ≤ jobs.length → 0 ≤ P2 jobs h t0 w M ∧ (P2 jobs h t0 w M = 0 ∨ ∃ m, m < M ∧ inW jobs h t0 w m ∧ (t0 : Int) - (atI l (h : Int)).J + (P2 jobs h t0 w M - 1) * (atI l (h : Int)).T ≤ (jb jobs m).arrive)
 | 0, _ => ⟨Int.le_refl _, .inl rfl⟩
 | M + 1, hM => by
  obtain ⟨r, c⟩ := An8 hb h t0 w M (by omega)
  have p := Mw hb (show M < jobs.length by omega)
  unfold P2
  by_cases a : inW jobs h t0 w M
  ·rw [if_pos a]
   refine ⟨by omega, .inr ⟨M, by omega, a, ?_⟩⟩
   have d := p.release.2
   rw [a.1] at d
   rcases c with c | ⟨m, j, f, g⟩
   ·rw [c]
    have := a.2.1
    simp only [Int.zero_add, Int.sub_self, Int.zero_mul]
    omega
   ·have n := Adr hb M j (by omega) (by show (jb jobs m).task = (jb jobs M).task; rw [f.1, a.1])
    have o : (jb jobs m).arrive + (atI l (jb jobs M).task).T ≤ (jb jobs M).arrive := n
    rw [a.1] at o
    have e : (P2 jobs h t0 w M + 1 - 1) * (atI l (h : Int)).T = (P2 jobs h t0 w M - 1) * (atI l (h : Int)).T + (atI l (h : Int)).T := by
     rw [Int.add_sub_cancel, Int.sub_mul, Int.one_mul]; omega
    rw [e]; omega
  ·rw [if_neg a, Int.add_zero]
   refine ⟨r, ?_⟩
   rcases c with c | ⟨m, j, f, g⟩
   ·exact .inl c
   ·exact .inr ⟨m, by omega, f, g⟩
theorem Ayj (hb : legalB l jobs = true) {h t0 w : Nat} (hT : 1 ≤ (atI l (h : Int)).T) (hJ : 0 ≤ (atI l (h : Int)).J) (hw : 1 ≤ w) : 0 ≤ P2 jobs h t0 w jobs.length ∧ (P2 jobs h t0 w jobs.length - 1) * (atI l (h : Int)).T < w + (atI l (h : Int)).J := by
 obtain ⟨d, a⟩ := An8 hb h t0 w jobs.length (Nat.le_refl _)
 refine ⟨d, ?_⟩
 rcases a with a | ⟨m, e, c, f⟩
 ·rw [a]
  have : (0 - 1 : Int) * (atI l (h : Int)).T = -(atI l (h : Int)).T := by rw [Int.zero_sub, Int.neg_mul, Int.one_mul]
  rw [this]; omega
 ·have g := (Mw hb e).release.1
  have := c.2.2
  omega
def Awb (l : List Ab) (i : Nat) (w : Int) : Nat → Int := Ew fun h => if (atI l (h : Int)).P < (atI l (i : Int)).P then ((w + (atI l (h : Int)).J + (atI l (h : Int)).T - 1) / (atI l (h : Int)).T) * (atI l (h : Int)).C else 0
def Aer (l : List Ab) (jobs : List Job) (i t0 w M : Nat) (h : Nat) : Int := if (atI l (h : Int)).P ≤ (atI l (i : Int)).P then P2 jobs h t0 w M * (atI l (h : Int)).C else 0
theorem Auu (hb : legalB l jobs = true) (t0 w : Nat) : ∀ M, M ≤ jobs.length → Ew (fun m => if lev l jobs i m ∧ (t0 : Int) ≤ (jb jobs m).release ∧ (jb jobs m).release < ((t0 + w : Nat) : Int) then (jb jobs m).work else 0) M ≤ Ew (Aer l jobs i t0 w M) l.length
 | 0, _ => by
  have : Ew (Aer l jobs i t0 w 0) l.length = Ew (fun _ => 0) l.length := Sv fun h _ => by
   unfold Aer P2; split <;> simp
  rw [this]
  have y : ∀ n, Ew (fun _ => (0 : Int)) n = 0 := fun n => by
   induction n with
   | zero => rfl
   | succ n s => show Ew (fun _ => (0 : Int)) n + 0 = 0; rw [s]; rfl
  rw [y]; exact Int.le_refl _
 | M + 1, hM => by
  have s := Auu hb t0 w M (by omega)
  have j := Mw hb (show M < jobs.length by omega)
  obtain ⟨r, f⟩ : ∃ r : Nat, (jb jobs M).task = r := ⟨(jb jobs M).task.toNat, by have := j.task; omega⟩
  have g : r < l.length := by have := j.task; omega
  have u := j.work.2
  rw [f] at u
  show _ + (if _ then _ else _) ≤ _
  by_cases a : lev l jobs i M ∧ (t0 : Int) ≤ (jb jobs M).release ∧ (jb jobs M).release < ((t0 + w : Nat) : Int)
  ·rw [if_pos a]
   have p : inW jobs r t0 w M := ⟨f, a.2⟩
   have e : Ew (Aer l jobs i t0 w (M + 1)) l.length = Ew (Aer l jobs i t0 w M) l.length + (atI l (r : Int)).C := Ph g fun h v => by
    unfold Aer
    by_cases d : h = r
    ·subst d
     have t : (atI l (h : Int)).P ≤ (atI l (i : Int)).P := by have := a.1; unfold lev at this; rw [f] at this; exact this
     rw [if_pos t, if_pos t, if_pos rfl]
     rw [Ade, if_pos p, Int.add_mul, Int.one_mul]
    ·rw [if_neg d, Int.add_zero]
     have : ¬ inW jobs h t0 w M := fun x => d (by have := x.1; omega)
     rw [Ade, if_neg this, Int.add_zero]
   rw [e]; omega
  ·rw [if_neg a, Int.add_zero]
   refine Int.le_trans s (U3 fun h v => ?_)
   unfold Aer
   split
   ·rename_i z
    have o : 0 ≤ (atI l (h : Int)).C := by
     have := (Mu hb).2.2
     obtain ⟨_, _, c⟩ := Bn this
     have := (c _ (Aj (l := l) (i := (h : Int)) (by omega) (by omega))).1
     simp only [An] at this; omega
    have : P2 jobs h t0 w M ≤ P2 jobs h t0 w (M + 1) := by
     show _ ≤ _ + (if _ then _ else _)
     split <;> omega
    exact Int.mul_le_mul_of_nonneg_right this o
   ·exact Int.le_refl _
theorem Az2 (hb : legalB l jobs = true) (hi : i < l.length) {B : Int} {w : Nat} (hB : 0 ≤ B) (hq : ∀ m, m < jobs.length → ¬ lev l jobs i m → (atI l (jb jobs m).task).Q - 1 ≤ B) (hw1 : 1 ≤ w) (hwT : (w : Int) + (atI l (i : Int)).J ≤ (atI l (i : Int)).T) (hneed : (atI l (i : Int)).C + B + Awb l i w l.length ≤ w) {k e : Nat} (hk : k < jobs.length) (ht : (jb jobs k).task = i) (he : EndAt l jobs k e) : (e : Int) ≤ (jb jobs k).release + w := by
 have S := Mc hb
 have ac := (S.ok.rel _ (Dk hk)).1
 obtain ⟨R, hR⟩ : ∃ R : Nat, (jb jobs k).release = R := ⟨(jb jobs k).release.toNat, by omega⟩
 have a4 : lev l jobs i k := by unfold lev; rw [ht]; exact Int.le_refl _
 obtain ⟨t0, h1, h2, h3⟩ := Aan (i := i) S R
 by_cases v : ∃ t, t0 < t ∧ t ≤ t0 + w ∧ quiet l jobs i t
 ·obtain ⟨t, a1, a2, a3⟩ := v
  have ab : R < t := by
   rcases Nat.lt_or_ge R t with h | h
   ·exact h
   ·exact absurd a3 (h3 t a1 h)
  have := (he.lt S hk t).1 (a3 k hk a4 (by omega))
  omega
 ·exfalso
  have o : ∀ t, t0 < t → t ≤ t0 + w → ¬ quiet l jobs i t := fun t a b c => v ⟨t, a, b, c⟩
  have r := Y9 hb hB hq (t0 := t0) w o
  obtain ⟨m, m1, m2, m3, m4⟩ := Acw (o (t0 + w) (by omega) (Nat.le_refl _)) S
  have hstep : ∀ x, x < jobs.length → (if lev l jobs i x then dn l jobs x (t0 + w) - dn l jobs x t0 else 0) ≤ if lev l jobs i x ∧ (t0 : Int) ≤ (jb jobs x).release ∧ (jb jobs x).release < ((t0 + w : Nat) : Int) then (jb jobs x).work else 0 := fun x hx => by
   have d0 := Qk S hx t0
   have d1 := Qk S hx (t0 + w)
   by_cases z : lev l jobs i x
   ·rw [if_pos z]
    by_cases p : (t0 : Int) ≤ (jb jobs x).release
    ·by_cases s : (jb jobs x).release < ((t0 + w : Nat) : Int)
     ·rw [if_pos ⟨z, p, s⟩]; omega
     ·rw [if_neg fun h => s h.2.2]
      have := Anz S hx (t0 + w)
      omega
    ·rw [if_neg fun h => p h.2.1]
     have := h2 x hx z (by omega)
     omega
   ·rw [if_neg z, if_neg fun h => z h.1]; exact Int.le_refl _
  have a5 : (t0 : Int) ≤ (jb jobs m).release := by
   rcases Int.lt_or_le (jb jobs m).release (t0 : Int) with h | h
   ·have := h2 m m1 m2 h
    have := S7 S m1 (show t0 ≤ t0 + w by omega)
    omega
   ·exact h
  have a6 := Xs m1 hstep (by
   rw [if_pos m2, if_pos ⟨m2, a5, m3⟩]
   have := (Qk S m1 t0).1
   omega)
  have a7 := Auu (i := i) hb t0 w jobs.length (Nat.le_refl _)
  have d : ∀ h : Nat, h < l.length → (1 ≤ (atI l (h : Int)).T ∧ 0 ≤ (atI l (h : Int)).J) ∧ 1 ≤ (atI l (h : Int)).C := fun h hh => by
   obtain ⟨_, _, d⟩ := Bn (Mu hb).2.2
   have := (d _ (Aj (l := l) (i := (h : Int)) (by omega) (by omega))).1
   simp only [An] at this; omega
  have a8 : Ew (Aer l jobs i t0 w jobs.length) l.length ≤ Awb l i w l.length + (atI l (i : Int)).C := by
   have e := Ph (f := fun h => if (atI l (h : Int)).P < (atI l (i : Int)).P then (((w : Int) + (atI l (h : Int)).J + (atI l (h : Int)).T - 1) / (atI l (h : Int)).T) * (atI l (h : Int)).C else 0) (g := fun h => (if (atI l (h : Int)).P < (atI l (i : Int)).P then (((w : Int) + (atI l (h : Int)).J + (atI l (h : Int)).T - 1) / (atI l (h : Int)).T) * (atI l (h : Int)).C else 0) + if h = i then (atI l (i : Int)).C else 0) (c := (atI l (i : Int)).C) hi fun h hh => rfl
   unfold Awb
   rw [← e]
   refine U3 fun h hh => ?_
   obtain ⟨⟨hT, hJ⟩, hC⟩ := d h hh
   obtain ⟨c0, c1⟩ := Ayj (t0 := t0) hb hT hJ hw1
   unfold Aer
   by_cases j : (atI l (h : Int)).P < (atI l (i : Int)).P
   ·have a0 : h ≠ i := fun e => by rw [e] at j; omega
    rw [if_pos (by omega), if_pos j, if_neg a0, Int.add_zero]
    refine Int.mul_le_mul_of_nonneg_right ?_ (by omega)
    refine Int.le_ediv_of_mul_le (by omega) ?_
    rw [Int.sub_mul, Int.one_mul] at c1
    omega
   ·rw [if_neg j, Int.zero_add]
    by_cases u : (atI l (h : Int)).P ≤ (atI l (i : Int)).P
    ·have aa : (h : Int) = i := S.prio h i (by omega) (by omega) (by omega) (by omega) (by omega)
     have y : h = i := by omega
     subst y
     rw [if_pos u, if_pos rfl]
     have n : P2 jobs h t0 w jobs.length ≤ 1 := by
      rcases Int.lt_or_le 1 (P2 jobs h t0 w jobs.length) with hh2 | hh2
      ·exfalso
       have h5 : 1 * (atI l (h : Int)).T ≤ (P2 jobs h t0 w jobs.length - 1) * (atI l (h : Int)).T := Int.mul_le_mul_of_nonneg_right (by omega) (by omega)
       omega
      ·exact hh2
     have h6 : P2 jobs h t0 w jobs.length * (atI l (h : Int)).C ≤ 1 * (atI l (h : Int)).C := Int.mul_le_mul_of_nonneg_right n (by omega)
     omega
    ·rw [if_neg u]
     have a9 := (d i hi).2
     split <;> omega
  unfold wrk at r
  omega
end Go.L.Try
namespace Go.L.Try
open Go Go.L
theorem Ae5 (l : List Ab) (i : Nat) (w : Int) : ∀ n, Awb l i w n = hN l (i : Int) w n
 | 0 => rfl
 | n + 1 => by
  have a := Ae5 l i w n
  show Awb l i w n + (if _ then _ else _) = _
  rw [a, hN]
  split <;> simp
theorem Adl {l : List Ab} {i : Int} (hok : ∀ t ∈ l, Ci t) : ∀ n, n ≤ l.length → ∀ k : Nat, k < n → (atI l i).P < (atI l (k : Int)).P → (atI l (k : Int)).Q - 1 ≤ Iv l i n
 | 0, _, k, hk, _ => by omega
 | n + 1, hn, k, hk, hp => by
  have a := Adl (i := i) hok n (by omega)
  unfold Iv
  by_cases e : k = n
  ·subst e; rw [if_pos hp]; omega
  ·have := a k (by omega) hp
   split <;> omega
theorem Ac4 {l : List Ab} {i : Int} (hb : isP l i = true) (hl : ∀ t ∈ l, Mid t) (hn : l.length ≤ 6) {w : Int} (hw : 1 ≤ w ∧ w ≤ 1073741824) : Cg l i w = (atI l i).C + blockP l i + hN l i w l.length := by
 obtain ⟨c, _, a⟩ := E7 hb
 obtain ⟨e, j, h2⟩ := Azh hl hn (i := i) (w := w) (by omega) l.length (Nat.le_refl _)
 have g := (hl _ (Aj c.1 c.2)).C
 have m : 0 ≤ blockP l i ∧ blockP l i ≤ 2147483647 := by unfold blockP; rw [if_pos hb]; exact Pa a i _ (Nat.le_refl _)
 have d : higherP l i w = hN l i w l.length := by unfold higherP; rw [if_pos ⟨hb, by omega⟩]; exact e
 rw [Vm hb, d]
 have f : sat ((atI l i).C + blockP l i) = (atI l i).C + blockP l i := by unfold sat; rw [if_pos (by omega)]
 rw [f]
 unfold sat
 rw [if_pos (by omega)]
theorem Ya {l : List Ab} {jobs : List Job} (hb : legalB l jobs = true) (hl : ∀ t ∈ l, Mid t) (hn : l.length ≤ 6) {k e : Nat} (hk : k < jobs.length) (he : EndAt l jobs k e) (hr : (boundP l (jb jobs k).task).2 = 0) : (e : Int) - (jb jobs k).arrive ≤ (boundP l (jb jobs k).task).1 ∧ (boundP l (jb jobs k).task).1 ≤ (atI l (jb jobs k).task).D := by
 have r := Mw hb hk
 obtain ⟨i, v⟩ : ∃ i : Nat, (jb jobs k).task = i := ⟨(jb jobs k).task.toNat, by have := r.task; omega⟩
 rw [v] at hr ⊢
 have j : i < l.length := by have := r.task; omega
 obtain ⟨_, _, a⟩ := Bn (Mu hb).2.2
 have g : isP l (i : Int) = true := by unfold isP; exact decide_eq_true ⟨(Mu hb).2.2, by omega, by omega⟩
 unfold boundP at hr ⊢
 rw [if_pos g] at hr ⊢
 cases hls : Lc l (i : Int) with
 | none => rw [hls] at hr; simp at hr
 | some w =>
  dsimp only
  unfold Lc at hls
  obtain ⟨h1, h2, _⟩ := Nq hls
  have u := a _ (Aj (l := l) (i := (i : Int)) (by omega) (by omega))
  obtain ⟨p, o⟩ := u
  simp only [An, D4] at p o
  have s : w ≤ (atI l (i : Int)).D - (atI l (i : Int)).J := by unfold G9 at h1; omega
  obtain ⟨W, hW⟩ : ∃ W : Nat, w = W := ⟨w.toNat, by omega⟩
  subst hW
  have f := hl _ (Aj (l := l) (i := (i : Int)) (by omega) (by omega))
  have hT := f.T
  rw [Ac4 g hl hn (by omega)] at h2
  have y : 0 ≤ blockP l (i : Int) := by unfold blockP; rw [if_pos g]; exact (Pa a _ _ (Nat.le_refl _)).1
  have hq : ∀ m, m < jobs.length → ¬ lev l jobs i m → (atI l (jb jobs m).task).Q - 1 ≤ blockP l (i : Int) := fun m hm d => by
   have n := (Mw hb hm).task
   obtain ⟨t, z⟩ : ∃ t : Nat, (jb jobs m).task = t := ⟨(jb jobs m).task.toNat, by omega⟩
   unfold lev at d
   rw [z] at d n ⊢
   unfold blockP
   rw [if_pos g]
   exact Adl a l.length (Nat.le_refl _) t (by omega) (by omega)
  have x := Az2 hb j y hq (w := W) (by omega) (by omega) (by rw [Ae5]; omega) hk v he
  have c := r.release.2
  rw [v] at c
  omega
end Go.L.Try
namespace Go.L.Try
open Go Go.L
variable {l : List Ab} {jobs : List Job} {k s0 B M : Nat}
def upL (l : List Ab) (jobs : List Job) (k m : Nat) : Prop := m = k ∨ (atI l (jb jobs m).task).P < (atI l (jb jobs k).task).P
instance (l : List Ab) (jobs : List Job) (k m : Nat) : Decidable (upL l jobs k m) := by unfold upL; infer_instance
structure Awj (l : List Ab) (jobs : List Job) (k s0 B M : Nat) : Prop where
 script : Script l jobs
 hk : k < jobs.length
 rel : (jb jobs k).release = s0
 before : ∀ j, j < jobs.length → upL l jobs k j → (s0 : Int) ≤ (jb jobs j).release
 low : ∀ n, n < B → n < M → ∀ r : Nat, who l jobs (s0 + n) = r → ¬ upL l jobs k r
 high : ∀ n, B ≤ n → n < M → dn l jobs k (s0 + n) < (jb jobs k).work → ∃ r : Nat, who l jobs (s0 + n) = r ∧ upL l jobs k r
 best : ∀ n, n < M → who l jobs (s0 + n) = k → ∀ j, j < jobs.length → upL l jobs k j → j ≠ k → (jb jobs j).release ≤ ((s0 + n : Nat) : Int) → dn l jobs j (s0 + n) = (jb jobs j).work
def Ao5 (l : List Ab) (jobs : List Job) (k s0 n : Nat) : Int := Ew (fun m => if upL l jobs k m then dn l jobs m (s0 + n) else 0) jobs.length
def Axe (l : List Ab) (jobs : List Job) (k s0 n : Nat) : Int := Ew (fun m => if upL l jobs k m ∧ (jb jobs m).release < ((s0 + n : Nat) : Int) then (jb jobs m).work else 0) jobs.length
theorem Wk {f : Nat → Int} : ∀ {m : Nat}, (∀ i, i < m → f i = 0) → Ew f m = 0
 | 0, _ => rfl
 | m + 1, h => by
  show Ew f m + f m = 0
  rw [Wk (m := m) fun i a => h i (by omega), h m (by omega)]; rfl
theorem Aew (S : Script l jobs) {m n : Nat} (hm : m < jobs.length) (h : (n : Int) ≤ (jb jobs m).release) : dn l jobs m n = 0 := by
 have a := Anz S hm n
 have h2 := (Qk S hm n).1
 omega
theorem Ao3 (C : Awj l jobs k s0 B M) : Ao5 l jobs k s0 0 = 0 :=
 Wk fun m hm => by
  split
  ·rename_i h; exact Aew C.script hm (by rw [Nat.add_zero]; exact C.before m hm h)
  ·rfl
open Classical in
theorem Ao4 (S : Script l jobs) (n : Nat) : Ao5 l jobs k s0 (n + 1) = Ao5 l jobs k s0 n + if ∃ r : Nat, who l jobs (s0 + n) = r ∧ upL l jobs k r then 1 else 0 := by
 unfold Ao5
 have c : ∀ m, m < jobs.length → dn l jobs m (s0 + (n + 1)) = dn l jobs m (s0 + n) + if who l jobs (s0 + n) = m then 1 else 0 := fun m a => by
  rw [← Nat.add_assoc]; exact G6 S a _
 by_cases h : ∃ r : Nat, who l jobs (s0 + n) = r ∧ upL l jobs k r
 ·rw [if_pos h]
  obtain ⟨r, d, h2⟩ := h
  refine Ph (r := r) (Tx S d).1 fun m a => ?_
  rw [c m a, d]
  by_cases e : m = r
  ·subst e; rw [if_pos h2, if_pos h2, if_pos rfl, if_pos rfl]
  ·have g : ¬ ((r : Int) = (m : Int)) := by omega
   rw [if_neg e, if_neg g]; split <;> omega
 ·rw [if_neg h, Int.add_zero]
  refine Sv fun m a => ?_
  rw [c m a]
  split
  ·rename_i f
   rw [if_neg fun e => h ⟨m, e, f⟩]; omega
  ·rfl
theorem Acc (C : Awj l jobs k s0 B M) : ∀ n, n ≤ M → (∀ n', n' < n → dn l jobs k (s0 + n') < (jb jobs k).work) → Ao5 l jobs k s0 n = if n ≤ B then 0 else (n : Int) - B
 | 0, _, _ => by rw [Ao3 C, if_pos (Nat.zero_le _)]
 | n + 1, hn, hp => by
  have a := Acc C n (by omega) fun n' h => hp n' (by omega)
  rw [Ao4 C.script, a]
  by_cases h : n < B
  ·rw [if_neg (c := ∃ r : Nat, who l jobs (s0 + n) = r ∧ upL l jobs k r) (by rintro ⟨r, d, h2⟩; exact C.low n h (by omega) r d h2)]
   split <;> split <;> omega
  ·rw [if_pos (c := ∃ r : Nat, who l jobs (s0 + n) = r ∧ upL l jobs k r) (C.high n (by omega) (by omega) (hp n (by omega)))]
   split <;> split <;> omega
theorem Avh (C : Awj l jobs k s0 B M) {n : Nat} (h1 : 1 ≤ n) (hn : n ≤ M) (he : EndAt l jobs k (s0 + n)) : Axe l jobs k s0 n + B = n := by
 have S := C.script
 have hk : upL l jobs k k := .inl rfl
 have f : ∀ d, d < n → dn l jobs k (s0 + d) < (jb jobs k).work := fun d h => by
  have h2 := (he.lt S C.hk (s0 + d)).1
  have u := (Qk S C.hk (s0 + d)).2
  by_cases e : dn l jobs k (s0 + d) = (jb jobs k).work
  ·have := h2 e; omega
  ·omega
 have s := (he.lt S C.hk (s0 + n)).2 (Nat.le_refl _)
 have a := G6 S C.hk (s0 + (n - 1))
 rw [show s0 + (n - 1) + 1 = s0 + n by omega] at a
 have r := f (n - 1) (by omega)
 have c : who l jobs (s0 + (n - 1)) = k := by
  apply Classical.byContradiction
  intro p
  rw [if_neg p] at a; omega
 have y : B ≤ n - 1 := by
  apply Classical.byContradiction
  intro p
  exact C.low (n - 1) (by omega) (by omega) k c hk
 have t := Acc C n hn f
 rw [if_neg (by omega)] at t
 have v : Ao5 l jobs k s0 n = Axe l jobs k s0 n := by
  refine Sv fun m o => ?_
  by_cases j : upL l jobs k m
  ·rw [if_pos j]
   by_cases g : (jb jobs m).release < ((s0 + n : Nat) : Int)
   ·rw [if_pos ⟨j, g⟩]
    by_cases e : m = k
    ·rw [e]; exact s
    ·have h2 := C.best (n - 1) (by omega) c m o j e (by omega)
     have u := S7 S o (show s0 + (n - 1) ≤ s0 + n by omega)
     have x := (Qk S o (s0 + n)).2
     omega
   ·rw [if_neg fun h => g h.2, Aew S o (by omega)]
  ·rw [if_neg j, if_neg fun h => j h.1]
 omega
end Go.L.Try
namespace Go.L.Try
open Go Go.L
variable {l : List Ab} {jobs : List Job} {k s0 B M : Nat}
def cntB (jobs : List Job) (h : Nat) (x : Int) : Nat := jobs.countP fun j => decide (j.task = (h : Int) ∧ j.release < x)
theorem V3 (A C : List Job) (h : Nat) (x : Int) : cntB (A ++ C) h x = cntB A h x + cntB C h x := List.countP_append
theorem Adf (j : Job) (A : List Job) (h : Nat) (x : Int) : cntB (j :: A) h x = cntB A h x + if j.task = (h : Int) ∧ j.release < x then 1 else 0 := by
 unfold cntB
 rw [List.countP_cons]
 by_cases a : j.task = (h : Int) ∧ j.release < x <;> simp [a]
def upW (l : List Ab) (p : Int) (x : Int) (j : Job) : Int := if (atI l j.task).P < p ∧ j.release < x then j.work else 0
theorem Aci (g : Job → Int) : ∀ (A : List Job), Ew (fun m => g (jb A m)) A.length = (A.map g).foldr (· + ·) 0
 | [] => rfl
 | j :: A => by
  have c := Aci g A
  have a : ∀ n, Ew (fun m => g (jb (j :: A) m)) (n + 1) = g j + Ew (fun m => g (jb A m)) n := by
   intro n
   induction n with
   | zero => show (0 : Int) + g j = g j + 0; omega
   | succ n ih2 =>
    show Ew (fun m => g (jb (j :: A) m)) (n + 1) + g (jb (j :: A) (n + 1)) = g j + (Ew (fun m => g (jb A m)) n + g (jb A n))
    rw [ih2]
    have : jb (j :: A) (n + 1) = jb A n := rfl
    rw [this]; omega
  rw [List.length_cons, a, c]; rfl
theorem Ari {l : List Ab} {p x : Int} : ∀ (A : List Job), (∀ j ∈ A, (0 ≤ j.task ∧ j.task < l.length) ∧ ((atI l j.task).P < p → j.work = (atI l j.task).C)) → (A.map (upW l p x)).foldr (· + ·) 0 = Ew (fun h => if (atI l (h : Int)).P < p then (cntB A h x : Int) * (atI l (h : Int)).C else 0) l.length
 | [], _ => by
  rw [Wk fun h _ => by unfold cntB; split <;> simp]; rfl
 | j :: A, hA => by
  have u := Ari (p := p) (x := x) A fun j t => hA j (by simp [t])
  obtain ⟨y, o⟩ := hA j (by simp)
  show upW l p x j + (A.map (upW l p x)).foldr (· + ·) 0 = _
  rw [u]
  obtain ⟨r, s⟩ : ∃ r : Nat, j.task = r := ⟨j.task.toNat, by omega⟩
  have e := Ph (f := fun h => if (atI l (h : Int)).P < p then (cntB A h x : Int) * (atI l (h : Int)).C else 0) (g := fun h => if (atI l (h : Int)).P < p then (cntB (j :: A) h x : Int) * (atI l (h : Int)).C else 0) (r := r) (c := upW l p x j) (m := l.length) (by omega) fun h v => by
   rw [Adf]
   by_cases n : h = r
   ·subst n
    rw [if_pos rfl]
    unfold upW
    rw [s] at o ⊢
    by_cases a : (atI l (h : Int)).P < p
    ·rw [if_pos a, if_pos a]
     by_cases d : j.release < x
     ·rw [if_pos ⟨rfl, d⟩, if_pos ⟨a, d⟩, o a, Int.natCast_add, Int.natCast_one, Int.add_mul, Int.one_mul]
     ·rw [if_neg fun h => d h.2, if_neg fun h => d h.2, Nat.add_zero, Int.add_zero]
    ·rw [if_neg a, if_neg a, if_neg fun h => a h.1]; rfl
   ·rw [if_neg n, Int.add_zero, if_neg (c := j.task = (h : Int) ∧ j.release < x) (fun h2 => n (by omega)), Nat.add_zero]
  rw [e]; omega
theorem Asl (C : Awj l jobs k s0 B M) (hw : ∀ j ∈ jobs, (0 ≤ j.task ∧ j.task < l.length) ∧ ((atI l j.task).P < (atI l (jb jobs k).task).P → j.work = (atI l j.task).C)) {n : Nat} (hn : 1 ≤ n) :
  Axe l jobs k s0 n = (jb jobs k).work + Ew (fun h => if (atI l (h : Int)).P < (atI l (jb jobs k).task).P then (cntB jobs h ((s0 + n : Nat) : Int) : Int) * (atI l (h : Int)).C else 0) l.length := by
 rw [← Ari (x := ((s0 + n : Nat) : Int)) jobs hw, ← Aci]
 unfold Axe
 rw [Int.add_comm]
 refine Ph (r := k) C.hk fun m c => ?_
 unfold upW
 by_cases e : m = k
 ·subst e
  rw [if_pos rfl, if_pos ⟨.inl rfl, by rw [C.rel]; omega⟩, if_neg fun h => by have := h.1; omega]; omega
 ·rw [if_neg e, Int.add_zero]
  by_cases a : (atI l (jb jobs m).task).P < (atI l (jb jobs k).task).P ∧ (jb jobs m).release < ((s0 + n : Nat) : Int)
  ·rw [if_pos a, if_pos ⟨.inr a.1, a.2⟩]
  ·rw [if_neg a, if_neg]
   rintro ⟨h1 | h1, h2⟩
   ·exact e h1
   ·exact a ⟨h1, h2⟩
structure Scene (l : List Ab) (jobs : List Job) (i k s0 B M : Nat) : Prop where
 crit : Awj l jobs k s0 B M
 legal : legalB l jobs = true
 mid : ∀ t ∈ l, Mid t
 six : l.length ≤ 6
 task : (jb jobs k).task = i
 most : (M : Int) = (atI l (i : Int)).D - (atI l (i : Int)).J
 block : (B : Int) = blockP l (i : Int)
 work : (jb jobs k).work = (atI l (i : Int)).C
 arrive : (jb jobs k).arrive = (s0 : Int) - (atI l (i : Int)).J
 works : ∀ j ∈ jobs, (atI l j.task).P < (atI l (i : Int)).P → j.work = (atI l j.task).C
 many : ∀ h : Nat, h < l.length → (atI l (h : Int)).P < (atI l (i : Int)).P → ∀ n : Nat, 1 ≤ n → n ≤ M → ((n : Int) + (atI l (h : Int)).J + (atI l (h : Int)).T - 1) / (atI l (h : Int)).T ≤ cntB jobs h ((s0 + n : Nat) : Int)
theorem Scene.isP {i : Nat} (s : Scene l jobs i k s0 B M) : isP l (i : Int) = true := by
 have := (Mw s.legal s.crit.hk).task
 rw [s.task] at this
 unfold Try.isP; exact decide_eq_true ⟨(Mu s.legal).2.2, by omega, by omega⟩
theorem Scene.enough {i : Nat} (s : Scene l jobs i k s0 B M) {n : Nat} (h1 : 1 ≤ n) (hn : n ≤ M) (he : EndAt l jobs k (s0 + n)) : Cg l (i : Int) n ≤ n := by
 have x := s.isP
 obtain ⟨c, _, t⟩ := E7 x
 have d := t _ (Aj (l := l) (i := (i : Int)) c.1 c.2)
 obtain ⟨o, p⟩ := d
 simp only [An, D4] at o p
 have u := (s.mid _ (Aj (l := l) (i := (i : Int)) c.1 c.2)).T
 have r := s.most
 rw [Ac4 x s.mid s.six (by omega)]
 have f := Avh s.crit h1 hn he
 rw [Asl s.crit (fun j hj => by
  obtain ⟨m, g, rfl⟩ := List.getElem_of_mem hj
  have y := (Mw s.legal g).task
  have h4 := s.works _ (List.getElem_mem g)
  rw [s.task]
  refine ⟨?_, h4⟩
  have e : jb jobs m = jobs[m] := Bw g
  rwa [e] at y) h1, s.task, s.work] at f
 have v : hN l (i : Int) n l.length ≤ Ew (fun h => if (atI l (h : Int)).P < (atI l (i : Int)).P then (cntB jobs h ((s0 + n : Nat) : Int) : Int) * (atI l (h : Int)).C else 0) l.length := by
  rw [← Ae5]
  refine U3 fun h z => ?_
  by_cases a : (atI l (h : Int)).P < (atI l (i : Int)).P
  ·rw [if_pos a, if_pos a]
   have hC := (s.mid _ (Aj (l := l) (i := (h : Int)) (by omega) (by omega))).C
   exact Int.mul_le_mul_of_nonneg_right (s.many h z a n h1 hn) (by omega)
  ·rw [if_neg a, if_neg a]; exact Int.le_refl _
 have := s.block
 omega
theorem Scene.after {i : Nat} (s : Scene l jobs i k s0 B M) {e : Nat} (he : EndAt l jobs k e) : ∃ n, 1 ≤ n ∧ e = s0 + n := by
 have a := he.late s.crit.script s.crit.hk
 rw [s.crit.rel, s.work] at a
 have := (s.mid _ (Aj (l := l) (i := (i : Int)) (E7 s.isP).1.1 (E7 s.isP).1.2)).C
 exact ⟨e - s0, by omega, by omega⟩
theorem Scene.just {i : Nat} (s : Scene l jobs i k s0 B M) {e : Nat} (he : EndAt l jobs k e) (hb : (boundP l (i : Int)).2 = 0) : (e : Int) - (jb jobs k).arrive = (boundP l (i : Int)).1 := by
 have a := Ya s.legal s.mid s.six s.crit.hk he (by rw [s.task]; exact hb)
 rw [s.task] at a
 obtain ⟨n, d, rfl⟩ := s.after he
 have j := s.isP
 unfold boundP at hb a ⊢
 rw [if_pos j] at hb a ⊢
 cases hls : Lc l (i : Int) with
 | none => rw [hls] at hb; simp at hb
 | some w =>
  rw [hls] at a
  dsimp only at a ⊢
  unfold Lc at hls
  obtain ⟨h2, m, f⟩ := Nq hls
  have g : n ≤ M := by have := s.most; have := s.arrive; omega
  have c := s.enough d g he
  have : w ≤ n := by
   rcases Int.lt_or_le (n : Int) w with h | h
   ·have := f n (by omega) h; omega
   ·exact h
  have := s.arrive
  omega
theorem Scene.late {i : Nat} (s : Scene l jobs i k s0 B M) {e : Nat} (he : EndAt l jobs k e) (hb : (boundP l (i : Int)).2 ≠ 0) : (atI l (i : Int)).D < (e : Int) - (jb jobs k).arrive := by
 obtain ⟨n, f, rfl⟩ := s.after he
 have c := s.isP
 have j := Rq c
 rcases Int.lt_or_le (atI l (i : Int)).D (((s0 + n : Nat) : Int) - (jb jobs k).arrive) with h | h
 ·exact h
 ·exfalso
  have g : n ≤ M := by have := s.most; have := s.arrive; omega
  have d := s.enough f g he
  apply hb
  unfold boundP
  rw [if_pos c]
  cases hls : Lc l (i : Int) with
  | some w => rfl
  | none =>
   unfold Lc at hls
   have a : G9 l (i : Int) = M := by unfold G9; rw [s.most]
   have := X2 hls n (by omega) (by omega)
   omega
end Go.L.Try
