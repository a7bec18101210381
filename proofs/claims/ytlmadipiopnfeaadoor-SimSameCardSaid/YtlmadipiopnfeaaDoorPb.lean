/- JOBS: cadencyref08.last, Few, Decode. -/
import Derived.Test.YtlmadipiopnfeaaDoorPa
import Derived.Test.YtlmadipiopnfeaaDoorVc
set_option linter.unusedVariables false
set_option linter.unusedSimpArgs false
set_option maxRecDepth 4000
set_option maxHeartbeats 1000000
namespace Go.L.Try
open Go Go.L
variable {E : Env}
end Go.L.Try
set_option maxRecDepth 100000
namespace Go.L.Try
open Go Go.L
variable {E : Env}
end Go.L.Try
set_option maxHeartbeats 2000000
namespace Go.L.Try
open Go Go.L
def Dl (q : Int) : List Int → Int → Bool
 | [], _ => true
 | c :: r, left => decide (1 ≤ c ∧ c ≤ q ∧ c ≤ left) && Dl q r (left - c)
def Dy (l : List Ab) (jobs : List Job) (i : Nat) : Prop :=
 let j := atI jobs (i : Int)
 let t := atI l j.task
 let k := C5 jobs j.task i
 (0 ≤ j.task ∧ j.task < l.length) ∧ (0 ≤ j.arrive ∧ j.arrive ≤ 17592186044416) ∧ (0 ≤ k → (atI jobs k).arrive + t.T ≤ j.arrive) ∧ j.arrive ≤ j.release ∧ j.release ≤ j.arrive + t.J ∧ 1 ≤ j.work ∧ j.work ≤ t.C
instance (l : List Ab) (jobs : List Job) (i : Nat) : Decidable (Dy l jobs i) := by unfold Dy; dsimp only; infer_instance
def E6 (l : List Ab) (jobs : List Job) (i : Nat) : Bool := decide (Dy l jobs i) && Dl (atI l (atI jobs (i : Int)).task).Q (atI jobs (i : Int)).cuts (atI jobs (i : Int)).work
def Ha (l : List Ab) (jobs : List Job) : Nat → Bool
 | 0 => true
 | n + 1 => Ha l jobs n && E6 l jobs n
def legalB (l : List Ab) (jobs : List Job) : Bool := decide ((Dr l).2 = 0 ∧ jobs.length ≤ 4096) && Ha l jobs jobs.length
theorem So {l : List Ab} {jobs : List Job} : ∀ {n : Nat}, Ha l jobs n = true → ∀ i, i < n → E6 l jobs i = true
 | 0, _, i, hi => by omega
 | n + 1, h, i, hi => by
  simp only [Ha, Bool.and_eq_true] at h
  rcases Nat.lt_or_ge i n with h1 | h1
  ·exact So h.1 i h1
  ·have : i = n := by omega
   subst this; exact h.2
theorem Aq4 {l : List Ab} {jobs : List Job} {n i : Nat} (hi : i < n) (h : E6 l jobs i = false) : Ha l jobs n = false := by
 cases hc : Ha l jobs n
 ·rfl
 ·rw [So hc i hi] at h; cases h
theorem Aao {jobs : List Job} {task : Int} : ∀ {k i : Nat}, k ≤ i → C5 (jobs.take i) task k = C5 jobs task k
 | 0, i, _ => rfl
 | k + 1, i, h => by
  have e : atI (jobs.take i) (k : Int) = atI jobs (k : Int) := by
   unfold atI
   rw [List.getD_eq_getElem?_getD, List.getD_eq_getElem?_getD, List.getElem?_take, if_pos (by omega)]
  simp only [C5, e, Aao (k := k) (by omega : k ≤ i)]
theorem Mv {jobs : List Job} {task : Int} : ∀ {n : Nat}, 0 ≤ C5 jobs task n → (atI jobs (C5 jobs task n)).task = task
 | 0, h => by simp [C5] at h
 | n + 1, h => by
  unfold C5 at h ⊢
  split
  ·assumption
  ·rename_i a; rw [if_neg a] at h; exact Mv h
end Go.L.Try
namespace Go.L.Try
open Go Go.L
def As : List Int → Int → Int → Bool
 | [], _, _ => false
 | c :: r, a, d => decide (a < d ∧ d < a + c) || As r (a + c) d
def Ch (l : List Ab) (jobs : List Job) (done : List Int) (t : Int) : Nat → Int
| 0 => -1
| n+1 => if (atI jobs n).release ≤ t ∧ atI done n < (atI jobs n).work ∧ (Ch l jobs done t n < 0 ∨ (atI l (atI jobs n).task).P < (atI l (atI jobs (Ch l jobs done t n)).task).P) then n else Ch l jobs done t n
theorem Om (l : List Ab) (jobs : List Job) (done : List Int) (t : Int) : ∀ n, -1 ≤ Ch l jobs done t n ∧ Ch l jobs done t n < n
| 0 => by simp [Ch]
| n+1 => by have := Om l jobs done t n; unfold Ch; split <;> omega
end Go.L.Try
namespace Go.L.Try
open Go Go.L
def D6 (f : Nat → Int) : Nat → Int
 | 0 => 0
 | n + 1 => D6 f n + f n
theorem Su {f g : Nat → Int} : ∀ {n : Nat}, (∀ i, i < n → g i = f i) → D6 g n = D6 f n
 | 0, _ => rfl
 | n + 1, h => by simp only [D6]; rw [Su (n := n) fun i a => h i (by omega), h n (by omega)]
theorem Zj {f g : Nat → Int} {r : Nat} : ∀ {n : Nat}, (∀ i, i ≠ r → g i = f i) → r < n → D6 g n = D6 f n + (g r - f r)
 | 0, _, h => by omega
 | n + 1, h, hr => by
  simp only [D6]
  by_cases e : r = n
  ·subst e
   rw [Su (f := f) (g := g) fun i a => h i (by omega)]; omega
  ·rw [Zj h (by omega), h n (fun h => e h.symm)]; omega
theorem U1 {f g : Nat → Int} : ∀ {n : Nat}, (∀ i, i < n → f i ≤ g i) → D6 f n ≤ D6 g n
 | 0, _ => Int.le_refl _
 | n + 1, h => by have := U1 (n := n) fun i a => h i (by omega); have := h n (by omega); simp only [D6]; omega
theorem Wj : ∀ {n : Nat}, D6 (fun _ => 0) n = 0
 | 0 => rfl
 | n + 1 => by simp only [D6, Wj (n := n)]; rfl
theorem Xr {f : Nat → Int} {n : Nat} (h : ∀ i, i < n → 0 ≤ f i) : 0 ≤ D6 f n := by
 have := U1 (f := fun _ => 0) (g := f) (n := n) h; rw [Wj] at this; exact this
theorem Zk {f : Nat → Int} : ∀ {n : Nat}, 0 < D6 f n → ∃ i, i < n ∧ 0 < f i
 | 0, h => by simp [D6] at h
 | n + 1, h => by
  simp only [D6] at h
  by_cases e : 0 < f n
  ·exact ⟨n, by omega, e⟩
  ·obtain ⟨i, c, a⟩ := Zk (f := f) (n := n) (by omega); exact ⟨i, by omega, a⟩
theorem Tc {α : Type} [Inhabited α] {l : List α} {r : Nat} {x : α} (hr : r < l.length) (i : Nat) : atI (l.set r x) (i : Int) = if i = r then x else atI l (i : Int) := by
 unfold atI
 rw [List.getD_eq_getElem?_getD, List.getD_eq_getElem?_getD, show ((i : Int)).toNat = i by omega, List.getElem?_set]
 by_cases e : i = r
 ·subst e; simp [hr]
 ·rw [if_neg (fun h => e h.symm), if_neg e]
structure RS where
 t : Int
 runs : Int
 done : List Int
 ends : List Int
 left : Int
 L : List Span
def Bl (l : List Ab) (jobs : List Job) (s : RS) : Int :=
 if s.runs < 0 ∨ As (atI jobs s.runs).cuts 0 (atI s.done s.runs) = false then Ch l jobs s.done s.t jobs.length else s.runs
def Gd (L : List Span) (r t : Int) : List Span :=
 if 0 < (L.length : Int) ∧ (atI L ((L.length : Int) - 1)).job = r ∧ (atI L ((L.length : Int) - 1)).to' = t then L.set ((L.length : Int) - 1).toNat { atI L ((L.length : Int) - 1) with to' := (atI L ((L.length : Int) - 1)).to' + 1 } else L ++ [⟨r, t, t + 1⟩]
def Ml (jobs : List Job) (s : RS) (r : Int) : RS :=
 {t := s.t + 1, runs := r, done := s.done.set r.toNat (atI s.done r + 1), L := Gd s.L r s.t,
  ends := if atI s.done r + 1 = (atI jobs r).work then s.ends.set r.toNat (s.t + 1) else s.ends,
  left := if atI s.done r + 1 = (atI jobs r).work then s.left - 1 else s.left }
def Ey (l : List Ab) (jobs : List Job) (s : RS) : RS :=
 if Bl l jobs s < 0 then { s with t := s.t + 1, runs := Bl l jobs s } else Ml jobs s (Bl l jobs s)
def Pp (e : Int) (s : RS) : Prop := 0 < s.left ∧ (e < 0 ∨ s.t < e)
instance (e : Int) (s : RS) : Decidable (Pp e s) := by unfold Pp; infer_instance
def Xx (l : List Ab) (jobs : List Job) (e : Int) : Nat → RS → RS
 | 0, s => s
 | n + 1, s => if Pp e s then Xx l jobs e n (Ey l jobs s) else s
def Fj (n : Nat) : RS := ⟨0, -1, List.replicate n 0, List.replicate n (-1), n, []⟩
def Ev : Int := 17594333528064
structure Qi (l : List Ab) (jobs : List Job) : Prop where
 task : ∀ j ∈ jobs, 0 ≤ j.task ∧ j.task < l.length
 rel : ∀ j ∈ jobs, 0 ≤ j.release ∧ j.release < Ev
 work : ∀ j ∈ jobs, 1 ≤ j.work ∧ j.work ≤ 2147483647
 cuts : ∀ j ∈ jobs, ∃ q, Dl q j.cuts j.work = true
structure RsInv (jobs : List Job) (s : RS) : Prop where
 dlen : s.done.length = jobs.length
 elen : s.ends.length = jobs.length
 t0 : 0 ≤ s.t
 t1 : s.t ≤ Ev + D6 (fun i => atI s.done (i : Int)) jobs.length
 runs : -1 ≤ s.runs ∧ s.runs < jobs.length
 done : ∀ i : Nat, i < jobs.length → 0 ≤ atI s.done (i : Int) ∧ atI s.done (i : Int) ≤ (atI jobs (i : Int)).work
 left : s.left = D6 (fun i => if atI s.done (i : Int) < (atI jobs (i : Int)).work then 1 else 0) jobs.length
 L : (s.L.length : Int) ≤ D6 (fun i => atI s.done (i : Int)) jobs.length
def G0 (jobs : List Job) : Int := D6 (fun i => (atI jobs (i : Int)).work) jobs.length
def Ez (jobs : List Job) (s : RS) : Nat := (Ev - s.t).toNat + (G0 jobs - D6 (fun i => atI s.done (i : Int)) jobs.length).toNat
theorem RsInv.sum {jobs : List Job} {s : RS} (h : RsInv jobs s) : 0 ≤ D6 (fun i => atI s.done (i : Int)) jobs.length ∧ D6 (fun i => atI s.done (i : Int)) jobs.length ≤ G0 jobs :=
 ⟨Xr fun i hi => (h.done i hi).1, U1 fun i hi => (h.done i hi).2⟩
theorem Pq (jobs : List Job) (hw : ∀ j ∈ jobs, 1 ≤ j.work ∧ j.work ≤ 2147483647) : RsInv jobs (Fj jobs.length) := by
 have c : ∀ i : Nat, i < jobs.length → atI (List.replicate jobs.length (0 : Int)) (i : Int) = 0 := fun i a => by
  rw [Bw (by simpa using a)]; simp
 have d : D6 (fun i => atI (List.replicate jobs.length (0 : Int)) (i : Int)) jobs.length = 0 := by
  rw [Su (f := fun _ => 0) c, Wj]
 refine ⟨by simp [Fj], by simp [Fj], Int.le_refl _, ?_, ⟨by simp [Fj], by simp [Fj]; omega⟩, fun i a => ?_, ?_, ?_⟩
 ·show (0 : Int) ≤ Ev + D6 (fun i => atI (List.replicate jobs.length (0 : Int)) (i : Int)) jobs.length
  rw [d]; decide
 ·show 0 ≤ atI (List.replicate jobs.length (0 : Int)) (i : Int) ∧ atI (List.replicate jobs.length (0 : Int)) (i : Int) ≤ _
  rw [c i a]
  have := (hw _ (Aj (l := jobs) (i := i) (by omega) (by omega))).1
  omega
 ·show (jobs.length : Int) = D6 (fun i => if atI (List.replicate jobs.length (0 : Int)) (i : Int) < (atI jobs (i : Int)).work then 1 else 0) jobs.length
  rw [Su (f := fun _ => 1) fun i a => by
   have := (hw _ (Aj (l := jobs) (i := i) (by omega) (by omega))).1
   rw [c i a, if_pos (by omega)]]
  have : ∀ n : Nat, (n : Int) = D6 (fun _ => 1) n := by
   intro n
   induction n with
   | zero => rfl
   | succ n ih => simp only [D6]; omega
  exact this _
 ·show ((List.length ([] : List Span) : Nat) : Int) ≤ D6 (fun i => atI (List.replicate jobs.length (0 : Int)) (i : Int)) jobs.length
  rw [d]; decide
theorem Wf {q : Int} : ∀ {cuts : List Int} {w a d : Int}, Dl q cuts w = true → As cuts a d = true → d < a + w
 | [], w, a, d, _, h => by simp [As] at h
 | c :: r, w, a, d, h1, h2 => by
  simp only [Dl, Bool.and_eq_true, decide_eq_true_eq] at h1
  simp only [As, Bool.or_eq_true, decide_eq_true_eq] at h2
  rcases h2 with h2 | h2
  ·omega
  ·have := Wf h1.2 h2; omega
theorem J6 {l : List Ab} {jobs : List Job} {done : List Int} {t : Int} : ∀ {n : Nat}, 0 ≤ Ch l jobs done t n → (atI jobs (Ch l jobs done t n)).release ≤ t ∧ atI done (Ch l jobs done t n) < (atI jobs (Ch l jobs done t n)).work
 | 0, h => by simp [Ch] at h
 | n + 1, h => by
  unfold Ch at h ⊢
  split
  ·rename_i a; exact ⟨a.1, a.2.1⟩
  ·rename_i a
   rw [if_neg a] at h
   exact J6 h
theorem Mn {l : List Ab} {jobs : List Job} {done : List Int} {t : Int} : ∀ {n : Nat}, Ch l jobs done t n < 0 → ∀ i : Nat, i < n → ¬ ((atI jobs (i : Int)).release ≤ t ∧ atI done (i : Int) < (atI jobs (i : Int)).work)
 | 0, _, i, hi => by omega
 | n + 1, h, i, hi => by
  unfold Ch at h
  split at h
  ·omega
  ·rename_i c
   rintro ⟨a, h2⟩
   rcases Nat.lt_or_ge i n with hlt | hge
   ·exact Mn h i hlt ⟨a, h2⟩
   ·have : i = n := by omega
    subst this
    exact c ⟨a, h2, .inl h⟩
theorem Apr {l : List Ab} {jobs : List Job} {s : RS} (hj : Qi l jobs) (hi : RsInv jobs s) : -1 ≤ Bl l jobs s ∧ Bl l jobs s < jobs.length ∧ (0 ≤ Bl l jobs s → atI s.done (Bl l jobs s) < (atI jobs (Bl l jobs s)).work) := by
 unfold Bl
 split
 ·have := Om l jobs s.done s.t jobs.length
  exact ⟨this.1, this.2, fun h => (J6 h).2⟩
 ·rename_i c
  have a : 0 ≤ s.runs := by omega
  have d : As (atI jobs s.runs).cuts 0 (atI s.done s.runs) = true := by simpa using fun h => c (.inr h)
  refine ⟨by omega, hi.runs.2, fun _ => ?_⟩
  obtain ⟨q, e⟩ := hj.cuts _ (Aj a hi.runs.2)
  have := Wf e d; omega
theorem Aix (L : List Span) (r t : Int) : (Gd L r t).length ≤ L.length + 1 := by unfold Gd; split <;> simp
theorem I0 {l : List Ab} {jobs : List Job} {s : RS} {e : Int} (hj : Qi l jobs) (hi : RsInv jobs s) (ho : Pp e s) : RsInv jobs (Ey l jobs s) ∧ Ez jobs (Ey l jobs s) < Ez jobs s := by
 obtain ⟨r1, v, r3⟩ := Apr hj hi
 unfold Ey
 split
 ·rename_i n
  have m : s.t < Ev := by
   have := ho.1
   rw [hi.left] at this
   obtain ⟨i, d, x⟩ := Zk this
   split at x
   ·rename_i hd
    have u : Ch l jobs s.done s.t jobs.length < 0 := by
     unfold Bl at n
     split at n
     ·exact n
     ·rename_i hc; omega
    have h1 := Mn u i d
    have h2 := (hj.rel _ (Aj (l := jobs) (i := i) (by omega) (by omega))).2
    omega
   ·omega
  have hs := hi.sum
  refine ⟨⟨hi.dlen, hi.elen, by have := hi.t0; show 0 ≤ s.t + 1; omega, ?_, ⟨r1, v⟩, hi.done, hi.left, hi.L⟩, ?_⟩
  ·show s.t + 1 ≤ Ev + D6 (fun i => atI s.done (i : Int)) jobs.length
   omega
  ·show (Ev - (s.t + 1)).toNat + (G0 jobs - D6 (fun i => atI s.done (i : Int)) jobs.length).toNat < (Ev - s.t).toNat + (G0 jobs - D6 (fun i => atI s.done (i : Int)) jobs.length).toNat
   omega
 ·rename_i n
  generalize hrr : Bl l jobs s = r at *
  have z : 0 ≤ r := by omega
  have m := r3 z
  obtain ⟨k, rfl⟩ : ∃ k : Nat, r = k := ⟨r.toNat, by omega⟩
  have o : k < jobs.length := by omega
  have p : k < s.done.length := by rw [hi.dlen]; exact o
  have c : ∀ i : Nat, atI (s.done.set k (atI s.done (k : Int) + 1)) (i : Int) = if i = k then atI s.done (k : Int) + 1 else atI s.done (i : Int) := fun i => Tc p i
  have a : D6 (fun i => atI (s.done.set k (atI s.done (k : Int) + 1)) (i : Int)) jobs.length = D6 (fun i => atI s.done (i : Int)) jobs.length + 1 := by
   rw [Zj (f := fun i => atI s.done (i : Int)) (r := k) (fun i j => by rw [c, if_neg j]) o, c, if_pos rfl]; omega
  have hs := hi.sum
  have hb := hi.done k o
  have y : D6 (fun i => atI s.done (i : Int)) jobs.length + 1 ≤ G0 jobs := by
   rw [← a]
   refine U1 fun i d => ?_
   rw [c]
   split
   ·rename_i e; subst e; omega
   ·exact (hi.done i d).2
  have g : ((k : Int)).toNat = k := by omega
  refine ⟨⟨?_, ?_, ?_, ?_, ⟨by show -1 ≤ (k : Int); omega, v⟩, ?_, ?_, ?_⟩, ?_⟩
  ·simp only [Ml, List.length_set]; exact hi.dlen
  ·simp only [Ml]; split
   ·rw [List.length_set]; exact hi.elen
   ·exact hi.elen
  ·have := hi.t0; show 0 ≤ s.t + 1; omega
  ·show s.t + 1 ≤ Ev + D6 (fun i => atI (s.done.set ((k : Int)).toNat (atI s.done (k : Int) + 1)) (i : Int)) jobs.length
   rw [g, a]; have := hi.t1; omega
  ·intro i d
   show 0 ≤ atI (s.done.set ((k : Int)).toNat (atI s.done (k : Int) + 1)) (i : Int) ∧ atI (s.done.set ((k : Int)).toNat (atI s.done (k : Int) + 1)) (i : Int) ≤ _
   rw [g, c]
   split
   ·rename_i e; subst e; omega
   ·exact hi.done i d
  ·show (if atI s.done (k : Int) + 1 = (atI jobs (k : Int)).work then s.left - 1 else s.left) = D6 (fun i => if atI (s.done.set ((k : Int)).toNat (atI s.done (k : Int) + 1)) (i : Int) < (atI jobs (i : Int)).work then 1 else 0) jobs.length
   rw [g, Zj (f := fun i => if atI s.done (i : Int) < (atI jobs (i : Int)).work then 1 else 0) (r := k) (fun i j => by rw [c, if_neg j]) o, ← hi.left, c, if_pos rfl, if_pos m]
   split
   ·rw [if_neg (by omega)]; omega
   ·rw [if_pos (by omega)]; omega
  ·show (((Gd s.L (k : Int) s.t).length : Nat) : Int) ≤ D6 (fun i => atI (s.done.set ((k : Int)).toNat (atI s.done (k : Int) + 1)) (i : Int)) jobs.length
   rw [g, a]
   have := Aix s.L k s.t
   have := hi.L
   omega
  ·show (Ev - (s.t + 1)).toNat + (G0 jobs - D6 (fun i => atI (s.done.set ((k : Int)).toNat (atI s.done (k : Int) + 1)) (i : Int)) jobs.length).toNat < (Ev - s.t).toNat + (G0 jobs - D6 (fun i => atI s.done (i : Int)) jobs.length).toNat
   rw [g, a]
   omega
theorem Zz {l : List Ab} {jobs : List Job} {e : Int} (hj : Qi l jobs) : ∀ {n m : Nat} {s : RS}, RsInv jobs s → Ez jobs s ≤ n → Ez jobs s ≤ m → Xx l jobs e n s = Xx l jobs e m s
 | 0, 0, s, _, _, _ => rfl
 | 0, m + 1, s, hi, h0, _ => by
  unfold Xx
  by_cases a : Pp e s
  ·have := (I0 hj hi a).2; omega
  ·rw [if_neg a]
 | n + 1, 0, s, hi, _, h0 => by
  unfold Xx
  by_cases a : Pp e s
  ·have := (I0 hj hi a).2; omega
  ·rw [if_neg a]
 | n + 1, m + 1, s, hi, h1, h2 => by
  unfold Xx
  by_cases a : Pp e s
  ·have c := I0 hj hi a
   rw [if_pos a, if_pos a]
   exact Zz hj c.1 (by omega) (by omega)
  ·rw [if_neg a, if_neg a]
def Bx (l : List Ab) (jobs : List Job) (e : Int) (s : RS) : RS := Xx l jobs e (Ez jobs s) s
theorem Q3 {l : List Ab} {jobs : List Job} {e : Int} {s : RS} (hj : Qi l jobs) (hi : RsInv jobs s) (ho : Pp e s) : Bx l jobs e s = Bx l jobs e (Ey l jobs s) := by
 have c := I0 hj hi ho
 unfold Bx
 obtain ⟨k, a⟩ : ∃ k, Ez jobs s = k + 1 := ⟨Ez jobs s - 1, by omega⟩
 rw [a]
 show (if Pp e s then Xx l jobs e k (Ey l jobs s) else s) = _
 rw [if_pos ho]
 exact Zz hj c.1 (by omega) (Nat.le_refl _)
theorem Kq {l : List Ab} {jobs : List Job} {e : Int} {s : RS} (ho : ¬ Pp e s) : Bx l jobs e s = s := by
 unfold Bx
 cases Ez jobs s with
 | zero => rfl
 | succ k => exact if_neg ho
theorem Ty {l : List Ab} {jobs : List Job} {e : Int} (hj : Qi l jobs) (p : RS → Prop) (hp : ∀ s, RsInv jobs s → Pp e s → p s → p (Ey l jobs s)) : ∀ {s : RS}, RsInv jobs s → p s → RsInv jobs (Bx l jobs e s) ∧ p (Bx l jobs e s) ∧ ¬ Pp e (Bx l jobs e s) := by
 have d : ∀ n (s : RS), Ez jobs s ≤ n → RsInv jobs s → p s → RsInv jobs (Bx l jobs e s) ∧ p (Bx l jobs e s) ∧ ¬ Pp e (Bx l jobs e s) := by
  intro n
  induction n with
  | zero =>
   intro s f c h
   by_cases a : Pp e s
   ·have := (I0 hj c a).2; omega
   ·rw [Kq a]; exact ⟨c, h, a⟩
  | succ n ih =>
   intro s f c h
   by_cases a : Pp e s
   ·have g := I0 hj c a
    rw [Q3 hj c a]
    exact ih _ (by omega) g.1 (hp s c a h)
   ·rw [Kq a]; exact ⟨c, h, a⟩
 intro s c h
 exact d _ s (Nat.le_refl _) c h
end Go.L.Try
