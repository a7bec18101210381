/- JOBS: cadencyref08.last, Few, Decode. -/
import Derived.Test.YtifnlcajancfdaaPa
import Derived.Test.YtifnlcajancfdaaVc
set_option linter.unusedVariables false
set_option linter.unusedSimpArgs false
set_option maxRecDepth 4000
set_option maxHeartbeats 1000000
namespace Go.L.Try
open Go Go.L
variable {E : Env}
end Go.L.Try
set_option maxRecDepth 100000
namespace Go.L.Try
open Go Go.L
variable {E : Env}
end Go.L.Try
set_option maxHeartbeats 2000000
namespace Go.L.Try
open Go Go.L
def Dq (q : Int) : List Int → Int → Bool
 | [], _ => true
 | c :: r, left => decide (1 ≤ c ∧ c ≤ q ∧ c ≤ left) && Dq q r (left - c)
def Eo (l : List Af) (jobs : List Job) (i : Nat) : Prop :=
 let j := atI jobs (i : Int)
 let t := atI l j.task
 let k := Dc jobs j.task i
 (0 ≤ j.task ∧ j.task < l.length) ∧ (0 ≤ j.arrive ∧ j.arrive ≤ 17592186044416) ∧ (0 ≤ k → (atI jobs k).arrive + t.T ≤ j.arrive) ∧ j.arrive ≤ j.release ∧ j.release ≤ j.arrive + t.J ∧ 1 ≤ j.work ∧ j.work ≤ t.C
instance (l : List Af) (jobs : List Job) (i : Nat) : Decidable (Eo l jobs i) := by unfold Eo; dsimp only; infer_instance
def Gf (l : List Af) (jobs : List Job) (i : Nat) : Bool := decide (Eo l jobs i) && Dq (atI l (atI jobs (i : Int)).task).Q (atI jobs (i : Int)).cuts (atI jobs (i : Int)).work
def Iu (l : List Af) (jobs : List Job) : Nat → Bool
 | 0 => true
 | n + 1 => Iu l jobs n && Gf l jobs n
def legalB (l : List Af) (jobs : List Job) : Bool := decide ((A0 l).2 = 0 ∧ jobs.length ≤ 4096) && Iu l jobs jobs.length
theorem Sd {l : List Af} {jobs : List Job} : ∀ {n : Nat}, Iu l jobs n = true → ∀ i, i < n → Gf l jobs i = true
 | 0, _, i, hi => by omega
 | n + 1, h, i, hi => by
  simp only [Iu, Bool.and_eq_true] at h
  rcases Nat.lt_or_ge i n with h1 | h1
  ·exact Sd h.1 i h1
  ·have : i = n := by omega
   subst this; exact h.2
theorem Aqf {l : List Af} {jobs : List Job} {n i : Nat} (hi : i < n) (h : Gf l jobs i = false) : Iu l jobs n = false := by
 cases hc : Iu l jobs n
 ·rfl
 ·rw [Sd hc i hi] at h; cases h
theorem Z1 {jobs : List Job} {task : Int} : ∀ {k i : Nat}, k ≤ i → Dc (jobs.take i) task k = Dc jobs task k
 | 0, i, _ => rfl
 | k + 1, i, h => by
  have e : atI (jobs.take i) (k : Int) = atI jobs (k : Int) := by
   unfold atI
   rw [List.getD_eq_getElem?_getD, List.getD_eq_getElem?_getD, List.getElem?_take, if_pos (by omega)]
  simp only [Dc, e, Z1 (k := k) (by omega : k ≤ i)]
theorem Pb {jobs : List Job} {task : Int} : ∀ {n : Nat}, 0 ≤ Dc jobs task n → (atI jobs (Dc jobs task n)).task = task
 | 0, h => by simp [Dc] at h
 | n + 1, h => by
  unfold Dc at h ⊢
  split
  ·assumption
  ·rename_i a; rw [if_neg a] at h; exact Pb h
end Go.L.Try
namespace Go.L.Try
open Go Go.L
def A7 : List Int → Int → Int → Bool
 | [], _, _ => false
 | c :: r, a, d => decide (a < d ∧ d < a + c) || A7 r (a + c) d
def Bp (l : List Af) (jobs : List Job) (done : List Int) (t : Int) : Nat → Int
| 0 => -1
| n+1 => if (atI jobs n).release ≤ t ∧ atI done n < (atI jobs n).work ∧ (Bp l jobs done t n < 0 ∨ (atI l (atI jobs n).task).P < (atI l (atI jobs (Bp l jobs done t n)).task).P) then n else Bp l jobs done t n
theorem N6 (l : List Af) (jobs : List Job) (done : List Int) (t : Int) : ∀ n, -1 ≤ Bp l jobs done t n ∧ Bp l jobs done t n < n
| 0 => by simp [Bp]
| n+1 => by have := N6 l jobs done t n; unfold Bp; split <;> omega
end Go.L.Try
namespace Go.L.Try
open Go Go.L
def Df (f : Nat → Int) : Nat → Int
 | 0 => 0
 | n + 1 => Df f n + f n
theorem Si {f g : Nat → Int} : ∀ {n : Nat}, (∀ i, i < n → g i = f i) → Df g n = Df f n
 | 0, _ => rfl
 | n + 1, h => by simp only [Df]; rw [Si (n := n) fun i a => h i (by omega), h n (by omega)]
theorem Yp {f g : Nat → Int} {r : Nat} : ∀ {n : Nat}, (∀ i, i ≠ r → g i = f i) → r < n → Df g n = Df f n + (g r - f r)
 | 0, _, h => by omega
 | n + 1, h, hr => by
  simp only [Df]
  by_cases e : r = n
  ·subst e
   rw [Si (f := f) (g := g) fun i a => h i (by omega)]; omega
  ·rw [Yp h (by omega), h n (fun h => e h.symm)]; omega
theorem Ox {f g : Nat → Int} : ∀ {n : Nat}, (∀ i, i < n → f i ≤ g i) → Df f n ≤ Df g n
 | 0, _ => Int.le_refl _
 | n + 1, h => by have := Ox (n := n) fun i a => h i (by omega); have := h n (by omega); simp only [Df]; omega
theorem Vq : ∀ {n : Nat}, Df (fun _ => 0) n = 0
 | 0 => rfl
 | n + 1 => by simp only [Df, Vq (n := n)]; rfl
theorem Wv {f : Nat → Int} {n : Nat} (h : ∀ i, i < n → 0 ≤ f i) : 0 ≤ Df f n := by
 have := Ox (f := fun _ => 0) (g := f) (n := n) h; rw [Vq] at this; exact this
theorem Yq {f : Nat → Int} : ∀ {n : Nat}, 0 < Df f n → ∃ i, i < n ∧ 0 < f i
 | 0, h => by simp [Df] at h
 | n + 1, h => by
  simp only [Df] at h
  by_cases e : 0 < f n
  ·exact ⟨n, by omega, e⟩
  ·obtain ⟨i, c, a⟩ := Yq (f := f) (n := n) (by omega); exact ⟨i, by omega, a⟩
theorem Sv {α : Type} [Inhabited α] {l : List α} {r : Nat} {x : α} (hr : r < l.length) (i : Nat) : atI (l.set r x) (i : Int) = if i = r then x else atI l (i : Int) := by
 unfold atI
 rw [List.getD_eq_getElem?_getD, List.getD_eq_getElem?_getD, show ((i : Int)).toNat = i by omega, List.getElem?_set]
 by_cases e : i = r
 ·subst e; simp [hr]
 ·rw [if_neg (fun h => e h.symm), if_neg e]
structure RS where
 t : Int
 runs : Int
 done : List Int
 ends : List Int
 left : Int
 L : List Span
def rsRuns (l : List Af) (jobs : List Job) (s : RS) : Int :=
 if s.runs < 0 ∨ A7 (atI jobs s.runs).cuts 0 (atI s.done s.runs) = false then Bp l jobs s.done s.t jobs.length else s.runs
def Ct (L : List Span) (r t : Int) : List Span :=
 if 0 < (L.length : Int) ∧ (atI L ((L.length : Int) - 1)).job = r ∧ (atI L ((L.length : Int) - 1)).to' = t then L.set ((L.length : Int) - 1).toNat { atI L ((L.length : Int) - 1) with to' := (atI L ((L.length : Int) - 1)).to' + 1 } else L ++ [⟨r, t, t + 1⟩]
def Jw (jobs : List Job) (s : RS) (r : Int) : RS :=
 {t := s.t + 1, runs := r, done := s.done.set r.toNat (atI s.done r + 1), L := Ct s.L r s.t,
  ends := if atI s.done r + 1 = (atI jobs r).work then s.ends.set r.toNat (s.t + 1) else s.ends,
  left := if atI s.done r + 1 = (atI jobs r).work then s.left - 1 else s.left }
def Ep (l : List Af) (jobs : List Job) (s : RS) : RS :=
 if rsRuns l jobs s < 0 then { s with t := s.t + 1, runs := rsRuns l jobs s } else Jw jobs s (rsRuns l jobs s)
def Kh (e : Int) (s : RS) : Prop := 0 < s.left ∧ (e < 0 ∨ s.t < e)
instance (e : Int) (s : RS) : Decidable (Kh e s) := by unfold Kh; infer_instance
def Q5 (l : List Af) (jobs : List Job) (e : Int) : Nat → RS → RS
 | 0, s => s
 | n + 1, s => if Kh e s then Q5 l jobs e n (Ep l jobs s) else s
def Dp (n : Nat) : RS := ⟨0, -1, List.replicate n 0, List.replicate n (-1), n, []⟩
def Dg : Int := 17594333528064
structure Ke (l : List Af) (jobs : List Job) : Prop where
 task : ∀ j ∈ jobs, 0 ≤ j.task ∧ j.task < l.length
 rel : ∀ j ∈ jobs, 0 ≤ j.release ∧ j.release < Dg
 work : ∀ j ∈ jobs, 1 ≤ j.work ∧ j.work ≤ 2147483647
 cuts : ∀ j ∈ jobs, ∃ q, Dq q j.cuts j.work = true
structure RsInv (jobs : List Job) (s : RS) : Prop where
 dlen : s.done.length = jobs.length
 elen : s.ends.length = jobs.length
 t0 : 0 ≤ s.t
 t1 : s.t ≤ Dg + Df (fun i => atI s.done (i : Int)) jobs.length
 runs : -1 ≤ s.runs ∧ s.runs < jobs.length
 done : ∀ i : Nat, i < jobs.length → 0 ≤ atI s.done (i : Int) ∧ atI s.done (i : Int) ≤ (atI jobs (i : Int)).work
 left : s.left = Df (fun i => if atI s.done (i : Int) < (atI jobs (i : Int)).work then 1 else 0) jobs.length
 L : (s.L.length : Int) ≤ Df (fun i => atI s.done (i : Int)) jobs.length
def B9 (jobs : List Job) : Int := Df (fun i => (atI jobs (i : Int)).work) jobs.length
def Ed (jobs : List Job) (s : RS) : Nat := (Dg - s.t).toNat + (B9 jobs - Df (fun i => atI s.done (i : Int)) jobs.length).toNat
theorem RsInv.sum {jobs : List Job} {s : RS} (h : RsInv jobs s) : 0 ≤ Df (fun i => atI s.done (i : Int)) jobs.length ∧ Df (fun i => atI s.done (i : Int)) jobs.length ≤ B9 jobs :=
 ⟨Wv fun i hi => (h.done i hi).1, Ox fun i hi => (h.done i hi).2⟩
theorem Yr : ∀ n : Nat, Df (fun _ => 1) n = n
 | 0 => rfl
 | n + 1 => by simp only [Df, Yr n]; omega
theorem RsInv.left_le {jobs : List Job} {s : RS} (h : RsInv jobs s) : s.left ≤ jobs.length := by
 rw [h.left, ← Yr]
 exact Ox fun i _ => by split <;> omega
theorem Jx (jobs : List Job) (hw : ∀ j ∈ jobs, 1 ≤ j.work ∧ j.work ≤ 2147483647) : RsInv jobs (Dp jobs.length) := by
 have c : ∀ i : Nat, i < jobs.length → atI (List.replicate jobs.length (0 : Int)) (i : Int) = 0 := fun i a => by
  rw [Ax (by simpa using a)]; simp
 have d : Df (fun i => atI (List.replicate jobs.length (0 : Int)) (i : Int)) jobs.length = 0 := by
  rw [Si (f := fun _ => 0) c, Vq]
 refine ⟨by simp [Dp], by simp [Dp], Int.le_refl _, ?_, ⟨by simp [Dp], by simp [Dp]; omega⟩, fun i a => ?_, ?_, ?_⟩
 ·show (0 : Int) ≤ Dg + Df (fun i => atI (List.replicate jobs.length (0 : Int)) (i : Int)) jobs.length
  rw [d]; decide
 ·show 0 ≤ atI (List.replicate jobs.length (0 : Int)) (i : Int) ∧ atI (List.replicate jobs.length (0 : Int)) (i : Int) ≤ _
  rw [c i a]
  have := (hw _ (Aj (l := jobs) (i := i) (by omega) (by omega))).1
  omega
 ·show (jobs.length : Int) = Df (fun i => if atI (List.replicate jobs.length (0 : Int)) (i : Int) < (atI jobs (i : Int)).work then 1 else 0) jobs.length
  rw [Si (f := fun _ => 1) fun i a => by
   have := (hw _ (Aj (l := jobs) (i := i) (by omega) (by omega))).1
   rw [c i a, if_pos (by omega)]]
  have : ∀ n : Nat, (n : Int) = Df (fun _ => 1) n := by
   intro n
   induction n with
   | zero => rfl
   | succ n ih => simp only [Df]; omega
  exact this _
 ·show ((List.length ([] : List Span) : Nat) : Int) ≤ Df (fun i => atI (List.replicate jobs.length (0 : Int)) (i : Int)) jobs.length
  rw [d]; decide
theorem Vn {q : Int} : ∀ {cuts : List Int} {w a d : Int}, Dq q cuts w = true → A7 cuts a d = true → d < a + w
 | [], w, a, d, _, h => by simp [A7] at h
 | c :: r, w, a, d, h1, h2 => by
  simp only [Dq, Bool.and_eq_true, decide_eq_true_eq] at h1
  simp only [A7, Bool.or_eq_true, decide_eq_true_eq] at h2
  rcases h2 with h2 | h2
  ·omega
  ·have := Vn h1.2 h2; omega
theorem O6 {l : List Af} {jobs : List Job} {done : List Int} {t : Int} : ∀ {n : Nat}, 0 ≤ Bp l jobs done t n → (atI jobs (Bp l jobs done t n)).release ≤ t ∧ atI done (Bp l jobs done t n) < (atI jobs (Bp l jobs done t n)).work
 | 0, h => by simp [Bp] at h
 | n + 1, h => by
  unfold Bp at h ⊢
  split
  ·rename_i a; exact ⟨a.1, a.2.1⟩
  ·rename_i a
   rw [if_neg a] at h
   exact O6 h
theorem Zc {l : List Af} {jobs : List Job} {done : List Int} {t : Int} : ∀ {n : Nat}, Bp l jobs done t n < 0 → ∀ i : Nat, i < n → ¬ ((atI jobs (i : Int)).release ≤ t ∧ atI done (i : Int) < (atI jobs (i : Int)).work)
 | 0, _, i, hi => by omega
 | n + 1, h, i, hi => by
  unfold Bp at h
  split at h
  ·omega
  ·rename_i c
   rintro ⟨a, h2⟩
   rcases Nat.lt_or_ge i n with hlt | hge
   ·exact Zc h i hlt ⟨a, h2⟩
   ·have : i = n := by omega
    subst this
    exact c ⟨a, h2, .inl h⟩
theorem Ab5 {l : List Af} {jobs : List Job} {s : RS} (hj : Ke l jobs) (hi : RsInv jobs s) : -1 ≤ rsRuns l jobs s ∧ rsRuns l jobs s < jobs.length ∧ (0 ≤ rsRuns l jobs s → atI s.done (rsRuns l jobs s) < (atI jobs (rsRuns l jobs s)).work) := by
 unfold rsRuns
 split
 ·have := N6 l jobs s.done s.t jobs.length
  exact ⟨this.1, this.2, fun h => (O6 h).2⟩
 ·rename_i e
  have d : 0 ≤ s.runs := by omega
  have c : A7 (atI jobs s.runs).cuts 0 (atI s.done s.runs) = true := by simpa using fun h => e (.inr h)
  refine ⟨by omega, hi.runs.2, fun _ => ?_⟩
  obtain ⟨q, a⟩ := hj.cuts _ (Aj d hi.runs.2)
  have := Vn a c; omega
theorem Xg (L : List Span) (r t : Int) : (Ct L r t).length ≤ L.length + 1 := by unfold Ct; split <;> simp
theorem Fo {l : List Af} {jobs : List Job} {s : RS} {e : Int} (hj : Ke l jobs) (hi : RsInv jobs s) (ho : Kh e s) : RsInv jobs (Ep l jobs s) ∧ Ed jobs (Ep l jobs s) < Ed jobs s := by
 obtain ⟨r1, v, x⟩ := Ab5 hj hi
 unfold Ep
 split
 ·rename_i n
  have m : s.t < Dg := by
   have := ho.1
   rw [hi.left] at this
   obtain ⟨i, g, hp⟩ := Yq this
   split at hp
   ·rename_i hd
    have p : Bp l jobs s.done s.t jobs.length < 0 := by
     unfold rsRuns at n
     split at n
     ·exact n
     ·rename_i hc; omega
    have h1 := Zc p i g
    have h2 := (hj.rel _ (Aj (l := jobs) (i := i) (by omega) (by omega))).2
    omega
   ·omega
  have hs := hi.sum
  refine ⟨⟨hi.dlen, hi.elen, by have := hi.t0; show 0 ≤ s.t + 1; omega, ?_, ⟨r1, v⟩, hi.done, hi.left, hi.L⟩, ?_⟩
  ·show s.t + 1 ≤ Dg + Df (fun i => atI s.done (i : Int)) jobs.length
   omega
  ·show (Dg - (s.t + 1)).toNat + (B9 jobs - Df (fun i => atI s.done (i : Int)) jobs.length).toNat < (Dg - s.t).toNat + (B9 jobs - Df (fun i => atI s.done (i : Int)) jobs.length).toNat
   omega
 ·rename_i n
  generalize hrr : rsRuns l jobs s = r at *
  have y : 0 ≤ r := by omega
  have m := x y
  obtain ⟨k, rfl⟩ : ∃ k : Nat, r = k := ⟨r.toNat, by omega⟩
  have o : k < jobs.length := by omega
  have u : k < s.done.length := by rw [hi.dlen]; exact o
  have c : ∀ i : Nat, atI (s.done.set k (atI s.done (k : Int) + 1)) (i : Int) = if i = k then atI s.done (k : Int) + 1 else atI s.done (i : Int) := fun i => Sv u i
  have a : Df (fun i => atI (s.done.set k (atI s.done (k : Int) + 1)) (i : Int)) jobs.length = Df (fun i => atI s.done (i : Int)) jobs.length + 1 := by
   rw [Yp (f := fun i => atI s.done (i : Int)) (r := k) (fun i j => by rw [c, if_neg j]) o, c, if_pos rfl]; omega
  have hs := hi.sum
  have hb := hi.done k o
  have z : Df (fun i => atI s.done (i : Int)) jobs.length + 1 ≤ B9 jobs := by
   rw [← a]
   refine Ox fun i g => ?_
   rw [c]
   split
   ·rename_i e; subst e; omega
   ·exact (hi.done i g).2
  have d : ((k : Int)).toNat = k := by omega
  refine ⟨⟨?_, ?_, ?_, ?_, ⟨by show -1 ≤ (k : Int); omega, v⟩, ?_, ?_, ?_⟩, ?_⟩
  ·simp only [Jw, List.length_set]; exact hi.dlen
  ·simp only [Jw]; split
   ·rw [List.length_set]; exact hi.elen
   ·exact hi.elen
  ·have := hi.t0; show 0 ≤ s.t + 1; omega
  ·show s.t + 1 ≤ Dg + Df (fun i => atI (s.done.set ((k : Int)).toNat (atI s.done (k : Int) + 1)) (i : Int)) jobs.length
   rw [d, a]; have := hi.t1; omega
  ·intro i g
   show 0 ≤ atI (s.done.set ((k : Int)).toNat (atI s.done (k : Int) + 1)) (i : Int) ∧ atI (s.done.set ((k : Int)).toNat (atI s.done (k : Int) + 1)) (i : Int) ≤ _
   rw [d, c]
   split
   ·rename_i e; subst e; omega
   ·exact hi.done i g
  ·show (if atI s.done (k : Int) + 1 = (atI jobs (k : Int)).work then s.left - 1 else s.left) = Df (fun i => if atI (s.done.set ((k : Int)).toNat (atI s.done (k : Int) + 1)) (i : Int) < (atI jobs (i : Int)).work then 1 else 0) jobs.length
   rw [d, Yp (f := fun i => if atI s.done (i : Int) < (atI jobs (i : Int)).work then 1 else 0) (r := k) (fun i j => by rw [c, if_neg j]) o, ← hi.left, c, if_pos rfl, if_pos m]
   split
   ·rw [if_neg (by omega)]; omega
   ·rw [if_pos (by omega)]; omega
  ·show (((Ct s.L (k : Int) s.t).length : Nat) : Int) ≤ Df (fun i => atI (s.done.set ((k : Int)).toNat (atI s.done (k : Int) + 1)) (i : Int)) jobs.length
   rw [d, a]
   have := Xg s.L k s.t
   have := hi.L
   omega
  ·show (Dg - (s.t + 1)).toNat + (B9 jobs - Df (fun i => atI (s.done.set ((k : Int)).toNat (atI s.done (k : Int) + 1)) (i : Int)) jobs.length).toNat < (Dg - s.t).toNat + (B9 jobs - Df (fun i => atI s.done (i : Int)) jobs.length).toNat
   rw [d, a]
   omega
theorem Y5 {l : List Af} {jobs : List Job} {e : Int} (hj : Ke l jobs) : ∀ {n m : Nat} {s : RS}, RsInv jobs s → Ed jobs s ≤ n → Ed jobs s ≤ m → Q5 l jobs e n s = Q5 l jobs e m s
 | 0, 0, s, _, _, _ => rfl
 | 0, m + 1, s, hi, h0, _ => by
  unfold Q5
  by_cases a : Kh e s
  ·have := (Fo hj hi a).2; omega
  ·rw [if_neg a]
 | n + 1, 0, s, hi, _, h0 => by
  unfold Q5
  by_cases a : Kh e s
  ·have := (Fo hj hi a).2; omega
  ·rw [if_neg a]
 | n + 1, m + 1, s, hi, h1, h2 => by
  unfold Q5
  by_cases a : Kh e s
  ·have c := Fo hj hi a
   rw [if_pos a, if_pos a]
   exact Y5 hj c.1 (by omega) (by omega)
  ·rw [if_neg a, if_neg a]
def Bb (l : List Af) (jobs : List Job) (e : Int) (s : RS) : RS := Q5 l jobs e (Ed jobs s) s
theorem My {l : List Af} {jobs : List Job} {e : Int} {s : RS} (hj : Ke l jobs) (hi : RsInv jobs s) (ho : Kh e s) : Bb l jobs e s = Bb l jobs e (Ep l jobs s) := by
 have c := Fo hj hi ho
 unfold Bb
 obtain ⟨k, a⟩ : ∃ k, Ed jobs s = k + 1 := ⟨Ed jobs s - 1, by omega⟩
 rw [a]
 show (if Kh e s then Q5 l jobs e k (Ep l jobs s) else s) = _
 rw [if_pos ho]
 exact Y5 hj c.1 (by omega) (Nat.le_refl _)
theorem Ij {l : List Af} {jobs : List Job} {e : Int} {s : RS} (ho : ¬ Kh e s) : Bb l jobs e s = s := by
 unfold Bb
 cases Ed jobs s with
 | zero => rfl
 | succ k => exact if_neg ho
theorem Ow {l : List Af} {jobs : List Job} {e : Int} (hj : Ke l jobs) (p : RS → Prop) (hp : ∀ s, RsInv jobs s → Kh e s → p s → p (Ep l jobs s)) : ∀ {s : RS}, RsInv jobs s → p s → RsInv jobs (Bb l jobs e s) ∧ p (Bb l jobs e s) ∧ ¬ Kh e (Bb l jobs e s) := by
 have d : ∀ n (s : RS), Ed jobs s ≤ n → RsInv jobs s → p s → RsInv jobs (Bb l jobs e s) ∧ p (Bb l jobs e s) ∧ ¬ Kh e (Bb l jobs e s) := by
  intro n
  induction n with
  | zero =>
   intro s f a h
   by_cases c : Kh e s
   ·have := (Fo hj a c).2; omega
   ·rw [Ij c]; exact ⟨a, h, c⟩
  | succ n ih =>
   intro s f a h
   by_cases c : Kh e s
   ·have g := Fo hj a c
    rw [My hj a c]
    exact ih _ (by omega) g.1 (hp s a c h)
   ·rw [Ij c]; exact ⟨a, h, c⟩
 intro s a h
 exact d _ s (Nat.le_refl _) a h
end Go.L.Try
