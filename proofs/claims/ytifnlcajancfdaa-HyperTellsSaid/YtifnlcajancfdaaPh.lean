/- THE EXECUTIVE, PLAIN: what it does, step by step, is what the document's machine does tick by tick. -/
import Derived.Test.YtifnlcajancfdaaPb
import Derived.Test.YtifnlcajancfdaaPa
set_option linter.unusedVariables false
set_option linter.unusedSimpArgs false
set_option maxRecDepth 100000
set_option maxHeartbeats 1000000
namespace Go.L.Try
open Go Go.L
structure XS where
 coming : List Nat
 now : Int
 spans : List Span
 ends : List Int
 running : Option Nat
 Q : Int → Option (List Nat)
 ready : List Int
 left : Nat → Int
 sec : Nat → Int
 cuts : Nat → List Int
def XS.q (s : XS) (t : Int) : List Nat := (s.Q t).getD []
def at1 {α β : Type} [DecidableEq α] (f : α → β) (a : α) (b : β) : α → β := fun x => if x = a then b else f x
theorem Ao {α β : Type} [DecidableEq α] {f : α → β} {a : α} {b : β} : at1 f a b a = b := if_pos rfl
theorem By {α β : Type} [DecidableEq α] {f : α → β} {a x : α} {b : β} (h : x ≠ a) : at1 f a b x = f x := if_neg h
abbrev jb (jobs : List Job) (i : Nat) : Job := atI jobs (i : Int)
def Ee (jobs : List Job) (s : XS) (i : Nat) (r : List Nat) : XS :=
 { s with coming := r, Q := at1 s.Q (jb jobs i).task (some (s.q (jb jobs i).task ++ [i])), ready := if s.q (jb jobs i).task = [] then (jb jobs i).task :: s.ready else s.ready, left := at1 s.left i (jb jobs i).work, sec := at1 s.sec i 0, cuts := at1 s.cuts i (jb jobs i).cuts }
def back (jobs : List Job) (s : XS) : XS := match s.running with
 | some i => { s with running := none, ready := (jb jobs i).task :: s.ready }
 | none => s
def chosen (s : XS) (rd : List Int) (i : Nat) : XS := match s.cuts i with
 | [] => { s with ready := rd, running := some i }
 | c :: cs => { s with ready := rd, running := some i, sec := at1 s.sec i c, cuts := at1 s.cuts i cs }
def Dh (L : List Span) (r t n : Int) : List Span :=
 if 0 < (L.length : Int) ∧ (atI L ((L.length : Int) - 1)).job = r ∧ (atI L ((L.length : Int) - 1)).to' = t then L.set ((L.length : Int) - 1).toNat { atI L ((L.length : Int) - 1) with to' := (atI L ((L.length : Int) - 1)).to' + n } else L ++ [⟨r, t, t + n⟩]
def Ou (jobs : List Job) (s : XS) (i : Nat) (n : Int) : XS :=
 if s.left i - n = 0 then
  { s with now := s.now + n, spans := Dh s.spans i s.now n, left := at1 s.left i (s.left i - n), sec := at1 s.sec i (max (s.sec i - n) 0), ends := s.ends.set i (s.now + n), running := none, Q := at1 s.Q (jb jobs i).task (some (s.q (jb jobs i).task).tail), ready := if (s.q (jb jobs i).task).tail = [] then s.ready else (jb jobs i).task :: s.ready }
 else { s with now := s.now + n, spans := Dh s.spans i s.now n, left := at1 s.left i (s.left i - n), sec := at1 s.sec i (max (s.sec i - n) 0) }
def Ei (jobs : List Job) (s : XS) : Int := match s.coming with
 | [] => 9223372036854775807
 | i :: _ => (jb jobs i).release
def Ju (l : List Int) : Int := l.foldr (· + ·) 0
theorem Ud (a b : List Int) : Ju (a ++ b) = Ju a + Ju b := by
 induction a with
 | nil => simp [Ju]
 | cons x r ih => simp only [Ju, List.cons_append, List.foldr_cons] at ih ⊢; omega
theorem Lu (a : Int) (b : List Int) : Ju (a :: b) = a + Ju b := rfl
theorem Ys : Ju [] = 0 := rfl
structure CutInv (cs : List Int) (done sec : Int) (rem : List Int) : Prop where
 is : ∃ pre, cs = pre ++ rem ∧ ((done + sec = Ju pre) ∨ (rem = [] ∧ sec = 0 ∧ Ju pre ≤ done)) ∧ (0 < sec → ∃ pre' c, pre = pre' ++ [c] ∧ sec ≤ c)
 nn : 0 ≤ sec
theorem Aak {q : Int} : ∀ {cs : List Int} {w : Int}, Dq q cs w = true → ∀ c ∈ cs, 1 ≤ c
 | [], _, _, c, hc => by cases hc
 | x :: r, w, h, c, hc => by
  simp only [Dq, Bool.and_eq_true, decide_eq_true_eq] at h
  rcases List.mem_cons.1 hc with rfl | hc
  ·exact h.1.1
  ·exact Aak h.2 c hc
theorem Mz {l : List Int} (h : ∀ c ∈ l, 1 ≤ c) : 0 ≤ Ju l := by
 induction l with
 | nil => exact Int.le_refl _
 | cons x r ih => have := h x (by simp); have := ih fun c a => h c (by simp [a]); rw [Lu]; omega
theorem Td (pre rest : List Int) (a d : Int) : A7 (pre ++ rest) a d = (A7 pre a d || A7 rest (a + Ju pre) d) := by
 induction pre generalizing a with
 | nil => simp [A7, Ys]
 | cons x r ih => simp only [List.cons_append, A7, ih, Lu, Bool.or_assoc]; congr 2; rw [Int.add_assoc]
theorem Adb {l : List Int} {a d : Int} (h : ∀ c ∈ l, 1 ≤ c) (hd : d ≤ a) : A7 l a d = false := by
 induction l generalizing a with
 | nil => rfl
 | cons x r ih => have := h x (by simp); simp only [A7, Bool.or_eq_false_iff, decide_eq_false_iff_not]; exact ⟨by omega, ih (fun c e => h c (by simp [e])) (by omega)⟩
theorem Ov {l : List Int} {a d : Int} (h : ∀ c ∈ l, 1 ≤ c) (hd : a + Ju l ≤ d) : A7 l a d = false := by
 induction l generalizing a with
 | nil => rfl
 | cons x r ih =>
  rw [Lu] at hd
  have f := h x (by simp)
  have := Mz fun c e => h c (List.mem_cons_of_mem x e)
  simp only [A7, Bool.or_eq_false_iff, decide_eq_false_iff_not]; exact ⟨by omega, ih (fun c e => h c (by simp [e])) (by omega)⟩
theorem CutInv.out {cs : List Int} {done sec : Int} {rem : List Int} (h : CutInv cs done sec rem) (hc : ∀ c ∈ cs, 1 ≤ c) (h0 : sec = 0) : A7 cs 0 done = false := by
 obtain ⟨pre, rfl, a, h2⟩ := h.is
 rw [Td, Bool.or_eq_false_iff, Int.zero_add]
 rcases a with a | ⟨rfl, _, a⟩
 ·exact ⟨Ov (fun c h => hc c (by simp [h])) (by omega), Adb (fun c h => hc c (by simp [h])) (by omega)⟩
 ·exact ⟨Ov (fun c h => hc c (by simp [h])) (by omega), rfl⟩
theorem CutInv.in_ {cs : List Int} {done sec : Int} {rem : List Int} (h : CutInv cs done sec rem) (h0 : 0 < sec) {k : Int} (hk : 0 < k) (hk2 : k < sec) : A7 cs 0 (done + k) = true := by
 obtain ⟨pre, rfl, a, h2⟩ := h.is
 obtain ⟨pre', c, rfl, d⟩ := h2 h0
 rw [Td, Td]
 rcases a with a | ⟨_, a, _⟩
 ·rw [Ud, Lu, Ys] at a
  have : A7 [c] (0 + Ju pre') (done + k) = true := by simp only [A7, Bool.or_false, decide_eq_true_eq]; omega
  rw [this]; simp
 ·omega
theorem CutInv.work {cs : List Int} {done sec : Int} {rem : List Int} (h : CutInv cs done sec rem) {n : Int} (hn : 0 < n) (hh : n ≤ sec ∨ (sec = 0 ∧ rem = [])) : CutInv cs (done + n) (max (sec - n) 0) rem := by
 obtain ⟨pre, e, a, h2⟩ := h.is
 have m := h.nn
 refine ⟨⟨pre, e, ?_, fun j => ?_⟩, by omega⟩
 ·rcases hh with hh | ⟨hh, d⟩
  ·rcases a with a | ⟨_, a, _⟩
   ·left; omega
   ·omega
  ·right
   refine ⟨d, by omega, ?_⟩
   rcases a with a | ⟨_, _, a⟩ <;> omega
 ·obtain ⟨g, c, f, l⟩ := h2 (by omega)
  exact ⟨g, c, f, by omega⟩
theorem CutInv.next {cs : List Int} {done c : Int} {rem : List Int} (h : CutInv cs done 0 (c :: rem)) (hc : 0 ≤ c) : CutInv cs done c rem := by
 obtain ⟨pre, e, a, h2⟩ := h.is
 refine ⟨⟨pre ++ [c], by simp [e], .inl ?_, fun _ => ⟨pre, c, rfl, Int.le_refl _⟩⟩, hc⟩
 rw [Ud, Lu, Ys]
 rcases a with a | ⟨a, _⟩
 ·omega
 ·cases a
theorem CutInv.new (cs : List Int) : CutInv cs 0 0 cs := ⟨⟨[], rfl, .inl rfl, fun h => absurd h (by decide)⟩, Int.le_refl _⟩
theorem Aia (L : List Span) (r t : Int) : Ct L r t = Dh L r t 1 := rfl
theorem Aa0 {α : Type} [Inhabited α] (L : List α) (x : α) : atI (L ++ [x]) (((L ++ [x]).length : Int) - 1) = x := by
 unfold atI
 rw [List.getD_eq_getElem?_getD, LA, List.length_singleton, show (((L.length + 1 : Nat) : Int) - 1).toNat = L.length by omega, List.getElem?_append_right (Nat.le_refl _), Nat.sub_self]; rfl
theorem Aef {α : Type} [Inhabited α] {L : List α} (x : α) (h : 0 < (L.length : Int)) : atI (L.set ((L.length : Int) - 1).toNat x) ((L.length : Int) - 1) = x := by
 unfold atI
 rw [List.getD_eq_getElem?_getD, List.getElem?_set_self (by omega)]; rfl
theorem Aei (L : List Span) (r t k : Int) : Ct (Dh L r t k) r (t + k) = Dh L r t (k + 1) := by
 unfold Dh
 split
 ·rename_i h
  obtain ⟨a, h2, c⟩ := h
  unfold Ct
  rw [List.length_set, Aef _ a, if_pos ⟨a, h2, by show (atI L ((L.length : Int) - 1)).to' + k = t + k; omega⟩, List.set_set]
  congr 1
  simp only [Span.mk.injEq, true_and]; omega
 ·unfold Ct
  rw [Aa0, if_pos ⟨by simp, rfl, rfl⟩]
  rw [LA, List.length_singleton, show (((L.length + 1 : Nat) : Int) - 1).toNat = L.length by omega, List.set_append_right _ _ (Nat.le_refl _), Nat.sub_self]
  simp only [List.set_cons_zero]
  congr 3
  omega
def rsK (jobs : List Job) (r : RS) (i : Nat) (k : Nat) : RS :=
 {t := r.t + k, runs := if k = 0 then r.runs else i, done := r.done.set i (atI r.done (i : Int) + k), L := if k = 0 then r.L else Dh r.L i r.t k,
  ends := if atI r.done (i : Int) + k = (jb jobs i).work then r.ends.set i (r.t + k) else r.ends,
  left := if atI r.done (i : Int) + k = (jb jobs i).work then r.left - 1 else r.left }
theorem Ae5 {l : List Int} {i : Nat} (h : i < l.length) : l.set i (atI l (i : Int)) = l := by
 rw [Ax h]; exact List.set_getElem_self h
theorem Afi {jobs : List Job} {r : RS} {i : Nat} (hi : i < r.done.length) (h : atI r.done (i : Int) ≠ (jb jobs i).work) : rsK jobs r i 0 = r := by
 unfold rsK
 rw [show ((0 : Nat) : Int) = 0 from rfl, Int.add_zero, Int.add_zero, if_pos rfl, if_pos rfl, if_neg h, if_neg h, Ae5 hi]
theorem Arj {jobs : List Job} {r : RS} {i k : Nat} (hi : i < r.done.length) (h : atI r.done (i : Int) + k < (jb jobs i).work) : Jw jobs (rsK jobs r i k) i = rsK jobs r i (k + 1) := by
 have f : atI (rsK jobs r i k).done (i : Int) = atI r.done (i : Int) + k := by
  show atI (r.done.set i (atI r.done (i : Int) + k)) (i : Int) = _
  rw [Sv hi, if_pos rfl]
 unfold Jw
 rw [f]
 have g : (rsK jobs r i k).ends = r.ends := by show (if _ then _ else _) = _; rw [if_neg (by omega)]
 have c : (rsK jobs r i k).left = r.left := by show (if _ then _ else _) = _; rw [if_neg (by omega)]
 have l : (rsK jobs r i k).t = r.t + k := rfl
 have j : ((i : Int)).toNat = i := by omega
 rw [g, c, l, j]
 unfold rsK
 simp only [List.set_set]
 have e : r.t + (k : Int) + 1 = r.t + ((k + 1 : Nat) : Int) := by omega
 have d : atI r.done (i : Int) + (k : Int) + 1 = atI r.done (i : Int) + ((k + 1 : Nat) : Int) := by omega
 rw [e, d, if_neg (Nat.succ_ne_zero k)]
 have m : Ct (if k = 0 then r.L else Dh r.L i r.t k) i (r.t + k) = if k + 1 = 0 then r.L else Dh r.L i r.t ((k + 1 : Nat) : Int) := by
  rw [if_neg (Nat.succ_ne_zero k)]
  by_cases a : k = 0
  ·subst a; rw [if_pos rfl, Aia]; congr 1; simp
  ·rw [if_neg a, Aei]; congr 1
 rw [m]
theorem Akz {l : List Af} {jobs : List Job} {e : Int} (hj : Ke l jobs) {r : RS} (hi : RsInv jobs r) {i : Nat} (hin : i < jobs.length) :
  ∀ n : Nat, (∀ k : Nat, k < n → Kh e (rsK jobs r i k) ∧ rsRuns l jobs (rsK jobs r i k) = i ∧ atI r.done (i : Int) + k < (jb jobs i).work) → atI r.done (i : Int) < (jb jobs i).work →
   RsInv jobs (rsK jobs r i n) ∧ Bb l jobs e r = Bb l jobs e (rsK jobs r i n) ∧ Ed jobs (rsK jobs r i n) + n ≤ Ed jobs r
 | 0, _, h0 => by rw [Afi (by rw [hi.dlen]; exact hin) (by omega)]; exact ⟨hi, rfl, Nat.le_refl _⟩
 | n + 1, h, h0 => by
  obtain ⟨c, h2, o⟩ := Akz hj hi hin n (fun k p => h k (by omega)) h0
  obtain ⟨d, g, j⟩ := h n (by omega)
  have m : Ep l jobs (rsK jobs r i n) = rsK jobs r i (n + 1) := by
   unfold Ep
   rw [g, if_neg (by omega), Arj (by rw [hi.dlen]; exact hin) j]
  have f := Fo hj c d
  have a := My hj c d
  rw [m] at f a
  exact ⟨f.1, h2.trans a, by omega⟩
theorem Adn {l : List Af} {jobs : List Job} {e : Int} (hj : Ke l jobs) {r : RS} (hi : RsInv jobs r) (hr : r.runs < 0 ∨ A7 (atI jobs r.runs).cuts 0 (atI r.done r.runs) = false) :
  ∀ n : Nat, (∀ k : Nat, k < n → (e < 0 ∨ r.t + k < e) ∧ 0 < r.left ∧ Bp l jobs r.done (r.t + k) jobs.length < 0) →
   let r' := if n = 0 then r else { r with t := r.t + n, runs := -1 }
   RsInv jobs r' ∧ Bb l jobs e r = Bb l jobs e r' ∧ Ed jobs r' + n ≤ Ed jobs r
 | 0, _ => ⟨hi, rfl, Nat.le_refl _⟩
 | n + 1, h => by
  obtain ⟨d, h2, v⟩ := Adn hj hi hr n (fun k hk => h k (by omega))
  obtain ⟨x, z, h6⟩ := h n (by omega)
  dsimp only at d h2 v ⊢
  rw [if_neg (Nat.succ_ne_zero n)]
  generalize hr' : (if n = 0 then r else { r with t := r.t + n, runs := -1 } : RS) = r' at d h2 v
  have g : r'.t = r.t + n := by
   rw [← hr']; split
   ·rename_i e; subst e; simp
   ·rfl
  have s : r'.left = r.left := by rw [← hr']; split <;> rfl
  have f : r'.done = r.done := by rw [← hr']; split <;> rfl
  have m : r'.L = r.L := by rw [← hr']; split <;> rfl
  have p : r'.ends = r.ends := by rw [← hr']; split <;> rfl
  have j : r'.runs < 0 ∨ A7 (atI jobs r'.runs).cuts 0 (atI r'.done r'.runs) = false := by
   rw [← hr']; split
   ·exact hr
   ·exact .inl (by show (-1 : Int) < 0; decide)
  have c : Kh e r' := ⟨by omega, by rw [g]; exact x⟩
  have a : rsRuns l jobs r' = -1 := by
   unfold rsRuns
   rw [if_pos j, f, g]
   have := (N6 l jobs r.done (r.t + n) jobs.length).1
   omega
  have y : Ep l jobs r' = { r with t := r.t + ((n + 1 : Nat) : Int), runs := -1 } := by
   unfold Ep
   rw [a, if_pos (by decide), g]
   cases r; cases r'
   simp only at s f m p ⊢
   subst s f m p
   simp only [RS.mk.injEq, and_true]
   omega
  have u := Fo hj d c
  have o := My hj d c
  rw [y] at u o
  exact ⟨u.1, h2.trans o, by omega⟩
theorem Afx {l : List Af} {jobs : List Job} {done : List Int} {t : Int} {i : Nat} (hc : (jb jobs i).release ≤ t ∧ atI done (i : Int) < (jb jobs i).work) {n : Nat} (hi : i < n)
  (hb : ∀ k : Nat, k < n → (jb jobs k).release ≤ t → atI done (k : Int) < (jb jobs k).work → (atI l (jb jobs i).task).P < (atI l (jb jobs k).task).P ∨ ((atI l (jb jobs i).task).P ≤ (atI l (jb jobs k).task).P ∧ i ≤ k)) : Bp l jobs done t n = i := by
 have low : ∀ m : Nat, m ≤ i → Bp l jobs done t m < 0 ∨ (atI l (jb jobs i).task).P < (atI l (atI jobs (Bp l jobs done t m)).task).P := by
  intro m
  induction m with
  | zero => intro _; exact .inl (by simp [Bp])
  | succ m ih =>
   intro d
   unfold Bp
   split
   ·rename_i h
    right
    rcases hb m (by omega) h.1 h.2.1 with h1 | h1
    ·exact h1
    ·omega
   ·exact ih (by omega)
 have up : ∀ m : Nat, i < m → m ≤ n → Bp l jobs done t m = i := by
  intro m
  induction m with
  | zero => intro h; omega
  | succ m ih =>
   intro h1 h2
   unfold Bp
   by_cases e : m = i
   ·subst e
    rw [if_pos ⟨hc.1, hc.2, low m (Nat.le_refl _)⟩]
   ·rw [ih (by omega) (by omega), if_neg]
    rintro ⟨c, a, h5 | h5⟩
    ·omega
    ·rcases hb m (by omega) c a with h6 | h6
     ·have : (atI l (jb jobs m).task).P < (atI l (jb jobs i).task).P := h5
      omega
     ·have : (atI l (jb jobs m).task).P < (atI l (jb jobs i).task).P := h5
      omega
 exact up n hi (Nat.le_refl _)
theorem Afw {l : List Af} {jobs : List Job} {done : List Int} {t : Int} {n : Nat} (h : ∀ k : Nat, k < n → (jb jobs k).release ≤ t → ¬ atI done (k : Int) < (jb jobs k).work) : Bp l jobs done t n < 0 := by
 rcases Int.lt_or_le (Bp l jobs done t n) 0 with h1 | h1
 ·exact h1
 ·have h2 := O6 h1
  have c := (N6 l jobs done t n).2
  obtain ⟨k, a⟩ : ∃ k : Nat, Bp l jobs done t n = k := ⟨(Bp l jobs done t n).toNat, by omega⟩
  rw [a] at h2 c
  exact absurd h2.2 (h k (by omega) h2.1)
end Go.L.Try
namespace Go.L.Try
open Go Go.L
structure Script (l : List Af) (jobs : List Job) : Prop where
 ok : Ke l jobs
 mono : ∀ a b : Nat, a < b → b < jobs.length → (jb jobs a).task = (jb jobs b).task → (jb jobs a).release < (jb jobs b).release
 prio : ∀ t u : Int, 0 ≤ t → t < l.length → 0 ≤ u → u < l.length → (atI l t).P = (atI l u).P → t = u
def ltO (jobs : List Job) (a b : Nat) : Prop := (jb jobs a).release < (jb jobs b).release ∨ ((jb jobs a).release = (jb jobs b).release ∧ a < b)
structure SimC (jobs : List Job) (s : XS) (r : RS) : Prop where
 t : r.t = s.now
 L : r.L = s.spans
 ends : r.ends = s.ends
 coming : ∀ i ∈ s.coming, i < jobs.length ∧ atI r.done (i : Int) = 0
 sorted : s.coming.Pairwise (ltO jobs)
 ord : ∀ k, k < jobs.length → k ∉ s.coming → ∀ i ∈ s.coming, ltO jobs k i
 mem : ∀ t i, i ∈ s.q t ↔ (i < jobs.length ∧ (jb jobs i).task = t ∧ i ∉ s.coming ∧ atI r.done (i : Int) < (jb jobs i).work)
 asc : ∀ t, (s.q t).Pairwise (· < ·)
 rel : ∀ i, i < jobs.length → i ∉ s.coming → (jb jobs i).release ≤ s.now
 run : ∀ i, s.running = some i → ∃ rest, s.q (jb jobs i).task = i :: rest
 nodup : s.ready.Nodup
 ready : ∀ t, t ∈ s.ready ↔ (s.q t ≠ [] ∧ ∀ i, s.running = some i → (jb jobs i).task ≠ t)
 left : ∀ t, ∀ i ∈ s.q t, s.left i = (jb jobs i).work - atI r.done (i : Int)
 cut : ∀ t, ∀ i ∈ s.q t, CutInv (jb jobs i).cuts (atI r.done (i : Int)) (s.sec i) (s.cuts i)
 sec0 : ∀ t, ∀ i ∈ s.q t, s.running ≠ some i → s.sec i = 0
structure Sf (jobs : List Job) (s : XS) (r : RS) : Prop extends SimC jobs s r where
 runs : ∀ i, s.running = some i → r.runs = i
 norun : s.running = none → (r.runs < 0 ∨ A7 (atI jobs r.runs).cuts 0 (atI r.done r.runs) = false)
 within : ∀ i, s.running = some i → 0 < s.sec i → A7 (jb jobs i).cuts 0 (atI r.done (i : Int)) = true
theorem Amz {jobs : List Job} {a : Nat} : ¬ ltO jobs a a := by unfold ltO; omega
theorem Aaj {q : Int} : ∀ {cs : List Int} {w : Int}, Dq q cs w = true → 0 ≤ w → Ju cs ≤ w
 | [], w, _, h => h
 | x :: r, w, h, hw => by
  simp only [Dq, Bool.and_eq_true, decide_eq_true_eq] at h
  have := Aaj h.2 (by omega)
  rw [Lu]; omega
variable {l : List Af} {jobs : List Job} {s : XS} {r : RS} {e : Int}
theorem Ey {i : Nat} (h : i < jobs.length) : jb jobs i ∈ jobs := Aj (by omega) (by omega)
theorem Script.cuts (S : Script l jobs) {i : Nat} (h : i < jobs.length) : (∀ c ∈ (jb jobs i).cuts, 1 ≤ c) ∧ Ju (jb jobs i).cuts ≤ (jb jobs i).work := by
 obtain ⟨q, a⟩ := S.ok.cuts _ (Ey h)
 exact ⟨Aak a, Aaj a (by have := (S.ok.work _ (Ey h)).1; omega)⟩
theorem Av5 (S : Script l jobs) (h : SimC jobs s r) {i : Nat} {rest : List Nat} (hc : s.coming = i :: rest) (hr : (jb jobs i).release ≤ s.now) : SimC jobs (Ee jobs s i rest) r := by
 have x := h.coming i (by rw [hc]; simp)
 have hs := h.sorted
 rw [hc, List.pairwise_cons] at hs
 have y : i ∉ rest := fun hm => Amz (hs.1 i hm)
 have hw := (S.ok.work _ (Ey x.1)).1
 have hq : ∀ t, (Ee jobs s i rest).q t = if t = (jb jobs i).task then s.q (jb jobs i).task ++ [i] else s.q t := fun t => by
  unfold XS.q Ee
  by_cases e : t = (jb jobs i).task
  ·subst e; rw [if_pos rfl]; dsimp only; rw [Ao]; rfl
  ·rw [if_neg e]; dsimp only; rw [By e]
 have a0 : ∀ t, i ∉ s.q t := fun t hm => ((h.mem t i).1 hm).2.2.1 (by rw [hc]; simp)
 have o : ∀ {t k}, k ∈ (Ee jobs s i rest).q t → k = i ∨ (k ≠ i ∧ k ∈ s.q t) := fun {t k} hm => by
  rw [hq] at hm
  by_cases e : k = i
  ·exact .inl e
  ·right
   refine ⟨e, ?_⟩
   split at hm
   ·rename_i m
    subst m
    rcases List.mem_append.1 hm with hm | hm
    ·exact hm
    ·exact absurd (List.mem_singleton.1 hm) e
   ·exact hm
 refine { t := h.t, L := h.L, ends := h.ends, coming := fun k f => h.coming k (by rw [hc]; exact List.mem_cons_of_mem _ f), sorted := hs.2, ord := ?_, mem := ?_, asc := ?_, rel := ?_, run := ?_, nodup := ?_, ready := ?_, left := ?_, cut := ?_, sec0 := ?_ }
 ·intro k f z j hj
  by_cases e : k = i
  ·subst e; exact hs.1 j hj
  ·exact h.ord k f (by rw [hc]; intro hm; rcases List.mem_cons.1 hm with hm | hm; exact e hm; exact z hm) j (by rw [hc]; exact List.mem_cons_of_mem _ hj)
 ·intro t k
  rw [hq]
  by_cases e : k = i
  ·subst e
   constructor
   ·intro hm
    split at hm
    ·rename_i m; exact ⟨x.1, m.symm, y, by rw [x.2]; omega⟩
    ·exact absurd hm (a0 t)
   ·rintro ⟨_, m, _, _⟩
    rw [if_pos m.symm]; simp
  ·have u := h.mem t k
   rw [hc] at u
   constructor
   ·intro hm
    have : k ∈ s.q t := by
     split at hm
     ·rename_i m
      subst m
      rcases List.mem_append.1 hm with hm | hm
      ·exact hm
      ·exact absurd (List.mem_singleton.1 hm) e
     ·exact hm
    obtain ⟨a, b, c, d⟩ := u.1 this
    exact ⟨a, b, fun hm => c (List.mem_cons_of_mem _ hm), d⟩
   ·rintro ⟨a, b, c, d⟩
    have hm := u.2 ⟨a, b, fun hm => by rcases List.mem_cons.1 hm with hm | hm; exact e hm; exact c hm, d⟩
    split
    ·rename_i m; subst m; exact List.mem_append_left _ hm
    ·exact hm
 ·intro t
  rw [hq]
  split
  ·refine List.pairwise_append.2 ⟨h.asc _, List.pairwise_singleton _ _, fun k f j hj => ?_⟩
   rw [List.mem_singleton.1 hj]
   obtain ⟨a, b, c, d⟩ := (h.mem _ _).1 f
   have n := h.ord k a c i (by rw [hc]; simp)
   rcases Nat.lt_trichotomy k i with h2 | h2 | h2
   ·exact h2
   ·subst h2; exact absurd n Amz
   ·have := S.mono i k h2 a b.symm
    unfold ltO at n; omega
  ·exact h.asc t
 ·intro k f z
  by_cases e : k = i
  ·subst e; exact hr
  ·exact h.rel k f (by rw [hc]; intro hm; rcases List.mem_cons.1 hm with hm | hm; exact e hm; exact z hm)
 ·intro k f
  obtain ⟨g, n⟩ := h.run k f
  rw [hq]
  split
  ·rename_i m
   rw [← m, n]; exact ⟨g ++ [i], rfl⟩
  ·exact ⟨g, n⟩
 ·show (if s.q (jb jobs i).task = [] then (jb jobs i).task :: s.ready else s.ready).Nodup
  split
  ·rename_i p
   exact List.nodup_cons.2 ⟨fun hm => ((h.ready _).1 hm).1 p, h.nodup⟩
  ·exact h.nodup
 ·intro t
  show t ∈ (if s.q (jb jobs i).task = [] then (jb jobs i).task :: s.ready else s.ready) ↔ _
  rw [hq]
  have v := h.ready t
  by_cases e : t = (jb jobs i).task
  ·subst e
   rw [if_pos rfl]
   constructor
   ·intro hm
    refine ⟨by simp, fun k f he => ?_⟩
    obtain ⟨g, n⟩ := h.run k f
    rw [he] at n
    rw [if_neg (by rw [n]; simp)] at hm
    exact (v.1 hm).2 k f he
   ·rintro ⟨_, h2⟩
    split
    ·simp
    ·rename_i p; exact v.2 ⟨p, h2⟩
  ·rw [if_neg e]
   have : t ∈ (if s.q (jb jobs i).task = [] then (jb jobs i).task :: s.ready else s.ready) ↔ t ∈ s.ready := by
    split
    ·simp [e]
    ·rfl
   rw [this]; exact v
 ·intro t k f
  show at1 s.left i (jb jobs i).work k = _
  rcases o f with rfl | ⟨e, hm⟩
  ·rw [Ao, x.2]; omega
  ·rw [By e]; exact h.left t k hm
 ·intro t k f
  show CutInv _ _ (at1 s.sec i 0 k) (at1 s.cuts i (jb jobs i).cuts k)
  rcases o f with rfl | ⟨e, hm⟩
  ·rw [Ao, Ao, x.2]; exact CutInv.new _
  ·rw [By e, By e]; exact h.cut t k hm
 ·intro t k f z
  show at1 s.sec i 0 k = 0
  rcases o f with rfl | ⟨e, hm⟩
  ·rw [Ao]
  ·rw [By e]; exact h.sec0 t k hm z
theorem Ue (S : Script l jobs) (h : Sf jobs s r) {i : Nat} {rest : List Nat} (hc : s.coming = i :: rest) (hr : (jb jobs i).release ≤ s.now) : Sf jobs (Ee jobs s i rest) r := by
 refine { Av5 S h.toSimC hc hr with runs := h.runs, norun := h.norun, within := fun k j m => ?_ }
 have a : s.running = some k := j
 obtain ⟨d, f⟩ := h.run k a
 have g := ((h.mem _ k).1 (by rw [f]; simp : k ∈ s.q (jb jobs k).task)).2.2.1
 have e : k ≠ i := fun e => g (by rw [hc, e]; simp)
 have c : 0 < at1 s.sec i 0 k := m
 rw [By e] at c
 exact h.within k a c
theorem Yx (S : Script l jobs) (h : Sf jobs s r) (hn : ∀ i ∈ s.coming, s.now < (jb jobs i).release) (hin : ∀ i, s.running = some i → s.sec i = 0) {t : Int} {rd : List Int} (hp : (t :: rd).Perm (back jobs s).ready) (hmin : ∀ u ∈ (back jobs s).ready, (atI l t).P ≤ (atI l u).P) :
  ∃ i rest, s.q t = i :: rest ∧ (jb jobs i).task = t ∧ SimC jobs (chosen (back jobs s) rd i) r ∧ rsRuns l jobs r = i ∧ (chosen (back jobs s) rd i).running = some i ∧ (∀ u, s.q u ≠ [] → (atI l t).P ≤ (atI l u).P) ∧ (0 < (chosen (back jobs s) rd i).sec i ∨ ((chosen (back jobs s) rd i).sec i = 0 ∧ (chosen (back jobs s) rd i).cuts i = [])) := by
 have hq : ∀ u, (back jobs s).q u = s.q u := fun u => by unfold back; split <;> rfl
 have hb : ∀ u, u ∈ (back jobs s).ready ↔ s.q u ≠ [] := fun u => by
  unfold back
  cases hr : s.running with
  | none =>
   have := h.ready u
   simp only [hr] at this ⊢
   rw [this]; simp
  | some i =>
   obtain ⟨rest, h1⟩ := h.run i hr
   have := h.ready u
   simp only [hr] at this ⊢
   rw [List.mem_cons, this]
   constructor
   ·rintro (rfl | h2)
    ·rw [h1]; simp
    ·exact h2.1
   ·intro h2
    by_cases e : u = (jb jobs i).task
    ·exact .inl e
    ·exact .inr ⟨h2, fun k hk => by cases hk; exact fun e' => e e'.symm⟩
 have ht : t ∈ (back jobs s).ready := hp.mem_iff.1 (by simp)
 have htq := (hb t).1 ht
 obtain ⟨i, rest, hqt⟩ : ∃ i rest, s.q t = i :: rest := by
  cases hh : s.q t with
  | nil => exact absurd hh htq
  | cons i rest => exact ⟨i, rest, rfl⟩
 have him : i ∈ s.q t := by rw [hqt]; simp
 obtain ⟨hi1, hi2, hi3, hi4⟩ := (h.mem t i).1 him
 have hsec : ∀ u, ∀ k ∈ s.q u, s.sec k = 0 := fun u k hk => by
  by_cases e : s.running = some k
  ·exact hin k e
  ·exact h.sec0 u k hk e
 have hnd : (back jobs s).ready.Nodup := by
  unfold back
  cases hr : s.running with
  | none => exact h.nodup
  | some k => exact List.nodup_cons.2 ⟨fun hm => ((h.ready _).1 hm).2 k hr rfl, h.nodup⟩
 have hnd2 := hp.nodup_iff.2 hnd
 rw [List.nodup_cons] at hnd2
 have hrd : ∀ u, u ∈ rd ↔ s.q u ≠ [] ∧ t ≠ u := fun u => by
  have := hp.mem_iff (a := u)
  rw [hb, List.mem_cons] at this
  rw [← this]
  constructor
  ·intro hu; exact ⟨.inr hu, fun e => hnd2.1 (by rw [e]; exact hu)⟩
  ·rintro ⟨rfl | hu, e⟩
   ·exact absurd rfl e
   ·exact hu
 have hmin2 : ∀ u, s.q u ≠ [] → (atI l t).P ≤ (atI l u).P := fun u hu => hmin u ((hb u).2 hu)
 have hruns : rsRuns l jobs r = i := by
  have hout : r.runs < 0 ∨ A7 (atI jobs r.runs).cuts 0 (atI r.done r.runs) = false := by
   cases hr : s.running with
   | none => exact h.norun hr
   | some k =>
    obtain ⟨rest', h1⟩ := h.run k hr
    have hk : k ∈ s.q (jb jobs k).task := by rw [h1]; simp
    have h2 := h.cut _ k hk
    rw [h.runs k hr]
    exact .inr (h2.out (S.cuts ((h.mem _ _).1 hk).1).1 (hin k hr))
  unfold rsRuns
  rw [if_pos hout]
  refine Afx ⟨by rw [h.t]; exact h.rel i hi1 hi3, hi4⟩ hi1 fun k hk h1 h2 => ?_
  have hkc : k ∉ s.coming := fun hm => by have := hn k hm; rw [h.t] at h1; omega
  have hkm : k ∈ s.q (jb jobs k).task := (h.mem _ _).2 ⟨hk, rfl, hkc, h2⟩
  have hle := hmin2 (jb jobs k).task (by intro e; rw [e] at hkm; cases hkm)
  rw [hi2]
  by_cases e : (jb jobs k).task = t
  ·right
   rw [e] at hkm ⊢
   refine ⟨Int.le_refl _, ?_⟩
   rw [hqt] at hkm
   rcases List.mem_cons.1 hkm with rfl | hkm
   ·exact Nat.le_refl _
   ·have := h.asc t
    rw [hqt, List.pairwise_cons] at this
    exact Nat.le_of_lt (this.1 k hkm)
  ·left
   have ht1 := S.ok.task _ (Ey hi1)
   have ht2 := S.ok.task _ (Ey hk)
   rw [hi2] at ht1
   have hne : ¬ (atI l (jb jobs k).task).P = (atI l t).P := fun h => e (S.prio _ _ ht2.1 ht2.2 ht1.1 ht1.2 h)
   omega
 have hcv := h.cut t i him
 rw [hsec t i him] at hcv
 have hbn : ∀ k, (back jobs s).running = some k → False := fun k => by unfold back; split <;> simp_all
 have hbs : (back jobs s).sec = s.sec ∧ (back jobs s).cuts = s.cuts ∧ (back jobs s).left = s.left ∧ (back jobs s).coming = s.coming ∧ (back jobs s).now = s.now ∧ (back jobs s).spans = s.spans ∧ (back jobs s).ends = s.ends := by unfold back; split <;> exact ⟨rfl, rfl, rfl, rfl, rfl, rfl, rfl⟩
 generalize hB : back jobs s = B at *
 obtain ⟨b1, b2, b3, b4, b5, b6, b7⟩ := hbs
 have hready : ∀ u, u ∈ rd ↔ (B.q u ≠ [] ∧ ∀ k, some i = some k → (jb jobs k).task ≠ u) := fun u => by
  rw [hrd, hq]
  constructor
  ·rintro ⟨h1, h2⟩; exact ⟨h1, fun k hk => by cases hk; rw [hi2]; exact h2⟩
  ·rintro ⟨h1, h2⟩; exact ⟨h1, by have := h2 i rfl; rwa [hi2] at this⟩
 refine ⟨i, rest, hqt, hi2, ?_⟩
 unfold chosen
 rw [b2]
 cases hcc : s.cuts i with
 | nil =>
  refine ⟨?_, hruns, rfl, hmin2, .inr ⟨by show B.sec i = 0; rw [b1]; exact hsec t i him, by show s.cuts i = []; exact hcc⟩⟩
  refine { t := by rw [h.t]; exact b5.symm, L := by rw [h.L]; exact b6.symm, ends := by rw [h.ends]; exact b7.symm, coming := ?_, sorted := ?_, ord := ?_, mem := ?_, asc := ?_, rel := ?_, run := ?_, nodup := hnd2.2, ready := hready, left := ?_, cut := ?_, sec0 := ?_ }
  ·dsimp only; rw [b4]; exact h.coming
  ·dsimp only; rw [b4]; exact h.sorted
  ·dsimp only; rw [b4]; exact h.ord
  ·intro u k; show k ∈ B.q u ↔ _; dsimp only; rw [hq, b4]; exact h.mem u k
  ·intro u; show (B.q u).Pairwise _; rw [hq]; exact h.asc u
  ·dsimp only; rw [b4, b5]; exact h.rel
  ·intro k hk; cases hk; show ∃ rest, B.q _ = _; rw [hi2, hq, hqt]; exact ⟨rest, rfl⟩
  ·intro u k hk; have hk' : k ∈ B.q u := hk; rw [hq] at hk'; show B.left k = _; rw [b3]; exact h.left u k hk'
  ·intro u k hk; have hk' : k ∈ B.q u := hk; rw [hq] at hk'; show CutInv _ _ (B.sec k) (s.cuts k); rw [b1]; exact h.cut u k hk'
  ·intro u k hk _; have hk' : k ∈ B.q u := hk; rw [hq] at hk'; show B.sec k = 0; rw [b1]; exact hsec u k hk'
 | cons c cs =>
  rw [hcc] at hcv
  have hc1 : 1 ≤ c := by
   obtain ⟨pre, e, _⟩ := hcv.is
   exact (S.cuts hi1).1 c (by rw [e]; simp)
  refine ⟨?_, hruns, rfl, hmin2, .inl (by show 0 < at1 B.sec i c i; rw [Ao]; omega)⟩
  refine { t := by rw [h.t]; exact b5.symm, L := by rw [h.L]; exact b6.symm, ends := by rw [h.ends]; exact b7.symm, coming := ?_, sorted := ?_, ord := ?_, mem := ?_, asc := ?_, rel := ?_, run := ?_, nodup := hnd2.2, ready := hready, left := ?_, cut := ?_, sec0 := ?_ }
  ·dsimp only; rw [b4]; exact h.coming
  ·dsimp only; rw [b4]; exact h.sorted
  ·dsimp only; rw [b4]; exact h.ord
  ·intro u k; show k ∈ B.q u ↔ _; dsimp only; rw [hq, b4]; exact h.mem u k
  ·intro u; show (B.q u).Pairwise _; rw [hq]; exact h.asc u
  ·dsimp only; rw [b4, b5]; exact h.rel
  ·intro k hk; cases hk; show ∃ rest, B.q _ = _; rw [hi2, hq, hqt]; exact ⟨rest, rfl⟩
  ·intro u k hk; have hk' : k ∈ B.q u := hk; rw [hq] at hk'; show B.left k = _; rw [b3]; exact h.left u k hk'
  ·intro u k hk
   have hk' : k ∈ B.q u := hk
   rw [hq] at hk'
   show CutInv _ _ (at1 B.sec i c k) (at1 s.cuts i cs k)
   by_cases ek : k = i
   ·subst ek; rw [Ao, Ao]; exact hcv.next (by omega)
   ·rw [By ek, By ek, b1]; exact h.cut u k hk'
  ·intro u k hk hne
   have hk' : k ∈ B.q u := hk
   rw [hq] at hk'
   have ek : k ≠ i := fun e => hne (by rw [e])
   show at1 B.sec i c k = 0
   rw [By ek, b1]; exact hsec u k hk'
theorem Aiv (h : Sf jobs s r) {i : Nat} (hr : s.running = some i) (hs : 0 < s.sec i) : rsRuns l jobs r = i := by
 have a := h.runs i hr
 have h2 := h.within i hr hs
 unfold rsRuns
 rw [a, if_neg]
 rintro (h3 | h3)
 ·omega
 ·have : A7 (jb jobs i).cuts 0 (atI r.done (i : Int)) = false := h3
  rw [h2] at this; cases this
theorem Avz {f : Nat → Int} {n i : Nat} (h : ∀ k, k < n → 0 ≤ f k) (hi : i < n) : f i ≤ Df f n := by
 induction n with
 | zero => omega
 | succ n ih =>
  have c := Wv (f := f) (n := n) fun k a => h k (by omega)
  have h2 := h n (by omega)
  simp only [Df]
  by_cases e : i = n
  ·subst e; omega
  ·have := ih (fun k a => h k (by omega)) (by omega); omega
theorem Uu (hi : RsInv jobs r) {i : Nat} (h : i < jobs.length) (hd : atI r.done (i : Int) < (jb jobs i).work) : 0 < r.left := by
 rw [hi.left]
 have := Avz (f := fun i => if atI r.done (i : Int) < (atI jobs (i : Int)).work then 1 else 0) (n := jobs.length) (i := i) (fun k _ => by split <;> decide) h
 have h2 : atI r.done (i : Int) < (atI jobs (i : Int)).work := hd
 rw [if_pos h2] at this
 omega
theorem Aq8 (S : Script l jobs) (h : SimC jobs s r) (hi : RsInv jobs r) {i : Nat} (hr : s.running = some i) (hp : rsRuns l jobs r = i) (hmin : s.sec i = 0 → ∀ u, s.q u ≠ [] → (atI l (jb jobs i).task).P ≤ (atI l u).P) {N : Nat} (hN : 0 < N)
  (hn : (N : Int) ≤ s.sec i ∨ (s.sec i = 0 ∧ s.cuts i = [] ∧ (N : Int) ≤ s.left i ∧ ∀ k ∈ s.coming, s.now + N ≤ (jb jobs k).release)) (he : e < 0 ∨ s.now + N ≤ e) :
  ∃ r', Sf jobs (Ou jobs s i N) r' ∧ RsInv jobs r' ∧ Bb l jobs e r = Bb l jobs e r' ∧ Ed jobs r' < Ed jobs r := by
 obtain ⟨y, hq⟩ := h.run i hr
 have a6 : i ∈ s.q (jb jobs i).task := by rw [hq]; simp
 obtain ⟨v, _, aj, ac⟩ := (h.mem _ i).1 a6
 have a1 := h.cut _ i a6
 have au := h.left _ i a6
 obtain ⟨a8, al⟩ := S.cuts v
 have ab : i < r.done.length := by rw [hi.dlen]; exact v
 have ay : s.sec i ≤ s.left i := by
  obtain ⟨pre, e1, h1, h2⟩ := a1.is
  have as : Ju pre ≤ (jb jobs i).work := by
   have : Ju (jb jobs i).cuts = Ju pre + Ju (s.cuts i) := by rw [e1, Ud]
   have := Mz fun c hc => a8 c (show c ∈ (jb jobs i).cuts by rw [e1]; exact List.mem_append_right _ hc)
   omega
  rcases h1 with h1 | ⟨_, h1, _⟩ <;> omega
 have av : (N : Int) ≤ s.left i := by rcases hn with hn | hn <;> omega
 have a4 : ∀ k : Nat, k < N → Kh e (rsK jobs r i k) ∧ rsRuns l jobs (rsK jobs r i k) = i ∧ atI r.done (i : Int) + k < (jb jobs i).work := by
  intro k f
  have ak : atI r.done (i : Int) + k < (jb jobs i).work := by omega
  have p : ∀ j : Nat, atI (rsK jobs r i k).done (j : Int) = if j = i then atI r.done (i : Int) + k else atI r.done (j : Int) := fun j => Sv ab j
  refine ⟨⟨?_, ?_⟩, ?_, ak⟩
  ·show 0 < (if atI r.done (i : Int) + k = (jb jobs i).work then r.left - 1 else r.left)
   rw [if_neg (by omega)]; exact Uu hi v ac
  ·show e < 0 ∨ r.t + k < e
   rw [h.t]; omega
  ·by_cases k0 : k = 0
   ·subst k0; rw [Afi ab (by omega)]; exact hp
   ·have o : (rsK jobs r i k).runs = i := if_neg k0
    have aq : atI (rsK jobs r i k).done ((rsK jobs r i k).runs) = atI r.done (i : Int) + k := by rw [o, p, if_pos rfl]
    unfold rsRuns
    rw [aq, o]
    rcases hn with hn | ⟨ae, ar, ax, ao⟩
    ·have hw := a1.in_ (by omega) (k := (k : Int)) (by omega) (by omega)
     have am : A7 (atI jobs (i : Int)).cuts 0 (atI r.done (i : Int) + k) = true := hw
     rw [if_neg (by rw [am]; rintro (h | h); omega; cases h)]
    ·have hw : A7 (atI jobs (i : Int)).cuts 0 (atI r.done (i : Int) + k) = false := by
      have h1 := a1.work (n := (k : Int)) (by omega) (.inr ⟨ae, ar⟩)
      refine h1.out a8 ?_
      omega
     rw [if_pos (.inr hw)]
     have ht : (rsK jobs r i k).t = s.now + k := by show r.t + k = _; rw [h.t]
     rw [ht]
     refine Afx ⟨by have := h.rel i v aj; omega, by rw [p, if_pos rfl]; exact ak⟩ v fun j hj h1 h2 => ?_
     have an : j ∉ s.coming := fun hm => by have := ao j hm; omega
     have hjm : j ∈ s.q (jb jobs j).task := by
      by_cases ej : j = i
      ·subst ej; exact a6
      ·rw [p, if_neg ej] at h2
       exact (h.mem _ _).2 ⟨hj, rfl, an, h2⟩
     have aw := hmin ae (jb jobs j).task (by intro e; rw [e] at hjm; cases hjm)
     by_cases ej : (jb jobs j).task = (jb jobs i).task
     ·right
      rw [ej] at hjm ⊢
      refine ⟨Int.le_refl _, ?_⟩
      rw [hq] at hjm
      rcases List.mem_cons.1 hjm with rfl | hjm
      ·exact Nat.le_refl _
      ·have := h.asc (jb jobs i).task
       rw [hq, List.pairwise_cons] at this
       exact Nat.le_of_lt (this.1 j hjm)
     ·left
      have af := S.ok.task _ (Ey v)
      have ag := S.ok.task _ (Ey hj)
      have ah : ¬ (atI l (jb jobs j).task).P = (atI l (jb jobs i).task).P := fun h => ej (S.prio _ _ ag.1 ag.2 af.1 af.2 h)
      omega
 obtain ⟨k1, k2, k3⟩ := Akz S.ok hi v N a4 ac
 refine ⟨rsK jobs r i N, ?_, k1, k2, by omega⟩
 have p : ∀ j : Nat, atI (rsK jobs r i N).done (j : Int) = if j = i then atI r.done (i : Int) + N else atI r.done (j : Int) := fun j => Sv ab j
 have hL : (rsK jobs r i N).L = Dh s.spans i s.now N := by
  show (if N = 0 then r.L else Dh r.L i r.t N) = _
  rw [if_neg (by omega), h.L, h.t]
 have o : (rsK jobs r i N).runs = i := if_neg (by omega)
 have a2 := h.asc (jb jobs i).task
 rw [hq, List.pairwise_cons] at a2
 have a5 : i ∉ y := fun hm => absurd (a2.1 i hm) (Nat.lt_irrefl _)
 have ai : ∀ k ∈ s.coming, k ≠ i := fun k f e => aj (e ▸ f)
 have ad := a1.work (n := (N : Int)) (by omega) (by rcases hn with hn | hn; exact .inl hn; exact .inr ⟨hn.1, hn.2.1⟩)
 unfold Ou
 split
 ·rename_i hz
  have a3 : atI r.done (i : Int) + N = (jb jobs i).work := by omega
  have a0 : ∀ u, (at1 s.Q (jb jobs i).task (some (s.q (jb jobs i).task).tail) u).getD [] = if u = (jb jobs i).task then y else s.q u := fun u => by
   by_cases x : u = (jb jobs i).task
   ·subst x; rw [if_pos rfl, Ao, hq]; rfl
   ·rw [if_neg x, By x]; rfl
  have z : ∀ {u k}, k ∈ (if u = (jb jobs i).task then y else s.q u) → k ≠ i ∧ k ∈ s.q u := fun {u k} f => by
   split at f
   ·rename_i x
    subst x
    exact ⟨fun e => a5 (e ▸ f), by rw [hq]; exact List.mem_cons_of_mem _ f⟩
   ·rename_i x
    refine ⟨fun e => x ?_, f⟩
    subst e
    exact ((h.mem _ _).1 f).2.1.symm
  refine { t := by show r.t + N = s.now + N; rw [h.t], L := hL, ends := ?_, coming := ?_, sorted := h.sorted, ord := h.ord, mem := ?_, asc := ?_, rel := ?_, run := ?_, nodup := ?_, ready := ?_, left := ?_, cut := ?_, sec0 := ?_, runs := ?_, norun := ?_, within := ?_ }
  ·show (if atI r.done (i : Int) + N = (jb jobs i).work then r.ends.set i (r.t + N) else r.ends) = s.ends.set i (s.now + N)
   rw [if_pos a3, h.ends, h.t]
  ·intro k f; have := h.coming k f; rw [p, if_neg (ai k f)]; exact this
  ·intro u k
   show k ∈ (at1 s.Q (jb jobs i).task (some (s.q (jb jobs i).task).tail) u).getD [] ↔ _
   rw [a0, p]
   constructor
   ·intro f
    obtain ⟨m, hm⟩ := z f
    rw [if_neg m]; exact (h.mem u k).1 hm
   ·rintro ⟨a, b, c, d⟩
    split at d
    ·rename_i m; subst m; omega
    ·rename_i m
     have hm := (h.mem u k).2 ⟨a, b, c, d⟩
     split
     ·rename_i x
      subst x
      rw [hq] at hm
      rcases List.mem_cons.1 hm with hm | hm
      ·exact absurd hm m
      ·exact hm
     ·exact hm
  ·intro u
   show ((at1 s.Q (jb jobs i).task (some (s.q (jb jobs i).task).tail) u).getD []).Pairwise _
   rw [a0]
   split
   ·exact a2.2
   ·exact h.asc u
  ·intro k f a9; have := h.rel k f a9; show _ ≤ s.now + (N : Int); omega
  ·intro k f; cases f
  ·show (if (s.q (jb jobs i).task).tail = [] then s.ready else (jb jobs i).task :: s.ready).Nodup
   split
   ·exact h.nodup
   ·exact List.nodup_cons.2 ⟨fun hm => ((h.ready _).1 hm).2 i hr rfl, h.nodup⟩
  ·intro u
   show u ∈ (if (s.q (jb jobs i).task).tail = [] then s.ready else (jb jobs i).task :: s.ready) ↔ ((at1 s.Q (jb jobs i).task (some (s.q (jb jobs i).task).tail) u).getD [] ≠ [] ∧ _)
   rw [a0, hq, List.tail_cons]
   have h0 := h.ready u
   by_cases x : u = (jb jobs i).task
   ·subst x
    rw [if_pos rfl]
    constructor
    ·intro hm
     refine ⟨fun aa => ?_, fun k f => by cases f⟩
     rw [if_pos aa] at hm
     exact (h0.1 hm).2 i hr rfl
    ·rintro ⟨aa, _⟩
     rw [if_neg aa]; simp
   ·rw [if_neg x]
    have h1 : u ∈ (if y = [] then s.ready else (jb jobs i).task :: s.ready) ↔ u ∈ s.ready := by
     split
     ·rfl
     ·simp [x]
    rw [h1, h0]
    constructor
    ·rintro ⟨a, b⟩; exact ⟨a, fun k f => by cases f⟩
    ·rintro ⟨a, b⟩; exact ⟨a, fun k f => by rw [hr] at f; cases f; exact fun e => x e.symm⟩
  ·intro u k f
   have g : k ∈ (at1 s.Q (jb jobs i).task (some (s.q (jb jobs i).task).tail) u).getD [] := f
   rw [a0] at g
   obtain ⟨m, hm⟩ := z g
   show at1 s.left i _ k = _
   rw [By m, p, if_neg m]; exact h.left u k hm
  ·intro u k f
   have g : k ∈ (at1 s.Q (jb jobs i).task (some (s.q (jb jobs i).task).tail) u).getD [] := f
   rw [a0] at g
   obtain ⟨m, hm⟩ := z g
   show CutInv _ _ (at1 s.sec i _ k) (s.cuts k)
   rw [By m, p, if_neg m]; exact h.cut u k hm
  ·intro u k f _
   have g : k ∈ (at1 s.Q (jb jobs i).task (some (s.q (jb jobs i).task).tail) u).getD [] := f
   rw [a0] at g
   obtain ⟨m, hm⟩ := z g
   show at1 s.sec i _ k = 0
   rw [By m]
   exact h.sec0 u k hm fun e => by rw [hr] at e; cases e; exact m rfl
  ·intro k f; cases f
  ·intro _
   right
   rw [o, p, if_pos rfl, a3]
   exact Ov a8 (by rw [Int.zero_add]; exact al)
  ·intro k f; cases f
 ·rename_i hz
  have a3 : atI r.done (i : Int) + N < (jb jobs i).work := by omega
  refine { t := by show r.t + N = s.now + N; rw [h.t], L := hL, ends := ?_, coming := ?_, sorted := h.sorted, ord := h.ord, mem := ?_, asc := h.asc, rel := ?_, run := h.run, nodup := h.nodup, ready := h.ready, left := ?_, cut := ?_, sec0 := ?_, runs := ?_, norun := ?_, within := ?_ }
  ·show (if atI r.done (i : Int) + N = (jb jobs i).work then r.ends.set i (r.t + N) else r.ends) = s.ends
   rw [if_neg (by omega), h.ends]
  ·intro k f; have := h.coming k f; rw [p, if_neg (ai k f)]; exact this
  ·intro u k
   rw [p]
   show k ∈ s.q u ↔ _
   rw [h.mem]
   by_cases m : k = i
   ·subst m
    rw [if_pos rfl]
    constructor
    ·rintro ⟨a, b, c, d⟩; exact ⟨a, b, c, a3⟩
    ·rintro ⟨a, b, c, d⟩; exact ⟨a, b, c, ac⟩
   ·rw [if_neg m]
  ·intro k f a9; have := h.rel k f a9; show _ ≤ s.now + (N : Int); omega
  ·intro u k f
   show at1 s.left i _ k = _
   have := h.left u k f
   by_cases m : k = i
   ·subst m; rw [Ao, p, if_pos rfl]; omega
   ·rw [By m, p, if_neg m]; exact this
  ·intro u k f
   show CutInv _ _ (at1 s.sec i _ k) (s.cuts k)
   by_cases m : k = i
   ·subst m; rw [Ao, p, if_pos rfl]; exact ad
   ·rw [By m, p, if_neg m]; exact h.cut u k f
  ·intro u k f ah
   show at1 s.sec i _ k = 0
   have a7 : s.running ≠ some k := ah
   have m : k ≠ i := fun e => a7 (by rw [e]; exact hr)
   rw [By m]; exact h.sec0 u k f a7
  ·intro k f
   have g : s.running = some k := f
   rw [hr] at g; cases g; exact o
  ·intro f
   have g : s.running = none := f
   rw [hr] at g; cases g
  ·intro k f hs
   have g : s.running = some k := f
   rw [hr] at g; cases g
   have ap : 0 < at1 s.sec i (max (s.sec i - N) 0) i := hs
   rw [Ao] at ap
   rw [p, if_pos rfl]
   exact a1.in_ (by omega) (by omega) (by omega)
theorem Ae3 (h : Sf jobs s r) (hr : s.running = none) (hn : s.ready = []) : ∀ u, s.q u = [] := fun u => by
 cases hq : s.q u with
 | nil => rfl
 | cons i rest =>
  have := (h.ready u).2 ⟨by rw [hq]; simp, fun k a => by rw [hr] at a; cases a⟩
  rw [hn] at this; cases this
theorem Ae4 (S : Script l jobs) (h : Sf jobs s r) (hi : RsInv jobs r) (hr : s.running = none) (hn : s.ready = []) {c : Nat} {rest : List Nat} (hc : s.coming = c :: rest) (hlt : s.now < (jb jobs c).release) (he : e < 0 ∨ (jb jobs c).release ≤ e) :
  ∃ r', Sf jobs { s with now := (jb jobs c).release } r' ∧ RsInv jobs r' ∧ Bb l jobs e r = Bb l jobs e r' ∧ Ed jobs r' < Ed jobs r := by
 have z := Ae3 h hr hn
 obtain ⟨N, hN⟩ : ∃ N : Nat, (jb jobs c).release - s.now = N := ⟨((jb jobs c).release - s.now).toNat, by omega⟩
 have a := h.coming c (by rw [hc]; simp)
 have v := h.sorted
 rw [hc, List.pairwise_cons] at v
 have n : ∀ k ∈ s.coming, (jb jobs c).release ≤ (jb jobs k).release := fun k hk => by
  rw [hc] at hk
  rcases List.mem_cons.1 hk with rfl | hk
  ·exact Int.le_refl _
  ·have := v.1 k hk; unfold ltO at this; omega
 have hw := (S.ok.work _ (Ey a.1)).1
 obtain ⟨m, o, u⟩ := Adn (e := e) S.ok hi (h.norun hr) N fun k hk => ⟨by rw [h.t]; omega, Uu hi a.1 (by rw [a.2]; omega), Afw fun j hj x h2 => by
  rw [h.t] at x
  have p : j ∉ s.coming := fun y => by have := n j y; omega
  have := (h.mem (jb jobs j).task j).2 ⟨hj, rfl, p, h2⟩
  rw [z] at this; cases this⟩
 have f : N ≠ 0 := by omega
 try dsimp only at m o u
 rw [if_neg f] at m o u
 refine ⟨_, ?_, m, o, by omega⟩
 refine { t := by show r.t + N = _; rw [h.t]; dsimp only; omega, L := h.L, ends := h.ends, coming := h.coming, sorted := h.sorted, ord := h.ord, mem := h.mem, asc := h.asc, rel := fun k hk g => ?_, run := h.run, nodup := h.nodup, ready := h.ready, left := h.left, cut := h.cut, sec0 := h.sec0, runs := fun k hk => ?_, norun := fun _ => .inl (by show (-1 : Int) < 0; decide), within := h.within }
 ·have := h.rel k hk g; show _ ≤ (jb jobs c).release; omega
 ·have d : s.running = some k := hk
  rw [hr] at d; cases d
theorem Aku (S : Script l jobs) (h : Sf jobs s r) (hi : RsInv jobs r) (hr : s.running = none) (hn : s.ready = []) (he : ∀ k ∈ s.coming, 0 ≤ e ∧ e ≤ (jb jobs k).release) : (Bb l jobs e r).L = s.spans ∧ (Bb l jobs e r).ends = s.ends := by
 have g := Ae3 h hr hn
 cases hc : s.coming with
 | nil =>
  have u : ¬ 0 < r.left := by
   rw [hi.left]
   intro hp
   obtain ⟨i, f, h2⟩ := Yq hp
   try dsimp only at h2
   split at h2
   ·rename_i h3
    have := (h.mem (jb jobs i).task i).2 ⟨f, rfl, by rw [hc]; simp, h3⟩
    rw [g] at this; cases this
   ·omega
  rw [Ij (fun y => u y.1)]
  exact ⟨h.L, h.ends⟩
 | cons c rest =>
  have a := h.coming c (by rw [hc]; simp)
  have hw := (S.ok.work _ (Ey a.1)).1
  have o := he c (by rw [hc]; simp)
  obtain ⟨N, hN⟩ : ∃ N : Nat, (e - s.now).toNat = N := ⟨_, rfl⟩
  obtain ⟨k1, m, x⟩ := Adn (e := e) S.ok hi (h.norun hr) N fun k hk => ⟨by rw [h.t]; omega, Uu hi a.1 (by rw [a.2]; omega), Afw fun j v f h2 => by
   rw [h.t] at f
   have d : j ∉ s.coming := fun n => by have := (he j n).2; omega
   have := (h.mem (jb jobs j).task j).2 ⟨v, rfl, d, h2⟩
   rw [g] at this; cases this⟩
  try dsimp only at k1 m x
  rw [m, Ij]
  ·split
   ·exact ⟨h.L, h.ends⟩
   ·exact ⟨h.L, h.ends⟩
  ·rintro ⟨_, h2⟩
   have z : (if N = 0 then r else { r with t := r.t + N, runs := -1 } : RS).t = s.now + N := by
    split
    ·rename_i p; rw [p, h.t]; simp
    ·show r.t + N = _; rw [h.t]
   rw [z] at h2
   omega
theorem Aq9 (h : Sf jobs s r) (h0 : 0 ≤ e) (he : e ≤ s.now) : (Bb l jobs e r).L = s.spans ∧ (Bb l jobs e r).ends = s.ends := by
 rw [Ij (fun a => by have := a.2; rw [h.t] at this; omega)]
 exact ⟨h.L, h.ends⟩
def Aqj (n : Nat) (o : List Nat) : XS := ⟨o, 0, [], List.replicate n (-1), none, fun _ => none, [], fun _ => 0, fun _ => 0, fun _ => []⟩
theorem Arb {o : List Nat} (ho : ∀ i, i ∈ o ↔ i < jobs.length) (hs : o.Pairwise (ltO jobs)) : Sf jobs (Aqj jobs.length o) (Dp jobs.length) := by
 have g : ∀ i : Nat, i < jobs.length → atI (List.replicate jobs.length (0 : Int)) (i : Int) = 0 := fun i d => by
  rw [Ax (by simpa using d)]; simp
 refine { t := rfl, L := rfl, ends := rfl, coming := fun i d => ⟨(ho i).1 d, g i ((ho i).1 d)⟩, sorted := hs, ord := fun k e f => absurd ((ho k).2 e) f, mem := fun t i => ⟨fun h => (by cases h), fun ⟨a, _, c, _⟩ => absurd ((ho i).2 a) c⟩, asc := fun _ => List.Pairwise.nil, rel := fun k e f => absurd ((ho k).2 e) f, run := fun i h => (by cases h), nodup := List.nodup_nil, ready := fun t => ⟨fun h => (by cases h), fun h => absurd rfl h.1⟩, left := fun t i h => (by cases h), cut := fun t i h => (by cases h), sec0 := fun t i h => (by cases h), runs := fun i h => (by cases h), norun := fun _ => .inl (by show (-1 : Int) < 0; decide), within := fun i h => (by cases h) }
theorem Ab6 (hi : RsInv jobs r) (hs : B9 jobs ≤ 1099511627776) : Kh (-1) r ↔ Kh 9223372036854775807 r := by
 have c := hi.t1
 have h2 := hi.sum
 unfold Kh Dg at *
 constructor
 ·rintro ⟨a, _⟩; exact ⟨a, .inr (by omega)⟩
 ·rintro ⟨a, _⟩; exact ⟨a, .inl (by decide)⟩
theorem Y6 (hj : Ke l jobs) (hs : B9 jobs ≤ 1099511627776) : ∀ (n : Nat) (r : RS), RsInv jobs r → Q5 l jobs (-1) n r = Q5 l jobs 9223372036854775807 n r
 | 0, r, _ => rfl
 | n + 1, r, hi => by
  unfold Q5
  by_cases h : Kh (-1) r
  ·rw [if_pos h, if_pos ((Ab6 hi hs).1 h)]
   exact Y6 hj hs n _ (Fo hj hi h).1
  ·rw [if_neg h, if_neg (fun h' => h ((Ab6 hi hs).2 h'))]
theorem Aet (hj : Ke l jobs) (hs : B9 jobs ≤ 1099511627776) (hi : RsInv jobs r) : Bb l jobs (-1) r = Bb l jobs 9223372036854775807 r := Y6 hj hs _ r hi
end Go.L.Try
namespace Go.L.Try
open Go Go.L
theorem Ut {l : List Af} {jobs : List Job} (h : legalB l jobs = true) : Ke l jobs ∧ jobs.length ≤ 4096 ∧ (A0 l).2 = 0 := by
 simp only [legalB, Bool.and_eq_true, decide_eq_true_eq] at h
 obtain ⟨⟨s, h2⟩, h3⟩ := h
 obtain ⟨_, _, p⟩ := Dj s
 have n : ∀ j ∈ jobs, (0 ≤ j.task ∧ j.task < l.length) ∧ (0 ≤ j.arrive ∧ j.arrive ≤ 17592186044416) ∧ j.arrive ≤ j.release ∧ j.release ≤ j.arrive + (atI l j.task).J ∧ 1 ≤ j.work ∧ j.work ≤ (atI l j.task).C ∧ Dq (atI l j.task).Q j.cuts j.work = true ∧ F6 (atI l j.task) := by
  intro j o
  obtain ⟨i, t, rfl⟩ := List.getElem_of_mem o
  have u := Sd h3 i t
  simp only [Gf, Bool.and_eq_true, decide_eq_true_eq] at u
  obtain ⟨m, v⟩ := u
  unfold Eo at m
  dsimp only at m
  rw [Ax t] at m v
  exact ⟨m.1, m.2.1, m.2.2.2.1, m.2.2.2.2.1, m.2.2.2.2.2.1, m.2.2.2.2.2.2, v, p _ (Aj m.1.1 m.1.2)⟩
 refine ⟨⟨fun j o => (n j o).1, fun j o => ?_, fun j o => ?_, fun j o => ⟨_, (n j o).2.2.2.2.2.2.1⟩⟩, h2, s⟩
 ·obtain ⟨a, b, c, d, e, f, g, ⟨r, _⟩⟩ := n j o
  simp only [Bh] at r
  unfold Dg; omega
 ·obtain ⟨a, b, c, d, e, f, g, ⟨r, _⟩⟩ := n j o
  simp only [Bh] at r
  omega
theorem Wa {l : List Af} {jobs : List Job} (h : legalB l jobs = true) {i : Nat} (hi : i < jobs.length) : Eo l jobs i ∧ F6 (atI l (atI jobs (i : Int)).task) ∧ Dq (atI l (atI jobs (i : Int)).task).Q (atI jobs (i : Int)).cuts (atI jobs (i : Int)).work = true := by
 simp only [legalB, Bool.and_eq_true, decide_eq_true_eq] at h
 obtain ⟨⟨f, h2⟩, h3⟩ := h
 obtain ⟨_, _, c⟩ := Dj f
 have d := Sd h3 i hi
 simp only [Gf, Bool.and_eq_true, decide_eq_true_eq] at d
 obtain ⟨e, g⟩ := d
 have a := e
 unfold Eo at a
 dsimp only at a
 exact ⟨e, c _ (Aj a.1.1 a.1.2), g⟩
theorem Ag8 {jobs : List Job} {t : Int} {a : Nat} (ha : (atI jobs (a : Int)).task = t) : ∀ {b : Nat}, a < b → (a : Int) ≤ Dc jobs t b
 | 0, h => by omega
 | b + 1, h => by
  unfold Dc
  split
  ·omega
  ·rename_i c
   have : a ≠ b := fun e => c (by rw [← e]; exact ha)
   exact Ag8 ha (by omega)
theorem Aqd {l : List Af} {jobs : List Job} (h : legalB l jobs = true) {a : Nat} : ∀ (b : Nat), a < b → b < jobs.length → (atI jobs (a : Int)).task = (atI jobs (b : Int)).task → (atI jobs (a : Int)).arrive + (atI l (atI jobs (b : Int)).task).T ≤ (atI jobs (b : Int)).arrive := by
 intro b
 induction b using Nat.strongRecOn with
 | _ b ih =>
  intro f r m
  obtain ⟨d, h2, s⟩ := Wa h r
  unfold Eo at d
  dsimp only at d
  have j := Ag8 (jobs := jobs) m f
  have g := Rg jobs (atI jobs (b : Int)).task b
  have c := Pb (jobs := jobs) (task := (atI jobs (b : Int)).task) (n := b) (by omega)
  obtain ⟨k, u⟩ : ∃ k : Nat, Dc jobs (atI jobs (b : Int)).task b = k := ⟨(Dc jobs (atI jobs (b : Int)).task b).toNat, by omega⟩
  rw [u] at d j g c
  have p := d.2.2.1 (by omega)
  by_cases e : a = k
  ·subst e; exact p
  ·have t := ih k (by omega) (by omega) (by omega) (by rw [m, c])
   rw [c] at t
   obtain ⟨⟨o, _⟩, _⟩ := AI h2 s
   simp only [Bh] at o
   omega
theorem Sk {l : List Af} {jobs : List Job} (h : legalB l jobs = true) : Script l jobs := by
 obtain ⟨z, h2, y⟩ := Ut h
 refine ⟨z, fun a b e g j => ?_, fun t u r s x p n => ?_⟩
 ·obtain ⟨f, n2, n3⟩ := Wa h g
  obtain ⟨c, m2, m3⟩ := Wa h (show a < jobs.length by omega)
  have h4 := Aqd h b e g j
  unfold Eo at f c
  dsimp only at f c
  have d : (atI jobs (a : Int)).task = (atI jobs (b : Int)).task := j
  rw [d] at c
  obtain ⟨o, v⟩ := n2
  simp only [Bh] at o
  unfold Jc at v
  show (atI jobs (a : Int)).release < (atI jobs (b : Int)).release
  omega
 ·obtain ⟨_, _, m⟩ := valid_iff.1 (show Qt l from y)
  obtain ⟨a, rfl⟩ : ∃ a : Nat, t = a := ⟨t.toNat, by omega⟩
  obtain ⟨b, rfl⟩ : ∃ b : Nat, u = b := ⟨u.toNat, by omega⟩
  rcases Nat.lt_trichotomy a b with h6 | h6 | h6
  ·exact absurd n (m a b h6 (by omega)).2
  ·rw [h6]
  ·exact absurd n.symm (m b a h6 (by omega)).2
end Go.L.Try
namespace Go.L.Try
open Go Go.L
def gcdI (a b : Int) : Int := ((Nat.gcd a.toNat b.toNat : Nat) : Int)
def lcmI (a b : Int) : Int := ((Nat.lcm a.toNat b.toNat : Nat) : Int)
def Dv : List Af → Int → Option Int
 | [], p => some p
 | t :: r, p => if lcmI p t.T < 18446744073709551616 then Dv r (lcmI p t.T) else none
def Bo (l : List Af) : Option Int := if l.all (fun t => decide (1 ≤ t.T)) = true then Dv l 1 else none
def manyP (T p : Int) : Nat := ((p + T - 1) / T).toNat
def Tx (i : Nat) (t : Af) (k : Nat) : Job := ⟨i, k * t.T, k * t.T, t.C, []⟩
def Jy (i : Nat) (t : Af) (n : Nat) : List Job := (List.range n).map (Tx i t)
def allH (l : List Af) (p : Int) : Nat → List Job
 | 0 => []
 | i + 1 => allH l p i ++ Jy i (atI l (i : Int)) (manyP (atI l (i : Int)).T p)
theorem Sl (i : Nat) (t : Af) (n : Nat) : Jy i t (n + 1) = Jy i t n ++ [Tx i t n] := by simp [Jy, List.range_succ]
theorem Q6 (i : Nat) (t : Af) (n : Nat) : (Jy i t n).length = n := by simp [Jy]
theorem Sq {T p : Int} (hT : 1 ≤ T) (k : Nat) : k < manyP T p ↔ (k : Int) * T < p := by
 unfold manyP
 have a : (k : Int) * T < p ↔ (k : Int) + 1 ≤ (p + T - 1) / T := by
  rw [Int.le_ediv_iff_mul_le (by omega)]
  rw [Int.add_mul]
  omega
 omega
theorem Acp {A B : List Job} {t : Int} {k : Nat} (hk : k ≤ A.length) : Dc (A ++ B) t k = Dc A t k := by
 have a := Z1 (jobs := A ++ B) (task := t) hk
 rw [List.take_left] at a
 exact a.symm
theorem Vi {A B : List Job} {i : Int} (h0 : 0 ≤ i) (h : i < A.length) : atI (A ++ B) i = atI A i := by
 unfold atI
 rw [List.getD_eq_getElem?_getD, List.getD_eq_getElem?_getD, GL (by omega)]
theorem Ajw {l : List Af} {A B : List Job} {i : Nat} (hi : i < A.length) : Gf l (A ++ B) i = Gf l A i := by
 have f : atI (A ++ B) (i : Int) = atI A (i : Int) := Vi (by omega) (by omega)
 have j : Dc (A ++ B) (atI A (i : Int)).task i = Dc A (atI A (i : Int)).task i := Acp (by omega)
 have g : Eo l (A ++ B) i ↔ Eo l A i := by
  unfold Eo
  dsimp only
  rw [f, j]
  have m := Rg A (atI A (i : Int)).task i
  constructor
  ·rintro ⟨a, b, c, d⟩
   exact ⟨a, b, fun e => by have := c e; rwa [Vi e (by omega)] at this, d⟩
  ·rintro ⟨a, b, c, d⟩
   exact ⟨a, b, fun e => by rw [Vi e (by omega)]; exact c e, d⟩
 unfold Gf
 rw [f]
 congr 1
 exact decide_eq_decide.2 g
theorem Ac8 {l : List Af} {A B : List Job} : ∀ {n : Nat}, n ≤ A.length → Iu l (A ++ B) n = Iu l A n
 | 0, _ => rfl
 | n + 1, h => by
  show (Iu l (A ++ B) n && Gf l (A ++ B) n) = (Iu l A n && Gf l A n)
  rw [Ac8 (by omega), Ajw (by omega)]
theorem Akk {l : List Af} {A : List Job} {j : Job} (hA : Iu l A A.length = true) (h1 : 0 ≤ j.task ∧ j.task < l.length) (h2 : 0 ≤ j.arrive ∧ j.arrive ≤ 17592186044416) (h3 : ∀ x ∈ A, x.task = j.task → x.arrive + (atI l j.task).T ≤ j.arrive) (h4 : j.arrive ≤ j.release) (h5 : j.release ≤ j.arrive + (atI l j.task).J) (h6 : 1 ≤ j.work) (h7 : j.work ≤ (atI l j.task).C) (h8 : Dq (atI l j.task).Q j.cuts j.work = true) : Iu l (A ++ [j]) (A ++ [j]).length = true := by
 rw [LA, List.length_singleton]
 show (Iu l (A ++ [j]) A.length && Gf l (A ++ [j]) A.length) = true
 rw [Ac8 (Nat.le_refl _), hA, Bool.true_and]
 have e : atI (A ++ [j]) (A.length : Int) = j := by rw [Ax (by simp)]; simp
 unfold Gf
 rw [e, h8, Bool.and_true, decide_eq_true_eq]
 unfold Eo
 dsimp only
 rw [e, Acp (Nat.le_refl _)]
 have c := Rg A j.task A.length
 refine ⟨h1, h2, fun a => ?_, h4, h5, h6, h7⟩
 rw [Vi a (by omega)]
 exact h3 _ (Aj a (by omega)) (Pb a)
def ofT (A : List Job) (t : Int) : Nat := A.countP fun j => decide (j.task = t)
theorem As9 (A : List Job) (j : Job) (t : Int) : ofT (A ++ [j]) t = ofT A t + if j.task = t then 1 else 0 := by
 unfold ofT
 rw [List.countP_append]
 congr 1
 by_cases h : j.task = t <;> simp [h]
theorem Wo {l : List Af} {p : Int} : ∀ {i : Nat} {x : Job}, x ∈ allH l p i → 0 ≤ x.task ∧ x.task < i
 | 0, x, h => by simp [allH] at h
 | i + 1, x, h => by
  rcases List.mem_append.1 h with h | h
  ·have := Wo h; omega
  ·obtain ⟨k, _, rfl⟩ := List.mem_map.1 h; simp only [Tx]; omega
theorem As8 {A : List Job} {t : Int} (h : ∀ x ∈ A, x.task ≠ t) : ofT A t = 0 := by
 unfold ofT
 rw [List.countP_eq_zero]
 intro x a; simpa using h x a
structure Laid17 (l : List Af) (A : List Job) : Prop where
 ok : Iu l A A.length = true
 nth : ∀ n : Nat, n < A.length → (atI A (n : Int)).release = (atI A (n : Int)).arrive ∧ (atI A (n : Int)).arrive = ofT (A.take n) (atI A (n : Int)).task * (atI l (atI A (n : Int)).task).T ∧ (atI A (n : Int)).work = (atI l (atI A (n : Int)).task).C ∧ (atI A (n : Int)).cuts = []
theorem Laid17.nil (l : List Af) : Laid17 l [] := ⟨rfl, fun n hn => by simp at hn⟩
theorem Laid17.snoc {l : List Af} {A : List Job} (hA : Laid17 l A) {i : Nat} (hi : i < l.length) (hok : F6 (atI l (i : Int))) {k : Nat} (hk : ofT A i = k) (hx : ∀ x ∈ A, x.task = i → x.arrive + (atI l (i : Int)).T ≤ k * (atI l (i : Int)).T) (hb : (k : Int) * (atI l (i : Int)).T ≤ 17592186044416) : Laid17 l (A ++ [Tx i (atI l (i : Int)) k]) := by
 obtain ⟨⟨_, _, m, g, d, o, j, f⟩, tf1, tf2, tf3⟩ := hok
 have a : 0 ≤ (k : Int) * (atI l (i : Int)).T := Int.mul_nonneg (by omega) (by omega)
 refine ⟨Akk hA.ok ⟨by simp [Tx], by simp [Tx]; omega⟩ ⟨a, hb⟩ hx (Int.le_refl _) (by simp only [Tx]; omega) (by simp only [Tx]; omega) (by simp only [Tx]; omega) rfl, fun n c => ?_⟩
 rw [LA, List.length_singleton] at c
 by_cases h : n < A.length
 ·rw [Vi (by omega) (by omega), List.take_append_of_le_length (by omega)]
  exact hA.nth n h
 ·have e : n = A.length := by omega
  subst e
  have e : atI (A ++ [Tx i (atI l (i : Int)) k]) (A.length : Int) = Tx i (atI l (i : Int)) k := by rw [Ax (by simp)]; simp
  rw [e, List.take_left]
  exact ⟨rfl, by rw [show (Tx i (atI l (i : Int)) k).task = i from rfl, hk]; rfl, rfl, rfl⟩
theorem Ark {l : List Af} {p : Int} (hok : ∀ t ∈ l, F6 t) (hp : p ≤ 17592186044416) {i : Nat} (hi : i < l.length) (hA : Laid17 l (allH l p i)) : ∀ k, k ≤ manyP (atI l (i : Int)).T p → Laid17 l (allH l p i ++ Jy i (atI l (i : Int)) k) ∧ ofT (allH l p i ++ Jy i (atI l (i : Int)) k) i = k := by
 have a := hok _ (Aj (l := l) (i := (i : Int)) (by omega) (by omega))
 have e := a.1
 simp only [Bh] at e
 intro k
 induction k with
 | zero =>
  intro _
  refine ⟨by simpa [Jy] using hA, ?_⟩
  rw [show allH l p i ++ Jy i (atI l (i : Int)) 0 = allH l p i by simp [Jy]]
  exact As8 fun x hx => by have := Wo hx; omega
 | succ k ih =>
  intro j
  obtain ⟨d, h2⟩ := ih (by omega)
  rw [Sl, ← List.append_assoc]
  have f := (Sq (T := (atI l (i : Int)).T) (p := p) (by omega) k).1 (by omega)
  refine ⟨d.snoc hi a h2 (fun x hx g => ?_) (by omega), ?_⟩
  ·rcases List.mem_append.1 hx with hx | hx
   ·have := Wo hx; omega
   ·obtain ⟨m, c, rfl⟩ := List.mem_map.1 hx
    have c := List.mem_range.1 c
    show (m : Int) * (atI l (i : Int)).T + (atI l (i : Int)).T ≤ k * (atI l (i : Int)).T
    have : ((m : Int) + 1) * (atI l (i : Int)).T ≤ k * (atI l (i : Int)).T := Int.mul_le_mul_of_nonneg_right (by omega) (by omega)
    rw [Int.add_mul] at this; omega
  ·rw [As9, h2]; simp [Tx]
theorem Ah7 {l : List Af} {p : Int} (hok : ∀ t ∈ l, F6 t) (hp : p ≤ 17592186044416) : ∀ i, i ≤ l.length → Laid17 l (allH l p i)
 | 0, _ => Laid17.nil l
 | i + 1, h => (Ark hok hp (by omega) (Ah7 hok hp i (by omega)) _ (Nat.le_refl _)).1
theorem Akl {l : List Af} {p : Int} (hv : Qt l) (hp : p ≤ 17592186044416) (hn : (allH l p l.length).length ≤ 4096) : legalB l (allH l p l.length) = true := by
 obtain ⟨_, _, a⟩ := Dj hv
 unfold legalB
 rw [(Ah7 a hp l.length (Nat.le_refl _)).ok, decide_eq_true ⟨hv, hn⟩]; rfl
theorem Ahg (a b : Int) (ha : 0 ≤ a) (hb : 0 < b) : gcdI b (a % b) = gcdI a b := by
 unfold gcdI
 have e : (a % b).toNat = a.toNat % b.toNat := by
  obtain ⟨x, rfl⟩ := Int.eq_ofNat_of_zero_le ha
  obtain ⟨y, rfl⟩ := Int.eq_ofNat_of_zero_le (Int.le_of_lt hb)
  rw [← Int.natCast_emod]; rfl
 rw [e, Nat.gcd_comm b.toNat, ← Nat.gcd_rec, Nat.gcd_comm]
theorem Aaa (a : Int) (ha : 0 ≤ a) : gcdI a 0 = a := by
 unfold gcdI
 simp; omega
theorem Am9 (a b : Int) (ha : 0 < a) (hb : 0 ≤ b) : 0 < gcdI a b ∧ gcdI a b ≤ a := by
 unfold gcdI
 have c : 0 < Nat.gcd a.toNat b.toNat := Nat.gcd_pos_of_pos_left _ (by omega)
 have h2 : Nat.gcd a.toNat b.toNat ≤ a.toNat := Nat.gcd_le_left _ (by omega)
 omega
theorem Am3 (a b : Int) (ha : 0 < a) (hb : 0 < b) : a / gcdI a b * b = lcmI a b := by
 obtain ⟨x, rfl⟩ := Int.eq_ofNat_of_zero_le (Int.le_of_lt ha)
 obtain ⟨y, rfl⟩ := Int.eq_ofNat_of_zero_le (Int.le_of_lt hb)
 unfold gcdI lcmI
 simp only [Int.toNat_natCast]
 rw [← Int.natCast_ediv, ← Int.natCast_mul]
 congr 1
 unfold Nat.lcm
 rw [Nat.div_mul_right_comm (Nat.gcd_dvd_left x y)]
theorem lcm_pos (a b : Int) (ha : 0 < a) (hb : 0 < b) : 0 < lcmI a b := by
 unfold lcmI
 have : 0 < Nat.lcm a.toNat b.toNat := Nat.lcm_pos (by omega) (by omega)
 omega
theorem lcm_dvd {a b c : Int} (ha : 0 < a) (hb : 0 < b) (hc : 0 < c) (h1 : a ∣ c) (h2 : b ∣ c) : lcmI a b ∣ c := by
 obtain ⟨x, rfl⟩ := Int.eq_ofNat_of_zero_le (Int.le_of_lt ha)
 obtain ⟨y, rfl⟩ := Int.eq_ofNat_of_zero_le (Int.le_of_lt hb)
 obtain ⟨z, rfl⟩ := Int.eq_ofNat_of_zero_le (Int.le_of_lt hc)
 unfold lcmI
 simp only [Int.toNat_natCast]
 rw [Int.natCast_dvd_natCast] at h1 h2 ⊢
 exact Nat.lcm_dvd h1 h2
theorem Ani {a b : Int} (ha : 0 < a) (hb : 0 < b) : a ∣ lcmI a b ∧ b ∣ lcmI a b := by
 obtain ⟨x, rfl⟩ := Int.eq_ofNat_of_zero_le (Int.le_of_lt ha)
 obtain ⟨y, rfl⟩ := Int.eq_ofNat_of_zero_le (Int.le_of_lt hb)
 unfold lcmI
 simp only [Int.toNat_natCast, Int.natCast_dvd_natCast]
 exact ⟨Nat.dvd_lcm_left x y, Nat.dvd_lcm_right x y⟩
theorem At6 : ∀ (l : List Af) (p : Int), (∀ t ∈ l, 0 < t.T ∧ t.T ∣ 24) → 0 < p → p ∣ 24 → ∃ q, Dv l p = some q ∧ 0 < q ∧ q ∣ 24 ∧ p ∣ q ∧ ∀ t ∈ l, t.T ∣ q
 | [], p, _, a, h2 => ⟨p, rfl, a, h2, Int.dvd_refl _, by simp⟩
 | t :: r, p, h, a, h2 => by
  obtain ⟨c, m⟩ := h t (by simp)
  have n := lcm_pos p t.T a c
  have d := lcm_dvd a c (by decide : (0 : Int) < 24) h2 m
  have v : lcmI p t.T ≤ 24 := Int.le_of_dvd (by decide) d
  obtain ⟨q, u, s, g, f, j⟩ := At6 r (lcmI p t.T) (fun t o => h t (by simp [o])) n d
  have e := Ani a c
  refine ⟨q, ?_, s, g, Int.dvd_trans e.1 f, fun x hx => ?_⟩
  ·rw [Dv, if_pos (by omega)]; exact u
  ·rcases List.mem_cons.1 hx with rfl | hx
   ·exact Int.dvd_trans e.2 f
   ·exact j x hx
theorem Arz {l : List Af} (h : ∀ t ∈ l, 0 < t.T ∧ t.T ∣ 24) : ∃ q, Bo l = some q ∧ 0 < q ∧ q ≤ 24 ∧ ∀ t ∈ l, t.T ∣ q := by
 obtain ⟨q, e, f, a, _, c⟩ := At6 l 1 h (by decide) (by decide)
 refine ⟨q, ?_, f, Int.le_of_dvd (by decide) a, c⟩
 unfold Bo
 rw [if_pos (List.all_eq_true.2 fun t d => by have := (h t d).1; simp; omega)]
 exact e
theorem Atm {T p : Int} (hT : 0 < T) (hp : 0 < p) (hd : T ∣ p) : (manyP T p : Int) * T = p := by
 obtain ⟨c, rfl⟩ := hd
 have a : 0 < c := by
  rcases Int.lt_or_le 0 c with h | h
  ·exact h
  ·have := Int.mul_nonpos_of_nonneg_of_nonpos (Int.le_of_lt hT) h; omega
 unfold manyP
 have e : (T * c + T - 1) / T = c := by
  rw [show T * c + T - 1 = (T - 1) + T * c by omega, Int.add_mul_ediv_left _ _ (by omega), Int.ediv_eq_zero_of_lt (by omega) (by omega)]
  omega
 rw [e, Int.mul_comm T c, Int.toNat_of_nonneg (by omega)]
end Go.L.Try
namespace Go.L.Try
open Go Go.L
theorem Aew {k : Int} : ∀ n : Nat, Df (fun _ => k) n = k * n
 | 0 => by simp [Df]
 | n + 1 => by simp only [Df, Aew n, Int.natCast_add, Int.natCast_one, Int.mul_add, Int.mul_one]
structure A0k (s : List Af) (jobs : List Job) (m : Nat) : Prop where
 legal : legalB s jobs = true
 len : jobs.length ≤ m
 sum : B9 jobs ≤ 4 * m
 work : ∀ j ∈ jobs, 1 ≤ j.work ∧ j.work ≤ 4
 task : ∀ j ∈ jobs, 0 ≤ j.task ∧ j.task < s.length
 small : ∀ j ∈ jobs, 0 ≤ j.arrive ∧ j.arrive ≤ m * 4294967296
end Go.L.Try
