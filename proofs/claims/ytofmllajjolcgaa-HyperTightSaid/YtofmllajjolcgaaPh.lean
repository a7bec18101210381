/- THE EXECUTIVE, PLAIN: what it does, step by step, is what the document's machine does tick by tick. -/
import Derived.Test.YtofmllajjolcgaaPb
import Derived.Test.YtofmllajjolcgaaPa
set_option linter.unusedVariables false
set_option linter.unusedSimpArgs false
set_option maxRecDepth 100000
set_option maxHeartbeats 1000000
namespace Go.L.Try
open Go Go.L
structure XS where
 coming : List Nat
 now : Int
 spans : List Span
 ends : List Int
 running : Option Nat
 Q : Int → Option (List Nat)
 ready : List Int
 left : Nat → Int
 sec : Nat → Int
 cuts : Nat → List Int
def XS.q (s : XS) (t : Int) : List Nat := (s.Q t).getD []
def at1 {α β : Type} [DecidableEq α] (f : α → β) (a : α) (b : β) : α → β := fun x => if x = a then b else f x
theorem at1_self {α β : Type} [DecidableEq α] {f : α → β} {a : α} {b : β} : at1 f a b a = b := if_pos rfl
theorem at1_ne {α β : Type} [DecidableEq α] {f : α → β} {a x : α} {b : β} (h : x ≠ a) : at1 f a b x = f x := if_neg h
abbrev jb (jobs : List Job) (i : Nat) : Job := atI jobs (i : Int)
def relOne (jobs : List Job) (s : XS) (i : Nat) (r : List Nat) : XS :=
 { s with coming := r, Q := at1 s.Q (jb jobs i).task (some (s.q (jb jobs i).task ++ [i])), ready := if s.q (jb jobs i).task = [] then (jb jobs i).task :: s.ready else s.ready, left := at1 s.left i (jb jobs i).work, sec := at1 s.sec i 0, cuts := at1 s.cuts i (jb jobs i).cuts }
def back (jobs : List Job) (s : XS) : XS := match s.running with
 | some i => { s with running := none, ready := (jb jobs i).task :: s.ready }
 | none => s
def chosen (s : XS) (rd : List Int) (i : Nat) : XS := match s.cuts i with
 | [] => { s with ready := rd, running := some i }
 | c :: cs => { s with ready := rd, running := some i, sec := at1 s.sec i c, cuts := at1 s.cuts i cs }
def addSpan (L : List Span) (r t n : Int) : List Span :=
 if 0 < (L.length : Int) ∧ (atI L ((L.length : Int) - 1)).job = r ∧ (atI L ((L.length : Int) - 1)).to' = t then L.set ((L.length : Int) - 1).toNat { atI L ((L.length : Int) - 1) with to' := (atI L ((L.length : Int) - 1)).to' + n } else L ++ [⟨r, t, t + n⟩]
def worked (jobs : List Job) (s : XS) (i : Nat) (n : Int) : XS :=
 if s.left i - n = 0 then
  { s with now := s.now + n, spans := addSpan s.spans i s.now n, left := at1 s.left i (s.left i - n), sec := at1 s.sec i (max (s.sec i - n) 0), ends := s.ends.set i (s.now + n), running := none, Q := at1 s.Q (jb jobs i).task (some (s.q (jb jobs i).task).tail), ready := if (s.q (jb jobs i).task).tail = [] then s.ready else (jb jobs i).task :: s.ready }
 else { s with now := s.now + n, spans := addSpan s.spans i s.now n, left := at1 s.left i (s.left i - n), sec := at1 s.sec i (max (s.sec i - n) 0) }
def nextX (jobs : List Job) (s : XS) : Int := match s.coming with
 | [] => 9223372036854775807
 | i :: _ => (jb jobs i).release
def sumI (l : List Int) : Int := l.foldr (· + ·) 0
theorem sumI_app (a b : List Int) : sumI (a ++ b) = sumI a + sumI b := by
 induction a with
 | nil => simp [sumI]
 | cons x r ih => simp only [sumI, List.cons_append, List.foldr_cons] at ih ⊢; omega
theorem sumI_cons (a : Int) (b : List Int) : sumI (a :: b) = a + sumI b := rfl
theorem sumI_nil : sumI [] = 0 := rfl
structure CutInv (cs : List Int) (done sec : Int) (rem : List Int) : Prop where
 is : ∃ pre, cs = pre ++ rem ∧ ((done + sec = sumI pre) ∨ (rem = [] ∧ sec = 0 ∧ sumI pre ≤ done)) ∧ (0 < sec → ∃ pre' c, pre = pre' ++ [c] ∧ sec ≤ c)
 nn : 0 ≤ sec
theorem cutsOk_pos {q : Int} : ∀ {cs : List Int} {w : Int}, cutsOk q cs w = true → ∀ c ∈ cs, 1 ≤ c
 | [], _, _, c, hc => by cases hc
 | x :: r, w, h, c, hc => by
  simp only [cutsOk, Bool.and_eq_true, decide_eq_true_eq] at h
  rcases List.mem_cons.1 hc with rfl | hc
  ·exact h.1.1
  ·exact cutsOk_pos h.2 c hc
theorem sumI_nonneg {l : List Int} (h : ∀ c ∈ l, 1 ≤ c) : 0 ≤ sumI l := by
 induction l with
 | nil => exact Int.le_refl _
 | cons x r ih => have := h x (by simp); have := ih fun c hc => h c (by simp [hc]); rw [sumI_cons]; omega
theorem within_app (pre rest : List Int) (a d : Int) : withinP (pre ++ rest) a d = (withinP pre a d || withinP rest (a + sumI pre) d) := by
 induction pre generalizing a with
 | nil => simp [withinP, sumI_nil]
 | cons x r ih => simp only [List.cons_append, withinP, ih, sumI_cons, Bool.or_assoc]; congr 2; rw [Int.add_assoc]
theorem within_below {l : List Int} {a d : Int} (h : ∀ c ∈ l, 1 ≤ c) (hd : d ≤ a) : withinP l a d = false := by
 induction l generalizing a with
 | nil => rfl
 | cons x r ih => have := h x (by simp); simp only [withinP, Bool.or_eq_false_iff, decide_eq_false_iff_not]; exact ⟨by omega, ih (fun c hc => h c (by simp [hc])) (by omega)⟩
theorem within_above {l : List Int} {a d : Int} (h : ∀ c ∈ l, 1 ≤ c) (hd : a + sumI l ≤ d) : withinP l a d = false := by
 induction l generalizing a with
 | nil => rfl
 | cons x r ih =>
  rw [sumI_cons] at hd
  have h1 := h x (by simp)
  have := sumI_nonneg fun c hc => h c (List.mem_cons_of_mem x hc)
  simp only [withinP, Bool.or_eq_false_iff, decide_eq_false_iff_not]; exact ⟨by omega, ih (fun c hc => h c (by simp [hc])) (by omega)⟩
theorem CutInv.out {cs : List Int} {done sec : Int} {rem : List Int} (h : CutInv cs done sec rem) (hc : ∀ c ∈ cs, 1 ≤ c) (h0 : sec = 0) : withinP cs 0 done = false := by
 obtain ⟨pre, rfl, h1, h2⟩ := h.is
 rw [within_app, Bool.or_eq_false_iff, Int.zero_add]
 rcases h1 with h1 | ⟨rfl, _, h1⟩
 ·exact ⟨within_above (fun c h => hc c (by simp [h])) (by omega), within_below (fun c h => hc c (by simp [h])) (by omega)⟩
 ·exact ⟨within_above (fun c h => hc c (by simp [h])) (by omega), rfl⟩
theorem CutInv.in_ {cs : List Int} {done sec : Int} {rem : List Int} (h : CutInv cs done sec rem) (h0 : 0 < sec) {k : Int} (hk : 0 < k) (hk2 : k < sec) : withinP cs 0 (done + k) = true := by
 obtain ⟨pre, rfl, h1, h2⟩ := h.is
 obtain ⟨pre', c, rfl, hc⟩ := h2 h0
 rw [within_app, within_app]
 rcases h1 with h1 | ⟨_, h1, _⟩
 ·rw [sumI_app, sumI_cons, sumI_nil] at h1
  have : withinP [c] (0 + sumI pre') (done + k) = true := by simp only [withinP, Bool.or_false, decide_eq_true_eq]; omega
  rw [this]; simp
 ·omega
theorem CutInv.work {cs : List Int} {done sec : Int} {rem : List Int} (h : CutInv cs done sec rem) {n : Int} (hn : 0 < n) (hh : n ≤ sec ∨ (sec = 0 ∧ rem = [])) : CutInv cs (done + n) (max (sec - n) 0) rem := by
 obtain ⟨pre, e, h1, h2⟩ := h.is
 have h3 := h.nn
 refine ⟨⟨pre, e, ?_, fun h4 => ?_⟩, by omega⟩
 ·rcases hh with hh | ⟨hh, hr⟩
  ·rcases h1 with h1 | ⟨_, h1, _⟩
   ·left; omega
   ·omega
  ·right
   refine ⟨hr, by omega, ?_⟩
   rcases h1 with h1 | ⟨_, _, h1⟩ <;> omega
 ·obtain ⟨p', c, e2, h5⟩ := h2 (by omega)
  exact ⟨p', c, e2, by omega⟩
theorem CutInv.next {cs : List Int} {done c : Int} {rem : List Int} (h : CutInv cs done 0 (c :: rem)) (hc : 0 ≤ c) : CutInv cs done c rem := by
 obtain ⟨pre, e, h1, h2⟩ := h.is
 refine ⟨⟨pre ++ [c], by simp [e], .inl ?_, fun _ => ⟨pre, c, rfl, Int.le_refl _⟩⟩, hc⟩
 rw [sumI_app, sumI_cons, sumI_nil]
 rcases h1 with h1 | ⟨h1, _⟩
 ·omega
 ·cases h1
theorem CutInv.new (cs : List Int) : CutInv cs 0 0 cs := ⟨⟨[], rfl, .inl rfl, fun h => absurd h (by decide)⟩, Int.le_refl _⟩
theorem addTick_one (L : List Span) (r t : Int) : addTick L r t = addSpan L r t 1 := rfl
theorem atI_snoc {α : Type} [Inhabited α] (L : List α) (x : α) : atI (L ++ [x]) (((L ++ [x]).length : Int) - 1) = x := by
 unfold atI
 rw [List.getD_eq_getElem?_getD, LA, List.length_singleton, show (((L.length + 1 : Nat) : Int) - 1).toNat = L.length by omega, List.getElem?_append_right (Nat.le_refl _), Nat.sub_self]; rfl
theorem atI_last_set {α : Type} [Inhabited α] {L : List α} (x : α) (h : 0 < (L.length : Int)) : atI (L.set ((L.length : Int) - 1).toNat x) ((L.length : Int) - 1) = x := by
 unfold atI
 rw [List.getD_eq_getElem?_getD, List.getElem?_set_self (by omega)]; rfl
theorem addTick_more (L : List Span) (r t k : Int) : addTick (addSpan L r t k) r (t + k) = addSpan L r t (k + 1) := by
 unfold addSpan
 split
 ·rename_i h
  obtain ⟨h1, h2, h3⟩ := h
  unfold addTick
  rw [List.length_set, atI_last_set _ h1, if_pos ⟨h1, h2, by show (atI L ((L.length : Int) - 1)).to' + k = t + k; omega⟩, List.set_set]
  congr 1
  simp only [Span.mk.injEq, true_and]; omega
 ·unfold addTick
  rw [atI_snoc, if_pos ⟨by simp, rfl, rfl⟩]
  rw [LA, List.length_singleton, show (((L.length + 1 : Nat) : Int) - 1).toNat = L.length by omega, List.set_append_right _ _ (Nat.le_refl _), Nat.sub_self]
  simp only [List.set_cons_zero]
  congr 3
  omega
def rsK (jobs : List Job) (r : RS) (i : Nat) (k : Nat) : RS :=
 {t := r.t + k, runs := if k = 0 then r.runs else i, done := r.done.set i (atI r.done (i : Int) + k), L := if k = 0 then r.L else addSpan r.L i r.t k,
  ends := if atI r.done (i : Int) + k = (jb jobs i).work then r.ends.set i (r.t + k) else r.ends,
  left := if atI r.done (i : Int) + k = (jb jobs i).work then r.left - 1 else r.left }
theorem set_self_at {l : List Int} {i : Nat} (h : i < l.length) : l.set i (atI l (i : Int)) = l := by
 rw [atI_nat h]; exact List.set_getElem_self h
theorem rsK_zero {jobs : List Job} {r : RS} {i : Nat} (hi : i < r.done.length) (h : atI r.done (i : Int) ≠ (jb jobs i).work) : rsK jobs r i 0 = r := by
 unfold rsK
 rw [show ((0 : Nat) : Int) = 0 from rfl, Int.add_zero, Int.add_zero, if_pos rfl, if_pos rfl, if_neg h, if_neg h, set_self_at hi]
theorem rsK_succ {jobs : List Job} {r : RS} {i k : Nat} (hi : i < r.done.length) (h : atI r.done (i : Int) + k < (jb jobs i).work) : rsWork jobs (rsK jobs r i k) i = rsK jobs r i (k + 1) := by
 have e1 : atI (rsK jobs r i k).done (i : Int) = atI r.done (i : Int) + k := by
  show atI (r.done.set i (atI r.done (i : Int) + k)) (i : Int) = _
  rw [atI_set hi, if_pos rfl]
 unfold rsWork
 rw [e1]
 have e2 : (rsK jobs r i k).ends = r.ends := by show (if _ then _ else _) = _; rw [if_neg (by omega)]
 have e3 : (rsK jobs r i k).left = r.left := by show (if _ then _ else _) = _; rw [if_neg (by omega)]
 have e4 : (rsK jobs r i k).t = r.t + k := rfl
 have e5 : ((i : Int)).toNat = i := by omega
 rw [e2, e3, e4, e5]
 unfold rsK
 simp only [List.set_set]
 have e6 : r.t + (k : Int) + 1 = r.t + ((k + 1 : Nat) : Int) := by omega
 have e7 : atI r.done (i : Int) + (k : Int) + 1 = atI r.done (i : Int) + ((k + 1 : Nat) : Int) := by omega
 rw [e6, e7, if_neg (Nat.succ_ne_zero k)]
 have e8 : addTick (if k = 0 then r.L else addSpan r.L i r.t k) i (r.t + k) = if k + 1 = 0 then r.L else addSpan r.L i r.t ((k + 1 : Nat) : Int) := by
  rw [if_neg (Nat.succ_ne_zero k)]
  by_cases hk : k = 0
  ·subst hk; rw [if_pos rfl, addTick_one]; congr 1; simp
  ·rw [if_neg hk, addTick_more]; congr 1
 rw [e8]
theorem rs_many {l : List Task} {jobs : List Job} {e : Int} (hj : JobsOk l jobs) {r : RS} (hi : RsInv jobs r) {i : Nat} (hin : i < jobs.length) :
  ∀ n : Nat, (∀ k : Nat, k < n → rsOn e (rsK jobs r i k) ∧ rsRuns l jobs (rsK jobs r i k) = i ∧ atI r.done (i : Int) + k < (jb jobs i).work) → atI r.done (i : Int) < (jb jobs i).work →
   RsInv jobs (rsK jobs r i n) ∧ untilP l jobs e r = untilP l jobs e (rsK jobs r i n) ∧ rsLeft jobs (rsK jobs r i n) + n ≤ rsLeft jobs r
 | 0, _, h0 => by rw [rsK_zero (by rw [hi.dlen]; exact hin) (by omega)]; exact ⟨hi, rfl, Nat.le_refl _⟩
 | n + 1, h, h0 => by
  obtain ⟨h1, h2, h3⟩ := rs_many hj hi hin n (fun k hk => h k (by omega)) h0
  obtain ⟨h4, h5, h6⟩ := h n (by omega)
  have hs : rsStep l jobs (rsK jobs r i n) = rsK jobs r i (n + 1) := by
   unfold rsStep
   rw [h5, if_neg (by omega), rsK_succ (by rw [hi.dlen]; exact hin) h6]
  have h7 := rsStep_ok hj h1 h4
  have h8 := untilP_step hj h1 h4
  rw [hs] at h7 h8
  exact ⟨h7.1, h2.trans h8, by omega⟩
theorem rs_idle {l : List Task} {jobs : List Job} {e : Int} (hj : JobsOk l jobs) {r : RS} (hi : RsInv jobs r) (hr : r.runs < 0 ∨ withinP (atI jobs r.runs).cuts 0 (atI r.done r.runs) = false) :
  ∀ n : Nat, (∀ k : Nat, k < n → (e < 0 ∨ r.t + k < e) ∧ 0 < r.left ∧ pickN l jobs r.done (r.t + k) jobs.length < 0) →
   let r' := if n = 0 then r else { r with t := r.t + n, runs := -1 }
   RsInv jobs r' ∧ untilP l jobs e r = untilP l jobs e r' ∧ rsLeft jobs r' + n ≤ rsLeft jobs r
 | 0, _ => ⟨hi, rfl, Nat.le_refl _⟩
 | n + 1, h => by
  obtain ⟨h1, h2, h3⟩ := rs_idle hj hi hr n (fun k hk => h k (by omega))
  obtain ⟨h4, h5, h6⟩ := h n (by omega)
  dsimp only at h1 h2 h3 ⊢
  rw [if_neg (Nat.succ_ne_zero n)]
  generalize hr' : (if n = 0 then r else { r with t := r.t + n, runs := -1 } : RS) = r' at h1 h2 h3
  have ht : r'.t = r.t + n := by
   rw [← hr']; split
   ·rename_i e; subst e; simp
   ·rfl
  have hl : r'.left = r.left := by rw [← hr']; split <;> rfl
  have hd : r'.done = r.done := by rw [← hr']; split <;> rfl
  have hL : r'.L = r.L := by rw [← hr']; split <;> rfl
  have he : r'.ends = r.ends := by rw [← hr']; split <;> rfl
  have hrr : r'.runs < 0 ∨ withinP (atI jobs r'.runs).cuts 0 (atI r'.done r'.runs) = false := by
   rw [← hr']; split
   ·exact hr
   ·exact .inl (by show (-1 : Int) < 0; decide)
  have hon : rsOn e r' := ⟨by omega, by rw [ht]; exact h4⟩
  have hruns : rsRuns l jobs r' = -1 := by
   unfold rsRuns
   rw [if_pos hrr, hd, ht]
   have := (pickN_in l jobs r.done (r.t + n) jobs.length).1
   omega
  have hs : rsStep l jobs r' = { r with t := r.t + ((n + 1 : Nat) : Int), runs := -1 } := by
   unfold rsStep
   rw [hruns, if_pos (by decide), ht]
   cases r; cases r'
   simp only at hl hd hL he ⊢
   subst hl hd hL he
   simp only [RS.mk.injEq, and_true]
   omega
  have h7 := rsStep_ok hj h1 hon
  have h8 := untilP_step hj h1 hon
  rw [hs] at h7 h8
  exact ⟨h7.1, h2.trans h8, by omega⟩
theorem pickN_is {l : List Task} {jobs : List Job} {done : List Int} {t : Int} {i : Nat} (hc : (jb jobs i).release ≤ t ∧ atI done (i : Int) < (jb jobs i).work) {n : Nat} (hi : i < n)
  (hb : ∀ k : Nat, k < n → (jb jobs k).release ≤ t → atI done (k : Int) < (jb jobs k).work → (atI l (jb jobs i).task).P < (atI l (jb jobs k).task).P ∨ ((atI l (jb jobs i).task).P ≤ (atI l (jb jobs k).task).P ∧ i ≤ k)) : pickN l jobs done t n = i := by
 have low : ∀ m : Nat, m ≤ i → pickN l jobs done t m < 0 ∨ (atI l (jb jobs i).task).P < (atI l (atI jobs (pickN l jobs done t m)).task).P := by
  intro m
  induction m with
  | zero => intro _; exact .inl (by simp [pickN])
  | succ m ih =>
   intro hm
   unfold pickN
   split
   ·rename_i h
    right
    rcases hb m (by omega) h.1 h.2.1 with h1 | h1
    ·exact h1
    ·omega
   ·exact ih (by omega)
 have up : ∀ m : Nat, i < m → m ≤ n → pickN l jobs done t m = i := by
  intro m
  induction m with
  | zero => intro h; omega
  | succ m ih =>
   intro h1 h2
   unfold pickN
   by_cases e : m = i
   ·subst e
    rw [if_pos ⟨hc.1, hc.2, low m (Nat.le_refl _)⟩]
   ·rw [ih (by omega) (by omega), if_neg]
    rintro ⟨h3, h4, h5 | h5⟩
    ·omega
    ·rcases hb m (by omega) h3 h4 with h6 | h6
     ·have : (atI l (jb jobs m).task).P < (atI l (jb jobs i).task).P := h5
      omega
     ·have : (atI l (jb jobs m).task).P < (atI l (jb jobs i).task).P := h5
      omega
 exact up n hi (Nat.le_refl _)
theorem pickN_no {l : List Task} {jobs : List Job} {done : List Int} {t : Int} {n : Nat} (h : ∀ k : Nat, k < n → (jb jobs k).release ≤ t → ¬ atI done (k : Int) < (jb jobs k).work) : pickN l jobs done t n < 0 := by
 rcases Int.lt_or_le (pickN l jobs done t n) 0 with h1 | h1
 ·exact h1
 ·have h2 := pickN_some h1
  have h3 := (pickN_in l jobs done t n).2
  obtain ⟨k, hk⟩ : ∃ k : Nat, pickN l jobs done t n = k := ⟨(pickN l jobs done t n).toNat, by omega⟩
  rw [hk] at h2 h3
  exact absurd h2.2 (h k (by omega) h2.1)
end Go.L.Try
namespace Go.L.Try
open Go Go.L
structure Script (l : List Task) (jobs : List Job) : Prop where
 ok : JobsOk l jobs
 mono : ∀ a b : Nat, a < b → b < jobs.length → (jb jobs a).task = (jb jobs b).task → (jb jobs a).release < (jb jobs b).release
 prio : ∀ t u : Int, 0 ≤ t → t < l.length → 0 ≤ u → u < l.length → (atI l t).P = (atI l u).P → t = u
def ltO (jobs : List Job) (a b : Nat) : Prop := (jb jobs a).release < (jb jobs b).release ∨ ((jb jobs a).release = (jb jobs b).release ∧ a < b)
structure SimC (jobs : List Job) (s : XS) (r : RS) : Prop where
 t : r.t = s.now
 L : r.L = s.spans
 ends : r.ends = s.ends
 coming : ∀ i ∈ s.coming, i < jobs.length ∧ atI r.done (i : Int) = 0
 sorted : s.coming.Pairwise (ltO jobs)
 ord : ∀ k, k < jobs.length → k ∉ s.coming → ∀ i ∈ s.coming, ltO jobs k i
 mem : ∀ t i, i ∈ s.q t ↔ (i < jobs.length ∧ (jb jobs i).task = t ∧ i ∉ s.coming ∧ atI r.done (i : Int) < (jb jobs i).work)
 asc : ∀ t, (s.q t).Pairwise (· < ·)
 rel : ∀ i, i < jobs.length → i ∉ s.coming → (jb jobs i).release ≤ s.now
 run : ∀ i, s.running = some i → ∃ rest, s.q (jb jobs i).task = i :: rest
 nodup : s.ready.Nodup
 ready : ∀ t, t ∈ s.ready ↔ (s.q t ≠ [] ∧ ∀ i, s.running = some i → (jb jobs i).task ≠ t)
 left : ∀ t, ∀ i ∈ s.q t, s.left i = (jb jobs i).work - atI r.done (i : Int)
 cut : ∀ t, ∀ i ∈ s.q t, CutInv (jb jobs i).cuts (atI r.done (i : Int)) (s.sec i) (s.cuts i)
 sec0 : ∀ t, ∀ i ∈ s.q t, s.running ≠ some i → s.sec i = 0
structure Sim0 (jobs : List Job) (s : XS) (r : RS) : Prop extends SimC jobs s r where
 runs : ∀ i, s.running = some i → r.runs = i
 norun : s.running = none → (r.runs < 0 ∨ withinP (atI jobs r.runs).cuts 0 (atI r.done r.runs) = false)
 within : ∀ i, s.running = some i → 0 < s.sec i → withinP (jb jobs i).cuts 0 (atI r.done (i : Int)) = true
theorem ltO_irr {jobs : List Job} {a : Nat} : ¬ ltO jobs a a := by unfold ltO; omega
theorem cutsOk_sum {q : Int} : ∀ {cs : List Int} {w : Int}, cutsOk q cs w = true → 0 ≤ w → sumI cs ≤ w
 | [], w, _, h => h
 | x :: r, w, h, hw => by
  simp only [cutsOk, Bool.and_eq_true, decide_eq_true_eq] at h
  have := cutsOk_sum h.2 (by omega)
  rw [sumI_cons]; omega
variable {l : List Task} {jobs : List Job} {s : XS} {r : RS} {e : Int}
theorem jb_mem {i : Nat} (h : i < jobs.length) : jb jobs i ∈ jobs := atI_mem (by omega) (by omega)
theorem Script.cuts (S : Script l jobs) {i : Nat} (h : i < jobs.length) : (∀ c ∈ (jb jobs i).cuts, 1 ≤ c) ∧ sumI (jb jobs i).cuts ≤ (jb jobs i).work := by
 obtain ⟨q, hq⟩ := S.ok.cuts _ (jb_mem h)
 exact ⟨cutsOk_pos hq, cutsOk_sum hq (by have := (S.ok.work _ (jb_mem h)).1; omega)⟩
theorem sim_rel (S : Script l jobs) (h : SimC jobs s r) {i : Nat} {rest : List Nat} (hc : s.coming = i :: rest) (hr : (jb jobs i).release ≤ s.now) : SimC jobs (relOne jobs s i rest) r := by
 have hi := h.coming i (by rw [hc]; simp)
 have hs := h.sorted
 rw [hc, List.pairwise_cons] at hs
 have hnot : i ∉ rest := fun hm => ltO_irr (hs.1 i hm)
 have hw := (S.ok.work _ (jb_mem hi.1)).1
 have hq : ∀ t, (relOne jobs s i rest).q t = if t = (jb jobs i).task then s.q (jb jobs i).task ++ [i] else s.q t := fun t => by
  unfold XS.q relOne
  by_cases e : t = (jb jobs i).task
  ·subst e; rw [if_pos rfl]; dsimp only; rw [at1_self]; rfl
  ·rw [if_neg e]; dsimp only; rw [at1_ne e]
 have hni : ∀ t, i ∉ s.q t := fun t hm => ((h.mem t i).1 hm).2.2.1 (by rw [hc]; simp)
 have hmq : ∀ {t k}, k ∈ (relOne jobs s i rest).q t → k = i ∨ (k ≠ i ∧ k ∈ s.q t) := fun {t k} hm => by
  rw [hq] at hm
  by_cases e : k = i
  ·exact .inl e
  ·right
   refine ⟨e, ?_⟩
   split at hm
   ·rename_i et
    subst et
    rcases List.mem_append.1 hm with hm | hm
    ·exact hm
    ·exact absurd (List.mem_singleton.1 hm) e
   ·exact hm
 refine { t := h.t, L := h.L, ends := h.ends, coming := fun k hk => h.coming k (by rw [hc]; exact List.mem_cons_of_mem _ hk), sorted := hs.2, ord := ?_, mem := ?_, asc := ?_, rel := ?_, run := ?_, nodup := ?_, ready := ?_, left := ?_, cut := ?_, sec0 := ?_ }
 ·intro k hk hn j hj
  by_cases e : k = i
  ·subst e; exact hs.1 j hj
  ·exact h.ord k hk (by rw [hc]; intro hm; rcases List.mem_cons.1 hm with hm | hm; exact e hm; exact hn hm) j (by rw [hc]; exact List.mem_cons_of_mem _ hj)
 ·intro t k
  rw [hq]
  by_cases e : k = i
  ·subst e
   constructor
   ·intro hm
    split at hm
    ·rename_i et; exact ⟨hi.1, et.symm, hnot, by rw [hi.2]; omega⟩
    ·exact absurd hm (hni t)
   ·rintro ⟨_, et, _, _⟩
    rw [if_pos et.symm]; simp
  ·have hm0 := h.mem t k
   rw [hc] at hm0
   constructor
   ·intro hm
    have : k ∈ s.q t := by
     split at hm
     ·rename_i et
      subst et
      rcases List.mem_append.1 hm with hm | hm
      ·exact hm
      ·exact absurd (List.mem_singleton.1 hm) e
     ·exact hm
    obtain ⟨a, b, c, d⟩ := hm0.1 this
    exact ⟨a, b, fun hm => c (List.mem_cons_of_mem _ hm), d⟩
   ·rintro ⟨a, b, c, d⟩
    have hm := hm0.2 ⟨a, b, fun hm => by rcases List.mem_cons.1 hm with hm | hm; exact e hm; exact c hm, d⟩
    split
    ·rename_i et; subst et; exact List.mem_append_left _ hm
    ·exact hm
 ·intro t
  rw [hq]
  split
  ·refine List.pairwise_append.2 ⟨h.asc _, List.pairwise_singleton _ _, fun k hk j hj => ?_⟩
   rw [List.mem_singleton.1 hj]
   obtain ⟨a, b, c, d⟩ := (h.mem _ _).1 hk
   have h1 := h.ord k a c i (by rw [hc]; simp)
   rcases Nat.lt_trichotomy k i with h2 | h2 | h2
   ·exact h2
   ·subst h2; exact absurd h1 ltO_irr
   ·have := S.mono i k h2 a b.symm
    unfold ltO at h1; omega
  ·exact h.asc t
 ·intro k hk hn
  by_cases e : k = i
  ·subst e; exact hr
  ·exact h.rel k hk (by rw [hc]; intro hm; rcases List.mem_cons.1 hm with hm | hm; exact e hm; exact hn hm)
 ·intro k hk
  obtain ⟨rest', h1⟩ := h.run k hk
  rw [hq]
  split
  ·rename_i et
   rw [← et, h1]; exact ⟨rest' ++ [i], rfl⟩
  ·exact ⟨rest', h1⟩
 ·show (if s.q (jb jobs i).task = [] then (jb jobs i).task :: s.ready else s.ready).Nodup
  split
  ·rename_i hq0
   exact List.nodup_cons.2 ⟨fun hm => ((h.ready _).1 hm).1 hq0, h.nodup⟩
  ·exact h.nodup
 ·intro t
  show t ∈ (if s.q (jb jobs i).task = [] then (jb jobs i).task :: s.ready else s.ready) ↔ _
  rw [hq]
  have hr0 := h.ready t
  by_cases e : t = (jb jobs i).task
  ·subst e
   rw [if_pos rfl]
   constructor
   ·intro hm
    refine ⟨by simp, fun k hk he => ?_⟩
    obtain ⟨rest', h1⟩ := h.run k hk
    rw [he] at h1
    rw [if_neg (by rw [h1]; simp)] at hm
    exact (hr0.1 hm).2 k hk he
   ·rintro ⟨_, h2⟩
    split
    ·simp
    ·rename_i hq0; exact hr0.2 ⟨hq0, h2⟩
  ·rw [if_neg e]
   have : t ∈ (if s.q (jb jobs i).task = [] then (jb jobs i).task :: s.ready else s.ready) ↔ t ∈ s.ready := by
    split
    ·simp [e]
    ·rfl
   rw [this]; exact hr0
 ·intro t k hk
  show at1 s.left i (jb jobs i).work k = _
  rcases hmq hk with rfl | ⟨e, hm⟩
  ·rw [at1_self, hi.2]; omega
  ·rw [at1_ne e]; exact h.left t k hm
 ·intro t k hk
  show CutInv _ _ (at1 s.sec i 0 k) (at1 s.cuts i (jb jobs i).cuts k)
  rcases hmq hk with rfl | ⟨e, hm⟩
  ·rw [at1_self, at1_self, hi.2]; exact CutInv.new _
  ·rw [at1_ne e, at1_ne e]; exact h.cut t k hm
 ·intro t k hk hn
  show at1 s.sec i 0 k = 0
  rcases hmq hk with rfl | ⟨e, hm⟩
  ·rw [at1_self]
  ·rw [at1_ne e]; exact h.sec0 t k hm hn
theorem sim_rel0 (S : Script l jobs) (h : Sim0 jobs s r) {i : Nat} {rest : List Nat} (hc : s.coming = i :: rest) (hr : (jb jobs i).release ≤ s.now) : Sim0 jobs (relOne jobs s i rest) r := by
 refine { sim_rel S h.toSimC hc hr with runs := h.runs, norun := h.norun, within := fun k hk hs => ?_ }
 have hk' : s.running = some k := hk
 obtain ⟨rest', h1⟩ := h.run k hk'
 have hm := ((h.mem _ k).1 (by rw [h1]; simp : k ∈ s.q (jb jobs k).task)).2.2.1
 have e : k ≠ i := fun e => hm (by rw [hc, e]; simp)
 have hs' : 0 < at1 s.sec i 0 k := hs
 rw [at1_ne e] at hs'
 exact h.within k hk' hs'
theorem sim_choose (S : Script l jobs) (h : Sim0 jobs s r) (hn : ∀ i ∈ s.coming, s.now < (jb jobs i).release) (hin : ∀ i, s.running = some i → s.sec i = 0) {t : Int} {rd : List Int} (hp : (t :: rd).Perm (back jobs s).ready) (hmin : ∀ u ∈ (back jobs s).ready, (atI l t).P ≤ (atI l u).P) :
  ∃ i rest, s.q t = i :: rest ∧ (jb jobs i).task = t ∧ SimC jobs (chosen (back jobs s) rd i) r ∧ rsRuns l jobs r = i ∧ (chosen (back jobs s) rd i).running = some i ∧ (∀ u, s.q u ≠ [] → (atI l t).P ≤ (atI l u).P) ∧ (0 < (chosen (back jobs s) rd i).sec i ∨ ((chosen (back jobs s) rd i).sec i = 0 ∧ (chosen (back jobs s) rd i).cuts i = [])) := by
 have hq : ∀ u, (back jobs s).q u = s.q u := fun u => by unfold back; split <;> rfl
 have hb : ∀ u, u ∈ (back jobs s).ready ↔ s.q u ≠ [] := fun u => by
  unfold back
  cases hr : s.running with
  | none =>
   have := h.ready u
   simp only [hr] at this ⊢
   rw [this]; simp
  | some i =>
   obtain ⟨rest, h1⟩ := h.run i hr
   have := h.ready u
   simp only [hr] at this ⊢
   rw [List.mem_cons, this]
   constructor
   ·rintro (rfl | h2)
    ·rw [h1]; simp
    ·exact h2.1
   ·intro h2
    by_cases e : u = (jb jobs i).task
    ·exact .inl e
    ·exact .inr ⟨h2, fun k hk => by cases hk; exact fun e' => e e'.symm⟩
 have ht : t ∈ (back jobs s).ready := hp.mem_iff.1 (by simp)
 have htq := (hb t).1 ht
 obtain ⟨i, rest, hqt⟩ : ∃ i rest, s.q t = i :: rest := by
  cases hh : s.q t with
  | nil => exact absurd hh htq
  | cons i rest => exact ⟨i, rest, rfl⟩
 have him : i ∈ s.q t := by rw [hqt]; simp
 obtain ⟨hi1, hi2, hi3, hi4⟩ := (h.mem t i).1 him
 have hsec : ∀ u, ∀ k ∈ s.q u, s.sec k = 0 := fun u k hk => by
  by_cases e : s.running = some k
  ·exact hin k e
  ·exact h.sec0 u k hk e
 have hnd : (back jobs s).ready.Nodup := by
  unfold back
  cases hr : s.running with
  | none => exact h.nodup
  | some k => exact List.nodup_cons.2 ⟨fun hm => ((h.ready _).1 hm).2 k hr rfl, h.nodup⟩
 have hnd2 := hp.nodup_iff.2 hnd
 rw [List.nodup_cons] at hnd2
 have hrd : ∀ u, u ∈ rd ↔ s.q u ≠ [] ∧ t ≠ u := fun u => by
  have := hp.mem_iff (a := u)
  rw [hb, List.mem_cons] at this
  rw [← this]
  constructor
  ·intro hu; exact ⟨.inr hu, fun e => hnd2.1 (by rw [e]; exact hu)⟩
  ·rintro ⟨rfl | hu, e⟩
   ·exact absurd rfl e
   ·exact hu
 have hmin2 : ∀ u, s.q u ≠ [] → (atI l t).P ≤ (atI l u).P := fun u hu => hmin u ((hb u).2 hu)
 have hruns : rsRuns l jobs r = i := by
  have hout : r.runs < 0 ∨ withinP (atI jobs r.runs).cuts 0 (atI r.done r.runs) = false := by
   cases hr : s.running with
   | none => exact h.norun hr
   | some k =>
    obtain ⟨rest', h1⟩ := h.run k hr
    have hk : k ∈ s.q (jb jobs k).task := by rw [h1]; simp
    have h2 := h.cut _ k hk
    rw [h.runs k hr]
    exact .inr (h2.out (S.cuts ((h.mem _ _).1 hk).1).1 (hin k hr))
  unfold rsRuns
  rw [if_pos hout]
  refine pickN_is ⟨by rw [h.t]; exact h.rel i hi1 hi3, hi4⟩ hi1 fun k hk h1 h2 => ?_
  have hkc : k ∉ s.coming := fun hm => by have := hn k hm; rw [h.t] at h1; omega
  have hkm : k ∈ s.q (jb jobs k).task := (h.mem _ _).2 ⟨hk, rfl, hkc, h2⟩
  have hle := hmin2 (jb jobs k).task (by intro e; rw [e] at hkm; cases hkm)
  rw [hi2]
  by_cases e : (jb jobs k).task = t
  ·right
   rw [e] at hkm ⊢
   refine ⟨Int.le_refl _, ?_⟩
   rw [hqt] at hkm
   rcases List.mem_cons.1 hkm with rfl | hkm
   ·exact Nat.le_refl _
   ·have := h.asc t
    rw [hqt, List.pairwise_cons] at this
    exact Nat.le_of_lt (this.1 k hkm)
  ·left
   have ht1 := S.ok.task _ (jb_mem hi1)
   have ht2 := S.ok.task _ (jb_mem hk)
   rw [hi2] at ht1
   have hne : ¬ (atI l (jb jobs k).task).P = (atI l t).P := fun h => e (S.prio _ _ ht2.1 ht2.2 ht1.1 ht1.2 h)
   omega
 have hcv := h.cut t i him
 rw [hsec t i him] at hcv
 have hbn : ∀ k, (back jobs s).running = some k → False := fun k => by unfold back; split <;> simp_all
 have hbs : (back jobs s).sec = s.sec ∧ (back jobs s).cuts = s.cuts ∧ (back jobs s).left = s.left ∧ (back jobs s).coming = s.coming ∧ (back jobs s).now = s.now ∧ (back jobs s).spans = s.spans ∧ (back jobs s).ends = s.ends := by unfold back; split <;> exact ⟨rfl, rfl, rfl, rfl, rfl, rfl, rfl⟩
 generalize hB : back jobs s = B at *
 obtain ⟨b1, b2, b3, b4, b5, b6, b7⟩ := hbs
 have hready : ∀ u, u ∈ rd ↔ (B.q u ≠ [] ∧ ∀ k, some i = some k → (jb jobs k).task ≠ u) := fun u => by
  rw [hrd, hq]
  constructor
  ·rintro ⟨h1, h2⟩; exact ⟨h1, fun k hk => by cases hk; rw [hi2]; exact h2⟩
  ·rintro ⟨h1, h2⟩; exact ⟨h1, by have := h2 i rfl; rwa [hi2] at this⟩
 refine ⟨i, rest, hqt, hi2, ?_⟩
 unfold chosen
 rw [b2]
 cases hcc : s.cuts i with
 | nil =>
  refine ⟨?_, hruns, rfl, hmin2, .inr ⟨by show B.sec i = 0; rw [b1]; exact hsec t i him, by show s.cuts i = []; exact hcc⟩⟩
  refine { t := by rw [h.t]; exact b5.symm, L := by rw [h.L]; exact b6.symm, ends := by rw [h.ends]; exact b7.symm, coming := ?_, sorted := ?_, ord := ?_, mem := ?_, asc := ?_, rel := ?_, run := ?_, nodup := hnd2.2, ready := hready, left := ?_, cut := ?_, sec0 := ?_ }
  ·dsimp only; rw [b4]; exact h.coming
  ·dsimp only; rw [b4]; exact h.sorted
  ·dsimp only; rw [b4]; exact h.ord
  ·intro u k; show k ∈ B.q u ↔ _; dsimp only; rw [hq, b4]; exact h.mem u k
  ·intro u; show (B.q u).Pairwise _; rw [hq]; exact h.asc u
  ·dsimp only; rw [b4, b5]; exact h.rel
  ·intro k hk; cases hk; show ∃ rest, B.q _ = _; rw [hi2, hq, hqt]; exact ⟨rest, rfl⟩
  ·intro u k hk; have hk' : k ∈ B.q u := hk; rw [hq] at hk'; show B.left k = _; rw [b3]; exact h.left u k hk'
  ·intro u k hk; have hk' : k ∈ B.q u := hk; rw [hq] at hk'; show CutInv _ _ (B.sec k) (s.cuts k); rw [b1]; exact h.cut u k hk'
  ·intro u k hk _; have hk' : k ∈ B.q u := hk; rw [hq] at hk'; show B.sec k = 0; rw [b1]; exact hsec u k hk'
 | cons c cs =>
  rw [hcc] at hcv
  have hc1 : 1 ≤ c := by
   obtain ⟨pre, e, _⟩ := hcv.is
   exact (S.cuts hi1).1 c (by rw [e]; simp)
  refine ⟨?_, hruns, rfl, hmin2, .inl (by show 0 < at1 B.sec i c i; rw [at1_self]; omega)⟩
  refine { t := by rw [h.t]; exact b5.symm, L := by rw [h.L]; exact b6.symm, ends := by rw [h.ends]; exact b7.symm, coming := ?_, sorted := ?_, ord := ?_, mem := ?_, asc := ?_, rel := ?_, run := ?_, nodup := hnd2.2, ready := hready, left := ?_, cut := ?_, sec0 := ?_ }
  ·dsimp only; rw [b4]; exact h.coming
  ·dsimp only; rw [b4]; exact h.sorted
  ·dsimp only; rw [b4]; exact h.ord
  ·intro u k; show k ∈ B.q u ↔ _; dsimp only; rw [hq, b4]; exact h.mem u k
  ·intro u; show (B.q u).Pairwise _; rw [hq]; exact h.asc u
  ·dsimp only; rw [b4, b5]; exact h.rel
  ·intro k hk; cases hk; show ∃ rest, B.q _ = _; rw [hi2, hq, hqt]; exact ⟨rest, rfl⟩
  ·intro u k hk; have hk' : k ∈ B.q u := hk; rw [hq] at hk'; show B.left k = _; rw [b3]; exact h.left u k hk'
  ·intro u k hk
   have hk' : k ∈ B.q u := hk
   rw [hq] at hk'
   show CutInv _ _ (at1 B.sec i c k) (at1 s.cuts i cs k)
   by_cases ek : k = i
   ·subst ek; rw [at1_self, at1_self]; exact hcv.next (by omega)
   ·rw [at1_ne ek, at1_ne ek, b1]; exact h.cut u k hk'
  ·intro u k hk hne
   have hk' : k ∈ B.q u := hk
   rw [hq] at hk'
   have ek : k ≠ i := fun e => hne (by rw [e])
   show at1 B.sec i c k = 0
   rw [at1_ne ek, b1]; exact hsec u k hk'
theorem sim_inside (h : Sim0 jobs s r) {i : Nat} (hr : s.running = some i) (hs : 0 < s.sec i) : rsRuns l jobs r = i := by
 have h1 := h.runs i hr
 have h2 := h.within i hr hs
 unfold rsRuns
 rw [h1, if_neg]
 rintro (h3 | h3)
 ·omega
 ·have : withinP (jb jobs i).cuts 0 (atI r.done (i : Int)) = false := h3
  rw [h2] at this; cases this
theorem sumN_ge {f : Nat → Int} {n i : Nat} (h : ∀ k, k < n → 0 ≤ f k) (hi : i < n) : f i ≤ sumN f n := by
 induction n with
 | zero => omega
 | succ n ih =>
  have h1 := sumN_nonneg (f := f) (n := n) fun k hk => h k (by omega)
  have h2 := h n (by omega)
  simp only [sumN]
  by_cases e : i = n
  ·subst e; omega
  ·have := ih (fun k hk => h k (by omega)) (by omega); omega
theorem left_pos (hi : RsInv jobs r) {i : Nat} (h : i < jobs.length) (hd : atI r.done (i : Int) < (jb jobs i).work) : 0 < r.left := by
 rw [hi.left]
 have := sumN_ge (f := fun i => if atI r.done (i : Int) < (atI jobs (i : Int)).work then 1 else 0) (n := jobs.length) (i := i) (fun k _ => by split <;> decide) h
 have h2 : atI r.done (i : Int) < (atI jobs (i : Int)).work := hd
 rw [if_pos h2] at this
 omega
theorem sim_work (S : Script l jobs) (h : SimC jobs s r) (hi : RsInv jobs r) {i : Nat} (hr : s.running = some i) (hp : rsRuns l jobs r = i) (hmin : s.sec i = 0 → ∀ u, s.q u ≠ [] → (atI l (jb jobs i).task).P ≤ (atI l u).P) {N : Nat} (hN : 0 < N)
  (hn : (N : Int) ≤ s.sec i ∨ (s.sec i = 0 ∧ s.cuts i = [] ∧ (N : Int) ≤ s.left i ∧ ∀ k ∈ s.coming, s.now + N ≤ (jb jobs k).release)) (he : e < 0 ∨ s.now + N ≤ e) :
  ∃ r', Sim0 jobs (worked jobs s i N) r' ∧ RsInv jobs r' ∧ untilP l jobs e r = untilP l jobs e r' ∧ rsLeft jobs r' < rsLeft jobs r := by
 obtain ⟨rest, hq⟩ := h.run i hr
 have him : i ∈ s.q (jb jobs i).task := by rw [hq]; simp
 obtain ⟨hi1, _, hi3, hi4⟩ := (h.mem _ i).1 him
 have hcv := h.cut _ i him
 have hlf := h.left _ i him
 obtain ⟨hc1, hc2⟩ := S.cuts hi1
 have hdl : i < r.done.length := by rw [hi.dlen]; exact hi1
 have hsl : s.sec i ≤ s.left i := by
  obtain ⟨pre, e1, h1, h2⟩ := hcv.is
  have hpre : sumI pre ≤ (jb jobs i).work := by
   have : sumI (jb jobs i).cuts = sumI pre + sumI (s.cuts i) := by rw [e1, sumI_app]
   have := sumI_nonneg fun c hc => hc1 c (show c ∈ (jb jobs i).cuts by rw [e1]; exact List.mem_append_right _ hc)
   omega
  rcases h1 with h1 | ⟨_, h1, _⟩ <;> omega
 have hNl : (N : Int) ≤ s.left i := by rcases hn with hn | hn <;> omega
 have hticks : ∀ k : Nat, k < N → rsOn e (rsK jobs r i k) ∧ rsRuns l jobs (rsK jobs r i k) = i ∧ atI r.done (i : Int) + k < (jb jobs i).work := by
  intro k hk
  have hlt : atI r.done (i : Int) + k < (jb jobs i).work := by omega
  have hd : ∀ j : Nat, atI (rsK jobs r i k).done (j : Int) = if j = i then atI r.done (i : Int) + k else atI r.done (j : Int) := fun j => atI_set hdl j
  refine ⟨⟨?_, ?_⟩, ?_, hlt⟩
  ·show 0 < (if atI r.done (i : Int) + k = (jb jobs i).work then r.left - 1 else r.left)
   rw [if_neg (by omega)]; exact left_pos hi hi1 hi4
  ·show e < 0 ∨ r.t + k < e
   rw [h.t]; omega
  ·by_cases k0 : k = 0
   ·subst k0; rw [rsK_zero hdl (by omega)]; exact hp
   ·have hruns : (rsK jobs r i k).runs = i := if_neg k0
    have hdi : atI (rsK jobs r i k).done ((rsK jobs r i k).runs) = atI r.done (i : Int) + k := by rw [hruns, hd, if_pos rfl]
    unfold rsRuns
    rw [hdi, hruns]
    rcases hn with hn | ⟨hn1, hn2, hn3, hn4⟩
    ·have hw := hcv.in_ (by omega) (k := (k : Int)) (by omega) (by omega)
     have hw' : withinP (atI jobs (i : Int)).cuts 0 (atI r.done (i : Int) + k) = true := hw
     rw [if_neg (by rw [hw']; rintro (h | h); omega; cases h)]
    ·have hw : withinP (atI jobs (i : Int)).cuts 0 (atI r.done (i : Int) + k) = false := by
      have h1 := hcv.work (n := (k : Int)) (by omega) (.inr ⟨hn1, hn2⟩)
      refine h1.out hc1 ?_
      omega
     rw [if_pos (.inr hw)]
     have ht : (rsK jobs r i k).t = s.now + k := by show r.t + k = _; rw [h.t]
     rw [ht]
     refine pickN_is ⟨by have := h.rel i hi1 hi3; omega, by rw [hd, if_pos rfl]; exact hlt⟩ hi1 fun j hj h1 h2 => ?_
     have hjc : j ∉ s.coming := fun hm => by have := hn4 j hm; omega
     have hjm : j ∈ s.q (jb jobs j).task := by
      by_cases ej : j = i
      ·subst ej; exact him
      ·rw [hd, if_neg ej] at h2
       exact (h.mem _ _).2 ⟨hj, rfl, hjc, h2⟩
     have hle := hmin hn1 (jb jobs j).task (by intro e; rw [e] at hjm; cases hjm)
     by_cases ej : (jb jobs j).task = (jb jobs i).task
     ·right
      rw [ej] at hjm ⊢
      refine ⟨Int.le_refl _, ?_⟩
      rw [hq] at hjm
      rcases List.mem_cons.1 hjm with rfl | hjm
      ·exact Nat.le_refl _
      ·have := h.asc (jb jobs i).task
       rw [hq, List.pairwise_cons] at this
       exact Nat.le_of_lt (this.1 j hjm)
     ·left
      have ht1 := S.ok.task _ (jb_mem hi1)
      have ht2 := S.ok.task _ (jb_mem hj)
      have hne : ¬ (atI l (jb jobs j).task).P = (atI l (jb jobs i).task).P := fun h => ej (S.prio _ _ ht2.1 ht2.2 ht1.1 ht1.2 h)
      omega
 obtain ⟨k1, k2, k3⟩ := rs_many S.ok hi hi1 N hticks hi4
 refine ⟨rsK jobs r i N, ?_, k1, k2, by omega⟩
 have hd : ∀ j : Nat, atI (rsK jobs r i N).done (j : Int) = if j = i then atI r.done (i : Int) + N else atI r.done (j : Int) := fun j => atI_set hdl j
 have hL : (rsK jobs r i N).L = addSpan s.spans i s.now N := by
  show (if N = 0 then r.L else addSpan r.L i r.t N) = _
  rw [if_neg (by omega), h.L, h.t]
 have hruns : (rsK jobs r i N).runs = i := if_neg (by omega)
 have hasc := h.asc (jb jobs i).task
 rw [hq, List.pairwise_cons] at hasc
 have hirest : i ∉ rest := fun hm => absurd (hasc.1 i hm) (Nat.lt_irrefl _)
 have hnc : ∀ k ∈ s.coming, k ≠ i := fun k hk e => hi3 (e ▸ hk)
 have hcut2 := hcv.work (n := (N : Int)) (by omega) (by rcases hn with hn | hn; exact .inl hn; exact .inr ⟨hn.1, hn.2.1⟩)
 unfold worked
 split
 ·rename_i hz
  have hwk : atI r.done (i : Int) + N = (jb jobs i).work := by omega
  have hq' : ∀ u, (at1 s.Q (jb jobs i).task (some (s.q (jb jobs i).task).tail) u).getD [] = if u = (jb jobs i).task then rest else s.q u := fun u => by
   by_cases eu : u = (jb jobs i).task
   ·subst eu; rw [if_pos rfl, at1_self, hq]; rfl
   ·rw [if_neg eu, at1_ne eu]; rfl
  have hsub : ∀ {u k}, k ∈ (if u = (jb jobs i).task then rest else s.q u) → k ≠ i ∧ k ∈ s.q u := fun {u k} hk => by
   split at hk
   ·rename_i eu
    subst eu
    exact ⟨fun e => hirest (e ▸ hk), by rw [hq]; exact List.mem_cons_of_mem _ hk⟩
   ·rename_i eu
    refine ⟨fun e => eu ?_, hk⟩
    subst e
    exact ((h.mem _ _).1 hk).2.1.symm
  refine { t := by show r.t + N = s.now + N; rw [h.t], L := hL, ends := ?_, coming := ?_, sorted := h.sorted, ord := h.ord, mem := ?_, asc := ?_, rel := ?_, run := ?_, nodup := ?_, ready := ?_, left := ?_, cut := ?_, sec0 := ?_, runs := ?_, norun := ?_, within := ?_ }
  ·show (if atI r.done (i : Int) + N = (jb jobs i).work then r.ends.set i (r.t + N) else r.ends) = s.ends.set i (s.now + N)
   rw [if_pos hwk, h.ends, h.t]
  ·intro k hk; have := h.coming k hk; rw [hd, if_neg (hnc k hk)]; exact this
  ·intro u k
   show k ∈ (at1 s.Q (jb jobs i).task (some (s.q (jb jobs i).task).tail) u).getD [] ↔ _
   rw [hq', hd]
   constructor
   ·intro hk
    obtain ⟨ek, hm⟩ := hsub hk
    rw [if_neg ek]; exact (h.mem u k).1 hm
   ·rintro ⟨a, b, c, d⟩
    split at d
    ·rename_i ek; subst ek; omega
    ·rename_i ek
     have hm := (h.mem u k).2 ⟨a, b, c, d⟩
     split
     ·rename_i eu
      subst eu
      rw [hq] at hm
      rcases List.mem_cons.1 hm with hm | hm
      ·exact absurd hm ek
      ·exact hm
     ·exact hm
  ·intro u
   show ((at1 s.Q (jb jobs i).task (some (s.q (jb jobs i).task).tail) u).getD []).Pairwise _
   rw [hq']
   split
   ·exact hasc.2
   ·exact h.asc u
  ·intro k hk hkc; have := h.rel k hk hkc; show _ ≤ s.now + (N : Int); omega
  ·intro k hk; cases hk
  ·show (if (s.q (jb jobs i).task).tail = [] then s.ready else (jb jobs i).task :: s.ready).Nodup
   split
   ·exact h.nodup
   ·exact List.nodup_cons.2 ⟨fun hm => ((h.ready _).1 hm).2 i hr rfl, h.nodup⟩
  ·intro u
   show u ∈ (if (s.q (jb jobs i).task).tail = [] then s.ready else (jb jobs i).task :: s.ready) ↔ ((at1 s.Q (jb jobs i).task (some (s.q (jb jobs i).task).tail) u).getD [] ≠ [] ∧ _)
   rw [hq', hq, List.tail_cons]
   have h0 := h.ready u
   by_cases eu : u = (jb jobs i).task
   ·subst eu
    rw [if_pos rfl]
    constructor
    ·intro hm
     refine ⟨fun hre => ?_, fun k hk => by cases hk⟩
     rw [if_pos hre] at hm
     exact (h0.1 hm).2 i hr rfl
    ·rintro ⟨hre, _⟩
     rw [if_neg hre]; simp
   ·rw [if_neg eu]
    have h1 : u ∈ (if rest = [] then s.ready else (jb jobs i).task :: s.ready) ↔ u ∈ s.ready := by
     split
     ·rfl
     ·simp [eu]
    rw [h1, h0]
    constructor
    ·rintro ⟨a, b⟩; exact ⟨a, fun k hk => by cases hk⟩
    ·rintro ⟨a, b⟩; exact ⟨a, fun k hk => by rw [hr] at hk; cases hk; exact fun e => eu e.symm⟩
  ·intro u k hk
   have hk' : k ∈ (at1 s.Q (jb jobs i).task (some (s.q (jb jobs i).task).tail) u).getD [] := hk
   rw [hq'] at hk'
   obtain ⟨ek, hm⟩ := hsub hk'
   show at1 s.left i _ k = _
   rw [at1_ne ek, hd, if_neg ek]; exact h.left u k hm
  ·intro u k hk
   have hk' : k ∈ (at1 s.Q (jb jobs i).task (some (s.q (jb jobs i).task).tail) u).getD [] := hk
   rw [hq'] at hk'
   obtain ⟨ek, hm⟩ := hsub hk'
   show CutInv _ _ (at1 s.sec i _ k) (s.cuts k)
   rw [at1_ne ek, hd, if_neg ek]; exact h.cut u k hm
  ·intro u k hk _
   have hk' : k ∈ (at1 s.Q (jb jobs i).task (some (s.q (jb jobs i).task).tail) u).getD [] := hk
   rw [hq'] at hk'
   obtain ⟨ek, hm⟩ := hsub hk'
   show at1 s.sec i _ k = 0
   rw [at1_ne ek]
   exact h.sec0 u k hm fun e => by rw [hr] at e; cases e; exact ek rfl
  ·intro k hk; cases hk
  ·intro _
   right
   rw [hruns, hd, if_pos rfl, hwk]
   exact within_above hc1 (by rw [Int.zero_add]; exact hc2)
  ·intro k hk; cases hk
 ·rename_i hz
  have hwk : atI r.done (i : Int) + N < (jb jobs i).work := by omega
  refine { t := by show r.t + N = s.now + N; rw [h.t], L := hL, ends := ?_, coming := ?_, sorted := h.sorted, ord := h.ord, mem := ?_, asc := h.asc, rel := ?_, run := h.run, nodup := h.nodup, ready := h.ready, left := ?_, cut := ?_, sec0 := ?_, runs := ?_, norun := ?_, within := ?_ }
  ·show (if atI r.done (i : Int) + N = (jb jobs i).work then r.ends.set i (r.t + N) else r.ends) = s.ends
   rw [if_neg (by omega), h.ends]
  ·intro k hk; have := h.coming k hk; rw [hd, if_neg (hnc k hk)]; exact this
  ·intro u k
   rw [hd]
   show k ∈ s.q u ↔ _
   rw [h.mem]
   by_cases ek : k = i
   ·subst ek
    rw [if_pos rfl]
    constructor
    ·rintro ⟨a, b, c, d⟩; exact ⟨a, b, c, hwk⟩
    ·rintro ⟨a, b, c, d⟩; exact ⟨a, b, c, hi4⟩
   ·rw [if_neg ek]
  ·intro k hk hkc; have := h.rel k hk hkc; show _ ≤ s.now + (N : Int); omega
  ·intro u k hk
   show at1 s.left i _ k = _
   have := h.left u k hk
   by_cases ek : k = i
   ·subst ek; rw [at1_self, hd, if_pos rfl]; omega
   ·rw [at1_ne ek, hd, if_neg ek]; exact this
  ·intro u k hk
   show CutInv _ _ (at1 s.sec i _ k) (s.cuts k)
   by_cases ek : k = i
   ·subst ek; rw [at1_self, hd, if_pos rfl]; exact hcut2
   ·rw [at1_ne ek, hd, if_neg ek]; exact h.cut u k hk
  ·intro u k hk hne
   show at1 s.sec i _ k = 0
   have hne' : s.running ≠ some k := hne
   have ek : k ≠ i := fun e => hne' (by rw [e]; exact hr)
   rw [at1_ne ek]; exact h.sec0 u k hk hne'
  ·intro k hk
   have hk' : s.running = some k := hk
   rw [hr] at hk'; cases hk'; exact hruns
  ·intro hk
   have hk' : s.running = none := hk
   rw [hr] at hk'; cases hk'
  ·intro k hk hs
   have hk' : s.running = some k := hk
   rw [hr] at hk'; cases hk'
   have hs' : 0 < at1 s.sec i (max (s.sec i - N) 0) i := hs
   rw [at1_self] at hs'
   rw [hd, if_pos rfl]
   exact hcv.in_ (by omega) (by omega) (by omega)
theorem sim_none (h : Sim0 jobs s r) (hr : s.running = none) (hn : s.ready = []) : ∀ u, s.q u = [] := fun u => by
 cases hq : s.q u with
 | nil => rfl
 | cons i rest =>
  have := (h.ready u).2 ⟨by rw [hq]; simp, fun k hk => by rw [hr] at hk; cases hk⟩
  rw [hn] at this; cases this
theorem sim_idle (S : Script l jobs) (h : Sim0 jobs s r) (hi : RsInv jobs r) (hr : s.running = none) (hn : s.ready = []) {c : Nat} {rest : List Nat} (hc : s.coming = c :: rest) (hlt : s.now < (jb jobs c).release) (he : e < 0 ∨ (jb jobs c).release ≤ e) :
  ∃ r', Sim0 jobs { s with now := (jb jobs c).release } r' ∧ RsInv jobs r' ∧ untilP l jobs e r = untilP l jobs e r' ∧ rsLeft jobs r' < rsLeft jobs r := by
 have hq := sim_none h hr hn
 obtain ⟨N, hN⟩ : ∃ N : Nat, (jb jobs c).release - s.now = N := ⟨((jb jobs c).release - s.now).toNat, by omega⟩
 have hcl := h.coming c (by rw [hc]; simp)
 have hs := h.sorted
 rw [hc, List.pairwise_cons] at hs
 have hge : ∀ k ∈ s.coming, (jb jobs c).release ≤ (jb jobs k).release := fun k hk => by
  rw [hc] at hk
  rcases List.mem_cons.1 hk with rfl | hk
  ·exact Int.le_refl _
  ·have := hs.1 k hk; unfold ltO at this; omega
 have hw := (S.ok.work _ (jb_mem hcl.1)).1
 obtain ⟨k1, k2, k3⟩ := rs_idle (e := e) S.ok hi (h.norun hr) N fun k hk => ⟨by rw [h.t]; omega, left_pos hi hcl.1 (by rw [hcl.2]; omega), pickN_no fun j hj h1 h2 => by
  rw [h.t] at h1
  have hjc : j ∉ s.coming := fun hm => by have := hge j hm; omega
  have := (h.mem (jb jobs j).task j).2 ⟨hj, rfl, hjc, h2⟩
  rw [hq] at this; cases this⟩
 have hN0 : N ≠ 0 := by omega
 try dsimp only at k1 k2 k3
 rw [if_neg hN0] at k1 k2 k3
 refine ⟨_, ?_, k1, k2, by omega⟩
 refine { t := by show r.t + N = _; rw [h.t]; dsimp only; omega, L := h.L, ends := h.ends, coming := h.coming, sorted := h.sorted, ord := h.ord, mem := h.mem, asc := h.asc, rel := fun k hk hkc => ?_, run := h.run, nodup := h.nodup, ready := h.ready, left := h.left, cut := h.cut, sec0 := h.sec0, runs := fun k hk => ?_, norun := fun _ => .inl (by show (-1 : Int) < 0; decide), within := h.within }
 ·have := h.rel k hk hkc; show _ ≤ (jb jobs c).release; omega
 ·have hk' : s.running = some k := hk
  rw [hr] at hk'; cases hk'
theorem sim_end (S : Script l jobs) (h : Sim0 jobs s r) (hi : RsInv jobs r) (hr : s.running = none) (hn : s.ready = []) (he : ∀ k ∈ s.coming, 0 ≤ e ∧ e ≤ (jb jobs k).release) : (untilP l jobs e r).L = s.spans ∧ (untilP l jobs e r).ends = s.ends := by
 have hq := sim_none h hr hn
 cases hc : s.coming with
 | nil =>
  have hz : ¬ 0 < r.left := by
   rw [hi.left]
   intro hp
   obtain ⟨i, h1, h2⟩ := sumN_pos hp
   try dsimp only at h2
   split at h2
   ·rename_i h3
    have := (h.mem (jb jobs i).task i).2 ⟨h1, rfl, by rw [hc]; simp, h3⟩
    rw [hq] at this; cases this
   ·omega
  rw [untilP_stop (fun ho => hz ho.1)]
  exact ⟨h.L, h.ends⟩
 | cons c rest =>
  have hcl := h.coming c (by rw [hc]; simp)
  have hw := (S.ok.work _ (jb_mem hcl.1)).1
  have hec := he c (by rw [hc]; simp)
  obtain ⟨N, hN⟩ : ∃ N : Nat, (e - s.now).toNat = N := ⟨_, rfl⟩
  obtain ⟨k1, k2, k3⟩ := rs_idle (e := e) S.ok hi (h.norun hr) N fun k hk => ⟨by rw [h.t]; omega, left_pos hi hcl.1 (by rw [hcl.2]; omega), pickN_no fun j hj h1 h2 => by
   rw [h.t] at h1
   have hjc : j ∉ s.coming := fun hm => by have := (he j hm).2; omega
   have := (h.mem (jb jobs j).task j).2 ⟨hj, rfl, hjc, h2⟩
   rw [hq] at this; cases this⟩
  try dsimp only at k1 k2 k3
  rw [k2, untilP_stop]
  ·split
   ·exact ⟨h.L, h.ends⟩
   ·exact ⟨h.L, h.ends⟩
  ·rintro ⟨_, h2⟩
   have ht : (if N = 0 then r else { r with t := r.t + N, runs := -1 } : RS).t = s.now + N := by
    split
    ·rename_i e0; rw [e0, h.t]; simp
    ·show r.t + N = _; rw [h.t]
   rw [ht] at h2
   omega
theorem sim_stop (h : Sim0 jobs s r) (h0 : 0 ≤ e) (he : e ≤ s.now) : (untilP l jobs e r).L = s.spans ∧ (untilP l jobs e r).ends = s.ends := by
 rw [untilP_stop (fun ho => by have := ho.2; rw [h.t] at this; omega)]
 exact ⟨h.L, h.ends⟩
def xsInit (n : Nat) (o : List Nat) : XS := ⟨o, 0, [], List.replicate n (-1), none, fun _ => none, [], fun _ => 0, fun _ => 0, fun _ => []⟩
theorem sim_init {o : List Nat} (ho : ∀ i, i ∈ o ↔ i < jobs.length) (hs : o.Pairwise (ltO jobs)) : Sim0 jobs (xsInit jobs.length o) (rsInit jobs.length) := by
 have h0 : ∀ i : Nat, i < jobs.length → atI (List.replicate jobs.length (0 : Int)) (i : Int) = 0 := fun i hi => by
  rw [atI_nat (by simpa using hi)]; simp
 refine { t := rfl, L := rfl, ends := rfl, coming := fun i hi => ⟨(ho i).1 hi, h0 i ((ho i).1 hi)⟩, sorted := hs, ord := fun k hk hn => absurd ((ho k).2 hk) hn, mem := fun t i => ⟨fun h => (by cases h), fun ⟨a, _, c, _⟩ => absurd ((ho i).2 a) c⟩, asc := fun _ => List.Pairwise.nil, rel := fun k hk hn => absurd ((ho k).2 hk) hn, run := fun i h => (by cases h), nodup := List.nodup_nil, ready := fun t => ⟨fun h => (by cases h), fun h => absurd rfl h.1⟩, left := fun t i h => (by cases h), cut := fun t i h => (by cases h), sec0 := fun t i h => (by cases h), runs := fun i h => (by cases h), norun := fun _ => .inl (by show (-1 : Int) < 0; decide), within := fun i h => (by cases h) }
theorem rsOn_ever (hi : RsInv jobs r) (hs : sumWork jobs ≤ 1099511627776) : rsOn (-1) r ↔ rsOn 9223372036854775807 r := by
 have h1 := hi.t1
 have h2 := hi.sum
 unfold rsOn lastRel at *
 constructor
 ·rintro ⟨a, _⟩; exact ⟨a, .inr (by omega)⟩
 ·rintro ⟨a, _⟩; exact ⟨a, .inl (by decide)⟩
theorem rsRun_ever (hj : JobsOk l jobs) (hs : sumWork jobs ≤ 1099511627776) : ∀ (n : Nat) (r : RS), RsInv jobs r → rsRun l jobs (-1) n r = rsRun l jobs 9223372036854775807 n r
 | 0, r, _ => rfl
 | n + 1, r, hi => by
  unfold rsRun
  by_cases h : rsOn (-1) r
  ·rw [if_pos h, if_pos ((rsOn_ever hi hs).1 h)]
   exact rsRun_ever hj hs n _ (rsStep_ok hj hi h).1
  ·rw [if_neg h, if_neg (fun h' => h ((rsOn_ever hi hs).2 h'))]
theorem untilP_ever (hj : JobsOk l jobs) (hs : sumWork jobs ≤ 1099511627776) (hi : RsInv jobs r) : untilP l jobs (-1) r = untilP l jobs 9223372036854775807 r := rsRun_ever hj hs _ r hi
end Go.L.Try
namespace Go.L.Try
open Go Go.L
theorem legal_ok {l : List Task} {jobs : List Job} (h : legalB l jobs = true) : JobsOk l jobs ∧ jobs.length ≤ 4096 ∧ (checkAllP l).2 = 0 := by
 simp only [legalB, Bool.and_eq_true, decide_eq_true_eq] at h
 obtain ⟨⟨h1, h2⟩, h3⟩ := h
 obtain ⟨_, _, hok⟩ := checkAll_ok h1
 have key : ∀ j ∈ jobs, (0 ≤ j.task ∧ j.task < l.length) ∧ (0 ≤ j.arrive ∧ j.arrive ≤ 17592186044416) ∧ j.arrive ≤ j.release ∧ j.release ≤ j.arrive + (atI l j.task).J ∧ 1 ≤ j.work ∧ j.work ≤ (atI l j.task).C ∧ cutsOk (atI l j.task).Q j.cuts j.work = true ∧ okTask (atI l j.task) := by
  intro j hj
  obtain ⟨i, hi, rfl⟩ := List.getElem_of_mem hj
  have h4 := allOk_at h3 i hi
  simp only [jobOkB, Bool.and_eq_true, decide_eq_true_eq] at h4
  obtain ⟨h5, h6⟩ := h4
  unfold jobNums at h5
  dsimp only at h5
  rw [atI_nat hi] at h5 h6
  exact ⟨h5.1, h5.2.1, h5.2.2.2.1, h5.2.2.2.2.1, h5.2.2.2.2.2.1, h5.2.2.2.2.2.2, h6, hok _ (atI_mem h5.1.1 h5.1.2)⟩
 refine ⟨⟨fun j hj => (key j hj).1, fun j hj => ?_, fun j hj => ?_, fun j hj => ⟨_, (key j hj).2.2.2.2.2.2.1⟩⟩, h2, h1⟩
 ·obtain ⟨a, b, c, d, e, f, g, ⟨hr, _⟩⟩ := key j hj
  simp only [rangesB] at hr
  unfold lastRel; omega
 ·obtain ⟨a, b, c, d, e, f, g, ⟨hr, _⟩⟩ := key j hj
  simp only [rangesB] at hr
  omega
theorem legal_job {l : List Task} {jobs : List Job} (h : legalB l jobs = true) {i : Nat} (hi : i < jobs.length) : jobNums l jobs i ∧ okTask (atI l (atI jobs (i : Int)).task) ∧ cutsOk (atI l (atI jobs (i : Int)).task).Q (atI jobs (i : Int)).cuts (atI jobs (i : Int)).work = true := by
 simp only [legalB, Bool.and_eq_true, decide_eq_true_eq] at h
 obtain ⟨⟨h1, h2⟩, h3⟩ := h
 obtain ⟨_, _, hok⟩ := checkAll_ok h1
 have h4 := allOk_at h3 i hi
 simp only [jobOkB, Bool.and_eq_true, decide_eq_true_eq] at h4
 obtain ⟨h5, h6⟩ := h4
 have h7 := h5
 unfold jobNums at h7
 dsimp only at h7
 exact ⟨h5, hok _ (atI_mem h7.1.1 h7.1.2), h6⟩
theorem lastN_ge {jobs : List Job} {t : Int} {a : Nat} (ha : (atI jobs (a : Int)).task = t) : ∀ {b : Nat}, a < b → (a : Int) ≤ lastN jobs t b
 | 0, h => by omega
 | b + 1, h => by
  unfold lastN
  split
  ·omega
  ·rename_i hn
   have : a ≠ b := fun e => hn (by rw [← e]; exact ha)
   exact lastN_ge ha (by omega)
theorem arrive_le {l : List Task} {jobs : List Job} (h : legalB l jobs = true) {a : Nat} : ∀ (b : Nat), a < b → b < jobs.length → (atI jobs (a : Int)).task = (atI jobs (b : Int)).task → (atI jobs (a : Int)).arrive + (atI l (atI jobs (b : Int)).task).T ≤ (atI jobs (b : Int)).arrive := by
 intro b
 induction b using Nat.strongRecOn with
 | _ b ih =>
  intro hab hb ht
  obtain ⟨h1, h2, h3⟩ := legal_job h hb
  unfold jobNums at h1
  dsimp only at h1
  have hge := lastN_ge (jobs := jobs) ht hab
  have hin := lastN_in jobs (atI jobs (b : Int)).task b
  have htk := lastN_task (jobs := jobs) (task := (atI jobs (b : Int)).task) (n := b) (by omega)
  obtain ⟨k, hk⟩ : ∃ k : Nat, lastN jobs (atI jobs (b : Int)).task b = k := ⟨(lastN jobs (atI jobs (b : Int)).task b).toNat, by omega⟩
  rw [hk] at h1 hge hin htk
  have h5 := h1.2.2.1 (by omega)
  by_cases e : a = k
  ·subst e; exact h5
  ·have h6 := ih k (by omega) (by omega) (by omega) (by rw [ht, htk])
   rw [htk] at h6
   obtain ⟨⟨hr, _⟩, _⟩ := AI h2 h3
   simp only [rangesB] at hr
   omega
theorem script_of {l : List Task} {jobs : List Job} (h : legalB l jobs = true) : Script l jobs := by
 obtain ⟨h1, h2, h3⟩ := legal_ok h
 refine ⟨h1, fun a b hab hb ht => ?_, fun t u ht1 ht2 hu1 hu2 hp => ?_⟩
 ·obtain ⟨n1, n2, n3⟩ := legal_job h hb
  obtain ⟨m1, m2, m3⟩ := legal_job h (show a < jobs.length by omega)
  have h4 := arrive_le h b hab hb ht
  unfold jobNums at n1 m1
  dsimp only at n1 m1
  have ht' : (atI jobs (a : Int)).task = (atI jobs (b : Int)).task := ht
  rw [ht'] at m1
  obtain ⟨hr, hf⟩ := n2
  simp only [rangesB] at hr
  unfold fitsB at hf
  show (atI jobs (a : Int)).release < (atI jobs (b : Int)).release
  omega
 ·obtain ⟨_, _, h5⟩ := valid_iff.1 (show validP l from h3)
  obtain ⟨a, rfl⟩ : ∃ a : Nat, t = a := ⟨t.toNat, by omega⟩
  obtain ⟨b, rfl⟩ : ∃ b : Nat, u = b := ⟨u.toNat, by omega⟩
  rcases Nat.lt_trichotomy a b with h6 | h6 | h6
  ·exact absurd hp (h5 a b h6 (by omega)).2
  ·rw [h6]
  ·exact absurd hp.symm (h5 b a h6 (by omega)).2
end Go.L.Try
namespace Go.L.Try
open Go Go.L
def gcdI (a b : Int) : Int := ((Nat.gcd a.toNat b.toNat : Nat) : Int)
def lcmI (a b : Int) : Int := ((Nat.lcm a.toNat b.toNat : Nat) : Int)
def lcmFold : List Task → Int → Option Int
 | [], p => some p
 | t :: r, p => if lcmI p t.T < 18446744073709551616 then lcmFold r (lcmI p t.T) else none
def periodP (l : List Task) : Option Int := if l.all (fun t => decide (1 ≤ t.T)) = true then lcmFold l 1 else none
def manyP (T p : Int) : Nat := ((p + T - 1) / T).toNat
def jobH (i : Nat) (t : Task) (k : Nat) : Job := ⟨i, k * t.T, k * t.T, t.C, []⟩
def rowH (i : Nat) (t : Task) (n : Nat) : List Job := (List.range n).map (jobH i t)
def allH (l : List Task) (p : Int) : Nat → List Job
 | 0 => []
 | i + 1 => allH l p i ++ rowH i (atI l (i : Int)) (manyP (atI l (i : Int)).T p)
theorem rowH_succ (i : Nat) (t : Task) (n : Nat) : rowH i t (n + 1) = rowH i t n ++ [jobH i t n] := by simp [rowH, List.range_succ]
theorem rowH_len (i : Nat) (t : Task) (n : Nat) : (rowH i t n).length = n := by simp [rowH]
theorem many_le {T p : Int} (hT : 1 ≤ T) (k : Nat) : k < manyP T p ↔ (k : Int) * T < p := by
 unfold manyP
 have h1 : (k : Int) * T < p ↔ (k : Int) + 1 ≤ (p + T - 1) / T := by
  rw [Int.le_ediv_iff_mul_le (by omega)]
  rw [Int.add_mul]
  omega
 omega
theorem lastN_app {A B : List Job} {t : Int} {k : Nat} (hk : k ≤ A.length) : lastN (A ++ B) t k = lastN A t k := by
 have h1 := lastN_take (jobs := A ++ B) (task := t) hk
 rw [List.take_left] at h1
 exact h1.symm
theorem atI_app {A B : List Job} {i : Int} (h0 : 0 ≤ i) (h : i < A.length) : atI (A ++ B) i = atI A i := by
 unfold atI
 rw [List.getD_eq_getElem?_getD, List.getD_eq_getElem?_getD, GL (by omega)]
theorem jobOkB_app {l : List Task} {A B : List Job} {i : Nat} (hi : i < A.length) : jobOkB l (A ++ B) i = jobOkB l A i := by
 have e1 : atI (A ++ B) (i : Int) = atI A (i : Int) := atI_app (by omega) (by omega)
 have e2 : lastN (A ++ B) (atI A (i : Int)).task i = lastN A (atI A (i : Int)).task i := lastN_app (by omega)
 have e3 : jobNums l (A ++ B) i ↔ jobNums l A i := by
  unfold jobNums
  dsimp only
  rw [e1, e2]
  have h5 := lastN_in A (atI A (i : Int)).task i
  constructor
  ·rintro ⟨a, b, c, d⟩
   exact ⟨a, b, fun hk => by have := c hk; rwa [atI_app hk (by omega)] at this, d⟩
  ·rintro ⟨a, b, c, d⟩
   exact ⟨a, b, fun hk => by rw [atI_app hk (by omega)]; exact c hk, d⟩
 unfold jobOkB
 rw [e1]
 congr 1
 exact decide_eq_decide.2 e3
theorem allOk_app {l : List Task} {A B : List Job} : ∀ {n : Nat}, n ≤ A.length → allOk l (A ++ B) n = allOk l A n
 | 0, _ => rfl
 | n + 1, h => by
  show (allOk l (A ++ B) n && jobOkB l (A ++ B) n) = (allOk l A n && jobOkB l A n)
  rw [allOk_app (by omega), jobOkB_app (by omega)]
theorem allOk_snoc {l : List Task} {A : List Job} {j : Job} (hA : allOk l A A.length = true) (h1 : 0 ≤ j.task ∧ j.task < l.length) (h2 : 0 ≤ j.arrive ∧ j.arrive ≤ 17592186044416) (h3 : ∀ x ∈ A, x.task = j.task → x.arrive + (atI l j.task).T ≤ j.arrive) (h4 : j.arrive ≤ j.release) (h5 : j.release ≤ j.arrive + (atI l j.task).J) (h6 : 1 ≤ j.work) (h7 : j.work ≤ (atI l j.task).C) (h8 : cutsOk (atI l j.task).Q j.cuts j.work = true) : allOk l (A ++ [j]) (A ++ [j]).length = true := by
 rw [LA, List.length_singleton]
 show (allOk l (A ++ [j]) A.length && jobOkB l (A ++ [j]) A.length) = true
 rw [allOk_app (Nat.le_refl _), hA, Bool.true_and]
 have e : atI (A ++ [j]) (A.length : Int) = j := by rw [atI_nat (by simp)]; simp
 unfold jobOkB
 rw [e, h8, Bool.and_true, decide_eq_true_eq]
 unfold jobNums
 dsimp only
 rw [e, lastN_app (Nat.le_refl _)]
 have h9 := lastN_in A j.task A.length
 refine ⟨h1, h2, fun hk => ?_, h4, h5, h6, h7⟩
 rw [atI_app hk (by omega)]
 exact h3 _ (atI_mem hk (by omega)) (lastN_task hk)
def ofT (A : List Job) (t : Int) : Nat := A.countP fun j => decide (j.task = t)
theorem ofT_snoc (A : List Job) (j : Job) (t : Int) : ofT (A ++ [j]) t = ofT A t + if j.task = t then 1 else 0 := by
 unfold ofT
 rw [List.countP_append]
 congr 1
 by_cases h : j.task = t <;> simp [h]
theorem allH_task {l : List Task} {p : Int} : ∀ {i : Nat} {x : Job}, x ∈ allH l p i → 0 ≤ x.task ∧ x.task < i
 | 0, x, h => by simp [allH] at h
 | i + 1, x, h => by
  rcases List.mem_append.1 h with h | h
  ·have := allH_task h; omega
  ·obtain ⟨k, _, rfl⟩ := List.mem_map.1 h; simp only [jobH]; omega
theorem ofT_zero {A : List Job} {t : Int} (h : ∀ x ∈ A, x.task ≠ t) : ofT A t = 0 := by
 unfold ofT
 rw [List.countP_eq_zero]
 intro x hx; simpa using h x hx
structure Laid17 (l : List Task) (A : List Job) : Prop where
 ok : allOk l A A.length = true
 nth : ∀ n : Nat, n < A.length → (atI A (n : Int)).release = (atI A (n : Int)).arrive ∧ (atI A (n : Int)).arrive = ofT (A.take n) (atI A (n : Int)).task * (atI l (atI A (n : Int)).task).T ∧ (atI A (n : Int)).work = (atI l (atI A (n : Int)).task).C ∧ (atI A (n : Int)).cuts = []
theorem Laid17.nil (l : List Task) : Laid17 l [] := ⟨rfl, fun n hn => by simp at hn⟩
theorem Laid17.snoc {l : List Task} {A : List Job} (hA : Laid17 l A) {i : Nat} (hi : i < l.length) (hok : okTask (atI l (i : Int))) {k : Nat} (hk : ofT A i = k) (hx : ∀ x ∈ A, x.task = i → x.arrive + (atI l (i : Int)).T ≤ k * (atI l (i : Int)).T) (hb : (k : Int) * (atI l (i : Int)).T ≤ 17592186044416) : Laid17 l (A ++ [jobH i (atI l (i : Int)) k]) := by
 obtain ⟨⟨_, _, tC, tT, tD, tQ, tJ, tP⟩, tf1, tf2, tf3⟩ := hok
 have hpos : 0 ≤ (k : Int) * (atI l (i : Int)).T := Int.mul_nonneg (by omega) (by omega)
 refine ⟨allOk_snoc hA.ok ⟨by simp [jobH], by simp [jobH]; omega⟩ ⟨hpos, hb⟩ hx (Int.le_refl _) (by simp only [jobH]; omega) (by simp only [jobH]; omega) (by simp only [jobH]; omega) rfl, fun n hn => ?_⟩
 rw [LA, List.length_singleton] at hn
 by_cases h : n < A.length
 ·rw [atI_app (by omega) (by omega), List.take_append_of_le_length (by omega)]
  exact hA.nth n h
 ·have e : n = A.length := by omega
  subst e
  have e : atI (A ++ [jobH i (atI l (i : Int)) k]) (A.length : Int) = jobH i (atI l (i : Int)) k := by rw [atI_nat (by simp)]; simp
  rw [e, List.take_left]
  exact ⟨rfl, by rw [show (jobH i (atI l (i : Int)) k).task = i from rfl, hk]; rfl, rfl, rfl⟩
theorem row_laid {l : List Task} {p : Int} (hok : ∀ t ∈ l, okTask t) (hp : p ≤ 17592186044416) {i : Nat} (hi : i < l.length) (hA : Laid17 l (allH l p i)) : ∀ k, k ≤ manyP (atI l (i : Int)).T p → Laid17 l (allH l p i ++ rowH i (atI l (i : Int)) k) ∧ ofT (allH l p i ++ rowH i (atI l (i : Int)) k) i = k := by
 have hti := hok _ (atI_mem (l := l) (i := (i : Int)) (by omega) (by omega))
 have hT := hti.1
 simp only [rangesB] at hT
 intro k
 induction k with
 | zero =>
  intro _
  refine ⟨by simpa [rowH] using hA, ?_⟩
  rw [show allH l p i ++ rowH i (atI l (i : Int)) 0 = allH l p i by simp [rowH]]
  exact ofT_zero fun x hx => by have := allH_task hx; omega
 | succ k ih =>
  intro hk
  obtain ⟨h1, h2⟩ := ih (by omega)
  rw [rowH_succ, ← List.append_assoc]
  have hlt := (many_le (T := (atI l (i : Int)).T) (p := p) (by omega) k).1 (by omega)
  refine ⟨h1.snoc hi hti h2 (fun x hx ht => ?_) (by omega), ?_⟩
  ·rcases List.mem_append.1 hx with hx | hx
   ·have := allH_task hx; omega
   ·obtain ⟨m, hm, rfl⟩ := List.mem_map.1 hx
    have hm := List.mem_range.1 hm
    show (m : Int) * (atI l (i : Int)).T + (atI l (i : Int)).T ≤ k * (atI l (i : Int)).T
    have : ((m : Int) + 1) * (atI l (i : Int)).T ≤ k * (atI l (i : Int)).T := Int.mul_le_mul_of_nonneg_right (by omega) (by omega)
    rw [Int.add_mul] at this; omega
  ·rw [ofT_snoc, h2]; simp [jobH]
theorem all_laid {l : List Task} {p : Int} (hok : ∀ t ∈ l, okTask t) (hp : p ≤ 17592186044416) : ∀ i, i ≤ l.length → Laid17 l (allH l p i)
 | 0, _ => Laid17.nil l
 | i + 1, h => (row_laid hok hp (by omega) (all_laid hok hp i (by omega)) _ (Nat.le_refl _)).1
theorem allH_legal {l : List Task} {p : Int} (hv : validP l) (hp : p ≤ 17592186044416) (hn : (allH l p l.length).length ≤ 4096) : legalB l (allH l p l.length) = true := by
 obtain ⟨_, _, hok⟩ := checkAll_ok hv
 unfold legalB
 rw [(all_laid hok hp l.length (Nat.le_refl _)).ok, decide_eq_true ⟨hv, hn⟩]; rfl
theorem gcd_step (a b : Int) (ha : 0 ≤ a) (hb : 0 < b) : gcdI b (a % b) = gcdI a b := by
 unfold gcdI
 have e : (a % b).toNat = a.toNat % b.toNat := by
  obtain ⟨x, rfl⟩ := Int.eq_ofNat_of_zero_le ha
  obtain ⟨y, rfl⟩ := Int.eq_ofNat_of_zero_le (Int.le_of_lt hb)
  rw [← Int.natCast_emod]; rfl
 rw [e, Nat.gcd_comm b.toNat, ← Nat.gcd_rec, Nat.gcd_comm]
theorem gcd_zero (a : Int) (ha : 0 ≤ a) : gcdI a 0 = a := by
 unfold gcdI
 simp; omega
theorem gcd_pos (a b : Int) (ha : 0 < a) (hb : 0 ≤ b) : 0 < gcdI a b ∧ gcdI a b ≤ a := by
 unfold gcdI
 have h1 : 0 < Nat.gcd a.toNat b.toNat := Nat.gcd_pos_of_pos_left _ (by omega)
 have h2 : Nat.gcd a.toNat b.toNat ≤ a.toNat := Nat.gcd_le_left _ (by omega)
 omega
theorem lcm_mul (a b : Int) (ha : 0 < a) (hb : 0 < b) : a / gcdI a b * b = lcmI a b := by
 obtain ⟨x, rfl⟩ := Int.eq_ofNat_of_zero_le (Int.le_of_lt ha)
 obtain ⟨y, rfl⟩ := Int.eq_ofNat_of_zero_le (Int.le_of_lt hb)
 unfold gcdI lcmI
 simp only [Int.toNat_natCast]
 rw [← Int.natCast_ediv, ← Int.natCast_mul]
 congr 1
 unfold Nat.lcm
 rw [Nat.div_mul_right_comm (Nat.gcd_dvd_left x y)]
theorem lcm_pos (a b : Int) (ha : 0 < a) (hb : 0 < b) : 0 < lcmI a b := by
 unfold lcmI
 have : 0 < Nat.lcm a.toNat b.toNat := Nat.lcm_pos (by omega) (by omega)
 omega
theorem lcm_dvd {a b c : Int} (ha : 0 < a) (hb : 0 < b) (hc : 0 < c) (h1 : a ∣ c) (h2 : b ∣ c) : lcmI a b ∣ c := by
 obtain ⟨x, rfl⟩ := Int.eq_ofNat_of_zero_le (Int.le_of_lt ha)
 obtain ⟨y, rfl⟩ := Int.eq_ofNat_of_zero_le (Int.le_of_lt hb)
 obtain ⟨z, rfl⟩ := Int.eq_ofNat_of_zero_le (Int.le_of_lt hc)
 unfold lcmI
 simp only [Int.toNat_natCast]
 rw [Int.natCast_dvd_natCast] at h1 h2 ⊢
 exact Nat.lcm_dvd h1 h2
theorem dvd_lcm {a b : Int} (ha : 0 < a) (hb : 0 < b) : a ∣ lcmI a b ∧ b ∣ lcmI a b := by
 obtain ⟨x, rfl⟩ := Int.eq_ofNat_of_zero_le (Int.le_of_lt ha)
 obtain ⟨y, rfl⟩ := Int.eq_ofNat_of_zero_le (Int.le_of_lt hb)
 unfold lcmI
 simp only [Int.toNat_natCast, Int.natCast_dvd_natCast]
 exact ⟨Nat.dvd_lcm_left x y, Nat.dvd_lcm_right x y⟩
theorem fold24 : ∀ (l : List Task) (p : Int), (∀ t ∈ l, 0 < t.T ∧ t.T ∣ 24) → 0 < p → p ∣ 24 → ∃ q, lcmFold l p = some q ∧ 0 < q ∧ q ∣ 24 ∧ p ∣ q ∧ ∀ t ∈ l, t.T ∣ q
 | [], p, _, h1, h2 => ⟨p, rfl, h1, h2, Int.dvd_refl _, by simp⟩
 | t :: r, p, h, h1, h2 => by
  obtain ⟨t0, t1⟩ := h t (by simp)
  have e1 := lcm_pos p t.T h1 t0
  have e2 := lcm_dvd h1 t0 (by decide : (0 : Int) < 24) h2 t1
  have e3 : lcmI p t.T ≤ 24 := Int.le_of_dvd (by decide) e2
  obtain ⟨q, q1, q2, q3, q4, q5⟩ := fold24 r (lcmI p t.T) (fun t ht => h t (by simp [ht])) e1 e2
  have e4 := dvd_lcm h1 t0
  refine ⟨q, ?_, q2, q3, Int.dvd_trans e4.1 q4, fun x hx => ?_⟩
  ·rw [lcmFold, if_pos (by omega)]; exact q1
  ·rcases List.mem_cons.1 hx with rfl | hx
   ·exact Int.dvd_trans e4.2 q4
   ·exact q5 x hx
theorem period24 {l : List Task} (h : ∀ t ∈ l, 0 < t.T ∧ t.T ∣ 24) : ∃ q, periodP l = some q ∧ 0 < q ∧ q ≤ 24 ∧ ∀ t ∈ l, t.T ∣ q := by
 obtain ⟨q, q1, q2, q3, _, q5⟩ := fold24 l 1 h (by decide) (by decide)
 refine ⟨q, ?_, q2, Int.le_of_dvd (by decide) q3, q5⟩
 unfold periodP
 rw [if_pos (List.all_eq_true.2 fun t ht => by have := (h t ht).1; simp; omega)]
 exact q1
theorem many_dvd {T p : Int} (hT : 0 < T) (hp : 0 < p) (hd : T ∣ p) : (manyP T p : Int) * T = p := by
 obtain ⟨c, rfl⟩ := hd
 have hc : 0 < c := by
  rcases Int.lt_or_le 0 c with h | h
  ·exact h
  ·have := Int.mul_nonpos_of_nonneg_of_nonpos (Int.le_of_lt hT) h; omega
 unfold manyP
 have e : (T * c + T - 1) / T = c := by
  rw [show T * c + T - 1 = (T - 1) + T * c by omega, Int.add_mul_ediv_left _ _ (by omega), Int.ediv_eq_zero_of_lt (by omega) (by omega)]
  omega
 rw [e, Int.mul_comm T c, Int.toNat_of_nonneg (by omega)]
end Go.L.Try
namespace Go.L.Try
open Go Go.L
theorem sumN_mul {k : Int} : ∀ n : Nat, sumN (fun _ => k) n = k * n
 | 0 => by simp [sumN]
 | n + 1 => by simp only [sumN, sumN_mul n, Int.natCast_add, Int.natCast_one, Int.mul_add, Int.mul_one]
structure SmallJobs (s : List Task) (jobs : List Job) (m : Nat) : Prop where
 legal : legalB s jobs = true
 len : jobs.length ≤ m
 sum : sumWork jobs ≤ 4 * m
 work : ∀ j ∈ jobs, 1 ≤ j.work ∧ j.work ≤ 4
 task : ∀ j ∈ jobs, 0 ≤ j.task ∧ j.task < s.length
 small : ∀ j ∈ jobs, 0 ≤ j.arrive ∧ j.arrive ≤ m * 4294967296
end Go.L.Try
