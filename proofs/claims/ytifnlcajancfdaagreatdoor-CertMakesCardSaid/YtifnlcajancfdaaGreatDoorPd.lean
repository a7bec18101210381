/- PLACES: rta.is, demand.is; small things of the law. -/
import Derived.Test.YtifnlcajancfdaaGreatDoorPc
import Derived.Test.YtifnlcajancfdaaGreatDoorVb
import Derived.Lib.TrailingZeros
import Derived.Test.YtifnlcajancfdaaGreatDoorVc
set_option linter.unusedVariables false
set_option linter.unusedSimpArgs false
set_option maxRecDepth 100000
set_option maxHeartbeats 2000000
namespace Go.L.Try
open Go Go.L
variable {E : Env}
theorem WL_ptr {m b off : Nat} {sp : Option Nat} {A : Prop} (h : b < m) : WL m (.pointer (some ⟨b, off, sp⟩)) A = A := by simp [WL, low, h]
theorem isRta (hE : Laid E) {h : Heap} {vl : Value} {l : List Task} (hl : Rd 7 encT h vl l) (hs : ∀ t ∈ l, t.name.size < 1152921504606846976) (i : Int) :
    callW E (.func (.func n_rta_is) #[] #[]) [vl, .int .i64 i] h = some (.bool (isP l i), h, []) := by
  have hc := checkAllS hE hl hs
  refine fn_same hE.rta_is rfl (by simp) ?_
  simp only [argsF]
  (repeat' (first | (with_reducible refine A1 (fun _ => ?_) (fun _ => ?_) <;> try (exfalso; omega)) | (with_reducible refine A2 (fun _ => ?_) (fun _ => ?_) <;> try (exfalso; omega)) | (with_reducible refine A3 (fun _ => ?_) (fun _ => ?_) <;> try (exfalso; omega)) | refine A4 (fun _ => ?_) (fun _ => ?_) | refine A5 (fun _ => ?_) (fun _ => ?_) | refine A6 (fun _ => ?_) (fun _ => ?_) | simp -dsimp (disch := omega) only [↓EA, EB, Nat.reduceEqDiff, Nat.reduceAdd, Nat.reduceLeDiff, Nat.reduceMul, ↓reduceIte, reduceCtorEq, newCells, bslV, eq_self, *, hl.len]))
  · congr 1; unfold isP; exact decide_eq_decide.2 (by omega)
  · congr 1; unfold isP; exact (decide_eq_false (by omega)).symm
  · congr 1; unfold isP; exact (decide_eq_false (by omega)).symm
theorem isDem (hE : Laid E) {h : Heap} {vl : Value} {l : List Task} (hl : Rd 7 encT h vl l) (hs : ∀ t ∈ l, t.name.size < 1152921504606846976) (i : Int) :
    callW E (.func (.func n_demand_is) #[] #[]) [vl, .int .i64 i] h = some (.bool (isP l i), h, []) := by
  have hc := checkAllS hE hl hs
  refine fn_same hE.demand_is rfl (by simp) ?_
  simp only [argsF]
  (repeat' (first | (with_reducible refine A1 (fun _ => ?_) (fun _ => ?_) <;> try (exfalso; omega)) | (with_reducible refine A2 (fun _ => ?_) (fun _ => ?_) <;> try (exfalso; omega)) | (with_reducible refine A3 (fun _ => ?_) (fun _ => ?_) <;> try (exfalso; omega)) | refine A4 (fun _ => ?_) (fun _ => ?_) | refine A5 (fun _ => ?_) (fun _ => ?_) | refine A6 (fun _ => ?_) (fun _ => ?_) | simp -dsimp (disch := omega) only [↓EA, EB, Nat.reduceEqDiff, Nat.reduceAdd, Nat.reduceLeDiff, Nat.reduceMul, ↓reduceIte, reduceCtorEq, newCells, bslV, eq_self, *, hl.len]))
  · congr 1; unfold isP; exact decide_eq_decide.2 (by omega)
  · congr 1; unfold isP; exact (decide_eq_false (by omega)).symm
  · congr 1; unfold isP; exact (decide_eq_false (by omega)).symm
theorem often13 (hE : Laid E) (hX : LaidAdd E) (h : Heap) {t : Task} (ht : okTask t) {w : Int} (hw : u64in w) :
    callW E (.func (.func n_demand_often) #[] #[]) [.agg (encT t).toArray, .int .u64 w] h = some (.int .u64 (oftenP t w), h, []) := by
  obtain ⟨hC, hT, hJ⟩ := ofBounds ht
  obtain ⟨o1, o2⟩ := often_in ht hw
  have hjin : u64in t.J := by unfold u64in; omega
  have q2 := fun x => numCeil hE x o1 (b := t.T) (by unfold u64in; omega)
  simp only [if_neg (show ¬ t.T = 0 by omega)] at q2
  have eo : (sat (w + t.J) + t.T - 1) / t.T = oftenP t w := rfl
  rw [eo] at q2
  clear eo
  refine fn_same hE.demand_often rfl (by simp) ?_
  simp only [argsF]
  unfold encT
  generalize oftenP t w = O at *
  have q1 : ∀ b, callW E (.func (.func n_num_Sum) #[] #[]) [.int .u64 w, .slice (some ⟨h.length + 1, 0, none⟩) 1 1] (h ++ [b, LObj.cells [.int .u64 t.J] false]) = some (.int .u64 (sat (w + t.J)), h ++ [b, LObj.cells [.int .u64 t.J] false], []) := fun b =>
    numSum hE hX (l := [t.J]) (Rd.lit (enc := encU) [t.J] (by rw [geta]; rfl) rfl (fun _ => rfl) (by simp) (by simp) (.inl rfl)) hw (fun x hx => by rw [List.mem_singleton.1 hx]; exact hjin)
  clear ht o1 o2
  generalize sat (w + t.J) = S at *
  (repeat' (first | (with_reducible refine A1 (fun _ => ?_) (fun _ => ?_) <;> try (exfalso; omega)) | (with_reducible refine A2 (fun _ => ?_) (fun _ => ?_) <;> try (exfalso; omega)) | (with_reducible refine A3 (fun _ => ?_) (fun _ => ?_) <;> try (exfalso; omega)) | refine A4 (fun _ => ?_) (fun _ => ?_) | refine A5 (fun _ => ?_) (fun _ => ?_) | refine A6 (fun _ => ?_) (fun _ => ?_) | simp -dsimp (disch := omega) only [↓EA, EB, Nat.reduceEqDiff, Nat.reduceAdd, Nat.reduceLeDiff, Nat.reduceMul, ↓reduceIte, reduceCtorEq, newCells, bslV, eq_self, *, WL_ptr]))
def smallT (t : Task) : Task := ⟨t.name, t.C.tmod 40, t.T.tmod 40, t.D.tmod 40, t.J.tmod 40, t.Q.tmod 40, t.P⟩
end Go.L.Try
namespace Go.L.Try
open Go Go.L
variable {E : Env}
def threeL : List Task := [⟨⟨#[97]⟩, 1, 4, 4, 0, 1, 1⟩, ⟨⟨#[98]⟩, 2, 9, 9, 1, 1, 2⟩, ⟨⟨#[99]⟩, 3, 20, 20, 0, 3, 3⟩]
end Go.L.Try
namespace Go.L.Try
open Go Go.L
variable {E : Env}
theorem marksIn (hE : Laid E) (h : Heap) (n : Int) : callW E (.func (.func n_marks_in) #[] #[]) [.int .i64 n] h = some (.bool (decide (0 ≤ n ∧ n < 1024)), h, []) := by
  refine fn_same hE.marks_in rfl (by simp) ?_
  simp only [argsF]
  (repeat' (first | (with_reducible refine A1 (fun _ => ?_) (fun _ => ?_) <;> try (exfalso; omega)) | (with_reducible refine A2 (fun _ => ?_) (fun _ => ?_) <;> try (exfalso; omega)) | (with_reducible refine A3 (fun _ => ?_) (fun _ => ?_) <;> try (exfalso; omega)) | refine A4 (fun _ => ?_) (fun _ => ?_) | refine A5 (fun _ => ?_) (fun _ => ?_) | refine A6 (fun _ => ?_) (fun _ => ?_) | simp -dsimp (disch := omega) only [↓EA, EB, Nat.reduceEqDiff, Nat.reduceAdd, Nat.reduceLeDiff, Nat.reduceMul, ↓reduceIte, reduceCtorEq, newCells, bslV, eq_self, *]))
  all_goals first | rfl | exact congrArg Value.bool (decide_eq_decide.2 (by omega)) | exact congrArg Value.bool (decide_eq_false (by omega)).symm | exact congrArg Value.bool (decide_eq_true (by omega)).symm
theorem bin_shr6 {q : EqK} {a : Int} (h1 : 0 ≤ a) : binOp .shr q (.int .i64 a) (.int .u64 6) = some (.int .i64 (a / 64)) := by
  simp only [binOp, intOp]
  rw [if_neg (by decide), Int.fdiv_eq_ediv_of_nonneg _ (by decide)]; rfl
theorem bin_and63 {q : EqK} {a : Nat} (h2 : a < 9223372036854775808) : binOp .and q (.int .i64 (a : Int)) (.int .i64 63) = some (.int .i64 ((a % 64 : Nat) : Int)) := by
  have e : ((BitVec.ofInt 64 (a : Int)) &&& (BitVec.ofInt 64 63)).toNat = a % 64 := by
    have e1 : BitVec.ofInt 64 (a : Int) = BitVec.ofNat 64 a := by simp
    have e2 : BitVec.ofInt 64 63 = BitVec.ofNat 64 63 := by decide
    rw [e1, e2, BitVec.toNat_and, BitVec.toNat_ofNat, BitVec.toNat_ofNat, Nat.mod_eq_of_lt (by omega)]
    exact Nat.and_two_pow_sub_one_eq_mod a 6
  have e3 : binOp .and q (.int .i64 (a : Int)) (.int .i64 63) = some (.int .i64 (IntKind.i64.wrap (((BitVec.ofInt 64 (a : Int)) &&& (BitVec.ofInt 64 63)).toNat : Nat))) := by simp only [binOp, intOp, if_true]; rfl
  rw [e3, e, wrap_i64 (by omega) (by omega)]
theorem bin_oru {q : EqK} {a b : Nat} (ha : a < 18446744073709551616) (hb : b < 18446744073709551616) : binOp .or q (.int .u64 (a : Int)) (.int .u64 (b : Int)) = some (.int .u64 ((a ||| b : Nat) : Int)) := by
  have hor : a ||| b < 18446744073709551616 := Nat.or_lt_two_pow (n := 64) ha hb
  have e : ((BitVec.ofInt 64 (a : Int)) ||| (BitVec.ofInt 64 (b : Int))).toNat = a ||| b := by
    have e1 : ∀ x : Nat, BitVec.ofInt 64 (x : Int) = BitVec.ofNat 64 x := fun x => by simp
    rw [e1, e1, BitVec.toNat_or, BitVec.toNat_ofNat, BitVec.toNat_ofNat, Nat.mod_eq_of_lt ha, Nat.mod_eq_of_lt hb]
  have e3 : binOp .or q (.int .u64 (a : Int)) (.int .u64 (b : Int)) = some (.int .u64 (IntKind.u64.wrap (((BitVec.ofInt 64 (a : Int)) ||| (BitVec.ofInt 64 (b : Int))).toNat : Nat))) := by simp only [binOp, intOp, if_true]; rfl
  rw [e3, e, wrap_u64 (by omega) (by omega)]
theorem bin_shl1 {q : EqK} {k : Nat} (hk : k < 64) : binOp .shl q (.int .u64 1) (.int .i64 (k : Int)) = some (.int .u64 ((2 ^ k : Nat) : Int)) := by
  have hp : (2 ^ k : Nat) < 18446744073709551616 := Nat.pow_lt_pow_right (by decide) (show k < 64 from hk)
  simp only [binOp, intOp]
  rw [if_neg (by omega), show min ((k : Int)).toNat (IntKind.bits .u64) = k by show min _ 64 = k; omega]
  have e : (1 : Int) * 2 ^ k = ((2 ^ k : Nat) : Int) := by simp
  rw [e, wrap_u64 (Int.natCast_nonneg _) (Int.ofNat_lt.2 hp)]
end Go.L.Try
namespace Go.L.Try
open Go Go.L
def encM (w : List Nat) : List Value := w.map fun x : Nat => .int .u64 (x : Int)
structure okM (w : List Nat) : Prop where
  len : w.length = 16
  lt : ∀ x ∈ w, x < 18446744073709551616
def wordM (w : List Nat) (i : Nat) : Nat := w.getD i 0
def memM (w : List Nat) (n : Nat) : Bool := (wordM w (n / 64)).testBit (n % 64)
def withM (w : List Nat) (n : Int) : List Nat := if 0 ≤ n ∧ n < 1024 then w.set (n.toNat / 64) (wordM w (n.toNat / 64) ||| 2 ^ (n.toNat % 64)) else w
def withoutM (w : List Nat) (n : Int) : List Nat := if 0 ≤ n ∧ n < 1024 then w.set (n.toNat / 64) (wordM w (n.toNat / 64) &&& (18446744073709551615 - 2 ^ (n.toNat % 64))) else w
theorem wordM_lt {w : List Nat} (hw : okM w) (i : Nat) : wordM w i < 18446744073709551616 := by
  unfold wordM
  rw [List.getD_eq_getElem?_getD]
  cases h : w[i]? with
  | none => decide
  | some x => exact hw.lt x (List.mem_of_getElem? h)
theorem wordM_set {w : List Nat} {i j x : Nat} (hi : i < w.length) : wordM (w.set i x) j = if i = j then x else wordM w j := by
  unfold wordM
  rw [List.getD_eq_getElem?_getD, List.getD_eq_getElem?_getD]
  by_cases e : i = j
  · subst e; rw [List.getElem?_set_self hi, if_pos rfl]; rfl
  · rw [List.getElem?_set_ne e, if_neg e]
theorem okM_zero : okM (List.replicate 16 0) := ⟨by simp, by simp⟩
theorem memM_zero (n : Nat) : memM (List.replicate 16 0) n = false := by
  unfold memM wordM
  rw [List.getD_eq_getElem?_getD]
  cases h : (List.replicate 16 0)[n / 64]? with
  | none => simp
  | some x => have := List.eq_of_mem_replicate (List.mem_of_getElem? h); subst this; simp
theorem pow_lt64 {k : Nat} (hk : k < 64) : 2 ^ k < 18446744073709551616 := Nat.pow_lt_pow_right (by decide) (show k < 64 from hk)
theorem withM_ok {w : List Nat} (hw : okM w) (n : Int) : okM (withM w n) := by
  unfold withM
  split
  · refine ⟨by simp [hw.len], fun x hx => ?_⟩
    rcases List.mem_or_eq_of_mem_set hx with h | rfl
    · exact hw.lt x h
    · exact Nat.or_lt_two_pow (n := 64) (wordM_lt hw _) (pow_lt64 (Nat.mod_lt _ (by decide)))
  · exact hw
theorem withM_mem {w : List Nat} (hw : okM w) {n : Nat} (hn : n < 1024) (m : Nat) : memM (withM w n) m = (memM w m || decide (m = n)) := by
  unfold withM memM
  rw [if_pos ⟨by omega, by omega⟩, wordM_set (by rw [hw.len]; omega)]
  simp only [Int.toNat_natCast]
  by_cases h : n / 64 = m / 64
  · rw [if_pos h, h, Nat.testBit_or, Nat.testBit_two_pow]
    congr 1
    exact decide_eq_decide.2 (by omega)
  · rw [if_neg h]
    have : m ≠ n := by intro e; subst e; exact h rfl
    simp [this]
theorem withM_out {w : List Nat} {n : Int} (hn : ¬ (0 ≤ n ∧ n < 1024)) : withM w n = w := by unfold withM; rw [if_neg hn]
theorem withoutM_ok {w : List Nat} (hw : okM w) (n : Int) : okM (withoutM w n) := by
  unfold withoutM
  split
  · refine ⟨by simp [hw.len], fun x hx => ?_⟩
    rcases List.mem_or_eq_of_mem_set hx with h | rfl
    · exact hw.lt x h
    · exact Nat.lt_of_le_of_lt Nat.and_le_left (wordM_lt hw _)
  · exact hw
theorem testBit_not {k j : Nat} (hk : k < 64) (hj : j < 64) : (18446744073709551615 - 2 ^ k).testBit j = !decide (j = k) := by
  have h := Nat.testBit_two_pow_sub_succ (x := 2 ^ k) (n := 64) (pow_lt64 hk) j
  rw [show (2 : Nat) ^ 64 - (2 ^ k + 1) = 18446744073709551615 - 2 ^ k by omega] at h
  rw [h, Nat.testBit_two_pow]
  simp only [hj, decide_true, Bool.true_and]
  congr 1
  exact decide_eq_decide.2 (by omega)
theorem withoutM_mem {w : List Nat} (hw : okM w) {n : Nat} (hn : n < 1024) (m : Nat) : memM (withoutM w n) m = (memM w m && !decide (m = n)) := by
  unfold withoutM memM
  rw [if_pos ⟨by omega, by omega⟩, wordM_set (by rw [hw.len]; omega)]
  simp only [Int.toNat_natCast]
  by_cases h : n / 64 = m / 64
  · rw [if_pos h, h, Nat.testBit_and, testBit_not (Nat.mod_lt _ (by decide)) (Nat.mod_lt _ (by decide))]
    congr 2
    exact decide_eq_decide.2 (by omega)
  · rw [if_neg h]
    have : m ≠ n := by intro e; subst e; exact h rfl
    simp [this]
def elemsFrom (w : List Nat) (n : Nat) : List Nat := (List.range' n (1024 - n)).filter (memM w)
theorem elems_end (w : List Nat) {n : Nat} (h : 1024 ≤ n) : elemsFrom w n = [] := by
  unfold elemsFrom; rw [show 1024 - n = 0 by omega]; rfl
theorem elems_step (w : List Nat) {n : Nat} (h : n < 1024) : elemsFrom w n = if memM w n then n :: elemsFrom w (n + 1) else elemsFrom w (n + 1) := by
  unfold elemsFrom
  obtain ⟨k, hk⟩ : ∃ k, 1024 - n = k + 1 := ⟨1024 - n - 1, by omega⟩
  rw [hk, show 1024 - (n + 1) = k by omega, List.range'_succ, List.filter_cons]
theorem elems_skip {w : List Nat} : ∀ {d n : Nat}, n + d ≤ 1024 → (∀ j, n ≤ j → j < n + d → memM w j = false) → elemsFrom w n = elemsFrom w (n + d)
  | 0, _, _, _ => rfl
  | d + 1, n, h, hj => by
    rw [elems_step w (by omega), hj n (Nat.le_refl _) (by omega), elems_skip (d := d) (n := n + 1) (by omega) (fun j h1 h2 => hj j (by omega) (by omega))]
    simp only [Bool.false_eq_true, if_false]
    congr 1; omega
theorem mem_elems {w : List Nat} {n m : Nat} : m ∈ elemsFrom w n ↔ n ≤ m ∧ m < 1024 ∧ memM w m = true := by
  unfold elemsFrom
  rw [List.mem_filter, List.mem_range'_1]
  constructor
  · rintro ⟨h1, h2⟩; exact ⟨h1.1, by omega, h2⟩
  · rintro ⟨h1, h2, h3⟩; exact ⟨⟨h1, by omega⟩, h3⟩
theorem elems_cons {w : List Nat} : ∀ (d : Nat) {m n : Nat} {r : List Nat}, 1024 - m = d → elemsFrom w m = n :: r → r = elemsFrom w (n + 1) ∧ n < 1024
  | 0, m, n, r, hd, h => by rw [elems_end w (by omega)] at h; cases h
  | d + 1, m, n, r, hd, h => by
    rw [elems_step w (by omega)] at h
    split at h
    · cases h; exact ⟨rfl, by omega⟩
    · exact elems_cons d (m := m + 1) (by omega) h
def tz (x : Nat) : Nat := Lib.ctz 64 x
theorem tz_spec {x : Nat} (h0 : x ≠ 0) (h : x < 18446744073709551616) : x.testBit (tz x) = true ∧ tz x < 64 ∧ ∀ j, j < tz x → x.testBit j = false := by
  have hc : tz x = Lib.ctzFrom 64 x := by unfold tz Lib.ctz; rw [if_neg h0]
  obtain ⟨m, h1, h2⟩ := Lib.ctzFrom_spec 64 x (Nat.pos_of_ne_zero h0) h
  rw [hc]
  generalize Lib.ctzFrom 64 x = k at *
  have e : ∀ j, x.testBit j = (decide (k ≤ j) && (2 * m + 1).testBit (j - k)) := fun j => by rw [h1, Nat.mul_comm, Nat.testBit_mul_two_pow]
  refine ⟨?_, h2, fun j hj => ?_⟩
  · rw [e k]; simp
  · rw [e j]; simp; omega
def cutW (x k : Nat) : Nat := (x >>> k) <<< k
theorem cutW_bit (x k j : Nat) : (cutW x k).testBit j = (decide (k ≤ j) && x.testBit j) := by
  unfold cutW
  rw [Nat.testBit_shiftLeft, Nat.testBit_shiftRight]
  by_cases h : k ≤ j
  · simp [h, show k + (j - k) = j by omega]
  · simp [h]
theorem cutW_le (x k : Nat) : cutW x k ≤ x := by
  unfold cutW
  rw [Nat.shiftRight_eq_div_pow, Nat.shiftLeft_eq]
  exact Nat.div_mul_le_self _ _
theorem cutW_zero (x : Nat) : cutW x 0 = x := by unfold cutW; simp
theorem elems_word0 {w : List Nat} {i k : Nat} (hi : i < 16) (hk : k < 64) (h0 : cutW (wordM w i) k = 0) : elemsFrom w (64 * i + k) = elemsFrom w (64 * (i + 1)) := by
  have := elems_skip (w := w) (n := 64 * i + k) (d := 64 - k) (by omega) (fun j h1 h2 => by
    unfold memM
    rw [show j / 64 = i by omega]
    have := cutW_bit (wordM w i) k (j % 64)
    rw [h0] at this
    simp only [Nat.zero_testBit] at this
    have h3 : k ≤ j % 64 := by omega
    simpa [h3] using this.symm)
  rw [this]; congr 1; omega
theorem elems_word {w : List Nat} (hw : okM w) {i k : Nat} (hi : i < 16) (hk : k < 64) (h0 : cutW (wordM w i) k ≠ 0) : tz (cutW (wordM w i) k) < 64 ∧ k ≤ tz (cutW (wordM w i) k) ∧ elemsFrom w (64 * i + k) = (64 * i + tz (cutW (wordM w i) k)) :: elemsFrom w (64 * i + tz (cutW (wordM w i) k) + 1) := by
  have hlt : cutW (wordM w i) k < 18446744073709551616 := Nat.lt_of_le_of_lt (cutW_le _ _) (wordM_lt hw i)
  obtain ⟨a, b, c⟩ := tz_spec h0 hlt
  generalize tz (cutW (wordM w i) k) = z at *
  rw [cutW_bit, Bool.and_eq_true, decide_eq_true_eq] at a
  have h1 := elems_skip (w := w) (n := 64 * i + k) (d := z - k) (by omega) (fun j h1 h2 => by
    unfold memM
    rw [show j / 64 = i by omega]
    have := c (j % 64) (by omega)
    rw [cutW_bit] at this
    have h3 : k ≤ j % 64 := by omega
    simpa [h3] using this)
  refine ⟨b, a.1, ?_⟩
  rw [h1, show 64 * i + k + (z - k) = 64 * i + z by omega, elems_step w (by omega)]
  have : memM w (64 * i + z) = true := by
    unfold memM
    rw [show (64 * i + z) / 64 = i by omega, show (64 * i + z) % 64 = z by omega]; exact a.2
  rw [this, if_pos rfl]
end Go.L.Try
namespace Go.L.Try
open Go Go.L
variable {E : Env}
theorem encM_len {w : List Nat} (hw : okM w) : (encM w).length = 16 := by simp [encM, hw.len]
theorem encM_one (w : List Nat) : (encM w).all oneCell = true := by
  unfold encM; rw [List.all_map, List.all_eq_true]; intro x _; rfl
theorem encM_scal (w : List Nat) : (encM w).all scal = true := by
  unfold encM; rw [List.all_map, List.all_eq_true]; intro x _; rfl
theorem encM_nn (w : List Nat) (m : Nat) : (encM w).all (noNew m 3) = true := by
  unfold encM; rw [List.all_map, List.all_eq_true]; intro x _; rfl
theorem encM_take {w : List Nat} (hw : okM w) : (encM w).take 16 = encM w := List.take_of_length_le (by rw [encM_len hw]; exact Nat.le_refl _)
theorem encM_at {w : List Nat} (hw : okM w) {i : Nat} (hi : i < 16) : (encM w)[i]? = some (.int .u64 (wordM w i : Int)) := by
  have h := hw.len
  unfold encM wordM
  rw [List.getElem?_map, List.getD_eq_getElem?_getD, List.getElem?_eq_getElem (by omega)]; rfl
theorem encM_set (w : List Nat) (i x : Nat) : (encM w).set i (.int .u64 (x : Int)) = encM (w.set i x) := by unfold encM; rw [List.map_set]
theorem setCells_pre : ∀ (c d : List Value) (cs : List Value), d.length = cs.length → setCells (c ++ d) c.length cs = c ++ cs
  | c, [], [], _ => by simp [setCells_nil]
  | c, [], _ :: _, h => by simp at h
  | c, _ :: _, [], h => by simp at h
  | c, x :: d, y :: cs, h => by
    have ih := setCells_pre (c ++ [y]) d cs (by simpa using h)
    rw [setCells_cons, List.set_append_right _ _ (Nat.le_refl _), Nat.sub_self, List.set_cons_zero]
    simp only [List.append_assoc, List.cons_append, List.nil_append, List.length_append, List.length_cons, List.length_nil] at ih
    exact ih
theorem setCells_whole {d cs : List Value} (h : d.length = cs.length) : setCells d 0 cs = cs := setCells_pre [] d cs h
theorem setM {d : List Value} {w : List Nat} (hd : d.length = 16) (hw : okM w) : setCells d 0 (encM w) = encM w := setCells_whole (by rw [hd, encM_len hw])
def z16 : List Value := [.int .u64 0, .int .u64 0, .int .u64 0, .int .u64 0, .int .u64 0, .int .u64 0, .int .u64 0, .int .u64 0, .int .u64 0, .int .u64 0, .int .u64 0, .int .u64 0, .int .u64 0, .int .u64 0, .int .u64 0, .int .u64 0]
theorem setM0 {w : List Nat} (hw : okM w) : setCells [.int .u64 0, .int .u64 0, .int .u64 0, .int .u64 0, .int .u64 0, .int .u64 0, .int .u64 0, .int .u64 0, .int .u64 0, .int .u64 0, .int .u64 0, .int .u64 0, .int .u64 0, .int .u64 0, .int .u64 0, .int .u64 0] 0 (encM w) = encM w := setM rfl hw
theorem withM_in {w : List Nat} {m : Nat} (hm : m < 1024) : withM w (m : Int) = w.set (m / 64) (wordM w (m / 64) ||| 2 ^ (m % 64)) := by
  unfold withM; rw [if_pos ⟨by omega, by omega⟩]; rfl
theorem withoutM_in {w : List Nat} {m : Nat} (hm : m < 1024) : withoutM w (m : Int) = w.set (m / 64) (wordM w (m / 64) &&& (18446744073709551615 - 2 ^ (m % 64))) := by
  unfold withoutM; rw [if_pos ⟨by omega, by omega⟩]; rfl
theorem withS (hE : Laid E) (h : Heap) {w : List Nat} (hw : okM w) (n : Int) :
    callW E (.func (.func n_marks_Set_With) #[] #[]) [.agg (encM w).toArray, .int .i64 n] h = some (.agg (encM (withM w n)).toArray, h, []) := by
  have q := fun x => marksIn hE (h ++ x) n
  refine fn_same hE.marks_Set_With rfl (by simp) ?_
  simp only [argsF]
  have hl := encM_len hw
  have ho := encM_one w
  have htk := encM_take hw
  have hs0 := setM0 hw
  by_cases hin : 0 ≤ n ∧ n < 1024
  · rw [decide_eq_true hin] at q
    obtain ⟨m, rfl⟩ := Int.eq_ofNat_of_zero_le hin.1
    have hm : m < 1024 := by omega
    have hwm : withM w (m : Int) = w.set (m / 64) (wordM w (m / 64) ||| 2 ^ (m % 64)) := withM_in hm
    have hok := withM_ok hw (m : Int)
    rw [hwm] at hok ⊢
    have hat := encM_at hw (i := m / 64) (by omega)
    have hx := wordM_lt hw (m / 64)
    have hp := pow_lt64 (Nat.mod_lt m (by decide : 64 > 0))
    have hsh := fun q => bin_shl1 (q := q) (k := m % 64) (Nat.mod_lt _ (by decide))
    have hand := fun q => bin_and63 (q := q) (a := m) (by omega)
    have hor := fun q => bin_oru (q := q) hx hp
    have hset := encM_set w (m / 64) (wordM w (m / 64) ||| 2 ^ (m % 64))
    have hl2 := encM_len hok
    have ho2 := encM_one (w.set (m / 64) (wordM w (m / 64) ||| 2 ^ (m % 64)))
    have htk2 := encM_take hok
    have hs2 := setM0 hok
    have hdiv : ((m : Int) / 64).toNat = m / 64 := by omega
    have hmul : m / 64 * 1 = m / 64 := Nat.mul_one _
    have h16 : m / 64 + 1 ≤ 16 := by omega
    clear hok hw hx hp hin
    generalize hv : (wordM w (m / 64) ||| 2 ^ (m % 64)) = v at *
    generalize hw2 : w.set (m / 64) v = w2 at *
    have hnn := encM_nn w2 h.length
    (repeat' (first | (with_reducible refine A1 (fun _ => ?_) (fun _ => ?_) <;> try (exfalso; omega)) | (with_reducible refine A2 (fun _ => ?_) (fun _ => ?_) <;> try (exfalso; omega)) | (with_reducible refine A3 (fun _ => ?_) (fun _ => ?_) <;> try (exfalso; omega)) | refine A4 (fun _ => ?_) (fun _ => ?_) | refine A5 (fun _ => ?_) (fun _ => ?_) | refine A6 (fun _ => ?_) (fun _ => ?_) | simp -dsimp (disch := omega) only [↓EA, EB, Nat.reduceEqDiff, Nat.reduceAdd, Nat.reduceLeDiff, Nat.reduceMul, ↓reduceIte, reduceCtorEq, newCells, bslV, eq_self, *, bin_shr6]))
  · rw [decide_eq_false hin] at q
    rw [withM_out hin]
    have hnn := encM_nn w h.length
    (repeat' (first | (with_reducible refine A1 (fun _ => ?_) (fun _ => ?_) <;> try (exfalso; omega)) | (with_reducible refine A2 (fun _ => ?_) (fun _ => ?_) <;> try (exfalso; omega)) | (with_reducible refine A3 (fun _ => ?_) (fun _ => ?_) <;> try (exfalso; omega)) | refine A4 (fun _ => ?_) (fun _ => ?_) | refine A5 (fun _ => ?_) (fun _ => ?_) | refine A6 (fun _ => ?_) (fun _ => ?_) | simp -dsimp (disch := omega) only [↓EA, EB, Nat.reduceEqDiff, Nat.reduceAdd, Nat.reduceLeDiff, Nat.reduceMul, ↓reduceIte, reduceCtorEq, newCells, bslV, eq_self, *]))
theorem bin_shrk {q : EqK} {a k : Nat} (hk : k < 64) : binOp .shr q (.int .u64 (a : Int)) (.int .i64 (k : Int)) = some (.int .u64 ((a >>> k : Nat) : Int)) := by
  have e : binOp .shr q (.int .u64 (a : Int)) (.int .i64 (k : Int)) = some (.int .u64 (Int.fdiv (a : Int) (2 ^ k))) := by
    simp only [binOp, intOp]
    rw [if_neg (by omega), show min ((k : Int)).toNat (IntKind.bits .u64) = k by show min _ 64 = k; omega]
  rw [e, Int.fdiv_eq_ediv_of_nonneg _ (Int.pow_nonneg (by decide)), Nat.shiftRight_eq_div_pow]
  congr 2
theorem bin_shlk {q : EqK} {a k : Nat} (hk : k < 64) (hlt : a <<< k < 18446744073709551616) : binOp .shl q (.int .u64 (a : Int)) (.int .i64 (k : Int)) = some (.int .u64 ((a <<< k : Nat) : Int)) := by
  have e : binOp .shl q (.int .u64 (a : Int)) (.int .i64 (k : Int)) = some (.int .u64 (IntKind.u64.wrap ((a : Int) * 2 ^ k))) := by
    simp only [binOp, intOp]
    rw [if_neg (by omega), show min ((k : Int)).toNat (IntKind.bits .u64) = k by show min _ 64 = k; omega]
  have e2 : (a : Int) * 2 ^ k = ((a <<< k : Nat) : Int) := by rw [Nat.shiftLeft_eq]; simp
  rw [e, e2, wrap_u64 (Int.natCast_nonneg _) (Int.ofNat_lt.2 hlt)]
end Go.L.Try
namespace Go.L.Try
open Go Go.L
variable {E : Env} {G : Nat}
def tabOk (c : List Value) : Bool := decide (c.length = 64) && (List.range 64).all fun j => match c[j]? with
  | some (.int .u8 n) => n == ((Lib.deBruijn64tab.getD j 0 : Nat) : Int)
  | _ => false
def tzE (G : Nat) : List Value → Heap → Option (Value × Heap × List Nat)
  | [.int .u64 a], h => match h[G]? with
    | some (.cells c _) => if tabOk c = true ∧ 0 ≤ a ∧ a < 18446744073709551616 then some (.int .i64 (tz a.toNat : Nat), h, []) else none
    | _ => none
  | _, _ => none
structure LaidTz (E : Env) (G : Nat) : Prop where
  tz64 : E n_math_bits_TrailingZeros64 = .ext (tzE G)
def Tab (G : Nat) (h : Heap) : Prop := ∃ c ro, h[G]? = some (.cells c ro) ∧ tabOk c = true
theorem Tab.pre {h h' : Heap} (t : Tab G h) (p : Pre h h') : Tab G h' := by
  obtain ⟨c, ro, h1, h2⟩ := t; exact ⟨c, ro, p _ _ h1, h2⟩
theorem Tab.app {h : Heap} (t : Tab G h) (x : Heap) : Tab G (h ++ x) := t.pre (Pre.app h x)
theorem tz64 (hZ : LaidTz E G) {h : Heap} (ht : Tab G h) {a : Nat} (ha : a < 18446744073709551616) :
    callW E (.func (.func n_math_bits_TrailingZeros64) #[] #[]) [.int .u64 (a : Int)] h = some (.int .i64 (tz a : Nat), h, []) := by
  obtain ⟨c, ro, h1, h2⟩ := ht
  rw [callW_ext hZ.tz64]
  simp only [tzE, h1]
  rw [if_pos ⟨h2, by omega, by omega⟩]; rfl
theorem bin_shl6 {q : EqK} {a : Int} (h1 : 0 ≤ a) (h2 : a < 1073741824) : binOp .shl q (.int .i64 a) (.int .u64 6) = some (.int .i64 (a * 64)) := by
  have e : binOp .shl q (.int .i64 a) (.int .u64 6) = some (.int .i64 (IntKind.i64.wrap (a * 64))) := by
    simp only [binOp, intOp]
    rw [if_neg (by decide)]; rfl
  rw [e, wrap_i64 (by omega) (by omega)]
def nextP (w : List Nat) (n : Int) : Option Nat := (elemsFrom w (max n (-1) + 1).toNat).head?
def nextV : Option Nat → Value
  | some m => .tuple #[.int .i64 (m : Nat), .bool true]
  | none => .tuple #[.int .i64 0, .bool false]
theorem nextS (hE : Laid E) (hZ : LaidTz E G) {h : Heap} (ht : Tab G h) {w : List Nat} (hw : okM w) {n : Int} (hn : n < 4611686018427387904) :
    callW E (.func (.func n_marks_Set_Next) #[] #[]) [.agg (encM w).toArray, .int .i64 n] h = some (nextV (nextP w n), h, []) := by
  have q := fun x => marksIn hE (h ++ x) (max n (-1) + 1)
  refine fn_same hE.marks_Set_Next rfl (by simp) ?_
  simp only [argsF]
  have hl := encM_len hw
  have ho := encM_one w
  by_cases hin : max n (-1) + 1 < 1024
  · rw [decide_eq_true (show 0 ≤ max n (-1) + 1 ∧ max n (-1) + 1 < 1024 by omega)] at q
    unfold nextP
    obtain ⟨m, hm⟩ : ∃ m : Nat, max n (-1) + 1 = (m : Int) := ⟨(max n (-1) + 1).toNat, by omega⟩
    have hmm : max n (-1) = (m : Int) - 1 := by omega
    have hm1 : (m : Int) - 1 + 1 = m := by omega
    rw [hm] at q ⊢
    rw [show ((m : Int)).toNat = m by omega]
    have hm2 : m < 1024 := by omega
    have hat := encM_at hw (i := m / 64) (by omega)
    have hx := wordM_lt hw (m / 64)
    have hmod := Nat.mod_lt m (by decide : 64 > 0)
    have hand := fun q => bin_and63 (q := q) (a := m) (by omega)
    have hshr := fun q => bin_shrk (q := q) (a := wordM w (m / 64)) (k := m % 64) hmod
    have hshl := fun q => bin_shlk (q := q) (a := wordM w (m / 64) >>> (m % 64)) (k := m % 64) hmod (by have := cutW_le (wordM w (m / 64)) (m % 64); unfold cutW at this; omega)
    have hcut : (wordM w (m / 64) >>> (m % 64)) <<< (m % 64) = cutW (wordM w (m / 64)) (m % 64) := rfl
    rw [hcut] at hshl
    clear hcut
    have hdiv : ((m : Int) / 64).toNat = m / 64 := by omega
    have hdiv2 : ((m : Int) / 64) = ((m / 64 : Nat) : Int) := by omega
    have hmul : m / 64 * 1 = m / 64 := Nat.mul_one _
    have H64 : m / 64 < 16 := by omega
    clear hm hx hin
    have htA := ht.app [LObj.cells (encM w) false]
    have hlen : 64 * (m / 64) + m % 64 = m := by omega
    (repeat' (first | (with_reducible refine A1 (fun _ => ?_) (fun _ => ?_) <;> try (exfalso; omega)) | (with_reducible refine A2 (fun _ => ?_) (fun _ => ?_) <;> try (exfalso; omega)) | (with_reducible refine A3 (fun _ => ?_) (fun _ => ?_) <;> try (exfalso; omega)) | refine A4 (fun _ => ?_) (fun _ => ?_) | refine A5 (fun _ => ?_) (fun _ => ?_) | refine A6 (fun _ => ?_) (fun _ => ?_) | simp -dsimp (disch := omega) only [↓EA, EB, Nat.reduceEqDiff, Nat.reduceAdd, Nat.reduceLeDiff, Nat.reduceMul, ↓reduceIte, reduceCtorEq, newCells, bslV, eq_self, *, bin_shr6, Int.toNat_natCast]))
    refine WO.loop (α := Nat × Nat) (fun s fr h' => h' = h ++ [LObj.cells (encM w) false] ∧ s.1 < 16 ∧ s.2 < 64 ∧ elemsFrom w m = elemsFrom w (64 * s.1 + s.2) ∧ get fr 2 = .pointer (some ⟨h.length, 0, none⟩) ∧ get fr 7 = .int .u64 ((cutW (wordM w s.1) s.2 : Nat) : Int) ∧ get fr 8 = .int .i64 (s.1 : Int)) (fun s => 16 - s.1) ?_ (m / 64, m % 64) ?_
    rotate_left
    · exact ⟨rfl, H64, hmod, by rw [hlen], rfl, rfl, rfl⟩
    rintro ⟨i, k⟩ fr h' ⟨rfl, hi, hk, he, g2, g7, g8⟩
    dsimp only at hi hk he g7 g8
    have He := Hid.mk he
    clear he q hand hshr hshl hdiv hdiv2 hmul hat hlen hmod H64
    have H0 := Hid.mk (fun h0 => elems_word0 (w := w) hi hk h0)
    have H1 := Hid.mk (fun h0 => elems_word hw hi hk h0)
    have hc := Nat.lt_of_le_of_lt (cutW_le (wordM w i) k) (wordM_lt hw i)
    have hz := tz64 hZ htA hc
    have hat := fun hi => encM_at hw (i := i + 1) hi
    have h0 := cutW_zero (wordM w (i + 1))
    generalize hcv : cutW (wordM w i) k = cv at *
    unfold c_marks_Set_Next_l0
    by_cases hcv0 : cv = 0
    · subst hcv0
      have e := H0.out rfl
      by_cases hi15 : i = 15
      · subst hi15
        have e2 : (elemsFrom w m).head? = none := by rw [He.out, e, elems_end w (by omega)]; rfl
        rw [e2]
        clear hat H0 H1 He
        unfold nextV
        (repeat' (first | (with_reducible refine A1 (fun _ => ?_) (fun _ => ?_) <;> try (exfalso; omega)) | (with_reducible refine A2 (fun _ => ?_) (fun _ => ?_) <;> try (exfalso; omega)) | (with_reducible refine A3 (fun _ => ?_) (fun _ => ?_) <;> try (exfalso; omega)) | refine A4 (fun _ => ?_) (fun _ => ?_) | refine A5 (fun _ => ?_) (fun _ => ?_) | refine A6 (fun _ => ?_) (fun _ => ?_) | simp -dsimp (disch := omega) only [↓EA, EB, Nat.reduceEqDiff, Nat.reduceAdd, Nat.reduceLeDiff, Nat.reduceMul, ↓reduceIte, reduceCtorEq, newCells, bslV, eq_self, *]))
      · have hat := hat (by omega)
        have hii : ((i : Int) + 1).toNat = i + 1 := by omega
        have hmul : (i + 1) * 1 = i + 1 := Nat.mul_one _
        clear H0 H1 hz
        (repeat' (first | (with_reducible refine A1 (fun _ => ?_) (fun _ => ?_) <;> try (exfalso; omega)) | (with_reducible refine A2 (fun _ => ?_) (fun _ => ?_) <;> try (exfalso; omega)) | (with_reducible refine A3 (fun _ => ?_) (fun _ => ?_) <;> try (exfalso; omega)) | refine A4 (fun _ => ?_) (fun _ => ?_) | refine A5 (fun _ => ?_) (fun _ => ?_) | refine A6 (fun _ => ?_) (fun _ => ?_) | simp -dsimp (disch := omega) only [↓EA, EB, Nat.reduceEqDiff, Nat.reduceAdd, Nat.reduceLeDiff, Nat.reduceMul, ↓reduceIte, reduceCtorEq, newCells, bslV, eq_self, *]))
        refine Next.mk (i + 1, 0) ⟨rfl, by simp only []; omega, by simp only []; omega, ?_, rfl, ?_, rfl⟩ (by simp only []; omega)
        · rw [He.out, e]; rfl
        · simp only [h0]; rfl
    · obtain ⟨t1, t2, t3⟩ := H1.out hcv0
      have e2 : (elemsFrom w m).head? = some (64 * i + tz cv) := by rw [He.out, t3]; rfl
      rw [e2]
      generalize tz cv = z at *
      have e4 : (i : Int) * 64 + z = ((64 * i + z : Nat) : Int) := by omega
      clear hat H0 H1 He t3 e2
      unfold nextV
      have hcv1 : ¬ ((cv : Int) = 0) := by omega
      (repeat' (first | (with_reducible refine A1 (fun _ => ?_) (fun _ => ?_) <;> try (exfalso; omega)) | (with_reducible refine A2 (fun _ => ?_) (fun _ => ?_) <;> try (exfalso; omega)) | (with_reducible refine A3 (fun _ => ?_) (fun _ => ?_) <;> try (exfalso; omega)) | refine A4 (fun _ => ?_) (fun _ => ?_) | refine A5 (fun _ => ?_) (fun _ => ?_) | refine A6 (fun _ => ?_) (fun _ => ?_) | simp -dsimp (disch := omega) only [↓EA, EB, Nat.reduceEqDiff, Nat.reduceAdd, Nat.reduceLeDiff, Nat.reduceMul, ↓reduceIte, reduceCtorEq, newCells, bslV, eq_self, *, bin_shl6]))
  · rw [decide_eq_false (show ¬ (0 ≤ max n (-1) + 1 ∧ max n (-1) + 1 < 1024) by omega)] at q
    have e : nextP w n = none := by unfold nextP; rw [elems_end w (by omega)]; rfl
    rw [e]
    unfold nextV
    (repeat' (first | (with_reducible refine A1 (fun _ => ?_) (fun _ => ?_) <;> try (exfalso; omega)) | (with_reducible refine A2 (fun _ => ?_) (fun _ => ?_) <;> try (exfalso; omega)) | (with_reducible refine A3 (fun _ => ?_) (fun _ => ?_) <;> try (exfalso; omega)) | refine A4 (fun _ => ?_) (fun _ => ?_) | refine A5 (fun _ => ?_) (fun _ => ?_) | refine A6 (fun _ => ?_) (fun _ => ?_) | simp -dsimp (disch := omega) only [↓EA, EB, Nat.reduceEqDiff, Nat.reduceAdd, Nat.reduceLeDiff, Nat.reduceMul, ↓reduceIte, reduceCtorEq, newCells, bslV, eq_self, *]))
theorem nextP_first (w : List Nat) : nextP w (-1) = (elemsFrom w 0).head? := rfl
theorem marksFirst (hE : Laid E) (hZ : LaidTz E G) {h : Heap} (ht : Tab G h) {w : List Nat} (hw : okM w) :
    callW E (.func (.func n_marks_Set_First) #[] #[]) [.agg (encM w).toArray] h = some (nextV (nextP w (-1)), h, []) := by
  have q := fun x => nextS hE hZ (ht.app x) hw (n := -1) (by decide)
  refine fn_same hE.marks_Set_First rfl (by simp) ?_
  simp only [argsF]
  have hl := encM_len hw
  have ho := encM_one w
  have htk := encM_take hw
  cases hn : nextP w (-1) with
  | none =>
    rw [hn] at q
    unfold nextV at q ⊢
    (repeat' (first | (with_reducible refine A1 (fun _ => ?_) (fun _ => ?_) <;> try (exfalso; omega)) | (with_reducible refine A2 (fun _ => ?_) (fun _ => ?_) <;> try (exfalso; omega)) | (with_reducible refine A3 (fun _ => ?_) (fun _ => ?_) <;> try (exfalso; omega)) | refine A4 (fun _ => ?_) (fun _ => ?_) | refine A5 (fun _ => ?_) (fun _ => ?_) | refine A6 (fun _ => ?_) (fun _ => ?_) | simp -dsimp (disch := omega) only [↓EA, EB, Nat.reduceEqDiff, Nat.reduceAdd, Nat.reduceLeDiff, Nat.reduceMul, ↓reduceIte, reduceCtorEq, newCells, bslV, eq_self, *]))
  | some m =>
    rw [hn] at q
    unfold nextV at q ⊢
    (repeat' (first | (with_reducible refine A1 (fun _ => ?_) (fun _ => ?_) <;> try (exfalso; omega)) | (with_reducible refine A2 (fun _ => ?_) (fun _ => ?_) <;> try (exfalso; omega)) | (with_reducible refine A3 (fun _ => ?_) (fun _ => ?_) <;> try (exfalso; omega)) | refine A4 (fun _ => ?_) (fun _ => ?_) | refine A5 (fun _ => ?_) (fun _ => ?_) | refine A6 (fun _ => ?_) (fun _ => ?_) | simp -dsimp (disch := omega) only [↓EA, EB, Nat.reduceEqDiff, Nat.reduceAdd, Nat.reduceLeDiff, Nat.reduceMul, ↓reduceIte, reduceCtorEq, newCells, bslV, eq_self, *]))
theorem allS (hE : Laid E) (h : Heap) {w : List Nat} (hw : okM w) :
    ∃ v ys, callW E (.func (.func n_marks_Set_All) #[] #[]) [.agg (encM w).toArray] h = some (v, h ++ ys, []) ∧ ∃ bx, v = .func (.func n_marks_Set_All_f1) #[] #[.pointer (some ⟨bx, 0, none⟩)] ∧ h.length ≤ bx ∧ (h ++ ys)[bx]? = some (.cells (encM w) false) := by
  have hmv : Movable h.length (fun hh v => ∃ bx, v = .func (.func n_marks_Set_All_f1) #[] #[.pointer (some ⟨bx, 0, none⟩)] ∧ h.length ≤ bx ∧ hh[bx]? = some (.cells (encM w) false)) 2 := by
    refine ⟨fun ρ a a' d v v' hm hv ⟨bx, e, hge, hb⟩ => ?_, fun a v ⟨bx, e, _⟩ => by subst e; rfl⟩
    subst e
    cases d with
    | zero => simp [renV, List.mapM_cons] at hv
    | succ d =>
      simp only [renV, List.mapM_nil, List.mapM_cons] at hv
      cases hρ : ρ bx with
      | none => simp [hρ] at hv
      | some b' =>
        simp [hρ] at hv
        subst hv
        obtain ⟨o, ho, hb'⟩ := hm.new bx b' hge hρ
        rw [List.getD_eq_getElem?_getD, hb] at ho
        simp only [Option.getD_some, renO, Bool.false_eq_true, if_false] at ho
        rw [mapM_scal (d := 3) (encM_scal w)] at ho
        simp at ho
        subst ho
        exact ⟨b', rfl, hm.ge bx b' hge hρ, hb'⟩
  refine fn_new hE.marks_Set_All rfl hmv (by simp) ?_
  have hl := encM_len hw
  have ho := encM_one w
  simp only [argsF]
  (repeat' (first | (with_reducible refine A1 (fun _ => ?_) (fun _ => ?_) <;> try (exfalso; omega)) | (with_reducible refine A2 (fun _ => ?_) (fun _ => ?_) <;> try (exfalso; omega)) | (with_reducible refine A3 (fun _ => ?_) (fun _ => ?_) <;> try (exfalso; omega)) | refine A4 (fun _ => ?_) (fun _ => ?_) | refine A5 (fun _ => ?_) (fun _ => ?_) | refine A6 (fun _ => ?_) (fun _ => ?_) | simp -dsimp (disch := omega) only [↓EA, EB, Nat.reduceEqDiff, Nat.reduceAdd, Nat.reduceLeDiff, Nat.reduceMul, ↓reduceIte, reduceCtorEq, newCells, bslV, eq_self, *]))
  exact ⟨⟨_, rfl⟩, _, rfl, Nat.le_refl _, by rw [geta0]; rfl⟩
theorem all_iter (hE : Laid E) (hZ : LaidTz E G) {w : List Nat} (hw : okM w) (bx : Nat) :
    IterOK E (.func (.func n_marks_Set_All_f1) #[] #[.pointer (some ⟨bx, 0, none⟩)]) (fun h => h[bx]? = some (.cells (encM w) false) ∧ Tab G h) ((elemsFrom w 0).map fun n : Nat => [.int .i64 (n : Int)]) := by
  intro h1 L W J Stop hJ h0 hS step
  refine fn_eff hE.keep hE.marks_Set_All_f1 rfl (by simp) ?_
  obtain ⟨_, hb1, ht1⟩ := hJ 0 h1 h0
  have q := marksFirst hE hZ ht1 hw
  have hl := encM_len hw
  have ho := encM_one w
  have htk := encM_take hw
  simp only [List.cons_append, List.nil_append, argsF]
  have HJ := Hid.mk hJ
  have HS := Hid.mk hS
  have Hst := Hid.mk step
  have H0 := Hid.mk h0
  clear hJ hS step h0
  generalize hvals : (elemsFrom w 0).map (fun n : Nat => [Value.int .i64 (n : Int)]) = vals at *
  rw [nextP_first] at q
  have key : ∀ (e : List Nat) (fr : Fr), elemsFrom w 0 = e → get fr 0 = .func (.yield L) #[] #[] → get fr 1 = .pointer (some ⟨bx, 0, none⟩) → (match e with | [] => get fr 4 = .bool false | n :: _ => get fr 3 = .int .i64 (n : Int) ∧ get fr 4 = .bool true) →
      WO W (code (callW E) iterW 21 (.block 0 (.loop c_marks_Set_All_f1_l0)) fr h1) (Res [] fun v h' => noNew (List.length h1) 4 v = true ∧ h'.length = h1.length ∧ (J vals.length h' ∨ Stop h')) := by
    intro e fr he g0 g1 g34
    (repeat' (first | (with_reducible refine A1 (fun _ => ?_) (fun _ => ?_) <;> try (exfalso; omega)) | (with_reducible refine A2 (fun _ => ?_) (fun _ => ?_) <;> try (exfalso; omega)) | (with_reducible refine A3 (fun _ => ?_) (fun _ => ?_) <;> try (exfalso; omega)) | refine A4 (fun _ => ?_) (fun _ => ?_) | refine A5 (fun _ => ?_) (fun _ => ?_) | refine A6 (fun _ => ?_) (fun _ => ?_) | simp -dsimp (disch := omega) only [↓EA, EB, Nat.reduceEqDiff, Nat.reduceAdd, Nat.reduceLeDiff, Nat.reduceMul, ↓reduceIte, reduceCtorEq, newCells, bslV, eq_self, *]))
    refine WO.loop (α := Nat × List Nat) (fun s fr h' => (elemsFrom w 0).drop s.1 = s.2 ∧ s.1 + s.2.length = (elemsFrom w 0).length ∧ J s.1 h' ∧ get fr 0 = .func (.yield L) #[] #[] ∧ get fr 1 = .pointer (some ⟨bx, 0, none⟩) ∧ (match s.2 with | [] => get fr 4 = .bool false | n :: r => get fr 3 = .int .i64 (n : Int) ∧ get fr 4 = .bool true) ∧ ∀ n r, s.2 = n :: r → r = elemsFrom w (n + 1) ∧ n < 1024) (fun s => s.2.length) ?_ (0, e) ⟨he, by rw [he]; simp, H0.out, g0, g1, g34, fun n r h => elems_cons _ rfl (he.trans h)⟩
    rintro ⟨k, e⟩ fr h' ⟨hd, hkl, hj, g0, g1, g34, hcons⟩
    dsimp only at hd hkl hj g34 hcons
    obtain ⟨hlen, hb, ht⟩ := HJ.out k h' hj
    clear he q H0 ht1 hb1
    unfold c_marks_Set_All_f1_l0
    cases e with
    | nil =>
      dsimp only at g34
      have hk : k = vals.length := by rw [← hvals, List.length_map, ← hkl]; rfl
      subst hk
      have Hj := Hid.mk hj
      clear hj hd hkl hcons
      (repeat' (first | (with_reducible refine A1 (fun _ => ?_) (fun _ => ?_) <;> try (exfalso; omega)) | (with_reducible refine A2 (fun _ => ?_) (fun _ => ?_) <;> try (exfalso; omega)) | (with_reducible refine A3 (fun _ => ?_) (fun _ => ?_) <;> try (exfalso; omega)) | refine A4 (fun _ => ?_) (fun _ => ?_) | refine A5 (fun _ => ?_) (fun _ => ?_) | refine A6 (fun _ => ?_) (fun _ => ?_) | simp -dsimp (disch := omega) only [↓EA, EB, Nat.reduceEqDiff, Nat.reduceAdd, Nat.reduceLeDiff, Nat.reduceMul, ↓reduceIte, reduceCtorEq, newCells, bslV, eq_self, *]))
      first
        | exact ⟨hlen, .inl Hj.out⟩
        | exact .inl Hj.out
    | cons n r =>
      dsimp only at g34
      obtain ⟨g3, g4⟩ := g34
      obtain ⟨hr, hn⟩ := hcons n r rfl
      have hv : vals[k]? = some [.int .i64 (n : Int)] := by
        have h1 : (elemsFrom w 0)[k]? = some n := by
          have : ((elemsFrom w 0).drop k)[0]? = some n := by rw [hd]; rfl
          rw [List.getElem?_drop, Nat.add_zero] at this; exact this
        rw [← hvals, List.getElem?_map, h1]; rfl
      have hst := Hid.mk (Hst.out k h' _ hv hj)
      have Hd := Hid.mk hd
      have Hc := Hid.mk hcons
      clear hd hcons hv hj Hst
      simp only [List.length_cons] at hkl
      (repeat' (first | (with_reducible refine A1 (fun _ => ?_) (fun _ => ?_) <;> try (exfalso; omega)) | (with_reducible refine A2 (fun _ => ?_) (fun _ => ?_) <;> try (exfalso; omega)) | (with_reducible refine A3 (fun _ => ?_) (fun _ => ?_) <;> try (exfalso; omega)) | refine A4 (fun _ => ?_) (fun _ => ?_) | refine A5 (fun _ => ?_) (fun _ => ?_) | refine A6 (fun _ => ?_) (fun _ => ?_) | simp -dsimp (disch := omega) only [↓EA, EB, Nat.reduceEqDiff, Nat.reduceAdd, Nat.reduceLeDiff, Nat.reduceMul, ↓reduceIte, reduceCtorEq, newCells, bslV, eq_self, *]))
      refine WX.mono hst.out (fun b h => h) fun v h2 hx => ?_
      rcases hx with ⟨rfl, hj2⟩ | ⟨rfl, hs2⟩
      · obtain ⟨hlen2, hb2, ht2⟩ := HJ.out (k + 1) h2 hj2
        have q2 := nextS hE hZ ht2 hw (n := (n : Int)) (by omega)
        have en : nextP w (n : Int) = r.head? := by
          unfold nextP; rw [show (max (n : Int) (-1) + 1).toNat = n + 1 by omega, ← hr]
        rw [en] at q2
        have Hj2 := Hid.mk hj2
        have Hr := Hid.mk hr
        clear hj2 hr hst ht2 en hb ht hlen
        have hd2 : (elemsFrom w 0).drop (k + 1) = r := by rw [← List.drop_drop, Hd.out]; rfl
        have Hd2 := Hid.mk hd2
        clear hd2
        cases r with
        | nil =>
          simp only [List.head?_nil, nextV] at q2
          (repeat' (first | (with_reducible refine A1 (fun _ => ?_) (fun _ => ?_) <;> try (exfalso; omega)) | (with_reducible refine A2 (fun _ => ?_) (fun _ => ?_) <;> try (exfalso; omega)) | (with_reducible refine A3 (fun _ => ?_) (fun _ => ?_) <;> try (exfalso; omega)) | refine A4 (fun _ => ?_) (fun _ => ?_) | refine A5 (fun _ => ?_) (fun _ => ?_) | refine A6 (fun _ => ?_) (fun _ => ?_) | simp -dsimp (disch := omega) only [↓EA, EB, Nat.reduceEqDiff, Nat.reduceAdd, Nat.reduceLeDiff, Nat.reduceMul, ↓reduceIte, reduceCtorEq, newCells, bslV, eq_self, *]))
          exact Next.mk (k + 1, []) ⟨Hd2.out, by simpa using hkl, Hj2.out, rfl, rfl, rfl, fun n r h => by cases h⟩ (by simp)
        | cons m r2 =>
          simp only [List.head?_cons, nextV] at q2
          (repeat' (first | (with_reducible refine A1 (fun _ => ?_) (fun _ => ?_) <;> try (exfalso; omega)) | (with_reducible refine A2 (fun _ => ?_) (fun _ => ?_) <;> try (exfalso; omega)) | (with_reducible refine A3 (fun _ => ?_) (fun _ => ?_) <;> try (exfalso; omega)) | refine A4 (fun _ => ?_) (fun _ => ?_) | refine A5 (fun _ => ?_) (fun _ => ?_) | refine A6 (fun _ => ?_) (fun _ => ?_) | simp -dsimp (disch := omega) only [↓EA, EB, Nat.reduceEqDiff, Nat.reduceAdd, Nat.reduceLeDiff, Nat.reduceMul, ↓reduceIte, reduceCtorEq, newCells, bslV, eq_self, *]))
          refine Next.mk (k + 1, m :: r2) ⟨Hd2.out, by simp only [List.length_cons] at hkl ⊢; omega, Hj2.out, rfl, rfl, ⟨rfl, rfl⟩, fun n' r' h => ?_⟩ (by simp)
          exact elems_cons _ rfl (Hr.out.symm.trans h)
      · have Hs2 := Hid.mk hs2
        clear hs2 hst
        (repeat' (first | (with_reducible refine A1 (fun _ => ?_) (fun _ => ?_) <;> try (exfalso; omega)) | (with_reducible refine A2 (fun _ => ?_) (fun _ => ?_) <;> try (exfalso; omega)) | (with_reducible refine A3 (fun _ => ?_) (fun _ => ?_) <;> try (exfalso; omega)) | refine A4 (fun _ => ?_) (fun _ => ?_) | refine A5 (fun _ => ?_) (fun _ => ?_) | refine A6 (fun _ => ?_) (fun _ => ?_) | simp -dsimp (disch := omega) only [↓EA, EB, Nat.reduceEqDiff, Nat.reduceAdd, Nat.reduceLeDiff, Nat.reduceMul, ↓reduceIte, reduceCtorEq, newCells, bslV, eq_self, *]))
        first
          | exact ⟨HS.out _ Hs2.out, .inr Hs2.out⟩
          | exact .inr Hs2.out
  clear hvals
  cases he : elemsFrom w 0 with
  | nil =>
    rw [he] at q
    simp only [List.head?_nil, nextV] at q
    have K := Hid.mk (key [] [(0, .func (.yield L) #[] #[]), (1, .pointer (some ⟨bx, 0, none⟩)), (3, .int .i64 0), (4, .bool false)] he rfl rfl rfl)
    clear key he H0 HJ HS Hst
    simp -dsimp (disch := omega) only [↓EA, EB, Nat.reduceEqDiff, Nat.reduceAdd, Nat.reduceLeDiff, Nat.reduceMul, ↓reduceIte, reduceCtorEq, newCells, bslV, eq_self, *]
    have k := K.out
    rw [co_block, co_loop] at k
    exact k
  | cons n r =>
    rw [he] at q
    simp only [List.head?_cons, nextV] at q
    have K := Hid.mk (key (n :: r) [(0, .func (.yield L) #[] #[]), (1, .pointer (some ⟨bx, 0, none⟩)), (3, .int .i64 (n : Int)), (4, .bool true)] he rfl rfl ⟨rfl, rfl⟩)
    clear key he H0 HJ HS Hst
    simp -dsimp (disch := omega) only [↓EA, EB, Nat.reduceEqDiff, Nat.reduceAdd, Nat.reduceLeDiff, Nat.reduceMul, ↓reduceIte, reduceCtorEq, newCells, bslV, eq_self, *]
    have k := K.out
    rw [co_block, co_loop] at k
    exact k
end Go.L.Try
namespace Go.L.Try
open Go Go.L
variable {E : Env} {G : Nat}
def thoseW (p : Task → Bool) (l : List Task) : Nat → List Nat
  | 0 => List.replicate 16 0
  | k + 1 => if p (atI l (k : Int)) = true then withM (thoseW p l k) (k : Int) else thoseW p l k
theorem thoseW_ok (p : Task → Bool) (l : List Task) : ∀ k, okM (thoseW p l k)
  | 0 => okM_zero
  | k + 1 => by
    unfold thoseW
    split
    · exact withM_ok (thoseW_ok p l k) _
    · exact thoseW_ok p l k
theorem thoseW_mem (p : Task → Bool) (l : List Task) : ∀ (k : Nat), k ≤ 1024 → ∀ m, memM (thoseW p l k) m = (decide (m < k) && p (atI l (m : Int)))
  | 0, _, m => by rw [thoseW, memM_zero]; simp
  | k + 1, hk, m => by
    have ih := thoseW_mem p l k (by omega) m
    unfold thoseW
    by_cases hp : p (atI l (k : Int)) = true
    · rw [if_pos hp, withM_mem (thoseW_ok p l k) (by omega), ih]
      by_cases h : m = k
      · subst h; simp [hp]
      · have e : decide (m < k + 1) = decide (m < k) := decide_eq_decide.2 (by omega)
        simp [h, e]
    · rw [if_neg hp, ih]
      by_cases h : m = k
      · subst h
        have hp' : p (atI l (m : Int)) = false := by simpa using hp
        simp [hp']
      · have e : decide (m < k + 1) = decide (m < k) := decide_eq_decide.2 (by omega)
        rw [e]
theorem those_out (hE : Laid E) {h : Heap} {vl vf : Value} {l : List Task} (hl : Rd 7 encT h vl l) {f : FuncId} {ca cb : Array Value} (hf : vf = .func (.func f) ca cb) {i : Int} {p : Task → Bool} (hi : 0 ≤ i ∧ i < l.length) (hn : l.length ≤ 1024)
    (hp : ∀ (h' : Heap) (t : Task), Pre h h' → callW E vf [.agg (encT t).toArray] h' = some (.bool (p t), h', [])) :
    callW E (.func (.func n_task_those) #[] #[]) [vl, .int .i64 i, vf] h = some (.agg (encM (thoseW p l l.length)).toArray, h, []) := by
  refine fn_same hE.task_those rfl (by simp) ?_
  simp only [argsF]
  have few := hl.few
  have Hf := Hid.mk hf
  clear hf
  have hz : ([.int .u64 0, .int .u64 0, .int .u64 0, .int .u64 0, .int .u64 0, .int .u64 0, .int .u64 0, .int .u64 0, .int .u64 0, .int .u64 0, .int .u64 0, .int .u64 0, .int .u64 0, .int .u64 0, .int .u64 0, .int .u64 0] : List Value) = z16 := rfl
  have Hz := Hid.mk hz
  clear hz
  (repeat' (first | (with_reducible refine A1 (fun _ => ?_) (fun _ => ?_) <;> try (exfalso; omega)) | (with_reducible refine A2 (fun _ => ?_) (fun _ => ?_) <;> try (exfalso; omega)) | (with_reducible refine A3 (fun _ => ?_) (fun _ => ?_) <;> try (exfalso; omega)) | refine A4 (fun _ => ?_) (fun _ => ?_) | refine A5 (fun _ => ?_) (fun _ => ?_) | refine A6 (fun _ => ?_) (fun _ => ?_) | simp -dsimp (disch := omega) only [↓EA, EB, Nat.reduceEqDiff, Nat.reduceAdd, Nat.reduceLeDiff, Nat.reduceMul, ↓reduceIte, reduceCtorEq, newCells, bslV, eq_self, *, hl.len]))
  rw [Hz.out]
  refine WO.loop (fun (n : Nat) fr h' => Pre h h' ∧ h.length + 2 ≤ h'.length ∧ n ≤ l.length ∧ get fr 2 = vf ∧ get fr 6 = .pointer (some ⟨h.length, 0, none⟩) ∧ get fr 7 = .pointer (some ⟨h.length + 1, 0, none⟩) ∧ get fr 19 = vl ∧ get fr 20 = .int .i64 l.length ∧ get fr 21 = .int .i64 n ∧ h'[h.length]? = some (.cells z16 false) ∧ h'[h.length + 1]? = some (.cells (encM (thoseW p l n)) false)) (fun n => l.length - n) ?_ 0 ⟨Pre.app h _, by simp, Nat.zero_le _, rfl, rfl, rfl, rfl, rfl, rfl, by rw [geta0]; rfl, by rw [geta]; rfl⟩
  rintro n fr h' ⟨hpre, hlen, hn', g2, g6, g7, g19, g20, g21, b1, b2⟩
  unfold c_task_those_l0
  have ok := thoseW_ok p l n
  have hlM := encM_len ok
  have hoM := encM_one (thoseW p l n)
  have htk := encM_take ok
  have hs16 := fun w (hw : okM w) => setM (d := z16) rfl hw
  have hl16 : z16.length = 16 := rfl
  rcases Nat.lt_or_ge n l.length with hlt | hge
  · have hl' := hl.pre hpre
    have q := fun (x : Heap) => hp (h' ++ x) (atI l (n : Int)) (hpre.app' x)
    have hset : ∀ (x : Heap) (o : LObj), Pre h ((h' ++ x).set (h.length + 1) o) := fun x o => (hpre.app' x).set (by omega) o
    have w1 := fun x => withS hE (h' ++ x) ok (n : Int)
    have ok2 := withM_ok ok (n : Int)
    have hlM2 := encM_len ok2
    have hoM2 := encM_one (withM (thoseW p l n) (n : Int))
    have hsM := setM hlM ok2
    have Hst := Hid.mk (show thoseW p l (n + 1) = if p (atI l (n : Int)) = true then withM (thoseW p l n) (n : Int) else thoseW p l n from rfl)
    have Hset := Hid.mk hset
    have Hpre := Hid.mk hpre
    have b1x : ∀ x, (h' ++ x)[h.length]? = some (.cells z16 false) := fun x => by rw [List.getElem?_append_left (by omega)]; exact b1
    have b2x : ∀ x, (h' ++ x)[h.length + 1]? = some (.cells (encM (thoseW p l n)) false) := fun x => by rw [List.getElem?_append_left (by omega)]; exact b2
    clear ok ok2 hs16 hset
    generalize withM (thoseW p l n) (n : Int) = w2 at *
    generalize thoseW p l n = w1 at *
    simp only [encT] at q
    (repeat' (first | (with_reducible refine A1 (fun _ => ?_) (fun _ => ?_) <;> try (exfalso; omega)) | (with_reducible refine A2 (fun _ => ?_) (fun _ => ?_) <;> try (exfalso; omega)) | (with_reducible refine A3 (fun _ => ?_) (fun _ => ?_) <;> try (exfalso; omega)) | refine A4 (fun _ => ?_) (fun _ => ?_) | refine A5 (fun _ => ?_) (fun _ => ?_) | refine A6 (fun _ => ?_) (fun _ => ?_) | simp -dsimp (disch := omega) only [↓EA, EB, Nat.reduceEqDiff, Nat.reduceAdd, Nat.reduceLeDiff, Nat.reduceMul, ↓reduceIte, reduceCtorEq, newCells, bslV, eq_self, *, hl'.len, hl'.ixs, hl'.ld, hl'.ld0, hl'.lda, hl'.ldx, hl'.ldx0, hl'.ldxa, encT, hpre.le, hpre.le_add]))
    · refine Next.mk (n + 1) ⟨Hset.out _ _, by simp; omega, by omega, rfl, rfl, rfl, rfl, rfl, rfl, ?_, ?_⟩ (by omega)
      · rw [gets (by omega)]; exact b1x _
      · rw [gset (by simp; omega), Hst.out, if_pos (by assumption)]
    · refine Next.mk (n + 1) ⟨hpre.app' _, by simp; omega, by omega, rfl, rfl, rfl, rfl, rfl, rfl, b1x _, ?_⟩ (by omega)
      rw [b2x, Hst.out, if_neg (Bool.eq_false_iff.1 (by assumption))]
  · have e : n = l.length := by omega
    subst e
    have hnn := encM_nn (thoseW p l l.length) h.length
    have hsM := hs16 _ ok
    (repeat' (first | (with_reducible refine A1 (fun _ => ?_) (fun _ => ?_) <;> try (exfalso; omega)) | (with_reducible refine A2 (fun _ => ?_) (fun _ => ?_) <;> try (exfalso; omega)) | (with_reducible refine A3 (fun _ => ?_) (fun _ => ?_) <;> try (exfalso; omega)) | refine A4 (fun _ => ?_) (fun _ => ?_) | refine A5 (fun _ => ?_) (fun _ => ?_) | refine A6 (fun _ => ?_) (fun _ => ?_) | simp -dsimp (disch := omega) only [↓EA, EB, Nat.reduceEqDiff, Nat.reduceAdd, Nat.reduceLeDiff, Nat.reduceMul, ↓reduceIte, reduceCtorEq, newCells, bslV, eq_self, *, hl.len]))
def higherQ (l : List Task) (i : Int) : Task → Bool := fun t => decide (t.P < (atI l i).P)
def lowerQ (l : List Task) (i : Int) : Task → Bool := fun t => decide ((atI l i).P < t.P)
theorem higher_f1 (hE : Laid E) {h : Heap} {vl : Value} {l : List Task} (hl : Rd 7 encT h vl l) {i : Int} (hi : 0 ≤ i ∧ i < l.length) {b c : Nat} (hb : h[b]? = some (.cells [vl] false)) (hc : h[c]? = some (.cells [.int .i64 i] false)) (t : Task) :
    callW E (.func (.func n_task_Higher_f1) #[] #[.pointer (some ⟨b, 0, none⟩), .pointer (some ⟨c, 0, none⟩)]) [.agg (encT t).toArray] h = some (.bool (higherQ l i t), h, []) := by
  rw [callW_cap hE.task_Higher_f1]
  refine fn_same hE.task_Higher_f1 rfl (by simp) ?_
  simp only [List.nil_append, List.append_nil, List.cons_append, argsF]
  have hb' : ∀ x, (h ++ x)[b]? = some (.cells [vl] false) := fun x => by rw [List.getElem?_append_left (List.getElem?_eq_some_iff.1 hb).1]; exact hb
  have hc' : ∀ x, (h ++ x)[c]? = some (.cells [.int .i64 i] false) := fun x => by rw [List.getElem?_append_left (List.getElem?_eq_some_iff.1 hc).1]; exact hc
  unfold higherQ
  (repeat' (first | (with_reducible refine A1 (fun _ => ?_) (fun _ => ?_) <;> try (exfalso; omega)) | (with_reducible refine A2 (fun _ => ?_) (fun _ => ?_) <;> try (exfalso; omega)) | (with_reducible refine A3 (fun _ => ?_) (fun _ => ?_) <;> try (exfalso; omega)) | refine A4 (fun _ => ?_) (fun _ => ?_) | refine A5 (fun _ => ?_) (fun _ => ?_) | refine A6 (fun _ => ?_) (fun _ => ?_) | simp -dsimp (disch := omega) only [↓EA, EB, Nat.reduceEqDiff, Nat.reduceAdd, Nat.reduceLeDiff, Nat.reduceMul, ↓reduceIte, reduceCtorEq, newCells, bslV, eq_self, *, hl.len, hl.ixs, hl.ld, hl.ld0, hl.lda, hl.ldx, hl.ldx0, hl.ldxa, encT]))
theorem higherT (hE : Laid E) {h : Heap} {vl : Value} {l : List Task} (hl : Rd 7 encT h vl l) {i : Int} (hi : 0 ≤ i ∧ i < l.length) (hn : l.length ≤ 1024) :
    callW E (.func (.func n_task_Higher) #[] #[]) [vl, .int .i64 i] h = some (.agg (encM (thoseW (higherQ l i) l l.length)).toArray, h, []) := by
  refine fn_same hE.task_Higher rfl (by simp) ?_
  have hc := hl.cv
  have ho := hl.one
  have q := fun (x : Heap) (hb : (h ++ x)[h.length]? = some (.cells [vl] false)) (hc : (h ++ x)[h.length + 1]? = some (.cells [.int .i64 i] false)) => those_out hE (hl.app x) (vf := .func (.func n_task_Higher_f1) #[] #[.pointer (some ⟨h.length, 0, none⟩), .pointer (some ⟨h.length + 1, 0, none⟩)]) rfl (i := i) (p := higherQ l i) hi hn (fun h' t hp => higher_f1 hE ((hl.app x).pre hp) hi (hp _ _ hb) (hp _ _ hc) t)
  have q2 : ∀ y, callW E (.func (.func n_task_those) #[] #[]) [vl, .int .i64 i, .func (.func n_task_Higher_f1) #[] #[.pointer (some ⟨h.length, 0, none⟩), .pointer (some ⟨h.length + 1, 0, none⟩)]] (h ++ (LObj.cells [vl] false :: LObj.cells [.int .i64 i] false :: y)) = some (.agg (encM (thoseW (higherQ l i) l l.length)).toArray, h ++ (LObj.cells [vl] false :: LObj.cells [.int .i64 i] false :: y), []) := fun y => q _ (by rw [geta0]; rfl) (by rw [geta]; rfl)
  clear q
  have ok := thoseW_ok (higherQ l i) l l.length
  generalize thoseW (higherQ l i) l l.length = w at *
  have hlM := encM_len ok
  have hoM := encM_one w
  have htk := encM_take ok
  have hs0 := setM0 ok
  have hnn := encM_nn w h.length
  simp only [argsF]
  (repeat' (first | (with_reducible refine A1 (fun _ => ?_) (fun _ => ?_) <;> try (exfalso; omega)) | (with_reducible refine A2 (fun _ => ?_) (fun _ => ?_) <;> try (exfalso; omega)) | (with_reducible refine A3 (fun _ => ?_) (fun _ => ?_) <;> try (exfalso; omega)) | refine A4 (fun _ => ?_) (fun _ => ?_) | refine A5 (fun _ => ?_) (fun _ => ?_) | refine A6 (fun _ => ?_) (fun _ => ?_) | simp -dsimp (disch := omega) only [↓EA, EB, Nat.reduceEqDiff, Nat.reduceAdd, Nat.reduceLeDiff, Nat.reduceMul, ↓reduceIte, reduceCtorEq, newCells, bslV, eq_self, *]))
theorem lower_f1 (hE : Laid E) {h : Heap} {vl : Value} {l : List Task} (hl : Rd 7 encT h vl l) {i : Int} (hi : 0 ≤ i ∧ i < l.length) {b c : Nat} (hb : h[b]? = some (.cells [vl] false)) (hc : h[c]? = some (.cells [.int .i64 i] false)) (t : Task) :
    callW E (.func (.func n_task_Lower_f1) #[] #[.pointer (some ⟨b, 0, none⟩), .pointer (some ⟨c, 0, none⟩)]) [.agg (encT t).toArray] h = some (.bool (lowerQ l i t), h, []) := by
  rw [callW_cap hE.task_Lower_f1]
  refine fn_same hE.task_Lower_f1 rfl (by simp) ?_
  simp only [List.nil_append, List.append_nil, List.cons_append, argsF]
  have hb' : ∀ x, (h ++ x)[b]? = some (.cells [vl] false) := fun x => by rw [List.getElem?_append_left (List.getElem?_eq_some_iff.1 hb).1]; exact hb
  have hc' : ∀ x, (h ++ x)[c]? = some (.cells [.int .i64 i] false) := fun x => by rw [List.getElem?_append_left (List.getElem?_eq_some_iff.1 hc).1]; exact hc
  unfold lowerQ
  (repeat' (first | (with_reducible refine A1 (fun _ => ?_) (fun _ => ?_) <;> try (exfalso; omega)) | (with_reducible refine A2 (fun _ => ?_) (fun _ => ?_) <;> try (exfalso; omega)) | (with_reducible refine A3 (fun _ => ?_) (fun _ => ?_) <;> try (exfalso; omega)) | refine A4 (fun _ => ?_) (fun _ => ?_) | refine A5 (fun _ => ?_) (fun _ => ?_) | refine A6 (fun _ => ?_) (fun _ => ?_) | simp -dsimp (disch := omega) only [↓EA, EB, Nat.reduceEqDiff, Nat.reduceAdd, Nat.reduceLeDiff, Nat.reduceMul, ↓reduceIte, reduceCtorEq, newCells, bslV, eq_self, *, hl.len, hl.ixs, hl.ld, hl.ld0, hl.lda, hl.ldx, hl.ldx0, hl.ldxa, encT]))
theorem lowerT (hE : Laid E) {h : Heap} {vl : Value} {l : List Task} (hl : Rd 7 encT h vl l) {i : Int} (hi : 0 ≤ i ∧ i < l.length) (hn : l.length ≤ 1024) :
    callW E (.func (.func n_task_Lower) #[] #[]) [vl, .int .i64 i] h = some (.agg (encM (thoseW (lowerQ l i) l l.length)).toArray, h, []) := by
  refine fn_same hE.task_Lower rfl (by simp) ?_
  have hc := hl.cv
  have ho := hl.one
  have q := fun (x : Heap) (hb : (h ++ x)[h.length]? = some (.cells [vl] false)) (hc : (h ++ x)[h.length + 1]? = some (.cells [.int .i64 i] false)) => those_out hE (hl.app x) (vf := .func (.func n_task_Lower_f1) #[] #[.pointer (some ⟨h.length, 0, none⟩), .pointer (some ⟨h.length + 1, 0, none⟩)]) rfl (i := i) (p := lowerQ l i) hi hn (fun h' t hp => lower_f1 hE ((hl.app x).pre hp) hi (hp _ _ hb) (hp _ _ hc) t)
  have q2 : ∀ y, callW E (.func (.func n_task_those) #[] #[]) [vl, .int .i64 i, .func (.func n_task_Lower_f1) #[] #[.pointer (some ⟨h.length, 0, none⟩), .pointer (some ⟨h.length + 1, 0, none⟩)]] (h ++ (LObj.cells [vl] false :: LObj.cells [.int .i64 i] false :: y)) = some (.agg (encM (thoseW (lowerQ l i) l l.length)).toArray, h ++ (LObj.cells [vl] false :: LObj.cells [.int .i64 i] false :: y), []) := fun y => q _ (by rw [geta0]; rfl) (by rw [geta]; rfl)
  clear q
  have ok := thoseW_ok (lowerQ l i) l l.length
  generalize thoseW (lowerQ l i) l l.length = w at *
  have hlM := encM_len ok
  have hoM := encM_one w
  have htk := encM_take ok
  have hs0 := setM0 ok
  have hnn := encM_nn w h.length
  simp only [argsF]
  (repeat' (first | (with_reducible refine A1 (fun _ => ?_) (fun _ => ?_) <;> try (exfalso; omega)) | (with_reducible refine A2 (fun _ => ?_) (fun _ => ?_) <;> try (exfalso; omega)) | (with_reducible refine A3 (fun _ => ?_) (fun _ => ?_) <;> try (exfalso; omega)) | refine A4 (fun _ => ?_) (fun _ => ?_) | refine A5 (fun _ => ?_) (fun _ => ?_) | refine A6 (fun _ => ?_) (fun _ => ?_) | simp -dsimp (disch := omega) only [↓EA, EB, Nat.reduceEqDiff, Nat.reduceAdd, Nat.reduceLeDiff, Nat.reduceMul, ↓reduceIte, reduceCtorEq, newCells, bslV, eq_self, *]))
end Go.L.Try
