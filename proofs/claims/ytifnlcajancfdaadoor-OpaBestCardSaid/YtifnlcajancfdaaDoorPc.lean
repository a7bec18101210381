/- WORDS, AS THE PROGRAM SCANS THEM. -/
import Derived.Test.YtifnlcajancfdaaDoorPa
import Derived.Test.YtifnlcajancfdaaDoorPb
set_option linter.unusedVariables false
set_option linter.unusedSimpArgs false
set_option maxRecDepth 100000
set_option maxHeartbeats 1000000
namespace Go.L.Try
open Go Go.L
variable {E : Env}
theorem bin_or8 {q : EqK} {c : UInt8} : binOp .or q (.int .u8 (c.toNat : Int)) (.int .u8 32) = some (.int .u8 ((c.toNat ||| 32 : Nat) : Int)) := by
  have hlt : c.toNat < 256 := c.toNat_lt
  have hor : c.toNat ||| 32 < 256 := Nat.or_lt_two_pow (n := 8) hlt (by decide)
  have e1 : BitVec.ofInt 8 (c.toNat : Int) = BitVec.ofNat 8 c.toNat := by simp
  have e : ((BitVec.ofInt 8 (c.toNat : Int)) ||| (BitVec.ofInt 8 32)).toNat = c.toNat ||| 32 := by
    have e2 : BitVec.ofInt 8 32 = BitVec.ofNat 8 32 := by decide
    rw [e1, e2, BitVec.toNat_or, BitVec.toNat_ofNat, BitVec.toNat_ofNat, Nat.mod_eq_of_lt hlt]
  have e3 : binOp .or q (.int .u8 (c.toNat : Int)) (.int .u8 32) = some (.int .u8 (IntKind.u8.wrap (((BitVec.ofInt 8 (c.toNat : Int)) ||| (BitVec.ofInt 8 32)).toNat : Nat))) := by simp only [binOp, intOp, if_true]; rfl
  rw [e3, e, wrap_u8 (by omega) (by omega)]
theorem letter_bits : ∀ n : Nat, n < 256 → (decide ((97 ≤ n ||| 32 ∧ n ||| 32 ≤ 122) ∨ n = 95) == decide ((97 ≤ n ∧ n ≤ 122) ∨ (65 ≤ n ∧ n ≤ 90) ∨ n = 95)) = true := by
  have h : (List.range 256).all (fun n => decide ((97 ≤ n ||| 32 ∧ n ||| 32 ≤ 122) ∨ n = 95) == decide ((97 ≤ n ∧ n ≤ 122) ∨ (65 ≤ n ∧ n ≤ 90) ∨ n = 95)) = true := by decide +kernel
  intro n hn
  exact List.all_eq_true.1 h n (List.mem_range.2 hn)
theorem letterS (hE : Laid E) (h : Heap) (c : UInt8) : callW E (.func (.func n_scan_letter) #[] #[]) [.int .u8 c.toNat] h = some (.bool (letterB c), h, []) := by
  have hlt : c.toNat < 256 := c.toNat_lt
  have hb := eq_of_beq (letter_bits c.toNat hlt)
  have e : letterB c = decide ((97 ≤ c.toNat ||| 32 ∧ c.toNat ||| 32 ≤ 122) ∨ c.toNat = 95) := by unfold letterB; exact hb.symm
  rw [e]
  clear hb e
  refine fn_same hE.scan_letter rfl (by simp) ?_
  simp only [argsF]
  generalize hx : c.toNat ||| 32 = x
  have hor := @bin_or8 .other c
  rw [hx] at hor
  clear hx
  (repeat' (first | (with_reducible refine A1 (fun _ => ?_) (fun _ => ?_) <;> try (exfalso; omega)) | (with_reducible refine A2 (fun _ => ?_) (fun _ => ?_) <;> try (exfalso; omega)) | (with_reducible refine A3 (fun _ => ?_) (fun _ => ?_) <;> try (exfalso; omega)) | refine A4 (fun _ => ?_) (fun _ => ?_) | refine A5 (fun _ => ?_) (fun _ => ?_) | refine A6 (fun _ => ?_) (fun _ => ?_) | simp -dsimp (disch := omega) only [↓EA, EB, Nat.reduceEqDiff, Nat.reduceAdd, Nat.reduceLeDiff, Nat.reduceMul, ↓reduceIte, reduceCtorEq, newCells, bslV, eq_self, *, hor]))
  all_goals (congr 1; first | (rw [decide_eq_decide]; omega) | (symm; rw [decide_eq_true_eq]; omega) | (symm; rw [decide_eq_false_iff_not]; omega))
theorem digitS (hE : Laid E) (h : Heap) (c : UInt8) : callW E (.func (.func n_scan_digit) #[] #[]) [.int .u8 c.toNat] h = some (.bool (digitB c), h, []) := by
  refine fn_same hE.scan_digit rfl (by simp) ?_
  simp only [argsF]
  (repeat' (first | (with_reducible refine A1 (fun _ => ?_) (fun _ => ?_) <;> try (exfalso; omega)) | (with_reducible refine A2 (fun _ => ?_) (fun _ => ?_) <;> try (exfalso; omega)) | (with_reducible refine A3 (fun _ => ?_) (fun _ => ?_) <;> try (exfalso; omega)) | refine A4 (fun _ => ?_) (fun _ => ?_) | refine A5 (fun _ => ?_) (fun _ => ?_) | refine A6 (fun _ => ?_) (fun _ => ?_) | simp -dsimp (disch := omega) only [↓EA, EB, Nat.reduceEqDiff, Nat.reduceAdd, Nat.reduceLeDiff, Nat.reduceMul, ↓reduceIte, reduceCtorEq, newCells, bslV, eq_self, *]))
  all_goals (unfold digitB; congr 1; first | (rw [decide_eq_decide]; omega) | (symm; rw [decide_eq_true_eq]; omega) | (symm; rw [decide_eq_false_iff_not]; omega))
theorem goesS (hE : Laid E) (h : Heap) (c : UInt8) : callW E (.func (.func n_scan_goes) #[] #[]) [.int .u8 c.toNat] h = some (.bool (goesB c), h, []) := by
  have q1 := letterS hE h c
  have q2 := digitS hE h c
  refine fn_same hE.scan_goes rfl (by simp) ?_
  simp only [argsF]
  unfold goesB
  cases hl : letterB c <;> cases hd : digitB c
  all_goals
    rw [hl] at q1
    rw [hd] at q2
    (repeat' (first | (with_reducible refine A1 (fun _ => ?_) (fun _ => ?_) <;> try (exfalso; omega)) | (with_reducible refine A2 (fun _ => ?_) (fun _ => ?_) <;> try (exfalso; omega)) | (with_reducible refine A3 (fun _ => ?_) (fun _ => ?_) <;> try (exfalso; omega)) | refine A4 (fun _ => ?_) (fun _ => ?_) | refine A5 (fun _ => ?_) (fun _ => ?_) | refine A6 (fun _ => ?_) (fun _ => ?_) | simp -dsimp (disch := omega) only [↓EA, EB, Nat.reduceEqDiff, Nat.reduceAdd, Nat.reduceLeDiff, Nat.reduceMul, ↓reduceIte, reduceCtorEq, newCells, bslV, eq_self, *]))
  all_goals first | rfl | (congr 1; simp; done) | (congr 1; simp; omega)
theorem longS (hE : Laid E) (h : Heap) {s : ByteArray} (hs : s.size < 1152921504606846976) :
    callW E (.func (.func n_scan_long) #[] #[]) [.string s, .func (.func n_scan_goes) #[] #[]] h = some (.int .i64 (runEnd goesB s 0 : Nat), h, []) := by
  refine fn_same hE.scan_long rfl (by simp) ?_
  simp only [argsF]
  (repeat' (first | (with_reducible refine A1 (fun _ => ?_) (fun _ => ?_) <;> try (exfalso; omega)) | (with_reducible refine A2 (fun _ => ?_) (fun _ => ?_) <;> try (exfalso; omega)) | (with_reducible refine A3 (fun _ => ?_) (fun _ => ?_) <;> try (exfalso; omega)) | refine A4 (fun _ => ?_) (fun _ => ?_) | refine A5 (fun _ => ?_) (fun _ => ?_) | refine A6 (fun _ => ?_) (fun _ => ?_) | simp -dsimp (disch := omega) only [↓EA, EB, Nat.reduceEqDiff, Nat.reduceAdd, Nat.reduceLeDiff, Nat.reduceMul, ↓reduceIte, reduceCtorEq, newCells, bslV, eq_self, *]))
  refine WO.loop (fun (n : Nat) fr h' => h' = h ∧ n ≤ s.size ∧ runEnd goesB s 0 = runEnd goesB s n ∧ get fr 0 = .string s ∧ get fr 1 = .func (.func n_scan_goes) #[] #[] ∧ get fr 5 = .int .i64 n) (fun n => s.size - n) ?_ 0 ⟨rfl, Nat.zero_le _, rfl, rfl, rfl, rfl⟩
  rintro n fr h' ⟨rfl, hn, hr, g0, g1, g5⟩
  have Hr := Hid.mk hr
  clear hr
  unfold c_scan_long_l0
  rcases Nat.lt_or_ge n s.size with hlt | hge
  · have q := goesS hE h' (byteAt s (n : Int))
    have H1 := Hid.mk (fun hp => runEnd_step (p := goesB) hlt hp)
    have H2 := Hid.mk (fun hp => runEnd_stop (p := goesB) hlt hp)
    have hix : ∀ k : IntKind, ixtV (.string s) (.int k n) = some (.int .u8 ((byteAt s n).toNat : Int)) := fun k => ixt_at (by omega) (by omega)
    cases hg : goesB (byteAt s (n : Int))
    · rw [hg] at q
      have e := H2.out hg
      (repeat' (first | (with_reducible refine A1 (fun _ => ?_) (fun _ => ?_) <;> try (exfalso; omega)) | (with_reducible refine A2 (fun _ => ?_) (fun _ => ?_) <;> try (exfalso; omega)) | (with_reducible refine A3 (fun _ => ?_) (fun _ => ?_) <;> try (exfalso; omega)) | refine A4 (fun _ => ?_) (fun _ => ?_) | refine A5 (fun _ => ?_) (fun _ => ?_) | refine A6 (fun _ => ?_) (fun _ => ?_) | simp -dsimp (disch := omega) only [↓EA, EB, Nat.reduceEqDiff, Nat.reduceAdd, Nat.reduceLeDiff, Nat.reduceMul, ↓reduceIte, reduceCtorEq, newCells, bslV, eq_self, *]))
      rw [Hr.out, e]
    · rw [hg] at q
      have Hs := Hid.mk (H1.out hg)
      (repeat' (first | (with_reducible refine A1 (fun _ => ?_) (fun _ => ?_) <;> try (exfalso; omega)) | (with_reducible refine A2 (fun _ => ?_) (fun _ => ?_) <;> try (exfalso; omega)) | (with_reducible refine A3 (fun _ => ?_) (fun _ => ?_) <;> try (exfalso; omega)) | refine A4 (fun _ => ?_) (fun _ => ?_) | refine A5 (fun _ => ?_) (fun _ => ?_) | refine A6 (fun _ => ?_) (fun _ => ?_) | simp -dsimp (disch := omega) only [↓EA, EB, Nat.reduceEqDiff, Nat.reduceAdd, Nat.reduceLeDiff, Nat.reduceMul, ↓reduceIte, reduceCtorEq, newCells, bslV, eq_self, *]))
      exact Next.mk (n + 1) ⟨rfl, by omega, by rw [Hr.out, Hs.out], rfl, rfl, rfl⟩ (by omega)
  · have e := Hid.mk (runEnd_end (p := goesB) hge)
    (repeat' (first | (with_reducible refine A1 (fun _ => ?_) (fun _ => ?_) <;> try (exfalso; omega)) | (with_reducible refine A2 (fun _ => ?_) (fun _ => ?_) <;> try (exfalso; omega)) | (with_reducible refine A3 (fun _ => ?_) (fun _ => ?_) <;> try (exfalso; omega)) | refine A4 (fun _ => ?_) (fun _ => ?_) | refine A5 (fun _ => ?_) (fun _ => ?_) | refine A6 (fun _ => ?_) (fun _ => ?_) | simp -dsimp (disch := omega) only [↓EA, EB, Nat.reduceEqDiff, Nat.reduceAdd, Nat.reduceLeDiff, Nat.reduceMul, ↓reduceIte, reduceCtorEq, newCells, bslV, eq_self, *]))
    rw [Hr.out, e.out]
theorem word_run {s : ByteArray} (h0 : 0 < s.size) : wordB s = (letterB (byteAt s 0) && decide ((runEnd goesB s 0 : Nat) = s.size)) := by
  have hl := bs_len s
  cases hb : bs s with
  | nil => rw [hb] at hl; simp at hl; omega
  | cons c r =>
    have hc : byteAt s 0 = c := by unfold byteAt; rw [hb]; rfl
    have hr : (runEnd goesB s 0 : Nat) = ((c :: r).takeWhile goesB).length := by unfold runEnd; rw [List.drop_zero, hb, Nat.zero_add]
    have hs : s.size = (c :: r).length := by rw [← hb, bs_len]
    rw [hc, hr, hs]
    unfold wordB
    rw [hb]
    show (letterB c && r.all goesB) = _
    cases hlc : letterB c
    · rfl
    · have hg : goesB c = true := by unfold goesB; rw [hlc]; rfl
      have : decide (((c :: r).takeWhile goesB).length = (c :: r).length) = (c :: r).all goesB := by
        rw [← Bool.coe_iff_coe, decide_eq_true_eq]; exact takeWhile_len
      rw [this, List.all_cons, hg]; rfl
theorem wordS (hE : Laid E) (h : Heap) {s : ByteArray} (hs : s.size < 1152921504606846976) :
    callW E (.func (.func n_scan_Word) #[] #[]) [.string s] h = some (.bool (wordB s), h, []) := by
  refine fn_same hE.scan_Word rfl (by simp) ?_
  simp only [argsF]
  rcases Nat.eq_zero_or_pos s.size with h0 | h0
  · have e : bs s = [] := List.length_eq_zero_iff.1 (by rw [bs_len]; exact h0)
    have e2 : bs ⟨#[]⟩ = [] := rfl
    (repeat' (first | (with_reducible refine A1 (fun _ => ?_) (fun _ => ?_) <;> try (exfalso; omega)) | (with_reducible refine A2 (fun _ => ?_) (fun _ => ?_) <;> try (exfalso; omega)) | (with_reducible refine A3 (fun _ => ?_) (fun _ => ?_) <;> try (exfalso; omega)) | refine A4 (fun _ => ?_) (fun _ => ?_) | refine A5 (fun _ => ?_) (fun _ => ?_) | refine A6 (fun _ => ?_) (fun _ => ?_) | simp -dsimp (disch := omega) only [↓EA, EB, Nat.reduceEqDiff, Nat.reduceAdd, Nat.reduceLeDiff, Nat.reduceMul, ↓reduceIte, reduceCtorEq, newCells, bslV, eq_self, *, bs_eq, e, e2]))
    all_goals simp [wordB, e, noNew]
  · have e : bs s ≠ [] := fun e => by rw [← bs_len, e] at h0; simp at h0
    have e2 : bs ⟨#[]⟩ = [] := rfl
    have hix : ∀ k : IntKind, ixtV (.string s) (.int k 0) = some (.int .u8 ((byteAt s 0).toNat : Int)) := fun k => ixt_at (by omega) (by omega)
    have q1 := letterS hE h (byteAt s 0)
    have q2 := longS hE h hs
    rw [word_run h0]
    cases hl : letterB (byteAt s 0)
    · rw [hl] at q1
      (repeat' (first | (with_reducible refine A1 (fun _ => ?_) (fun _ => ?_) <;> try (exfalso; omega)) | (with_reducible refine A2 (fun _ => ?_) (fun _ => ?_) <;> try (exfalso; omega)) | (with_reducible refine A3 (fun _ => ?_) (fun _ => ?_) <;> try (exfalso; omega)) | refine A4 (fun _ => ?_) (fun _ => ?_) | refine A5 (fun _ => ?_) (fun _ => ?_) | refine A6 (fun _ => ?_) (fun _ => ?_) | simp -dsimp (disch := omega) only [↓EA, EB, Nat.reduceEqDiff, Nat.reduceAdd, Nat.reduceLeDiff, Nat.reduceMul, ↓reduceIte, reduceCtorEq, newCells, bslV, eq_self, *, bs_eq, e, e2]))
      rfl
    · rw [hl] at q1
      generalize runEnd goesB s 0 = R at *
      (repeat' (first | (with_reducible refine A1 (fun _ => ?_) (fun _ => ?_) <;> try (exfalso; omega)) | (with_reducible refine A2 (fun _ => ?_) (fun _ => ?_) <;> try (exfalso; omega)) | (with_reducible refine A3 (fun _ => ?_) (fun _ => ?_) <;> try (exfalso; omega)) | refine A4 (fun _ => ?_) (fun _ => ?_) | refine A5 (fun _ => ?_) (fun _ => ?_) | refine A6 (fun _ => ?_) (fun _ => ?_) | simp -dsimp (disch := omega) only [↓EA, EB, Nat.reduceEqDiff, Nat.reduceAdd, Nat.reduceLeDiff, Nat.reduceMul, ↓reduceIte, reduceCtorEq, newCells, bslV, eq_self, *, bs_eq, e, e2]))
      congr 1
      rw [decide_eq_decide]; omega
end Go.L.Try
set_option maxHeartbeats 2000000
namespace Go.L.Try
open Go Go.L
variable {E : Env}
theorem callW_cap {g : FuncId} {c : FnC} (hf : E g = .text c) (a b : Array Value) (args : List Value) (h : Heap) : callW E (.func (.func g) a b) args h = callW E (.func (.func g) #[] #[]) (a.toList ++ args ++ b.toList) h := by
  rw [callW_func hf, callW_text hf]
theorem within1 (hE : Laid E) (h : Heap) (n : Int) : callW E (.func (.func n_task_Check_f1) #[] #[]) [.int .i64 n] h = some (.bool (decide (0 ≤ n ∧ n ≤ 2147483647)), h, []) := by
  refine fn_same hE.task_Check_f1 rfl (by simp) ?_
  simp only [argsF]
  (repeat' (first | (with_reducible refine A1 (fun _ => ?_) (fun _ => ?_) <;> try (exfalso; omega)) | (with_reducible refine A2 (fun _ => ?_) (fun _ => ?_) <;> try (exfalso; omega)) | (with_reducible refine A3 (fun _ => ?_) (fun _ => ?_) <;> try (exfalso; omega)) | refine A4 (fun _ => ?_) (fun _ => ?_) | refine A5 (fun _ => ?_) (fun _ => ?_) | refine A6 (fun _ => ?_) (fun _ => ?_) | simp -dsimp (disch := omega) only [↓EA, EB, Nat.reduceEqDiff, Nat.reduceAdd, Nat.reduceLeDiff, Nat.reduceMul, ↓reduceIte, reduceCtorEq, newCells, bslV, eq_self, *]))
  all_goals first | rfl | (congr 1; first | (rw [decide_eq_decide]; omega) | (symm; rw [decide_eq_true_eq]; omega) | (symm; rw [decide_eq_false_iff_not]; omega))
theorem ranges2 (hE : Laid E) {h : Heap} {t : Task} (hs : t.name.size < 1152921504606846976) {b c : Nat} (hb : h[b]? = some (.cells (encT t) false)) (hc : h[c]? = some (.cells [.func (.func n_task_Check_f1) #[] #[]] false)) :
    callW E (.func (.func n_task_Check_f2) #[] #[.pointer (some ⟨b, 0, none⟩), .pointer (some ⟨c, 0, none⟩)]) [] h = some (.bool (decide (rangesB t)), h, []) := by
  have q := wordS hE h hs
  have w1 := within1 hE h
  unfold encT at hb
  rw [callW_cap hE.task_Check_f2]
  have e : decide (rangesB t) = (wordB t.name && decide (t.name.size ≤ 32 ∧ (1 ≤ t.C ∧ t.C ≤ 2147483647) ∧ (1 ≤ t.T ∧ t.T ≤ 2147483647) ∧ (1 ≤ t.D ∧ t.D ≤ 2147483647) ∧ (1 ≤ t.Q ∧ t.Q ≤ 2147483647) ∧ (0 ≤ t.J ∧ t.J ≤ 2147483647) ∧ 1 ≤ t.P ∧ t.P ≤ 1048576)) := by
    rw [Bool.eq_iff_iff, Bool.and_eq_true, decide_eq_true_iff, decide_eq_true_iff]; exact Iff.rfl
  rw [e]
  clear e
  generalize hX : decide (t.name.size ≤ 32 ∧ (1 ≤ t.C ∧ t.C ≤ 2147483647) ∧ (1 ≤ t.T ∧ t.T ≤ 2147483647) ∧ (1 ≤ t.D ∧ t.D ≤ 2147483647) ∧ (1 ≤ t.Q ∧ t.Q ≤ 2147483647) ∧ (0 ≤ t.J ∧ t.J ≤ 2147483647) ∧ 1 ≤ t.P ∧ t.P ≤ 1048576) = X
  replace hX := Hid.mk hX
  refine fn_same hE.task_Check_f2 rfl (by simp) ?_
  simp only [List.nil_append, List.append_nil, argsF]
  cases hw : wordB t.name
  · rw [hw] at q
    (repeat' (first | (with_reducible refine A1 (fun _ => ?_) (fun _ => ?_) <;> try (exfalso; omega)) | (with_reducible refine A2 (fun _ => ?_) (fun _ => ?_) <;> try (exfalso; omega)) | (with_reducible refine A3 (fun _ => ?_) (fun _ => ?_) <;> try (exfalso; omega)) | refine A4 (fun _ => ?_) (fun _ => ?_) | refine A5 (fun _ => ?_) (fun _ => ?_) | refine A6 (fun _ => ?_) (fun _ => ?_) | simp -dsimp (disch := omega) only [↓EA, EB, Nat.reduceEqDiff, Nat.reduceAdd, Nat.reduceLeDiff, Nat.reduceMul, ↓reduceIte, reduceCtorEq, newCells, bslV, eq_self, *]))
    rfl
  · rw [hw] at q
    (repeat' (first | (with_reducible refine A1 (fun _ => ?_) (fun _ => ?_) <;> try (exfalso; omega)) | (with_reducible refine A2 (fun _ => ?_) (fun _ => ?_) <;> try (exfalso; omega)) | (with_reducible refine A3 (fun _ => ?_) (fun _ => ?_) <;> try (exfalso; omega)) | refine A4 (fun _ => ?_) (fun _ => ?_) | refine A5 (fun _ => ?_) (fun _ => ?_) | refine A6 (fun _ => ?_) (fun _ => ?_) | simp -dsimp (disch := omega) only [↓EA, EB, Nat.reduceEqDiff, Nat.reduceAdd, Nat.reduceLeDiff, Nat.reduceMul, ↓reduceIte, reduceCtorEq, newCells, bslV, eq_self, *]))
    all_goals
      congr 1
      rw [← hX.out]
      first | exact decide_eq_decide.2 (by omega) | exact (decide_eq_false (by omega)).symm | exact (decide_eq_true (by omega)).symm
theorem fits3 (hE : Laid E) {h : Heap} {t : Task} (ht : rangesB t) {b : Nat} (hb : h[b]? = some (.cells (encT t) false)) :
    callW E (.func (.func n_task_Check_f3) #[] #[.pointer (some ⟨b, 0, none⟩)]) [] h = some (.bool (decide (fitsB t)), h, []) := by
  unfold encT at hb
  rw [callW_cap hE.task_Check_f3]
  simp only [rangesB] at ht
  have hC := ht.2.2.1
  have hJ := ht.2.2.2.2.2.2.1
  clear ht
  refine fn_same hE.task_Check_f3 rfl (by simp) ?_
  simp only [List.nil_append, List.append_nil, argsF]
  (repeat' (first | (with_reducible refine A1 (fun _ => ?_) (fun _ => ?_) <;> try (exfalso; omega)) | (with_reducible refine A2 (fun _ => ?_) (fun _ => ?_) <;> try (exfalso; omega)) | (with_reducible refine A3 (fun _ => ?_) (fun _ => ?_) <;> try (exfalso; omega)) | refine A4 (fun _ => ?_) (fun _ => ?_) | refine A5 (fun _ => ?_) (fun _ => ?_) | refine A6 (fun _ => ?_) (fun _ => ?_) | simp -dsimp (disch := omega) only [↓EA, EB, Nat.reduceEqDiff, Nat.reduceAdd, Nat.reduceLeDiff, Nat.reduceMul, ↓reduceIte, reduceCtorEq, newCells, bslV, eq_self, *]))
  all_goals
    congr 1
    first | exact decide_eq_decide.2 (by unfold fitsB; omega) | exact (decide_eq_false (by unfold fitsB; omega)).symm | exact (decide_eq_true (by unfold fitsB; omega)).symm
def firstP (b0 b1 : Bool) (e0 e1 : Int) : Int := if b0 then if b1 then 0 else e1 else e0
theorem firstS (hE : Laid E) {h : Heap} {f0 f1 : Value} {b0 b1 : Bool} {e0 e1 : Int} (h0 : cellsV f0 = [f0]) (h1 : cellsV f1 = [f1]) (o0 : oneCell f0 = true) (o1 : oneCell f1 = true) (q0 : ∀ x, callW E f0 [] (h ++ x) = some (.bool b0, h ++ x, [])) (q1 : b0 = true → ∀ x, callW E f1 [] (h ++ x) = some (.bool b1, h ++ x, [])) :
    callW E (.func (.func n_task_first) #[] #[]) [.agg #[f0, .int .i64 e0, f1, .int .i64 e1]] h = some (.int .i64 (firstP b0 b1 e0 e1), h, []) := by
  refine fn_same hE.task_first rfl (by simp) ?_
  simp only [argsF]
  (repeat' (first | (with_reducible refine A1 (fun _ => ?_) (fun _ => ?_) <;> try (exfalso; omega)) | (with_reducible refine A2 (fun _ => ?_) (fun _ => ?_) <;> try (exfalso; omega)) | (with_reducible refine A3 (fun _ => ?_) (fun _ => ?_) <;> try (exfalso; omega)) | refine A4 (fun _ => ?_) (fun _ => ?_) | refine A5 (fun _ => ?_) (fun _ => ?_) | refine A6 (fun _ => ?_) (fun _ => ?_) | simp -dsimp (disch := omega) only [↓EA, EB, Nat.reduceEqDiff, Nat.reduceAdd, Nat.reduceLeDiff, Nat.reduceMul, ↓reduceIte, reduceCtorEq, newCells, bslV, eq_self, *]))
  replace q1 := Hid.mk q1
  have hst : firstP b0 b1 e0 e1 = if b0 then if b1 then 0 else e1 else e0 := rfl
  replace hst := Hid.mk hst
  refine WO.loop (fun (n : Nat) fr h' => (∃ x, h' = h ++ x) ∧ n ≤ 2 ∧ (1 ≤ n → b0 = true) ∧ (2 ≤ n → b1 = true) ∧ get fr 3 = .int .i64 0 ∧ get fr 6 = .agg #[f0, .int .i64 e0, f1, .int .i64 e1] ∧ get fr 7 = .int .i64 n) (fun n => 2 - n) ?_ 0 ⟨⟨_, rfl⟩, by omega, fun h => by omega, fun h => by omega, rfl, rfl, rfl⟩
  rintro n fr h' ⟨⟨x, rfl⟩, hn, c1, c2, g3, g6, g7⟩
  unfold c_task_first_l0
  have ix0 : ixvV 2 2 (some 2) (.agg #[f0, .int .i64 e0, f1, .int .i64 e1]) (.int .i64 0) = some (.agg #[f0, .int .i64 e0]) := rfl
  have ix1 : ixvV 2 2 (some 2) (.agg #[f0, .int .i64 e0, f1, .int .i64 e1]) (.int .i64 1) = some (.agg #[f1, .int .i64 e1]) := rfl
  rcases n with _ | _ | n
  · replace g7 : get fr 7 = .int .i64 0 := g7
    clear c1 c2
    cases b0
    · (repeat' (first | (with_reducible refine A1 (fun _ => ?_) (fun _ => ?_) <;> try (exfalso; omega)) | (with_reducible refine A2 (fun _ => ?_) (fun _ => ?_) <;> try (exfalso; omega)) | (with_reducible refine A3 (fun _ => ?_) (fun _ => ?_) <;> try (exfalso; omega)) | refine A4 (fun _ => ?_) (fun _ => ?_) | refine A5 (fun _ => ?_) (fun _ => ?_) | refine A6 (fun _ => ?_) (fun _ => ?_) | simp -dsimp (disch := omega) only [↓EA, EB, Nat.reduceEqDiff, Nat.reduceAdd, Nat.reduceLeDiff, Nat.reduceMul, ↓reduceIte, reduceCtorEq, newCells, bslV, eq_self, *]))
      rw [hst.out]; rfl
    · (repeat' (first | (with_reducible refine A1 (fun _ => ?_) (fun _ => ?_) <;> try (exfalso; omega)) | (with_reducible refine A2 (fun _ => ?_) (fun _ => ?_) <;> try (exfalso; omega)) | (with_reducible refine A3 (fun _ => ?_) (fun _ => ?_) <;> try (exfalso; omega)) | refine A4 (fun _ => ?_) (fun _ => ?_) | refine A5 (fun _ => ?_) (fun _ => ?_) | refine A6 (fun _ => ?_) (fun _ => ?_) | simp -dsimp (disch := omega) only [↓EA, EB, Nat.reduceEqDiff, Nat.reduceAdd, Nat.reduceLeDiff, Nat.reduceMul, ↓reduceIte, reduceCtorEq, newCells, bslV, eq_self, *]))
      exact Next.mk 1 ⟨⟨_, rfl⟩, by omega, fun _ => rfl, fun h => by omega, rfl, rfl, rfl⟩ (by omega)
  · replace g7 : get fr 7 = .int .i64 1 := g7
    have hb := c1 (by omega)
    subst hb
    clear c1 c2
    have q2 := q1.out rfl
    cases b1
    · (repeat' (first | (with_reducible refine A1 (fun _ => ?_) (fun _ => ?_) <;> try (exfalso; omega)) | (with_reducible refine A2 (fun _ => ?_) (fun _ => ?_) <;> try (exfalso; omega)) | (with_reducible refine A3 (fun _ => ?_) (fun _ => ?_) <;> try (exfalso; omega)) | refine A4 (fun _ => ?_) (fun _ => ?_) | refine A5 (fun _ => ?_) (fun _ => ?_) | refine A6 (fun _ => ?_) (fun _ => ?_) | simp -dsimp (disch := omega) only [↓EA, EB, Nat.reduceEqDiff, Nat.reduceAdd, Nat.reduceLeDiff, Nat.reduceMul, ↓reduceIte, reduceCtorEq, newCells, bslV, eq_self, *]))
      rw [hst.out]; rfl
    · (repeat' (first | (with_reducible refine A1 (fun _ => ?_) (fun _ => ?_) <;> try (exfalso; omega)) | (with_reducible refine A2 (fun _ => ?_) (fun _ => ?_) <;> try (exfalso; omega)) | (with_reducible refine A3 (fun _ => ?_) (fun _ => ?_) <;> try (exfalso; omega)) | refine A4 (fun _ => ?_) (fun _ => ?_) | refine A5 (fun _ => ?_) (fun _ => ?_) | refine A6 (fun _ => ?_) (fun _ => ?_) | simp -dsimp (disch := omega) only [↓EA, EB, Nat.reduceEqDiff, Nat.reduceAdd, Nat.reduceLeDiff, Nat.reduceMul, ↓reduceIte, reduceCtorEq, newCells, bslV, eq_self, *]))
      exact Next.mk 2 ⟨⟨_, rfl⟩, by omega, fun _ => rfl, fun _ => rfl, rfl, rfl, rfl⟩ (by omega)
  · have hb := c1 (by omega)
    have hb2 := c2 (by omega)
    obtain rfl : n = 0 := by omega
    subst hb hb2
    clear c1 c2
    (repeat' (first | (with_reducible refine A1 (fun _ => ?_) (fun _ => ?_) <;> try (exfalso; omega)) | (with_reducible refine A2 (fun _ => ?_) (fun _ => ?_) <;> try (exfalso; omega)) | (with_reducible refine A3 (fun _ => ?_) (fun _ => ?_) <;> try (exfalso; omega)) | refine A4 (fun _ => ?_) (fun _ => ?_) | refine A5 (fun _ => ?_) (fun _ => ?_) | refine A6 (fun _ => ?_) (fun _ => ?_) | simp -dsimp (disch := omega) only [↓EA, EB, Nat.reduceEqDiff, Nat.reduceAdd, Nat.reduceLeDiff, Nat.reduceMul, ↓reduceIte, reduceCtorEq, newCells, bslV, eq_self, *]))
    rw [hst.out]; rfl
theorem checkS (hE : Laid E) (h : Heap) (t : Task) (hs : t.name.size < 1152921504606846976) :
    callW E (.func (.func n_task_Check) #[] #[]) [.agg (encT t).toArray] h = some (.int .i64 (checkP t), h, []) := by
  have hg := fun H f0 f1 b0 b1 e0 e1 => @firstS E hE H f0 f1 b0 b1 e0 e1
  have e : checkP t = firstP (decide (rangesB t)) (decide (fitsB t)) 11 12 := by
    unfold checkP firstP
    by_cases h1 : rangesB t <;> by_cases h2 : fitsB t <;> simp [h1, h2]
  rw [e]
  clear e
  refine fn_same hE.task_Check rfl (by simp) ?_
  simp only [argsF]
  unfold encT
  have Hg := Hid.mk hg
  clear hg
  (repeat' (first | (with_reducible refine A1 (fun _ => ?_) (fun _ => ?_) <;> try (exfalso; omega)) | (with_reducible refine A2 (fun _ => ?_) (fun _ => ?_) <;> try (exfalso; omega)) | (with_reducible refine A3 (fun _ => ?_) (fun _ => ?_) <;> try (exfalso; omega)) | refine A4 (fun _ => ?_) (fun _ => ?_) | refine A5 (fun _ => ?_) (fun _ => ?_) | refine A6 (fun _ => ?_) (fun _ => ?_) | simp -dsimp (disch := omega) only [↓EA, EB, Nat.reduceEqDiff, Nat.reduceAdd, Nat.reduceLeDiff, Nat.reduceMul, ↓reduceIte, reduceCtorEq, newCells, bslV, eq_self, *]))
  have eH : (h ++ [LObj.cells [.string t.name, .int .i64 t.C, .int .i64 t.T, .int .i64 t.D, .int .i64 t.J, .int .i64 t.Q, .int .i64 t.P] false, LObj.cells [.func (.func n_task_Check_f1) #[] #[]] false]) = h ++ [LObj.cells (encT t) false, LObj.cells [.func (.func n_task_Check_f1) #[] #[]] false] := rfl
  have hb : ∀ x, ((h ++ [LObj.cells (encT t) false, LObj.cells [.func (.func n_task_Check_f1) #[] #[]] false]) ++ x)[h.length]? = some (.cells (encT t) false) := fun x => by rw [List.append_assoc, geta0]; rfl
  have hc : ∀ x, ((h ++ [LObj.cells (encT t) false, LObj.cells [.func (.func n_task_Check_f1) #[] #[]] false]) ++ x)[h.length + 1]? = some (.cells [.func (.func n_task_Check_f1) #[] #[]] false) := fun x => by rw [List.append_assoc, geta]; rfl
  have hf := Hg.out (h ++ [LObj.cells (encT t) false, LObj.cells [.func (.func n_task_Check_f1) #[] #[]] false]) _ _ _ _ 11 12 rfl rfl rfl rfl (fun x => ranges2 hE hs (hb x) (hc x)) (fun hr x => fits3 hE (of_decide_eq_true hr) (hb x))
  rw [eH]
  clear eH hb hc
  (repeat' (first | (with_reducible refine A1 (fun _ => ?_) (fun _ => ?_) <;> try (exfalso; omega)) | (with_reducible refine A2 (fun _ => ?_) (fun _ => ?_) <;> try (exfalso; omega)) | (with_reducible refine A3 (fun _ => ?_) (fun _ => ?_) <;> try (exfalso; omega)) | refine A4 (fun _ => ?_) (fun _ => ?_) | refine A5 (fun _ => ?_) (fun _ => ?_) | refine A6 (fun _ => ?_) (fun _ => ?_) | simp -dsimp (disch := omega) only [↓EA, EB, Nat.reduceEqDiff, Nat.reduceAdd, Nat.reduceLeDiff, Nat.reduceMul, ↓reduceIte, reduceCtorEq, newCells, bslV, eq_self, *, hf]))
end Go.L.Try
namespace Go.L.Try
open Go Go.L
variable {E : Env}
theorem ba_beq (s t : ByteArray) : (s == t) = decide (s = t) := by
  cases s with | mk x =>
  cases t with | mk y =>
  have e : ((⟨x⟩ : ByteArray) == ⟨y⟩) = (x == y) := rfl
  rw [e]; by_cases h : x = y <;> simp [h]
def SKeys (es : List (Value × Value)) : Prop := ∀ e ∈ es, ∃ s, e.1 = .string s
def mapS : List (Value × Value) → ByteArray → Option Value
  | [], _ => none
  | (.string a, v) :: r, s => if s = a then some v else mapS r s
  | _ :: r, s => mapS r s
theorem find_str : ∀ {es : List (Value × Value)}, SKeys es → ∀ s, find .str (.string s) es = some (mapS es s)
  | [], _, _ => rfl
  | (x, v) :: r, hk, s => by
    obtain ⟨a, rfl⟩ := hk (x, v) (by simp)
    have ih := find_str (es := r) (fun e he => hk e (by simp [he])) s
    simp only [find, sameKey, sameS, Option.bind_some, mapS]
    by_cases h : s = a
    · simp [h, ba_beq]
    · have : (s == a) = false := by rw [ba_beq]; exact decide_eq_false h
      simp [h, this, ih]
theorem put_str (v : Value) : ∀ {es : List (Value × Value)}, SKeys es → ∀ s, ∃ es', putE .str (.string s) v es = some es' ∧ SKeys es' ∧ ∀ j, mapS es' j = if j = s then some v else mapS es j
  | [], _, s => ⟨_, rfl, fun e he => by rw [List.mem_singleton.1 he]; exact ⟨s, rfl⟩, fun j => rfl⟩
  | (x, u) :: r, hk, s => by
    obtain ⟨a, rfl⟩ := hk (x, u) (by simp)
    obtain ⟨es', h1, h2, h3⟩ := put_str v (es := r) (fun e he => hk e (by simp [he])) s
    by_cases h : s = a
    · subst h
      refine ⟨(.string s, v) :: r, by simp [putE, sameKey, sameS, ba_beq], fun e he => ?_, fun j => ?_⟩
      · rcases List.mem_cons.1 he with rfl | he
        · exact ⟨s, rfl⟩
        · exact hk e (by simp [he])
      · simp only [mapS]; split <;> rfl
    · have hb : (s == a) = false := by rw [ba_beq]; exact decide_eq_false h
      refine ⟨(.string a, u) :: es', by simp [putE, sameKey, sameS, hb, h1], fun e he => ?_, fun j => ?_⟩
      · rcases List.mem_cons.1 he with rfl | he
        · exact ⟨a, rfl⟩
        · exact h2 e he
      · simp only [mapS, h3]
        by_cases hj : j = a
        · subst hj; rw [if_pos rfl, if_pos rfl, if_neg (fun e => h e.symm)]
        · rw [if_neg hj, if_neg hj]
theorem key_str {s : ByteArray} : keyV .str (.string s) = true := by simp [keyV, sameKey, sameS, ba_beq]
theorem lk_str {es : List (Value × Value)} (hk : SKeys es) (z : Value) (s : ByteArray) : lkO .str z (.string s) false (some (.map es)) = some ((mapS es s).getD z) := by
  simp only [lkO, key_str, if_true, find_str hk, Option.map_some]
  cases mapS es s <;> rfl
theorem mp_str {s : ByteArray} {v : Value} {es es' : List (Value × Value)} (h1 : putE .str (.string s) v es = some es') (h : Heap) (r : Nat) : mpO .str (.string s) v h r (some (.map es)) = some (undef, h.set r (.map es'), [r]) := by
  simp only [mpO, key_str, if_true, h1, Option.map_some]
def cntN (l : List Task) : Nat → ByteArray → Int
  | 0, _ => 0
  | n + 1, s => cntN l n s + if (atI l (n : Int)).name = s then 1 else 0
def cntP (l : List Task) : Nat → Int → Int
  | 0, _ => 0
  | n + 1, p => cntP l n p + if (atI l (n : Int)).P = p then 1 else 0
theorem cntN_in (l : List Task) (s : ByteArray) : ∀ n : Nat, 0 ≤ cntN l n s ∧ cntN l n s ≤ n
  | 0 => by simp [cntN]
  | n + 1 => by have := cntN_in l s n; unfold cntN; split <;> omega
theorem cntP_in (l : List Task) (p : Int) : ∀ n : Nat, 0 ≤ cntP l n p ∧ cntP l n p ≤ n
  | 0 => by simp [cntP]
  | n + 1 => by have := cntP_in l p n; unfold cntP; split <;> omega
theorem bs_iff {s t : ByteArray} : bs s = bs t ↔ s = t := ⟨bs_inj, fun h => by rw [h]⟩
theorem clash_cnt (l : List Task) (i : Int) : ∀ k : Nat, clash l i k = decide (1 ≤ cntN l k (atI l i).name ∨ 1 ≤ cntP l k (atI l i).P)
  | 0 => by simp [clash, cntN, cntP]
  | k + 1 => by
    have h1 := cntN_in l (atI l i).name k
    have h2 := cntP_in l (atI l i).P k
    unfold clash cntN cntP
    rw [clash_cnt l i k, Bool.eq_iff_iff, Bool.or_eq_true, decide_eq_true_iff, decide_eq_true_iff, decide_eq_true_iff, bs_iff]
    generalize cntN l k (atI l i).name = x at *
    generalize cntP l k (atI l i).P = y at *
    by_cases a : (atI l (k : Int)).name = (atI l i).name <;> by_cases b : (atI l (k : Int)).P = (atI l i).P
    · rw [if_pos a, if_pos b]; exact ⟨fun _ => .inl (by omega), fun _ => .inr (.inl a)⟩
    · rw [if_pos a, if_neg b]; exact ⟨fun _ => .inl (by omega), fun _ => .inr (.inl a)⟩
    · rw [if_neg a, if_pos b]; exact ⟨fun _ => .inr (by omega), fun _ => .inr (.inr b)⟩
    · rw [if_neg a, if_neg b, Int.add_zero, Int.add_zero]; exact ⟨fun h => h.elim id fun h => (h.elim a b).elim, fun h => .inl h⟩
theorem checkAllS (hE : Laid E) {h : Heap} {vl : Value} {l : List Task} (hl : Rd 7 encT h vl l) (hs : ∀ t ∈ l, t.name.size < 1152921504606846976) :
    callW E (.func (.func n_task_CheckAll) #[] #[]) [vl] h = some (.tuple #[.int .i64 (checkAllP l).1, .int .i64 (checkAllP l).2], h, []) := by
  refine fn_same hE.task_CheckAll rfl (by simp) ?_
  have few := hl.few
  have hnn := noNew
  simp only [argsF]
  unfold checkAllP
  by_cases hc : l.length = 0 ∨ 1024 < l.length
  · rw [if_pos hc]
    (repeat' (first | (with_reducible refine A1 (fun _ => ?_) (fun _ => ?_) <;> try (exfalso; omega)) | (with_reducible refine A2 (fun _ => ?_) (fun _ => ?_) <;> try (exfalso; omega)) | (with_reducible refine A3 (fun _ => ?_) (fun _ => ?_) <;> try (exfalso; omega)) | refine A4 (fun _ => ?_) (fun _ => ?_) | refine A5 (fun _ => ?_) (fun _ => ?_) | refine A6 (fun _ => ?_) (fun _ => ?_) | simp -dsimp (disch := omega) only [↓EA, EB, Nat.reduceEqDiff, Nat.reduceAdd, Nat.reduceLeDiff, Nat.reduceMul, ↓reduceIte, reduceCtorEq, newCells, bslV, eq_self, *, hl.len]))
  · rw [if_neg hc]
    have hlen : 1 ≤ l.length ∧ l.length ≤ 1024 := by omega
    clear hc hnn
    have Hfin := Hid.mk (rfl : checkFrom l l.length 0 = checkFrom l l.length 0)
    (repeat' (first | (with_reducible refine A1 (fun _ => ?_) (fun _ => ?_) <;> try (exfalso; omega)) | (with_reducible refine A2 (fun _ => ?_) (fun _ => ?_) <;> try (exfalso; omega)) | (with_reducible refine A3 (fun _ => ?_) (fun _ => ?_) <;> try (exfalso; omega)) | refine A4 (fun _ => ?_) (fun _ => ?_) | refine A5 (fun _ => ?_) (fun _ => ?_) | refine A6 (fun _ => ?_) (fun _ => ?_) | simp -dsimp (disch := omega) only [↓EA, EB, Nat.reduceEqDiff, Nat.reduceAdd, Nat.reduceLeDiff, Nat.reduceMul, ↓reduceIte, reduceCtorEq, newCells, bslV, eq_self, *, hl.len]))
    refine WO.loop (fun (n : Nat) fr h' => n ≤ l.length ∧ checkFrom l l.length 0 = checkFrom l (l.length - n) n ∧ Pre h h' ∧ get fr 0 = vl ∧ get fr 4 = .map (some h.length) ∧ get fr 5 = .map (some (h.length + 1)) ∧ get fr 19 = vl ∧ get fr 20 = .int .i64 l.length ∧ get fr 21 = .int .i64 n ∧ ∃ e1 e2, h'[h.length]? = some (.map e1) ∧ h'[h.length + 1]? = some (.map e2) ∧ SKeys e1 ∧ IKeys .i64 e2 ∧ (∀ s, (mapS e1 s).getD (.int .i64 0) = .int .i64 (cntN l n s)) ∧ ∀ p, (mapI .i64 e2 p).getD (.int .i64 0) = .int .i64 (cntP l n p)) (fun n => l.length - n) ?_ 0 ⟨Nat.zero_le _, rfl, Pre.app h _, rfl, rfl, rfl, rfl, rfl, rfl, [], [], by rw [geta0]; rfl, by rw [geta]; rfl, (fun e he => nomatch he), (fun e he => nomatch he), fun s => rfl, fun p => rfl⟩
    rintro n fr h' ⟨hn, hcf, hp, g0, g4, g5, g19, g20, g21, e1, e2, m1, m2, k1, k2, c1, c2⟩
    have Hcf := Hid.mk hcf
    clear hcf
    unfold c_task_CheckAll_l0
    rcases Nat.lt_or_ge n l.length with hlt | hge
    · have hl' := hl.pre hp
      have hm := atI_mem (l := l) (i := (n : Int)) (by omega) (by omega)
      have q := fun x => checkS hE (h' ++ x) (atI l (n : Int)) (hs _ hm)
      simp only [encT] at q
      have hstep : checkFrom l (l.length - n) n = if checkP (atI l (n : Int)) ≠ 0 then ((n : Int), checkP (atI l (n : Int))) else if clash l (n : Int) n then ((n : Int), 13) else checkFrom l (l.length - (n + 1)) ((n : Int) + 1) := by
        obtain ⟨k, hk⟩ : ∃ k, l.length - n = k + 1 := ⟨l.length - n - 1, by omega⟩
        rw [hk, show l.length - (n + 1) = k by omega]; rfl
      rw [clash_cnt] at hstep
      have Hst := Hid.mk hstep
      clear hstep
      have cn := cntN_in l (atI l (n : Int)).name n
      have cp := cntP_in l (atI l (n : Int)).P n
      have L1 := fun z => lk_str k1 z (atI l (n : Int)).name
      have hml := hp.le
      have hml1 := (List.getElem?_eq_some_iff.1 m1).1
      have hml2 := (List.getElem?_eq_some_iff.1 m2).1
      obtain ⟨e1', p1, p2, p3⟩ := put_str (.int .i64 (cntN l n (atI l (n : Int)).name + 1)) k1 (atI l (n : Int)).name
      obtain ⟨e2', r1, r2, r3⟩ := put_int (.int .i64 (cntP l n (atI l (n : Int)).P + 1)) k2 (atI l (n : Int)).P
      have C1 := c1 (atI l (n : Int)).name
      have C2 := c2 (atI l (n : Int)).P
      have Hc1 := Hid.mk c1
      have Hc2 := Hid.mk c2
      have P3 := Hid.mk p3
      have R3 := Hid.mk r3
      have D1 : (mapS e1' (atI l (n : Int)).name).getD (.int .i64 0) = .int .i64 (cntN l n (atI l (n : Int)).name + 1) := by rw [p3, if_pos rfl]; rfl
      have D2 : (mapI .i64 e2' (atI l (n : Int)).P).getD (.int .i64 0) = .int .i64 (cntP l n (atI l (n : Int)).P + 1) := by rw [r3, if_pos rfl]; rfl
      have M1 := mp_str p1
      have M2 := mp_int r1
      have L2 := lk_int k2
      have L3 := lk_str p2
      have L4 := lk_int r2
      clear c1 c2 p3 r3 p1 r1 hm hs L1
      have L1 := lk_str k1
      have m1x : ∀ x, (h' ++ x)[h.length]? = some (.map e1) := fun x => by rw [List.getElem?_append_left hml1]; exact m1
      have m2x : ∀ x, (h' ++ x)[h.length + 1]? = some (.map e2) := fun x => by rw [List.getElem?_append_left hml2]; exact m2
      clear m1 m2
      have G1 : ∀ x o, (List.set (h' ++ x) h.length o)[h.length]? = some o := fun x o => gset (by simp; omega)
      have G2 : ∀ x o o2, (List.set (List.set (h' ++ x) h.length o) (h.length + 1) o2)[h.length + 1]? = some o2 := fun x o o2 => gset (by simp; omega)
      (repeat' (first | (with_reducible refine A1 (fun _ => ?_) (fun _ => ?_) <;> try (exfalso; omega)) | (with_reducible refine A2 (fun _ => ?_) (fun _ => ?_) <;> try (exfalso; omega)) | (with_reducible refine A3 (fun _ => ?_) (fun _ => ?_) <;> try (exfalso; omega)) | refine A4 (fun _ => ?_) (fun _ => ?_) | refine A5 (fun _ => ?_) (fun _ => ?_) | refine A6 (fun _ => ?_) (fun _ => ?_) | simp -dsimp (disch := omega) only [↓EA, EB, Nat.reduceEqDiff, Nat.reduceAdd, Nat.reduceLeDiff, Nat.reduceMul, ↓reduceIte, reduceCtorEq, newCells, bslV, eq_self, *, hl'.len, hl'.ixs, hl'.ld, hl'.ld0, hl'.lda, hl'.ldx, hl'.ldx0, hl'.ldxa, encT, m1x, m2x, G1, G2]))
      · rw [Hcf.out, Hst.out, if_pos (by assumption)]
      · rw [Hcf.out, Hst.out, if_neg (by omega), if_pos (decide_eq_true (by omega))]
      · rw [Hcf.out, Hst.out, if_neg (by omega), if_pos (decide_eq_true (by omega))]
      · refine Next.mk (n + 1) ⟨by omega, ?_, ((hp.app' _).set (Nat.le_refl _) _).set (by omega) _, rfl, rfl, rfl, rfl, rfl, rfl, e1', e2', ?_, G2 _ _ _, p2, r2, ?_, ?_⟩ (by omega)
        · rw [Hcf.out, Hst.out, if_neg (by omega), if_neg (by rw [decide_eq_true_eq]; omega)]; rfl
        · rw [gets (by omega)]; exact G1 _ _
        · intro s
          rw [P3.out]
          by_cases hj : s = (atI l (n : Int)).name
          · subst hj
            rw [if_pos rfl]
            show Value.int .i64 _ = Value.int .i64 (cntN l n _ + if _ then 1 else 0)
            rw [if_pos rfl]
          · rw [if_neg hj, Hc1.out]
            show Value.int .i64 _ = Value.int .i64 (cntN l n _ + if _ then 1 else 0)
            rw [if_neg (fun e => hj e.symm), Int.add_zero]
        · intro p
          rw [R3.out]
          by_cases hj : p = (atI l (n : Int)).P
          · subst hj
            rw [if_pos rfl]
            show Value.int .i64 _ = Value.int .i64 (cntP l n _ + if _ then 1 else 0)
            rw [if_pos rfl]
          · rw [if_neg hj, Hc2.out]
            show Value.int .i64 _ = Value.int .i64 (cntP l n _ + if _ then 1 else 0)
            rw [if_neg (fun e => hj e.symm), Int.add_zero]
    · have e : n = l.length := by omega
      subst e
      have e0 : checkFrom l (l.length - l.length) l.length = ((l.length : Int), 0) := by rw [Nat.sub_self]; rfl
      have E0 := Hid.mk e0
      clear e0
      (repeat' (first | (with_reducible refine A1 (fun _ => ?_) (fun _ => ?_) <;> try (exfalso; omega)) | (with_reducible refine A2 (fun _ => ?_) (fun _ => ?_) <;> try (exfalso; omega)) | (with_reducible refine A3 (fun _ => ?_) (fun _ => ?_) <;> try (exfalso; omega)) | refine A4 (fun _ => ?_) (fun _ => ?_) | refine A5 (fun _ => ?_) (fun _ => ?_) | refine A6 (fun _ => ?_) (fun _ => ?_) | simp -dsimp (disch := omega) only [↓EA, EB, Nat.reduceEqDiff, Nat.reduceAdd, Nat.reduceLeDiff, Nat.reduceMul, ↓reduceIte, reduceCtorEq, newCells, bslV, eq_self, *, hl.len]))
      rw [Hcf.out, E0.out]
end Go.L.Try
namespace Go.L.Try
open Go Go.L
variable {E : Env}
theorem WL_ptr {m b off : Nat} {sp : Option Nat} {A : Prop} (h : b < m) : WL m (.pointer (some ⟨b, off, sp⟩)) A = A := by simp [WL, low, h]
theorem isRta (hE : Laid E) {h : Heap} {vl : Value} {l : List Task} (hl : Rd 7 encT h vl l) (hs : ∀ t ∈ l, t.name.size < 1152921504606846976) (i : Int) :
    callW E (.func (.func n_rta_is) #[] #[]) [vl, .int .i64 i] h = some (.bool (isP l i), h, []) := by
  have hc := checkAllS hE hl hs
  refine fn_same hE.rta_is rfl (by simp) ?_
  simp only [argsF]
  (repeat' (first | (with_reducible refine A1 (fun _ => ?_) (fun _ => ?_) <;> try (exfalso; omega)) | (with_reducible refine A2 (fun _ => ?_) (fun _ => ?_) <;> try (exfalso; omega)) | (with_reducible refine A3 (fun _ => ?_) (fun _ => ?_) <;> try (exfalso; omega)) | refine A4 (fun _ => ?_) (fun _ => ?_) | refine A5 (fun _ => ?_) (fun _ => ?_) | refine A6 (fun _ => ?_) (fun _ => ?_) | simp -dsimp (disch := omega) only [↓EA, EB, Nat.reduceEqDiff, Nat.reduceAdd, Nat.reduceLeDiff, Nat.reduceMul, ↓reduceIte, reduceCtorEq, newCells, bslV, eq_self, *, hl.len]))
  · congr 1; unfold isP; exact decide_eq_decide.2 (by omega)
  · congr 1; unfold isP; exact (decide_eq_false (by omega)).symm
  · congr 1; unfold isP; exact (decide_eq_false (by omega)).symm
theorem isDem (hE : Laid E) {h : Heap} {vl : Value} {l : List Task} (hl : Rd 7 encT h vl l) (hs : ∀ t ∈ l, t.name.size < 1152921504606846976) (i : Int) :
    callW E (.func (.func n_demand_is) #[] #[]) [vl, .int .i64 i] h = some (.bool (isP l i), h, []) := by
  have hc := checkAllS hE hl hs
  refine fn_same hE.demand_is rfl (by simp) ?_
  simp only [argsF]
  (repeat' (first | (with_reducible refine A1 (fun _ => ?_) (fun _ => ?_) <;> try (exfalso; omega)) | (with_reducible refine A2 (fun _ => ?_) (fun _ => ?_) <;> try (exfalso; omega)) | (with_reducible refine A3 (fun _ => ?_) (fun _ => ?_) <;> try (exfalso; omega)) | refine A4 (fun _ => ?_) (fun _ => ?_) | refine A5 (fun _ => ?_) (fun _ => ?_) | refine A6 (fun _ => ?_) (fun _ => ?_) | simp -dsimp (disch := omega) only [↓EA, EB, Nat.reduceEqDiff, Nat.reduceAdd, Nat.reduceLeDiff, Nat.reduceMul, ↓reduceIte, reduceCtorEq, newCells, bslV, eq_self, *, hl.len]))
  · congr 1; unfold isP; exact decide_eq_decide.2 (by omega)
  · congr 1; unfold isP; exact (decide_eq_false (by omega)).symm
  · congr 1; unfold isP; exact (decide_eq_false (by omega)).symm
theorem often13 (hE : Laid E) (hX : LaidAdd E) (h : Heap) {t : Task} (ht : okTask t) {w : Int} (hw : u64in w) :
    callW E (.func (.func n_demand_often) #[] #[]) [.agg (encT t).toArray, .int .u64 w] h = some (.int .u64 (oftenP t w), h, []) := by
  obtain ⟨hC, hT, hJ⟩ := ofBounds ht
  obtain ⟨o1, o2⟩ := often_in ht hw
  have hjin : u64in t.J := by unfold u64in; omega
  have q2 := fun x => numCeil hE x o1 (b := t.T) (by unfold u64in; omega)
  simp only [if_neg (show ¬ t.T = 0 by omega)] at q2
  have eo : (sat (w + t.J) + t.T - 1) / t.T = oftenP t w := rfl
  rw [eo] at q2
  clear eo
  refine fn_same hE.demand_often rfl (by simp) ?_
  simp only [argsF]
  unfold encT
  generalize oftenP t w = O at *
  have q1 : ∀ b, callW E (.func (.func n_num_Sum) #[] #[]) [.int .u64 w, .slice (some ⟨h.length + 1, 0, none⟩) 1 1] (h ++ [b, LObj.cells [.int .u64 t.J] false]) = some (.int .u64 (sat (w + t.J)), h ++ [b, LObj.cells [.int .u64 t.J] false], []) := fun b =>
    numSum hE hX (l := [t.J]) (Rd.lit (enc := encU) [t.J] (by rw [geta]; rfl) rfl (fun _ => rfl) (by simp) (by simp) (.inl rfl)) hw (fun x hx => by rw [List.mem_singleton.1 hx]; exact hjin)
  clear ht o1 o2
  generalize sat (w + t.J) = S at *
  (repeat' (first | (with_reducible refine A1 (fun _ => ?_) (fun _ => ?_) <;> try (exfalso; omega)) | (with_reducible refine A2 (fun _ => ?_) (fun _ => ?_) <;> try (exfalso; omega)) | (with_reducible refine A3 (fun _ => ?_) (fun _ => ?_) <;> try (exfalso; omega)) | refine A4 (fun _ => ?_) (fun _ => ?_) | refine A5 (fun _ => ?_) (fun _ => ?_) | refine A6 (fun _ => ?_) (fun _ => ?_) | simp -dsimp (disch := omega) only [↓EA, EB, Nat.reduceEqDiff, Nat.reduceAdd, Nat.reduceLeDiff, Nat.reduceMul, ↓reduceIte, reduceCtorEq, newCells, bslV, eq_self, *, WL_ptr]))
def smallT (t : Task) : Task := ⟨t.name, t.C.tmod 40, t.T.tmod 40, t.D.tmod 40, t.J.tmod 40, t.Q.tmod 40, t.P⟩
end Go.L.Try
namespace Go.L.Try
open Go Go.L
variable {E : Env}
def threeL : List Task := [⟨⟨#[97]⟩, 1, 4, 4, 0, 1, 1⟩, ⟨⟨#[98]⟩, 2, 9, 9, 1, 1, 2⟩, ⟨⟨#[99]⟩, 3, 20, 20, 0, 3, 3⟩]
end Go.L.Try
