/- THE LAST JOB OF A TASK, plain. -/
import Derived.Test.YtdklgcjbjphadaaPa
import Derived.Test.YtdklgcjbjphadaaCode
set_option linter.unusedVariables false
set_option linter.unusedSimpArgs false
namespace Go.L.Try
open Go Go.L
def lastN (l : List Job) (task : Int) : Nat → Int
  | 0 => -1
  | k + 1 => if (atI l (k : Int)).task = task then k else lastN l task k
theorem lastN_in (l : List Job) (task : Int) : ∀ k, -1 ≤ lastN l task k ∧ lastN l task k < k
  | 0 => by simp [lastN]
  | k + 1 => by have := lastN_in l task k; unfold lastN; split <;> omega
end Go.L.Try

/- LEGAL SCRIPTS, plain. -/
set_option linter.unusedVariables false
set_option linter.unusedSimpArgs false
set_option maxRecDepth 100000
set_option maxHeartbeats 2000000
namespace Go.L.Try
open Go Go.L
def cutsOk (q : Int) : List Int → Int → Bool
  | [], _ => true
  | c :: r, left => decide (1 ≤ c ∧ c ≤ q ∧ c ≤ left) && cutsOk q r (left - c)
def jobNums (l : List Task) (jobs : List Job) (i : Nat) : Prop :=
  let j := atI jobs (i : Int)
  let t := atI l j.task
  let k := lastN jobs j.task i
  (0 ≤ j.task ∧ j.task < l.length) ∧ (0 ≤ j.arrive ∧ j.arrive ≤ 17592186044416) ∧ (0 ≤ k → (atI jobs k).arrive + t.T ≤ j.arrive) ∧ j.arrive ≤ j.release ∧ j.release ≤ j.arrive + t.J ∧ 1 ≤ j.work ∧ j.work ≤ t.C
instance (l : List Task) (jobs : List Job) (i : Nat) : Decidable (jobNums l jobs i) := by unfold jobNums; dsimp only; infer_instance
def jobOkB (l : List Task) (jobs : List Job) (i : Nat) : Bool := decide (jobNums l jobs i) && cutsOk (atI l (atI jobs (i : Int)).task).Q (atI jobs (i : Int)).cuts (atI jobs (i : Int)).work
def allOk (l : List Task) (jobs : List Job) : Nat → Bool
  | 0 => true
  | n + 1 => allOk l jobs n && jobOkB l jobs n
def legalB (l : List Task) (jobs : List Job) : Bool := decide ((checkAllP l).2 = 0 ∧ jobs.length ≤ 4096) && allOk l jobs jobs.length
theorem allOk_at {l : List Task} {jobs : List Job} : ∀ {n : Nat}, allOk l jobs n = true → ∀ i, i < n → jobOkB l jobs i = true
  | 0, _, i, hi => by omega
  | n + 1, h, i, hi => by
    simp only [allOk, Bool.and_eq_true] at h
    rcases Nat.lt_or_ge i n with h1 | h1
    · exact allOk_at h.1 i h1
    · have : i = n := by omega
      subst this; exact h.2
theorem allOk_not {l : List Task} {jobs : List Job} {n i : Nat} (hi : i < n) (h : jobOkB l jobs i = false) : allOk l jobs n = false := by
  cases hc : allOk l jobs n
  · rfl
  · rw [allOk_at hc i hi] at h; cases h
theorem lastN_take {jobs : List Job} {task : Int} : ∀ {k i : Nat}, k ≤ i → lastN (jobs.take i) task k = lastN jobs task k
  | 0, i, _ => rfl
  | k + 1, i, h => by
    have e : atI (jobs.take i) (k : Int) = atI jobs (k : Int) := by
      unfold atI
      rw [List.getD_eq_getElem?_getD, List.getD_eq_getElem?_getD, List.getElem?_take, if_pos (by omega)]
    simp only [lastN, e, lastN_take (k := k) (by omega : k ≤ i)]
theorem lastN_task {jobs : List Job} {task : Int} : ∀ {n : Nat}, 0 ≤ lastN jobs task n → (atI jobs (lastN jobs task n)).task = task
  | 0, h => by simp [lastN] at h
  | n + 1, h => by
    unfold lastN at h ⊢
    split
    · assumption
    · rename_i hn; rw [if_neg hn] at h; exact lastN_task h
end Go.L.Try

/- WORDS, AS THE PROGRAM SCANS THEM. -/
set_option linter.unusedVariables false
set_option linter.unusedSimpArgs false
set_option maxRecDepth 100000
set_option maxHeartbeats 1000000
namespace Go.L.Try
open Go Go.L
variable {E : Env}
theorem bin_or8 {q : EqK} {c : UInt8} : binOp .or q (.int .u8 (c.toNat : Int)) (.int .u8 32) = some (.int .u8 ((c.toNat ||| 32 : Nat) : Int)) := by
  have hlt : c.toNat < 256 := c.toNat_lt
  have hor : c.toNat ||| 32 < 256 := Nat.or_lt_two_pow (n := 8) hlt (by decide)
  have e1 : BitVec.ofInt 8 (c.toNat : Int) = BitVec.ofNat 8 c.toNat := by simp
  have e : ((BitVec.ofInt 8 (c.toNat : Int)) ||| (BitVec.ofInt 8 32)).toNat = c.toNat ||| 32 := by
    have e2 : BitVec.ofInt 8 32 = BitVec.ofNat 8 32 := by decide
    rw [e1, e2, BitVec.toNat_or, BitVec.toNat_ofNat, BitVec.toNat_ofNat, Nat.mod_eq_of_lt hlt]
  have e3 : binOp .or q (.int .u8 (c.toNat : Int)) (.int .u8 32) = some (.int .u8 (IntKind.u8.wrap (((BitVec.ofInt 8 (c.toNat : Int)) ||| (BitVec.ofInt 8 32)).toNat : Nat))) := by simp only [binOp, intOp, if_true]; rfl
  rw [e3, e, wrap_u8 (by omega) (by omega)]
theorem letter_bits : ∀ n : Nat, n < 256 → (decide ((97 ≤ n ||| 32 ∧ n ||| 32 ≤ 122) ∨ n = 95) == decide ((97 ≤ n ∧ n ≤ 122) ∨ (65 ≤ n ∧ n ≤ 90) ∨ n = 95)) = true := by
  have h : (List.range 256).all (fun n => decide ((97 ≤ n ||| 32 ∧ n ||| 32 ≤ 122) ∨ n = 95) == decide ((97 ≤ n ∧ n ≤ 122) ∨ (65 ≤ n ∧ n ≤ 90) ∨ n = 95)) = true := by decide +kernel
  intro n hn
  exact List.all_eq_true.1 h n (List.mem_range.2 hn)
theorem letterS (hE : Laid E) (h : Heap) (c : UInt8) : callW E (.func (.func n_scan_letter) #[] #[]) [.int .u8 c.toNat] h = some (.bool (letterB c), h, []) := by
  have hlt : c.toNat < 256 := c.toNat_lt
  have hb := eq_of_beq (letter_bits c.toNat hlt)
  have e : letterB c = decide ((97 ≤ c.toNat ||| 32 ∧ c.toNat ||| 32 ≤ 122) ∨ c.toNat = 95) := by unfold letterB; exact hb.symm
  rw [e]
  clear hb e
  refine fn_same hE.scan_letter rfl (by simp) ?_
  simp only [argsF]
  generalize hx : c.toNat ||| 32 = x
  have hor := @bin_or8 .other c
  rw [hx] at hor
  clear hx
  (repeat' (first | ((with_reducible refine WG_dec (fun _ => ?_) (fun _ => ?_)) <;> try (exfalso; omega)) | ((with_reducible refine WG_decF (fun _ => ?_) (fun _ => ?_)) <;> try (exfalso; omega)) | ((with_reducible refine WC_dec (fun _ => ?_) (fun _ => ?_)) <;> try (exfalso; omega)) | refine WC_bool (fun _ => ?_) (fun _ => ?_) | refine WG_bool (fun _ => ?_) (fun _ => ?_) | refine WG_boolF (fun _ => ?_) (fun _ => ?_) | simp -dsimp (disch := omega) only [↓run_nil, ↓run_i, ↓run_w, ↓co_seq, ↓co_ret, ↓co_reg, ↓op_mov, ↓op_pick, ↓op_bin, Res_ret, resL_nil, resL_t, resV_one, nn4_bool, WF_eq, W1_some, WG_true, WG_false, WG_tf, WG_ft, ↓ev_t, ↓ev_c, ↓upd_at, ↓get_cons, ↓frm_nil, ↓frm_cons, bin_eql, bin_leq, bin_geq, pick_t, pick_f, eq_self, true_and, Option.map_some, Nat.reduceEqDiff, ↓reduceIte, reduceCtorEq, decide_true, decide_false, *]))
  all_goals (congr 1; first | (rw [decide_eq_decide]; omega) | (symm; rw [decide_eq_true_eq]; omega) | (symm; rw [decide_eq_false_iff_not]; omega))
theorem digitS (hE : Laid E) (h : Heap) (c : UInt8) : callW E (.func (.func n_scan_digit) #[] #[]) [.int .u8 c.toNat] h = some (.bool (digitB c), h, []) := by
  refine fn_same hE.scan_digit rfl (by simp) ?_
  simp only [argsF]
  (repeat' (first | ((with_reducible refine WG_dec (fun _ => ?_) (fun _ => ?_)) <;> try (exfalso; omega)) | ((with_reducible refine WG_decF (fun _ => ?_) (fun _ => ?_)) <;> try (exfalso; omega)) | ((with_reducible refine WC_dec (fun _ => ?_) (fun _ => ?_)) <;> try (exfalso; omega)) | refine WC_bool (fun _ => ?_) (fun _ => ?_) | refine WG_bool (fun _ => ?_) (fun _ => ?_) | refine WG_boolF (fun _ => ?_) (fun _ => ?_) | simp -dsimp (disch := omega) only [↓run_nil, ↓run_i, ↓run_w, ↓co_seq, ↓co_ret, ↓co_reg, ↓op_mov, ↓op_pick, ↓op_bin, Res_ret, resL_nil, resL_t, resV_one, nn4_bool, WF_eq, W1_some, WG_true, WG_ft, ↓ev_t, ↓ev_c, ↓upd_at, ↓get_cons, ↓frm_nil, ↓frm_cons, bin_leq, bin_geq, pick_t, pick_f, eq_self, true_and, Option.map_some, Nat.reduceEqDiff, ↓reduceIte, reduceCtorEq, decide_true, decide_false, *]))
  all_goals (unfold digitB; congr 1; first | (rw [decide_eq_decide]; omega) | (symm; rw [decide_eq_true_eq]; omega) | (symm; rw [decide_eq_false_iff_not]; omega))
theorem goesS (hE : Laid E) (h : Heap) (c : UInt8) : callW E (.func (.func n_scan_goes) #[] #[]) [.int .u8 c.toNat] h = some (.bool (goesB c), h, []) := by
  have q1 := letterS hE h c
  have q2 := digitS hE h c
  refine fn_same hE.scan_goes rfl (by simp) ?_
  simp only [argsF]
  unfold goesB
  cases hl : letterB c <;> cases hd : digitB c
  all_goals
    rw [hl] at q1
    rw [hd] at q2
    (repeat' (first | ((with_reducible refine WG_dec (fun _ => ?_) (fun _ => ?_)) <;> try (exfalso; omega)) | ((with_reducible refine WG_decF (fun _ => ?_) (fun _ => ?_)) <;> try (exfalso; omega)) | ((with_reducible refine WC_dec (fun _ => ?_) (fun _ => ?_)) <;> try (exfalso; omega)) | refine WC_bool (fun _ => ?_) (fun _ => ?_) | refine WG_bool (fun _ => ?_) (fun _ => ?_) | refine WG_boolF (fun _ => ?_) (fun _ => ?_) | simp -dsimp (disch := omega) only [↓run_nil, ↓run_i, ↓run_w, ↓op_call, ↓co_seq, ↓co_skip, ↓co_exit, ↓co_ret, ↓co_reg, ↓co_cond, ↓co_block, ↓op_mov, ↓op_pick, ↓op_bin, Res_ret, resL_nil, resL_t, resV_one, nn4_bool, WF_eq, W1_some, WX_some, WG_false, WG_tf, ↓ev_t, ↓ev_c, ↓ev_f, ↓upd_at, ↓get_cons, ↓frm_nil, ↓frm_cons, bin_eql, pick_t, pick_f, eq_self, List.map_cons, List.map_nil, true_and, Option.map_some, Nat.reduceEqDiff, ↓reduceIte, reduceCtorEq, decide_false, *]))
  all_goals first | rfl | (congr 1; simp; done) | (congr 1; simp; omega)
theorem longS (hE : Laid E) (h : Heap) {s : ByteArray} (hs : s.size < 1152921504606846976) :
    callW E (.func (.func n_scan_long) #[] #[]) [.string s, .func (.func n_scan_goes) #[] #[]] h = some (.int .i64 (runEnd goesB s 0 : Nat), h, []) := by
  refine fn_same hE.scan_long rfl (by simp) ?_
  simp only [argsF]
  (repeat' (first | ((with_reducible refine WG_dec (fun _ => ?_) (fun _ => ?_)) <;> try (exfalso; omega)) | ((with_reducible refine WG_decF (fun _ => ?_) (fun _ => ?_)) <;> try (exfalso; omega)) | ((with_reducible refine WC_dec (fun _ => ?_) (fun _ => ?_)) <;> try (exfalso; omega)) | refine WC_bool (fun _ => ?_) (fun _ => ?_) | refine WG_bool (fun _ => ?_) (fun _ => ?_) | refine WG_boolF (fun _ => ?_) (fun _ => ?_) | simp -dsimp (disch := omega) only [↓run_nil, ↓run_i, ↓co_seq, ↓co_skip, ↓co_reg, ↓co_block, ↓co_loop, ↓op_mov, WF_eq, W1_some, ↓ev_c, ↓upd_at, ↓get_cons, ↓frm_nil, ↓frm_cons, eq_self, Nat.reduceEqDiff, Nat.zero_add, ↓reduceIte, reduceCtorEq, *]))
  refine WO.loop (fun (n : Nat) fr h' => h' = h ∧ n ≤ s.size ∧ runEnd goesB s 0 = runEnd goesB s n ∧ get fr 0 = .string s ∧ get fr 1 = .func (.func n_scan_goes) #[] #[] ∧ get fr 5 = .int .i64 n) (fun n => s.size - n) ?_ 0 ⟨rfl, Nat.zero_le _, rfl, rfl, rfl, rfl⟩
  rintro n fr h' ⟨rfl, hn, hr, g0, g1, g5⟩
  have Hr := Hid.mk hr
  clear hr
  unfold c_scan_long_l0
  rcases Nat.lt_or_ge n s.size with hlt | hge
  · have q := goesS hE h' (byteAt s (n : Int))
    have H1 := Hid.mk (fun hp => runEnd_step (p := goesB) hlt hp)
    have H2 := Hid.mk (fun hp => runEnd_stop (p := goesB) hlt hp)
    have hix : ∀ k : IntKind, ixtV (.string s) (.int k n) = some (.int .u8 ((byteAt s n).toNat : Int)) := fun k => ixt_at (by omega) (by omega)
    cases hg : goesB (byteAt s (n : Int))
    · rw [hg] at q
      have e := H2.out hg
      (repeat' (first | ((with_reducible refine WG_dec (fun _ => ?_) (fun _ => ?_)) <;> try (exfalso; omega)) | ((with_reducible refine WG_decF (fun _ => ?_) (fun _ => ?_)) <;> try (exfalso; omega)) | ((with_reducible refine WC_dec (fun _ => ?_) (fun _ => ?_)) <;> try (exfalso; omega)) | refine WC_bool (fun _ => ?_) (fun _ => ?_) | refine WG_bool (fun _ => ?_) (fun _ => ?_) | refine WG_boolF (fun _ => ?_) (fun _ => ?_) | simp -dsimp (disch := omega) only [↓run_nil, ↓run_i, ↓op_call, ↓co_seq, ↓co_skip, ↓co_exit, ↓co_ret, ↓co_reg, ↓co_cond, ↓co_block, ↓op_mov, ↓op_bin, ↓op_un, ↓op_ixt, ↓op_lens, Res_ret, resL_nil, resL_t, resV_one, nn4_int, WF_eq, W1_some, WX_some, WC_true, ↓ev_t, ↓upd_at, ↓get_cons, ↓frm_nil, ↓frm_cons, bin_lss, un_not, lens_str, eq_self, Bool.not_false, List.map_cons, List.map_nil, true_and, Option.map_some, Nat.reduceEqDiff, ↓reduceIte, reduceCtorEq, decide_true, *]))
      rw [Hr.out, e]
    · rw [hg] at q
      have Hs := Hid.mk (H1.out hg)
      (repeat' (first | ((with_reducible refine WG_dec (fun _ => ?_) (fun _ => ?_)) <;> try (exfalso; omega)) | ((with_reducible refine WG_decF (fun _ => ?_) (fun _ => ?_)) <;> try (exfalso; omega)) | ((with_reducible refine WC_dec (fun _ => ?_) (fun _ => ?_)) <;> try (exfalso; omega)) | refine WC_bool (fun _ => ?_) (fun _ => ?_) | refine WG_bool (fun _ => ?_) (fun _ => ?_) | refine WG_boolF (fun _ => ?_) (fun _ => ?_) | simp -dsimp (disch := omega) only [↓run_nil, ↓run_i, ↓op_call, ↓co_seq, ↓co_skip, ↓co_reg, ↓co_cond, ↓co_block, ↓op_mov, ↓op_bin, ↓op_un, ↓op_ixt, ↓op_lens, WF_eq, W1_some, WX_some, WC_false, ↓ev_t, ↓ev_c, ↓upd_at, ↓get_cons, ↓frm_nil, ↓frm_cons, bin_add, bin_lss, un_not, lens_str, wrap_i64, eq_self, Bool.not_true, List.map_cons, List.map_nil, Nat.reduceEqDiff, ↓reduceIte, reduceCtorEq, decide_true, *]))
      exact Next.mk (n + 1) ⟨rfl, by omega, by rw [Hr.out, Hs.out], rfl, rfl, rfl⟩ (by omega)
  · have e := Hid.mk (runEnd_end (p := goesB) hge)
    (repeat' (first | ((with_reducible refine WG_dec (fun _ => ?_) (fun _ => ?_)) <;> try (exfalso; omega)) | ((with_reducible refine WG_decF (fun _ => ?_) (fun _ => ?_)) <;> try (exfalso; omega)) | ((with_reducible refine WC_dec (fun _ => ?_) (fun _ => ?_)) <;> try (exfalso; omega)) | refine WC_bool (fun _ => ?_) (fun _ => ?_) | refine WG_bool (fun _ => ?_) (fun _ => ?_) | refine WG_boolF (fun _ => ?_) (fun _ => ?_) | simp -dsimp (disch := omega) only [↓run_nil, ↓run_i, ↓co_seq, ↓co_exit, ↓co_ret, ↓co_reg, ↓co_cond, ↓op_mov, ↓op_bin, ↓op_lens, Res_ret, resL_nil, resL_t, resV_one, nn4_int, WF_eq, W1_some, ↓ev_t, ↓upd_at, ↓get_cons, ↓frm_nil, ↓frm_cons, bin_lss, lens_str, eq_self, true_and, Option.map_some, Nat.reduceEqDiff, ↓reduceIte, reduceCtorEq, *]))
    rw [Hr.out, e.out]
theorem word_run {s : ByteArray} (h0 : 0 < s.size) : wordB s = (letterB (byteAt s 0) && decide ((runEnd goesB s 0 : Nat) = s.size)) := by
  have hl := bs_len s
  cases hb : bs s with
  | nil => rw [hb] at hl; simp at hl; omega
  | cons c r =>
    have hc : byteAt s 0 = c := by unfold byteAt; rw [hb]; rfl
    have hr : (runEnd goesB s 0 : Nat) = ((c :: r).takeWhile goesB).length := by unfold runEnd; rw [List.drop_zero, hb, Nat.zero_add]
    have hs : s.size = (c :: r).length := by rw [← hb, bs_len]
    rw [hc, hr, hs]
    unfold wordB
    rw [hb]
    show (letterB c && r.all goesB) = _
    cases hlc : letterB c
    · rfl
    · have hg : goesB c = true := by unfold goesB; rw [hlc]; rfl
      have : decide (((c :: r).takeWhile goesB).length = (c :: r).length) = (c :: r).all goesB := by
        rw [← Bool.coe_iff_coe, decide_eq_true_eq]; exact takeWhile_len
      rw [this, List.all_cons, hg]; rfl
theorem wordS (hE : Laid E) (h : Heap) {s : ByteArray} (hs : s.size < 1152921504606846976) :
    callW E (.func (.func n_scan_Word) #[] #[]) [.string s] h = some (.bool (wordB s), h, []) := by
  refine fn_same hE.scan_Word rfl (by simp) ?_
  simp only [argsF]
  rcases Nat.eq_zero_or_pos s.size with h0 | h0
  · have e : bs s = [] := List.length_eq_zero_iff.1 (by rw [bs_len]; exact h0)
    have e2 : bs ⟨#[]⟩ = [] := rfl
    (repeat' (first | ((with_reducible refine WG_dec (fun _ => ?_) (fun _ => ?_)) <;> try (exfalso; omega)) | ((with_reducible refine WG_decF (fun _ => ?_) (fun _ => ?_)) <;> try (exfalso; omega)) | ((with_reducible refine WC_dec (fun _ => ?_) (fun _ => ?_)) <;> try (exfalso; omega)) | refine WC_bool (fun _ => ?_) (fun _ => ?_) | refine WG_bool (fun _ => ?_) (fun _ => ?_) | refine WG_boolF (fun _ => ?_) (fun _ => ?_) | simp -dsimp (disch := omega) only [↓run_nil, ↓run_i, ↓run_w, ↓co_seq, ↓co_ret, ↓co_reg, ↓op_mov, ↓op_pick, ↓op_bin, Res_ret, resL_nil, resL_t, resV_one, nn4_bool, WF_eq, W1_some, WG_ft, ↓ev_t, ↓ev_c, ↓upd_at, ↓get_cons, ↓frm_nil, ↓frm_cons, bin_sne, pick_f, eq_self, Bool.not_true, true_and, Option.map_some, Nat.reduceEqDiff, ↓reduceIte, reduceCtorEq, decide_true, *, bs_eq]))
    all_goals simp [wordB, e]
  · have e : bs s ≠ [] := fun e => by rw [← bs_len, e] at h0; simp at h0
    have e2 : bs ⟨#[]⟩ = [] := rfl
    have hix : ∀ k : IntKind, ixtV (.string s) (.int k 0) = some (.int .u8 ((byteAt s 0).toNat : Int)) := fun k => ixt_at (by omega) (by omega)
    have q1 := letterS hE h (byteAt s 0)
    have q2 := longS hE h hs
    rw [word_run h0]
    cases hl : letterB (byteAt s 0)
    · rw [hl] at q1
      (repeat' (first | ((with_reducible refine WG_dec (fun _ => ?_) (fun _ => ?_)) <;> try (exfalso; omega)) | ((with_reducible refine WG_decF (fun _ => ?_) (fun _ => ?_)) <;> try (exfalso; omega)) | ((with_reducible refine WC_dec (fun _ => ?_) (fun _ => ?_)) <;> try (exfalso; omega)) | refine WC_bool (fun _ => ?_) (fun _ => ?_) | refine WG_bool (fun _ => ?_) (fun _ => ?_) | refine WG_boolF (fun _ => ?_) (fun _ => ?_) | simp -dsimp (disch := omega) only [↓run_nil, ↓run_i, ↓run_w, ↓op_call, ↓co_seq, ↓co_ret, ↓co_reg, ↓op_mov, ↓op_pick, ↓op_bin, ↓op_ixt, Res_ret, resL_nil, resL_t, resV_one, nn4_bool, WF_eq, W1_some, WX_some, WG_true, WG_ft, ↓ev_t, ↓ev_c, ↓ev_f, ↓upd_at, ↓get_cons, ↓frm_nil, ↓frm_cons, bin_sne, pick_t, pick_f, eq_self, Bool.not_false, List.map_cons, List.map_nil, true_and, Option.map_some, Nat.reduceEqDiff, ↓reduceIte, reduceCtorEq, decide_false, *, bs_eq]))
      rfl
    · rw [hl] at q1
      generalize runEnd goesB s 0 = R at *
      (repeat' (first | ((with_reducible refine WG_dec (fun _ => ?_) (fun _ => ?_)) <;> try (exfalso; omega)) | ((with_reducible refine WG_decF (fun _ => ?_) (fun _ => ?_)) <;> try (exfalso; omega)) | ((with_reducible refine WC_dec (fun _ => ?_) (fun _ => ?_)) <;> try (exfalso; omega)) | refine WC_bool (fun _ => ?_) (fun _ => ?_) | refine WG_bool (fun _ => ?_) (fun _ => ?_) | refine WG_boolF (fun _ => ?_) (fun _ => ?_) | simp -dsimp (disch := omega) only [↓run_nil, ↓run_i, ↓run_w, ↓op_call, ↓co_seq, ↓co_ret, ↓co_reg, ↓op_mov, ↓op_pick, ↓op_bin, ↓op_ixt, ↓op_lens, Res_ret, resL_nil, resL_t, resV_one, nn4_bool, WF_eq, W1_some, WX_some, WG_true, ↓ev_t, ↓ev_c, ↓ev_f, ↓upd_at, ↓get_cons, ↓frm_nil, ↓frm_cons, bin_eql, bin_sne, pick_t, lens_str, eq_self, Bool.not_false, List.map_cons, List.map_nil, Bool.true_and, true_and, Option.map_some, Nat.reduceEqDiff, ↓reduceIte, reduceCtorEq, decide_false, *, bs_eq]))
      congr 1
      rw [decide_eq_decide]; omega
end Go.L.Try

/- TASKS, AS THE PROGRAM CHECKS THEM. -/
set_option linter.unusedVariables false
set_option linter.unusedSimpArgs false
set_option maxRecDepth 100000
set_option maxHeartbeats 2000000
namespace Go.L.Try
open Go Go.L
variable {E : Env}
theorem callW_cap {g : FuncId} {c : FnC} (hf : E g = .text c) (a b : Array Value) (args : List Value) (h : Heap) : callW E (.func (.func g) a b) args h = callW E (.func (.func g) #[] #[]) (a.toList ++ args ++ b.toList) h := by
  rw [callW_func hf, callW_text hf]
theorem within1 (hE : Laid E) (h : Heap) (n : Int) : callW E (.func (.func n_task_Check_f1) #[] #[]) [.int .i64 n] h = some (.bool (decide (0 ≤ n ∧ n ≤ 2147483647)), h, []) := by
  refine fn_same hE.task_Check_f1 rfl (by simp) ?_
  simp only [argsF]
  (repeat' (first | ((with_reducible refine WG_dec (fun _ => ?_) (fun _ => ?_)) <;> try (exfalso; omega)) | ((with_reducible refine WG_decF (fun _ => ?_) (fun _ => ?_)) <;> try (exfalso; omega)) | ((with_reducible refine WC_dec (fun _ => ?_) (fun _ => ?_)) <;> try (exfalso; omega)) | refine WC_bool (fun _ => ?_) (fun _ => ?_) | refine WG_bool (fun _ => ?_) (fun _ => ?_) | refine WG_boolF (fun _ => ?_) (fun _ => ?_) | simp -dsimp (disch := omega) only [↓run_nil, ↓run_i, ↓run_w, ↓co_seq, ↓co_ret, ↓co_reg, ↓op_mov, ↓op_pick, ↓op_bin, Res_ret, resL_nil, resL_t, resV_one, nn4_bool, WF_eq, W1_some, WG_true, WG_ft, ↓ev_t, ↓ev_c, ↓upd_at, ↓get_cons, ↓frm_nil, ↓frm_cons, bin_leq, bin_geq, pick_t, pick_f, eq_self, true_and, Option.map_some, Nat.reduceEqDiff, ↓reduceIte, reduceCtorEq, decide_true, decide_false, *]))
  all_goals first | rfl | (congr 1; first | (rw [decide_eq_decide]; omega) | (symm; rw [decide_eq_true_eq]; omega) | (symm; rw [decide_eq_false_iff_not]; omega))
theorem ranges2 (hE : Laid E) {h : Heap} {t : Task} (hs : t.name.size < 1152921504606846976) {b c : Nat} (hb : h[b]? = some (.cells (encT t) false)) (hc : h[c]? = some (.cells [.func (.func n_task_Check_f1) #[] #[]] false)) :
    callW E (.func (.func n_task_Check_f2) #[] #[.pointer (some ⟨b, 0, none⟩), .pointer (some ⟨c, 0, none⟩)]) [] h = some (.bool (decide (rangesB t)), h, []) := by
  have q := wordS hE h hs
  have w1 := within1 hE h
  unfold encT at hb
  rw [callW_cap hE.task_Check_f2]
  have e : decide (rangesB t) = (wordB t.name && decide (t.name.size ≤ 32 ∧ (1 ≤ t.C ∧ t.C ≤ 2147483647) ∧ (1 ≤ t.T ∧ t.T ≤ 2147483647) ∧ (1 ≤ t.D ∧ t.D ≤ 2147483647) ∧ (1 ≤ t.Q ∧ t.Q ≤ 2147483647) ∧ (0 ≤ t.J ∧ t.J ≤ 2147483647) ∧ 1 ≤ t.P ∧ t.P ≤ 1048576)) := by
    rw [Bool.eq_iff_iff, Bool.and_eq_true, decide_eq_true_iff, decide_eq_true_iff]; exact Iff.rfl
  rw [e]
  clear e
  generalize hX : decide (t.name.size ≤ 32 ∧ (1 ≤ t.C ∧ t.C ≤ 2147483647) ∧ (1 ≤ t.T ∧ t.T ≤ 2147483647) ∧ (1 ≤ t.D ∧ t.D ≤ 2147483647) ∧ (1 ≤ t.Q ∧ t.Q ≤ 2147483647) ∧ (0 ≤ t.J ∧ t.J ≤ 2147483647) ∧ 1 ≤ t.P ∧ t.P ≤ 1048576) = X
  replace hX := Hid.mk hX
  refine fn_same hE.task_Check_f2 rfl (by simp) ?_
  simp only [List.nil_append, List.append_nil, argsF]
  cases hw : wordB t.name
  · rw [hw] at q
    (repeat' (first | ((with_reducible refine WG_dec (fun _ => ?_) (fun _ => ?_)) <;> try (exfalso; omega)) | ((with_reducible refine WG_decF (fun _ => ?_) (fun _ => ?_)) <;> try (exfalso; omega)) | ((with_reducible refine WC_dec (fun _ => ?_) (fun _ => ?_)) <;> try (exfalso; omega)) | refine WC_bool (fun _ => ?_) (fun _ => ?_) | refine WG_bool (fun _ => ?_) (fun _ => ?_) | refine WG_boolF (fun _ => ?_) (fun _ => ?_) | simp -dsimp (disch := omega) only [↓run_nil, ↓run_i, ↓run_w, ↓op_call, ↓co_seq, ↓co_ret, ↓co_reg, ↓op_mov, ↓op_pick, ↓op_fld, ↓op_ld, Res_ret, resL_nil, resL_t, resV_one, nn4_bool, WF_eq, W1_some, WX_some, WG_ft, ↓ev_t, ↓ev_c, ↓ev_f, ↓upd_at, ↓get_cons, ↓frm_nil, ↓frm_cons, pick_f, load_ptr, ldO_cells, part_none, fld_ptr, eq_self, List.map_cons, List.map_nil, true_and, List.getElem?_cons_zero, Option.map_some, Nat.reduceEqDiff, Nat.zero_add, Nat.add_zero, ↓reduceIte, reduceCtorEq, *]))
    rfl
  · rw [hw] at q
    (repeat' (first | ((with_reducible refine WG_dec (fun _ => ?_) (fun _ => ?_)) <;> try (exfalso; omega)) | ((with_reducible refine WG_decF (fun _ => ?_) (fun _ => ?_)) <;> try (exfalso; omega)) | ((with_reducible refine WC_dec (fun _ => ?_) (fun _ => ?_)) <;> try (exfalso; omega)) | refine WC_bool (fun _ => ?_) (fun _ => ?_) | refine WG_bool (fun _ => ?_) (fun _ => ?_) | refine WG_boolF (fun _ => ?_) (fun _ => ?_) | simp -dsimp (disch := omega) only [↓run_nil, ↓run_i, ↓run_w, ↓op_call, ↓co_seq, ↓co_ret, ↓co_reg, ↓op_mov, ↓op_pick, ↓op_bin, ↓op_fld, ↓op_lens, ↓op_min, ↓op_ld, Res_ret, resL_nil, resL_t, resV_one, nn4_bool, WF_eq, W1_some, WX_some, WG_true, WG_ft, ↓ev_t, ↓ev_c, ↓ev_f, ↓upd_at, ↓get_cons, ↓frm_nil, ↓frm_cons, bin_leq, bin_gtr, bin_geq, pick_t, pick_f, load_ptr, ldO_cells, part_none, fld_ptr, lens_str, min_1, min_2, eq_self, List.map_cons, List.map_nil, Bool.true_and, true_and, and_self, List.getElem?_cons_zero, List.getElem?_cons_succ, Option.map_some, Nat.reduceEqDiff, Nat.zero_add, Nat.add_zero, ↓reduceIte, reduceCtorEq, decide_true, decide_false, *]))
    all_goals
      congr 1
      rw [← hX.out]
      first | exact decide_eq_decide.2 (by omega) | exact (decide_eq_false (by omega)).symm | exact (decide_eq_true (by omega)).symm
theorem fits3 (hE : Laid E) {h : Heap} {t : Task} (ht : rangesB t) {b : Nat} (hb : h[b]? = some (.cells (encT t) false)) :
    callW E (.func (.func n_task_Check_f3) #[] #[.pointer (some ⟨b, 0, none⟩)]) [] h = some (.bool (decide (fitsB t)), h, []) := by
  unfold encT at hb
  rw [callW_cap hE.task_Check_f3]
  simp only [rangesB] at ht
  have hC := ht.2.2.1
  have hJ := ht.2.2.2.2.2.2.1
  clear ht
  refine fn_same hE.task_Check_f3 rfl (by simp) ?_
  simp only [List.nil_append, List.append_nil, argsF]
  (repeat' (first | ((with_reducible refine WG_dec (fun _ => ?_) (fun _ => ?_)) <;> try (exfalso; omega)) | ((with_reducible refine WG_decF (fun _ => ?_) (fun _ => ?_)) <;> try (exfalso; omega)) | ((with_reducible refine WC_dec (fun _ => ?_) (fun _ => ?_)) <;> try (exfalso; omega)) | refine WC_bool (fun _ => ?_) (fun _ => ?_) | refine WG_bool (fun _ => ?_) (fun _ => ?_) | refine WG_boolF (fun _ => ?_) (fun _ => ?_) | simp -dsimp (disch := omega) only [↓run_nil, ↓run_i, ↓run_w, ↓co_seq, ↓co_ret, ↓co_reg, ↓op_mov, ↓op_pick, ↓op_bin, ↓op_fld, ↓op_ld, Res_ret, resL_nil, resL_t, resV_one, nn4_bool, WF_eq, W1_some, WG_true, WG_ft, ↓ev_t, ↓ev_c, ↓upd_at, ↓get_cons, ↓frm_nil, ↓frm_cons, bin_add, bin_leq, pick_t, pick_f, load_ptr, ldO_cells, part_none, fld_ptr, wrap_i64, eq_self, true_and, List.getElem?_cons_zero, List.getElem?_cons_succ, Option.map_some, Nat.reduceEqDiff, Nat.zero_add, ↓reduceIte, reduceCtorEq, decide_true, decide_false, *]))
  all_goals
    congr 1
    first | exact decide_eq_decide.2 (by unfold fitsB; omega) | exact (decide_eq_false (by unfold fitsB; omega)).symm | exact (decide_eq_true (by unfold fitsB; omega)).symm
def firstP (b0 b1 : Bool) (e0 e1 : Int) : Int := if b0 then if b1 then 0 else e1 else e0
theorem firstS (hE : Laid E) {h : Heap} {f0 f1 : Value} {b0 b1 : Bool} {e0 e1 : Int} (h0 : cellsV f0 = [f0]) (h1 : cellsV f1 = [f1]) (o0 : oneCell f0 = true) (o1 : oneCell f1 = true) (q0 : ∀ x, callW E f0 [] (h ++ x) = some (.bool b0, h ++ x, [])) (q1 : b0 = true → ∀ x, callW E f1 [] (h ++ x) = some (.bool b1, h ++ x, [])) :
    callW E (.func (.func n_task_first) #[] #[]) [.agg #[f0, .int .i64 e0, f1, .int .i64 e1]] h = some (.int .i64 (firstP b0 b1 e0 e1), h, []) := by
  refine fn_same hE.task_first rfl (by simp) ?_
  simp only [argsF]
  (repeat' (first | ((with_reducible refine WG_dec (fun _ => ?_) (fun _ => ?_)) <;> try (exfalso; omega)) | ((with_reducible refine WG_decF (fun _ => ?_) (fun _ => ?_)) <;> try (exfalso; omega)) | ((with_reducible refine WC_dec (fun _ => ?_) (fun _ => ?_)) <;> try (exfalso; omega)) | refine WC_bool (fun _ => ?_) (fun _ => ?_) | refine WG_bool (fun _ => ?_) (fun _ => ?_) | refine WG_boolF (fun _ => ?_) (fun _ => ?_) | simp -dsimp (disch := omega) only [↓run_nil, ↓run_i, ↓co_seq, ↓co_skip, ↓co_reg, ↓co_block, ↓co_loop, ↓op_mov, ↓op_ld, ↓op_box, WF_eq, W1_some, ↓ev_t, ↓ev_c, ↓upd_at, ↓get_cons, ↓frm_nil, ↓frm_cons, cellsV_agg, one_int, load_ptr, ldO_cells, part_some, geta0, newCells, eq_self, List.length_cons, List.length_nil, List.all_cons, List.all_nil, Bool.and_self, List.getElem?_cons_zero, List.drop_zero, List.take_succ_cons, List.take_zero, Nat.reduceEqDiff, Nat.reduceAdd, Nat.zero_add, ↓reduceIte, Nat.le_refl, *]))
  replace q1 := Hid.mk q1
  have hst : firstP b0 b1 e0 e1 = if b0 then if b1 then 0 else e1 else e0 := rfl
  replace hst := Hid.mk hst
  refine WO.loop (fun (n : Nat) fr h' => (∃ x, h' = h ++ x) ∧ n ≤ 2 ∧ (1 ≤ n → b0 = true) ∧ (2 ≤ n → b1 = true) ∧ get fr 3 = .int .i64 0 ∧ get fr 6 = .agg #[f0, .int .i64 e0, f1, .int .i64 e1] ∧ get fr 7 = .int .i64 n) (fun n => 2 - n) ?_ 0 ⟨⟨_, rfl⟩, by omega, fun h => by omega, fun h => by omega, rfl, rfl, rfl⟩
  rintro n fr h' ⟨⟨x, rfl⟩, hn, c1, c2, g3, g6, g7⟩
  unfold c_task_first_l0
  have ix0 : ixvV 2 2 (some 2) (.agg #[f0, .int .i64 e0, f1, .int .i64 e1]) (.int .i64 0) = some (.agg #[f0, .int .i64 e0]) := rfl
  have ix1 : ixvV 2 2 (some 2) (.agg #[f0, .int .i64 e0, f1, .int .i64 e1]) (.int .i64 1) = some (.agg #[f1, .int .i64 e1]) := rfl
  rcases n with _ | _ | n
  · replace g7 : get fr 7 = .int .i64 0 := g7
    clear c1 c2
    cases b0
    · (repeat' (first | ((with_reducible refine WG_dec (fun _ => ?_) (fun _ => ?_)) <;> try (exfalso; omega)) | ((with_reducible refine WG_decF (fun _ => ?_) (fun _ => ?_)) <;> try (exfalso; omega)) | ((with_reducible refine WC_dec (fun _ => ?_) (fun _ => ?_)) <;> try (exfalso; omega)) | refine WC_bool (fun _ => ?_) (fun _ => ?_) | refine WG_bool (fun _ => ?_) (fun _ => ?_) | refine WG_boolF (fun _ => ?_) (fun _ => ?_) | simp -dsimp (disch := omega) only [↓run_nil, ↓run_i, ↓run_k, ↓op_st, ↓op_call, ↓co_seq, ↓co_skip, ↓co_exit, ↓co_ret, ↓co_reg, ↓co_cond, ↓co_block, ↓op_mov, ↓op_bin, ↓op_un, ↓op_fld, ↓op_ixv, ↓op_ld, ↓op_all, Res_ret, resL_nil, resL_t, resV_one, nn4_int, WF_eq, W1_some, WX_some, WH_some1, WC_true, ↓ev_t, ↓ev_c, ↓upd_at, ↓get_cons, ↓frm_nil, ↓frm_cons, bin_lss, un_not, cellsV_agg, one_int, one_nilf, setCells_nil, setCells_cons, load_ptr, ldO_cells, part_none, store_ptr, stO_cells, fld_ptr, geta, geta0, seta, seta0, newCells, eq_self, Bool.not_false, List.map_nil, List.length_append, List.length_cons, List.length_nil, List.all_cons, List.all_nil, Bool.and_self, true_and, and_self, List.getElem?_cons_zero, List.getElem?_cons_succ, List.set_cons_zero, List.set_cons_succ, List.append_assoc, Option.map_some, Nat.reduceEqDiff, Nat.reduceAdd, Nat.zero_add, Nat.add_zero, ↓reduceIte, reduceCtorEq, Nat.le_refl, Nat.le_add_right, *]))
      rw [hst.out]; rfl
    · (repeat' (first | ((with_reducible refine WG_dec (fun _ => ?_) (fun _ => ?_)) <;> try (exfalso; omega)) | ((with_reducible refine WG_decF (fun _ => ?_) (fun _ => ?_)) <;> try (exfalso; omega)) | ((with_reducible refine WC_dec (fun _ => ?_) (fun _ => ?_)) <;> try (exfalso; omega)) | refine WC_bool (fun _ => ?_) (fun _ => ?_) | refine WG_bool (fun _ => ?_) (fun _ => ?_) | refine WG_boolF (fun _ => ?_) (fun _ => ?_) | simp -dsimp (disch := omega) only [↓run_nil, ↓run_i, ↓run_k, ↓op_st, ↓op_call, ↓co_seq, ↓co_skip, ↓co_reg, ↓co_cond, ↓co_block, ↓op_mov, ↓op_bin, ↓op_un, ↓op_fld, ↓op_ixv, ↓op_ld, ↓op_all, WF_eq, W1_some, WX_some, WH_some1, WC_false, ↓ev_t, ↓ev_c, ↓upd_at, ↓get_cons, ↓frm_nil, ↓frm_cons, bin_add, bin_lss, un_not, cellsV_agg, one_int, one_nilf, setCells_nil, setCells_cons, load_ptr, ldO_cells, part_none, store_ptr, stO_cells, fld_ptr, geta, geta0, seta, seta0, newCells, wrap_i64, eq_self, Bool.not_true, List.map_nil, List.length_append, List.length_cons, List.length_nil, List.all_cons, List.all_nil, Bool.and_self, true_and, and_self, List.getElem?_cons_zero, List.set_cons_zero, List.set_cons_succ, List.append_assoc, Nat.reduceEqDiff, Nat.reduceAdd, Nat.zero_add, Nat.add_zero, ↓reduceIte, Nat.le_refl, Nat.le_add_right, *]))
      exact Next.mk 1 ⟨⟨_, rfl⟩, by omega, fun _ => rfl, fun h => by omega, rfl, rfl, rfl⟩ (by omega)
  · replace g7 : get fr 7 = .int .i64 1 := g7
    have hb := c1 (by omega)
    subst hb
    clear c1 c2
    have q2 := q1.out rfl
    cases b1
    · (repeat' (first | ((with_reducible refine WG_dec (fun _ => ?_) (fun _ => ?_)) <;> try (exfalso; omega)) | ((with_reducible refine WG_decF (fun _ => ?_) (fun _ => ?_)) <;> try (exfalso; omega)) | ((with_reducible refine WC_dec (fun _ => ?_) (fun _ => ?_)) <;> try (exfalso; omega)) | refine WC_bool (fun _ => ?_) (fun _ => ?_) | refine WG_bool (fun _ => ?_) (fun _ => ?_) | refine WG_boolF (fun _ => ?_) (fun _ => ?_) | simp -dsimp (disch := omega) only [↓run_nil, ↓run_i, ↓run_k, ↓op_st, ↓op_call, ↓co_seq, ↓co_skip, ↓co_exit, ↓co_ret, ↓co_reg, ↓co_cond, ↓co_block, ↓op_mov, ↓op_bin, ↓op_un, ↓op_fld, ↓op_ixv, ↓op_ld, ↓op_all, Res_ret, resL_nil, resL_t, resV_one, nn4_int, WF_eq, W1_some, WX_some, WH_some1, WC_true, ↓ev_t, ↓ev_c, ↓upd_at, ↓get_cons, ↓frm_nil, ↓frm_cons, bin_lss, un_not, cellsV_agg, one_int, one_nilf, setCells_nil, setCells_cons, load_ptr, ldO_cells, part_none, store_ptr, stO_cells, fld_ptr, geta, geta0, seta, seta0, newCells, eq_self, Bool.not_false, List.map_nil, List.length_append, List.length_cons, List.length_nil, List.all_cons, List.all_nil, Bool.and_self, true_and, and_self, List.getElem?_cons_zero, List.getElem?_cons_succ, List.set_cons_zero, List.set_cons_succ, List.append_assoc, Option.map_some, Nat.reduceEqDiff, Nat.reduceAdd, Nat.zero_add, Nat.add_zero, ↓reduceIte, reduceCtorEq, Nat.le_refl, Nat.le_add_right, *]))
      rw [hst.out]; rfl
    · (repeat' (first | ((with_reducible refine WG_dec (fun _ => ?_) (fun _ => ?_)) <;> try (exfalso; omega)) | ((with_reducible refine WG_decF (fun _ => ?_) (fun _ => ?_)) <;> try (exfalso; omega)) | ((with_reducible refine WC_dec (fun _ => ?_) (fun _ => ?_)) <;> try (exfalso; omega)) | refine WC_bool (fun _ => ?_) (fun _ => ?_) | refine WG_bool (fun _ => ?_) (fun _ => ?_) | refine WG_boolF (fun _ => ?_) (fun _ => ?_) | simp -dsimp (disch := omega) only [↓run_nil, ↓run_i, ↓run_k, ↓op_st, ↓op_call, ↓co_seq, ↓co_skip, ↓co_reg, ↓co_cond, ↓co_block, ↓op_mov, ↓op_bin, ↓op_un, ↓op_fld, ↓op_ixv, ↓op_ld, ↓op_all, WF_eq, W1_some, WX_some, WH_some1, WC_false, ↓ev_t, ↓ev_c, ↓upd_at, ↓get_cons, ↓frm_nil, ↓frm_cons, bin_add, bin_lss, un_not, cellsV_agg, one_int, one_nilf, setCells_nil, setCells_cons, load_ptr, ldO_cells, part_none, store_ptr, stO_cells, fld_ptr, geta, geta0, seta, seta0, newCells, wrap_i64, eq_self, Bool.not_true, List.map_nil, List.length_append, List.length_cons, List.length_nil, List.all_cons, List.all_nil, Bool.and_self, true_and, and_self, List.getElem?_cons_zero, List.set_cons_zero, List.set_cons_succ, List.append_assoc, Nat.reduceEqDiff, Nat.reduceAdd, Nat.zero_add, Nat.add_zero, ↓reduceIte, Nat.le_refl, Nat.le_add_right, *]))
      exact Next.mk 2 ⟨⟨_, rfl⟩, by omega, fun _ => rfl, fun _ => rfl, rfl, rfl, rfl⟩ (by omega)
  · have hb := c1 (by omega)
    have hb2 := c2 (by omega)
    obtain rfl : n = 0 := by omega
    subst hb hb2
    clear c1 c2
    (repeat' (first | ((with_reducible refine WG_dec (fun _ => ?_) (fun _ => ?_)) <;> try (exfalso; omega)) | ((with_reducible refine WG_decF (fun _ => ?_) (fun _ => ?_)) <;> try (exfalso; omega)) | ((with_reducible refine WC_dec (fun _ => ?_) (fun _ => ?_)) <;> try (exfalso; omega)) | refine WC_bool (fun _ => ?_) (fun _ => ?_) | refine WG_bool (fun _ => ?_) (fun _ => ?_) | refine WG_boolF (fun _ => ?_) (fun _ => ?_) | simp -dsimp (disch := omega) only [↓run_nil, ↓run_i, ↓co_seq, ↓co_exit, ↓co_ret, ↓co_reg, ↓co_cond, ↓op_mov, ↓op_bin, Res_ret, resL_nil, resL_t, resV_one, nn4_int, WF_eq, W1_some, ↓ev_t, ↓ev_c, ↓upd_at, ↓get_cons, ↓frm_nil, ↓frm_cons, bin_lss, eq_self, true_and, Option.map_some, Nat.reduceEqDiff, Nat.reduceAdd, Nat.zero_add, ↓reduceIte, *]))
    rw [hst.out]; rfl
theorem checkS (hE : Laid E) (h : Heap) (t : Task) (hs : t.name.size < 1152921504606846976) :
    callW E (.func (.func n_task_Check) #[] #[]) [.agg (encT t).toArray] h = some (.int .i64 (checkP t), h, []) := by
  have hg := fun H f0 f1 b0 b1 e0 e1 => @firstS E hE H f0 f1 b0 b1 e0 e1
  have e : checkP t = firstP (decide (rangesB t)) (decide (fitsB t)) 11 12 := by
    unfold checkP firstP
    by_cases h1 : rangesB t <;> by_cases h2 : fitsB t <;> simp [h1, h2]
  rw [e]
  clear e
  refine fn_same hE.task_Check rfl (by simp) ?_
  simp only [argsF]
  unfold encT
  have Hg := Hid.mk hg
  clear hg
  (repeat' (first | ((with_reducible refine WG_dec (fun _ => ?_) (fun _ => ?_)) <;> try (exfalso; omega)) | ((with_reducible refine WG_decF (fun _ => ?_) (fun _ => ?_)) <;> try (exfalso; omega)) | ((with_reducible refine WC_dec (fun _ => ?_) (fun _ => ?_)) <;> try (exfalso; omega)) | refine WC_bool (fun _ => ?_) (fun _ => ?_) | refine WG_bool (fun _ => ?_) (fun _ => ?_) | refine WG_boolF (fun _ => ?_) (fun _ => ?_) | simp -dsimp (disch := omega) only [↓run_nil, ↓run_i, ↓run_k, ↓op_st, ↓op_call, ↓co_seq, ↓co_reg, ↓op_mov, ↓op_bld, ↓op_mkf, ↓op_all, ↓op_box, WF_eq, W1_some, WH_some1, ↓ev_t, ↓ev_c, ↓ev_f, ↓upd_at, ↓get_cons, ↓frm_nil, ↓frm_cons, cellsV_int, cellsV_func, cellsV_agg, one_int, one_str, one_func, one_nilf, fillV_nil, fillV_cons, setCells_nil, setCells_cons, store_ptr, stO_cells, geta, seta, newCells, eq_self, List.map_cons, List.map_nil, List.length_append, List.length_cons, List.length_nil, List.all_cons, List.all_nil, Bool.and_self, true_and, and_self, List.getElem?_cons_zero, List.getElem?_cons_succ, List.set_cons_zero, List.set_cons_succ, List.append_assoc, List.cons_append, List.nil_append, Option.map_some, Nat.reduceEqDiff, Nat.reduceAdd, Nat.reduceLeDiff, Nat.zero_add, ↓reduceIte, Nat.le_refl, Nat.le_add_right, *]))
  have eH : (h ++ [LObj.cells [.string t.name, .int .i64 t.C, .int .i64 t.T, .int .i64 t.D, .int .i64 t.J, .int .i64 t.Q, .int .i64 t.P] false, LObj.cells [.func (.func n_task_Check_f1) #[] #[]] false]) = h ++ [LObj.cells (encT t) false, LObj.cells [.func (.func n_task_Check_f1) #[] #[]] false] := rfl
  have hb : ∀ x, ((h ++ [LObj.cells (encT t) false, LObj.cells [.func (.func n_task_Check_f1) #[] #[]] false]) ++ x)[h.length]? = some (.cells (encT t) false) := fun x => by rw [List.append_assoc, geta0]; rfl
  have hc : ∀ x, ((h ++ [LObj.cells (encT t) false, LObj.cells [.func (.func n_task_Check_f1) #[] #[]] false]) ++ x)[h.length + 1]? = some (.cells [.func (.func n_task_Check_f1) #[] #[]] false) := fun x => by rw [List.append_assoc, geta]; rfl
  have hf := Hg.out (h ++ [LObj.cells (encT t) false, LObj.cells [.func (.func n_task_Check_f1) #[] #[]] false]) _ _ _ _ 11 12 rfl rfl rfl rfl (fun x => ranges2 hE hs (hb x) (hc x)) (fun hr x => fits3 hE (of_decide_eq_true hr) (hb x))
  rw [eH]
  clear eH hb hc
  (repeat' (first | ((with_reducible refine WG_dec (fun _ => ?_) (fun _ => ?_)) <;> try (exfalso; omega)) | ((with_reducible refine WG_decF (fun _ => ?_) (fun _ => ?_)) <;> try (exfalso; omega)) | ((with_reducible refine WC_dec (fun _ => ?_) (fun _ => ?_)) <;> try (exfalso; omega)) | refine WC_bool (fun _ => ?_) (fun _ => ?_) | refine WG_bool (fun _ => ?_) (fun _ => ?_) | refine WG_boolF (fun _ => ?_) (fun _ => ?_) | simp -dsimp (disch := omega) only [↓run_nil, ↓run_i, ↓co_ret, ↓op_mov, Res_ret, resL_nil, resL_t, resV_one, nn4_int, WF_eq, W1_some, WX_some, ↓ev_t, ↓upd_at, ↓get_cons, ↓frm_nil, ↓frm_cons, eq_self, true_and, Option.map_some, ↓reduceIte, *]))
end Go.L.Try

/- SETS OF TASKS, AS THE PROGRAM CHECKS THEM. -/
set_option linter.unusedVariables false
set_option linter.unusedSimpArgs false
set_option maxRecDepth 100000
set_option maxHeartbeats 2000000
namespace Go.L.Try
open Go Go.L
variable {E : Env}
theorem ba_beq (s t : ByteArray) : (s == t) = decide (s = t) := by
  cases s with | mk x =>
  cases t with | mk y =>
  have e : ((⟨x⟩ : ByteArray) == ⟨y⟩) = (x == y) := rfl
  rw [e]; by_cases h : x = y <;> simp [h]
def SKeys (es : List (Value × Value)) : Prop := ∀ e ∈ es, ∃ s, e.1 = .string s
def mapS : List (Value × Value) → ByteArray → Option Value
  | [], _ => none
  | (.string a, v) :: r, s => if s = a then some v else mapS r s
  | _ :: r, s => mapS r s
theorem find_str : ∀ {es : List (Value × Value)}, SKeys es → ∀ s, find .str (.string s) es = some (mapS es s)
  | [], _, _ => rfl
  | (x, v) :: r, hk, s => by
    obtain ⟨a, rfl⟩ := hk (x, v) (by simp)
    have ih := find_str (es := r) (fun e he => hk e (by simp [he])) s
    simp only [find, sameKey, sameS, Option.bind_some, mapS]
    by_cases h : s = a
    · simp [h, ba_beq]
    · have : (s == a) = false := by rw [ba_beq]; exact decide_eq_false h
      simp [h, this, ih]
theorem put_str (v : Value) : ∀ {es : List (Value × Value)}, SKeys es → ∀ s, ∃ es', putE .str (.string s) v es = some es' ∧ SKeys es' ∧ ∀ j, mapS es' j = if j = s then some v else mapS es j
  | [], _, s => ⟨_, rfl, fun e he => by rw [List.mem_singleton.1 he]; exact ⟨s, rfl⟩, fun j => rfl⟩
  | (x, u) :: r, hk, s => by
    obtain ⟨a, rfl⟩ := hk (x, u) (by simp)
    obtain ⟨es', h1, h2, h3⟩ := put_str v (es := r) (fun e he => hk e (by simp [he])) s
    by_cases h : s = a
    · subst h
      refine ⟨(.string s, v) :: r, by simp [putE, sameKey, sameS, ba_beq], fun e he => ?_, fun j => ?_⟩
      · rcases List.mem_cons.1 he with rfl | he
        · exact ⟨s, rfl⟩
        · exact hk e (by simp [he])
      · simp only [mapS]; split <;> rfl
    · have hb : (s == a) = false := by rw [ba_beq]; exact decide_eq_false h
      refine ⟨(.string a, u) :: es', by simp [putE, sameKey, sameS, hb, h1], fun e he => ?_, fun j => ?_⟩
      · rcases List.mem_cons.1 he with rfl | he
        · exact ⟨a, rfl⟩
        · exact h2 e he
      · simp only [mapS, h3]
        by_cases hj : j = a
        · subst hj; rw [if_pos rfl, if_pos rfl, if_neg (fun e => h e.symm)]
        · rw [if_neg hj, if_neg hj]
theorem key_str {s : ByteArray} : keyV .str (.string s) = true := by simp [keyV, sameKey, sameS, ba_beq]
theorem lk_str {es : List (Value × Value)} (hk : SKeys es) (z : Value) (s : ByteArray) : lkO .str z (.string s) false (some (.map es)) = some ((mapS es s).getD z) := by
  simp only [lkO, key_str, if_true, find_str hk, Option.map_some]
  cases mapS es s <;> rfl
theorem mp_str {s : ByteArray} {v : Value} {es es' : List (Value × Value)} (h1 : putE .str (.string s) v es = some es') (h : Heap) (r : Nat) : mpO .str (.string s) v h r (some (.map es)) = some (undef, h.set r (.map es'), [r]) := by
  simp only [mpO, key_str, if_true, h1, Option.map_some]
def cntN (l : List Task) : Nat → ByteArray → Int
  | 0, _ => 0
  | n + 1, s => cntN l n s + if (atI l (n : Int)).name = s then 1 else 0
def cntP (l : List Task) : Nat → Int → Int
  | 0, _ => 0
  | n + 1, p => cntP l n p + if (atI l (n : Int)).P = p then 1 else 0
theorem cntN_in (l : List Task) (s : ByteArray) : ∀ n : Nat, 0 ≤ cntN l n s ∧ cntN l n s ≤ n
  | 0 => by simp [cntN]
  | n + 1 => by have := cntN_in l s n; unfold cntN; split <;> omega
theorem cntP_in (l : List Task) (p : Int) : ∀ n : Nat, 0 ≤ cntP l n p ∧ cntP l n p ≤ n
  | 0 => by simp [cntP]
  | n + 1 => by have := cntP_in l p n; unfold cntP; split <;> omega
theorem bs_iff {s t : ByteArray} : bs s = bs t ↔ s = t := ⟨bs_inj, fun h => by rw [h]⟩
theorem clash_cnt (l : List Task) (i : Int) : ∀ k : Nat, clash l i k = decide (1 ≤ cntN l k (atI l i).name ∨ 1 ≤ cntP l k (atI l i).P)
  | 0 => by simp [clash, cntN, cntP]
  | k + 1 => by
    have h1 := cntN_in l (atI l i).name k
    have h2 := cntP_in l (atI l i).P k
    unfold clash cntN cntP
    rw [clash_cnt l i k, Bool.eq_iff_iff, Bool.or_eq_true, decide_eq_true_iff, decide_eq_true_iff, decide_eq_true_iff, bs_iff]
    generalize cntN l k (atI l i).name = x at *
    generalize cntP l k (atI l i).P = y at *
    by_cases a : (atI l (k : Int)).name = (atI l i).name <;> by_cases b : (atI l (k : Int)).P = (atI l i).P
    · rw [if_pos a, if_pos b]; exact ⟨fun _ => .inl (by omega), fun _ => .inr (.inl a)⟩
    · rw [if_pos a, if_neg b]; exact ⟨fun _ => .inl (by omega), fun _ => .inr (.inl a)⟩
    · rw [if_neg a, if_pos b]; exact ⟨fun _ => .inr (by omega), fun _ => .inr (.inr b)⟩
    · rw [if_neg a, if_neg b, Int.add_zero, Int.add_zero]; exact ⟨fun h => h.elim id fun h => (h.elim a b).elim, fun h => .inl h⟩
theorem checkAllS (hE : Laid E) {h : Heap} {vl : Value} {l : List Task} (hl : Rd 7 encT h vl l) (hs : ∀ t ∈ l, t.name.size < 1152921504606846976) :
    callW E (.func (.func n_task_CheckAll) #[] #[]) [vl] h = some (.tuple #[.int .i64 (checkAllP l).1, .int .i64 (checkAllP l).2], h, []) := by
  refine fn_same hE.task_CheckAll rfl (by simp) ?_
  have few := hl.few
  have hnn := noNew
  simp only [argsF]
  unfold checkAllP
  by_cases hc : l.length = 0 ∨ 1024 < l.length
  · rw [if_pos hc]
    (repeat' (first | ((with_reducible refine WG_dec (fun _ => ?_) (fun _ => ?_)) <;> try (exfalso; omega)) | ((with_reducible refine WG_decF (fun _ => ?_) (fun _ => ?_)) <;> try (exfalso; omega)) | ((with_reducible refine WC_dec (fun _ => ?_) (fun _ => ?_)) <;> try (exfalso; omega)) | refine WC_bool (fun _ => ?_) (fun _ => ?_) | refine WG_bool (fun _ => ?_) (fun _ => ?_) | refine WG_boolF (fun _ => ?_) (fun _ => ?_) | simp -dsimp (disch := omega) only [↓run_nil, ↓run_i, ↓run_w, ↓co_seq, ↓co_ret, ↓co_reg, ↓co_cond, ↓op_mov, ↓op_pick, ↓op_bin, ↓op_lens, Res_ret, resL_nil, resL_t, resV_two, nn4_tuple, nn3_int, WF_eq, W1_some, WC_true, WG_false, WG_tf, ↓ev_t, ↓ev_c, ↓upd_at, ↓get_cons, ↓frm_nil, ↓frm_cons, bin_eql, bin_gtr, pick_t, pick_f, eq_self, List.all_cons, List.all_nil, Bool.and_self, true_and, Option.map_some, Nat.reduceEqDiff, ↓reduceIte, reduceCtorEq, decide_true, decide_false, *, hl.len]))
  · rw [if_neg hc]
    have hlen : 1 ≤ l.length ∧ l.length ≤ 1024 := by omega
    clear hc hnn
    have Hfin := Hid.mk (rfl : checkFrom l l.length 0 = checkFrom l l.length 0)
    (repeat' (first | ((with_reducible refine WG_dec (fun _ => ?_) (fun _ => ?_)) <;> try (exfalso; omega)) | ((with_reducible refine WG_decF (fun _ => ?_) (fun _ => ?_)) <;> try (exfalso; omega)) | ((with_reducible refine WC_dec (fun _ => ?_) (fun _ => ?_)) <;> try (exfalso; omega)) | refine WC_bool (fun _ => ?_) (fun _ => ?_) | refine WG_bool (fun _ => ?_) (fun _ => ?_) | refine WG_boolF (fun _ => ?_) (fun _ => ?_) | simp -dsimp (disch := omega) only [↓run_nil, ↓run_i, ↓run_w, ↓co_seq, ↓co_skip, ↓co_reg, ↓co_cond, ↓co_block, ↓co_loop, ↓op_mov, ↓op_pick, ↓op_bin, ↓op_lens, ↓op_mkm, WF_eq, W1_some, WG_false, ↓ev_t, ↓ev_c, ↓upd_at, ↓get_cons, ↓frm_nil, ↓frm_cons, bin_eql, bin_gtr, pick_f, eq_self, List.length_append, List.length_cons, List.length_nil, List.append_assoc, List.cons_append, List.nil_append, Nat.reduceEqDiff, Nat.zero_add, ↓reduceIte, reduceCtorEq, decide_false, *, hl.len]))
    refine WO.loop (fun (n : Nat) fr h' => n ≤ l.length ∧ checkFrom l l.length 0 = checkFrom l (l.length - n) n ∧ Pre h h' ∧ get fr 0 = vl ∧ get fr 4 = .map (some h.length) ∧ get fr 5 = .map (some (h.length + 1)) ∧ get fr 19 = vl ∧ get fr 20 = .int .i64 l.length ∧ get fr 21 = .int .i64 n ∧ ∃ e1 e2, h'[h.length]? = some (.map e1) ∧ h'[h.length + 1]? = some (.map e2) ∧ SKeys e1 ∧ IKeys .i64 e2 ∧ (∀ s, (mapS e1 s).getD (.int .i64 0) = .int .i64 (cntN l n s)) ∧ ∀ p, (mapI .i64 e2 p).getD (.int .i64 0) = .int .i64 (cntP l n p)) (fun n => l.length - n) ?_ 0 ⟨Nat.zero_le _, rfl, Pre.app h _, rfl, rfl, rfl, rfl, rfl, rfl, [], [], by rw [geta0]; rfl, by rw [geta]; rfl, (fun e he => nomatch he), (fun e he => nomatch he), fun s => rfl, fun p => rfl⟩
    rintro n fr h' ⟨hn, hcf, hp, g0, g4, g5, g19, g20, g21, e1, e2, m1, m2, k1, k2, c1, c2⟩
    have Hcf := Hid.mk hcf
    clear hcf
    unfold c_task_CheckAll_l0
    rcases Nat.lt_or_ge n l.length with hlt | hge
    · have hl' := hl.pre hp
      have hm := atI_mem (l := l) (i := (n : Int)) (by omega) (by omega)
      have q := fun x => checkS hE (h' ++ x) (atI l (n : Int)) (hs _ hm)
      simp only [encT] at q
      have hstep : checkFrom l (l.length - n) n = if checkP (atI l (n : Int)) ≠ 0 then ((n : Int), checkP (atI l (n : Int))) else if clash l (n : Int) n then ((n : Int), 13) else checkFrom l (l.length - (n + 1)) ((n : Int) + 1) := by
        obtain ⟨k, hk⟩ : ∃ k, l.length - n = k + 1 := ⟨l.length - n - 1, by omega⟩
        rw [hk, show l.length - (n + 1) = k by omega]; rfl
      rw [clash_cnt] at hstep
      have Hst := Hid.mk hstep
      clear hstep
      have cn := cntN_in l (atI l (n : Int)).name n
      have cp := cntP_in l (atI l (n : Int)).P n
      have L1 := fun z => lk_str k1 z (atI l (n : Int)).name
      have hml := hp.le
      have hml1 := (List.getElem?_eq_some_iff.1 m1).1
      have hml2 := (List.getElem?_eq_some_iff.1 m2).1
      obtain ⟨e1', p1, p2, p3⟩ := put_str (.int .i64 (cntN l n (atI l (n : Int)).name + 1)) k1 (atI l (n : Int)).name
      obtain ⟨e2', r1, r2, r3⟩ := put_int (.int .i64 (cntP l n (atI l (n : Int)).P + 1)) k2 (atI l (n : Int)).P
      have C1 := c1 (atI l (n : Int)).name
      have C2 := c2 (atI l (n : Int)).P
      have Hc1 := Hid.mk c1
      have Hc2 := Hid.mk c2
      have P3 := Hid.mk p3
      have R3 := Hid.mk r3
      have D1 : (mapS e1' (atI l (n : Int)).name).getD (.int .i64 0) = .int .i64 (cntN l n (atI l (n : Int)).name + 1) := by rw [p3, if_pos rfl]; rfl
      have D2 : (mapI .i64 e2' (atI l (n : Int)).P).getD (.int .i64 0) = .int .i64 (cntP l n (atI l (n : Int)).P + 1) := by rw [r3, if_pos rfl]; rfl
      have M1 := mp_str p1
      have M2 := mp_int r1
      have L2 := lk_int k2
      have L3 := lk_str p2
      have L4 := lk_int r2
      clear c1 c2 p3 r3 p1 r1 hm hs L1
      have L1 := lk_str k1
      have m1x : ∀ x, (h' ++ x)[h.length]? = some (.map e1) := fun x => by rw [List.getElem?_append_left hml1]; exact m1
      have m2x : ∀ x, (h' ++ x)[h.length + 1]? = some (.map e2) := fun x => by rw [List.getElem?_append_left hml2]; exact m2
      clear m1 m2
      have G1 : ∀ x o, (List.set (h' ++ x) h.length o)[h.length]? = some o := fun x o => gset (by simp; omega)
      have G2 : ∀ x o o2, (List.set (List.set (h' ++ x) h.length o) (h.length + 1) o2)[h.length + 1]? = some o2 := fun x o o2 => gset (by simp; omega)
      (repeat' (first | ((with_reducible refine WG_dec (fun _ => ?_) (fun _ => ?_)) <;> try (exfalso; omega)) | ((with_reducible refine WG_decF (fun _ => ?_) (fun _ => ?_)) <;> try (exfalso; omega)) | ((with_reducible refine WC_dec (fun _ => ?_) (fun _ => ?_)) <;> try (exfalso; omega)) | refine WC_bool (fun _ => ?_) (fun _ => ?_) | refine WG_bool (fun _ => ?_) (fun _ => ?_) | refine WG_boolF (fun _ => ?_) (fun _ => ?_) | simp -dsimp (disch := omega) only [↓run_nil, ↓run_i, ↓run_k, ↓run_w, ↓op_st, ↓op_call, ↓co_seq, ↓co_skip, ↓co_ret, ↓co_reg, ↓co_cond, ↓co_block, ↓op_mov, ↓op_pick, ↓op_bin, ↓op_fld, ↓op_ixs, ↓op_ld, ↓op_look, ↓op_all, ↓op_mup, Res_ret, resL_nil, resL_t, resV_two, nn4_tuple, nn3_int, WF_eq, W1_some, WX_some, WX_some1, WH_some1, WC_true, WG_false, WG_tf, ↓ev_t, ↓ev_c, ↓ev_f, ↓upd_at, ↓get_cons, ↓frm_nil, ↓frm_cons, bin_add, bin_neq, bin_lss, bin_gtr, pick_t, pick_f, cellsV_agg, one_int, one_str, setCells_nil, setCells_cons, load_ptr, ldO_cells, part_none, part_some, store_ptr, stO_cells, fld_ptr, geta0, seta0, newCells, wrap_i64, eq_self, look_map, mup_map, gets, List.map_cons, List.map_nil, List.length_cons, List.length_nil, List.all_cons, List.all_nil, Bool.and_self, true_and, and_self, List.getElem?_cons_zero, List.getElem?_cons_succ, List.set_cons_zero, List.set_cons_succ, List.drop_zero, List.take_succ_cons, List.take_zero, Option.map_some, Nat.reduceEqDiff, Nat.reduceAdd, Nat.zero_add, Nat.add_zero, ↓reduceIte, reduceCtorEq, decide_true, decide_false, Nat.le_refl, Nat.le_add_right, *, hl'.ixs, hl'.lda, encT]))
      · rw [Hcf.out, Hst.out, if_pos (by assumption)]
      · rw [Hcf.out, Hst.out, if_neg (by omega), if_pos (decide_eq_true (by omega))]
      · rw [Hcf.out, Hst.out, if_neg (by omega), if_pos (decide_eq_true (by omega))]
      · refine Next.mk (n + 1) ⟨by omega, ?_, ((hp.app' _).set (Nat.le_refl _) _).set (by omega) _, rfl, rfl, rfl, rfl, rfl, rfl, e1', e2', ?_, G2 _ _ _, p2, r2, ?_, ?_⟩ (by omega)
        · rw [Hcf.out, Hst.out, if_neg (by omega), if_neg (by rw [decide_eq_true_eq]; omega)]; rfl
        · rw [gets (by omega)]; exact G1 _ _
        · intro s
          rw [P3.out]
          by_cases hj : s = (atI l (n : Int)).name
          · subst hj
            rw [if_pos rfl]
            show Value.int .i64 _ = Value.int .i64 (cntN l n _ + if _ then 1 else 0)
            rw [if_pos rfl]
          · rw [if_neg hj, Hc1.out]
            show Value.int .i64 _ = Value.int .i64 (cntN l n _ + if _ then 1 else 0)
            rw [if_neg (fun e => hj e.symm), Int.add_zero]
        · intro p
          rw [R3.out]
          by_cases hj : p = (atI l (n : Int)).P
          · subst hj
            rw [if_pos rfl]
            show Value.int .i64 _ = Value.int .i64 (cntP l n _ + if _ then 1 else 0)
            rw [if_pos rfl]
          · rw [if_neg hj, Hc2.out]
            show Value.int .i64 _ = Value.int .i64 (cntP l n _ + if _ then 1 else 0)
            rw [if_neg (fun e => hj e.symm), Int.add_zero]
    · have e : n = l.length := by omega
      subst e
      have e0 : checkFrom l (l.length - l.length) l.length = ((l.length : Int), 0) := by rw [Nat.sub_self]; rfl
      have E0 := Hid.mk e0
      clear e0
      (repeat' (first | ((with_reducible refine WG_dec (fun _ => ?_) (fun _ => ?_)) <;> try (exfalso; omega)) | ((with_reducible refine WG_decF (fun _ => ?_) (fun _ => ?_)) <;> try (exfalso; omega)) | ((with_reducible refine WC_dec (fun _ => ?_) (fun _ => ?_)) <;> try (exfalso; omega)) | refine WC_bool (fun _ => ?_) (fun _ => ?_) | refine WG_bool (fun _ => ?_) (fun _ => ?_) | refine WG_boolF (fun _ => ?_) (fun _ => ?_) | simp -dsimp (disch := omega) only [↓run_nil, ↓run_i, ↓co_seq, ↓co_exit, ↓co_ret, ↓co_reg, ↓co_cond, ↓op_mov, ↓op_bin, ↓op_lens, Res_ret, resL_nil, resL_t, resV_two, nn4_tuple, nn3_int, WF_eq, W1_some, ↓ev_t, ↓ev_c, ↓upd_at, ↓get_cons, ↓frm_nil, ↓frm_cons, bin_lss, eq_self, List.all_cons, List.all_nil, Bool.and_self, true_and, Option.map_some, Nat.reduceEqDiff, ↓reduceIte, reduceCtorEq, *, hl.len]))
      rw [Hcf.out, E0.out]
end Go.L.Try

/- NUMBERS OF 64 BITS: math/bits.Mul64, num.Mul. -/
set_option linter.unusedVariables false
set_option linter.unusedSimpArgs false
set_option maxRecDepth 100000
namespace Go.L.Try
open Go Go.L
variable {E : Env}
def u64in (x : Int) : Prop := 0 ≤ x ∧ x < 18446744073709551616
theorem bin_and32 {q : EqK} {a : Int} (h1 : 0 ≤ a) (h2 : a < 18446744073709551616) : binOp .and q (.int .u64 a) (.int .u64 4294967295) = some (.int .u64 (a % 4294967296)) := by
  obtain ⟨n, rfl⟩ := Int.eq_ofNat_of_zero_le h1
  have hn : n < 18446744073709551616 := by omega
  have e : ((BitVec.ofInt 64 (n : Int)) &&& (BitVec.ofInt 64 4294967295)).toNat = n % 4294967296 := by
    have e1 : BitVec.ofInt 64 (n : Int) = BitVec.ofNat 64 n := by simp
    have e2 : BitVec.ofInt 64 4294967295 = BitVec.ofNat 64 4294967295 := by decide
    rw [e1, e2, BitVec.toNat_and, BitVec.toNat_ofNat, BitVec.toNat_ofNat, Nat.mod_eq_of_lt hn]
    exact Nat.and_two_pow_sub_one_eq_mod n 32
  have e3 : binOp .and q (.int .u64 (n : Int)) (.int .u64 4294967295) = some (.int .u64 (IntKind.u64.wrap (((BitVec.ofInt 64 (n : Int)) &&& (BitVec.ofInt 64 4294967295)).toNat : Nat))) := by simp only [binOp, intOp, if_true]; rfl
  rw [e3, e, wrap_u64 (by omega) (by omega)]; simp
theorem bin_shr32 {q : EqK} {a : Int} (h1 : 0 ≤ a) : binOp .shr q (.int .u64 a) (.int .u64 32) = some (.int .u64 (a / 4294967296)) := by
  simp only [binOp, intOp]
  rw [if_neg (by decide), Int.fdiv_eq_ediv_of_nonneg _ (by decide)]; rfl
theorem wrap_mod {x : Int} : IntKind.u64.wrap x = x % 18446744073709551616 := by simp [IntKind.wrap, IntKind.bits, IntKind.signed]
theorem mulParts (a b : Int) (ha : u64in a) (hb : u64in b) :
    let a0 := a % 4294967296; let a1 := a / 4294967296; let b0 := b % 4294967296; let b1 := b / 4294967296
    (0 ≤ a0 * b0 ∧ a0 * b0 ≤ 18446744065119617025) ∧ (0 ≤ a1 * b0 ∧ a1 * b0 ≤ 18446744065119617025) ∧ (0 ≤ a0 * b1 ∧ a0 * b1 ≤ 18446744065119617025) ∧ (0 ≤ a1 * b1 ∧ a1 * b1 ≤ 18446744065119617025) ∧
    a * b = a1 * b1 * 18446744073709551616 + (a1 * b0 + a0 * b1) * 4294967296 + a0 * b0 := by
  intro a0 a1 b0 b1
  unfold u64in at ha hb
  have k : ∀ x y : Int, 0 ≤ x → x ≤ 4294967295 → 0 ≤ y → y ≤ 4294967295 → 0 ≤ x * y ∧ x * y ≤ 18446744065119617025 := fun x y h1 h2 h3 h4 =>
    ⟨Int.mul_nonneg h1 h3, by have := Int.mul_le_mul h2 h4 h3 (by decide : (0:Int) ≤ 4294967295); omega⟩
  have ha0 : 0 ≤ a0 ∧ a0 ≤ 4294967295 := by omega
  have ha1 : 0 ≤ a1 ∧ a1 ≤ 4294967295 := by omega
  have hb0 : 0 ≤ b0 ∧ b0 ≤ 4294967295 := by omega
  have hb1 : 0 ≤ b1 ∧ b1 ≤ 4294967295 := by omega
  refine ⟨k _ _ ha0.1 ha0.2 hb0.1 hb0.2, k _ _ ha1.1 ha1.2 hb0.1 hb0.2, k _ _ ha0.1 ha0.2 hb1.1 hb1.2, k _ _ ha1.1 ha1.2 hb1.1 hb1.2, ?_⟩
  have ea : a = a1 * 4294967296 + a0 := by omega
  have eb : b = b1 * 4294967296 + b0 := by omega
  generalize a0 = x0 at *
  generalize a1 = x1 at *
  generalize b0 = y0 at *
  generalize b1 = y1 at *
  subst ea eb
  grind
theorem mul64 (hE : Laid E) (h : Heap) {a b : Int} (ha : u64in a) (hb : u64in b) :
    callW E (.func (.func n_math_bits_Mul64) #[] #[]) [.int .u64 a, .int .u64 b] h = some (.tuple #[.int .u64 (a * b / 18446744073709551616), .int .u64 (a * b % 18446744073709551616)], h, []) := by
  have hp := mulParts a b ha hb
  dsimp only at hp
  obtain ⟨h00, h10, h01, h11, he⟩ := hp
  have He := Hid.mk he
  unfold u64in at ha hb
  clear he
  have m0 := Int.emod_nonneg a (by decide : (4294967296 : Int) ≠ 0)
  have m1 := Int.emod_nonneg b (by decide : (4294967296 : Int) ≠ 0)
  refine fn_same hE.math_bits_Mul64 rfl (by simp) ?_
  simp only [argsF]
  (repeat' (first | ((with_reducible refine WG_dec (fun _ => ?_) (fun _ => ?_)) <;> try (exfalso; omega)) | ((with_reducible refine WG_decF (fun _ => ?_) (fun _ => ?_)) <;> try (exfalso; omega)) | ((with_reducible refine WC_dec (fun _ => ?_) (fun _ => ?_)) <;> try (exfalso; omega)) | refine WC_bool (fun _ => ?_) (fun _ => ?_) | refine WG_bool (fun _ => ?_) (fun _ => ?_) | refine WG_boolF (fun _ => ?_) (fun _ => ?_) | simp -dsimp (disch := omega) only [↓run_nil, ↓run_i, ↓co_seq, ↓co_ret, ↓co_reg, ↓op_mov, ↓op_bin, Res_ret, resL_nil, resL_t, resV_two, nn4_tuple, nn3_int, WF_eq, W1_some, ↓ev_t, ↓ev_c, ↓upd_at, ↓get_cons, ↓frm_nil, ↓frm_cons, bin_add, bin_mul, wrap_u64, eq_self, List.all_cons, List.all_nil, Bool.and_self, true_and, Option.map_some, Nat.reduceEqDiff, Nat.zero_add, ↓reduceIte, reduceCtorEq, *, bin_and32, bin_shr32, wrap_mod]))
  rw [He.out]
  generalize a / 4294967296 * (b / 4294967296) = p11 at *
  generalize a / 4294967296 * (b % 4294967296) = p10 at *
  generalize a % 4294967296 * (b / 4294967296) = p01 at *
  generalize a % 4294967296 * (b % 4294967296) = p00 at *
  have e : p11 + (p10 + p00 / 4294967296) / 4294967296 + ((p10 + p00 / 4294967296) % 4294967296 + p01) / 4294967296 = (p11 * 18446744073709551616 + (p10 + p01) * 4294967296 + p00) / 18446744073709551616 := by omega
  rw [e]
theorem numMul (hE : Laid E) (h : Heap) {a b : Int} (ha : u64in a) (hb : u64in b) :
    callW E (.func (.func n_num_Mul) #[] #[]) [.int .u64 a, .int .u64 b] h = some (if a * b < 18446744073709551616 then .tuple #[.int .u64 (a * b), .bool true] else .tuple #[.int .u64 0, .bool false], h, []) := by
  have hmul := mul64 hE h ha hb
  have hpos : 0 ≤ a * b := Int.mul_nonneg ha.1 hb.1
  generalize a * b = c at *
  refine fn_same hE.num_Mul rfl (by simp) ?_
  simp only [argsF]
  have hm : c < 18446744073709551616 → c % 18446744073709551616 = c := fun h => by omega
  have Hm := Hid.mk hm
  clear hm
  (repeat' (first | ((with_reducible refine WG_dec (fun _ => ?_) (fun _ => ?_)) <;> try (exfalso; omega)) | ((with_reducible refine WG_decF (fun _ => ?_) (fun _ => ?_)) <;> try (exfalso; omega)) | ((with_reducible refine WC_dec (fun _ => ?_) (fun _ => ?_)) <;> try (exfalso; omega)) | refine WC_bool (fun _ => ?_) (fun _ => ?_) | refine WG_bool (fun _ => ?_) (fun _ => ?_) | refine WG_boolF (fun _ => ?_) (fun _ => ?_) | simp -dsimp (disch := omega) only [↓run_nil, ↓run_i, ↓op_call, ↓co_seq, ↓co_skip, ↓co_ret, ↓co_reg, ↓co_cond, ↓op_mov, ↓op_bin, ↓op_ext, Res_ret, resL_nil, resL_t, resV_two, WF_eq, W1_some, WX_some, ↓ev_t, ↓ev_c, ↓ev_f, ↓upd_at, ↓get_cons, ↓frm_nil, ↓frm_cons, bin_gtr, ext_tuple, nt_int, eq_self, List.map_cons, List.map_nil, List.getElem?_cons_zero, List.getElem?_cons_succ, Option.map_some, Nat.reduceEqDiff, Nat.zero_add, ↓reduceIte, reduceCtorEq, *]))
  · rw [if_neg (by omega)]; exact ⟨rfl, rfl⟩
  · rw [if_pos (by omega), Hm.out (by omega)]; exact ⟨rfl, rfl⟩
end Go.L.Try
