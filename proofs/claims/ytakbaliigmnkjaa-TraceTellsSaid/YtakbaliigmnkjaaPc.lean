/- RUNS, TOLD: responses, the worst ones, misses: trace, and cadencyref11. -/
import Derived.Test.YtakbaliigmnkjaaPb
set_option linter.unusedVariables false
set_option linter.unusedSimpArgs false
set_option maxRecDepth 100000
set_option maxHeartbeats 1000000
namespace Go.L.Try
open Go Go.L
variable {E : Env}
/-- Numbers so small that their differences are numbers. -/
def Small (l : List Int) : Prop := ∀ e ∈ l, -1152921504606846976 ≤ e ∧ e ≤ 1152921504606846976
def SmallJ (l : List Job) : Prop := ∀ j ∈ l, -1152921504606846976 ≤ j.arrive ∧ j.arrive ≤ 1152921504606846976
def respP (jobs : List Job) (ends : List Int) (i : Int) : Int × Bool :=
  if 0 ≤ i ∧ i < jobs.length ∧ i < ends.length ∧ 0 ≤ atI ends i then (atI ends i - (atI jobs i).arrive, true) else (0, false)
theorem response (hE : Laid E) {h : Heap} {vj ve : Value} {lv : List (NV Job)} {ends : List Int} (hj : Rd 5 (encN hdJ) h vj lv) (he : Rd 1 encI h ve ends) (hs : Small ends) (hsj : SmallJ (lv.map (·.j))) (i : Int) :
    callW E (.func (.func n_trace_Response) #[] #[]) [vj, ve, .int .i64 i] h = some (.tuple #[.int .i64 (respP (lv.map (·.j)) ends i).1, .bool (respP (lv.map (·.j)) ends i).2], h, []) := by
  refine fn_same hE.trace_Response rfl (by simp) ?_
  have few := hj.few
  have few2 := he.few
  simp only [argsF]
  by_cases hc : 0 ≤ i ∧ i < lv.length ∧ i < ends.length
  · have h1 := hs _ (atI_mem (l := ends) hc.1 hc.2.2)
    have h2 := hsj _ (List.mem_map_of_mem (atI_mem (l := lv) hc.1 hc.2.1))
    have e3 : atI (lv.map (·.j)) i = (atI lv i).j := (atI_map' (fun p : NV Job => p.j) lv i hc.1 hc.2.1).symm
    have hr : respP (lv.map (·.j)) ends i = if 0 ≤ atI ends i then (atI ends i - (atI lv i).j.arrive, true) else (0, false) := by
      unfold respP; rw [e3, List.length_map]; simp [hc]
    by_cases h0 : 0 ≤ atI ends i
    · rw [hr, if_pos h0]
      clear hr e3 hs hsj
      (repeat' (first | ((with_reducible refine WG_dec (fun _ => ?_) (fun _ => ?_)) <;> try (exfalso; omega)) | ((with_reducible refine WG_decF (fun _ => ?_) (fun _ => ?_)) <;> try (exfalso; omega)) | ((with_reducible refine WC_dec (fun _ => ?_) (fun _ => ?_)) <;> try (exfalso; omega)) | refine WC_bool (fun _ => ?_) (fun _ => ?_) | refine WG_bool (fun _ => ?_) (fun _ => ?_) | refine WG_boolF (fun _ => ?_) (fun _ => ?_) | simp -dsimp (disch := omega) only [↓run_nil, ↓run_i, ↓run_w, ↓rd_nil, ↓rd_i, ↓co_seq, ↓co_skip, ↓co_ret, ↓co_reg, ↓co_drw, ↓co_cond, ↓op_mov, ↓op_pick, ↓op_bin, ↓op_ixs, ↓op_lens, ↓op_min, ↓op_ld, ↓opd_mov, ↓opd_bin, ↓opd_fld, ↓opd_ixs, ↓opd_ld, Res_ret, resL_nil, resL_t, resV_two, nn4_tuple, nn3_int, nn3_bool, WF_eq, W1_some, WG_false, ↓ev_t, ↓ev_c, ↓upd_at, ↓get_cons, ↓frm_nil, ↓frm_cons, bin_sub, bin_lss, bin_geq, pick_f, load_ptr, fld_ptr, min_1, min_2, room0, wrap_i64, eq_self, List.map_cons, List.map_nil, List.all_cons, List.all_nil, Bool.and_self, true_and, List.getD_cons_zero, List.getD_cons_succ, List.cons_append, List.nil_append, Option.map_some, Nat.reduceEqDiff, Nat.reduceAdd, Nat.zero_add, ↓reduceIte, reduceCtorEq, decide_false, *, hj.len, hj.ixs, hj.ld, he.len, he.ixs, he.ld0, encN, hdJ, encI]))
    · rw [hr, if_neg h0]
      clear hr e3 hs hsj
      (repeat' (first | ((with_reducible refine WG_dec (fun _ => ?_) (fun _ => ?_)) <;> try (exfalso; omega)) | ((with_reducible refine WG_decF (fun _ => ?_) (fun _ => ?_)) <;> try (exfalso; omega)) | ((with_reducible refine WC_dec (fun _ => ?_) (fun _ => ?_)) <;> try (exfalso; omega)) | refine WC_bool (fun _ => ?_) (fun _ => ?_) | refine WG_bool (fun _ => ?_) (fun _ => ?_) | refine WG_boolF (fun _ => ?_) (fun _ => ?_) | simp -dsimp (disch := omega) only [↓run_nil, ↓run_i, ↓run_w, ↓co_seq, ↓co_ret, ↓co_reg, ↓co_cond, ↓op_mov, ↓op_pick, ↓op_bin, ↓op_ixs, ↓op_lens, ↓op_min, ↓op_ld, Res_ret, resL_nil, resL_t, resV_two, nn4_tuple, nn3_int, nn3_bool, WF_eq, W1_some, WG_false, ↓ev_t, ↓ev_c, ↓upd_at, ↓get_cons, ↓frm_nil, ↓frm_cons, bin_lss, bin_geq, pick_f, load_ptr, min_1, min_2, eq_self, List.map_cons, List.map_nil, List.all_cons, List.all_nil, Bool.and_self, true_and, List.getD_cons_zero, Option.map_some, Nat.reduceEqDiff, Nat.reduceAdd, Nat.zero_add, ↓reduceIte, reduceCtorEq, decide_false, *, hj.len, he.len, he.ixs, he.ld0, encI]))
  · have hr : respP (lv.map (·.j)) ends i = (0, false) := by
      unfold respP; rw [if_neg]; rw [List.length_map]; intro h; exact hc ⟨h.1, h.2.1, h.2.2.1⟩
    rw [hr]
    (repeat' (first | ((with_reducible refine WG_dec (fun _ => ?_) (fun _ => ?_)) <;> try (exfalso; omega)) | ((with_reducible refine WG_decF (fun _ => ?_) (fun _ => ?_)) <;> try (exfalso; omega)) | ((with_reducible refine WC_dec (fun _ => ?_) (fun _ => ?_)) <;> try (exfalso; omega)) | refine WC_bool (fun _ => ?_) (fun _ => ?_) | refine WG_bool (fun _ => ?_) (fun _ => ?_) | refine WG_boolF (fun _ => ?_) (fun _ => ?_) | simp -dsimp (disch := omega) only [↓run_nil, ↓run_i, ↓run_w, ↓co_seq, ↓co_ret, ↓co_reg, ↓co_cond, ↓op_mov, ↓op_pick, ↓op_bin, ↓op_lens, ↓op_min, Res_ret, resL_nil, resL_t, resV_two, nn4_tuple, nn3_int, nn3_bool, WF_eq, W1_some, WC_true, WG_false, WG_tf, ↓ev_t, ↓ev_c, ↓upd_at, ↓get_cons, ↓frm_nil, ↓frm_cons, bin_lss, bin_geq, pick_t, pick_f, min_1, min_2, eq_self, List.map_cons, List.map_nil, List.all_cons, List.all_nil, Bool.and_self, true_and, Option.map_some, Nat.reduceEqDiff, Nat.reduceAdd, Nat.zero_add, ↓reduceIte, reduceCtorEq, decide_true, decide_false, *, hj.len, he.len]))
theorem response11 (hE : Laid E) {h : Heap} {vj ve : Value} {lv : List (NV Job)} {ends : List Int} (hj : Rd 5 (encN hdJ) h vj lv) (he : Rd 1 encI h ve ends) (hs : Small ends) (hsj : SmallJ (lv.map (·.j))) (i : Int) :
    callW E (.func (.func n_cadencyref11_Response) #[] #[]) [vj, ve, .int .i64 i] h = some (.agg #[.int .i64 (respP (lv.map (·.j)) ends i).1, .int .i64 0, .bool (respP (lv.map (·.j)) ends i).2], h, []) := by
  refine fn_same hE.cadencyref11_Response rfl (by simp) ?_
  have few := hj.few
  have few2 := he.few
  simp only [argsF]
  by_cases hc : 0 ≤ i ∧ i < lv.length ∧ i < ends.length
  · have h1 := hs _ (atI_mem (l := ends) hc.1 hc.2.2)
    have h2 := hsj _ (List.mem_map_of_mem (atI_mem (l := lv) hc.1 hc.2.1))
    have e3 : atI (lv.map (·.j)) i = (atI lv i).j := (atI_map' (fun p : NV Job => p.j) lv i hc.1 hc.2.1).symm
    have hr : respP (lv.map (·.j)) ends i = if 0 ≤ atI ends i then (atI ends i - (atI lv i).j.arrive, true) else (0, false) := by
      unfold respP; rw [e3, List.length_map]; simp [hc]
    by_cases h0 : 0 ≤ atI ends i
    · rw [hr, if_pos h0]
      clear hr e3 hs hsj
      (repeat' (first | ((with_reducible refine WG_dec (fun _ => ?_) (fun _ => ?_)) <;> try (exfalso; omega)) | ((with_reducible refine WG_decF (fun _ => ?_) (fun _ => ?_)) <;> try (exfalso; omega)) | ((with_reducible refine WC_dec (fun _ => ?_) (fun _ => ?_)) <;> try (exfalso; omega)) | refine WC_bool (fun _ => ?_) (fun _ => ?_) | refine WG_bool (fun _ => ?_) (fun _ => ?_) | refine WG_boolF (fun _ => ?_) (fun _ => ?_) | simp -dsimp (disch := omega) only [↓run_nil, ↓run_i, ↓run_w, ↓rd_nil, ↓rd_i, ↓rd_k, ↓opd_st, ↓co_seq, ↓co_skip, ↓co_ret, ↓co_reg, ↓co_drw, ↓co_cond, ↓op_mov, ↓op_pick, ↓op_bin, ↓op_ixs, ↓op_lens, ↓op_ld, ↓op_all, ↓opd_mov, ↓opd_bin, ↓opd_bld, ↓opd_fld, ↓opd_ixs, ↓opd_ld, Res_ret, resL_nil, resL_v, resV_one, nn4_agg, nn3_int, nn3_bool, WF_eq, W1_some, WH_some1, WG_false, ↓ev_t, ↓ev_c, ↓upd_at, ↓get_cons, ↓frm_nil, ↓frm_cons, bin_sub, bin_lss, bin_geq, pick_f, cellsV_int, cellsV_bool, cellsV_agg, one_int, one_bool, fillV_nil, fillV_cons, setCells_nil, setCells_cons, load_ptr, ldO_cells, part_some, store_ptr, stO_cells, fld_ptr, geta0, seta0, room0, newCells, wrap_i64, eq_self, List.map_cons, List.map_nil, List.length_cons, List.length_nil, List.all_cons, List.all_nil, Bool.and_self, true_and, and_self, List.getElem?_cons_zero, List.getD_cons_zero, List.getD_cons_succ, List.set_cons_zero, List.set_cons_succ, List.drop_zero, List.take_succ_cons, List.take_zero, List.cons_append, List.nil_append, Option.bind_some, Option.map_some, Nat.reduceEqDiff, Nat.reduceAdd, Nat.reduceLeDiff, Nat.zero_add, ↓reduceIte, reduceCtorEq, decide_false, Nat.le_refl, *, hj.len, hj.ixs, hj.ldx, he.len, he.ixs, he.ldx0, encN, hdJ, encI]))
    · rw [hr, if_neg h0]
      clear hr e3 hs hsj
      (repeat' (first | ((with_reducible refine WG_dec (fun _ => ?_) (fun _ => ?_)) <;> try (exfalso; omega)) | ((with_reducible refine WG_decF (fun _ => ?_) (fun _ => ?_)) <;> try (exfalso; omega)) | ((with_reducible refine WC_dec (fun _ => ?_) (fun _ => ?_)) <;> try (exfalso; omega)) | refine WC_bool (fun _ => ?_) (fun _ => ?_) | refine WG_bool (fun _ => ?_) (fun _ => ?_) | refine WG_boolF (fun _ => ?_) (fun _ => ?_) | simp -dsimp (disch := omega) only [↓run_nil, ↓run_i, ↓run_k, ↓run_w, ↓op_st, ↓co_seq, ↓co_ret, ↓co_reg, ↓co_cond, ↓op_mov, ↓op_pick, ↓op_bin, ↓op_bld, ↓op_ixs, ↓op_lens, ↓op_ld, ↓op_all, Res_ret, resL_nil, resL_v, resV_one, nn4_agg, nn3_int, nn3_bool, WF_eq, W1_some, WH_some1, WG_false, ↓ev_t, ↓ev_c, ↓upd_at, ↓get_cons, ↓frm_nil, ↓frm_cons, bin_lss, bin_geq, pick_f, cellsV_agg, one_int, one_bool, fillV_nil, setCells_nil, setCells_cons, load_ptr, ldO_cells, part_some, store_ptr, stO_cells, geta0, seta0, newCells, eq_self, List.map_nil, List.length_cons, List.length_nil, List.all_cons, List.all_nil, Bool.and_self, true_and, and_self, List.getElem?_cons_zero, List.getD_cons_zero, List.set_cons_zero, List.set_cons_succ, List.drop_zero, List.take_succ_cons, List.take_zero, Option.bind_some, Option.map_some, Nat.reduceEqDiff, Nat.reduceAdd, Nat.zero_add, ↓reduceIte, reduceCtorEq, decide_true, decide_false, Nat.le_refl, *, hj.len, he.len, he.ixs, he.ldx0, encI]))
  · have hr : respP (lv.map (·.j)) ends i = (0, false) := by
      unfold respP; rw [if_neg]; rw [List.length_map]; intro h; exact hc ⟨h.1, h.2.1, h.2.2.1⟩
    rw [hr]
    (repeat' (first | ((with_reducible refine WG_dec (fun _ => ?_) (fun _ => ?_)) <;> try (exfalso; omega)) | ((with_reducible refine WG_decF (fun _ => ?_) (fun _ => ?_)) <;> try (exfalso; omega)) | ((with_reducible refine WC_dec (fun _ => ?_) (fun _ => ?_)) <;> try (exfalso; omega)) | refine WC_bool (fun _ => ?_) (fun _ => ?_) | refine WG_bool (fun _ => ?_) (fun _ => ?_) | refine WG_boolF (fun _ => ?_) (fun _ => ?_) | simp -dsimp (disch := omega) only [↓run_nil, ↓run_i, ↓run_k, ↓run_w, ↓op_st, ↓co_seq, ↓co_ret, ↓co_reg, ↓co_cond, ↓op_mov, ↓op_pick, ↓op_bin, ↓op_bld, ↓op_lens, ↓op_all, Res_ret, resL_nil, resL_v, resV_one, nn4_agg, nn3_int, nn3_bool, WF_eq, W1_some, WH_some1, WC_true, WG_false, WG_tf, ↓ev_t, ↓ev_c, ↓upd_at, ↓get_cons, ↓frm_nil, ↓frm_cons, bin_lss, bin_geq, pick_t, pick_f, cellsV_agg, one_int, one_bool, fillV_nil, setCells_nil, setCells_cons, load_ptr, ldO_cells, part_some, store_ptr, stO_cells, geta0, seta0, newCells, eq_self, List.map_nil, List.length_cons, List.length_nil, List.all_cons, List.all_nil, Bool.and_self, true_and, and_self, List.getElem?_cons_zero, List.set_cons_zero, List.set_cons_succ, List.drop_zero, List.take_succ_cons, List.take_zero, Option.bind_some, Option.map_some, Nat.reduceEqDiff, Nat.reduceAdd, Nat.zero_add, ↓reduceIte, reduceCtorEq, decide_true, decide_false, Nat.le_refl, *, hj.len, he.len]))
def worstN (jobs : List Job) (ends : List Int) (task : Int) : Nat → Int × Int × Bool
  | 0 => (0, 0, false)
  | n + 1 => if (respP jobs ends n).2 = true ∧ (atI jobs (n : Int)).task = task ∧ ((worstN jobs ends task n).2.2 = false ∨ (worstN jobs ends task n).1 < (respP jobs ends n).1) then ((respP jobs ends n).1, n, true) else worstN jobs ends task n
theorem worst (hE : Laid E) {h : Heap} {vj ve : Value} {lv : List (NV Job)} {ends : List Int} (hj : Rd 5 (encN hdJ) h vj lv) (hc : ∀ p ∈ lv, oneCell p.v = true) (he : Rd 1 encI h ve ends) (hs : Small ends) (hsj : SmallJ (lv.map (·.j))) (task : Int) :
    callW E (.func (.func n_trace_Worst) #[] #[]) [vj, ve, .int .i64 task] h = some (.tuple #[.int .i64 (worstN (lv.map (·.j)) ends task lv.length).1, .int .i64 (worstN (lv.map (·.j)) ends task lv.length).2.1, .bool (worstN (lv.map (·.j)) ends task lv.length).2.2], h, []) := by
  refine fn_same hE.trace_Worst rfl (by simp) ?_
  have few := hj.few
  simp only [argsF]
  (repeat' (first | ((with_reducible refine WG_dec (fun _ => ?_) (fun _ => ?_)) <;> try (exfalso; omega)) | ((with_reducible refine WG_decF (fun _ => ?_) (fun _ => ?_)) <;> try (exfalso; omega)) | ((with_reducible refine WC_dec (fun _ => ?_) (fun _ => ?_)) <;> try (exfalso; omega)) | refine WC_bool (fun _ => ?_) (fun _ => ?_) | refine WG_bool (fun _ => ?_) (fun _ => ?_) | refine WG_boolF (fun _ => ?_) (fun _ => ?_) | simp -dsimp (disch := omega) only [↓run_nil, ↓run_i, ↓co_seq, ↓co_reg, ↓co_block, ↓co_loop, ↓op_mov, ↓op_lens, WF_eq, W1_some, ↓ev_t, ↓ev_c, ↓upd_at, ↓get_cons, ↓frm_nil, ↓frm_cons, eq_self, Nat.reduceEqDiff, Nat.reduceAdd, Nat.zero_add, ↓reduceIte, reduceCtorEq, *, hj.len]))
  refine WO.loop (fun n fr h' => Pre h h' ∧ n ≤ lv.length ∧ get fr 0 = vj ∧ get fr 1 = ve ∧ get fr 2 = .int .i64 task ∧ get fr 16 = vj ∧ get fr 17 = .int .i64 lv.length ∧ get fr 18 = .int .i64 n ∧ get fr 9 = .int .i64 (worstN (lv.map (·.j)) ends task n).1 ∧ get fr 10 = .int .i64 (worstN (lv.map (·.j)) ends task n).2.1 ∧ get fr 11 = .bool (worstN (lv.map (·.j)) ends task n).2.2) (fun n => lv.length - n) ?_ 0 ⟨Pre.refl _, Nat.zero_le _, rfl, rfl, rfl, rfl, rfl, rfl, rfl, rfl, rfl⟩
  rintro n fr h' ⟨hp, hn, g0, g1, g2, g16, g17, g18, g9, g10, g11⟩
  unfold c_trace_Worst_l0
  rcases Nat.lt_or_ge n lv.length with hlt | hge
  · have hj' := hj.pre hp
    have hresp := fun x => response hE (hj'.app x) ((he.pre hp).app x) hs hsj n
    have e3 : atI (lv.map (·.j)) (n : Int) = (atI lv n).j := (atI_map' (fun p : NV Job => p.j) lv n (by omega) (by omega)).symm
    have hone := hc _ (atI_mem (l := lv) (i := n) (by omega) (by omega))
    have hw : worstN (lv.map (·.j)) ends task (n + 1) = if (respP (lv.map (·.j)) ends n).2 = true ∧ (atI lv n).j.task = task ∧ ((worstN (lv.map (·.j)) ends task n).2.2 = false ∨ (worstN (lv.map (·.j)) ends task n).1 < (respP (lv.map (·.j)) ends n).1) then ((respP (lv.map (·.j)) ends n).1, (n : Int), true) else worstN (lv.map (·.j)) ends task n := by
      rw [← e3]; rfl
    generalize respP (lv.map (·.j)) ends n = r at *
    have Hw := Hid.mk hw
    generalize worstN (lv.map (·.j)) ends task n = p at *
    clear hw hs hsj hc e3
    obtain ⟨r1, r2⟩ := r
    obtain ⟨p1, p2, p3⟩ := p
    (repeat' (first | ((with_reducible refine WG_dec (fun _ => ?_) (fun _ => ?_)) <;> try (exfalso; omega)) | ((with_reducible refine WG_decF (fun _ => ?_) (fun _ => ?_)) <;> try (exfalso; omega)) | ((with_reducible refine WC_dec (fun _ => ?_) (fun _ => ?_)) <;> try (exfalso; omega)) | refine WC_bool (fun _ => ?_) (fun _ => ?_) | refine WG_bool (fun _ => ?_) (fun _ => ?_) | refine WG_boolF (fun _ => ?_) (fun _ => ?_) | simp -dsimp (disch := omega) only [↓run_nil, ↓run_i, ↓run_k, ↓run_w, ↓op_st, ↓op_call, ↓co_seq, ↓co_skip, ↓co_reg, ↓co_cond, ↓co_block, ↓op_mov, ↓op_pick, ↓op_bin, ↓op_un, ↓op_fld, ↓op_ixs, ↓op_ext, ↓op_ld, ↓op_all, WF_eq, W1_some, WX_some, WH_some1, WC_true, WC_false, WG_true, WG_false, WG_tf, WG_ft, WG_undef, ↓ev_t, ↓ev_c, ↓ev_f, ↓upd_at, ↓get_cons, ↓frm_nil, ↓frm_cons, bin_add, bin_eql, bin_lss, bin_gtr, un_not, pick_t, pick_f, cellsV_agg, one_int, one_slice, setCells_nil, setCells_cons, load_ptr, ldO_cells, part_none, store_ptr, stO_cells, fld_ptr, ext_tuple, nt_int, nt_bool, geta0, seta0, newCells, wrap_i64, eq_self, List.map_cons, List.map_nil, List.length_cons, List.length_nil, List.all_cons, List.all_nil, Bool.and_self, true_and, and_self, List.getElem?_cons_zero, List.getElem?_cons_succ, List.set_cons_zero, List.set_cons_succ, List.cons_append, List.nil_append, Nat.reduceEqDiff, Nat.reduceAdd, Nat.zero_add, Nat.add_zero, ↓reduceIte, reduceCtorEq, decide_true, decide_false, Nat.le_refl, *, hj'.ixs, hj'.lda, encN, hdJ, hp.le]))
    all_goals refine Next.mk (n + 1) ⟨hp.app' _, by omega, rfl, rfl, rfl, rfl, rfl, rfl, ?_, ?_, ?_⟩ (by omega)
    all_goals (rw [Hw.out]; split <;> simp_all [get] <;> omega)
  · have : n = lv.length := by omega
    subst this
    (repeat' (first | ((with_reducible refine WG_dec (fun _ => ?_) (fun _ => ?_)) <;> try (exfalso; omega)) | ((with_reducible refine WG_decF (fun _ => ?_) (fun _ => ?_)) <;> try (exfalso; omega)) | ((with_reducible refine WC_dec (fun _ => ?_) (fun _ => ?_)) <;> try (exfalso; omega)) | refine WC_bool (fun _ => ?_) (fun _ => ?_) | refine WG_bool (fun _ => ?_) (fun _ => ?_) | refine WG_boolF (fun _ => ?_) (fun _ => ?_) | simp -dsimp (disch := omega) only [↓run_nil, ↓run_i, ↓co_seq, ↓co_exit, ↓co_ret, ↓co_reg, ↓co_cond, ↓op_mov, ↓op_bin, Res_ret, resL_nil, resL_t, resV_two, nn4_tuple, nn3_int, nn3_bool, WF_eq, W1_some, ↓ev_t, ↓upd_at, ↓get_cons, ↓frm_nil, ↓frm_cons, bin_lss, eq_self, List.all_cons, List.all_nil, Bool.and_self, true_and, Option.map_some, Nat.reduceEqDiff, ↓reduceIte, reduceCtorEq, *]))
theorem worst11 (hE : Laid E) {h : Heap} {vj ve : Value} {lv : List (NV Job)} {ends : List Int} (hj : Rd 5 (encN hdJ) h vj lv) (he : Rd 1 encI h ve ends) (hs : Small ends) (hsj : SmallJ (lv.map (·.j))) (task : Int) :
    callW E (.func (.func n_cadencyref11_Worst) #[] #[]) [vj, ve, .int .i64 task] h = some (.agg #[.int .i64 (worstN (lv.map (·.j)) ends task lv.length).1, .int .i64 (worstN (lv.map (·.j)) ends task lv.length).2.1, .bool (worstN (lv.map (·.j)) ends task lv.length).2.2], h, []) := by
  refine fn_same hE.cadencyref11_Worst rfl (by simp) ?_
  have few := hj.few
  simp only [argsF]
  (repeat' (first | ((with_reducible refine WG_dec (fun _ => ?_) (fun _ => ?_)) <;> try (exfalso; omega)) | ((with_reducible refine WG_decF (fun _ => ?_) (fun _ => ?_)) <;> try (exfalso; omega)) | ((with_reducible refine WC_dec (fun _ => ?_) (fun _ => ?_)) <;> try (exfalso; omega)) | refine WC_bool (fun _ => ?_) (fun _ => ?_) | refine WG_bool (fun _ => ?_) (fun _ => ?_) | refine WG_boolF (fun _ => ?_) (fun _ => ?_) | simp -dsimp (disch := omega) only [↓run_nil, ↓run_i, ↓run_k, ↓op_st, ↓co_seq, ↓co_reg, ↓co_block, ↓co_loop, ↓op_mov, ↓op_bld, ↓op_all, WF_eq, W1_some, WH_some1, ↓ev_t, ↓ev_c, ↓upd_at, ↓get_cons, ↓frm_nil, ↓frm_cons, cellsV_agg, one_int, one_bool, fillV_nil, setCells_nil, setCells_cons, store_ptr, stO_cells, geta, seta, newCells, eq_self, List.map_nil, List.length_append, List.length_cons, List.length_nil, List.all_cons, List.all_nil, Bool.and_self, true_and, and_self, List.getElem?_cons_zero, List.getElem?_cons_succ, List.set_cons_zero, List.set_cons_succ, List.append_assoc, List.cons_append, List.nil_append, Option.map_some, Nat.reduceEqDiff, Nat.reduceAdd, Nat.zero_add, ↓reduceIte, reduceCtorEq, Nat.le_refl, Nat.le_add_right, *]))
  refine WO.loop (fun n fr h' => Pre h h' ∧ h.length + 2 ≤ h'.length ∧ n ≤ lv.length ∧ get fr 0 = vj ∧ get fr 1 = ve ∧ get fr 2 = .int .i64 task ∧ get fr 6 = .pointer (some ⟨h.length, 0, none⟩) ∧ get fr 7 = .pointer (some ⟨h.length + 1, 0, none⟩) ∧ get fr 8 = .int .i64 n ∧ h'[h.length]? = some (.cells [.int .i64 0, .int .i64 0, .bool false] false) ∧ h'[h.length + 1]? = some (.cells [.int .i64 (worstN (lv.map (·.j)) ends task n).1, .int .i64 (worstN (lv.map (·.j)) ends task n).2.1, .bool (worstN (lv.map (·.j)) ends task n).2.2] false)) (fun n => lv.length - n) ?_ 0 ⟨Pre.app _ _, by simp, Nat.zero_le _, rfl, rfl, rfl, rfl, rfl, rfl, by rw [geta0]; rfl, by rw [geta]; rfl⟩
  rintro n fr h' ⟨hp, hlen, hn, g0, g1, g2, g6, g7, g8, hb0, hb1⟩
  unfold c_cadencyref11_Worst_l0
  rcases Nat.lt_or_ge n lv.length with hlt | hge
  · have hj' := hj.pre hp
    have hresp := response11 hE hj' (he.pre hp) hs hsj n
    have e3 : atI (lv.map (·.j)) (n : Int) = (atI lv n).j := (atI_map' (fun p : NV Job => p.j) lv n (by omega) (by omega)).symm
    have hw : worstN (lv.map (·.j)) ends task (n + 1) = if (respP (lv.map (·.j)) ends n).2 = true ∧ (atI lv n).j.task = task ∧ ((worstN (lv.map (·.j)) ends task n).2.2 = false ∨ (worstN (lv.map (·.j)) ends task n).1 < (respP (lv.map (·.j)) ends n).1) then ((respP (lv.map (·.j)) ends n).1, (n : Int), true) else worstN (lv.map (·.j)) ends task n := by
      rw [← e3]; rfl
    generalize respP (lv.map (·.j)) ends n = r at *
    have Hw := Hid.mk hw
    generalize worstN (lv.map (·.j)) ends task n = p at *
    clear hw hs hsj e3
    obtain ⟨r1, r2⟩ := r
    obtain ⟨p1, p2, p3⟩ := p
    have hx0 : ∀ l : Heap, (h' ++ l)[h.length]? = h'[h.length]? := fun l => List.getElem?_append_left (by omega)
    have hx1 : ∀ l : Heap, (h' ++ l)[h.length + 1]? = h'[h.length + 1]? := fun l => List.getElem?_append_left (by omega)
    (repeat' (first | ((with_reducible refine WG_dec (fun _ => ?_) (fun _ => ?_)) <;> try (exfalso; omega)) | ((with_reducible refine WG_decF (fun _ => ?_) (fun _ => ?_)) <;> try (exfalso; omega)) | ((with_reducible refine WC_dec (fun _ => ?_) (fun _ => ?_)) <;> try (exfalso; omega)) | refine WC_bool (fun _ => ?_) (fun _ => ?_) | refine WG_bool (fun _ => ?_) (fun _ => ?_) | refine WG_boolF (fun _ => ?_) (fun _ => ?_) | simp -dsimp (disch := omega) only [↓run_nil, ↓run_i, ↓run_k, ↓run_w, ↓op_st, ↓op_call, ↓co_seq, ↓co_skip, ↓co_reg, ↓co_cond, ↓co_block, ↓op_mov, ↓op_pick, ↓op_bin, ↓op_un, ↓op_bld, ↓op_fld, ↓op_ixs, ↓op_lens, ↓op_ld, ↓op_all, WF_eq, W1_some, WX_some, WH_some1, WC_true, WC_false, WG_true, WG_false, WG_tf, WG_ft, WG_undef, ↓ev_t, ↓ev_c, ↓ev_f, ↓upd_at, ↓get_cons, ↓frm_nil, ↓frm_cons, bin_add, bin_eql, bin_lss, bin_gtr, un_not, pick_t, pick_f, cellsV_int, cellsV_bool, cellsV_agg, one_int, one_bool, fillV_nil, fillV_cons, setCells_nil, setCells_cons, load_ptr, ldO_cells, part_none, store_ptr, stO_cells, fld_ptr, geta0, seta0, newCells, wrap_i64, eq_self, List.map_cons, List.map_nil, List.length_cons, List.length_nil, List.all_cons, List.all_nil, Bool.and_self, true_and, and_self, List.getElem?_cons_zero, List.getElem?_cons_succ, List.getD_cons_zero, List.set_cons_zero, List.set_cons_succ, List.cons_append, List.nil_append, Option.map_some, Nat.reduceEqDiff, Nat.reduceAdd, Nat.reduceLeDiff, Nat.zero_add, Nat.add_zero, ↓reduceIte, reduceCtorEq, decide_true, decide_false, Nat.le_refl, Nat.le_add_right, *, hj'.len, hj'.ixs, hj'.ldx0, encN, hdJ, hp.le]))
    all_goals refine Next.mk (n + 1) ⟨?_, by simp only [List.length_set, List.length_append]; omega, by omega, rfl, rfl, rfl, rfl, rfl, rfl, ?_, ?_⟩ (by omega)
    all_goals first
      | exact hp.app' _
      | exact (hp.app' _).set (by omega) _
      | (rw [hx0]; exact hb0)
      | (rw [gets (by omega), hx0]; exact hb0)
      | (rw [hx1, hb1, Hw.out]; split <;> simp_all <;> omega)
      | (rw [gset (by simp; omega), Hw.out]; split <;> simp_all <;> omega)
  · have : n = lv.length := by omega
    subst this
    (repeat' (first | ((with_reducible refine WG_dec (fun _ => ?_) (fun _ => ?_)) <;> try (exfalso; omega)) | ((with_reducible refine WG_decF (fun _ => ?_) (fun _ => ?_)) <;> try (exfalso; omega)) | ((with_reducible refine WC_dec (fun _ => ?_) (fun _ => ?_)) <;> try (exfalso; omega)) | refine WC_bool (fun _ => ?_) (fun _ => ?_) | refine WG_bool (fun _ => ?_) (fun _ => ?_) | refine WG_boolF (fun _ => ?_) (fun _ => ?_) | simp -dsimp (disch := omega) only [↓run_nil, ↓run_i, ↓run_k, ↓op_st, ↓co_seq, ↓co_exit, ↓co_ret, ↓co_reg, ↓co_cond, ↓op_mov, ↓op_bin, ↓op_lens, ↓op_ld, Res_ret, resL_nil, resL_v, resV_one, nn4_agg, nn3_int, nn3_bool, WF_eq, W1_some, WH_some1, ↓ev_t, ↓upd_at, ↓get_cons, ↓frm_nil, ↓frm_cons, bin_lss, cellsV_agg, one_int, one_bool, setCells_nil, setCells_cons, load_ptr, ldO_cells, part_some, store_ptr, stO_cells, eq_self, gset, List.length_cons, List.length_nil, List.all_cons, List.all_nil, Bool.and_self, true_and, and_self, List.set_cons_zero, List.set_cons_succ, List.drop_zero, List.take_succ_cons, List.take_zero, Option.bind_some, Option.map_some, Nat.reduceEqDiff, Nat.reduceAdd, Nat.zero_add, ↓reduceIte, reduceCtorEq, Nat.le_refl, *, hj.len]))
def missB (l : List Task) (jobs : List Job) (ends : List Int) (i : Int) : Prop := 0 ≤ (atI jobs i).task ∧ (atI jobs i).task < l.length ∧ ((respP jobs ends i).2 = false ∨ (atI l (atI jobs i).task).D < (respP jobs ends i).1)
instance (l : List Task) (jobs : List Job) (ends : List Int) (i : Int) : Decidable (missB l jobs ends i) := by unfold missB; infer_instance
def missN (l : List Task) (jobs : List Job) (ends : List Int) : Nat → List Int
  | 0 => []
  | n + 1 => if missB l jobs ends n then missN l jobs ends n ++ [(n : Int)] else missN l jobs ends n
theorem missN_len (l : List Task) (jobs : List Job) (ends : List Int) : ∀ n, (missN l jobs ends n).length ≤ n
  | 0 => by simp [missN]
  | n + 1 => by have := missN_len l jobs ends n; unfold missN; split <;> simp <;> omega
theorem misses (hE : Laid E) {h : Heap} {vl vj ve : Value} {l : List Task} {lv : List (NV Job)} {ends : List Int} (hl : Rd 7 encT h vl l) (hj : Rd 5 (encN hdJ) h vj lv) (hc : ∀ p ∈ lv, oneCell p.v = true) (he : Rd 1 encI h ve ends) (hs : Small ends) (hsj : SmallJ (lv.map (·.j))) (hn : lv.length ≤ 1099511627776) :
    ∃ v ys, callW E (.func (.func n_trace_Misses) #[] #[]) [vl, vj, ve] h = some (v, h ++ ys, []) ∧ Rd 1 encI (h ++ ys) v (missN l (lv.map (·.j)) ends lv.length) := by
  refine fn_new hE.trace_Misses rfl (Rd.movable flatI _) (by simp) ?_
  have few := hj.few
  have fewl := hl.few
  simp only [argsF]
  (repeat' (first | ((with_reducible refine WG_dec (fun _ => ?_) (fun _ => ?_)) <;> try (exfalso; omega)) | ((with_reducible refine WG_decF (fun _ => ?_) (fun _ => ?_)) <;> try (exfalso; omega)) | ((with_reducible refine WC_dec (fun _ => ?_) (fun _ => ?_)) <;> try (exfalso; omega)) | refine WC_bool (fun _ => ?_) (fun _ => ?_) | refine WG_bool (fun _ => ?_) (fun _ => ?_) | refine WG_boolF (fun _ => ?_) (fun _ => ?_) | simp -dsimp (disch := omega) only [↓run_nil, ↓run_i, ↓co_seq, ↓co_reg, ↓co_block, ↓co_loop, ↓op_mov, ↓op_lens, WF_eq, W1_some, ↓ev_t, ↓ev_c, ↓upd_at, ↓get_cons, ↓frm_nil, ↓frm_cons, eq_self, Nat.reduceEqDiff, Nat.reduceAdd, Nat.zero_add, ↓reduceIte, reduceCtorEq, *, hj.len]))
  refine WO.loop (fun n fr h' => Pre h h' ∧ n ≤ lv.length ∧ get fr 0 = vl ∧ get fr 1 = vj ∧ get fr 2 = ve ∧ get fr 12 = vj ∧ get fr 13 = .int .i64 lv.length ∧ get fr 14 = .int .i64 n ∧ OwnT h.length 1 encI h' (get fr 7) (missN l (lv.map (·.j)) ends n)) (fun n => lv.length - n) ?_ 0 ⟨Pre.refl _, Nat.zero_le _, rfl, rfl, rfl, rfl, rfl, rfl, OwnT.nil⟩
  rintro n fr h' ⟨hp, hn', g0, g1, g2, g13, g14, g15, ho⟩
  generalize hvo : get fr 7 = vo at ho
  unfold c_trace_Misses_l0
  rcases Nat.lt_or_ge n lv.length with hlt | hge
  · have hj' := hj.pre hp
    have hl' := hl.pre hp
    have hresp := fun x => response hE (hj'.app x) ((he.pre hp).app x) hs hsj n
    have hresp0 := response hE hj' (he.pre hp) hs hsj n
    have e3 : atI (lv.map (·.j)) (n : Int) = (atI lv n).j := (atI_map' (fun p : NV Job => p.j) lv n (by omega) (by omega)).symm
    have hone := hc _ (atI_mem (l := lv) (i := n) (by omega) (by omega))
    have hw : missN l (lv.map (·.j)) ends (n + 1) = if 0 ≤ (atI lv n).j.task ∧ (atI lv n).j.task < l.length ∧ ((respP (lv.map (·.j)) ends n).2 = false ∨ (atI l (atI lv n).j.task).D < (respP (lv.map (·.j)) ends n).1) then missN l (lv.map (·.j)) ends n ++ [(n : Int)] else missN l (lv.map (·.j)) ends n := by
      rw [← e3]; rfl
    have hml := missN_len l (lv.map (·.j)) ends n
    generalize respP (lv.map (·.j)) ends n = r at *
    generalize missN l (lv.map (·.j)) ends n = M at *
    obtain ⟨r1, r2⟩ := r
    cases r2
    all_goals
      simp only [true_or, false_or, and_true, Bool.true_eq_false] at hw
      have Hw := Hid.mk hw
      clear hw
    all_goals clear hs hsj hc e3
    all_goals (repeat' (first | ((with_reducible refine WG_dec (fun _ => ?_) (fun _ => ?_)) <;> try (exfalso; omega)) | ((with_reducible refine WG_decF (fun _ => ?_) (fun _ => ?_)) <;> try (exfalso; omega)) | ((with_reducible refine WC_dec (fun _ => ?_) (fun _ => ?_)) <;> try (exfalso; omega)) | refine WC_bool (fun _ => ?_) (fun _ => ?_) | refine WG_bool (fun _ => ?_) (fun _ => ?_) | refine WG_boolF (fun _ => ?_) (fun _ => ?_) | simp -dsimp (disch := omega) only [↓run_nil, ↓run_i, ↓run_k, ↓run_w, ↓op_st, ↓op_call, ↓co_seq, ↓co_skip, ↓co_exit, ↓co_reg, ↓co_cond, ↓co_block, ↓op_mov, ↓op_pick, ↓op_bin, ↓op_un, ↓op_fld, ↓op_ixs, ↓op_ext, ↓op_lens, ↓op_ld, ↓op_all, ↓op_bsl, ↓op_app, WF_eq, W1_some, WX_some, WH_some1, WC_true, WG_false, WG_tf, ↓ev_t, ↓ev_c, ↓ev_f, ↓upd_at, ↓get_cons, ↓frm_nil, ↓frm_cons, bin_add, bin_lss, bin_gtr, bin_geq, un_not, pick_t, pick_f, cellsV_int, cellsV_agg, one_int, one_slice, fillV_nil, fillV_cons, setCells_nil, setCells_cons, load_ptr, ldO_cells, part_none, store_ptr, stO_cells, fld_ptr, ext_tuple, nt_int, nt_bool, geta0, seta0, newCells, bslV, wrap_i64, eq_self, Bool.not_true, Bool.not_false, List.map_cons, List.map_nil, List.length_append, List.length_cons, List.length_nil, List.all_cons, List.all_nil, Bool.and_self, true_and, and_self, List.getElem?_cons_zero, List.getElem?_cons_succ, List.getD_cons_zero, List.getD_cons_succ, List.set_cons_zero, List.set_cons_succ, List.append_assoc, List.cons_append, List.nil_append, List.append_nil, Option.bind_some, Nat.reduceEqDiff, Nat.reduceAdd, Nat.reduceLeDiff, Nat.reduceMul, Nat.zero_add, Nat.add_zero, ↓reduceIte, reduceCtorEq, decide_true, decide_false, List.flatten_cons, List.flatten_nil, List.replicate_succ, List.replicate_zero, Nat.le_refl, *, hj'.ixs, hj'.lda, hl'.len, hl'.ixs, hl'.ldx, encN, hdJ, encT, hp.le]))
    all_goals first
      | (refine Next.mk (n + 1) ⟨hp.app' _, by omega, rfl, rfl, rfl, rfl, rfl, rfl, ?_⟩ (by omega)
         rw [Hw.out, if_neg (by omega)]; exact ho.app _)
      | (refine Next.mk (n + 1) ⟨hp, by omega, rfl, rfl, rfl, rfl, rfl, rfl, ?_⟩ (by omega)
         rw [Hw.out, if_neg (by omega)]; exact ho)
      | (refine wx_app1 (sz := 1) (bytes := 8) (ho.app _) (hp.app' _) (Nat.le_refl _) (by have := hp.le; simp; omega) (fun b hb => hb) (n : Int) (by simp -dsimp (disch := omega) only [geta, cellsOf_some, cellO_cells, List.length_cons, List.length_nil, List.getElem?_cons_zero, List.getElem?_cons_succ, List.drop_zero, List.take_succ_cons, List.take_zero, Nat.reduceMul, Nat.zero_add, ↓reduceIte, Nat.le_refl]; rfl) rfl (by decide) (by decide) (by omega) ?_
         intro v2 h2 k1 k2 k3 k4 k5
         clear k5
         (repeat' (first | ((with_reducible refine WG_dec (fun _ => ?_) (fun _ => ?_)) <;> try (exfalso; omega)) | ((with_reducible refine WG_decF (fun _ => ?_) (fun _ => ?_)) <;> try (exfalso; omega)) | ((with_reducible refine WC_dec (fun _ => ?_) (fun _ => ?_)) <;> try (exfalso; omega)) | refine WC_bool (fun _ => ?_) (fun _ => ?_) | refine WG_bool (fun _ => ?_) (fun _ => ?_) | refine WG_boolF (fun _ => ?_) (fun _ => ?_) | simp -dsimp (disch := omega) only [↓run_nil, ↓run_i, ↓co_reg, ↓op_mov, ↓op_bin, WF_eq, W1_some, ↓ev_t, ↓ev_c, ↓upd_at, ↓get_cons, ↓frm_nil, ↓frm_cons, bin_add, wrap_i64, eq_self, Nat.reduceEqDiff, ↓reduceIte, reduceCtorEq, *]))
         refine Next.mk (n + 1) ⟨k2, by omega, rfl, rfl, rfl, rfl, rfl, rfl, ?_⟩ (by omega)
         rw [Hw.out, if_pos (by omega)]; exact k1)
  · have : n = lv.length := by omega
    subst this
    (repeat' (first | ((with_reducible refine WG_dec (fun _ => ?_) (fun _ => ?_)) <;> try (exfalso; omega)) | ((with_reducible refine WG_decF (fun _ => ?_) (fun _ => ?_)) <;> try (exfalso; omega)) | ((with_reducible refine WC_dec (fun _ => ?_) (fun _ => ?_)) <;> try (exfalso; omega)) | refine WC_bool (fun _ => ?_) (fun _ => ?_) | refine WG_bool (fun _ => ?_) (fun _ => ?_) | refine WG_boolF (fun _ => ?_) (fun _ => ?_) | simp -dsimp (disch := omega) only [↓run_nil, ↓run_i, ↓co_seq, ↓co_exit, ↓co_ret, ↓co_reg, ↓co_cond, ↓op_mov, ↓op_bin, Res_ret, resL_nil, resL_t, resV_one, WF_eq, W1_some, ↓ev_t, ↓upd_at, ↓get_cons, ↓frm_nil, ↓frm_cons, bin_lss, eq_self, Option.map_some, Nat.reduceEqDiff, ↓reduceIte, reduceCtorEq, *]))
    exact ⟨hp.ex, ho.rd⟩
theorem misses11 (hE : Laid E) {h : Heap} {vl vj ve : Value} {l : List Task} {lv : List (NV Job)} {ends : List Int} (hl : Rd 7 encT h vl l) (hj : Rd 5 (encN hdJ) h vj lv) (hc : ∀ p ∈ lv, oneCell p.v = true) (he : Rd 1 encI h ve ends) (hs : Small ends) (hsj : SmallJ (lv.map (·.j))) (hn : lv.length ≤ 1099511627776) :
    ∃ v ys, callW E (.func (.func n_cadencyref11_Misses) #[] #[]) [vl, vj, ve] h = some (v, h ++ ys, []) ∧ Rd 1 encI (h ++ ys) v (missN l (lv.map (·.j)) ends lv.length) := by
  refine fn_new hE.cadencyref11_Misses rfl (Rd.movable flatI _) (by simp) ?_
  have few := hj.few
  have fewl := hl.few
  simp only [argsF]
  (repeat' (first | ((with_reducible refine WG_dec (fun _ => ?_) (fun _ => ?_)) <;> try (exfalso; omega)) | ((with_reducible refine WG_decF (fun _ => ?_) (fun _ => ?_)) <;> try (exfalso; omega)) | ((with_reducible refine WC_dec (fun _ => ?_) (fun _ => ?_)) <;> try (exfalso; omega)) | refine WC_bool (fun _ => ?_) (fun _ => ?_) | refine WG_bool (fun _ => ?_) (fun _ => ?_) | refine WG_boolF (fun _ => ?_) (fun _ => ?_) | simp -dsimp (disch := omega) only [↓run_nil, ↓run_i, ↓co_seq, ↓co_reg, ↓co_block, ↓co_loop, ↓op_mov, WF_eq, W1_some, ↓ev_c, ↓upd_at, ↓get_cons, ↓frm_nil, ↓frm_cons, eq_self, Nat.reduceEqDiff, Nat.reduceAdd, Nat.zero_add, ↓reduceIte, reduceCtorEq, *]))
  refine WO.loop (fun n fr h' => Pre h h' ∧ n ≤ lv.length ∧ get fr 0 = vl ∧ get fr 1 = vj ∧ get fr 2 = ve ∧ get fr 8 = .int .i64 n ∧ OwnT h.length 1 encI h' (get fr 7) (missN l (lv.map (·.j)) ends n)) (fun n => lv.length - n) ?_ 0 ⟨Pre.refl _, Nat.zero_le _, rfl, rfl, rfl, rfl, OwnT.nil⟩
  rintro n fr h' ⟨hp, hn', g0, g1, g2, g8, ho⟩
  generalize hvo : get fr 7 = vo at ho
  unfold c_cadencyref11_Misses_l0
  rcases Nat.lt_or_ge n lv.length with hlt | hge
  · have hj' := hj.pre hp
    have hl' := hl.pre hp
    have hresp := fun x => response11 hE (hj'.app x) ((he.pre hp).app x) hs hsj n
    have hresp0 := response11 hE hj' (he.pre hp) hs hsj n
    have e3 : atI (lv.map (·.j)) (n : Int) = (atI lv n).j := (atI_map' (fun p : NV Job => p.j) lv n (by omega) (by omega)).symm
    have hone := hc _ (atI_mem (l := lv) (i := n) (by omega) (by omega))
    have hw : missN l (lv.map (·.j)) ends (n + 1) = if 0 ≤ (atI lv n).j.task ∧ (atI lv n).j.task < l.length ∧ ((respP (lv.map (·.j)) ends n).2 = false ∨ (atI l (atI lv n).j.task).D < (respP (lv.map (·.j)) ends n).1) then missN l (lv.map (·.j)) ends n ++ [(n : Int)] else missN l (lv.map (·.j)) ends n := by
      rw [← e3]; rfl
    have hml := missN_len l (lv.map (·.j)) ends n
    generalize respP (lv.map (·.j)) ends n = r at *
    generalize missN l (lv.map (·.j)) ends n = M at *
    obtain ⟨r1, r2⟩ := r
    cases r2
    all_goals
      simp only [true_or, false_or, and_true, Bool.true_eq_false] at hw
      have Hw := Hid.mk hw
      clear hw
    all_goals clear hs hsj hc e3
    all_goals (repeat' (first | ((with_reducible refine WG_dec (fun _ => ?_) (fun _ => ?_)) <;> try (exfalso; omega)) | ((with_reducible refine WG_decF (fun _ => ?_) (fun _ => ?_)) <;> try (exfalso; omega)) | ((with_reducible refine WC_dec (fun _ => ?_) (fun _ => ?_)) <;> try (exfalso; omega)) | refine WC_bool (fun _ => ?_) (fun _ => ?_) | refine WG_bool (fun _ => ?_) (fun _ => ?_) | refine WG_boolF (fun _ => ?_) (fun _ => ?_) | simp -dsimp (disch := omega) only [↓run_nil, ↓run_i, ↓run_k, ↓rd_nil, ↓rd_i, ↓rd_w, ↓op_st, ↓op_call, ↓co_seq, ↓co_skip, ↓co_reg, ↓co_drw, ↓co_cond, ↓co_block, ↓op_mov, ↓op_bin, ↓op_fld, ↓op_ixs, ↓op_lens, ↓op_ld, ↓op_all, ↓op_bsl, ↓op_app, ↓opd_mov, ↓opd_pick, ↓opd_bin, ↓opd_un, ↓opd_fld, ↓opd_ixs, ↓opd_lens, ↓opd_ld, WF_eq, W1_some, WX_some, WH_some1, WC_true, WC_false, WG_true, WG_false, WG_tf, WG_ft, WG_undef, ↓ev_t, ↓ev_c, ↓ev_f, ↓upd_at, ↓get_cons, ↓frm_nil, ↓frm_cons, bin_add, bin_lss, bin_gtr, bin_geq, un_not, pick_t, pick_f, cellsV_int, cellsV_agg, one_int, one_bool, fillV_nil, fillV_cons, setCells_nil, setCells_cons, load_ptr, ldO_cells, part_none, store_ptr, stO_cells, fld_ptr, geta0, seta0, room0, newCells, bslV, wrap_i64, eq_self, Bool.not_true, Bool.not_false, List.map_cons, List.map_nil, List.length_append, List.length_cons, List.length_nil, List.all_cons, List.all_nil, Bool.and_self, true_and, and_self, List.getElem?_cons_zero, List.getElem?_cons_succ, List.getD_cons_zero, List.getD_cons_succ, List.set_cons_zero, List.set_cons_succ, List.append_assoc, List.cons_append, List.nil_append, List.append_nil, Option.bind_some, Nat.reduceEqDiff, Nat.reduceAdd, Nat.reduceLeDiff, Nat.reduceMul, Nat.zero_add, Nat.add_zero, ↓reduceIte, reduceCtorEq, decide_true, decide_false, List.flatten_cons, List.flatten_nil, List.replicate_succ, List.replicate_zero, Nat.le_refl, *, hj'.len, hj'.ixs, hj'.ld0, hl'.len, hl'.ixs, hl'.ldx, encN, hdJ, encT, hp.le]))
    all_goals first
      | (refine Next.mk (n + 1) ⟨hp.app' _, by omega, rfl, rfl, rfl, rfl, ?_⟩ (by omega)
         rw [Hw.out, if_neg (by omega)]; exact ho.app _)
      | (refine Next.mk (n + 1) ⟨hp, by omega, rfl, rfl, rfl, rfl, ?_⟩ (by omega)
         rw [Hw.out, if_neg (by omega)]; exact ho)
      | (refine wx_app1 (sz := 1) (bytes := 8) (ho.app _) (hp.app' _) (Nat.le_refl _) (by have := hp.le; simp; omega) (fun b hb => hb) (n : Int) (by simp -dsimp (disch := omega) only [geta, cellsOf_some, cellO_cells, List.length_cons, List.length_nil, List.getElem?_cons_zero, List.getElem?_cons_succ, List.drop_zero, List.take_succ_cons, List.take_zero, Nat.reduceMul, Nat.zero_add, ↓reduceIte, Nat.le_refl]; rfl) rfl (by decide) (by decide) (by omega) ?_
         intro v2 h2 k1 k2 k3 k4 k5
         clear k5
         (repeat' (first | ((with_reducible refine WG_dec (fun _ => ?_) (fun _ => ?_)) <;> try (exfalso; omega)) | ((with_reducible refine WG_decF (fun _ => ?_) (fun _ => ?_)) <;> try (exfalso; omega)) | ((with_reducible refine WC_dec (fun _ => ?_) (fun _ => ?_)) <;> try (exfalso; omega)) | refine WC_bool (fun _ => ?_) (fun _ => ?_) | refine WG_bool (fun _ => ?_) (fun _ => ?_) | refine WG_boolF (fun _ => ?_) (fun _ => ?_) | simp -dsimp (disch := omega) only [↓run_nil, ↓run_i, ↓co_reg, ↓op_mov, ↓op_bin, WF_eq, W1_some, ↓ev_t, ↓ev_c, ↓upd_at, ↓get_cons, ↓frm_nil, ↓frm_cons, bin_add, wrap_i64, eq_self, Nat.reduceEqDiff, ↓reduceIte, reduceCtorEq, *]))
         refine Next.mk (n + 1) ⟨k2, by omega, rfl, rfl, rfl, rfl, ?_⟩ (by omega)
         rw [Hw.out, if_pos (by omega)]; exact k1)
  · have : n = lv.length := by omega
    subst this
    (repeat' (first | ((with_reducible refine WG_dec (fun _ => ?_) (fun _ => ?_)) <;> try (exfalso; omega)) | ((with_reducible refine WG_decF (fun _ => ?_) (fun _ => ?_)) <;> try (exfalso; omega)) | ((with_reducible refine WC_dec (fun _ => ?_) (fun _ => ?_)) <;> try (exfalso; omega)) | refine WC_bool (fun _ => ?_) (fun _ => ?_) | refine WG_bool (fun _ => ?_) (fun _ => ?_) | refine WG_boolF (fun _ => ?_) (fun _ => ?_) | simp -dsimp (disch := omega) only [↓run_nil, ↓run_i, ↓co_seq, ↓co_exit, ↓co_ret, ↓co_reg, ↓co_cond, ↓op_mov, ↓op_bin, ↓op_lens, Res_ret, resL_nil, resL_t, resV_one, WF_eq, W1_some, ↓ev_t, ↓upd_at, ↓get_cons, ↓frm_nil, ↓frm_cons, bin_lss, eq_self, Option.map_some, Nat.reduceEqDiff, ↓reduceIte, reduceCtorEq, *, hj.len]))
    exact ⟨hp.ex, ho.rd⟩
end Go.L.Try

/- WHEN JOBS END: cadencyref11.Ends, trace.Ends. -/
set_option linter.unusedVariables false
set_option linter.unusedSimpArgs false
set_option maxRecDepth 100000
set_option maxHeartbeats 2000000
namespace Go.L.Try
open Go Go.L
variable {E : Env}
def SpansOk (l : List Span) : Prop := ∀ x ∈ l, (0 ≤ x.from' ∧ x.from' ≤ 35184372088832) ∧ 0 ≤ x.to' ∧ x.to' ≤ 35184372088832
def endStep (i : Int) (s : Int × Int) (x : Span) : Int × Int :=
  if x.job = i ∧ 0 < x.to' - x.from' ∧ s.2 < 0 then (s.1 - (x.to' - x.from'), if s.1 ≤ x.to' - x.from' then x.from' + s.1 else s.2) else s
def endSt (w i : Int) (l : List Span) : Int × Int := l.foldl (endStep i) (w, -1)
theorem endSt_snoc (w i : Int) (l : List Span) (x : Span) : endSt w i (l ++ [x]) = endStep i (endSt w i l) x := by simp [endSt]
theorem endSt_in {w i : Int} (hw : 1 ≤ w) : ∀ {l : List Span}, SpansOk l → (endSt w i l).1 ≤ w ∧ -35184372088832 ≤ (endSt w i l).1 ∧ -1 ≤ (endSt w i l).2 ∧ (endSt w i l).2 ≤ 70368744177664 ∧ ((endSt w i l).2 < 0 → 1 ≤ (endSt w i l).1) := by
  intro l h
  refine foldl_inv (fun s : Int × Int => s.1 ≤ w ∧ -35184372088832 ≤ s.1 ∧ -1 ≤ s.2 ∧ s.2 ≤ 70368744177664 ∧ (s.2 < 0 → 1 ≤ s.1)) (fun s x hx ih => ?_) ⟨Int.le_refl _, by simp only []; omega, by simp only []; omega, by simp only []; omega, fun _ => hw⟩
  have hx := h x hx
  unfold endStep
  split
  · split <;> simp only [] <;> omega
  · exact ih
def endsP (jobs : List Job) (l : List Span) : List Int := jobs.mapIdx fun i j => (endSt j.work i l).2
/-- The first 'n' jobs' ends. -/
def endsN (jobs : List Job) (l : List Span) : Nat → List Int
  | 0 => []
  | n + 1 => endsN jobs l n ++ [(endSt (atI jobs (n : Int)).work n l).2]
theorem endsN_len (jobs : List Job) (l : List Span) : ∀ n, (endsN jobs l n).length = n
  | 0 => rfl
  | n + 1 => by simp [endsN, endsN_len jobs l n]
theorem ends11_l0 (hE : Laid E) {W : Nat → Prop} {h0 : Heap} {vs : Value} {l : List Span} (hl : Rd 3 encS h0 vs l) (hok : SpansOk l) {w i : Int} (hw : 1 ≤ w) (hw2 : w ≤ 2147483647) {v0 v5 : Value} {Q : Ex → Fr → Heap → Prop} {fr : Fr}
    (g0 : get fr 0 = v0) (g1 : get fr 1 = vs) (g5 : get fr 5 = v5) (g6 : get fr 6 = .int .i64 i) (g7 : get fr 7 = .int .i64 w) (g8 : get fr 8 = .int .i64 (-1)) (g9 : get fr 9 = .int .i64 0)
    (hq : ∀ fr', get fr' 0 = v0 → get fr' 1 = vs → get fr' 5 = v5 → get fr' 6 = .int .i64 i → get fr' 8 = .int .i64 (endSt w i l).2 → Q (.exit 2) fr' h0) :
    WO W (iterW (code (callW E) iterW 72 c_cadencyref11_Ends_l0) fr h0) Q := by
  have few := hl.few
  refine WO.loop (fun n fr h' => h' = h0 ∧ n ≤ l.length ∧ get fr 0 = v0 ∧ get fr 1 = vs ∧ get fr 5 = v5 ∧ get fr 6 = .int .i64 i ∧ get fr 7 = .int .i64 (endSt w i (l.take n)).1 ∧ get fr 8 = .int .i64 (endSt w i (l.take n)).2 ∧ get fr 9 = .int .i64 n) (fun n => l.length - n) ?_ 0 ⟨rfl, Nat.zero_le _, g0, g1, g5, g6, g7, g8, g9⟩
  rintro n fr h' ⟨rfl, hn, g0, g1, g5, g6, g7, g8, g9⟩
  unfold c_cadencyref11_Ends_l0
  rcases Nat.lt_or_ge n l.length with hlt | hge
  · have hx := hok _ (atI_mem (l := l) (i := n) (by omega) (by omega))
    have hi := endSt_in (i := i) hw (l := l.take n) fun y hy => hok y (List.mem_of_mem_take hy)
    have hs : endSt w i (l.take (n + 1)) = endStep i (endSt w i (l.take n)) (atI l (n : Int)) := by rw [take_snoc hlt, endSt_snoc]
    unfold endStep at hs
    generalize endSt w i (l.take n) = s at *
    obtain ⟨s1, s2⟩ := s
    have Hs := Hid.mk hs
    clear hs hq hok
    dsimp only at hi g7 g8
    (repeat' (first | ((with_reducible refine WG_dec (fun _ => ?_) (fun _ => ?_)) <;> try (exfalso; omega)) | ((with_reducible refine WG_decF (fun _ => ?_) (fun _ => ?_)) <;> try (exfalso; omega)) | ((with_reducible refine WC_dec (fun _ => ?_) (fun _ => ?_)) <;> try (exfalso; omega)) | refine WC_bool (fun _ => ?_) (fun _ => ?_) | refine WG_bool (fun _ => ?_) (fun _ => ?_) | refine WG_boolF (fun _ => ?_) (fun _ => ?_) | simp -dsimp (disch := omega) only [↓run_nil, ↓run_i, ↓run_w, ↓rd_nil, ↓rd_i, ↓co_seq, ↓co_skip, ↓co_exit, ↓co_reg, ↓co_drw, ↓co_cond, ↓co_block, ↓op_mov, ↓op_pick, ↓op_bin, ↓op_fld, ↓op_ixs, ↓op_lens, ↓op_ld, ↓opd_mov, ↓opd_bin, ↓opd_fld, ↓opd_ixs, ↓opd_ld, WF_eq, W1_some, WC_true, WG_false, WG_tf, ↓ev_t, ↓ev_c, ↓upd_at, ↓get_cons, ↓frm_nil, ↓frm_cons, bin_add, bin_sub, bin_neq, bin_lss, bin_leq, bin_geq, pick_t, pick_f, load_ptr, fld_ptr, room0, wrap_i64, eq_self, List.getD_cons_zero, List.getD_cons_succ, Nat.reduceEqDiff, Nat.add_zero, ↓reduceIte, reduceCtorEq, decide_true, decide_false, not_false_eq_true, *, hl.len, hl.ixs, hl.ld, hl.ld0, encS]))
    all_goals
      refine Next.mk (n + 1) ⟨rfl, by omega, rfl, rfl, rfl, rfl, ?_, ?_, rfl⟩ (by omega)
      all_goals
        rw [Hs.out]
        first
          | (rw [if_pos (by omega), if_pos (by omega)]; rfl)
          | (rw [if_pos (by omega), if_neg (by omega)]; rfl)
          | (rw [if_pos (by omega)]; rfl)
          | (rw [if_neg (by omega)]; rfl)
  · have e : l.take n = l := List.take_of_length_le (by omega)
    rw [e] at g8
    (repeat' (first | ((with_reducible refine WG_dec (fun _ => ?_) (fun _ => ?_)) <;> try (exfalso; omega)) | ((with_reducible refine WG_decF (fun _ => ?_) (fun _ => ?_)) <;> try (exfalso; omega)) | ((with_reducible refine WC_dec (fun _ => ?_) (fun _ => ?_)) <;> try (exfalso; omega)) | refine WC_bool (fun _ => ?_) (fun _ => ?_) | refine WG_bool (fun _ => ?_) (fun _ => ?_) | refine WG_boolF (fun _ => ?_) (fun _ => ?_) | simp -dsimp (disch := omega) only [↓run_nil, ↓run_i, ↓co_seq, ↓co_exit, ↓co_reg, ↓co_cond, ↓op_mov, ↓op_bin, ↓op_lens, WF_eq, W1_some, ↓ev_t, ↓upd_at, ↓get_cons, ↓frm_nil, ↓frm_cons, bin_lss, eq_self, Nat.reduceEqDiff, ↓reduceIte, reduceCtorEq, decide_false, *, hl.len]))
    exact hq _ rfl rfl rfl rfl rfl
theorem ends11 (hE : Laid E) {h : Heap} {vj vs : Value} {lv : List (NV Job)} {l : List Span} (hj : Rd 5 (encN hdJ) h vj lv) (hl : Rd 3 encS h vs l) (hok : SpansOk l) (hw : ∀ j ∈ lv.map (·.j), 1 ≤ j.work ∧ j.work ≤ 2147483647) (hn : lv.length ≤ 1099511627776) :
    ∃ v ys, callW E (.func (.func n_cadencyref11_Ends) #[] #[]) [vj, vs] h = some (v, h ++ ys, []) ∧ Rd 1 encI (h ++ ys) v (endsN (lv.map (·.j)) l lv.length) := by
  refine fn_new hE.cadencyref11_Ends rfl (Rd.movable flatI _) (by simp) ?_
  have few := hj.few
  simp only [argsF]
  (repeat' (first | ((with_reducible refine WG_dec (fun _ => ?_) (fun _ => ?_)) <;> try (exfalso; omega)) | ((with_reducible refine WG_decF (fun _ => ?_) (fun _ => ?_)) <;> try (exfalso; omega)) | ((with_reducible refine WC_dec (fun _ => ?_) (fun _ => ?_)) <;> try (exfalso; omega)) | refine WC_bool (fun _ => ?_) (fun _ => ?_) | refine WG_bool (fun _ => ?_) (fun _ => ?_) | refine WG_boolF (fun _ => ?_) (fun _ => ?_) | simp -dsimp (disch := omega) only [↓run_nil, ↓run_i, ↓co_seq, ↓co_reg, ↓co_block, ↓co_loop, ↓op_mov, WF_eq, W1_some, ↓ev_c, ↓upd_at, ↓get_cons, ↓frm_nil, ↓frm_cons, eq_self, Nat.reduceEqDiff, Nat.zero_add, ↓reduceIte, reduceCtorEq, *]))
  refine WO.loop (fun n fr h' => Pre h h' ∧ n ≤ lv.length ∧ get fr 0 = vj ∧ get fr 1 = vs ∧ get fr 6 = .int .i64 n ∧ OwnT h.length 1 encI h' (get fr 5) (endsN (lv.map (·.j)) l n)) (fun n => lv.length - n) ?_ 0 ⟨Pre.refl _, Nat.zero_le _, rfl, rfl, rfl, OwnT.nil⟩
  rintro n fr h' ⟨hp, hn', g0, g1, g6, ho⟩
  generalize hvo : get fr 5 = vo at ho
  unfold c_cadencyref11_Ends_l1
  rcases Nat.lt_or_ge n lv.length with hlt | hge
  · have hj' := hj.pre hp
    have e3 : atI (lv.map (·.j)) (n : Int) = (atI lv n).j := (atI_map' (fun p : NV Job => p.j) lv n (by omega) (by omega)).symm
    have hwn := hw _ (List.mem_map_of_mem (atI_mem (l := lv) (i := n) (by omega) (by omega)))
    have hml := endsN_len (lv.map (·.j)) l n
    have hs : endsN (lv.map (·.j)) l (n + 1) = endsN (lv.map (·.j)) l n ++ [(endSt (atI lv n).j.work n l).2] := by rw [← e3]; rfl
    have Hs := Hid.mk hs
    clear hs e3 hw
    generalize endsN (lv.map (·.j)) l n = M at *
    (repeat' (first | ((with_reducible refine WG_dec (fun _ => ?_) (fun _ => ?_)) <;> try (exfalso; omega)) | ((with_reducible refine WG_decF (fun _ => ?_) (fun _ => ?_)) <;> try (exfalso; omega)) | ((with_reducible refine WC_dec (fun _ => ?_) (fun _ => ?_)) <;> try (exfalso; omega)) | refine WC_bool (fun _ => ?_) (fun _ => ?_) | refine WG_bool (fun _ => ?_) (fun _ => ?_) | refine WG_boolF (fun _ => ?_) (fun _ => ?_) | simp -dsimp (disch := omega) only [↓run_nil, ↓run_i, ↓co_seq, ↓co_skip, ↓co_reg, ↓co_cond, ↓co_block, ↓co_loop, ↓op_mov, ↓op_bin, ↓op_fld, ↓op_ixs, ↓op_lens, ↓op_ld, WF_eq, W1_some, ↓ev_t, ↓ev_c, ↓upd_at, ↓get_cons, ↓frm_nil, ↓frm_cons, bin_lss, load_ptr, fld_ptr, eq_self, List.getD_cons_zero, List.getD_cons_succ, List.cons_append, List.nil_append, Nat.reduceEqDiff, ↓reduceIte, reduceCtorEq, *, hj'.len, hj'.ixs, hj'.ld, encN, hdJ]))
    refine ends11_l0 hE (hl.pre hp) hok hwn.1 hwn.2 rfl rfl rfl rfl rfl rfl rfl fun fr' q0 q1 q5 q6 q8 => ?_
    (repeat' (first | ((with_reducible refine WG_dec (fun _ => ?_) (fun _ => ?_)) <;> try (exfalso; omega)) | ((with_reducible refine WG_decF (fun _ => ?_) (fun _ => ?_)) <;> try (exfalso; omega)) | ((with_reducible refine WC_dec (fun _ => ?_) (fun _ => ?_)) <;> try (exfalso; omega)) | refine WC_bool (fun _ => ?_) (fun _ => ?_) | refine WG_bool (fun _ => ?_) (fun _ => ?_) | refine WG_boolF (fun _ => ?_) (fun _ => ?_) | simp -dsimp (disch := omega) only [↓run_i, ↓co_reg, ↓op_mov, ↓op_bsl, ↓op_app, WF_eq, W1_some, ↓ev_t, ↓upd_at, ↓get_cons, cellsV_int, one_int, fillV_nil, fillV_cons, setCells_nil, setCells_cons, newCells, bslV, eq_self, List.map_cons, List.map_nil, List.length_cons, List.length_nil, List.all_cons, List.all_nil, Bool.and_self, and_self, List.set_cons_zero, List.append_nil, Option.bind_some, Nat.reduceEqDiff, Nat.reduceLeDiff, Nat.reduceMul, Nat.zero_add, ↓reduceIte, reduceCtorEq, List.flatten_cons, List.flatten_nil, List.replicate_succ, List.replicate_zero, Nat.le_refl, *]))
    refine wx_app1 (sz := 1) (bytes := 8) (ho.app _) (hp.app' _) (Nat.le_refl _) (by have := hp.le; simp; omega) (fun b hb => hb) (endSt (atI lv n).j.work n l).2 (by simp -dsimp (disch := omega) only [geta0, cellsOf_some, cellO_cells, List.length_cons, List.length_nil, List.getElem?_cons_zero, List.drop_zero, List.take_succ_cons, List.take_zero, Nat.reduceMul, Nat.zero_add, ↓reduceIte, Nat.le_refl]; rfl) rfl (by decide) (by decide) (by omega) ?_
    intro v2 h2 k1 k2 k3 k4 k5
    clear k5
    (repeat' (first | ((with_reducible refine WG_dec (fun _ => ?_) (fun _ => ?_)) <;> try (exfalso; omega)) | ((with_reducible refine WG_decF (fun _ => ?_) (fun _ => ?_)) <;> try (exfalso; omega)) | ((with_reducible refine WC_dec (fun _ => ?_) (fun _ => ?_)) <;> try (exfalso; omega)) | refine WC_bool (fun _ => ?_) (fun _ => ?_) | refine WG_bool (fun _ => ?_) (fun _ => ?_) | refine WG_boolF (fun _ => ?_) (fun _ => ?_) | simp -dsimp (disch := omega) only [↓run_nil, ↓run_i, ↓co_reg, ↓op_mov, ↓op_bin, WF_eq, W1_some, ↓ev_t, ↓ev_c, ↓upd_at, ↓get_cons, ↓frm_nil, ↓frm_cons, bin_add, wrap_i64, eq_self, Nat.reduceEqDiff, ↓reduceIte, reduceCtorEq, *]))
    refine Next.mk (n + 1) ⟨k2, by omega, rfl, rfl, rfl, ?_⟩ (by omega)
    rw [Hs.out]; exact k1
  · have : n = lv.length := by omega
    subst this
    (repeat' (first | ((with_reducible refine WG_dec (fun _ => ?_) (fun _ => ?_)) <;> try (exfalso; omega)) | ((with_reducible refine WG_decF (fun _ => ?_) (fun _ => ?_)) <;> try (exfalso; omega)) | ((with_reducible refine WC_dec (fun _ => ?_) (fun _ => ?_)) <;> try (exfalso; omega)) | refine WC_bool (fun _ => ?_) (fun _ => ?_) | refine WG_bool (fun _ => ?_) (fun _ => ?_) | refine WG_boolF (fun _ => ?_) (fun _ => ?_) | simp -dsimp (disch := omega) only [↓run_nil, ↓run_i, ↓co_seq, ↓co_exit, ↓co_ret, ↓co_reg, ↓co_cond, ↓op_mov, ↓op_bin, ↓op_lens, Res_ret, resL_nil, resL_t, resV_one, WF_eq, W1_some, ↓ev_t, ↓upd_at, ↓get_cons, ↓frm_nil, ↓frm_cons, bin_lss, eq_self, Option.map_some, Nat.reduceEqDiff, ↓reduceIte, reduceCtorEq, *, hj.len]))
    exact ⟨hp.ex, ho.rd⟩
end Go.L.Try

/- WHEN JOBS END: trace.Ends. -/
set_option linter.unusedVariables false
set_option linter.unusedSimpArgs false
set_option maxRecDepth 100000
set_option maxHeartbeats 2000000
namespace Go.L.Try
open Go Go.L
variable {E : Env}
theorem endsN_at (jobs : List Job) (l : List Span) : ∀ {n i : Nat}, i < n → atI (endsN jobs l n) (i : Int) = (endSt (atI jobs (i : Int)).work i l).2
  | 0, i, h => by omega
  | n + 1, i, h => by
    have hl := endsN_len jobs l n
    by_cases e : i = n
    · subst e
      rw [endsN, atI_nat (by simp [hl])]
      rw [List.getElem_append_right (by omega)]; simp [hl]
    · have := endsN_at jobs l (n := n) (i := i) (by omega)
      rw [← this, endsN, atI_nat (by simp [hl]; omega), atI_nat (by omega : i < (endsN jobs l n).length), List.getElem_append_left (by omega)]
theorem endsN_upd {jobs : List Job} {l l' : List Span} {n k : Nat} (hk : k < n) (h : ∀ i : Nat, i < n → i ≠ k → (endSt (atI jobs (i : Int)).work i l').2 = (endSt (atI jobs (i : Int)).work i l).2) : endsN jobs l' n = (endsN jobs l n).set k (endSt (atI jobs (k : Int)).work k l').2 := by
  have h1 := endsN_len jobs l n
  have h2 := endsN_len jobs l' n
  apply List.ext_getElem
  · simp [h1, h2]
  · intro i h3 h4
    have e1 := endsN_at jobs l' (n := n) (i := i) (by omega)
    rw [atI_nat (by omega)] at e1
    rw [e1, List.getElem_set]
    by_cases e : k = i
    · subst e; rw [if_pos rfl]
    · rw [if_neg e, h i (by omega) (fun h => e h.symm)]
      have e2 := endsN_at jobs l (n := n) (i := i) (by omega)
      rw [atI_nat (by omega)] at e2; exact e2.symm
theorem endsN_same {jobs : List Job} {l l' : List Span} {n : Nat} (h : ∀ i : Nat, i < n → (endSt (atI jobs (i : Int)).work i l').2 = (endSt (atI jobs (i : Int)).work i l).2) : endsN jobs l' n = endsN jobs l n := by
  have h1 := endsN_len jobs l n
  have h2 := endsN_len jobs l' n
  apply List.ext_getElem
  · simp [h1, h2]
  · intro i h3 h4
    have e1 := endsN_at jobs l' (n := n) (i := i) (by omega)
    rw [atI_nat (by omega)] at e1
    have e2 := endsN_at jobs l (n := n) (i := i) (by omega)
    rw [atI_nat (by omega)] at e2
    rw [e1, e2, h i (by omega)]
theorem ends_l0 (hE : Laid E) {W : Nat → Prop} {h0 : Heap} {b n : Nat} (hW : W b) (hn : n ≤ 1099511627776) (hb : h0[b]? = some (icells (List.replicate n 0))) {v0 v1 v6 : Value} {Q : Ex → Fr → Heap → Prop} {fr : Fr}
    (g0 : get fr 0 = v0) (g1 : get fr 1 = v1) (g5 : get fr 5 = .slice (some ⟨b, 0, none⟩) n n) (g6 : get fr 6 = v6) (g17 : get fr 17 = .int .i64 n) (g18 : get fr 18 = .int .i64 0)
    (hq : ∀ fr', get fr' 0 = v0 → get fr' 1 = v1 → get fr' 5 = .slice (some ⟨b, 0, none⟩) n n → get fr' 6 = v6 → Q (.exit 0) fr' (h0.set b (icells (List.replicate n (-1))))) :
    WO W (iterW (code (callW E) iterW 88 c_trace_Ends_l0) fr h0) Q := by
  have hlt := (List.getElem?_eq_some_iff.1 hb).1
  have hfill : ∀ k, k ≤ n → (List.replicate k (-1 : Int) ++ List.replicate (n - k) 0).length = n := fun k hk => by simp; omega
  have hsame : h0 = h0.set b (icells (List.replicate 0 (-1 : Int) ++ List.replicate (n - 0) 0)) := by
    apply List.ext_getElem?
    intro j
    by_cases e : b = j
    · subst e; rw [List.getElem?_set_self hlt]; simpa using hb
    · rw [gets e]
  refine WO.loop (fun k fr h' => h' = h0.set b (icells (List.replicate k (-1 : Int) ++ List.replicate (n - k) 0)) ∧ k ≤ n ∧ get fr 0 = v0 ∧ get fr 1 = v1 ∧ get fr 5 = .slice (some ⟨b, 0, none⟩) n n ∧ get fr 6 = v6 ∧ get fr 17 = .int .i64 n ∧ get fr 18 = .int .i64 k) (fun k => n - k) ?_ 0 ⟨hsame, Nat.zero_le _, g0, g1, g5, g6, g17, g18⟩
  clear hsame
  rintro k fr h' ⟨rfl, hk, g0, g1, g5, g6, g17, g18⟩
  have hb1 : (h0.set b (icells (List.replicate k (-1 : Int) ++ List.replicate (n - k) 0)))[b]? = some (icells (List.replicate k (-1 : Int) ++ List.replicate (n - k) 0)) := List.getElem?_set_self hlt
  have hl1 := Hid.mk (hfill k hk)
  clear hfill
  unfold c_trace_Ends_l0
  rcases Nat.lt_or_ge k n with hlt' | hge
  · have hl2 := hl1.out
    have hst := fun (h : Heap) => ints_st (h := h) (b := b) (l := List.replicate k (-1 : Int) ++ List.replicate (n - k) 0) (i := k) (x := -1) (by omega) (by omega)
    clear hl2
    (repeat' (first | ((with_reducible refine WG_dec (fun _ => ?_) (fun _ => ?_)) <;> try (exfalso; omega)) | ((with_reducible refine WG_decF (fun _ => ?_) (fun _ => ?_)) <;> try (exfalso; omega)) | ((with_reducible refine WC_dec (fun _ => ?_) (fun _ => ?_)) <;> try (exfalso; omega)) | refine WC_bool (fun _ => ?_) (fun _ => ?_) | refine WG_bool (fun _ => ?_) (fun _ => ?_) | refine WG_boolF (fun _ => ?_) (fun _ => ?_) | simp -dsimp (disch := omega) only [↓run_nil, ↓run_i, ↓run_k, ↓op_st, ↓co_seq, ↓co_skip, ↓co_reg, ↓co_cond, ↓co_block, ↓op_mov, ↓op_bin, ↓op_ixs, WF_eq, W1_some, WH_some1, ↓ev_t, ↓ev_c, ↓upd_at, ↓get_cons, ↓frm_nil, ↓frm_cons, bin_add, bin_lss, cellsV_int, store_ptr, ixs_some, wrap_i64, eq_self, true_and, Nat.reduceEqDiff, Nat.zero_add, ↓reduceIte, reduceCtorEq, *, List.set_set]))
    refine Next.mk (k + 1) ⟨?_, by omega, rfl, rfl, rfl, rfl, rfl, rfl⟩ (by omega)
    rw [show ((k : Int)).toNat = k by omega, rep_set hlt']
  · have : k = n := by omega
    subst this
    simp only [Nat.sub_self, List.replicate_zero, List.append_nil] at *
    (repeat' (first | ((with_reducible refine WG_dec (fun _ => ?_) (fun _ => ?_)) <;> try (exfalso; omega)) | ((with_reducible refine WG_decF (fun _ => ?_) (fun _ => ?_)) <;> try (exfalso; omega)) | ((with_reducible refine WC_dec (fun _ => ?_) (fun _ => ?_)) <;> try (exfalso; omega)) | refine WC_bool (fun _ => ?_) (fun _ => ?_) | refine WG_bool (fun _ => ?_) (fun _ => ?_) | refine WG_boolF (fun _ => ?_) (fun _ => ?_) | simp -dsimp (disch := omega) only [↓run_nil, ↓run_i, ↓co_seq, ↓co_exit, ↓co_reg, ↓co_cond, ↓op_bin, WF_eq, W1_some, ↓ev_t, ↓upd_at, ↓get_cons, ↓frm_nil, ↓frm_cons, bin_lss, eq_self, Nat.reduceEqDiff, ↓reduceIte, reduceCtorEq, decide_false, *]))
    exact hq _ rfl rfl rfl rfl
/-- How the heap stands after some spans. -/
structure EndHeap (h h' : Heap) (jobs : List Job) (l : List Span) (es : List (Value × Value)) : Prop where
  pre : Pre h h'
  len : h.length + 2 ≤ h'.length
  out : h'[h.length]? = some (icells (endsN jobs l jobs.length))
  map : h'[h.length + 1]? = some (.map es)
  keys : IKeys .i64 es
  ran : ∀ i : Nat, i < jobs.length → (mapI .i64 es i).getD (.int .i64 0) = .int .i64 ((atI jobs (i : Int)).work - (endSt (atI jobs (i : Int)).work i l).1)
theorem EndHeap.go {h h' h2 : Heap} {jobs : List Job} {l l' : List Span} {es : List (Value × Value)} (e : EndHeap h h' jobs l es) (hp : ∀ b, b < h'.length → h2[b]? = h'[b]?) (hl : h'.length ≤ h2.length) (hs : ∀ i : Nat, i < jobs.length → endSt (atI jobs (i : Int)).work i l' = endSt (atI jobs (i : Int)).work i l) : EndHeap h h2 jobs l' es := by
  have h1 := e.len
  refine ⟨fun b o hb => ?_, by omega, ?_, ?_, e.keys, fun i hi => ?_⟩
  · have h3 := e.pre b o hb
    rw [hp b (List.getElem?_eq_some_iff.1 h3).1]; exact h3
  · rw [hp _ (by omega), endsN_same (l := l) fun i hi => by rw [hs i hi]]; exact e.out
  · rw [hp _ (by omega)]; exact e.map
  · rw [hs i hi]; exact e.ran i hi
theorem ends_l1 (hE : Laid E) {h : Heap} {vj vs : Value} {lv : List (NV Job)} {l : List Span} (hj : Rd 5 (encN hdJ) h vj lv) (hl : Rd 3 encS h vs l) (hok : SpansOk l) (hw : ∀ j ∈ lv.map (·.j), 1 ≤ j.work ∧ j.work ≤ 2147483647) (hn : lv.length ≤ 1099511627776) {h0 : Heap} (hh0 : EndHeap h h0 (lv.map (·.j)) [] []) {Q : Ex → Fr → Heap → Prop} {fr : Fr}
    (g0 : get fr 0 = vj) (g5 : get fr 5 = .slice (some ⟨h.length, 0, none⟩) lv.length lv.length) (g6 : get fr 6 = .map (some (h.length + 1))) (g25 : get fr 25 = vs) (g26 : get fr 26 = .int .i64 l.length) (g27 : get fr 27 = .int .i64 0)
    (hq : ∀ fr' h' es, get fr' 5 = .slice (some ⟨h.length, 0, none⟩) lv.length lv.length → EndHeap h h' (lv.map (·.j)) l es → Q (.exit 2) fr' h') :
    WO (fun b => h.length ≤ b) (iterW (code (callW E) iterW 88 c_trace_Ends_l1) fr h0) Q := by
  have few := hl.few
  have fewj := hj.few
  refine WO.loop (fun n fr h' => n ≤ l.length ∧ get fr 0 = vj ∧ get fr 5 = .slice (some ⟨h.length, 0, none⟩) lv.length lv.length ∧ get fr 6 = .map (some (h.length + 1)) ∧ get fr 25 = vs ∧ get fr 26 = .int .i64 l.length ∧ get fr 27 = .int .i64 n ∧ ∃ es, EndHeap h h' (lv.map (·.j)) (l.take n) es) (fun n => l.length - n) ?_ 0 ⟨Nat.zero_le _, g0, g5, g6, g25, g26, g27, [], hh0⟩
  clear hh0
  rintro n fr h' ⟨hn', g0, g5, g6, g25, g26, g27, es, hh⟩
  unfold c_trace_Ends_l1
  rcases Nat.lt_or_ge n l.length with hlt | hge
  · have hl' := hl.pre hh.pre
    have hj' := hj.pre hh.pre
    have hx := hok _ (atI_mem (l := l) (i := n) (by omega) (by omega))
    have hlen := hh.len
    have hout := hh.out
    have hmap := hh.map
    have hol := endsN_len (lv.map (·.j)) (l.take n) (lv.map (·.j)).length
    have hoat := fun i => endsN_at (lv.map (·.j)) (l.take n) (n := (lv.map (·.j)).length) (i := i)
    rw [List.length_map] at hol hoat hout
    have hsnoc := fun (w i : Int) => endSt_snoc w i (l.take n) (atI l (n : Int))
    rw [← take_snoc hlt] at hsnoc
    have Hsnoc := Hid.mk hsnoc
    have Hoat := Hid.mk hoat
    have hol1 : (endsN (lv.map (·.j)) (l.take n) lv.length).length ≤ lv.length := by omega
    have hol2 : lv.length ≤ (endsN (lv.map (·.j)) (l.take n) lv.length).length := by omega
    clear hsnoc hoat hq hol
    have hx0 : ∀ l : Heap, (h' ++ l)[h.length]? = h'[h.length]? := fun l => List.getElem?_append_left (by omega)
    have hx1 : ∀ l : Heap, (h' ++ l)[h.length + 1]? = h'[h.length + 1]? := fun l => List.getElem?_append_left (by omega)
    by_cases hjob : 0 ≤ (atI l (n : Int)).job ∧ (atI l (n : Int)).job < lv.length
    · obtain ⟨k, hk⟩ : ∃ k : Nat, (atI l (n : Int)).job = k := ⟨(atI l (n : Int)).job.toNat, by omega⟩
      have hkl : k < lv.length := by omega
      have hkm : k < (lv.map (·.j)).length := by simpa using hkl
      have e3 : atI (lv.map (·.j)) (k : Int) = (atI lv k).j := (atI_map' (fun p : NV Job => p.j) lv k (by omega) (by omega)).symm
      have hwk := hw _ (List.mem_map_of_mem (atI_mem (l := lv) (i := k) (by omega) (by omega)))
      have hi := endSt_in (i := k) hwk.1 (l := l.take n) fun y hy => hok y (List.mem_of_mem_take hy)
      have hran := hh.ran k hkm
      have hoat := Hoat.out k hkl
      have hs := Hsnoc.out (atI lv k).j.work k
      have hother : ∀ i : Nat, i < (List.map (fun x : NV Job => x.j) lv).length → i ≠ k → endSt (atI (List.map (fun x : NV Job => x.j) lv) (i : Int)).work i (l.take (n + 1)) = endSt (atI (List.map (fun x : NV Job => x.j) lv) (i : Int)).work i (l.take n) := fun i hi hik => by
        rw [Hsnoc.out, endStep, if_neg (by rw [hk]; omega)]
      rw [e3] at hran hoat
      unfold endStep at hs
      generalize hst : endSt (atI lv k).j.work k (l.take n) = s at *
      obtain ⟨s1, s2⟩ := s
      dsimp only at hi hran hoat
      obtain ⟨es', hp1, hp2, hp3⟩ := put_int (.int .i64 ((atI lv k).j.work - s1 + ((atI l (n : Int)).to' - (atI l (n : Int)).from'))) hh.keys (k : Int)
      have hlk := fun z n => lk_int hh.keys z n
      have hmp := fun h r => mp_int hp1 h r
      have Hs := Hid.mk hs
      have Hot := Hid.mk hother
      have Hp3 := Hid.mk hp3
      have Hst := Hid.mk hst
      have E3 := Hid.mk e3
      clear hs hother hp3 hst hok hw hjob e3
      (repeat' (first | ((with_reducible refine WG_dec (fun _ => ?_) (fun _ => ?_)) <;> try (exfalso; omega)) | ((with_reducible refine WG_decF (fun _ => ?_) (fun _ => ?_)) <;> try (exfalso; omega)) | ((with_reducible refine WC_dec (fun _ => ?_) (fun _ => ?_)) <;> try (exfalso; omega)) | refine WC_bool (fun _ => ?_) (fun _ => ?_) | refine WG_bool (fun _ => ?_) (fun _ => ?_) | refine WG_boolF (fun _ => ?_) (fun _ => ?_) | simp -dsimp (disch := omega) only [↓run_nil, ↓run_i, ↓run_k, ↓run_w, ↓rd_nil, ↓rd_i, ↓op_st, ↓co_seq, ↓co_skip, ↓co_exit, ↓co_reg, ↓co_drw, ↓co_cond, ↓co_block, ↓op_mov, ↓op_pick, ↓op_bin, ↓op_fld, ↓op_ixs, ↓op_lens, ↓op_ld, ↓op_look, ↓op_all, ↓op_mup, ↓opd_mov, ↓opd_bin, ↓opd_fld, ↓opd_ixs, ↓opd_ld, ↓opd_look, WF_eq, W1_some, WX_some1, WH_some1, WC_true, WG_false, WG_tf, ↓ev_t, ↓ev_c, ↓upd_at, ↓get_cons, ↓frm_nil, ↓frm_cons, bin_add, bin_sub, bin_lss, bin_leq, bin_geq, pick_t, pick_f, cellsV_int, cellsV_agg, one_int, setCells_nil, setCells_cons, load_ptr, ldO_cells, part_none, store_ptr, stO_cells, fld_ptr, ixs_some, geta0, seta0, room0, newCells, wrap_i64, eq_self, look_map, mup_map, gets, ints_ld, ints_st, List.length_cons, List.length_nil, List.all_cons, List.all_nil, Bool.and_self, true_and, and_self, List.getElem?_cons_zero, List.getElem?_cons_succ, List.getD_cons_zero, List.getD_cons_succ, List.set_cons_zero, List.set_cons_succ, List.cons_append, List.nil_append, Nat.reduceEqDiff, Nat.reduceAdd, Nat.zero_add, Nat.add_zero, ↓reduceIte, reduceCtorEq, decide_true, decide_false, Nat.le_refl, Nat.le_add_right, *, hl'.ixs, hl'.lda, hj'.len, hj'.ixs, hj'.ldx, encS, encN, hdJ, hh.pre.le]))
      all_goals first
        | (refine Next.mk (n + 1) ⟨by omega, rfl, rfl, rfl, rfl, rfl, rfl, es, hh.go (fun b hb => List.getElem?_append_left hb) (by simp) fun i hi => ?_⟩ (by omega)
           by_cases e : i = k
           · subst e; rw [E3.out, Hs.out, Hst.out, if_neg (by omega)]
           · exact Hot.out i hi e)
        | skip
      · refine Next.mk (n + 1) ⟨by omega, rfl, rfl, rfl, rfl, rfl, rfl, es', ⟨((hh.pre.app' _).set (by omega) _).set (by omega) _, by simp only [List.length_set, List.length_append]; omega, ?_, ?_, hp2, fun i hi => ?_⟩⟩ (by omega)
        · rw [gets (by omega), gset (by simp only [List.length_append]; omega), endsN_upd (l := l.take n) hkm fun i hi hik => by rw [Hot.out i hi hik]]
          rw [E3.out, Hs.out, if_pos (by omega), if_pos (by omega), List.length_map]
          rw [show (atI l (n : Int)).from' + ((atI lv (k : Int)).j.work - ((atI lv (k : Int)).j.work - s1)) = (atI l (n : Int)).from' + s1 by omega]
          rfl
        · exact gset (by simp only [List.length_set, List.length_append]; omega)
        · rw [Hp3.out]
          by_cases e : i = k
          · subst e
            rw [if_pos rfl, E3.out, Hs.out, if_pos (by omega)]
            show Value.int .i64 _ = Value.int .i64 _
            congr 1; dsimp only; omega
          · rw [if_neg (by omega), Hot.out i hi e]; exact hh.ran i hi
      · refine Next.mk (n + 1) ⟨by omega, rfl, rfl, rfl, rfl, rfl, rfl, es', ⟨(hh.pre.app' _).set (by omega) _, by simp only [List.length_set, List.length_append]; omega, ?_, ?_, hp2, fun i hi => ?_⟩⟩ (by omega)
        · rw [gets (by omega), hx0, endsN_same (l := l.take n) fun i hi => ?_]
          · exact hh.out
          · by_cases e : i = k
            · subst e; rw [E3.out, Hs.out, if_pos (by omega), if_neg (by omega), Hst.out]
            · rw [Hot.out i hi e]
        · exact gset (by simp only [List.length_append]; omega)
        · rw [Hp3.out]
          by_cases e : i = k
          · subst e
            rw [if_pos rfl, E3.out, Hs.out, if_pos (by omega)]
            show Value.int .i64 _ = Value.int .i64 _
            congr 1; dsimp only; omega
          · rw [if_neg (by omega), Hot.out i hi e]; exact hh.ran i hi
    · (repeat' (first | ((with_reducible refine WG_dec (fun _ => ?_) (fun _ => ?_)) <;> try (exfalso; omega)) | ((with_reducible refine WG_decF (fun _ => ?_) (fun _ => ?_)) <;> try (exfalso; omega)) | ((with_reducible refine WC_dec (fun _ => ?_) (fun _ => ?_)) <;> try (exfalso; omega)) | refine WC_bool (fun _ => ?_) (fun _ => ?_) | refine WG_bool (fun _ => ?_) (fun _ => ?_) | refine WG_boolF (fun _ => ?_) (fun _ => ?_) | simp -dsimp (disch := omega) only [↓run_nil, ↓run_i, ↓run_k, ↓run_w, ↓op_st, ↓co_seq, ↓co_skip, ↓co_exit, ↓co_reg, ↓co_cond, ↓co_block, ↓op_mov, ↓op_pick, ↓op_bin, ↓op_fld, ↓op_ixs, ↓op_lens, ↓op_ld, ↓op_all, WF_eq, W1_some, WH_some1, WC_true, WG_false, WG_tf, ↓ev_t, ↓ev_c, ↓upd_at, ↓get_cons, ↓frm_nil, ↓frm_cons, bin_add, bin_sub, bin_lss, bin_geq, pick_t, pick_f, cellsV_agg, one_int, setCells_nil, setCells_cons, load_ptr, ldO_cells, part_none, store_ptr, stO_cells, fld_ptr, geta0, seta0, newCells, wrap_i64, eq_self, List.length_cons, List.length_nil, List.all_cons, List.all_nil, Bool.and_self, true_and, and_self, List.getElem?_cons_zero, List.getElem?_cons_succ, List.set_cons_zero, List.set_cons_succ, Nat.reduceEqDiff, Nat.reduceAdd, Nat.zero_add, Nat.add_zero, ↓reduceIte, reduceCtorEq, decide_true, decide_false, Nat.le_refl, *, hl'.ixs, hl'.lda, encS, hj.len, hh.pre.le]))
      all_goals
        refine Next.mk (n + 1) ⟨by omega, rfl, rfl, rfl, rfl, rfl, rfl, es, hh.go (fun b hb => List.getElem?_append_left hb) (by simp) fun i hi => ?_⟩ (by omega)
        rw [List.length_map] at hi
        rw [Hsnoc.out, endStep, if_neg (by omega)]
  · have e : l.take n = l := List.take_of_length_le (by omega)
    rw [e] at hh
    (repeat' (first | ((with_reducible refine WG_dec (fun _ => ?_) (fun _ => ?_)) <;> try (exfalso; omega)) | ((with_reducible refine WG_decF (fun _ => ?_) (fun _ => ?_)) <;> try (exfalso; omega)) | ((with_reducible refine WC_dec (fun _ => ?_) (fun _ => ?_)) <;> try (exfalso; omega)) | refine WC_bool (fun _ => ?_) (fun _ => ?_) | refine WG_bool (fun _ => ?_) (fun _ => ?_) | refine WG_boolF (fun _ => ?_) (fun _ => ?_) | simp -dsimp (disch := omega) only [↓run_nil, ↓run_i, ↓co_seq, ↓co_exit, ↓co_reg, ↓co_cond, ↓op_bin, WF_eq, W1_some, ↓ev_t, ↓upd_at, ↓get_cons, ↓frm_nil, ↓frm_cons, bin_lss, eq_self, Nat.reduceEqDiff, ↓reduceIte, reduceCtorEq, decide_false, *]))
    exact hq _ _ es rfl hh
theorem ends (hE : Laid E) {h : Heap} {vj vs : Value} {lv : List (NV Job)} {l : List Span} (hj : Rd 5 (encN hdJ) h vj lv) (hl : Rd 3 encS h vs l) (hok : SpansOk l) (hw : ∀ j ∈ lv.map (·.j), 1 ≤ j.work ∧ j.work ≤ 2147483647) (hn : lv.length ≤ 1099511627776) :
    ∃ v ys, callW E (.func (.func n_trace_Ends) #[] #[]) [vj, vs] h = some (v, h ++ ys, []) ∧ Rd 1 encI (h ++ ys) v (endsN (lv.map (·.j)) l lv.length) := by
  refine fn_new hE.trace_Ends rfl (Rd.movable flatI _) (by simp) ?_
  have few := hj.few
  have fewl := hl.few
  have htn : ((lv.length : Int)).toNat = lv.length := by omega
  simp only [argsF]
  (repeat' (first | ((with_reducible refine WG_dec (fun _ => ?_) (fun _ => ?_)) <;> try (exfalso; omega)) | ((with_reducible refine WG_decF (fun _ => ?_) (fun _ => ?_)) <;> try (exfalso; omega)) | ((with_reducible refine WC_dec (fun _ => ?_) (fun _ => ?_)) <;> try (exfalso; omega)) | refine WC_bool (fun _ => ?_) (fun _ => ?_) | refine WG_bool (fun _ => ?_) (fun _ => ?_) | refine WG_boolF (fun _ => ?_) (fun _ => ?_) | simp -dsimp (disch := omega) only [↓run_nil, ↓run_i, ↓co_seq, ↓co_reg, ↓co_block, ↓co_loop, ↓op_mov, ↓op_lens, ↓op_msl, ↓op_mkm, WF_eq, W1_some, ↓ev_t, ↓ev_c, ↓upd_at, ↓get_cons, ↓frm_nil, ↓frm_cons, lens_slice, eq_self, msl_ints, List.length_append, List.length_cons, List.length_nil, List.append_assoc, List.cons_append, List.nil_append, Nat.reduceEqDiff, Nat.zero_add, ↓reduceIte, reduceCtorEq, *, hj.len]))
  refine ends_l0 hE (b := h.length) (Nat.le_refl _) hn (by rw [geta0]; rfl) rfl rfl rfl rfl rfl rfl fun fr' g0 g1 g5 g6 => ?_
  (repeat' (first | ((with_reducible refine WG_dec (fun _ => ?_) (fun _ => ?_)) <;> try (exfalso; omega)) | ((with_reducible refine WG_decF (fun _ => ?_) (fun _ => ?_)) <;> try (exfalso; omega)) | ((with_reducible refine WC_dec (fun _ => ?_) (fun _ => ?_)) <;> try (exfalso; omega)) | refine WC_bool (fun _ => ?_) (fun _ => ?_) | refine WG_bool (fun _ => ?_) (fun _ => ?_) | refine WG_boolF (fun _ => ?_) (fun _ => ?_) | simp -dsimp (disch := omega) only [↓run_nil, ↓run_i, ↓co_seq, ↓co_reg, ↓co_block, ↓co_loop, ↓op_mov, ↓op_lens, WF_eq, W1_some, ↓ev_t, ↓ev_c, ↓upd_at, ↓get_cons, ↓frm_nil, ↓frm_cons, seta0, eq_self, List.set_cons_zero, Nat.reduceEqDiff, ↓reduceIte, reduceCtorEq, *, hl.len]))
  refine ends_l1 hE hj hl hok hw hn ⟨Pre.app _ _, by simp, ?_, by rw [geta]; rfl, fun e he => by simp at he, fun i hi => by simp [mapI, endSt]⟩ rfl rfl rfl rfl rfl rfl fun fr' h' es q5 hh => ?_
  · rw [geta0]
    have : endsN (lv.map (·.j)) [] (lv.map (·.j)).length = List.replicate lv.length (-1) := by
      apply List.ext_getElem
      · simp [endsN_len]
      · intro i h1 h2
        have := endsN_at (lv.map (·.j)) [] (n := (lv.map (·.j)).length) (i := i) (by rw [endsN_len] at h1; exact h1)
        rw [atI_nat h1] at this
        rw [this]; simp [endSt]
    rw [this]; rfl
  · (repeat' (first | ((with_reducible refine WG_dec (fun _ => ?_) (fun _ => ?_)) <;> try (exfalso; omega)) | ((with_reducible refine WG_decF (fun _ => ?_) (fun _ => ?_)) <;> try (exfalso; omega)) | ((with_reducible refine WC_dec (fun _ => ?_) (fun _ => ?_)) <;> try (exfalso; omega)) | refine WC_bool (fun _ => ?_) (fun _ => ?_) | refine WG_bool (fun _ => ?_) (fun _ => ?_) | refine WG_boolF (fun _ => ?_) (fun _ => ?_) | simp -dsimp (disch := omega) only [↓run_nil, ↓run_i, ↓co_seq, ↓co_ret, ↓co_reg, ↓op_mov, Res_ret, resL_nil, resL_t, resV_one, WF_eq, W1_some, ↓ev_t, ↓upd_at, ↓get_cons, ↓frm_nil, ↓frm_cons, eq_self, Option.map_some, ↓reduceIte, *]))
    have h1 := hh.out
    have h2 := endsN_len (lv.map (·.j)) l (lv.map (·.j)).length
    rw [List.length_map] at h1 h2
    exact ⟨hh.pre.ex, rd_ints h1 h2.symm (by rw [h2]; exact few) (by rw [h2]; exact Nat.le_refl _)⟩
end Go.L.Try

/- BUSY ROWS: trace.Busy, Long; cadencyref11.Busy. -/
set_option linter.unusedVariables false
set_option linter.unusedSimpArgs false
set_option maxRecDepth 100000
set_option maxHeartbeats 2000000
namespace Go.L.Try
open Go Go.L
variable {E : Env}
/-- Where a row that goes to a tick goes on to, and what is behind it. -/
def runTo (t : Int) : List Span → Int × List Span
  | [] => (t, [])
  | x :: r => if x.from' = t then runTo x.to' r else (t, x :: r)
theorem runTo_len : ∀ (l : List Span) (t : Int), (runTo t l).2.length ≤ l.length
  | [], t => by simp [runTo]
  | x :: r, t => by
    unfold runTo; split
    · have := runTo_len r x.to'; simp; omega
    · simp
def yN : Nat → List Span → List (Int × Int)
  | 0, _ => []
  | _ + 1, [] => []
  | n + 1, x :: r => (x.from', (runTo x.to' r).1) :: yN n (runTo x.to' r).2
theorem yN_more : ∀ {n m : Nat} {l : List Span}, l.length ≤ n → l.length ≤ m → yN n l = yN m l
  | 0, 0, _, _, _ => rfl
  | 0, m + 1, [], _, _ => rfl
  | 0, m + 1, _ :: _, h, _ => by simp at h
  | n + 1, 0, [], _, _ => rfl
  | n + 1, 0, _ :: _, _, h => by simp at h
  | n + 1, m + 1, [], _, _ => rfl
  | n + 1, m + 1, x :: r, h1, h2 => by
    have := runTo_len r x.to'
    simp only [List.length_cons] at h1 h2
    simp only [yN]
    rw [yN_more (n := n) (m := m) (by omega) (by omega)]
/-- The busy rows of spans. -/
def busyP (l : List Span) : List (Int × Int) := yN l.length l
theorem busyP_nil : busyP [] = [] := rfl
theorem busyP_cons (x : Span) (r : List Span) : busyP (x :: r) = (x.from', (runTo x.to' r).1) :: busyP (runTo x.to' r).2 := by
  have := runTo_len r x.to'
  unfold busyP
  simp only [List.length_cons, yN]
  rw [yN_more this (Nat.le_refl _)]
theorem busy_l0 (hE : Laid E) {W : Nat → Prop} {h0 : Heap} {vs : Value} {l : List Span} {bx : Nat} (hb : h0[bx]? = some (.cells [vs] false)) (hl : Rd 3 encS h0 vs l) {i0 : Nat} (hi0 : i0 ≤ l.length) {to0 : Int} {v0 v4 : Value} {Q : Ex → Fr → Heap → Prop} {fr : Fr}
    (g0 : get fr 0 = v0) (g1 : get fr 1 = .pointer (some ⟨bx, 0, none⟩)) (g3 : get fr 3 = .int .i64 i0) (g4 : get fr 4 = v4) (g5 : get fr 5 = .int .i64 to0)
    (hq : ∀ fr' (i : Nat), i ≤ l.length → i0 ≤ i → l.drop i = (runTo to0 (l.drop i0)).2 → get fr' 0 = v0 → get fr' 1 = .pointer (some ⟨bx, 0, none⟩) → get fr' 3 = .int .i64 i → get fr' 4 = v4 → get fr' 5 = .int .i64 (runTo to0 (l.drop i0)).1 → Q (.exit 2) fr' h0) :
    WO W (iterW (code (callW E) iterW 47 c_trace_Busy_f1_l0) fr h0) Q := by
  have few := hl.few
  refine WO.loop (fun i fr h' => h' = h0 ∧ i ≤ l.length ∧ i0 ≤ i ∧ get fr 0 = v0 ∧ get fr 1 = .pointer (some ⟨bx, 0, none⟩) ∧ get fr 3 = .int .i64 i ∧ get fr 4 = v4 ∧ ∃ to', get fr 5 = .int .i64 to' ∧ runTo to0 (l.drop i0) = runTo to' (l.drop i)) (fun i => l.length - i) ?_ i0 ⟨rfl, hi0, Nat.le_refl _, g0, g1, g3, g4, to0, g5, rfl⟩
  rintro i fr h' ⟨rfl, hi, hii, g0, g1, g3, g4, to', g5, hr⟩
  have Hr := Hid.mk hr
  clear hr
  unfold c_trace_Busy_f1_l0
  rcases Nat.lt_or_ge i l.length with hlt | hge
  · have hd : l.drop i = atI l (i : Int) :: l.drop (i + 1) := by rw [atI_nat hlt, List.drop_eq_getElem_cons hlt]
    have Hd := Hid.mk hd
    clear hd
    have hq := Hid.mk hq
    (repeat' (first | ((with_reducible refine WG_dec (fun _ => ?_) (fun _ => ?_)) <;> try (exfalso; omega)) | ((with_reducible refine WG_decF (fun _ => ?_) (fun _ => ?_)) <;> try (exfalso; omega)) | ((with_reducible refine WC_dec (fun _ => ?_) (fun _ => ?_)) <;> try (exfalso; omega)) | refine WC_bool (fun _ => ?_) (fun _ => ?_) | refine WG_bool (fun _ => ?_) (fun _ => ?_) | refine WG_boolF (fun _ => ?_) (fun _ => ?_) | simp -dsimp (disch := omega) only [↓run_nil, ↓run_i, ↓run_w, ↓co_seq, ↓co_skip, ↓co_exit, ↓co_reg, ↓co_cond, ↓co_block, ↓op_mov, ↓op_pick, ↓op_bin, ↓op_fld, ↓op_ixs, ↓op_lens, ↓op_ld, WF_eq, W1_some, WG_true, ↓ev_t, ↓ev_c, ↓upd_at, ↓get_cons, ↓frm_nil, ↓frm_cons, bin_add, bin_eql, bin_lss, pick_t, load_ptr, ldO_cells, part_none, fld_ptr, wrap_i64, eq_self, List.getElem?_cons_zero, List.getD_cons_zero, List.getD_cons_succ, Nat.reduceEqDiff, ↓reduceIte, reduceCtorEq, decide_true, decide_false, *, hl.len, hl.ixs, hl.ld, encS]))
    · refine Next.mk (i + 1) ⟨rfl, by omega, by omega, rfl, rfl, rfl, rfl, _, rfl, ?_⟩ (by omega)
      rw [Hr.out, Hd.out, runTo, if_pos (by assumption)]
    · have e : runTo to' (l.drop i) = (to', l.drop i) := by rw [Hd.out, runTo, if_neg (by assumption)]
      refine hq.out _ i hi hii ?_ rfl rfl rfl rfl ?_
      · rw [Hr.out, e]
      · rw [Hr.out, e]; rfl
  · have e0 : l.drop i = [] := List.drop_of_length_le (by omega)
    have e : runTo to' (l.drop i) = (to', l.drop i) := by rw [e0]; rfl
    have hq := Hid.mk hq
    have E0 := Hid.mk e
    clear e e0
    (repeat' (first | ((with_reducible refine WG_dec (fun _ => ?_) (fun _ => ?_)) <;> try (exfalso; omega)) | ((with_reducible refine WG_decF (fun _ => ?_) (fun _ => ?_)) <;> try (exfalso; omega)) | ((with_reducible refine WC_dec (fun _ => ?_) (fun _ => ?_)) <;> try (exfalso; omega)) | refine WC_bool (fun _ => ?_) (fun _ => ?_) | refine WG_bool (fun _ => ?_) (fun _ => ?_) | refine WG_boolF (fun _ => ?_) (fun _ => ?_) | simp -dsimp (disch := omega) only [↓run_nil, ↓run_i, ↓run_w, ↓co_seq, ↓co_exit, ↓co_reg, ↓co_cond, ↓op_mov, ↓op_pick, ↓op_bin, ↓op_lens, ↓op_ld, WF_eq, W1_some, WC_false, WG_ft, ↓ev_t, ↓ev_c, ↓upd_at, ↓get_cons, ↓frm_nil, ↓frm_cons, bin_lss, pick_f, load_ptr, ldO_cells, part_none, eq_self, List.getElem?_cons_zero, Nat.reduceEqDiff, ↓reduceIte, reduceCtorEq, decide_false, *, hl.len]))
    refine hq.out _ i hi hii ?_ rfl rfl rfl rfl ?_
    · rw [Hr.out, E0.out]
    · rw [Hr.out, E0.out]; rfl
/-- WHAT 'Busy' TELLS, ONE ROW AFTER THE OTHER. -/
theorem busy_iter (hE : Laid E) {h1 : Heap} {L bx : Nat} {vs : Value} {l : List Span} {W : Nat → Prop} {J : Nat → Heap → Prop} {Stop : Heap → Prop} (hJ : ∀ k h, J k h → h.length = h1.length ∧ h[bx]? = some (.cells [vs] false) ∧ Rd 3 encS h vs l) (h0 : J 0 h1) (hS : ∀ h, Stop h → h.length = h1.length)
    (step : ∀ k h p, (busyP l)[k]? = some p → J k h → WX W (callW E (.func (.yield L) #[] #[]) [.int .i64 p.1, .int .i64 p.2] h) (fun v h' => (v = .bool true ∧ J (k + 1) h') ∨ (v = .bool false ∧ Stop h'))) :
    WX W (callW E (.func (.func n_trace_Busy_f1) #[] #[.pointer (some ⟨bx, 0, none⟩)]) [.func (.yield L) #[] #[]] h1) (fun _ h' => J (busyP l).length h' ∨ Stop h') := by
  refine fn_eff hE.keep hE.trace_Busy_f1 rfl (by simp) ?_
  have few := (hJ 0 h1 h0).2.2.few
  simp only [List.cons_append, List.nil_append, argsF]
  (repeat' (first | ((with_reducible refine WG_dec (fun _ => ?_) (fun _ => ?_)) <;> try (exfalso; omega)) | ((with_reducible refine WG_decF (fun _ => ?_) (fun _ => ?_)) <;> try (exfalso; omega)) | ((with_reducible refine WC_dec (fun _ => ?_) (fun _ => ?_)) <;> try (exfalso; omega)) | refine WC_bool (fun _ => ?_) (fun _ => ?_) | refine WG_bool (fun _ => ?_) (fun _ => ?_) | refine WG_boolF (fun _ => ?_) (fun _ => ?_) | simp -dsimp (disch := omega) only [↓run_nil, ↓run_i, ↓co_seq, ↓co_reg, ↓co_block, ↓co_loop, ↓op_mov, WF_eq, W1_some, ↓ev_c, ↓upd_at, ↓get_cons, ↓frm_nil, ↓frm_cons, eq_self, Nat.reduceEqDiff, Nat.zero_add, ↓reduceIte, reduceCtorEq, *]))
  refine WO.loop (α := Nat × Nat) (fun s fr h' => s.1 ≤ l.length ∧ J s.2 h' ∧ (busyP l).drop s.2 = busyP (l.drop s.1) ∧ s.2 ≤ (busyP l).length ∧ get fr 0 = .func (.yield L) #[] #[] ∧ get fr 1 = .pointer (some ⟨bx, 0, none⟩) ∧ get fr 3 = .int .i64 s.1) (fun s => l.length - s.1) ?_ (0, 0) ⟨Nat.zero_le _, h0, rfl, Nat.zero_le _, rfl, rfl, rfl⟩
  rintro ⟨i, k⟩ fr h' ⟨hi, hj, hd, hk, g0, g1, g3⟩
  obtain ⟨hlen, hb, hl⟩ := hJ k h' hj
  dsimp only at hi hj hd hk g3
  unfold c_trace_Busy_f1_l1
  rcases Nat.lt_or_ge i l.length with hlt | hge
  · have hdr : l.drop i = atI l (i : Int) :: l.drop (i + 1) := by rw [atI_nat hlt, List.drop_eq_getElem_cons hlt]
    rw [hdr, busyP_cons] at hd
    have hkl : k < (busyP l).length := by
      rcases Nat.lt_or_ge k (busyP l).length with h | h
      · exact h
      · rw [List.drop_of_length_le h] at hd; cases hd
    rw [List.drop_eq_getElem_cons hkl] at hd
    have hd1 := (List.cons.inj hd).1
    have hd2 := (List.cons.inj hd).2
    have hst := step k h' _ (by rw [List.getElem?_eq_getElem hkl, hd1]) hj
    have Hd := Hid.mk hd2
    replace hst := Hid.mk hst
    replace hJ := Hid.mk hJ
    replace hS := Hid.mk hS
    clear hd hd1 hd2 step hdr h0
    (repeat' (first | ((with_reducible refine WG_dec (fun _ => ?_) (fun _ => ?_)) <;> try (exfalso; omega)) | ((with_reducible refine WG_decF (fun _ => ?_) (fun _ => ?_)) <;> try (exfalso; omega)) | ((with_reducible refine WC_dec (fun _ => ?_) (fun _ => ?_)) <;> try (exfalso; omega)) | refine WC_bool (fun _ => ?_) (fun _ => ?_) | refine WG_bool (fun _ => ?_) (fun _ => ?_) | refine WG_boolF (fun _ => ?_) (fun _ => ?_) | simp -dsimp (disch := omega) only [↓run_nil, ↓run_i, ↓rd_nil, ↓rd_i, ↓co_seq, ↓co_skip, ↓co_reg, ↓co_drw, ↓co_cond, ↓co_block, ↓co_loop, ↓op_mov, ↓op_bin, ↓op_lens, ↓op_ld, ↓opd_mov, ↓opd_fld, ↓opd_ixs, ↓opd_ld, WF_eq, W1_some, ↓ev_t, ↓ev_c, ↓upd_at, ↓get_cons, ↓frm_nil, ↓frm_cons, bin_add, bin_lss, load_ptr, ldO_cells, part_none, fld_ptr, room0, wrap_i64, eq_self, List.getElem?_cons_zero, List.getD_cons_zero, List.getD_cons_succ, Nat.reduceEqDiff, ↓reduceIte, reduceCtorEq, *, hl.len, hl.ixs, hl.ld, encS]))
    refine busy_l0 hE hb hl (i0 := i + 1) (by omega) rfl rfl rfl rfl rfl fun fr' i' hi' hii hdrop q0 q1 q3 q4 q5 => ?_
    have Hdrop := Hid.mk hdrop
    clear hdrop
    (repeat' (first | ((with_reducible refine WG_dec (fun _ => ?_) (fun _ => ?_)) <;> try (exfalso; omega)) | ((with_reducible refine WG_decF (fun _ => ?_) (fun _ => ?_)) <;> try (exfalso; omega)) | ((with_reducible refine WC_dec (fun _ => ?_) (fun _ => ?_)) <;> try (exfalso; omega)) | refine WC_bool (fun _ => ?_) (fun _ => ?_) | refine WG_bool (fun _ => ?_) (fun _ => ?_) | refine WG_boolF (fun _ => ?_) (fun _ => ?_) | simp -dsimp (disch := omega) only [↓run_i, ↓op_call, ↓co_seq, ↓co_reg, ↓op_mov, W1_some, ↓ev_t, ↓upd_at, ↓get_cons, eq_self, List.map_cons, List.map_nil, Nat.reduceEqDiff, ↓reduceIte, reduceCtorEq, *]))
    refine WX.mono hst.out (fun b h => h) fun v h2 hr => ?_
    rcases hr with ⟨rfl, hj2⟩ | ⟨rfl, hs2⟩
    · replace hj2 := Hid.mk hj2
      (repeat' (first | ((with_reducible refine WG_dec (fun _ => ?_) (fun _ => ?_)) <;> try (exfalso; omega)) | ((with_reducible refine WG_decF (fun _ => ?_) (fun _ => ?_)) <;> try (exfalso; omega)) | ((with_reducible refine WC_dec (fun _ => ?_) (fun _ => ?_)) <;> try (exfalso; omega)) | refine WC_bool (fun _ => ?_) (fun _ => ?_) | refine WG_bool (fun _ => ?_) (fun _ => ?_) | refine WG_boolF (fun _ => ?_) (fun _ => ?_) | simp -dsimp (disch := omega) only [↓run_nil, ↓run_i, ↓co_skip, ↓co_cond, ↓op_un, WF_eq, W1_some, WC_false, ↓ev_t, ↓upd_at, ↓get_cons, ↓frm_nil, ↓frm_cons, un_not, eq_self, Bool.not_true, Nat.reduceEqDiff, ↓reduceIte, reduceCtorEq, *]))
      exact Next.mk (i', k + 1) ⟨hi', hj2.out, by rw [Hdrop.out]; exact Hd.out, hkl, rfl, rfl, rfl⟩ (by simp only []; omega)
    · replace hs2 := Hid.mk hs2
      (repeat' (first | ((with_reducible refine WG_dec (fun _ => ?_) (fun _ => ?_)) <;> try (exfalso; omega)) | ((with_reducible refine WG_decF (fun _ => ?_) (fun _ => ?_)) <;> try (exfalso; omega)) | ((with_reducible refine WC_dec (fun _ => ?_) (fun _ => ?_)) <;> try (exfalso; omega)) | refine WC_bool (fun _ => ?_) (fun _ => ?_) | refine WG_bool (fun _ => ?_) (fun _ => ?_) | refine WG_boolF (fun _ => ?_) (fun _ => ?_) | simp -dsimp (disch := omega) only [↓run_nil, ↓run_i, ↓co_ret, ↓co_cond, ↓op_un, Res_ret, resL_nil, resV_nil, nn4_tuple, WF_eq, W1_some, WC_true, ↓ev_t, ↓upd_at, ↓get_cons, ↓frm_nil, ↓frm_cons, un_not, eq_self, Bool.not_false, List.all_nil, true_and, Nat.reduceEqDiff, ↓reduceIte, reduceCtorEq, *]))
      exact ⟨hS.out _ hs2.out, .inr hs2.out⟩
  · have e : l.drop i = [] := List.drop_of_length_le (by omega)
    rw [e] at hd
    have hk2 : k = (busyP l).length := by
      have := congrArg List.length hd
      rw [List.length_drop] at this; simp [busyP_nil] at this; omega
    subst hk2
    replace hj := Hid.mk hj
    (repeat' (first | ((with_reducible refine WG_dec (fun _ => ?_) (fun _ => ?_)) <;> try (exfalso; omega)) | ((with_reducible refine WG_decF (fun _ => ?_) (fun _ => ?_)) <;> try (exfalso; omega)) | ((with_reducible refine WC_dec (fun _ => ?_) (fun _ => ?_)) <;> try (exfalso; omega)) | refine WC_bool (fun _ => ?_) (fun _ => ?_) | refine WG_bool (fun _ => ?_) (fun _ => ?_) | refine WG_boolF (fun _ => ?_) (fun _ => ?_) | simp -dsimp (disch := omega) only [↓run_nil, ↓run_i, ↓co_seq, ↓co_exit, ↓co_reg, ↓co_cond, ↓op_mov, ↓op_bin, ↓op_lens, ↓op_ld, Res_normal, resL_nil, resV_nil, nn4_tuple, WF_eq, W1_some, ↓ev_t, ↓upd_at, ↓get_cons, ↓frm_nil, ↓frm_cons, bin_lss, load_ptr, ldO_cells, part_none, eq_self, List.all_nil, true_and, List.getElem?_cons_zero, Nat.reduceEqDiff, ↓reduceIte, reduceCtorEq, decide_false, *, hl.len]))
    first
      | exact .inl hj.out
      | exact ⟨hlen, .inl hj.out⟩
theorem busy (hE : Laid E) {h : Heap} {vs : Value} {l : List Span} (hl : Rd 3 encS h vs l) :
    ∃ v ys, callW E (.func (.func n_trace_Busy) #[] #[]) [vs] h = some (v, h ++ ys, []) ∧ Clo1 h.length n_trace_Busy_f1 (fun h v => v = vs ∧ Rd 3 encS h vs l) (h ++ ys) v := by
  refine fn_new hE.trace_Busy rfl (Clo1.movable (hl.old_movable flatS)) (by simp) ?_
  have hc := hl.cv
  have ho := hl.one
  simp only [argsF]
  (repeat' (first | ((with_reducible refine WG_dec (fun _ => ?_) (fun _ => ?_)) <;> try (exfalso; omega)) | ((with_reducible refine WG_decF (fun _ => ?_) (fun _ => ?_)) <;> try (exfalso; omega)) | ((with_reducible refine WC_dec (fun _ => ?_) (fun _ => ?_)) <;> try (exfalso; omega)) | refine WC_bool (fun _ => ?_) (fun _ => ?_) | refine WG_bool (fun _ => ?_) (fun _ => ?_) | refine WG_boolF (fun _ => ?_) (fun _ => ?_) | simp -dsimp (disch := omega) only [↓run_nil, ↓run_i, ↓co_seq, ↓co_ret, ↓co_reg, ↓op_mov, ↓op_mkf, ↓op_box, Res_ret, resL_nil, resL_t, resV_one, WF_eq, W1_some, ↓ev_t, ↓ev_c, ↓upd_at, ↓get_cons, ↓frm_nil, ↓frm_cons, newCells, eq_self, List.map_cons, List.map_nil, List.all_cons, List.all_nil, Bool.and_self, Option.map_some, Nat.reduceEqDiff, ↓reduceIte, *]))
  exact ⟨⟨_, rfl⟩, _, _, rfl, Nat.le_refl _, by rw [geta0]; rfl, rfl, hl.app _⟩
def longK (l : List Span) : Nat → Int
  | 0 => 0
  | k + 1 => longK l k + ((busyP l).getD k (0, 0)).2 - ((busyP l).getD k (0, 0)).1
def longP (l : List Span) : Int := longK l (busyP l).length
/-- The busy rows' ends are spans' ends. -/
theorem runTo_mem : ∀ (l : List Span) (t : Int), (runTo t l).1 = t ∨ ∃ x ∈ l, (runTo t l).1 = x.to'
  | [], t => .inl rfl
  | x :: r, t => by
    unfold runTo
    split
    · rcases runTo_mem r x.to' with h | ⟨y, hy, h⟩
      · exact .inr ⟨x, by simp, h⟩
      · exact .inr ⟨y, by simp [hy], h⟩
    · exact .inl rfl
theorem runTo_sub : ∀ (l : List Span) (t : Int), ∀ y ∈ (runTo t l).2, y ∈ l
  | [], t, y, h => by simp [runTo] at h
  | x :: r, t, y, h => by
    unfold runTo at h
    split at h
    · exact List.mem_cons_of_mem _ (runTo_sub r x.to' y h)
    · exact h
theorem yN_mem : ∀ (n : Nat) (l : List Span), ∀ p ∈ yN n l, (∃ x ∈ l, p.1 = x.from') ∧ ∃ x ∈ l, p.2 = x.to'
  | 0, _, p, h => by simp [yN] at h
  | n + 1, [], p, h => by simp [yN] at h
  | n + 1, x :: r, p, h => by
    simp only [yN, List.mem_cons] at h
    rcases h with rfl | h
    · refine ⟨⟨x, by simp, rfl⟩, ?_⟩
      rcases runTo_mem r x.to' with h | ⟨y, hy, h⟩
      · exact ⟨x, by simp, h⟩
      · exact ⟨y, by simp [hy], h⟩
    · obtain ⟨⟨y, hy, h1⟩, ⟨z, hz, h2⟩⟩ := yN_mem n _ p h
      exact ⟨⟨y, List.mem_cons_of_mem _ (runTo_sub _ _ y hy), h1⟩, ⟨z, List.mem_cons_of_mem _ (runTo_sub _ _ z hz), h2⟩⟩
theorem yN_len : ∀ (n : Nat) (l : List Span), (yN n l).length ≤ l.length
  | 0, _ => by simp [yN]
  | n + 1, [] => by simp [yN]
  | n + 1, x :: r => by
    have := yN_len n (runTo x.to' r).2
    have := runTo_len r x.to'
    simp only [yN, List.length_cons]; omega
theorem busyP_in {l : List Span} (hok : SpansOk l) : ∀ p ∈ busyP l, (0 ≤ p.1 ∧ p.1 ≤ 35184372088832) ∧ 0 ≤ p.2 ∧ p.2 ≤ 35184372088832 := by
  intro p hp
  obtain ⟨⟨x, hx, h1⟩, ⟨y, hy, h2⟩⟩ := yN_mem _ _ p hp
  rw [h1, h2]; exact ⟨(hok x hx).1, (hok y hy).2⟩
theorem longK_in {l : List Span} (hok : SpansOk l) : ∀ k : Nat, k ≤ (busyP l).length → -(k * 35184372088832 : Int) ≤ longK l k ∧ longK l k ≤ k * 35184372088832
  | 0, _ => by simp [longK]
  | k + 1, h => by
    have ih := longK_in hok k (by omega)
    have hp := busyP_in hok ((busyP l)[k]) (List.getElem_mem _)
    have e : (busyP l).getD k (0, 0) = (busyP l)[k] := by rw [List.getD_eq_getElem?_getD, List.getElem?_eq_getElem (by omega)]; rfl
    simp only [longK, e]
    constructor <;> (have := ih.1; have := ih.2; simp only [Int.natCast_add, Int.natCast_one, Int.add_mul]; omega)
theorem long (hE : Laid E) {h : Heap} {vs : Value} {l : List Span} (hl : Rd 3 encS h vs l) (hok : SpansOk l) (hn : l.length ≤ 65536) :
    callW E (.func (.func n_trace_Long) #[] #[]) [vs] h = some (.int .i64 (longP l), h, []) := by
  refine fn_same hE.trace_Long rfl (by simp) ?_
  obtain ⟨v, ys, hb, bx, u, rfl, hge, hbx, hue, hu⟩ := busy hE (hl.app [.cells [.int .i64 0] false])
  subst hue
  have hyl : (busyP l).length ≤ 65536 := by have := yN_len l.length l; unfold busyP; omega
  have hkin := longK_in hok
  simp only [argsF]
  (repeat' (first | ((with_reducible refine WG_dec (fun _ => ?_) (fun _ => ?_)) <;> try (exfalso; omega)) | ((with_reducible refine WG_decF (fun _ => ?_) (fun _ => ?_)) <;> try (exfalso; omega)) | ((with_reducible refine WC_dec (fun _ => ?_) (fun _ => ?_)) <;> try (exfalso; omega)) | refine WC_bool (fun _ => ?_) (fun _ => ?_) | refine WG_bool (fun _ => ?_) (fun _ => ?_) | refine WG_boolF (fun _ => ?_) (fun _ => ?_) | simp -dsimp (disch := omega) only [↓run_nil, ↓run_i, ↓run_k, ↓op_st, ↓op_call, ↓co_seq, ↓co_reg, ↓co_block, ↓op_mov, ↓op_all, WF_eq, W1_some, WX_some, WH_some1, ↓ev_t, ↓ev_c, ↓ev_f, ↓upd_at, ↓get_cons, ↓frm_nil, ↓frm_cons, cellsV_int, one_int, setCells_nil, setCells_cons, store_ptr, stO_cells, geta0, seta0, newCells, eq_self, List.map_cons, List.map_nil, List.length_cons, List.length_nil, List.all_cons, List.all_nil, Bool.and_self, true_and, and_self, List.getElem?_cons_zero, List.set_cons_zero, List.append_assoc, List.cons_append, List.nil_append, Nat.reduceEqDiff, Nat.zero_add, ↓reduceIte, reduceCtorEq, Nat.le_refl, *]))
  have hlenH : (h ++ LObj.cells [.int .i64 0] false :: ys).length = h.length + ys.length + 1 := by simp; omega
  simp only [List.length_append, List.length_cons, List.length_nil] at hge
  have hbxl := (List.getElem?_eq_some_iff.1 hbx).1
  simp only [List.append_assoc, List.cons_append, List.nil_append] at hbx hbxl hu
  have hblk : u ≠ .slice none 0 0 → blk u < h.length := fun hn => hl.lt' hn
  refine co_rng hE.keep (W' := fun b => b = h.length ∨ b = (h ++ LObj.cells [.int .i64 0] false :: ys).length) rfl (fun x hx hlt => by omega) ?_
  generalize hLr : LObj.loop _ = lo
  have H1 : ∀ k hh, hh = ((h ++ LObj.cells [.int .i64 0] false :: ys) ++ [lo]).set h.length (.cells [.int .i64 (longK l k)] false) → hh.length = ((h ++ LObj.cells [.int .i64 0] false :: ys) ++ [lo]).length ∧ hh[bx]? = some (.cells [u] false) ∧ Rd 3 encS hh u l := fun k hh e => by
    subst e
    refine ⟨by simp, ?_, ?_⟩
    · rw [gets (by omega), List.getElem?_append_left hbxl]; exact hbx
    · exact (hu.app _).keep fun hn => gets (by have := hblk hn; omega)
  refine WX.mono (busy_iter hE (J := fun k hh => hh = ((h ++ LObj.cells [.int .i64 0] false :: ys) ++ [lo]).set h.length (.cells [.int .i64 (longK l k)] false)) (Stop := fun _ => False) H1 ?_ (fun _ hf => hf.elim) ?_) (fun b hb => hb) ?_
  · exact (set_same (by rw [List.getElem?_append_left (by omega), geta0]; rfl)).symm
  · rintro k hh p hp rfl
    have hk : k < (busyP l).length := (List.getElem?_eq_some_iff.1 hp).1
    have hpk : (busyP l).getD k (0, 0) = p := by rw [List.getD_eq_getElem?_getD, hp]; rfl
    have hpin := busyP_in hok p (List.mem_of_getElem? hp)
    have hk1 := hkin k (by omega)
    have hk2 : longK l (k + 1) = longK l k + p.2 - p.1 := by simp only [longK, hpk]
    have hmul : (k : Int) * 35184372088832 ≤ 65536 * 35184372088832 := Int.mul_le_mul_of_nonneg_right (by omega) (by decide)
    have hL : (((h ++ LObj.cells [.int .i64 0] false :: ys) ++ [lo]).set h.length (.cells [.int .i64 (longK l k)] false))[(h ++ LObj.cells [.int .i64 0] false :: ys).length]? = some lo := by
      rw [gets (by omega), geta0]; rfl
    have hN : (((h ++ LObj.cells [.int .i64 0] false :: ys) ++ [lo]).set h.length (.cells [.int .i64 (longK l k)] false))[h.length]? = some (.cells [.int .i64 (longK l k)] false) := gset (by simp <;> omega)
    have hLen : (((h ++ LObj.cells [.int .i64 0] false :: ys) ++ [lo]).set h.length (.cells [.int .i64 (longK l k)] false)).length = h.length + ys.length + 2 := by simp; omega
    have hset2 : (((h ++ LObj.cells [.int .i64 0] false :: ys) ++ [lo]).set h.length (.cells [.int .i64 (longK l k)] false)).set h.length (.cells [.int .i64 (longK l (k + 1))] false) = ((h ++ LObj.cells [.int .i64 0] false :: ys) ++ [lo]).set h.length (.cells [.int .i64 (longK l (k + 1))] false) := List.set_set ..
    generalize (((h ++ LObj.cells [.int .i64 0] false :: ys) ++ [lo]).set h.length (.cells [.int .i64 (longK l k)] false)) = hh at *
    generalize (h ++ LObj.cells [.int .i64 0] false :: ys).length = L at *
    subst hLr
    have hLgt : h.length < L := by omega
    have hLy : L < hh.length := by omega
    clear hlenH hLen
    refine WX.mono (wx_round hE.keep (W := fun b => b = h.length) (Rr := fun e h3 => e = .normal ∧ h3 = hh.set h.length (.cells [.int .i64 (longK l (k + 1))] false)) hL rfl rfl rfl rfl (fun b hb => by omega) ?_) (fun b hb => hb) ?_
    · have H2 := Hid.mk hk2
      have HL := Hid.mk hL
      clear hk2 hL hset2 H1 hkin
      unfold c_trace_Long_l0 at HL ⊢
      (repeat' (first | ((with_reducible refine WG_dec (fun _ => ?_) (fun _ => ?_)) <;> try (exfalso; omega)) | ((with_reducible refine WG_decF (fun _ => ?_) (fun _ => ?_)) <;> try (exfalso; omega)) | ((with_reducible refine WC_dec (fun _ => ?_) (fun _ => ?_)) <;> try (exfalso; omega)) | refine WC_bool (fun _ => ?_) (fun _ => ?_) | refine WG_bool (fun _ => ?_) (fun _ => ?_) | refine WG_boolF (fun _ => ?_) (fun _ => ?_) | simp -dsimp (disch := omega) only [↓run_nil, ↓run_i, ↓co_seq, ↓co_reg, ↓op_mov, WF_eq, W1_some, ↓ev_t, ↓upd_at, ↓get_cons, ↓frm_nil, ↓frm_cons, eq_self, true_and, Nat.reduceEqDiff, ↓reduceIte, *]))
      unfold c_trace_Long_l1 at HL ⊢
      (repeat' (first | ((with_reducible refine WG_dec (fun _ => ?_) (fun _ => ?_)) <;> try (exfalso; omega)) | ((with_reducible refine WG_decF (fun _ => ?_) (fun _ => ?_)) <;> try (exfalso; omega)) | ((with_reducible refine WC_dec (fun _ => ?_) (fun _ => ?_)) <;> try (exfalso; omega)) | refine WC_bool (fun _ => ?_) (fun _ => ?_) | refine WG_bool (fun _ => ?_) (fun _ => ?_) | refine WG_boolF (fun _ => ?_) (fun _ => ?_) | simp -dsimp (disch := omega) only [↓run_nil, ↓run_i, ↓run_k, ↓op_st, ↓co_reg, ↓co_block, ↓op_mov, ↓op_bin, ↓op_ld, WF_eq, W1_some, WH_some1, ↓ev_t, ↓upd_at, ↓get_cons, ↓frm_nil, bin_add, bin_sub, cellsV_int, one_int, setCells_nil, setCells_cons, load_ptr, ldO_cells, part_none, store_ptr, stO_cells, wrap_i64, eq_self, gets, List.length_cons, List.length_nil, List.all_cons, List.all_nil, Bool.and_self, true_and, and_self, List.getElem?_cons_zero, List.set_cons_zero, Nat.reduceEqDiff, Nat.zero_add, ↓reduceIte, Nat.le_refl, *]))
      refine ⟨fun b hb hbe => ?_, ?_⟩
      · subst hbe; rw [gset (by simp <;> omega)]; rfl
      · rw [set_back HL.out (by omega), List.take_of_length_le (by simp), H2.out]
        congr 3
        rw [show longK l k + (p.2 - p.1) = longK l k + p.2 - p.1 by omega]
    · rintro v h' ⟨e, h3, ⟨rfl, rfl⟩, rfl, rfl⟩
      exact .inl ⟨rfl, hset2⟩
  · rintro v h' (rfl | hf)
    · refine ⟨_, by rw [gets (by omega), geta0, ← hLr]; rfl, by simp, ?_, ?_⟩
      · rintro b hb (rfl | rfl)
        · rw [gset (by simp <;> omega)]; rfl
        · omega
      · have e : (((h ++ LObj.cells [.int .i64 0] false :: ys) ++ [lo]).set h.length (.cells [.int .i64 (longK l (busyP l).length)] false)).take (h ++ LObj.cells [.int .i64 0] false :: ys).length = h ++ LObj.cells [.int .i64 (longK l (busyP l).length)] false :: ys := by
          rw [List.set_append_left _ _ (by omega), List.take_left' (by simp), seta0]; rfl
        rw [e]
        (repeat' (first | ((with_reducible refine WG_dec (fun _ => ?_) (fun _ => ?_)) <;> try (exfalso; omega)) | ((with_reducible refine WG_decF (fun _ => ?_) (fun _ => ?_)) <;> try (exfalso; omega)) | ((with_reducible refine WC_dec (fun _ => ?_) (fun _ => ?_)) <;> try (exfalso; omega)) | refine WC_bool (fun _ => ?_) (fun _ => ?_) | refine WG_bool (fun _ => ?_) (fun _ => ?_) | refine WG_boolF (fun _ => ?_) (fun _ => ?_) | simp -dsimp (disch := omega) only [↓run_nil, ↓run_i, ↓co_seq, ↓co_ret, ↓co_reg, ↓op_mov, ↓op_ld, Res_ret, resL_nil, resL_t, resV_one, nn4_int, WF_eq, W1_some, ↓ev_t, ↓upd_at, ↓get_cons, ↓frm_nil, ↓frm_cons, load_ptr, ldO_cells, part_none, geta0, eq_self, true_and, List.getElem?_cons_zero, Option.map_some, ↓reduceIte, *]))
        simp [longP]
    · exact hf.elim
end Go.L.Try
