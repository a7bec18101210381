/- BUSY ROWS: cadencyref11.Busy; rows held against one another. -/
import Derived.Test.YtakbaliigmnkjaaPc
set_option linter.unusedVariables false
set_option linter.unusedSimpArgs false
set_option maxRecDepth 100000
set_option maxHeartbeats 2000000
namespace Go.L.Try
open Go Go.L
variable {E : Env}
def mkB (p : Int × Int) : Span := ⟨0, p.1, p.2⟩
def bz (out : List Span) (x : Span) : List Span :=
  if 0 < (out.length : Int) ∧ (atI out ((out.length : Int) - 1)).to' = x.from' then out.set ((out.length : Int) - 1).toNat { atI out ((out.length : Int) - 1) with to' := x.to' } else out ++ [⟨0, x.from', x.to'⟩]
theorem bz_snoc (A : List Span) (f t : Int) (x : Span) : bz (A ++ [⟨0, f, t⟩]) x = if x.from' = t then A ++ [⟨0, f, x.to'⟩] else A ++ [⟨0, f, t⟩] ++ [⟨0, x.from', x.to'⟩] := by
  have e1 : (((A ++ [(⟨0, f, t⟩ : Span)]).length : Nat) : Int) - 1 = A.length := by simp
  have e2 : atI (A ++ [(⟨0, f, t⟩ : Span)]) (A.length : Int) = ⟨0, f, t⟩ := by rw [atI_nat (by simp)]; simp
  unfold bz
  rw [e1, e2]
  by_cases h : x.from' = t
  · rw [if_pos h, if_pos ⟨by simp <;> omega, h.symm⟩]
    rw [show ((A.length : Int)).toNat = A.length by omega, List.set_append_right _ _ (Nat.le_refl _), Nat.sub_self]; rfl
  · rw [if_neg h, if_neg (fun hc => h hc.2.symm)]
theorem fold_bz : ∀ (l : List Span) (A : List Span) (f t : Int), l.foldl bz (A ++ [⟨0, f, t⟩]) = A ++ ⟨0, f, (runTo t l).1⟩ :: (busyP (runTo t l).2).map mkB
  | [], A, f, t => by simp [runTo, busyP_nil]
  | x :: r, A, f, t => by
    rw [List.foldl_cons, bz_snoc]
    unfold runTo
    by_cases h : x.from' = t
    · rw [if_pos h, if_pos h, fold_bz r A f x.to']
    · rw [if_neg h, if_neg h, fold_bz r (A ++ [(⟨0, f, t⟩ : Span)]) x.from' x.to']
      show A ++ [⟨0, f, t⟩] ++ ⟨0, x.from', (runTo x.to' r).1⟩ :: (busyP (runTo x.to' r).2).map mkB = A ++ ⟨0, f, t⟩ :: (busyP (x :: r)).map mkB
      rw [busyP_cons]; simp [mkB]
theorem fold_busy (l : List Span) : l.foldl bz [] = (busyP l).map mkB := by
  cases l with
  | nil => rfl
  | cons x r =>
    have h := fold_bz r [] x.from' x.to'
    rw [List.foldl_cons]
    have e : bz [] x = [] ++ [⟨0, x.from', x.to'⟩] := rfl
    rw [e, h, busyP_cons]; rfl
theorem bz_len (out : List Span) (x : Span) : (bz out x).length ≤ out.length + 1 := by unfold bz; split <;> simp
theorem foldbz_len : ∀ (l out : List Span), (l.foldl bz out).length ≤ out.length + l.length
  | [], out => by simp
  | x :: r, out => by have := foldbz_len r (bz out x); have := bz_len out x; simp only [List.foldl_cons, List.length_cons]; omega
theorem busy11 (hE : Laid E) {h : Heap} {vs : Value} {l : List Span} (hl : Rd 3 encS h vs l) (hn : l.length ≤ 65536) :
    ∃ v ys, callW E (.func (.func n_cadencyref11_Busy) #[] #[]) [vs] h = some (v, h ++ ys, []) ∧ Rd 3 encS (h ++ ys) v ((busyP l).map mkB) := by
  rw [← fold_busy]
  refine fn_new hE.cadencyref11_Busy rfl (Rd.movable flatS _) (by simp) ?_
  have few := hl.few
  simp only [argsF]
  (repeat' (first | ((with_reducible refine WG_dec (fun _ => ?_) (fun _ => ?_)) <;> try (exfalso; omega)) | ((with_reducible refine WG_decF (fun _ => ?_) (fun _ => ?_)) <;> try (exfalso; omega)) | ((with_reducible refine WC_dec (fun _ => ?_) (fun _ => ?_)) <;> try (exfalso; omega)) | refine WC_bool (fun _ => ?_) (fun _ => ?_) | refine WG_bool (fun _ => ?_) (fun _ => ?_) | refine WG_boolF (fun _ => ?_) (fun _ => ?_) | simp -dsimp (disch := omega) only [↓run_nil, ↓run_i, ↓co_seq, ↓co_reg, ↓co_block, ↓co_loop, ↓op_mov, WF_eq, W1_some, ↓ev_c, ↓upd_at, ↓get_cons, ↓frm_nil, ↓frm_cons, eq_self, Nat.reduceEqDiff, ↓reduceIte, reduceCtorEq, *]))
  refine WO.loop (fun n fr h' => Pre h h' ∧ n ≤ l.length ∧ get fr 0 = vs ∧ get fr 4 = .int .i64 n ∧ OwnT h.length 3 encS h' (get fr 3) ((l.take n).foldl bz [])) (fun n => l.length - n) ?_ 0 ⟨Pre.refl _, Nat.zero_le _, rfl, rfl, OwnT.nil⟩
  rintro n fr h' ⟨hp, hn', g0, g4, ho⟩
  generalize hvo : get fr 3 = vo at ho
  unfold c_cadencyref11_Busy_l0
  rcases Nat.lt_or_ge n l.length with hlt | hge
  · have hl' := hl.pre hp
    have hs : ∀ M : List Span, M = (l.take n).foldl bz [] → (l.take (n + 1)).foldl bz [] = if 0 < (M.length : Int) ∧ (atI M ((M.length : Int) - 1)).to' = (atI l (n : Int)).from' then M.set ((M.length : Int) - 1).toNat { atI M ((M.length : Int) - 1) with to' := (atI l (n : Int)).to' } else M ++ [⟨0, (atI l (n : Int)).from', (atI l (n : Int)).to'⟩] := by rintro M rfl; rw [take_snoc hlt, List.foldl_append]; rfl
    have hlen := foldbz_len (l.take n) []
    rw [List.length_take] at hlen
    simp only [List.length_nil] at hlen
    have hlen2 : ((l.take n).foldl bz []).length ≤ n := by omega
    have Hs := Hid.mk (hs _ rfl)
    clear hs hlen
    generalize (l.take n).foldl bz [] = M at *
    have hM : (M.length : Int) ≤ 65536 := by omega
    have hple := hp.le
    (repeat' (first | ((with_reducible refine WG_dec (fun _ => ?_) (fun _ => ?_)) <;> try (exfalso; omega)) | ((with_reducible refine WG_decF (fun _ => ?_) (fun _ => ?_)) <;> try (exfalso; omega)) | ((with_reducible refine WC_dec (fun _ => ?_) (fun _ => ?_)) <;> try (exfalso; omega)) | refine WC_bool (fun _ => ?_) (fun _ => ?_) | refine WG_bool (fun _ => ?_) (fun _ => ?_) | refine WG_boolF (fun _ => ?_) (fun _ => ?_) | simp -dsimp (disch := omega) only [↓run_nil, ↓run_i, ↓run_k, ↓rd_nil, ↓rd_i, ↓rd_w, ↓op_st, ↓co_seq, ↓co_skip, ↓co_reg, ↓co_drw, ↓co_cond, ↓co_block, ↓op_mov, ↓op_bin, ↓op_fld, ↓op_ixs, ↓op_lens, ↓op_ld, ↓opd_mov, ↓opd_pick, ↓opd_bin, ↓opd_bld, ↓opd_fld, ↓opd_ixs, ↓opd_ld, ↓opd_bsl, ↓opd_app, WF_eq, W1_some, WC_false, WG_true, WG_ft, ↓ev_t, ↓ev_c, ↓upd_at, ↓get_cons, ↓frm_nil, ↓frm_cons, bin_sub, bin_eql, bin_lss, bin_gtr, pick_t, pick_f, cellsV_int, cellsV_agg, one_int, fillV_nil, fillV_cons, setCells_nil, setCells_cons, load_ptr, store_ptr, fld_ptr, seta0, room0, room1, newCells, bslV, wrap_i64, eq_self, List.map_cons, List.map_nil, List.length_cons, List.length_nil, List.all_cons, List.all_nil, Bool.and_self, and_self, List.getD_cons_zero, List.getD_cons_succ, List.set_cons_zero, List.set_cons_succ, List.append_nil, Option.bind_some, Option.map_some, Nat.reduceEqDiff, Nat.reduceAdd, Nat.reduceLeDiff, Nat.reduceMul, Nat.zero_add, Nat.add_zero, ↓reduceIte, reduceCtorEq, decide_true, decide_false, List.flatten_cons, List.flatten_nil, List.replicate_succ, List.replicate_zero, Nat.le_refl, *, hl'.len, hl'.ixs, hl'.ld, hl'.ldx, ho.rd.len, ho.rd.ixs, ho.rd.ld, encS]))
    case' refine_1.refine_1 =>
      have hne : M ≠ [] := by intro e; have : M.length = 0 := (by rw [e]; rfl); omega
      have hb4 := ho.ge hne
      refine wh_ownT ho (fun b hb => hb) { atI M ((M.length : Int) - 1) with to' := (atI l (n : Int)).to' } (by omega) (by omega) (by decide) rfl rfl fun h5 k1 k2 k3 => ?_
      replace k3 := Hid.mk k3
      (repeat' (first | ((with_reducible refine WG_dec (fun _ => ?_) (fun _ => ?_)) <;> try (exfalso; omega)) | ((with_reducible refine WG_decF (fun _ => ?_) (fun _ => ?_)) <;> try (exfalso; omega)) | ((with_reducible refine WC_dec (fun _ => ?_) (fun _ => ?_)) <;> try (exfalso; omega)) | refine WC_bool (fun _ => ?_) (fun _ => ?_) | refine WG_bool (fun _ => ?_) (fun _ => ?_) | refine WG_boolF (fun _ => ?_) (fun _ => ?_) | simp -dsimp (disch := omega) only [↓run_nil, ↓run_i, ↓co_reg, ↓op_mov, ↓op_bin, WF_eq, W1_some, ↓ev_t, ↓ev_c, ↓upd_at, ↓get_cons, ↓frm_nil, ↓frm_cons, bin_add, wrap_i64, eq_self, Nat.reduceEqDiff, ↓reduceIte, reduceCtorEq, *]))
      refine Next.mk (n + 1) ⟨fun b o hb => by rw [k3.out b (by have := (List.getElem?_eq_some_iff.1 hb).1; omega)]; exact hp b o hb, by omega, rfl, rfl, ?_⟩ (by omega)
      rw [Hs.out, if_pos ⟨by omega, by assumption⟩]; exact k1
    all_goals
      refine wx_app1 (sz := 3) (bytes := 24) (ho.app _) (hp.app' _) (Nat.le_refl _) (by simp; omega) (fun b hb => hb) ⟨0, (atI l (n : Int)).from', (atI l (n : Int)).to'⟩ (by simp -dsimp (disch := omega) only [geta0, cellsOf_some, cellO_cells, List.length_cons, List.length_nil, List.getElem?_cons_zero, List.drop_zero, List.take_succ_cons, List.take_zero, Nat.reduceAdd, Nat.reduceMul, Nat.zero_add, ↓reduceIte, Nat.le_refl]; rfl) rfl (by decide) (by decide) (by omega) ?_
      intro v2 h2 k1 k2 k3 k4 k5
      clear k5
      (repeat' (first | ((with_reducible refine WG_dec (fun _ => ?_) (fun _ => ?_)) <;> try (exfalso; omega)) | ((with_reducible refine WG_decF (fun _ => ?_) (fun _ => ?_)) <;> try (exfalso; omega)) | ((with_reducible refine WC_dec (fun _ => ?_) (fun _ => ?_)) <;> try (exfalso; omega)) | refine WC_bool (fun _ => ?_) (fun _ => ?_) | refine WG_bool (fun _ => ?_) (fun _ => ?_) | refine WG_boolF (fun _ => ?_) (fun _ => ?_) | simp -dsimp (disch := omega) only [↓run_nil, ↓run_i, ↓rd_nil, ↓rd_i, ↓co_reg, ↓op_mov, ↓op_bin, ↓opd_mov, WF_eq, W1_some, ↓ev_t, ↓ev_c, ↓upd_at, ↓get_cons, ↓frm_nil, ↓frm_cons, bin_add, wrap_i64, eq_self, Nat.reduceEqDiff, ↓reduceIte, reduceCtorEq, *]))
      refine Next.mk (n + 1) ⟨k2, by omega, rfl, rfl, ?_⟩ (by omega)
      rw [Hs.out, if_neg (by rintro ⟨a, b⟩; first | omega | contradiction)]; exact k1
  · have e : l.take n = l := List.take_of_length_le (by omega)
    rw [e] at ho
    (repeat' (first | ((with_reducible refine WG_dec (fun _ => ?_) (fun _ => ?_)) <;> try (exfalso; omega)) | ((with_reducible refine WG_decF (fun _ => ?_) (fun _ => ?_)) <;> try (exfalso; omega)) | ((with_reducible refine WC_dec (fun _ => ?_) (fun _ => ?_)) <;> try (exfalso; omega)) | refine WC_bool (fun _ => ?_) (fun _ => ?_) | refine WG_bool (fun _ => ?_) (fun _ => ?_) | refine WG_boolF (fun _ => ?_) (fun _ => ?_) | simp -dsimp (disch := omega) only [↓run_nil, ↓run_i, ↓co_seq, ↓co_exit, ↓co_ret, ↓co_reg, ↓co_cond, ↓op_mov, ↓op_bin, ↓op_lens, Res_ret, resL_nil, resL_t, resV_one, WF_eq, W1_some, ↓ev_t, ↓upd_at, ↓get_cons, ↓frm_nil, ↓frm_cons, bin_lss, eq_self, Option.map_some, Nat.reduceEqDiff, ↓reduceIte, reduceCtorEq, *, hl.len]))
    exact ⟨hp.ex, ho.rd⟩
theorem same11 (hE : Laid E) {h : Heap} {va vb : Value} {a b : List Int} (ha : Rd 1 encI h va a) (hb : Rd 1 encI h vb b) :
    callW E (.func (.func n_cadencylaw11_same) #[] #[]) [va, vb] h = some (.bool (decide (a = b)), h, []) := by
  refine fn_same hE.cadencylaw11_same rfl (by simp) ?_
  have few := ha.few
  have few2 := hb.few
  simp only [argsF]
  (repeat' (first | ((with_reducible refine WG_dec (fun _ => ?_) (fun _ => ?_)) <;> try (exfalso; omega)) | ((with_reducible refine WG_decF (fun _ => ?_) (fun _ => ?_)) <;> try (exfalso; omega)) | ((with_reducible refine WC_dec (fun _ => ?_) (fun _ => ?_)) <;> try (exfalso; omega)) | refine WC_bool (fun _ => ?_) (fun _ => ?_) | refine WG_bool (fun _ => ?_) (fun _ => ?_) | refine WG_boolF (fun _ => ?_) (fun _ => ?_) | simp -dsimp (disch := omega) only [↓run_nil, ↓run_i, ↓co_seq, ↓co_skip, ↓co_ret, ↓co_reg, ↓co_cond, ↓co_block, ↓co_loop, ↓op_mov, ↓op_bin, ↓op_lens, Res_ret, resL_nil, resL_t, resV_one, nn4_bool, WF_eq, W1_some, ↓ev_t, ↓ev_c, ↓upd_at, ↓get_cons, ↓frm_nil, ↓frm_cons, bin_neq, eq_self, true_and, Option.map_some, Nat.reduceEqDiff, Nat.zero_add, ↓reduceIte, reduceCtorEq, *, ha.len, hb.len]))
  · have : a ≠ b := fun e => by subst e; simp_all
    simp [this]
  · have hn1 : a.length ≤ b.length := by omega
    have hn2 : b.length ≤ a.length := by omega
    refine WO.loop (fun n fr h' => h' = h ∧ n ≤ a.length ∧ get fr 0 = va ∧ get fr 1 = vb ∧ get fr 5 = .int .i64 n ∧ a.take n = b.take n) (fun n => a.length - n) ?_ 0 ⟨rfl, Nat.zero_le _, rfl, rfl, rfl, rfl⟩
    rintro n fr h' ⟨rfl, hn, g0, g1, g5, ht⟩
    have Ht := Hid.mk ht
    clear ht
    unfold c_cadencylaw11_same_l0
    rcases Nat.lt_or_ge n a.length with hlt | hge
    · (repeat' (first | ((with_reducible refine WG_dec (fun _ => ?_) (fun _ => ?_)) <;> try (exfalso; omega)) | ((with_reducible refine WG_decF (fun _ => ?_) (fun _ => ?_)) <;> try (exfalso; omega)) | ((with_reducible refine WC_dec (fun _ => ?_) (fun _ => ?_)) <;> try (exfalso; omega)) | refine WC_bool (fun _ => ?_) (fun _ => ?_) | refine WG_bool (fun _ => ?_) (fun _ => ?_) | refine WG_boolF (fun _ => ?_) (fun _ => ?_) | simp -dsimp (disch := omega) only [↓run_nil, ↓run_i, ↓rd_nil, ↓rd_i, ↓co_seq, ↓co_skip, ↓co_ret, ↓co_reg, ↓co_drw, ↓co_cond, ↓co_block, ↓op_mov, ↓op_bin, ↓op_lens, ↓opd_mov, ↓opd_bin, ↓opd_ixs, ↓opd_ld, Res_ret, resL_nil, resL_t, resV_one, nn4_bool, WF_eq, W1_some, ↓ev_t, ↓ev_c, ↓upd_at, ↓get_cons, ↓frm_nil, ↓frm_cons, bin_add, bin_neq, bin_lss, load_ptr, room0, wrap_i64, eq_self, true_and, List.getD_cons_zero, Option.map_some, Nat.reduceEqDiff, ↓reduceIte, reduceCtorEq, *, ha.len, ha.ixs, ha.ld0, hb.ixs, hb.ld0, encI]))
      · have : a ≠ b := fun e => by subst e; simp_all
        simp [this]
      · refine Next.mk (n + 1) ⟨rfl, by omega, rfl, rfl, rfl, ?_⟩ (by omega)
        rw [take_snoc hlt, take_snoc (by omega), Ht.out]
        simp_all
    · have : a = b := by
        have := Ht.out
        rwa [List.take_of_length_le (by omega), List.take_of_length_le (by omega)] at this
      (repeat' (first | ((with_reducible refine WG_dec (fun _ => ?_) (fun _ => ?_)) <;> try (exfalso; omega)) | ((with_reducible refine WG_decF (fun _ => ?_) (fun _ => ?_)) <;> try (exfalso; omega)) | ((with_reducible refine WC_dec (fun _ => ?_) (fun _ => ?_)) <;> try (exfalso; omega)) | refine WC_bool (fun _ => ?_) (fun _ => ?_) | refine WG_bool (fun _ => ?_) (fun _ => ?_) | refine WG_boolF (fun _ => ?_) (fun _ => ?_) | simp -dsimp (disch := omega) only [↓run_nil, ↓run_i, ↓co_seq, ↓co_exit, ↓co_ret, ↓co_reg, ↓co_cond, ↓op_mov, ↓op_bin, ↓op_lens, Res_ret, resL_nil, resL_t, resV_one, nn4_bool, WF_eq, W1_some, ↓ev_t, ↓ev_c, ↓upd_at, ↓get_cons, ↓frm_nil, ↓frm_cons, bin_lss, eq_self, true_and, Option.map_some, Nat.reduceEqDiff, ↓reduceIte, reduceCtorEq, decide_true, *, ha.len]))
theorem rest11 (hE : Laid E) (h : Heap) (x n : Int) (hn : 0 < n) (hn' : n < 4611686018427387904) : callW E (.func (.func n_cadencylaw11_rest) #[] #[]) [.int .i64 x, .int .i64 n] h = some (.int .i64 (x % n), h, []) := by
  have hb := tmod_bounds x n hn
  refine fn_same hE.cadencylaw11_rest rfl (by simp) ?_
  simp -dsimp (disch := omega) only [↓run_nil, ↓run_i, ↓co_seq, ↓co_ret, ↓co_reg, ↓op_mov, ↓op_bin, Res_ret, resL_nil, resL_t, resV_one, nn4_int, WF_eq, W1_some, ↓ev_t, ↓ev_c, ↓upd_at, ↓get_cons, ↓frm_nil, ↓frm_cons, bin_add, wrap_i64, bin_rem, eq_self, true_and, Option.map_some, Nat.reduceEqDiff, Nat.zero_add, ↓reduceIte, reduceCtorEq, argsF, rest_eq x n hn]
def fewS (x : Span) : Span := ⟨x.job % 7 - 1, x.from' % 40, x.to' % 40⟩
theorem few11 (hE : Laid E) {h : Heap} {vs : Value} {l : List Span} (hl : Rd 3 encS h vs l) :
    ∃ v ys, callW E (.func (.func n_cadencylaw11_few) #[] #[]) [vs] h = some (v, h ++ ys, []) ∧ Rd 3 encS (h ++ ys) v ((l.take 12).map fewS) := by
  refine fn_new hE.cadencylaw11_few rfl (Rd.movable flatS _) (by simp) ?_
  have few := hl.few
  simp only [argsF]
  (repeat' (first | ((with_reducible refine WG_dec (fun _ => ?_) (fun _ => ?_)) <;> try (exfalso; omega)) | ((with_reducible refine WG_decF (fun _ => ?_) (fun _ => ?_)) <;> try (exfalso; omega)) | ((with_reducible refine WC_dec (fun _ => ?_) (fun _ => ?_)) <;> try (exfalso; omega)) | refine WC_bool (fun _ => ?_) (fun _ => ?_) | refine WG_bool (fun _ => ?_) (fun _ => ?_) | refine WG_boolF (fun _ => ?_) (fun _ => ?_) | simp -dsimp (disch := omega) only [↓run_nil, ↓run_i, ↓co_seq, ↓co_reg, ↓co_block, ↓co_loop, ↓op_mov, WF_eq, W1_some, ↓ev_c, ↓upd_at, ↓get_cons, ↓frm_nil, ↓frm_cons, eq_self, Nat.reduceEqDiff, ↓reduceIte, reduceCtorEq, *]))
  refine WO.loop (fun n fr h' => Pre h h' ∧ n ≤ l.length ∧ n ≤ 12 ∧ get fr 0 = vs ∧ get fr 4 = .int .i64 n ∧ OwnT h.length 3 encS h' (get fr 3) ((l.take n).map fewS)) (fun n => l.length - n) ?_ 0 ⟨Pre.refl _, Nat.zero_le _, by omega, rfl, rfl, OwnT.nil⟩
  rintro n fr h' ⟨hp, hn', hn2, g0, g4, ho⟩
  generalize hvo : get fr 3 = vo at ho
  unfold c_cadencylaw11_few_l0
  rcases Nat.lt_or_ge n l.length with hlt | hge
  · by_cases h12 : (n : Int) < 12
    · have hl' := hl.pre hp
      have hs : (l.take (n + 1)).map fewS = (l.take n).map fewS ++ [fewS (atI l (n : Int))] := by rw [take_snoc hlt, List.map_append]; rfl
      have hlen : ((l.take n).map fewS).length ≤ 12 := by simp; omega
      have Hs := Hid.mk hs
      clear hs
      generalize (l.take n).map fewS = M at *
      have b1 := tmod_bounds (atI l (n : Int)).from' 40 (by decide)
      have b2 := tmod_bounds (atI l (n : Int)).to' 40 (by decide)
      have e1 := rest_eq (atI l (n : Int)).from' 40 (by decide)
      have e2 := rest_eq (atI l (n : Int)).to' 40 (by decide)
      have hple := hp.le
      (repeat' (first | ((with_reducible refine WG_dec (fun _ => ?_) (fun _ => ?_)) <;> try (exfalso; omega)) | ((with_reducible refine WG_decF (fun _ => ?_) (fun _ => ?_)) <;> try (exfalso; omega)) | ((with_reducible refine WC_dec (fun _ => ?_) (fun _ => ?_)) <;> try (exfalso; omega)) | refine WC_bool (fun _ => ?_) (fun _ => ?_) | refine WG_bool (fun _ => ?_) (fun _ => ?_) | refine WG_boolF (fun _ => ?_) (fun _ => ?_) | simp -dsimp (disch := omega) only [↓run_nil, ↓run_i, ↓run_w, ↓op_call, ↓co_seq, ↓co_skip, ↓co_reg, ↓co_cond, ↓co_block, ↓op_mov, ↓op_pick, ↓op_bin, ↓op_bld, ↓op_fld, ↓op_ixs, ↓op_lens, ↓op_ld, ↓op_bsl, ↓op_app, WF_eq, W1_some, WX_some, WC_true, WG_true, ↓ev_t, ↓ev_c, ↓ev_f, ↓upd_at, ↓get_cons, ↓frm_nil, ↓frm_cons, bin_add, bin_sub, bin_lss, pick_t, cellsV_int, cellsV_agg, one_int, fillV_nil, fillV_cons, setCells_nil, setCells_cons, load_ptr, fld_ptr, newCells, bslV, wrap_i64, bin_rem, eq_self, List.map_cons, List.map_nil, List.length_cons, List.length_nil, List.all_cons, List.all_nil, Bool.and_self, and_self, List.getD_cons_zero, List.getD_cons_succ, List.set_cons_zero, List.set_cons_succ, List.append_nil, Option.bind_some, Option.map_some, Nat.reduceEqDiff, Nat.reduceAdd, Nat.reduceLeDiff, Nat.reduceMul, Nat.zero_add, Nat.add_zero, ↓reduceIte, reduceCtorEq, decide_true, List.flatten_cons, List.flatten_nil, List.replicate_succ, List.replicate_zero, Nat.le_refl, *, hl'.len, hl'.ixs, hl'.ld, hl'.ld0, encS, rest11 hE]))
      refine wx_app1 (sz := 3) (bytes := 24) (ho.app _) (hp.app' _) (Nat.le_refl _) (by simp; omega) (fun b hb => hb) (fewS (atI l (n : Int))) (by simp -dsimp (disch := omega) only [geta0, cellsOf_some, cellO_cells, List.length_cons, List.length_nil, List.getElem?_cons_zero, List.drop_zero, List.take_succ_cons, List.take_zero, Nat.reduceAdd, Nat.reduceMul, Nat.zero_add, ↓reduceIte, Nat.le_refl]; rfl) rfl (by decide) (by decide) (by omega) ?_
      intro v2 h2 k1 k2 k3 k4 k5
      clear k5
      (repeat' (first | ((with_reducible refine WG_dec (fun _ => ?_) (fun _ => ?_)) <;> try (exfalso; omega)) | ((with_reducible refine WG_decF (fun _ => ?_) (fun _ => ?_)) <;> try (exfalso; omega)) | ((with_reducible refine WC_dec (fun _ => ?_) (fun _ => ?_)) <;> try (exfalso; omega)) | refine WC_bool (fun _ => ?_) (fun _ => ?_) | refine WG_bool (fun _ => ?_) (fun _ => ?_) | refine WG_boolF (fun _ => ?_) (fun _ => ?_) | simp -dsimp (disch := omega) only [↓run_nil, ↓run_i, ↓co_reg, ↓op_mov, ↓op_bin, WF_eq, W1_some, ↓ev_t, ↓ev_c, ↓upd_at, ↓get_cons, ↓frm_nil, ↓frm_cons, bin_add, wrap_i64, eq_self, Nat.reduceEqDiff, ↓reduceIte, reduceCtorEq, *]))
      refine Next.mk (n + 1) ⟨k2, by omega, by omega, rfl, rfl, ?_⟩ (by omega)
      rw [Hs.out]; exact k1
    · have e : l.take 12 = l.take n := by rw [show n = 12 by omega]
      rw [e]
      (repeat' (first | ((with_reducible refine WG_dec (fun _ => ?_) (fun _ => ?_)) <;> try (exfalso; omega)) | ((with_reducible refine WG_decF (fun _ => ?_) (fun _ => ?_)) <;> try (exfalso; omega)) | ((with_reducible refine WC_dec (fun _ => ?_) (fun _ => ?_)) <;> try (exfalso; omega)) | refine WC_bool (fun _ => ?_) (fun _ => ?_) | refine WG_bool (fun _ => ?_) (fun _ => ?_) | refine WG_boolF (fun _ => ?_) (fun _ => ?_) | simp -dsimp (disch := omega) only [↓run_nil, ↓run_i, ↓run_w, ↓co_seq, ↓co_exit, ↓co_ret, ↓co_reg, ↓co_cond, ↓op_mov, ↓op_pick, ↓op_bin, ↓op_lens, Res_ret, resL_nil, resL_t, resV_one, WF_eq, W1_some, WC_false, WG_true, ↓ev_t, ↓ev_c, ↓upd_at, ↓get_cons, ↓frm_nil, ↓frm_cons, bin_lss, pick_t, eq_self, Option.map_some, Nat.reduceEqDiff, ↓reduceIte, reduceCtorEq, decide_true, decide_false, *, hl.len]))
      exact ⟨hp.ex, ho.rd⟩
  · have e : l.take 12 = l.take n := by rw [List.take_of_length_le (by omega), List.take_of_length_le (by omega)]
    rw [e]
    (repeat' (first | ((with_reducible refine WG_dec (fun _ => ?_) (fun _ => ?_)) <;> try (exfalso; omega)) | ((with_reducible refine WG_decF (fun _ => ?_) (fun _ => ?_)) <;> try (exfalso; omega)) | ((with_reducible refine WC_dec (fun _ => ?_) (fun _ => ?_)) <;> try (exfalso; omega)) | refine WC_bool (fun _ => ?_) (fun _ => ?_) | refine WG_bool (fun _ => ?_) (fun _ => ?_) | refine WG_boolF (fun _ => ?_) (fun _ => ?_) | simp -dsimp (disch := omega) only [↓run_nil, ↓run_i, ↓run_w, ↓co_seq, ↓co_exit, ↓co_ret, ↓co_reg, ↓co_cond, ↓op_mov, ↓op_pick, ↓op_bin, ↓op_lens, Res_ret, resL_nil, resL_t, resV_one, WF_eq, W1_some, WC_false, WG_ft, ↓ev_t, ↓ev_c, ↓upd_at, ↓get_cons, ↓frm_nil, ↓frm_cons, bin_lss, pick_f, eq_self, Option.map_some, Nat.reduceEqDiff, ↓reduceIte, reduceCtorEq, decide_false, *, hl.len]))
    exact ⟨hp.ex, ho.rd⟩
end Go.L.Try

/- ALL THAT IS TOLD: cadencylaw11.tells. -/
set_option linter.unusedVariables false
set_option linter.unusedSimpArgs false
set_option maxRecDepth 100000
set_option maxHeartbeats 4000000
namespace Go.L.Try
open Go Go.L
variable {E : Env}
theorem tells_l0 (hE : Laid E) {W : Nat → Prop} {h0 : Heap} (hW : ∀ b, h0.length ≤ b → W b) {vj ve : Value} {lv : List (NV Job)} {ends : List Int} (hj : Rd 5 (encN hdJ) h0 vj lv) (hc : ∀ p ∈ lv, oneCell p.v = true) (he : Rd 1 encI h0 ve ends) (hs : Small ends) (hsj : SmallJ (lv.map (·.j))) {v3 v8 : Value} {Q : Ex → Fr → Heap → Prop} {fr : Fr}
    (g1 : get fr 1 = vj) (g2 : get fr 2 = ve) (g3 : get fr 3 = v3) (g8 : get fr 8 = v8) (g11 : get fr 11 = .int .i64 (-1))
    (hq : ∀ fr' h', Pre h0 h' → get fr' 3 = v3 → get fr' 8 = v8 → Q (.exit 0) fr' h') :
    WO W (iterW (code (callW E) iterW 153 c_cadencylaw11_tells_l0) fr h0) Q := by
  have few := hj.few
  refine WO.loop (fun n fr h' => Pre h0 h' ∧ n ≤ lv.length + 3 ∧ get fr 1 = vj ∧ get fr 2 = ve ∧ get fr 3 = v3 ∧ get fr 8 = v8 ∧ get fr 11 = .int .i64 ((n : Int) - 1)) (fun n => lv.length + 3 - n) ?_ 0 ⟨Pre.refl _, Nat.zero_le _, g1, g2, g3, g8, g11⟩
  rintro n fr h' ⟨hp, hn, g1, g2, g3, g8, g11⟩
  unfold c_cadencylaw11_tells_l0
  rcases Nat.lt_or_ge n (lv.length + 3) with hlt | hge
  · have hj' := hj.pre hp
    have he' := he.pre hp
    have q1 := fun x => response hE (hj'.app x) (he'.app x) hs hsj ((n : Int) - 1)
    have q2 := fun x => response11 hE (hj'.app x) (he'.app x) hs hsj ((n : Int) - 1)
    have q3 := fun x => worst hE (hj'.app x) hc (he'.app x) hs hsj ((n : Int) - 1)
    have q4 := fun x => worst11 hE (hj'.app x) (he'.app x) hs hsj ((n : Int) - 1)
    have q1' := response hE hj' he' hs hsj ((n : Int) - 1)
    have q2' := response11 hE hj' he' hs hsj ((n : Int) - 1)
    have hW0 := hW h'.length hp.le
    have hW1 := hW (h'.length + 1) (by have := hp.le; omega)
    clear hq hs hsj hc
    (repeat' (first | ((with_reducible refine WG_dec (fun _ => ?_) (fun _ => ?_)) <;> try (exfalso; omega)) | ((with_reducible refine WG_decF (fun _ => ?_) (fun _ => ?_)) <;> try (exfalso; omega)) | ((with_reducible refine WC_dec (fun _ => ?_) (fun _ => ?_)) <;> try (exfalso; omega)) | refine WC_bool (fun _ => ?_) (fun _ => ?_) | refine WG_bool (fun _ => ?_) (fun _ => ?_) | refine WG_boolF (fun _ => ?_) (fun _ => ?_) | simp -dsimp (disch := omega) only [↓run_nil, ↓run_i, ↓run_k, ↓run_w, ↓op_st, ↓op_call, ↓co_seq, ↓co_skip, ↓co_reg, ↓co_cond, ↓co_block, ↓op_mov, ↓op_pick, ↓op_bin, ↓op_fld, ↓op_ext, ↓op_lens, ↓op_ld, ↓op_all, WF_eq, W1_some, WX_some, WH_some1, WC_false, WG_false, ↓ev_t, ↓ev_c, ↓ev_f, ↓upd_at, ↓get_cons, ↓frm_nil, ↓frm_cons, bin_add, bin_neq, bin_lss, bin_bne, pick_f, cellsV_agg, one_int, one_bool, setCells_nil, setCells_cons, load_ptr, ldO_cells, part_none, store_ptr, stO_cells, fld_ptr, ext_tuple, nt_int, nt_bool, geta, geta0, seta, seta0, newCells, wrap_i64, eq_self, beq_self_eq_true, Bool.not_true, List.map_cons, List.map_nil, List.length_append, List.length_cons, List.length_nil, List.all_cons, List.all_nil, Bool.and_self, true_and, and_self, List.getElem?_cons_zero, List.getElem?_cons_succ, List.set_cons_zero, List.set_cons_succ, List.append_assoc, List.cons_append, List.nil_append, Nat.reduceEqDiff, Nat.reduceAdd, Nat.zero_add, Nat.add_zero, ↓reduceIte, decide_true, decide_false, not_true_eq_false, Nat.le_refl, *, hj'.len]))
    exact Next.mk (n + 1) ⟨hp.app' _, by omega, rfl, rfl, rfl, rfl, by simp [get] <;> omega⟩ (by omega)
  · (repeat' (first | ((with_reducible refine WG_dec (fun _ => ?_) (fun _ => ?_)) <;> try (exfalso; omega)) | ((with_reducible refine WG_decF (fun _ => ?_) (fun _ => ?_)) <;> try (exfalso; omega)) | ((with_reducible refine WC_dec (fun _ => ?_) (fun _ => ?_)) <;> try (exfalso; omega)) | refine WC_bool (fun _ => ?_) (fun _ => ?_) | refine WG_bool (fun _ => ?_) (fun _ => ?_) | refine WG_boolF (fun _ => ?_) (fun _ => ?_) | simp -dsimp (disch := omega) only [↓run_nil, ↓run_i, ↓co_seq, ↓co_exit, ↓co_reg, ↓co_cond, ↓op_mov, ↓op_bin, ↓op_lens, WF_eq, W1_some, ↓ev_t, ↓ev_c, ↓upd_at, ↓get_cons, ↓frm_nil, ↓frm_cons, bin_add, bin_lss, wrap_i64, eq_self, Nat.reduceEqDiff, ↓reduceIte, decide_false, *, (hj.pre hp).len]))
    exact hq _ _ hp rfl rfl
/-- The heap while the busy rows are told. -/
def tH (H : Heap) (v : Value) (a b : Int) (lo : LObj) : Heap := H ++ [.cells [v] false, .cells [.int .i64 a] false, .cells [.int .i64 b] false, lo]
theorem tH_len (H v a b lo) : (tH H v a b lo).length = H.length + 4 := by simp [tH]
theorem tH_0 (H v a b lo) : (tH H v a b lo)[H.length]? = some (.cells [v] false) := by unfold tH; rw [geta0]; rfl
theorem tH_1 (H v a b lo) : (tH H v a b lo)[H.length + 1]? = some (.cells [.int .i64 a] false) := by unfold tH; rw [geta]; rfl
theorem tH_2 (H v a b lo) : (tH H v a b lo)[H.length + 2]? = some (.cells [.int .i64 b] false) := by unfold tH; rw [geta]; rfl
theorem tH_3 (H v a b lo) : (tH H v a b lo)[H.length + 3]? = some lo := by unfold tH; rw [geta]; rfl
theorem tH_s1 (H v a b lo) (x : Int) : (tH H v a b lo).set (H.length + 1) (.cells [.int .i64 x] false) = tH H v x b lo := by unfold tH; rw [List.set_append_right _ _ (by omega), show H.length + 1 - H.length = 1 by omega]; rfl
theorem tH_s2 (H v a b lo) (x : Int) : (tH H v a b lo).set (H.length + 2) (.cells [.int .i64 x] false) = tH H v a x lo := by unfold tH; rw [List.set_append_right _ _ (by omega), show H.length + 2 - H.length = 2 by omega]; rfl
theorem tH_s3 (H v a b lo) (x : LObj) : (tH H v a b lo).set (H.length + 3) x = tH H v a b x := by unfold tH; rw [List.set_append_right _ _ (by omega), show H.length + 3 - H.length = 3 by omega]; rfl
theorem tH_pre (H v a b lo) : Pre H (tH H v a b lo) := Pre.app H _
theorem tH_take (H v a b lo) : (tH H v a b lo).take (H.length + 3) = H ++ [.cells [v] false, .cells [.int .i64 a] false, .cells [.int .i64 b] false] := by
  unfold tH; rw [List.take_append, List.take_of_length_le (by omega)]; simp
theorem tells (hE : Laid E) {h : Heap} {vl vj ve vs : Value} {l : List Task} {jobs : List Job} {ends : List Int} {sp : List Span} (hl : Rd 7 encT h vl l) (hj : RdJ h vj jobs) (he : Rd 1 encI h ve ends) (hsp : Rd 3 encS h vs sp)
    (hs : Small ends) (hsj : SmallJ jobs) (hw : ∀ j ∈ jobs, 1 ≤ j.work ∧ j.work ≤ 2147483647) (hok : SpansOk sp) (hn : jobs.length ≤ 65536) (hn2 : sp.length ≤ 65536) :
    callW E (.func (.func n_cadencylaw11_tells) #[] #[]) [vl, vj, ve, vs] h = some (.bool true, h, []) := by
  refine fn_same hE.cadencylaw11_tells rfl (by simp) ?_
  obtain ⟨lv, rfl, hlv, hc⟩ := hj.is
  have hone : ∀ p ∈ lv, oneCell p.v = true := fun p hp => (hc p hp).one
  have few := hlv.few
  rw [List.length_map] at hn
  simp only [argsF]
  (repeat' (first | ((with_reducible refine WG_dec (fun _ => ?_) (fun _ => ?_)) <;> try (exfalso; omega)) | ((with_reducible refine WG_decF (fun _ => ?_) (fun _ => ?_)) <;> try (exfalso; omega)) | ((with_reducible refine WC_dec (fun _ => ?_) (fun _ => ?_)) <;> try (exfalso; omega)) | refine WC_bool (fun _ => ?_) (fun _ => ?_) | refine WG_bool (fun _ => ?_) (fun _ => ?_) | refine WG_boolF (fun _ => ?_) (fun _ => ?_) | simp -dsimp (disch := omega) only [↓run_nil, ↓run_i, ↓op_call, ↓co_seq, ↓co_reg, ↓op_mov, ↓op_all, WF_eq, W1_some, ↓ev_t, ↓ev_f, ↓upd_at, ↓get_cons, ↓frm_nil, ↓frm_cons, one_bool, newCells, eq_self, List.map_cons, List.map_nil, List.all_cons, List.all_nil, Bool.and_self, Nat.reduceEqDiff, Nat.reduceAdd, Nat.zero_add, ↓reduceIte, reduceCtorEq, *]))
  refine wx_new (Go.L.Try.ends hE (hlv.app _) (hsp.app _) hok hw (by omega)) fun v1 ys r1 p1 => ?_
  generalize _ ++ ys = H1 at r1 p1 ⊢
  have P1 := (Pre.app h _).trans p1
  (repeat' (first | ((with_reducible refine WG_dec (fun _ => ?_) (fun _ => ?_)) <;> try (exfalso; omega)) | ((with_reducible refine WG_decF (fun _ => ?_) (fun _ => ?_)) <;> try (exfalso; omega)) | ((with_reducible refine WC_dec (fun _ => ?_) (fun _ => ?_)) <;> try (exfalso; omega)) | refine WC_bool (fun _ => ?_) (fun _ => ?_) | refine WG_bool (fun _ => ?_) (fun _ => ?_) | refine WG_boolF (fun _ => ?_) (fun _ => ?_) | simp -dsimp (disch := omega) only [↓run_i, ↓op_call, ↓op_mov, W1_some, ↓ev_t, ↓ev_f, ↓upd_at, ↓get_cons, eq_self, List.map_cons, List.map_nil, Nat.reduceEqDiff, ↓reduceIte, reduceCtorEq, *]))
  refine wx_new (ends11 hE (hlv.pre P1) (hsp.pre P1) hok hw (by omega)) fun v2 ys r2 p2 => ?_
  generalize _ ++ ys = H2 at r2 p2 ⊢
  have P2 := P1.trans p2
  have q2 := sameTicks10 hE (r1.pre p2) r2
  (repeat' (first | ((with_reducible refine WG_dec (fun _ => ?_) (fun _ => ?_)) <;> try (exfalso; omega)) | ((with_reducible refine WG_decF (fun _ => ?_) (fun _ => ?_)) <;> try (exfalso; omega)) | ((with_reducible refine WC_dec (fun _ => ?_) (fun _ => ?_)) <;> try (exfalso; omega)) | refine WC_bool (fun _ => ?_) (fun _ => ?_) | refine WG_bool (fun _ => ?_) (fun _ => ?_) | refine WG_boolF (fun _ => ?_) (fun _ => ?_) | simp -dsimp (disch := omega) only [↓run_nil, ↓run_i, ↓op_call, ↓co_seq, ↓co_reg, ↓op_mov, WF_eq, W1_some, WX_some, ↓ev_t, ↓ev_f, ↓upd_at, ↓get_cons, ↓frm_nil, ↓frm_cons, eq_self, List.map_cons, List.map_nil, Nat.reduceEqDiff, ↓reduceIte, reduceCtorEq, decide_true, *]))
  refine wx_new (misses hE (hl.pre P2) (hlv.pre P2) hone (he.pre P2) hs hsj (by omega)) fun v3 ys r3 p3 => ?_
  generalize _ ++ ys = H3 at r3 p3 ⊢
  have P3 := P2.trans p3
  (repeat' (first | ((with_reducible refine WG_dec (fun _ => ?_) (fun _ => ?_)) <;> try (exfalso; omega)) | ((with_reducible refine WG_decF (fun _ => ?_) (fun _ => ?_)) <;> try (exfalso; omega)) | ((with_reducible refine WC_dec (fun _ => ?_) (fun _ => ?_)) <;> try (exfalso; omega)) | refine WC_bool (fun _ => ?_) (fun _ => ?_) | refine WG_bool (fun _ => ?_) (fun _ => ?_) | refine WG_boolF (fun _ => ?_) (fun _ => ?_) | simp -dsimp (disch := omega) only [↓run_i, ↓op_call, ↓op_mov, W1_some, ↓ev_t, ↓ev_f, ↓upd_at, ↓get_cons, eq_self, List.map_cons, List.map_nil, Nat.reduceEqDiff, ↓reduceIte, reduceCtorEq, *]))
  refine wx_new (misses11 hE (hl.pre P3) (hlv.pre P3) hone (he.pre P3) hs hsj (by omega)) fun v4 ys r4 p4 => ?_
  generalize _ ++ ys = H4 at r4 p4 ⊢
  have P4 := P3.trans p4
  have q4 := same11 hE (r3.pre p4) r4
  (repeat' (first | ((with_reducible refine WG_dec (fun _ => ?_) (fun _ => ?_)) <;> try (exfalso; omega)) | ((with_reducible refine WG_decF (fun _ => ?_) (fun _ => ?_)) <;> try (exfalso; omega)) | ((with_reducible refine WC_dec (fun _ => ?_) (fun _ => ?_)) <;> try (exfalso; omega)) | refine WC_bool (fun _ => ?_) (fun _ => ?_) | refine WG_bool (fun _ => ?_) (fun _ => ?_) | refine WG_boolF (fun _ => ?_) (fun _ => ?_) | simp -dsimp (disch := omega) only [↓run_nil, ↓run_i, ↓run_w, ↓op_call, ↓co_seq, ↓co_skip, ↓co_reg, ↓co_cond, ↓co_block, ↓co_loop, ↓op_mov, ↓op_pick, ↓op_un, WF_eq, W1_some, WX_some, WC_false, WG_false, ↓ev_t, ↓ev_c, ↓ev_f, ↓upd_at, ↓get_cons, ↓frm_nil, ↓frm_cons, un_not, pick_f, eq_self, Bool.not_true, List.map_cons, List.map_nil, Nat.reduceEqDiff, ↓reduceIte, reduceCtorEq, decide_true, *]))
  refine tells_l0 hE (fun b hb => by have := P4.le; omega) (hlv.pre P4) hone (he.pre P4) hs hsj rfl rfl rfl rfl rfl fun fr' H5 p5 g3 g8 => ?_
  have P5 := P4.trans p5
  (repeat' (first | ((with_reducible refine WG_dec (fun _ => ?_) (fun _ => ?_)) <;> try (exfalso; omega)) | ((with_reducible refine WG_decF (fun _ => ?_) (fun _ => ?_)) <;> try (exfalso; omega)) | ((with_reducible refine WC_dec (fun _ => ?_) (fun _ => ?_)) <;> try (exfalso; omega)) | refine WC_bool (fun _ => ?_) (fun _ => ?_) | refine WG_bool (fun _ => ?_) (fun _ => ?_) | refine WG_boolF (fun _ => ?_) (fun _ => ?_) | simp -dsimp (disch := omega) only [↓run_i, ↓op_call, ↓co_seq, ↓co_reg, ↓op_mov, W1_some, ↓ev_t, ↓ev_f, ↓upd_at, ↓get_cons, eq_self, List.map_cons, List.map_nil, Nat.reduceEqDiff, ↓reduceIte, *]))
  refine wx_new (busy hE (hsp.pre P5)) fun v6 ys r6 p6 => ?_
  generalize _ ++ ys = H6 at r6 p6 ⊢
  have P6 := P5.trans p6
  obtain ⟨bx, u, rfl, hge, hbx, hue, hu⟩ := r6
  subst hue
  (repeat' (first | ((with_reducible refine WG_dec (fun _ => ?_) (fun _ => ?_)) <;> try (exfalso; omega)) | ((with_reducible refine WG_decF (fun _ => ?_) (fun _ => ?_)) <;> try (exfalso; omega)) | ((with_reducible refine WC_dec (fun _ => ?_) (fun _ => ?_)) <;> try (exfalso; omega)) | refine WC_bool (fun _ => ?_) (fun _ => ?_) | refine WG_bool (fun _ => ?_) (fun _ => ?_) | refine WG_boolF (fun _ => ?_) (fun _ => ?_) | simp -dsimp (disch := omega) only [↓run_nil, ↓run_i, ↓op_call, ↓co_seq, ↓co_skip, ↓co_reg, ↓co_cond, ↓op_mov, ↓op_bin, WF_eq, W1_some, WC_false, ↓ev_t, ↓ev_c, ↓ev_f, ↓upd_at, ↓get_cons, ↓frm_nil, ↓frm_cons, eq_self, bin_fnil, List.map_cons, List.map_nil, Nat.reduceEqDiff, ↓reduceIte, *]))
  refine wx_new (busy11 hE (hsp.pre P6) hn2) fun v7 ys r7 p7 => ?_
  generalize _ ++ ys = H7 at r7 p7 ⊢
  have P7 := P6.trans p7
  have o7 := r7.one
  have c7 := r7.cv
  (repeat' (first | ((with_reducible refine WG_dec (fun _ => ?_) (fun _ => ?_)) <;> try (exfalso; omega)) | ((with_reducible refine WG_decF (fun _ => ?_) (fun _ => ?_)) <;> try (exfalso; omega)) | ((with_reducible refine WC_dec (fun _ => ?_) (fun _ => ?_)) <;> try (exfalso; omega)) | refine WC_bool (fun _ => ?_) (fun _ => ?_) | refine WG_bool (fun _ => ?_) (fun _ => ?_) | refine WG_boolF (fun _ => ?_) (fun _ => ?_) | simp -dsimp (disch := omega) only [↓run_nil, ↓run_i, ↓run_k, ↓op_st, ↓co_seq, ↓co_reg, ↓co_block, ↓op_mov, ↓op_all, WF_eq, W1_some, WH_some1, ↓ev_t, ↓ev_c, ↓upd_at, ↓get_cons, ↓frm_nil, ↓frm_cons, cellsV_int, one_int, one_slice, setCells_nil, setCells_cons, store_ptr, stO_cells, geta, geta0, seta, seta0, newCells, eq_self, List.length_append, List.length_cons, List.length_nil, List.all_cons, List.all_nil, Bool.and_self, true_and, and_self, List.getElem?_cons_zero, List.getElem?_cons_succ, List.set_cons_zero, List.set_cons_succ, List.append_assoc, List.cons_append, List.nil_append, Nat.reduceEqDiff, Nat.reduceAdd, Nat.zero_add, ↓reduceIte, Nat.le_refl, *, P7.le, P7.le_add]))
  have hyl : (busyP sp).length ≤ 65536 := by have := yN_len sp.length sp; unfold busyP; omega
  have hkin := longK_in hok
  have hbxl := (List.getElem?_eq_some_iff.1 hbx).1
  have hp67 := p7.le
  have hbx7 : H7[bx]? = some (.cells [u] false) := p7 _ _ hbx
  have hu7 := hu.pre p7
  have hlong := fun x => long hE (hu7.app x) hok hn2
  have hP7 := P7.le
  have hres : H7[h.length]? = some (.cells [.bool false] false) := (p1.trans (p2.trans (p3.trans (p4.trans (p5.trans (p6.trans p7)))))) h.length _ (by rw [geta0]; rfl)
  refine co_rng hE.keep (W' := fun b => b = H7.length + 1 ∨ b = H7.length + 2 ∨ b = H7.length + 3) rfl (fun x hx hlt => by omega) ?_
  have hBL : (H7 ++ [LObj.cells [v7] false, LObj.cells [Value.int .i64 0] false, LObj.cells [Value.int .i64 0] false]).length = H7.length + 3 := by simp
  rw [hBL]
  generalize hLr : LObj.loop _ = lo
  have hT0 : H7 ++ [LObj.cells [v7] false, LObj.cells [Value.int .i64 0] false, LObj.cells [Value.int .i64 0] false] ++ [lo] = tH H7 v7 0 0 lo := by simp [tH]
  rw [hT0]
  have H1 : ∀ k hh, hh = tH H7 v7 (k : Nat) (longK sp k) lo → hh.length = (tH H7 v7 0 0 lo).length ∧ hh[bx]? = some (.cells [u] false) ∧ Rd 3 encS hh u sp := fun k hh e => by
    subst e
    exact ⟨by rw [tH_len, tH_len], tH_pre _ _ _ _ _ _ _ hbx7, hu7.pre (tH_pre _ _ _ _ _)⟩
  refine WX.mono (busy_iter hE (J := fun k hh => hh = tH H7 v7 (k : Nat) (longK sp k) lo) (Stop := fun _ => False) H1 rfl (fun _ hf => hf.elim) ?_) (fun b hb => hb) ?_
  · rintro k hh p hp rfl
    have hk : k < (busyP sp).length := (List.getElem?_eq_some_iff.1 hp).1
    have hpk : (busyP sp).getD k (0, 0) = p := by rw [List.getD_eq_getElem?_getD, hp]; rfl
    have hpin := busyP_in hok p (List.mem_of_getElem? hp)
    have hk1 := hkin k (by omega)
    have hk2 : longK sp (k + 1) = longK sp k + p.2 - p.1 := by simp only [longK, hpk]
    have hmul : (k : Int) * 35184372088832 ≤ 65536 * 35184372088832 := Int.mul_le_mul_of_nonneg_right (by omega) (by decide)
    have hkm : k < ((busyP sp).map mkB).length := by simpa using hk
    have eat : atI ((busyP sp).map mkB) (k : Int) = mkB p := by
      rw [atI_nat hkm, List.getElem_map]
      congr 1
      have := List.getElem?_eq_getElem hk
      rw [hp] at this; exact (Option.some.inj this).symm
    have ef : (atI ((busyP sp).map mkB) (k : Int)).from' = p.1 := by rw [eat]; rfl
    have et : (atI ((busyP sp).map mkB) (k : Int)).to' = p.2 := by rw [eat]; rfl
    have r7' := r7.pre (tH_pre H7 v7 (k : Nat) (longK sp k) lo)
    have hL := (tH_3 H7 v7 (k : Nat) (longK sp k) lo).trans (congrArg some hLr.symm)
    refine WX.mono (wx_round hE.keep (W := fun b => b = H7.length + 1 ∨ b = H7.length + 2) (Rr := fun e h3 => leaves e = none ∧ h3 = tH H7 v7 ((k + 1 : Nat) : Int) (longK sp (k + 1)) lo) hL rfl rfl rfl rfl (fun b hb => by omega) ?_) (fun b hb => by omega) ?_
    · have H2 := Hid.mk hk2
      have HL := Hid.mk hLr
      have hlenT := tH_len H7 v7 (k : Nat) (longK sp k)
      clear hk2 hL H1 hkin hp hpk eat hbx hbx7 hlong hLr hT0 hBL
      dsimp only
      rw [HL.out]
      generalize LObj.loop _ = lb
      replace r7' := r7.pre (tH_pre H7 v7 (k : Nat) (longK sp k) lb)
      unfold c_cadencylaw11_tells_l1
      (repeat' (first | ((with_reducible refine WG_dec (fun _ => ?_) (fun _ => ?_)) <;> try (exfalso; omega)) | ((with_reducible refine WG_decF (fun _ => ?_) (fun _ => ?_)) <;> try (exfalso; omega)) | ((with_reducible refine WC_dec (fun _ => ?_) (fun _ => ?_)) <;> try (exfalso; omega)) | refine WC_bool (fun _ => ?_) (fun _ => ?_) | refine WG_bool (fun _ => ?_) (fun _ => ?_) | refine WG_boolF (fun _ => ?_) (fun _ => ?_) | simp -dsimp (disch := omega) only [↓run_nil, ↓run_i, ↓co_seq, ↓co_reg, ↓op_mov, WF_eq, W1_some, ↓ev_t, ↓upd_at, ↓get_cons, ↓frm_nil, ↓frm_cons, eq_self, true_and, Nat.reduceEqDiff, ↓reduceIte, *, tH_s3]))
      unfold c_cadencylaw11_tells_l2
      (repeat' (first | ((with_reducible refine WG_dec (fun _ => ?_) (fun _ => ?_)) <;> try (exfalso; omega)) | ((with_reducible refine WG_decF (fun _ => ?_) (fun _ => ?_)) <;> try (exfalso; omega)) | ((with_reducible refine WC_dec (fun _ => ?_) (fun _ => ?_)) <;> try (exfalso; omega)) | refine WC_bool (fun _ => ?_) (fun _ => ?_) | refine WG_bool (fun _ => ?_) (fun _ => ?_) | refine WG_boolF (fun _ => ?_) (fun _ => ?_) | simp -dsimp (disch := omega) only [↓run_nil, ↓run_i, ↓run_k, ↓run_w, ↓op_st, ↓co_seq, ↓co_skip, ↓co_reg, ↓co_cond, ↓co_block, ↓op_mov, ↓op_pick, ↓op_bin, ↓op_fld, ↓op_ixs, ↓op_lens, ↓op_ld, WF_eq, W1_some, WH_some1, WC_false, WG_false, ↓ev_t, ↓ev_c, ↓upd_at, ↓get_cons, ↓frm_nil, ↓frm_cons, bin_add, bin_sub, bin_neq, bin_geq, pick_f, cellsV_int, one_int, setCells_nil, setCells_cons, load_ptr, ldO_cells, part_none, store_ptr, stO_cells, fld_ptr, wrap_i64, eq_self, List.length_cons, List.length_nil, List.all_cons, List.all_nil, Bool.and_self, and_self, List.getElem?_cons_zero, List.getD_cons_zero, List.getD_cons_succ, List.set_cons_zero, Nat.reduceEqDiff, Nat.zero_add, ↓reduceIte, decide_false, not_true_eq_false, Nat.le_refl, *, r7'.len, r7'.ixs, r7'.ld, encS, tH_0, tH_1, tH_2, tH_s1, tH_s2, tH_s3]))
      refine ⟨.inr trivial, .inl trivial, fun b hb hbe => ?_, rfl, ?_⟩
      · rcases hbe with rfl | rfl
        · rw [tH_1]; rfl
        · rw [tH_2]; rfl
      · rw [List.take_of_length_le (by rw [tH_len]; omega), H2.out]; rfl
    · rintro v h' ⟨e, h3, ⟨he3, rfl⟩, rfl, rfl⟩
      rw [he3]
      exact .inl ⟨rfl, rfl⟩
  · rintro v h' (rfl | hf)
    · refine ⟨_, by rw [tH_3, ← hLr], by simp, ?_, ?_⟩
      · rintro b hb (rfl | rfl | rfl)
        · rw [tH_1]; rfl
        · rw [tH_2]; rfl
        · simp at hb
      · rw [tH_take]
        have hlen7 : (((busyP sp).map mkB).length : Int) = (busyP sp).length := by simp
        have hlp : longP sp = longK sp (busyP sp).length := rfl
        have hresx : ∀ x, (H7 ++ x)[h.length]? = some (.cells [.bool false] false) := fun x => by
          rw [List.getElem?_append_left (List.getElem?_eq_some_iff.1 hres).1]; exact hres
        have hlt7 := (List.getElem?_eq_some_iff.1 hres).1
        have hlt7' : ∀ x : List LObj, h.length < (H7 ++ x).length := fun x => by simp; omega
        (repeat' (first | ((with_reducible refine WG_dec (fun _ => ?_) (fun _ => ?_)) <;> try (exfalso; omega)) | ((with_reducible refine WG_decF (fun _ => ?_) (fun _ => ?_)) <;> try (exfalso; omega)) | ((with_reducible refine WC_dec (fun _ => ?_) (fun _ => ?_)) <;> try (exfalso; omega)) | refine WC_bool (fun _ => ?_) (fun _ => ?_) | refine WG_bool (fun _ => ?_) (fun _ => ?_) | refine WG_boolF (fun _ => ?_) (fun _ => ?_) | simp -dsimp (disch := omega) only [↓rd_nil, ↓rd_i, ↓rd_k, ↓rd_w, ↓opd_st, ↓opd_callt, ↓co_seq, ↓co_ret, ↓co_drw, ↓opd_mov, ↓opd_pick, ↓opd_bin, ↓opd_lens, ↓opd_ld, WQ_same, Res_ret, resL_nil, resL_v, resV_one, nn4_bool, WF_eq, W1_some, WH_some1, WG_true, ↓ev_t, ↓ev_c, ↓ev_f, ↓upd_at, ↓get_cons, ↓frm_nil, ↓frm_cons, bin_eql, pick_t, cellsV_bool, one_bool, setCells_nil, setCells_cons, load_ptr, ldO_cells, part_none, store_ptr, stO_cells, geta, geta0, room0, eq_self, List.map_cons, List.map_nil, List.length_cons, List.length_nil, List.all_cons, List.all_nil, Bool.and_self, true_and, and_self, List.getElem?_cons_zero, List.getElem?_cons_succ, List.set_cons_zero, Option.bind_some, Option.map_some, Nat.reduceEqDiff, Nat.zero_add, ↓reduceIte, decide_true, Nat.le_refl, *, r7.len, gset (hlt7' _)]))
    · exact hf.elim
end Go.L.Try

/- TraceTells: the law. -/
set_option linter.unusedVariables false
set_option linter.unusedSimpArgs false
set_option maxRecDepth 100000
set_option maxHeartbeats 4000000
namespace Go.L.Try
open Go Go.L
variable {E : Env}
/- PLAIN FACTS -/
theorem setPs_len (n turn : Int) (k : Nat) (L : List Task) : (setPs n turn k L).length = L.length := by simp [setPs]
theorem setP_len (l : List Spec) {most turn : Int} (hm : 1 ≤ most) : 0 < (setP l most turn).length ∧ ((setP l most turn).length : Int) ≤ most := by
  simp only [setP, setPs_len, List.length_mapIdx, List.length_take]
  split
  · simp; omega
  · rename_i hl
    have : 0 < l.length := List.length_pos_iff.2 hl
    omega
theorem setP_mem {l : List Spec} {most turn : Int} {t : Task} (ht : t ∈ setP l most turn) : t.name.size = 2 ∧ 1 ≤ t.C ∧ t.C ≤ 4 := by
  obtain ⟨i, hi, rfl⟩ := List.getElem_of_mem ht
  have key : ∀ (s : Spec) (j : Nat), (setTask j s).name.size = 2 ∧ 1 ≤ (setTask j s).C ∧ (setTask j s).C ≤ 4 := fun s j => by
    refine ⟨rfl, ?_, ?_⟩ <;> simp only [setTask] <;> omega
  have h2 : ∀ (c : Prop) [Decidable c] (t : Task) (x : Int), (t.name.size = 2 ∧ 1 ≤ t.C ∧ t.C ≤ 4) → ((if c then { t with P := x } else t).name.size = 2 ∧ 1 ≤ (if c then { t with P := x } else t).C ∧ (if c then { t with P := x } else t).C ≤ 4) := fun c _ t x h => by split <;> exact h
  simp only [setP, setPs, List.getElem_mapIdx]
  exact h2 _ _ _ (key _ _)
theorem jobsP_in {l : List Task} (hl : 0 < l.length) (hok : ∀ t ∈ l, okTask t) (hC : ∀ t ∈ l, t.C ≤ 4) (raw : List Raw) : ∀ j ∈ jobsP l raw, jobIn raw.length j ∧ j.work ≤ 4 := by
  have key : ∀ (n : Nat), n ≤ raw.length → ∀ j ∈ jobsP l (raw.take n), jobIn n j ∧ j.work ≤ 4 := by
    intro n
    induction n with
    | zero => simp [jobsP]
    | succ n ih =>
      intro hn j hj
      rw [take_snoc (by omega), jobsP_snoc, List.mem_append, List.mem_singleton] at hj
      rcases hj with hj | rfl
      · have h := ih (by omega) j hj
        refine ⟨?_, h.2⟩
        have := h.1
        unfold jobIn at this ⊢
        simp only [Int.natCast_add, Int.natCast_one]; omega
      · refine ⟨jobOf_in hl hok (fun j hj => (ih (by omega) j hj).1) _, ?_⟩
        have h1 := emod_in (atI raw (n : Int)).task l.length (by omega)
        have hm := atI_mem h1.1 h1.2
        have hc := hC _ hm
        have hr := (hok _ hm).1
        simp only [rangesB] at hr
        have h4 := emod_in (atI raw (n : Int)).work (atI l ((atI raw (n : Int)).task % l.length)).C (by omega)
        simp only [jobOf]; omega
  have h := key raw.length (Nat.le_refl _)
  rw [List.take_length] at h; exact h
theorem decodeP_in {l : List Task} (hC : ∀ t ∈ l, t.C ≤ 4) (raw : List Raw) : (decodeP l raw).length ≤ raw.length ∧ ∀ j ∈ decodeP l raw, jobIn raw.length j ∧ j.work ≤ 4 := by
  unfold decodeP
  split
  · rename_i h
    obtain ⟨h1, _, h3⟩ := checkAll_ok h
    refine ⟨by rw [jobsP_len, List.length_take]; omega, fun j hj => ?_⟩
    have h := jobsP_in h1 h3 hC (raw.take 4096) j hj
    refine ⟨?_, h.2⟩
    have h := h.1
    have hlen : (raw.take 4096).length ≤ raw.length := by rw [List.length_take]; omega
    unfold jobIn at h ⊢
    omega
  · simp
theorem sumN_four : ∀ n : Nat, sumN (fun _ => 4) n = 4 * n
  | 0 => rfl
  | n + 1 => by simp only [sumN, sumN_four n]; omega
theorem sumWork_four {jobs : List Job} (h : ∀ j ∈ jobs, j.work ≤ 4) : sumWork jobs ≤ 4 * jobs.length := by
  rw [← sumN_four]
  exact sumN_le fun i hi => h _ (atI_mem (by omega) (by omega))
/-- The times of a run are no later than it is. -/
def rsTimes (s : RS) : Prop := 0 ≤ s.t ∧ (∀ x ∈ s.L, (0 ≤ x.from' ∧ x.from' ≤ s.t) ∧ 0 ≤ x.to' ∧ x.to' ≤ s.t) ∧ ∀ e ∈ s.ends, -1 ≤ e ∧ e ≤ s.t
theorem rsTimes_step {l : List Task} {jobs : List Job} {s : RS} (h : rsTimes s) : rsTimes (rsStep l jobs s) := by
  obtain ⟨h0, h1, h2⟩ := h
  unfold rsStep
  split
  · refine ⟨by show 0 ≤ s.t + 1; omega, fun x hx => ?_, fun e he => ?_⟩
    · have := h1 x hx
      show (_ ∧ x.from' ≤ s.t + 1) ∧ _ ∧ x.to' ≤ s.t + 1
      omega
    · have := h2 e he; show _ ∧ e ≤ s.t + 1; omega
  · refine ⟨by show 0 ≤ s.t + 1; omega, ?_, ?_⟩
    · intro x hx
      show (_ ∧ x.from' ≤ s.t + 1) ∧ _ ∧ x.to' ≤ s.t + 1
      simp only [rsWork, addTick] at hx
      split at hx
      · rename_i hc
        have hlast := h1 (atI s.L ((s.L.length : Int) - 1)) (atI_mem (by omega) (by omega))
        rcases List.mem_or_eq_of_mem_set hx with hx | rfl
        · have := h1 x hx; omega
        · dsimp only; omega
      · rcases List.mem_append.1 hx with hx | hx
        · have := h1 x hx; omega
        · rw [List.mem_singleton] at hx; subst hx; dsimp only; omega
    · intro e he
      show -1 ≤ e ∧ e ≤ s.t + 1
      simp only [rsWork] at he
      split at he
      · rcases List.mem_or_eq_of_mem_set he with he | rfl
        · have := h2 e he; omega
        · omega
      · have := h2 e he; omega
theorem runP_in {l : List Task} {jobs : List Job} (hw : sumWork jobs ≤ 1099511627776) (h0 : 0 ≤ sumWork jobs) : SpansOk (runP l jobs).L ∧ Small (runP l jobs).ends ∧ ((runP l jobs).L.length : Int) ≤ sumWork jobs := by
  unfold runP
  cases hb : legalB l jobs
  · simp only [Bool.false_eq_true, if_false]
    exact ⟨(fun x hx => nomatch hx), (fun x hx => nomatch hx), by simpa using h0⟩
  · simp only [if_true]
    obtain ⟨hok, _, _⟩ := legal_ok hb
    have hi := rsInit_inv jobs hok.work
    obtain ⟨g1, g2, _⟩ := untilP_ind (e := -1) hok rsTimes (fun s _ _ h => rsTimes_step h) hi ⟨Int.le_refl _, (fun x hx => nomatch hx), (by intro e he; simp only [rsInit, List.mem_replicate] at he; simp only [rsInit]; omega)⟩
    have hs := g1.sum
    have ht := g1.t1
    have hL := g1.L
    unfold lastRel at ht
    obtain ⟨t0, t1, t2⟩ := g2
    refine ⟨fun x hx => by have := t1 x hx; omega, fun e he => by have := t2 e he; omega, by omega⟩
/- THE EXAMPLE -/
def awL : List Span := [⟨0, 0, 2⟩, ⟨1, 2, 3⟩, ⟨0, 5, 6⟩]
def awN : Nat → Int
  | 0 => 0
  | 1 => 3
  | _ => 356
theorem awB : busyP awL = [(0, 3), (5, 6)] := by decide
def aH (H : Heap) (a : Int) (lo : LObj) : Heap := H ++ [.cells [.int .i64 a] false, lo]
theorem aH_len (H a lo) : (aH H a lo).length = H.length + 2 := by simp [aH]
theorem aH_0 (H a lo) : (aH H a lo)[H.length]? = some (.cells [.int .i64 a] false) := by unfold aH; rw [geta0]; rfl
theorem aH_1 (H a lo) : (aH H a lo)[H.length + 1]? = some lo := by unfold aH; rw [geta]; rfl
theorem aH_s0 (H a lo) (x : Int) : (aH H a lo).set H.length (.cells [.int .i64 x] false) = aH H x lo := by unfold aH; rw [List.set_append_right _ _ (by omega), show H.length - H.length = 0 by omega]; rfl
theorem aH_s1 (H a lo) (x : LObj) : (aH H a lo).set (H.length + 1) x = aH H a x := by unfold aH; rw [List.set_append_right _ _ (by omega), show H.length + 1 - H.length = 1 by omega]; rfl
theorem aH_pre (H a lo) : Pre H (aH H a lo) := Pre.app H _
theorem aH_take (H a lo) : (aH H a lo).take (H.length + 1) = H ++ [.cells [.int .i64 a] false] := by
  unfold aH; rw [List.take_append, List.take_of_length_le (by omega)]; simp
theorem awake11 (hE : Laid E) (h : Heap) : callW E (.func (.func n_cadencylaw11_awake) #[] #[]) [] h = some (.bool true, h, []) := by
  refine fn_same hE.cadencylaw11_awake rfl (by simp) ?_
  simp only [argsF]
  (repeat' (first | ((with_reducible refine WG_dec (fun _ => ?_) (fun _ => ?_)) <;> try (exfalso; omega)) | ((with_reducible refine WG_decF (fun _ => ?_) (fun _ => ?_)) <;> try (exfalso; omega)) | ((with_reducible refine WC_dec (fun _ => ?_) (fun _ => ?_)) <;> try (exfalso; omega)) | refine WC_bool (fun _ => ?_) (fun _ => ?_) | refine WG_bool (fun _ => ?_) (fun _ => ?_) | refine WG_boolF (fun _ => ?_) (fun _ => ?_) | simp -dsimp (disch := omega) only [↓run_nil, ↓run_i, ↓op_call, ↓co_seq, ↓co_reg, ↓op_mov, ↓op_bld, ↓op_bsl, WF_eq, W1_some, ↓ev_t, ↓ev_c, ↓ev_f, ↓upd_at, ↓frm_nil, cellsV_int, cellsV_agg, one_int, fillV_nil, fillV_cons, setCells_nil, setCells_cons, newCells, bslV, eq_self, List.map_cons, List.map_nil, List.length_cons, List.length_nil, List.all_cons, List.all_nil, Bool.and_self, and_self, List.set_cons_zero, List.set_cons_succ, List.cons_append, List.nil_append, List.append_nil, Option.bind_some, Option.map_some, Nat.reduceEqDiff, Nat.reduceAdd, Nat.reduceLeDiff, Nat.reduceMul, Nat.zero_add, ↓reduceIte, List.flatten_cons, List.flatten_nil, List.replicate_succ, List.replicate_zero, Nat.le_refl, *]))
  refine wx_new (busy hE (l := awL) (Rd.lit (enc := encS) awL (by rw [geta0]; rfl) rfl (fun _ => rfl) (by decide) (by decide) (.inl rfl))) fun v6 ys r6 p6 => ?_
  have hP0 := (Pre.app h _).trans p6
  generalize _ ++ ys = H7 at r6 p6 hP0 ⊢
  obtain ⟨bx, u, rfl, hge, hbx, hue, hu⟩ := r6
  have hP := hP0.le
  have hbxl := (List.getElem?_eq_some_iff.1 hbx).1
  have hu7 := hu
  subst hue
  (repeat' (first | ((with_reducible refine WG_dec (fun _ => ?_) (fun _ => ?_)) <;> try (exfalso; omega)) | ((with_reducible refine WG_decF (fun _ => ?_) (fun _ => ?_)) <;> try (exfalso; omega)) | ((with_reducible refine WC_dec (fun _ => ?_) (fun _ => ?_)) <;> try (exfalso; omega)) | refine WC_bool (fun _ => ?_) (fun _ => ?_) | refine WG_bool (fun _ => ?_) (fun _ => ?_) | refine WG_boolF (fun _ => ?_) (fun _ => ?_) | simp -dsimp (disch := omega) only [↓run_nil, ↓run_i, ↓run_k, ↓op_st, ↓co_seq, ↓co_skip, ↓co_reg, ↓co_cond, ↓co_block, ↓op_mov, ↓op_bin, ↓op_all, WF_eq, W1_some, WH_some1, WC_false, ↓ev_t, ↓ev_c, ↓upd_at, ↓get_cons, ↓frm_nil, ↓frm_cons, cellsV_int, one_int, setCells_nil, setCells_cons, store_ptr, stO_cells, geta0, seta0, newCells, eq_self, bin_fnil, List.length_cons, List.length_nil, List.all_cons, List.all_nil, Bool.and_self, true_and, and_self, List.getElem?_cons_zero, List.set_cons_zero, Nat.reduceEqDiff, Nat.zero_add, ↓reduceIte, Nat.le_refl, *, hP0.le]))
  refine co_rng hE.keep (W' := fun b => b = H7.length ∨ b = H7.length + 1) rfl (fun x hx hlt => by omega) ?_
  have hBL : (H7 ++ [LObj.cells [Value.int .i64 0] false]).length = H7.length + 1 := by simp
  rw [hBL]
  generalize hLr : LObj.loop _ = lo
  have hT0 : H7 ++ [LObj.cells [Value.int .i64 0] false] ++ [lo] = aH H7 0 lo := by simp [aH]
  rw [hT0]
  refine WX.mono (busy_iter hE (J := fun k hh => hh = aH H7 (awN k) lo) (Stop := fun _ => False) (fun k hh e => by subst e; exact ⟨by rw [aH_len, aH_len], aH_pre _ _ _ _ _ hbx, hu.pre (aH_pre _ _ _)⟩) rfl (fun _ hf => hf.elim) ?_) (fun b hb => hb) ?_
  · rintro k hh p hp rfl
    rw [awB] at hp
    have hnum : 100 * awN k + 10 * p.1 + p.2 = awN (k + 1) ∧ (0 ≤ awN k ∧ awN k ≤ 356) ∧ 0 ≤ p.1 ∧ p.1 ≤ 9 ∧ 0 ≤ p.2 ∧ p.2 ≤ 9 ∧ 100 * awN k ≤ 1000 ∧ 10 * p.1 ≤ 100 := by
      rcases k with _ | _ | k
      · cases hp; decide
      · cases hp; decide
      · simp at hp
    have hL := (aH_1 H7 (awN k) lo).trans (congrArg some hLr.symm)
    refine WX.mono (wx_round hE.keep (W := fun b => b = H7.length) (Rr := fun e h3 => leaves e = none ∧ h3 = aH H7 (awN (k + 1)) lo) hL rfl rfl rfl rfl (fun b hb => by omega) ?_) (fun b hb => by omega) ?_
    · have HL := Hid.mk hLr
      have HN := Hid.mk hnum.1
      have hn1 := hnum.2
      have hlenT := aH_len H7 (awN k)
      clear hL hp hbx hLr hT0 hBL hnum
      dsimp only
      rw [HL.out]
      generalize LObj.loop _ = lb
      unfold c_cadencylaw11_awake_l0
      (repeat' (first | ((with_reducible refine WG_dec (fun _ => ?_) (fun _ => ?_)) <;> try (exfalso; omega)) | ((with_reducible refine WG_decF (fun _ => ?_) (fun _ => ?_)) <;> try (exfalso; omega)) | ((with_reducible refine WC_dec (fun _ => ?_) (fun _ => ?_)) <;> try (exfalso; omega)) | refine WC_bool (fun _ => ?_) (fun _ => ?_) | refine WG_bool (fun _ => ?_) (fun _ => ?_) | refine WG_boolF (fun _ => ?_) (fun _ => ?_) | simp -dsimp (disch := omega) only [↓run_nil, ↓run_i, ↓co_seq, ↓co_reg, ↓op_mov, WF_eq, W1_some, ↓ev_t, ↓upd_at, ↓get_cons, ↓frm_nil, ↓frm_cons, eq_self, true_and, Nat.reduceEqDiff, ↓reduceIte, *, aH_s1]))
      unfold c_cadencylaw11_awake_l1
      (repeat' (first | ((with_reducible refine WG_dec (fun _ => ?_) (fun _ => ?_)) <;> try (exfalso; omega)) | ((with_reducible refine WG_decF (fun _ => ?_) (fun _ => ?_)) <;> try (exfalso; omega)) | ((with_reducible refine WC_dec (fun _ => ?_) (fun _ => ?_)) <;> try (exfalso; omega)) | refine WC_bool (fun _ => ?_) (fun _ => ?_) | refine WG_bool (fun _ => ?_) (fun _ => ?_) | refine WG_boolF (fun _ => ?_) (fun _ => ?_) | simp -dsimp (disch := omega) only [↓run_nil, ↓run_i, ↓run_k, ↓op_st, ↓co_reg, ↓co_block, ↓op_mov, ↓op_bin, ↓op_ld, WF_eq, W1_some, WH_some1, ↓ev_t, ↓ev_c, ↓upd_at, ↓get_cons, ↓frm_nil, bin_add, bin_mul, cellsV_int, one_int, setCells_nil, setCells_cons, load_ptr, ldO_cells, part_none, store_ptr, stO_cells, wrap_i64, eq_self, List.length_cons, List.length_nil, List.all_cons, List.all_nil, Bool.and_self, true_and, and_self, List.getElem?_cons_zero, List.set_cons_zero, Nat.reduceEqDiff, Nat.zero_add, ↓reduceIte, Nat.le_refl, *, aH_0, aH_s0, aH_s1]))
      refine ⟨fun b hb hbe => ?_, rfl, ?_⟩
      · subst hbe; rw [aH_0]; rfl
      · rw [List.take_of_length_le (by rw [aH_len]; omega), HN.out]
    · rintro v h' ⟨e, h3, ⟨he3, rfl⟩, rfl, rfl⟩
      rw [he3]
      exact .inl ⟨rfl, rfl⟩
  · rintro v h' (rfl | hf)
    · refine ⟨_, by rw [aH_1, ← hLr], by simp, ?_, ?_⟩
      · rintro b hb (rfl | rfl)
        · rw [aH_0]; rfl
        · simp at hb
      · rw [aH_take, awB]
        show WO _ _ _
        (repeat' (first | ((with_reducible refine WG_dec (fun _ => ?_) (fun _ => ?_)) <;> try (exfalso; omega)) | ((with_reducible refine WG_decF (fun _ => ?_) (fun _ => ?_)) <;> try (exfalso; omega)) | ((with_reducible refine WC_dec (fun _ => ?_) (fun _ => ?_)) <;> try (exfalso; omega)) | refine WC_bool (fun _ => ?_) (fun _ => ?_) | refine WG_bool (fun _ => ?_) (fun _ => ?_) | refine WG_boolF (fun _ => ?_) (fun _ => ?_) | simp -dsimp (disch := omega) only [↓run_nil, ↓run_i, ↓co_seq, ↓co_ret, ↓co_reg, ↓op_mov, ↓op_bin, ↓op_ld, Res_ret, resL_nil, resL_t, resV_one, nn4_bool, WF_eq, W1_some, ↓ev_t, ↓ev_c, ↓upd_at, ↓get_cons, ↓frm_nil, ↓frm_cons, bin_eql, load_ptr, ldO_cells, part_none, geta0, eq_self, List.length_cons, List.length_nil, true_and, List.getElem?_cons_zero, Option.map_some, Nat.reduceAdd, Nat.zero_add, ↓reduceIte, decide_true, *, awN]))
    · exact hf.elim
theorem low_small (l : List Int) : Small ((l.take 10).map (·.tmod 60)) := by
  intro e he
  obtain ⟨x, _, rfl⟩ := List.mem_map.1 he
  have := tmod_bounds x 60 (by decide)
  omega
theorem few_in (l : List Span) : SpansOk ((l.take 12).map fewS) ∧ ((l.take 12).map fewS).length ≤ 65536 := by
  refine ⟨fun x hx => ?_, by rw [List.length_map, List.length_take]; omega⟩
  obtain ⟨y, _, rfl⟩ := List.mem_map.1 hx
  simp only [fewS]; omega
theorem traceTells_l0 (hE : Laid E) {W : Nat → Prop} {h0 : Heap} (hW : ∀ b, h0.length ≤ b → W b) {ve : Value} {l : List Int} (hl : Rd 1 encI h0 ve l) (hlen : l.length ≤ 10) {v5 v7 v8 v9 v10 : Value} {Q : Ex → Fr → Heap → Prop} {fr : Fr}
    (g5 : get fr 5 = v5) (g7 : get fr 7 = v7) (g8 : get fr 8 = v8) (g9 : get fr 9 = v9) (g10 : get fr 10 = v10) (g11 : get fr 11 = ve) (g12 : get fr 12 = .slice none 0 0) (g13 : get fr 13 = .int .i64 0)
    (hq : ∀ fr' h' vo, Pre h0 h' → get fr' 5 = v5 → get fr' 7 = v7 → get fr' 8 = v8 → get fr' 9 = v9 → get fr' 10 = v10 → get fr' 12 = vo → Rd 1 encI h' vo (l.map (·.tmod 60)) → Q (.exit 0) fr' h') :
    WO W (iterW (code (callW E) iterW 83 c_cadencylaw11_TraceTells_l0) fr h0) Q := by
  have few := hl.few
  refine WO.loop (fun n fr h' => Pre h0 h' ∧ n ≤ l.length ∧ get fr 5 = v5 ∧ get fr 7 = v7 ∧ get fr 8 = v8 ∧ get fr 9 = v9 ∧ get fr 10 = v10 ∧ get fr 11 = ve ∧ get fr 13 = .int .i64 n ∧ OwnT h0.length 1 encI h' (get fr 12) ((l.take n).map (·.tmod 60))) (fun n => l.length - n) ?_ 0 ⟨Pre.refl _, Nat.zero_le _, g5, g7, g8, g9, g10, g11, g13, by rw [g12]; exact OwnT.nil⟩
  rintro n fr h' ⟨hp, hn, g5, g7, g8, g9, g10, g11, g13, ho⟩
  have hl' := hl.pre hp
  unfold c_cadencylaw11_TraceTells_l0
  generalize hvo : get fr 12 = vo at ho
  rcases Nat.lt_or_ge n l.length with hlt | hge
  · have hb := tmod_bounds (atI l n) 60 (by decide)
    have hq := Hid.mk hq
    (repeat' (first | ((with_reducible refine WG_dec (fun _ => ?_) (fun _ => ?_)) <;> try (exfalso; omega)) | ((with_reducible refine WG_decF (fun _ => ?_) (fun _ => ?_)) <;> try (exfalso; omega)) | ((with_reducible refine WC_dec (fun _ => ?_) (fun _ => ?_)) <;> try (exfalso; omega)) | refine WC_bool (fun _ => ?_) (fun _ => ?_) | refine WG_bool (fun _ => ?_) (fun _ => ?_) | refine WG_boolF (fun _ => ?_) (fun _ => ?_) | simp -dsimp (disch := omega) only [↓run_nil, ↓run_i, ↓co_seq, ↓co_skip, ↓co_reg, ↓co_cond, ↓co_block, ↓op_mov, ↓op_bin, ↓op_ixs, ↓op_lens, ↓op_ld, ↓op_bsl, ↓op_app, WF_eq, W1_some, ↓ev_t, ↓ev_c, ↓upd_at, ↓get_cons, ↓frm_nil, ↓frm_cons, bin_lss, cellsV_int, one_int, fillV_nil, fillV_cons, setCells_nil, setCells_cons, load_ptr, newCells, bslV, bin_rem, eq_self, List.map_cons, List.map_nil, List.length_cons, List.length_nil, List.all_cons, List.all_nil, Bool.and_self, and_self, List.getD_cons_zero, List.set_cons_zero, List.append_nil, Option.bind_some, Nat.reduceEqDiff, Nat.reduceLeDiff, Nat.reduceMul, Nat.zero_add, ↓reduceIte, decide_true, List.flatten_cons, List.flatten_nil, List.replicate_succ, List.replicate_zero, Nat.le_refl, *, hl'.len, hl'.ixs, hl'.ld0, encI]))
    refine wx_app1 (sz := 1) (bytes := 8) (ho.app _) (hp.app' _) (Nat.le_refl _) (by have := hp.le; simp; omega) hW ((atI l n).tmod 60) ?_ rfl (by decide) (by decide) ?_ ?_
    · simp -dsimp (disch := omega) only [geta0, cellsOf_some, cellO_cells, List.length_cons, List.length_nil, List.getElem?_cons_zero, List.drop_zero, List.take_succ_cons, List.take_zero, Nat.reduceMul, Nat.zero_add, ↓reduceIte, Nat.le_refl]; rfl
    · simp; omega
    · intro v' h'' h1 h2 h3 h4 h5
      (repeat' (first | ((with_reducible refine WG_dec (fun _ => ?_) (fun _ => ?_)) <;> try (exfalso; omega)) | ((with_reducible refine WG_decF (fun _ => ?_) (fun _ => ?_)) <;> try (exfalso; omega)) | ((with_reducible refine WC_dec (fun _ => ?_) (fun _ => ?_)) <;> try (exfalso; omega)) | refine WC_bool (fun _ => ?_) (fun _ => ?_) | refine WG_bool (fun _ => ?_) (fun _ => ?_) | refine WG_boolF (fun _ => ?_) (fun _ => ?_) | simp -dsimp (disch := omega) only [↓run_nil, ↓run_i, ↓co_reg, ↓op_mov, ↓op_bin, WF_eq, W1_some, ↓ev_t, ↓ev_c, ↓upd_at, ↓get_cons, ↓frm_nil, ↓frm_cons, bin_add, wrap_i64, eq_self, Nat.reduceEqDiff, ↓reduceIte, *]))
      refine Next.mk (n + 1) ⟨h2, by omega, rfl, rfl, rfl, rfl, rfl, rfl, rfl, ?_⟩ (by omega)
      rw [take_snoc (by omega), List.map_append]; exact h1
  · have e : l.take n = l := List.take_of_length_le (by omega)
    rw [e] at ho
    have hq := Hid.mk hq
    (repeat' (first | ((with_reducible refine WG_dec (fun _ => ?_) (fun _ => ?_)) <;> try (exfalso; omega)) | ((with_reducible refine WG_decF (fun _ => ?_) (fun _ => ?_)) <;> try (exfalso; omega)) | ((with_reducible refine WC_dec (fun _ => ?_) (fun _ => ?_)) <;> try (exfalso; omega)) | refine WC_bool (fun _ => ?_) (fun _ => ?_) | refine WG_bool (fun _ => ?_) (fun _ => ?_) | refine WG_boolF (fun _ => ?_) (fun _ => ?_) | simp -dsimp (disch := omega) only [↓run_nil, ↓run_i, ↓co_seq, ↓co_exit, ↓co_reg, ↓co_cond, ↓op_mov, ↓op_bin, ↓op_lens, WF_eq, W1_some, ↓ev_t, ↓upd_at, ↓get_cons, ↓frm_nil, ↓frm_cons, bin_lss, eq_self, Nat.reduceEqDiff, ↓reduceIte, decide_false, *, hl.len]))
    exact hq.out _ _ _ hp rfl rfl rfl rfl rfl rfl ho.rd
def oddV (vs ve : Value) : Value := .agg #[vs, ve]
theorem traceTells (hE : Laid E) {h : Heap} {vl vr vs ve : Value} {l : List Spec} {raw : List Raw} {sp : List Span} {ends : List Int} (hl : Rd 5 encSp h vl l) (hr : RdR h vr raw) (hsp : Rd 3 encS h vs sp) (he : Rd 1 encI h ve ends) :
    callW E (.func (.func n_cadencylaw11_TraceTells) #[] #[]) [vl, vr, oddV vs ve] h = some (.bool true, h, []) := by
  refine fn_same hE.cadencylaw11_TraceTells rfl (by simp) ?_
  obtain ⟨lw, rfl, hlw, hcr⟩ := hr.is
  have few := hlw.few
  simp only [argsF]
  unfold oddV
  (repeat' (first | ((with_reducible refine WG_dec (fun _ => ?_) (fun _ => ?_)) <;> try (exfalso; omega)) | ((with_reducible refine WG_decF (fun _ => ?_) (fun _ => ?_)) <;> try (exfalso; omega)) | ((with_reducible refine WC_dec (fun _ => ?_) (fun _ => ?_)) <;> try (exfalso; omega)) | refine WC_bool (fun _ => ?_) (fun _ => ?_) | refine WG_bool (fun _ => ?_) (fun _ => ?_) | refine WG_boolF (fun _ => ?_) (fun _ => ?_) | simp -dsimp (disch := omega) only [↓run_nil, ↓run_i, ↓op_call, ↓co_seq, ↓co_reg, ↓op_mov, ↓op_lens, ↓op_box, WF_eq, W1_some, WX_some, ↓ev_t, ↓ev_c, ↓ev_f, ↓upd_at, ↓get_cons, ↓frm_nil, ↓frm_cons, cellsV_agg, newCells, eq_self, List.map_cons, List.map_nil, List.all_cons, List.all_nil, Bool.and_self, Nat.reduceEqDiff, Nat.reduceAdd, Nat.zero_add, ↓reduceIte, reduceCtorEq, *, awake11 hE, hlw.len, hsp.one, he.one]))
  have hp0 := Pre.app h [LObj.cells [vs, ve] false]
  have hb0 : (h ++ [LObj.cells [vs, ve] false])[h.length]? = some (.cells [vs, ve] false) := by rw [geta0]; rfl
  refine wx_new (set04 hE (hl.app _) (most := 4) (by decide) (by decide) (by unfold i64in; omega)) fun v1 ys r1 p1 => ?_
  have P1 := hp0.trans p1
  replace hb0 := p1 _ _ hb0
  generalize _ ++ ys = H1 at r1 p1 P1 hb0 ⊢
  clear p1 hp0
  have hset := setP_len l (most := 4) (turn := (lw.length : Int)) (by decide)
  have hmem := fun t => setP_mem (l := l) (most := 4) (turn := (lw.length : Int)) (t := t)
  generalize setP l 4 (lw.length : Int) = s at *
  have o1 := r1.one
  have c1 := r1.cv
  (repeat' (first | ((with_reducible refine WG_dec (fun _ => ?_) (fun _ => ?_)) <;> try (exfalso; omega)) | ((with_reducible refine WG_decF (fun _ => ?_) (fun _ => ?_)) <;> try (exfalso; omega)) | ((with_reducible refine WC_dec (fun _ => ?_) (fun _ => ?_)) <;> try (exfalso; omega)) | refine WC_bool (fun _ => ?_) (fun _ => ?_) | refine WG_bool (fun _ => ?_) (fun _ => ?_) | refine WG_boolF (fun _ => ?_) (fun _ => ?_) | simp -dsimp (disch := omega) only [↓run_nil, ↓run_i, ↓op_call, ↓co_seq, ↓co_reg, ↓op_mov, WF_eq, W1_some, ↓ev_t, ↓ev_c, ↓ev_f, ↓upd_at, ↓get_cons, ↓frm_nil, ↓frm_cons, eq_self, List.map_cons, List.map_nil, Nat.reduceEqDiff, ↓reduceIte, reduceCtorEq, *]))
  refine wx_new (few08 hE (hr.pre P1) (most := 8) (by decide) (by decide)) fun v2 ys r2 p2 => ?_
  have P2 := P1.trans p2
  replace hb0 := p2 _ _ hb0
  replace r1 := r1.pre p2
  generalize _ ++ ys = H2 at r2 p2 P2 hb0 r1 ⊢
  clear p2 P1
  generalize hraw : List.map fewOf (List.take (8 : Int).toNat (List.map (fun x => x.j) lw)) = rw8 at *
  have hraw8 : rw8.length ≤ 8 := by rw [← hraw, List.length_map, List.length_take]; omega
  clear hraw
  (repeat' (first | ((with_reducible refine WG_dec (fun _ => ?_) (fun _ => ?_)) <;> try (exfalso; omega)) | ((with_reducible refine WG_decF (fun _ => ?_) (fun _ => ?_)) <;> try (exfalso; omega)) | ((with_reducible refine WC_dec (fun _ => ?_) (fun _ => ?_)) <;> try (exfalso; omega)) | refine WC_bool (fun _ => ?_) (fun _ => ?_) | refine WG_bool (fun _ => ?_) (fun _ => ?_) | refine WG_boolF (fun _ => ?_) (fun _ => ?_) | simp -dsimp (disch := omega) only [↓run_i, ↓op_call, ↓ev_t, ↓ev_f, ↓upd_at, eq_self, List.map_cons, List.map_nil, Nat.reduceEqDiff, ↓reduceIte, *]))
  refine wx_new (decode08 hE r1 (fun t ht => by have := (hmem t ht).1; omega) r2) fun v3 ys r3 p3 => ?_
  have P3 := P2.trans p3
  replace hb0 := p3 _ _ hb0
  replace r1 := r1.pre p3
  generalize _ ++ ys = H3 at r3 p3 P3 hb0 r1 ⊢
  clear p3 P2 r2
  obtain ⟨hd1, hd2⟩ := decodeP_in (fun t ht => (hmem t ht).2.2) rw8
  generalize decodeP s rw8 = jobs at *
  have hsw := sumWork_four fun j hj => (hd2 j hj).2
  have hsw0 : 0 ≤ sumWork jobs := sumN_nonneg fun i hi => by have := (hd2 _ (atI_mem (l := jobs) (i := (i : Int)) (by omega) (by omega))).1; unfold jobIn at this; omega
  have hsj : SmallJ jobs := fun j hj => by have := (hd2 j hj).1; unfold jobIn at this; have : (rw8.length : Int) * 4294967296 ≤ 8 * 4294967296 := Int.mul_le_mul_of_nonneg_right (by omega) (by decide); omega
  have hwj : ∀ j ∈ jobs, 1 ≤ j.work ∧ j.work ≤ 2147483647 := fun j hj => by have := (hd2 j hj).1; unfold jobIn at this; omega
  obtain ⟨hok, hsm, hspl⟩ := runP_in (l := s) (jobs := jobs) (by omega) hsw0
  clear hd2
  (repeat' (first | ((with_reducible refine WG_dec (fun _ => ?_) (fun _ => ?_)) <;> try (exfalso; omega)) | ((with_reducible refine WG_decF (fun _ => ?_) (fun _ => ?_)) <;> try (exfalso; omega)) | ((with_reducible refine WC_dec (fun _ => ?_) (fun _ => ?_)) <;> try (exfalso; omega)) | refine WC_bool (fun _ => ?_) (fun _ => ?_) | refine WG_bool (fun _ => ?_) (fun _ => ?_) | refine WG_boolF (fun _ => ?_) (fun _ => ?_) | simp -dsimp (disch := omega) only [↓run_nil, ↓run_i, ↓op_call, ↓co_seq, ↓co_reg, ↓op_mov, WF_eq, W1_some, ↓ev_t, ↓ev_f, ↓upd_at, ↓get_cons, ↓frm_nil, ↓frm_cons, eq_self, List.map_cons, List.map_nil, Nat.reduceEqDiff, ↓reduceIte, *]))
  refine wx_new (run10 hE r1 (fun t ht => by have := (hmem t ht).1; omega) r3 (by omega)) fun v4 ys r4 p4 => ?_
  have P4 := P3.trans p4
  replace hb0 := p4 _ _ hb0
  replace r1 := r1.pre p4
  replace r3 := r3.pre p4
  generalize _ ++ ys = H4 at r4 p4 P4 hb0 r1 r3 ⊢
  clear p4 P3
  generalize runP s jobs = g at *
  obtain ⟨vg, rfl, hg⟩ := r4
  rcases hg with _ | @⟨_, _, vL, _, ⟨gl, _⟩, _ | @⟨_, _, vE, _, ⟨ge, _⟩, _ | @⟨_, _, vD, _, ⟨gd, _⟩, _ | _⟩⟩⟩
  have oL := gl.one
  have cL := gl.cv
  have oE := ge.one
  have cE := ge.cv
  have oD := gd.one
  have cD := gd.cv
  have hP4 := P4.le
  have few9 := he.few
  have hel := he.len
  have hpx := Pre.app H4 [LObj.cells [vL, vE, vD] false]
  have hb1 : (H4 ++ [LObj.cells [vL, vE, vD] false])[H4.length]? = some (.cells [vL, vE, vD] false) := by rw [geta0]; rfl
  have sl : ∃ v', (10 < (ends.length : Int) → slsV 1 ve none (some (.int .i64 10)) none = some v') ∧ (¬ 10 < (ends.length : Int) → v' = ve) ∧ Rd 1 encI h v' (ends.take 10) := by
    by_cases hc : 10 < (ends.length : Int)
    · obtain ⟨v', h1, h2, _⟩ := he.sls_hi (k := .i64) (n := 10) (by omega) (by omega)
      exact ⟨v', fun _ => h1, fun hn => absurd hc hn, h2⟩
    · exact ⟨ve, fun h => absurd h hc, fun _ => rfl, by rw [List.take_of_length_le (by omega)]; exact he⟩
  obtain ⟨vq, sl1, sl2, rq⟩ := sl
  have hq10 : (ends.take 10).length ≤ 10 := by rw [List.length_take]; omega
  have hb0x := hpx _ _ hb0
  (repeat' (first | ((with_reducible refine WG_dec (fun _ => ?_) (fun _ => ?_)) <;> try (exfalso; omega)) | ((with_reducible refine WG_decF (fun _ => ?_) (fun _ => ?_)) <;> try (exfalso; omega)) | ((with_reducible refine WC_dec (fun _ => ?_) (fun _ => ?_)) <;> try (exfalso; omega)) | refine WC_bool (fun _ => ?_) (fun _ => ?_) | refine WG_bool (fun _ => ?_) (fun _ => ?_) | refine WG_boolF (fun _ => ?_) (fun _ => ?_) | simp -dsimp (disch := omega) only [↓run_nil, ↓run_i, ↓run_k, ↓op_st, ↓co_seq, ↓co_skip, ↓co_reg, ↓co_cond, ↓co_block, ↓co_loop, ↓op_mov, ↓op_bin, ↓op_fld, ↓op_sls, ↓op_lens, ↓op_ld, ↓op_all, WF_eq, W1_some, WH_some1, ↓ev_t, ↓ev_c, ↓upd_at, ↓get_cons, ↓frm_nil, ↓frm_cons, bin_gtr, cellsV_agg, one_slice, setCells_nil, setCells_cons, load_ptr, ldO_cells, part_none, store_ptr, stO_cells, fld_ptr, geta0, seta0, newCells, eq_self, List.length_cons, List.length_nil, List.all_cons, List.all_nil, Bool.and_self, true_and, and_self, List.getElem?_cons_zero, List.getElem?_cons_succ, List.set_cons_zero, List.set_cons_succ, Option.map_some, Option.map_none, Nat.reduceEqDiff, Nat.reduceAdd, Nat.zero_add, ↓reduceIte, decide_true, Nat.le_refl, *]))
  · refine traceTells_l0 hE (fun b hb => by have := hpx.le; omega) (l := ends.take 10) (ve := vq) (rq.pre (P4.trans hpx)) hq10 rfl rfl rfl rfl rfl rfl rfl rfl fun fr' H5 vo p5 g5 g7 g8 g9 g10 g12 ro => ?_
    have hq0 := hpx.trans p5
    have P5 := P4.trans hq0
    have hb5 := hq0 _ _ hb0
    have hb6 := p5 _ _ hb1
    have low := low_small ends
    obtain ⟨w1, w2⟩ := few_in sp
    have t1 := tells hE (r1.pre hq0) (r3.pre hq0) (ge.pre hq0) (gl.pre hq0) hsm hsj hwj hok (by omega) (by omega)
    have s1 := r1.pre hq0
    have s3 := r3.pre hq0
    obtain ⟨vs1, e1, rs1, _⟩ := s1.sls_hi (k := .i64) (n := 1) (by decide) (by omega)
    clear hpx p5 hb0 hb1 hq0 r1 r3 ge gl gd
    (repeat' (first | ((with_reducible refine WG_dec (fun _ => ?_) (fun _ => ?_)) <;> try (exfalso; omega)) | ((with_reducible refine WG_decF (fun _ => ?_) (fun _ => ?_)) <;> try (exfalso; omega)) | ((with_reducible refine WC_dec (fun _ => ?_) (fun _ => ?_)) <;> try (exfalso; omega)) | refine WC_bool (fun _ => ?_) (fun _ => ?_) | refine WG_bool (fun _ => ?_) (fun _ => ?_) | refine WG_boolF (fun _ => ?_) (fun _ => ?_) | simp -dsimp (disch := omega) only [↓rd_i, ↓rd_w, ↓opd_call, ↓co_seq, ↓co_drw, ↓opd_mov, ↓opd_pick, ↓opd_fld, ↓opd_ld, W1_some, WX_some, WG_true, ↓ev_t, ↓ev_c, ↓ev_f, ↓upd_at, ↓get_cons, pick_t, load_ptr, ldO_cells, part_none, fld_ptr, room0, eq_self, List.map_cons, List.map_nil, List.getElem?_cons_zero, List.getElem?_cons_succ, Nat.reduceEqDiff, Nat.zero_add, Nat.add_zero, ↓reduceIte, *]))
    refine wx_new (few11 hE (hsp.pre P5)) fun v6 ys f6 p6 => ?_
    have P6 := P5.trans p6
    generalize _ ++ ys = H6 at f6 p6 P6 ⊢
    have t2 := tells hE (s1.pre p6) (s3.pre p6) (ro.pre p6) f6 low hsj hwj w1 (by omega) w2
    have hb7 := p6 _ _ hb5
    (repeat' (first | ((with_reducible refine WG_dec (fun _ => ?_) (fun _ => ?_)) <;> try (exfalso; omega)) | ((with_reducible refine WG_decF (fun _ => ?_) (fun _ => ?_)) <;> try (exfalso; omega)) | ((with_reducible refine WC_dec (fun _ => ?_) (fun _ => ?_)) <;> try (exfalso; omega)) | refine WC_bool (fun _ => ?_) (fun _ => ?_) | refine WG_bool (fun _ => ?_) (fun _ => ?_) | refine WG_boolF (fun _ => ?_) (fun _ => ?_) | simp -dsimp (disch := omega) only [↓rd_i, ↓rd_w, ↓opd_call, ↓opd_mov, ↓opd_pick, ↓opd_fld, ↓opd_sls, ↓opd_ld, W1_some, WX_some, WG_true, ↓ev_t, ↓ev_c, ↓ev_f, ↓upd_at, ↓get_cons, pick_t, load_ptr, ldO_cells, part_none, fld_ptr, eq_self, List.map_cons, List.map_nil, List.getElem?_cons_zero, Option.map_some, Option.map_none, Nat.reduceEqDiff, Nat.add_zero, ↓reduceIte, *]))
    refine wx_new (few11 hE (hsp.pre P6)) fun v7 ys f7 p7 => ?_
    have P7 := P6.trans p7
    generalize _ ++ ys = H7 at f7 p7 P7 ⊢
    have t3 := tells hE (rs1.pre (p6.trans p7)) (s3.pre (p6.trans p7)) (ro.pre (p6.trans p7)) f7 low hsj hwj w1 (by omega) w2
    have hb8 := p7 _ _ hb7
    (repeat' (first | ((with_reducible refine WG_dec (fun _ => ?_) (fun _ => ?_)) <;> try (exfalso; omega)) | ((with_reducible refine WG_decF (fun _ => ?_) (fun _ => ?_)) <;> try (exfalso; omega)) | ((with_reducible refine WC_dec (fun _ => ?_) (fun _ => ?_)) <;> try (exfalso; omega)) | refine WC_bool (fun _ => ?_) (fun _ => ?_) | refine WG_bool (fun _ => ?_) (fun _ => ?_) | refine WG_boolF (fun _ => ?_) (fun _ => ?_) | simp -dsimp (disch := omega) only [↓rd_i, ↓rd_w, ↓opd_call, ↓opd_mov, ↓opd_pick, ↓opd_fld, ↓opd_ld, W1_some, WX_some, WG_true, ↓ev_t, ↓ev_c, ↓ev_f, ↓upd_at, ↓get_cons, pick_t, load_ptr, ldO_cells, part_none, fld_ptr, eq_self, List.map_cons, List.map_nil, List.getElem?_cons_zero, Nat.reduceEqDiff, Nat.add_zero, ↓reduceIte, *]))
    refine wx_new (few11 hE (hsp.pre P7)) fun v8 ys f8 p8 => ?_
    have P8 := P7.trans p8
    generalize _ ++ ys = H8 at f8 p8 P8 ⊢
    have t4 := tells hE (l := []) (jobs := []) Rd.of_nil ⟨[], rfl, Rd.of_nil, by simp⟩ (ro.pre ((p6.trans p7).trans p8)) f8 low (fun j hj => nomatch hj) (fun j hj => nomatch hj) w1 (by simp) w2
    (repeat' (first | ((with_reducible refine WG_dec (fun _ => ?_) (fun _ => ?_)) <;> try (exfalso; omega)) | ((with_reducible refine WG_decF (fun _ => ?_) (fun _ => ?_)) <;> try (exfalso; omega)) | ((with_reducible refine WC_dec (fun _ => ?_) (fun _ => ?_)) <;> try (exfalso; omega)) | refine WC_bool (fun _ => ?_) (fun _ => ?_) | refine WG_bool (fun _ => ?_) (fun _ => ?_) | refine WG_boolF (fun _ => ?_) (fun _ => ?_) | simp -dsimp (disch := omega) only [↓rd_nil, ↓rd_i, ↓rd_w, ↓opd_call, ↓co_ret, ↓opd_mov, ↓opd_pick, Res_ret, resL_nil, resL_t, resV_one, nn4_bool, WF_eq, W1_some, WX_some, WG_true, ↓ev_t, ↓ev_c, ↓ev_f, ↓upd_at, ↓get_cons, ↓frm_nil, ↓frm_cons, pick_t, eq_self, List.map_cons, List.map_nil, true_and, Option.map_some, Nat.reduceEqDiff, ↓reduceIte, *]))
  · refine traceTells_l0 hE (fun b hb => by have := hpx.le; omega) (l := ends.take 10) (ve := ve) (by rw [← sl2 (by omega)]; exact rq.pre (P4.trans hpx)) hq10 rfl rfl rfl rfl rfl rfl rfl rfl fun fr' H5 vo p5 g5 g7 g8 g9 g10 g12 ro => ?_
    have hq0 := hpx.trans p5
    have P5 := P4.trans hq0
    have hb5 := hq0 _ _ hb0
    have hb6 := p5 _ _ hb1
    have low := low_small ends
    obtain ⟨w1, w2⟩ := few_in sp
    have t1 := tells hE (r1.pre hq0) (r3.pre hq0) (ge.pre hq0) (gl.pre hq0) hsm hsj hwj hok (by omega) (by omega)
    have s1 := r1.pre hq0
    have s3 := r3.pre hq0
    obtain ⟨vs1, e1, rs1, _⟩ := s1.sls_hi (k := .i64) (n := 1) (by decide) (by omega)
    clear hpx p5 hb0 hb1 hq0 r1 r3 ge gl gd
    (repeat' (first | ((with_reducible refine WG_dec (fun _ => ?_) (fun _ => ?_)) <;> try (exfalso; omega)) | ((with_reducible refine WG_decF (fun _ => ?_) (fun _ => ?_)) <;> try (exfalso; omega)) | ((with_reducible refine WC_dec (fun _ => ?_) (fun _ => ?_)) <;> try (exfalso; omega)) | refine WC_bool (fun _ => ?_) (fun _ => ?_) | refine WG_bool (fun _ => ?_) (fun _ => ?_) | refine WG_boolF (fun _ => ?_) (fun _ => ?_) | simp -dsimp (disch := omega) only [↓rd_i, ↓rd_w, ↓opd_call, ↓co_seq, ↓co_drw, ↓opd_mov, ↓opd_pick, ↓opd_fld, ↓opd_ld, W1_some, WX_some, WG_true, ↓ev_t, ↓ev_c, ↓ev_f, ↓upd_at, ↓get_cons, pick_t, load_ptr, ldO_cells, part_none, fld_ptr, room0, eq_self, List.map_cons, List.map_nil, List.getElem?_cons_zero, List.getElem?_cons_succ, Nat.reduceEqDiff, Nat.zero_add, Nat.add_zero, ↓reduceIte, *]))
    refine wx_new (few11 hE (hsp.pre P5)) fun v6 ys f6 p6 => ?_
    have P6 := P5.trans p6
    generalize _ ++ ys = H6 at f6 p6 P6 ⊢
    have t2 := tells hE (s1.pre p6) (s3.pre p6) (ro.pre p6) f6 low hsj hwj w1 (by omega) w2
    have hb7 := p6 _ _ hb5
    (repeat' (first | ((with_reducible refine WG_dec (fun _ => ?_) (fun _ => ?_)) <;> try (exfalso; omega)) | ((with_reducible refine WG_decF (fun _ => ?_) (fun _ => ?_)) <;> try (exfalso; omega)) | ((with_reducible refine WC_dec (fun _ => ?_) (fun _ => ?_)) <;> try (exfalso; omega)) | refine WC_bool (fun _ => ?_) (fun _ => ?_) | refine WG_bool (fun _ => ?_) (fun _ => ?_) | refine WG_boolF (fun _ => ?_) (fun _ => ?_) | simp -dsimp (disch := omega) only [↓rd_i, ↓rd_w, ↓opd_call, ↓opd_mov, ↓opd_pick, ↓opd_fld, ↓opd_sls, ↓opd_ld, W1_some, WX_some, WG_true, ↓ev_t, ↓ev_c, ↓ev_f, ↓upd_at, ↓get_cons, pick_t, load_ptr, ldO_cells, part_none, fld_ptr, eq_self, List.map_cons, List.map_nil, List.getElem?_cons_zero, Option.map_some, Option.map_none, Nat.reduceEqDiff, Nat.add_zero, ↓reduceIte, *]))
    refine wx_new (few11 hE (hsp.pre P6)) fun v7 ys f7 p7 => ?_
    have P7 := P6.trans p7
    generalize _ ++ ys = H7 at f7 p7 P7 ⊢
    have t3 := tells hE (rs1.pre (p6.trans p7)) (s3.pre (p6.trans p7)) (ro.pre (p6.trans p7)) f7 low hsj hwj w1 (by omega) w2
    have hb8 := p7 _ _ hb7
    (repeat' (first | ((with_reducible refine WG_dec (fun _ => ?_) (fun _ => ?_)) <;> try (exfalso; omega)) | ((with_reducible refine WG_decF (fun _ => ?_) (fun _ => ?_)) <;> try (exfalso; omega)) | ((with_reducible refine WC_dec (fun _ => ?_) (fun _ => ?_)) <;> try (exfalso; omega)) | refine WC_bool (fun _ => ?_) (fun _ => ?_) | refine WG_bool (fun _ => ?_) (fun _ => ?_) | refine WG_boolF (fun _ => ?_) (fun _ => ?_) | simp -dsimp (disch := omega) only [↓rd_i, ↓rd_w, ↓opd_call, ↓opd_mov, ↓opd_pick, ↓opd_fld, ↓opd_ld, W1_some, WX_some, WG_true, ↓ev_t, ↓ev_c, ↓ev_f, ↓upd_at, ↓get_cons, pick_t, load_ptr, ldO_cells, part_none, fld_ptr, eq_self, List.map_cons, List.map_nil, List.getElem?_cons_zero, Nat.reduceEqDiff, Nat.add_zero, ↓reduceIte, *]))
    refine wx_new (few11 hE (hsp.pre P7)) fun v8 ys f8 p8 => ?_
    have P8 := P7.trans p8
    generalize _ ++ ys = H8 at f8 p8 P8 ⊢
    have t4 := tells hE (l := []) (jobs := []) Rd.of_nil ⟨[], rfl, Rd.of_nil, by simp⟩ (ro.pre ((p6.trans p7).trans p8)) f8 low (fun j hj => nomatch hj) (fun j hj => nomatch hj) w1 (by simp) w2
    (repeat' (first | ((with_reducible refine WG_dec (fun _ => ?_) (fun _ => ?_)) <;> try (exfalso; omega)) | ((with_reducible refine WG_decF (fun _ => ?_) (fun _ => ?_)) <;> try (exfalso; omega)) | ((with_reducible refine WC_dec (fun _ => ?_) (fun _ => ?_)) <;> try (exfalso; omega)) | refine WC_bool (fun _ => ?_) (fun _ => ?_) | refine WG_bool (fun _ => ?_) (fun _ => ?_) | refine WG_boolF (fun _ => ?_) (fun _ => ?_) | simp -dsimp (disch := omega) only [↓rd_nil, ↓rd_i, ↓rd_w, ↓opd_call, ↓co_ret, ↓opd_mov, ↓opd_pick, Res_ret, resL_nil, resL_t, resV_one, nn4_bool, WF_eq, W1_some, WX_some, WG_true, ↓ev_t, ↓ev_c, ↓ev_f, ↓upd_at, ↓get_cons, ↓frm_nil, ↓frm_cons, pick_t, eq_self, List.map_cons, List.map_nil, true_and, Option.map_some, Nat.reduceEqDiff, ↓reduceIte, *]))
end Go.L.Try
