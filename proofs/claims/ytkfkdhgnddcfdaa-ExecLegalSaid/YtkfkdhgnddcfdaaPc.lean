/- JOBS THAT ARE LEGAL, AS THE PROGRAM TELLS: script.Legal. -/
import Derived.Test.YtkfkdhgnddcfdaaPb
import Derived.Test.YtkfkdhgnddcfdaaPa
set_option linter.unusedVariables false
set_option linter.unusedSimpArgs false
set_option maxRecDepth 100000
set_option maxHeartbeats 2000000
namespace Go.L.Try
open Go Go.L
variable {E : Env}
theorem scriptMay (hE : Laid E) {h : Heap} {vl : Value} {l : List Task} (hl : Rd 7 encT h vl l) (hs : ∀ t ∈ l, t.name.size < 1152921504606846976) :
    callW E (.func (.func n_script_may) #[] #[]) [vl] h = some (.bool (decide ((checkAllP l).2 = 0)), h, []) := by
  have q := checkAllS hE hl hs
  refine fn_same hE.script_may rfl (by simp) ?_
  generalize (checkAllP l).2 = e at *
  simp only [argsF]
  (repeat' (first | ((with_reducible refine WG_dec (fun _ => ?_) (fun _ => ?_)) <;> try (exfalso; omega)) | ((with_reducible refine WG_decF (fun _ => ?_) (fun _ => ?_)) <;> try (exfalso; omega)) | ((with_reducible refine WC_dec (fun _ => ?_) (fun _ => ?_)) <;> try (exfalso; omega)) | refine WC_bool (fun _ => ?_) (fun _ => ?_) | refine WG_bool (fun _ => ?_) (fun _ => ?_) | refine WG_boolF (fun _ => ?_) (fun _ => ?_) | simp -dsimp (disch := omega) only [↓run_nil, ↓run_i, ↓op_call, ↓co_seq, ↓co_ret, ↓co_reg, ↓op_mov, ↓op_bin, ↓op_ext, Res_ret, resL_nil, resL_t, resV_one, nn4_bool, WF_eq, W1_some, WX_some, ↓ev_t, ↓ev_c, ↓ev_f, ↓upd_at, ↓get_cons, ↓frm_nil, ↓frm_cons, bin_eql, ext_tuple, nt_int, eq_self, List.map_cons, List.map_nil, true_and, List.getElem?_cons_zero, List.getElem?_cons_succ, Option.map_some, Nat.reduceEqDiff, ↓reduceIte, reduceCtorEq, *]))
theorem legalWithin (hE : Laid E) (h : Heap) (n a b : Int) : callW E (.func (.func n_script_legal_f1) #[] #[]) [.int .i64 n, .int .i64 a, .int .i64 b] h = some (.bool (decide (a ≤ n ∧ n ≤ b)), h, []) := by
  refine fn_same hE.script_legal_f1 rfl (by simp) ?_
  simp only [argsF]
  (repeat' (first | ((with_reducible refine WG_dec (fun _ => ?_) (fun _ => ?_)) <;> try (exfalso; omega)) | ((with_reducible refine WG_decF (fun _ => ?_) (fun _ => ?_)) <;> try (exfalso; omega)) | ((with_reducible refine WC_dec (fun _ => ?_) (fun _ => ?_)) <;> try (exfalso; omega)) | refine WC_bool (fun _ => ?_) (fun _ => ?_) | refine WG_bool (fun _ => ?_) (fun _ => ?_) | refine WG_boolF (fun _ => ?_) (fun _ => ?_) | simp -dsimp (disch := omega) only [↓run_nil, ↓run_i, ↓run_w, ↓co_seq, ↓co_ret, ↓co_reg, ↓op_mov, ↓op_pick, ↓op_bin, Res_ret, resL_nil, resL_t, resV_one, nn4_bool, WF_eq, W1_some, WG_true, WG_ft, ↓ev_t, ↓ev_c, ↓upd_at, ↓get_cons, ↓frm_nil, ↓frm_cons, bin_leq, bin_geq, pick_t, pick_f, eq_self, true_and, Option.map_some, Nat.reduceEqDiff, Nat.reduceAdd, Nat.zero_add, ↓reduceIte, reduceCtorEq, decide_true, decide_false, *]))
  all_goals first | rfl | exact congrArg Value.bool (decide_eq_decide.2 (by omega)) | exact congrArg Value.bool (decide_eq_false (by omega)).symm | exact congrArg Value.bool (decide_eq_true (by omega)).symm
theorem legalSee (hE : Laid E) (h : Heap) {j : Value} (hj : (cellsV j).all oneCell = true) (g : Value) : callW E (.func (.func n_script_Legal_f1) #[] #[]) [j, g] h = some (.tuple #[], h, []) := by
  refine fn_same hE.script_Legal_f1 rfl (by simp) ?_
  simp only [argsF]
  (repeat' (first | ((with_reducible refine WG_dec (fun _ => ?_) (fun _ => ?_)) <;> try (exfalso; omega)) | ((with_reducible refine WG_decF (fun _ => ?_) (fun _ => ?_)) <;> try (exfalso; omega)) | ((with_reducible refine WC_dec (fun _ => ?_) (fun _ => ?_)) <;> try (exfalso; omega)) | refine WC_bool (fun _ => ?_) (fun _ => ?_) | refine WG_bool (fun _ => ?_) (fun _ => ?_) | refine WG_boolF (fun _ => ?_) (fun _ => ?_) | simp -dsimp (disch := omega) only [↓run_nil, ↓run_i, ↓co_reg, ↓op_box, Res_normal, resL_nil, resV_nil, nn4_tuple, WF_eq, W1_some, ↓ev_t, ↓get_cons, ↓frm_nil, newCells, eq_self, List.all_nil, true_and, ↓reduceIte, *]))
/-- From when on the next job of a task may come. -/
def soonest (l : List Task) (jobs : List Job) (n : Nat) (task : Int) : Int := if 0 ≤ lastN jobs task n then (atI jobs (lastN jobs task n)).arrive + (atI l task).T else 0
theorem soonest_zero (l : List Task) (jobs : List Job) (t : Int) : soonest l jobs 0 t = 0 := rfl
theorem soonest_succ (l : List Task) (jobs : List Job) (n : Nat) (t : Int) : soonest l jobs (n + 1) t = if (atI jobs (n : Int)).task = t then (atI jobs (n : Int)).arrive + (atI l t).T else soonest l jobs n t := by
  have e : lastN jobs t (n + 1) = if (atI jobs (n : Int)).task = t then (n : Int) else lastN jobs t n := rfl
  unfold soonest
  rw [e]
  by_cases h : (atI jobs (n : Int)).task = t
  · rw [if_pos h, if_pos h, if_pos (by omega)]
  · rw [if_neg h, if_neg h]
theorem jobOk_iff (l : List Task) (jobs : List Job) (i : Nat) : jobNums l jobs i ↔ (0 ≤ (atI jobs (i : Int)).task ∧ (atI jobs (i : Int)).task < l.length) ∧ (0 ≤ (atI jobs (i : Int)).arrive ∧ (atI jobs (i : Int)).arrive ≤ 17592186044416) ∧ (0 ≤ lastN jobs (atI jobs (i : Int)).task i → soonest l jobs i (atI jobs (i : Int)).task ≤ (atI jobs (i : Int)).arrive) ∧ (atI jobs (i : Int)).arrive ≤ (atI jobs (i : Int)).release ∧ (atI jobs (i : Int)).release ≤ (atI jobs (i : Int)).arrive + (atI l (atI jobs (i : Int)).task).J ∧ 1 ≤ (atI jobs (i : Int)).work ∧ (atI jobs (i : Int)).work ≤ (atI l (atI jobs (i : Int)).task).C := by
  unfold jobNums soonest
  dsimp only
  constructor
  · rintro ⟨a, b, c, d⟩; exact ⟨a, b, fun h => by rw [if_pos h]; exact c h, d⟩
  · rintro ⟨a, b, c, d⟩; exact ⟨a, b, fun h => by have := c h; rw [if_pos h] at this; exact this, d⟩
theorem slegal_l0 (hE : Laid E) {W : Nat → Prop} {h0 : Heap} {v0 v2 v8 v24 v25 v26 : Value} {bj bt : Nat} {y0 y1 y2 y3 y4 y6 vc : Value} {q w : Int} {cuts : List Int} (hc : Rd 1 encI h0 vc cuts) (hbt : h0[bt]? = some (.cells [y0, y1, y2, y3, y4, .int .i64 q, y6] false)) (hw : 0 ≤ w) (hw2 : w ≤ 2147483647) {Q : Ex → Fr → Heap → Prop} {fr : Fr}
    (g0 : get fr 0 = v0) (g2 : get fr 2 = v2) (g7 : get fr 7 = .func (.func n_script_legal_f1) #[] #[]) (g8 : get fr 8 = v8) (g10 : get fr 10 = .pointer (some ⟨bj, 0, none⟩)) (g11 : get fr 11 = .pointer (some ⟨bt, 0, none⟩)) (g12 : get fr 12 = .int .i64 w) (g24 : get fr 24 = v24) (g25 : get fr 25 = v25) (g26 : get fr 26 = v26) (g80 : get fr 80 = vc) (g81 : get fr 81 = .int .i64 cuts.length) (g82 : get fr 82 = .int .i64 0)
    (hq1 : cutsOk q cuts w = true → ∀ fr', get fr' 0 = v0 → get fr' 2 = v2 → get fr' 7 = .func (.func n_script_legal_f1) #[] #[] → get fr' 8 = v8 → get fr' 10 = .pointer (some ⟨bj, 0, none⟩) → get fr' 11 = .pointer (some ⟨bt, 0, none⟩) → get fr' 24 = v24 → get fr' 25 = v25 → get fr' 26 = v26 → Q (.exit 2) fr' h0)
    (hq2 : cutsOk q cuts w = false → ∀ fr', get fr' 6 = .bool false → Q .ret fr' h0) :
    WO W (iterW (code (callW E) iterW 117 c_script_legal_l0) fr h0) Q := by
  have few := hc.few
  refine WO.loop (fun (c : Nat) fr h' => h' = h0 ∧ c ≤ cuts.length ∧ get fr 0 = v0 ∧ get fr 2 = v2 ∧ get fr 7 = .func (.func n_script_legal_f1) #[] #[] ∧ get fr 8 = v8 ∧ get fr 10 = .pointer (some ⟨bj, 0, none⟩) ∧ get fr 11 = .pointer (some ⟨bt, 0, none⟩) ∧ get fr 24 = v24 ∧ get fr 25 = v25 ∧ get fr 26 = v26 ∧ get fr 80 = vc ∧ get fr 81 = .int .i64 cuts.length ∧ get fr 82 = .int .i64 c ∧ ∃ left, get fr 12 = .int .i64 left ∧ 0 ≤ left ∧ left ≤ w ∧ cutsOk q cuts w = cutsOk q (cuts.drop c) left) (fun c => cuts.length - c) ?_ 0 ⟨rfl, Nat.zero_le _, g0, g2, g7, g8, g10, g11, g24, g25, g26, g80, g81, g82, w, g12, hw, Int.le_refl _, rfl⟩
  rintro c fr h' ⟨rfl, hcl, g0, g2, g7, g8, g10, g11, g24, g25, g26, g80, g81, g82, left, g12, l0, l1, hcut⟩
  unfold c_script_legal_l0
  rcases Nat.lt_or_ge c cuts.length with hlt | hge
  · have hstep : cutsOk q (cuts.drop c) left = (decide (1 ≤ atI cuts (c : Int) ∧ atI cuts (c : Int) ≤ min q left) && cutsOk q (cuts.drop (c + 1)) (left - atI cuts (c : Int))) := by
      rw [List.drop_eq_getElem_cons hlt, cutsOk, atI_nat hlt]
      congr 1
      exact decide_eq_decide.2 (by omega)
    rw [hstep] at hcut
    have qw := legalWithin hE h' (atI cuts (c : Int)) 1 (min q left)
    have Hcut := Hid.mk hcut
    clear hcut hstep
    have hq2 := Hid.mk hq2
    clear hq1
    by_cases hcc : 1 ≤ atI cuts (c : Int) ∧ atI cuts (c : Int) ≤ min q left
    · rw [decide_eq_true hcc] at qw
      have Hc := Hid.mk hcc
      have hc2 : atI cuts (c : Int) ≤ left := by omega
      have hc1 := hcc.1
      clear hcc
      (repeat' (first | ((with_reducible refine WG_dec (fun _ => ?_) (fun _ => ?_)) <;> try (exfalso; omega)) | ((with_reducible refine WG_decF (fun _ => ?_) (fun _ => ?_)) <;> try (exfalso; omega)) | ((with_reducible refine WC_dec (fun _ => ?_) (fun _ => ?_)) <;> try (exfalso; omega)) | refine WC_bool (fun _ => ?_) (fun _ => ?_) | refine WG_bool (fun _ => ?_) (fun _ => ?_) | refine WG_boolF (fun _ => ?_) (fun _ => ?_) | simp -dsimp (disch := omega) only [↓run_nil, ↓run_i, ↓op_call, ↓co_seq, ↓co_skip, ↓co_reg, ↓co_cond, ↓co_block, ↓op_mov, ↓op_bin, ↓op_un, ↓op_fld, ↓op_ixs, ↓op_min, ↓op_ld, WF_eq, W1_some, WX_some, WC_false, ↓ev_t, ↓ev_c, ↓upd_at, ↓get_cons, ↓frm_nil, ↓frm_cons, bin_add, bin_sub, bin_lss, un_not, load_ptr, ldO_cells, part_none, fld_ptr, min_1, min_2, wrap_i64, eq_self, Bool.not_true, List.map_cons, List.map_nil, List.getElem?_cons_zero, List.getElem?_cons_succ, List.getD_cons_zero, Nat.reduceEqDiff, Nat.zero_add, ↓reduceIte, reduceCtorEq, *, hc.ixs, hc.ld0, encI]))
      exact Next.mk (c + 1) ⟨rfl, by omega, rfl, rfl, rfl, rfl, rfl, rfl, rfl, rfl, rfl, rfl, rfl, rfl, _, rfl, by omega, by omega, by rw [Hcut.out, decide_eq_true Hc.out]; rfl⟩ (by omega)
    · rw [decide_eq_false hcc] at qw
      have Hc := Hid.mk hcc
      clear hcc
      (repeat' (first | ((with_reducible refine WG_dec (fun _ => ?_) (fun _ => ?_)) <;> try (exfalso; omega)) | ((with_reducible refine WG_decF (fun _ => ?_) (fun _ => ?_)) <;> try (exfalso; omega)) | ((with_reducible refine WC_dec (fun _ => ?_) (fun _ => ?_)) <;> try (exfalso; omega)) | refine WC_bool (fun _ => ?_) (fun _ => ?_) | refine WG_bool (fun _ => ?_) (fun _ => ?_) | refine WG_boolF (fun _ => ?_) (fun _ => ?_) | simp -dsimp (disch := omega) only [↓run_nil, ↓run_i, ↓op_call, ↓co_seq, ↓co_skip, ↓co_ret, ↓co_reg, ↓co_cond, ↓co_block, ↓op_mov, ↓op_bin, ↓op_un, ↓op_fld, ↓op_ixs, ↓op_min, ↓op_ld, WF_eq, W1_some, WX_some, WC_true, ↓ev_t, ↓ev_c, ↓upd_at, ↓get_cons, ↓frm_nil, ↓frm_cons, bin_lss, un_not, load_ptr, ldO_cells, part_none, fld_ptr, min_1, min_2, eq_self, Bool.not_false, List.map_cons, List.map_nil, List.getElem?_cons_zero, List.getElem?_cons_succ, List.getD_cons_zero, Nat.reduceEqDiff, Nat.zero_add, ↓reduceIte, reduceCtorEq, *, hc.ixs, hc.ld0, encI]))
      exact hq2.out (by rw [Hcut.out, decide_eq_false Hc.out]; rfl) _ rfl
  · have e : cuts.drop c = [] := List.drop_of_length_le (by omega)
    rw [e] at hcut
    have hq1 := hq1 hcut
    clear hcut e hq2
    (repeat' (first | ((with_reducible refine WG_dec (fun _ => ?_) (fun _ => ?_)) <;> try (exfalso; omega)) | ((with_reducible refine WG_decF (fun _ => ?_) (fun _ => ?_)) <;> try (exfalso; omega)) | ((with_reducible refine WC_dec (fun _ => ?_) (fun _ => ?_)) <;> try (exfalso; omega)) | refine WC_bool (fun _ => ?_) (fun _ => ?_) | refine WG_bool (fun _ => ?_) (fun _ => ?_) | refine WG_boolF (fun _ => ?_) (fun _ => ?_) | simp -dsimp (disch := omega) only [↓run_nil, ↓run_i, ↓co_seq, ↓co_exit, ↓co_reg, ↓co_cond, ↓op_bin, WF_eq, W1_some, ↓ev_t, ↓upd_at, ↓get_cons, ↓frm_nil, ↓frm_cons, bin_lss, eq_self, Nat.reduceEqDiff, ↓reduceIte, reduceCtorEq, decide_false, *]))
    exact hq1 _ rfl rfl rfl rfl rfl rfl rfl rfl rfl
theorem lastN_task {jobs : List Job} {task : Int} : ∀ {n : Nat}, 0 ≤ lastN jobs task n → (atI jobs (lastN jobs task n)).task = task
  | 0, h => by simp [lastN] at h
  | n + 1, h => by
    unfold lastN at h ⊢
    split
    · assumption
    · rename_i hn; rw [if_neg hn] at h; exact lastN_task h
theorem allOk_succ (l : List Task) (jobs : List Job) (n : Nat) : allOk l jobs (n + 1) = (allOk l jobs n && jobOkB l jobs n) := rfl
theorem scriptLegal (hE : Laid E) {h : Heap} {v0 v1 : Value} {l : List Task} {jobs : List Job} (hl : Rd 7 encT h v0 l) (hs : ∀ t ∈ l, t.name.size < 1152921504606846976) (hj : RdJ h v1 jobs) :
    callW E (.func (.func n_script_legal) #[] #[]) [v0, v1, .func (.func n_script_Legal_f1) #[] #[]] h = some (.bool (legalB l jobs), h, []) := by
  refine fn_same hE.script_legal rfl (by simp) ?_
  obtain ⟨lv, rfl, hlv, hc⟩ := hj.is
  have few := hlv.few
  have fewl := hl.few
  have hca := scriptMay hE hl hs
  simp only [argsF]
  by_cases hok : (checkAllP l).2 = 0
  · by_cases hle : lv.length ≤ 4096
    · obtain ⟨hl0, hl1, hoks⟩ := checkAll_ok hok
      have hd : legalB l (lv.map (·.j)) = allOk l (lv.map (·.j)) lv.length := by simp [legalB, hok, hle]
      rw [hd]
      rw [decide_eq_true hok] at hca
      clear hd hok
      (repeat' (first | ((with_reducible refine WG_dec (fun _ => ?_) (fun _ => ?_)) <;> try (exfalso; omega)) | ((with_reducible refine WG_decF (fun _ => ?_) (fun _ => ?_)) <;> try (exfalso; omega)) | ((with_reducible refine WC_dec (fun _ => ?_) (fun _ => ?_)) <;> try (exfalso; omega)) | refine WC_bool (fun _ => ?_) (fun _ => ?_) | refine WG_bool (fun _ => ?_) (fun _ => ?_) | refine WG_boolF (fun _ => ?_) (fun _ => ?_) | simp -dsimp (disch := omega) only [↓run_nil, ↓run_i, ↓run_w, ↓op_call, ↓co_seq, ↓co_skip, ↓co_reg, ↓co_cond, ↓co_block, ↓co_loop, ↓op_mov, ↓op_pick, ↓op_bin, ↓op_un, ↓op_lens, ↓op_mkm, WF_eq, W1_some, WX_some, WG_false, ↓ev_t, ↓ev_c, ↓ev_f, ↓upd_at, ↓get_cons, ↓frm_nil, ↓frm_cons, bin_gtr, un_not, pick_f, eq_self, Bool.not_true, List.map_cons, List.map_nil, Nat.reduceEqDiff, Nat.reduceAdd, Nat.zero_add, ↓reduceIte, reduceCtorEq, *, hlv.len]))
      clear hca
      refine WO.loop (fun (n : Nat) fr h' => Pre h h' ∧ h.length < h'.length ∧ n ≤ lv.length ∧ get fr 0 = v0 ∧ get fr 2 = .func (.func n_script_Legal_f1) #[] #[] ∧ get fr 7 = .func (.func n_script_legal_f1) #[] #[] ∧ get fr 8 = .map (some h.length) ∧ get fr 24 = v1 ∧ get fr 25 = .int .i64 lv.length ∧ get fr 26 = .int .i64 n ∧ allOk l (lv.map (·.j)) n = true ∧ ∃ es, h'[h.length]? = some (.map es) ∧ IKeys .i64 es ∧ ∀ t : Int, 0 ≤ t → t < l.length → (mapI .i64 es t).getD (.int .i64 0) = .int .i64 (soonest l (lv.map (·.j)) n t)) (fun n => lv.length - n) ?_ 0 ⟨Pre.app h _, by simp, Nat.zero_le _, rfl, rfl, rfl, rfl, rfl, rfl, rfl, rfl, [], by rw [geta0]; rfl, (fun e he => nomatch he), fun t _ _ => rfl⟩
      rintro n fr h' ⟨hp, hlt', hn, g0, g2, g7, g8, g24, g25, g26, hall, es, m1, k1, c1⟩
      have hl' := hl.pre hp
      have hlv' := hlv.pre hp
      have Hall := Hid.mk hall
      clear hall
      unfold c_script_legal_l1
      rcases Nat.lt_or_ge n lv.length with hlt | hge
      · have hmem := atI_mem (l := lv) (i := n) (by omega) (by omega)
        have hcn := (hc _ hmem).pre hp
        have e2 : atI (lv.map (·.j)) (n : Int) = (atI lv n).j := (atI_map' (fun p : NV Job => p.j) lv n (by omega) (by omega)).symm
        have hnums := jobOk_iff l (lv.map (·.j)) n
        have hss := fun t => soonest_succ l (lv.map (·.j)) n t
        rw [e2] at hnums
        simp only [e2] at hss
        have hsn : 0 ≤ lastN (lv.map (·.j)) (atI lv n).j.task n → 0 ≤ soonest l (lv.map (·.j)) n (atI lv n).j.task ∧ soonest l (lv.map (·.j)) n (atI lv n).j.task ≤ 17592186044416 + 2147483647 := fun hk => by
          have h5 := lastN_in (lv.map (·.j)) (atI lv n).j.task n
          have h1 := allOk_at Hall.out (lastN (lv.map (·.j)) (atI lv n).j.task n).toNat (by omega)
          simp only [jobOkB, Bool.and_eq_true, decide_eq_true_eq] at h1
          have h2 := (jobOk_iff _ _ _).1 h1.1
          rw [show ((lastN (lv.map (·.j)) (atI lv n).j.task n).toNat : Int) = lastN (lv.map (·.j)) (atI lv n).j.task n by omega] at h2
          have h6 := lastN_task hk
          rw [h6] at h2
          have h7 := (hoks _ (atI_mem h2.1.1 h2.1.2)).1
          simp only [rangesB] at h7
          unfold soonest
          rw [if_pos hk]
          omega
        have hs0 : ¬ 0 ≤ lastN (lv.map (·.j)) (atI lv n).j.task n → soonest l (lv.map (·.j)) n (atI lv n).j.task = 0 := fun hk => by unfold soonest; rw [if_neg hk]
        have hsb : 0 ≤ soonest l (lv.map (·.j)) n (atI lv n).j.task ∧ soonest l (lv.map (·.j)) n (atI lv n).j.task ≤ 17592186044416 + 2147483647 := by
          by_cases hk : 0 ≤ lastN (lv.map (·.j)) (atI lv n).j.task n
          · exact hsn hk
          · rw [hs0 hk]; omega
        have Hn2 : Hid (jobNums l (lv.map (·.j)) n ↔ ((0 ≤ (atI lv n).j.task ∧ (atI lv n).j.task < l.length) ∧ (soonest l (lv.map (·.j)) n (atI lv n).j.task ≤ (atI lv n).j.arrive ∧ (atI lv n).j.arrive ≤ 17592186044416) ∧ ((atI lv n).j.arrive ≤ (atI lv n).j.release ∧ (atI lv n).j.release ≤ (atI lv n).j.arrive + (atI l (atI lv n).j.task).J) ∧ 1 ≤ (atI lv n).j.work ∧ (atI lv n).j.work ≤ (atI l (atI lv n).j.task).C)) := ⟨by
          rw [hnums]
          constructor
          · rintro ⟨a, b, c, d⟩
            refine ⟨a, ⟨?_, b.2⟩, ⟨d.1, d.2.1⟩, d.2.2⟩
            by_cases hk : 0 ≤ lastN (lv.map (·.j)) (atI lv n).j.task n
            · exact c hk
            · rw [hs0 hk]; exact b.1
          · rintro ⟨a, b, c, d⟩
            exact ⟨a, ⟨by omega, b.2⟩, fun _ => b.1, c.1, c.2, d⟩⟩
        have Hjob : Hid (jobOkB l (lv.map (·.j)) n = (decide (jobNums l (lv.map (·.j)) n) && cutsOk (atI l (atI lv n).j.task).Q (atI lv n).j.cuts (atI lv n).j.work)) := ⟨by simp only [jobOkB, e2]⟩
        have Hnot : Hid (jobOkB l (lv.map (·.j)) n = false → allOk l (lv.map (·.j)) lv.length = false) := ⟨fun h => allOk_not hlt h⟩
        have Hss := Hid.mk hss
        have hL := lk_int k1 (.int .i64 0) (atI lv n).j.task
        clear hss hnums hsn hs0 e2 hc hs
        generalize hS : soonest l (lv.map (·.j)) n (atI lv n).j.task = S at *
        by_cases hin : 0 ≤ (atI lv n).j.task ∧ (atI lv n).j.task < l.length
        · have hC := c1 _ hin.1 hin.2
          rw [hS] at hC
          have ht7 := (hoks _ (atI_mem hin.1 hin.2)).1
          simp only [rangesB] at ht7
          have htT := ht7.2.2.2.1
          have htC := ht7.2.2.1
          have htJ := ht7.2.2.2.2.2.2.1
          clear ht7 hoks
          rw [hC] at hL
          have w1 := fun x => legalWithin hE (h' ++ x) (atI lv n).j.arrive S 17592186044416
          have w2 := fun x => legalWithin hE (h' ++ x) (atI lv n).j.release (atI lv n).j.arrive ((atI lv n).j.arrive + (atI l (atI lv n).j.task).J)
          have w3 := fun x => legalWithin hE (h' ++ x) (atI lv n).j.work 1 (atI l (atI lv n).j.task).C
          by_cases hx1 : S ≤ (atI lv n).j.arrive ∧ (atI lv n).j.arrive ≤ 17592186044416
          · rw [decide_eq_true hx1] at w1
            by_cases hx2 : (atI lv n).j.arrive ≤ (atI lv n).j.release ∧ (atI lv n).j.release ≤ (atI lv n).j.arrive + (atI l (atI lv n).j.task).J
            · rw [decide_eq_true hx2] at w2
              by_cases hx3 : 1 ≤ (atI lv n).j.work ∧ (atI lv n).j.work ≤ (atI l (atI lv n).j.task).C
              · rw [decide_eq_true hx3] at w3
                have hdn := Hid.mk (Hn2.out.2 ⟨hin, hx1, hx2, hx3⟩)
                have m1x : ∀ x, (h' ++ x)[h.length]? = some (.map es) := fun x => by rw [List.getElem?_append_left hlt']; exact m1
                (repeat' (first | ((with_reducible refine WG_dec (fun _ => ?_) (fun _ => ?_)) <;> try (exfalso; omega)) | ((with_reducible refine WG_decF (fun _ => ?_) (fun _ => ?_)) <;> try (exfalso; omega)) | ((with_reducible refine WC_dec (fun _ => ?_) (fun _ => ?_)) <;> try (exfalso; omega)) | refine WC_bool (fun _ => ?_) (fun _ => ?_) | refine WG_bool (fun _ => ?_) (fun _ => ?_) | refine WG_boolF (fun _ => ?_) (fun _ => ?_) | simp -dsimp (disch := omega) only [↓run_nil, ↓run_i, ↓run_k, ↓run_w, ↓op_st, ↓op_call, ↓co_seq, ↓co_skip, ↓co_reg, ↓co_cond, ↓co_block, ↓co_loop, ↓op_mov, ↓op_pick, ↓op_bin, ↓op_un, ↓op_fld, ↓op_ixs, ↓op_lens, ↓op_ld, ↓op_look, ↓op_all, WF_eq, W1_some, WX_some, WH_some1, WC_false, WG_false, ↓ev_t, ↓ev_c, ↓upd_at, ↓get_cons, ↓frm_nil, ↓frm_cons, bin_add, bin_lss, bin_geq, un_not, pick_f, cellsV_agg, one_int, one_str, one_slice, setCells_nil, setCells_cons, load_ptr, ldO_cells, part_none, store_ptr, stO_cells, fld_ptr, geta, geta0, seta, seta0, newCells, wrap_i64, eq_self, look_map, Bool.not_true, List.map_cons, List.map_nil, List.length_append, List.length_cons, List.length_nil, List.all_cons, List.all_nil, Bool.and_self, true_and, and_self, List.getElem?_cons_zero, List.getElem?_cons_succ, List.set_cons_zero, List.set_cons_succ, List.append_assoc, List.cons_append, List.nil_append, Nat.reduceEqDiff, Nat.reduceAdd, Nat.zero_add, Nat.add_zero, ↓reduceIte, reduceCtorEq, decide_false, Nat.le_refl, *, hl'.len, hl'.ixs, hl'.ldxa, hlv'.ixs, hlv'.lda, encN, hdJ, encT, hcn.len, hcn.one, hp.le, hp.le_add]))
                refine slegal_l0 hE (hcn.app _) (bj := h'.length) (bt := h'.length + 1) (by rw [geta]; rfl) (by omega) (by omega) rfl rfl rfl rfl rfl rfl rfl rfl rfl rfl rfl rfl rfl (fun hcut fr' q0 q2 q7 q8 q10 q11 q24 q25 q26 => ?_) (fun hcut fr' q6 => ?_)
                · have hn1 : allOk l (lv.map (·.j)) (n + 1) = true := by
                    rw [allOk_succ, Hall.out, Bool.true_and, Hjob.out, hcut, decide_eq_true hdn.out]; rfl
                  have Hn1 := Hid.mk hn1
                  obtain ⟨es', p1, p2, p3⟩ := put_int (.int .i64 ((atI lv n).j.arrive + (atI l (atI lv n).j.task).T)) k1 (atI lv n).j.task
                  have M1 := mp_int p1
                  have P3 := Hid.mk p3
                  have Hc1 := Hid.mk c1
                  have hone := hcn.one
                  have hcv := hcn.cv
                  have hsee := fun x => legalSee hE (h' ++ x) (j := .agg #[.int .i64 (atI lv n).j.task, .int .i64 (atI lv n).j.arrive, .int .i64 (atI lv n).j.release, .int .i64 (atI lv n).j.work, (atI lv n).v]) (by simp [cellsV_agg, one_int, hone]) (.int .i64 ((atI lv n).j.arrive - S))
                  have hml := hp.le
                  clear hn1 hcut p1 p3 c1 w1 w2 w3
                  (repeat' (first | ((with_reducible refine WG_dec (fun _ => ?_) (fun _ => ?_)) <;> try (exfalso; omega)) | ((with_reducible refine WG_decF (fun _ => ?_) (fun _ => ?_)) <;> try (exfalso; omega)) | ((with_reducible refine WC_dec (fun _ => ?_) (fun _ => ?_)) <;> try (exfalso; omega)) | refine WC_bool (fun _ => ?_) (fun _ => ?_) | refine WG_bool (fun _ => ?_) (fun _ => ?_) | refine WG_boolF (fun _ => ?_) (fun _ => ?_) | simp -dsimp (disch := omega) only [↓run_nil, ↓run_i, ↓run_k, ↓op_call, ↓co_seq, ↓co_reg, ↓op_mov, ↓op_bin, ↓op_fld, ↓op_ld, ↓op_look, ↓op_mup, WF_eq, W1_some, WX_some, WX_some1, ↓ev_t, ↓ev_c, ↓upd_at, ↓get_cons, ↓frm_nil, ↓frm_cons, bin_add, bin_sub, load_ptr, ldO_cells, part_none, part_some, fld_ptr, geta, geta0, wrap_i64, eq_self, look_map, mup_map, List.map_cons, List.map_nil, List.length_cons, List.length_nil, true_and, List.getElem?_cons_zero, List.getElem?_cons_succ, List.drop_zero, List.take_succ_cons, List.take_zero, Nat.reduceEqDiff, Nat.reduceAdd, Nat.zero_add, Nat.add_zero, ↓reduceIte, reduceCtorEq, Nat.le_refl, *]))
                  refine Next.mk (n + 1) ⟨(hp.app' _).set (Nat.le_refl _) _, by simp; omega, by omega, rfl, rfl, rfl, rfl, rfl, rfl, rfl, Hn1.out, es', gset (by simp; omega), p2, fun t ht0 ht1 => ?_⟩ (by omega)
                  rw [P3.out, Hss.out]
                  by_cases ht : (atI lv n).j.task = t
                  · rw [if_pos ht.symm, if_pos ht, ht]; rfl
                  · rw [if_neg (fun e => ht e.symm), if_neg ht]; exact Hc1.out t ht0 ht1
                · have hf := Hnot.out (by rw [Hjob.out, hcut, Bool.and_false])
                  rw [hf]
                  clear hcut w1 w2 w3
                  (repeat' (first | ((with_reducible refine WG_dec (fun _ => ?_) (fun _ => ?_)) <;> try (exfalso; omega)) | ((with_reducible refine WG_decF (fun _ => ?_) (fun _ => ?_)) <;> try (exfalso; omega)) | ((with_reducible refine WC_dec (fun _ => ?_) (fun _ => ?_)) <;> try (exfalso; omega)) | refine WC_bool (fun _ => ?_) (fun _ => ?_) | refine WG_bool (fun _ => ?_) (fun _ => ?_) | refine WG_boolF (fun _ => ?_) (fun _ => ?_) | simp -dsimp (disch := omega) only [Res_ret, resL_nil, resL_t, resV_one, nn4_bool, W1_some, eq_self, true_and, Option.map_some, *]))
              · rw [decide_eq_false hx3] at w3
                have hf := Hnot.out (by rw [Hjob.out, decide_eq_false (fun e => hx3 (Hn2.out.1 e).2.2.2)]; rfl)
                rw [hf]
                have m1x : ∀ x, (h' ++ x)[h.length]? = some (.map es) := fun x => by rw [List.getElem?_append_left hlt']; exact m1
                have Hx3 := Hid.mk hx3
                clear hf hx3
                (repeat' (first | ((with_reducible refine WG_dec (fun _ => ?_) (fun _ => ?_)) <;> try (exfalso; omega)) | ((with_reducible refine WG_decF (fun _ => ?_) (fun _ => ?_)) <;> try (exfalso; omega)) | ((with_reducible refine WC_dec (fun _ => ?_) (fun _ => ?_)) <;> try (exfalso; omega)) | refine WC_bool (fun _ => ?_) (fun _ => ?_) | refine WG_bool (fun _ => ?_) (fun _ => ?_) | refine WG_boolF (fun _ => ?_) (fun _ => ?_) | simp -dsimp (disch := omega) only [↓run_nil, ↓run_i, ↓run_k, ↓run_w, ↓op_st, ↓op_call, ↓co_seq, ↓co_skip, ↓co_ret, ↓co_reg, ↓co_cond, ↓co_block, ↓op_mov, ↓op_pick, ↓op_bin, ↓op_un, ↓op_fld, ↓op_ixs, ↓op_lens, ↓op_ld, ↓op_look, ↓op_all, Res_ret, resL_nil, resL_t, resV_one, nn4_bool, WF_eq, W1_some, WX_some, WH_some1, WC_true, WG_false, ↓ev_t, ↓ev_c, ↓upd_at, ↓get_cons, ↓frm_nil, ↓frm_cons, bin_add, bin_lss, bin_geq, un_not, pick_f, cellsV_agg, one_int, one_str, one_slice, setCells_nil, setCells_cons, load_ptr, ldO_cells, part_none, store_ptr, stO_cells, fld_ptr, geta, geta0, seta, seta0, newCells, wrap_i64, eq_self, look_map, Bool.not_true, Bool.not_false, List.map_cons, List.map_nil, List.length_append, List.length_cons, List.length_nil, List.all_cons, List.all_nil, Bool.and_self, true_and, and_self, List.getElem?_cons_zero, List.getElem?_cons_succ, List.set_cons_zero, List.set_cons_succ, List.append_assoc, List.cons_append, List.nil_append, Option.map_some, Nat.reduceEqDiff, Nat.reduceAdd, Nat.zero_add, Nat.add_zero, ↓reduceIte, reduceCtorEq, decide_false, Nat.le_refl, *, hl'.len, hl'.ixs, hl'.ldxa, hlv'.ixs, hlv'.lda, encN, hdJ, encT, hcn.one, hp.le, hp.le_add]))
            · rw [decide_eq_false hx2] at w2
              have hf := Hnot.out (by rw [Hjob.out, decide_eq_false (fun e => hx2 (Hn2.out.1 e).2.2.1)]; rfl)
              rw [hf]
              have m1x : ∀ x, (h' ++ x)[h.length]? = some (.map es) := fun x => by rw [List.getElem?_append_left hlt']; exact m1
              have Hx2 := Hid.mk hx2
              clear hf hx2 w3
              (repeat' (first | ((with_reducible refine WG_dec (fun _ => ?_) (fun _ => ?_)) <;> try (exfalso; omega)) | ((with_reducible refine WG_decF (fun _ => ?_) (fun _ => ?_)) <;> try (exfalso; omega)) | ((with_reducible refine WC_dec (fun _ => ?_) (fun _ => ?_)) <;> try (exfalso; omega)) | refine WC_bool (fun _ => ?_) (fun _ => ?_) | refine WG_bool (fun _ => ?_) (fun _ => ?_) | refine WG_boolF (fun _ => ?_) (fun _ => ?_) | simp -dsimp (disch := omega) only [↓run_nil, ↓run_i, ↓run_k, ↓run_w, ↓op_st, ↓op_call, ↓co_seq, ↓co_skip, ↓co_ret, ↓co_reg, ↓co_cond, ↓co_block, ↓op_mov, ↓op_pick, ↓op_bin, ↓op_un, ↓op_fld, ↓op_ixs, ↓op_lens, ↓op_ld, ↓op_look, ↓op_all, Res_ret, resL_nil, resL_t, resV_one, nn4_bool, WF_eq, W1_some, WX_some, WH_some1, WC_true, WG_false, WG_tf, ↓ev_t, ↓ev_c, ↓upd_at, ↓get_cons, ↓frm_nil, ↓frm_cons, bin_add, bin_lss, bin_geq, un_not, pick_t, pick_f, cellsV_agg, one_int, one_str, one_slice, setCells_nil, setCells_cons, load_ptr, ldO_cells, part_none, store_ptr, stO_cells, fld_ptr, geta, geta0, seta, seta0, newCells, wrap_i64, eq_self, look_map, Bool.not_true, Bool.not_false, List.map_cons, List.map_nil, List.length_append, List.length_cons, List.length_nil, List.all_cons, List.all_nil, Bool.and_self, true_and, and_self, List.getElem?_cons_zero, List.getElem?_cons_succ, List.set_cons_zero, List.set_cons_succ, List.append_assoc, List.cons_append, List.nil_append, Option.map_some, Nat.reduceEqDiff, Nat.reduceAdd, Nat.zero_add, Nat.add_zero, ↓reduceIte, reduceCtorEq, decide_false, Nat.le_refl, *, hl'.len, hl'.ixs, hl'.ldxa, hlv'.ixs, hlv'.lda, encN, hdJ, encT, hcn.one, hp.le, hp.le_add]))
          · rw [decide_eq_false hx1] at w1
            have hf := Hnot.out (by rw [Hjob.out, decide_eq_false (fun e => hx1 (Hn2.out.1 e).2.1)]; rfl)
            rw [hf]
            have m1x : ∀ x, (h' ++ x)[h.length]? = some (.map es) := fun x => by rw [List.getElem?_append_left hlt']; exact m1
            have Hx1 := Hid.mk hx1
            clear hf hx1 w2 w3
            (repeat' (first | ((with_reducible refine WG_dec (fun _ => ?_) (fun _ => ?_)) <;> try (exfalso; omega)) | ((with_reducible refine WG_decF (fun _ => ?_) (fun _ => ?_)) <;> try (exfalso; omega)) | ((with_reducible refine WC_dec (fun _ => ?_) (fun _ => ?_)) <;> try (exfalso; omega)) | refine WC_bool (fun _ => ?_) (fun _ => ?_) | refine WG_bool (fun _ => ?_) (fun _ => ?_) | refine WG_boolF (fun _ => ?_) (fun _ => ?_) | simp -dsimp (disch := omega) only [↓run_nil, ↓run_i, ↓run_k, ↓run_w, ↓op_st, ↓op_call, ↓co_seq, ↓co_skip, ↓co_ret, ↓co_reg, ↓co_cond, ↓co_block, ↓op_mov, ↓op_pick, ↓op_bin, ↓op_un, ↓op_fld, ↓op_ixs, ↓op_lens, ↓op_ld, ↓op_look, ↓op_all, Res_ret, resL_nil, resL_t, resV_one, nn4_bool, WF_eq, W1_some, WX_some, WH_some1, WC_true, WG_false, WG_tf, ↓ev_t, ↓ev_c, ↓upd_at, ↓get_cons, ↓frm_nil, ↓frm_cons, bin_lss, bin_geq, un_not, pick_t, pick_f, cellsV_agg, one_int, one_str, one_slice, setCells_nil, setCells_cons, load_ptr, ldO_cells, part_none, store_ptr, stO_cells, fld_ptr, geta, geta0, seta, seta0, newCells, eq_self, look_map, Bool.not_false, List.map_cons, List.map_nil, List.length_append, List.length_cons, List.length_nil, List.all_cons, List.all_nil, Bool.and_self, true_and, and_self, List.getElem?_cons_zero, List.getElem?_cons_succ, List.set_cons_zero, List.set_cons_succ, List.append_assoc, List.cons_append, List.nil_append, Option.map_some, Nat.reduceEqDiff, Nat.reduceAdd, Nat.zero_add, Nat.add_zero, ↓reduceIte, reduceCtorEq, decide_false, Nat.le_refl, *, hl'.len, hl'.ixs, hl'.ldxa, hlv'.ixs, hlv'.lda, encN, hdJ, encT, hcn.one, hp.le, hp.le_add]))
        · have hf := Hnot.out (by rw [Hjob.out, decide_eq_false (fun e => hin (Hn2.out.1 e).1)]; rfl)
          rw [hf]
          clear hf c1 hoks
          (repeat' (first | ((with_reducible refine WG_dec (fun _ => ?_) (fun _ => ?_)) <;> try (exfalso; omega)) | ((with_reducible refine WG_decF (fun _ => ?_) (fun _ => ?_)) <;> try (exfalso; omega)) | ((with_reducible refine WC_dec (fun _ => ?_) (fun _ => ?_)) <;> try (exfalso; omega)) | refine WC_bool (fun _ => ?_) (fun _ => ?_) | refine WG_bool (fun _ => ?_) (fun _ => ?_) | refine WG_boolF (fun _ => ?_) (fun _ => ?_) | simp -dsimp (disch := omega) only [↓run_nil, ↓run_i, ↓run_k, ↓run_w, ↓op_st, ↓co_seq, ↓co_skip, ↓co_ret, ↓co_reg, ↓co_cond, ↓co_block, ↓op_mov, ↓op_pick, ↓op_bin, ↓op_fld, ↓op_ixs, ↓op_lens, ↓op_ld, ↓op_all, Res_ret, resL_nil, resL_t, resV_one, nn4_bool, WF_eq, W1_some, WH_some1, WC_true, WG_false, WG_tf, ↓ev_t, ↓ev_c, ↓upd_at, ↓get_cons, ↓frm_nil, ↓frm_cons, bin_lss, bin_geq, pick_t, pick_f, cellsV_agg, one_int, one_slice, setCells_nil, setCells_cons, load_ptr, ldO_cells, part_none, store_ptr, stO_cells, fld_ptr, geta0, seta0, newCells, eq_self, List.length_cons, List.length_nil, List.all_cons, List.all_nil, Bool.and_self, true_and, and_self, List.getElem?_cons_zero, List.set_cons_zero, List.set_cons_succ, List.cons_append, List.nil_append, Option.map_some, Nat.reduceEqDiff, Nat.reduceAdd, Nat.zero_add, Nat.add_zero, ↓reduceIte, reduceCtorEq, decide_true, decide_false, Nat.le_refl, *, hl'.len, hlv'.ixs, hlv'.lda, encN, hdJ, hcn.one, hp.le]))
      · have e : n = lv.length := by omega
        subst e
        rw [Hall.out]
        (repeat' (first | ((with_reducible refine WG_dec (fun _ => ?_) (fun _ => ?_)) <;> try (exfalso; omega)) | ((with_reducible refine WG_decF (fun _ => ?_) (fun _ => ?_)) <;> try (exfalso; omega)) | ((with_reducible refine WC_dec (fun _ => ?_) (fun _ => ?_)) <;> try (exfalso; omega)) | refine WC_bool (fun _ => ?_) (fun _ => ?_) | refine WG_bool (fun _ => ?_) (fun _ => ?_) | refine WG_boolF (fun _ => ?_) (fun _ => ?_) | simp -dsimp (disch := omega) only [↓run_nil, ↓run_i, ↓co_seq, ↓co_exit, ↓co_ret, ↓co_reg, ↓co_cond, ↓op_mov, ↓op_bin, Res_ret, resL_nil, resL_t, resV_one, nn4_bool, WF_eq, W1_some, ↓ev_t, ↓ev_c, ↓upd_at, ↓get_cons, ↓frm_nil, ↓frm_cons, bin_lss, eq_self, true_and, Option.map_some, Nat.reduceEqDiff, ↓reduceIte, reduceCtorEq, *]))
    · have hd : legalB l (lv.map (·.j)) = false := by simp [legalB, hle]
      rw [hd]
      rw [decide_eq_true hok] at hca
      (repeat' (first | ((with_reducible refine WG_dec (fun _ => ?_) (fun _ => ?_)) <;> try (exfalso; omega)) | ((with_reducible refine WG_decF (fun _ => ?_) (fun _ => ?_)) <;> try (exfalso; omega)) | ((with_reducible refine WC_dec (fun _ => ?_) (fun _ => ?_)) <;> try (exfalso; omega)) | refine WC_bool (fun _ => ?_) (fun _ => ?_) | refine WG_bool (fun _ => ?_) (fun _ => ?_) | refine WG_boolF (fun _ => ?_) (fun _ => ?_) | simp -dsimp (disch := omega) only [↓run_nil, ↓run_i, ↓run_w, ↓op_call, ↓co_seq, ↓co_ret, ↓co_reg, ↓co_cond, ↓op_mov, ↓op_pick, ↓op_bin, ↓op_un, ↓op_lens, Res_ret, resL_nil, resL_t, resV_one, nn4_bool, WF_eq, W1_some, WX_some, WG_false, ↓ev_t, ↓ev_c, ↓ev_f, ↓upd_at, ↓get_cons, ↓frm_nil, ↓frm_cons, bin_gtr, un_not, pick_f, eq_self, Bool.not_true, List.map_cons, List.map_nil, true_and, Option.map_some, Nat.reduceEqDiff, Nat.reduceAdd, Nat.zero_add, ↓reduceIte, reduceCtorEq, *, hlv.len]))
  · have hd : legalB l (lv.map (·.j)) = false := by simp [legalB, hok]
    rw [hd]
    rw [decide_eq_false hok] at hca
    (repeat' (first | ((with_reducible refine WG_dec (fun _ => ?_) (fun _ => ?_)) <;> try (exfalso; omega)) | ((with_reducible refine WG_decF (fun _ => ?_) (fun _ => ?_)) <;> try (exfalso; omega)) | ((with_reducible refine WC_dec (fun _ => ?_) (fun _ => ?_)) <;> try (exfalso; omega)) | refine WC_bool (fun _ => ?_) (fun _ => ?_) | refine WG_bool (fun _ => ?_) (fun _ => ?_) | refine WG_boolF (fun _ => ?_) (fun _ => ?_) | simp -dsimp (disch := omega) only [↓run_nil, ↓run_i, ↓run_w, ↓op_call, ↓co_seq, ↓co_ret, ↓co_reg, ↓co_cond, ↓op_mov, ↓op_pick, ↓op_un, Res_ret, resL_nil, resL_t, resV_one, nn4_bool, WF_eq, W1_some, WX_some, WC_true, WG_tf, ↓ev_t, ↓ev_c, ↓ev_f, ↓upd_at, ↓get_cons, ↓frm_nil, ↓frm_cons, un_not, pick_t, eq_self, Bool.not_false, List.map_cons, List.map_nil, true_and, Option.map_some, Nat.reduceEqDiff, Nat.reduceAdd, Nat.zero_add, ↓reduceIte, reduceCtorEq, *]))
theorem legalS (hE : Laid E) {h : Heap} {v0 v1 : Value} {l : List Task} {jobs : List Job} (hl : Rd 7 encT h v0 l) (hs : ∀ t ∈ l, t.name.size < 1152921504606846976) (hj : RdJ h v1 jobs) :
    callW E (.func (.func n_script_Legal) #[] #[]) [v0, v1] h = some (.bool (legalB l jobs), h, []) := by
  have q := scriptLegal hE hl hs hj
  refine fn_same hE.script_Legal rfl (by simp) ?_
  simp only [argsF]
  generalize legalB l jobs = b at *
  (repeat' (first | ((with_reducible refine WG_dec (fun _ => ?_) (fun _ => ?_)) <;> try (exfalso; omega)) | ((with_reducible refine WG_decF (fun _ => ?_) (fun _ => ?_)) <;> try (exfalso; omega)) | ((with_reducible refine WC_dec (fun _ => ?_) (fun _ => ?_)) <;> try (exfalso; omega)) | refine WC_bool (fun _ => ?_) (fun _ => ?_) | refine WG_bool (fun _ => ?_) (fun _ => ?_) | refine WG_boolF (fun _ => ?_) (fun _ => ?_) | simp -dsimp (disch := omega) only [↓run_nil, ↓run_i, ↓op_call, ↓co_seq, ↓co_ret, ↓co_reg, ↓op_mov, Res_ret, resL_nil, resL_t, resV_one, nn4_bool, WF_eq, W1_some, WX_some, ↓ev_t, ↓ev_c, ↓ev_f, ↓upd_at, ↓get_cons, ↓frm_nil, ↓frm_cons, eq_self, List.map_cons, List.map_nil, true_and, Option.map_some, Nat.reduceEqDiff, Nat.zero_add, ↓reduceIte, reduceCtorEq, *]))
end Go.L.Try

/- OF WHAT IS NOT LEGAL NOTHING RUNS: exec.Until, exec.Run. -/
set_option linter.unusedVariables false
set_option linter.unusedSimpArgs false
set_option maxRecDepth 100000
set_option maxHeartbeats 1000000
namespace Go.L.Try
open Go Go.L
variable {E : Env}
theorem untilNot (hE : Laid E) {h : Heap} {v0 v1 : Value} {l : List Task} {jobs : List Job} (hl : Rd 7 encT h v0 l) (hs : ∀ t ∈ l, t.name.size < 1152921504606846976) (hj : RdJ h v1 jobs) (hn : legalB l jobs = false) (n : Int) :
    callW E (.func (.func n_exec_Until) #[] #[]) [v0, v1, .int .i64 n] h = some (.tuple #[.slice none 0 0, .slice none 0 0], h, []) := by
  have q := fun x => legalS hE (hl.app x) hs (hj.pre (Pre.app h x))
  rw [hn] at q
  have h0 := hl.one
  have h1 := hl.cv
  refine fn_same hE.exec_Until rfl (by simp) ?_
  simp only [argsF]
  (repeat' (first | ((with_reducible refine WG_dec (fun _ => ?_) (fun _ => ?_)) <;> try (exfalso; omega)) | ((with_reducible refine WG_decF (fun _ => ?_) (fun _ => ?_)) <;> try (exfalso; omega)) | ((with_reducible refine WC_dec (fun _ => ?_) (fun _ => ?_)) <;> try (exfalso; omega)) | refine WC_bool (fun _ => ?_) (fun _ => ?_) | refine WG_bool (fun _ => ?_) (fun _ => ?_) | refine WG_boolF (fun _ => ?_) (fun _ => ?_) | simp -dsimp (disch := omega) only [↓run_nil, ↓run_i, ↓op_call, ↓co_seq, ↓co_ret, ↓co_reg, ↓co_cond, ↓op_mov, ↓op_un, ↓op_ld, ↓op_box, Res_ret, resL_nil, resL_t, resV_two, nn4_tuple, nn3_nils, WF_eq, W1_some, WX_some, WC_true, ↓ev_t, ↓ev_c, ↓ev_f, ↓upd_at, ↓get_cons, ↓frm_nil, ↓frm_cons, un_not, load_ptr, ldO_cells, part_none, geta0, newCells, eq_self, Bool.not_false, List.map_cons, List.map_nil, List.all_cons, List.all_nil, Bool.and_self, true_and, List.getElem?_cons_zero, Option.map_some, Nat.reduceEqDiff, Nat.reduceAdd, Nat.zero_add, ↓reduceIte, reduceCtorEq, *]))
theorem runNot (hE : Laid E) {h : Heap} {v0 v1 : Value} {l : List Task} {jobs : List Job} (hl : Rd 7 encT h v0 l) (hs : ∀ t ∈ l, t.name.size < 1152921504606846976) (hj : RdJ h v1 jobs) (hn : legalB l jobs = false) :
    callW E (.func (.func n_exec_Run) #[] #[]) [v0, v1] h = some (.tuple #[.slice none 0 0, .slice none 0 0], h, []) := by
  have q := untilNot hE hl hs hj hn 9223372036854775807
  refine fn_same hE.exec_Run rfl (by simp) ?_
  simp only [argsF]
  (repeat' (first | ((with_reducible refine WG_dec (fun _ => ?_) (fun _ => ?_)) <;> try (exfalso; omega)) | ((with_reducible refine WG_decF (fun _ => ?_) (fun _ => ?_)) <;> try (exfalso; omega)) | ((with_reducible refine WC_dec (fun _ => ?_) (fun _ => ?_)) <;> try (exfalso; omega)) | refine WC_bool (fun _ => ?_) (fun _ => ?_) | refine WG_bool (fun _ => ?_) (fun _ => ?_) | refine WG_boolF (fun _ => ?_) (fun _ => ?_) | simp -dsimp (disch := omega) only [↓run_nil, ↓run_i, ↓op_call, ↓co_seq, ↓co_ret, ↓co_reg, ↓op_mov, ↓op_ext, Res_ret, resL_nil, resL_t, resV_two, nn4_tuple, nn3_nils, WF_eq, W1_some, WX_some, ↓ev_t, ↓ev_c, ↓ev_f, ↓upd_at, ↓get_cons, ↓frm_nil, ↓frm_cons, ext_tuple, nt_slice, eq_self, List.map_cons, List.map_nil, List.all_cons, List.all_nil, Bool.and_self, true_and, List.getElem?_cons_zero, List.getElem?_cons_succ, Option.map_some, Nat.reduceEqDiff, Nat.zero_add, ↓reduceIte, reduceCtorEq, *]))
end Go.L.Try

/- ExecLegal: of what is not legal nothing runs. -/
set_option linter.unusedVariables false
set_option linter.unusedSimpArgs false
set_option maxRecDepth 100000
set_option maxHeartbeats 2000000
namespace Go.L.Try
open Go Go.L
variable {E : Env}
theorem rest10 (hE : Laid E) (h : Heap) (x n : Int) (hn : 0 < n) (hn' : n < 4611686018427387904) : callW E (.func (.func n_cadencylaw10_rest) #[] #[]) [.int .i64 x, .int .i64 n] h = some (.int .i64 (x % n), h, []) := by
  have hb := tmod_bounds x n hn
  refine fn_same hE.cadencylaw10_rest rfl (by simp) ?_
  simp -dsimp (disch := omega) only [↓run_nil, ↓run_i, ↓co_seq, ↓co_ret, ↓co_reg, ↓op_mov, ↓op_bin, Res_ret, resL_nil, resL_t, resV_one, nn4_int, WF_eq, W1_some, ↓ev_t, ↓ev_c, ↓upd_at, ↓get_cons, ↓frm_nil, ↓frm_cons, bin_add, wrap_i64, bin_rem, eq_self, true_and, Option.map_some, Nat.reduceEqDiff, Nat.zero_add, ↓reduceIte, reduceCtorEq, argsF, rest_eq x n hn]
theorem jobsP_all {l : List Task} (hl : 0 < l.length) (hok : ∀ t ∈ l, okTask t) (raw : List Raw) : ∀ j ∈ jobsP l raw, jobIn raw.length j ∧ 0 ≤ j.task ∧ j.task < l.length := by
  have key : ∀ (n : Nat), n ≤ raw.length → ∀ j ∈ jobsP l (raw.take n), jobIn n j ∧ 0 ≤ j.task ∧ j.task < l.length := by
    intro n
    induction n with
    | zero => simp [jobsP]
    | succ n ih =>
      intro hn j hj
      rw [take_snoc (by omega), jobsP_snoc] at hj
      rcases List.mem_append.1 hj with hj | hj
      · obtain ⟨h1, h2⟩ := ih (by omega) j hj
        refine ⟨?_, h2⟩
        unfold jobIn at h1 ⊢
        simp only [Int.natCast_add, Int.natCast_one]
        omega
      · rw [List.mem_singleton.1 hj]
        have h1 := emod_in (atI raw (n : Int)).task l.length (by omega)
        exact ⟨jobOf_in hl hok (fun j hj => (ih (by omega) j hj).1) _, h1⟩
  have := key raw.length (Nat.le_refl _)
  rwa [List.take_length] at this
theorem decodeP_all {l : List Task} (hv : validP l) (raw : List Raw) (hr : raw.length ≤ 4096) : decodeP l raw = jobsP l raw ∧ (decodeP l raw).length = raw.length ∧ ∀ j ∈ decodeP l raw, jobIn raw.length j ∧ 0 ≤ j.task ∧ j.task < l.length := by
  have e : decodeP l raw = jobsP l raw := by rw [decodeP, if_pos (show (checkAllP l).2 = 0 from hv), List.take_of_length_le hr]
  obtain ⟨h0, h1, h2⟩ := checkAll_ok hv
  rw [e]
  exact ⟨rfl, jobsP_len _ _, jobsP_all h0 h2 raw⟩
/-- One job is turned: not legal. -/
theorem legalB_set {l : List Task} {jobs : List Job} {i : Nat} (hi : i < jobs.length) {j : Job} (h : ¬ (0 ≤ j.task ∧ j.task < l.length) ∨ ¬ j.arrive ≤ j.release ∨ ¬ 1 ≤ j.work ∨ ∃ c r, j.cuts = c :: r ∧ (atI l j.task).Q < c) : legalB l (jobs.set i j) = false := by
  have hi' : i < (jobs.set i j).length := by rw [List.length_set]; exact hi
  have e : atI (jobs.set i j) (i : Int) = j := by rw [atI_nat hi', List.getElem_set_self]
  have : jobOkB l (jobs.set i j) i = false := by
    unfold jobOkB
    rw [e]
    rcases h with h | h | h | ⟨c, r, h1, h2⟩
    · rw [decide_eq_false, Bool.false_and]
      unfold jobNums; rw [e]; exact fun hh => h hh.1
    · rw [decide_eq_false, Bool.false_and]
      unfold jobNums; rw [e]; exact fun hh => h hh.2.2.2.1
    · rw [decide_eq_false, Bool.false_and]
      unfold jobNums; rw [e]; exact fun hh => h hh.2.2.2.2.2.1
    · rw [h1, cutsOk, show decide (1 ≤ c ∧ c ≤ (atI l j.task).Q ∧ c ≤ j.work) = false from decide_eq_false (by omega)]; simp
  unfold legalB
  rw [allOk_not hi' this, Bool.and_false]
theorem legalB_nil (jobs : List Job) : legalB [] jobs = false := by simp [legalB, checkAllP]
theorem RdJ.of_set {m : Nat} {h h' : Heap} {v vc : Value} {lv : List (NV Job)} {i : Nat} {j : Job} (ho : RdO m 5 (encN hdJ) h' v (lv.set i ⟨j, vc⟩)) (hw : ∀ p ∈ lv, Rd 1 encI h p.v p.j.cuts ∧ (p.v ≠ .slice none 0 0 → blk p.v ≠ blk v)) (hk : ∀ b, b ≠ blk v → h'[b]? = h[b]?) (hn : Rd 1 encI h vc j.cuts ∧ (vc ≠ .slice none 0 0 → blk vc ≠ blk v)) : RdJ h' v ((lv.map (·.j)).set i j) := by
  refine ⟨lv.set i ⟨j, vc⟩, by rw [List.map_set], ho.rd, fun p hp => ?_⟩
  rcases List.mem_or_eq_of_mem_set hp with hp | rfl
  · obtain ⟨h1, h2⟩ := hw p hp
    exact h1.keep fun hne => hk _ (h2 hne)
  · exact hn.1.keep fun hne => hk _ (hn.2 hne)
theorem execLegal (hE : Laid E) (ha : ∀ h, callW E (.func (.func n_cadencylaw10_awake) #[] #[]) [] h = some (.bool true, h, [])) {h : Heap} {vl vr : Value} {l : List Spec} {raw : List Raw} {q0 q1 : Int} (hl : Rd 5 encSp h vl l) (hr : RdR h vr raw) (h0 : i64in q0) (h1 : i64in q1) :
    callW E (.func (.func n_cadencylaw10_ExecLegal) #[] #[]) [vl, vr, .agg #[.int .i64 q0, .int .i64 q1]] h = some (.bool true, h, []) := by
  refine fn_same hE.cadencylaw10_ExecLegal rfl (by simp) ?_
  simp only [argsF]
  (repeat' (first | ((with_reducible refine WG_dec (fun _ => ?_) (fun _ => ?_)) <;> try (exfalso; omega)) | ((with_reducible refine WG_decF (fun _ => ?_) (fun _ => ?_)) <;> try (exfalso; omega)) | ((with_reducible refine WC_dec (fun _ => ?_) (fun _ => ?_)) <;> try (exfalso; omega)) | refine WC_bool (fun _ => ?_) (fun _ => ?_) | refine WG_bool (fun _ => ?_) (fun _ => ?_) | refine WG_boolF (fun _ => ?_) (fun _ => ?_) | simp -dsimp (disch := omega) only [↓run_nil, ↓run_i, ↓op_call, ↓co_seq, ↓co_reg, ↓op_mov, ↓op_ixa, ↓op_ld, ↓op_box, WF_eq, W1_some, WX_some, ↓ev_t, ↓ev_c, ↓ev_f, ↓upd_at, ↓get_cons, ↓frm_nil, ↓frm_cons, cellsV_agg, one_int, load_ptr, ldO_cells, part_none, ixa_some, geta0, newCells, eq_self, List.map_cons, List.map_nil, List.all_cons, List.all_nil, Bool.and_self, List.getElem?_cons_zero, Nat.reduceEqDiff, Nat.reduceAdd, Nat.zero_add, Nat.add_zero, ↓reduceIte, reduceCtorEq, *, Int.toNat_zero, Nat.zero_mul]))
  have hp0 := Pre.app h [LObj.cells [.int .i64 q0, .int .i64 q1] false]
  have hb0 : (h ++ [LObj.cells [.int .i64 q0, .int .i64 q1] false])[h.length]? = some (.cells [.int .i64 q0, .int .i64 q1] false) := by rw [geta0]; rfl
  refine wx_new (set04 hE (hl.app _) (most := 5) (by decide) (by decide) h0) fun v1 ys r1 p1 => ?_
  have P1 := hp0.trans p1
  replace hb0 := p1 _ _ hb0
  generalize _ ++ ys = H1 at r1 p1 P1 hb0 ⊢
  clear p1 hp0
  have hv := setP_valid l (most := 5) q0 (by decide) (by decide)
  have hsl := setP_len l (most := 5) (turn := q0) (by decide)
  have hsm := fun t ht => setP_small (l := l) (most := 5) (turn := q0) (t := t) (by decide) (by decide) ht
  generalize setP l 5 q0 = s at *
  have hnm : ∀ t ∈ s, t.name.size < 1152921504606846976 := fun t ht => by have := (hsm t ht).name; omega
  have o1 := r1.one
  have c1 := r1.cv
  (repeat' (first | ((with_reducible refine WG_dec (fun _ => ?_) (fun _ => ?_)) <;> try (exfalso; omega)) | ((with_reducible refine WG_decF (fun _ => ?_) (fun _ => ?_)) <;> try (exfalso; omega)) | ((with_reducible refine WC_dec (fun _ => ?_) (fun _ => ?_)) <;> try (exfalso; omega)) | refine WC_bool (fun _ => ?_) (fun _ => ?_) | refine WG_bool (fun _ => ?_) (fun _ => ?_) | refine WG_boolF (fun _ => ?_) (fun _ => ?_) | simp -dsimp (disch := omega) only [↓run_nil, ↓run_i, ↓op_call, ↓co_seq, ↓co_reg, ↓op_mov, WF_eq, W1_some, ↓ev_t, ↓ev_c, ↓ev_f, ↓upd_at, ↓get_cons, ↓frm_nil, ↓frm_cons, eq_self, List.map_cons, List.map_nil, Nat.reduceEqDiff, ↓reduceIte, reduceCtorEq, *]))
  refine wx_new (few08 hE (hr.pre P1) (most := 8) (by decide) (by decide)) fun v2 ys r2 p2 => ?_
  have P2 := P1.trans p2
  replace hb0 := p2 _ _ hb0
  replace r1 := r1.pre p2
  generalize _ ++ ys = H2 at r2 p2 P2 hb0 r1 ⊢
  clear p2 P1
  generalize hraw : List.map fewOf (List.take (8 : Int).toNat raw) = rw8 at *
  have hraw8 : rw8.length ≤ 8 := by rw [← hraw, List.length_map, List.length_take]; omega
  clear hraw
  (repeat' (first | ((with_reducible refine WG_dec (fun _ => ?_) (fun _ => ?_)) <;> try (exfalso; omega)) | ((with_reducible refine WG_decF (fun _ => ?_) (fun _ => ?_)) <;> try (exfalso; omega)) | ((with_reducible refine WC_dec (fun _ => ?_) (fun _ => ?_)) <;> try (exfalso; omega)) | refine WC_bool (fun _ => ?_) (fun _ => ?_) | refine WG_bool (fun _ => ?_) (fun _ => ?_) | refine WG_boolF (fun _ => ?_) (fun _ => ?_) | simp -dsimp (disch := omega) only [↓run_i, ↓op_call, ↓ev_t, ↓ev_f, ↓upd_at, eq_self, List.map_cons, List.map_nil, Nat.reduceEqDiff, ↓reduceIte, *]))
  refine wx_new (decode08O hE r1 hnm r2) fun v3 ys r3 p3 => ?_
  have P3 := P2.trans p3
  have hml := P2.le
  replace hb0 := p3 _ _ hb0
  have r0 := r1
  replace r1 := r1.pre p3
  generalize _ ++ ys = H3 at r3 p3 P3 hb0 r1 ⊢
  clear p3 P2 r2
  obtain ⟨_, hd1, hd2⟩ := decodeP_all hv rw8 (by omega)
  generalize decodeP s rw8 = jobs at *
  obtain ⟨lv, rfl, ho, hw⟩ := r3.is
  have r3' := r3.rd
  have a1 := runNot hE (v0 := .slice none 0 0) (h := H3) (l := []) Rd.of_nil (by simp) r3' (legalB_nil _)
  have a2 := untilNot hE (v0 := .slice none 0 0) (h := H3) (l := []) Rd.of_nil (by simp) r3' (legalB_nil _) 9
  have hrd := ho.rd
  have few := hrd.few
  have o3 := hrd.one
  have c3 := hrd.cv
  rw [List.length_map] at hd1
  have hd1a : lv.length ≤ 8 := by omega
  clear hd1 r3
  by_cases hne : lv.length = 0
  · (repeat' (first | ((with_reducible refine WG_dec (fun _ => ?_) (fun _ => ?_)) <;> try (exfalso; omega)) | ((with_reducible refine WG_decF (fun _ => ?_) (fun _ => ?_)) <;> try (exfalso; omega)) | ((with_reducible refine WC_dec (fun _ => ?_) (fun _ => ?_)) <;> try (exfalso; omega)) | refine WC_bool (fun _ => ?_) (fun _ => ?_) | refine WG_bool (fun _ => ?_) (fun _ => ?_) | refine WG_boolF (fun _ => ?_) (fun _ => ?_) | simp -dsimp (disch := omega) only [↓run_nil, ↓run_i, ↓run_w, ↓op_call, ↓co_seq, ↓co_ret, ↓co_reg, ↓co_cond, ↓op_mov, ↓op_pick, ↓op_bin, ↓op_ext, ↓op_lens, Res_ret, resL_nil, resL_t, resV_one, nn4_bool, WF_eq, W1_some, WX_some, WG_true, ↓ev_t, ↓ev_c, ↓ev_f, ↓upd_at, ↓get_cons, ↓frm_nil, ↓frm_cons, bin_add, bin_eql, pick_t, lens_slice, ext_tuple, nt_slice, wrap_i64, eq_self, List.map_cons, List.map_nil, true_and, List.getElem?_cons_zero, List.getElem?_cons_succ, Option.map_some, Nat.reduceEqDiff, ↓reduceIte, *, hrd.len]))
    all_goals rfl
  · have hlv : lv ≠ [] := fun e => hne (by rw [e]; rfl)
    have hpos : 0 < lv.length := by omega
    have hi := emod_in q0 lv.length (by omega)
    have hb := emod_in q1 4 (by omega)
    have hrest := rest10 hE
    have hmem := atI_mem (l := lv) (i := q0 % lv.length) hi.1 hi.2
    obtain ⟨hin, ht0, ht1⟩ := hd2 _ (List.mem_map_of_mem hmem)
    obtain ⟨hc1, hc2⟩ := hw _ hmem
    have hq := hsm _ (atI_mem ht0 ht1)
    have hq1 := hq.Q
    have hqC := hq.C
    unfold jobIn at hin
    have hset := fun j => legalB_set (l := s) (jobs := lv.map (·.j)) (i := (q0 % lv.length).toNat) (by rw [List.length_map]; omega) (j := j)
    have Hset := Hid.mk hset
    clear hset hne hsm hq hd2 hv
    have hl3 : rw8.length ≤ 8 := hraw8
    have hg := ho.ge hlv
    have hw0 := fun b (hb : H2.length ≤ b) => Nat.le_trans hml hb
    (repeat' (first | ((with_reducible refine WG_dec (fun _ => ?_) (fun _ => ?_)) <;> try (exfalso; omega)) | ((with_reducible refine WG_decF (fun _ => ?_) (fun _ => ?_)) <;> try (exfalso; omega)) | ((with_reducible refine WC_dec (fun _ => ?_) (fun _ => ?_)) <;> try (exfalso; omega)) | refine WC_bool (fun _ => ?_) (fun _ => ?_) | refine WG_bool (fun _ => ?_) (fun _ => ?_) | refine WG_boolF (fun _ => ?_) (fun _ => ?_) | simp -dsimp (disch := omega) only [↓run_nil, ↓run_i, ↓run_k, ↓op_st, ↓op_call, ↓co_seq, ↓co_skip, ↓co_reg, ↓co_cond, ↓co_block, ↓op_mov, ↓op_bin, ↓op_fld, ↓op_ixa, ↓op_ixs, ↓op_ext, ↓op_lens, ↓op_ld, ↓op_bsl, WF_eq, W1_some, WX_some, ↓ev_t, ↓ev_c, ↓ev_f, ↓upd_at, ↓get_cons, ↓frm_nil, ↓frm_cons, bin_add, bin_sub, bin_eql, cellsV_int, cellsV_slice, one_int, fillV_nil, fillV_cons, setCells_nil, setCells_cons, load_ptr, ldO_cells, part_none, store_ptr, fld_ptr, ext_tuple, nt_slice, ixa_some, newCells, bslV, wrap_i64, eq_self, List.map_cons, List.map_nil, List.length_cons, List.length_nil, List.all_cons, List.all_nil, Bool.and_self, and_self, List.getElem?_cons_zero, List.getElem?_cons_succ, List.getD_cons_zero, List.getD_cons_succ, List.set_cons_zero, List.cons_append, List.nil_append, List.append_nil, Option.bind_some, Nat.reduceEqDiff, Nat.reduceLeDiff, Nat.reduceMul, Nat.zero_add, Nat.add_zero, ↓reduceIte, decide_false, List.flatten_cons, List.flatten_nil, List.replicate_succ, List.replicate_zero, Nat.le_refl, *, hrd.len, hrd.ixs, hrd.ld, hrd.ld0, r1.len, r1.ixs, r1.ld, encN, hdJ, encT, Int.toNat_zero, Int.toNat_one, Nat.zero_mul]))
    · refine wh_rdO ho hw0 (fo := 3) ⟨{ (atI lv (q0 % lv.length)).j with work := 0 }, (atI lv (q0 % lv.length)).v⟩ hi.1 hi.2 (by decide) rfl rfl fun h' k1 k2 kk => ?_
      have hnl := Hset.out { (atI lv (q0 % lv.length)).j with work := 0 } (.inr (.inr (.inl (by dsimp only; omega))))
      have hwx := hw
      have hvc : Rd 1 encI H3 (atI lv (q0 % lv.length)).v (atI lv (q0 % lv.length)).j.cuts ∧ ((atI lv (q0 % lv.length)).v ≠ .slice none 0 0 → blk (atI lv (q0 % lv.length)).v ≠ blk v3) := ⟨hc1, hc2⟩
      have r1x := r1
      have r1' := r1x.keep (h' := h') fun hne => kk _ (by have := r0.lt' hne; omega)
      have hj' := RdJ.of_set k1 hwx kk hvc
      have q1 := runNot hE r1' hnm hj' hnl
      have q2 := untilNot hE r1' hnm hj' hnl 50
      clear hj' hnl r1' kk k1
      (repeat' (first | ((with_reducible refine WG_dec (fun _ => ?_) (fun _ => ?_)) <;> try (exfalso; omega)) | ((with_reducible refine WG_decF (fun _ => ?_) (fun _ => ?_)) <;> try (exfalso; omega)) | ((with_reducible refine WC_dec (fun _ => ?_) (fun _ => ?_)) <;> try (exfalso; omega)) | refine WC_bool (fun _ => ?_) (fun _ => ?_) | refine WG_bool (fun _ => ?_) (fun _ => ?_) | refine WG_boolF (fun _ => ?_) (fun _ => ?_) | simp -dsimp (disch := omega) only [↓run_nil, ↓run_i, ↓run_w, ↓op_call, ↓co_seq, ↓co_ret, ↓co_reg, ↓op_mov, ↓op_pick, ↓op_bin, ↓op_ext, ↓op_lens, Res_ret, resL_nil, resL_t, resV_one, nn4_bool, WF_eq, W1_some, WX_some, WG_true, ↓ev_t, ↓ev_c, ↓ev_f, ↓upd_at, ↓get_cons, ↓frm_nil, ↓frm_cons, bin_add, bin_eql, pick_t, lens_slice, ext_tuple, nt_slice, wrap_i64, eq_self, List.map_cons, List.map_nil, true_and, List.getElem?_cons_zero, List.getElem?_cons_succ, Option.map_some, Nat.reduceEqDiff, ↓reduceIte, *]))
      try rfl
    · refine wh_rdO0 ho hw0 ⟨{ (atI lv (q0 % lv.length)).j with task := s.length }, (atI lv (q0 % lv.length)).v⟩ hi.1 hi.2 (by decide) rfl rfl fun h' k1 k2 kk => ?_
      have hnl := Hset.out { (atI lv (q0 % lv.length)).j with task := s.length } (.inl (by dsimp only; omega))
      have hwx := hw
      have hvc : Rd 1 encI H3 (atI lv (q0 % lv.length)).v (atI lv (q0 % lv.length)).j.cuts ∧ ((atI lv (q0 % lv.length)).v ≠ .slice none 0 0 → blk (atI lv (q0 % lv.length)).v ≠ blk v3) := ⟨hc1, hc2⟩
      have r1x := r1
      have r1' := r1x.keep (h' := h') fun hne => kk _ (by have := r0.lt' hne; omega)
      have hj' := RdJ.of_set k1 hwx kk hvc
      have q1 := runNot hE r1' hnm hj' hnl
      have q2 := untilNot hE r1' hnm hj' hnl 50
      clear hj' hnl r1' kk k1
      (repeat' (first | ((with_reducible refine WG_dec (fun _ => ?_) (fun _ => ?_)) <;> try (exfalso; omega)) | ((with_reducible refine WG_decF (fun _ => ?_) (fun _ => ?_)) <;> try (exfalso; omega)) | ((with_reducible refine WC_dec (fun _ => ?_) (fun _ => ?_)) <;> try (exfalso; omega)) | refine WC_bool (fun _ => ?_) (fun _ => ?_) | refine WG_bool (fun _ => ?_) (fun _ => ?_) | refine WG_boolF (fun _ => ?_) (fun _ => ?_) | simp -dsimp (disch := omega) only [↓run_nil, ↓run_i, ↓run_w, ↓op_call, ↓co_seq, ↓co_ret, ↓co_reg, ↓op_mov, ↓op_pick, ↓op_bin, ↓op_ext, ↓op_lens, Res_ret, resL_nil, resL_t, resV_one, nn4_bool, WF_eq, W1_some, WX_some, WG_true, ↓ev_t, ↓ev_c, ↓ev_f, ↓upd_at, ↓get_cons, ↓frm_nil, ↓frm_cons, bin_add, bin_eql, pick_t, lens_slice, ext_tuple, nt_slice, wrap_i64, eq_self, List.map_cons, List.map_nil, true_and, List.getElem?_cons_zero, List.getElem?_cons_succ, Option.map_some, Nat.reduceEqDiff, ↓reduceIte, *]))
      try rfl
    · refine wh_rdO ho hw0 (fo := 2) ⟨{ (atI lv (q0 % lv.length)).j with release := (atI lv (q0 % lv.length)).j.arrive - 1 }, (atI lv (q0 % lv.length)).v⟩ hi.1 hi.2 (by decide) rfl rfl fun h' k1 k2 kk => ?_
      have hnl := Hset.out { (atI lv (q0 % lv.length)).j with release := (atI lv (q0 % lv.length)).j.arrive - 1 } (.inr (.inl (by dsimp only; omega)))
      have hwx := hw
      have hvc : Rd 1 encI H3 (atI lv (q0 % lv.length)).v (atI lv (q0 % lv.length)).j.cuts ∧ ((atI lv (q0 % lv.length)).v ≠ .slice none 0 0 → blk (atI lv (q0 % lv.length)).v ≠ blk v3) := ⟨hc1, hc2⟩
      have r1x := r1
      have r1' := r1x.keep (h' := h') fun hne => kk _ (by have := r0.lt' hne; omega)
      have hj' := RdJ.of_set k1 hwx kk hvc
      have q1 := runNot hE r1' hnm hj' hnl
      have q2 := untilNot hE r1' hnm hj' hnl 50
      clear hj' hnl r1' kk k1
      (repeat' (first | ((with_reducible refine WG_dec (fun _ => ?_) (fun _ => ?_)) <;> try (exfalso; omega)) | ((with_reducible refine WG_decF (fun _ => ?_) (fun _ => ?_)) <;> try (exfalso; omega)) | ((with_reducible refine WC_dec (fun _ => ?_) (fun _ => ?_)) <;> try (exfalso; omega)) | refine WC_bool (fun _ => ?_) (fun _ => ?_) | refine WG_bool (fun _ => ?_) (fun _ => ?_) | refine WG_boolF (fun _ => ?_) (fun _ => ?_) | simp -dsimp (disch := omega) only [↓run_nil, ↓run_i, ↓run_w, ↓op_call, ↓co_seq, ↓co_ret, ↓co_reg, ↓op_mov, ↓op_pick, ↓op_bin, ↓op_ext, ↓op_lens, Res_ret, resL_nil, resL_t, resV_one, nn4_bool, WF_eq, W1_some, WX_some, WG_true, ↓ev_t, ↓ev_c, ↓ev_f, ↓upd_at, ↓get_cons, ↓frm_nil, ↓frm_cons, bin_add, bin_eql, pick_t, lens_slice, ext_tuple, nt_slice, wrap_i64, eq_self, List.map_cons, List.map_nil, true_and, List.getElem?_cons_zero, List.getElem?_cons_succ, Option.map_some, Nat.reduceEqDiff, ↓reduceIte, *]))
      try rfl
    · have px := Pre.app H3 [LObj.cells [.int .i64 ((atI s (atI lv (q0 % lv.length)).j.task).Q + 1)] false]
      have rv : Rd 1 encI (H3 ++ [LObj.cells [.int .i64 ((atI s (atI lv (q0 % lv.length)).j.task).Q + 1)] false]) (.slice (some ⟨H3.length, 0, none⟩) 1 1) [(atI s (atI lv (q0 % lv.length)).j.task).Q + 1] := Rd.lit (enc := encI) [(atI s (atI lv (q0 % lv.length)).j.task).Q + 1] (by rw [geta0]; rfl) rfl (fun _ => rfl) (by simp) (by simp) (.inl rfl)
      refine wh_rdO (ho.pre px) hw0 (fo := 4) ⟨{ (atI lv (q0 % lv.length)).j with cuts := [(atI s (atI lv (q0 % lv.length)).j.task).Q + 1] }, .slice (some ⟨H3.length, 0, none⟩) 1 1⟩ hi.1 hi.2 (by decide) rfl rfl fun h' k1 k2 kk => ?_
      have hnl := Hset.out { (atI lv (q0 % lv.length)).j with cuts := [(atI s (atI lv (q0 % lv.length)).j.task).Q + 1] } (.inr (.inr (.inr ⟨_, [], rfl, by dsimp only; omega⟩)))
      have hwx := fun p hp => (⟨(hw p hp).1.pre px, (hw p hp).2⟩ : Rd 1 encI (H3 ++ [LObj.cells [.int .i64 ((atI s (atI lv (q0 % lv.length)).j.task).Q + 1)] false]) p.v p.j.cuts ∧ (p.v ≠ .slice none 0 0 → blk p.v ≠ blk v3))
      have hvc : Rd 1 encI (H3 ++ [LObj.cells [.int .i64 ((atI s (atI lv (q0 % lv.length)).j.task).Q + 1)] false]) (.slice (some ⟨H3.length, 0, none⟩) 1 1) [(atI s (atI lv (q0 % lv.length)).j.task).Q + 1] ∧ ((Value.slice (some ⟨H3.length, 0, none⟩) 1 1) ≠ .slice none 0 0 → blk (.slice (some ⟨H3.length, 0, none⟩) 1 1) ≠ blk v3) := ⟨rv, fun _ => by have := hg.2; show H3.length ≠ blk v3; omega⟩
      have r1x := r1.pre px
      have r1' := r1x.keep (h' := h') fun hne => kk _ (by have := r0.lt' hne; omega)
      have hj' := RdJ.of_set k1 hwx kk hvc
      have q1 := runNot hE r1' hnm hj' hnl
      have q2 := untilNot hE r1' hnm hj' hnl 50
      clear hj' hnl r1' kk k1
      (repeat' (first | ((with_reducible refine WG_dec (fun _ => ?_) (fun _ => ?_)) <;> try (exfalso; omega)) | ((with_reducible refine WG_decF (fun _ => ?_) (fun _ => ?_)) <;> try (exfalso; omega)) | ((with_reducible refine WC_dec (fun _ => ?_) (fun _ => ?_)) <;> try (exfalso; omega)) | refine WC_bool (fun _ => ?_) (fun _ => ?_) | refine WG_bool (fun _ => ?_) (fun _ => ?_) | refine WG_boolF (fun _ => ?_) (fun _ => ?_) | simp -dsimp (disch := omega) only [↓run_nil, ↓run_i, ↓run_w, ↓op_call, ↓co_seq, ↓co_ret, ↓co_reg, ↓op_mov, ↓op_pick, ↓op_bin, ↓op_ext, ↓op_lens, Res_ret, resL_nil, resL_t, resV_one, nn4_bool, WF_eq, W1_some, WX_some, WG_true, ↓ev_t, ↓ev_c, ↓ev_f, ↓upd_at, ↓get_cons, ↓frm_nil, ↓frm_cons, bin_add, bin_eql, pick_t, lens_slice, ext_tuple, nt_slice, wrap_i64, eq_self, List.map_cons, List.map_nil, true_and, List.getElem?_cons_zero, List.getElem?_cons_succ, Option.map_some, Nat.reduceEqDiff, ↓reduceIte, *]))
      try rfl
end Go.L.Try
