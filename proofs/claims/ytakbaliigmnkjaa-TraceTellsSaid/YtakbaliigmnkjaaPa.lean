/- THE REFERENCES' SETS OF TASKS: what cadencyref04 tells. -/
import Derived.Test.YtakbaliigmnkjaaCode
set_option linter.unusedVariables false
set_option linter.unusedSimpArgs false
set_option maxRecDepth 4000
namespace Go.L.Try
open Go Go.L
variable {E : Env}
theorem rest04 (hE : Laid E) (h : Heap) (x n : Int) (hn : 0 < n) (hn' : n < 4611686018427387904) : callW E (.func (.func n_cadencyref04_rest) #[] #[]) [.int .i64 x, .int .i64 n] h = some (.int .i64 (x % n), h, []) := by
  have hb := tmod_bounds x n hn
  refine fn_same hE.cadencyref04_rest rfl (by simp) ?_
  simp -dsimp (disch := omega) only [↓run_nil, ↓run_i, ↓co_seq, ↓co_ret, ↓co_reg, ↓op_mov, ↓op_bin, Res_ret, resL_nil, resL_t, resV_one, nn4_int, WF_eq, W1_some, ↓ev_t, ↓ev_c, ↓upd_at, ↓get_cons, ↓frm_nil, ↓frm_cons, bin_add, wrap_i64, bin_rem, eq_self, true_and, Option.map_some, Nat.reduceEqDiff, Nat.zero_add, ↓reduceIte, reduceCtorEq, argsF, rest_eq x n hn]
theorem rest08 (hE : Laid E) (h : Heap) (x n : Int) (hn : 0 < n) (hn' : n < 4611686018427387904) : callW E (.func (.func n_cadencyref08_rest) #[] #[]) [.int .i64 x, .int .i64 n] h = some (.int .i64 (x % n), h, []) := by
  have hb := tmod_bounds x n hn
  refine fn_same hE.cadencyref08_rest rfl (by simp) ?_
  simp -dsimp (disch := omega) only [↓run_nil, ↓run_i, ↓co_seq, ↓co_ret, ↓co_reg, ↓op_mov, ↓op_bin, Res_ret, resL_nil, resL_t, resV_one, nn4_int, WF_eq, W1_some, ↓ev_t, ↓ev_c, ↓upd_at, ↓get_cons, ↓frm_nil, ↓frm_cons, bin_add, wrap_i64, bin_rem, eq_self, true_and, Option.map_some, Nat.reduceEqDiff, Nat.zero_add, ↓reduceIte, reduceCtorEq, argsF, rest_eq x n hn]
theorem in04 (hE : Laid E) (h : Heap) (n a b : Int) : callW E (.func (.func n_cadencyref04_in) #[] #[]) [.int .i64 n, .int .i64 a, .int .i64 b] h = some (.bool (decide (a ≤ n ∧ n ≤ b)), h, []) := by
  refine fn_same hE.cadencyref04_in rfl (by simp) ?_
  simp only [argsF]
  (repeat' (first | ((with_reducible refine WG_dec (fun _ => ?_) (fun _ => ?_)) <;> try (exfalso; omega)) | ((with_reducible refine WG_decF (fun _ => ?_) (fun _ => ?_)) <;> try (exfalso; omega)) | ((with_reducible refine WC_dec (fun _ => ?_) (fun _ => ?_)) <;> try (exfalso; omega)) | refine WC_bool (fun _ => ?_) (fun _ => ?_) | refine WG_bool (fun _ => ?_) (fun _ => ?_) | refine WG_boolF (fun _ => ?_) (fun _ => ?_) | simp -dsimp (disch := omega) only [↓run_nil, ↓run_i, ↓run_w, ↓co_seq, ↓co_ret, ↓co_reg, ↓op_mov, ↓op_pick, ↓op_bin, Res_ret, resL_nil, resL_t, resV_one, nn4_bool, WF_eq, W1_some, WG_true, WG_ft, ↓ev_t, ↓ev_c, ↓upd_at, ↓get_cons, ↓frm_nil, ↓frm_cons, bin_leq, bin_geq, pick_t, pick_f, eq_self, true_and, Option.map_some, Nat.reduceEqDiff, Nat.reduceAdd, Nat.zero_add, ↓reduceIte, reduceCtorEq, decide_true, decide_false, *]))
  all_goals simp [*]
def turnsP (n turn : Int) : Int := if 2 < n ∧ (turn.tdiv n) % 2 = 1 then n - 1 else 1
theorem turns04 (hE : Laid E) (h : Heap) (n x : Int) (hn : 0 < n) (hn' : n < 4611686018427387904) (hx : i64in x) : callW E (.func (.func n_cadencyref04_turns) #[] #[]) [.int .i64 n, .int .i64 x] h = some (.int .i64 (turnsP n x), h, []) := by
  refine fn_same hE.cadencyref04_turns rfl (by simp) ?_
  simp only [argsF]
  have hr := fun y => rest04 hE h y 2 (by decide) (by decide)
  have hq : i64in (x.tdiv n) := tdiv_in hn hx
  unfold i64in at hq
  unfold turnsP
  (repeat' (first | ((with_reducible refine WG_dec (fun _ => ?_) (fun _ => ?_)) <;> try (exfalso; omega)) | ((with_reducible refine WG_decF (fun _ => ?_) (fun _ => ?_)) <;> try (exfalso; omega)) | ((with_reducible refine WC_dec (fun _ => ?_) (fun _ => ?_)) <;> try (exfalso; omega)) | refine WC_bool (fun _ => ?_) (fun _ => ?_) | refine WG_bool (fun _ => ?_) (fun _ => ?_) | refine WG_boolF (fun _ => ?_) (fun _ => ?_) | simp -dsimp (disch := omega) only [↓run_nil, ↓run_i, ↓run_w, ↓op_call, ↓co_seq, ↓co_skip, ↓co_ret, ↓co_reg, ↓co_cond, ↓op_mov, ↓op_pick, ↓op_bin, Res_ret, resL_nil, resL_t, resV_one, nn4_int, WF_eq, W1_some, WX_some, WC_false, WG_true, WG_ft, ↓ev_t, ↓ev_c, ↓ev_f, ↓upd_at, ↓get_cons, ↓frm_nil, ↓frm_cons, bin_sub, bin_eql, bin_gtr, pick_t, pick_f, wrap_i64, bin_quo, eq_self, List.map_cons, List.map_nil, true_and, and_self, Option.map_some, Nat.reduceEqDiff, Nat.zero_add, ↓reduceIte, reduceCtorEq, decide_true, decide_false, *]))
  all_goals simp [*]
def tname (i : Nat) : ByteArray := ⟨#[116]⟩ ++ ⟨#[UInt8.ofNat (97 + i)]⟩
def setTask (i : Nat) (s : Spec) : Task := ⟨tname i, 1 + s.C % 4, 1 + s.C % 4 + s.D % 11 + s.T % 7, 1 + s.C % 4 + s.D % 11, s.J % (1 + s.C % 4 + s.D % 11 - (1 + s.C % 4) + 1), 1 + s.Q % (1 + s.C % 4), 0⟩
theorem set_l0 (hE : Laid E) {W : Nat → Prop} {h0 : Heap} (hW : ∀ b, h0.length ≤ b → W b) {vl : Value} {l : List Spec} (hl : Rd 5 encSp h0 vl l) {most turn : Int} (hm : 0 ≤ most) (hm2 : most ≤ 26) {Q : Ex → Fr → Heap → Prop} {fr : Fr}
    (g0 : get fr 0 = vl) (g1 : get fr 1 = .int .i64 most) (g2 : get fr 2 = .int .i64 turn) (g7 : get fr 7 = .slice none 0 0) (g8 : get fr 8 = .int .i64 0)
    (hq : ∀ fr' h' vo, Pre h0 h' → get fr' 2 = .int .i64 turn → get fr' 7 = vo → OwnT h0.length 7 encT h' vo ((l.take most.toNat).mapIdx setTask) → Q (.exit 0) fr' h') :
    WO W (iterW (code (callW E) iterW 113 c_cadencyref04_Set_l0) fr h0) Q := by
  refine WO.loop (fun n fr h' => Pre h0 h' ∧ n ≤ l.length ∧ n ≤ most ∧ get fr 0 = vl ∧ get fr 1 = .int .i64 most ∧ get fr 2 = .int .i64 turn ∧ get fr 8 = .int .i64 n ∧ OwnT h0.length 7 encT h' (get fr 7) ((l.take n).mapIdx setTask)) (fun n => l.length - n) ?_ 0 ⟨Pre.refl _, Nat.zero_le _, by omega, g0, g1, g2, g8, by rw [g7]; exact OwnT.nil⟩
  rintro n fr h' ⟨hp, hn, hn2, h1, h2, h3, h8, ho⟩
  have few := hl.few
  have hl' := hl.pre hp
  unfold c_cadencyref04_Set_l0
  generalize hvo : get fr 7 = vo at ho
  have hj := emod_in (atI l ↑n).J (1 + (atI l ↑n).C % 4 + (atI l ↑n).D % 11 - (1 + (atI l ↑n).C % 4) + 1) (by omega)
  have hk := emod_in (atI l ↑n).Q (1 + (atI l ↑n).C % 4) (by omega)
  have hs : ∀ x : UInt8, binOp .add .other (.string ⟨#[116]⟩) (.string ⟨#[x]⟩) = some (.string (⟨#[116]⟩ ++ ⟨#[x]⟩)) := fun x => bin_sadd (by simp [ByteArray.size])
  (repeat' (first | ((with_reducible refine WG_dec (fun _ => ?_) (fun _ => ?_)) <;> try (exfalso; omega)) | ((with_reducible refine WG_decF (fun _ => ?_) (fun _ => ?_)) <;> try (exfalso; omega)) | ((with_reducible refine WC_dec (fun _ => ?_) (fun _ => ?_)) <;> try (exfalso; omega)) | refine WC_bool (fun _ => ?_) (fun _ => ?_) | refine WG_bool (fun _ => ?_) (fun _ => ?_) | refine WG_boolF (fun _ => ?_) (fun _ => ?_) | simp -dsimp (disch := omega) only [↓run_nil, ↓run_i, ↓run_w, ↓op_call, ↓co_seq, ↓co_skip, ↓co_exit, ↓co_reg, ↓co_cond, ↓co_block, ↓op_mov, ↓op_pick, ↓op_bin, ↓op_cvi, ↓op_bld, ↓op_fld, ↓op_ixs, ↓op_lens, ↓op_ld, ↓op_b2s, ↓op_bsl, ↓op_app, WF_eq, W1_some, WX_some, WC_false, WG_true, WG_ft, ↓ev_t, ↓ev_c, ↓ev_f, ↓upd_at, ↓get_cons, ↓frm_nil, ↓frm_cons, bin_add, bin_sub, bin_lss, cvi_int, pick_t, pick_f, cellsV_int, cellsV_str, cellsV_agg, one_int, one_str, fillV_nil, fillV_cons, setCells_nil, setCells_cons, load_ptr, fld_ptr, geta0, newCells, bslV, wrap_i64, wrap_u8, b2s_slice, bytes_nil, bytes_cons, cellsOf_some, cellO_cells, eq_self, List.map_cons, List.map_nil, List.length_append, List.length_cons, List.length_nil, List.all_cons, List.all_nil, Bool.and_self, and_self, List.getElem?_cons_zero, List.getD_cons_zero, List.getD_cons_succ, List.set_cons_zero, List.set_cons_succ, List.drop_zero, List.take_succ_cons, List.take_zero, List.append_assoc, List.cons_append, List.nil_append, List.append_nil, Option.bind_some, Option.map_some, Nat.reduceEqDiff, Nat.reduceAdd, Nat.reduceLeDiff, Nat.reduceMul, Nat.zero_add, Nat.add_zero, ↓reduceIte, reduceCtorEq, decide_true, decide_false, List.flatten_cons, List.flatten_nil, List.replicate_succ, List.replicate_zero, Nat.le_refl, *, hl'.len, hl'.ixs, hl'.ld, hl'.ld0, rest04 hE, encSp]))
  · refine wx_app1 (sz := 7) (bytes := 64) (ho.app _) (hp.app' _) (Nat.le_refl _) (by have := hp.le; simp; omega) hW (setTask n (atI l n)) ?_ rfl (by decide) (by decide) ?_ ?_
    · simp -dsimp (disch := omega) only [geta, cellsOf_some, cellO_cells, List.length_cons, List.length_nil, List.getElem?_cons_zero, List.getElem?_cons_succ, List.drop_zero, List.take_succ_cons, List.take_zero, Nat.reduceAdd, Nat.reduceMul, Nat.zero_add, ↓reduceIte, Nat.le_refl]
      simp [setTask, encT, tname]
      rw [show (97 + (n : Int)).toNat = 97 + n by omega, UInt8.ofNat_add]; rfl
    · simp; omega
    · intro v' h'' h1 h2 h3 h4 h5
      (repeat' (first | ((with_reducible refine WG_dec (fun _ => ?_) (fun _ => ?_)) <;> try (exfalso; omega)) | ((with_reducible refine WG_decF (fun _ => ?_) (fun _ => ?_)) <;> try (exfalso; omega)) | ((with_reducible refine WC_dec (fun _ => ?_) (fun _ => ?_)) <;> try (exfalso; omega)) | refine WC_bool (fun _ => ?_) (fun _ => ?_) | refine WG_bool (fun _ => ?_) (fun _ => ?_) | refine WG_boolF (fun _ => ?_) (fun _ => ?_) | simp -dsimp (disch := omega) only [↓run_nil, ↓run_i, ↓co_reg, ↓op_mov, ↓op_bin, WF_eq, W1_some, ↓ev_t, ↓ev_c, ↓upd_at, ↓get_cons, ↓frm_nil, ↓frm_cons, bin_add, wrap_i64, eq_self, Nat.reduceEqDiff, ↓reduceIte, reduceCtorEq, *]))
      refine Next.mk (n + 1) ⟨h2, by omega, by omega, rfl, rfl, rfl, rfl, ?_⟩ (by omega)
      rw [take_snoc (by omega), List.mapIdx_append]
      simpa [get, Nat.min_eq_left hn] using h1
  · refine hq _ _ _ hp rfl rfl ?_
    have : most.toNat = n := by omega
    rw [this]; exact ho
  · refine hq _ _ _ hp rfl rfl ?_
    have : l.take most.toNat = l.take n := by rw [List.take_of_length_le (by omega), List.take_of_length_le (by omega)]
    rw [this]; exact ho
def prio (n turn : Int) (i : Nat) : Int := 1 + (i * turnsP n turn + turn % n) % n
def setPs (n turn : Int) (k : Nat) (L : List Task) : List Task := L.mapIdx fun i t => if i < k then { t with P := prio n turn i } else t
theorem setPs_zero (n turn : Int) (L : List Task) : setPs n turn 0 L = L := by unfold setPs; apply List.ext_getElem <;> simp
theorem setPs_succ (n turn : Int) (k : Nat) (L : List Task) (hk : k < L.length) : setPs n turn (k + 1) L = (setPs n turn k L).set k { atI (setPs n turn k L) (k : Int) with P := prio n turn k } := by
  have hl : k < (setPs n turn k L).length := by simp [setPs]; exact hk
  rw [atI_nat hl]
  apply List.ext_getElem
  · simp [setPs]
  · intro i h1 h2
    simp only [setPs, List.getElem_mapIdx, List.getElem_set]
    simp only [setPs, List.length_mapIdx] at h1
    by_cases e : k = i
    · subst e; simp
    · rw [if_neg e]
      by_cases hlt : i < k
      · rw [if_pos (by omega), if_pos hlt]
      · rw [if_neg (by omega), if_neg hlt]
theorem turns_in (n x : Int) (hn : 0 < n) (hn2 : n ≤ 26) : 1 ≤ turnsP n x ∧ turnsP n x ≤ 26 := by unfold turnsP; split <;> omega
theorem set_l1 (hE : Laid E) {W : Nat → Prop} {m : Nat} {h0 : Heap} (hm0 : m ≤ h0.length) (hW : ∀ b, m ≤ b → W b) {L : List Task} {vo : Value} (ho : OwnT m 7 encT h0 vo L) {turn : Int} (ht : i64in turn) (hn : 0 < L.length) (hn2 : L.length ≤ 26) {Q : Ex → Fr → Heap → Prop} {fr : Fr}
    (g2 : get fr 2 = .int .i64 turn) (g7 : get fr 7 = vo) (g14 : get fr 14 = .int .i64 L.length) (g15 : get fr 15 = .int .i64 0)
    (hq : ∀ fr' h', (∀ b, b < m → h'[b]? = h0[b]?) → h'.length = h0.length → get fr' 7 = vo → OwnT m 7 encT h' vo (setPs L.length turn L.length L) → Q (.exit 2) fr' h') :
    WO W (iterW (code (callW E) iterW 113 c_cadencyref04_Set_l1) fr h0) Q := by
  have few := ho.rd.few
  refine WO.loop (fun n fr h' => (∀ b, b < m → h'[b]? = h0[b]?) ∧ h'.length = h0.length ∧ n ≤ L.length ∧ get fr 2 = .int .i64 turn ∧ get fr 7 = vo ∧ get fr 14 = .int .i64 L.length ∧ get fr 15 = .int .i64 n ∧ OwnT m 7 encT h' vo (setPs L.length turn n L)) (fun n => L.length - n) ?_ 0 ⟨fun _ _ => rfl, rfl, Nat.zero_le _, g2, g7, g14, g15, by rw [setPs_zero]; exact ho⟩
  rintro n fr h' ⟨hk, hlen, hn3, h2, h7, h14, h15, ho⟩
  have ln : (setPs L.length turn n L).length = L.length := by simp [setPs]
  have hr := ho.rd
  unfold c_cadencyref04_Set_l1
  have ht' := turns_in L.length turn (by omega) (by omega)
  have hm := emod_in turn L.length (by omega)
  have hmul : 0 ≤ (n : Int) * turnsP L.length turn ∧ (n : Int) * turnsP L.length turn ≤ 26 * 26 := by
    constructor
    · exact Int.mul_nonneg (by omega) (by omega)
    · exact Int.mul_le_mul (by omega) (by omega) (by omega) (by omega)
  have hmod := emod_in (n * turnsP L.length turn + turn % L.length) L.length (by omega)
  have e1 : ((n : Int) * turnsP L.length turn + turn % L.length).tmod L.length = ((n : Int) * turnsP L.length turn + turn % L.length) % L.length := Int.tmod_eq_emod_of_nonneg (by omega)
  have hturns := fun h => turns04 hE h L.length turn (by omega) (by omega) ht
  (repeat' (first | ((with_reducible refine WG_dec (fun _ => ?_) (fun _ => ?_)) <;> try (exfalso; omega)) | ((with_reducible refine WG_decF (fun _ => ?_) (fun _ => ?_)) <;> try (exfalso; omega)) | ((with_reducible refine WC_dec (fun _ => ?_) (fun _ => ?_)) <;> try (exfalso; omega)) | refine WC_bool (fun _ => ?_) (fun _ => ?_) | refine WG_bool (fun _ => ?_) (fun _ => ?_) | refine WG_boolF (fun _ => ?_) (fun _ => ?_) | simp -dsimp (disch := omega) only [↓run_nil, ↓run_i, ↓run_k, ↓op_st, ↓op_call, ↓co_seq, ↓co_skip, ↓co_exit, ↓co_reg, ↓co_cond, ↓co_block, ↓op_mov, ↓op_bin, ↓op_fld, ↓op_ixs, WF_eq, W1_some, WX_some, ↓ev_t, ↓ev_c, ↓ev_f, ↓upd_at, ↓get_cons, ↓frm_nil, ↓frm_cons, bin_add, bin_mul, bin_lss, cellsV_int, store_ptr, fld_ptr, wrap_i64, bin_rem, eq_self, List.map_cons, List.map_nil, Nat.reduceEqDiff, ↓reduceIte, decide_true, decide_false, *, hr.ixs, rest04 hE]))
  · refine wh_ownT ho hW { atI (setPs L.length turn n L) (n : Int) with P := prio L.length turn n } (by omega) (by omega) (by decide) rfl rfl fun h'' h1 h2 h3 => ?_
    (repeat' (first | ((with_reducible refine WG_dec (fun _ => ?_) (fun _ => ?_)) <;> try (exfalso; omega)) | ((with_reducible refine WG_decF (fun _ => ?_) (fun _ => ?_)) <;> try (exfalso; omega)) | ((with_reducible refine WC_dec (fun _ => ?_) (fun _ => ?_)) <;> try (exfalso; omega)) | refine WC_bool (fun _ => ?_) (fun _ => ?_) | refine WG_bool (fun _ => ?_) (fun _ => ?_) | refine WG_boolF (fun _ => ?_) (fun _ => ?_) | simp -dsimp (disch := omega) only [↓run_nil, ↓run_i, ↓co_reg, ↓op_mov, ↓op_bin, WF_eq, W1_some, ↓ev_t, ↓ev_c, ↓upd_at, ↓get_cons, ↓frm_nil, ↓frm_cons, bin_add, wrap_i64, eq_self, Nat.reduceEqDiff, ↓reduceIte, *]))
    have hne : setPs L.length turn n L ≠ [] := by intro e; rw [e] at ln; simp at ln; omega
    refine Next.mk (n + 1) ⟨fun b hb => by rw [h3 b (by have := ho.ge hne; omega), hk b hb], by omega, by omega, rfl, rfl, rfl, rfl, ?_⟩ (by omega)
    rw [setPs_succ _ _ _ _ (by omega)]; simpa using h1
  · have : n = L.length := by omega
    subst this
    exact hq _ _ hk hlen rfl ho
/-- The set of a row of specs. -/
def setP (l : List Spec) (most turn : Int) : List Task :=
  let L := ((if l = [] then [⟨turn, 0, 0, 0, 0⟩] else l).take most.toNat).mapIdx setTask
  setPs L.length turn L.length L
theorem set04 (hE : Laid E) {h : Heap} {vl : Value} {l : List Spec} (hl : Rd 5 encSp h vl l) {most turn : Int} (hm : 1 ≤ most) (hm2 : most ≤ 26) (ht : i64in turn) :
    ∃ v ys, callW E (.func (.func n_cadencyref04_Set) #[] #[]) [vl, .int .i64 most, .int .i64 turn] h = some (v, h ++ ys, []) ∧ Rd 7 encT (h ++ ys) v (setP l most turn) := by
  have few := hl.few
  refine fn_new hE.cadencyref04_Set rfl (Rd.movable flatT _) (by simp) ?_
  simp only [argsF]
  (repeat' (first | ((with_reducible refine WG_dec (fun _ => ?_) (fun _ => ?_)) <;> try (exfalso; omega)) | ((with_reducible refine WG_decF (fun _ => ?_) (fun _ => ?_)) <;> try (exfalso; omega)) | ((with_reducible refine WC_dec (fun _ => ?_) (fun _ => ?_)) <;> try (exfalso; omega)) | refine WC_bool (fun _ => ?_) (fun _ => ?_) | refine WG_bool (fun _ => ?_) (fun _ => ?_) | refine WG_boolF (fun _ => ?_) (fun _ => ?_) | simp -dsimp (disch := omega) only [↓run_nil, ↓run_i, ↓co_seq, ↓co_skip, ↓co_reg, ↓co_cond, ↓co_block, ↓co_loop, ↓op_mov, ↓op_bin, ↓op_bld, ↓op_lens, ↓op_bsl, WF_eq, W1_some, ↓ev_t, ↓ev_c, ↓upd_at, ↓get_cons, ↓frm_nil, ↓frm_cons, bin_eql, cellsV_int, cellsV_agg, one_int, fillV_nil, fillV_cons, setCells_nil, setCells_cons, newCells, bslV, eq_self, List.map_cons, List.map_nil, List.length_cons, List.length_nil, List.all_cons, List.all_nil, Bool.and_self, and_self, List.set_cons_zero, List.set_cons_succ, List.append_nil, Option.bind_some, Option.map_some, Nat.reduceEqDiff, Nat.reduceAdd, Nat.reduceLeDiff, Nat.reduceMul, Nat.zero_add, ↓reduceIte, reduceCtorEq, decide_true, List.flatten_cons, List.flatten_nil, List.replicate_succ, List.replicate_zero, Nat.le_refl, *, hl.len]))
  case' refine_1 =>
    refine set_l0 hE (fun b hb => by simp at hb; omega) (l := [⟨turn, 0, 0, 0, 0⟩]) (Rd.lit _ (by rw [geta0]; rfl) rfl (fun _ => rfl) (by simp) (by simp) (.inl rfl)) (by omega) hm2 rfl rfl rfl rfl rfl fun fr' h' vo hp g2 g7 ho => ?_
    have hp := (Pre.app h _).trans hp
    have e : l = [] := List.length_eq_zero_iff.1 (by omega)
    have hL : setP l most turn = setPs (List.mapIdx setTask (List.take most.toNat [⟨turn, 0, 0, 0, 0⟩])).length turn (List.mapIdx setTask (List.take most.toNat [⟨turn, 0, 0, 0, 0⟩])).length (List.mapIdx setTask (List.take most.toNat [⟨turn, 0, 0, 0, 0⟩])) := by simp [setP, e]
    have hn : 0 < (List.mapIdx setTask (List.take most.toNat [⟨turn, 0, 0, 0, 0⟩])).length := by simp; omega
    have hn2 : (List.mapIdx setTask (List.take most.toNat [⟨turn, 0, 0, 0, 0⟩])).length ≤ 26 := by simp; omega
    replace ho := ho.less (m' := h.length) (by simp)
  case' refine_2 =>
    refine set_l0 hE (fun b hb => hb) hl (by omega) hm2 rfl rfl rfl rfl rfl fun fr' h' vo hp g2 g7 ho => ?_
    have e : l ≠ [] := fun e => by simp_all
    have hL : setP l most turn = setPs (List.mapIdx setTask (List.take most.toNat l)).length turn (List.mapIdx setTask (List.take most.toNat l)).length (List.mapIdx setTask (List.take most.toNat l)) := by simp [setP, e]
    have hn : 0 < (List.mapIdx setTask (List.take most.toNat l)).length := by have := List.length_pos_iff.2 e; simp; omega
    have hn2 : (List.mapIdx setTask (List.take most.toNat l)).length ≤ 26 := by simp; omega
    replace ho := ho.less (Nat.le_refl _)
  all_goals
    rw [hL]
    revert ho hn hn2
    generalize List.mapIdx setTask _ = L
    intro hn hn2 ho
    clear hL
    (repeat' (first | ((with_reducible refine WG_dec (fun _ => ?_) (fun _ => ?_)) <;> try (exfalso; omega)) | ((with_reducible refine WG_decF (fun _ => ?_) (fun _ => ?_)) <;> try (exfalso; omega)) | ((with_reducible refine WC_dec (fun _ => ?_) (fun _ => ?_)) <;> try (exfalso; omega)) | refine WC_bool (fun _ => ?_) (fun _ => ?_) | refine WG_bool (fun _ => ?_) (fun _ => ?_) | refine WG_boolF (fun _ => ?_) (fun _ => ?_) | simp -dsimp (disch := omega) only [↓run_nil, ↓run_i, ↓co_seq, ↓co_reg, ↓co_block, ↓co_loop, ↓op_mov, ↓op_lens, WF_eq, W1_some, ↓ev_t, ↓ev_c, ↓upd_at, ↓get_cons, ↓frm_nil, ↓frm_cons, eq_self, Nat.reduceEqDiff, ↓reduceIte, *, ho.rd.len]))
    refine set_l1 hE hp.le (fun b hb => hb) ho ht hn hn2 rfl rfl rfl rfl fun fr'' h'' h1 h3 h4 h5 => ?_
    (repeat' (first | ((with_reducible refine WG_dec (fun _ => ?_) (fun _ => ?_)) <;> try (exfalso; omega)) | ((with_reducible refine WG_decF (fun _ => ?_) (fun _ => ?_)) <;> try (exfalso; omega)) | ((with_reducible refine WC_dec (fun _ => ?_) (fun _ => ?_)) <;> try (exfalso; omega)) | refine WC_bool (fun _ => ?_) (fun _ => ?_) | refine WG_bool (fun _ => ?_) (fun _ => ?_) | refine WG_boolF (fun _ => ?_) (fun _ => ?_) | simp -dsimp (disch := omega) only [↓run_nil, ↓run_i, ↓co_seq, ↓co_ret, ↓co_reg, ↓op_mov, Res_ret, resL_nil, resL_t, resV_one, WF_eq, W1_some, ↓ev_t, ↓upd_at, ↓get_cons, ↓frm_nil, ↓frm_cons, eq_self, Option.map_some, ↓reduceIte, *]))
    exact ⟨Pre.ex fun b o hb => by rw [h1 b (List.getElem?_eq_some_iff.1 hb).1]; exact hp b o hb, h5.rd⟩
end Go.L.Try

/- TOKENS, AND WORDS: what cadencyref03 tells. -/
set_option linter.unusedVariables false
set_option linter.unusedSimpArgs false
set_option maxRecDepth 4000
set_option maxHeartbeats 1000000
namespace Go.L.Try
open Go Go.L
variable {E : Env}
def letterB (c : UInt8) : Bool := decide ((97 ≤ c.toNat ∧ c.toNat ≤ 122) ∨ (65 ≤ c.toNat ∧ c.toNat ≤ 90) ∨ c.toNat = 95)
def digitB (c : UInt8) : Bool := decide (48 ≤ c.toNat ∧ c.toNat ≤ 57)
def goesB (c : UInt8) : Bool := letterB c || digitB c || decide (c.toNat = 46) || decide (c.toNat = 45)
theorem letter03 (hE : Laid E) (h : Heap) (c : UInt8) : callW E (.func (.func n_cadencyref03_letter) #[] #[]) [.int .u8 c.toNat] h = some (.bool (letterB c), h, []) := by
  refine fn_same hE.cadencyref03_letter rfl (by simp) ?_
  simp only [argsF]
  (repeat' (first | ((with_reducible refine WG_dec (fun _ => ?_) (fun _ => ?_)) <;> try (exfalso; omega)) | ((with_reducible refine WG_decF (fun _ => ?_) (fun _ => ?_)) <;> try (exfalso; omega)) | ((with_reducible refine WC_dec (fun _ => ?_) (fun _ => ?_)) <;> try (exfalso; omega)) | refine WC_bool (fun _ => ?_) (fun _ => ?_) | refine WG_bool (fun _ => ?_) (fun _ => ?_) | refine WG_boolF (fun _ => ?_) (fun _ => ?_) | simp -dsimp (disch := omega) only [↓run_nil, ↓run_i, ↓run_w, ↓co_seq, ↓co_ret, ↓co_reg, ↓op_mov, ↓op_pick, ↓op_bin, Res_ret, resL_nil, resL_t, resV_one, nn4_bool, WF_eq, W1_some, WG_true, WG_false, WG_tf, WG_ft, WG_undef, ↓ev_t, ↓ev_c, ↓upd_at, ↓get_cons, ↓frm_nil, ↓frm_cons, bin_eql, bin_leq, bin_geq, pick_t, pick_f, eq_self, true_and, Option.map_some, Nat.reduceEqDiff, ↓reduceIte, reduceCtorEq, decide_true, decide_false, *]))
  all_goals (unfold letterB; congr 1; first | (rw [decide_eq_decide]; omega) | (symm; rw [decide_eq_true_eq]; omega) | (symm; rw [decide_eq_false_iff_not]; omega))
theorem digit03 (hE : Laid E) (h : Heap) (c : UInt8) : callW E (.func (.func n_cadencyref03_digit) #[] #[]) [.int .u8 c.toNat] h = some (.bool (digitB c), h, []) := by
  refine fn_same hE.cadencyref03_digit rfl (by simp) ?_
  simp only [argsF]
  (repeat' (first | ((with_reducible refine WG_dec (fun _ => ?_) (fun _ => ?_)) <;> try (exfalso; omega)) | ((with_reducible refine WG_decF (fun _ => ?_) (fun _ => ?_)) <;> try (exfalso; omega)) | ((with_reducible refine WC_dec (fun _ => ?_) (fun _ => ?_)) <;> try (exfalso; omega)) | refine WC_bool (fun _ => ?_) (fun _ => ?_) | refine WG_bool (fun _ => ?_) (fun _ => ?_) | refine WG_boolF (fun _ => ?_) (fun _ => ?_) | simp -dsimp (disch := omega) only [↓run_nil, ↓run_i, ↓run_w, ↓co_seq, ↓co_ret, ↓co_reg, ↓op_mov, ↓op_pick, ↓op_bin, Res_ret, resL_nil, resL_t, resV_one, nn4_bool, WF_eq, W1_some, WG_true, WG_ft, ↓ev_t, ↓ev_c, ↓upd_at, ↓get_cons, ↓frm_nil, ↓frm_cons, bin_leq, bin_geq, pick_t, pick_f, eq_self, true_and, Option.map_some, Nat.reduceEqDiff, ↓reduceIte, reduceCtorEq, decide_true, decide_false, *]))
  all_goals (unfold digitB; congr 1; first | (rw [decide_eq_decide]; omega) | (symm; rw [decide_eq_true_eq]; omega) | (symm; rw [decide_eq_false_iff_not]; omega))
/-- The first place from 'e' on that does not go on. -/
def runEnd (p : UInt8 → Bool) (s : ByteArray) (e : Nat) : Nat := e + (((bs s).drop e).takeWhile p).length
theorem runEnd_step {p : UInt8 → Bool} {s : ByteArray} {e : Nat} (h : e < s.size) (hp : p (byteAt s e) = true) : runEnd p s e = runEnd p s (e + 1) := by
  unfold runEnd
  have hl : e < (bs s).length := by rw [bs_len]; exact h
  have hb : byteAt s e = (bs s)[e] := by unfold byteAt; rw [List.getD_eq_getElem?_getD, show ((e : Int)).toNat = e by omega, List.getElem?_eq_getElem hl]; rfl
  rw [List.drop_eq_getElem_cons hl, List.takeWhile_cons, ← hb, hp]
  simp only [if_true, List.length_cons]; omega
theorem runEnd_stop {p : UInt8 → Bool} {s : ByteArray} {e : Nat} (h : e < s.size) (hp : p (byteAt s e) = false) : runEnd p s e = e := by
  unfold runEnd
  have hl : e < (bs s).length := by rw [bs_len]; exact h
  have hb : byteAt s e = (bs s)[e] := by unfold byteAt; rw [List.getD_eq_getElem?_getD, show ((e : Int)).toNat = e by omega, List.getElem?_eq_getElem hl]; rfl
  rw [List.drop_eq_getElem_cons hl, List.takeWhile_cons, ← hb, hp]
  simp
theorem runEnd_end {p : UInt8 → Bool} {s : ByteArray} {e : Nat} (h : s.size ≤ e) : runEnd p s e = e := by
  unfold runEnd
  rw [List.drop_of_length_le (by rw [bs_len]; exact h)]; simp
theorem runEnd_le {p : UInt8 → Bool} {s : ByteArray} {e : Nat} (h : e ≤ s.size) : e ≤ runEnd p s e ∧ runEnd p s e ≤ s.size := by
  unfold runEnd
  have h1 : (((bs s).drop e).takeWhile p).length ≤ ((bs s).drop e).length := (List.takeWhile_sublist p).length_le
  rw [List.length_drop, bs_len] at h1
  omega
theorem one_l0 (hE : Laid E) {W : Nat → Prop} {h0 : Heap} {s : ByteArray} (hs : s.size < 1152921504606846976) {e0 : Nat} (he0 : e0 ≤ s.size) {v1 v4 v5 : Value} {Q : Ex → Fr → Heap → Prop} {fr : Fr}
    (g0 : get fr 0 = .string s) (g1 : get fr 1 = v1) (g4 : get fr 4 = v4) (g5 : get fr 5 = v5) (g6 : get fr 6 = .int .i64 e0)
    (hq : ∀ fr', get fr' 0 = .string s → get fr' 1 = v1 → get fr' 4 = v4 → get fr' 5 = v5 → get fr' 6 = .int .i64 (runEnd goesB s e0) → Q (.exit 0) fr' h0) :
    WO W (iterW (code (callW E) iterW 98 c_cadencyref03_one_l0) fr h0) Q := by
  refine WO.loop (fun e fr h' => h' = h0 ∧ e ≤ s.size ∧ get fr 0 = .string s ∧ get fr 1 = v1 ∧ get fr 4 = v4 ∧ get fr 5 = v5 ∧ get fr 6 = .int .i64 e ∧ runEnd goesB s e0 = runEnd goesB s e) (fun e => s.size - e) ?_ e0 ⟨rfl, he0, g0, g1, g4, g5, g6, rfl⟩
  rintro e fr h' ⟨rfl, he, g0, g1, g4, g5, g6, hr⟩
  unfold c_cadencyref03_one_l0
  by_cases hlt : e < s.size
  · have hix : ∀ k : IntKind, ixtV (.string s) (.int k e) = some (.int .u8 ((byteAt s e).toNat : Int)) := fun k => ixt_at (by omega) (by omega)
    by_cases hg : goesB (byteAt s e) = true
    · have : runEnd goesB s e0 = runEnd goesB s (e + 1) := hr.trans (runEnd_step hlt hg)
      clear hr hq
      simp only [goesB, Bool.or_eq_true, decide_eq_true_eq] at hg
      (repeat' (first | ((with_reducible refine WG_dec (fun _ => ?_) (fun _ => ?_)) <;> try (exfalso; omega)) | ((with_reducible refine WG_decF (fun _ => ?_) (fun _ => ?_)) <;> try (exfalso; omega)) | ((with_reducible refine WC_dec (fun _ => ?_) (fun _ => ?_)) <;> try (exfalso; omega)) | refine WC_bool (fun _ => ?_) (fun _ => ?_) | refine WG_bool (fun _ => ?_) (fun _ => ?_) | refine WG_boolF (fun _ => ?_) (fun _ => ?_) | simp -dsimp (disch := omega) only [↓run_nil, ↓run_i, ↓run_w, ↓op_call, ↓co_seq, ↓co_skip, ↓co_exit, ↓co_reg, ↓co_cond, ↓co_block, ↓op_mov, ↓op_pick, ↓op_bin, ↓op_ixt, ↓op_lens, WF_eq, W1_some, WX_some, WC_true, WG_true, WG_false, WG_tf, ↓ev_t, ↓ev_c, ↓ev_f, ↓upd_at, ↓get_cons, ↓frm_nil, ↓frm_cons, bin_add, bin_eql, bin_lss, pick_t, pick_f, lens_str, wrap_i64, eq_self, List.map_cons, List.map_nil, Nat.reduceEqDiff, ↓reduceIte, reduceCtorEq, decide_true, decide_false, *, letter03 hE, digit03 hE]))
      all_goals first
        | exact Next.mk (e + 1) ⟨rfl, by omega, rfl, rfl, rfl, rfl, rfl, this⟩ (by omega)
        | (exfalso; simp_all; done)
        | (exfalso; simp_all; omega)
    · have hst := runEnd_stop (p := goesB) hlt (by simpa using hg)
      rw [hst] at hr
      rw [hr] at hq
      clear hr hst
      simp only [goesB, Bool.or_eq_true, decide_eq_true_eq] at hg
      (repeat' (first | ((with_reducible refine WG_dec (fun _ => ?_) (fun _ => ?_)) <;> try (exfalso; omega)) | ((with_reducible refine WG_decF (fun _ => ?_) (fun _ => ?_)) <;> try (exfalso; omega)) | ((with_reducible refine WC_dec (fun _ => ?_) (fun _ => ?_)) <;> try (exfalso; omega)) | refine WC_bool (fun _ => ?_) (fun _ => ?_) | refine WG_bool (fun _ => ?_) (fun _ => ?_) | refine WG_boolF (fun _ => ?_) (fun _ => ?_) | simp -dsimp (disch := omega) only [↓run_nil, ↓run_i, ↓run_w, ↓op_call, ↓co_seq, ↓co_skip, ↓co_exit, ↓co_reg, ↓co_cond, ↓co_block, ↓op_mov, ↓op_pick, ↓op_bin, ↓op_ixt, ↓op_lens, WF_eq, W1_some, WX_some, WC_true, WG_true, WG_false, WG_tf, ↓ev_t, ↓ev_c, ↓ev_f, ↓upd_at, ↓get_cons, ↓frm_nil, ↓frm_cons, bin_add, bin_eql, bin_lss, pick_t, pick_f, lens_str, wrap_i64, eq_self, List.map_cons, List.map_nil, Nat.reduceEqDiff, ↓reduceIte, reduceCtorEq, decide_true, decide_false, *, letter03 hE, digit03 hE]))
      all_goals first
        | exact hq _ rfl rfl rfl rfl rfl
        | (exfalso; simp_all; done)
        | (exfalso; simp_all; omega)
  · rw [runEnd_end (p := goesB) (e := e) (by omega)] at hr
    rw [hr] at hq
    (repeat' (first | ((with_reducible refine WG_dec (fun _ => ?_) (fun _ => ?_)) <;> try (exfalso; omega)) | ((with_reducible refine WG_decF (fun _ => ?_) (fun _ => ?_)) <;> try (exfalso; omega)) | ((with_reducible refine WC_dec (fun _ => ?_) (fun _ => ?_)) <;> try (exfalso; omega)) | refine WC_bool (fun _ => ?_) (fun _ => ?_) | refine WG_bool (fun _ => ?_) (fun _ => ?_) | refine WG_boolF (fun _ => ?_) (fun _ => ?_) | simp -dsimp (disch := omega) only [↓run_nil, ↓run_i, ↓run_w, ↓co_seq, ↓co_exit, ↓co_reg, ↓co_cond, ↓op_mov, ↓op_pick, ↓op_bin, ↓op_lens, WF_eq, W1_some, WC_false, WG_ft, WG_undef, ↓ev_t, ↓ev_c, ↓upd_at, ↓get_cons, ↓frm_nil, ↓frm_cons, bin_lss, pick_f, lens_str, eq_self, Nat.reduceEqDiff, ↓reduceIte, reduceCtorEq, decide_false, *]))
    exact hq _ rfl rfl rfl rfl rfl
theorem one_l1 (hE : Laid E) {W : Nat → Prop} {h0 : Heap} {s : ByteArray} (hs : s.size < 1152921504606846976) {e0 : Nat} (he0 : e0 ≤ s.size) {v1 v4 v5 : Value} {Q : Ex → Fr → Heap → Prop} {fr : Fr}
    (g0 : get fr 0 = .string s) (g1 : get fr 1 = v1) (g4 : get fr 4 = v4) (g5 : get fr 5 = v5) (g6 : get fr 6 = .int .i64 e0)
    (hq : ∀ fr', get fr' 0 = .string s → get fr' 1 = v1 → get fr' 4 = v4 → get fr' 5 = v5 → get fr' 6 = .int .i64 (runEnd digitB s e0) → Q (.exit 2) fr' h0) :
    WO W (iterW (code (callW E) iterW 98 c_cadencyref03_one_l1) fr h0) Q := by
  refine WO.loop (fun e fr h' => h' = h0 ∧ e ≤ s.size ∧ get fr 0 = .string s ∧ get fr 1 = v1 ∧ get fr 4 = v4 ∧ get fr 5 = v5 ∧ get fr 6 = .int .i64 e ∧ runEnd digitB s e0 = runEnd digitB s e) (fun e => s.size - e) ?_ e0 ⟨rfl, he0, g0, g1, g4, g5, g6, rfl⟩
  rintro e fr h' ⟨rfl, he, g0, g1, g4, g5, g6, hr⟩
  unfold c_cadencyref03_one_l1
  by_cases hlt : e < s.size
  · have hix : ∀ k : IntKind, ixtV (.string s) (.int k e) = some (.int .u8 ((byteAt s e).toNat : Int)) := fun k => ixt_at (by omega) (by omega)
    by_cases hg : digitB (byteAt s e) = true
    · have : runEnd digitB s e0 = runEnd digitB s (e + 1) := hr.trans (runEnd_step hlt hg)
      clear hr hq
      (repeat' (first | ((with_reducible refine WG_dec (fun _ => ?_) (fun _ => ?_)) <;> try (exfalso; omega)) | ((with_reducible refine WG_decF (fun _ => ?_) (fun _ => ?_)) <;> try (exfalso; omega)) | ((with_reducible refine WC_dec (fun _ => ?_) (fun _ => ?_)) <;> try (exfalso; omega)) | refine WC_bool (fun _ => ?_) (fun _ => ?_) | refine WG_bool (fun _ => ?_) (fun _ => ?_) | refine WG_boolF (fun _ => ?_) (fun _ => ?_) | simp -dsimp (disch := omega) only [↓run_nil, ↓run_i, ↓run_w, ↓op_call, ↓co_seq, ↓co_skip, ↓co_reg, ↓co_cond, ↓co_block, ↓op_mov, ↓op_pick, ↓op_bin, ↓op_ixt, ↓op_lens, WF_eq, W1_some, WX_some, WC_true, WG_true, ↓ev_t, ↓ev_c, ↓ev_f, ↓upd_at, ↓get_cons, ↓frm_nil, ↓frm_cons, bin_add, bin_lss, pick_t, lens_str, wrap_i64, eq_self, List.map_cons, List.map_nil, Nat.reduceEqDiff, ↓reduceIte, reduceCtorEq, decide_true, *, digit03 hE]))
      all_goals exact Next.mk (e + 1) ⟨rfl, by omega, rfl, rfl, rfl, rfl, rfl, this⟩ (by omega)
    · have hst := runEnd_stop (p := digitB) hlt (by simpa using hg)
      rw [hst] at hr
      rw [hr] at hq
      clear hr hst
      have hg' : digitB (byteAt s e) = false := by simpa using hg
      clear hg
      (repeat' (first | ((with_reducible refine WG_dec (fun _ => ?_) (fun _ => ?_)) <;> try (exfalso; omega)) | ((with_reducible refine WG_decF (fun _ => ?_) (fun _ => ?_)) <;> try (exfalso; omega)) | ((with_reducible refine WC_dec (fun _ => ?_) (fun _ => ?_)) <;> try (exfalso; omega)) | refine WC_bool (fun _ => ?_) (fun _ => ?_) | refine WG_bool (fun _ => ?_) (fun _ => ?_) | refine WG_boolF (fun _ => ?_) (fun _ => ?_) | simp -dsimp (disch := omega) only [↓run_nil, ↓run_i, ↓run_w, ↓op_call, ↓co_seq, ↓co_exit, ↓co_reg, ↓co_cond, ↓op_mov, ↓op_pick, ↓op_bin, ↓op_ixt, ↓op_lens, WF_eq, W1_some, WX_some, WC_false, WG_true, ↓ev_t, ↓ev_c, ↓ev_f, ↓upd_at, ↓get_cons, ↓frm_nil, ↓frm_cons, bin_lss, pick_t, lens_str, eq_self, List.map_cons, List.map_nil, Nat.reduceEqDiff, ↓reduceIte, reduceCtorEq, decide_true, *, digit03 hE]))
      all_goals exact hq _ rfl rfl rfl rfl rfl
  · rw [runEnd_end (p := digitB) (e := e) (by omega)] at hr
    rw [hr] at hq
    (repeat' (first | ((with_reducible refine WG_dec (fun _ => ?_) (fun _ => ?_)) <;> try (exfalso; omega)) | ((with_reducible refine WG_decF (fun _ => ?_) (fun _ => ?_)) <;> try (exfalso; omega)) | ((with_reducible refine WC_dec (fun _ => ?_) (fun _ => ?_)) <;> try (exfalso; omega)) | refine WC_bool (fun _ => ?_) (fun _ => ?_) | refine WG_bool (fun _ => ?_) (fun _ => ?_) | refine WG_boolF (fun _ => ?_) (fun _ => ?_) | simp -dsimp (disch := omega) only [↓run_nil, ↓run_i, ↓run_w, ↓co_seq, ↓co_exit, ↓co_reg, ↓co_cond, ↓op_mov, ↓op_pick, ↓op_bin, ↓op_lens, WF_eq, W1_some, WC_false, WG_ft, ↓ev_t, ↓ev_c, ↓upd_at, ↓get_cons, ↓frm_nil, ↓frm_cons, bin_lss, pick_f, lens_str, eq_self, Nat.reduceEqDiff, ↓reduceIte, reduceCtorEq, decide_false, *]))
    exact hq _ rfl rfl rfl rfl rfl
theorem runEnd_all {p : UInt8 → Bool} {s : ByteArray} {e j : Nat} (h1 : e ≤ j) (h2 : j < runEnd p s e) : p (byteAt s j) = true := by
  unfold runEnd at h2
  have hl : (((bs s).drop e).takeWhile p).length ≤ ((bs s).drop e).length := (List.takeWhile_sublist p).length_le
  rw [List.length_drop] at hl
  have hlt : j - e < (((bs s).drop e).takeWhile p).length := by omega
  have hm : (((bs s).drop e).takeWhile p)[j - e] ∈ ((bs s).drop e).takeWhile p := List.getElem_mem hlt
  have hp := List.all_eq_true.1 (List.all_takeWhile (p := p) (l := (bs s).drop e)) _ hm
  have e2 : (((bs s).drop e).takeWhile p)[j - e] = byteAt s j := by
    have hpre := List.takeWhile_prefix p (l := (bs s).drop e)
    rw [hpre.getElem hlt, List.getElem_drop]
    unfold byteAt
    rw [List.getD_eq_getElem?_getD, show ((j : Int)).toNat = j by omega, List.getElem?_eq_getElem (by omega)]
    simp only [show e + (j - e) = j by omega]; rfl
  rw [e2] at hp; exact hp
/-- The number that digits tell, or the greatest. -/
def numF (s : ByteArray) (a : Nat) : Nat → Int
  | 0 => 0
  | k + 1 => min (numF s a k * 10 + ((byteAt s ((a + k : Nat) : Int)).toNat - 48)) 1099511627776
theorem numF_in {s : ByteArray} {a : Nat} : ∀ {k : Nat}, (∀ j, a ≤ j → j < a + k → digitB (byteAt s j) = true) → 0 ≤ numF s a k ∧ numF s a k ≤ 1099511627776
  | 0, _ => by simp [numF]
  | k + 1, h => by
    have ih := numF_in (k := k) fun j h1 h2 => h j h1 (by omega)
    have hd := h (a + k) (by omega) (by omega)
    simp only [digitB, decide_eq_true_eq] at hd
    simp only [numF]; omega
theorem one_l2 (hE : Laid E) {W : Nat → Prop} {h0 : Heap} {s : ByteArray} (hs : s.size < 1152921504606846976) {a e : Nat} (hae : a ≤ e) (hes : e ≤ s.size) (hd : ∀ j, a ≤ j → j < e → digitB (byteAt s j) = true) {b : Nat} (hW : W b) {x y z v4 : Value} (hb : h0[b]? = some (.cells [x, y, z, .int .i64 0] false)) {Q : Ex → Fr → Heap → Prop} {fr : Fr}
    (g0 : get fr 0 = .string s) (g1 : get fr 1 = .int .i64 a) (g4 : get fr 4 = v4) (g5 : get fr 5 = .pointer (some ⟨b, 0, none⟩)) (g6 : get fr 6 = .int .i64 e) (g10 : get fr 10 = .int .i64 a)
    (hq : ∀ fr', get fr' 0 = .string s → get fr' 1 = .int .i64 a → get fr' 4 = v4 → get fr' 5 = .pointer (some ⟨b, 0, none⟩) → get fr' 6 = .int .i64 e → Q (.exit 4) fr' (h0.set b (.cells [x, y, z, .int .i64 (numF s a (e - a))] false))) :
    WO W (iterW (code (callW E) iterW 98 c_cadencyref03_one_l2) fr h0) Q := by
  have hlt := (List.getElem?_eq_some_iff.1 hb).1
  have hsame : h0 = h0.set b (.cells [x, y, z, .int .i64 0] false) := by
    apply List.ext_getElem?
    intro j
    by_cases e : b = j
    · subst e; rw [List.getElem?_set_self hlt]; exact hb
    · rw [gets e]
  refine WO.loop (fun k fr h' => h' = h0.set b (.cells [x, y, z, .int .i64 (numF s a k)] false) ∧ a + k ≤ e ∧ get fr 0 = .string s ∧ get fr 1 = .int .i64 a ∧ get fr 4 = v4 ∧ get fr 5 = .pointer (some ⟨b, 0, none⟩) ∧ get fr 6 = .int .i64 e ∧ get fr 10 = .int .i64 (a + k : Nat)) (fun k => e - a - k) ?_ 0 ⟨hsame, hae, g0, g1, g4, g5, g6, g10⟩
  rintro k fr h' ⟨rfl, hk, g0, g1, g4, g5, g6, g10⟩
  clear hsame
  unfold c_cadencyref03_one_l2
  have hn := numF_in (s := s) (a := a) (k := k) fun j h1 h2 => hd j h1 (by omega)
  have hget : (h0.set b (.cells [x, y, z, .int .i64 (numF s a k)] false))[b]? = some (.cells [x, y, z, .int .i64 (numF s a k)] false) := List.getElem?_set_self hlt
  by_cases hke : a + k < e
  · have hix : ∀ k' : IntKind, ixtV (.string s) (.int k' (a + k : Nat)) = some (.int .u8 ((byteAt s ((a + k : Nat) : Int)).toNat : Int)) := fun k => ixt_at (by omega) (by omega)
    have hdk := hd (a + k) (by omega) hke
    simp only [digitB, decide_eq_true_eq] at hdk
    clear hd hq
    (repeat' (first | ((with_reducible refine WG_dec (fun _ => ?_) (fun _ => ?_)) <;> try (exfalso; omega)) | ((with_reducible refine WG_decF (fun _ => ?_) (fun _ => ?_)) <;> try (exfalso; omega)) | ((with_reducible refine WC_dec (fun _ => ?_) (fun _ => ?_)) <;> try (exfalso; omega)) | refine WC_bool (fun _ => ?_) (fun _ => ?_) | refine WG_bool (fun _ => ?_) (fun _ => ?_) | refine WG_boolF (fun _ => ?_) (fun _ => ?_) | simp -dsimp (disch := omega) only [↓run_nil, ↓run_i, ↓rd_nil, ↓rd_i, ↓rd_k, ↓opd_st, ↓co_seq, ↓co_skip, ↓co_reg, ↓co_drw, ↓co_cond, ↓co_block, ↓op_mov, ↓op_bin, ↓opd_mov, ↓opd_bin, ↓opd_cvi, ↓opd_fld, ↓opd_ixt, ↓opd_min, ↓opd_ld, WF_eq, W1_some, WH_some1, ↓ev_t, ↓ev_c, ↓upd_at, ↓get_cons, ↓frm_nil, ↓frm_cons, bin_add, bin_sub, bin_mul, bin_lss, cvi_int, cellsV_int, one_int, setCells_nil, setCells_cons, load_ptr, ldO_cells, part_none, store_ptr, stO_cells, fld_ptr, min_1, min_2, room0, wrap_i64, wrap_u8, eq_self, List.map_cons, List.map_nil, List.length_cons, List.length_nil, List.all_cons, List.all_nil, Bool.and_self, true_and, and_self, List.getElem?_cons_zero, List.getElem?_cons_succ, List.set_cons_zero, List.set_cons_succ, Nat.reduceEqDiff, Nat.reduceAdd, Nat.zero_add, ↓reduceIte, reduceCtorEq, decide_true, Nat.le_refl, *, List.set_set]))
    exact Next.mk (k + 1) ⟨rfl, by omega, rfl, rfl, rfl, rfl, rfl, rfl⟩ (by omega)
  · have : e - a = k := by omega
    rw [this] at hq
    (repeat' (first | ((with_reducible refine WG_dec (fun _ => ?_) (fun _ => ?_)) <;> try (exfalso; omega)) | ((with_reducible refine WG_decF (fun _ => ?_) (fun _ => ?_)) <;> try (exfalso; omega)) | ((with_reducible refine WC_dec (fun _ => ?_) (fun _ => ?_)) <;> try (exfalso; omega)) | refine WC_bool (fun _ => ?_) (fun _ => ?_) | refine WG_bool (fun _ => ?_) (fun _ => ?_) | refine WG_boolF (fun _ => ?_) (fun _ => ?_) | simp -dsimp (disch := omega) only [↓run_nil, ↓run_i, ↓co_seq, ↓co_exit, ↓co_reg, ↓co_cond, ↓op_mov, ↓op_bin, WF_eq, W1_some, ↓ev_t, ↓upd_at, ↓get_cons, ↓frm_nil, ↓frm_cons, bin_lss, eq_self, Nat.reduceEqDiff, ↓reduceIte, reduceCtorEq, decide_false, *]))
    exact hq _ rfl rfl rfl rfl rfl
structure Tok where
  kind : Int
  at' : Int
  text : ByteArray
  n : Int
instance : Inhabited Tok := ⟨⟨0, 0, ⟨#[]⟩, 0⟩⟩
def encTok (t : Tok) : List Value := [.int .i64 t.kind, .int .i64 t.at', .string t.text, .int .i64 t.n]
def tokP (s : ByteArray) (a : Nat) : Tok :=
  if letterB (byteAt s a) then ⟨1, a, s.extract a (runEnd goesB s (a + 1)), 0⟩
  else if digitB (byteAt s a) then ⟨2, a, s.extract a (runEnd digitB s (a + 1)), numF s a (runEnd digitB s (a + 1) - a)⟩
  else if ((byteAt s a).toNat : Int) = 61 then ⟨3, a, s.extract a (a + 1), 0⟩
  else if ((byteAt s a).toNat : Int) = 10 then ⟨4, a, s.extract a (a + 1), 0⟩
  else ⟨0, 0, ⟨#[]⟩, 0⟩
theorem one03 (hE : Laid E) (h : Heap) {s : ByteArray} (hs : s.size < 1152921504606846976) {a : Nat} (ha : a < s.size) :
    callW E (.func (.func n_cadencyref03_one) #[] #[]) [.string s, .int .i64 a] h = some (.agg (encTok (tokP s a)).toArray, h, []) := by
  refine fn_same hE.cadencyref03_one rfl (by simp) ?_
  have hix : ∀ k' : IntKind, ixtV (.string s) (.int k' a) = some (.int .u8 ((byteAt s a).toNat : Int)) := fun k => ixt_at (by omega) (by omega)
  have hle := runEnd_le (p := goesB) (s := s) (e := a + 1) (by omega)
  have hle2 := runEnd_le (p := digitB) (s := s) (e := a + 1) (by omega)
  have hd : digitB (byteAt s a) = true → ∀ j, a ≤ j → j < runEnd digitB s (a + 1) → digitB (byteAt s j) = true := fun h0 j h1 h2 => by
    rcases Nat.lt_or_ge a j with h3 | h3
    · exact runEnd_all (e := a + 1) (by omega) h2
    · have : j = a := by omega
      subst this; exact h0
  simp only [argsF]
  (repeat' (first | ((with_reducible refine WG_dec (fun _ => ?_) (fun _ => ?_)) <;> try (exfalso; omega)) | ((with_reducible refine WG_decF (fun _ => ?_) (fun _ => ?_)) <;> try (exfalso; omega)) | ((with_reducible refine WC_dec (fun _ => ?_) (fun _ => ?_)) <;> try (exfalso; omega)) | refine WC_bool (fun _ => ?_) (fun _ => ?_) | refine WG_bool (fun _ => ?_) (fun _ => ?_) | refine WG_boolF (fun _ => ?_) (fun _ => ?_) | simp -dsimp (disch := omega) only [↓run_nil, ↓run_i, ↓run_k, ↓op_st, ↓op_call, ↓co_seq, ↓co_ret, ↓co_reg, ↓co_cond, ↓co_block, ↓co_loop, ↓op_mov, ↓op_bin, ↓op_bld, ↓op_fld, ↓op_ixt, ↓op_slt, ↓op_ld, ↓op_all, Res_ret, resL_nil, resL_v, resV_one, nn4_agg, WF_eq, W1_some, WX_some, WH_some1, ↓ev_t, ↓ev_c, ↓ev_f, ↓upd_at, ↓get_cons, ↓frm_nil, ↓frm_cons, bin_add, bin_eql, cellsV_int, cellsV_str, cellsV_agg, one_int, one_str, fillV_nil, fillV_cons, setCells_nil, setCells_cons, load_ptr, ldO_cells, part_some, store_ptr, stO_cells, fld_ptr, geta, geta0, seta, seta0, newCells, wrap_i64, slt_some, eq_self, List.map_cons, List.map_nil, List.length_append, List.length_cons, List.length_nil, List.all_cons, List.all_nil, Bool.and_self, true_and, and_self, List.getElem?_cons_zero, List.getElem?_cons_succ, List.set_cons_zero, List.set_cons_succ, List.drop_zero, List.take_succ_cons, List.take_zero, List.append_assoc, List.cons_append, List.nil_append, Option.bind_some, Option.map_some, Nat.reduceEqDiff, Nat.reduceAdd, Nat.reduceLeDiff, Nat.zero_add, Nat.add_zero, ↓reduceIte, reduceCtorEq, decide_false, Nat.le_refl, Nat.le_add_right, *, letter03 hE, digit03 hE]))
  · refine one_l0 hE hs (e0 := a + 1) (by omega) rfl rfl rfl rfl rfl fun fr' g0 g1 g4 g5 g6 => ?_
    (repeat' (first | ((with_reducible refine WG_dec (fun _ => ?_) (fun _ => ?_)) <;> try (exfalso; omega)) | ((with_reducible refine WG_decF (fun _ => ?_) (fun _ => ?_)) <;> try (exfalso; omega)) | ((with_reducible refine WC_dec (fun _ => ?_) (fun _ => ?_)) <;> try (exfalso; omega)) | refine WC_bool (fun _ => ?_) (fun _ => ?_) | refine WG_bool (fun _ => ?_) (fun _ => ?_) | refine WG_boolF (fun _ => ?_) (fun _ => ?_) | simp -dsimp (disch := omega) only [↓run_nil, ↓run_i, ↓run_k, ↓op_st, ↓co_seq, ↓co_ret, ↓co_reg, ↓op_mov, ↓op_fld, ↓op_slt, ↓op_ld, Res_ret, resL_nil, resL_v, resV_one, nn4_agg, WF_eq, W1_some, WH_some1, ↓ev_t, ↓upd_at, ↓get_cons, ↓frm_nil, ↓frm_cons, cellsV_str, cellsV_agg, one_int, one_str, setCells_nil, setCells_cons, load_ptr, ldO_cells, part_some, store_ptr, stO_cells, fld_ptr, geta, geta0, seta, seta0, slt_some, eq_self, List.length_cons, List.length_nil, List.all_cons, List.all_nil, Bool.and_self, true_and, and_self, List.getElem?_cons_zero, List.getElem?_cons_succ, List.set_cons_zero, List.set_cons_succ, List.drop_zero, List.take_succ_cons, List.take_zero, Option.bind_some, Option.map_some, Nat.reduceEqDiff, Nat.reduceAdd, Nat.reduceLeDiff, Nat.zero_add, ↓reduceIte, reduceCtorEq, Nat.le_refl, Nat.le_add_right, *]))
    simp [tokP, encTok, noNew, *]
  · refine one_l1 hE hs (e0 := a + 1) (by omega) rfl rfl rfl rfl rfl fun fr' g0 g1 g4 g5 g6 => ?_
    (repeat' (first | ((with_reducible refine WG_dec (fun _ => ?_) (fun _ => ?_)) <;> try (exfalso; omega)) | ((with_reducible refine WG_decF (fun _ => ?_) (fun _ => ?_)) <;> try (exfalso; omega)) | ((with_reducible refine WC_dec (fun _ => ?_) (fun _ => ?_)) <;> try (exfalso; omega)) | refine WC_bool (fun _ => ?_) (fun _ => ?_) | refine WG_bool (fun _ => ?_) (fun _ => ?_) | refine WG_boolF (fun _ => ?_) (fun _ => ?_) | simp -dsimp (disch := omega) only [↓run_nil, ↓run_i, ↓co_seq, ↓co_reg, ↓co_block, ↓co_loop, ↓op_mov, WF_eq, W1_some, ↓ev_t, ↓upd_at, ↓get_cons, ↓frm_nil, ↓frm_cons, eq_self, Nat.reduceEqDiff, ↓reduceIte, reduceCtorEq, *]))
    refine one_l2 hE hs (a := a) (e := runEnd digitB s (a + 1)) (b := h.length + 1) (by omega) (by omega) (hd ‹_›) (by omega) (by rw [geta]; rfl) rfl rfl rfl rfl rfl rfl fun fr' g0 g1 g4 g5 g6 => ?_
    (repeat' (first | ((with_reducible refine WG_dec (fun _ => ?_) (fun _ => ?_)) <;> try (exfalso; omega)) | ((with_reducible refine WG_decF (fun _ => ?_) (fun _ => ?_)) <;> try (exfalso; omega)) | ((with_reducible refine WC_dec (fun _ => ?_) (fun _ => ?_)) <;> try (exfalso; omega)) | refine WC_bool (fun _ => ?_) (fun _ => ?_) | refine WG_bool (fun _ => ?_) (fun _ => ?_) | refine WG_boolF (fun _ => ?_) (fun _ => ?_) | simp -dsimp (disch := omega) only [↓run_nil, ↓run_i, ↓run_k, ↓op_st, ↓co_seq, ↓co_ret, ↓co_reg, ↓op_mov, ↓op_fld, ↓op_slt, ↓op_ld, Res_ret, resL_nil, resL_v, resV_one, nn4_agg, WF_eq, W1_some, WH_some1, ↓ev_t, ↓upd_at, ↓get_cons, ↓frm_nil, ↓frm_cons, cellsV_str, cellsV_agg, one_int, one_str, setCells_nil, setCells_cons, load_ptr, ldO_cells, part_some, store_ptr, stO_cells, fld_ptr, geta, geta0, seta, seta0, slt_some, eq_self, List.length_cons, List.length_nil, List.all_cons, List.all_nil, Bool.and_self, true_and, and_self, List.getElem?_cons_zero, List.getElem?_cons_succ, List.set_cons_zero, List.set_cons_succ, List.drop_zero, List.take_succ_cons, List.take_zero, Option.bind_some, Option.map_some, Nat.reduceEqDiff, Nat.reduceAdd, Nat.reduceLeDiff, Nat.zero_add, ↓reduceIte, reduceCtorEq, Nat.le_refl, Nat.le_add_right, *]))
    simp [tokP, encTok, noNew, *]
  all_goals simp [tokP, encTok, noNew, *]
def wordB (s : ByteArray) : Bool := match bs s with
  | [] => false
  | c :: r => letterB c && r.all goesB
theorem takeWhile_len {α : Type} {p : α → Bool} : ∀ {l : List α}, (l.takeWhile p).length = l.length ↔ l.all p = true
  | [] => by simp
  | x :: r => by
    rw [List.takeWhile_cons, List.all_cons]
    by_cases h : p x = true
    · rw [if_pos h, List.length_cons, List.length_cons, h, Bool.true_and, ← takeWhile_len]; omega
    · rw [if_neg h]; simp [h]
theorem extract_all {s : ByteArray} {e : Nat} (h : e ≤ s.size) : bs (s.extract 0 e) = bs s ↔ e = s.size := by
  have e1 : bs (s.extract 0 e) = (bs s).take e := by simp [bs, ByteArray.data_extract]
  rw [e1]
  constructor
  · intro h2
    have := congrArg List.length h2
    rw [List.length_take, bs_len] at this; omega
  · intro h2; rw [h2, ← bs_len, List.take_length]
theorem tok_word {s : ByteArray} (h : 0 < s.size) : wordB s = decide ((tokP s 0).kind = 1 ∧ bs (tokP s 0).text = bs s) := by
  have hl : 0 < (bs s).length := by rw [bs_len]; exact h
  match hb : bs s with
  | [] => rw [hb] at hl; simp at hl
  | c :: r =>
    have hc : byteAt s (0 : Nat) = c := by simp [byteAt, hb]
    have hsz : s.size = r.length + 1 := by rw [← bs_len, hb]; rfl
    unfold wordB tokP
    rw [hc, hb]
    dsimp only
    by_cases h1 : letterB c = true
    · rw [if_pos h1, h1, Bool.true_and]
      have h2 := extract_all (s := s) (e := runEnd goesB s 1) (runEnd_le (p := goesB) (by omega)).2
      dsimp only [Nat.zero_add]
      have h3 : runEnd goesB s 1 = s.size ↔ r.all goesB = true := by
        rw [← takeWhile_len]; unfold runEnd; rw [hb, List.drop_succ_cons, List.drop_zero]; omega
      rw [← hb, Bool.eq_iff_iff, decide_eq_true_eq, h2, h3]; simp
    · rw [if_neg h1]
      have h1' : letterB c = false := by simpa using h1
      rw [h1', Bool.false_and]
      symm; rw [decide_eq_false_iff_not]
      split
      · simp
      · split
        · simp
        · split <;> simp
theorem word03 (hE : Laid E) (h : Heap) {s : ByteArray} (hs : s.size < 1152921504606846976) :
    callW E (.func (.func n_cadencyref03_Word) #[] #[]) [.string s] h = some (.bool (wordB s), h, []) := by
  refine fn_same hE.cadencyref03_Word rfl (by simp) ?_
  simp only [argsF]
  rcases Nat.eq_zero_or_pos s.size with h0 | h0
  · have e : bs s = [] := List.length_eq_zero_iff.1 (by rw [bs_len]; exact h0)
    have e2 : bs ⟨#[]⟩ = [] := rfl
    (repeat' (first | ((with_reducible refine WG_dec (fun _ => ?_) (fun _ => ?_)) <;> try (exfalso; omega)) | ((with_reducible refine WG_decF (fun _ => ?_) (fun _ => ?_)) <;> try (exfalso; omega)) | ((with_reducible refine WC_dec (fun _ => ?_) (fun _ => ?_)) <;> try (exfalso; omega)) | refine WC_bool (fun _ => ?_) (fun _ => ?_) | refine WG_bool (fun _ => ?_) (fun _ => ?_) | refine WG_boolF (fun _ => ?_) (fun _ => ?_) | simp -dsimp (disch := omega) only [↓run_nil, ↓run_i, ↓co_seq, ↓co_ret, ↓co_reg, ↓co_cond, ↓op_mov, ↓op_bin, Res_ret, resL_nil, resL_t, resV_one, nn4_bool, WF_eq, W1_some, WC_true, ↓ev_t, ↓ev_c, ↓upd_at, ↓get_cons, ↓frm_nil, ↓frm_cons, bin_seq, eq_self, true_and, Option.map_some, ↓reduceIte, reduceCtorEq, decide_true, *, bs_eq]))
    simp [wordB, e]
  · have h1 := fun h => one03 hE h hs (a := 0) h0
    have e : bs s ≠ [] := fun e => by rw [← bs_len, e] at h0; simp at h0
    have e2 : bs ⟨#[]⟩ = [] := rfl
    rw [tok_word h0]
    simp only [encTok, Int.ofNat_zero] at h1
    (repeat' (first | ((with_reducible refine WG_dec (fun _ => ?_) (fun _ => ?_)) <;> try (exfalso; omega)) | ((with_reducible refine WG_decF (fun _ => ?_) (fun _ => ?_)) <;> try (exfalso; omega)) | ((with_reducible refine WC_dec (fun _ => ?_) (fun _ => ?_)) <;> try (exfalso; omega)) | refine WC_bool (fun _ => ?_) (fun _ => ?_) | refine WG_bool (fun _ => ?_) (fun _ => ?_) | refine WG_boolF (fun _ => ?_) (fun _ => ?_) | simp -dsimp (disch := omega) only [↓run_nil, ↓run_i, ↓run_k, ↓run_w, ↓op_st, ↓op_call, ↓co_seq, ↓co_skip, ↓co_ret, ↓co_reg, ↓co_cond, ↓op_mov, ↓op_pick, ↓op_bin, ↓op_fld, ↓op_ld, ↓op_all, Res_ret, resL_nil, resL_t, resV_one, nn4_bool, WF_eq, W1_some, WX_some, WH_some1, WC_false, WG_true, WG_ft, ↓ev_t, ↓ev_c, ↓ev_f, ↓upd_at, ↓get_cons, ↓frm_nil, ↓frm_cons, bin_eql, bin_seq, pick_t, pick_f, cellsV_agg, one_int, one_str, setCells_nil, setCells_cons, load_ptr, ldO_cells, part_none, store_ptr, stO_cells, fld_ptr, geta0, seta0, newCells, eq_self, List.map_cons, List.map_nil, List.length_cons, List.length_nil, List.all_cons, List.all_nil, Bool.and_self, true_and, and_self, List.getElem?_cons_zero, List.getElem?_cons_succ, List.set_cons_zero, List.set_cons_succ, Option.map_some, Nat.reduceEqDiff, Nat.reduceAdd, Nat.zero_add, Nat.add_zero, ↓reduceIte, reduceCtorEq, decide_true, decide_false, Nat.le_refl, *, bs_eq]))
    all_goals simp [*]
end Go.L.Try

/- SETS THAT MAY BE: cadencyref04.Check, CheckAll. -/
set_option linter.unusedVariables false
set_option linter.unusedSimpArgs false
set_option maxRecDepth 4000
set_option maxHeartbeats 1000000
namespace Go.L.Try
open Go Go.L
variable {E : Env}
def rangesB (t : Task) : Prop := wordB t.name = true ∧ t.name.size ≤ 32 ∧ (1 ≤ t.C ∧ t.C ≤ 2147483647) ∧ (1 ≤ t.T ∧ t.T ≤ 2147483647) ∧ (1 ≤ t.D ∧ t.D ≤ 2147483647) ∧ (1 ≤ t.Q ∧ t.Q ≤ 2147483647) ∧ (0 ≤ t.J ∧ t.J ≤ 2147483647) ∧ 1 ≤ t.P ∧ t.P ≤ 1048576
instance (t : Task) : Decidable (rangesB t) := by unfold rangesB; infer_instance
def fitsB (t : Task) : Prop := t.Q ≤ t.C ∧ t.C + t.J ≤ t.D ∧ t.D ≤ t.T
instance (t : Task) : Decidable (fitsB t) := by unfold fitsB; infer_instance
def checkP (t : Task) : Int := if rangesB t then if fitsB t then 0 else 12 else 11
theorem check04 (hE : Laid E) (h : Heap) (t : Task) (hs : t.name.size < 1152921504606846976) :
    callW E (.func (.func n_cadencyref04_Check) #[] #[]) [.agg (encT t).toArray] h = some (.int .i64 (checkP t), h, []) := by
  refine fn_same hE.cadencyref04_Check rfl (by simp) ?_
  have hw := fun h => word03 hE h hs
  simp only [argsF]
  (repeat' (first | ((with_reducible refine WG_dec (fun _ => ?_) (fun _ => ?_)) <;> try (exfalso; omega)) | ((with_reducible refine WG_decF (fun _ => ?_) (fun _ => ?_)) <;> try (exfalso; omega)) | ((with_reducible refine WC_dec (fun _ => ?_) (fun _ => ?_)) <;> try (exfalso; omega)) | refine WC_bool (fun _ => ?_) (fun _ => ?_) | refine WG_bool (fun _ => ?_) (fun _ => ?_) | refine WG_boolF (fun _ => ?_) (fun _ => ?_) | simp -dsimp (disch := omega) only [↓run_nil, ↓run_i, ↓run_w, ↓op_call, ↓co_seq, ↓co_skip, ↓co_ret, ↓co_reg, ↓co_cond, ↓op_mov, ↓op_pick, ↓op_bin, ↓op_un, ↓op_fld, ↓op_lens, ↓op_ld, ↓op_box, Res_ret, resL_nil, resL_t, resV_one, nn4_int, WF_eq, W1_some, WX_some, WC_true, WG_false, WG_tf, ↓ev_t, ↓ev_c, ↓ev_f, ↓upd_at, ↓get_cons, ↓frm_nil, ↓frm_cons, bin_add, bin_lss, bin_gtr, un_not, pick_t, pick_f, cellsV_agg, one_int, one_str, load_ptr, ldO_cells, part_none, fld_ptr, lens_str, geta0, newCells, wrap_i64, dnot, eq_self, List.map_cons, List.map_nil, List.all_cons, List.all_nil, Bool.and_self, true_and, List.getElem?_cons_zero, List.getElem?_cons_succ, Option.map_some, Nat.reduceEqDiff, Nat.zero_add, Nat.add_zero, ↓reduceIte, decide_true, decide_false, not_false_eq_true, *, encT, in04 hE]))
  all_goals
    congr 1
    by_cases h1 : rangesB t
    · by_cases h2 : fitsB t
      · simp only [checkP, h1, h2, if_true] <;>
        (first | rfl | (exfalso; unfold rangesB fitsB at *; simp_all; done) | (exfalso; unfold rangesB fitsB at *; simp_all; omega))
      · simp only [checkP, h1, h2, if_true, if_false] <;>
        (first | rfl | (exfalso; unfold rangesB fitsB at *; simp_all; done) | (exfalso; unfold rangesB fitsB at *; simp_all; omega))
    · simp only [checkP, h1, if_false] <;>
      (first | rfl | (exfalso; unfold rangesB at *; simp_all; done) | (exfalso; unfold rangesB at *; simp_all; omega))
/-- Whether one of the first 'k' bears its name or its urgency. -/
def clash (l : List Task) (i : Int) : Nat → Bool
  | 0 => false
  | k + 1 => clash l i k || decide (bs (atI l (k : Int)).name = bs (atI l i).name ∨ (atI l (k : Int)).P = (atI l i).P)
/-- The first place, from 'i' on, of a task that may not be: 'n' of them are left. -/
def checkFrom (l : List Task) : Nat → Int → Int × Int
  | 0, i => (i, 0)
  | n + 1, i => if checkP (atI l i) ≠ 0 then (i, checkP (atI l i)) else if clash l i i.toNat then (i, 13) else checkFrom l n (i + 1)
def checkAllP (l : List Task) : Int × Int := if l.length = 0 ∨ 1024 < l.length then (0, 14) else checkFrom l l.length 0
theorem clash_mono {l : List Task} {i : Int} {k j : Nat} (h : k ≤ j) (hc : clash l i k = true) : clash l i j = true := by
  induction h with
  | refl => exact hc
  | step _ ih => simp only [clash, ih, Bool.true_or]
theorem ca_l0 (hE : Laid E) {W : Nat → Prop} {h0 : Heap} {vl : Value} {l : List Task} (hl : Rd 7 encT h0 vl l) {i : Nat} (hi : i < l.length) {b : Nat} {x y : Value} (hb : h0[b]? = some (.cells [x, y] false)) (hW : W b) {Q : Ex → Fr → Heap → Prop} {fr : Fr}
    (g0 : get fr 0 = vl) (g2 : get fr 2 = .pointer (some ⟨b, 0, none⟩)) (g3 : get fr 3 = .int .i64 i) (g5 : get fr 5 = .int .i64 0)
    (hq1 : clash l i i = false → ∀ fr', get fr' 0 = vl → get fr' 2 = .pointer (some ⟨b, 0, none⟩) → get fr' 3 = .int .i64 i → Q (.exit 2) fr' h0)
    (hq2 : clash l i i = true → ∀ fr', get fr' 2 = .pointer (some ⟨b, 0, none⟩) → Q .ret fr' (h0.set b (.cells [.int .i64 i, .int .i64 13] false))) :
    WO W (iterW (code (callW E) iterW 65 c_cadencyref04_CheckAll_l0) fr h0) Q := by
  have few := hl.few
  refine WO.loop (fun k fr h' => h' = h0 ∧ k ≤ i ∧ clash l i k = false ∧ get fr 0 = vl ∧ get fr 2 = .pointer (some ⟨b, 0, none⟩) ∧ get fr 3 = .int .i64 i ∧ get fr 5 = .int .i64 k) (fun k => i - k) ?_ 0 ⟨rfl, Nat.zero_le _, rfl, g0, g2, g3, g5⟩
  rintro k fr h' ⟨rfl, hk, hc, g0, g2, g3, g5⟩
  unfold c_cadencyref04_CheckAll_l0
  rcases Nat.lt_or_ge k i with hlt | hge
  · have hcl : clash l i (k + 1) = decide (bs (atI l (k : Int)).name = bs (atI l i).name ∨ (atI l (k : Int)).P = (atI l i).P) := by simp [clash, hc]
    clear hq1
    have hq2 := fun h => hq2 (clash_mono (k := k + 1) (by omega) h)
    rw [hcl] at hq2
    simp only [decide_eq_true_eq] at hq2
    (repeat' (first | ((with_reducible refine WG_dec (fun _ => ?_) (fun _ => ?_)) <;> try (exfalso; omega)) | ((with_reducible refine WG_decF (fun _ => ?_) (fun _ => ?_)) <;> try (exfalso; omega)) | ((with_reducible refine WC_dec (fun _ => ?_) (fun _ => ?_)) <;> try (exfalso; omega)) | refine WC_bool (fun _ => ?_) (fun _ => ?_) | refine WG_bool (fun _ => ?_) (fun _ => ?_) | refine WG_boolF (fun _ => ?_) (fun _ => ?_) | simp -dsimp (disch := omega) only [↓run_nil, ↓run_i, ↓run_k, ↓rd_nil, ↓rd_i, ↓rd_w, ↓op_st, ↓co_seq, ↓co_skip, ↓co_ret, ↓co_reg, ↓co_drw, ↓co_cond, ↓co_block, ↓op_mov, ↓op_bin, ↓op_bld, ↓opd_mov, ↓opd_pick, ↓opd_bin, ↓opd_fld, ↓opd_ixs, ↓opd_ld, WF_eq, W1_some, WH_some1, WC_true, WG_false, WG_tf, ↓ev_t, ↓ev_c, ↓upd_at, ↓get_cons, ↓frm_nil, ↓frm_cons, bin_add, bin_eql, bin_lss, bin_seq, pick_t, pick_f, cellsV_int, cellsV_agg, one_int, fillV_nil, fillV_cons, setCells_nil, setCells_cons, load_ptr, store_ptr, stO_cells, fld_ptr, room0, wrap_i64, eq_self, List.map_cons, List.map_nil, List.length_cons, List.length_nil, List.all_cons, List.all_nil, Bool.and_self, true_and, and_self, List.getD_cons_zero, List.getD_cons_succ, List.set_cons_zero, List.set_cons_succ, Option.map_some, Nat.reduceEqDiff, Nat.reduceAdd, Nat.reduceLeDiff, Nat.zero_add, Nat.add_zero, ↓reduceIte, reduceCtorEq, decide_true, decide_false, Nat.le_refl, *, hl.ixs, hl.ld, hl.ld0, encT, bs_eq]))
    · exact hq2 (.inl ‹_›) _ rfl
    · exact hq2 (.inr ‹_›) _ rfl
    · exact Next.mk (k + 1) ⟨rfl, by omega, by rw [hcl]; simp [*], rfl, rfl, rfl, rfl⟩ (by omega)
  · have : k = i := by omega
    subst this
    (repeat' (first | ((with_reducible refine WG_dec (fun _ => ?_) (fun _ => ?_)) <;> try (exfalso; omega)) | ((with_reducible refine WG_decF (fun _ => ?_) (fun _ => ?_)) <;> try (exfalso; omega)) | ((with_reducible refine WC_dec (fun _ => ?_) (fun _ => ?_)) <;> try (exfalso; omega)) | refine WC_bool (fun _ => ?_) (fun _ => ?_) | refine WG_bool (fun _ => ?_) (fun _ => ?_) | refine WG_boolF (fun _ => ?_) (fun _ => ?_) | simp -dsimp (disch := omega) only [↓run_nil, ↓run_i, ↓co_seq, ↓co_exit, ↓co_reg, ↓co_cond, ↓op_mov, ↓op_bin, WF_eq, W1_some, ↓ev_t, ↓upd_at, ↓get_cons, ↓frm_nil, ↓frm_cons, bin_lss, eq_self, Nat.reduceEqDiff, ↓reduceIte, reduceCtorEq, decide_false, *]))
    exact hq1 hc _ rfl rfl rfl
theorem checkAll04 (hE : Laid E) {h : Heap} {vl : Value} {l : List Task} (hl : Rd 7 encT h vl l) (hs : ∀ t ∈ l, t.name.size < 1152921504606846976) :
    callW E (.func (.func n_cadencyref04_CheckAll) #[] #[]) [vl] h = some (.agg #[.int .i64 (checkAllP l).1, .int .i64 (checkAllP l).2], h, []) := by
  refine fn_same hE.cadencyref04_CheckAll rfl (by simp) ?_
  have few := hl.few
  simp only [argsF]
  (repeat' (first | ((with_reducible refine WG_dec (fun _ => ?_) (fun _ => ?_)) <;> try (exfalso; omega)) | ((with_reducible refine WG_decF (fun _ => ?_) (fun _ => ?_)) <;> try (exfalso; omega)) | ((with_reducible refine WC_dec (fun _ => ?_) (fun _ => ?_)) <;> try (exfalso; omega)) | refine WC_bool (fun _ => ?_) (fun _ => ?_) | refine WG_bool (fun _ => ?_) (fun _ => ?_) | refine WG_boolF (fun _ => ?_) (fun _ => ?_) | simp -dsimp (disch := omega) only [↓run_nil, ↓run_i, ↓run_k, ↓run_w, ↓op_st, ↓co_seq, ↓co_skip, ↓co_ret, ↓co_reg, ↓co_cond, ↓co_block, ↓co_loop, ↓op_mov, ↓op_pick, ↓op_bin, ↓op_bld, ↓op_lens, ↓op_all, Res_ret, resL_nil, resL_v, resV_one, nn4_agg, nn3_int, WF_eq, W1_some, WH_some1, WC_true, WG_false, WG_tf, ↓ev_t, ↓ev_c, ↓upd_at, ↓get_cons, ↓frm_nil, ↓frm_cons, bin_eql, bin_gtr, pick_t, pick_f, cellsV_int, cellsV_agg, one_int, fillV_nil, fillV_cons, setCells_nil, setCells_cons, load_ptr, ldO_cells, part_some, store_ptr, stO_cells, geta0, seta0, newCells, eq_self, List.map_cons, List.map_nil, List.length_cons, List.length_nil, List.all_cons, List.all_nil, Bool.and_self, true_and, and_self, List.getElem?_cons_zero, List.set_cons_zero, List.set_cons_succ, List.drop_zero, List.take_succ_cons, List.take_zero, Option.bind_some, Option.map_some, Nat.reduceEqDiff, Nat.reduceAdd, Nat.zero_add, ↓reduceIte, reduceCtorEq, decide_true, decide_false, Nat.le_refl, *, hl.len]))
  · have e0 : checkAllP l = (0, 14) := if_pos (by omega)
    simp [e0]
  · have e0 : checkAllP l = (0, 14) := if_pos (by omega)
    simp [e0]
  · have e0 : checkAllP l = checkFrom l l.length 0 := by unfold checkAllP; rw [if_neg (by omega)]
    rw [e0]
    refine WO.loop (fun i fr h' => h' = h ++ [LObj.cells [.int .i64 0, .int .i64 0] false] ∧ i ≤ l.length ∧ checkFrom l l.length 0 = checkFrom l (l.length - i) i ∧ get fr 0 = vl ∧ get fr 2 = .pointer (some ⟨h.length, 0, none⟩) ∧ get fr 3 = .int .i64 i) (fun i => l.length - i) ?_ 0 ⟨rfl, Nat.zero_le _, rfl, rfl, rfl, rfl⟩
    rintro i fr h' ⟨rfl, hi, hc, g0, g2, g3⟩
    unfold c_cadencyref04_CheckAll_l1
    have hl' := hl.app [LObj.cells [.int .i64 0, .int .i64 0] false]
    rcases Nat.lt_or_ge i l.length with hlt | hge
    · have hck := fun h => check04 hE h (atI l i) (hs _ (atI_mem (by omega) (by omega)))
      have e1 : l.length - i = (l.length - (i + 1)) + 1 := by omega
      rw [e1] at hc
      simp only [checkFrom] at hc
      rw [hc]
      clear hc e0 e1
      (repeat' (first | ((with_reducible refine WG_dec (fun _ => ?_) (fun _ => ?_)) <;> try (exfalso; omega)) | ((with_reducible refine WG_decF (fun _ => ?_) (fun _ => ?_)) <;> try (exfalso; omega)) | ((with_reducible refine WC_dec (fun _ => ?_) (fun _ => ?_)) <;> try (exfalso; omega)) | refine WC_bool (fun _ => ?_) (fun _ => ?_) | refine WG_bool (fun _ => ?_) (fun _ => ?_) | refine WG_boolF (fun _ => ?_) (fun _ => ?_) | simp -dsimp (disch := omega) only [↓run_nil, ↓run_i, ↓run_k, ↓op_st, ↓op_call, ↓co_seq, ↓co_skip, ↓co_ret, ↓co_reg, ↓co_cond, ↓co_block, ↓co_loop, ↓op_mov, ↓op_bin, ↓op_bld, ↓op_ixs, ↓op_lens, ↓op_ld, Res_ret, resL_nil, resL_v, resV_one, nn4_agg, nn3_int, WF_eq, W1_some, WX_some, WH_some1, ↓ev_t, ↓ev_c, ↓ev_f, ↓upd_at, ↓get_cons, ↓frm_nil, ↓frm_cons, bin_neq, bin_lss, cellsV_int, cellsV_agg, one_int, fillV_nil, fillV_cons, setCells_nil, setCells_cons, load_ptr, ldO_cells, part_some, store_ptr, stO_cells, geta0, seta0, eq_self, List.map_cons, List.map_nil, List.length_cons, List.length_nil, List.all_cons, List.all_nil, Bool.and_self, true_and, and_self, List.getElem?_cons_zero, List.set_cons_zero, List.set_cons_succ, List.drop_zero, List.take_succ_cons, List.take_zero, Option.bind_some, Option.map_some, Nat.reduceEqDiff, Nat.reduceAdd, Nat.reduceLeDiff, Nat.zero_add, ↓reduceIte, reduceCtorEq, decide_true, not_false_eq_true, Nat.le_refl, *, hl'.len, hl'.ixs, hl'.lda]))
      · simp [*]
      · refine ca_l0 hE hl' hlt (b := h.length) (by rw [geta0]; rfl) (Nat.le_refl _) rfl rfl rfl rfl (fun hc fr' g0 g2 g3 => ?_) (fun hc fr' g2 => ?_)
        · (repeat' (first | ((with_reducible refine WG_dec (fun _ => ?_) (fun _ => ?_)) <;> try (exfalso; omega)) | ((with_reducible refine WG_decF (fun _ => ?_) (fun _ => ?_)) <;> try (exfalso; omega)) | ((with_reducible refine WC_dec (fun _ => ?_) (fun _ => ?_)) <;> try (exfalso; omega)) | refine WC_bool (fun _ => ?_) (fun _ => ?_) | refine WG_bool (fun _ => ?_) (fun _ => ?_) | refine WG_boolF (fun _ => ?_) (fun _ => ?_) | simp -dsimp (disch := omega) only [↓run_nil, ↓run_i, ↓co_reg, ↓op_mov, ↓op_bin, WF_eq, W1_some, ↓ev_t, ↓ev_c, ↓upd_at, ↓frm_nil, ↓frm_cons, bin_add, wrap_i64, eq_self, Nat.reduceEqDiff, ↓reduceIte, reduceCtorEq, *]))
          refine Next.mk (i + 1) ⟨rfl, by omega, ?_, rfl, rfl, rfl⟩ (by omega)
          rw [if_neg (by simp [*]), if_neg (by simpa using hc)]; rfl
        · (repeat' (first | ((with_reducible refine WG_dec (fun _ => ?_) (fun _ => ?_)) <;> try (exfalso; omega)) | ((with_reducible refine WG_decF (fun _ => ?_) (fun _ => ?_)) <;> try (exfalso; omega)) | ((with_reducible refine WC_dec (fun _ => ?_) (fun _ => ?_)) <;> try (exfalso; omega)) | refine WC_bool (fun _ => ?_) (fun _ => ?_) | refine WG_bool (fun _ => ?_) (fun _ => ?_) | refine WG_boolF (fun _ => ?_) (fun _ => ?_) | simp -dsimp (disch := omega) only [Res_ret, resL_nil, resL_v, resV_one, nn4_agg, nn3_int, W1_some, load_ptr, ldO_cells, part_some, geta0, seta0, eq_self, List.length_cons, List.length_nil, List.all_cons, List.all_nil, Bool.and_self, true_and, List.getElem?_cons_zero, List.set_cons_zero, List.drop_zero, List.take_succ_cons, List.take_zero, Option.bind_some, Option.map_some, Nat.reduceAdd, Nat.zero_add, ↓reduceIte, Nat.le_refl, *]))
          simp [*]
    · have : i = l.length := by omega
      subst this
      rw [hc]
      (repeat' (first | ((with_reducible refine WG_dec (fun _ => ?_) (fun _ => ?_)) <;> try (exfalso; omega)) | ((with_reducible refine WG_decF (fun _ => ?_) (fun _ => ?_)) <;> try (exfalso; omega)) | ((with_reducible refine WC_dec (fun _ => ?_) (fun _ => ?_)) <;> try (exfalso; omega)) | refine WC_bool (fun _ => ?_) (fun _ => ?_) | refine WG_bool (fun _ => ?_) (fun _ => ?_) | refine WG_boolF (fun _ => ?_) (fun _ => ?_) | simp -dsimp (disch := omega) only [↓run_nil, ↓run_i, ↓run_k, ↓op_st, ↓co_seq, ↓co_exit, ↓co_ret, ↓co_reg, ↓co_cond, ↓op_mov, ↓op_bin, ↓op_bld, ↓op_lens, Res_ret, resL_nil, resL_v, resV_one, nn4_agg, nn3_int, WF_eq, W1_some, WH_some1, ↓ev_t, ↓upd_at, ↓get_cons, ↓frm_nil, ↓frm_cons, bin_lss, cellsV_int, cellsV_agg, one_int, fillV_nil, fillV_cons, setCells_nil, setCells_cons, load_ptr, ldO_cells, part_some, store_ptr, stO_cells, geta0, seta0, eq_self, List.map_cons, List.map_nil, List.length_cons, List.length_nil, List.all_cons, List.all_nil, Bool.and_self, true_and, and_self, List.getElem?_cons_zero, List.set_cons_zero, List.set_cons_succ, List.drop_zero, List.take_succ_cons, List.take_zero, Option.bind_some, Option.map_some, Nat.reduceEqDiff, Nat.reduceAdd, Nat.reduceLeDiff, Nat.zero_add, ↓reduceIte, reduceCtorEq, decide_false, Nat.le_refl, *, hl'.len]))
      simp [checkFrom]
end Go.L.Try

/- JOBS: cadencyref08.last, Few, Decode. -/
set_option linter.unusedVariables false
set_option linter.unusedSimpArgs false
set_option maxRecDepth 4000
set_option maxHeartbeats 1000000
namespace Go.L.Try
open Go Go.L
variable {E : Env}
/-- The last of the first 'k' jobs that is a task's. -/
def lastN (l : List Job) (task : Int) : Nat → Int
  | 0 => -1
  | k + 1 => if (atI l (k : Int)).task = task then k else lastN l task k
theorem lastN_in (l : List Job) (task : Int) : ∀ k, -1 ≤ lastN l task k ∧ lastN l task k < k
  | 0 => by simp [lastN]
  | k + 1 => by have := lastN_in l task k; unfold lastN; split <;> omega
theorem last08 (hE : Laid E) {h : Heap} {v : Value} {lv : List (NV Job)} (hl : Rd 5 (encN hdJ) h v lv) (task : Int) :
    callW E (.func (.func n_cadencyref08_last) #[] #[]) [v, .int .i64 task] h = some (.int .i64 (lastN (lv.map (·.j)) task lv.length), h, []) := by
  refine fn_same hE.cadencyref08_last rfl (by simp) ?_
  have few := hl.few
  simp only [argsF]
  (repeat' (first | ((with_reducible refine WG_dec (fun _ => ?_) (fun _ => ?_)) <;> try (exfalso; omega)) | ((with_reducible refine WG_decF (fun _ => ?_) (fun _ => ?_)) <;> try (exfalso; omega)) | ((with_reducible refine WC_dec (fun _ => ?_) (fun _ => ?_)) <;> try (exfalso; omega)) | refine WC_bool (fun _ => ?_) (fun _ => ?_) | refine WG_bool (fun _ => ?_) (fun _ => ?_) | refine WG_boolF (fun _ => ?_) (fun _ => ?_) | simp -dsimp (disch := omega) only [↓run_nil, ↓run_i, ↓co_seq, ↓co_reg, ↓co_block, ↓co_loop, ↓op_mov, ↓op_bin, ↓op_lens, WF_eq, W1_some, ↓ev_t, ↓ev_c, ↓upd_at, ↓get_cons, ↓frm_nil, ↓frm_cons, bin_sub, wrap_i64, eq_self, Nat.reduceEqDiff, Nat.zero_add, ↓reduceIte, reduceCtorEq, *, hl.len]))
  refine WO.loop (fun k fr h' => h' = h ∧ k ≤ lv.length ∧ lastN (lv.map (·.j)) task lv.length = lastN (lv.map (·.j)) task k ∧ get fr 0 = v ∧ get fr 1 = .int .i64 task ∧ get fr 5 = .int .i64 (k - 1)) (fun k => k) ?_ lv.length ⟨rfl, Nat.le_refl _, rfl, rfl, rfl, rfl⟩
  rintro k fr h' ⟨rfl, hk, he, g0, g1, g5⟩
  rw [he]
  unfold c_cadencyref08_last_l0
  cases k with
  | zero =>
    simp only [Int.natCast_zero] at g5
    have : ((0 : Nat) : Int) - 1 = -1 := rfl
    simp only [lastN]
    (repeat' (first | ((with_reducible refine WG_dec (fun _ => ?_) (fun _ => ?_)) <;> try (exfalso; omega)) | ((with_reducible refine WG_decF (fun _ => ?_) (fun _ => ?_)) <;> try (exfalso; omega)) | ((with_reducible refine WC_dec (fun _ => ?_) (fun _ => ?_)) <;> try (exfalso; omega)) | refine WC_bool (fun _ => ?_) (fun _ => ?_) | refine WG_bool (fun _ => ?_) (fun _ => ?_) | refine WG_boolF (fun _ => ?_) (fun _ => ?_) | simp -dsimp (disch := omega) only [↓run_nil, ↓run_i, ↓co_seq, ↓co_exit, ↓co_ret, ↓co_reg, ↓co_cond, ↓op_mov, ↓op_bin, Res_ret, resL_nil, resL_t, resV_one, nn4_int, WF_eq, W1_some, ↓ev_t, ↓ev_c, ↓upd_at, ↓get_cons, ↓frm_nil, ↓frm_cons, bin_geq, eq_self, true_and, Option.map_some, Nat.reduceEqDiff, ↓reduceIte, reduceCtorEq, *]))
  | succ k =>
    have e1 : ((k + 1 : Nat) : Int) - 1 = k := by omega
    rw [e1] at g5
    have e2 : atI (lv.map (·.j)) (k : Int) = (atI lv k).j := (atI_map' (fun p : NV Job => p.j) lv k (by omega) (by omega)).symm
    simp only [lastN, e2] at he ⊢
    (repeat' (first | ((with_reducible refine WG_dec (fun _ => ?_) (fun _ => ?_)) <;> try (exfalso; omega)) | ((with_reducible refine WG_decF (fun _ => ?_) (fun _ => ?_)) <;> try (exfalso; omega)) | ((with_reducible refine WC_dec (fun _ => ?_) (fun _ => ?_)) <;> try (exfalso; omega)) | refine WC_bool (fun _ => ?_) (fun _ => ?_) | refine WG_bool (fun _ => ?_) (fun _ => ?_) | refine WG_boolF (fun _ => ?_) (fun _ => ?_) | simp -dsimp (disch := omega) only [↓run_nil, ↓run_i, ↓co_seq, ↓co_skip, ↓co_ret, ↓co_reg, ↓co_cond, ↓co_block, ↓op_mov, ↓op_bin, ↓op_fld, ↓op_ixs, ↓op_ld, Res_ret, resL_nil, resL_t, resV_one, nn4_int, WF_eq, W1_some, ↓ev_t, ↓ev_c, ↓upd_at, ↓get_cons, ↓frm_nil, ↓frm_cons, bin_sub, bin_eql, bin_geq, load_ptr, fld_ptr, wrap_i64, eq_self, true_and, List.getD_cons_zero, List.cons_append, List.nil_append, Option.map_some, Nat.reduceEqDiff, Nat.add_zero, ↓reduceIte, reduceCtorEq, *, hl.ixs, hl.ld0, encN, hdJ]))
    refine Next.mk k ⟨rfl, by omega, ?_, rfl, rfl, rfl⟩ (by omega)
    rw [if_neg (by rw [e2]; assumption)]
def fewOf (r : Raw) : Raw := { r with gap := r.gap % 12, cuts := r.cuts.take 5 }
theorem few08 (hE : Laid E) {h : Heap} {v : Value} {l : List Raw} (hl : RdR h v l) {most : Int} (hm : 0 ≤ most) (hm2 : most ≤ 4096) :
    ∃ v' ys, callW E (.func (.func n_cadencyref08_Few) #[] #[]) [v, .int .i64 most] h = some (v', h ++ ys, []) ∧ RdR (h ++ ys) v' ((l.take most.toNat).map fewOf) := by
  suffices H : ∃ v' ys, callW E (.func (.func n_cadencyref08_Few) #[] #[]) [v, .int .i64 most] h = some (v', h ++ ys, []) ∧ RdR (h ++ ys) v' ((l.take most.toNat).map fewOf) ∧ ((l.take most.toNat).map fewOf ≠ [] → h.length ≤ blk v') by
    obtain ⟨v', ys, h1, h2, _⟩ := H; exact ⟨v', ys, h1, h2⟩
  refine fn_new hE.cadencyref08_Few rfl (RdN.movable (hd := hdR) (cs := Raw.cuts) (sz := 5) (fun _ => rfl) (fun _ => rfl) _) (by simp) ?_
  obtain ⟨lv, rfl, hlv, hc⟩ := hl.is
  have few := hlv.few
  simp only [argsF]
  (repeat' (first | ((with_reducible refine WG_dec (fun _ => ?_) (fun _ => ?_)) <;> try (exfalso; omega)) | ((with_reducible refine WG_decF (fun _ => ?_) (fun _ => ?_)) <;> try (exfalso; omega)) | ((with_reducible refine WC_dec (fun _ => ?_) (fun _ => ?_)) <;> try (exfalso; omega)) | refine WC_bool (fun _ => ?_) (fun _ => ?_) | refine WG_bool (fun _ => ?_) (fun _ => ?_) | refine WG_boolF (fun _ => ?_) (fun _ => ?_) | simp -dsimp (disch := omega) only [↓run_nil, ↓run_i, ↓co_seq, ↓co_reg, ↓co_block, ↓co_loop, ↓op_mov, WF_eq, W1_some, ↓ev_c, ↓upd_at, ↓get_cons, ↓frm_nil, ↓frm_cons, eq_self, Nat.reduceEqDiff, Nat.zero_add, ↓reduceIte, reduceCtorEq, *]))
  refine WO.loop (fun n fr h' => Pre h h' ∧ n ≤ lv.length ∧ n ≤ most ∧ get fr 0 = v ∧ get fr 1 = .int .i64 most ∧ get fr 6 = .int .i64 n ∧ ∃ lw : List (NV Raw), lw.map (·.j) = ((lv.map (·.j)).take n).map fewOf ∧ OwnT h.length 5 (encN hdR) h' (get fr 5) lw ∧ ∀ p ∈ lw, Rd 1 encI h p.v p.j.cuts) (fun n => lv.length - n) ?_ 0 ⟨Pre.refl _, Nat.zero_le _, hm, rfl, rfl, rfl, [], rfl, OwnT.nil, by simp⟩
  rintro n fr h' ⟨hp, hn, hn2, g0, g1, g6, lw, e1, ho, hw⟩
  generalize hvo : get fr 5 = vo at ho
  have hlen : lw.length = n := by have := congrArg List.length e1; simp at this; omega
  have hl' := hlv.pre hp
  unfold c_cadencyref08_Few_l0
  rcases Nat.lt_or_ge n lv.length with hlt | hge
  · by_cases hlm : (n : Int) < most
    · have hmem := atI_mem (l := lv) (i := n) (by omega) (by omega)
      have hcn := (hc _ hmem).pre hp
      have hcn0 := hc _ hmem
      have hrest := rest08 hE
      have e2 : atI (lv.map (·.j)) (n : Int) = (atI lv n).j := (atI_map' (fun p : NV Raw => p.j) lv n (by omega) (by omega)).symm
      have hle := hp.le
      have sl : ∃ v', (5 < ((atI lv n).j.cuts.length : Int) → slsV 1 (atI lv n).v none (some (.int .i64 5)) none = some v') ∧ (¬ 5 < ((atI lv n).j.cuts.length : Int) → v' = (atI lv n).v) ∧ Rd 1 encI h v' ((atI lv n).j.cuts.take 5) := by
        by_cases h5 : 5 < ((atI lv n).j.cuts.length : Int)
        · obtain ⟨v', h1, h2, _⟩ := hcn0.sls_hi (k := .i64) (n := 5) (by omega) (by omega)
          exact ⟨v', fun _ => h1, fun h => absurd h5 h, h2⟩
        · exact ⟨_, fun h => absurd h h5, fun _ => rfl, by rw [List.take_of_length_le (by omega)]; exact hcn0⟩
      obtain ⟨v', s1, s2, s3⟩ := sl
      have s4 := s3.one
      have s5 := s3.cv
      clear hc
      (repeat' (first | ((with_reducible refine WG_dec (fun _ => ?_) (fun _ => ?_)) <;> try (exfalso; omega)) | ((with_reducible refine WG_decF (fun _ => ?_) (fun _ => ?_)) <;> try (exfalso; omega)) | ((with_reducible refine WC_dec (fun _ => ?_) (fun _ => ?_)) <;> try (exfalso; omega)) | refine WC_bool (fun _ => ?_) (fun _ => ?_) | refine WG_bool (fun _ => ?_) (fun _ => ?_) | refine WG_boolF (fun _ => ?_) (fun _ => ?_) | simp -dsimp (disch := omega) only [↓run_nil, ↓run_i, ↓run_k, ↓run_w, ↓op_st, ↓op_call, ↓co_seq, ↓co_skip, ↓co_reg, ↓co_cond, ↓co_block, ↓op_mov, ↓op_pick, ↓op_bin, ↓op_fld, ↓op_ixs, ↓op_sls, ↓op_lens, ↓op_ld, ↓op_all, ↓op_bsl, ↓op_app, WF_eq, W1_some, WX_some, WH_some1, WC_true, WG_true, ↓ev_t, ↓ev_c, ↓ev_f, ↓upd_at, ↓get_cons, ↓frm_nil, ↓frm_cons, bin_lss, bin_gtr, pick_t, cellsV_int, cellsV_agg, one_int, one_slice, fillV_nil, fillV_cons, setCells_nil, setCells_cons, load_ptr, ldO_cells, part_none, part_some, store_ptr, stO_cells, fld_ptr, geta0, seta0, newCells, bslV, eq_self, List.map_cons, List.map_nil, List.length_append, List.length_cons, List.length_nil, List.all_cons, List.all_nil, Bool.and_self, true_and, and_self, List.getElem?_cons_zero, List.getElem?_cons_succ, List.set_cons_zero, List.set_cons_succ, List.drop_zero, List.take_succ_cons, List.take_zero, List.append_assoc, List.cons_append, List.nil_append, List.append_nil, Option.bind_some, Option.map_some, Option.map_none, Nat.reduceEqDiff, Nat.reduceAdd, Nat.reduceLeDiff, Nat.reduceMul, Nat.zero_add, ↓reduceIte, reduceCtorEq, decide_true, decide_false, List.flatten_cons, List.flatten_nil, List.replicate_succ, List.replicate_zero, Nat.le_refl, *, hl'.len, hl'.ixs, hl'.lda, encN, hdR, hcn.len, hcn.one, hp.le]))
      case' refine_1 =>
        have s1 := s1 ‹_›
        clear s2
        (repeat' (first | ((with_reducible refine WG_dec (fun _ => ?_) (fun _ => ?_)) <;> try (exfalso; omega)) | ((with_reducible refine WG_decF (fun _ => ?_) (fun _ => ?_)) <;> try (exfalso; omega)) | ((with_reducible refine WC_dec (fun _ => ?_) (fun _ => ?_)) <;> try (exfalso; omega)) | refine WC_bool (fun _ => ?_) (fun _ => ?_) | refine WG_bool (fun _ => ?_) (fun _ => ?_) | refine WG_boolF (fun _ => ?_) (fun _ => ?_) | simp -dsimp (disch := omega) only [↓run_nil, ↓run_i, ↓run_k, ↓run_w, ↓run_wk, ↓rd_nil, ↓rd_i, ↓rd_k, ↓rd_w, ↓rd_wk, ↓op_st, ↓op_call, ↓opd_st, ↓opd_stt, ↓opd_call, ↓opd_callt, ↓co_seq, ↓co_skip, ↓co_exit, ↓co_ret, ↓co_reg, ↓co_drw, ↓co_cond, ↓co_block, ↓co_loop, ↓op_mov, ↓op_pick, ↓op_bin, ↓op_un, ↓op_cvi, ↓op_cvs, ↓op_bld, ↓op_fld, ↓op_fof, ↓op_ixa, ↓op_ixs, ↓op_ixv, ↓op_ixt, ↓op_slt, ↓op_sls, ↓op_sla, ↓op_nil, ↓op_ext, ↓op_mkf, ↓op_mki, ↓op_lens, ↓op_lena, ↓op_min, ↓op_max, ↓op_ld, ↓op_look, ↓op_lenm, ↓op_b2s, ↓op_all, ↓op_box, ↓op_bsl, ↓op_msl, ↓op_mkm, ↓op_s2b, ↓op_mup, ↓op_app, ↓op_cpy, ↓op_clr, ↓op_del, ↓opd_mov, ↓opd_pick, ↓opd_bin, ↓opd_un, ↓opd_cvi, ↓opd_cvs, ↓opd_bld, ↓opd_fld, ↓opd_fof, ↓opd_ixa, ↓opd_ixs, ↓opd_ixv, ↓opd_ixt, ↓opd_slt, ↓opd_sls, ↓opd_sla, ↓opd_nil, ↓opd_ext, ↓opd_mkf, ↓opd_mki, ↓opd_lens, ↓opd_lena, ↓opd_min, ↓opd_max, ↓opd_ld, ↓opd_look, ↓opd_lenm, ↓opd_b2s, ↓opd_all, ↓opd_box, ↓opd_bsl, ↓opd_msl, ↓opd_mkm, ↓opd_s2b, ↓opd_mup, ↓opd_app, ↓opd_cpy, ↓opd_clr, ↓opd_del, ↓opd_ldt, ↓opd_lookt, ↓opd_lenmt, ↓opd_b2st, WQ_same, Res_ret, Res_normal, resL_nil, resL_t, resL_v, resV_one, resV_two, resV_nil, nn4_int, nn4_bool, nn4_str, nn4_slice, nn4_nils, nn4_ptr, nn4_nilp, nn4_agg, nn4_tuple, nn4_func, nn3_int, nn3_bool, nn3_str, nn3_slice, nn3_nils, nn3_ptr, nn3_nilp, nn3_agg, nn3_tuple, nn3_func, nn2_int, nn2_bool, nn2_str, nn2_slice, nn2_nils, nn2_ptr, nn2_nilp, nn2_agg, nn2_tuple, nn2_func, WF_eq, W1_some, WX_some, WX_some1, WH_some1, WO_some, WC_true, WC_false, WG_true, WG_false, WG_tf, WG_ft, WG_undef, ↓ev_t, ↓ev_c, ↓ev_f, ↓upd_at, ↓get_cons, ↓frm_nil, ↓frm_cons, bin_add, bin_sub, bin_mul, bin_eql, bin_neq, bin_lss, bin_leq, bin_gtr, bin_geq, un_neg, un_not, bin_beq, bin_bne, bin_seq, bin_sne, cvi_int, cvs_str, pick_t, pick_f, cellsV_int, cellsV_bool, cellsV_str, cellsV_ptr, cellsV_slice, cellsV_map, cellsV_func, cellsV_agg, cellsV_nilf, one_int, one_bool, one_str, one_ptr, one_slice, one_map, one_func, one_nilf, fillV_nil, fillV_cons, setCells_nil, setCells_cons, load_ptr, ldO_cells, part_none, part_some, store_ptr, stO_cells, fld_ptr, fof_agg, nil_ptr, nil_func, lens_slice, lens_str, ext_tuple, nt_int, nt_bool, nt_str, nt_slice, nt_ptr, nt_agg, nt_map, nt_func, ixs_some, ixa_some, min_1, min_2, max_1, max_2, geta, geta0, seta, seta0, room0, room1, room2, room3, room4, newCells, bslV, wrap_i64, wrap_u64, wrap_u8, bin_rem, bin_quo, bin_sadd, b2s_slice, bytes_nil, bytes_cons, cellsOf_some, cellO_cells, slt_some, dnot, eq_self, beq_self_eq_true, bin_fnil, bin_ffnil, look_map, mup_map, gset, gets, List.length_set, hadd, ints_ld, ints_lds, ints_st, ints_len, msl_ints, Bool.not_true, Bool.not_false, List.map_cons, List.map_nil, List.length_append, List.length_cons, List.length_nil, List.all_cons, List.all_nil, Bool.and_true, Bool.true_and, Bool.and_self, and_true, true_and, and_self, List.getElem?_cons_zero, List.getElem?_cons_succ, List.getD_cons_zero, List.getD_cons_succ, List.set_cons_zero, List.set_cons_succ, List.drop_zero, List.drop_succ_cons, List.take_succ_cons, List.take_zero, List.append_assoc, List.cons_append, List.nil_append, List.append_nil, Option.bind_some, Option.map_some, Option.map_none, Nat.reduceEqDiff, Nat.reduceAdd, Nat.reduceLeDiff, Nat.reduceMul, Nat.zero_add, Nat.add_zero, ↓reduceIte, reduceCtorEq, decide_true, decide_false, decide_eq_true_eq, not_true_eq_false, not_false_eq_true, List.flatten_cons, List.flatten_nil, List.replicate_succ, List.replicate_zero, Nat.le_refl, Nat.le_add_right, *, hp.le, hp.le_add]))
      case' refine_2 => have s2 := s2 ‹_›
      all_goals
        refine wx_app1 (sz := 5) (bytes := 56) (ho.app _) (hp.app' _) (Nat.le_refl _) (by simp; omega) (fun b hb => hb) ⟨fewOf (atI lv n).j, v'⟩ ?_ rfl (by decide) (by decide) (by omega) ?_
        · simp -dsimp (disch := omega) only [geta, cellsOf_some, cellO_cells, List.length_cons, List.length_nil, List.getElem?_cons_zero, List.getElem?_cons_succ, List.drop_zero, List.take_succ_cons, List.take_zero, Nat.reduceAdd, Nat.reduceMul, Nat.zero_add, ↓reduceIte, Nat.le_refl]
          simp [encN, hdR, fewOf, *]
        · intro v2 h2 k1 k2 k3 k4 k5
          clear k5
          (repeat' (first | ((with_reducible refine WG_dec (fun _ => ?_) (fun _ => ?_)) <;> try (exfalso; omega)) | ((with_reducible refine WG_decF (fun _ => ?_) (fun _ => ?_)) <;> try (exfalso; omega)) | ((with_reducible refine WC_dec (fun _ => ?_) (fun _ => ?_)) <;> try (exfalso; omega)) | refine WC_bool (fun _ => ?_) (fun _ => ?_) | refine WG_bool (fun _ => ?_) (fun _ => ?_) | refine WG_boolF (fun _ => ?_) (fun _ => ?_) | simp -dsimp (disch := omega) only [↓run_nil, ↓run_i, ↓co_reg, ↓op_mov, ↓op_bin, WF_eq, W1_some, ↓ev_t, ↓ev_c, ↓upd_at, ↓get_cons, ↓frm_nil, ↓frm_cons, bin_add, wrap_i64, eq_self, Nat.reduceEqDiff, ↓reduceIte, reduceCtorEq, *]))
          refine Next.mk (n + 1) ⟨k2, by omega, by omega, rfl, rfl, rfl, lw ++ [NV.mk (fewOf (atI lv n).j) v'], ?_, k1, ?_⟩ (by omega)
          · rw [take_snoc (by simpa using hlt), List.map_append, List.map_append, e1, e2]; rfl
          · intro p hp'
            rcases List.mem_append.1 hp' with hp' | hp'
            · exact hw p hp'
            · rw [List.mem_singleton.1 hp']; exact s3
    · have : most.toNat = n := by omega
      rw [this]
      (repeat' (first | ((with_reducible refine WG_dec (fun _ => ?_) (fun _ => ?_)) <;> try (exfalso; omega)) | ((with_reducible refine WG_decF (fun _ => ?_) (fun _ => ?_)) <;> try (exfalso; omega)) | ((with_reducible refine WC_dec (fun _ => ?_) (fun _ => ?_)) <;> try (exfalso; omega)) | refine WC_bool (fun _ => ?_) (fun _ => ?_) | refine WG_bool (fun _ => ?_) (fun _ => ?_) | refine WG_boolF (fun _ => ?_) (fun _ => ?_) | simp -dsimp (disch := omega) only [↓run_nil, ↓run_i, ↓run_w, ↓co_seq, ↓co_exit, ↓co_ret, ↓co_reg, ↓co_cond, ↓op_mov, ↓op_pick, ↓op_bin, ↓op_lens, Res_ret, resL_nil, resL_t, resV_one, WF_eq, W1_some, WC_false, WG_true, ↓ev_t, ↓ev_c, ↓upd_at, ↓get_cons, ↓frm_nil, ↓frm_cons, bin_lss, pick_t, eq_self, Option.map_some, Nat.reduceEqDiff, ↓reduceIte, reduceCtorEq, decide_true, decide_false, *, hl'.len]))
      exact ⟨hp.ex, ⟨lw, e1, ho.rd, fun p hp' => (hw p hp').pre hp⟩, fun hne => ho.ge (by intro e; apply hne; rw [← e1, e]; rfl)⟩
  · have : (lv.map (·.j)).take most.toNat = (lv.map (·.j)).take n := by rw [List.take_of_length_le (by simp; omega), List.take_of_length_le (by simp; omega)]
    rw [this]
    (repeat' (first | ((with_reducible refine WG_dec (fun _ => ?_) (fun _ => ?_)) <;> try (exfalso; omega)) | ((with_reducible refine WG_decF (fun _ => ?_) (fun _ => ?_)) <;> try (exfalso; omega)) | ((with_reducible refine WC_dec (fun _ => ?_) (fun _ => ?_)) <;> try (exfalso; omega)) | refine WC_bool (fun _ => ?_) (fun _ => ?_) | refine WG_bool (fun _ => ?_) (fun _ => ?_) | refine WG_boolF (fun _ => ?_) (fun _ => ?_) | simp -dsimp (disch := omega) only [↓run_nil, ↓run_i, ↓run_w, ↓co_seq, ↓co_exit, ↓co_ret, ↓co_reg, ↓co_cond, ↓op_mov, ↓op_pick, ↓op_bin, ↓op_lens, Res_ret, resL_nil, resL_t, resV_one, WF_eq, W1_some, WC_false, WG_ft, ↓ev_t, ↓ev_c, ↓upd_at, ↓get_cons, ↓frm_nil, ↓frm_cons, bin_lss, pick_f, eq_self, Option.map_some, Nat.reduceEqDiff, ↓reduceIte, reduceCtorEq, decide_false, *, hl'.len]))
    exact ⟨hp.ex, ⟨lw, e1, ho.rd, fun p hp' => (hw p hp').pre hp⟩, fun hne => ho.ge (by intro e; apply hne; rw [← e1, e]; rfl)⟩
end Go.L.Try

/- JOBS OF RAW NUMBERS: cadencyref08.Decode. -/
set_option linter.unusedVariables false
set_option linter.unusedSimpArgs false
set_option maxRecDepth 100000
set_option maxHeartbeats 1000000
namespace Go.L.Try
open Go Go.L
variable {E : Env}
def cutsP (q : Int) : List Int → Int → List Int
  | [], _ => []
  | c :: r, left => if 0 < left then (1 + c % (min q left)) :: cutsP q r (left - (1 + c % (min q left))) else []
theorem dec_l0 (hE : Laid E) {W : Nat → Prop} {h0 : Heap} {v0 v1 v5 : Value} {lv : List (NV Raw)} (hl : Rd 5 (encN hdR) h0 v1 lv) {i : Nat} (hi : i < lv.length) (hc : Rd 1 encI h0 (atI lv i).v (atI lv i).j.cuts)
    {a1 a2 a3 w q : Int} {x0 x1 x2 x3 x4 x6 : Value} (hw : 1 ≤ w) (hw2 : w ≤ 2147483647) (hq1 : 1 ≤ q) (hq2 : q ≤ 2147483647) (hW : ∀ b, h0.length ≤ b → W b) {Q : Ex → Fr → Heap → Prop} {fr : Fr}
    (g0 : get fr 0 = v0) (g1 : get fr 1 = v1) (g5 : get fr 5 = v5) (g6 : get fr 6 = .int .i64 i) (g7 : get fr 7 = .pointer (some ⟨h0.length, 0, none⟩)) (g8 : get fr 8 = .pointer (some ⟨h0.length + 1, 0, none⟩)) (g10 : get fr 10 = .int .i64 w) (g11 : get fr 11 = .int .i64 0)
    (hq : ∀ fr' h' vc, get fr' 0 = v0 → get fr' 1 = v1 → get fr' 5 = v5 → get fr' 6 = .int .i64 i → get fr' 7 = .pointer (some ⟨h0.length, 0, none⟩) → Pre h0 h' → h0.length + 2 ≤ h'.length →
      h'[h0.length]? = some (.cells [.int .i64 a1, .int .i64 a2, .int .i64 a3, .int .i64 w, vc] false) → OwnT (h0.length + 2) 1 encI h' vc (cutsP q (atI lv i).j.cuts w) → Q (.exit 2) fr' h') :
    WO W (iterW (code (callW E) iterW 133 c_cadencyref08_Decode_l0) fr (h0 ++ [.cells [.int .i64 a1, .int .i64 a2, .int .i64 a3, .int .i64 w, .slice none 0 0] false, .cells [x0, x1, x2, x3, x4, .int .i64 q, x6] false])) Q := by
  have few := hc.few
  have fewl := hl.few
  refine WO.loop (fun c fr h' => Pre h0 h' ∧ h0.length + 2 ≤ h'.length ∧ c ≤ (atI lv i).j.cuts.length ∧ get fr 0 = v0 ∧ get fr 1 = v1 ∧ get fr 5 = v5 ∧ get fr 6 = .int .i64 i ∧ get fr 7 = .pointer (some ⟨h0.length, 0, none⟩) ∧ get fr 8 = .pointer (some ⟨h0.length + 1, 0, none⟩) ∧ get fr 11 = .int .i64 c ∧
      h'[h0.length + 1]? = some (.cells [x0, x1, x2, x3, x4, .int .i64 q, x6] false) ∧ ∃ left vc done, get fr 10 = .int .i64 left ∧ 0 ≤ left ∧ (done.length : Int) + left ≤ w ∧ h'[h0.length]? = some (.cells [.int .i64 a1, .int .i64 a2, .int .i64 a3, .int .i64 w, vc] false) ∧ OwnT (h0.length + 2) 1 encI h' vc done ∧ done.length = c ∧ cutsP q (atI lv i).j.cuts w = done ++ cutsP q ((atI lv i).j.cuts.drop c) left)
    (fun c => (atI lv i).j.cuts.length - c) ?_ 0 ⟨Pre.app _ _, by simp, Nat.zero_le _, g0, g1, g5, g6, g7, g8, g11, by rw [geta]; rfl, w, .slice none 0 0, [], g10, by omega, by simp, by rw [geta0]; rfl, OwnT.nil, rfl, rfl⟩
  rintro c fr h' ⟨hp, hlen, hcl, g0, g1, g5, g6, g7, g8, g11, ht, left, vc, done, g10, hle0, hle1, hj, ho, hdl, hcut⟩
  have hl' := hl.pre hp
  have hc' := hc.pre hp
  have hone := ho.rd.one
  have hcv := ho.rd.cv
  unfold c_cadencyref08_Decode_l0
  by_cases hlt : c < (atI lv i).j.cuts.length
  · by_cases hpos : 0 < left
    · have hr := emod_in (atI (atI lv i).j.cuts (c : Int)) (min q left) (by omega)
      have hstep : cutsP q ((atI lv i).j.cuts.drop c) left = (1 + atI (atI lv i).j.cuts (c : Int) % (min q left)) :: cutsP q ((atI lv i).j.cuts.drop (c + 1)) (left - (1 + atI (atI lv i).j.cuts (c : Int) % (min q left))) := by
        rw [List.drop_eq_getElem_cons hlt, cutsP, if_pos hpos, atI_nat hlt]
      rw [hstep] at hcut
      clear hstep hq
      (repeat' (first | ((with_reducible refine WG_dec (fun _ => ?_) (fun _ => ?_)) <;> try (exfalso; omega)) | ((with_reducible refine WG_decF (fun _ => ?_) (fun _ => ?_)) <;> try (exfalso; omega)) | ((with_reducible refine WC_dec (fun _ => ?_) (fun _ => ?_)) <;> try (exfalso; omega)) | refine WC_bool (fun _ => ?_) (fun _ => ?_) | refine WG_bool (fun _ => ?_) (fun _ => ?_) | refine WG_boolF (fun _ => ?_) (fun _ => ?_) | simp -dsimp (disch := omega) only [↓run_nil, ↓run_i, ↓run_w, ↓rd_nil, ↓rd_i, ↓opd_call, ↓co_seq, ↓co_skip, ↓co_reg, ↓co_drw, ↓co_cond, ↓co_block, ↓op_mov, ↓op_pick, ↓op_bin, ↓op_fld, ↓op_ixs, ↓op_lens, ↓op_ld, ↓op_bsl, ↓op_app, ↓opd_mov, ↓opd_bin, ↓opd_fld, ↓opd_ixs, ↓opd_min, ↓opd_ld, WF_eq, W1_some, WX_some, WC_true, WG_true, ↓ev_t, ↓ev_c, ↓ev_f, ↓upd_at, ↓get_cons, ↓frm_nil, ↓frm_cons, bin_add, bin_lss, bin_gtr, pick_t, cellsV_int, one_int, fillV_nil, fillV_cons, setCells_nil, setCells_cons, load_ptr, ldO_cells, part_none, fld_ptr, min_1, min_2, room0, newCells, bslV, wrap_i64, eq_self, List.map_cons, List.map_nil, List.length_cons, List.length_nil, List.all_cons, List.all_nil, Bool.and_self, and_self, List.getElem?_cons_zero, List.getElem?_cons_succ, List.getD_cons_zero, List.getD_cons_succ, List.set_cons_zero, List.cons_append, List.nil_append, List.append_nil, Option.bind_some, Nat.reduceEqDiff, Nat.reduceLeDiff, Nat.reduceMul, Nat.zero_add, ↓reduceIte, reduceCtorEq, decide_true, List.flatten_cons, List.flatten_nil, List.replicate_succ, List.replicate_zero, Nat.le_refl, *, hl'.ixs, hl'.ld, hc'.len, hc'.ixs, hc'.ld0, encN, hdR, encI, rest08 hE]))
      refine wx_app1 (sz := 1) (bytes := 8) (ho.app _) (hp.app' _) (m := h0.length + 2) (by omega) (by simp; omega) (fun b hb => hW b (by omega)) (1 + atI (atI lv i).j.cuts (c : Int) % (min q left)) ?_ rfl (by decide) (by decide) (by omega) ?_
      · simp -dsimp (disch := omega) only [geta0, cellsOf_some, cellO_cells, List.length_cons, List.length_nil, List.getElem?_cons_zero, List.drop_zero, List.take_succ_cons, List.take_zero, Nat.reduceMul, Nat.zero_add, ↓reduceIte, Nat.le_refl]
        rfl
      · intro v2 h2 k1 k2 k3 k4 k5
        have j2 : h2[h0.length]? = some (.cells [.int .i64 a1, .int .i64 a2, .int .i64 a3, .int .i64 w, vc] false) := by
          rw [k5 _ (by simp; omega) (fun hn => by have := ho.ge hn; omega), List.getElem?_append_left (by omega)]; exact hj
        have t2 : h2[h0.length + 1]? = some (.cells [x0, x1, x2, x3, x4, .int .i64 q, x6] false) := by
          rw [k5 _ (by simp; omega) (fun hn => by have := ho.ge hn; omega), List.getElem?_append_left (by omega)]; exact ht
        have o2 := k1.rd.one
        have c2 := k1.rd.cv
        have hW0 := hW h0.length (Nat.le_refl _)
        have hlt2 := (List.getElem?_eq_some_iff.1 j2).1
        simp only [List.length_append, List.length_cons, List.length_nil] at k4
        clear k5 hj ht
        (repeat' (first | ((with_reducible refine WG_dec (fun _ => ?_) (fun _ => ?_)) <;> try (exfalso; omega)) | ((with_reducible refine WG_decF (fun _ => ?_) (fun _ => ?_)) <;> try (exfalso; omega)) | ((with_reducible refine WC_dec (fun _ => ?_) (fun _ => ?_)) <;> try (exfalso; omega)) | refine WC_bool (fun _ => ?_) (fun _ => ?_) | refine WG_bool (fun _ => ?_) (fun _ => ?_) | refine WG_boolF (fun _ => ?_) (fun _ => ?_) | simp -dsimp (disch := omega) only [↓run_nil, ↓run_i, ↓run_k, ↓op_st, ↓co_reg, ↓op_mov, ↓op_bin, ↓op_fld, WF_eq, W1_some, WH_some1, ↓ev_t, ↓ev_c, ↓upd_at, ↓get_cons, ↓frm_nil, ↓frm_cons, bin_add, bin_sub, setCells_nil, setCells_cons, store_ptr, stO_cells, fld_ptr, wrap_i64, eq_self, List.length_cons, List.length_nil, List.all_cons, List.all_nil, Bool.and_self, true_and, and_self, List.set_cons_zero, List.set_cons_succ, Nat.reduceEqDiff, Nat.reduceAdd, Nat.zero_add, ↓reduceIte, reduceCtorEq, Nat.le_refl, *]))
        refine Next.mk (c + 1) ⟨k2.set (Nat.le_refl _) _, by simp; omega, by omega, rfl, rfl, rfl, rfl, rfl, rfl, rfl, by rw [gets (by omega)]; exact t2, _, v2, done ++ [1 + atI (atI lv i).j.cuts (c : Int) % (min q left)], rfl, by omega, by simp only [List.length_append, List.length_cons, List.length_nil]; omega, List.getElem?_set_self hlt2, ?_, by simp [hdl], ?_⟩ (by omega)
        · exact k1.keep fun hn => gets (by have := k1.ge hn; omega)
        · rw [hcut, List.append_assoc]; rfl
    · have hc0 : cutsP q ((atI lv i).j.cuts.drop c) left = [] := by
        rw [List.drop_eq_getElem_cons hlt, cutsP, if_neg hpos]
      rw [hc0, List.append_nil] at hcut
      rw [hcut] at hq
      clear hcut
      (repeat' (first | ((with_reducible refine WG_dec (fun _ => ?_) (fun _ => ?_)) <;> try (exfalso; omega)) | ((with_reducible refine WG_decF (fun _ => ?_) (fun _ => ?_)) <;> try (exfalso; omega)) | ((with_reducible refine WC_dec (fun _ => ?_) (fun _ => ?_)) <;> try (exfalso; omega)) | refine WC_bool (fun _ => ?_) (fun _ => ?_) | refine WG_bool (fun _ => ?_) (fun _ => ?_) | refine WG_boolF (fun _ => ?_) (fun _ => ?_) | simp -dsimp (disch := omega) only [↓run_nil, ↓run_i, ↓run_w, ↓co_seq, ↓co_exit, ↓co_reg, ↓co_cond, ↓op_mov, ↓op_pick, ↓op_bin, ↓op_fld, ↓op_ixs, ↓op_lens, ↓op_ld, WF_eq, W1_some, WC_false, WG_true, ↓ev_t, ↓ev_c, ↓upd_at, ↓get_cons, ↓frm_nil, ↓frm_cons, bin_lss, bin_gtr, pick_t, load_ptr, fld_ptr, eq_self, List.getD_cons_zero, List.getD_cons_succ, List.cons_append, List.nil_append, Nat.reduceEqDiff, ↓reduceIte, reduceCtorEq, decide_true, decide_false, *, hl'.ixs, hl'.ld, hc'.len, encN, hdR]))
      exact hq _ _ _ rfl rfl rfl rfl rfl hp hlen hj ho
  · have hc0 : cutsP q ((atI lv i).j.cuts.drop c) left = [] := by
      rw [List.drop_of_length_le (by omega)]; rfl
    rw [hc0, List.append_nil] at hcut
    rw [hcut] at hq
    clear hcut
    (repeat' (first | ((with_reducible refine WG_dec (fun _ => ?_) (fun _ => ?_)) <;> try (exfalso; omega)) | ((with_reducible refine WG_decF (fun _ => ?_) (fun _ => ?_)) <;> try (exfalso; omega)) | ((with_reducible refine WC_dec (fun _ => ?_) (fun _ => ?_)) <;> try (exfalso; omega)) | refine WC_bool (fun _ => ?_) (fun _ => ?_) | refine WG_bool (fun _ => ?_) (fun _ => ?_) | refine WG_boolF (fun _ => ?_) (fun _ => ?_) | simp -dsimp (disch := omega) only [↓run_nil, ↓run_i, ↓run_w, ↓co_seq, ↓co_exit, ↓co_reg, ↓co_cond, ↓op_mov, ↓op_pick, ↓op_bin, ↓op_fld, ↓op_ixs, ↓op_lens, ↓op_ld, WF_eq, W1_some, WC_false, WG_ft, ↓ev_t, ↓ev_c, ↓upd_at, ↓get_cons, ↓frm_nil, ↓frm_cons, bin_lss, pick_f, load_ptr, fld_ptr, eq_self, List.getD_cons_zero, List.getD_cons_succ, List.cons_append, List.nil_append, Nat.reduceEqDiff, ↓reduceIte, reduceCtorEq, decide_false, *, hl'.ixs, hl'.ld, hc'.len, encN, hdR]))
    exact hq _ _ _ rfl rfl rfl rfl rfl hp hlen hj ho
def jobOf (l : List Task) (out : List Job) (r : Raw) : Job :=
  let t := atI l (r.task % l.length)
  let k := lastN out (r.task % l.length) out.length
  let a := if 0 ≤ k then r.gap % 1048576 + (atI out k).arrive + t.T else r.gap % 1048576
  let w := 1 + r.work % t.C
  ⟨r.task % l.length, a, a + r.late % (t.J + 1), w, cutsP t.Q r.cuts w⟩
def jobsP (l : List Task) (raw : List Raw) : List Job := raw.foldl (fun out r => out ++ [jobOf l out r]) []
def okTask (t : Task) : Prop := rangesB t ∧ fitsB t
theorem checkFrom_ok {l : List Task} : ∀ {n : Nat} {i : Int}, (checkFrom l n i).2 = 0 → ∀ j : Nat, j < n → checkP (atI l (i + j)) = 0
  | 0, i, _, j, hj => by omega
  | n + 1, i, h, j, hj => by
    unfold checkFrom at h
    split at h
    · rename_i h1; exact absurd h h1
    · split at h
      · cases h
      · rename_i h1 _
        cases j with
        | zero => have : checkP (atI l i) = 0 := by simpa using h1
                  simpa using this
        | succ j =>
          have := checkFrom_ok h j (by omega)
          rw [show i + ((j + 1 : Nat) : Int) = i + 1 + (j : Int) by omega]; exact this
theorem checkAll_ok {l : List Task} (h : (checkAllP l).2 = 0) : 0 < l.length ∧ l.length ≤ 1024 ∧ ∀ t ∈ l, okTask t := by
  unfold checkAllP at h
  split at h
  · cases h
  · rename_i hn
    refine ⟨by omega, by omega, fun t ht => ?_⟩
    obtain ⟨j, hj, rfl⟩ := List.getElem_of_mem ht
    have h1 := checkFrom_ok h j hj
    rw [show (0 : Int) + (j : Int) = (j : Int) by omega, atI_nat hj] at h1
    unfold checkP at h1
    split at h1
    · split at h1
      · exact ⟨‹_›, ‹_›⟩
      · cases h1
    · cases h1
def decodeP (l : List Task) (raw : List Raw) : List Job := if (checkAllP l).2 = 0 then jobsP l (raw.take 4096) else []
theorem jobsP_snoc (l : List Task) (raw : List Raw) (r : Raw) : jobsP l (raw ++ [r]) = jobsP l raw ++ [jobOf l (jobsP l raw) r] := by simp [jobsP]
theorem jobsP_len (l : List Task) (raw : List Raw) : (jobsP l raw).length = raw.length := by
  have : ∀ (raw : List Raw) (out : List Job), (raw.foldl (fun out r => out ++ [jobOf l out r]) out).length = out.length + raw.length := by
    intro raw
    induction raw with
    | nil => intro out; simp
    | cons r s ih => intro out; rw [List.foldl_cons, ih]; simp; omega
  have h := this raw []
  rw [List.length_nil, Nat.zero_add] at h; exact h
/-- The numbers of a job are in bounds. -/
def jobIn (n : Nat) (j : Job) : Prop := 0 ≤ j.arrive ∧ j.arrive ≤ n * 4294967296 ∧ j.arrive ≤ j.release ∧ j.release ≤ j.arrive + 2147483647 ∧ 1 ≤ j.work ∧ j.work ≤ 2147483647
theorem jobOf_in {l : List Task} (hl : 0 < l.length) (hok : ∀ t ∈ l, okTask t) {out : List Job} {n : Nat} (ho : ∀ j ∈ out, jobIn n j) (r : Raw) : jobIn (n + 1) (jobOf l out r) := by
  have h1 := emod_in r.task l.length (by omega)
  have ht := hok _ (atI_mem h1.1 h1.2)
  obtain ⟨ht, hf⟩ := ht
  simp only [rangesB, fitsB] at ht hf
  have h2 := emod_in r.gap 1048576 (by omega)
  have h3 := emod_in r.late ((atI l (r.task % l.length)).J + 1) (by omega)
  have h4 := emod_in r.work (atI l (r.task % l.length)).C (by omega)
  have h5 := lastN_in out (r.task % l.length) out.length
  unfold jobIn jobOf
  dsimp only
  split
  · rename_i hk
    have := ho _ (atI_mem hk (by omega))
    unfold jobIn at this
    simp only [Int.natCast_add, Int.natCast_one]
    omega
  · simp only [Int.natCast_add, Int.natCast_one]
    omega
theorem decode08 (hE : Laid E) {h : Heap} {v0 v1 : Value} {l : List Task} {raw : List Raw} (hl : Rd 7 encT h v0 l) (hs : ∀ t ∈ l, t.name.size < 1152921504606846976) (hr : RdR h v1 raw) :
    ∃ v' ys, callW E (.func (.func n_cadencyref08_Decode) #[] #[]) [v0, v1] h = some (v', h ++ ys, []) ∧ RdJ (h ++ ys) v' (decodeP l raw) := by
  suffices H : ∃ v' ys, callW E (.func (.func n_cadencyref08_Decode) #[] #[]) [v0, v1] h = some (v', h ++ ys, []) ∧ RdJ (h ++ ys) v' (decodeP l raw) ∧ (decodeP l raw ≠ [] → h.length ≤ blk v') by
    obtain ⟨v', ys, h1, h2, _⟩ := H; exact ⟨v', ys, h1, h2⟩
  refine fn_new hE.cadencyref08_Decode rfl (RdN.movable (hd := hdJ) (cs := Job.cuts) (sz := 5) (fun _ => rfl) (fun _ => rfl) _) (by simp) ?_
  obtain ⟨lv, rfl, hlv, hc⟩ := hr.is
  have few := hlv.few
  have fewl := hl.few
  have hca := checkAll04 hE hl hs
  simp only [argsF]
  by_cases hok : (checkAllP l).2 = 0
  · have hne : ¬ ((checkAllP l).2 ≠ 0) := by simpa using hok
    obtain ⟨hl0, hl1, hoks⟩ := checkAll_ok hok
    have hd : decodeP l (lv.map (·.j)) = jobsP l ((lv.map (·.j)).take 4096) := if_pos hok
    rw [hd]
    clear hd
    (repeat' (first | ((with_reducible refine WG_dec (fun _ => ?_) (fun _ => ?_)) <;> try (exfalso; omega)) | ((with_reducible refine WG_decF (fun _ => ?_) (fun _ => ?_)) <;> try (exfalso; omega)) | ((with_reducible refine WC_dec (fun _ => ?_) (fun _ => ?_)) <;> try (exfalso; omega)) | refine WC_bool (fun _ => ?_) (fun _ => ?_) | refine WG_bool (fun _ => ?_) (fun _ => ?_) | refine WG_boolF (fun _ => ?_) (fun _ => ?_) | simp -dsimp (disch := omega) only [↓run_nil, ↓run_i, ↓op_call, ↓co_seq, ↓co_skip, ↓co_reg, ↓co_cond, ↓co_block, ↓co_loop, ↓op_mov, ↓op_bin, ↓op_fof, WF_eq, W1_some, WX_some, WC_false, ↓ev_t, ↓ev_c, ↓ev_f, ↓upd_at, ↓get_cons, ↓frm_nil, ↓frm_cons, bin_neq, part_none, fof_agg, eq_self, List.map_cons, List.map_nil, List.getElem?_cons_zero, List.getElem?_cons_succ, Nat.reduceEqDiff, Nat.zero_add, ↓reduceIte, reduceCtorEq, decide_false, not_true_eq_false, *]))
    clear hca hok hne
    refine WO.loop (fun n fr h' => Pre h h' ∧ n ≤ lv.length ∧ n ≤ 4096 ∧ get fr 0 = v0 ∧ get fr 1 = v1 ∧ get fr 6 = .int .i64 n ∧ (∀ j ∈ jobsP l ((lv.map (·.j)).take n), jobIn n j) ∧ ∃ lw : List (NV Job), lw.map (·.j) = jobsP l ((lv.map (·.j)).take n) ∧ OwnT h.length 5 (encN hdJ) h' (get fr 5) lw ∧ ∀ p ∈ lw, Rd 1 encI h' p.v p.j.cuts ∧ (p.v ≠ .slice none 0 0 → blk p.v ≠ blk (get fr 5))) (fun n => lv.length - n) ?_ 0 ⟨Pre.refl _, Nat.zero_le _, by omega, rfl, rfl, rfl, by simp [jobsP], [], rfl, OwnT.nil, by simp⟩
    rintro n fr h' ⟨hp, hn, hn2, g0, g1, g6, hin, lw, e1, ho, hw⟩
    generalize hvo : get fr 5 = vo at ho hw
    have hlen : lw.length = n := by have := congrArg List.length e1; rw [jobsP_len] at this; simp at this; omega
    have hl' := hl.pre hp
    have hlv' := hlv.pre hp
    unfold c_cadencyref08_Decode_l1
    rcases Nat.lt_or_ge n lv.length with hlt | hge
    · by_cases hlm : (n : Int) < 4096
      · have hmem := atI_mem (l := lv) (i := n) (by omega) (by omega)
        have hcn := (hc _ hmem).pre hp
        have hrest := rest08 hE
        have hlast := fun x t => last08 hE (ho.app x).rd t
        have e2 : atI (lv.map (·.j)) (n : Int) = (atI lv n).j := (atI_map' (fun p : NV Raw => p.j) lv n (by omega) (by omega)).symm
        have ejob : jobsP l ((lv.map (·.j)).take (n + 1)) = lw.map (·.j) ++ [jobOf l (lw.map (·.j)) (atI lv n).j] := by
          rw [take_snoc (by simpa using hlt), jobsP_snoc, e1, e2]
        have hin' : ∀ j ∈ lw.map (·.j), jobIn n j := by rw [e1]; exact hin
        have hjin := jobOf_in hl0 hoks (out := lw.map (·.j)) (n := n) hin' (atI lv n).j
        have h1 := emod_in (atI lv n).j.task l.length (by omega)
        have htk := hoks _ (atI_mem h1.1 h1.2)
        obtain ⟨⟨_, _, tC, tT, tD, tQ, tJ, tP⟩, tf1, tf2, tf3⟩ := htk
        have h2 := emod_in (atI lv n).j.gap 1048576 (by omega)
        have h3 := emod_in (atI lv n).j.late ((atI l ((atI lv n).j.task % l.length)).J + 1) (by omega)
        have h4 := emod_in (atI lv n).j.work (atI l ((atI lv n).j.task % l.length)).C (by omega)
        have h5 := lastN_in (lw.map (·.j)) ((atI lv n).j.task % l.length) lw.length
        have hk : 0 ≤ lastN (lw.map (·.j)) ((atI lv n).j.task % l.length) lw.length → atI (lw.map (·.j)) (lastN (lw.map (·.j)) ((atI lv n).j.task % l.length) lw.length) = (atI lw (lastN (lw.map (·.j)) ((atI lv n).j.task % l.length) lw.length)).j ∧ jobIn n (atI lw (lastN (lw.map (·.j)) ((atI lv n).j.task % l.length) lw.length)).j := fun hk => by
          have e3 := (atI_map' (fun p : NV Job => p.j) lw _ hk (by omega)).symm
          refine ⟨e3, ?_⟩
          have := atI_mem (l := lw.map (·.j)) hk (by simp; omega)
          rw [e3] at this; exact hin' _ this
        have E1 : Hid (lw.map (·.j) = jobsP l ((lv.map (·.j)).take n)) := ⟨e1⟩
        have Ej : Hid (jobsP l ((lv.map (·.j)).take (n + 1)) = lw.map (·.j) ++ [jobOf l (lw.map (·.j)) (atI lv n).j]) := ⟨ejob⟩
        have Hin : Hid (∀ j ∈ lw.map (·.j), jobIn n j) := ⟨hin'⟩
        have Hjin : Hid (jobIn (n + 1) (jobOf l (lw.map (·.j)) (atI lv n).j)) := ⟨hjin⟩
        have hlen1 : lw.length ≤ n := by omega
        have hlen2 : n ≤ lw.length := by omega
        clear hin hoks hc e1 ejob hin' hjin hlen
        unfold jobIn at hk
        (repeat' (first | ((with_reducible refine WG_dec (fun _ => ?_) (fun _ => ?_)) <;> try (exfalso; omega)) | ((with_reducible refine WG_decF (fun _ => ?_) (fun _ => ?_)) <;> try (exfalso; omega)) | ((with_reducible refine WC_dec (fun _ => ?_) (fun _ => ?_)) <;> try (exfalso; omega)) | refine WC_bool (fun _ => ?_) (fun _ => ?_) | refine WG_bool (fun _ => ?_) (fun _ => ?_) | refine WG_boolF (fun _ => ?_) (fun _ => ?_) | simp -dsimp (disch := omega) only [↓run_nil, ↓run_i, ↓run_k, ↓run_w, ↓rd_nil, ↓rd_i, ↓rd_k, ↓op_st, ↓op_call, ↓opd_st, ↓opd_call, ↓opd_callt, ↓co_seq, ↓co_skip, ↓co_reg, ↓co_drw, ↓co_cond, ↓co_block, ↓co_loop, ↓op_mov, ↓op_pick, ↓op_bin, ↓op_bld, ↓op_fld, ↓op_ixs, ↓op_lens, ↓op_ld, ↓op_all, ↓opd_mov, ↓opd_bin, ↓opd_fld, ↓opd_ixs, ↓opd_ld, WQ_same, WF_eq, W1_some, WX_some, WH_some1, WC_true, WG_true, ↓ev_t, ↓ev_c, ↓ev_f, ↓upd_at, ↓get_cons, ↓frm_nil, ↓frm_cons, bin_add, bin_lss, bin_geq, pick_t, cellsV_int, cellsV_agg, one_int, one_str, one_slice, fillV_nil, fillV_cons, setCells_nil, setCells_cons, load_ptr, ldO_cells, part_none, store_ptr, stO_cells, fld_ptr, geta, geta0, seta, seta0, room0, newCells, wrap_i64, eq_self, List.map_cons, List.map_nil, List.length_append, List.length_cons, List.length_nil, List.all_cons, List.all_nil, Bool.and_self, true_and, and_self, List.getElem?_cons_zero, List.getElem?_cons_succ, List.getD_cons_zero, List.getD_cons_succ, List.set_cons_zero, List.set_cons_succ, List.append_assoc, List.cons_append, List.nil_append, Option.map_some, Nat.reduceEqDiff, Nat.reduceAdd, Nat.reduceLeDiff, Nat.zero_add, Nat.add_zero, ↓reduceIte, reduceCtorEq, decide_true, decide_false, Nat.le_refl, *, hl'.len, hl'.ixs, hl'.ldxa, hlv'.len, hlv'.ixs, hlv'.ld0, hlv'.ldx, ho.rd.ixs, ho.rd.ldx, encN, hdR, hdJ, encT, hp.le, hp.le_add]))
        all_goals
          refine dec_l0 hE hlv' hlt hcn (by omega) (by omega) (by omega) (by omega) (fun b hb => by have := hp.le; omega) rfl rfl rfl rfl rfl rfl rfl rfl fun fr2 h2 vc q0 q1 q5 q6 q7 p2 l2 j2 o2 => ?_
          have hcv := o2.rd.one
          have hcv2 := o2.rd.cv
          (repeat' (first | ((with_reducible refine WG_dec (fun _ => ?_) (fun _ => ?_)) <;> try (exfalso; omega)) | ((with_reducible refine WG_decF (fun _ => ?_) (fun _ => ?_)) <;> try (exfalso; omega)) | ((with_reducible refine WC_dec (fun _ => ?_) (fun _ => ?_)) <;> try (exfalso; omega)) | refine WC_bool (fun _ => ?_) (fun _ => ?_) | refine WG_bool (fun _ => ?_) (fun _ => ?_) | refine WG_boolF (fun _ => ?_) (fun _ => ?_) | simp -dsimp (disch := omega) only [↓run_i, ↓co_reg, ↓op_mov, ↓op_ld, ↓op_bsl, ↓op_app, WF_eq, W1_some, ↓ev_t, ↓upd_at, ↓get_cons, cellsV_agg, one_int, fillV_nil, fillV_cons, setCells_nil, setCells_cons, load_ptr, ldO_cells, part_some, newCells, bslV, eq_self, List.map_cons, List.map_nil, List.length_cons, List.length_nil, List.all_cons, List.all_nil, Bool.and_self, and_self, List.set_cons_zero, List.set_cons_succ, List.drop_zero, List.take_succ_cons, List.take_zero, List.append_nil, Option.bind_some, Nat.reduceEqDiff, Nat.reduceAdd, Nat.reduceLeDiff, Nat.reduceMul, Nat.zero_add, ↓reduceIte, reduceCtorEq, List.flatten_cons, List.flatten_nil, List.replicate_succ, List.replicate_zero, Nat.le_refl, *]))
          refine wx_app1 (sz := 5) (bytes := 56) ((ho.pre p2).app _) ((hp.trans p2).app' _) (Nat.le_refl _) (by simp; have := hp.le; omega) (fun b hb => hb) (NV.mk (jobOf l (lw.map (·.j)) (atI lv n).j) vc) ?_ rfl (by decide) (by decide) (by omega) ?_
          · simp -dsimp (disch := omega) only [geta0, cellsOf_some, cellO_cells, List.length_cons, List.length_nil, List.getElem?_cons_zero, List.drop_zero, List.take_succ_cons, List.take_zero, Nat.reduceAdd, Nat.reduceMul, Nat.zero_add, ↓reduceIte, Nat.le_refl]
            simp only [encN, hdJ, jobOf, List.length_map, List.cons_append, List.nil_append]
            first
              | (rw [if_pos ‹_›, (hk ‹_›).1]; done)
              | (rw [if_neg ‹_›]; done)
              | skip
          · intro v3 h3 k1 k2 k3 k4 k5
            simp only [List.length_append, List.length_cons, List.length_nil] at k3 k4 k5
            have K5 := Hid.mk k5
            clear k5
            (repeat' (first | ((with_reducible refine WG_dec (fun _ => ?_) (fun _ => ?_)) <;> try (exfalso; omega)) | ((with_reducible refine WG_decF (fun _ => ?_) (fun _ => ?_)) <;> try (exfalso; omega)) | ((with_reducible refine WC_dec (fun _ => ?_) (fun _ => ?_)) <;> try (exfalso; omega)) | refine WC_bool (fun _ => ?_) (fun _ => ?_) | refine WG_bool (fun _ => ?_) (fun _ => ?_) | refine WG_boolF (fun _ => ?_) (fun _ => ?_) | simp -dsimp (disch := omega) only [↓run_nil, ↓run_i, ↓co_reg, ↓op_mov, ↓op_bin, WF_eq, W1_some, ↓ev_t, ↓ev_c, ↓upd_at, ↓get_cons, ↓frm_nil, ↓frm_cons, bin_add, wrap_i64, eq_self, Nat.reduceEqDiff, ↓reduceIte, reduceCtorEq, *]))
            refine Next.mk (n + 1) ⟨k2, by omega, by omega, rfl, rfl, rfl, ?_, lw ++ [NV.mk (jobOf l (lw.map (·.j)) (atI lv n).j) vc], ?_, k1, ?_⟩ (by omega)
            · rw [Ej.out]
              intro j hj
              rcases List.mem_append.1 hj with hj | hj
              · have := Hin.out j hj; unfold jobIn at this ⊢; simp only [Int.natCast_add, Int.natCast_one]; omega
              · rw [List.mem_singleton.1 hj]; exact Hjin.out
            · rw [Ej.out]; simp
            · intro p hp'
              rw [show get [(0, v0), (1, v1), (5, v3), (6, Value.int IntKind.i64 ((n : Int) + 1))] 5 = v3 from rfl]
              rcases List.mem_append.1 hp' with hp' | hp'
              · obtain ⟨w1, w2⟩ := hw p hp'
                have w3 := w1.pre p2
                refine ⟨(w3.app _).keep fun hn => K5.out _ (by have := w3.lt' hn; omega) (fun _ => w2 hn), fun hn => ?_⟩
                have := w3.lt' hn; omega
              · rw [List.mem_singleton.1 hp']
                have w3 := o2.rd
                refine ⟨(w3.app _).keep fun hn => K5.out _ (by have := w3.lt' hn; omega) (fun hne => ?_), fun hn => ?_⟩
                · have h1 := o2.ge (o2.ne hn)
                  have h2 := ho.lt hne
                  omega
                · have := w3.lt' hn; dsimp only; omega
      · have : (lv.map (·.j)).take 4096 = (lv.map (·.j)).take n := by
          have : n = 4096 := by omega
          rw [this]
        rw [this]
        (repeat' (first | ((with_reducible refine WG_dec (fun _ => ?_) (fun _ => ?_)) <;> try (exfalso; omega)) | ((with_reducible refine WG_decF (fun _ => ?_) (fun _ => ?_)) <;> try (exfalso; omega)) | ((with_reducible refine WC_dec (fun _ => ?_) (fun _ => ?_)) <;> try (exfalso; omega)) | refine WC_bool (fun _ => ?_) (fun _ => ?_) | refine WG_bool (fun _ => ?_) (fun _ => ?_) | refine WG_boolF (fun _ => ?_) (fun _ => ?_) | simp -dsimp (disch := omega) only [↓run_nil, ↓run_i, ↓run_w, ↓co_seq, ↓co_exit, ↓co_ret, ↓co_reg, ↓co_cond, ↓op_mov, ↓op_pick, ↓op_bin, ↓op_lens, Res_ret, resL_nil, resL_t, resV_one, WF_eq, W1_some, WC_false, WG_true, ↓ev_t, ↓ev_c, ↓upd_at, ↓get_cons, ↓frm_nil, ↓frm_cons, bin_lss, pick_t, eq_self, Option.map_some, Nat.reduceEqDiff, ↓reduceIte, reduceCtorEq, decide_true, decide_false, *, hlv'.len]))
        exact ⟨hp.ex, ⟨lw, e1, ho.rd, fun p hp' => (hw p hp').1⟩, fun hne => ho.ge (by intro e; apply hne; rw [← e1, e]; rfl)⟩
    · have : (lv.map (·.j)).take 4096 = (lv.map (·.j)).take n := by rw [List.take_of_length_le (by simp; omega), List.take_of_length_le (by simp; omega)]
      rw [this]
      (repeat' (first | ((with_reducible refine WG_dec (fun _ => ?_) (fun _ => ?_)) <;> try (exfalso; omega)) | ((with_reducible refine WG_decF (fun _ => ?_) (fun _ => ?_)) <;> try (exfalso; omega)) | ((with_reducible refine WC_dec (fun _ => ?_) (fun _ => ?_)) <;> try (exfalso; omega)) | refine WC_bool (fun _ => ?_) (fun _ => ?_) | refine WG_bool (fun _ => ?_) (fun _ => ?_) | refine WG_boolF (fun _ => ?_) (fun _ => ?_) | simp -dsimp (disch := omega) only [↓run_nil, ↓run_i, ↓run_w, ↓co_seq, ↓co_exit, ↓co_ret, ↓co_reg, ↓co_cond, ↓op_mov, ↓op_pick, ↓op_bin, ↓op_lens, Res_ret, resL_nil, resL_t, resV_one, WF_eq, W1_some, WC_false, WG_ft, ↓ev_t, ↓ev_c, ↓upd_at, ↓get_cons, ↓frm_nil, ↓frm_cons, bin_lss, pick_f, eq_self, Option.map_some, Nat.reduceEqDiff, ↓reduceIte, reduceCtorEq, decide_false, *, hlv'.len]))
      exact ⟨hp.ex, ⟨lw, e1, ho.rd, fun p hp' => (hw p hp').1⟩, fun hne => ho.ge (by intro e; apply hne; rw [← e1, e]; rfl)⟩
  · have hd : decodeP l (lv.map (·.j)) = [] := if_neg hok
    rw [hd]
    (repeat' (first | ((with_reducible refine WG_dec (fun _ => ?_) (fun _ => ?_)) <;> try (exfalso; omega)) | ((with_reducible refine WG_decF (fun _ => ?_) (fun _ => ?_)) <;> try (exfalso; omega)) | ((with_reducible refine WC_dec (fun _ => ?_) (fun _ => ?_)) <;> try (exfalso; omega)) | refine WC_bool (fun _ => ?_) (fun _ => ?_) | refine WG_bool (fun _ => ?_) (fun _ => ?_) | refine WG_boolF (fun _ => ?_) (fun _ => ?_) | simp -dsimp (disch := omega) only [↓run_nil, ↓run_i, ↓op_call, ↓co_seq, ↓co_ret, ↓co_reg, ↓co_cond, ↓op_mov, ↓op_bin, ↓op_fof, Res_ret, resL_nil, resL_t, resV_one, WF_eq, W1_some, WX_some, WC_true, ↓ev_t, ↓ev_c, ↓ev_f, ↓upd_at, ↓get_cons, ↓frm_nil, ↓frm_cons, bin_neq, part_none, fof_agg, eq_self, List.map_cons, List.map_nil, List.getElem?_cons_zero, List.getElem?_cons_succ, Option.map_some, Nat.reduceEqDiff, Nat.zero_add, ↓reduceIte, reduceCtorEq, decide_true, not_false_eq_true, *]))
    exact ⟨⟨[], by simp⟩, ⟨[], rfl, Rd.of_nil, by simp⟩, by simp⟩
end Go.L.Try
