/- HOW LONG A TASK TAKES: rta.Each, Bound, All, Tests. -/
import Derived.Test.YtakbaliigmnkjaaDoorPd
import Derived.Test.YtakbaliigmnkjaaDoorPc
import Derived.Test.YtakbaliigmnkjaaDoorPa
set_option linter.unusedVariables false
set_option linter.unusedSimpArgs false
set_option maxRecDepth 100000
set_option maxHeartbeats 2000000
namespace Go.L.Try
open Go Go.L
variable {E : Env} {G : Nat}
theorem eachN_head (l : List Task) (i : Int) (n : Nat) (w : Int) : ∃ r, eachN l i n w = w :: r := by
  cases n with
  | zero => exact ⟨[], rfl⟩
  | succ n => unfold eachN; split <;> exact ⟨_, rfl⟩
def uV (w : Int) : List Value := [.int .u64 w]
theorem each_iter (hE : Laid E) (hX : LaidAdd E) (hZ : LaidTz E G) {vl : Value} {l : List Task} (hs : ∀ t ∈ l, t.name.size < 1152921504606846976) (i : Int) (b1 b2 : Nat) :
    IterOK E (.func (.func n_rta_Each_f1) #[] #[.pointer (some ⟨b1, 0, none⟩), .pointer (some ⟨b2, 0, none⟩)]) (fun h => (h[b1]? = some (.cells [vl] false) ∧ h[b2]? = some (.cells [.int .i64 i] false)) ∧ Rd 7 encT h vl l ∧ Tab G h) ((eachP l i).map uV) := by
  intro h1 L W J Stop hJ h0 hS step
  refine fn_eff hE.keep hE.rta_Each_f1 rfl (by simp) ?_
  obtain ⟨_, ⟨hb1, hb2⟩, hl, ht⟩ := hJ 0 h1 h0
  have hi := isRta hE hl hs i
  simp only [List.cons_append, List.nil_append, argsF]
  have HJ := Hid.mk hJ
  have HS := Hid.mk hS
  have Hst := Hid.mk step
  have H0 := Hid.mk h0
  clear hJ hS step h0
  cases hb : isP l i
  · rw [hb] at hi
    have e : eachP l i = [] := by unfold eachP; rw [hb]; rfl
    rw [e]
    have H0' := H0.out
    clear H0 HJ HS Hst
    have H0 := Hid.mk H0'
    clear H0'
    (repeat' (first | ((with_reducible refine WG_dec (fun _ => ?_) (fun _ => ?_)) <;> try (exfalso; omega)) | ((with_reducible refine WG_decF (fun _ => ?_) (fun _ => ?_)) <;> try (exfalso; omega)) | ((with_reducible refine WC_dec (fun _ => ?_) (fun _ => ?_)) <;> try (exfalso; omega)) | refine WC_bool (fun _ => ?_) (fun _ => ?_) | refine WG_bool (fun _ => ?_) (fun _ => ?_) | refine WG_boolF (fun _ => ?_) (fun _ => ?_) | simp -dsimp (disch := omega) only [↓run_nil, ↓run_i, ↓op_call, ↓co_seq, ↓co_ret, ↓co_reg, ↓co_cond, ↓op_un, ↓op_ld, Res_ret, resL_nil, resV_nil, nn4_tuple, WF_eq, W1_some, WX_some, WC_true, ↓ev_t, ↓ev_f, ↓upd_at, ↓get_cons, ↓frm_nil, ↓frm_cons, un_not, load_ptr, ldO_cells, part_none, eq_self, Bool.not_false, List.map_cons, List.map_nil, List.length_nil, List.all_nil, true_and, List.getElem?_cons_zero, Nat.reduceEqDiff, Nat.reduceAdd, Nat.zero_add, ↓reduceIte, reduceCtorEq, *]))
    exact .inl H0.out
  · rw [hb] at hi
    obtain ⟨hi2, hlen, hok⟩ := isP_ok hb
    have hm := mostP_in hb
    have htk := (hok _ (atI_mem hi2.1 hi2.2)).1
    simp only [rangesB] at htk
    have hD := htk.2.2.2.2.1
    have hJt := htk.2.2.2.2.2.2.1
    have hmd : mostP l i = (atI l i).D - (atI l i).J := rfl
    have z0 : u64in 0 := ⟨by decide, by decide⟩
    have q0 := needD hE hX hZ ht hl hs i z0
    obtain ⟨u0, u1⟩ := needP_in hb z0
    have u2 := needP_mono hb z0 u0.1
    have ev : eachP l i = eachN l i ((mostP l i).toNat + 1) (needP l i 0) := by unfold eachP; rw [hb]; rfl
    generalize hvals : (eachP l i).map uV = vals at *
    rw [ev] at hvals
    generalize hN0 : needP l i 0 = N0 at *
    have Hvals := Hid.mk hvals
    have Hmd := Hid.mk hmd
    have Hb := Hid.mk hb
    clear hok htk hvals ev hN0 hb
    generalize hmost : mostP l i = most at *
    (repeat' (first | ((with_reducible refine WG_dec (fun _ => ?_) (fun _ => ?_)) <;> try (exfalso; omega)) | ((with_reducible refine WG_decF (fun _ => ?_) (fun _ => ?_)) <;> try (exfalso; omega)) | ((with_reducible refine WC_dec (fun _ => ?_) (fun _ => ?_)) <;> try (exfalso; omega)) | refine WC_bool (fun _ => ?_) (fun _ => ?_) | refine WG_bool (fun _ => ?_) (fun _ => ?_) | refine WG_boolF (fun _ => ?_) (fun _ => ?_) | simp -dsimp (disch := omega) only [↓run_nil, ↓run_i, ↓rd_nil, ↓rd_i, ↓op_call, ↓co_seq, ↓co_skip, ↓co_reg, ↓co_drw, ↓co_cond, ↓co_block, ↓co_loop, ↓op_mov, ↓op_un, ↓op_ld, ↓opd_mov, ↓opd_bin, ↓opd_cvi, ↓opd_fld, ↓opd_ixs, ↓opd_ld, WF_eq, W1_some, WX_some, WC_false, ↓ev_t, ↓ev_c, ↓ev_f, ↓upd_at, ↓get_cons, ↓frm_nil, ↓frm_cons, bin_sub, un_not, cvi_int, load_ptr, ldO_cells, part_none, fld_ptr, room0, wrap_i64, wrap_u64, eq_self, Bool.not_true, List.map_cons, List.map_nil, List.getElem?_cons_zero, List.getD_cons_zero, List.getD_cons_succ, Nat.reduceEqDiff, Nat.reduceAdd, Nat.zero_add, ↓reduceIte, reduceCtorEq, *, hl.ixs, hl.ld, encT]))
    rw [← Hmd.out]
    clear hmd
    refine WO.loop (α := List Int × Int) (fun s fr h' => J s.1.length h' ∧ get fr 0 = .func (.yield L) #[] #[] ∧ get fr 1 = .pointer (some ⟨b1, 0, none⟩) ∧ get fr 2 = .pointer (some ⟨b2, 0, none⟩) ∧ get fr 4 = .int .u64 most ∧ get fr 5 = .int .u64 s.2 ∧ u64in s.2 ∧ s.2 ≤ needP l i s.2 ∧ ∃ k, eachN l i (most.toNat + 1) N0 = s.1 ++ eachN l i k s.2 ∧ (most + 1 - s.2).toNat ≤ k) (fun s => (most + 1 - s.2).toNat) ?_ ([], N0) ⟨H0.out, rfl, rfl, rfl, rfl, rfl, u0, u2, most.toNat + 1, rfl, by simp only []; omega⟩
    rintro ⟨pre, w⟩ fr h' ⟨hj, g0, g1, g2, g4, g5, hu, hle, k, hk, hkb⟩
    dsimp only at hj hu hle hk hkb g5
    unfold c_rta_Each_f1_l0
    have Hhead := eachN_head l i k w
    obtain ⟨rest, hrest⟩ := Hhead
    have hv : vals[pre.length]? = some (uV w) := by
      rw [← Hvals.out, List.getElem?_map, hk, hrest, List.getElem?_append_right (Nat.le_refl _), Nat.sub_self]; rfl
    have hst := Hid.mk (Hst.out pre.length h' _ hv hj)
    have Hlen := Hid.mk (HJ.out pre.length h' hj).1
    have Hk := Hid.mk hk
    have Hj := Hid.mk hj
    have hstep : ∀ m, eachN l i (m + 1) w = if most < w ∨ needP l i w = w then [w] else w :: eachN l i m (needP l i w) := fun m => by rw [← hmost]; rfl
    have Hstep := Hid.mk hstep
    have hend : eachN l i k w = [w] → vals.length = pre.length + 1 := fun e => by rw [← Hvals.out, hk, e]; simp
    have Hend := Hid.mk hend
    have Hle := Hid.mk hle
    have hsing : most < w ∨ needP l i w = w → eachN l i k w = [w] := fun e => by
      cases k with
      | zero => rfl
      | succ m => rw [hstep, if_pos e]
    have Hsing := Hid.mk hsing
    have Hmost := Hid.mk hmost
    clear hk hv hj hstep hend hrest H0 q0 u0 u1 u2 hi hb1 hb2 hle hsing Hst hmost z0
    unfold uV at hst
    (repeat' (first | ((with_reducible refine WG_dec (fun _ => ?_) (fun _ => ?_)) <;> try (exfalso; omega)) | ((with_reducible refine WG_decF (fun _ => ?_) (fun _ => ?_)) <;> try (exfalso; omega)) | ((with_reducible refine WC_dec (fun _ => ?_) (fun _ => ?_)) <;> try (exfalso; omega)) | refine WC_bool (fun _ => ?_) (fun _ => ?_) | refine WG_bool (fun _ => ?_) (fun _ => ?_) | refine WG_boolF (fun _ => ?_) (fun _ => ?_) | simp -dsimp (disch := omega) only [↓run_i, ↓op_call, ↓co_seq, ↓co_reg, ↓op_mov, W1_some, ↓ev_t, ↓upd_at, eq_self, List.map_cons, List.map_nil, Nat.reduceEqDiff, ↓reduceIte, *]))
    refine WX.mono hst.out (fun b h => h) fun v h2 hx => ?_
    rcases hx with ⟨rfl, hj2⟩ | ⟨rfl, hs2⟩
    · obtain ⟨hlen2, ⟨c1, c2⟩, hl2, ht2⟩ := HJ.out (pre.length + 1) h2 hj2
      have q := needD hE hX hZ ht2 hl2 hs i hu
      obtain ⟨n0, _⟩ := needP_in Hb.out hu
      have n1 := needP_mono Hb.out hu Hle.out
      have Hj2 := Hid.mk hj2
      have Hn1 := Hid.mk n1
      have Hlen2 := Hid.mk hlen2
      have Hn0 := Hid.mk n0
      have Hu := Hid.mk hu
      clear hj2 hst n1 hlen2 hl2 ht2
      generalize hN : needP l i w = N at *
      have HN := Hid.mk hN
      clear hN
      unfold u64in at hu n0
      have e2 : vals.length = pre.length + 1 → J vals.length h2 := fun e => by rw [e]; exact Hj2.out
      have E2 := Hid.mk e2
      clear e2
      (repeat' (first | ((with_reducible refine WG_dec (fun _ => ?_) (fun _ => ?_)) <;> try (exfalso; omega)) | ((with_reducible refine WG_decF (fun _ => ?_) (fun _ => ?_)) <;> try (exfalso; omega)) | ((with_reducible refine WC_dec (fun _ => ?_) (fun _ => ?_)) <;> try (exfalso; omega)) | refine WC_bool (fun _ => ?_) (fun _ => ?_) | refine WG_bool (fun _ => ?_) (fun _ => ?_) | refine WG_boolF (fun _ => ?_) (fun _ => ?_) | simp -dsimp (disch := omega) only [↓run_nil, ↓run_i, ↓run_w, ↓op_call, ↓co_seq, ↓co_skip, ↓co_exit, ↓co_reg, ↓co_cond, ↓co_block, ↓op_mov, ↓op_pick, ↓op_bin, ↓op_ld, Res_normal, resL_nil, resV_nil, nn4_tuple, WF_eq, W1_some, WX_some, WG_true, ↓ev_t, ↓ev_c, ↓ev_f, ↓upd_at, ↓get_cons, ↓frm_nil, ↓frm_cons, bin_eql, bin_leq, pick_t, load_ptr, ldO_cells, part_none, eq_self, List.map_cons, List.map_nil, List.all_nil, true_and, List.getElem?_cons_zero, Nat.reduceEqDiff, ↓reduceIte, reduceCtorEq, decide_true, decide_false, *]))
      · exact ⟨Hlen2.out, .inl (E2.out (Hend.out (Hsing.out (.inr (by assumption)))))⟩
      · obtain ⟨k', rfl⟩ : ∃ k', k = k' + 1 := ⟨k - 1, by omega⟩
        have hlt := Hle.out
        refine Next.mk (pre ++ [w], N) ⟨by simpa using Hj2.out, rfl, rfl, rfl, rfl, rfl, Hn0.out, Hn1.out, k', ?_, by simp only []; omega⟩ (by simp only []; omega)
        rw [Hk.out, Hstep.out, if_neg (by omega)]; simp
      · exact ⟨Hlen2.out, .inl (E2.out (Hend.out (Hsing.out (.inl (by omega)))))⟩
    · have Hs2 := Hid.mk hs2
      clear hs2 hst
      (repeat' (first | ((with_reducible refine WG_dec (fun _ => ?_) (fun _ => ?_)) <;> try (exfalso; omega)) | ((with_reducible refine WG_decF (fun _ => ?_) (fun _ => ?_)) <;> try (exfalso; omega)) | ((with_reducible refine WC_dec (fun _ => ?_) (fun _ => ?_)) <;> try (exfalso; omega)) | refine WC_bool (fun _ => ?_) (fun _ => ?_) | refine WG_bool (fun _ => ?_) (fun _ => ?_) | refine WG_boolF (fun _ => ?_) (fun _ => ?_) | simp -dsimp (disch := omega) only [↓run_nil, ↓run_i, ↓run_w, ↓co_exit, ↓co_cond, ↓op_mov, ↓op_pick, Res_normal, resL_nil, resV_nil, nn4_tuple, WF_eq, W1_some, WC_false, WG_ft, ↓ev_t, ↓ev_c, ↓upd_at, ↓get_cons, ↓frm_nil, ↓frm_cons, pick_f, eq_self, List.all_nil, true_and, Nat.reduceEqDiff, ↓reduceIte, reduceCtorEq, *]))
      first
        | exact ⟨HS.out _ Hs2.out, .inr Hs2.out⟩
        | exact .inr Hs2.out
def EachV (m : Nat) (vl : Value) (l : List Task) (i : Int) : Heap → Value → Prop := Clo2 m n_rta_Each_f1 (fun h v => v = vl ∧ Rd 7 encT h vl l) (fun _ v => v = .int .i64 i)
theorem eachS (hE : Laid E) {h : Heap} {vl : Value} {l : List Task} (hl : Rd 7 encT h vl l) (i : Int) :
    ∃ v ys, callW E (.func (.func n_rta_Each) #[] #[]) [vl, .int .i64 i] h = some (v, h ++ ys, []) ∧ EachV h.length vl l i (h ++ ys) v := by
  refine fn_new hE.rta_Each rfl (Clo2.movable (hl.old_movable flatT) (movable_eq rfl)) (by simp) ?_
  have hc := hl.cv
  have ho := hl.one
  simp only [argsF]
  (repeat' (first | ((with_reducible refine WG_dec (fun _ => ?_) (fun _ => ?_)) <;> try (exfalso; omega)) | ((with_reducible refine WG_decF (fun _ => ?_) (fun _ => ?_)) <;> try (exfalso; omega)) | ((with_reducible refine WC_dec (fun _ => ?_) (fun _ => ?_)) <;> try (exfalso; omega)) | refine WC_bool (fun _ => ?_) (fun _ => ?_) | refine WG_bool (fun _ => ?_) (fun _ => ?_) | refine WG_boolF (fun _ => ?_) (fun _ => ?_) | simp -dsimp (disch := omega) only [↓run_nil, ↓run_i, ↓co_seq, ↓co_ret, ↓co_reg, ↓op_mov, ↓op_mkf, ↓op_box, Res_ret, resL_nil, resL_t, resV_one, WF_eq, W1_some, ↓ev_t, ↓ev_c, ↓upd_at, ↓get_cons, ↓frm_nil, ↓frm_cons, cellsV_int, one_int, newCells, eq_self, List.map_cons, List.map_nil, List.length_append, List.length_cons, List.length_nil, List.all_cons, List.all_nil, Bool.and_self, List.append_assoc, List.cons_append, List.nil_append, Option.map_some, Nat.reduceEqDiff, Nat.zero_add, ↓reduceIte, reduceCtorEq, *]))
  exact ⟨⟨_, rfl⟩, _, _, _, _, rfl, ⟨Nat.le_refl _, by omega⟩, ⟨by rw [geta0]; rfl, by rw [geta]; rfl⟩, ⟨rfl, hl.app _⟩, rfl⟩
def lastK (es : List Int) (k : Nat) : Int := if k = 0 then 0 else es.getD (k - 1) 0
theorem lastK_succ {es : List Int} {k : Nat} {w : Int} (h : es[k]? = some w) : lastK es (k + 1) = w := by
  unfold lastK
  rw [if_neg (by omega), Nat.add_sub_cancel, List.getD_eq_getElem?_getD, h]; rfl
theorem least_none {l : List Task} {i : Int} : ∀ (n : Nat) (w : Int), (∀ v, w ≤ v → v < w + n → v < needP l i v) → leastN l i n w = none
  | 0, _, _ => rfl
  | n + 1, w, h => by
    have h1 := h w (Int.le_refl _) (by omega)
    unfold leastN
    rw [if_neg (by omega)]
    exact least_none n (w + 1) fun v a b => h v (by omega) (by omega)
theorem least_some {l : List Task} {i w0 : Int} (hw : needP l i w0 ≤ w0) : ∀ (n : Nat) (w : Int), w ≤ w0 → w0 < w + n → (∀ v, w ≤ v → v < w0 → v < needP l i v) → leastN l i n w = some w0
  | 0, w, h1, h2, _ => by omega
  | n + 1, w, h1, h2, h => by
    unfold leastN
    by_cases e : w = w0
    · subst e; rw [if_pos hw]
    · have := h w (Int.le_refl _) (by omega)
      rw [if_neg (by omega)]
      exact least_some hw n (w + 1) (by omega) (by omega) fun v a b => h v (by omega) b
theorem eachN_last {l : List Task} {i : Int} (hb : isP l i = true) : ∀ (n : Nat) (w : Int), (mostP l i + 1 - w).toNat ≤ n → u64in w → 1 ≤ w → w ≤ needP l i w → (∀ v, 1 ≤ v → v < w → v < needP l i v) →
    ∃ z, (eachN l i n w).getLast? = some z ∧ u64in z ∧ 1 ≤ z ∧ (z ≤ mostP l i → needP l i z = z) ∧ ∀ v, 1 ≤ v → v < z → v < needP l i v
  | 0, w, hn, hu, h1, hle, hv => ⟨w, rfl, hu, h1, fun h => by omega, hv⟩
  | n + 1, w, hn, hu, h1, hle, hv => by
    unfold eachN
    by_cases h : mostP l i < w ∨ needP l i w = w
    · rw [if_pos h]
      exact ⟨w, rfl, hu, h1, fun hz => by rcases h with h | h; omega; exact h, hv⟩
    · rw [if_neg h]
      have h2 := (needP_in hb hu).1
      obtain ⟨z, e, hz⟩ := eachN_last hb n (needP l i w) (by omega) h2 (by omega) (needP_mono hb hu hle) (fun v a b => by
        rcases Int.lt_or_le v w with hc | hc
        · exact hv v a hc
        · have := needP_mono hb hu hc; omega)
      refine ⟨z, ?_, hz⟩
      obtain ⟨r, er⟩ := eachN_head l i n (needP l i w)
      rw [er] at e ⊢
      rw [List.getLast?_cons_cons]; exact e
/-- THE LAST NUMBER OF THE RECKONING IS THE LEAST THAT IS ENOUGH, or there is none. -/
theorem eachP_last {l : List Task} {i : Int} (hb : isP l i = true) : ∃ z, (eachP l i).getLast? = some z ∧ u64in z ∧ 1 ≤ z ∧ (z ≤ mostP l i → leastP l i = some z) ∧ (mostP l i < z → leastP l i = none) := by
  have z0 : u64in 0 := ⟨by decide, by decide⟩
  obtain ⟨u0, u1⟩ := needP_in hb z0
  have hm := mostP_in hb
  obtain ⟨z, h1, h2, h3, h4, h5⟩ := eachN_last hb ((mostP l i).toNat + 1) (needP l i 0) (by omega) u0 u1 (needP_mono hb z0 u0.1) (fun v a b => by have := needP_mono hb z0 (show 0 ≤ v by omega); omega)
  have ev : eachP l i = eachN l i ((mostP l i).toNat + 1) (needP l i 0) := by unfold eachP; rw [hb]; rfl
  rw [ev]
  refine ⟨z, h1, h2, h3, fun hz => ?_, fun hz => ?_⟩
  · have := h4 hz
    exact least_some (by omega) _ _ h3 (by omega) h5
  · exact least_none _ _ fun v a b => h5 v a (by omega)
theorem lastK_all {es : List Int} {z : Int} (h : es.getLast? = some z) : lastK es es.length = z := by
  rw [List.getLast?_eq_getElem?] at h
  have hlt := (List.getElem?_eq_some_iff.1 h).1
  obtain ⟨k, hk⟩ : ∃ k, es.length = k + 1 := ⟨es.length - 1, by omega⟩
  rw [hk] at h ⊢
  exact lastK_succ h
theorem boundS (hE : Laid E) (hX : LaidAdd E) (hZ : LaidTz E G) {h : Heap} (ht : Tab G h) {vl : Value} {l : List Task} (hl : Rd 7 encT h vl l) (hs : ∀ t ∈ l, t.name.size < 1152921504606846976) (i : Int) :
    callW E (.func (.func n_rta_Bound) #[] #[]) [vl, .int .i64 i] h = some (.tuple #[.int .i64 (boundP l i).1, .int .i64 (boundP l i).2], h, []) := by
  have hi := isRta hE hl hs i
  refine fn_same hE.rta_Bound rfl (by simp) ?_
  simp only [argsF]
  unfold boundP
  cases hb : isP l i
  · rw [hb] at hi
    rw [if_neg (by decide)]
    (repeat' (first | ((with_reducible refine WG_dec (fun _ => ?_) (fun _ => ?_)) <;> try (exfalso; omega)) | ((with_reducible refine WG_decF (fun _ => ?_) (fun _ => ?_)) <;> try (exfalso; omega)) | ((with_reducible refine WC_dec (fun _ => ?_) (fun _ => ?_)) <;> try (exfalso; omega)) | refine WC_bool (fun _ => ?_) (fun _ => ?_) | refine WG_bool (fun _ => ?_) (fun _ => ?_) | refine WG_boolF (fun _ => ?_) (fun _ => ?_) | simp -dsimp (disch := omega) only [↓run_nil, ↓run_i, ↓op_call, ↓co_seq, ↓co_ret, ↓co_reg, ↓co_cond, ↓op_mov, ↓op_un, Res_ret, resL_nil, resL_t, resV_two, nn4_tuple, nn3_int, WF_eq, W1_some, WX_some, WC_true, ↓ev_t, ↓ev_c, ↓ev_f, ↓upd_at, ↓get_cons, ↓frm_nil, ↓frm_cons, un_not, eq_self, Bool.not_false, List.map_cons, List.map_nil, List.all_cons, List.all_nil, Bool.and_self, true_and, Option.map_some, Nat.reduceEqDiff, Nat.zero_add, ↓reduceIte, reduceCtorEq, *]))
  · rw [hb] at hi
    rw [if_pos rfl]
    obtain ⟨hi2, hlen, hok⟩ := isP_ok hb
    have hm := mostP_in hb
    have htk := (hok _ (atI_mem hi2.1 hi2.2)).1
    simp only [rangesB] at htk
    have hD := htk.2.2.2.2.1
    have hJt := htk.2.2.2.2.2.2.1
    have hmd : mostP l i = (atI l i).D - (atI l i).J := rfl
    obtain ⟨z, z1, z2, z3, z4, z5⟩ := eachP_last hb
    have Hz := Hid.mk (lastK_all z1)
    have Z4 := Hid.mk z4
    have Z5 := Hid.mk z5
    clear hok htk z1 z4 z5
    (repeat' (first | ((with_reducible refine WG_dec (fun _ => ?_) (fun _ => ?_)) <;> try (exfalso; omega)) | ((with_reducible refine WG_decF (fun _ => ?_) (fun _ => ?_)) <;> try (exfalso; omega)) | ((with_reducible refine WC_dec (fun _ => ?_) (fun _ => ?_)) <;> try (exfalso; omega)) | refine WC_bool (fun _ => ?_) (fun _ => ?_) | refine WG_bool (fun _ => ?_) (fun _ => ?_) | refine WG_boolF (fun _ => ?_) (fun _ => ?_) | simp -dsimp (disch := omega) only [↓run_nil, ↓run_i, ↓run_k, ↓op_st, ↓op_call, ↓co_seq, ↓co_skip, ↓co_reg, ↓co_cond, ↓op_mov, ↓op_un, ↓op_all, WF_eq, W1_some, WX_some, WH_some1, WC_false, ↓ev_t, ↓ev_c, ↓ev_f, ↓upd_at, ↓get_cons, ↓frm_nil, ↓frm_cons, un_not, cellsV_int, one_int, setCells_nil, setCells_cons, store_ptr, stO_cells, geta0, seta0, newCells, eq_self, Bool.not_true, List.map_cons, List.map_nil, List.length_cons, List.length_nil, List.all_cons, List.all_nil, Bool.and_self, true_and, and_self, List.getElem?_cons_zero, List.set_cons_zero, Nat.reduceEqDiff, Nat.zero_add, ↓reduceIte, reduceCtorEq, Nat.le_refl, *]))
    refine wx_new (eachS hE (hl.app _) i) fun v ys hr hpre => ?_
    obtain ⟨b1, b2, u1, u2, rfl, ⟨hg1, hg2⟩, ⟨hb1, hb2⟩, ⟨rfl, _⟩, rfl⟩ := hr
    (repeat' (first | ((with_reducible refine WG_dec (fun _ => ?_) (fun _ => ?_)) <;> try (exfalso; omega)) | ((with_reducible refine WG_decF (fun _ => ?_) (fun _ => ?_)) <;> try (exfalso; omega)) | ((with_reducible refine WC_dec (fun _ => ?_) (fun _ => ?_)) <;> try (exfalso; omega)) | refine WC_bool (fun _ => ?_) (fun _ => ?_) | refine WG_bool (fun _ => ?_) (fun _ => ?_) | refine WG_boolF (fun _ => ?_) (fun _ => ?_) | simp -dsimp (disch := omega) only [↓run_nil, ↓co_block, WF_eq, ↓upd_at, ↓get_cons, ↓frm_nil, ↓frm_cons, eq_self, List.append_assoc, List.cons_append, List.nil_append, Nat.reduceEqDiff, ↓reduceIte, reduceCtorEq, *]))
    simp only [List.append_assoc, List.cons_append, List.nil_append, List.length_append, List.length_cons, List.length_nil] at hb1 hb2 hg1 hg2
    have hl1 := (List.getElem?_eq_some_iff.1 hb1).1
    have hl2 := (List.getElem?_eq_some_iff.1 hb2).1
    have hpH : Pre h (h ++ LObj.cells [Value.int IntKind.u64 0] false :: ys) := Pre.app h _
    refine co_iter1 hE.keep rfl (each_iter hE hX hZ hs i b1 b2) (c := h.length) (by simp) (by omega) (fun k => .int .u64 (lastK (eachP l i) k)) (fun _ => rfl) (by rw [geta0]; rfl) rfl (fun hh e1 e2 => ⟨⟨by rw [e2 b1 hl1 (by omega)]; exact hb1, by rw [e2 b2 hl2 (by omega)]; exact hb2⟩, ?_⟩) ?_ ?_
    · have hp2 : Pre h hh := fun b o hb => by have hlt := (List.getElem?_eq_some_iff.1 hb).1; rw [e2 b (by simp; omega) (by omega)]; exact hpH b o hb
      exact ⟨hl.pre hp2, ht.pre hp2⟩
    · intro k a ha
      rw [List.getElem?_map] at ha
      obtain ⟨w, hw, rfl⟩ := Option.map_eq_some_iff.1 ha
      have hsucc := Hid.mk (lastK_succ hw)
      clear ha hw
      refine ⟨_, rfl, fun hh g1 g2 g3 => ?_⟩
      unfold c_rta_Bound_l0
      (repeat' (first | ((with_reducible refine WG_dec (fun _ => ?_) (fun _ => ?_)) <;> try (exfalso; omega)) | ((with_reducible refine WG_decF (fun _ => ?_) (fun _ => ?_)) <;> try (exfalso; omega)) | ((with_reducible refine WC_dec (fun _ => ?_) (fun _ => ?_)) <;> try (exfalso; omega)) | refine WC_bool (fun _ => ?_) (fun _ => ?_) | refine WG_bool (fun _ => ?_) (fun _ => ?_) | refine WG_boolF (fun _ => ?_) (fun _ => ?_) | simp -dsimp (disch := omega) only [↓run_nil, ↓run_i, ↓co_reg, ↓op_mov, WF_eq, W1_some, ↓ev_t, ↓upd_at, ↓get_cons, ↓frm_nil, ↓frm_cons, eq_self, hadd, List.length_append, List.length_cons, true_and, Nat.reduceEqDiff, Nat.reduceAdd, ↓reduceIte, reduceCtorEq, *]))
      refine ⟨[], (List.append_nil _).symm, fun hh2 k1 k2 k3 => ?_⟩
      unfold c_rta_Bound_l1
      (repeat' (first | ((with_reducible refine WG_dec (fun _ => ?_) (fun _ => ?_)) <;> try (exfalso; omega)) | ((with_reducible refine WG_decF (fun _ => ?_) (fun _ => ?_)) <;> try (exfalso; omega)) | ((with_reducible refine WC_dec (fun _ => ?_) (fun _ => ?_)) <;> try (exfalso; omega)) | refine WC_bool (fun _ => ?_) (fun _ => ?_) | refine WG_bool (fun _ => ?_) (fun _ => ?_) | refine WG_boolF (fun _ => ?_) (fun _ => ?_) | simp -dsimp (disch := omega) only [↓run_nil, ↓run_i, ↓run_k, ↓op_st, ↓co_reg, ↓co_block, ↓op_mov, WF_eq, W1_some, WH_some1, ↓ev_t, ↓upd_at, ↓get_cons, ↓frm_nil, cellsV_int, one_int, setCells_nil, setCells_cons, store_ptr, stO_cells, eq_self, List.length_cons, List.length_nil, List.all_cons, List.all_nil, Bool.and_self, true_and, and_self, List.set_cons_zero, List.append_nil, Nat.reduceEqDiff, Nat.zero_add, ↓reduceIte, Nat.le_refl, *, true_or]))
      exact ⟨[], by rw [List.append_nil, hsucc.out]⟩
    · rw [List.length_map, Hz.out]
      have hl2 := hl.app (LObj.cells [Value.int IntKind.u64 z] false :: ys)
      clear hb hpre hb1 hb2
      unfold u64in at z2
      (repeat' (first | ((with_reducible refine WG_dec (fun _ => ?_) (fun _ => ?_)) <;> try (exfalso; omega)) | ((with_reducible refine WG_decF (fun _ => ?_) (fun _ => ?_)) <;> try (exfalso; omega)) | ((with_reducible refine WC_dec (fun _ => ?_) (fun _ => ?_)) <;> try (exfalso; omega)) | refine WC_bool (fun _ => ?_) (fun _ => ?_) | refine WG_bool (fun _ => ?_) (fun _ => ?_) | refine WG_boolF (fun _ => ?_) (fun _ => ?_) | simp -dsimp (disch := omega) only [↓run_nil, ↓run_i, ↓run_k, ↓op_st, ↓co_seq, ↓co_skip, ↓co_ret, ↓co_reg, ↓co_cond, ↓op_mov, ↓op_bin, ↓op_cvi, ↓op_fld, ↓op_ixs, ↓op_ld, ↓op_all, Res_ret, resL_nil, resL_t, resV_two, nn4_tuple, nn3_int, WF_eq, W1_some, WH_some1, ↓ev_t, ↓ev_c, ↓upd_at, ↓get_cons, ↓frm_nil, ↓frm_cons, bin_add, bin_sub, bin_gtr, cvi_int, cellsV_agg, one_int, one_str, setCells_nil, setCells_cons, load_ptr, ldO_cells, part_none, store_ptr, stO_cells, fld_ptr, geta, geta0, seta, seta0, newCells, wrap_i64, wrap_u64, eq_self, List.length_append, List.length_cons, List.length_nil, List.all_cons, List.all_nil, Bool.and_self, true_and, and_self, List.getElem?_cons_zero, List.getElem?_cons_succ, List.set_cons_zero, List.set_cons_succ, List.append_assoc, List.cons_append, Option.map_some, Nat.reduceEqDiff, Nat.reduceAdd, Nat.zero_add, ↓reduceIte, reduceCtorEq, Nat.le_refl, Nat.le_add_right, *, hl2.ixs, hl2.lda, encT]))
      · rw [Z5.out (by omega)]
      · rw [Z4.out (by omega)]
end Go.L.Try

/- ALL BOUNDS: rta.All, Tests; the law's own: tells, all. -/
set_option linter.unusedVariables false
set_option linter.unusedSimpArgs false
set_option maxRecDepth 100000
set_option maxHeartbeats 2000000
namespace Go.L.Try
open Go Go.L
variable {E : Env} {G : Nat}
theorem each3 {h : Heap} {R1 R2 R3 : Heap → Value → Prop} {vs : List Value} (e : Each h [R1, R2, R3] vs) : ∃ a b c, vs = [a, b, c] ∧ R1 h a ∧ R2 h b ∧ R3 h c := by
  cases e with
  | cons h1 t1 => cases t1 with
    | cons h2 t2 => cases t2 with
      | cons h3 t3 => cases t3; exact ⟨_, _, _, rfl, h1, h2, h3⟩
theorem each2 {h : Heap} {R1 R2 : Heap → Value → Prop} {vs : List Value} (e : Each h [R1, R2] vs) : ∃ a b, vs = [a, b] ∧ R1 h a ∧ R2 h b := by
  cases e with
  | cons h1 t1 => cases t1 with
    | cons h2 t2 => cases t2; exact ⟨_, _, rfl, h1, h2⟩
def rN (l : List Task) (n : Nat) : List Int := (List.range n).map fun k : Nat => (boundP l (k : Int)).1
def missN (l : List Task) (n : Nat) : List Int := ((List.range n).filter fun k : Nat => decide ((boundP l (k : Int)).2 ≠ 0)).map fun k : Nat => (k : Int)
theorem rN_succ (l : List Task) (n : Nat) : rN l (n + 1) = rN l n ++ [(boundP l (n : Int)).1] := by unfold rN; rw [List.range_succ, List.map_append]; rfl
theorem missN_succ (l : List Task) (n : Nat) : missN l (n + 1) = if (boundP l (n : Int)).2 ≠ 0 then missN l n ++ [(n : Int)] else missN l n := by
  unfold missN
  rw [List.range_succ, List.filter_append, List.map_append]
  by_cases h : (boundP l (n : Int)).2 ≠ 0
  · rw [if_pos h]; simp [h]
  · rw [if_neg h]; simp [h]
theorem rN_len (l : List Task) (n : Nat) : (rN l n).length = n := by simp [rN]
theorem missN_len (l : List Task) (n : Nat) : (missN l n).length ≤ n := by
  unfold missN; rw [List.length_map]
  have := List.length_filter_le (fun k : Nat => decide ((boundP l (k : Int)).2 ≠ 0)) (List.range n)
  rwa [List.length_range] at this
def allR (l : List Task) : List Int := if validP l then rN l l.length else []
def allM (l : List Task) : List Int := if validP l then missN l l.length else []
def allE (l : List Task) : Int := if validP l then (if missN l l.length = [] then 0 else 16) else 1
def AllV (R M : List Int) (e : Int) : Heap → Value → Prop := fun h v => ∃ vs, v = .tuple vs.toArray ∧ Each h [fun h v => Rd 1 encI h v R, fun h v => Rd 1 encI h v M, fun _ v => v = .int .i64 e] vs
theorem allS_ (hE : Laid E) (hX : LaidAdd E) (hZ : LaidTz E G) {h : Heap} (ht : Tab G h) {vl : Value} {l : List Task} (hl : Rd 7 encT h vl l) (hs : ∀ t ∈ l, t.name.size < 1152921504606846976) :
    ∃ v ys, callW E (.func (.func n_rta_All) #[] #[]) [vl] h = some (v, h ++ ys, []) ∧ AllV (allR l) (allM l) (allE l) (h ++ ys) v := by
  have hc := checkAllS hE hl hs
  refine fn_new hE.rta_All rfl (Movable.tuples (k := 1) (fun R hR => by
    simp only [List.mem_cons, List.not_mem_nil, or_false] at hR
    rcases hR with rfl | rfl | rfl
    · exact Rd.movable flatI _
    · exact Rd.movable flatI _
    · exact movable_eq rfl) (by simp)) (by simp) ?_
  have few := hl.few
  simp only [argsF]
  by_cases hv : validP l
  · have hv2 := hv
    unfold validP at hv2
    have hlen : l.length ≤ 1024 := (checkAll_ok hv2).2.1
    have eR : allR l = rN l l.length := by unfold allR; rw [if_pos hv]
    have eM : allM l = missN l l.length := by unfold allM; rw [if_pos hv]
    have eE : allE l = if missN l l.length = [] then 0 else 16 := by unfold allE; rw [if_pos hv]
    rw [eR, eM, eE]
    rw [hv2] at hc
    clear eR eM eE hv hv2
    (repeat' (first | ((with_reducible refine WG_dec (fun _ => ?_) (fun _ => ?_)) <;> try (exfalso; omega)) | ((with_reducible refine WG_decF (fun _ => ?_) (fun _ => ?_)) <;> try (exfalso; omega)) | ((with_reducible refine WC_dec (fun _ => ?_) (fun _ => ?_)) <;> try (exfalso; omega)) | refine WC_bool (fun _ => ?_) (fun _ => ?_) | refine WG_bool (fun _ => ?_) (fun _ => ?_) | refine WG_boolF (fun _ => ?_) (fun _ => ?_) | simp -dsimp (disch := omega) only [↓run_nil, ↓run_i, ↓op_call, ↓co_seq, ↓co_skip, ↓co_reg, ↓co_cond, ↓co_block, ↓co_loop, ↓op_mov, ↓op_bin, ↓op_ext, ↓op_lens, WF_eq, W1_some, WX_some, WC_false, ↓ev_t, ↓ev_c, ↓ev_f, ↓upd_at, ↓get_cons, ↓frm_nil, ↓frm_cons, bin_neq, ext_tuple, nt_int, eq_self, List.map_cons, List.map_nil, List.getElem?_cons_zero, List.getElem?_cons_succ, Nat.reduceEqDiff, ↓reduceIte, reduceCtorEq, decide_false, not_true_eq_false, *, hl.len]))
    refine WO.loop (fun (n : Nat) fr h' => Pre h h' ∧ n ≤ l.length ∧ get fr 0 = vl ∧ get fr 20 = .int .i64 l.length ∧ get fr 21 = .int .i64 n ∧ OwnT h.length 1 encI h' (get fr 7) (rN l n) ∧ OwnT h.length 1 encI h' (get fr 8) (missN l n) ∧ (rN l n ≠ [] → missN l n ≠ [] → blk (get fr 7) ≠ blk (get fr 8))) (fun n => l.length - n) ?_ 0 ⟨Pre.refl _, Nat.zero_le _, rfl, rfl, rfl, OwnT.nil, OwnT.nil, fun h => absurd rfl h⟩
    rintro n fr h' ⟨hp, hn, g0, g20, g21, ho7, ho8, hne⟩
    generalize hv7 : get fr 7 = v7 at ho7 hne
    generalize hv8 : get fr 8 = v8 at ho8 hne
    have hr := rN_succ l n
    have hm := missN_succ l n
    have hr2 := rN_len l n
    have hm2 := missN_len l n
    unfold c_rta_All_l0
    rcases Nat.lt_or_ge n l.length with hlt | hge
    · have q := fun x => boundS hE hX hZ ((ht.pre hp).app x) ((hl.pre hp).app x) hs (n : Int)
      have q0 := boundS hE hX hZ (ht.pre hp) (hl.pre hp) hs (n : Int)
      have Hr := Hid.mk hr
      have Hm := Hid.mk hm
      have Hne := Hid.mk hne
      clear hr hm hne
      generalize (boundP l (n : Int)).1 = B1 at *
      generalize (boundP l (n : Int)).2 = B2 at *
      generalize rN l n = R at *
      generalize missN l n = M at *
      have hrl : R.length ≤ 1024 := by omega
      clear hr2
      have hml := hp.le
      (repeat' (first | ((with_reducible refine WG_dec (fun _ => ?_) (fun _ => ?_)) <;> try (exfalso; omega)) | ((with_reducible refine WG_decF (fun _ => ?_) (fun _ => ?_)) <;> try (exfalso; omega)) | ((with_reducible refine WC_dec (fun _ => ?_) (fun _ => ?_)) <;> try (exfalso; omega)) | refine WC_bool (fun _ => ?_) (fun _ => ?_) | refine WG_bool (fun _ => ?_) (fun _ => ?_) | refine WG_boolF (fun _ => ?_) (fun _ => ?_) | simp -dsimp (disch := omega) only [↓run_nil, ↓run_i, ↓op_call, ↓co_seq, ↓co_skip, ↓co_reg, ↓co_cond, ↓co_block, ↓op_mov, ↓op_bin, ↓op_ext, ↓op_bsl, ↓op_app, WF_eq, W1_some, WX_some, ↓ev_t, ↓ev_f, ↓upd_at, ↓get_cons, ↓frm_nil, ↓frm_cons, bin_lss, cellsV_int, one_int, fillV_nil, fillV_cons, setCells_nil, setCells_cons, ext_tuple, nt_int, newCells, bslV, eq_self, List.map_cons, List.map_nil, List.length_cons, List.length_nil, List.all_cons, List.all_nil, Bool.and_self, and_self, List.getElem?_cons_zero, List.getElem?_cons_succ, List.set_cons_zero, List.append_nil, Option.bind_some, Nat.reduceEqDiff, Nat.reduceLeDiff, Nat.reduceMul, Nat.zero_add, ↓reduceIte, reduceCtorEq, List.flatten_cons, List.flatten_nil, List.replicate_succ, List.replicate_zero, Nat.le_refl, *]))
      refine wx_app1 (sz := 1) (bytes := 8) (ho7.app _) (hp.app' _) (Nat.le_refl _) (by simp; omega) (fun b hb => hb) B1 (by simp -dsimp (disch := omega) only [geta0, cellsOf_some, cellO_cells, List.length_cons, List.length_nil, List.getElem?_cons_zero, List.drop_zero, List.take_succ_cons, List.take_zero, Nat.reduceMul, Nat.zero_add, ↓reduceIte, Nat.le_refl]; rfl) rfl (by decide) (by decide) (by omega) ?_
      intro v2 h2 k1 k2 k3 k4 k5
      have ho8' := OwnT.other (m' := 0) (sz' := 1) (enc' := encI) (ho8.app [LObj.cells [Value.int IntKind.i64 B1] false]) (fun a b => fun e => Hne.out b a e.symm) k5
      have hlt8 := fun hn => (ho8.lt hn)
      have hml2 := k2.le
      simp only [List.length_append, List.length_cons, List.length_nil] at k3 k4
      have K3 := Hid.mk k3
      have K4 : h'.length < h2.length := by omega
      clear k5 k3 k4
      (repeat' (first | ((with_reducible refine WG_dec (fun _ => ?_) (fun _ => ?_)) <;> try (exfalso; omega)) | ((with_reducible refine WG_decF (fun _ => ?_) (fun _ => ?_)) <;> try (exfalso; omega)) | ((with_reducible refine WC_dec (fun _ => ?_) (fun _ => ?_)) <;> try (exfalso; omega)) | refine WC_bool (fun _ => ?_) (fun _ => ?_) | refine WG_bool (fun _ => ?_) (fun _ => ?_) | refine WG_boolF (fun _ => ?_) (fun _ => ?_) | simp -dsimp (disch := omega) only [↓run_nil, ↓run_i, ↓co_seq, ↓co_skip, ↓co_reg, ↓co_cond, ↓op_mov, ↓op_bin, ↓op_bsl, ↓op_app, WF_eq, W1_some, ↓ev_t, ↓ev_c, ↓upd_at, ↓get_cons, ↓frm_nil, ↓frm_cons, bin_add, bin_neq, cellsV_int, one_int, fillV_nil, fillV_cons, setCells_nil, setCells_cons, newCells, bslV, wrap_i64, eq_self, List.map_cons, List.map_nil, List.length_cons, List.length_nil, List.all_cons, List.all_nil, Bool.and_self, and_self, List.set_cons_zero, List.append_nil, Option.bind_some, Nat.reduceEqDiff, Nat.reduceLeDiff, Nat.reduceMul, Nat.zero_add, ↓reduceIte, reduceCtorEq, decide_true, not_false_eq_true, List.flatten_cons, List.flatten_nil, List.replicate_succ, List.replicate_zero, Nat.le_refl, *]))
      · refine wx_app1 (sz := 1) (bytes := 8) (ho8'.app _) (k2.app' _) (Nat.le_refl _) (by simp; omega) (fun b hb => hb) (n : Int) (by simp -dsimp (disch := omega) only [geta0, cellsOf_some, cellO_cells, List.length_cons, List.length_nil, List.getElem?_cons_zero, List.drop_zero, List.take_succ_cons, List.take_zero, Nat.reduceMul, Nat.zero_add, ↓reduceIte, Nat.le_refl]; rfl) rfl (by decide) (by decide) (by omega) ?_
        intro v3 h3 j1 j2 j3 j4 j5
        simp only [List.length_append, List.length_cons, List.length_nil] at j3 j4
        have k1' := OwnT.other (m' := 0) (sz' := 1) (enc' := encI) (k1.app [LObj.cells [Value.int IntKind.i64 (n : Int)] false]) (fun a b e => by have := hlt8 b; have := K3.out; omega) j5
        clear j5
        have J3 := Hid.mk j3
        clear j3 j4
        (repeat' (first | ((with_reducible refine WG_dec (fun _ => ?_) (fun _ => ?_)) <;> try (exfalso; omega)) | ((with_reducible refine WG_decF (fun _ => ?_) (fun _ => ?_)) <;> try (exfalso; omega)) | ((with_reducible refine WC_dec (fun _ => ?_) (fun _ => ?_)) <;> try (exfalso; omega)) | refine WC_bool (fun _ => ?_) (fun _ => ?_) | refine WG_bool (fun _ => ?_) (fun _ => ?_) | refine WG_boolF (fun _ => ?_) (fun _ => ?_) | simp -dsimp (disch := omega) only [↓run_nil, ↓run_i, ↓co_reg, ↓op_mov, ↓op_bin, WF_eq, W1_some, ↓ev_t, ↓ev_c, ↓upd_at, ↓get_cons, ↓frm_nil, ↓frm_cons, bin_add, wrap_i64, eq_self, Nat.reduceEqDiff, ↓reduceIte, reduceCtorEq, *]))
        refine Next.mk (n + 1) ⟨j2, by omega, rfl, rfl, rfl, by rw [Hr.out]; exact k1', by rw [Hm.out, if_pos (by assumption)]; exact j1, ?_⟩ (by omega)
        intro _ _
        show blk v2 ≠ blk v3
        have := K3.out
        have := J3.out
        omega
      · refine Next.mk (n + 1) ⟨k2, by omega, rfl, rfl, rfl, by rw [Hr.out]; exact k1, by rw [Hm.out, if_neg (by omega)]; exact ho8', ?_⟩ (by omega)
        intro _ hn
        rw [Hm.out, if_neg (by omega)] at hn
        show blk v2 ≠ blk v8
        have := hlt8 hn
        have := K3.out
        omega
    · have e : n = l.length := by omega
      subst e
      clear hr hm hr2
      generalize rN l l.length = R at *
      generalize missN l l.length = M at *
      have hM : 0 < M.length ↔ M ≠ [] := List.length_pos_iff
      have HM := Hid.mk hM
      have hl8 := ho8.rd.len
      clear hM
      (repeat' (first | ((with_reducible refine WG_dec (fun _ => ?_) (fun _ => ?_)) <;> try (exfalso; omega)) | ((with_reducible refine WG_decF (fun _ => ?_) (fun _ => ?_)) <;> try (exfalso; omega)) | ((with_reducible refine WC_dec (fun _ => ?_) (fun _ => ?_)) <;> try (exfalso; omega)) | refine WC_bool (fun _ => ?_) (fun _ => ?_) | refine WG_bool (fun _ => ?_) (fun _ => ?_) | refine WG_boolF (fun _ => ?_) (fun _ => ?_) | simp -dsimp (disch := omega) only [↓run_nil, ↓run_i, ↓co_seq, ↓co_skip, ↓co_exit, ↓co_ret, ↓co_reg, ↓co_cond, ↓op_mov, ↓op_bin, ↓op_lens, Res_ret, resL_nil, resL_t, resV_two, WF_eq, W1_some, ↓ev_t, ↓ev_c, ↓upd_at, ↓get_cons, ↓frm_nil, ↓frm_cons, bin_lss, bin_gtr, eq_self, Option.map_some, Nat.reduceEqDiff, ↓reduceIte, reduceCtorEq, *]))
      · refine ⟨hp.ex, [v7, v8, .int .i64 16], rfl, .cons ho7.rd (.cons ho8.rd (.cons ?_ .nil))⟩
        rw [if_neg (HM.out.1 (by omega))]
      · have e : M = [] := by
          cases M with
          | nil => rfl
          | cons a r => simp only [List.length_cons] at *; omega
        refine ⟨hp.ex, [v7, .slice none 0 0, .int .i64 0], rfl, .cons ho7.rd (.cons ?_ (.cons ?_ .nil))⟩
        · subst e; exact Rd.of_nil
        · rw [if_pos e]
  · have eR : allR l = [] := by unfold allR; rw [if_neg hv]
    have eM : allM l = [] := by unfold allM; rw [if_neg hv]
    have eE : allE l = 1 := by unfold allE; rw [if_neg hv]
    rw [eR, eM, eE]
    unfold validP at hv
    generalize (checkAllP l).2 = e at *
    (repeat' (first | ((with_reducible refine WG_dec (fun _ => ?_) (fun _ => ?_)) <;> try (exfalso; omega)) | ((with_reducible refine WG_decF (fun _ => ?_) (fun _ => ?_)) <;> try (exfalso; omega)) | ((with_reducible refine WC_dec (fun _ => ?_) (fun _ => ?_)) <;> try (exfalso; omega)) | refine WC_bool (fun _ => ?_) (fun _ => ?_) | refine WG_bool (fun _ => ?_) (fun _ => ?_) | refine WG_boolF (fun _ => ?_) (fun _ => ?_) | simp -dsimp (disch := omega) only [↓run_nil, ↓run_i, ↓op_call, ↓co_seq, ↓co_ret, ↓co_reg, ↓co_cond, ↓op_mov, ↓op_bin, ↓op_ext, Res_ret, resL_nil, resL_t, resV_two, WF_eq, W1_some, WX_some, WC_true, ↓ev_t, ↓ev_c, ↓ev_f, ↓upd_at, ↓get_cons, ↓frm_nil, ↓frm_cons, bin_neq, ext_tuple, nt_int, eq_self, List.map_cons, List.map_nil, List.getElem?_cons_zero, List.getElem?_cons_succ, Option.map_some, Nat.reduceEqDiff, ↓reduceIte, reduceCtorEq, decide_true, not_false_eq_true, *]))
    exact ⟨⟨[], by simp⟩, [.slice none 0 0, .slice none 0 0, .int .i64 1], rfl, .cons Rd.of_nil (.cons Rd.of_nil (.cons rfl .nil))⟩
end Go.L.Try

/- THE LAW's OWN: cadencylaw14.tells, all, awake; rta.Tests. -/
set_option linter.unusedVariables false
set_option linter.unusedSimpArgs false
set_option maxRecDepth 100000
set_option maxHeartbeats 2000000
namespace Go.L.Try
open Go Go.L
variable {E : Env} {G : Nat}
theorem Rd.nt {α : Type} {sz : Nat} {enc : α → List Value} {h : Heap} {v : Value} {l : List α} (r : Rd sz enc h v l) : noTuple v = true := by
  rcases Row.is r with ⟨rfl, _⟩ | ⟨_, _, _, _, _, _, rfl, _⟩ <;> rfl
theorem testsS (hE : Laid E) (hX : LaidAdd E) (hZ : LaidTz E G) {h : Heap} (ht : Tab G h) {vl : Value} {l : List Task} (hl : Rd 7 encT h vl l) (hs : ∀ t ∈ l, t.name.size < 1152921504606846976) :
    callW E (.func (.func n_rta_Tests) #[] #[]) [vl] h = some (.bool (decide (allE l = 0)), h, []) := by
  refine fn_same hE.rta_Tests rfl (by simp) ?_
  simp only [argsF]
  (repeat' (first | ((with_reducible refine WG_dec (fun _ => ?_) (fun _ => ?_)) <;> try (exfalso; omega)) | ((with_reducible refine WG_decF (fun _ => ?_) (fun _ => ?_)) <;> try (exfalso; omega)) | ((with_reducible refine WC_dec (fun _ => ?_) (fun _ => ?_)) <;> try (exfalso; omega)) | refine WC_bool (fun _ => ?_) (fun _ => ?_) | refine WG_bool (fun _ => ?_) (fun _ => ?_) | refine WG_boolF (fun _ => ?_) (fun _ => ?_) | simp -dsimp (disch := omega) only [↓run_nil, ↓run_i, ↓op_call, ↓co_seq, ↓co_reg, ↓op_mov, WF_eq, W1_some, ↓ev_t, ↓ev_c, ↓ev_f, ↓upd_at, ↓get_cons, ↓frm_nil, ↓frm_cons, eq_self, List.map_cons, List.map_nil, ↓reduceIte, reduceCtorEq, *]))
  refine wx_new (allS_ hE hX hZ ht hl hs) fun v ys hr hp => ?_
  obtain ⟨vs, rfl, he⟩ := hr
  obtain ⟨a, b, c, rfl, ha, hb, rfl⟩ := each3 he
  have na := Rd.nt ha
  have nb := Rd.nt hb
  generalize allE l = e at *
  (repeat' (first | ((with_reducible refine WG_dec (fun _ => ?_) (fun _ => ?_)) <;> try (exfalso; omega)) | ((with_reducible refine WG_decF (fun _ => ?_) (fun _ => ?_)) <;> try (exfalso; omega)) | ((with_reducible refine WC_dec (fun _ => ?_) (fun _ => ?_)) <;> try (exfalso; omega)) | refine WC_bool (fun _ => ?_) (fun _ => ?_) | refine WG_bool (fun _ => ?_) (fun _ => ?_) | refine WG_boolF (fun _ => ?_) (fun _ => ?_) | simp -dsimp (disch := omega) only [↓run_nil, ↓run_i, ↓co_seq, ↓co_ret, ↓co_reg, ↓op_mov, ↓op_bin, ↓op_ext, Res_ret, resL_nil, resL_t, resV_one, nn4_bool, WF_eq, W1_some, ↓ev_t, ↓ev_c, ↓upd_at, ↓get_cons, ↓frm_nil, ↓frm_cons, bin_eql, ext_tuple, nt_int, eq_self, true_and, List.getElem?_cons_zero, List.getElem?_cons_succ, Option.map_some, Nat.reduceEqDiff, ↓reduceIte, *]))
theorem tells14 (hE : Laid E) (hX : LaidAdd E) (hZ : LaidTz E G) {h : Heap} (ht : Tab G h) {vl : Value} {l : List Task} (hl : Rd 7 encT h vl l) (hs : ∀ t ∈ l, t.name.size < 1152921504606846976) (i : Int) :
    callW E (.func (.func n_cadencylaw14_tells) #[] #[]) [vl, .int .i64 i] h = some (.bool true, h, []) := by
  have q1 := fun x => boundS hE hX hZ (ht.app x) (hl.app x) hs i
  have q2 := fun x => bound14 hE (hl.app x) hs i
  refine fn_same hE.cadencylaw14_tells rfl (by simp) ?_
  generalize (boundP l i).1 = B1 at *
  generalize (boundP l i).2 = B2 at *
  simp only [argsF]
  (repeat' (first | ((with_reducible refine WG_dec (fun _ => ?_) (fun _ => ?_)) <;> try (exfalso; omega)) | ((with_reducible refine WG_decF (fun _ => ?_) (fun _ => ?_)) <;> try (exfalso; omega)) | ((with_reducible refine WC_dec (fun _ => ?_) (fun _ => ?_)) <;> try (exfalso; omega)) | refine WC_bool (fun _ => ?_) (fun _ => ?_) | refine WG_bool (fun _ => ?_) (fun _ => ?_) | refine WG_boolF (fun _ => ?_) (fun _ => ?_) | simp -dsimp (disch := omega) only [↓run_nil, ↓run_i, ↓run_k, ↓op_st, ↓op_call, ↓co_seq, ↓co_reg, ↓op_mov, ↓op_ext, ↓op_all, WF_eq, W1_some, WX_some, WH_some1, ↓ev_t, ↓ev_f, ↓upd_at, ↓get_cons, ↓frm_nil, ↓frm_cons, cellsV_agg, one_int, one_bool, setCells_nil, setCells_cons, store_ptr, stO_cells, ext_tuple, nt_int, geta, seta, newCells, eq_self, List.map_cons, List.map_nil, List.length_append, List.length_cons, List.length_nil, List.all_cons, List.all_nil, Bool.and_self, true_and, and_self, List.getElem?_cons_zero, List.getElem?_cons_succ, List.set_cons_zero, List.set_cons_succ, List.append_assoc, List.cons_append, List.nil_append, Nat.reduceEqDiff, Nat.reduceAdd, Nat.zero_add, ↓reduceIte, reduceCtorEq, Nat.le_refl, Nat.le_add_right, *]))
  refine wx_new (each14 hE (hl.app _) hs i) fun vw ys hw hp => ?_
  generalize hE8 : eachP l i = es at *
  have hpH : Pre h (h ++ [LObj.cells [Value.bool false] false, LObj.cells [Value.int IntKind.i64 B1, Value.int IntKind.i64 B2] false] ++ ys) := (Pre.app h _).trans hp
  have c4 : (h ++ [LObj.cells [Value.bool false] false, LObj.cells [Value.int IntKind.i64 B1, Value.int IntKind.i64 B2] false] ++ ys)[h.length]? = some (.cells [.bool false] false) := hp _ _ (by rw [geta0]; rfl)
  have c7 : (h ++ [LObj.cells [Value.bool false] false, LObj.cells [Value.int IntKind.i64 B1, Value.int IntKind.i64 B2] false] ++ ys)[h.length + 1]? = some (.cells [.int .i64 B1, .int .i64 B2] false) := hp _ _ (by rw [geta]; rfl)
  have hlen : h.length + 2 ≤ (h ++ [LObj.cells [Value.bool false] false, LObj.cells [Value.int IntKind.i64 B1, Value.int IntKind.i64 B2] false] ++ ys).length := by simp
  generalize h ++ [LObj.cells [Value.bool false] false, LObj.cells [Value.int IntKind.i64 B1, Value.int IntKind.i64 B2] false] ++ ys = H at *
  have cv := hw.cv
  have co := hw.one
  have hml := hpH.le
  (repeat' (first | ((with_reducible refine WG_dec (fun _ => ?_) (fun _ => ?_)) <;> try (exfalso; omega)) | ((with_reducible refine WG_decF (fun _ => ?_) (fun _ => ?_)) <;> try (exfalso; omega)) | ((with_reducible refine WC_dec (fun _ => ?_) (fun _ => ?_)) <;> try (exfalso; omega)) | refine WC_bool (fun _ => ?_) (fun _ => ?_) | refine WG_bool (fun _ => ?_) (fun _ => ?_) | refine WG_boolF (fun _ => ?_) (fun _ => ?_) | simp -dsimp (disch := omega) only [↓run_nil, ↓run_i, ↓run_k, ↓op_st, ↓op_call, ↓co_seq, ↓co_reg, ↓op_mov, ↓op_all, WF_eq, W1_some, WH_some1, ↓ev_t, ↓ev_f, ↓upd_at, ↓get_cons, ↓frm_nil, ↓frm_cons, one_slice, setCells_nil, setCells_cons, store_ptr, stO_cells, geta0, seta0, newCells, eq_self, List.map_cons, List.map_nil, List.length_cons, List.length_nil, List.all_cons, List.all_nil, Bool.and_self, true_and, and_self, List.getElem?_cons_zero, List.set_cons_zero, Nat.reduceEqDiff, Nat.zero_add, ↓reduceIte, reduceCtorEq, Nat.le_refl, *]))
  refine wx_new (eachS hE ((hl.pre hpH).app _) i) fun v ys2 hr hp2 => ?_
  obtain ⟨b1, b2, u1, u2, rfl, ⟨hg1, hg2⟩, ⟨hb1, hb2⟩, ⟨rfl, _⟩, rfl⟩ := hr
  have hpH2 : Pre h (H ++ [LObj.cells [vw] false] ++ ys2) := hpH.trans ((Pre.app H _).trans hp2)
  have d4 : (H ++ [LObj.cells [vw] false] ++ ys2)[h.length]? = some (.cells [.bool false] false) := hp2 _ _ (Pre.app H _ _ _ c4)
  have d7 : (H ++ [LObj.cells [vw] false] ++ ys2)[h.length + 1]? = some (.cells [.int .i64 B1, .int .i64 B2] false) := hp2 _ _ (Pre.app H _ _ _ c7)
  have d8 : (H ++ [LObj.cells [vw] false] ++ ys2)[H.length]? = some (.cells [vw] false) := hp2 _ _ (by rw [geta0]; rfl)
  have hw2 : Rd 1 encU (H ++ [LObj.cells [vw] false] ++ ys2) vw es := (hw.app _).pre hp2
  have hlen2 : H.length + 1 ≤ (H ++ [LObj.cells [vw] false] ++ ys2).length := by simp
  simp only [List.length_append, List.length_cons, List.length_nil] at hg1 hg2
  generalize H ++ [LObj.cells [vw] false] ++ ys2 = H2 at *
  have hl1 := (List.getElem?_eq_some_iff.1 hb1).1
  have hl2 := (List.getElem?_eq_some_iff.1 hb2).1
  clear hp hp2 c4 c7 hw q1 q2
  have d4x : ∀ x, (H2 ++ x)[h.length]? = some (.cells [.bool false] false) := fun x => Pre.app H2 x _ _ d4
  have d7x : ∀ x, (H2 ++ x)[h.length + 1]? = some (.cells [.int .i64 B1, .int .i64 B2] false) := fun x => Pre.app H2 x _ _ d7
  have d8x : ∀ x, (H2 ++ x)[H.length]? = some (.cells [vw] false) := fun x => Pre.app H2 x _ _ d8
  have hml2 := hpH2.le
  have hml3 : h.length ≤ H2.length + 1 := by omega
  (repeat' (first | ((with_reducible refine WG_dec (fun _ => ?_) (fun _ => ?_)) <;> try (exfalso; omega)) | ((with_reducible refine WG_decF (fun _ => ?_) (fun _ => ?_)) <;> try (exfalso; omega)) | ((with_reducible refine WC_dec (fun _ => ?_) (fun _ => ?_)) <;> try (exfalso; omega)) | refine WC_bool (fun _ => ?_) (fun _ => ?_) | refine WG_bool (fun _ => ?_) (fun _ => ?_) | refine WG_boolF (fun _ => ?_) (fun _ => ?_) | simp -dsimp (disch := omega) only [↓run_nil, ↓run_i, ↓run_k, ↓run_w, ↓op_st, ↓co_seq, ↓co_skip, ↓co_reg, ↓co_cond, ↓co_block, ↓op_mov, ↓op_pick, ↓op_bin, ↓op_fld, ↓op_ld, ↓op_all, WF_eq, W1_some, WH_some1, WC_false, WG_false, ↓ev_t, ↓ev_c, ↓upd_at, ↓get_cons, ↓frm_nil, ↓frm_cons, bin_neq, pick_f, cellsV_int, one_int, setCells_nil, setCells_cons, load_ptr, ldO_cells, part_none, store_ptr, stO_cells, fld_ptr, geta0, seta0, newCells, eq_self, bin_fnil, List.length_cons, List.length_nil, List.all_cons, List.all_nil, Bool.and_self, true_and, and_self, List.getElem?_cons_zero, List.getElem?_cons_succ, List.set_cons_zero, Nat.reduceEqDiff, Nat.zero_add, Nat.add_zero, ↓reduceIte, reduceCtorEq, decide_false, not_true_eq_false, Nat.le_refl, *]))
  have few := hw2.few
  refine co_iter1 hE.keep rfl (each_iter hE hX hZ hs i b1 b2) (c := H2.length) (by simp) (by omega) (fun k => .int .i64 (k : Int)) (fun _ => rfl) (by rw [geta0]; rfl) rfl (fun hh e1 e2 => ⟨⟨by rw [e2 b1 (by simp; omega) (by omega)]; exact Pre.app H2 _ _ _ hb1, by rw [e2 b2 (by simp; omega) (by omega)]; exact Pre.app H2 _ _ _ hb2⟩, ?_⟩) ?_ ?_
  · have hp2 : Pre h hh := fun b o hb => by have hlt := (List.getElem?_eq_some_iff.1 hb).1; rw [e2 b (by simp; omega) (by omega)]; exact Pre.app H2 _ _ _ (hpH2 b o hb)
    exact ⟨hl.pre hp2, ht.pre hp2⟩
  · intro k a ha
    rw [hE8, List.getElem?_map] at ha
    obtain ⟨w, hw, rfl⟩ := Option.map_eq_some_iff.1 ha
    have hk := (List.getElem?_eq_some_iff.1 hw).1
    have hat : atI es (k : Int) = w := by
      rw [atI_nat hk]
      rw [List.getElem?_eq_getElem hk] at hw; exact Option.some.inj hw
    clear ha hw
    refine ⟨_, rfl, fun hh g1 g2 g3 => ?_⟩
    unfold c_cadencylaw14_tells_l0
    (repeat' (first | ((with_reducible refine WG_dec (fun _ => ?_) (fun _ => ?_)) <;> try (exfalso; omega)) | ((with_reducible refine WG_decF (fun _ => ?_) (fun _ => ?_)) <;> try (exfalso; omega)) | ((with_reducible refine WC_dec (fun _ => ?_) (fun _ => ?_)) <;> try (exfalso; omega)) | refine WC_bool (fun _ => ?_) (fun _ => ?_) | refine WG_bool (fun _ => ?_) (fun _ => ?_) | refine WG_boolF (fun _ => ?_) (fun _ => ?_) | simp -dsimp (disch := omega) only [↓run_nil, ↓run_i, ↓co_reg, ↓op_mov, WF_eq, W1_some, ↓ev_t, ↓upd_at, ↓get_cons, ↓frm_nil, ↓frm_cons, eq_self, hadd, List.length_append, List.length_cons, List.length_nil, true_and, Nat.reduceEqDiff, Nat.reduceAdd, Nat.zero_add, ↓reduceIte, *]))
    refine ⟨[], (List.append_nil _).symm, fun hh2 k1 k2 k3 => ?_⟩
    have hp3 : Pre H2 hh2 := fun b o hb => by
      have hlt := (List.getElem?_eq_some_iff.1 hb).1
      rw [k3 b (by omega) (by omega)]; exact Pre.app H2 _ _ _ hb
    have hw3 := hw2.pre hp3
    have d8' := hp3 _ _ d8
    unfold c_cadencylaw14_tells_l1
    (repeat' (first | ((with_reducible refine WG_dec (fun _ => ?_) (fun _ => ?_)) <;> try (exfalso; omega)) | ((with_reducible refine WG_decF (fun _ => ?_) (fun _ => ?_)) <;> try (exfalso; omega)) | ((with_reducible refine WC_dec (fun _ => ?_) (fun _ => ?_)) <;> try (exfalso; omega)) | refine WC_bool (fun _ => ?_) (fun _ => ?_) | refine WG_bool (fun _ => ?_) (fun _ => ?_) | refine WG_boolF (fun _ => ?_) (fun _ => ?_) | simp -dsimp (disch := omega) only [↓run_nil, ↓run_i, ↓run_k, ↓run_w, ↓op_st, ↓co_seq, ↓co_skip, ↓co_reg, ↓co_cond, ↓co_block, ↓op_mov, ↓op_pick, ↓op_bin, ↓op_ixs, ↓op_lens, ↓op_ld, WF_eq, W1_some, WH_some1, WC_false, WG_false, ↓ev_t, ↓ev_c, ↓upd_at, ↓get_cons, ↓frm_nil, ↓frm_cons, bin_add, bin_neq, bin_geq, pick_f, cellsV_int, one_int, setCells_nil, setCells_cons, load_ptr, ldO_cells, part_none, store_ptr, stO_cells, wrap_i64, eq_self, List.length_cons, List.length_nil, List.all_cons, List.all_nil, Bool.and_self, true_and, and_self, List.getElem?_cons_zero, List.getD_cons_zero, List.set_cons_zero, List.append_nil, Nat.reduceEqDiff, Nat.zero_add, ↓reduceIte, decide_false, not_true_eq_false, Nat.le_refl, *, true_or, hw3.len, hw3.ixs, hw3.ld0, encU]))
    exact ⟨[], by rw [List.append_nil]; rfl⟩
  · rw [List.length_map, hE8]
    have gs : ∀ x o, ((H2 ++ x).set h.length o)[h.length]? = some o := fun x o => gset (by simp; omega)
    (repeat' (first | ((with_reducible refine WG_dec (fun _ => ?_) (fun _ => ?_)) <;> try (exfalso; omega)) | ((with_reducible refine WG_decF (fun _ => ?_) (fun _ => ?_)) <;> try (exfalso; omega)) | ((with_reducible refine WC_dec (fun _ => ?_) (fun _ => ?_)) <;> try (exfalso; omega)) | refine WC_bool (fun _ => ?_) (fun _ => ?_) | refine WG_bool (fun _ => ?_) (fun _ => ?_) | refine WG_boolF (fun _ => ?_) (fun _ => ?_) | simp -dsimp (disch := omega) only [↓run_nil, ↓run_i, ↓run_k, ↓op_st, ↓co_seq, ↓co_ret, ↓co_reg, ↓op_bin, ↓op_lens, ↓op_ld, Res_ret, resL_nil, resL_v, resV_one, nn4_bool, WF_eq, W1_some, WH_some1, ↓ev_t, ↓upd_at, ↓get_cons, ↓frm_nil, ↓frm_cons, bin_eql, cellsV_bool, one_bool, setCells_nil, setCells_cons, load_ptr, ldO_cells, part_none, store_ptr, stO_cells, geta0, seta0, eq_self, List.length_cons, List.length_nil, List.all_cons, List.all_nil, Bool.and_self, true_and, and_self, List.getElem?_cons_zero, List.set_cons_zero, Option.bind_some, Option.map_some, Nat.reduceEqDiff, Nat.zero_add, ↓reduceIte, decide_true, Nat.le_refl, *, hw2.len]))
theorem missN_pre (l : List Task) (n : Nat) : ∀ d, ∃ r, missN l (n + d) = missN l n ++ r
  | 0 => ⟨[], by simp⟩
  | d + 1 => by
    obtain ⟨r, e⟩ := missN_pre l n d
    rw [← Nat.add_assoc, missN_succ, e]
    split
    · exact ⟨r ++ [((n + d : Nat) : Int)], by simp⟩
    · exact ⟨r, rfl⟩
theorem missN_at {l : List Task} {n L : Nat} (hn : n < L) (h : (boundP l (n : Int)).2 ≠ 0) : (missN l n).length < (missN l L).length ∧ atI (missN l L) ((missN l n).length : Int) = (n : Int) := by
  obtain ⟨d, rfl⟩ : ∃ d, L = (n + 1) + d := ⟨L - (n + 1), by omega⟩
  obtain ⟨r, e⟩ := missN_pre l (n + 1) d
  rw [missN_succ, if_pos h] at e
  rw [e]
  have h2 : (missN l n).length < (missN l n ++ [(n : Int)] ++ r).length := by simp <;> omega
  refine ⟨h2, ?_⟩
  rw [atI_nat h2]
  simp
theorem all14 (hE : Laid E) (hX : LaidAdd E) (hZ : LaidTz E G) {h : Heap} (ht : Tab G h) {vl : Value} {l : List Task} (hl : Rd 7 encT h vl l) (hs : ∀ t ∈ l, t.name.size < 1152921504606846976) :
    callW E (.func (.func n_cadencylaw14_all) #[] #[]) [vl] h = some (.bool true, h, []) := by
  refine fn_same hE.cadencylaw14_all rfl (by simp) ?_
  simp only [argsF]
  (repeat' (first | ((with_reducible refine WG_dec (fun _ => ?_) (fun _ => ?_)) <;> try (exfalso; omega)) | ((with_reducible refine WG_decF (fun _ => ?_) (fun _ => ?_)) <;> try (exfalso; omega)) | ((with_reducible refine WC_dec (fun _ => ?_) (fun _ => ?_)) <;> try (exfalso; omega)) | refine WC_bool (fun _ => ?_) (fun _ => ?_) | refine WG_bool (fun _ => ?_) (fun _ => ?_) | refine WG_boolF (fun _ => ?_) (fun _ => ?_) | simp -dsimp (disch := omega) only [↓run_nil, ↓run_i, ↓op_call, ↓co_seq, ↓co_reg, ↓op_mov, WF_eq, W1_some, ↓ev_t, ↓ev_c, ↓ev_f, ↓upd_at, ↓get_cons, ↓frm_nil, ↓frm_cons, eq_self, List.map_cons, List.map_nil, ↓reduceIte, reduceCtorEq, *]))
  refine wx_new (allS_ hE hX hZ ht hl hs) fun v ys hr hp => ?_
  obtain ⟨vs, rfl, he⟩ := hr
  obtain ⟨a, b, c, rfl, ha, hb, rfl⟩ := each3 he
  have na := Rd.nt ha
  have nb := Rd.nt hb
  have ht2 := ht.pre hp
  have hl2 := hl.pre hp
  have hml := hp.le
  generalize h ++ ys = H at *
  have qc := checkAll04 hE hl2 hs
  have qt := testsS hE hX hZ ht2 hl2 hs
  have few := hl2.few
  clear he
  by_cases hv : validP l
  · have hv2 := hv
    unfold validP at hv2
    have hlen : l.length ≤ 1024 := (checkAll_ok hv2).2.1
    have eR : allR l = rN l l.length := by unfold allR; rw [if_pos hv]
    have eM : allM l = missN l l.length := by unfold allM; rw [if_pos hv]
    have eE : allE l = if missN l l.length = [] then 0 else 16 := by unfold allE; rw [if_pos hv]
    rw [eR] at ha
    rw [eM] at hb
    rw [hv2] at qc
    have hRl := rN_len l l.length
    have hMl := missN_len l l.length
    have eE2 : allE l = if (missN l l.length).length = 0 then 0 else 16 := by rw [eE]; simp only [List.length_eq_zero_iff]
    clear eR eM eE hv hv2
    generalize hAE : allE l = e at *
    have HAE := Hid.mk hAE
    clear hAE
    have HE2 := Hid.mk eE2
    have Hat := Hid.mk (fun n (hn : n < l.length) h => missN_at (l := l) hn h)
    generalize hR : rN l l.length = R at *
    generalize hM : missN l l.length = M at *
    have HM := Hid.mk hM
    have hRI : ∀ n : Nat, n < l.length → atI R (n : Int) = (boundP l (n : Int)).1 := fun n hn => by
      rw [atI_nat (by omega)]
      subst hR
      unfold rN; simp
    have HRI := Hid.mk hRI
    clear eE2 hR hM hRI
    have hRl1 : R.length ≤ l.length := by omega
    have hRl2 : l.length ≤ R.length := by omega
    clear hRl
    (repeat' (first | ((with_reducible refine WG_dec (fun _ => ?_) (fun _ => ?_)) <;> try (exfalso; omega)) | ((with_reducible refine WG_decF (fun _ => ?_) (fun _ => ?_)) <;> try (exfalso; omega)) | ((with_reducible refine WC_dec (fun _ => ?_) (fun _ => ?_)) <;> try (exfalso; omega)) | refine WC_bool (fun _ => ?_) (fun _ => ?_) | refine WG_bool (fun _ => ?_) (fun _ => ?_) | refine WG_boolF (fun _ => ?_) (fun _ => ?_) | simp -dsimp (disch := omega) only [↓run_nil, ↓run_i, ↓op_call, ↓co_seq, ↓co_skip, ↓co_reg, ↓co_cond, ↓co_block, ↓co_loop, ↓op_mov, ↓op_bin, ↓op_fof, ↓op_ext, ↓op_lens, WF_eq, W1_some, WX_some, WC_false, ↓ev_t, ↓ev_c, ↓ev_f, ↓upd_at, ↓get_cons, ↓frm_nil, ↓frm_cons, bin_neq, part_none, fof_agg, ext_tuple, nt_int, eq_self, List.map_cons, List.map_nil, List.getElem?_cons_zero, List.getElem?_cons_succ, Nat.reduceEqDiff, ↓reduceIte, reduceCtorEq, decide_false, not_true_eq_false, *, hl2.len, ha.len]))
    refine WO.loop (fun (n : Nat) fr h' => Pre H h' ∧ n ≤ l.length ∧ get fr 0 = vl ∧ get fr 3 = a ∧ get fr 4 = b ∧ get fr 5 = .int .i64 e ∧ get fr 6 = .int .i64 ((missN l n).length : Int) ∧ get fr 7 = .int .i64 (n : Int)) (fun n => l.length - n) ?_ 0 ⟨Pre.refl _, Nat.zero_le _, rfl, rfl, rfl, rfl, rfl, rfl⟩
    rintro n fr h' ⟨hp', hn, g0, g3, g4, g5, g6, g7⟩
    have hm := Hid.mk (missN_succ l n)
    have hm2 := missN_len l n
    have hat2 := Hid.mk (fun hn => Hat.out n hn)
    have hri := fun hn => HRI.out n hn
    unfold c_cadencylaw14_all_l0
    rcases Nat.lt_or_ge n l.length with hlt | hge
    · have hl3 := hl2.pre hp'
      have q := fun x => bound14 hE (hl3.app x) hs (n : Int)
      have q0 := bound14 hE hl3 hs (n : Int)
      have ha3 := ha.pre hp'
      have hb3 := hb.pre hp'
      have hml2 := hp'.le
      have hml3 : h.length ≤ h'.length := by omega
      have hri := hri hlt
      generalize (boundP l (n : Int)).1 = B1 at *
      generalize (boundP l (n : Int)).2 = B2 at *
      generalize hMn : (missN l n).length = mn at *
      by_cases hB : B2 = 0
      · subst hB
        have e1 : (missN l (n + 1)).length = mn := by rw [hm.out, if_neg (by decide), hMn]
        have E1 := Hid.mk e1
        clear e1
        (repeat' (first | ((with_reducible refine WG_dec (fun _ => ?_) (fun _ => ?_)) <;> try (exfalso; omega)) | ((with_reducible refine WG_decF (fun _ => ?_) (fun _ => ?_)) <;> try (exfalso; omega)) | ((with_reducible refine WC_dec (fun _ => ?_) (fun _ => ?_)) <;> try (exfalso; omega)) | refine WC_bool (fun _ => ?_) (fun _ => ?_) | refine WG_bool (fun _ => ?_) (fun _ => ?_) | refine WG_boolF (fun _ => ?_) (fun _ => ?_) | simp -dsimp (disch := omega) only [↓run_nil, ↓run_i, ↓run_k, ↓rd_nil, ↓rd_i, ↓op_st, ↓op_call, ↓co_seq, ↓co_skip, ↓co_reg, ↓co_drw, ↓co_cond, ↓co_block, ↓op_mov, ↓op_bin, ↓op_fld, ↓op_lens, ↓op_ld, ↓op_all, ↓opd_mov, ↓opd_bin, ↓opd_fld, ↓opd_ixs, ↓opd_ld, WF_eq, W1_some, WX_some, WH_some1, WC_false, ↓ev_t, ↓ev_c, ↓ev_f, ↓upd_at, ↓get_cons, ↓frm_nil, ↓frm_cons, bin_add, bin_neq, bin_lss, cellsV_agg, one_int, setCells_nil, setCells_cons, load_ptr, ldO_cells, part_none, store_ptr, stO_cells, fld_ptr, geta0, seta0, room0, newCells, wrap_i64, eq_self, List.map_cons, List.map_nil, List.length_cons, List.length_nil, List.all_cons, List.all_nil, Bool.and_self, true_and, and_self, List.getElem?_cons_zero, List.getElem?_cons_succ, List.getD_cons_zero, List.set_cons_zero, List.set_cons_succ, Nat.reduceEqDiff, Nat.reduceAdd, Nat.zero_add, Nat.add_zero, ↓reduceIte, reduceCtorEq, decide_true, decide_false, not_true_eq_false, Nat.le_refl, *, hl3.len, ha3.ixs, ha3.ldx0, encI]))
        exact Next.mk (n + 1) ⟨hp'.app' _, by omega, rfl, rfl, rfl, rfl, by rw [E1.out]; rfl, rfl⟩ (by omega)
      · have e1 : (missN l (n + 1)).length = mn + 1 := by rw [hm.out, if_pos hB, List.length_append, hMn]; rfl
        have E1 := Hid.mk e1
        obtain ⟨x1, x2⟩ := hat2.out hlt hB
        clear e1
        (repeat' (first | ((with_reducible refine WG_dec (fun _ => ?_) (fun _ => ?_)) <;> try (exfalso; omega)) | ((with_reducible refine WG_decF (fun _ => ?_) (fun _ => ?_)) <;> try (exfalso; omega)) | ((with_reducible refine WC_dec (fun _ => ?_) (fun _ => ?_)) <;> try (exfalso; omega)) | refine WC_bool (fun _ => ?_) (fun _ => ?_) | refine WG_bool (fun _ => ?_) (fun _ => ?_) | refine WG_boolF (fun _ => ?_) (fun _ => ?_) | simp -dsimp (disch := omega) only [↓run_nil, ↓run_i, ↓run_k, ↓run_w, ↓rd_nil, ↓rd_i, ↓op_st, ↓op_call, ↓co_seq, ↓co_skip, ↓co_reg, ↓co_drw, ↓co_cond, ↓co_block, ↓op_mov, ↓op_pick, ↓op_bin, ↓op_fld, ↓op_ixs, ↓op_lens, ↓op_ld, ↓op_all, ↓opd_mov, ↓opd_bin, ↓opd_fld, ↓opd_ixs, ↓opd_ld, WF_eq, W1_some, WX_some, WH_some1, WC_true, WC_false, WG_false, ↓ev_t, ↓ev_c, ↓ev_f, ↓upd_at, ↓get_cons, ↓frm_nil, ↓frm_cons, bin_add, bin_neq, bin_lss, bin_geq, pick_f, cellsV_agg, one_int, setCells_nil, setCells_cons, load_ptr, ldO_cells, part_none, store_ptr, stO_cells, fld_ptr, geta0, seta0, room0, newCells, wrap_i64, eq_self, List.map_cons, List.map_nil, List.length_cons, List.length_nil, List.all_cons, List.all_nil, Bool.and_self, true_and, and_self, List.getElem?_cons_zero, List.getElem?_cons_succ, List.getD_cons_zero, List.set_cons_zero, List.set_cons_succ, Nat.reduceEqDiff, Nat.reduceAdd, Nat.zero_add, Nat.add_zero, ↓reduceIte, reduceCtorEq, decide_true, decide_false, not_true_eq_false, not_false_eq_true, Nat.le_refl, *, hl3.len, ha3.ixs, ha3.ldx0, hb3.len, hb3.ixs, hb3.ldx0, encI]))
        exact Next.mk (n + 1) ⟨hp'.app' _, by omega, rfl, rfl, rfl, rfl, by rw [E1.out]; rfl, rfl⟩ (by omega)
    · have e : n = l.length := by omega
      subst e
      have e1 : (missN l l.length).length = M.length := by rw [HM.out]
      have he : e = if M.length = 0 then 0 else 16 := HE2.out
      have hl3 := hl2.pre hp'
      have qt2 := testsS hE hX hZ (ht2.pre hp') hl3 hs
      clear qt
      clear hm hat2 Hat HM HE2 HRI hri
      rw [e1] at g6
      clear e1 hm2
      by_cases h0 : M.length = 0
      · rw [if_pos h0] at he
        subst he
        rw [HAE.out, show decide ((0 : Int) = 0) = true from rfl] at qt2
        have g6 : get fr 6 = .int .i64 0 := by rw [g6, h0]; rfl
        have hb0 : lensV false b = some (.int .i64 0) := by rw [hb.len, h0]; rfl
        have hM0 : M.length ≤ 0 := by omega
        clear h0 hMl
        (repeat' (first | ((with_reducible refine WG_dec (fun _ => ?_) (fun _ => ?_)) <;> try (exfalso; omega)) | ((with_reducible refine WG_decF (fun _ => ?_) (fun _ => ?_)) <;> try (exfalso; omega)) | ((with_reducible refine WC_dec (fun _ => ?_) (fun _ => ?_)) <;> try (exfalso; omega)) | refine WC_bool (fun _ => ?_) (fun _ => ?_) | refine WG_bool (fun _ => ?_) (fun _ => ?_) | refine WG_boolF (fun _ => ?_) (fun _ => ?_) | simp -dsimp (disch := omega) only [↓run_nil, ↓run_i, ↓run_w, ↓op_call, ↓co_seq, ↓co_exit, ↓co_ret, ↓co_reg, ↓co_cond, ↓op_mov, ↓op_pick, ↓op_bin, ↓op_lens, Res_ret, resL_nil, resL_t, resV_one, nn4_bool, WF_eq, W1_some, WX_some, WG_true, WG_tf, ↓ev_t, ↓ev_c, ↓ev_f, ↓upd_at, ↓get_cons, ↓frm_nil, ↓frm_cons, bin_eql, bin_lss, bin_beq, pick_t, eq_self, beq_self_eq_true, List.map_cons, List.map_nil, true_and, Option.map_some, Nat.reduceEqDiff, ↓reduceIte, reduceCtorEq, decide_true, decide_false, *, hl3.len]))
        all_goals first | rfl | (exfalso; omega)
      · rw [if_neg h0] at he
        subst he
        rw [HAE.out, show decide ((16 : Int) = 0) = false from rfl] at qt2
        have h1 : ¬ (M.length : Int) = 0 := by omega
        generalize hMM : M.length = ml at *
        have d16 : decide ((16 : Int) = 0) = false := rfl
        (repeat' (first | ((with_reducible refine WG_dec (fun _ => ?_) (fun _ => ?_)) <;> try (exfalso; omega)) | ((with_reducible refine WG_decF (fun _ => ?_) (fun _ => ?_)) <;> try (exfalso; omega)) | ((with_reducible refine WC_dec (fun _ => ?_) (fun _ => ?_)) <;> try (exfalso; omega)) | refine WC_bool (fun _ => ?_) (fun _ => ?_) | refine WG_bool (fun _ => ?_) (fun _ => ?_) | refine WG_boolF (fun _ => ?_) (fun _ => ?_) | simp -dsimp (disch := omega) only [↓run_nil, ↓run_i, ↓run_w, ↓op_call, ↓co_seq, ↓co_exit, ↓co_ret, ↓co_reg, ↓co_cond, ↓op_mov, ↓op_pick, ↓op_bin, ↓op_lens, Res_ret, resL_nil, resL_t, resV_one, nn4_bool, WF_eq, W1_some, WX_some, WG_true, WG_false, ↓ev_t, ↓ev_c, ↓ev_f, ↓upd_at, ↓get_cons, ↓frm_nil, ↓frm_cons, bin_eql, bin_lss, bin_beq, pick_t, pick_f, eq_self, beq_self_eq_true, List.map_cons, List.map_nil, true_and, Option.map_some, Nat.reduceEqDiff, ↓reduceIte, reduceCtorEq, decide_true, decide_false, *, hl3.len, hb.len]))
  · have eR : allR l = [] := by unfold allR; rw [if_neg hv]
    have eM : allM l = [] := by unfold allM; rw [if_neg hv]
    have eE : allE l = 1 := by unfold allE; rw [if_neg hv]
    rw [eR] at ha
    rw [eM] at hb
    rw [eE, show decide ((1 : Int) = 0) = false from rfl] at qt
    rw [eE]
    have la : lensV false a = some (.int .i64 0) := ha.len
    have lb : lensV false b = some (.int .i64 0) := hb.len
    clear eR eM eE
    unfold validP at hv
    generalize (checkAllP l).2 = e at *
    (repeat' (first | ((with_reducible refine WG_dec (fun _ => ?_) (fun _ => ?_)) <;> try (exfalso; omega)) | ((with_reducible refine WG_decF (fun _ => ?_) (fun _ => ?_)) <;> try (exfalso; omega)) | ((with_reducible refine WC_dec (fun _ => ?_) (fun _ => ?_)) <;> try (exfalso; omega)) | refine WC_bool (fun _ => ?_) (fun _ => ?_) | refine WG_bool (fun _ => ?_) (fun _ => ?_) | refine WG_boolF (fun _ => ?_) (fun _ => ?_) | simp -dsimp (disch := omega) only [↓run_nil, ↓run_i, ↓run_w, ↓op_call, ↓co_seq, ↓co_ret, ↓co_reg, ↓co_cond, ↓op_mov, ↓op_pick, ↓op_bin, ↓op_un, ↓op_fof, ↓op_ext, ↓op_lens, Res_ret, resL_nil, resL_t, resV_one, nn4_bool, WF_eq, W1_some, WX_some, WC_true, WG_true, ↓ev_t, ↓ev_c, ↓ev_f, ↓upd_at, ↓get_cons, ↓frm_nil, ↓frm_cons, bin_add, bin_eql, bin_neq, un_not, pick_t, part_none, fof_agg, ext_tuple, nt_int, wrap_i64, eq_self, Bool.not_false, List.map_cons, List.map_nil, true_and, List.getElem?_cons_zero, List.getElem?_cons_succ, Option.map_some, Nat.reduceEqDiff, ↓reduceIte, reduceCtorEq, decide_true, not_false_eq_true, *]))
end Go.L.Try

/- THE LAWS OF rta: awake, RtaTells, RtaAll. -/
set_option linter.unusedVariables false
set_option linter.unusedSimpArgs false
set_option maxRecDepth 100000
set_option maxHeartbeats 2000000
namespace Go.L.Try
open Go Go.L
variable {E : Env} {G : Nat}
theorem three_R : allR threeL = [3, 7, 7] := by decide +kernel
theorem three_M : allM threeL = [] := by decide +kernel
theorem three_E : allE threeL = 0 := by decide +kernel
theorem three_name : ∀ t ∈ threeL, t.name.size < 1152921504606846976 := by decide +kernel
theorem awake14 (hE : Laid E) (hX : LaidAdd E) (hZ : LaidTz E G) {h : Heap} (ht : Tab G h) :
    callW E (.func (.func n_cadencylaw14_awake) #[] #[]) [] h = some (.bool true, h, []) := by
  refine fn_same hE.cadencylaw14_awake rfl (by simp) ?_
  simp only [argsF]
  (repeat' (first | ((with_reducible refine WG_dec (fun _ => ?_) (fun _ => ?_)) <;> try (exfalso; omega)) | ((with_reducible refine WG_decF (fun _ => ?_) (fun _ => ?_)) <;> try (exfalso; omega)) | ((with_reducible refine WC_dec (fun _ => ?_) (fun _ => ?_)) <;> try (exfalso; omega)) | refine WC_bool (fun _ => ?_) (fun _ => ?_) | refine WG_bool (fun _ => ?_) (fun _ => ?_) | refine WG_boolF (fun _ => ?_) (fun _ => ?_) | simp -dsimp (disch := omega) only [↓run_nil, ↓run_i, ↓op_call, ↓co_seq, ↓co_reg, ↓op_mov, WF_eq, W1_some, ↓ev_c, ↓ev_f, ↓frm_nil, List.map_nil, *]))
  refine wx_new (three14 hE h) fun v ys hr hp => ?_
  have ht2 := ht.pre hp
  generalize h ++ ys = H at *
  (repeat' (first | ((with_reducible refine WG_dec (fun _ => ?_) (fun _ => ?_)) <;> try (exfalso; omega)) | ((with_reducible refine WG_decF (fun _ => ?_) (fun _ => ?_)) <;> try (exfalso; omega)) | ((with_reducible refine WC_dec (fun _ => ?_) (fun _ => ?_)) <;> try (exfalso; omega)) | refine WC_bool (fun _ => ?_) (fun _ => ?_) | refine WG_bool (fun _ => ?_) (fun _ => ?_) | refine WG_boolF (fun _ => ?_) (fun _ => ?_) | simp -dsimp (disch := omega) only [↓run_i, ↓op_call, ↓ev_t, ↓ev_f, ↓upd_at, eq_self, List.map_cons, List.map_nil, ↓reduceIte, *]))
  refine wx_new (allS_ hE hX hZ ht2 hr three_name) fun v2 ys2 hr2 hp2 => ?_
  obtain ⟨vs, rfl, he⟩ := hr2
  obtain ⟨a, b, c, rfl, ha, hb, rfl⟩ := each3 he
  have la : lensV false a = some (.int .i64 3) := by have := ha.len; rw [three_R] at this; exact this
  have lb : lensV false b = some (.int .i64 0) := by have := hb.len; rw [three_M] at this; exact this
  have hl3 : 3 ≤ (allR threeL).length := by rw [three_R]; decide
  have y0 : atI (allR threeL) 0 = 3 := by rw [three_R]; rfl
  have y1 : atI (allR threeL) 1 = 7 := by rw [three_R]; rfl
  have y2 : atI (allR threeL) 2 = 7 := by rw [three_R]; rfl
  have na := Rd.nt ha
  have nb := Rd.nt hb
  rw [three_E]
  generalize allR threeL = R at *
  have x0 := ha.ld0 0 (by decide) (by omega) (by decide)
  have x1 := ha.ld0 1 (by decide) (by omega) (by decide)
  have x2 := ha.ld0 2 (by decide) (by omega) (by decide)
  rw [y0] at x0
  rw [y1] at x1
  rw [y2] at x2
  have z0 := ha.ixs .i64 0 (by decide) (by omega)
  have z1 := ha.ixs .i64 1 (by decide) (by omega)
  have z2 := ha.ixs .i64 2 (by decide) (by omega)
  clear he
  generalize H ++ ys2 = H2 at *
  (repeat' (first | ((with_reducible refine WG_dec (fun _ => ?_) (fun _ => ?_)) <;> try (exfalso; omega)) | ((with_reducible refine WG_decF (fun _ => ?_) (fun _ => ?_)) <;> try (exfalso; omega)) | ((with_reducible refine WC_dec (fun _ => ?_) (fun _ => ?_)) <;> try (exfalso; omega)) | refine WC_bool (fun _ => ?_) (fun _ => ?_) | refine WG_bool (fun _ => ?_) (fun _ => ?_) | refine WG_boolF (fun _ => ?_) (fun _ => ?_) | simp -dsimp (disch := omega) only [↓run_nil, ↓run_i, ↓run_w, ↓co_seq, ↓co_ret, ↓co_reg, ↓op_mov, ↓op_pick, ↓op_bin, ↓op_ixs, ↓op_ext, ↓op_lens, ↓op_ld, Res_ret, resL_nil, resL_t, resV_one, nn4_bool, WF_eq, W1_some, WG_true, ↓ev_t, ↓ev_c, ↓upd_at, ↓get_cons, ↓frm_nil, ↓frm_cons, bin_eql, pick_t, load_ptr, ext_tuple, nt_int, eq_self, true_and, List.getElem?_cons_zero, List.getElem?_cons_succ, List.getD_cons_zero, Option.map_some, Nat.reduceEqDiff, ↓reduceIte, decide_true, *, encI]))
theorem setP_names {l : List Spec} {most turn : Int} (hm : 1 ≤ most) (hm2 : most ≤ 26) : ∀ t ∈ setP l most turn, t.name.size < 1152921504606846976 := fun t ht => by have := (setP_small hm hm2 ht).name; omega
theorem rtaTells (hE : Laid E) (hX : LaidAdd E) (hZ : LaidTz E G) {h : Heap} (ht : Tab G h) {vl vr : Value} {l : List Spec} {raw : List Task} (hl : Rd 5 encSp h vl l) (hr : Rd 7 encT h vr raw) (hs : ∀ t ∈ raw, t.name.size < 1152921504606846976) {i : Int} (hi : i64in i) :
    callW E (.func (.func n_cadencylaw14_RtaTells) #[] #[]) [vl, vr, .int .i64 i] h = some (.bool true, h, []) := by
  refine fn_same hE.cadencylaw14_RtaTells rfl (by simp) ?_
  simp only [argsF]
  have aw := fun x => awake14 hE hX hZ (ht.app x)
  have aw0 := awake14 hE hX hZ ht
  have sl : ∃ v', (4 < (raw.length : Int) → slsV 7 vr none (some (.int .i64 4)) none = some v') ∧ (¬ 4 < (raw.length : Int) → v' = vr) ∧ Rd 7 encT h v' (raw.take 4) := by
    by_cases hc : 4 < (raw.length : Int)
    · obtain ⟨v', h1, h2, _⟩ := hr.sls_hi (k := .i64) (n := 4) (by omega) (by omega)
      exact ⟨v', fun _ => h1, fun hn => absurd hc hn, h2⟩
    · exact ⟨vr, fun h => absurd h hc, fun _ => rfl, by rw [List.take_of_length_le (by omega)]; exact hr⟩
  obtain ⟨vq, sl1, sl2, rq⟩ := sl
  have hrl := hr.len
  have hq4 : (raw.take 4).length ≤ 4 := by rw [List.length_take]; omega
  have hsq : ∀ t ∈ (raw.take 4).map smallT, t.name.size < 1152921504606846976 := fun t ht => by
    obtain ⟨u, hu, rfl⟩ := List.mem_map.1 ht
    exact hs u (List.mem_of_mem_take hu)
  generalize raw.take 4 = rw4 at *
  have hset := setP_len l (most := 6) (turn := i) (by decide)
  have hnm := setP_names (l := l) (most := 6) (turn := i) (by decide) (by decide)
  have hi2 := hi
  unfold i64in at hi2
  have hdiv : -9223372036854775808 ≤ i.tdiv 7 ∧ i.tdiv 7 < 9223372036854775808 := tdiv_in (by decide) hi
  have hmod6 := emod_in i 6 (by decide)
  (repeat' (first | ((with_reducible refine WG_dec (fun _ => ?_) (fun _ => ?_)) <;> try (exfalso; omega)) | ((with_reducible refine WG_decF (fun _ => ?_) (fun _ => ?_)) <;> try (exfalso; omega)) | ((with_reducible refine WC_dec (fun _ => ?_) (fun _ => ?_)) <;> try (exfalso; omega)) | refine WC_bool (fun _ => ?_) (fun _ => ?_) | refine WG_bool (fun _ => ?_) (fun _ => ?_) | refine WG_boolF (fun _ => ?_) (fun _ => ?_) | simp -dsimp (disch := omega) only [↓run_nil, ↓run_i, ↓op_call, ↓co_seq, ↓co_skip, ↓co_reg, ↓co_cond, ↓op_mov, ↓op_bin, ↓op_sls, ↓op_lens, WF_eq, W1_some, WX_some, ↓ev_t, ↓ev_c, ↓ev_f, ↓upd_at, ↓get_cons, ↓frm_nil, ↓frm_cons, bin_gtr, eq_self, List.map_cons, List.map_nil, Option.map_some, Option.map_none, Nat.reduceEqDiff, Nat.reduceAdd, Nat.zero_add, ↓reduceIte, reduceCtorEq, decide_true, decide_false, *]))
  · refine wx_new (set04 hE hl (by decide) (by decide) hi) fun v ys r1 p1 => ?_
    have ht1 := ht.pre p1
    have rq1 := rq.pre p1
    generalize setP l 6 i = s at *
    generalize h ++ ys = H at *
    have t1 := fun j => tells14 hE hX hZ ht1 r1 hnm j
    have hmod1 := emod_in i ((s.length : Int) + 2) (by omega)
    have hmod2 := emod_in (i.tdiv 7) (s.length : Int) (by omega)
    have hr1 := rest14 hE H i ((s.length : Int) + 2) (by omega) (by omega)
    have hr2 := rest14 hE H (i.tdiv 7) (s.length : Int) (by omega) (by omega)
    have hrs := fun H => rest14 hE H i 6 (by decide) (by decide)
    clear aw aw0 hi
    (repeat' (first | ((with_reducible refine WG_dec (fun _ => ?_) (fun _ => ?_)) <;> try (exfalso; omega)) | ((with_reducible refine WG_decF (fun _ => ?_) (fun _ => ?_)) <;> try (exfalso; omega)) | ((with_reducible refine WC_dec (fun _ => ?_) (fun _ => ?_)) <;> try (exfalso; omega)) | refine WC_bool (fun _ => ?_) (fun _ => ?_) | refine WG_bool (fun _ => ?_) (fun _ => ?_) | refine WG_boolF (fun _ => ?_) (fun _ => ?_) | simp -dsimp (disch := omega) only [↓run_nil, ↓run_i, ↓run_w, ↓op_call, ↓co_seq, ↓co_reg, ↓op_mov, ↓op_pick, ↓op_bin, ↓op_lens, WF_eq, W1_some, WX_some, WG_true, ↓ev_t, ↓ev_c, ↓ev_f, ↓upd_at, ↓get_cons, ↓frm_nil, ↓frm_cons, bin_add, bin_sub, pick_t, wrap_i64, bin_quo, eq_self, List.map_cons, List.map_nil, Nat.reduceEqDiff, ↓reduceIte, reduceCtorEq, *, r1.len]))
    refine wx_new (small14 hE rq1 (by omega)) fun v3 ys3 r3 p3 => ?_
    have t3 := fun j => tells14 hE hX hZ (ht1.pre p3) r3 hsq j
    (repeat' (first | ((with_reducible refine WG_dec (fun _ => ?_) (fun _ => ?_)) <;> try (exfalso; omega)) | ((with_reducible refine WG_decF (fun _ => ?_) (fun _ => ?_)) <;> try (exfalso; omega)) | ((with_reducible refine WC_dec (fun _ => ?_) (fun _ => ?_)) <;> try (exfalso; omega)) | refine WC_bool (fun _ => ?_) (fun _ => ?_) | refine WG_bool (fun _ => ?_) (fun _ => ?_) | refine WG_boolF (fun _ => ?_) (fun _ => ?_) | simp -dsimp (disch := omega) only [↓run_nil, ↓run_i, ↓run_w, ↓op_call, ↓co_ret, ↓op_mov, ↓op_pick, ↓op_bin, Res_ret, resL_nil, resL_t, resV_one, nn4_bool, WF_eq, W1_some, WX_some, WG_true, ↓ev_t, ↓ev_c, ↓ev_f, ↓upd_at, ↓get_cons, ↓frm_nil, ↓frm_cons, bin_sub, pick_t, wrap_i64, eq_self, List.map_cons, List.map_nil, true_and, Option.map_some, Nat.reduceEqDiff, ↓reduceIte, *]))
  · have rq' : Rd 7 encT h vr rw4 := by rw [← sl2 (by omega)]; exact rq
    refine wx_new (set04 hE hl (by decide) (by decide) hi) fun v ys r1 p1 => ?_
    have ht1 := ht.pre p1
    have rq1 := rq'.pre p1
    generalize setP l 6 i = s at *
    generalize h ++ ys = H at *
    have t1 := fun j => tells14 hE hX hZ ht1 r1 hnm j
    have hmod1 := emod_in i ((s.length : Int) + 2) (by omega)
    have hmod2 := emod_in (i.tdiv 7) (s.length : Int) (by omega)
    have hr1 := rest14 hE H i ((s.length : Int) + 2) (by omega) (by omega)
    have hr2 := rest14 hE H (i.tdiv 7) (s.length : Int) (by omega) (by omega)
    have hrs := fun H => rest14 hE H i 6 (by decide) (by decide)
    clear aw aw0 hi
    (repeat' (first | ((with_reducible refine WG_dec (fun _ => ?_) (fun _ => ?_)) <;> try (exfalso; omega)) | ((with_reducible refine WG_decF (fun _ => ?_) (fun _ => ?_)) <;> try (exfalso; omega)) | ((with_reducible refine WC_dec (fun _ => ?_) (fun _ => ?_)) <;> try (exfalso; omega)) | refine WC_bool (fun _ => ?_) (fun _ => ?_) | refine WG_bool (fun _ => ?_) (fun _ => ?_) | refine WG_boolF (fun _ => ?_) (fun _ => ?_) | simp -dsimp (disch := omega) only [↓run_nil, ↓run_i, ↓run_w, ↓op_call, ↓co_seq, ↓co_reg, ↓op_mov, ↓op_pick, ↓op_bin, ↓op_lens, WF_eq, W1_some, WX_some, WG_true, ↓ev_t, ↓ev_c, ↓ev_f, ↓upd_at, ↓get_cons, ↓frm_nil, ↓frm_cons, bin_add, bin_sub, pick_t, wrap_i64, bin_quo, eq_self, List.map_cons, List.map_nil, Nat.reduceEqDiff, ↓reduceIte, reduceCtorEq, *, r1.len]))
    refine wx_new (small14 hE rq1 (by omega)) fun v3 ys3 r3 p3 => ?_
    have t3 := fun j => tells14 hE hX hZ (ht1.pre p3) r3 hsq j
    (repeat' (first | ((with_reducible refine WG_dec (fun _ => ?_) (fun _ => ?_)) <;> try (exfalso; omega)) | ((with_reducible refine WG_decF (fun _ => ?_) (fun _ => ?_)) <;> try (exfalso; omega)) | ((with_reducible refine WC_dec (fun _ => ?_) (fun _ => ?_)) <;> try (exfalso; omega)) | refine WC_bool (fun _ => ?_) (fun _ => ?_) | refine WG_bool (fun _ => ?_) (fun _ => ?_) | refine WG_boolF (fun _ => ?_) (fun _ => ?_) | simp -dsimp (disch := omega) only [↓run_nil, ↓run_i, ↓run_w, ↓op_call, ↓co_ret, ↓op_mov, ↓op_pick, ↓op_bin, Res_ret, resL_nil, resL_t, resV_one, nn4_bool, WF_eq, W1_some, WX_some, WG_true, ↓ev_t, ↓ev_c, ↓ev_f, ↓upd_at, ↓get_cons, ↓frm_nil, ↓frm_cons, bin_sub, pick_t, wrap_i64, eq_self, List.map_cons, List.map_nil, true_and, Option.map_some, Nat.reduceEqDiff, ↓reduceIte, *]))
theorem rtaAll (hE : Laid E) (hX : LaidAdd E) (hZ : LaidTz E G) {h : Heap} (ht : Tab G h) {vl vr : Value} {l : List Spec} {raw : List Task} (hl : Rd 5 encSp h vl l) (hr : Rd 7 encT h vr raw) (hs : ∀ t ∈ raw, t.name.size < 1152921504606846976) {i : Int} (hi : i64in i) :
    callW E (.func (.func n_cadencylaw14_RtaAll) #[] #[]) [vl, vr, .int .i64 i] h = some (.bool true, h, []) := by
  refine fn_same hE.cadencylaw14_RtaAll rfl (by simp) ?_
  simp only [argsF]
  have aw := fun x => awake14 hE hX hZ (ht.app x)
  have aw0 := awake14 hE hX hZ ht
  have sl : ∃ v', (4 < (raw.length : Int) → slsV 7 vr none (some (.int .i64 4)) none = some v') ∧ (¬ 4 < (raw.length : Int) → v' = vr) ∧ Rd 7 encT h v' (raw.take 4) := by
    by_cases hc : 4 < (raw.length : Int)
    · obtain ⟨v', h1, h2, _⟩ := hr.sls_hi (k := .i64) (n := 4) (by omega) (by omega)
      exact ⟨v', fun _ => h1, fun hn => absurd hc hn, h2⟩
    · exact ⟨vr, fun h => absurd h hc, fun _ => rfl, by rw [List.take_of_length_le (by omega)]; exact hr⟩
  obtain ⟨vq, sl1, sl2, rq⟩ := sl
  have hrl := hr.len
  have hq4 : (raw.take 4).length ≤ 4 := by rw [List.length_take]; omega
  have hsq : ∀ t ∈ (raw.take 4).map smallT, t.name.size < 1152921504606846976 := fun t ht => by
    obtain ⟨u, hu, rfl⟩ := List.mem_map.1 ht
    exact hs u (List.mem_of_mem_take hu)
  generalize raw.take 4 = rw4 at *
  have hset := setP_len l (most := 6) (turn := i) (by decide)
  have hnm := setP_names (l := l) (most := 6) (turn := i) (by decide) (by decide)
  (repeat' (first | ((with_reducible refine WG_dec (fun _ => ?_) (fun _ => ?_)) <;> try (exfalso; omega)) | ((with_reducible refine WG_decF (fun _ => ?_) (fun _ => ?_)) <;> try (exfalso; omega)) | ((with_reducible refine WC_dec (fun _ => ?_) (fun _ => ?_)) <;> try (exfalso; omega)) | refine WC_bool (fun _ => ?_) (fun _ => ?_) | refine WG_bool (fun _ => ?_) (fun _ => ?_) | refine WG_boolF (fun _ => ?_) (fun _ => ?_) | simp -dsimp (disch := omega) only [↓run_nil, ↓run_i, ↓run_w, ↓op_call, ↓co_seq, ↓co_skip, ↓co_reg, ↓co_cond, ↓op_mov, ↓op_bin, ↓op_sls, ↓op_lens, WF_eq, W1_some, WX_some, WG_true, ↓ev_t, ↓ev_c, ↓ev_f, ↓upd_at, ↓get_cons, ↓frm_nil, ↓frm_cons, bin_gtr, eq_self, List.map_cons, List.map_nil, Option.map_some, Option.map_none, Nat.reduceEqDiff, Nat.reduceAdd, Nat.zero_add, ↓reduceIte, reduceCtorEq, decide_true, decide_false, *]))
  · refine wx_new (set04 hE hl (by decide) (by decide) hi) fun v ys r1 p1 => ?_
    have ht1 := ht.pre p1
    have rq1 := rq.pre p1
    have t1 := all14 hE hX hZ ht1 r1 hnm
    generalize setP l 6 i = s at *
    generalize h ++ ys = H at *
    clear aw aw0 hi
    (repeat' (first | ((with_reducible refine WG_dec (fun _ => ?_) (fun _ => ?_)) <;> try (exfalso; omega)) | ((with_reducible refine WG_decF (fun _ => ?_) (fun _ => ?_)) <;> try (exfalso; omega)) | ((with_reducible refine WC_dec (fun _ => ?_) (fun _ => ?_)) <;> try (exfalso; omega)) | refine WC_bool (fun _ => ?_) (fun _ => ?_) | refine WG_bool (fun _ => ?_) (fun _ => ?_) | refine WG_boolF (fun _ => ?_) (fun _ => ?_) | simp -dsimp (disch := omega) only [↓run_i, ↓run_w, ↓op_call, ↓op_mov, ↓op_pick, W1_some, WX_some, WG_true, ↓ev_t, ↓ev_c, ↓ev_f, ↓upd_at, ↓get_cons, pick_t, eq_self, List.map_cons, List.map_nil, Nat.reduceEqDiff, ↓reduceIte, reduceCtorEq, *]))
    refine wx_new (small14 hE rq1 (by omega)) fun v3 ys3 r3 p3 => ?_
    have t3 := all14 hE hX hZ (ht1.pre p3) r3 hsq
    have t4 := all14 hE hX hZ (ht1.pre p3) (vl := .slice none 0 0) (l := []) Rd.of_nil (by simp)
    (repeat' (first | ((with_reducible refine WG_dec (fun _ => ?_) (fun _ => ?_)) <;> try (exfalso; omega)) | ((with_reducible refine WG_decF (fun _ => ?_) (fun _ => ?_)) <;> try (exfalso; omega)) | ((with_reducible refine WC_dec (fun _ => ?_) (fun _ => ?_)) <;> try (exfalso; omega)) | refine WC_bool (fun _ => ?_) (fun _ => ?_) | refine WG_bool (fun _ => ?_) (fun _ => ?_) | refine WG_boolF (fun _ => ?_) (fun _ => ?_) | simp -dsimp (disch := omega) only [↓run_nil, ↓run_i, ↓run_w, ↓op_call, ↓co_ret, ↓op_mov, ↓op_pick, Res_ret, resL_nil, resL_t, resV_one, nn4_bool, WF_eq, W1_some, WX_some, WG_true, ↓ev_t, ↓ev_c, ↓ev_f, ↓upd_at, ↓get_cons, ↓frm_nil, ↓frm_cons, pick_t, eq_self, List.map_cons, List.map_nil, true_and, Option.map_some, Nat.reduceEqDiff, ↓reduceIte, *]))
  · have rq' : Rd 7 encT h vr rw4 := by rw [← sl2 (by omega)]; exact rq
    refine wx_new (set04 hE hl (by decide) (by decide) hi) fun v ys r1 p1 => ?_
    have ht1 := ht.pre p1
    have rq1 := rq'.pre p1
    have t1 := all14 hE hX hZ ht1 r1 hnm
    generalize setP l 6 i = s at *
    generalize h ++ ys = H at *
    clear aw aw0 hi
    (repeat' (first | ((with_reducible refine WG_dec (fun _ => ?_) (fun _ => ?_)) <;> try (exfalso; omega)) | ((with_reducible refine WG_decF (fun _ => ?_) (fun _ => ?_)) <;> try (exfalso; omega)) | ((with_reducible refine WC_dec (fun _ => ?_) (fun _ => ?_)) <;> try (exfalso; omega)) | refine WC_bool (fun _ => ?_) (fun _ => ?_) | refine WG_bool (fun _ => ?_) (fun _ => ?_) | refine WG_boolF (fun _ => ?_) (fun _ => ?_) | simp -dsimp (disch := omega) only [↓run_i, ↓run_w, ↓op_call, ↓op_mov, ↓op_pick, W1_some, WX_some, WG_true, ↓ev_t, ↓ev_c, ↓ev_f, ↓upd_at, ↓get_cons, pick_t, eq_self, List.map_cons, List.map_nil, Nat.reduceEqDiff, ↓reduceIte, reduceCtorEq, decide_false, *]))
    refine wx_new (small14 hE rq1 (by omega)) fun v3 ys3 r3 p3 => ?_
    have t3 := all14 hE hX hZ (ht1.pre p3) r3 hsq
    have t4 := all14 hE hX hZ (ht1.pre p3) (vl := .slice none 0 0) (l := []) Rd.of_nil (by simp)
    (repeat' (first | ((with_reducible refine WG_dec (fun _ => ?_) (fun _ => ?_)) <;> try (exfalso; omega)) | ((with_reducible refine WG_decF (fun _ => ?_) (fun _ => ?_)) <;> try (exfalso; omega)) | ((with_reducible refine WC_dec (fun _ => ?_) (fun _ => ?_)) <;> try (exfalso; omega)) | refine WC_bool (fun _ => ?_) (fun _ => ?_) | refine WG_bool (fun _ => ?_) (fun _ => ?_) | refine WG_boolF (fun _ => ?_) (fun _ => ?_) | simp -dsimp (disch := omega) only [↓run_nil, ↓run_i, ↓run_w, ↓op_call, ↓co_ret, ↓op_mov, ↓op_pick, Res_ret, resL_nil, resL_t, resV_one, nn4_bool, WF_eq, W1_some, WX_some, WG_true, ↓ev_t, ↓ev_c, ↓ev_f, ↓upd_at, ↓get_cons, ↓frm_nil, ↓frm_cons, pick_t, eq_self, List.map_cons, List.map_nil, true_and, Option.map_some, Nat.reduceEqDiff, ↓reduceIte, decide_false, *]))
end Go.L.Try
