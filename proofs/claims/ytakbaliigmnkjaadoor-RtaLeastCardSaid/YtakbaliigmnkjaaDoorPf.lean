/- RtaLeast: a bound is enough, and nothing less is. -/
import Derived.Test.YtakbaliigmnkjaaDoorPe
set_option linter.unusedVariables false
set_option linter.unusedSimpArgs false
set_option maxRecDepth 100000
set_option maxHeartbeats 2000000
namespace Go.L.Try
open Go Go.L
variable {E : Env} {G : Nat}
theorem leastN_none {l : List Task} {i : Int} : ∀ {n : Nat} {w : Int}, leastN l i n w = none → ∀ v, w ≤ v → v < w + n → v < needP l i v
  | 0, w, _, v, h1, h2 => by omega
  | n + 1, w, h, v, h1, h2 => by
    unfold leastN at h
    split at h
    · cases h
    · rename_i hn
      by_cases e : v = w
      · subst e; omega
      · exact leastN_none h v (by omega) (by omega)
theorem leastN_some {l : List Task} {i z : Int} : ∀ {n : Nat} {w : Int}, leastN l i n w = some z → (w ≤ z ∧ z < w + n) ∧ needP l i z ≤ z ∧ ∀ v, w ≤ v → v < z → v < needP l i v
  | 0, w, h => by cases h
  | n + 1, w, h => by
    unfold leastN at h
    split at h
    · rename_i hn
      cases h
      exact ⟨by omega, hn, fun v h1 h2 => by omega⟩
    · rename_i hn
      obtain ⟨h1, h2, h3⟩ := leastN_some h
      refine ⟨by omega, h2, fun v a b => ?_⟩
      by_cases e : v = w
      · subst e; omega
      · exact h3 v (by omega) b
theorem leastP_none {l : List Task} {i : Int} (h : leastP l i = none) : ∀ v, 1 ≤ v → v ≤ mostP l i → v < needP l i v := fun v h1 h2 => leastN_none h v h1 (by omega)
theorem leastP_some {l : List Task} {i z : Int} (hb : isP l i = true) (h : leastP l i = some z) : (1 ≤ z ∧ z ≤ mostP l i) ∧ needP l i z = z ∧ ∀ v, 1 ≤ v → v < z → v < needP l i v := by
  obtain ⟨h1, h2, h3⟩ := leastN_some h
  have hm := mostP_in hb
  refine ⟨by omega, ?_, h3⟩
  have hu : u64in z := by unfold u64in; omega
  obtain ⟨n1, n2⟩ := needP_in hb hu
  rcases Int.lt_or_le (needP l i z) z with hlt | hge
  · have h4 := h3 _ n2 hlt
    have h5 := needP_mono hb n1 (show needP l i z ≤ z by omega)
    omega
  · omega
theorem setP_isP {l : List Spec} {most turn : Int} (hm : 1 ≤ most) (hm2 : most ≤ 26) {k : Int} (h0 : 0 ≤ k) (h1 : k < (setP l most turn).length) : isP (setP l most turn) k = true := by
  have hv := setP_valid l (most := most) turn hm hm2
  unfold validP at hv
  unfold isP
  exact decide_eq_true ⟨hv, h0, h1⟩
theorem rtaLeast (hE : Laid E) (hX : LaidAdd E) (hZ : LaidTz E G) {h : Heap} (ht : Tab G h) {vl : Value} {l : List Spec} (hl : Rd 5 encSp h vl l) {i less : Int} (hi : i64in i) (hless : i64in less) :
    callW E (.func (.func n_cadencylaw14_RtaLeast) #[] #[]) [vl, .int .i64 i, .int .i64 less] h = some (.bool true, h, []) := by
  refine fn_same hE.cadencylaw14_RtaLeast rfl (by simp) ?_
  simp only [argsF]
  have aw0 := awake14 hE hX hZ ht
  have hset := setP_len l (most := 6) (turn := i) (by decide)
  have hnm := setP_names (l := l) (most := 6) (turn := i) (by decide) (by decide)
  have hsm := fun t ht => setP_small (l := l) (most := 6) (turn := i) (t := t) (by decide) (by decide) ht
  have hisP := fun k h0 h1 => setP_isP (l := l) (most := 6) (turn := i) (by decide) (by decide) (k := k) h0 h1
  (repeat' (first | ((with_reducible refine WG_dec (fun _ => ?_) (fun _ => ?_)) <;> try (exfalso; omega)) | ((with_reducible refine WG_decF (fun _ => ?_) (fun _ => ?_)) <;> try (exfalso; omega)) | ((with_reducible refine WC_dec (fun _ => ?_) (fun _ => ?_)) <;> try (exfalso; omega)) | refine WC_bool (fun _ => ?_) (fun _ => ?_) | refine WG_bool (fun _ => ?_) (fun _ => ?_) | refine WG_boolF (fun _ => ?_) (fun _ => ?_) | simp -dsimp (disch := omega) only [↓run_nil, ↓run_i, ↓op_call, ↓co_seq, ↓co_reg, ↓op_mov, WF_eq, W1_some, WX_some, ↓ev_t, ↓ev_c, ↓ev_f, ↓upd_at, ↓get_cons, ↓frm_nil, ↓frm_cons, eq_self, List.map_cons, List.map_nil, Nat.reduceEqDiff, Nat.reduceAdd, Nat.zero_add, ↓reduceIte, reduceCtorEq, *]))
  refine wx_new (set04 hE hl (by decide) (by decide) hi) fun v ys r1 p1 => ?_
  have ht1 := ht.pre p1
  generalize setP l 6 i = s at *
  generalize h ++ ys = H at *
  have hmod1 := emod_in i (s.length : Int) (by omega)
  have hr1 := rest14 hE H i (s.length : Int) (by omega) (by omega)
  have hb := hisP (i % (s.length : Int)) (by omega) (by omega)
  have hst := hsm _ (atI_mem (l := s) (i := i % (s.length : Int)) (by omega) (by omega))
  have hm1 := mostP_in hb
  have hbd := boundS hE hX hZ ht1 r1 hnm (i % (s.length : Int))
  have hnd := fun (w : Int) hw => needD hE hX hZ ht1 r1 hnm (i % (s.length : Int)) (w := w) hw
  have hbP : boundP s (i % (s.length : Int)) = match leastP s (i % (s.length : Int)) with | some w => (w + (atI s (i % (s.length : Int))).J, 0) | none => (0, 16) := by unfold boundP; rw [if_pos hb]; cases leastP s (i % (s.length : Int)) <;> rfl
  rw [hbP] at hbd
  have hmd : mostP s (i % (s.length : Int)) = (atI s (i % (s.length : Int))).D - (atI s (i % (s.length : Int))).J := rfl
  obtain ⟨_, hC, hD, hJ, hQ, hT, hP⟩ := hst
  have L0 := @leastP_none s (i % (s.length : Int))
  have L1 := fun z => @leastP_some s (i % (s.length : Int)) z hb
  clear hbP hnm hsm hisP hi aw0 hb
  generalize i % (s.length : Int) = k at *
  cases hls : leastP s k with
  | none =>
    rw [hls] at hbd
    have L0 := L0 hls
    have e := emod_in less ((atI s k).D - (atI s k).J) (by omega)
    have hr2 := rest14 hE H less ((atI s k).D - (atI s k).J) (by omega) (by omega)
    have hx := L0 (1 + less % ((atI s k).D - (atI s k).J)) (by omega) (by omega)
    have hn := hnd (1 + less % ((atI s k).D - (atI s k).J)) (by unfold u64in; omega)
    clear hls L1 hless
    generalize less % ((atI s k).D - (atI s k).J) = y at *
    generalize needP s k (1 + y) = N at *
    clear hmd L0 hnd
    dsimp only at hbd
    generalize mostP s k = most at *
    (repeat' (first | ((with_reducible refine WG_dec (fun _ => ?_) (fun _ => ?_)) <;> try (exfalso; omega)) | ((with_reducible refine WG_decF (fun _ => ?_) (fun _ => ?_)) <;> try (exfalso; omega)) | ((with_reducible refine WC_dec (fun _ => ?_) (fun _ => ?_)) <;> try (exfalso; omega)) | refine WC_bool (fun _ => ?_) (fun _ => ?_) | refine WG_bool (fun _ => ?_) (fun _ => ?_) | refine WG_boolF (fun _ => ?_) (fun _ => ?_) | simp -dsimp (disch := omega) only [↓run_nil, ↓run_i, ↓run_w, ↓rd_nil, ↓rd_i, ↓op_call, ↓co_seq, ↓co_ret, ↓co_reg, ↓co_drw, ↓co_cond, ↓op_mov, ↓op_pick, ↓op_bin, ↓op_cvi, ↓op_fld, ↓op_ixs, ↓op_ext, ↓op_lens, ↓op_ld, ↓opd_mov, ↓opd_bin, ↓opd_fld, ↓opd_ixs, ↓opd_ld, Res_ret, resL_nil, resL_t, resV_one, nn4_bool, WF_eq, W1_some, WX_some, WG_true, ↓ev_t, ↓ev_c, ↓ev_f, ↓upd_at, ↓get_cons, ↓frm_nil, ↓frm_cons, bin_add, bin_sub, bin_eql, bin_neq, bin_gtr, cvi_int, pick_t, load_ptr, fld_ptr, ext_tuple, nt_int, room0, wrap_i64, wrap_u64, eq_self, List.map_cons, List.map_nil, true_and, List.getElem?_cons_zero, List.getElem?_cons_succ, List.getD_cons_zero, List.getD_cons_succ, Option.map_some, Nat.reduceEqDiff, ↓reduceIte, reduceCtorEq, decide_true, not_false_eq_true, *, r1.len, r1.ixs, r1.ld, encT]))
  | some z =>
    rw [hls] at hbd
    obtain ⟨⟨z1, z2⟩, z3, z4⟩ := L1 z hls
    have e := emod_in less z (by omega)
    have hr2 := rest14 hE H less z (by omega) (by omega)
    have hn := hnd (1 + less % z) (by unfold u64in; omega)
    have hz := hnd z (by unfold u64in; omega)
    have hx := z4 (1 + less % z) (by omega)
    clear hls L0 L1 hless z4
    generalize less % z = y at *
    rw [z3] at hz
    generalize needP s k (1 + y) = N at *
    clear hnd z3
    dsimp only at hbd
    have Hx := Hid.mk hx
    clear hx
    have hsub : z + (atI s k).J - (atI s k).J = z := by omega
    generalize mostP s k = most at *
    have hm2 : z ≤ (atI s k).D - (atI s k).J := by omega
    clear hmd
    (repeat' (first | ((with_reducible refine WG_dec (fun _ => ?_) (fun _ => ?_)) <;> try (exfalso; omega)) | ((with_reducible refine WG_decF (fun _ => ?_) (fun _ => ?_)) <;> try (exfalso; omega)) | ((with_reducible refine WC_dec (fun _ => ?_) (fun _ => ?_)) <;> try (exfalso; omega)) | refine WC_bool (fun _ => ?_) (fun _ => ?_) | refine WG_bool (fun _ => ?_) (fun _ => ?_) | refine WG_boolF (fun _ => ?_) (fun _ => ?_) | simp -dsimp (disch := omega) only [↓run_nil, ↓run_i, ↓run_w, ↓rd_nil, ↓rd_i, ↓op_call, ↓co_seq, ↓co_skip, ↓co_ret, ↓co_reg, ↓co_drw, ↓co_cond, ↓op_mov, ↓op_pick, ↓op_bin, ↓op_cvi, ↓op_fld, ↓op_ixs, ↓op_ext, ↓op_lens, ↓op_ld, ↓opd_mov, ↓opd_bin, ↓opd_fld, ↓opd_ixs, ↓opd_ld, Res_ret, resL_nil, resL_t, resV_one, nn4_bool, WF_eq, W1_some, WX_some, WC_false, WG_true, WG_false, WG_tf, ↓ev_t, ↓ev_c, ↓ev_f, ↓upd_at, ↓get_cons, ↓frm_nil, ↓frm_cons, bin_add, bin_sub, bin_eql, bin_neq, bin_lss, bin_gtr, cvi_int, pick_t, pick_f, load_ptr, fld_ptr, ext_tuple, nt_int, room0, wrap_i64, wrap_u64, eq_self, List.map_cons, List.map_nil, true_and, List.getElem?_cons_zero, List.getElem?_cons_succ, List.getD_cons_zero, List.getD_cons_succ, Option.map_some, Nat.reduceEqDiff, ↓reduceIte, reduceCtorEq, decide_true, decide_false, not_true_eq_false, *, r1.len, r1.ixs, r1.ld, encT]))
    rw [decide_eq_true (Hx.out (by omega))]
end Go.L.Try
