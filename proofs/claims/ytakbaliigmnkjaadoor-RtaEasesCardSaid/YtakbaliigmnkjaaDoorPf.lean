/- RtaLeast: a bound is enough, and nothing less is. -/
import Derived.Test.YtakbaliigmnkjaaDoorPe
set_option linter.unusedVariables false
set_option linter.unusedSimpArgs false
set_option maxRecDepth 100000
set_option maxHeartbeats 2000000
namespace Go.L.Try
open Go Go.L
variable {E : Env} {G : Nat}
theorem leastN_none {l : List Task} {i : Int} : ∀ {n : Nat} {w : Int}, leastN l i n w = none → ∀ v, w ≤ v → v < w + n → v < needP l i v
  | 0, w, _, v, h1, h2 => by omega
  | n + 1, w, h, v, h1, h2 => by
    unfold leastN at h
    split at h
    · cases h
    · rename_i hn
      by_cases e : v = w
      · subst e; omega
      · exact leastN_none h v (by omega) (by omega)
theorem leastN_some {l : List Task} {i z : Int} : ∀ {n : Nat} {w : Int}, leastN l i n w = some z → (w ≤ z ∧ z < w + n) ∧ needP l i z ≤ z ∧ ∀ v, w ≤ v → v < z → v < needP l i v
  | 0, w, h => by cases h
  | n + 1, w, h => by
    unfold leastN at h
    split at h
    · rename_i hn
      cases h
      exact ⟨by omega, hn, fun v h1 h2 => by omega⟩
    · rename_i hn
      obtain ⟨h1, h2, h3⟩ := leastN_some h
      refine ⟨by omega, h2, fun v a b => ?_⟩
      by_cases e : v = w
      · subst e; omega
      · exact h3 v (by omega) b
theorem leastP_none {l : List Task} {i : Int} (h : leastP l i = none) : ∀ v, 1 ≤ v → v ≤ mostP l i → v < needP l i v := fun v h1 h2 => leastN_none h v h1 (by omega)
theorem leastP_some {l : List Task} {i z : Int} (hb : isP l i = true) (h : leastP l i = some z) : (1 ≤ z ∧ z ≤ mostP l i) ∧ needP l i z = z ∧ ∀ v, 1 ≤ v → v < z → v < needP l i v := by
  obtain ⟨h1, h2, h3⟩ := leastN_some h
  have hm := mostP_in hb
  refine ⟨by omega, ?_, h3⟩
  have hu : u64in z := by unfold u64in; omega
  obtain ⟨n1, n2⟩ := needP_in hb hu
  rcases Int.lt_or_le (needP l i z) z with hlt | hge
  · have h4 := h3 _ n2 hlt
    have h5 := needP_mono hb n1 (show needP l i z ≤ z by omega)
    omega
  · omega
theorem setP_isP {l : List Spec} {most turn : Int} (hm : 1 ≤ most) (hm2 : most ≤ 26) {k : Int} (h0 : 0 ≤ k) (h1 : k < (setP l most turn).length) : isP (setP l most turn) k = true := by
  have hv := setP_valid l (most := most) turn hm hm2
  unfold validP at hv
  unfold isP
  exact decide_eq_true ⟨hv, h0, h1⟩
theorem rtaLeast (hE : Laid E) (hX : LaidAdd E) (hZ : LaidTz E G) {h : Heap} (ht : Tab G h) {vl : Value} {l : List Spec} (hl : Rd 5 encSp h vl l) {i less : Int} (hi : i64in i) (hless : i64in less) :
    callW E (.func (.func n_cadencylaw14_RtaLeast) #[] #[]) [vl, .int .i64 i, .int .i64 less] h = some (.bool true, h, []) := by
  refine fn_same hE.cadencylaw14_RtaLeast rfl (by simp) ?_
  simp only [argsF]
  have aw0 := awake14 hE hX hZ ht
  have hset := setP_len l (most := 6) (turn := i) (by decide)
  have hnm := setP_names (l := l) (most := 6) (turn := i) (by decide) (by decide)
  have hsm := fun t ht => setP_small (l := l) (most := 6) (turn := i) (t := t) (by decide) (by decide) ht
  have hisP := fun k h0 h1 => setP_isP (l := l) (most := 6) (turn := i) (by decide) (by decide) (k := k) h0 h1
  (repeat' (first | ((with_reducible refine WG_dec (fun _ => ?_) (fun _ => ?_)) <;> try (exfalso; omega)) | ((with_reducible refine WG_decF (fun _ => ?_) (fun _ => ?_)) <;> try (exfalso; omega)) | ((with_reducible refine WC_dec (fun _ => ?_) (fun _ => ?_)) <;> try (exfalso; omega)) | refine WC_bool (fun _ => ?_) (fun _ => ?_) | refine WG_bool (fun _ => ?_) (fun _ => ?_) | refine WG_boolF (fun _ => ?_) (fun _ => ?_) | simp -dsimp (disch := omega) only [↓run_nil, ↓run_i, ↓op_call, ↓co_seq, ↓co_reg, ↓op_mov, WF_eq, W1_some, WX_some, ↓ev_t, ↓ev_c, ↓ev_f, ↓upd_at, ↓get_cons, ↓frm_nil, ↓frm_cons, eq_self, List.map_cons, List.map_nil, Nat.reduceEqDiff, Nat.reduceAdd, Nat.zero_add, ↓reduceIte, reduceCtorEq, *]))
  refine wx_new (set04 hE hl (by decide) (by decide) hi) fun v ys r1 p1 => ?_
  have ht1 := ht.pre p1
  generalize setP l 6 i = s at *
  generalize h ++ ys = H at *
  have hmod1 := emod_in i (s.length : Int) (by omega)
  have hr1 := rest14 hE H i (s.length : Int) (by omega) (by omega)
  have hb := hisP (i % (s.length : Int)) (by omega) (by omega)
  have hst := hsm _ (atI_mem (l := s) (i := i % (s.length : Int)) (by omega) (by omega))
  have hm1 := mostP_in hb
  have hbd := boundS hE hX hZ ht1 r1 hnm (i % (s.length : Int))
  have hnd := fun (w : Int) hw => needD hE hX hZ ht1 r1 hnm (i % (s.length : Int)) (w := w) hw
  have hbP : boundP s (i % (s.length : Int)) = match leastP s (i % (s.length : Int)) with | some w => (w + (atI s (i % (s.length : Int))).J, 0) | none => (0, 16) := by unfold boundP; rw [if_pos hb]; cases leastP s (i % (s.length : Int)) <;> rfl
  rw [hbP] at hbd
  have hmd : mostP s (i % (s.length : Int)) = (atI s (i % (s.length : Int))).D - (atI s (i % (s.length : Int))).J := rfl
  obtain ⟨_, hC, hD, hJ, hQ, hT, hP⟩ := hst
  have L0 := @leastP_none s (i % (s.length : Int))
  have L1 := fun z => @leastP_some s (i % (s.length : Int)) z hb
  clear hbP hnm hsm hisP hi aw0 hb
  generalize i % (s.length : Int) = k at *
  cases hls : leastP s k with
  | none =>
    rw [hls] at hbd
    have L0 := L0 hls
    have e := emod_in less ((atI s k).D - (atI s k).J) (by omega)
    have hr2 := rest14 hE H less ((atI s k).D - (atI s k).J) (by omega) (by omega)
    have hx := L0 (1 + less % ((atI s k).D - (atI s k).J)) (by omega) (by omega)
    have hn := hnd (1 + less % ((atI s k).D - (atI s k).J)) (by unfold u64in; omega)
    clear hls L1 hless
    generalize less % ((atI s k).D - (atI s k).J) = y at *
    generalize needP s k (1 + y) = N at *
    clear hmd L0 hnd
    dsimp only at hbd
    generalize mostP s k = most at *
    (repeat' (first | ((with_reducible refine WG_dec (fun _ => ?_) (fun _ => ?_)) <;> try (exfalso; omega)) | ((with_reducible refine WG_decF (fun _ => ?_) (fun _ => ?_)) <;> try (exfalso; omega)) | ((with_reducible refine WC_dec (fun _ => ?_) (fun _ => ?_)) <;> try (exfalso; omega)) | refine WC_bool (fun _ => ?_) (fun _ => ?_) | refine WG_bool (fun _ => ?_) (fun _ => ?_) | refine WG_boolF (fun _ => ?_) (fun _ => ?_) | simp -dsimp (disch := omega) only [↓run_nil, ↓run_i, ↓run_w, ↓rd_nil, ↓rd_i, ↓op_call, ↓co_seq, ↓co_ret, ↓co_reg, ↓co_drw, ↓co_cond, ↓op_mov, ↓op_pick, ↓op_bin, ↓op_cvi, ↓op_fld, ↓op_ixs, ↓op_ext, ↓op_lens, ↓op_ld, ↓opd_mov, ↓opd_bin, ↓opd_fld, ↓opd_ixs, ↓opd_ld, Res_ret, resL_nil, resL_t, resV_one, nn4_bool, WF_eq, W1_some, WX_some, WG_true, ↓ev_t, ↓ev_c, ↓ev_f, ↓upd_at, ↓get_cons, ↓frm_nil, ↓frm_cons, bin_add, bin_sub, bin_eql, bin_neq, bin_gtr, cvi_int, pick_t, load_ptr, fld_ptr, ext_tuple, nt_int, room0, wrap_i64, wrap_u64, eq_self, List.map_cons, List.map_nil, true_and, List.getElem?_cons_zero, List.getElem?_cons_succ, List.getD_cons_zero, List.getD_cons_succ, Option.map_some, Nat.reduceEqDiff, ↓reduceIte, reduceCtorEq, decide_true, not_false_eq_true, *, r1.len, r1.ixs, r1.ld, encT]))
  | some z =>
    rw [hls] at hbd
    obtain ⟨⟨z1, z2⟩, z3, z4⟩ := L1 z hls
    have e := emod_in less z (by omega)
    have hr2 := rest14 hE H less z (by omega) (by omega)
    have hn := hnd (1 + less % z) (by unfold u64in; omega)
    have hz := hnd z (by unfold u64in; omega)
    have hx := z4 (1 + less % z) (by omega)
    clear hls L0 L1 hless z4
    generalize less % z = y at *
    rw [z3] at hz
    generalize needP s k (1 + y) = N at *
    clear hnd z3
    dsimp only at hbd
    have Hx := Hid.mk hx
    clear hx
    have hsub : z + (atI s k).J - (atI s k).J = z := by omega
    generalize mostP s k = most at *
    have hm2 : z ≤ (atI s k).D - (atI s k).J := by omega
    clear hmd
    (repeat' (first | ((with_reducible refine WG_dec (fun _ => ?_) (fun _ => ?_)) <;> try (exfalso; omega)) | ((with_reducible refine WG_decF (fun _ => ?_) (fun _ => ?_)) <;> try (exfalso; omega)) | ((with_reducible refine WC_dec (fun _ => ?_) (fun _ => ?_)) <;> try (exfalso; omega)) | refine WC_bool (fun _ => ?_) (fun _ => ?_) | refine WG_bool (fun _ => ?_) (fun _ => ?_) | refine WG_boolF (fun _ => ?_) (fun _ => ?_) | simp -dsimp (disch := omega) only [↓run_nil, ↓run_i, ↓run_w, ↓rd_nil, ↓rd_i, ↓op_call, ↓co_seq, ↓co_skip, ↓co_ret, ↓co_reg, ↓co_drw, ↓co_cond, ↓op_mov, ↓op_pick, ↓op_bin, ↓op_cvi, ↓op_fld, ↓op_ixs, ↓op_ext, ↓op_lens, ↓op_ld, ↓opd_mov, ↓opd_bin, ↓opd_fld, ↓opd_ixs, ↓opd_ld, Res_ret, resL_nil, resL_t, resV_one, nn4_bool, WF_eq, W1_some, WX_some, WC_false, WG_true, WG_false, WG_tf, ↓ev_t, ↓ev_c, ↓ev_f, ↓upd_at, ↓get_cons, ↓frm_nil, ↓frm_cons, bin_add, bin_sub, bin_eql, bin_neq, bin_lss, bin_gtr, cvi_int, pick_t, pick_f, load_ptr, fld_ptr, ext_tuple, nt_int, room0, wrap_i64, wrap_u64, eq_self, List.map_cons, List.map_nil, true_and, List.getElem?_cons_zero, List.getElem?_cons_succ, List.getD_cons_zero, List.getD_cons_succ, Option.map_some, Nat.reduceEqDiff, ↓reduceIte, reduceCtorEq, decide_true, decide_false, not_true_eq_false, *, r1.len, r1.ixs, r1.ld, encT]))
    rw [decide_eq_true (Hx.out (by omega))]
end Go.L.Try

/- SETS WITH ALL TIMES SO MANY TIMES AS GREAT, PLAIN. -/
set_option linter.unusedVariables false
set_option linter.unusedSimpArgs false
set_option maxRecDepth 100000
set_option maxHeartbeats 1000000
namespace Go.L.Try
open Go Go.L
theorem atI_map_in {α β : Type} [Inhabited α] [Inhabited β] (f : α → β) {l : List α} {i : Int} (h0 : 0 ≤ i) (h1 : i < l.length) : atI (l.map f) i = f (atI l i) := by
  obtain ⟨n, rfl⟩ := Int.eq_ofNat_of_zero_le h0
  have hn : n < l.length := by omega
  rw [atI_nat hn, atI_nat (by simpa using hn), List.getElem_map]
def hN (l : List Task) (i w : Int) : Nat → Int
  | 0 => 0
  | k + 1 => if (atI l (k : Int)).P < (atI l i).P then hN l i w k + ((w + (atI l (k : Int)).J + (atI l (k : Int)).T - 1) / (atI l (k : Int)).T) * (atI l (k : Int)).C else hN l i w k
structure Mid (t : Task) : Prop where
  C : 1 ≤ t.C ∧ t.C ≤ 134217728
  T : 1 ≤ t.T ∧ t.T ≤ 1073741824
  J : 0 ≤ t.J ∧ t.J ≤ 536870912
theorem term_in {t : Task} (m : Mid t) {w : Int} (hw : 0 ≤ w ∧ w ≤ 1073741824) : oftenP t w = (w + t.J + t.T - 1) / t.T ∧ 0 ≤ ((w + t.J + t.T - 1) / t.T) * t.C ∧ ((w + t.J + t.T - 1) / t.T) * t.C ≤ 576460752303423488 := by
  obtain ⟨hC, hT, hJ⟩ := m
  have e : oftenP t w = (w + t.J + t.T - 1) / t.T := by
    unfold oftenP sat
    rw [if_pos (by omega)]
  have h1 : 0 ≤ (w + t.J + t.T - 1) / t.T := Int.ediv_nonneg (by omega) (by omega)
  have h2 : (w + t.J + t.T - 1) / t.T ≤ 2684354560 := Int.le_trans (Int.ediv_le_self _ (by omega)) (by omega)
  refine ⟨e, Int.mul_nonneg h1 (by omega), ?_⟩
  exact Int.le_trans (Int.mul_le_mul h2 hC.2 (by omega) (by omega)) (by decide)
theorem nosat {l : List Task} (hl : ∀ t ∈ l, Mid t) (hn : l.length ≤ 6) {i w : Int} (hw : 0 ≤ w ∧ w ≤ 1073741824) : ∀ n : Nat, n ≤ l.length → higherN l i w n = hN l i w n ∧ 0 ≤ hN l i w n ∧ hN l i w n ≤ n * 576460752303423488
  | 0, _ => by simp [higherN, hN]
  | n + 1, h => by
    obtain ⟨e, h1, h2⟩ := nosat hl hn (i := i) hw n (by omega)
    obtain ⟨e3, h4, h5⟩ := term_in (hl _ (atI_mem (l := l) (i := (n : Int)) (by omega) (by omega))) hw
    unfold higherN hN
    split
    · rw [e, e3]
      generalize ((w + (atI l (n : Int)).J + (atI l (n : Int)).T - 1) / (atI l (n : Int)).T) * (atI l (n : Int)).C = x at *
      have e5 : sat x = x := by unfold sat; rw [if_pos (by omega)]
      rw [e5]
      have e6 : sat (hN l i w n + x) = hN l i w n + x := by unfold sat; rw [if_pos (by omega)]
      rw [e6]
      exact ⟨rfl, by omega, by omega⟩
    · exact ⟨e, h1, by omega⟩
theorem block_one {l : List Task} (hq : ∀ t ∈ l, t.Q = 1) {i : Int} : ∀ n : Nat, n ≤ l.length → blockN l i n = 0
  | 0, _ => rfl
  | n + 1, h => by
    have h1 := hq _ (atI_mem (l := l) (i := (n : Int)) (by omega) (by omega))
    unfold blockN
    rw [block_one hq n (by omega), h1]
    split <;> rfl
theorem need_plain {l : List Task} {i : Int} (hb : isP l i = true) (hl : ∀ t ∈ l, Mid t) (hq : ∀ t ∈ l, t.Q = 1) (hn : l.length ≤ 6) {w : Int} (hw : 1 ≤ w ∧ w ≤ 1073741824) : needP l i w = (atI l i).C + hN l i w l.length := by
  obtain ⟨hi, _, _⟩ := isP_ok hb
  obtain ⟨e, h1, h2⟩ := nosat hl hn (i := i) (w := w) (by omega) l.length (Nat.le_refl _)
  have hC := (hl _ (atI_mem hi.1 hi.2)).C
  have eb : blockP l i = 0 := by unfold blockP; rw [if_pos hb]; exact block_one hq _ (Nat.le_refl _)
  have eh : higherP l i w = hN l i w l.length := by unfold higherP; rw [if_pos ⟨hb, by omega⟩]; exact e
  rw [needP_eq hb, eb, eh]
  have e2 : sat ((atI l i).C + 0) = (atI l i).C := by unfold sat; rw [if_pos (by omega)]; omega
  rw [e2]
  unfold sat
  rw [if_pos (by omega)]
/-- All times so many times as great. -/
def sc (k : Int) (t : Task) : Task := ⟨t.name, t.C * k, t.T * k, t.D * k, t.J * k, 1, t.P⟩
theorem ceil_mul {a T k : Int} (hT : 0 < T) (hk : 0 < k) : (a * k + T * k - 1) / (T * k) = (a + T - 1) / T := by
  have h1 := Int.emod_add_mul_ediv (a + T - 1) T
  have h2 := Int.emod_nonneg (a + T - 1) (show T ≠ 0 by omega)
  have h3 := Int.emod_lt_of_pos (a + T - 1) hT
  generalize (a + T - 1) / T = q at *
  generalize (a + T - 1) % T = r at *
  have e : a * k + T * k - 1 = (r * k + k - 1) + (T * k) * q := by
    have : (a + T - 1) * k = (r + T * q) * k := by rw [h1]
    rw [Int.sub_mul, Int.add_mul, Int.add_mul] at this
    have e2 : T * q * k = T * k * q := by rw [Int.mul_assoc, Int.mul_comm q k, ← Int.mul_assoc]
    rw [e2] at this
    omega
  have hTk : 0 < T * k := Int.mul_pos hT hk
  rw [e, Int.add_mul_ediv_left _ _ (by omega), Int.ediv_eq_zero_of_lt]
  · omega
  · have := Int.mul_nonneg h2 (show 0 ≤ k by omega); omega
  · have h5 : (r + 1) * k ≤ T * k := Int.mul_le_mul_of_nonneg_right (by omega) (by omega)
    rw [Int.add_mul] at h5; omega
theorem hN_scale {l : List Task} (hl : ∀ t ∈ l, Mid t) {k : Int} (hk : 0 < k) {i : Int} (hi : 0 ≤ i ∧ i < l.length) (w : Int) : ∀ n : Nat, n ≤ l.length → hN (l.map (sc k)) i (w * k) n = hN l i w n * k
  | 0, _ => by simp [hN]
  | n + 1, h => by
    have ih := hN_scale hl hk hi w n (by omega)
    have hm := hl _ (atI_mem (l := l) (i := (n : Int)) (by omega) (by omega))
    unfold hN
    rw [atI_map_in _ (by omega) (by omega : (n : Int) < l.length), atI_map_in _ hi.1 hi.2, ih]
    show (if (atI l (n : Int)).P < (atI l i).P then _ else _) = _
    split
    · have e := ceil_mul (a := w + (atI l (n : Int)).J) hm.T.1 hk
      rw [Int.add_mul] at e
      show hN l i w n * k + (w * k + (atI l (n : Int)).J * k + (atI l (n : Int)).T * k - 1) / ((atI l (n : Int)).T * k) * ((atI l (n : Int)).C * k) = _
      rw [e, Int.add_mul, Int.mul_assoc]
    · rfl
theorem hN_multiple {l : List Task} {k : Int} {i : Int} (hi : 0 ≤ i ∧ i < l.length) (w : Int) : ∀ n : Nat, n ≤ l.length → ∃ m, hN (l.map (sc k)) i w n = m * k
  | 0, _ => ⟨0, by simp [hN]⟩
  | n + 1, h => by
    obtain ⟨m, e⟩ := hN_multiple (k := k) hi w n (by omega)
    unfold hN
    rw [atI_map_in _ (by omega) (by omega : (n : Int) < l.length), e]
    split
    · refine ⟨m + (w + (sc k (atI l (n : Int))).J + (sc k (atI l (n : Int))).T - 1) / (sc k (atI l (n : Int))).T * (atI l (n : Int)).C, ?_⟩
      rw [Int.add_mul, Int.mul_assoc]; rfl
    · exact ⟨m, rfl⟩
structure Sml (t : Task) : Prop where
  ok : okTask t
  C : 1 ≤ t.C ∧ t.C ≤ 4
  D : t.C ≤ t.D ∧ t.D ≤ 14
  J : 0 ≤ t.J ∧ t.C + t.J ≤ t.D
  T : t.D ≤ t.T ∧ t.T ≤ 20
  Q : t.Q = 1
theorem mul_in {x k a b : Int} (hk : 1 ≤ k ∧ k ≤ 33554432) (ha : 0 ≤ a) (hx : a ≤ x ∧ x ≤ b) : a ≤ x * k ∧ x * k ≤ b * 33554432 := by
  have h1 : a * 1 ≤ x * k := Int.mul_le_mul hx.1 hk.1 (by decide) (by omega)
  have h2 : x * k ≤ b * 33554432 := Int.mul_le_mul hx.2 hk.2 (by omega) (by omega)
  rw [Int.mul_one] at h1
  exact ⟨h1, h2⟩
theorem sc_ok {t : Task} (s : Sml t) {k : Int} (hk : 1 ≤ k ∧ k ≤ 33554432) : okTask (sc k t) ∧ Mid (sc k t) := by
  obtain ⟨⟨h1, h2⟩, hC, hD, hJ, hT, hQ⟩ := s
  have c := mul_in hk (by decide) hC
  have d := mul_in (x := t.D) (a := 1) (b := 14) hk (by decide) (by omega)
  have j := mul_in (x := t.J) (a := 0) (b := 13) hk (by decide) (by omega)
  have t' := mul_in (x := t.T) (a := 1) (b := 20) hk (by decide) (by omega)
  simp only [rangesB] at h1
  have e1 : (t.C + t.J) * k ≤ t.D * k := Int.mul_le_mul_of_nonneg_right hJ.2 (by omega)
  have e2 : t.D * k ≤ t.T * k := Int.mul_le_mul_of_nonneg_right hT.1 (by omega)
  rw [Int.add_mul] at e1
  refine ⟨⟨⟨h1.1, h1.2.1, ?_, ?_, ?_, ?_, ?_, h1.2.2.2.2.2.2.2⟩, ?_⟩, ⟨?_, ?_, ?_⟩⟩
  all_goals simp only [sc, fitsB]
  all_goals omega
theorem sc_valid {l : List Task} (hv : validP l) (hs : ∀ t ∈ l, Sml t) {k : Int} (hk : 1 ≤ k ∧ k ≤ 33554432) : validP (l.map (sc k)) := by
  obtain ⟨h1, h2, h3⟩ := valid_iff.1 hv
  refine valid_iff.2 ⟨by simpa using h1, fun t ht => ?_, fun j m hj hm => ?_⟩
  · obtain ⟨u, hu, rfl⟩ := List.mem_map.1 ht
    exact (sc_ok (hs u hu) hk).1
  · rw [List.length_map] at hm
    rw [atI_map_in _ (by omega) (by omega : (j : Int) < l.length), atI_map_in _ (by omega) (by omega : (m : Int) < l.length)]
    exact h3 j m hj hm
theorem valid_isP {l : List Task} (hv : validP l) {i : Int} (h0 : 0 ≤ i) (h1 : i < l.length) : isP l i = true := by
  unfold validP at hv; unfold isP; exact decide_eq_true ⟨hv, h0, h1⟩
theorem least_scale {l : List Task} (hv : validP l) (hs : ∀ t ∈ l, Sml t) (hn : l.length ≤ 6) {k : Int} (hk : 1 ≤ k ∧ k ≤ 33554432) {i : Int} (hi : 0 ≤ i ∧ i < l.length) :
    leastP (l.map (sc k)) i = (leastP l i).map (· * k) := by
  have hb := valid_isP hv hi.1 hi.2
  have hb2 := valid_isP (sc_valid hv hs hk) hi.1 (by simpa using hi.2)
  have ei : atI (l.map (sc k)) i = sc k (atI l i) := atI_map_in _ hi.1 hi.2
  have hm1 := mostP_in hb
  have hst := hs _ (atI_mem hi.1 hi.2)
  have em : mostP (l.map (sc k)) i = mostP l i * k := by
    unfold mostP; rw [ei, Int.sub_mul]; rfl
  have hmost : mostP l i ≤ 14 := by unfold mostP; have := hst.D; have := hst.J; omega
  have hm2 := mul_in (x := mostP l i) (a := 1) (b := 14) hk (by decide) (by omega)
  have hmid : ∀ t ∈ l, Mid t := fun t ht => by
    have := hs t ht
    obtain ⟨_, hC, hD, hJ, hT, _⟩ := this
    exact ⟨by omega, by omega, by omega⟩
  have hmid2 : ∀ t ∈ l.map (sc k), Mid t := fun t ht => by
    obtain ⟨u, hu, rfl⟩ := List.mem_map.1 ht
    exact (sc_ok (hs u hu) hk).2
  have hq1 : ∀ t ∈ l, t.Q = 1 := fun t ht => (hs t ht).Q
  have hq2 : ∀ t ∈ l.map (sc k), t.Q = 1 := fun t ht => by obtain ⟨u, hu, rfl⟩ := List.mem_map.1 ht; rfl
  have hl2 : (l.map (sc k)).length ≤ 6 := by simpa using hn
  have need1 := fun w hw => need_plain hb hmid hq1 hn (w := w) hw
  have need2 := fun w hw => need_plain hb2 hmid2 hq2 hl2 (w := w) hw
  have escale : ∀ w, 1 ≤ w → w ≤ 14 → needP (l.map (sc k)) i (w * k) = needP l i w * k := fun w a b => by
    have := mul_in (x := w) (a := 1) (b := 14) hk (by decide) ⟨a, b⟩
    rw [need1 w (by omega), need2 (w * k) (by omega), ei, List.length_map, hN_scale hmid (by omega) hi w l.length (Nat.le_refl _), Int.add_mul]; rfl
  -- what is enough of the greater one, comes of what is enough of the lesser
  have key : ∀ v, 1 ≤ v → v ≤ mostP l i * k → needP (l.map (sc k)) i v ≤ v → ∃ m, 1 ≤ m ∧ m * k ≤ v ∧ needP l i m ≤ m := fun v a b c => by
    obtain ⟨x, hx⟩ := hN_multiple (k := k) hi v (l.map (sc k)).length (by simp)
    have e : needP (l.map (sc k)) i v = ((atI l i).C + x) * k := by
      rw [need2 v (by omega), hx, ei, Int.add_mul]; rfl
    have hu : u64in v := by unfold u64in; omega
    obtain ⟨n1, n2⟩ := needP_in hb2 hu
    rw [e] at c n2
    generalize hm : (atI l i).C + x = m at *
    have hm1' : 1 ≤ m := by
      rcases Int.lt_or_le m 1 with h | h
      · have := Int.mul_le_mul_of_nonneg_right (show m ≤ 0 by omega) (show 0 ≤ k by omega)
        rw [Int.zero_mul] at this; omega
      · exact h
    have hm14 : m ≤ 14 := by
      rcases Int.lt_or_le 14 m with h | h
      · have h1 := Int.mul_le_mul_of_nonneg_right (show (15 : Int) ≤ m by omega) (show 0 ≤ k by omega)
        have h2 := Int.mul_le_mul_of_nonneg_right hmost (show 0 ≤ k by omega)
        omega
      · exact h
    have hmk := mul_in (x := m) (a := 1) (b := 14) hk (by decide) ⟨hm1', hm14⟩
    have h5 := needP_mono hb2 (w := m * k) (v := v) (by unfold u64in; omega) c
    rw [escale m hm1' hm14, e] at h5
    refine ⟨m, hm1', c, ?_⟩
    exact Int.le_of_mul_le_mul_right h5 (by omega)
  have hlen1 : ((mostP l i * k).toNat : Int) = mostP l i * k := by omega
  cases hls : leastP l i with
  | none =>
    have L0 := leastP_none hls
    unfold leastP
    rw [em]
    refine least_none _ _ fun v a b => ?_
    rcases Int.lt_or_le v (needP (l.map (sc k)) i v) with h | h
    · exact h
    · obtain ⟨m, m1, m2, m3⟩ := key v a (by omega) h
      have h2 : m ≤ mostP l i := by
        have : m * k ≤ mostP l i * k := by omega
        exact Int.le_of_mul_le_mul_right this (by omega)
      have := L0 m m1 h2
      omega
  | some w =>
    obtain ⟨⟨w1, w2⟩, w3, w4⟩ := leastP_some hb hls
    have hwk := mul_in (x := w) (a := 1) (b := 14) hk (by decide) ⟨w1, by omega⟩
    have h6 := Int.mul_le_mul_of_nonneg_right w2 (show 0 ≤ k by omega)
    unfold leastP
    rw [em]
    show _ = some (w * k)
    refine least_some (by rw [escale w w1 (by omega), w3]; omega) _ _ hwk.1 (by omega) fun v a b => ?_
    rcases Int.lt_or_le v (needP (l.map (sc k)) i v) with h | h
    · exact h
    · obtain ⟨m, m1, m2, m3⟩ := key v a (by omega) h
      have h2 : m < w := by
        rcases Int.lt_or_le m w with h7 | h7
        · exact h7
        · have := Int.mul_le_mul_of_nonneg_right h7 (show 0 ≤ k by omega); omega
      have := w4 m m1 h2
      omega
/-- BOUNDS ARE SO MANY TIMES AS GREAT. -/
theorem bound_scale {l : List Task} (hv : validP l) (hs : ∀ t ∈ l, Sml t) (hn : l.length ≤ 6) {k : Int} (hk : 1 ≤ k ∧ k ≤ 33554432) {i : Int} (hi : 0 ≤ i ∧ i < l.length) :
    (boundP (l.map (sc k)) i).1 = (boundP l i).1 * k ∧ (boundP (l.map (sc k)) i).2 = (boundP l i).2 := by
  have hb := valid_isP hv hi.1 hi.2
  have hb2 := valid_isP (sc_valid hv hs hk) hi.1 (by simpa using hi.2)
  have ei : atI (l.map (sc k)) i = sc k (atI l i) := atI_map_in _ hi.1 hi.2
  unfold boundP
  rw [if_pos hb, if_pos hb2, least_scale hv hs hn hk hi, ei]
  cases leastP l i with
  | none => simp
  | some w => simp [sc, Int.add_mul]
end Go.L.Try

/- RtaScales: with all times so many times as great bounds are so many times as great. -/
set_option linter.unusedVariables false
set_option linter.unusedSimpArgs false
set_option maxRecDepth 100000
set_option maxHeartbeats 2000000
namespace Go.L.Try
open Go Go.L
variable {E : Env} {G : Nat}
theorem bin_and25 {q : EqK} {a : Int} : binOp .and q (.int .i64 a) (.int .i64 33554431) = some (.int .i64 (a % 33554432)) := by
  have e : (((BitVec.ofInt 64 a) &&& (BitVec.ofInt 64 33554431)).toNat : Int) = a % 33554432 := by
    have e2 : BitVec.ofInt 64 33554431 = BitVec.ofNat 64 33554431 := by decide
    rw [e2, BitVec.toNat_and, BitVec.toNat_ofInt, BitVec.toNat_ofNat, Nat.mod_eq_of_lt (by decide : 33554431 < 2 ^ 64), show (33554431 : Nat) = 2 ^ 25 - 1 by decide, Nat.and_two_pow_sub_one_eq_mod]
    omega
  have e3 : binOp .and q (.int .i64 a) (.int .i64 33554431) = some (.int .i64 (IntKind.i64.wrap (((BitVec.ofInt 64 a) &&& (BitVec.ofInt 64 33554431)).toNat : Nat))) := by simp only [binOp, intOp, if_true]; rfl
  rw [e3, e, wrap_i64 (by omega) (by omega)]
def q1 (t : Task) : Task := { t with Q := 1 }
def qq (s : List Task) (n : Nat) : List Task := (s.take n).map q1 ++ s.drop n
theorem qq_len (s : List Task) (n : Nat) : (qq s n).length = s.length := by simp [qq]; omega
theorem qq_zero (s : List Task) : qq s 0 = s := by simp [qq]
theorem qq_all (s : List Task) : qq s s.length = s.map q1 := by simp [qq]
theorem qq_at {s : List Task} {n : Nat} (hn : n < s.length) : atI (qq s n) (n : Int) = atI s (n : Int) := by
  rw [atI_nat (by rw [qq_len]; exact hn), atI_nat hn]
  unfold qq
  have hl : ((s.take n).map q1).length = n := by simp; omega
  rw [List.getElem_append_right (by omega), List.getElem_drop]
  congr 1; omega
theorem qq_succ {s : List Task} {n : Nat} (hn : n < s.length) : qq s (n + 1) = (qq s n).set n (q1 (atI s (n : Int))) := by
  unfold qq
  have hl : ((s.take n).map q1).length = n := by simp; omega
  rw [List.set_append_right _ _ (by omega), hl, Nat.sub_self, List.drop_eq_getElem_cons hn, List.set_cons_zero, take_snoc hn, List.map_append, List.append_assoc]
  simp
theorem qq_at2 {s : List Task} {n : Nat} (hn : n < s.length) : atI (qq s (n + 1)) (n : Int) = q1 (atI s (n : Int)) := by
  rw [qq_succ hn, atI_nat (by rw [List.length_set, qq_len]; exact hn)]
  simp
theorem small_sml {t : Task} (h : okTask t) (s : SmallT t) : Sml (q1 t) := by
  obtain ⟨_, hC, hD, hJ, hQ, hT, hP⟩ := s
  obtain ⟨⟨h1, h2, h3, h4, h5, h6, h7, h8⟩, h9⟩ := h
  refine ⟨⟨⟨h1, h2, h3, h4, h5, ⟨show (1 : Int) ≤ 1 by decide, show (1 : Int) ≤ 2147483647 by decide⟩, h7, h8⟩, ?_⟩, hC, hD, hJ, hT, rfl⟩
  simp only [fitsB, q1] at h9 ⊢
  omega
theorem q1_valid {l : List Task} (hv : validP l) (hs : ∀ t ∈ l, SmallT t) : validP (l.map q1) ∧ ∀ t ∈ l.map q1, Sml t := by
  obtain ⟨h1, h2, h3⟩ := valid_iff.1 hv
  have hsm : ∀ t ∈ l.map q1, Sml t := fun t ht => by
    obtain ⟨u, hu, rfl⟩ := List.mem_map.1 ht
    exact small_sml (h2 u hu) (hs u hu)
  refine ⟨valid_iff.2 ⟨by simpa using h1, fun t ht => (hsm t ht).ok, fun j m hj hm => ?_⟩, hsm⟩
  rw [List.length_map] at hm
  rw [atI_map_in _ (by omega) (by omega : (j : Int) < l.length), atI_map_in _ (by omega) (by omega : (m : Int) < l.length)]
  exact h3 j m hj hm
theorem rN_at {l : List Task} {n L : Nat} (hn : n < L) : atI (rN l L) (n : Int) = (boundP l (n : Int)).1 := by
  rw [atI_nat (by rw [rN_len]; exact hn)]
  unfold rN; simp
theorem allR_valid {l : List Task} (hv : validP l) : allR l = rN l l.length ∧ allM l = missN l l.length ∧ allE l = if (missN l l.length).length = 0 then 0 else 16 := by
  refine ⟨by unfold allR; rw [if_pos hv], by unfold allM; rw [if_pos hv], ?_⟩
  unfold allE
  rw [if_pos hv]
  simp only [List.length_eq_zero_iff]
theorem bound_in {l : List Task} {i : Int} (hb : isP l i = true) : 0 ≤ (boundP l i).1 ∧ (boundP l i).1 ≤ (atI l i).D := by
  obtain ⟨hi, _, hok⟩ := isP_ok hb
  have h1 := (hok _ (atI_mem hi.1 hi.2)).1
  simp only [rangesB] at h1
  unfold boundP
  rw [if_pos hb]
  cases hls : leastP l i with
  | none => simp only; omega
  | some w =>
    obtain ⟨⟨w1, w2⟩, _⟩ := leastP_some hb hls
    unfold mostP at w2
    simp only; omega
/-- What the law asks of both. -/
theorem all_scale {l : List Task} (hv : validP l) (hs : ∀ t ∈ l, Sml t) (hn : l.length ≤ 6) {k : Int} (hk : 1 ≤ k ∧ k ≤ 33554432) :
    (allR (l.map (sc k))).length = l.length ∧ (allR l).length = l.length ∧ (allM (l.map (sc k))).length = (allM l).length ∧ allE (l.map (sc k)) = allE l ∧ (∀ n : Nat, n < l.length → atI (allR (l.map (sc k))) (n : Int) = atI (allR l) (n : Int) * k ∧ 0 ≤ atI (allR l) (n : Int) ∧ atI (allR l) (n : Int) ≤ 14) := by
  obtain ⟨a1, a2, a3⟩ := allR_valid hv
  obtain ⟨b1, b2, b3⟩ := allR_valid (sc_valid hv hs hk)
  rw [List.length_map] at b1 b2 b3
  have hm : missN (l.map (sc k)) l.length = missN l l.length := by
    unfold missN
    congr 1
    apply List.filter_congr
    intro j hj
    rw [(bound_scale hv hs hn hk (i := (j : Int)) ⟨by omega, by have := List.mem_range.1 hj; omega⟩).2]
  rw [a1, a2, a3, b1, b2, b3, hm]
  refine ⟨rN_len _ _, rN_len _ _, rfl, rfl, fun n h => ?_⟩
  rw [rN_at h, rN_at h, (bound_scale hv hs hn hk (i := (n : Int)) ⟨by omega, by omega⟩).1]
  have h1 := bound_in (valid_isP hv (i := (n : Int)) (by omega) (by omega))
  have h2 := (hs _ (atI_mem (l := l) (i := (n : Int)) (by omega) (by omega))).D
  exact ⟨rfl, by omega, by omega⟩
theorem setP_okT {l : List Spec} {most turn : Int} (hm : 1 ≤ most) (hm2 : most ≤ 26) : ∀ t ∈ setP l most turn, okTask t := (valid_iff.1 (setP_valid l (most := most) turn hm hm2)).2.1
theorem rtaScales_l0 (hE : Laid E) {H : Heap} {h : Heap} (hph : Pre h H) {s : List Task} (hsm : ∀ t ∈ s, SmallT t) (hn0 : 0 < s.length) (hn6 : s.length ≤ 6) {vs : Value} (ho : RdO h.length 7 encT H vs s) {k : Int} (hk : 1 ≤ k ∧ k ≤ 33554432) {Q : Ex → Fr → Heap → Prop} {fr : Fr} {W : Nat → Prop} (hW : ∀ b, h.length ≤ b → W b) {v7 : Value}
    (g7 : get fr 7 = v7) (g8 : get fr 8 = vs) (g9 : get fr 9 = .int .i64 k) (g10 : get fr 10 = .slice none 0 0) (g11 : get fr 11 = .int .i64 0)
    (hq : ∀ fr' h' vg, Pre h h' → get fr' 7 = v7 → get fr' 8 = vs → get fr' 9 = .int .i64 k → get fr' 10 = vg → Rd 7 encT h' vs (s.map q1) → Rd 7 encT h' vg ((s.map q1).map (sc k)) → Q (.exit 0) fr' h') :
    WO W (iterW (code (callW E) iterW 119 c_cadencylaw14_RtaScales_l0) fr H) Q := by
  have hsn : s ≠ [] := fun e => by rw [e] at hn0; simp at hn0
  have hb0 := ho.ge hsn
  have hHl := hph.le
  refine WO.loop (fun (n : Nat) fr h' => n ≤ s.length ∧ H.length ≤ h'.length ∧ Pre h h' ∧ get fr 7 = v7 ∧ get fr 8 = vs ∧ get fr 9 = .int .i64 k ∧ get fr 11 = .int .i64 n ∧ RdO h.length 7 encT h' vs (qq s n) ∧ OwnT H.length 7 encT h' (get fr 10) (((s.map q1).take n).map (sc k))) (fun n => s.length - n) ?_ 0 ⟨Nat.zero_le _, Nat.le_refl _, hph, g7, g8, g9, g11, by rw [qq_zero]; exact ho, by rw [g10]; exact OwnT.nil⟩
  rintro n fr h' ⟨hn, hHh, hp, g7, g8, g9, g11, hs, hg⟩
  generalize hvg : get fr 10 = vg at hg
  unfold c_cadencylaw14_RtaScales_l0
  rcases Nat.lt_or_ge n s.length with hlt | hge
  · have hr := hs.rd
    have hql := qq_len s n
    have hql1 : s.length ≤ (qq s n).length := by omega
    have hql2 : (qq s n).length ≤ s.length := by omega
    have hnq : qq s n ≠ [] := fun e => by rw [e] at hql; simp at hql; omega
    have hge2 := hs.ge hnq
    have Hq := Hid.mk (qq_succ hlt)
    have Hq2 := Hid.mk (qq_at2 hlt)
    have hset : ((qq s n).set n (q1 (atI s (n : Int)))).length = s.length := by rw [List.length_set, qq_len]
    have hat0 := qq_at hlt
    have hst := hsm _ (atI_mem (l := s) (i := (n : Int)) (by omega) (by omega))
    obtain ⟨_, hC, hD, hJ, hQ, hT, hP⟩ := hst
    have c := mul_in hk (by decide) hC
    have d := mul_in (x := (atI s (n : Int)).D) (a := 1) (b := 14) hk (by decide) (by omega)
    have j := mul_in (x := (atI s (n : Int)).J) (a := 0) (b := 13) hk (by decide) (by omega)
    have t' := mul_in (x := (atI s (n : Int)).T) (a := 1) (b := 20) hk (by decide) (by omega)
    have Htk := Hid.mk (show ((s.map q1).take (n + 1)).map (sc k) = ((s.map q1).take n).map (sc k) ++ [sc k (q1 (atI s (n : Int)))] by
      rw [take_snoc (by simpa using hlt), List.map_append, atI_map_in _ (by omega) (by omega : (n : Int) < s.length)]; rfl)
    have hgl : (((s.map q1).take n).map (sc k)).length ≤ 6 := by simp; omega
    clear hql
    (repeat' (first | ((with_reducible refine WG_dec (fun _ => ?_) (fun _ => ?_)) <;> try (exfalso; omega)) | ((with_reducible refine WG_decF (fun _ => ?_) (fun _ => ?_)) <;> try (exfalso; omega)) | ((with_reducible refine WC_dec (fun _ => ?_) (fun _ => ?_)) <;> try (exfalso; omega)) | refine WC_bool (fun _ => ?_) (fun _ => ?_) | refine WG_bool (fun _ => ?_) (fun _ => ?_) | refine WG_boolF (fun _ => ?_) (fun _ => ?_) | simp -dsimp (disch := omega) only [↓run_nil, ↓run_i, ↓run_k, ↓op_st, ↓co_seq, ↓co_skip, ↓co_reg, ↓co_cond, ↓co_block, ↓op_mov, ↓op_bin, ↓op_fld, ↓op_ixs, ↓op_lens, WF_eq, W1_some, ↓ev_t, ↓ev_c, ↓upd_at, ↓get_cons, ↓frm_nil, ↓frm_cons, bin_lss, cellsV_int, store_ptr, fld_ptr, eq_self, Nat.reduceEqDiff, ↓reduceIte, *, hr.len, hr.ixs]))
    refine wh_rdO hs hW (q1 (atI s (n : Int))) (by omega) (by omega) (by decide) rfl (by rw [hat0]; rfl) fun h5 k1 k2 k3 => ?_
    have hp5 : Pre h h5 := fun b o hb => by
      have := (List.getElem?_eq_some_iff.1 hb).1
      rw [k3 b (by omega)]; exact hp b o hb
    have hg5 : OwnT H.length 7 encT h5 vg (((s.map q1).take n).map (sc k)) := hg.keep fun hn => k3 _ (by have := hg.ge hn; omega)
    rw [show ((n : Int)).toNat = n by omega, ← Hq.out] at k1
    have hr5 := k1.rd
    have hl5a : n < (qq s (n + 1)).length := by rw [qq_len]; exact hlt
    have hat5 : atI (qq s (n + 1)) (n : Int) = q1 (atI s (n : Int)) := Hq2.out
    have k2a : h'.length ≤ h5.length := by omega
    have k2b : h5.length ≤ h'.length := by omega
    clear hs hr k3 hat0 k2 hset
    generalize hqq : qq s (n + 1) = q5 at *
    (repeat' (first | ((with_reducible refine WG_dec (fun _ => ?_) (fun _ => ?_)) <;> try (exfalso; omega)) | ((with_reducible refine WG_decF (fun _ => ?_) (fun _ => ?_)) <;> try (exfalso; omega)) | ((with_reducible refine WC_dec (fun _ => ?_) (fun _ => ?_)) <;> try (exfalso; omega)) | refine WC_bool (fun _ => ?_) (fun _ => ?_) | refine WG_bool (fun _ => ?_) (fun _ => ?_) | refine WG_boolF (fun _ => ?_) (fun _ => ?_) | simp -dsimp (disch := omega) only [↓run_nil, ↓run_i, ↓run_k, ↓op_st, ↓co_seq, ↓co_reg, ↓op_mov, ↓op_bin, ↓op_bld, ↓op_fld, ↓op_ixs, ↓op_ld, ↓op_all, ↓op_bsl, ↓op_app, WF_eq, W1_some, WH_some1, ↓ev_t, ↓ev_c, ↓upd_at, ↓get_cons, ↓frm_nil, ↓frm_cons, bin_mul, cellsV_int, cellsV_str, cellsV_agg, one_int, one_str, fillV_nil, fillV_cons, setCells_nil, setCells_cons, load_ptr, ldO_cells, part_none, store_ptr, stO_cells, fld_ptr, geta0, seta0, newCells, bslV, wrap_i64, eq_self, List.map_cons, List.map_nil, List.length_append, List.length_cons, List.length_nil, List.all_cons, List.all_nil, Bool.and_self, true_and, and_self, List.getElem?_cons_zero, List.getElem?_cons_succ, List.set_cons_zero, List.set_cons_succ, List.append_assoc, List.cons_append, List.nil_append, List.append_nil, Option.bind_some, Option.map_some, Nat.reduceEqDiff, Nat.reduceAdd, Nat.reduceLeDiff, Nat.reduceMul, Nat.zero_add, Nat.add_zero, ↓reduceIte, List.flatten_cons, List.flatten_nil, List.replicate_succ, List.replicate_zero, Nat.le_refl, *, hr5.ixs, hr5.lda, encT, q1]))
    refine wx_app1 (sz := 7) (bytes := 64) (hg5.app _) (hp5.app' _) (by omega) (by simp; omega) (fun b hb => hW b (by omega)) (sc k (q1 (atI s (n : Int)))) (by simp -dsimp (disch := omega) only [geta, cellsOf_some, cellO_cells, List.length_cons, List.length_nil, List.getElem?_cons_zero, List.getElem?_cons_succ, List.drop_zero, List.take_succ_cons, List.take_zero, Nat.reduceAdd, Nat.reduceMul, Nat.zero_add, ↓reduceIte, Nat.le_refl]; rfl) rfl (by decide) (by decide) (by omega) ?_
    intro v2 h2 j1 j2 j3 j4 j5
    have hb5 := k1.ge (fun e => by rw [e] at hl5a; simp at hl5a)
    have hq5 : q5 ≠ [] := fun e => by rw [e] at hl5a; simp at hl5a
    have k1' : RdO h.length 7 encT h2 vs q5 := k1.keep hq5 (by
      rw [j5 _ (by simp; omega) (fun hne e => by have := hg5.ge hne; omega), List.getElem?_append_left (by omega)])
    have hj4 : h5.length ≤ h2.length := by rw [j4]; simp; omega
    clear j5 j3 j4
    (repeat' (first | ((with_reducible refine WG_dec (fun _ => ?_) (fun _ => ?_)) <;> try (exfalso; omega)) | ((with_reducible refine WG_decF (fun _ => ?_) (fun _ => ?_)) <;> try (exfalso; omega)) | ((with_reducible refine WC_dec (fun _ => ?_) (fun _ => ?_)) <;> try (exfalso; omega)) | refine WC_bool (fun _ => ?_) (fun _ => ?_) | refine WG_bool (fun _ => ?_) (fun _ => ?_) | refine WG_boolF (fun _ => ?_) (fun _ => ?_) | simp -dsimp (disch := omega) only [↓run_nil, ↓run_i, ↓co_reg, ↓op_mov, ↓op_bin, WF_eq, W1_some, ↓ev_t, ↓ev_c, ↓upd_at, ↓get_cons, ↓frm_nil, ↓frm_cons, bin_add, wrap_i64, eq_self, Nat.reduceEqDiff, ↓reduceIte, *]))
    refine Next.mk (n + 1) ⟨by omega, by omega, j2, rfl, rfl, rfl, rfl, ?_, ?_⟩ (by omega)
    · rw [hqq]; exact k1'
    · rw [Htk.out]; exact j1
  · have e : n = s.length := by omega
    subst e
    rw [qq_all] at hs
    have e2 : (s.map q1).take s.length = s.map q1 := List.take_of_length_le (by simp)
    rw [e2] at hg
    have hl := hs.rd.len
    rw [List.length_map] at hl
    have hq := Hid.mk hq
    (repeat' (first | ((with_reducible refine WG_dec (fun _ => ?_) (fun _ => ?_)) <;> try (exfalso; omega)) | ((with_reducible refine WG_decF (fun _ => ?_) (fun _ => ?_)) <;> try (exfalso; omega)) | ((with_reducible refine WC_dec (fun _ => ?_) (fun _ => ?_)) <;> try (exfalso; omega)) | refine WC_bool (fun _ => ?_) (fun _ => ?_) | refine WG_bool (fun _ => ?_) (fun _ => ?_) | refine WG_boolF (fun _ => ?_) (fun _ => ?_) | simp -dsimp (disch := omega) only [↓run_nil, ↓run_i, ↓co_seq, ↓co_exit, ↓co_reg, ↓co_cond, ↓op_mov, ↓op_bin, ↓op_lens, WF_eq, W1_some, ↓ev_t, ↓upd_at, ↓get_cons, ↓frm_nil, ↓frm_cons, bin_lss, eq_self, Nat.reduceEqDiff, ↓reduceIte, decide_false, *]))
    exact hq.out _ _ vg hp rfl rfl rfl rfl hs.rd hg.rd
theorem rtaScales (hE : Laid E) (hX : LaidAdd E) (hZ : LaidTz E G) {h : Heap} (ht : Tab G h) {vl : Value} {l : List Spec} (hl : Rd 5 encSp h vl l) {turn by' : Int} (hturn : i64in turn) (hby : i64in by') :
    callW E (.func (.func n_cadencylaw14_RtaScales) #[] #[]) [vl, .int .i64 turn, .int .i64 by'] h = some (.bool true, h, []) := by
  refine fn_same hE.cadencylaw14_RtaScales rfl (by simp) ?_
  simp only [argsF]
  have aw0 := awake14 hE hX hZ ht
  have hset := setP_len l (most := 6) (turn := turn) (by decide)
  have hnm := setP_names (l := l) (most := 6) (turn := turn) (by decide) (by decide)
  have hsm := fun t ht => setP_small (l := l) (most := 6) (turn := turn) (t := t) (by decide) (by decide) ht
  have hv := setP_valid l (most := 6) turn (by decide) (by decide)
  have hk := emod_in by' 33554432 (by decide)
  have hand := fun q => bin_and25 (q := q) (a := by')
  have hk2 : 1 ≤ 1 + by' % 33554432 ∧ 1 + by' % 33554432 ≤ 33554432 := by omega
  (repeat' (first | ((with_reducible refine WG_dec (fun _ => ?_) (fun _ => ?_)) <;> try (exfalso; omega)) | ((with_reducible refine WG_decF (fun _ => ?_) (fun _ => ?_)) <;> try (exfalso; omega)) | ((with_reducible refine WC_dec (fun _ => ?_) (fun _ => ?_)) <;> try (exfalso; omega)) | refine WC_bool (fun _ => ?_) (fun _ => ?_) | refine WG_bool (fun _ => ?_) (fun _ => ?_) | refine WG_boolF (fun _ => ?_) (fun _ => ?_) | simp -dsimp (disch := omega) only [↓run_nil, ↓run_i, ↓op_call, ↓co_seq, ↓co_reg, ↓op_mov, WF_eq, W1_some, WX_some, ↓ev_t, ↓ev_c, ↓ev_f, ↓upd_at, ↓get_cons, ↓frm_nil, ↓frm_cons, eq_self, List.map_cons, List.map_nil, Nat.reduceEqDiff, Nat.reduceAdd, Nat.zero_add, ↓reduceIte, reduceCtorEq, *]))
  refine wx_new (set04O hE hl (by decide) (by decide) hturn) fun v ys r1 p1 => ?_
  obtain ⟨hv1, hs1⟩ := q1_valid hv hsm
  have hsc := all_scale hv1 hs1 (by rw [List.length_map]; omega) hk2
  generalize setP l 6 turn = s at *
  generalize h ++ ys = H at *
  generalize hkk : 1 + by' % 33554432 = k at *
  (repeat' (first | ((with_reducible refine WG_dec (fun _ => ?_) (fun _ => ?_)) <;> try (exfalso; omega)) | ((with_reducible refine WG_decF (fun _ => ?_) (fun _ => ?_)) <;> try (exfalso; omega)) | ((with_reducible refine WC_dec (fun _ => ?_) (fun _ => ?_)) <;> try (exfalso; omega)) | refine WC_bool (fun _ => ?_) (fun _ => ?_) | refine WG_bool (fun _ => ?_) (fun _ => ?_) | refine WG_boolF (fun _ => ?_) (fun _ => ?_) | simp -dsimp (disch := omega) only [↓run_nil, ↓run_i, ↓co_seq, ↓co_reg, ↓co_block, ↓co_loop, ↓op_mov, ↓op_bin, WF_eq, W1_some, ↓ev_t, ↓ev_c, ↓upd_at, ↓get_cons, ↓frm_nil, ↓frm_cons, bin_add, wrap_i64, eq_self, Nat.reduceEqDiff, ↓reduceIte, reduceCtorEq, *]))
  refine rtaScales_l0 hE p1 hsm (by omega) (by omega) r1 hk2 (fun b hb => hb) rfl rfl rfl rfl rfl fun fr' h2 vg p2 g7 g8 g9 g10 rs rg => ?_
  have ht2 := ht.pre p2
  have hnm1 : ∀ t ∈ s.map q1, t.name.size < 1152921504606846976 := fun t ht => by obtain ⟨u, hu, rfl⟩ := List.mem_map.1 ht; exact hnm u hu
  have hnm2 : ∀ t ∈ (s.map q1).map (sc k), t.name.size < 1152921504606846976 := fun t ht => by obtain ⟨u, hu, rfl⟩ := List.mem_map.1 ht; exact hnm1 u hu
  rw [List.length_map] at hsc
  have hsl : (s.map q1).length = s.length := List.length_map ..
  have hls := rs.len
  rw [hsl] at hls
  obtain ⟨c1, c2, c3, c4, c5⟩ := hsc
  have C5 := Hid.mk c5
  clear c5 hsm hv hv1 hs1 hand hk hby hkk hsl
  generalize s.map q1 = s' at *
  (repeat' (first | ((with_reducible refine WG_dec (fun _ => ?_) (fun _ => ?_)) <;> try (exfalso; omega)) | ((with_reducible refine WG_decF (fun _ => ?_) (fun _ => ?_)) <;> try (exfalso; omega)) | ((with_reducible refine WC_dec (fun _ => ?_) (fun _ => ?_)) <;> try (exfalso; omega)) | refine WC_bool (fun _ => ?_) (fun _ => ?_) | refine WG_bool (fun _ => ?_) (fun _ => ?_) | refine WG_boolF (fun _ => ?_) (fun _ => ?_) | simp -dsimp (disch := omega) only [↓run_i, ↓op_call, ↓co_seq, ↓co_reg, ↓op_mov, W1_some, ↓ev_t, ↓ev_f, ↓upd_at, eq_self, List.map_cons, List.map_nil, ↓reduceIte, *]))
  refine wx_new (allS_ hE hX hZ ht2 rs hnm1) fun va ya hra pa => ?_
  obtain ⟨vs, rfl, he⟩ := hra
  obtain ⟨a, b, c, rfl, ha, hb, rfl⟩ := each3 he
  have na := Rd.nt ha
  have nb := Rd.nt hb
  have ht3 := ht2.pre pa
  have rg3 := rg.pre pa
  have hpa := pa.le
  have hp2 := p2.le
  clear he
  generalize h2 ++ ya = h3 at *
  (repeat' (first | ((with_reducible refine WG_dec (fun _ => ?_) (fun _ => ?_)) <;> try (exfalso; omega)) | ((with_reducible refine WG_decF (fun _ => ?_) (fun _ => ?_)) <;> try (exfalso; omega)) | ((with_reducible refine WC_dec (fun _ => ?_) (fun _ => ?_)) <;> try (exfalso; omega)) | refine WC_bool (fun _ => ?_) (fun _ => ?_) | refine WG_bool (fun _ => ?_) (fun _ => ?_) | refine WG_boolF (fun _ => ?_) (fun _ => ?_) | simp -dsimp (disch := omega) only [↓run_nil, ↓run_i, ↓op_call, ↓co_seq, ↓co_reg, ↓op_mov, ↓op_ext, WF_eq, W1_some, ↓ev_t, ↓ev_f, ↓upd_at, ↓get_cons, ↓frm_nil, ↓frm_cons, ext_tuple, nt_int, eq_self, List.map_cons, List.map_nil, List.getElem?_cons_zero, List.getElem?_cons_succ, Nat.reduceEqDiff, ↓reduceIte, *]))
  refine wx_new (allS_ hE hX hZ ht3 rg3 hnm2) fun va2 ya2 hra2 pa2 => ?_
  obtain ⟨vs2, rfl, he2⟩ := hra2
  obtain ⟨a2, b2, c2', rfl, ha2, hb2, rfl⟩ := each3 he2
  have na2 := Rd.nt ha2
  have nb2 := Rd.nt hb2
  replace ha := ha.pre pa2
  replace hb := hb.pre pa2
  have hpa2 := pa2.le
  clear he2
  generalize h3 ++ ya2 = h4 at *
  have la : lensV false a = some (.int .i64 s.length) := by rw [ha.len, c2]
  have la2 : lensV false a2 = some (.int .i64 s.length) := by rw [ha2.len, c1]
  have lb := hb.len
  have lb2 : lensV false b2 = some (.int .i64 ((allM s').length : Int)) := by rw [hb2.len, c3]
  rw [c4]
  generalize allE s' = e' at *
  have c1a : s.length ≤ (allR (s'.map (sc k))).length := by omega
  have c2a : s.length ≤ (allR s').length := by omega
  clear c1 c2 c3 c4
  generalize allR (s'.map (sc k)) = R2 at *
  generalize allR s' = R1 at *
  (repeat' (first | ((with_reducible refine WG_dec (fun _ => ?_) (fun _ => ?_)) <;> try (exfalso; omega)) | ((with_reducible refine WG_decF (fun _ => ?_) (fun _ => ?_)) <;> try (exfalso; omega)) | ((with_reducible refine WC_dec (fun _ => ?_) (fun _ => ?_)) <;> try (exfalso; omega)) | refine WC_bool (fun _ => ?_) (fun _ => ?_) | refine WG_bool (fun _ => ?_) (fun _ => ?_) | refine WG_boolF (fun _ => ?_) (fun _ => ?_) | simp -dsimp (disch := omega) only [↓run_nil, ↓run_i, ↓run_w, ↓co_seq, ↓co_skip, ↓co_reg, ↓co_cond, ↓co_block, ↓co_loop, ↓op_mov, ↓op_pick, ↓op_bin, ↓op_ext, ↓op_lens, WF_eq, W1_some, WC_false, WG_false, ↓ev_t, ↓ev_c, ↓upd_at, ↓get_cons, ↓frm_nil, ↓frm_cons, bin_neq, pick_f, ext_tuple, nt_int, eq_self, List.getElem?_cons_zero, List.getElem?_cons_succ, Nat.reduceEqDiff, ↓reduceIte, decide_false, not_true_eq_false, *]))
  refine WO.loop (fun (n : Nat) fr h' => h' = h4 ∧ n ≤ s.length ∧ get fr 7 = .bool true ∧ get fr 8 = v ∧ get fr 9 = .int .i64 k ∧ get fr 13 = a ∧ get fr 16 = a2 ∧ get fr 19 = .int .i64 n) (fun n => s.length - n) ?_ 0 ⟨rfl, Nat.zero_le _, rfl, rfl, rfl, rfl, rfl, rfl⟩
  rintro n fr h' ⟨rfl, hn, q7, q8, q9, q13, q16, q19⟩
  unfold c_cadencylaw14_RtaScales_l1
  rcases Nat.lt_or_ge n s.length with hlt | hge
  · obtain ⟨d1, d2, d3⟩ := C5.out n hlt
    have d4 := mul_in (x := atI R1 (n : Int)) (a := 0) (b := 14) hk2 (by decide) ⟨d2, d3⟩
    (repeat' (first | ((with_reducible refine WG_dec (fun _ => ?_) (fun _ => ?_)) <;> try (exfalso; omega)) | ((with_reducible refine WG_decF (fun _ => ?_) (fun _ => ?_)) <;> try (exfalso; omega)) | ((with_reducible refine WC_dec (fun _ => ?_) (fun _ => ?_)) <;> try (exfalso; omega)) | refine WC_bool (fun _ => ?_) (fun _ => ?_) | refine WG_bool (fun _ => ?_) (fun _ => ?_) | refine WG_boolF (fun _ => ?_) (fun _ => ?_) | simp -dsimp (disch := omega) only [↓run_nil, ↓run_i, ↓rd_nil, ↓rd_i, ↓co_seq, ↓co_skip, ↓co_reg, ↓co_drw, ↓co_cond, ↓co_block, ↓op_mov, ↓op_bin, ↓op_lens, ↓opd_mov, ↓opd_bin, ↓opd_ixs, ↓opd_ld, WF_eq, W1_some, WC_false, ↓ev_t, ↓ev_c, ↓upd_at, ↓get_cons, ↓frm_nil, ↓frm_cons, bin_add, bin_mul, bin_neq, bin_lss, load_ptr, room0, wrap_i64, eq_self, List.getD_cons_zero, Nat.reduceEqDiff, ↓reduceIte, decide_false, not_true_eq_false, *, ha.ixs, ha.ld0, ha2.ixs, ha2.ld0, encI]))
    exact Next.mk (n + 1) ⟨rfl, by omega, rfl, rfl, rfl, rfl, rfl, rfl⟩ (by omega)
  · have e : n = s.length := by omega
    subst e
    (repeat' (first | ((with_reducible refine WG_dec (fun _ => ?_) (fun _ => ?_)) <;> try (exfalso; omega)) | ((with_reducible refine WG_decF (fun _ => ?_) (fun _ => ?_)) <;> try (exfalso; omega)) | ((with_reducible refine WC_dec (fun _ => ?_) (fun _ => ?_)) <;> try (exfalso; omega)) | refine WC_bool (fun _ => ?_) (fun _ => ?_) | refine WG_bool (fun _ => ?_) (fun _ => ?_) | refine WG_boolF (fun _ => ?_) (fun _ => ?_) | simp -dsimp (disch := omega) only [↓run_nil, ↓run_i, ↓co_seq, ↓co_exit, ↓co_ret, ↓co_reg, ↓co_cond, ↓op_mov, ↓op_bin, ↓op_lens, Res_ret, resL_nil, resL_t, resV_one, nn4_bool, WF_eq, W1_some, ↓ev_t, ↓upd_at, ↓get_cons, ↓frm_nil, ↓frm_cons, bin_lss, eq_self, true_and, Option.map_some, Nat.reduceEqDiff, ↓reduceIte, *]))
end Go.L.Try
