/- RtaEases: a task that is easier makes no bound greater. -/
import Derived.Test.YtakbaliigmnkjaaDoorPf
set_option linter.unusedVariables false
set_option linter.unusedSimpArgs false
set_option maxRecDepth 100000
set_option maxHeartbeats 2000000
namespace Go.L.Try
open Go Go.L
variable {E : Env} {G : Nat}
/-- The first one is as easy as the other one, at least. -/
structure Easier (x t : Task) : Prop where
  P : x.P = t.P
  C : x.C ≤ t.C
  T : t.T ≤ x.T
  D : x.D = t.D
  J : x.J ≤ t.J
  Q : x.Q ≤ t.Q
theorem Easier.refl (t : Task) : Easier t t := ⟨rfl, Int.le_refl _, Int.le_refl _, rfl, Int.le_refl _, Int.le_refl _⟩
theorem ceil_anti {a b T U : Int} (h0 : 0 ≤ a) (hab : a ≤ b) (hT : 0 < T) (hU : T ≤ U) : (a + U - 1) / U ≤ (b + T - 1) / T := by
  have h1 := Int.emod_add_mul_ediv (b + T - 1) T
  have h2 := Int.emod_lt_of_pos (b + T - 1) hT
  have h3 : 0 ≤ (b + T - 1) / T := Int.ediv_nonneg (by omega) (by omega)
  generalize (b + T - 1) / T = q at *
  have h4 : T * q ≤ U * q := Int.mul_le_mul_of_nonneg_right hU h3
  have h5 : (a + U - 1) / U < q + 1 := Int.ediv_lt_of_lt_mul (by omega) (by rw [Int.add_mul, Int.mul_comm q U]; omega)
  omega
theorem often_easier {x t : Task} (e : Easier x t) (hx : okTask x) (ht : okTask t) {w : Int} (hw : u64in w) : oftenP x w ≤ oftenP t w := by
  obtain ⟨_, hT, hJ⟩ := ofBounds hx
  obtain ⟨_, hT', hJ'⟩ := ofBounds ht
  unfold oftenP
  have h1 := sat_mono (x := w + x.J) (y := w + t.J) (by have := e.J; omega)
  have h2 := (sat_in (x := w + x.J) (by have := hw.1; omega)).1
  exact ceil_anti h2 h1 (by omega) e.T
theorem higherN_easier {l x : List Task} (hlen : x.length = l.length) (he : ∀ j : Nat, j < l.length → Easier (atI x (j : Int)) (atI l (j : Int))) (hx : ∀ t ∈ x, okTask t) (hl : ∀ t ∈ l, okTask t) {i w : Int} (hi : 0 ≤ i ∧ i < l.length) (hw : u64in w) : ∀ k : Nat, k ≤ l.length → higherN x i w k ≤ higherN l i w k
  | 0, _ => Int.le_refl _
  | k + 1, hk => by
    have ih := higherN_easier hlen he hx hl hi hw k (by omega)
    have e := he k (by omega)
    have ei := he i.toNat (by omega)
    rw [show ((i.toNat : Nat) : Int) = i by omega] at ei
    have ox := hx _ (atI_mem (l := x) (i := (k : Int)) (by omega) (by omega))
    have ol := hl _ (atI_mem (l := l) (i := (k : Int)) (by omega) (by omega))
    unfold higherN
    rw [e.P, ei.P]
    split
    · have h1 := often_easier e ox ol hw
      have h2 := (often_in ox hw).2
      have h3 := Int.mul_le_mul h1 e.C (by have := (ofBounds ox).1; omega) (by have := (often_in ol hw).2.1; omega)
      have h4 := sat_mono h3
      exact sat_mono (by omega)
    · exact ih
theorem blockN_easier {l x : List Task} (he : ∀ j : Nat, j < l.length → Easier (atI x (j : Int)) (atI l (j : Int))) {i : Int} (hi : 0 ≤ i ∧ i < l.length) : ∀ k : Nat, k ≤ l.length → blockN x i k ≤ blockN l i k
  | 0, _ => Int.le_refl _
  | k + 1, hk => by
    have ih := blockN_easier he hi k (by omega)
    have e := he k (by omega)
    have ei := he i.toNat (by omega)
    rw [show ((i.toNat : Nat) : Int) = i by omega] at ei
    unfold blockN
    rw [e.P, ei.P]
    have := e.Q
    split <;> omega
theorem need_easier {l x : List Task} (hvl : validP l) (hvx : validP x) (hlen : x.length = l.length) (he : ∀ j : Nat, j < l.length → Easier (atI x (j : Int)) (atI l (j : Int))) {i w : Int} (hi : 0 ≤ i ∧ i < l.length) (hw : u64in w) : needP x i w ≤ needP l i w := by
  have hb := valid_isP hvl hi.1 hi.2
  have hbx := valid_isP hvx hi.1 (by omega)
  obtain ⟨_, _, okl⟩ := isP_ok hb
  obtain ⟨_, _, okx⟩ := isP_ok hbx
  rw [needP_eq hb, needP_eq hbx]
  have ei := he i.toNat (by omega)
  rw [show ((i.toNat : Nat) : Int) = i by omega] at ei
  have h1 : blockP x i ≤ blockP l i := by
    unfold blockP
    rw [if_pos hb, if_pos hbx, hlen]
    exact blockN_easier he hi _ (Nat.le_refl _)
  have h2 : higherP x i w ≤ higherP l i w := by
    unfold higherP
    by_cases h0 : 0 < w
    · rw [if_pos ⟨hbx, h0⟩, if_pos ⟨hb, h0⟩, hlen]
      exact higherN_easier hlen he okx okl hi hw _ (Nat.le_refl _)
    · rw [if_neg (fun h => h0 h.2), if_neg (fun h => h0 h.2)]; exact Int.le_refl _
  have h3 := sat_mono (x := (atI x i).C + blockP x i) (y := (atI l i).C + blockP l i) (by have := ei.C; omega)
  exact sat_mono (by omega)
/-- NO BOUND IS GREATER: who had one has one. -/
theorem bound_easier {l x : List Task} (hvl : validP l) (hvx : validP x) (hlen : x.length = l.length) (he : ∀ j : Nat, j < l.length → Easier (atI x (j : Int)) (atI l (j : Int))) {i : Int} (hi : 0 ≤ i ∧ i < l.length) :
    0 < (boundP l i).1 → 0 < (boundP x i).1 ∧ (boundP x i).1 ≤ (boundP l i).1 := by
  have hb := valid_isP hvl hi.1 hi.2
  have hbx := valid_isP hvx hi.1 (by omega)
  have ei := he i.toNat (by omega)
  rw [show ((i.toNat : Nat) : Int) = i by omega] at ei
  have hJx := (ofBounds ((isP_ok hbx).2.2 _ (atI_mem hi.1 (by omega)))).2.2
  have hm := mostP_in hb
  have hmx := mostP_in hbx
  unfold boundP
  rw [if_pos hb, if_pos hbx]
  cases hls : leastP l i with
  | none => simp
  | some w =>
    obtain ⟨⟨w1, w2⟩, w3, w4⟩ := leastP_some hb hls
    have hu : u64in w := by unfold u64in; omega
    have hn := need_easier hvl hvx hlen he hi hu
    have hmm : mostP l i ≤ mostP x i := by unfold mostP; have := ei.D; have := ei.J; omega
    cases hlx : leastP x i with
    | none =>
      have := leastP_none hlx w w1 (by omega)
      omega
    | some z =>
      obtain ⟨⟨z1, z2⟩, z3, z4⟩ := leastP_some hbx hlx
      have hzw : z ≤ w := by
        rcases Int.lt_or_le w z with h | h
        · have := z4 w w1 h; omega
        · exact h
      have := ei.J
      simp only
      omega
def easeT (m : Int) (t : Task) : Task := if m = 0 then { t with C := max (t.C - 1) t.Q } else if m = 1 then { t with T := t.T + 1 } else if m = 2 then { t with Q := 1 } else { t with J := 0 }
theorem easeT_ok {t : Task} (h : okTask t) (s : SmallT t) (m : Int) : okTask (easeT m t) ∧ Easier (easeT m t) t ∧ (easeT m t).name = t.name := by
  obtain ⟨_, hC, hD, hJ, hQ, hT, hP⟩ := s
  obtain ⟨⟨h1, h2, h3, h4, h5, h6, h7, h8⟩, h9⟩ := h
  simp only [fitsB] at h9
  unfold easeT
  split
  · refine ⟨⟨⟨h1, h2, ?_, h4, h5, h6, h7, h8⟩, ?_⟩, ⟨rfl, ?_, Int.le_refl _, rfl, Int.le_refl _, Int.le_refl _⟩, rfl⟩
    · show 1 ≤ max (t.C - 1) t.Q ∧ max (t.C - 1) t.Q ≤ 2147483647; omega
    · show t.Q ≤ max (t.C - 1) t.Q ∧ max (t.C - 1) t.Q + t.J ≤ t.D ∧ t.D ≤ t.T; omega
    · show max (t.C - 1) t.Q ≤ t.C; omega
  · split
    · refine ⟨⟨⟨h1, h2, h3, ?_, h5, h6, h7, h8⟩, ?_⟩, ⟨rfl, Int.le_refl _, ?_, rfl, Int.le_refl _, Int.le_refl _⟩, rfl⟩
      · show 1 ≤ t.T + 1 ∧ t.T + 1 ≤ 2147483647; omega
      · show t.Q ≤ t.C ∧ t.C + t.J ≤ t.D ∧ t.D ≤ t.T + 1; omega
      · show t.T ≤ t.T + 1; omega
    · split
      · refine ⟨⟨⟨h1, h2, h3, h4, h5, ⟨show (1 : Int) ≤ 1 by decide, show (1 : Int) ≤ 2147483647 by decide⟩, h7, h8⟩, ?_⟩, ⟨rfl, Int.le_refl _, Int.le_refl _, rfl, Int.le_refl _, ?_⟩, rfl⟩
        · show 1 ≤ t.C ∧ t.C + t.J ≤ t.D ∧ t.D ≤ t.T; omega
        · show 1 ≤ t.Q; omega
      · refine ⟨⟨⟨h1, h2, h3, h4, h5, h6, ⟨show (0 : Int) ≤ 0 by decide, show (0 : Int) ≤ 2147483647 by decide⟩, h8⟩, ?_⟩, ⟨rfl, Int.le_refl _, Int.le_refl _, rfl, ?_, Int.le_refl _⟩, rfl⟩
        · show t.Q ≤ t.C ∧ t.C + 0 ≤ t.D ∧ t.D ≤ t.T; omega
        · show 0 ≤ t.J; omega
theorem atI_set {α : Type} [Inhabited α] {l : List α} {n j : Nat} (hj : j < l.length) (a : α) : atI (l.set n a) (j : Int) = if n = j then a else atI l (j : Int) := by
  rw [atI_nat (by rw [List.length_set]; exact hj), List.getElem_set]
  split
  · rfl
  · rw [atI_nat hj]
theorem ease_valid {l : List Task} (hv : validP l) (hs : ∀ t ∈ l, SmallT t) (m : Int) {n : Nat} (hn : n < l.length) : validP (l.set n (easeT m (atI l (n : Int)))) ∧ ∀ j : Nat, j < l.length → Easier (atI (l.set n (easeT m (atI l (n : Int)))) (j : Int)) (atI l (j : Int)) := by
  obtain ⟨h1, h2, h3⟩ := valid_iff.1 hv
  have hmem : atI l (n : Int) ∈ l := atI_mem (by omega) (by omega)
  obtain ⟨e1, e2, e3⟩ := easeT_ok (h2 _ hmem) (hs _ hmem) m
  have key : ∀ j : Nat, j < l.length → Easier (atI (l.set n (easeT m (atI l (n : Int)))) (j : Int)) (atI l (j : Int)) ∧ (atI (l.set n (easeT m (atI l (n : Int)))) (j : Int)).name = (atI l (j : Int)).name := fun j hj => by
    rw [atI_set hj]
    split
    · rename_i e; subst e; exact ⟨e2, e3⟩
    · exact ⟨Easier.refl _, rfl⟩
  refine ⟨valid_iff.2 ⟨by simpa using h1, fun t ht => ?_, fun j k hj hk => ?_⟩, fun j hj => (key j hj).1⟩
  · rcases List.mem_or_eq_of_mem_set ht with h | rfl
    · exact h2 t h
    · exact e1
  · rw [List.length_set] at hk
    rw [(key j (by omega)).2, (key k hk).2, (key j (by omega)).1.P, (key k hk).1.P]
    exact h3 j k hj hk
end Go.L.Try

/- RtaEases: the law. -/
set_option linter.unusedVariables false
set_option linter.unusedSimpArgs false
set_option maxRecDepth 100000
set_option maxHeartbeats 4000000
namespace Go.L.Try
open Go Go.L
variable {E : Env} {G : Nat}
theorem rtaEases (hE : Laid E) (hX : LaidAdd E) (hZ : LaidTz E G) {h : Heap} (ht : Tab G h) {vl : Value} {l : List Spec} (hl : Rd 5 encSp h vl l) {q0 qb turn : Int} (hq0 : i64in q0) (hqb : i64in qb) (hturn : i64in turn) :
    callW E (.func (.func n_cadencylaw14_RtaEases) #[] #[]) [vl, .agg #[.int .i64 q0, .int .i64 qb], .int .i64 turn] h = some (.bool true, h, []) := by
  refine fn_same hE.cadencylaw14_RtaEases rfl (by simp) ?_
  simp only [argsF]
  have aw0 := fun x => awake14 hE hX hZ (ht.app x)
  have hset := setP_len l (most := 6) (turn := turn) (by decide)
  have hnm := setP_names (l := l) (most := 6) (turn := turn) (by decide) (by decide)
  have hsm := fun t ht => setP_small (l := l) (most := 6) (turn := turn) (t := t) (by decide) (by decide) ht
  have hv := setP_valid l (most := 6) turn (by decide) (by decide)
  have hok := setP_okT (l := l) (most := 6) (turn := turn) (by decide) (by decide)
  (repeat' (first | ((with_reducible refine WG_dec (fun _ => ?_) (fun _ => ?_)) <;> try (exfalso; omega)) | ((with_reducible refine WG_decF (fun _ => ?_) (fun _ => ?_)) <;> try (exfalso; omega)) | ((with_reducible refine WC_dec (fun _ => ?_) (fun _ => ?_)) <;> try (exfalso; omega)) | refine WC_bool (fun _ => ?_) (fun _ => ?_) | refine WG_bool (fun _ => ?_) (fun _ => ?_) | refine WG_boolF (fun _ => ?_) (fun _ => ?_) | simp -dsimp (disch := omega) only [↓run_nil, ↓run_i, ↓op_call, ↓co_seq, ↓co_reg, ↓op_mov, ↓op_box, WF_eq, W1_some, WX_some, ↓ev_t, ↓ev_c, ↓ev_f, ↓upd_at, ↓get_cons, ↓frm_nil, ↓frm_cons, cellsV_agg, one_int, newCells, eq_self, List.map_cons, List.map_nil, List.all_cons, List.all_nil, Bool.and_self, Nat.reduceEqDiff, Nat.reduceAdd, Nat.zero_add, ↓reduceIte, reduceCtorEq, *]))
  refine wx_new (set04 hE (hl.app _) (by decide) (by decide) hturn) fun vs ys r1 p1 => ?_
  generalize setP l 6 turn = s at *
  have hp1 : Pre h (h ++ [LObj.cells [Value.int IntKind.i64 q0, Value.int IntKind.i64 qb] false] ++ ys) := (Pre.app h _).trans p1
  have b1 : (h ++ [LObj.cells [Value.int IntKind.i64 q0, Value.int IntKind.i64 qb] false] ++ ys)[h.length]? = some (.cells [.int .i64 q0, .int .i64 qb] false) := p1 _ _ (by rw [geta0]; rfl)
  have hHl : h.length + 1 ≤ (h ++ [LObj.cells [Value.int IntKind.i64 q0, Value.int IntKind.i64 qb] false] ++ ys).length := by simp
  generalize h ++ [LObj.cells [Value.int IntKind.i64 q0, Value.int IntKind.i64 qb] false] ++ ys = H at *
  have hmod1 := emod_in q0 (s.length : Int) (by omega)
  have hr1 := rest14 hE H q0 (s.length : Int) (by omega) (by omega)
  have hmod2 := emod_in qb 4 (by decide)
  have hr2 := fun H => rest14 hE H qb 4 (by decide) (by decide)
  obtain ⟨n, hn0⟩ := Int.eq_ofNat_of_zero_le hmod1.1
  rw [hn0] at hr1
  have hn : n < s.length := by omega
  have hmem : atI s (n : Int) ∈ s := atI_mem (by omega) (by omega)
  have hls0 := r1.len
  have hCb := (hsm _ hmem).C
  have hTb := (hsm _ hmem).T
  have hDb := (hsm _ hmem).D
  have hsn : s ≠ [] := fun e => by rw [e] at hn; simp at hn
  have hml := hp1.le
  have z0 : Int.toNat 0 * 1 = 0 := rfl
  have z1 : Int.toNat 1 * 1 = 1 := rfl
  clear p1 hmod1 hn0 aw0
  generalize hm : qb % 4 = m at *
  (repeat' (first | ((with_reducible refine WG_dec (fun _ => ?_) (fun _ => ?_)) <;> try (exfalso; omega)) | ((with_reducible refine WG_decF (fun _ => ?_) (fun _ => ?_)) <;> try (exfalso; omega)) | ((with_reducible refine WC_dec (fun _ => ?_) (fun _ => ?_)) <;> try (exfalso; omega)) | refine WC_bool (fun _ => ?_) (fun _ => ?_) | refine WG_bool (fun _ => ?_) (fun _ => ?_) | refine WG_boolF (fun _ => ?_) (fun _ => ?_) | simp -dsimp (disch := omega) only [↓run_nil, ↓run_i, ↓op_call, ↓co_seq, ↓co_reg, ↓op_mov, ↓op_ixa, ↓op_lens, ↓op_ld, ↓op_bsl, ↓op_app, WF_eq, W1_some, WX_some, ↓ev_t, ↓ev_c, ↓ev_f, ↓upd_at, ↓get_cons, ↓frm_nil, ↓frm_cons, fillV_nil, load_ptr, ldO_cells, part_none, ixa_some, newCells, bslV, eq_self, List.map_cons, List.map_nil, List.all_nil, List.getElem?_cons_zero, Option.bind_some, Nat.reduceEqDiff, Nat.reduceLeDiff, Nat.reduceMul, Nat.add_zero, ↓reduceIte, reduceCtorEq, List.flatten_nil, List.replicate_zero, *]))
  refine wx_copy (sz := 7) (enc := encT) (c := []) (ro := false) (off := 0) (l := s) (by rw [geta0]; rfl) (Nat.zero_le _) (r1.app _) hsn (fun _ => rfl) (by decide) (by decide) (by omega) fun rx => ?_
  have b1x : (H ++ [LObj.cells [] false])[h.length]? = some (.cells [.int .i64 q0, .int .i64 qb] false) := Pre.app H _ _ _ b1
  have p2 : Pre h (H ++ [LObj.cells [] false]) := hp1.trans (Pre.app H _)
  have rs2 := r1.app [LObj.cells [] false]
  have hH2 : h.length + 1 ≤ (H ++ [LObj.cells [] false]).length := by simp; omega
  generalize H ++ [LObj.cells [] false] = H2 at *
  have hrx := rx.rd
  have b1y : ∀ x, (H2 ++ x)[h.length]? = some (.cells [.int .i64 q0, .int .i64 qb] false) := fun x => Pre.app H2 _ _ _ b1x
  generalize hvx : Value.slice (some ⟨H2.length, 0, some 7⟩) s.length s.length = vx at *
  have Hblk := Hid.mk (show blk vx = H2.length by rw [← hvx]; rfl)
  clear hvx
  (repeat' (first | ((with_reducible refine WG_dec (fun _ => ?_) (fun _ => ?_)) <;> try (exfalso; omega)) | ((with_reducible refine WG_decF (fun _ => ?_) (fun _ => ?_)) <;> try (exfalso; omega)) | ((with_reducible refine WC_dec (fun _ => ?_) (fun _ => ?_)) <;> try (exfalso; omega)) | refine WC_bool (fun _ => ?_) (fun _ => ?_) | refine WG_bool (fun _ => ?_) (fun _ => ?_) | refine WG_boolF (fun _ => ?_) (fun _ => ?_) | simp -dsimp (disch := omega) only [↓run_nil, ↓run_i, ↓run_k, ↓rd_i, ↓rd_k, ↓op_st, ↓op_call, ↓opd_st, ↓co_seq, ↓co_reg, ↓co_drw, ↓co_cond, ↓co_block, ↓op_mov, ↓op_bin, ↓op_fld, ↓op_ixa, ↓op_ixs, ↓op_ld, ↓opd_mov, ↓opd_bin, ↓opd_fld, ↓opd_ixs, ↓opd_max, ↓opd_ld, WF_eq, W1_some, WX_some, ↓ev_t, ↓ev_c, ↓ev_f, ↓upd_at, ↓get_cons, ↓frm_nil, ↓frm_cons, bin_add, bin_sub, bin_eql, cellsV_int, load_ptr, ldO_cells, part_none, store_ptr, fld_ptr, ixa_some, max_1, max_2, room0, wrap_i64, eq_self, List.map_cons, List.map_nil, List.getElem?_cons_zero, List.getElem?_cons_succ, List.getD_cons_zero, List.getD_cons_succ, Nat.reduceEqDiff, Nat.zero_add, ↓reduceIte, decide_true, *, hrx.ixs, hrx.ld, encT]))
  · refine wh_ownT rx (fun b hb => by omega) (easeT m (atI s (n : Int))) (by omega) (by omega) (by decide) rfl (by unfold easeT; rw [if_pos (by omega)]; rfl) fun h5 k1 k2 k3 => ?_
    rw [show ((n : Int)).toNat = n by omega] at k1
    have hnx : ∀ t ∈ s.set n (easeT m (atI s (n : Int))), t.name.size < 1152921504606846976 := fun t ht => by
      rcases List.mem_or_eq_of_mem_set ht with h | rfl
      · exact hnm t h
      · rw [(easeT_ok (hok _ hmem) (hsm _ hmem) m).2.2]; exact hnm _ hmem
    have p5 : Pre h h5 := fun b o hb => by
      have := (List.getElem?_eq_some_iff.1 hb).1
      rw [k3 b (by rw [Hblk.out]; have := p2.le; omega)]; exact Pre.app H2 _ _ _ (p2 b o hb)
    have rs5 : Rd 7 encT h5 vs s := (rs2.app _).keep fun hn => k3 _ (by rw [Hblk.out]; have := Row.lt rs2 (by simpa using hsn); omega)
    have ht5 := ht.pre p5
    have hp5l := p5.le
    have rx5 := k1.rd
    have hxl : (s.set n (easeT m (atI s (n : Int)))).length = s.length := List.length_set ..
    have hlx := rx5.len
    rw [hxl] at hlx
    obtain ⟨ve, he⟩ := ease_valid hv hsm m hn
    have hbd := fun (j : Nat) (hj : j < s.length) => bound_easier hv ve hxl he (i := (j : Int)) ⟨by omega, by omega⟩
    have hisx := valid_isP ve (i := (n : Int)) (by omega) (by rw [hxl]; omega)
    have is5 := fun (x : Heap) => is13 hE (rx5.app x) hnx (n : Int)
    rw [hisx] at is5
    obtain ⟨w1, w2, _⟩ := allR_valid hv
    obtain ⟨w3, w4, _⟩ := allR_valid ve
    rw [hxl] at w3
    have HB := Hid.mk (fun (j : Nat) (hj : j < s.length) => show 0 < atI (allR s) (j : Int) → 0 < atI (allR (s.set n (easeT m (atI s (n : Int))))) (j : Int) ∧ atI (allR (s.set n (easeT m (atI s (n : Int))))) (j : Int) ≤ atI (allR s) (j : Int) by rw [w1, w3, rN_at hj, rN_at hj]; exact hbd j hj)
    have c1 : (allR s).length = s.length := by rw [w1, rN_len]
    have c2 : (allR (s.set n (easeT m (atI s (n : Int))))).length = s.length := by rw [w3, rN_len]
    clear hbd w1 w2 w3 w4 he ve hisx hsm hok hmem hv k3 k1
    generalize s.set n (easeT m (atI s (n : Int))) = x' at *
    have hls := rs5.len
    (repeat' (first | ((with_reducible refine WG_dec (fun _ => ?_) (fun _ => ?_)) <;> try (exfalso; omega)) | ((with_reducible refine WG_decF (fun _ => ?_) (fun _ => ?_)) <;> try (exfalso; omega)) | ((with_reducible refine WC_dec (fun _ => ?_) (fun _ => ?_)) <;> try (exfalso; omega)) | refine WC_bool (fun _ => ?_) (fun _ => ?_) | refine WG_bool (fun _ => ?_) (fun _ => ?_) | refine WG_boolF (fun _ => ?_) (fun _ => ?_) | simp -dsimp (disch := omega) only [↓run_i, ↓rd_nil, ↓op_call, ↓co_seq, ↓co_reg, ↓op_mov, WF_eq, W1_some, ↓ev_t, ↓ev_f, ↓upd_at, ↓get_cons, ↓frm_nil, ↓frm_cons, eq_self, List.map_cons, List.map_nil, Nat.reduceEqDiff, ↓reduceIte, *]))
    refine wx_new (allS_ hE hX hZ ht5 rs5 hnm) fun va ya hra pa => ?_
    obtain ⟨vs1, rfl, he1⟩ := hra
    obtain ⟨a, b, c, rfl, ha, hb, rfl⟩ := each3 he1
    have na := Rd.nt ha
    have nb := Rd.nt hb
    have ht6 := ht5.pre pa
    have rx6 := rx5.pre pa
    have is6 := is5 ya
    have hpal := pa.le
    clear he1
    generalize h5 ++ ya = h6 at *
    (repeat' (first | ((with_reducible refine WG_dec (fun _ => ?_) (fun _ => ?_)) <;> try (exfalso; omega)) | ((with_reducible refine WG_decF (fun _ => ?_) (fun _ => ?_)) <;> try (exfalso; omega)) | ((with_reducible refine WC_dec (fun _ => ?_) (fun _ => ?_)) <;> try (exfalso; omega)) | refine WC_bool (fun _ => ?_) (fun _ => ?_) | refine WG_bool (fun _ => ?_) (fun _ => ?_) | refine WG_boolF (fun _ => ?_) (fun _ => ?_) | simp -dsimp (disch := omega) only [↓run_nil, ↓run_i, ↓op_call, ↓co_seq, ↓co_reg, ↓op_mov, ↓op_ext, WF_eq, W1_some, ↓ev_t, ↓ev_f, ↓upd_at, ↓get_cons, ↓frm_nil, ↓frm_cons, ext_tuple, nt_int, eq_self, List.map_cons, List.map_nil, List.getElem?_cons_zero, List.getElem?_cons_succ, Nat.reduceEqDiff, ↓reduceIte, *]))
    refine wx_new (allS_ hE hX hZ ht6 rx6 hnx) fun va2 ya2 hra2 pa2 => ?_
    obtain ⟨vs2, rfl, he2⟩ := hra2
    obtain ⟨a2, b2, c2', rfl, ha2, hb2, rfl⟩ := each3 he2
    have na2 := Rd.nt ha2
    have nb2 := Rd.nt hb2
    replace ha := ha.pre pa2
    have is7 := is13 hE (rx6.pre pa2) hnx (n : Int)
    have is8 := is13 hE rx6 hnx (n : Int)
    rw [is6] at is8
    have ei := (Prod.mk.inj (Option.some.inj is8)).1
    rw [← ei] at is7
    have hpa2 := pa2.le
    clear he2 is5 is6 is8 ei
    generalize h6 ++ ya2 = h7 at *
    have la : lensV false a = some (.int .i64 s.length) := by rw [ha.len, c1]
    have la2 : lensV false a2 = some (.int .i64 s.length) := by rw [ha2.len, c2]
    have c1a : s.length ≤ (allR s).length := by omega
    have c2a : s.length ≤ (allR x').length := by omega
    clear c1 c2
    generalize allR s = R1 at *
    generalize allR x' = R2 at *
    (repeat' (first | ((with_reducible refine WG_dec (fun _ => ?_) (fun _ => ?_)) <;> try (exfalso; omega)) | ((with_reducible refine WG_decF (fun _ => ?_) (fun _ => ?_)) <;> try (exfalso; omega)) | ((with_reducible refine WC_dec (fun _ => ?_) (fun _ => ?_)) <;> try (exfalso; omega)) | refine WC_bool (fun _ => ?_) (fun _ => ?_) | refine WG_bool (fun _ => ?_) (fun _ => ?_) | refine WG_boolF (fun _ => ?_) (fun _ => ?_) | simp -dsimp (disch := omega) only [↓run_nil, ↓run_i, ↓run_w, ↓co_seq, ↓co_skip, ↓co_reg, ↓co_cond, ↓co_block, ↓co_loop, ↓op_mov, ↓op_pick, ↓op_bin, ↓op_ext, ↓op_lens, WF_eq, W1_some, WC_false, WG_false, ↓ev_t, ↓ev_c, ↓upd_at, ↓get_cons, ↓frm_nil, ↓frm_cons, bin_neq, pick_f, ext_tuple, nt_int, eq_self, List.getElem?_cons_zero, List.getElem?_cons_succ, Nat.reduceEqDiff, ↓reduceIte, decide_false, not_true_eq_false, *]))
    refine WO.loop (fun (j : Nat) fr h' => h' = h7 ∧ j ≤ s.length ∧ get fr 7 = .bool true ∧ get fr 8 = vs ∧ get fr 9 = .int .i64 n ∧ get fr 10 = vx ∧ get fr 11 = a ∧ get fr 14 = a2 ∧ get fr 17 = .int .i64 j) (fun j => s.length - j) ?_ 0 ⟨rfl, Nat.zero_le _, rfl, rfl, rfl, rfl, rfl, rfl, rfl⟩
    rintro j fr h' ⟨rfl, hj, q7, q8, q9, q10, q11, q14, q17⟩
    unfold c_cadencylaw14_RtaEases_l0
    rcases Nat.lt_or_ge j s.length with hlt | hge
    · have hh := HB.out j hlt
      have Hh := Hid.mk hh
      clear hh
      by_cases hpos : 0 < atI R1 (j : Int)
      · obtain ⟨g1, g2⟩ := Hh.out hpos
        (repeat' (first | ((with_reducible refine WG_dec (fun _ => ?_) (fun _ => ?_)) <;> try (exfalso; omega)) | ((with_reducible refine WG_decF (fun _ => ?_) (fun _ => ?_)) <;> try (exfalso; omega)) | ((with_reducible refine WC_dec (fun _ => ?_) (fun _ => ?_)) <;> try (exfalso; omega)) | refine WC_bool (fun _ => ?_) (fun _ => ?_) | refine WG_bool (fun _ => ?_) (fun _ => ?_) | refine WG_boolF (fun _ => ?_) (fun _ => ?_) | simp -dsimp (disch := omega) only [↓run_nil, ↓run_i, ↓rd_nil, ↓rd_i, ↓rd_w, ↓co_seq, ↓co_skip, ↓co_reg, ↓co_drw, ↓co_cond, ↓co_block, ↓op_mov, ↓op_bin, ↓op_lens, ↓opd_mov, ↓opd_pick, ↓opd_bin, ↓opd_ixs, ↓opd_ld, WF_eq, W1_some, WG_true, WG_false, ↓ev_t, ↓ev_c, ↓upd_at, ↓get_cons, ↓frm_nil, ↓frm_cons, bin_add, bin_eql, bin_lss, bin_gtr, pick_t, pick_f, load_ptr, room0, wrap_i64, eq_self, List.getD_cons_zero, Nat.reduceEqDiff, ↓reduceIte, decide_true, decide_false, *, ha.ixs, ha.ld0, ha2.ixs, ha2.ld0, encI]))
        exact Next.mk (j + 1) ⟨rfl, by omega, rfl, rfl, rfl, rfl, rfl, rfl, rfl⟩ (by omega)
      · (repeat' (first | ((with_reducible refine WG_dec (fun _ => ?_) (fun _ => ?_)) <;> try (exfalso; omega)) | ((with_reducible refine WG_decF (fun _ => ?_) (fun _ => ?_)) <;> try (exfalso; omega)) | ((with_reducible refine WC_dec (fun _ => ?_) (fun _ => ?_)) <;> try (exfalso; omega)) | refine WC_bool (fun _ => ?_) (fun _ => ?_) | refine WG_bool (fun _ => ?_) (fun _ => ?_) | refine WG_boolF (fun _ => ?_) (fun _ => ?_) | simp -dsimp (disch := omega) only [↓run_nil, ↓run_i, ↓rd_nil, ↓rd_i, ↓rd_w, ↓co_seq, ↓co_skip, ↓co_reg, ↓co_drw, ↓co_cond, ↓co_block, ↓op_mov, ↓op_bin, ↓op_lens, ↓opd_mov, ↓opd_pick, ↓opd_bin, ↓opd_ixs, ↓opd_ld, WF_eq, W1_some, WC_false, WG_ft, WG_undef, ↓ev_t, ↓ev_c, ↓upd_at, ↓get_cons, ↓frm_nil, ↓frm_cons, bin_add, bin_lss, bin_gtr, pick_f, load_ptr, room0, wrap_i64, eq_self, List.getD_cons_zero, Nat.reduceEqDiff, ↓reduceIte, decide_false, *, ha.ixs, ha.ld0, encI]))
        exact Next.mk (j + 1) ⟨rfl, by omega, rfl, rfl, rfl, rfl, rfl, rfl, rfl⟩ (by omega)
    · have e : j = s.length := by omega
      subst e
      (repeat' (first | ((with_reducible refine WG_dec (fun _ => ?_) (fun _ => ?_)) <;> try (exfalso; omega)) | ((with_reducible refine WG_decF (fun _ => ?_) (fun _ => ?_)) <;> try (exfalso; omega)) | ((with_reducible refine WC_dec (fun _ => ?_) (fun _ => ?_)) <;> try (exfalso; omega)) | refine WC_bool (fun _ => ?_) (fun _ => ?_) | refine WG_bool (fun _ => ?_) (fun _ => ?_) | refine WG_boolF (fun _ => ?_) (fun _ => ?_) | simp -dsimp (disch := omega) only [↓run_nil, ↓run_i, ↓run_w, ↓op_call, ↓co_seq, ↓co_exit, ↓co_ret, ↓co_reg, ↓co_cond, ↓op_mov, ↓op_pick, ↓op_bin, ↓op_lens, Res_ret, resL_nil, resL_t, resV_one, nn4_bool, WF_eq, W1_some, WX_some, WG_true, ↓ev_t, ↓ev_c, ↓ev_f, ↓upd_at, ↓get_cons, ↓frm_nil, ↓frm_cons, bin_lss, pick_t, eq_self, List.map_cons, List.map_nil, true_and, Option.map_some, Nat.reduceEqDiff, ↓reduceIte, decide_false, *]))
  · refine wh_ownT rx (fun b hb => by omega) (easeT m (atI s (n : Int))) (by omega) (by omega) (by decide) rfl (by unfold easeT; rw [if_neg (by omega), if_pos (by omega)]; rfl) fun h5 k1 k2 k3 => ?_
    rw [show ((n : Int)).toNat = n by omega] at k1
    have hnx : ∀ t ∈ s.set n (easeT m (atI s (n : Int))), t.name.size < 1152921504606846976 := fun t ht => by
      rcases List.mem_or_eq_of_mem_set ht with h | rfl
      · exact hnm t h
      · rw [(easeT_ok (hok _ hmem) (hsm _ hmem) m).2.2]; exact hnm _ hmem
    have p5 : Pre h h5 := fun b o hb => by
      have := (List.getElem?_eq_some_iff.1 hb).1
      rw [k3 b (by rw [Hblk.out]; have := p2.le; omega)]; exact Pre.app H2 _ _ _ (p2 b o hb)
    have rs5 : Rd 7 encT h5 vs s := (rs2.app _).keep fun hn => k3 _ (by rw [Hblk.out]; have := Row.lt rs2 (by simpa using hsn); omega)
    have ht5 := ht.pre p5
    have hp5l := p5.le
    have rx5 := k1.rd
    have hxl : (s.set n (easeT m (atI s (n : Int)))).length = s.length := List.length_set ..
    have hlx := rx5.len
    rw [hxl] at hlx
    obtain ⟨ve, he⟩ := ease_valid hv hsm m hn
    have hbd := fun (j : Nat) (hj : j < s.length) => bound_easier hv ve hxl he (i := (j : Int)) ⟨by omega, by omega⟩
    have hisx := valid_isP ve (i := (n : Int)) (by omega) (by rw [hxl]; omega)
    have is5 := fun (x : Heap) => is13 hE (rx5.app x) hnx (n : Int)
    rw [hisx] at is5
    obtain ⟨w1, w2, _⟩ := allR_valid hv
    obtain ⟨w3, w4, _⟩ := allR_valid ve
    rw [hxl] at w3
    have HB := Hid.mk (fun (j : Nat) (hj : j < s.length) => show 0 < atI (allR s) (j : Int) → 0 < atI (allR (s.set n (easeT m (atI s (n : Int))))) (j : Int) ∧ atI (allR (s.set n (easeT m (atI s (n : Int))))) (j : Int) ≤ atI (allR s) (j : Int) by rw [w1, w3, rN_at hj, rN_at hj]; exact hbd j hj)
    have c1 : (allR s).length = s.length := by rw [w1, rN_len]
    have c2 : (allR (s.set n (easeT m (atI s (n : Int))))).length = s.length := by rw [w3, rN_len]
    clear hbd w1 w2 w3 w4 he ve hisx hsm hok hmem hv k3 k1
    generalize s.set n (easeT m (atI s (n : Int))) = x' at *
    have hls := rs5.len
    (repeat' (first | ((with_reducible refine WG_dec (fun _ => ?_) (fun _ => ?_)) <;> try (exfalso; omega)) | ((with_reducible refine WG_decF (fun _ => ?_) (fun _ => ?_)) <;> try (exfalso; omega)) | ((with_reducible refine WC_dec (fun _ => ?_) (fun _ => ?_)) <;> try (exfalso; omega)) | refine WC_bool (fun _ => ?_) (fun _ => ?_) | refine WG_bool (fun _ => ?_) (fun _ => ?_) | refine WG_boolF (fun _ => ?_) (fun _ => ?_) | simp -dsimp (disch := omega) only [↓run_nil, ↓run_i, ↓op_call, ↓co_seq, ↓co_reg, ↓op_mov, WF_eq, W1_some, ↓ev_t, ↓ev_f, ↓upd_at, ↓get_cons, ↓frm_nil, ↓frm_cons, eq_self, List.map_cons, List.map_nil, Nat.reduceEqDiff, ↓reduceIte, *]))
    refine wx_new (allS_ hE hX hZ ht5 rs5 hnm) fun va ya hra pa => ?_
    obtain ⟨vs1, rfl, he1⟩ := hra
    obtain ⟨a, b, c, rfl, ha, hb, rfl⟩ := each3 he1
    have na := Rd.nt ha
    have nb := Rd.nt hb
    have ht6 := ht5.pre pa
    have rx6 := rx5.pre pa
    have is6 := is5 ya
    have hpal := pa.le
    clear he1
    generalize h5 ++ ya = h6 at *
    (repeat' (first | ((with_reducible refine WG_dec (fun _ => ?_) (fun _ => ?_)) <;> try (exfalso; omega)) | ((with_reducible refine WG_decF (fun _ => ?_) (fun _ => ?_)) <;> try (exfalso; omega)) | ((with_reducible refine WC_dec (fun _ => ?_) (fun _ => ?_)) <;> try (exfalso; omega)) | refine WC_bool (fun _ => ?_) (fun _ => ?_) | refine WG_bool (fun _ => ?_) (fun _ => ?_) | refine WG_boolF (fun _ => ?_) (fun _ => ?_) | simp -dsimp (disch := omega) only [↓run_nil, ↓run_i, ↓op_call, ↓co_seq, ↓co_reg, ↓op_mov, ↓op_ext, WF_eq, W1_some, ↓ev_t, ↓ev_f, ↓upd_at, ↓get_cons, ↓frm_nil, ↓frm_cons, ext_tuple, nt_int, eq_self, List.map_cons, List.map_nil, List.getElem?_cons_zero, List.getElem?_cons_succ, Nat.reduceEqDiff, ↓reduceIte, *]))
    refine wx_new (allS_ hE hX hZ ht6 rx6 hnx) fun va2 ya2 hra2 pa2 => ?_
    obtain ⟨vs2, rfl, he2⟩ := hra2
    obtain ⟨a2, b2, c2', rfl, ha2, hb2, rfl⟩ := each3 he2
    have na2 := Rd.nt ha2
    have nb2 := Rd.nt hb2
    replace ha := ha.pre pa2
    have is7 := is13 hE (rx6.pre pa2) hnx (n : Int)
    have is8 := is13 hE rx6 hnx (n : Int)
    rw [is6] at is8
    have ei := (Prod.mk.inj (Option.some.inj is8)).1
    rw [← ei] at is7
    have hpa2 := pa2.le
    clear he2 is5 is6 is8 ei
    generalize h6 ++ ya2 = h7 at *
    have la : lensV false a = some (.int .i64 s.length) := by rw [ha.len, c1]
    have la2 : lensV false a2 = some (.int .i64 s.length) := by rw [ha2.len, c2]
    have c1a : s.length ≤ (allR s).length := by omega
    have c2a : s.length ≤ (allR x').length := by omega
    clear c1 c2
    generalize allR s = R1 at *
    generalize allR x' = R2 at *
    (repeat' (first | ((with_reducible refine WG_dec (fun _ => ?_) (fun _ => ?_)) <;> try (exfalso; omega)) | ((with_reducible refine WG_decF (fun _ => ?_) (fun _ => ?_)) <;> try (exfalso; omega)) | ((with_reducible refine WC_dec (fun _ => ?_) (fun _ => ?_)) <;> try (exfalso; omega)) | refine WC_bool (fun _ => ?_) (fun _ => ?_) | refine WG_bool (fun _ => ?_) (fun _ => ?_) | refine WG_boolF (fun _ => ?_) (fun _ => ?_) | simp -dsimp (disch := omega) only [↓run_nil, ↓run_i, ↓run_w, ↓co_seq, ↓co_skip, ↓co_reg, ↓co_cond, ↓co_block, ↓co_loop, ↓op_mov, ↓op_pick, ↓op_bin, ↓op_ext, ↓op_lens, WF_eq, W1_some, WC_false, WG_false, ↓ev_t, ↓ev_c, ↓upd_at, ↓get_cons, ↓frm_nil, ↓frm_cons, bin_neq, pick_f, ext_tuple, nt_int, eq_self, List.getElem?_cons_zero, List.getElem?_cons_succ, Nat.reduceEqDiff, ↓reduceIte, decide_false, not_true_eq_false, *]))
    refine WO.loop (fun (j : Nat) fr h' => h' = h7 ∧ j ≤ s.length ∧ get fr 7 = .bool true ∧ get fr 8 = vs ∧ get fr 9 = .int .i64 n ∧ get fr 10 = vx ∧ get fr 11 = a ∧ get fr 14 = a2 ∧ get fr 17 = .int .i64 j) (fun j => s.length - j) ?_ 0 ⟨rfl, Nat.zero_le _, rfl, rfl, rfl, rfl, rfl, rfl, rfl⟩
    rintro j fr h' ⟨rfl, hj, q7, q8, q9, q10, q11, q14, q17⟩
    unfold c_cadencylaw14_RtaEases_l0
    rcases Nat.lt_or_ge j s.length with hlt | hge
    · have hh := HB.out j hlt
      have Hh := Hid.mk hh
      clear hh
      by_cases hpos : 0 < atI R1 (j : Int)
      · obtain ⟨g1, g2⟩ := Hh.out hpos
        (repeat' (first | ((with_reducible refine WG_dec (fun _ => ?_) (fun _ => ?_)) <;> try (exfalso; omega)) | ((with_reducible refine WG_decF (fun _ => ?_) (fun _ => ?_)) <;> try (exfalso; omega)) | ((with_reducible refine WC_dec (fun _ => ?_) (fun _ => ?_)) <;> try (exfalso; omega)) | refine WC_bool (fun _ => ?_) (fun _ => ?_) | refine WG_bool (fun _ => ?_) (fun _ => ?_) | refine WG_boolF (fun _ => ?_) (fun _ => ?_) | simp -dsimp (disch := omega) only [↓run_nil, ↓run_i, ↓rd_nil, ↓rd_i, ↓rd_w, ↓co_seq, ↓co_skip, ↓co_reg, ↓co_drw, ↓co_cond, ↓co_block, ↓op_mov, ↓op_bin, ↓op_lens, ↓opd_mov, ↓opd_pick, ↓opd_bin, ↓opd_ixs, ↓opd_ld, WF_eq, W1_some, WG_true, WG_false, ↓ev_t, ↓ev_c, ↓upd_at, ↓get_cons, ↓frm_nil, ↓frm_cons, bin_add, bin_eql, bin_lss, bin_gtr, pick_t, pick_f, load_ptr, room0, wrap_i64, eq_self, List.getD_cons_zero, Nat.reduceEqDiff, ↓reduceIte, decide_true, decide_false, *, ha.ixs, ha.ld0, ha2.ixs, ha2.ld0, encI]))
        exact Next.mk (j + 1) ⟨rfl, by omega, rfl, rfl, rfl, rfl, rfl, rfl, rfl⟩ (by omega)
      · (repeat' (first | ((with_reducible refine WG_dec (fun _ => ?_) (fun _ => ?_)) <;> try (exfalso; omega)) | ((with_reducible refine WG_decF (fun _ => ?_) (fun _ => ?_)) <;> try (exfalso; omega)) | ((with_reducible refine WC_dec (fun _ => ?_) (fun _ => ?_)) <;> try (exfalso; omega)) | refine WC_bool (fun _ => ?_) (fun _ => ?_) | refine WG_bool (fun _ => ?_) (fun _ => ?_) | refine WG_boolF (fun _ => ?_) (fun _ => ?_) | simp -dsimp (disch := omega) only [↓run_nil, ↓run_i, ↓rd_nil, ↓rd_i, ↓rd_w, ↓co_seq, ↓co_skip, ↓co_reg, ↓co_drw, ↓co_cond, ↓co_block, ↓op_mov, ↓op_bin, ↓op_lens, ↓opd_mov, ↓opd_pick, ↓opd_bin, ↓opd_ixs, ↓opd_ld, WF_eq, W1_some, WC_false, WG_ft, WG_undef, ↓ev_t, ↓ev_c, ↓upd_at, ↓get_cons, ↓frm_nil, ↓frm_cons, bin_add, bin_lss, bin_gtr, pick_f, load_ptr, room0, wrap_i64, eq_self, List.getD_cons_zero, Nat.reduceEqDiff, ↓reduceIte, decide_false, *, ha.ixs, ha.ld0, encI]))
        exact Next.mk (j + 1) ⟨rfl, by omega, rfl, rfl, rfl, rfl, rfl, rfl, rfl⟩ (by omega)
    · have e : j = s.length := by omega
      subst e
      (repeat' (first | ((with_reducible refine WG_dec (fun _ => ?_) (fun _ => ?_)) <;> try (exfalso; omega)) | ((with_reducible refine WG_decF (fun _ => ?_) (fun _ => ?_)) <;> try (exfalso; omega)) | ((with_reducible refine WC_dec (fun _ => ?_) (fun _ => ?_)) <;> try (exfalso; omega)) | refine WC_bool (fun _ => ?_) (fun _ => ?_) | refine WG_bool (fun _ => ?_) (fun _ => ?_) | refine WG_boolF (fun _ => ?_) (fun _ => ?_) | simp -dsimp (disch := omega) only [↓run_nil, ↓run_i, ↓run_w, ↓op_call, ↓co_seq, ↓co_exit, ↓co_ret, ↓co_reg, ↓co_cond, ↓op_mov, ↓op_pick, ↓op_bin, ↓op_lens, Res_ret, resL_nil, resL_t, resV_one, nn4_bool, WF_eq, W1_some, WX_some, WG_true, ↓ev_t, ↓ev_c, ↓ev_f, ↓upd_at, ↓get_cons, ↓frm_nil, ↓frm_cons, bin_lss, pick_t, eq_self, List.map_cons, List.map_nil, true_and, Option.map_some, Nat.reduceEqDiff, ↓reduceIte, decide_false, *]))
  · refine wh_ownT rx (fun b hb => by omega) (easeT m (atI s (n : Int))) (by omega) (by omega) (by decide) rfl (by unfold easeT; rw [if_neg (by omega), if_neg (by omega), if_pos (by omega)]; rfl) fun h5 k1 k2 k3 => ?_
    rw [show ((n : Int)).toNat = n by omega] at k1
    have hnx : ∀ t ∈ s.set n (easeT m (atI s (n : Int))), t.name.size < 1152921504606846976 := fun t ht => by
      rcases List.mem_or_eq_of_mem_set ht with h | rfl
      · exact hnm t h
      · rw [(easeT_ok (hok _ hmem) (hsm _ hmem) m).2.2]; exact hnm _ hmem
    have p5 : Pre h h5 := fun b o hb => by
      have := (List.getElem?_eq_some_iff.1 hb).1
      rw [k3 b (by rw [Hblk.out]; have := p2.le; omega)]; exact Pre.app H2 _ _ _ (p2 b o hb)
    have rs5 : Rd 7 encT h5 vs s := (rs2.app _).keep fun hn => k3 _ (by rw [Hblk.out]; have := Row.lt rs2 (by simpa using hsn); omega)
    have ht5 := ht.pre p5
    have hp5l := p5.le
    have rx5 := k1.rd
    have hxl : (s.set n (easeT m (atI s (n : Int)))).length = s.length := List.length_set ..
    have hlx := rx5.len
    rw [hxl] at hlx
    obtain ⟨ve, he⟩ := ease_valid hv hsm m hn
    have hbd := fun (j : Nat) (hj : j < s.length) => bound_easier hv ve hxl he (i := (j : Int)) ⟨by omega, by omega⟩
    have hisx := valid_isP ve (i := (n : Int)) (by omega) (by rw [hxl]; omega)
    have is5 := fun (x : Heap) => is13 hE (rx5.app x) hnx (n : Int)
    rw [hisx] at is5
    obtain ⟨w1, w2, _⟩ := allR_valid hv
    obtain ⟨w3, w4, _⟩ := allR_valid ve
    rw [hxl] at w3
    have HB := Hid.mk (fun (j : Nat) (hj : j < s.length) => show 0 < atI (allR s) (j : Int) → 0 < atI (allR (s.set n (easeT m (atI s (n : Int))))) (j : Int) ∧ atI (allR (s.set n (easeT m (atI s (n : Int))))) (j : Int) ≤ atI (allR s) (j : Int) by rw [w1, w3, rN_at hj, rN_at hj]; exact hbd j hj)
    have c1 : (allR s).length = s.length := by rw [w1, rN_len]
    have c2 : (allR (s.set n (easeT m (atI s (n : Int))))).length = s.length := by rw [w3, rN_len]
    clear hbd w1 w2 w3 w4 he ve hisx hsm hok hmem hv k3 k1
    generalize s.set n (easeT m (atI s (n : Int))) = x' at *
    have hls := rs5.len
    (repeat' (first | ((with_reducible refine WG_dec (fun _ => ?_) (fun _ => ?_)) <;> try (exfalso; omega)) | ((with_reducible refine WG_decF (fun _ => ?_) (fun _ => ?_)) <;> try (exfalso; omega)) | ((with_reducible refine WC_dec (fun _ => ?_) (fun _ => ?_)) <;> try (exfalso; omega)) | refine WC_bool (fun _ => ?_) (fun _ => ?_) | refine WG_bool (fun _ => ?_) (fun _ => ?_) | refine WG_boolF (fun _ => ?_) (fun _ => ?_) | simp -dsimp (disch := omega) only [↓run_nil, ↓run_i, ↓op_call, ↓co_seq, ↓co_reg, ↓op_mov, WF_eq, W1_some, ↓ev_t, ↓ev_f, ↓upd_at, ↓get_cons, ↓frm_nil, ↓frm_cons, eq_self, List.map_cons, List.map_nil, Nat.reduceEqDiff, ↓reduceIte, *]))
    refine wx_new (allS_ hE hX hZ ht5 rs5 hnm) fun va ya hra pa => ?_
    obtain ⟨vs1, rfl, he1⟩ := hra
    obtain ⟨a, b, c, rfl, ha, hb, rfl⟩ := each3 he1
    have na := Rd.nt ha
    have nb := Rd.nt hb
    have ht6 := ht5.pre pa
    have rx6 := rx5.pre pa
    have is6 := is5 ya
    have hpal := pa.le
    clear he1
    generalize h5 ++ ya = h6 at *
    (repeat' (first | ((with_reducible refine WG_dec (fun _ => ?_) (fun _ => ?_)) <;> try (exfalso; omega)) | ((with_reducible refine WG_decF (fun _ => ?_) (fun _ => ?_)) <;> try (exfalso; omega)) | ((with_reducible refine WC_dec (fun _ => ?_) (fun _ => ?_)) <;> try (exfalso; omega)) | refine WC_bool (fun _ => ?_) (fun _ => ?_) | refine WG_bool (fun _ => ?_) (fun _ => ?_) | refine WG_boolF (fun _ => ?_) (fun _ => ?_) | simp -dsimp (disch := omega) only [↓run_nil, ↓run_i, ↓op_call, ↓co_seq, ↓co_reg, ↓op_mov, ↓op_ext, WF_eq, W1_some, ↓ev_t, ↓ev_f, ↓upd_at, ↓get_cons, ↓frm_nil, ↓frm_cons, ext_tuple, nt_int, eq_self, List.map_cons, List.map_nil, List.getElem?_cons_zero, List.getElem?_cons_succ, Nat.reduceEqDiff, ↓reduceIte, *]))
    refine wx_new (allS_ hE hX hZ ht6 rx6 hnx) fun va2 ya2 hra2 pa2 => ?_
    obtain ⟨vs2, rfl, he2⟩ := hra2
    obtain ⟨a2, b2, c2', rfl, ha2, hb2, rfl⟩ := each3 he2
    have na2 := Rd.nt ha2
    have nb2 := Rd.nt hb2
    replace ha := ha.pre pa2
    have is7 := is13 hE (rx6.pre pa2) hnx (n : Int)
    have is8 := is13 hE rx6 hnx (n : Int)
    rw [is6] at is8
    have ei := (Prod.mk.inj (Option.some.inj is8)).1
    rw [← ei] at is7
    have hpa2 := pa2.le
    clear he2 is5 is6 is8 ei
    generalize h6 ++ ya2 = h7 at *
    have la : lensV false a = some (.int .i64 s.length) := by rw [ha.len, c1]
    have la2 : lensV false a2 = some (.int .i64 s.length) := by rw [ha2.len, c2]
    have c1a : s.length ≤ (allR s).length := by omega
    have c2a : s.length ≤ (allR x').length := by omega
    clear c1 c2
    generalize allR s = R1 at *
    generalize allR x' = R2 at *
    (repeat' (first | ((with_reducible refine WG_dec (fun _ => ?_) (fun _ => ?_)) <;> try (exfalso; omega)) | ((with_reducible refine WG_decF (fun _ => ?_) (fun _ => ?_)) <;> try (exfalso; omega)) | ((with_reducible refine WC_dec (fun _ => ?_) (fun _ => ?_)) <;> try (exfalso; omega)) | refine WC_bool (fun _ => ?_) (fun _ => ?_) | refine WG_bool (fun _ => ?_) (fun _ => ?_) | refine WG_boolF (fun _ => ?_) (fun _ => ?_) | simp -dsimp (disch := omega) only [↓run_nil, ↓run_i, ↓run_w, ↓co_seq, ↓co_skip, ↓co_reg, ↓co_cond, ↓co_block, ↓co_loop, ↓op_mov, ↓op_pick, ↓op_bin, ↓op_ext, ↓op_lens, WF_eq, W1_some, WC_false, WG_false, ↓ev_t, ↓ev_c, ↓upd_at, ↓get_cons, ↓frm_nil, ↓frm_cons, bin_neq, pick_f, ext_tuple, nt_int, eq_self, List.getElem?_cons_zero, List.getElem?_cons_succ, Nat.reduceEqDiff, ↓reduceIte, decide_false, not_true_eq_false, *]))
    refine WO.loop (fun (j : Nat) fr h' => h' = h7 ∧ j ≤ s.length ∧ get fr 7 = .bool true ∧ get fr 8 = vs ∧ get fr 9 = .int .i64 n ∧ get fr 10 = vx ∧ get fr 11 = a ∧ get fr 14 = a2 ∧ get fr 17 = .int .i64 j) (fun j => s.length - j) ?_ 0 ⟨rfl, Nat.zero_le _, rfl, rfl, rfl, rfl, rfl, rfl, rfl⟩
    rintro j fr h' ⟨rfl, hj, q7, q8, q9, q10, q11, q14, q17⟩
    unfold c_cadencylaw14_RtaEases_l0
    rcases Nat.lt_or_ge j s.length with hlt | hge
    · have hh := HB.out j hlt
      have Hh := Hid.mk hh
      clear hh
      by_cases hpos : 0 < atI R1 (j : Int)
      · obtain ⟨g1, g2⟩ := Hh.out hpos
        (repeat' (first | ((with_reducible refine WG_dec (fun _ => ?_) (fun _ => ?_)) <;> try (exfalso; omega)) | ((with_reducible refine WG_decF (fun _ => ?_) (fun _ => ?_)) <;> try (exfalso; omega)) | ((with_reducible refine WC_dec (fun _ => ?_) (fun _ => ?_)) <;> try (exfalso; omega)) | refine WC_bool (fun _ => ?_) (fun _ => ?_) | refine WG_bool (fun _ => ?_) (fun _ => ?_) | refine WG_boolF (fun _ => ?_) (fun _ => ?_) | simp -dsimp (disch := omega) only [↓run_nil, ↓run_i, ↓rd_nil, ↓rd_i, ↓rd_w, ↓co_seq, ↓co_skip, ↓co_reg, ↓co_drw, ↓co_cond, ↓co_block, ↓op_mov, ↓op_bin, ↓op_lens, ↓opd_mov, ↓opd_pick, ↓opd_bin, ↓opd_ixs, ↓opd_ld, WF_eq, W1_some, WG_true, WG_false, ↓ev_t, ↓ev_c, ↓upd_at, ↓get_cons, ↓frm_nil, ↓frm_cons, bin_add, bin_eql, bin_lss, bin_gtr, pick_t, pick_f, load_ptr, room0, wrap_i64, eq_self, List.getD_cons_zero, Nat.reduceEqDiff, ↓reduceIte, decide_true, decide_false, *, ha.ixs, ha.ld0, ha2.ixs, ha2.ld0, encI]))
        exact Next.mk (j + 1) ⟨rfl, by omega, rfl, rfl, rfl, rfl, rfl, rfl, rfl⟩ (by omega)
      · (repeat' (first | ((with_reducible refine WG_dec (fun _ => ?_) (fun _ => ?_)) <;> try (exfalso; omega)) | ((with_reducible refine WG_decF (fun _ => ?_) (fun _ => ?_)) <;> try (exfalso; omega)) | ((with_reducible refine WC_dec (fun _ => ?_) (fun _ => ?_)) <;> try (exfalso; omega)) | refine WC_bool (fun _ => ?_) (fun _ => ?_) | refine WG_bool (fun _ => ?_) (fun _ => ?_) | refine WG_boolF (fun _ => ?_) (fun _ => ?_) | simp -dsimp (disch := omega) only [↓run_nil, ↓run_i, ↓rd_nil, ↓rd_i, ↓rd_w, ↓co_seq, ↓co_skip, ↓co_reg, ↓co_drw, ↓co_cond, ↓co_block, ↓op_mov, ↓op_bin, ↓op_lens, ↓opd_mov, ↓opd_pick, ↓opd_bin, ↓opd_ixs, ↓opd_ld, WF_eq, W1_some, WC_false, WG_ft, WG_undef, ↓ev_t, ↓ev_c, ↓upd_at, ↓get_cons, ↓frm_nil, ↓frm_cons, bin_add, bin_lss, bin_gtr, pick_f, load_ptr, room0, wrap_i64, eq_self, List.getD_cons_zero, Nat.reduceEqDiff, ↓reduceIte, decide_false, *, ha.ixs, ha.ld0, encI]))
        exact Next.mk (j + 1) ⟨rfl, by omega, rfl, rfl, rfl, rfl, rfl, rfl, rfl⟩ (by omega)
    · have e : j = s.length := by omega
      subst e
      (repeat' (first | ((with_reducible refine WG_dec (fun _ => ?_) (fun _ => ?_)) <;> try (exfalso; omega)) | ((with_reducible refine WG_decF (fun _ => ?_) (fun _ => ?_)) <;> try (exfalso; omega)) | ((with_reducible refine WC_dec (fun _ => ?_) (fun _ => ?_)) <;> try (exfalso; omega)) | refine WC_bool (fun _ => ?_) (fun _ => ?_) | refine WG_bool (fun _ => ?_) (fun _ => ?_) | refine WG_boolF (fun _ => ?_) (fun _ => ?_) | simp -dsimp (disch := omega) only [↓run_nil, ↓run_i, ↓run_w, ↓op_call, ↓co_seq, ↓co_exit, ↓co_ret, ↓co_reg, ↓co_cond, ↓op_mov, ↓op_pick, ↓op_bin, ↓op_lens, Res_ret, resL_nil, resL_t, resV_one, nn4_bool, WF_eq, W1_some, WX_some, WG_true, ↓ev_t, ↓ev_c, ↓ev_f, ↓upd_at, ↓get_cons, ↓frm_nil, ↓frm_cons, bin_lss, pick_t, eq_self, List.map_cons, List.map_nil, true_and, Option.map_some, Nat.reduceEqDiff, ↓reduceIte, decide_false, *]))
  · refine wh_ownT rx (fun b hb => by omega) (easeT m (atI s (n : Int))) (by omega) (by omega) (by decide) rfl (by unfold easeT; rw [if_neg (by omega), if_neg (by omega), if_neg (by omega)]; rfl) fun h5 k1 k2 k3 => ?_
    rw [show ((n : Int)).toNat = n by omega] at k1
    have hnx : ∀ t ∈ s.set n (easeT m (atI s (n : Int))), t.name.size < 1152921504606846976 := fun t ht => by
      rcases List.mem_or_eq_of_mem_set ht with h | rfl
      · exact hnm t h
      · rw [(easeT_ok (hok _ hmem) (hsm _ hmem) m).2.2]; exact hnm _ hmem
    have p5 : Pre h h5 := fun b o hb => by
      have := (List.getElem?_eq_some_iff.1 hb).1
      rw [k3 b (by rw [Hblk.out]; have := p2.le; omega)]; exact Pre.app H2 _ _ _ (p2 b o hb)
    have rs5 : Rd 7 encT h5 vs s := (rs2.app _).keep fun hn => k3 _ (by rw [Hblk.out]; have := Row.lt rs2 (by simpa using hsn); omega)
    have ht5 := ht.pre p5
    have hp5l := p5.le
    have rx5 := k1.rd
    have hxl : (s.set n (easeT m (atI s (n : Int)))).length = s.length := List.length_set ..
    have hlx := rx5.len
    rw [hxl] at hlx
    obtain ⟨ve, he⟩ := ease_valid hv hsm m hn
    have hbd := fun (j : Nat) (hj : j < s.length) => bound_easier hv ve hxl he (i := (j : Int)) ⟨by omega, by omega⟩
    have hisx := valid_isP ve (i := (n : Int)) (by omega) (by rw [hxl]; omega)
    have is5 := fun (x : Heap) => is13 hE (rx5.app x) hnx (n : Int)
    rw [hisx] at is5
    obtain ⟨w1, w2, _⟩ := allR_valid hv
    obtain ⟨w3, w4, _⟩ := allR_valid ve
    rw [hxl] at w3
    have HB := Hid.mk (fun (j : Nat) (hj : j < s.length) => show 0 < atI (allR s) (j : Int) → 0 < atI (allR (s.set n (easeT m (atI s (n : Int))))) (j : Int) ∧ atI (allR (s.set n (easeT m (atI s (n : Int))))) (j : Int) ≤ atI (allR s) (j : Int) by rw [w1, w3, rN_at hj, rN_at hj]; exact hbd j hj)
    have c1 : (allR s).length = s.length := by rw [w1, rN_len]
    have c2 : (allR (s.set n (easeT m (atI s (n : Int))))).length = s.length := by rw [w3, rN_len]
    clear hbd w1 w2 w3 w4 he ve hisx hsm hok hmem hv k3 k1
    generalize s.set n (easeT m (atI s (n : Int))) = x' at *
    have hls := rs5.len
    (repeat' (first | ((with_reducible refine WG_dec (fun _ => ?_) (fun _ => ?_)) <;> try (exfalso; omega)) | ((with_reducible refine WG_decF (fun _ => ?_) (fun _ => ?_)) <;> try (exfalso; omega)) | ((with_reducible refine WC_dec (fun _ => ?_) (fun _ => ?_)) <;> try (exfalso; omega)) | refine WC_bool (fun _ => ?_) (fun _ => ?_) | refine WG_bool (fun _ => ?_) (fun _ => ?_) | refine WG_boolF (fun _ => ?_) (fun _ => ?_) | simp -dsimp (disch := omega) only [↓run_nil, ↓run_i, ↓op_call, ↓co_seq, ↓co_reg, ↓op_mov, WF_eq, W1_some, ↓ev_t, ↓ev_f, ↓upd_at, ↓get_cons, ↓frm_nil, ↓frm_cons, eq_self, List.map_cons, List.map_nil, Nat.reduceEqDiff, ↓reduceIte, *]))
    refine wx_new (allS_ hE hX hZ ht5 rs5 hnm) fun va ya hra pa => ?_
    obtain ⟨vs1, rfl, he1⟩ := hra
    obtain ⟨a, b, c, rfl, ha, hb, rfl⟩ := each3 he1
    have na := Rd.nt ha
    have nb := Rd.nt hb
    have ht6 := ht5.pre pa
    have rx6 := rx5.pre pa
    have is6 := is5 ya
    have hpal := pa.le
    clear he1
    generalize h5 ++ ya = h6 at *
    (repeat' (first | ((with_reducible refine WG_dec (fun _ => ?_) (fun _ => ?_)) <;> try (exfalso; omega)) | ((with_reducible refine WG_decF (fun _ => ?_) (fun _ => ?_)) <;> try (exfalso; omega)) | ((with_reducible refine WC_dec (fun _ => ?_) (fun _ => ?_)) <;> try (exfalso; omega)) | refine WC_bool (fun _ => ?_) (fun _ => ?_) | refine WG_bool (fun _ => ?_) (fun _ => ?_) | refine WG_boolF (fun _ => ?_) (fun _ => ?_) | simp -dsimp (disch := omega) only [↓run_nil, ↓run_i, ↓op_call, ↓co_seq, ↓co_reg, ↓op_mov, ↓op_ext, WF_eq, W1_some, ↓ev_t, ↓ev_f, ↓upd_at, ↓get_cons, ↓frm_nil, ↓frm_cons, ext_tuple, nt_int, eq_self, List.map_cons, List.map_nil, List.getElem?_cons_zero, List.getElem?_cons_succ, Nat.reduceEqDiff, ↓reduceIte, *]))
    refine wx_new (allS_ hE hX hZ ht6 rx6 hnx) fun va2 ya2 hra2 pa2 => ?_
    obtain ⟨vs2, rfl, he2⟩ := hra2
    obtain ⟨a2, b2, c2', rfl, ha2, hb2, rfl⟩ := each3 he2
    have na2 := Rd.nt ha2
    have nb2 := Rd.nt hb2
    replace ha := ha.pre pa2
    have is7 := is13 hE (rx6.pre pa2) hnx (n : Int)
    have is8 := is13 hE rx6 hnx (n : Int)
    rw [is6] at is8
    have ei := (Prod.mk.inj (Option.some.inj is8)).1
    rw [← ei] at is7
    have hpa2 := pa2.le
    clear he2 is5 is6 is8 ei
    generalize h6 ++ ya2 = h7 at *
    have la : lensV false a = some (.int .i64 s.length) := by rw [ha.len, c1]
    have la2 : lensV false a2 = some (.int .i64 s.length) := by rw [ha2.len, c2]
    have c1a : s.length ≤ (allR s).length := by omega
    have c2a : s.length ≤ (allR x').length := by omega
    clear c1 c2
    generalize allR s = R1 at *
    generalize allR x' = R2 at *
    (repeat' (first | ((with_reducible refine WG_dec (fun _ => ?_) (fun _ => ?_)) <;> try (exfalso; omega)) | ((with_reducible refine WG_decF (fun _ => ?_) (fun _ => ?_)) <;> try (exfalso; omega)) | ((with_reducible refine WC_dec (fun _ => ?_) (fun _ => ?_)) <;> try (exfalso; omega)) | refine WC_bool (fun _ => ?_) (fun _ => ?_) | refine WG_bool (fun _ => ?_) (fun _ => ?_) | refine WG_boolF (fun _ => ?_) (fun _ => ?_) | simp -dsimp (disch := omega) only [↓run_nil, ↓run_i, ↓run_w, ↓co_seq, ↓co_skip, ↓co_reg, ↓co_cond, ↓co_block, ↓co_loop, ↓op_mov, ↓op_pick, ↓op_bin, ↓op_ext, ↓op_lens, WF_eq, W1_some, WC_false, WG_false, ↓ev_t, ↓ev_c, ↓upd_at, ↓get_cons, ↓frm_nil, ↓frm_cons, bin_neq, pick_f, ext_tuple, nt_int, eq_self, List.getElem?_cons_zero, List.getElem?_cons_succ, Nat.reduceEqDiff, ↓reduceIte, decide_false, not_true_eq_false, *]))
    refine WO.loop (fun (j : Nat) fr h' => h' = h7 ∧ j ≤ s.length ∧ get fr 7 = .bool true ∧ get fr 8 = vs ∧ get fr 9 = .int .i64 n ∧ get fr 10 = vx ∧ get fr 11 = a ∧ get fr 14 = a2 ∧ get fr 17 = .int .i64 j) (fun j => s.length - j) ?_ 0 ⟨rfl, Nat.zero_le _, rfl, rfl, rfl, rfl, rfl, rfl, rfl⟩
    rintro j fr h' ⟨rfl, hj, q7, q8, q9, q10, q11, q14, q17⟩
    unfold c_cadencylaw14_RtaEases_l0
    rcases Nat.lt_or_ge j s.length with hlt | hge
    · have hh := HB.out j hlt
      have Hh := Hid.mk hh
      clear hh
      by_cases hpos : 0 < atI R1 (j : Int)
      · obtain ⟨g1, g2⟩ := Hh.out hpos
        (repeat' (first | ((with_reducible refine WG_dec (fun _ => ?_) (fun _ => ?_)) <;> try (exfalso; omega)) | ((with_reducible refine WG_decF (fun _ => ?_) (fun _ => ?_)) <;> try (exfalso; omega)) | ((with_reducible refine WC_dec (fun _ => ?_) (fun _ => ?_)) <;> try (exfalso; omega)) | refine WC_bool (fun _ => ?_) (fun _ => ?_) | refine WG_bool (fun _ => ?_) (fun _ => ?_) | refine WG_boolF (fun _ => ?_) (fun _ => ?_) | simp -dsimp (disch := omega) only [↓run_nil, ↓run_i, ↓rd_nil, ↓rd_i, ↓rd_w, ↓co_seq, ↓co_skip, ↓co_reg, ↓co_drw, ↓co_cond, ↓co_block, ↓op_mov, ↓op_bin, ↓op_lens, ↓opd_mov, ↓opd_pick, ↓opd_bin, ↓opd_ixs, ↓opd_ld, WF_eq, W1_some, WG_true, WG_false, ↓ev_t, ↓ev_c, ↓upd_at, ↓get_cons, ↓frm_nil, ↓frm_cons, bin_add, bin_eql, bin_lss, bin_gtr, pick_t, pick_f, load_ptr, room0, wrap_i64, eq_self, List.getD_cons_zero, Nat.reduceEqDiff, ↓reduceIte, decide_true, decide_false, *, ha.ixs, ha.ld0, ha2.ixs, ha2.ld0, encI]))
        exact Next.mk (j + 1) ⟨rfl, by omega, rfl, rfl, rfl, rfl, rfl, rfl, rfl⟩ (by omega)
      · (repeat' (first | ((with_reducible refine WG_dec (fun _ => ?_) (fun _ => ?_)) <;> try (exfalso; omega)) | ((with_reducible refine WG_decF (fun _ => ?_) (fun _ => ?_)) <;> try (exfalso; omega)) | ((with_reducible refine WC_dec (fun _ => ?_) (fun _ => ?_)) <;> try (exfalso; omega)) | refine WC_bool (fun _ => ?_) (fun _ => ?_) | refine WG_bool (fun _ => ?_) (fun _ => ?_) | refine WG_boolF (fun _ => ?_) (fun _ => ?_) | simp -dsimp (disch := omega) only [↓run_nil, ↓run_i, ↓rd_nil, ↓rd_i, ↓rd_w, ↓co_seq, ↓co_skip, ↓co_reg, ↓co_drw, ↓co_cond, ↓co_block, ↓op_mov, ↓op_bin, ↓op_lens, ↓opd_mov, ↓opd_pick, ↓opd_bin, ↓opd_ixs, ↓opd_ld, WF_eq, W1_some, WC_false, WG_ft, WG_undef, ↓ev_t, ↓ev_c, ↓upd_at, ↓get_cons, ↓frm_nil, ↓frm_cons, bin_add, bin_lss, bin_gtr, pick_f, load_ptr, room0, wrap_i64, eq_self, List.getD_cons_zero, Nat.reduceEqDiff, ↓reduceIte, decide_false, *, ha.ixs, ha.ld0, encI]))
        exact Next.mk (j + 1) ⟨rfl, by omega, rfl, rfl, rfl, rfl, rfl, rfl, rfl⟩ (by omega)
    · have e : j = s.length := by omega
      subst e
      (repeat' (first | ((with_reducible refine WG_dec (fun _ => ?_) (fun _ => ?_)) <;> try (exfalso; omega)) | ((with_reducible refine WG_decF (fun _ => ?_) (fun _ => ?_)) <;> try (exfalso; omega)) | ((with_reducible refine WC_dec (fun _ => ?_) (fun _ => ?_)) <;> try (exfalso; omega)) | refine WC_bool (fun _ => ?_) (fun _ => ?_) | refine WG_bool (fun _ => ?_) (fun _ => ?_) | refine WG_boolF (fun _ => ?_) (fun _ => ?_) | simp -dsimp (disch := omega) only [↓run_nil, ↓run_i, ↓run_w, ↓op_call, ↓co_seq, ↓co_exit, ↓co_ret, ↓co_reg, ↓co_cond, ↓op_mov, ↓op_pick, ↓op_bin, ↓op_lens, Res_ret, resL_nil, resL_t, resV_one, nn4_bool, WF_eq, W1_some, WX_some, WG_true, ↓ev_t, ↓ev_c, ↓ev_f, ↓upd_at, ↓get_cons, ↓frm_nil, ↓frm_cons, bin_lss, pick_t, eq_self, List.map_cons, List.map_nil, true_and, Option.map_some, Nat.reduceEqDiff, ↓reduceIte, decide_false, *]))
end Go.L.Try
