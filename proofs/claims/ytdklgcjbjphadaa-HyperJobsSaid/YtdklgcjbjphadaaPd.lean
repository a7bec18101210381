/- A SET WHOSE TICKS GO INTO 24: cadencylaw17.set. -/
import Derived.Test.YtdklgcjbjphadaaPc
import Derived.Test.YtdklgcjbjphadaaPb
set_option linter.unusedVariables false
set_option linter.unusedSimpArgs false
set_option maxRecDepth 100000
set_option maxHeartbeats 4000000
namespace Go.L.Try
open Go Go.L
variable {E : Env}
def c17 (turn : Int) (i : Nat) : Int := if IntKind.i64.wrap (turn + i) % 4 = 0 then 4 else if IntKind.i64.wrap (turn + i) % 4 = 1 then 6 else if IntKind.i64.wrap (turn + i) % 4 = 2 then 8 else 12
theorem ix17 (turn : Int) (n : Nat) : ixvV 4 1 none (.agg #[.int .i64 4, .int .i64 6, .int .i64 8, .int .i64 12]) (.int .i64 (IntKind.i64.wrap (turn + n) % 4)) = some (.int .i64 (c17 turn n)) := by
  have hb := emod_in (IntKind.i64.wrap (turn + n)) 4 (by decide)
  unfold c17
  generalize IntKind.i64.wrap (turn + n) % 4 = r at *
  have h : r = 0 ∨ r = 1 ∨ r = 2 ∨ r = 3 := by omega
  rcases h with rfl | rfl | rfl | rfl <;> rfl
theorem c17_in (turn : Int) (n : Nat) : c17 turn n = 4 ∨ c17 turn n = 6 ∨ c17 turn n = 8 ∨ c17 turn n = 12 := by
  unfold c17
  split
  · exact .inl rfl
  · split
    · exact .inr (.inl rfl)
    · split
      · exact .inr (.inr (.inl rfl))
      · exact .inr (.inr (.inr rfl))
def mk17 (turn : Int) (plain : Bool) (i : Nat) (t : Task) : Task := { t with T := if t.D ≤ c17 turn i then c17 turn i else 24, J := if plain = true then 0 else t.J, Q := if plain = true then 1 else t.Q }
def set17s (turn : Int) (plain : Bool) (k : Nat) (L : List Task) : List Task := L.mapIdx fun i t => if i < k then mk17 turn plain i t else t
theorem set17s_zero (turn : Int) (plain : Bool) (L : List Task) : set17s turn plain 0 L = L := by unfold set17s; apply List.ext_getElem <;> simp
theorem set17s_len (turn : Int) (plain : Bool) (k : Nat) (L : List Task) : (set17s turn plain k L).length = L.length := by simp [set17s]
theorem set17s_at (turn : Int) (plain : Bool) (k : Nat) (L : List Task) (hk : k < L.length) : atI (set17s turn plain k L) (k : Int) = atI L (k : Int) := by
  rw [atI_nat (by rw [set17s_len]; exact hk), atI_nat hk]
  simp [set17s]
theorem set17s_succ (turn : Int) (plain : Bool) (k : Nat) (L : List Task) (hk : k < L.length) : set17s turn plain (k + 1) L = (set17s turn plain k L).set k (mk17 turn plain k (atI L (k : Int))) := by
  rw [atI_nat hk]
  apply List.ext_getElem
  · simp [set17s]
  · intro i h1 h2
    simp only [set17s, List.getElem_mapIdx, List.getElem_set]
    by_cases e : k = i
    · subst e; simp
    · rw [if_neg e]
      by_cases hlt : i < k
      · rw [if_pos (by omega), if_pos hlt]
      · rw [if_neg (by omega), if_neg hlt]
def set17 (l : List Spec) (turn : Int) (plain : Bool) : List Task := set17s turn plain (setP l 4 turn).length (setP l 4 turn)
theorem at_set17 {α : Type} [Inhabited α] {S : List α} {n : Nat} (a : α) (h : n < S.length) : atI (S.set n a) (n : Int) = a := by
  rw [atI_nat (by rw [List.length_set]; exact h), List.getElem_set_self]
theorem pre17 {h h' h2 : Heap} {v : Value} {S : List Task} (hp : Pre h h') (ho : RdO h.length 7 encT h' v S) (hn : S ≠ []) (hk : ∀ b, b ≠ blk v → h2[b]? = h'[b]?) : Pre h h2 := fun b o hb => by
  have := ho.ge hn
  have := (List.getElem?_eq_some_iff.1 hb).1
  rw [hk b (by omega)]; exact hp b o hb
theorem rest17' (hE : Laid E) (h : Heap) (x n : Int) (hn : 0 < n) (hn' : n < 4611686018427387904) : callW E (.func (.func n_cadencylaw17_rest) #[] #[]) [.int .i64 x, .int .i64 n] h = some (.int .i64 (x % n), h, []) := by
  have hb := tmod_bounds x n hn
  refine fn_same hE.cadencylaw17_rest rfl (by simp) ?_
  simp -dsimp (disch := omega) only [↓run_nil, ↓run_i, ↓co_seq, ↓co_ret, ↓co_reg, ↓op_mov, ↓op_bin, Res_ret, resL_nil, resL_t, resV_one, nn4_int, WF_eq, W1_some, ↓ev_t, ↓ev_c, ↓upd_at, ↓get_cons, ↓frm_nil, ↓frm_cons, bin_add, wrap_i64, bin_rem, eq_self, true_and, Option.map_some, Nat.reduceEqDiff, Nat.zero_add, ↓reduceIte, reduceCtorEq, argsF, rest_eq x n hn]
theorem set_at17 (hE : Laid E) {h : Heap} {vl : Value} {l : List Spec} (hl : Rd 5 encSp h vl l) {turn : Int} (ht : i64in turn) (plain : Bool) :
    ∃ v ys, callW E (.func (.func n_cadencylaw17_set) #[] #[]) [vl, .int .i64 turn, .bool plain] h = some (v, h ++ ys, []) ∧ RdO h.length 7 encT (h ++ ys) v (set17 l turn plain) := by
  refine fn_new hE.cadencylaw17_set rfl (RdO.movable flatT _) (by simp) ?_
  simp only [argsF]
  (repeat' (first | ((with_reducible refine WG_dec (fun _ => ?_) (fun _ => ?_)) <;> try (exfalso; omega)) | ((with_reducible refine WG_decF (fun _ => ?_) (fun _ => ?_)) <;> try (exfalso; omega)) | ((with_reducible refine WC_dec (fun _ => ?_) (fun _ => ?_)) <;> try (exfalso; omega)) | refine WC_bool (fun _ => ?_) (fun _ => ?_) | refine WG_bool (fun _ => ?_) (fun _ => ?_) | refine WG_boolF (fun _ => ?_) (fun _ => ?_) | simp -dsimp (disch := omega) only [↓run_nil, ↓run_i, ↓op_call, ↓co_seq, ↓co_reg, ↓op_mov, WF_eq, W1_some, ↓ev_t, ↓ev_c, ↓ev_f, ↓upd_at, ↓get_cons, ↓frm_nil, ↓frm_cons, eq_self, List.map_cons, List.map_nil, Nat.reduceEqDiff, Nat.reduceAdd, Nat.zero_add, ↓reduceIte, reduceCtorEq, *]))
  refine wx_new (set04O hE hl (most := 4) (by decide) (by decide) ht) fun v1 ys r1 p1 => ?_
  have hlen := setP_len l (most := 4) (turn := turn) (by decide)
  have hml := p1.le
  unfold set17
  generalize setP l 4 turn = L at *
  generalize _ ++ ys = H1 at r1 p1 hml ⊢
  have o1 := r1.rd.one
  have c1 := r1.rd.cv
  have HP := Hid.mk p1
  clear p1
  (repeat' (first | ((with_reducible refine WG_dec (fun _ => ?_) (fun _ => ?_)) <;> try (exfalso; omega)) | ((with_reducible refine WG_decF (fun _ => ?_) (fun _ => ?_)) <;> try (exfalso; omega)) | ((with_reducible refine WC_dec (fun _ => ?_) (fun _ => ?_)) <;> try (exfalso; omega)) | refine WC_bool (fun _ => ?_) (fun _ => ?_) | refine WG_bool (fun _ => ?_) (fun _ => ?_) | refine WG_boolF (fun _ => ?_) (fun _ => ?_) | simp -dsimp (disch := omega) only [↓run_nil, ↓run_i, ↓co_seq, ↓co_reg, ↓co_block, ↓co_loop, ↓op_mov, WF_eq, W1_some, ↓ev_t, ↓ev_c, ↓upd_at, ↓get_cons, ↓frm_nil, ↓frm_cons, eq_self, Nat.reduceEqDiff, ↓reduceIte, reduceCtorEq, *]))
  refine WO.loop (fun (n : Nat) fr h' => Pre h h' ∧ n ≤ L.length ∧ get fr 1 = .int .i64 turn ∧ get fr 2 = .bool plain ∧ get fr 7 = v1 ∧ get fr 8 = .int .i64 n ∧ RdO h.length 7 encT h' v1 (set17s turn plain n L)) (fun n => L.length - n) ?_ 0 ⟨HP.out, Nat.zero_le _, rfl, rfl, rfl, rfl, by rw [set17s_zero]; exact r1⟩
  rintro n fr h' ⟨hp, hn, g1, g2, g7, g8, ho⟩
  have hrd := ho.rd
  have few := hrd.few
  have ln := set17s_len turn plain n L
  unfold c_cadencylaw17_set_l0
  rcases Nat.lt_or_ge n L.length with hlt | hge
  · have hb := emod_in (IntKind.i64.wrap (turn + n)) 4 (by decide)
    have hrest := rest17' hE
    have hat := set17s_at turn plain n L hlt
    have hsucc := set17s_succ turn plain n L hlt
    have hix := ix17 turn n
    unfold mk17 at hsucc
    have hc := c17_in turn n
    generalize c17 turn n = c at *
    have Hsucc := Hid.mk hsucc
    have Hc := Hid.mk hc
    clear hsucc hc
    have hW : ∀ b, h.length ≤ b → h.length ≤ b := fun _ h => h
    generalize hS : set17s turn plain n L = S at *
    have hn0 : (0 : Int) ≤ n := by omega
    have hn1 : (n : Int) < S.length := by omega
    rw [← hat] at Hsucc
    have hSn : 0 < S.length := by omega
    have hne : S ≠ [] := List.length_pos_iff.1 hSn
    have hne2 : ∀ {a : Task}, S.set n a ≠ [] := fun {a} => List.length_pos_iff.1 (by rw [List.length_set]; exact hSn)
    have hne3 := @hne2
    clear hat
    (repeat' (first | ((with_reducible refine WG_dec (fun _ => ?_) (fun _ => ?_)) <;> try (exfalso; omega)) | ((with_reducible refine WG_decF (fun _ => ?_) (fun _ => ?_)) <;> try (exfalso; omega)) | ((with_reducible refine WC_dec (fun _ => ?_) (fun _ => ?_)) <;> try (exfalso; omega)) | refine WC_bool (fun _ => ?_) (fun _ => ?_) | refine WG_bool (fun _ => ?_) (fun _ => ?_) | refine WG_boolF (fun _ => ?_) (fun _ => ?_) | simp -dsimp (disch := omega) only [↓run_nil, ↓run_i, ↓run_k, ↓op_st, ↓op_call, ↓co_seq, ↓co_skip, ↓co_reg, ↓co_cond, ↓co_block, ↓op_mov, ↓op_bin, ↓op_bld, ↓op_fld, ↓op_ixs, ↓op_ixv, ↓op_lens, ↓op_ld, WF_eq, W1_some, WX_some, ↓ev_t, ↓ev_c, ↓ev_f, ↓upd_at, ↓get_cons, ↓frm_nil, ↓frm_cons, bin_add, bin_lss, bin_leq, cellsV_int, one_int, fillV_nil, fillV_cons, setCells_nil, setCells_cons, load_ptr, store_ptr, fld_ptr, eq_self, List.map_cons, List.map_nil, List.length_cons, List.length_nil, List.all_cons, List.all_nil, Bool.and_self, and_self, List.getD_cons_zero, List.getD_cons_succ, List.set_cons_zero, List.set_cons_succ, Option.map_some, Nat.reduceEqDiff, Nat.reduceAdd, Nat.reduceLeDiff, Nat.zero_add, ↓reduceIte, decide_true, Nat.le_refl, *, hrd.len, hrd.ixs, hrd.ld, encT]))
    · have Hx := Hid.mk (show (atI S (n : Int)).D ≤ c by omega)
      refine wh_rdO ho hW (i := (n : Int)) (fo := 2) { atI S (n : Int) with T := c } hn0 hn1 (by decide) rfl rfl fun h2 k1 k2 kk => ?_
      have p2 := pre17 hp ho hne kk
      rw [Int.toNat_natCast] at k1
      have hrd2 := k1.rd
      have hl2 : (S.set n { atI S (n : Int) with T := c }).length = S.length := List.length_set ..
      clear kk
      cases plain
      · have K1 := Hid.mk k1
        clear k1
        (repeat' (first | ((with_reducible refine WG_dec (fun _ => ?_) (fun _ => ?_)) <;> try (exfalso; omega)) | ((with_reducible refine WG_decF (fun _ => ?_) (fun _ => ?_)) <;> try (exfalso; omega)) | ((with_reducible refine WC_dec (fun _ => ?_) (fun _ => ?_)) <;> try (exfalso; omega)) | refine WC_bool (fun _ => ?_) (fun _ => ?_) | refine WG_bool (fun _ => ?_) (fun _ => ?_) | refine WG_boolF (fun _ => ?_) (fun _ => ?_) | simp -dsimp (disch := omega) only [↓run_nil, ↓run_i, ↓co_seq, ↓co_skip, ↓co_reg, ↓co_cond, ↓op_mov, ↓op_bin, WF_eq, W1_some, WC_false, ↓ev_t, ↓ev_c, ↓upd_at, ↓get_cons, ↓frm_nil, ↓frm_cons, bin_add, wrap_i64, eq_self, Nat.reduceEqDiff, ↓reduceIte, *]))
        exact Next.mk (n + 1) ⟨p2, by omega, rfl, rfl, rfl, rfl, by rw [Hsucc.out, if_pos Hx.out]; simpa using K1.out⟩ (by omega)
      · have K1 := Hid.mk k1
        clear k1
        (repeat' (first | ((with_reducible refine WG_dec (fun _ => ?_) (fun _ => ?_)) <;> try (exfalso; omega)) | ((with_reducible refine WG_decF (fun _ => ?_) (fun _ => ?_)) <;> try (exfalso; omega)) | ((with_reducible refine WC_dec (fun _ => ?_) (fun _ => ?_)) <;> try (exfalso; omega)) | refine WC_bool (fun _ => ?_) (fun _ => ?_) | refine WG_bool (fun _ => ?_) (fun _ => ?_) | refine WG_boolF (fun _ => ?_) (fun _ => ?_) | simp -dsimp (disch := omega) only [↓run_nil, ↓run_i, ↓run_k, ↓op_st, ↓co_seq, ↓co_reg, ↓co_cond, ↓op_mov, ↓op_fld, ↓op_ixs, WF_eq, W1_some, WC_true, ↓ev_t, ↓ev_c, ↓upd_at, ↓get_cons, ↓frm_nil, ↓frm_cons, cellsV_int, store_ptr, fld_ptr, eq_self, Nat.reduceEqDiff, ↓reduceIte, *, hrd2.ixs]))
        refine wh_rdO K1.out hW (i := (n : Int)) (fo := 4) { atI S (n : Int) with T := c, J := 0 } hn0 (by omega) (by decide) rfl (by rw [at_set17 _ (by omega)]; rfl) fun h3 k1 k2 kk => ?_
        have p3 := pre17 p2 K1.out hne2 kk
        rw [Int.toNat_natCast, List.set_set] at k1
        have hrd3 := k1.rd
        have hl3 : (S.set n { atI S (n : Int) with T := c, J := 0 }).length = S.length := List.length_set ..
        have K2 := Hid.mk k1
        clear k1 kk
        (repeat' (first | ((with_reducible refine WG_dec (fun _ => ?_) (fun _ => ?_)) <;> try (exfalso; omega)) | ((with_reducible refine WG_decF (fun _ => ?_) (fun _ => ?_)) <;> try (exfalso; omega)) | ((with_reducible refine WC_dec (fun _ => ?_) (fun _ => ?_)) <;> try (exfalso; omega)) | refine WC_bool (fun _ => ?_) (fun _ => ?_) | refine WG_bool (fun _ => ?_) (fun _ => ?_) | refine WG_boolF (fun _ => ?_) (fun _ => ?_) | simp -dsimp (disch := omega) only [↓run_nil, ↓run_i, ↓run_k, ↓op_st, ↓co_reg, ↓op_mov, ↓op_fld, ↓op_ixs, WF_eq, W1_some, ↓ev_t, ↓ev_c, ↓upd_at, ↓get_cons, ↓frm_nil, ↓frm_cons, cellsV_int, store_ptr, fld_ptr, eq_self, Nat.reduceEqDiff, ↓reduceIte, *, hrd3.ixs]))
        refine wh_rdO K2.out hW (i := (n : Int)) (fo := 5) { atI S (n : Int) with T := c, J := 0, Q := 1 } hn0 (by omega) (by decide) rfl (by rw [at_set17 _ (by omega)]; rfl) fun h4 k1 k2 kk => ?_
        have p4 := pre17 p3 K2.out hne3 kk
        rw [Int.toNat_natCast, List.set_set] at k1
        have K3 := Hid.mk k1
        clear k1 kk
        (repeat' (first | ((with_reducible refine WG_dec (fun _ => ?_) (fun _ => ?_)) <;> try (exfalso; omega)) | ((with_reducible refine WG_decF (fun _ => ?_) (fun _ => ?_)) <;> try (exfalso; omega)) | ((with_reducible refine WC_dec (fun _ => ?_) (fun _ => ?_)) <;> try (exfalso; omega)) | refine WC_bool (fun _ => ?_) (fun _ => ?_) | refine WG_bool (fun _ => ?_) (fun _ => ?_) | refine WG_boolF (fun _ => ?_) (fun _ => ?_) | simp -dsimp (disch := omega) only [↓run_nil, ↓run_i, ↓co_reg, ↓op_mov, ↓op_bin, WF_eq, W1_some, ↓ev_t, ↓ev_c, ↓upd_at, ↓get_cons, ↓frm_nil, ↓frm_cons, bin_add, wrap_i64, eq_self, Nat.reduceEqDiff, ↓reduceIte, *]))
        exact Next.mk (n + 1) ⟨p4, by omega, rfl, rfl, rfl, rfl, by rw [Hsucc.out, if_pos Hx.out]; simpa using K3.out⟩ (by omega)
    · have Hx := Hid.mk (show ¬ (atI S (n : Int)).D ≤ c by omega)
      refine wh_rdO ho hW (i := (n : Int)) (fo := 2) { atI S (n : Int) with T := 24 } hn0 hn1 (by decide) rfl rfl fun h2 k1 k2 kk => ?_
      have p2 := pre17 hp ho hne kk
      rw [Int.toNat_natCast] at k1
      have hrd2 := k1.rd
      have hl2 : (S.set n { atI S (n : Int) with T := 24 }).length = S.length := List.length_set ..
      clear kk
      cases plain
      · have K1 := Hid.mk k1
        clear k1
        (repeat' (first | ((with_reducible refine WG_dec (fun _ => ?_) (fun _ => ?_)) <;> try (exfalso; omega)) | ((with_reducible refine WG_decF (fun _ => ?_) (fun _ => ?_)) <;> try (exfalso; omega)) | ((with_reducible refine WC_dec (fun _ => ?_) (fun _ => ?_)) <;> try (exfalso; omega)) | refine WC_bool (fun _ => ?_) (fun _ => ?_) | refine WG_bool (fun _ => ?_) (fun _ => ?_) | refine WG_boolF (fun _ => ?_) (fun _ => ?_) | simp -dsimp (disch := omega) only [↓run_nil, ↓run_i, ↓co_seq, ↓co_skip, ↓co_reg, ↓co_cond, ↓op_mov, ↓op_bin, WF_eq, W1_some, WC_false, ↓ev_t, ↓ev_c, ↓upd_at, ↓get_cons, ↓frm_nil, ↓frm_cons, bin_add, wrap_i64, eq_self, Nat.reduceEqDiff, ↓reduceIte, *]))
        exact Next.mk (n + 1) ⟨p2, by omega, rfl, rfl, rfl, rfl, by rw [Hsucc.out, if_neg Hx.out]; simpa using K1.out⟩ (by omega)
      · have K1 := Hid.mk k1
        clear k1
        (repeat' (first | ((with_reducible refine WG_dec (fun _ => ?_) (fun _ => ?_)) <;> try (exfalso; omega)) | ((with_reducible refine WG_decF (fun _ => ?_) (fun _ => ?_)) <;> try (exfalso; omega)) | ((with_reducible refine WC_dec (fun _ => ?_) (fun _ => ?_)) <;> try (exfalso; omega)) | refine WC_bool (fun _ => ?_) (fun _ => ?_) | refine WG_bool (fun _ => ?_) (fun _ => ?_) | refine WG_boolF (fun _ => ?_) (fun _ => ?_) | simp -dsimp (disch := omega) only [↓run_nil, ↓run_i, ↓run_k, ↓op_st, ↓co_seq, ↓co_reg, ↓co_cond, ↓op_mov, ↓op_fld, ↓op_ixs, WF_eq, W1_some, WC_true, ↓ev_t, ↓ev_c, ↓upd_at, ↓get_cons, ↓frm_nil, ↓frm_cons, cellsV_int, store_ptr, fld_ptr, eq_self, Nat.reduceEqDiff, ↓reduceIte, *, hrd2.ixs]))
        refine wh_rdO K1.out hW (i := (n : Int)) (fo := 4) { atI S (n : Int) with T := 24, J := 0 } hn0 (by omega) (by decide) rfl (by rw [at_set17 _ (by omega)]; rfl) fun h3 k1 k2 kk => ?_
        have p3 := pre17 p2 K1.out hne2 kk
        rw [Int.toNat_natCast, List.set_set] at k1
        have hrd3 := k1.rd
        have hl3 : (S.set n { atI S (n : Int) with T := 24, J := 0 }).length = S.length := List.length_set ..
        have K2 := Hid.mk k1
        clear k1 kk
        (repeat' (first | ((with_reducible refine WG_dec (fun _ => ?_) (fun _ => ?_)) <;> try (exfalso; omega)) | ((with_reducible refine WG_decF (fun _ => ?_) (fun _ => ?_)) <;> try (exfalso; omega)) | ((with_reducible refine WC_dec (fun _ => ?_) (fun _ => ?_)) <;> try (exfalso; omega)) | refine WC_bool (fun _ => ?_) (fun _ => ?_) | refine WG_bool (fun _ => ?_) (fun _ => ?_) | refine WG_boolF (fun _ => ?_) (fun _ => ?_) | simp -dsimp (disch := omega) only [↓run_nil, ↓run_i, ↓run_k, ↓op_st, ↓co_reg, ↓op_mov, ↓op_fld, ↓op_ixs, WF_eq, W1_some, ↓ev_t, ↓ev_c, ↓upd_at, ↓get_cons, ↓frm_nil, ↓frm_cons, cellsV_int, store_ptr, fld_ptr, eq_self, Nat.reduceEqDiff, ↓reduceIte, *, hrd3.ixs]))
        refine wh_rdO K2.out hW (i := (n : Int)) (fo := 5) { atI S (n : Int) with T := 24, J := 0, Q := 1 } hn0 (by omega) (by decide) rfl (by rw [at_set17 _ (by omega)]; rfl) fun h4 k1 k2 kk => ?_
        have p4 := pre17 p3 K2.out hne3 kk
        rw [Int.toNat_natCast, List.set_set] at k1
        have K3 := Hid.mk k1
        clear k1 kk
        (repeat' (first | ((with_reducible refine WG_dec (fun _ => ?_) (fun _ => ?_)) <;> try (exfalso; omega)) | ((with_reducible refine WG_decF (fun _ => ?_) (fun _ => ?_)) <;> try (exfalso; omega)) | ((with_reducible refine WC_dec (fun _ => ?_) (fun _ => ?_)) <;> try (exfalso; omega)) | refine WC_bool (fun _ => ?_) (fun _ => ?_) | refine WG_bool (fun _ => ?_) (fun _ => ?_) | refine WG_boolF (fun _ => ?_) (fun _ => ?_) | simp -dsimp (disch := omega) only [↓run_nil, ↓run_i, ↓co_reg, ↓op_mov, ↓op_bin, WF_eq, W1_some, ↓ev_t, ↓ev_c, ↓upd_at, ↓get_cons, ↓frm_nil, ↓frm_cons, bin_add, wrap_i64, eq_self, Nat.reduceEqDiff, ↓reduceIte, *]))
        exact Next.mk (n + 1) ⟨p4, by omega, rfl, rfl, rfl, rfl, by rw [Hsucc.out, if_neg Hx.out]; simpa using K3.out⟩ (by omega)
  · have e : n = L.length := by omega
    subst e
    (repeat' (first | ((with_reducible refine WG_dec (fun _ => ?_) (fun _ => ?_)) <;> try (exfalso; omega)) | ((with_reducible refine WG_decF (fun _ => ?_) (fun _ => ?_)) <;> try (exfalso; omega)) | ((with_reducible refine WC_dec (fun _ => ?_) (fun _ => ?_)) <;> try (exfalso; omega)) | refine WC_bool (fun _ => ?_) (fun _ => ?_) | refine WG_bool (fun _ => ?_) (fun _ => ?_) | refine WG_boolF (fun _ => ?_) (fun _ => ?_) | simp -dsimp (disch := omega) only [↓run_nil, ↓run_i, ↓co_seq, ↓co_exit, ↓co_ret, ↓co_reg, ↓co_cond, ↓op_mov, ↓op_bin, ↓op_lens, Res_ret, resL_nil, resL_t, resV_one, WF_eq, W1_some, ↓ev_t, ↓upd_at, ↓get_cons, ↓frm_nil, ↓frm_cons, bin_lss, eq_self, and_true, Option.map_some, Nat.reduceEqDiff, ↓reduceIte, *, hrd.len]))
    first
      | exact hp.ex
      | exact ⟨hp.ex, ho⟩
end Go.L.Try

/- JOBS THAT ARE LEGAL, AS THE PROGRAM TELLS: script.Legal. -/
set_option linter.unusedVariables false
set_option linter.unusedSimpArgs false
set_option maxRecDepth 100000
set_option maxHeartbeats 2000000
namespace Go.L.Try
open Go Go.L
variable {E : Env}
theorem scriptMay (hE : Laid E) {h : Heap} {vl : Value} {l : List Task} (hl : Rd 7 encT h vl l) (hs : ∀ t ∈ l, t.name.size < 1152921504606846976) :
    callW E (.func (.func n_script_may) #[] #[]) [vl] h = some (.bool (decide ((checkAllP l).2 = 0)), h, []) := by
  have q := checkAllS hE hl hs
  refine fn_same hE.script_may rfl (by simp) ?_
  generalize (checkAllP l).2 = e at *
  simp only [argsF]
  (repeat' (first | ((with_reducible refine WG_dec (fun _ => ?_) (fun _ => ?_)) <;> try (exfalso; omega)) | ((with_reducible refine WG_decF (fun _ => ?_) (fun _ => ?_)) <;> try (exfalso; omega)) | ((with_reducible refine WC_dec (fun _ => ?_) (fun _ => ?_)) <;> try (exfalso; omega)) | refine WC_bool (fun _ => ?_) (fun _ => ?_) | refine WG_bool (fun _ => ?_) (fun _ => ?_) | refine WG_boolF (fun _ => ?_) (fun _ => ?_) | simp -dsimp (disch := omega) only [↓run_nil, ↓run_i, ↓op_call, ↓co_seq, ↓co_ret, ↓co_reg, ↓op_mov, ↓op_bin, ↓op_ext, Res_ret, resL_nil, resL_t, resV_one, nn4_bool, WF_eq, W1_some, WX_some, ↓ev_t, ↓ev_c, ↓ev_f, ↓upd_at, ↓get_cons, ↓frm_nil, ↓frm_cons, bin_eql, ext_tuple, nt_int, eq_self, List.map_cons, List.map_nil, true_and, List.getElem?_cons_zero, List.getElem?_cons_succ, Option.map_some, Nat.reduceEqDiff, ↓reduceIte, reduceCtorEq, *]))
theorem legalWithin (hE : Laid E) (h : Heap) (n a b : Int) : callW E (.func (.func n_script_legal_f1) #[] #[]) [.int .i64 n, .int .i64 a, .int .i64 b] h = some (.bool (decide (a ≤ n ∧ n ≤ b)), h, []) := by
  refine fn_same hE.script_legal_f1 rfl (by simp) ?_
  simp only [argsF]
  (repeat' (first | ((with_reducible refine WG_dec (fun _ => ?_) (fun _ => ?_)) <;> try (exfalso; omega)) | ((with_reducible refine WG_decF (fun _ => ?_) (fun _ => ?_)) <;> try (exfalso; omega)) | ((with_reducible refine WC_dec (fun _ => ?_) (fun _ => ?_)) <;> try (exfalso; omega)) | refine WC_bool (fun _ => ?_) (fun _ => ?_) | refine WG_bool (fun _ => ?_) (fun _ => ?_) | refine WG_boolF (fun _ => ?_) (fun _ => ?_) | simp -dsimp (disch := omega) only [↓run_nil, ↓run_i, ↓run_w, ↓co_seq, ↓co_ret, ↓co_reg, ↓op_mov, ↓op_pick, ↓op_bin, Res_ret, resL_nil, resL_t, resV_one, nn4_bool, WF_eq, W1_some, WG_true, WG_ft, ↓ev_t, ↓ev_c, ↓upd_at, ↓get_cons, ↓frm_nil, ↓frm_cons, bin_leq, bin_geq, pick_t, pick_f, eq_self, true_and, Option.map_some, Nat.reduceEqDiff, Nat.reduceAdd, Nat.zero_add, ↓reduceIte, reduceCtorEq, decide_true, decide_false, *]))
  all_goals first | rfl | exact congrArg Value.bool (decide_eq_decide.2 (by omega)) | exact congrArg Value.bool (decide_eq_false (by omega)).symm | exact congrArg Value.bool (decide_eq_true (by omega)).symm
theorem legalSee (hE : Laid E) (h : Heap) {j : Value} (hj : (cellsV j).all oneCell = true) (g : Value) : callW E (.func (.func n_script_Legal_f1) #[] #[]) [j, g] h = some (.tuple #[], h, []) := by
  refine fn_same hE.script_Legal_f1 rfl (by simp) ?_
  simp only [argsF]
  (repeat' (first | ((with_reducible refine WG_dec (fun _ => ?_) (fun _ => ?_)) <;> try (exfalso; omega)) | ((with_reducible refine WG_decF (fun _ => ?_) (fun _ => ?_)) <;> try (exfalso; omega)) | ((with_reducible refine WC_dec (fun _ => ?_) (fun _ => ?_)) <;> try (exfalso; omega)) | refine WC_bool (fun _ => ?_) (fun _ => ?_) | refine WG_bool (fun _ => ?_) (fun _ => ?_) | refine WG_boolF (fun _ => ?_) (fun _ => ?_) | simp -dsimp (disch := omega) only [↓run_nil, ↓run_i, ↓co_reg, ↓op_box, Res_normal, resL_nil, resV_nil, nn4_tuple, WF_eq, W1_some, ↓ev_t, ↓get_cons, ↓frm_nil, newCells, eq_self, List.all_nil, true_and, ↓reduceIte, *]))
/-- From when on the next job of a task may come. -/
def soonest (l : List Task) (jobs : List Job) (n : Nat) (task : Int) : Int := if 0 ≤ lastN jobs task n then (atI jobs (lastN jobs task n)).arrive + (atI l task).T else 0
theorem soonest_zero (l : List Task) (jobs : List Job) (t : Int) : soonest l jobs 0 t = 0 := rfl
theorem soonest_succ (l : List Task) (jobs : List Job) (n : Nat) (t : Int) : soonest l jobs (n + 1) t = if (atI jobs (n : Int)).task = t then (atI jobs (n : Int)).arrive + (atI l t).T else soonest l jobs n t := by
  have e : lastN jobs t (n + 1) = if (atI jobs (n : Int)).task = t then (n : Int) else lastN jobs t n := rfl
  unfold soonest
  rw [e]
  by_cases h : (atI jobs (n : Int)).task = t
  · rw [if_pos h, if_pos h, if_pos (by omega)]
  · rw [if_neg h, if_neg h]
theorem jobOk_iff (l : List Task) (jobs : List Job) (i : Nat) : jobNums l jobs i ↔ (0 ≤ (atI jobs (i : Int)).task ∧ (atI jobs (i : Int)).task < l.length) ∧ (0 ≤ (atI jobs (i : Int)).arrive ∧ (atI jobs (i : Int)).arrive ≤ 17592186044416) ∧ (0 ≤ lastN jobs (atI jobs (i : Int)).task i → soonest l jobs i (atI jobs (i : Int)).task ≤ (atI jobs (i : Int)).arrive) ∧ (atI jobs (i : Int)).arrive ≤ (atI jobs (i : Int)).release ∧ (atI jobs (i : Int)).release ≤ (atI jobs (i : Int)).arrive + (atI l (atI jobs (i : Int)).task).J ∧ 1 ≤ (atI jobs (i : Int)).work ∧ (atI jobs (i : Int)).work ≤ (atI l (atI jobs (i : Int)).task).C := by
  unfold jobNums soonest
  dsimp only
  constructor
  · rintro ⟨a, b, c, d⟩; exact ⟨a, b, fun h => by rw [if_pos h]; exact c h, d⟩
  · rintro ⟨a, b, c, d⟩; exact ⟨a, b, fun h => by have := c h; rw [if_pos h] at this; exact this, d⟩
theorem slegal_l0 (hE : Laid E) {W : Nat → Prop} {h0 : Heap} {v0 v2 v8 v24 v25 v26 : Value} {bj bt : Nat} {y0 y1 y2 y3 y4 y6 vc : Value} {q w : Int} {cuts : List Int} (hc : Rd 1 encI h0 vc cuts) (hbt : h0[bt]? = some (.cells [y0, y1, y2, y3, y4, .int .i64 q, y6] false)) (hw : 0 ≤ w) (hw2 : w ≤ 2147483647) {Q : Ex → Fr → Heap → Prop} {fr : Fr}
    (g0 : get fr 0 = v0) (g2 : get fr 2 = v2) (g7 : get fr 7 = .func (.func n_script_legal_f1) #[] #[]) (g8 : get fr 8 = v8) (g10 : get fr 10 = .pointer (some ⟨bj, 0, none⟩)) (g11 : get fr 11 = .pointer (some ⟨bt, 0, none⟩)) (g12 : get fr 12 = .int .i64 w) (g24 : get fr 24 = v24) (g25 : get fr 25 = v25) (g26 : get fr 26 = v26) (g80 : get fr 80 = vc) (g81 : get fr 81 = .int .i64 cuts.length) (g82 : get fr 82 = .int .i64 0)
    (hq1 : cutsOk q cuts w = true → ∀ fr', get fr' 0 = v0 → get fr' 2 = v2 → get fr' 7 = .func (.func n_script_legal_f1) #[] #[] → get fr' 8 = v8 → get fr' 10 = .pointer (some ⟨bj, 0, none⟩) → get fr' 11 = .pointer (some ⟨bt, 0, none⟩) → get fr' 24 = v24 → get fr' 25 = v25 → get fr' 26 = v26 → Q (.exit 2) fr' h0)
    (hq2 : cutsOk q cuts w = false → ∀ fr', get fr' 6 = .bool false → Q .ret fr' h0) :
    WO W (iterW (code (callW E) iterW 117 c_script_legal_l0) fr h0) Q := by
  have few := hc.few
  refine WO.loop (fun (c : Nat) fr h' => h' = h0 ∧ c ≤ cuts.length ∧ get fr 0 = v0 ∧ get fr 2 = v2 ∧ get fr 7 = .func (.func n_script_legal_f1) #[] #[] ∧ get fr 8 = v8 ∧ get fr 10 = .pointer (some ⟨bj, 0, none⟩) ∧ get fr 11 = .pointer (some ⟨bt, 0, none⟩) ∧ get fr 24 = v24 ∧ get fr 25 = v25 ∧ get fr 26 = v26 ∧ get fr 80 = vc ∧ get fr 81 = .int .i64 cuts.length ∧ get fr 82 = .int .i64 c ∧ ∃ left, get fr 12 = .int .i64 left ∧ 0 ≤ left ∧ left ≤ w ∧ cutsOk q cuts w = cutsOk q (cuts.drop c) left) (fun c => cuts.length - c) ?_ 0 ⟨rfl, Nat.zero_le _, g0, g2, g7, g8, g10, g11, g24, g25, g26, g80, g81, g82, w, g12, hw, Int.le_refl _, rfl⟩
  rintro c fr h' ⟨rfl, hcl, g0, g2, g7, g8, g10, g11, g24, g25, g26, g80, g81, g82, left, g12, l0, l1, hcut⟩
  unfold c_script_legal_l0
  rcases Nat.lt_or_ge c cuts.length with hlt | hge
  · have hstep : cutsOk q (cuts.drop c) left = (decide (1 ≤ atI cuts (c : Int) ∧ atI cuts (c : Int) ≤ min q left) && cutsOk q (cuts.drop (c + 1)) (left - atI cuts (c : Int))) := by
      rw [List.drop_eq_getElem_cons hlt, cutsOk, atI_nat hlt]
      congr 1
      exact decide_eq_decide.2 (by omega)
    rw [hstep] at hcut
    have qw := legalWithin hE h' (atI cuts (c : Int)) 1 (min q left)
    have Hcut := Hid.mk hcut
    clear hcut hstep
    have hq2 := Hid.mk hq2
    clear hq1
    by_cases hcc : 1 ≤ atI cuts (c : Int) ∧ atI cuts (c : Int) ≤ min q left
    · rw [decide_eq_true hcc] at qw
      have Hc := Hid.mk hcc
      have hc2 : atI cuts (c : Int) ≤ left := by omega
      have hc1 := hcc.1
      clear hcc
      (repeat' (first | ((with_reducible refine WG_dec (fun _ => ?_) (fun _ => ?_)) <;> try (exfalso; omega)) | ((with_reducible refine WG_decF (fun _ => ?_) (fun _ => ?_)) <;> try (exfalso; omega)) | ((with_reducible refine WC_dec (fun _ => ?_) (fun _ => ?_)) <;> try (exfalso; omega)) | refine WC_bool (fun _ => ?_) (fun _ => ?_) | refine WG_bool (fun _ => ?_) (fun _ => ?_) | refine WG_boolF (fun _ => ?_) (fun _ => ?_) | simp -dsimp (disch := omega) only [↓run_nil, ↓run_i, ↓op_call, ↓co_seq, ↓co_skip, ↓co_reg, ↓co_cond, ↓co_block, ↓op_mov, ↓op_bin, ↓op_un, ↓op_fld, ↓op_ixs, ↓op_min, ↓op_ld, WF_eq, W1_some, WX_some, WC_false, ↓ev_t, ↓ev_c, ↓upd_at, ↓get_cons, ↓frm_nil, ↓frm_cons, bin_add, bin_sub, bin_lss, un_not, load_ptr, ldO_cells, part_none, fld_ptr, min_1, min_2, wrap_i64, eq_self, Bool.not_true, List.map_cons, List.map_nil, List.getElem?_cons_zero, List.getElem?_cons_succ, List.getD_cons_zero, Nat.reduceEqDiff, Nat.zero_add, ↓reduceIte, reduceCtorEq, *, hc.ixs, hc.ld0, encI]))
      exact Next.mk (c + 1) ⟨rfl, by omega, rfl, rfl, rfl, rfl, rfl, rfl, rfl, rfl, rfl, rfl, rfl, rfl, _, rfl, by omega, by omega, by rw [Hcut.out, decide_eq_true Hc.out]; rfl⟩ (by omega)
    · rw [decide_eq_false hcc] at qw
      have Hc := Hid.mk hcc
      clear hcc
      (repeat' (first | ((with_reducible refine WG_dec (fun _ => ?_) (fun _ => ?_)) <;> try (exfalso; omega)) | ((with_reducible refine WG_decF (fun _ => ?_) (fun _ => ?_)) <;> try (exfalso; omega)) | ((with_reducible refine WC_dec (fun _ => ?_) (fun _ => ?_)) <;> try (exfalso; omega)) | refine WC_bool (fun _ => ?_) (fun _ => ?_) | refine WG_bool (fun _ => ?_) (fun _ => ?_) | refine WG_boolF (fun _ => ?_) (fun _ => ?_) | simp -dsimp (disch := omega) only [↓run_nil, ↓run_i, ↓op_call, ↓co_seq, ↓co_skip, ↓co_ret, ↓co_reg, ↓co_cond, ↓co_block, ↓op_mov, ↓op_bin, ↓op_un, ↓op_fld, ↓op_ixs, ↓op_min, ↓op_ld, WF_eq, W1_some, WX_some, WC_true, ↓ev_t, ↓ev_c, ↓upd_at, ↓get_cons, ↓frm_nil, ↓frm_cons, bin_lss, un_not, load_ptr, ldO_cells, part_none, fld_ptr, min_1, min_2, eq_self, Bool.not_false, List.map_cons, List.map_nil, List.getElem?_cons_zero, List.getElem?_cons_succ, List.getD_cons_zero, Nat.reduceEqDiff, Nat.zero_add, ↓reduceIte, reduceCtorEq, *, hc.ixs, hc.ld0, encI]))
      exact hq2.out (by rw [Hcut.out, decide_eq_false Hc.out]; rfl) _ rfl
  · have e : cuts.drop c = [] := List.drop_of_length_le (by omega)
    rw [e] at hcut
    have hq1 := hq1 hcut
    clear hcut e hq2
    (repeat' (first | ((with_reducible refine WG_dec (fun _ => ?_) (fun _ => ?_)) <;> try (exfalso; omega)) | ((with_reducible refine WG_decF (fun _ => ?_) (fun _ => ?_)) <;> try (exfalso; omega)) | ((with_reducible refine WC_dec (fun _ => ?_) (fun _ => ?_)) <;> try (exfalso; omega)) | refine WC_bool (fun _ => ?_) (fun _ => ?_) | refine WG_bool (fun _ => ?_) (fun _ => ?_) | refine WG_boolF (fun _ => ?_) (fun _ => ?_) | simp -dsimp (disch := omega) only [↓run_nil, ↓run_i, ↓co_seq, ↓co_exit, ↓co_reg, ↓co_cond, ↓op_bin, WF_eq, W1_some, ↓ev_t, ↓upd_at, ↓get_cons, ↓frm_nil, ↓frm_cons, bin_lss, eq_self, Nat.reduceEqDiff, ↓reduceIte, reduceCtorEq, decide_false, *]))
    exact hq1 _ rfl rfl rfl rfl rfl rfl rfl rfl rfl
theorem allOk_succ (l : List Task) (jobs : List Job) (n : Nat) : allOk l jobs (n + 1) = (allOk l jobs n && jobOkB l jobs n) := rfl
theorem scriptLegal (hE : Laid E) {h : Heap} {v0 v1 : Value} {l : List Task} {jobs : List Job} (hl : Rd 7 encT h v0 l) (hs : ∀ t ∈ l, t.name.size < 1152921504606846976) (hj : RdJ h v1 jobs) :
    callW E (.func (.func n_script_legal) #[] #[]) [v0, v1, .func (.func n_script_Legal_f1) #[] #[]] h = some (.bool (legalB l jobs), h, []) := by
  refine fn_same hE.script_legal rfl (by simp) ?_
  obtain ⟨lv, rfl, hlv, hc⟩ := hj.is
  have few := hlv.few
  have fewl := hl.few
  have hca := scriptMay hE hl hs
  simp only [argsF]
  by_cases hok : (checkAllP l).2 = 0
  · by_cases hle : lv.length ≤ 4096
    · obtain ⟨hl0, hl1, hoks⟩ := checkAll_ok hok
      have hd : legalB l (lv.map (·.j)) = allOk l (lv.map (·.j)) lv.length := by simp [legalB, hok, hle]
      rw [hd]
      rw [decide_eq_true hok] at hca
      clear hd hok
      (repeat' (first | ((with_reducible refine WG_dec (fun _ => ?_) (fun _ => ?_)) <;> try (exfalso; omega)) | ((with_reducible refine WG_decF (fun _ => ?_) (fun _ => ?_)) <;> try (exfalso; omega)) | ((with_reducible refine WC_dec (fun _ => ?_) (fun _ => ?_)) <;> try (exfalso; omega)) | refine WC_bool (fun _ => ?_) (fun _ => ?_) | refine WG_bool (fun _ => ?_) (fun _ => ?_) | refine WG_boolF (fun _ => ?_) (fun _ => ?_) | simp -dsimp (disch := omega) only [↓run_nil, ↓run_i, ↓run_w, ↓op_call, ↓co_seq, ↓co_skip, ↓co_reg, ↓co_cond, ↓co_block, ↓co_loop, ↓op_mov, ↓op_pick, ↓op_bin, ↓op_un, ↓op_lens, ↓op_mkm, WF_eq, W1_some, WX_some, WG_false, ↓ev_t, ↓ev_c, ↓ev_f, ↓upd_at, ↓get_cons, ↓frm_nil, ↓frm_cons, bin_gtr, un_not, pick_f, eq_self, Bool.not_true, List.map_cons, List.map_nil, Nat.reduceEqDiff, Nat.reduceAdd, Nat.zero_add, ↓reduceIte, reduceCtorEq, *, hlv.len]))
      clear hca
      refine WO.loop (fun (n : Nat) fr h' => Pre h h' ∧ h.length < h'.length ∧ n ≤ lv.length ∧ get fr 0 = v0 ∧ get fr 2 = .func (.func n_script_Legal_f1) #[] #[] ∧ get fr 7 = .func (.func n_script_legal_f1) #[] #[] ∧ get fr 8 = .map (some h.length) ∧ get fr 24 = v1 ∧ get fr 25 = .int .i64 lv.length ∧ get fr 26 = .int .i64 n ∧ allOk l (lv.map (·.j)) n = true ∧ ∃ es, h'[h.length]? = some (.map es) ∧ IKeys .i64 es ∧ ∀ t : Int, 0 ≤ t → t < l.length → (mapI .i64 es t).getD (.int .i64 0) = .int .i64 (soonest l (lv.map (·.j)) n t)) (fun n => lv.length - n) ?_ 0 ⟨Pre.app h _, by simp, Nat.zero_le _, rfl, rfl, rfl, rfl, rfl, rfl, rfl, rfl, [], by rw [geta0]; rfl, (fun e he => nomatch he), fun t _ _ => rfl⟩
      rintro n fr h' ⟨hp, hlt', hn, g0, g2, g7, g8, g24, g25, g26, hall, es, m1, k1, c1⟩
      have hl' := hl.pre hp
      have hlv' := hlv.pre hp
      have Hall := Hid.mk hall
      clear hall
      unfold c_script_legal_l1
      rcases Nat.lt_or_ge n lv.length with hlt | hge
      · have hmem := atI_mem (l := lv) (i := n) (by omega) (by omega)
        have hcn := (hc _ hmem).pre hp
        have e2 : atI (lv.map (·.j)) (n : Int) = (atI lv n).j := (atI_map' (fun p : NV Job => p.j) lv n (by omega) (by omega)).symm
        have hnums := jobOk_iff l (lv.map (·.j)) n
        have hss := fun t => soonest_succ l (lv.map (·.j)) n t
        rw [e2] at hnums
        simp only [e2] at hss
        have hsn : 0 ≤ lastN (lv.map (·.j)) (atI lv n).j.task n → 0 ≤ soonest l (lv.map (·.j)) n (atI lv n).j.task ∧ soonest l (lv.map (·.j)) n (atI lv n).j.task ≤ 17592186044416 + 2147483647 := fun hk => by
          have h5 := lastN_in (lv.map (·.j)) (atI lv n).j.task n
          have h1 := allOk_at Hall.out (lastN (lv.map (·.j)) (atI lv n).j.task n).toNat (by omega)
          simp only [jobOkB, Bool.and_eq_true, decide_eq_true_eq] at h1
          have h2 := (jobOk_iff _ _ _).1 h1.1
          rw [show ((lastN (lv.map (·.j)) (atI lv n).j.task n).toNat : Int) = lastN (lv.map (·.j)) (atI lv n).j.task n by omega] at h2
          have h6 := lastN_task hk
          rw [h6] at h2
          have h7 := (hoks _ (atI_mem h2.1.1 h2.1.2)).1
          simp only [rangesB] at h7
          unfold soonest
          rw [if_pos hk]
          omega
        have hs0 : ¬ 0 ≤ lastN (lv.map (·.j)) (atI lv n).j.task n → soonest l (lv.map (·.j)) n (atI lv n).j.task = 0 := fun hk => by unfold soonest; rw [if_neg hk]
        have hsb : 0 ≤ soonest l (lv.map (·.j)) n (atI lv n).j.task ∧ soonest l (lv.map (·.j)) n (atI lv n).j.task ≤ 17592186044416 + 2147483647 := by
          by_cases hk : 0 ≤ lastN (lv.map (·.j)) (atI lv n).j.task n
          · exact hsn hk
          · rw [hs0 hk]; omega
        have Hn2 : Hid (jobNums l (lv.map (·.j)) n ↔ ((0 ≤ (atI lv n).j.task ∧ (atI lv n).j.task < l.length) ∧ (soonest l (lv.map (·.j)) n (atI lv n).j.task ≤ (atI lv n).j.arrive ∧ (atI lv n).j.arrive ≤ 17592186044416) ∧ ((atI lv n).j.arrive ≤ (atI lv n).j.release ∧ (atI lv n).j.release ≤ (atI lv n).j.arrive + (atI l (atI lv n).j.task).J) ∧ 1 ≤ (atI lv n).j.work ∧ (atI lv n).j.work ≤ (atI l (atI lv n).j.task).C)) := ⟨by
          rw [hnums]
          constructor
          · rintro ⟨a, b, c, d⟩
            refine ⟨a, ⟨?_, b.2⟩, ⟨d.1, d.2.1⟩, d.2.2⟩
            by_cases hk : 0 ≤ lastN (lv.map (·.j)) (atI lv n).j.task n
            · exact c hk
            · rw [hs0 hk]; exact b.1
          · rintro ⟨a, b, c, d⟩
            exact ⟨a, ⟨by omega, b.2⟩, fun _ => b.1, c.1, c.2, d⟩⟩
        have Hjob : Hid (jobOkB l (lv.map (·.j)) n = (decide (jobNums l (lv.map (·.j)) n) && cutsOk (atI l (atI lv n).j.task).Q (atI lv n).j.cuts (atI lv n).j.work)) := ⟨by simp only [jobOkB, e2]⟩
        have Hnot : Hid (jobOkB l (lv.map (·.j)) n = false → allOk l (lv.map (·.j)) lv.length = false) := ⟨fun h => allOk_not hlt h⟩
        have Hss := Hid.mk hss
        have hL := lk_int k1 (.int .i64 0) (atI lv n).j.task
        clear hss hnums hsn hs0 e2 hc hs
        generalize hS : soonest l (lv.map (·.j)) n (atI lv n).j.task = S at *
        by_cases hin : 0 ≤ (atI lv n).j.task ∧ (atI lv n).j.task < l.length
        · have hC := c1 _ hin.1 hin.2
          rw [hS] at hC
          have ht7 := (hoks _ (atI_mem hin.1 hin.2)).1
          simp only [rangesB] at ht7
          have htT := ht7.2.2.2.1
          have htC := ht7.2.2.1
          have htJ := ht7.2.2.2.2.2.2.1
          clear ht7 hoks
          rw [hC] at hL
          have w1 := fun x => legalWithin hE (h' ++ x) (atI lv n).j.arrive S 17592186044416
          have w2 := fun x => legalWithin hE (h' ++ x) (atI lv n).j.release (atI lv n).j.arrive ((atI lv n).j.arrive + (atI l (atI lv n).j.task).J)
          have w3 := fun x => legalWithin hE (h' ++ x) (atI lv n).j.work 1 (atI l (atI lv n).j.task).C
          by_cases hx1 : S ≤ (atI lv n).j.arrive ∧ (atI lv n).j.arrive ≤ 17592186044416
          · rw [decide_eq_true hx1] at w1
            by_cases hx2 : (atI lv n).j.arrive ≤ (atI lv n).j.release ∧ (atI lv n).j.release ≤ (atI lv n).j.arrive + (atI l (atI lv n).j.task).J
            · rw [decide_eq_true hx2] at w2
              by_cases hx3 : 1 ≤ (atI lv n).j.work ∧ (atI lv n).j.work ≤ (atI l (atI lv n).j.task).C
              · rw [decide_eq_true hx3] at w3
                have hdn := Hid.mk (Hn2.out.2 ⟨hin, hx1, hx2, hx3⟩)
                have m1x : ∀ x, (h' ++ x)[h.length]? = some (.map es) := fun x => by rw [List.getElem?_append_left hlt']; exact m1
                (repeat' (first | ((with_reducible refine WG_dec (fun _ => ?_) (fun _ => ?_)) <;> try (exfalso; omega)) | ((with_reducible refine WG_decF (fun _ => ?_) (fun _ => ?_)) <;> try (exfalso; omega)) | ((with_reducible refine WC_dec (fun _ => ?_) (fun _ => ?_)) <;> try (exfalso; omega)) | refine WC_bool (fun _ => ?_) (fun _ => ?_) | refine WG_bool (fun _ => ?_) (fun _ => ?_) | refine WG_boolF (fun _ => ?_) (fun _ => ?_) | simp -dsimp (disch := omega) only [↓run_nil, ↓run_i, ↓run_k, ↓run_w, ↓op_st, ↓op_call, ↓co_seq, ↓co_skip, ↓co_reg, ↓co_cond, ↓co_block, ↓co_loop, ↓op_mov, ↓op_pick, ↓op_bin, ↓op_un, ↓op_fld, ↓op_ixs, ↓op_lens, ↓op_ld, ↓op_look, ↓op_all, WF_eq, W1_some, WX_some, WH_some1, WC_false, WG_false, ↓ev_t, ↓ev_c, ↓upd_at, ↓get_cons, ↓frm_nil, ↓frm_cons, bin_add, bin_lss, bin_geq, un_not, pick_f, cellsV_agg, one_int, one_str, one_slice, setCells_nil, setCells_cons, load_ptr, ldO_cells, part_none, store_ptr, stO_cells, fld_ptr, geta, geta0, seta, seta0, newCells, wrap_i64, eq_self, look_map, Bool.not_true, List.map_cons, List.map_nil, List.length_append, List.length_cons, List.length_nil, List.all_cons, List.all_nil, Bool.and_self, true_and, and_self, List.getElem?_cons_zero, List.getElem?_cons_succ, List.set_cons_zero, List.set_cons_succ, List.append_assoc, List.cons_append, List.nil_append, Nat.reduceEqDiff, Nat.reduceAdd, Nat.zero_add, Nat.add_zero, ↓reduceIte, reduceCtorEq, decide_false, Nat.le_refl, *, hl'.len, hl'.ixs, hl'.ldxa, hlv'.ixs, hlv'.lda, encN, hdJ, encT, hcn.len, hcn.one, hp.le, hp.le_add]))
                refine slegal_l0 hE (hcn.app _) (bj := h'.length) (bt := h'.length + 1) (by rw [geta]; rfl) (by omega) (by omega) rfl rfl rfl rfl rfl rfl rfl rfl rfl rfl rfl rfl rfl (fun hcut fr' q0 q2 q7 q8 q10 q11 q24 q25 q26 => ?_) (fun hcut fr' q6 => ?_)
                · have hn1 : allOk l (lv.map (·.j)) (n + 1) = true := by
                    rw [allOk_succ, Hall.out, Bool.true_and, Hjob.out, hcut, decide_eq_true hdn.out]; rfl
                  have Hn1 := Hid.mk hn1
                  obtain ⟨es', p1, p2, p3⟩ := put_int (.int .i64 ((atI lv n).j.arrive + (atI l (atI lv n).j.task).T)) k1 (atI lv n).j.task
                  have M1 := mp_int p1
                  have P3 := Hid.mk p3
                  have Hc1 := Hid.mk c1
                  have hone := hcn.one
                  have hcv := hcn.cv
                  have hsee := fun x => legalSee hE (h' ++ x) (j := .agg #[.int .i64 (atI lv n).j.task, .int .i64 (atI lv n).j.arrive, .int .i64 (atI lv n).j.release, .int .i64 (atI lv n).j.work, (atI lv n).v]) (by simp [cellsV_agg, one_int, hone]) (.int .i64 ((atI lv n).j.arrive - S))
                  have hml := hp.le
                  clear hn1 hcut p1 p3 c1 w1 w2 w3
                  (repeat' (first | ((with_reducible refine WG_dec (fun _ => ?_) (fun _ => ?_)) <;> try (exfalso; omega)) | ((with_reducible refine WG_decF (fun _ => ?_) (fun _ => ?_)) <;> try (exfalso; omega)) | ((with_reducible refine WC_dec (fun _ => ?_) (fun _ => ?_)) <;> try (exfalso; omega)) | refine WC_bool (fun _ => ?_) (fun _ => ?_) | refine WG_bool (fun _ => ?_) (fun _ => ?_) | refine WG_boolF (fun _ => ?_) (fun _ => ?_) | simp -dsimp (disch := omega) only [↓run_nil, ↓run_i, ↓run_k, ↓op_call, ↓co_seq, ↓co_reg, ↓op_mov, ↓op_bin, ↓op_fld, ↓op_ld, ↓op_look, ↓op_mup, WF_eq, W1_some, WX_some, WX_some1, ↓ev_t, ↓ev_c, ↓upd_at, ↓get_cons, ↓frm_nil, ↓frm_cons, bin_add, bin_sub, load_ptr, ldO_cells, part_none, part_some, fld_ptr, geta, geta0, wrap_i64, eq_self, look_map, mup_map, List.map_cons, List.map_nil, List.length_cons, List.length_nil, true_and, List.getElem?_cons_zero, List.getElem?_cons_succ, List.drop_zero, List.take_succ_cons, List.take_zero, Nat.reduceEqDiff, Nat.reduceAdd, Nat.zero_add, Nat.add_zero, ↓reduceIte, reduceCtorEq, Nat.le_refl, *]))
                  refine Next.mk (n + 1) ⟨(hp.app' _).set (Nat.le_refl _) _, by simp; omega, by omega, rfl, rfl, rfl, rfl, rfl, rfl, rfl, Hn1.out, es', gset (by simp; omega), p2, fun t ht0 ht1 => ?_⟩ (by omega)
                  rw [P3.out, Hss.out]
                  by_cases ht : (atI lv n).j.task = t
                  · rw [if_pos ht.symm, if_pos ht, ht]; rfl
                  · rw [if_neg (fun e => ht e.symm), if_neg ht]; exact Hc1.out t ht0 ht1
                · have hf := Hnot.out (by rw [Hjob.out, hcut, Bool.and_false])
                  rw [hf]
                  clear hcut w1 w2 w3
                  (repeat' (first | ((with_reducible refine WG_dec (fun _ => ?_) (fun _ => ?_)) <;> try (exfalso; omega)) | ((with_reducible refine WG_decF (fun _ => ?_) (fun _ => ?_)) <;> try (exfalso; omega)) | ((with_reducible refine WC_dec (fun _ => ?_) (fun _ => ?_)) <;> try (exfalso; omega)) | refine WC_bool (fun _ => ?_) (fun _ => ?_) | refine WG_bool (fun _ => ?_) (fun _ => ?_) | refine WG_boolF (fun _ => ?_) (fun _ => ?_) | simp -dsimp (disch := omega) only [Res_ret, resL_nil, resL_t, resV_one, nn4_bool, W1_some, eq_self, true_and, Option.map_some, *]))
              · rw [decide_eq_false hx3] at w3
                have hf := Hnot.out (by rw [Hjob.out, decide_eq_false (fun e => hx3 (Hn2.out.1 e).2.2.2)]; rfl)
                rw [hf]
                have m1x : ∀ x, (h' ++ x)[h.length]? = some (.map es) := fun x => by rw [List.getElem?_append_left hlt']; exact m1
                have Hx3 := Hid.mk hx3
                clear hf hx3
                (repeat' (first | ((with_reducible refine WG_dec (fun _ => ?_) (fun _ => ?_)) <;> try (exfalso; omega)) | ((with_reducible refine WG_decF (fun _ => ?_) (fun _ => ?_)) <;> try (exfalso; omega)) | ((with_reducible refine WC_dec (fun _ => ?_) (fun _ => ?_)) <;> try (exfalso; omega)) | refine WC_bool (fun _ => ?_) (fun _ => ?_) | refine WG_bool (fun _ => ?_) (fun _ => ?_) | refine WG_boolF (fun _ => ?_) (fun _ => ?_) | simp -dsimp (disch := omega) only [↓run_nil, ↓run_i, ↓run_k, ↓run_w, ↓op_st, ↓op_call, ↓co_seq, ↓co_skip, ↓co_ret, ↓co_reg, ↓co_cond, ↓co_block, ↓op_mov, ↓op_pick, ↓op_bin, ↓op_un, ↓op_fld, ↓op_ixs, ↓op_lens, ↓op_ld, ↓op_look, ↓op_all, Res_ret, resL_nil, resL_t, resV_one, nn4_bool, WF_eq, W1_some, WX_some, WH_some1, WC_true, WG_false, ↓ev_t, ↓ev_c, ↓upd_at, ↓get_cons, ↓frm_nil, ↓frm_cons, bin_add, bin_lss, bin_geq, un_not, pick_f, cellsV_agg, one_int, one_str, one_slice, setCells_nil, setCells_cons, load_ptr, ldO_cells, part_none, store_ptr, stO_cells, fld_ptr, geta, geta0, seta, seta0, newCells, wrap_i64, eq_self, look_map, Bool.not_true, Bool.not_false, List.map_cons, List.map_nil, List.length_append, List.length_cons, List.length_nil, List.all_cons, List.all_nil, Bool.and_self, true_and, and_self, List.getElem?_cons_zero, List.getElem?_cons_succ, List.set_cons_zero, List.set_cons_succ, List.append_assoc, List.cons_append, List.nil_append, Option.map_some, Nat.reduceEqDiff, Nat.reduceAdd, Nat.zero_add, Nat.add_zero, ↓reduceIte, reduceCtorEq, decide_false, Nat.le_refl, *, hl'.len, hl'.ixs, hl'.ldxa, hlv'.ixs, hlv'.lda, encN, hdJ, encT, hcn.one, hp.le, hp.le_add]))
            · rw [decide_eq_false hx2] at w2
              have hf := Hnot.out (by rw [Hjob.out, decide_eq_false (fun e => hx2 (Hn2.out.1 e).2.2.1)]; rfl)
              rw [hf]
              have m1x : ∀ x, (h' ++ x)[h.length]? = some (.map es) := fun x => by rw [List.getElem?_append_left hlt']; exact m1
              have Hx2 := Hid.mk hx2
              clear hf hx2 w3
              (repeat' (first | ((with_reducible refine WG_dec (fun _ => ?_) (fun _ => ?_)) <;> try (exfalso; omega)) | ((with_reducible refine WG_decF (fun _ => ?_) (fun _ => ?_)) <;> try (exfalso; omega)) | ((with_reducible refine WC_dec (fun _ => ?_) (fun _ => ?_)) <;> try (exfalso; omega)) | refine WC_bool (fun _ => ?_) (fun _ => ?_) | refine WG_bool (fun _ => ?_) (fun _ => ?_) | refine WG_boolF (fun _ => ?_) (fun _ => ?_) | simp -dsimp (disch := omega) only [↓run_nil, ↓run_i, ↓run_k, ↓run_w, ↓op_st, ↓op_call, ↓co_seq, ↓co_skip, ↓co_ret, ↓co_reg, ↓co_cond, ↓co_block, ↓op_mov, ↓op_pick, ↓op_bin, ↓op_un, ↓op_fld, ↓op_ixs, ↓op_lens, ↓op_ld, ↓op_look, ↓op_all, Res_ret, resL_nil, resL_t, resV_one, nn4_bool, WF_eq, W1_some, WX_some, WH_some1, WC_true, WG_false, WG_tf, ↓ev_t, ↓ev_c, ↓upd_at, ↓get_cons, ↓frm_nil, ↓frm_cons, bin_add, bin_lss, bin_geq, un_not, pick_t, pick_f, cellsV_agg, one_int, one_str, one_slice, setCells_nil, setCells_cons, load_ptr, ldO_cells, part_none, store_ptr, stO_cells, fld_ptr, geta, geta0, seta, seta0, newCells, wrap_i64, eq_self, look_map, Bool.not_true, Bool.not_false, List.map_cons, List.map_nil, List.length_append, List.length_cons, List.length_nil, List.all_cons, List.all_nil, Bool.and_self, true_and, and_self, List.getElem?_cons_zero, List.getElem?_cons_succ, List.set_cons_zero, List.set_cons_succ, List.append_assoc, List.cons_append, List.nil_append, Option.map_some, Nat.reduceEqDiff, Nat.reduceAdd, Nat.zero_add, Nat.add_zero, ↓reduceIte, reduceCtorEq, decide_false, Nat.le_refl, *, hl'.len, hl'.ixs, hl'.ldxa, hlv'.ixs, hlv'.lda, encN, hdJ, encT, hcn.one, hp.le, hp.le_add]))
          · rw [decide_eq_false hx1] at w1
            have hf := Hnot.out (by rw [Hjob.out, decide_eq_false (fun e => hx1 (Hn2.out.1 e).2.1)]; rfl)
            rw [hf]
            have m1x : ∀ x, (h' ++ x)[h.length]? = some (.map es) := fun x => by rw [List.getElem?_append_left hlt']; exact m1
            have Hx1 := Hid.mk hx1
            clear hf hx1 w2 w3
            (repeat' (first | ((with_reducible refine WG_dec (fun _ => ?_) (fun _ => ?_)) <;> try (exfalso; omega)) | ((with_reducible refine WG_decF (fun _ => ?_) (fun _ => ?_)) <;> try (exfalso; omega)) | ((with_reducible refine WC_dec (fun _ => ?_) (fun _ => ?_)) <;> try (exfalso; omega)) | refine WC_bool (fun _ => ?_) (fun _ => ?_) | refine WG_bool (fun _ => ?_) (fun _ => ?_) | refine WG_boolF (fun _ => ?_) (fun _ => ?_) | simp -dsimp (disch := omega) only [↓run_nil, ↓run_i, ↓run_k, ↓run_w, ↓op_st, ↓op_call, ↓co_seq, ↓co_skip, ↓co_ret, ↓co_reg, ↓co_cond, ↓co_block, ↓op_mov, ↓op_pick, ↓op_bin, ↓op_un, ↓op_fld, ↓op_ixs, ↓op_lens, ↓op_ld, ↓op_look, ↓op_all, Res_ret, resL_nil, resL_t, resV_one, nn4_bool, WF_eq, W1_some, WX_some, WH_some1, WC_true, WG_false, WG_tf, ↓ev_t, ↓ev_c, ↓upd_at, ↓get_cons, ↓frm_nil, ↓frm_cons, bin_lss, bin_geq, un_not, pick_t, pick_f, cellsV_agg, one_int, one_str, one_slice, setCells_nil, setCells_cons, load_ptr, ldO_cells, part_none, store_ptr, stO_cells, fld_ptr, geta, geta0, seta, seta0, newCells, eq_self, look_map, Bool.not_false, List.map_cons, List.map_nil, List.length_append, List.length_cons, List.length_nil, List.all_cons, List.all_nil, Bool.and_self, true_and, and_self, List.getElem?_cons_zero, List.getElem?_cons_succ, List.set_cons_zero, List.set_cons_succ, List.append_assoc, List.cons_append, List.nil_append, Option.map_some, Nat.reduceEqDiff, Nat.reduceAdd, Nat.zero_add, Nat.add_zero, ↓reduceIte, reduceCtorEq, decide_false, Nat.le_refl, *, hl'.len, hl'.ixs, hl'.ldxa, hlv'.ixs, hlv'.lda, encN, hdJ, encT, hcn.one, hp.le, hp.le_add]))
        · have hf := Hnot.out (by rw [Hjob.out, decide_eq_false (fun e => hin (Hn2.out.1 e).1)]; rfl)
          rw [hf]
          clear hf c1 hoks
          (repeat' (first | ((with_reducible refine WG_dec (fun _ => ?_) (fun _ => ?_)) <;> try (exfalso; omega)) | ((with_reducible refine WG_decF (fun _ => ?_) (fun _ => ?_)) <;> try (exfalso; omega)) | ((with_reducible refine WC_dec (fun _ => ?_) (fun _ => ?_)) <;> try (exfalso; omega)) | refine WC_bool (fun _ => ?_) (fun _ => ?_) | refine WG_bool (fun _ => ?_) (fun _ => ?_) | refine WG_boolF (fun _ => ?_) (fun _ => ?_) | simp -dsimp (disch := omega) only [↓run_nil, ↓run_i, ↓run_k, ↓run_w, ↓op_st, ↓co_seq, ↓co_skip, ↓co_ret, ↓co_reg, ↓co_cond, ↓co_block, ↓op_mov, ↓op_pick, ↓op_bin, ↓op_fld, ↓op_ixs, ↓op_lens, ↓op_ld, ↓op_all, Res_ret, resL_nil, resL_t, resV_one, nn4_bool, WF_eq, W1_some, WH_some1, WC_true, WG_false, WG_tf, ↓ev_t, ↓ev_c, ↓upd_at, ↓get_cons, ↓frm_nil, ↓frm_cons, bin_lss, bin_geq, pick_t, pick_f, cellsV_agg, one_int, one_slice, setCells_nil, setCells_cons, load_ptr, ldO_cells, part_none, store_ptr, stO_cells, fld_ptr, geta0, seta0, newCells, eq_self, List.length_cons, List.length_nil, List.all_cons, List.all_nil, Bool.and_self, true_and, and_self, List.getElem?_cons_zero, List.set_cons_zero, List.set_cons_succ, List.cons_append, List.nil_append, Option.map_some, Nat.reduceEqDiff, Nat.reduceAdd, Nat.zero_add, Nat.add_zero, ↓reduceIte, reduceCtorEq, decide_true, decide_false, Nat.le_refl, *, hl'.len, hlv'.ixs, hlv'.lda, encN, hdJ, hcn.one, hp.le]))
      · have e : n = lv.length := by omega
        subst e
        rw [Hall.out]
        (repeat' (first | ((with_reducible refine WG_dec (fun _ => ?_) (fun _ => ?_)) <;> try (exfalso; omega)) | ((with_reducible refine WG_decF (fun _ => ?_) (fun _ => ?_)) <;> try (exfalso; omega)) | ((with_reducible refine WC_dec (fun _ => ?_) (fun _ => ?_)) <;> try (exfalso; omega)) | refine WC_bool (fun _ => ?_) (fun _ => ?_) | refine WG_bool (fun _ => ?_) (fun _ => ?_) | refine WG_boolF (fun _ => ?_) (fun _ => ?_) | simp -dsimp (disch := omega) only [↓run_nil, ↓run_i, ↓co_seq, ↓co_exit, ↓co_ret, ↓co_reg, ↓co_cond, ↓op_mov, ↓op_bin, Res_ret, resL_nil, resL_t, resV_one, nn4_bool, WF_eq, W1_some, ↓ev_t, ↓ev_c, ↓upd_at, ↓get_cons, ↓frm_nil, ↓frm_cons, bin_lss, eq_self, true_and, Option.map_some, Nat.reduceEqDiff, ↓reduceIte, reduceCtorEq, *]))
    · have hd : legalB l (lv.map (·.j)) = false := by simp [legalB, hle]
      rw [hd]
      rw [decide_eq_true hok] at hca
      (repeat' (first | ((with_reducible refine WG_dec (fun _ => ?_) (fun _ => ?_)) <;> try (exfalso; omega)) | ((with_reducible refine WG_decF (fun _ => ?_) (fun _ => ?_)) <;> try (exfalso; omega)) | ((with_reducible refine WC_dec (fun _ => ?_) (fun _ => ?_)) <;> try (exfalso; omega)) | refine WC_bool (fun _ => ?_) (fun _ => ?_) | refine WG_bool (fun _ => ?_) (fun _ => ?_) | refine WG_boolF (fun _ => ?_) (fun _ => ?_) | simp -dsimp (disch := omega) only [↓run_nil, ↓run_i, ↓run_w, ↓op_call, ↓co_seq, ↓co_ret, ↓co_reg, ↓co_cond, ↓op_mov, ↓op_pick, ↓op_bin, ↓op_un, ↓op_lens, Res_ret, resL_nil, resL_t, resV_one, nn4_bool, WF_eq, W1_some, WX_some, WG_false, ↓ev_t, ↓ev_c, ↓ev_f, ↓upd_at, ↓get_cons, ↓frm_nil, ↓frm_cons, bin_gtr, un_not, pick_f, eq_self, Bool.not_true, List.map_cons, List.map_nil, true_and, Option.map_some, Nat.reduceEqDiff, Nat.reduceAdd, Nat.zero_add, ↓reduceIte, reduceCtorEq, *, hlv.len]))
  · have hd : legalB l (lv.map (·.j)) = false := by simp [legalB, hok]
    rw [hd]
    rw [decide_eq_false hok] at hca
    (repeat' (first | ((with_reducible refine WG_dec (fun _ => ?_) (fun _ => ?_)) <;> try (exfalso; omega)) | ((with_reducible refine WG_decF (fun _ => ?_) (fun _ => ?_)) <;> try (exfalso; omega)) | ((with_reducible refine WC_dec (fun _ => ?_) (fun _ => ?_)) <;> try (exfalso; omega)) | refine WC_bool (fun _ => ?_) (fun _ => ?_) | refine WG_bool (fun _ => ?_) (fun _ => ?_) | refine WG_boolF (fun _ => ?_) (fun _ => ?_) | simp -dsimp (disch := omega) only [↓run_nil, ↓run_i, ↓run_w, ↓op_call, ↓co_seq, ↓co_ret, ↓co_reg, ↓co_cond, ↓op_mov, ↓op_pick, ↓op_un, Res_ret, resL_nil, resL_t, resV_one, nn4_bool, WF_eq, W1_some, WX_some, WC_true, WG_tf, ↓ev_t, ↓ev_c, ↓ev_f, ↓upd_at, ↓get_cons, ↓frm_nil, ↓frm_cons, un_not, pick_t, eq_self, Bool.not_false, List.map_cons, List.map_nil, true_and, Option.map_some, Nat.reduceEqDiff, Nat.reduceAdd, Nat.zero_add, ↓reduceIte, reduceCtorEq, *]))
theorem legalS (hE : Laid E) {h : Heap} {v0 v1 : Value} {l : List Task} {jobs : List Job} (hl : Rd 7 encT h v0 l) (hs : ∀ t ∈ l, t.name.size < 1152921504606846976) (hj : RdJ h v1 jobs) :
    callW E (.func (.func n_script_Legal) #[] #[]) [v0, v1] h = some (.bool (legalB l jobs), h, []) := by
  have q := scriptLegal hE hl hs hj
  refine fn_same hE.script_Legal rfl (by simp) ?_
  simp only [argsF]
  generalize legalB l jobs = b at *
  (repeat' (first | ((with_reducible refine WG_dec (fun _ => ?_) (fun _ => ?_)) <;> try (exfalso; omega)) | ((with_reducible refine WG_decF (fun _ => ?_) (fun _ => ?_)) <;> try (exfalso; omega)) | ((with_reducible refine WC_dec (fun _ => ?_) (fun _ => ?_)) <;> try (exfalso; omega)) | refine WC_bool (fun _ => ?_) (fun _ => ?_) | refine WG_bool (fun _ => ?_) (fun _ => ?_) | refine WG_boolF (fun _ => ?_) (fun _ => ?_) | simp -dsimp (disch := omega) only [↓run_nil, ↓run_i, ↓op_call, ↓co_seq, ↓co_ret, ↓co_reg, ↓op_mov, Res_ret, resL_nil, resL_t, resV_one, nn4_bool, WF_eq, W1_some, WX_some, ↓ev_t, ↓ev_c, ↓ev_f, ↓upd_at, ↓get_cons, ↓frm_nil, ↓frm_cons, eq_self, List.map_cons, List.map_nil, true_and, Option.map_some, Nat.reduceEqDiff, Nat.zero_add, ↓reduceIte, reduceCtorEq, *]))
end Go.L.Try

/- HyperJobs: the jobs of a period are legal, as many of each task as go into it. -/
set_option linter.unusedVariables false
set_option linter.unusedSimpArgs false
set_option maxRecDepth 100000
set_option maxHeartbeats 4000000
namespace Go.L.Try
open Go Go.L
variable {E : Env}
theorem set17_len (l : List Spec) (turn : Int) (plain : Bool) : (set17 l turn plain).length = (setP l 4 turn).length := set17s_len _ _ _ _
theorem set17_get (l : List Spec) (turn : Int) (plain : Bool) {i : Nat} (hi : i < (setP l 4 turn).length) : atI (set17 l turn plain) (i : Int) = mk17 turn plain i (atI (setP l 4 turn) (i : Int)) := by
  rw [atI_nat (by rw [set17_len]; exact hi), atI_nat hi]
  unfold set17 set17s
  rw [List.getElem_mapIdx, if_pos hi]
theorem mk17_ok {turn : Int} {plain : Bool} {i : Nat} {t : Task} (s : SmallT t) (hok : okTask t) : okTask (mk17 turn plain i t) ∧ 0 < (mk17 turn plain i t).T ∧ (mk17 turn plain i t).T ∣ 24 := by
  obtain ⟨⟨w1, w2, w3⟩, w4⟩ := hok
  have hc := c17_in turn i
  have sD := s.D
  have sC := s.C
  have sQ := s.Q
  have sJ := s.J
  have sP := s.P
  have hT : (mk17 turn plain i t).T = 4 ∨ (mk17 turn plain i t).T = 6 ∨ (mk17 turn plain i t).T = 8 ∨ (mk17 turn plain i t).T = 12 ∨ (mk17 turn plain i t).T = 24 := by
    have eT : (mk17 turn plain i t).T = if t.D ≤ c17 turn i then c17 turn i else 24 := rfl
    rw [eT]
    split <;> omega
  have hT2 : t.D ≤ (mk17 turn plain i t).T := by
    show t.D ≤ (if t.D ≤ c17 turn i then c17 turn i else 24)
    split <;> omega
  have hJ : 0 ≤ (mk17 turn plain i t).J ∧ (mk17 turn plain i t).J ≤ t.J := by
    show 0 ≤ (if plain = true then 0 else t.J) ∧ (if plain = true then 0 else t.J) ≤ t.J
    split <;> omega
  have hQ : 1 ≤ (mk17 turn plain i t).Q ∧ (mk17 turn plain i t).Q ≤ t.C := by
    show 1 ≤ (if plain = true then 1 else t.Q) ∧ (if plain = true then 1 else t.Q) ≤ t.C
    split <;> omega
  have e1 : (mk17 turn plain i t).C = t.C := rfl
  have e2 : (mk17 turn plain i t).D = t.D := rfl
  have e3 : (mk17 turn plain i t).P = t.P := rfl
  have e4 : (mk17 turn plain i t).name = t.name := rfl
  refine ⟨⟨⟨w1, w2, ?_⟩, ?_⟩, by omega, ?_⟩
  · rw [e1, e2, e3]
    refine ⟨?_, ?_, ?_, ?_, ?_, ?_⟩ <;> omega
  · unfold fitsB
    rw [e1, e2]
    omega
  · rcases hT with h | h | h | h | h <;> rw [h] <;> decide
theorem set17_valid (l : List Spec) (turn : Int) (plain : Bool) : validP (set17 l turn plain) ∧ (∀ t ∈ set17 l turn plain, 0 < t.T ∧ t.T ∣ 24) ∧ (∀ t ∈ set17 l turn plain, t.name.size = 2) := by
  have hv := setP_valid l (most := 4) turn (by decide) (by decide)
  have hl := setP_len l (most := 4) (turn := turn) (by decide)
  obtain ⟨h1, h2, h3⟩ := valid_iff.1 hv
  have key : ∀ t ∈ set17 l turn plain, ∃ (i : Nat), i < (setP l 4 turn).length ∧ t = mk17 turn plain i (atI (setP l 4 turn) (i : Int)) := fun t ht => by
    obtain ⟨i, hi, rfl⟩ := List.getElem_of_mem ht
    rw [set17_len] at hi
    exact ⟨i, hi, by rw [← set17_get l turn plain hi, atI_nat (by rw [set17_len]; exact hi)]⟩
  have key2 : ∀ t ∈ set17 l turn plain, okTask t ∧ (0 < t.T ∧ t.T ∣ 24) ∧ t.name.size = 2 := fun t ht => by
    obtain ⟨i, hi, rfl⟩ := key t ht
    have hm := atI_mem (l := setP l 4 turn) (i := (i : Int)) (by omega) (by omega)
    have hs := setP_small (l := l) (most := 4) (turn := turn) (by decide) (by decide) hm
    obtain ⟨a, b⟩ := mk17_ok (turn := turn) (plain := plain) (i := i) hs (h2 _ hm)
    exact ⟨a, b, hs.name⟩
  refine ⟨valid_iff.2 ⟨by rw [set17_len]; exact h1, fun t ht => (key2 t ht).1, fun j k hjk hk => ?_⟩, fun t ht => (key2 t ht).2.1, fun t ht => (key2 t ht).2.2⟩
  rw [set17_len] at hk
  rw [set17_get l turn plain (by omega), set17_get l turn plain hk]
  exact h3 j k hjk hk
theorem allH_few {l : List Task} {p : Int} (hp : 0 < p) (hp2 : p ≤ 24) (hT : ∀ t ∈ l, 0 < t.T ∧ t.T ∣ p) : ∀ i, i ≤ l.length → (allH l p i).length ≤ i * 24
  | 0, _ => by simp [allH]
  | i + 1, h => by
    have ih := allH_few hp hp2 hT i (by omega)
    obtain ⟨t0, t1⟩ := hT _ (atI_mem (l := l) (i := (i : Int)) (by omega) (by omega))
    have m := many_dvd t0 hp t1
    have m2 : (manyP (atI l (i : Int)).T p : Int) ≤ 24 := by
      have : (manyP (atI l (i : Int)).T p : Int) * 1 ≤ (manyP (atI l (i : Int)).T p : Int) * (atI l (i : Int)).T := Int.mul_le_mul_of_nonneg_left (by omega) (by omega)
      omega
    show (allH l p i ++ rowH i _ _).length ≤ _
    rw [List.length_append, rowH_len]
    omega
theorem jobs17 {s : List Task} (hv : validP s) {p : Int} (hper : periodP s = some p) (hp : 0 < p) (hp2 : p ≤ 24) (hT : ∀ t ∈ s, 0 < t.T ∧ t.T ∣ p) (hl : s.length ≤ 4) (cap : Int) : jobsH s cap = if cap < p then ([], 0, 15) else (allH s p s.length, p, 0) := by
  have h := allH_few hp hp2 hT s.length (Nat.le_refl _)
  unfold jobsH
  rw [if_neg (fun h => h hv), hper]
  dsimp only
  by_cases hc : cap < p
  · rw [if_pos hc, if_pos hc]
  · rw [if_neg hc, if_neg hc, if_neg (by omega)]
theorem hyperJobs (hE : Laid E) (ha : ∀ h, callW E (.func (.func n_cadencylaw17_awake) #[] #[]) [] h = some (.bool true, h, [])) {h : Heap} {vl : Value} {l : List Spec} {turn cap : Int} (hl : Rd 5 encSp h vl l) (ht : i64in turn) (hcap : u64in cap) :
    callW E (.func (.func n_cadencylaw17_HyperJobs) #[] #[]) [vl, .int .i64 turn, .int .u64 cap] h = some (.bool true, h, []) := by
  refine fn_same hE.cadencylaw17_HyperJobs rfl (by simp) ?_
  simp only [argsF]
  (repeat' (first | ((with_reducible refine WG_dec (fun _ => ?_) (fun _ => ?_)) <;> try (exfalso; omega)) | ((with_reducible refine WG_decF (fun _ => ?_) (fun _ => ?_)) <;> try (exfalso; omega)) | ((with_reducible refine WC_dec (fun _ => ?_) (fun _ => ?_)) <;> try (exfalso; omega)) | refine WC_bool (fun _ => ?_) (fun _ => ?_) | refine WG_bool (fun _ => ?_) (fun _ => ?_) | refine WG_boolF (fun _ => ?_) (fun _ => ?_) | simp -dsimp (disch := omega) only [↓run_nil, ↓run_i, ↓op_call, ↓co_seq, ↓co_reg, ↓op_mov, WF_eq, W1_some, WX_some, ↓ev_t, ↓ev_c, ↓ev_f, ↓upd_at, ↓get_cons, ↓frm_nil, ↓frm_cons, eq_self, List.map_cons, List.map_nil, Nat.reduceEqDiff, Nat.reduceAdd, Nat.zero_add, ↓reduceIte, reduceCtorEq, *]))
  refine wx_new (set_at17 hE hl ht false) fun v8 ys r8 p1 => ?_
  obtain ⟨hv, h24, hnm0⟩ := set17_valid l turn false
  have hsl := setP_len l (most := 4) (turn := turn) (by decide)
  rw [← set17_len l turn false] at hsl
  have rs := r8.rd
  clear r8
  generalize set17 l turn false = s at *
  have hnm : ∀ t ∈ s, t.name.size < 1152921504606846976 := fun t ht => by have := hnm0 t ht; omega
  obtain ⟨p, hper, hp0, hp24, hdv⟩ := period24 h24
  have hTp : ∀ t ∈ s, 0 < t.T ∧ t.T ∣ p := fun t ht => ⟨(h24 t ht).1, hdv t ht⟩
  have hT24 : ∀ t ∈ s, t.T ≤ 24 := fun t ht => Int.le_of_dvd (by decide) (h24 t ht).2
  have hj := jobs17 hv hper hp0 hp24 hTp (by omega)
  have hfew := allH_few hp0 hp24 hTp s.length (Nat.le_refl _)
  have hleg := allH_legal hv (p := p) (by omega) (by omega)
  have hoks := (checkAll_ok hv).2.2
  have hlaid := all_laid (p := p) hoks (by omega) s.length (Nat.le_refl _)
  have hcnt := allH_of (p := p) hoks (by omega) s.length (Nat.le_refl _)
  generalize hA : allH s p s.length = A at *
  generalize _ ++ ys = H1 at *
  have hperP := loadPeriod hE rs (fun t ht => by have := hT24 t ht; omega)
  rw [hper, show perV (some p) = .tuple #[.int .u64 p, .bool true] from rfl] at hperP
  have hpp : ∀ q, periodP s = some q → 0 < q ∧ q ≤ 4611686018427387904 := fun q hq => by rw [hper] at hq; cases hq; omega
  have Hj := Hid.mk hj
  have Hv := Hid.mk hv
  have Hleg := Hid.mk hleg
  have Hlaid := Hid.mk hlaid
  have Hcnt := Hid.mk hcnt
  have Hdv := Hid.mk hTp
  have HT24 := Hid.mk hT24
  have Hoks := Hid.mk hoks
  clear hj hv hleg hlaid hcnt hTp hT24 hoks h24 hdv hper hA hnm0
  have o8 := rs.one
  have c8 := rs.cv
  unfold u64in at hcap
  (repeat' (first | ((with_reducible refine WG_dec (fun _ => ?_) (fun _ => ?_)) <;> try (exfalso; omega)) | ((with_reducible refine WG_decF (fun _ => ?_) (fun _ => ?_)) <;> try (exfalso; omega)) | ((with_reducible refine WC_dec (fun _ => ?_) (fun _ => ?_)) <;> try (exfalso; omega)) | refine WC_bool (fun _ => ?_) (fun _ => ?_) | refine WG_bool (fun _ => ?_) (fun _ => ?_) | refine WG_boolF (fun _ => ?_) (fun _ => ?_) | simp -dsimp (disch := omega) only [↓run_nil, ↓run_i, ↓op_call, ↓co_seq, ↓co_reg, ↓op_mov, ↓op_ext, WF_eq, W1_some, WX_some, ↓ev_t, ↓ev_c, ↓ev_f, ↓upd_at, ↓get_cons, ↓frm_nil, ↓frm_cons, ext_tuple, nt_int, nt_bool, eq_self, List.map_cons, List.map_nil, List.getElem?_cons_zero, List.getElem?_cons_succ, Nat.reduceEqDiff, ↓reduceIte, reduceCtorEq, *]))
  refine wx_new (jobsS hE rs hnm (cap := 24) (by unfold u64in; omega) hpp) fun vj ys rj p2 => ?_
  rw [Hj.out 24, if_neg (by omega)] at rj
  obtain ⟨w1, rfl, ro1⟩ := rj.open
  have P2 := p1.trans p2
  replace rs := rs.pre p2
  generalize _ ++ ys = H2 at *
  obtain ⟨lv, rfl, ho, hw⟩ := ro1.is
  have rj1 := ro1.rd
  have o1 := ho.rd.one
  have c1 := ho.rd.cv
  have nt1 : noTuple w1 = true := by
    obtain ⟨⟨a, b, c, rfl⟩, _⟩ := ho.rd.shape
    rfl
  clear rj p1 p2 hperP
  (repeat' (first | ((with_reducible refine WG_dec (fun _ => ?_) (fun _ => ?_)) <;> try (exfalso; omega)) | ((with_reducible refine WG_decF (fun _ => ?_) (fun _ => ?_)) <;> try (exfalso; omega)) | ((with_reducible refine WC_dec (fun _ => ?_) (fun _ => ?_)) <;> try (exfalso; omega)) | refine WC_bool (fun _ => ?_) (fun _ => ?_) | refine WG_bool (fun _ => ?_) (fun _ => ?_) | refine WG_boolF (fun _ => ?_) (fun _ => ?_) | simp -dsimp (disch := omega) only [↓run_nil, ↓run_i, ↓op_call, ↓co_seq, ↓co_reg, ↓op_mov, ↓op_ext, WF_eq, W1_some, ↓ev_t, ↓ev_f, ↓upd_at, ↓get_cons, ↓frm_nil, ↓frm_cons, ext_tuple, nt_int, eq_self, List.map_cons, List.map_nil, List.getElem?_cons_zero, List.getElem?_cons_succ, Nat.reduceEqDiff, ↓reduceIte, *]))
  refine wx_new (jobsS hE rs hnm (cap := cap) (by unfold u64in; omega) hpp) fun v3 ys r3 p3 => ?_
  rw [Hj.out cap] at r3
  obtain ⟨w3, rfl, ro3⟩ := r3.open
  have P3 := P2.trans p3
  replace rs := rs.pre p3
  have ho3 := ho.rd.pre p3
  have hw3 := fun q hq => ((hw q hq).1.pre p3)
  replace rj1 := rj1.pre p3
  generalize _ ++ ys = H3 at *
  have hok3 : (if cap < p then (([] : List Job), (0 : Int), (15 : Int)) else (lv.map (·.j), p, 0)).2.2 = if cap < p then 15 else 0 := by split <;> rfl
  rw [hok3]
  obtain ⟨lv3, _, hrd3⟩ := rowNO ro3
  have nt3 : noTuple w3 = true := by
    obtain ⟨⟨a, b, c, rfl⟩, _⟩ := hrd3.shape
    rfl
  have o3 := hrd3.one
  have c3 := hrd3.cv
  generalize hx3 : (if cap < p then (([] : List Job), (0 : Int), (15 : Int)) else (lv.map (·.j), p, 0)).2.1 = x3
  have hleg := legalS hE rs hnm rj1
  rw [Hleg.out] at hleg
  clear hx3 hok3 r3 ro3 hrd3 rj1 ro1
  generalize he3 : (if cap < p then (15 : Int) else 0) = e3
  have He3 := Hid.mk he3
  clear he3
  have hsl2 : lv.length ≤ 96 := by rw [List.length_map] at hfew; omega
  have Hfew := Hid.mk hfew
  clear hfew
  have few := ho3.few
  have fews := rs.few
  (repeat' (first | ((with_reducible refine WG_dec (fun _ => ?_) (fun _ => ?_)) <;> try (exfalso; omega)) | ((with_reducible refine WG_decF (fun _ => ?_) (fun _ => ?_)) <;> try (exfalso; omega)) | ((with_reducible refine WC_dec (fun _ => ?_) (fun _ => ?_)) <;> try (exfalso; omega)) | refine WC_bool (fun _ => ?_) (fun _ => ?_) | refine WG_bool (fun _ => ?_) (fun _ => ?_) | refine WG_boolF (fun _ => ?_) (fun _ => ?_) | simp -dsimp (disch := omega) only [↓run_nil, ↓run_i, ↓run_w, ↓op_call, ↓co_seq, ↓co_skip, ↓co_reg, ↓co_cond, ↓co_block, ↓co_loop, ↓op_mov, ↓op_pick, ↓op_bin, ↓op_un, ↓op_ext, ↓op_mkm, WF_eq, W1_some, WX_some, WC_false, WG_false, ↓ev_t, ↓ev_c, ↓ev_f, ↓upd_at, ↓get_cons, ↓frm_nil, ↓frm_cons, bin_neq, un_not, pick_f, ext_tuple, nt_int, eq_self, Bool.not_true, List.map_cons, List.map_nil, List.getElem?_cons_zero, List.getElem?_cons_succ, Nat.reduceEqDiff, ↓reduceIte, decide_false, not_true_eq_false, *]))
  clear hleg
  refine WO.loop (fun (n : Nat) fr h' => Pre H3 h' ∧ H3.length < h'.length ∧ n ≤ lv.length ∧ get fr 2 = .int .u64 cap ∧ get fr 7 = .bool true ∧ get fr 8 = v8 ∧ get fr 9 = .int .u64 p ∧ get fr 11 = w1 ∧ get fr 16 = .int .i64 e3 ∧ get fr 17 = .map (some H3.length) ∧ get fr 18 = .int .i64 n ∧ ∃ es, h'[H3.length]? = some (.map es) ∧ IKeys .i64 es ∧ ∀ t : Int, (mapI .i64 es t).getD (.int .u64 0) = .int .u64 (ofT ((lv.map (·.j)).take n) t)) (fun n => lv.length - n) ?_ 0 ⟨Pre.app H3 _, by simp, Nat.zero_le _, rfl, rfl, rfl, rfl, rfl, rfl, rfl, rfl, [], by rw [geta0]; rfl, (fun e he => nomatch he), fun t => rfl⟩
  rintro n fr h' ⟨hp, hlt', hn, g2, g7, g8, g9, g11, g16, g17, g18, es, m1, k1, k2⟩
  have hl' := rs.pre hp
  have hj' := ho3.pre hp
  unfold c_cadencylaw17_HyperJobs_l0
  rcases Nat.lt_or_ge n lv.length with hlt | hge
  · have hmem := atI_mem (l := lv) (i := (n : Int)) (by omega) (by omega)
    have hcn := (hw3 _ hmem).pre hp
    have e2 : atI (lv.map (·.j)) (n : Int) = (atI lv n).j := (atI_map' (fun q : NV Job => q.j) lv n (by omega) (by omega)).symm
    obtain ⟨q1, q2, q3, q4⟩ := Hlaid.out.nth n (by rw [List.length_map]; exact hlt)
    rw [e2] at q1 q2 q3 q4
    have hok := allOk_at Hlaid.out.ok n (by rw [List.length_map]; exact hlt)
    simp only [jobOkB, Bool.and_eq_true, decide_eq_true_eq] at hok
    have hin := hok.1.1
    rw [e2] at hin
    have htk := Hoks.out _ (atI_mem hin.1 hin.2)
    have h24 := HT24.out _ (atI_mem hin.1 hin.2)
    have hT := (Hdv.out _ (atI_mem hin.1 hin.2)).1
    have hof : ofT ((lv.map (·.j)).take n) (atI lv (n : Int)).j.task ≤ 96 := by
      have := List.countP_le_length (p := fun j : Job => decide (j.task = (atI lv (n : Int)).j.task)) (l := (lv.map (·.j)).take n)
      unfold ofT
      rw [List.length_take] at this
      omega
    rw [q4] at hcn
    have hcl := hcn.len
    have hco := hcn.one
    have hcc := hcn.cv
    rw [show ((([] : List Int).length : Nat) : Int) = 0 from rfl] at hcl
    have hml2 : h.length ≤ h'.length ∧ h.length ≤ H3.length := by have := P3.le; have := hp.le; omega
    clear hcn
    have m1x : ∀ x, (h' ++ x)[H3.length]? = some (.map es) := fun x => by rw [List.getElem?_append_left hlt']; exact m1
    have hkT : 0 ≤ (ofT ((lv.map (·.j)).take n) (atI lv (n : Int)).j.task : Int) * (atI s (atI lv (n : Int)).j.task).T ∧ (ofT ((lv.map (·.j)).take n) (atI lv (n : Int)).j.task : Int) * (atI s (atI lv (n : Int)).j.task).T ≤ 96 * 24 := ⟨Int.mul_nonneg (by omega) (by omega), Int.mul_le_mul (by omega) h24 (by omega) (by decide)⟩
    have hL := lk_int k1 (.int .u64 0) (atI lv (n : Int)).j.task
    have hK := k2 (atI lv (n : Int)).j.task
    rw [hK] at hL
    have hofs : ∀ t : Int, ofT ((lv.map (·.j)).take (n + 1)) t = ofT ((lv.map (·.j)).take n) t + if (atI lv (n : Int)).j.task = t then 1 else 0 := fun t => by
      rw [take_snoc (by rw [List.length_map]; exact hlt), e2, ofT_snoc]
    obtain ⟨es', z1, z2, z3⟩ := put_int (.int .u64 ((ofT ((lv.map (·.j)).take n) (atI lv (n : Int)).j.task : Int) + 1)) k1 (atI lv (n : Int)).j.task
    have M1 := mp_int z1
    have Z3 := Hid.mk z3
    have K2 := Hid.mk k2
    have Hofs := Hid.mk hofs
    have hml := hp.le
    have Hp := Hid.mk hp
    clear z1 z3 k2 hK hofs e2 hok htk hw3 hmem ho hw
    have Q2 := Hid.mk q2
    generalize hk : ofT ((lv.map (·.j)).take n) (atI lv (n : Int)).j.task = K at *
    (repeat' (first | ((with_reducible refine WG_dec (fun _ => ?_) (fun _ => ?_)) <;> try (exfalso; omega)) | ((with_reducible refine WG_decF (fun _ => ?_) (fun _ => ?_)) <;> try (exfalso; omega)) | ((with_reducible refine WC_dec (fun _ => ?_) (fun _ => ?_)) <;> try (exfalso; omega)) | refine WC_bool (fun _ => ?_) (fun _ => ?_) | refine WG_bool (fun _ => ?_) (fun _ => ?_) | refine WG_boolF (fun _ => ?_) (fun _ => ?_) | simp -dsimp (disch := omega) only [↓run_nil, ↓run_i, ↓run_k, ↓rd_nil, ↓rd_i, ↓rd_w, ↓op_st, ↓co_seq, ↓co_skip, ↓co_reg, ↓co_drw, ↓co_cond, ↓co_block, ↓op_mov, ↓op_bin, ↓op_fld, ↓op_ixs, ↓op_lens, ↓op_ld, ↓op_look, ↓op_all, ↓op_mup, ↓opd_mov, ↓opd_pick, ↓opd_bin, ↓opd_cvi, ↓opd_fld, ↓opd_ixs, ↓opd_lens, ↓opd_ld, ↓opd_look, WF_eq, W1_some, WX_some1, WH_some1, WG_false, ↓ev_t, ↓ev_c, ↓upd_at, ↓get_cons, ↓frm_nil, ↓frm_cons, bin_add, bin_mul, bin_neq, bin_lss, bin_gtr, cvi_int, pick_f, cellsV_agg, one_int, one_str, setCells_nil, setCells_cons, load_ptr, ldO_cells, part_none, store_ptr, stO_cells, fld_ptr, geta0, seta0, room0, newCells, wrap_i64, wrap_u64, eq_self, look_map, mup_map, List.length_cons, List.length_nil, List.all_cons, List.all_nil, Bool.and_self, true_and, and_self, List.getElem?_cons_zero, List.getElem?_cons_succ, List.getD_cons_zero, List.getD_cons_succ, List.set_cons_zero, List.set_cons_succ, List.cons_append, List.nil_append, Nat.reduceEqDiff, Nat.reduceAdd, Nat.zero_add, Nat.add_zero, ↓reduceIte, decide_false, not_true_eq_false, Nat.le_refl, *, hl'.ixs, hl'.lda, hj'.len, hj'.ixs, hj'.ld0, hj'.ldx, hj'.ldx0, encT, encN, hdJ]))
    refine Next.mk (n + 1) ⟨(Hp.out.app' _).set (Nat.le_refl _) _, by simp; omega, by omega, rfl, rfl, rfl, rfl, rfl, rfl, rfl, rfl, es', gset (by simp; omega), z2, fun t => ?_⟩ (by omega)
    rw [Z3.out, Hofs.out]
    by_cases ht : (atI lv (n : Int)).j.task = t
    · rw [if_pos ht.symm, if_pos ht, ← ht, hk]; simp
    · rw [if_neg (fun e => ht e.symm), if_neg ht, Nat.add_zero]; exact K2.out t
  · have e : n = lv.length := by omega
    subst e
    rw [List.take_of_length_le (by simp)] at k2
    have K2 := Hid.mk k2
    clear k2 ho hw hw3
    (repeat' (first | ((with_reducible refine WG_dec (fun _ => ?_) (fun _ => ?_)) <;> try (exfalso; omega)) | ((with_reducible refine WG_decF (fun _ => ?_) (fun _ => ?_)) <;> try (exfalso; omega)) | ((with_reducible refine WC_dec (fun _ => ?_) (fun _ => ?_)) <;> try (exfalso; omega)) | refine WC_bool (fun _ => ?_) (fun _ => ?_) | refine WG_bool (fun _ => ?_) (fun _ => ?_) | refine WG_boolF (fun _ => ?_) (fun _ => ?_) | simp -dsimp (disch := omega) only [↓run_nil, ↓run_i, ↓co_seq, ↓co_exit, ↓co_reg, ↓co_cond, ↓co_block, ↓co_loop, ↓op_mov, ↓op_bin, ↓op_lens, WF_eq, W1_some, ↓ev_t, ↓ev_c, ↓upd_at, ↓get_cons, ↓frm_nil, ↓frm_cons, bin_lss, eq_self, Nat.reduceEqDiff, ↓reduceIte, *, hj'.len]))
    refine WO.loop (fun (i : Nat) fr hh => hh = h' ∧ i ≤ s.length ∧ get fr 2 = .int .u64 cap ∧ get fr 7 = .bool true ∧ get fr 8 = v8 ∧ get fr 9 = .int .u64 p ∧ get fr 16 = .int .i64 e3 ∧ get fr 17 = .map (some H3.length) ∧ get fr 20 = .int .i64 i) (fun i => s.length - i) ?_ 0 ⟨rfl, Nat.zero_le _, rfl, rfl, rfl, rfl, rfl, rfl, rfl⟩
    rintro i fr hh ⟨rfl, hi, g2, g7, g8, g9, g16, g17, g20⟩
    unfold c_cadencylaw17_HyperJobs_l1
    rcases Nat.lt_or_ge i s.length with hlt | hge
    · have hmem := atI_mem (l := s) (i := (i : Int)) (by omega) (by omega)
      have h24 := HT24.out _ hmem
      obtain ⟨hT, hd⟩ := Hdv.out _ hmem
      have hmm := many_dvd hT hp0 hd
      rw [← Hcnt.out i hlt] at hmm
      have hL := lk_int k1 (.int .u64 0) (i : Int)
      have hK := K2.out (i : Int)
      rw [hK] at hL
      have hof : ofT (lv.map (·.j)) (i : Int) ≤ 96 := by
        have := List.countP_le_length (p := fun j : Job => decide (j.task = (i : Int))) (l := lv.map (·.j))
        unfold ofT
        rw [List.length_map] at this
        omega
      clear hK hd
      generalize ofT (lv.map (·.j)) (i : Int) = K at *
      (repeat' (first | ((with_reducible refine WG_dec (fun _ => ?_) (fun _ => ?_)) <;> try (exfalso; omega)) | ((with_reducible refine WG_decF (fun _ => ?_) (fun _ => ?_)) <;> try (exfalso; omega)) | ((with_reducible refine WC_dec (fun _ => ?_) (fun _ => ?_)) <;> try (exfalso; omega)) | refine WC_bool (fun _ => ?_) (fun _ => ?_) | refine WG_bool (fun _ => ?_) (fun _ => ?_) | refine WG_boolF (fun _ => ?_) (fun _ => ?_) | simp -dsimp (disch := omega) only [↓run_nil, ↓run_i, ↓rd_nil, ↓rd_i, ↓co_seq, ↓co_skip, ↓co_reg, ↓co_drw, ↓co_cond, ↓co_block, ↓op_mov, ↓op_bin, ↓op_lens, ↓opd_mov, ↓opd_bin, ↓opd_cvi, ↓opd_fld, ↓opd_ixs, ↓opd_ld, ↓opd_look, WF_eq, W1_some, WC_false, ↓ev_t, ↓ev_c, ↓upd_at, ↓get_cons, ↓frm_nil, ↓frm_cons, bin_add, bin_mul, bin_neq, bin_lss, cvi_int, load_ptr, fld_ptr, room0, wrap_i64, wrap_u64, eq_self, look_map, List.getD_cons_zero, List.getD_cons_succ, Nat.reduceEqDiff, ↓reduceIte, decide_false, not_true_eq_false, *, hl'.len, hl'.ixs, hl'.ld, encT]))
      exact Next.mk (i + 1) ⟨rfl, by omega, rfl, rfl, rfl, rfl, rfl, rfl, rfl⟩ (by omega)
    · have e : i = s.length := by omega
      subst e
      have he := He3.out
      by_cases hc : cap < p
      · rw [if_pos hc] at he
        subst he
        (repeat' (first | ((with_reducible refine WG_dec (fun _ => ?_) (fun _ => ?_)) <;> try (exfalso; omega)) | ((with_reducible refine WG_decF (fun _ => ?_) (fun _ => ?_)) <;> try (exfalso; omega)) | ((with_reducible refine WC_dec (fun _ => ?_) (fun _ => ?_)) <;> try (exfalso; omega)) | refine WC_bool (fun _ => ?_) (fun _ => ?_) | refine WG_bool (fun _ => ?_) (fun _ => ?_) | refine WG_boolF (fun _ => ?_) (fun _ => ?_) | simp -dsimp (disch := omega) only [↓run_nil, ↓run_i, ↓run_w, ↓co_seq, ↓co_exit, ↓co_ret, ↓co_reg, ↓co_cond, ↓op_mov, ↓op_pick, ↓op_bin, ↓op_lens, Res_ret, resL_nil, resL_t, resV_one, nn4_bool, WF_eq, W1_some, WG_true, WG_false, WG_ft, WG_undef, ↓ev_t, ↓ev_c, ↓upd_at, ↓get_cons, ↓frm_nil, ↓frm_cons, bin_eql, bin_lss, bin_geq, bin_beq, pick_t, pick_f, eq_self, true_and, Option.map_some, Nat.reduceEqDiff, ↓reduceIte, decide_true, decide_false, *, hl'.len]))
        all_goals
          exfalso
          rename_i hz
          rw [decide_eq_false (show ¬ p ≤ cap by omega)] at hz
          revert hz
          decide
      · rw [if_neg hc] at he
        subst he
        (repeat' (first | ((with_reducible refine WG_dec (fun _ => ?_) (fun _ => ?_)) <;> try (exfalso; omega)) | ((with_reducible refine WG_decF (fun _ => ?_) (fun _ => ?_)) <;> try (exfalso; omega)) | ((with_reducible refine WC_dec (fun _ => ?_) (fun _ => ?_)) <;> try (exfalso; omega)) | refine WC_bool (fun _ => ?_) (fun _ => ?_) | refine WG_bool (fun _ => ?_) (fun _ => ?_) | refine WG_boolF (fun _ => ?_) (fun _ => ?_) | simp -dsimp (disch := omega) only [↓run_nil, ↓run_i, ↓run_w, ↓co_seq, ↓co_exit, ↓co_ret, ↓co_reg, ↓co_cond, ↓op_mov, ↓op_pick, ↓op_bin, ↓op_lens, Res_ret, resL_nil, resL_t, resV_one, nn4_bool, WF_eq, W1_some, WG_true, WG_tf, WG_ft, WG_undef, ↓ev_t, ↓ev_c, ↓upd_at, ↓get_cons, ↓frm_nil, ↓frm_cons, bin_eql, bin_lss, bin_geq, bin_beq, pick_t, pick_f, eq_self, true_and, Option.map_some, Nat.reduceEqDiff, ↓reduceIte, decide_true, *, hl'.len]))
        all_goals
          exfalso
          rename_i hz
          rw [decide_eq_true (show p ≤ cap by omega)] at hz
          revert hz
          decide
end Go.L.Try