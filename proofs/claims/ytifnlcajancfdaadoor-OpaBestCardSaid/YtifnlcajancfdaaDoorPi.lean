/- OPA: the laws' own small things: awake, rest. -/
import Derived.Test.YtifnlcajancfdaaDoorPh
import Derived.Test.YtifnlcajancfdaaDoorPf
set_option linter.unusedVariables false
set_option linter.unusedSimpArgs false
set_option maxRecDepth 100000
set_option maxHeartbeats 2000000
namespace Go.L.Try
open Go Go.L
variable {E : Env} {G : Nat}
def twoL : List Task := [⟨⟨#[97]⟩, 2, 9, 9, 0, 1, 1⟩, ⟨⟨#[98]⟩, 1, 4, 2, 0, 1, 2⟩]
theorem two_is : assignP twoL = ([1, 0], 0, 2, 0) := by decide +kernel
theorem two_name : ∀ t ∈ twoL, t.name.size < 1152921504606846976 := by decide +kernel
theorem found_open {r : List Int × Nat × Nat × Int} {h : Heap} {v : Value} (f : FoundV r h v) : ∃ vo, v = .tuple #[.agg #[vo, .int .i64 (r.2.1 : Int), .int .i64 (r.2.2.1 : Int)], .int .i64 r.2.2.2] ∧ Rd 1 encI h vo r.1 := by
  obtain ⟨vs, rfl, hv⟩ := f
  rcases hv with _ | @⟨_, _, va, _, ra, _ | @⟨_, _, vb, _, rb, _ | _⟩⟩
  obtain ⟨us, rfl, hu⟩ := ra
  rcases hu with _ | @⟨_, _, u1, _, r1, _ | @⟨_, _, u2, _, r2, _ | @⟨_, _, u3, _, r3, _ | _⟩⟩⟩
  
  subst r2; subst r3; subst rb
  exact ⟨_, rfl, r1⟩
theorem awake19 (hE : Laid E) (hX : LaidAdd E) (hZ : LaidTz E G) (hI : LaidIns E) {h : Heap} (ht : Tab G h) :
    callW E (.func (.func n_law19_awake) #[] #[]) [] h = some (.bool true, h, []) := by
  refine fn_same hE.law19_awake rfl (by simp) ?_
  simp only [argsF]
  (repeat' (first | (with_reducible refine A1 (fun _ => ?_) (fun _ => ?_) <;> try (exfalso; omega)) | (with_reducible refine A2 (fun _ => ?_) (fun _ => ?_) <;> try (exfalso; omega)) | (with_reducible refine A3 (fun _ => ?_) (fun _ => ?_) <;> try (exfalso; omega)) | refine A4 (fun _ => ?_) (fun _ => ?_) | refine A5 (fun _ => ?_) (fun _ => ?_) | refine A6 (fun _ => ?_) (fun _ => ?_) | simp -dsimp (disch := omega) only [↓EA, EB, Nat.reduceEqDiff, Nat.reduceAdd, Nat.reduceLeDiff, Nat.reduceMul, ↓reduceIte, reduceCtorEq, newCells, bslV, eq_self, *]))
  refine wx_new (assignS hE hX hZ hI (ht.app _) (Rd.lit (enc := encT) twoL (by rw [geta0]; rfl) rfl (fun _ => rfl) (by decide) (by decide) (.inl rfl)) two_name) fun v ys hr hp => ?_
  rw [two_is] at hr
  obtain ⟨vo, rfl, ha⟩ := found_open hr
  have la : lensV false vo = some (.int .i64 2) := ha.len
  have oa := ha.one
  have ca := ha.cv
  have z0 := ha.ixs .i64 0 (by decide) (by decide)
  have z1 := ha.ixs .i64 1 (by decide) (by decide)
  generalize hH : h ++ _ ++ ys = H at *
  have hHl : h.length ≤ H.length := by rw [← hH]; simp
  have x0 : ∀ x, ldO (H ++ x)[blk vo]? _ _ = some (.int .i64 1) := fun x => (ha.app x).ld0 0 (by decide) (by decide) (by decide)
  have x1 : ∀ x, ldO (H ++ x)[blk vo]? _ _ = some (.int .i64 0) := fun x => (ha.app x).ld0 1 (by decide) (by decide) (by decide)
  clear hH
  (repeat' (first | (with_reducible refine A1 (fun _ => ?_) (fun _ => ?_) <;> try (exfalso; omega)) | (with_reducible refine A2 (fun _ => ?_) (fun _ => ?_) <;> try (exfalso; omega)) | (with_reducible refine A3 (fun _ => ?_) (fun _ => ?_) <;> try (exfalso; omega)) | refine A4 (fun _ => ?_) (fun _ => ?_) | refine A5 (fun _ => ?_) (fun _ => ?_) | refine A6 (fun _ => ?_) (fun _ => ?_) | simp -dsimp (disch := omega) only [↓EA, EB, Nat.reduceEqDiff, Nat.reduceAdd, Nat.reduceLeDiff, Nat.reduceMul, ↓reduceIte, reduceCtorEq, newCells, bslV, eq_self, *, encI]))
  rfl
end Go.L.Try
namespace Go.L.Try
open Go Go.L
variable {E : Env} {G : Nat}
theorem small_mid {t : Task} (h : SmallT t) : Mid t := ⟨by have := h.C; omega, by have := h.T; have := h.D; have := h.C; omega, by have := h.J; have := h.D; have := h.C; omega⟩
theorem setP_same {l : List Spec} (hl : l ≠ []) (most t1 t2 : Int) : (setP l most t1).length = (setP l most t2).length ∧ ∀ k : Nat, k < (setP l most t2).length → SameT (atI (setP l most t1) (k : Int)) (atI (setP l most t2) (k : Int)) := by
  have hlen : (setP l most t1).length = (setP l most t2).length := by simp [setP, setPs_len, hl]
  refine ⟨hlen, fun k hk => ?_⟩
  rw [atI_nat (by rw [hlen]; exact hk), atI_nat hk]
  unfold setP
  simp only [hl, if_false]
  have hk2 : k < (l.take most.toNat).length := by simpa [setP, setPs, hl] using hk
  simp only [setPs, List.getElem_mapIdx, List.length_mapIdx, hk2, if_true]
  exact ⟨rfl, rfl, rfl, rfl, rfl⟩
theorem single_fits {t : Task} (hv : validP [t]) (m : Mid t) (S : Nat → Bool) : fitsP [t] 0 S = true := by
  unfold fitsP
  refine decide_eq_true ⟨hv, ⟨by decide, by simp⟩, ?_⟩
  have hs : Sep 1 (2 * (([t] : List Task).length : Int)) ((([t] : List Task).length : Int) + 1) ([t] : List Task).length 0 := sep_op (by simp) (by simp)
  have hx := opG_isP (A := S) hv hs (by simp)
  have hat := opG_at (a := 1) (b := 2 * (([t] : List Task).length : Int)) (c := (([t] : List Task).length : Int) + 1) (i := 0) (A := S) (l := [t]) (k := 0) (by simp)
  have hlen := opG_len 1 (2 * (([t] : List Task).length : Int)) ((([t] : List Task).length : Int) + 1) [t] 0 S
  have h0 : ((0 : Int)).toNat = 0 := rfl
  rw [h0]
  have hat0 : atI [t] ((0 : Nat) : Int) = t := rfl
  rw [hat0] at hat
  generalize opG 1 (2 * (([t] : List Task).length : Int)) ((([t] : List Task).length : Int) + 1) [t] 0 S = x at *
  have hx' : isP x 0 = true := hx
  have hat' : atI x 0 = _ := hat
  have hmem : atI x 0 ∈ x := atI_mem (by decide) (by rw [hlen]; simp)
  have hm : ∀ u ∈ x, Mid u := fun u hu => by
    obtain ⟨k, hk, rfl⟩ := List.getElem_of_mem hu
    have : k = 0 := by rw [hlen] at hk; simp at hk; exact hk
    subst this
    have e : atI x ((0 : Nat) : Int) = x[0] := atI_nat hk
    rw [← e, hat]; exact ⟨m.C, m.T, m.J⟩
  have ho := (isP_ok hx').2.2 _ hmem
  have hf := ho.2
  simp only [fitsB] at hf
  have hC := (hm _ hmem).C
  have hT := (hm _ hmem).T
  rw [bound_zero hx']
  refine ⟨(atI x 0).C, by omega, by unfold mostP; omega, ?_⟩
  have hJ := (hm _ hmem).J
  rw [need_fullA hx' hm (by rw [hlen]; simp) (by omega), hlen]
  show (atI x 0).C + blockN x 0 1 + hN x 0 _ 1 ≤ _
  unfold blockN hN blockN hN
  have e : atI x ((0 : Nat) : Int) = atI x 0 := rfl
  rw [e, if_neg (by omega), if_neg (by omega)]
  omega
theorem assign_single {t : Task} (hv : validP [t]) (m : Mid t) : assignP [t] = ([0], 0, 1, 0) := by
  unfold assignP
  rw [if_pos hv]
  have e : List.range ([t] : List Task).length = [0] := rfl
  rw [e]
  show assignN [t] 1 [0] [] 0 = _
  unfold assignN pickL
  have := single_fits hv m (inL [0])
  have h0 : fitsP [t] ((0 : Nat) : Int) (inL [0]) = true := this
  rw [if_pos h0]
  rfl
theorem assign_turns (l : List Spec) (t1 t2 : Int) : assignP (setP l 6 t1) = assignP (setP l 6 t2) := by
  have v1 := setP_valid l (most := 6) t1 (by decide) (by decide)
  have v2 := setP_valid l (most := 6) t2 (by decide) (by decide)
  by_cases hl : l = []
  · have key : ∀ t, validP (setP l 6 t) → assignP (setP l 6 t) = ([0], 0, 1, 0) := fun t v => by
      have hone : (setP l 6 t).length = 1 := by simp [setP, setPs_len, hl]
      have hsm := fun u hu => setP_small (l := l) (most := 6) (turn := t) (t := u) (by decide) (by decide) hu
      obtain ⟨u, hu⟩ := List.length_eq_one_iff.1 hone
      rw [hu] at v hsm ⊢
      exact assign_single v (small_mid (hsm u (by simp)))
    rw [key t1 v1, key t2 v2]
  · obtain ⟨h1, h2⟩ := setP_same hl 6 t1 t2
    exact assign_same v1 v2 h1 h2
end Go.L.Try
namespace Go.L.Try
open Go Go.L
variable {E : Env} {G : Nat}
theorem missN_nil (l : List Task) : ∀ n : Nat, missN l n = [] ↔ ∀ k : Nat, k < n → (boundP l (k : Int)).2 = 0
  | 0 => ⟨fun _ k hk => by omega, fun _ => rfl⟩
  | n + 1 => by
    rw [missN_succ]
    have ih := missN_nil l n
    by_cases h : (boundP l (n : Int)).2 ≠ 0
    · rw [if_pos h]
      exact ⟨fun e => by simp at e, fun e => absurd (e n (by omega)) h⟩
    · rw [if_neg h, ih]
      exact ⟨fun e k hk => by rcases Nat.lt_or_ge k n with h2 | h2; exact e k h2; rw [show k = n by omega]; omega, fun e k hk => e k (by omega)⟩
theorem allE_zero (l : List Task) : allE l = 0 ↔ validP l ∧ ∀ k : Nat, k < l.length → (boundP l (k : Int)).2 = 0 := by
  unfold allE
  by_cases hv : validP l
  · rw [if_pos hv, ← missN_nil]
    split
    · rename_i h; exact ⟨fun _ => ⟨hv, h⟩, fun _ => rfl⟩
    · rename_i h; exact ⟨fun e => absurd e (by decide), fun e => absurd e.2 h⟩
  · rw [if_neg hv]
    exact ⟨fun e => absurd e (by decide), fun e => absurd e.1 hv⟩
theorem tests14 (hE : Laid E) {h : Heap} {vl : Value} {l : List Task} (hl : Rd 7 encT h vl l) (hs : ∀ t ∈ l, t.name.size < 1152921504606846976) :
    callW E (.func (.func n_ref14_Tests) #[] #[]) [vl] h = some (.bool (decide (allE l = 0)), h, []) := by
  refine fn_same hE.ref14_Tests rfl (by simp) ?_
  have hb := fun i => bound14 hE hl hs i
  have hc := checkAll04 hE hl hs
  have hll := hl.len
  have few := hl.few
  simp only [argsF]
  (repeat' (first | (with_reducible refine A1 (fun _ => ?_) (fun _ => ?_) <;> try (exfalso; omega)) | (with_reducible refine A2 (fun _ => ?_) (fun _ => ?_) <;> try (exfalso; omega)) | (with_reducible refine A3 (fun _ => ?_) (fun _ => ?_) <;> try (exfalso; omega)) | refine A4 (fun _ => ?_) (fun _ => ?_) | refine A5 (fun _ => ?_) (fun _ => ?_) | refine A6 (fun _ => ?_) (fun _ => ?_) | simp -dsimp (disch := omega) only [↓EA, EB, Nat.reduceEqDiff, Nat.reduceAdd, Nat.reduceLeDiff, Nat.reduceMul, ↓reduceIte, reduceCtorEq, newCells, bslV, eq_self, *]))
  refine WO.loop (fun n fr h' => h' = h ∧ n ≤ l.length ∧ get fr 0 = vl ∧ get fr 3 = .int .i64 n ∧ ∀ k : Nat, k < n → (boundP l (k : Int)).2 = 0) (fun n => l.length - n) ?_ 0 ⟨rfl, Nat.zero_le _, rfl, rfl, fun k hk => by omega⟩
  rintro n fr h' ⟨rfl, hn, g0, g3, hk⟩
  unfold c_ref14_Tests_l0
  have Hk := Hid.mk hk
  clear hk
  rcases Nat.lt_or_ge n l.length with hlt | hge
  · have hbn := hb (n : Int)
    clear hb
    by_cases h0 : (boundP l (n : Int)).2 = 0
    · (repeat' (first | (with_reducible refine A1 (fun _ => ?_) (fun _ => ?_) <;> try (exfalso; omega)) | (with_reducible refine A2 (fun _ => ?_) (fun _ => ?_) <;> try (exfalso; omega)) | (with_reducible refine A3 (fun _ => ?_) (fun _ => ?_) <;> try (exfalso; omega)) | refine A4 (fun _ => ?_) (fun _ => ?_) | refine A5 (fun _ => ?_) (fun _ => ?_) | refine A6 (fun _ => ?_) (fun _ => ?_) | simp -dsimp (disch := omega) only [↓EA, EB, Nat.reduceEqDiff, Nat.reduceAdd, Nat.reduceLeDiff, Nat.reduceMul, ↓reduceIte, reduceCtorEq, newCells, bslV, eq_self, *]))
      exact Next.mk (n + 1) ⟨rfl, by omega, rfl, rfl, fun k hk => by rcases Nat.lt_or_ge k n with h2 | h2; exact Hk.out k h2; rw [show k = n by omega]; exact h0⟩ (by omega)
    · have e : decide (allE l = 0) = false := decide_eq_false fun e => h0 ((allE_zero l).1 e |>.2 n hlt)
      rw [e]
      (repeat' (first | (with_reducible refine A1 (fun _ => ?_) (fun _ => ?_) <;> try (exfalso; omega)) | (with_reducible refine A2 (fun _ => ?_) (fun _ => ?_) <;> try (exfalso; omega)) | (with_reducible refine A3 (fun _ => ?_) (fun _ => ?_) <;> try (exfalso; omega)) | refine A4 (fun _ => ?_) (fun _ => ?_) | refine A5 (fun _ => ?_) (fun _ => ?_) | refine A6 (fun _ => ?_) (fun _ => ?_) | simp -dsimp (disch := omega) only [↓EA, EB, Nat.reduceEqDiff, Nat.reduceAdd, Nat.reduceLeDiff, Nat.reduceMul, ↓reduceIte, reduceCtorEq, newCells, bslV, eq_self, *]))
  · have e : n = l.length := by omega
    subst e
    clear hb
    have e2 : decide (allE l = 0) = decide ((checkAllP l).2 = 0) := by
      refine decide_eq_decide.2 ?_
      rw [allE_zero]
      exact ⟨fun e => e.1, fun e => ⟨e, Hk.out⟩⟩
    rw [e2]
    (repeat' (first | (with_reducible refine A1 (fun _ => ?_) (fun _ => ?_) <;> try (exfalso; omega)) | (with_reducible refine A2 (fun _ => ?_) (fun _ => ?_) <;> try (exfalso; omega)) | (with_reducible refine A3 (fun _ => ?_) (fun _ => ?_) <;> try (exfalso; omega)) | refine A4 (fun _ => ?_) (fun _ => ?_) | refine A5 (fun _ => ?_) (fun _ => ?_) | refine A6 (fun _ => ?_) (fun _ => ?_) | simp -dsimp (disch := omega) only [↓EA, EB, Nat.reduceEqDiff, Nat.reduceAdd, Nat.reduceLeDiff, Nat.reduceMul, ↓reduceIte, reduceCtorEq, newCells, bslV, eq_self, *]))
end Go.L.Try
