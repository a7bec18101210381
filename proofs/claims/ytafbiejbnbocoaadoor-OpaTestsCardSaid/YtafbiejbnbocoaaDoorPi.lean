/- OPA: the laws' own small things: awake, rest. -/
import Derived.Test.YtafbiejbnbocoaaDoorPh
import Derived.Test.YtafbiejbnbocoaaDoorPf
set_option linter.unusedVariables false
set_option linter.unusedSimpArgs false
set_option maxRecDepth 100000
set_option maxHeartbeats 2000000
namespace Go.L.Try
open Go Go.L
variable {E : Env} {G : Nat}
def twoL : List Task := [⟨⟨#[97]⟩, 2, 9, 9, 0, 1, 1⟩, ⟨⟨#[98]⟩, 1, 4, 2, 0, 1, 2⟩]
theorem two_is : assignP twoL = ([1, 0], 0, 2, 0) := by decide +kernel
theorem two_name : ∀ t ∈ twoL, t.name.size < 1152921504606846976 := by decide +kernel
theorem found_open {r : List Int × Nat × Nat × Int} {h : Heap} {v : Value} (f : FoundV r h v) : ∃ vo, v = .tuple #[.agg #[vo, .int .i64 (r.2.1 : Int), .int .i64 (r.2.2.1 : Int)], .int .i64 r.2.2.2] ∧ Rd 1 encI h vo r.1 := by
  obtain ⟨vs, rfl, hv⟩ := f
  rcases hv with _ | @⟨_, _, va, _, ra, _ | @⟨_, _, vb, _, rb, _ | _⟩⟩
  obtain ⟨us, rfl, hu⟩ := ra
  rcases hu with _ | @⟨_, _, u1, _, r1, _ | @⟨_, _, u2, _, r2, _ | @⟨_, _, u3, _, r3, _ | _⟩⟩⟩
  
  subst r2; subst r3; subst rb
  exact ⟨_, rfl, r1⟩
theorem rest19 (hE : Laid E) (h : Heap) (x n : Int) (hn : 0 < n) (hn' : n < 4611686018427387904) : callW E (.func (.func n_law19_rest) #[] #[]) [.int .i64 x, .int .i64 n] h = some (.int .i64 (x % n), h, []) := by
  have hb := tmod_bounds x n hn
  refine fn_same hE.law19_rest rfl (by simp) ?_
  simp -dsimp (disch := omega) only [↓EA, EB, Nat.reduceEqDiff, ↓reduceIte, reduceCtorEq, eq_self, argsF, rest_eq x n hn]
theorem awake19 (hE : Laid E) (hX : LaidAdd E) (hZ : LaidTz E G) (hI : LaidIns E) {h : Heap} (ht : Tab G h) :
    callW E (.func (.func n_law19_awake) #[] #[]) [] h = some (.bool true, h, []) := by
  refine fn_same hE.law19_awake rfl (by simp) ?_
  simp only [argsF]
  (repeat' simp -dsimp (disch := omega) only [↓EA, EB, Nat.reduceEqDiff, Nat.reduceAdd, Nat.reduceLeDiff, Nat.reduceMul, ↓reduceIte, newCells, bslV, eq_self, *])
  refine wx_new (assignS hE hX hZ hI (ht.app _) (Rd.lit (enc := encT) twoL (by rw [geta0]; rfl) rfl (fun _ => rfl) (by decide) (by decide) (.inl rfl)) two_name) fun v ys hr hp => ?_
  rw [two_is] at hr
  obtain ⟨vo, rfl, ha⟩ := found_open hr
  have la : lensV false vo = some (.int .i64 2) := ha.len
  have oa := ha.one
  have ca := ha.cv
  have z0 := ha.ixs .i64 0 (by decide) (by decide)
  have z1 := ha.ixs .i64 1 (by decide) (by decide)
  generalize hH : h ++ _ ++ ys = H at *
  have hHl : h.length ≤ H.length := by rw [← hH]; simp
  have x0 : ∀ x, ldO (H ++ x)[blk vo]? _ _ = some (.int .i64 1) := fun x => (ha.app x).ld0 0 (by decide) (by decide) (by decide)
  have x1 : ∀ x, ldO (H ++ x)[blk vo]? _ _ = some (.int .i64 0) := fun x => (ha.app x).ld0 1 (by decide) (by decide) (by decide)
  clear hH
  (repeat' simp -dsimp (disch := omega) only [↓EA, EB, Nat.reduceEqDiff, Nat.reduceAdd, ↓reduceIte, newCells, eq_self, *])
  rfl
end Go.L.Try
namespace Go.L.Try
open Go Go.L
variable {E : Env} {G : Nat}
theorem small_mid {t : Task} (h : SmallT t) : Mid t := ⟨by have := h.C; omega, by have := h.T; have := h.D; have := h.C; omega, by have := h.J; have := h.D; have := h.C; omega⟩
theorem setP_same {l : List Spec} (hl : l ≠ []) (most t1 t2 : Int) : (setP l most t1).length = (setP l most t2).length ∧ ∀ k : Nat, k < (setP l most t2).length → SameT (atI (setP l most t1) (k : Int)) (atI (setP l most t2) (k : Int)) := by
  have hlen : (setP l most t1).length = (setP l most t2).length := by simp [setP, setPs_len, hl]
  refine ⟨hlen, fun k hk => ?_⟩
  rw [atI_nat (by rw [hlen]; exact hk), atI_nat hk]
  unfold setP
  simp only [hl, if_false]
  have hk2 : k < (l.take most.toNat).length := by simpa [setP, setPs, hl] using hk
  simp only [setPs, List.getElem_mapIdx, List.length_mapIdx, hk2, if_true]
  exact ⟨rfl, rfl, rfl, rfl, rfl⟩
theorem single_fits {t : Task} (hv : validP [t]) (m : Mid t) (S : Nat → Bool) : fitsP [t] 0 S = true := by
  unfold fitsP
  refine decide_eq_true ⟨hv, ⟨by decide, by simp⟩, ?_⟩
  have hs : Sep 1 (2 * (([t] : List Task).length : Int)) ((([t] : List Task).length : Int) + 1) ([t] : List Task).length 0 := sep_op (by simp) (by simp)
  have hx := opG_isP (A := S) hv hs (by simp)
  have hat := opG_at (a := 1) (b := 2 * (([t] : List Task).length : Int)) (c := (([t] : List Task).length : Int) + 1) (i := 0) (A := S) (l := [t]) (k := 0) (by simp)
  have hlen := opG_len 1 (2 * (([t] : List Task).length : Int)) ((([t] : List Task).length : Int) + 1) [t] 0 S
  have h0 : ((0 : Int)).toNat = 0 := rfl
  rw [h0]
  have hat0 : atI [t] ((0 : Nat) : Int) = t := rfl
  rw [hat0] at hat
  generalize opG 1 (2 * (([t] : List Task).length : Int)) ((([t] : List Task).length : Int) + 1) [t] 0 S = x at *
  have hx' : isP x 0 = true := hx
  have hat' : atI x 0 = _ := hat
  have hmem : atI x 0 ∈ x := atI_mem (by decide) (by rw [hlen]; simp)
  have hm : ∀ u ∈ x, Mid u := fun u hu => by
    obtain ⟨k, hk, rfl⟩ := List.getElem_of_mem hu
    have : k = 0 := by rw [hlen] at hk; simp at hk; exact hk
    subst this
    have e : atI x ((0 : Nat) : Int) = x[0] := atI_nat hk
    rw [← e, hat]; exact ⟨m.C, m.T, m.J⟩
  have ho := (isP_ok hx').2.2 _ hmem
  have hf := ho.2
  simp only [fitsB] at hf
  have hC := (hm _ hmem).C
  have hT := (hm _ hmem).T
  rw [bound_zero hx']
  refine ⟨(atI x 0).C, by omega, by unfold mostP; omega, ?_⟩
  have hJ := (hm _ hmem).J
  rw [need_fullA hx' hm (by rw [hlen]; simp) (by omega), hlen]
  show (atI x 0).C + blockN x 0 1 + hN x 0 _ 1 ≤ _
  unfold blockN hN blockN hN
  have e : atI x ((0 : Nat) : Int) = atI x 0 := rfl
  rw [e, if_neg (by omega), if_neg (by omega)]
  omega
theorem assign_single {t : Task} (hv : validP [t]) (m : Mid t) : assignP [t] = ([0], 0, 1, 0) := by
  unfold assignP
  rw [if_pos hv]
  have e : List.range ([t] : List Task).length = [0] := rfl
  rw [e]
  show assignN [t] 1 [0] [] 0 = _
  unfold assignN pickL
  have := single_fits hv m (inL [0])
  have h0 : fitsP [t] ((0 : Nat) : Int) (inL [0]) = true := this
  rw [if_pos h0]
  rfl
theorem assign_turns (l : List Spec) (t1 t2 : Int) : assignP (setP l 6 t1) = assignP (setP l 6 t2) := by
  have v1 := setP_valid l (most := 6) t1 (by decide) (by decide)
  have v2 := setP_valid l (most := 6) t2 (by decide) (by decide)
  by_cases hl : l = []
  · have key : ∀ t, validP (setP l 6 t) → assignP (setP l 6 t) = ([0], 0, 1, 0) := fun t v => by
      have hone : (setP l 6 t).length = 1 := by simp [setP, setPs_len, hl]
      have hsm := fun u hu => setP_small (l := l) (most := 6) (turn := t) (t := u) (by decide) (by decide) hu
      obtain ⟨u, hu⟩ := List.length_eq_one_iff.1 hone
      rw [hu] at v hsm ⊢
      exact assign_single v (small_mid (hsm u (by simp)))
    rw [key t1 v1, key t2 v2]
  · obtain ⟨h1, h2⟩ := setP_same hl 6 t1 t2
    exact assign_same v1 v2 h1 h2
theorem same18 (hE : Laid E) {h : Heap} {va vb : Value} {a b : List Int} (ha : Rd 1 encI h va a) (hb : Rd 1 encI h vb b) :
    callW E (.func (.func n_ref18_Same) #[] #[]) [va, vb] h = some (.bool (decide (a = b)), h, []) := by
  refine fn_same hE.ref18_Same rfl (by simp) ?_
  have few := ha.few
  have few2 := hb.few
  simp only [argsF]
  (repeat' (first | (with_reducible refine A3 (fun _ => ?_) (fun _ => ?_) <;> try (exfalso; omega)) | simp -dsimp (disch := omega) only [↓EA, EB, Nat.reduceEqDiff, ↓reduceIte, reduceCtorEq, eq_self, *, ha.len, hb.len]))
  · have : a ≠ b := fun e => by subst e; simp_all
    simp [this]
  · have hn1 : a.length ≤ b.length := by omega
    have hn2 : b.length ≤ a.length := by omega
    refine WO.loop (fun n fr h' => h' = h ∧ n ≤ a.length ∧ get fr 0 = va ∧ get fr 1 = vb ∧ get fr 5 = .int .i64 n ∧ a.take n = b.take n) (fun n => a.length - n) ?_ 0 ⟨rfl, Nat.zero_le _, rfl, rfl, rfl, rfl⟩
    rintro n fr h' ⟨rfl, hn, g0, g1, g5, ht⟩
    have Ht := Hid.mk ht
    clear ht
    unfold c_ref18_Same_l0
    rcases Nat.lt_or_ge n a.length with hlt | hge
    · (repeat' (first | (with_reducible refine A3 (fun _ => ?_) (fun _ => ?_) <;> try (exfalso; omega)) | simp -dsimp (disch := omega) only [↓EA, EB, Nat.reduceEqDiff, ↓reduceIte, reduceCtorEq, eq_self, *, ha.len, ha.ixs, ha.ld0, hb.ixs, hb.ld0, encI]))
      · have : a ≠ b := fun e => by subst e; simp_all
        simp [this]
      · refine Next.mk (n + 1) ⟨rfl, by omega, rfl, rfl, rfl, ?_⟩ (by omega)
        rw [take_snoc hlt, take_snoc (by omega), Ht.out]
        simp_all
    · have : a = b := by
        have := Ht.out
        rwa [List.take_of_length_le (by omega), List.take_of_length_le (by omega)] at this
      (repeat' (first | (with_reducible refine A3 (fun _ => ?_) (fun _ => ?_) <;> try (exfalso; omega)) | simp -dsimp (disch := omega) only [↓EA, EB, Nat.reduceEqDiff, ↓reduceIte, reduceCtorEq, eq_self, *, ha.len]))
end Go.L.Try
namespace Go.L.Try
open Go Go.L
variable {E : Env} {G : Nat}
theorem tests_law (l : List Spec) (t1 t2 : Int) : assignP (setP l 6 t2) = assignP (setP l 6 t1) ∧ (assignP (setP l 6 t1).reverse).2.2.2 = (assignP (setP l 6 t1)).2.2.2 ∧
    2 * (assignP (setP l 6 t1)).2.2.1 ≤ (setP l 6 t1).length * ((setP l 6 t1).length + 1) ∧ (setP l 6 t1).length ≤ (assignP (setP l 6 t1)).2.2.1 + (assignP (setP l 6 t1)).2.1 ∧ (assignP (setP l 6 t1)).2.1 ≤ (setP l 6 t1).length := by
  have v1 := setP_valid l (most := 6) t1 (by decide) (by decide)
  have hm : ∀ t ∈ setP l 6 t1, Mid t := fun t ht => small_mid (setP_small (l := l) (most := 6) (turn := t1) (t := t) (by decide) (by decide) ht)
  have hl := (setP_len l (most := 6) (turn := t1) (by decide)).2
  exact ⟨assign_turns l t2 t1, assign_back v1 hm (by omega), assign_tests v1⟩
theorem opaTests (hE : Laid E) (hX : LaidAdd E) (hZ : LaidTz E G) (hI : LaidIns E) {h : Heap} (ht : Tab G h) {vl : Value} {l : List Spec} {t1 t2 : Int} (hl : Rd 5 encSp h vl l) (h1 : i64in t1) (h2 : i64in t2) :
    callW E (.func (.func n_law19_OpaTests) #[] #[]) [vl, .int .i64 t1, .int .i64 t2] h = some (.bool true, h, []) := by
  refine fn_same hE.law19_OpaTests rfl (by simp) ?_
  have aw0 := awake19 hE hX hZ hI ht
  have hlaw := Hid.mk (tests_law l t1 t2)
  have hset := setP_len l (most := 6) (turn := t1) (by decide)
  have hsm := fun t ht => setP_small (l := l) (most := 6) (turn := t1) (t := t) (by decide) (by decide) ht
  have hsm2 := fun t ht => setP_small (l := l) (most := 6) (turn := t2) (t := t) (by decide) (by decide) ht
  simp only [argsF]
  (repeat' simp -dsimp (disch := omega) only [↓EA, EB, Nat.reduceEqDiff, Nat.reduceAdd, ↓reduceIte, reduceCtorEq, eq_self, *])
  refine wx_new (set04 hE hl (by decide) (by decide) h1) fun v1 ys r1 p1 => ?_
  have ht1 := ht.pre p1
  have hl1 := hl.pre p1
  generalize h ++ ys = H1 at *
  have o1 := r1.one
  have c1 := r1.cv
  clear aw0
  (repeat' simp -dsimp (disch := omega) only [↓EA, EB, Nat.reduceEqDiff, ↓reduceIte, reduceCtorEq, eq_self, *])
  refine wx_new (set04 hE hl1 (by decide) (by decide) h2) fun v2 ys r2 p2 => ?_
  have ht2 := ht1.pre p2
  have r12 := r1.pre p2
  have P2 := p1.trans p2
  generalize H1 ++ ys = H2 at *
  have o2 := r2.one
  have c2 := r2.cv
  generalize setP l 6 t1 = a at *
  generalize setP l 6 t2 = b at *
  have hna : ∀ t ∈ a, t.name.size < 1152921504606846976 := fun t ht => by have := (hsm t ht).name; omega
  have hnb : ∀ t ∈ b, t.name.size < 1152921504606846976 := fun t ht => by have := (hsm2 t ht).name; omega
  have hla := r12.len
  have hW := P2.le
  clear p1 p2 r1 hl1 ht1 hsm hsm2
  (repeat' simp -dsimp (disch := omega) only [↓EA, EB, Nat.reduceEqDiff, ↓reduceIte, reduceCtorEq, eq_self, *])
  refine WO.loop (fun (n : Nat) fr h' => n ≤ a.length ∧ H2.length ≤ h'.length ∧ Pre H2 h' ∧ get fr 7 = .bool true ∧ get fr 8 = v1 ∧ get fr 9 = v2 ∧ get fr 11 = .int .i64 ((a.length : Int) - 1 - n) ∧ OwnT H2.length 7 encT h' (get fr 10) (a.reverse.take n)) (fun n => a.length - n) ?_ 0 ⟨Nat.zero_le _, Nat.le_refl _, Pre.refl _, rfl, rfl, rfl, by simp only [get]; simp, OwnT.nil⟩
  rintro n fr h' ⟨hn, hHh, hp, g7, g8, g9, g11, hg⟩
  generalize hvg : get fr 10 = vg at hg
  unfold c_law19_OpaTests_l0
  rcases Nat.lt_or_ge n a.length with hlt | hge
  · have hr := r12.pre hp
    have hat : atI a ((a.length : Int) - 1 - n) = atI a.reverse (n : Int) := by
      rw [rev_at hlt]; congr 1; omega
    have Htk := Hid.mk (take_snoc (l := a.reverse) (n := n) (by simpa using hlt))
    have hgl : (a.reverse.take n).length ≤ 6 := by simp; omega
    have he : ((a.length : Int) - 1 - n) - 1 = (a.length : Int) - 1 - ((n + 1 : Nat) : Int) := by omega
    (repeat' (first | (with_reducible refine A3 (fun _ => ?_) (fun _ => ?_) <;> try (exfalso; omega)) | simp -dsimp (disch := omega) only [↓EA, EB, Nat.reduceEqDiff, Nat.reduceAdd, Nat.reduceLeDiff, Nat.reduceMul, ↓reduceIte, newCells, bslV, eq_self, *, hr.ixs, hr.lda, encT]))
    refine wx_app1 (sz := 7) (bytes := 64) (hg.app _) (hp.app' _) (Nat.le_refl _) (by simp; omega) (fun b hb => by show h.length ≤ b; omega) (atI a.reverse (n : Int)) (by simp -dsimp (disch := omega) only [EB, Nat.reduceAdd, Nat.reduceMul, ↓reduceIte]; rfl) rfl (by decide) (by decide) (by omega) ?_
    intro v2' h2' j1 j2 j3 j4 j5
    rw [← Htk.out] at j1
    have j6 : H2.length ≤ h2'.length := j2.le
    clear j3 j4 j5
    (repeat' simp -dsimp (disch := omega) only [↓EA, EB, Nat.reduceEqDiff, ↓reduceIte, eq_self, *])
    exact Next.mk (n + 1) ⟨by omega, j6, j2, rfl, rfl, rfl, by simp only [get]; simp, j1⟩ (by omega)
  · have e : n = a.length := by omega
    subst e
    rw [List.take_of_length_le (by simp)] at hg
    obtain ⟨q1, q2, q3, q4, q5⟩ := hlaw.out
    have rA := r12.pre hp
    have rB := r2.pre hp
    have rC := hg.rd
    have oC := rC.one
    have cC := rC.cv
    have tA := ht2.pre hp
    have hnc : ∀ t ∈ a.reverse, t.name.size < 1152921504606846976 := fun t ht => hna t (by simpa using ht)
    clear hg r12 r2 hp ht2
    (repeat' (first | (with_reducible refine A3 (fun _ => ?_) (fun _ => ?_) <;> try (exfalso; omega)) | simp -dsimp (disch := omega) only [↓EA, EB, Nat.reduceEqDiff, ↓reduceIte, eq_self, *]))
    refine wx_new (assignS hE hX hZ hI tA rA hna) fun vA ys fA pA => ?_
    obtain ⟨w1, rfl, x1⟩ := found_open fA
    have rB := rB.pre pA
    have rC := rC.pre pA
    have tA := tA.pre pA
    have hHa := pA.le
    generalize h' ++ ys = H3 at *
    have ox1 := x1.one
    have cx1 := x1.cv
    have hHb : h.length ≤ H3.length := by omega
    clear pA fA rA
    (repeat' simp -dsimp (disch := omega) only [↓EA, EB, Nat.reduceEqDiff, Nat.reduceAdd, ↓reduceIte, newCells, eq_self, *])
    refine wx_new (assignS hE hX hZ hI (tA.app _) (rB.app _) hnb) fun vB ys fB pB => ?_
    obtain ⟨w2, rfl, x2⟩ := found_open fB
    have tB := (tA.app _).pre pB
    have rC := (rC.app _).pre pB
    have x1 := (x1.app _).pre pB
    have m1 := pB _ _ (show (H3 ++ [LObj.cells [w1, .int .i64 ((assignP a).2.1 : Int), .int .i64 ((assignP a).2.2.1 : Int)] false])[H3.length]? = some (.cells [w1, .int .i64 ((assignP a).2.1 : Int), .int .i64 ((assignP a).2.2.1 : Int)] false) by rw [geta0]; rfl)
    have hHc := pB.le
    generalize H3 ++ _ ++ ys = H4 at *
    have hHd : h.length ≤ H4.length := by simp at hHc; omega
    have ox2 := x2.one
    have cx2 := x2.cv
    have hm3 : H3.length < H4.length := (List.getElem?_eq_some_iff.1 m1).1
    clear pB fB rB tA
    (repeat' simp -dsimp (disch := omega) only [↓EA, EB, Nat.reduceEqDiff, Nat.reduceAdd, ↓reduceIte, newCells, eq_self, *])
    refine wx_new (assignS hE hX hZ hI (tB.app _) (rC.app _) hnc) fun vC ys fC pC => ?_
    obtain ⟨w3, rfl, x3⟩ := found_open fC
    have x1 := (x1.app _).pre pC
    have m2 := pC _ _ (show (H4 ++ [LObj.cells [w2, .int .i64 ((assignP a).2.1 : Int), .int .i64 ((assignP a).2.2.1 : Int)] false])[H4.length]? = some (.cells [w2, .int .i64 ((assignP a).2.1 : Int), .int .i64 ((assignP a).2.2.1 : Int)] false) by rw [geta0]; rfl)
    have m1 := pC _ _ (show (H4 ++ [LObj.cells [w2, .int .i64 ((assignP a).2.1 : Int), .int .i64 ((assignP a).2.2.1 : Int)] false])[H3.length]? = some (.cells [w1, .int .i64 ((assignP a).2.1 : Int), .int .i64 ((assignP a).2.2.1 : Int)] false) by rw [List.getElem?_append_left hm3]; exact m1)
    have hHe := pC.le
    rw [q1] at x2
    have x2 := (x2.app [LObj.cells [w2, .int .i64 ((assignP a).2.1 : Int), .int .i64 ((assignP a).2.2.1 : Int)] false]).pre pC
    generalize H4 ++ _ ++ ys = H5 at *
    have hHf : h.length ≤ H5.length := by simp at hHe; omega
    have m1x := fun x => (List.getElem?_append_left (List.getElem?_eq_some_iff.1 m1).1 (l₂ := x)).trans m1
    have m2x := fun x => (List.getElem?_append_left (List.getElem?_eq_some_iff.1 m2).1 (l₂ := x)).trans m2
    have hsame := fun x => same18 hE (x1.app x) (x2.app x)
    rw [decide_eq_true rfl] at hsame
    have ox3 := x3.one
    have cx3 := x3.cv
    have hN : a.length = 1 ∨ a.length = 2 ∨ a.length = 3 ∨ a.length = 4 ∨ a.length = 5 ∨ a.length = 6 := by omega
    clear pC fC rC tB x1 x2 x3 m1 m2
    generalize assignP a = R at *
    obtain ⟨R1, R2, R3, R4⟩ := R
    dsimp only at *
    generalize (assignP a.reverse).2.2.2 = R5 at *
    subst q2
    have hla' : lensV false v1 = some (.int .i64 (a.length : Int)) := hla
    clear hla hlaw q1 hHc hHe h1 h2 hl ht hset
    generalize a.length = N at *
    rcases hN with rfl | rfl | rfl | rfl | rfl | rfl
    · replace hla' : lensV false v1 = some (.int .i64 1) := hla'
      have q3' := q3
      simp only [Nat.reduceMul, Nat.reduceAdd] at q3'
      have hz : IntKind.i64.wrap (((1 : Int) * (1 + 1)).tdiv 2) = 1 := by decide
      (repeat' (first | (with_reducible refine A1 (fun _ => ?_) (fun _ => ?_) <;> try (exfalso; omega)) | simp -dsimp (disch := omega) only [↓EA, EB, Nat.reduceEqDiff, Nat.reduceAdd, ↓reduceIte, newCells, eq_self, *]))
    · replace hla' : lensV false v1 = some (.int .i64 2) := hla'
      have q3' := q3
      simp only [Nat.reduceMul, Nat.reduceAdd] at q3'
      have hz : IntKind.i64.wrap (((2 : Int) * (2 + 1)).tdiv 2) = 3 := by decide
      (repeat' (first | (with_reducible refine A1 (fun _ => ?_) (fun _ => ?_) <;> try (exfalso; omega)) | simp -dsimp (disch := omega) only [↓EA, EB, Nat.reduceEqDiff, Nat.reduceAdd, ↓reduceIte, newCells, eq_self, *]))
    · replace hla' : lensV false v1 = some (.int .i64 3) := hla'
      have q3' := q3
      simp only [Nat.reduceMul, Nat.reduceAdd] at q3'
      have hz : IntKind.i64.wrap (((3 : Int) * (3 + 1)).tdiv 2) = 6 := by decide
      (repeat' (first | (with_reducible refine A1 (fun _ => ?_) (fun _ => ?_) <;> try (exfalso; omega)) | simp -dsimp (disch := omega) only [↓EA, EB, Nat.reduceEqDiff, Nat.reduceAdd, ↓reduceIte, newCells, eq_self, *]))
    · replace hla' : lensV false v1 = some (.int .i64 4) := hla'
      have q3' := q3
      simp only [Nat.reduceMul, Nat.reduceAdd] at q3'
      have hz : IntKind.i64.wrap (((4 : Int) * (4 + 1)).tdiv 2) = 10 := by decide
      (repeat' (first | (with_reducible refine A1 (fun _ => ?_) (fun _ => ?_) <;> try (exfalso; omega)) | simp -dsimp (disch := omega) only [↓EA, EB, Nat.reduceEqDiff, Nat.reduceAdd, ↓reduceIte, newCells, eq_self, *]))
    · replace hla' : lensV false v1 = some (.int .i64 5) := hla'
      have q3' := q3
      simp only [Nat.reduceMul, Nat.reduceAdd] at q3'
      have hz : IntKind.i64.wrap (((5 : Int) * (5 + 1)).tdiv 2) = 15 := by decide
      (repeat' (first | (with_reducible refine A1 (fun _ => ?_) (fun _ => ?_) <;> try (exfalso; omega)) | simp -dsimp (disch := omega) only [↓EA, EB, Nat.reduceEqDiff, Nat.reduceAdd, ↓reduceIte, newCells, eq_self, *]))
    · replace hla' : lensV false v1 = some (.int .i64 6) := hla'
      have q3' := q3
      simp only [Nat.reduceMul, Nat.reduceAdd] at q3'
      have hz : IntKind.i64.wrap (((6 : Int) * (6 + 1)).tdiv 2) = 21 := by decide
      (repeat' (first | (with_reducible refine A1 (fun _ => ?_) (fun _ => ?_) <;> try (exfalso; omega)) | simp -dsimp (disch := omega) only [↓EA, EB, Nat.reduceEqDiff, Nat.reduceAdd, ↓reduceIte, newCells, eq_self, *]))
end Go.L.Try
