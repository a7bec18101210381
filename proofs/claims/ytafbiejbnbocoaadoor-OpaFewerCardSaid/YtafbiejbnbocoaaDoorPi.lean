/- OPA: the laws' own small things: awake, rest. -/
import Derived.Test.YtafbiejbnbocoaaDoorPh
import Derived.Test.YtafbiejbnbocoaaDoorPf
set_option linter.unusedVariables false
set_option linter.unusedSimpArgs false
set_option maxRecDepth 100000
set_option maxHeartbeats 2000000
namespace Go.L.Try
open Go Go.L
variable {E : Env} {G : Nat}
def twoL : List Task := [⟨⟨#[97]⟩, 2, 9, 9, 0, 1, 1⟩, ⟨⟨#[98]⟩, 1, 4, 2, 0, 1, 2⟩]
theorem two_is : assignP twoL = ([1, 0], 0, 2, 0) := by decide +kernel
theorem two_name : ∀ t ∈ twoL, t.name.size < 1152921504606846976 := by decide +kernel
theorem found_open {r : List Int × Nat × Nat × Int} {h : Heap} {v : Value} (f : FoundV r h v) : ∃ vo, v = .tuple #[.agg #[vo, .int .i64 (r.2.1 : Int), .int .i64 (r.2.2.1 : Int)], .int .i64 r.2.2.2] ∧ Rd 1 encI h vo r.1 := by
  obtain ⟨vs, rfl, hv⟩ := f
  rcases hv with _ | @⟨_, _, va, _, ra, _ | @⟨_, _, vb, _, rb, _ | _⟩⟩
  obtain ⟨us, rfl, hu⟩ := ra
  rcases hu with _ | @⟨_, _, u1, _, r1, _ | @⟨_, _, u2, _, r2, _ | @⟨_, _, u3, _, r3, _ | _⟩⟩⟩
  
  subst r2; subst r3; subst rb
  exact ⟨_, rfl, r1⟩
theorem rest19 (hE : Laid E) (h : Heap) (x n : Int) (hn : 0 < n) (hn' : n < 4611686018427387904) : callW E (.func (.func n_law19_rest) #[] #[]) [.int .i64 x, .int .i64 n] h = some (.int .i64 (x % n), h, []) := by
  have hb := tmod_bounds x n hn
  refine fn_same hE.law19_rest rfl (by simp) ?_
  simp -dsimp (disch := omega) only [↓EA, EB, Nat.reduceEqDiff, ↓reduceIte, reduceCtorEq, eq_self, argsF, rest_eq x n hn]
theorem awake19 (hE : Laid E) (hX : LaidAdd E) (hZ : LaidTz E G) (hI : LaidIns E) {h : Heap} (ht : Tab G h) :
    callW E (.func (.func n_law19_awake) #[] #[]) [] h = some (.bool true, h, []) := by
  refine fn_same hE.law19_awake rfl (by simp) ?_
  simp only [argsF]
  (repeat' simp -dsimp (disch := omega) only [↓EA, EB, Nat.reduceEqDiff, Nat.reduceAdd, Nat.reduceLeDiff, Nat.reduceMul, ↓reduceIte, newCells, bslV, eq_self, *])
  refine wx_new (assignS hE hX hZ hI (ht.app _) (Rd.lit (enc := encT) twoL (by rw [geta0]; rfl) rfl (fun _ => rfl) (by decide) (by decide) (.inl rfl)) two_name) fun v ys hr hp => ?_
  rw [two_is] at hr
  obtain ⟨vo, rfl, ha⟩ := found_open hr
  have la : lensV false vo = some (.int .i64 2) := ha.len
  have oa := ha.one
  have ca := ha.cv
  have z0 := ha.ixs .i64 0 (by decide) (by decide)
  have z1 := ha.ixs .i64 1 (by decide) (by decide)
  generalize hH : h ++ _ ++ ys = H at *
  have hHl : h.length ≤ H.length := by rw [← hH]; simp
  have x0 : ∀ x, ldO (H ++ x)[blk vo]? _ _ = some (.int .i64 1) := fun x => (ha.app x).ld0 0 (by decide) (by decide) (by decide)
  have x1 : ∀ x, ldO (H ++ x)[blk vo]? _ _ = some (.int .i64 0) := fun x => (ha.app x).ld0 1 (by decide) (by decide) (by decide)
  clear hH
  (repeat' simp -dsimp (disch := omega) only [↓EA, EB, Nat.reduceEqDiff, Nat.reduceAdd, ↓reduceIte, newCells, eq_self, *])
  rfl
end Go.L.Try
namespace Go.L.Try
open Go Go.L
variable {E : Env} {G : Nat}
theorem small_mid {t : Task} (h : SmallT t) : Mid t := ⟨by have := h.C; omega, by have := h.T; have := h.D; have := h.C; omega, by have := h.J; have := h.D; have := h.C; omega⟩
def q1 (t : Task) : Task := { t with Q := 1 }
def qq (s : List Task) (n : Nat) : List Task := (s.take n).map q1 ++ s.drop n
theorem qq_len (s : List Task) (n : Nat) : (qq s n).length = s.length := by simp [qq]; omega
theorem qq_zero (s : List Task) : qq s 0 = s := by simp [qq]
theorem qq_all (s : List Task) : qq s s.length = s.map q1 := by simp [qq]
theorem qq_at {s : List Task} {n : Nat} (hn : n < s.length) : atI (qq s n) (n : Int) = atI s (n : Int) := by
  rw [atI_nat (by rw [qq_len]; exact hn), atI_nat hn]
  unfold qq
  have hl : ((s.take n).map q1).length = n := by simp; omega
  rw [List.getElem_append_right (by omega), List.getElem_drop]
  congr 1; omega
theorem qq_succ {s : List Task} {n : Nat} (hn : n < s.length) : qq s (n + 1) = (qq s n).set n (q1 (atI s (n : Int))) := by
  unfold qq
  have hl : ((s.take n).map q1).length = n := by simp; omega
  rw [List.set_append_right _ _ (by omega), hl, Nat.sub_self, List.drop_eq_getElem_cons hn, List.set_cons_zero, take_snoc hn, List.map_append, List.append_assoc]
  simp
theorem small_q1 {t : Task} (h : okTask t) (s : SmallT t) : okTask (q1 t) ∧ Mid (q1 t) := by
  obtain ⟨_, hC, hD, hJ, hQ, hT, hP⟩ := s
  obtain ⟨⟨h1, h2, h3, h4, h5, h6, h7, h8⟩, h9⟩ := h
  refine ⟨⟨⟨h1, h2, h3, h4, h5, ⟨show (1 : Int) ≤ 1 by decide, show (1 : Int) ≤ 2147483647 by decide⟩, h7, h8⟩, ?_⟩, by show 1 ≤ t.C ∧ t.C ≤ 134217728; omega, by show 1 ≤ t.T ∧ t.T ≤ 1073741824; omega, by show 0 ≤ t.J ∧ t.J ≤ 536870912; omega⟩
  simp only [fitsB, q1] at h9 ⊢
  omega
theorem q1_valid {l : List Task} (hv : validP l) (hs : ∀ t ∈ l, SmallT t) : validP (l.map q1) ∧ ∀ t ∈ l.map q1, Mid t := by
  obtain ⟨h1, h2, h3⟩ := valid_iff.1 hv
  refine ⟨valid_iff.2 ⟨by simpa using h1, fun t ht => ?_, fun j m hj hm => ?_⟩, fun t ht => ?_⟩
  · obtain ⟨u, hu, rfl⟩ := List.mem_map.1 ht
    exact (small_q1 (h2 u hu) (hs u hu)).1
  · rw [List.length_map] at hm
    rw [atI_map_in _ (by omega) (by omega : (j : Int) < l.length), atI_map_in _ (by omega) (by omega : (m : Int) < l.length)]
    exact h3 j m hj hm
  · obtain ⟨u, hu, rfl⟩ := List.mem_map.1 ht
    exact (small_q1 (h2 u hu) (hs u hu)).2
theorem fits_first {l : List Task} (hv : validP l) (hm : ∀ t ∈ l, Mid t) (hn : l.length ≤ 6) (hq : ∀ t ∈ l, t.Q = 1) {i : Nat} (hi : i < l.length) {S : Nat → Bool} (hS : ∀ k, k < l.length → S k = false) : fitsP l (i : Int) S = true := by
  unfold fitsP
  refine decide_eq_true ⟨hv, ⟨by omega, by omega⟩, ?_⟩
  have hnl := (valid_iff.1 hv).1.2
  have hs := sep_op (i := i) hnl hi
  rw [Int.toNat_natCast]
  have hx := opG_isP (A := S) hv hs hi
  have hlt := fun k hk => (opG_lt (A := S) hs hi (k := k) hk).1
  have hlen := opG_len 1 (2 * (l.length : Int)) ((l.length : Int) + 1) l i S
  have hat := fun k (hk : k < l.length) => opG_at (a := 1) (b := 2 * (l.length : Int)) (c := (l.length : Int) + 1) (i := i) (A := S) hk
  generalize opG 1 (2 * (l.length : Int)) ((l.length : Int) + 1) l i S = x at *
  have hmx : ∀ u ∈ x, Mid u ∧ u.Q = 1 := fun u hu => by
    obtain ⟨k, hk, rfl⟩ := List.getElem_of_mem hu
    have h := hat k (by omega)
    rw [atI_nat hk] at h
    have hmem := atI_mem (l := l) (i := (k : Int)) (by omega) (by omega)
    have m := hm _ hmem
    rw [h]
    exact ⟨⟨m.C, m.T, m.J⟩, hq (atI l (k : Int)) hmem⟩
  have hmem : atI x (i : Int) ∈ x := atI_mem (by omega) (by omega)
  have ho := ((isP_ok hx).2.2 _ hmem).2
  simp only [fitsB] at ho
  have M := (hmx _ hmem).1
  have hC := M.C; have hT := M.T; have hJ := M.J
  rw [bound_zero hx]
  refine ⟨(atI x (i : Int)).C, by omega, by unfold mostP; omega, ?_⟩
  have eb : blockN x (i : Int) x.length = 0 := block_one (fun t ht => (hmx t ht).2) x.length (Nat.le_refl _)
  have eh : ∀ n, n ≤ l.length → hN x (i : Int) (atI x (i : Int)).C n = 0 := by
    intro n
    induction n with
    | zero => intro _; rfl
    | succ n ih =>
      intro hn
      have h1 := ih (by omega)
      unfold hN
      rw [if_neg fun h => by have := ((hlt n (by omega)).1 h).2; rw [hS n (by omega)] at this; cases this]
      exact h1
  rw [need_fullA hx (fun u hu => (hmx u hu).1) (by omega) (by omega), eb, hlen, eh _ (Nat.le_refl _)]
  omega
end Go.L.Try
namespace Go.L.Try
open Go Go.L
variable {E : Env} {G : Nat}
theorem opaFewer_l0 (hE : Laid E) {H h : Heap} (hph : Pre h H) {s : List Task} (hn0 : 0 < s.length) (hn6 : s.length ≤ 6) {vs va : Value} (ho : RdO h.length 7 encT H vs s) {i : Int} {Q : Ex → Fr → Heap → Prop} {fr : Fr} {W : Nat → Prop} (hW : ∀ b, h.length ≤ b → W b)
    (g1 : get fr 1 = .int .i64 i) (g2 : get fr 2 = va) (g7 : get fr 7 = .bool true) (g8 : get fr 8 = vs) (g9 : get fr 9 = .int .i64 0)
    (hq : ∀ fr' h', Pre h h' → get fr' 1 = .int .i64 i → get fr' 2 = va → get fr' 7 = .bool true → get fr' 8 = vs → Rd 7 encT h' vs (s.map q1) → Q (.exit 0) fr' h') :
    WO W (iterW (code (callW E) iterW 93 c_law19_OpaFewer_l0) fr H) Q := by
  have hsn : s ≠ [] := fun e => by rw [e] at hn0; simp at hn0
  have hb0 := ho.ge hsn
  refine WO.loop (fun (n : Nat) fr h' => n ≤ s.length ∧ Pre h h' ∧ get fr 1 = .int .i64 i ∧ get fr 2 = va ∧ get fr 7 = .bool true ∧ get fr 8 = vs ∧ get fr 9 = .int .i64 n ∧ RdO h.length 7 encT h' vs (qq s n)) (fun n => s.length - n) ?_ 0 ⟨Nat.zero_le _, hph, g1, g2, g7, g8, g9, by rw [qq_zero]; exact ho⟩
  rintro n fr h' ⟨hn, hp, g1, g2, g7, g8, g9, hs⟩
  unfold c_law19_OpaFewer_l0
  have hr := hs.rd
  have hl := hr.len
  rw [qq_len] at hl
  rcases Nat.lt_or_ge n s.length with hlt | hge
  · have hql := qq_len s n
    have hql1 : s.length ≤ (qq s n).length := by omega
    have hnq : qq s n ≠ [] := fun e => by rw [e] at hql; simp at hql; omega
    have hge2 := hs.ge hnq
    have Hq := Hid.mk (qq_succ hlt)
    have hat0 := qq_at hlt
    clear hql
    (repeat' (first | (with_reducible refine A3 (fun _ => ?_) (fun _ => ?_) <;> try (exfalso; omega)) | simp -dsimp (disch := omega) only [↓EA, EB, Nat.reduceEqDiff, ↓reduceIte, eq_self, *, hr.len, hr.ixs]))
    refine wh_rdO hs hW (q1 (atI s (n : Int))) (by omega) (by omega) (by decide) rfl (by rw [hat0]; rfl) fun h5 k1 k2 k3 => ?_
    have hp5 : Pre h h5 := fun b o hb => by
      have := (List.getElem?_eq_some_iff.1 hb).1
      rw [k3 b (by omega)]; exact hp b o hb
    rw [show ((n : Int)).toNat = n by omega, ← Hq.out] at k1
    clear k3 k2 hat0 hr hs
    (repeat' simp -dsimp (disch := omega) only [↓EA, EB, Nat.reduceEqDiff, ↓reduceIte, eq_self, *])
    exact Next.mk (n + 1) ⟨by omega, hp5, rfl, rfl, rfl, rfl, rfl, k1⟩ (by omega)
  · have e : n = s.length := by omega
    subst e
    rw [qq_all] at hs
    have hq := Hid.mk hq
    (repeat' (first | (with_reducible refine A3 (fun _ => ?_) (fun _ => ?_) <;> try (exfalso; omega)) | simp -dsimp (disch := omega) only [↓EA, EB, Nat.reduceEqDiff, ↓reduceIte, eq_self, *]))
    exact hq.out _ _ hp rfl rfl rfl rfl hs.rd
theorem opaFewer (hE : Laid E) (hX : LaidAdd E) (hZ : LaidTz E G) (hI : LaidIns E) {h : Heap} (ht : Tab G h) {vl va : Value} {l : List Spec} {i : Int} {al : List Int} (hl : Rd 5 encSp h vl l) (hi : i64in i) (ha : Rd 1 encI h va al) :
    callW E (.func (.func n_law19_OpaFewer) #[] #[]) [vl, .int .i64 i, va] h = some (.bool true, h, []) := by
  refine fn_same hE.law19_OpaFewer rfl (by simp) ?_
  have aw0 := awake19 hE hX hZ hI ht
  have hset := setP_len l (most := 6) (turn := i) (by decide)
  have hsm := fun t ht => setP_small (l := l) (most := 6) (turn := i) (t := t) (by decide) (by decide) ht
  simp only [argsF]
  (repeat' simp -dsimp (disch := omega) only [↓EA, EB, Nat.reduceEqDiff, Nat.reduceAdd, ↓reduceIte, reduceCtorEq, eq_self, *])
  refine wx_new (set04O hE hl (by decide) (by decide) hi) fun v1 ys r1 p1 => ?_
  have hv := setP_valid l (most := 6) i (by decide) (by decide)
  generalize setP l 6 i = s at *
  obtain ⟨hv1, hm1⟩ := q1_valid hv hsm
  have hnm : ∀ t ∈ s.map q1, t.name.size < 1152921504606846976 := fun t ht => by
    obtain ⟨u, hu, rfl⟩ := List.mem_map.1 ht
    have := (hsm u hu).name; show u.name.size < _; omega
  have hq1 : ∀ t ∈ s.map q1, t.Q = 1 := fun t ht => by obtain ⟨u, hu, rfl⟩ := List.mem_map.1 ht; rfl
  have hlm : (s.map q1).length = s.length := List.length_map _
  generalize h ++ ys = H at *
  have o1 := r1.rd.one
  have c1 := r1.rd.cv
  clear aw0
  (repeat' simp -dsimp (disch := omega) only [↓EA, EB, Nat.reduceEqDiff, ↓reduceIte, reduceCtorEq, eq_self, *])
  refine opaFewer_l0 hE p1 (by omega) (by omega) r1 (fun b hb => hb) rfl rfl rfl rfl rfl ?_
  intro fr' h' hp g1 g2 g7 g8 hr
  have ht1 := ht.pre hp
  have ha1 := ha.pre hp
  have hhl := hp.le
  rw [← hlm] at hset
  clear p1 r1 ht ha hv hsm
  generalize s.map q1 = s1 at *
  clear hlm
  have hl1 := hr.len
  have hrs := fun X => rest19 hE X i (s1.length : Int) (by omega) (by omega)
  (repeat' simp -dsimp (disch := omega) only [↓EA, EB, Nat.reduceEqDiff, Nat.reduceAdd, ↓reduceIte, newCells, eq_self, *])
  have hmod := emod_in i (s1.length : Int) (by omega)
  obtain ⟨j, hj⟩ : ∃ j : Nat, i % (s1.length : Int) = j := ⟨(i % (s1.length : Int)).toNat, by omega⟩
  rw [hj] at hmod ⊢
  clear hrs hj
  refine WO.loop (fun (n : Nat) fr hh => ∃ w, okM w ∧ n ≤ al.length ∧ hh = h' ++ [LObj.cells (encM w) false] ∧ get fr 2 = va ∧ get fr 7 = .bool true ∧ get fr 8 = v1 ∧ get fr 10 = .int .i64 (j : Int) ∧ get fr 11 = .pointer (some ⟨h'.length, 0, none⟩) ∧ get fr 12 = .int .i64 n) (fun n => al.length - n) ?_ 0
    ⟨List.replicate 16 0, okM_zero, Nat.zero_le _, rfl, rfl, rfl, rfl, rfl, rfl, rfl⟩
  rintro n fr hh ⟨w, hw, hn, rfl, g2, g7, g8, g10, g11, g12⟩
  unfold c_law19_OpaFewer_l1
  have el := encM_len hw
  have eo := encM_one w
  have et := encM_take hw
  have hal := ha1.len
  have hhl1 : h.length ≤ h'.length + 1 := by omega
  by_cases hc : n < al.length ∧ n < 10
  · obtain ⟨hc1, hc2⟩ := hc
    have hw1 := withM_ok hw (atI al (n : Int) % 6)
    have hrest := fun X => rest19 hE X (atI al (n : Int)) 6 (by decide) (by decide)
    have hwith1 := fun x => withS hE (h' ++ x) hw (atI al (n : Int) % 6)
    have el2 := encM_len hw1
    have eo2 := encM_one (withM w (atI al (n : Int) % 6))
    have et2 := encM_take hw1
    have hset2 := setCells_whole (d := encM w) (cs := encM (withM w (atI al (n : Int) % 6))) (by rw [el, el2])
    have har := ha1
    have KK := Hid.mk hw1
    clear hw1
    (repeat' (first | (with_reducible refine A1 (fun _ => ?_) (fun _ => ?_) <;> try (exfalso; omega)) | (with_reducible refine A3 (fun _ => ?_) (fun _ => ?_) <;> try (exfalso; omega)) | simp -dsimp (disch := omega) only [↓EA, EB, Nat.reduceEqDiff, ↓reduceIte, eq_self, *, har.len, har.ixs, har.ldx0, encI]))
    exact Next.mk (n + 1) ⟨_, KK.out, by omega, rfl, rfl, rfl, rfl, rfl, rfl, rfl⟩ (by omega)
  · have f1 := fun x => fitsS hE hX hZ (ht1.app x) (hr.app x) hnm hw (j : Int)
    have f0 : ∀ x, callW E (.func (.func n_opa_Fits) #[] #[]) [v1, .int .i64 (j : Int), .agg #[.int .u64 0, .int .u64 0, .int .u64 0, .int .u64 0, .int .u64 0, .int .u64 0, .int .u64 0, .int .u64 0, .int .u64 0, .int .u64 0, .int .u64 0, .int .u64 0, .int .u64 0, .int .u64 0, .int .u64 0, .int .u64 0]] (h' ++ x) = some (.bool (fitsP s1 (j : Int) (memM (List.replicate 16 0))), h' ++ x, []) := fun x => fitsS hE hX hZ (ht1.app x) (hr.app x) hnm okM_zero (j : Int)
    rw [fits_first hv1 hm1 (by omega) hq1 (by omega) fun k _ => memM_zero k] at f0
    have hwj := withM_ok hw (j : Int)
    have fw := fun x => withS hE (h' ++ x) hw (j : Int)
    have f3 := fun x => fitsS hE hX hZ (ht1.app x) (hr.app x) hnm hwj (j : Int)
    have e3 : fitsP s1 (j : Int) (memM (withM w (j : Int))) = fitsP s1 (j : Int) (memM w) := fits_cong fun k hk hne => by
      rw [withM_mem hw (by omega), decide_eq_false (show ¬ k = j by omega), Bool.or_false]
    rw [e3] at f3
    have hbe : ∀ b : Bool, binOp .eql .bool (.bool b) (.bool b) = some (.bool true) := fun b => by cases b <;> rfl
    have hset0 := setM0 hw
    by_cases h0 : 0 < al.length
    · have hrest := fun X => rest19 hE X (atI al 0) 6 (by decide) (by decide)
      have hwo := fun x => withoutS hE (h' ++ x) hw (atI al 0 % 6)
      have hwb := withoutM_ok hw (atI al 0 % 6)
      have f2 := fun x => fitsS hE hX hZ (ht1.app x) (hr.app x) hnm hwb (j : Int)
      have hr6 := emod_in (atI al 0) 6 (by decide)
      have hAB : fitsP s1 (j : Int) (memM w) = true → fitsP s1 (j : Int) (memM (withoutM w (atI al 0 % 6))) = true := fits_fewer hm1 (by omega) fun k hk _ hB => by
        have := withoutM_mem hw (n := (atI al 0 % 6).toNat) (by omega) k
        rw [show (((atI al 0 % 6).toNat : Nat) : Int) = atI al 0 % 6 by omega] at this
        rw [this, Bool.and_eq_true] at hB; exact hB.1
      have el2 := encM_len hwb
      have eo2 := encM_one (withoutM w (atI al 0 % 6))
      have et2 := encM_take hwb
      have hset2 := setCells_whole (d := encM w) (cs := encM (withoutM w (atI al 0 % 6))) (by rw [el, el2])
      have har := ha1
      have har0 : ∀ x, ldO (h' ++ x)[blk va]? _ _ = some (.int .i64 (atI al 0)) := fun x => (ha1.app x).ld0 0 (by decide) (by omega) (by decide)
      have hix := ha1.ixs .i64 0 (by decide) (by omega)
      generalize fitsP s1 (j : Int) (memM w) = A at *
      generalize fitsP s1 (j : Int) (memM (withoutM w (atI al 0 % 6))) = B at *
      clear hwj hwb
      cases A <;> cases B
      · (repeat' (first | (with_reducible refine A1 (fun _ => ?_) (fun _ => ?_) <;> try (exfalso; omega)) | (with_reducible refine A3 (fun _ => ?_) (fun _ => ?_) <;> try (exfalso; omega)) | simp -dsimp (disch := omega) only [↓EA, EB, Nat.reduceEqDiff, Nat.reduceAdd, ↓reduceIte, newCells, eq_self, *]))
      · (repeat' (first | (with_reducible refine A1 (fun _ => ?_) (fun _ => ?_) <;> try (exfalso; omega)) | (with_reducible refine A3 (fun _ => ?_) (fun _ => ?_) <;> try (exfalso; omega)) | simp -dsimp (disch := omega) only [↓EA, EB, Nat.reduceEqDiff, Nat.reduceAdd, ↓reduceIte, newCells, eq_self, *]))
      · exact absurd (hAB rfl) (by decide)
      · (repeat' (first | (with_reducible refine A1 (fun _ => ?_) (fun _ => ?_) <;> try (exfalso; omega)) | (with_reducible refine A3 (fun _ => ?_) (fun _ => ?_) <;> try (exfalso; omega)) | simp -dsimp (disch := omega) only [↓EA, EB, Nat.reduceEqDiff, Nat.reduceAdd, ↓reduceIte, newCells, eq_self, *]))
    · generalize fitsP s1 (j : Int) (memM w) = A at *
      clear hwj
      cases A
      · (repeat' (first | (with_reducible refine A1 (fun _ => ?_) (fun _ => ?_) <;> try (exfalso; omega)) | (with_reducible refine A3 (fun _ => ?_) (fun _ => ?_) <;> try (exfalso; omega)) | simp -dsimp (disch := omega) only [↓EA, EB, Nat.reduceEqDiff, Nat.reduceAdd, ↓reduceIte, newCells, eq_self, *]))
      · (repeat' (first | (with_reducible refine A1 (fun _ => ?_) (fun _ => ?_) <;> try (exfalso; omega)) | (with_reducible refine A3 (fun _ => ?_) (fun _ => ?_) <;> try (exfalso; omega)) | simp -dsimp (disch := omega) only [↓EA, EB, Nat.reduceEqDiff, Nat.reduceAdd, ↓reduceIte, newCells, eq_self, *]))
end Go.L.Try
