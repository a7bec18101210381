/- OPA: opa.may, slices.Clone of tasks, opa.Fits. -/
import Derived.Test.YtifnlcajancfdaaDoorPf
import Derived.Test.YtifnlcajancfdaaDoorPd
import Derived.Test.YtifnlcajancfdaaDoorVc
set_option linter.unusedVariables false
set_option linter.unusedSimpArgs false
set_option maxRecDepth 100000
set_option maxHeartbeats 2000000
namespace Go.L.Try
open Go Go.L
variable {E : Env} {G : Nat}
theorem mayS (hE : Laid E) {h : Heap} {vl : Value} {l : List Task} (hl : Rd 7 encT h vl l) (hs : ∀ t ∈ l, t.name.size < 1152921504606846976) :
    callW E (.func (.func n_opa_may) #[] #[]) [vl] h = some (.bool (decide (validP l)), h, []) := by
  have hc := checkAllS hE hl hs
  refine fn_same hE.opa_may rfl (by simp) ?_
  simp only [argsF]
  (repeat' (first | (with_reducible refine A1 (fun _ => ?_) (fun _ => ?_) <;> try (exfalso; omega)) | (with_reducible refine A2 (fun _ => ?_) (fun _ => ?_) <;> try (exfalso; omega)) | (with_reducible refine A3 (fun _ => ?_) (fun _ => ?_) <;> try (exfalso; omega)) | refine A4 (fun _ => ?_) (fun _ => ?_) | refine A5 (fun _ => ?_) (fun _ => ?_) | refine A6 (fun _ => ?_) (fun _ => ?_) | simp -dsimp (disch := omega) only [↓EA, EB, Nat.reduceEqDiff, Nat.reduceAdd, Nat.reduceLeDiff, Nat.reduceMul, ↓reduceIte, reduceCtorEq, newCells, bslV, eq_self, *]))
  rfl
theorem Rd.nnil {α : Type} {sz : Nat} {enc : α → List Value} {h : Heap} {v : Value} {l : List α} (r : Rd sz enc h v l) (hn : l ≠ []) (k : Nat) (c : Nat) : binOp .eql .slice v (.slice none k c) = some (.bool false) := by
  rcases Row.is r with ⟨_, e⟩ | ⟨b, off, sp, cap, c', ro, rfl, _⟩
  · exact absurd (by simpa using e) hn
  · rfl
theorem cloneS (hE : Laid E) {h : Heap} {vl : Value} {l : List Task} (hl : Rd 7 encT h vl l) (hn : l ≠ []) (hlen : l.length ≤ 1024) :
    ∃ v ys, callW E (.func (.func n_slices_Clone_api_Task_api_Task) #[] #[]) [vl] h = some (v, h ++ ys, []) ∧ RdO h.length 7 encT (h ++ ys) v l := by
  refine fn_new hE.slices_Clone_api_Task_api_Task rfl (RdO.movable flatT l) (by simp) ?_
  have hnn := Rd.nnil hl hn 0 0
  simp only [argsF]
  (repeat' (first | (with_reducible refine A1 (fun _ => ?_) (fun _ => ?_) <;> try (exfalso; omega)) | (with_reducible refine A2 (fun _ => ?_) (fun _ => ?_) <;> try (exfalso; omega)) | (with_reducible refine A3 (fun _ => ?_) (fun _ => ?_) <;> try (exfalso; omega)) | refine A4 (fun _ => ?_) (fun _ => ?_) | refine A5 (fun _ => ?_) (fun _ => ?_) | refine A6 (fun _ => ?_) (fun _ => ?_) | simp -dsimp (disch := omega) only [↓EA, EB, Nat.reduceEqDiff, Nat.reduceAdd, Nat.reduceLeDiff, Nat.reduceMul, ↓reduceIte, reduceCtorEq, newCells, bslV, eq_self, *]))
  refine wx_copy (sz := 7) (enc := encT) (c := []) (ro := false) (off := 0) (l := l) (by rw [geta0]; rfl) (Nat.zero_le _) (hl.app _) hn (fun _ => rfl) (by decide) (by decide) (by omega) fun rx => ?_
  (repeat' (first | (with_reducible refine A1 (fun _ => ?_) (fun _ => ?_) <;> try (exfalso; omega)) | (with_reducible refine A2 (fun _ => ?_) (fun _ => ?_) <;> try (exfalso; omega)) | (with_reducible refine A3 (fun _ => ?_) (fun _ => ?_) <;> try (exfalso; omega)) | refine A4 (fun _ => ?_) (fun _ => ?_) | refine A5 (fun _ => ?_) (fun _ => ?_) | refine A6 (fun _ => ?_) (fun _ => ?_) | simp -dsimp (disch := omega) only [↓EA, EB, Nat.reduceEqDiff, Nat.reduceAdd, Nat.reduceLeDiff, Nat.reduceMul, ↓reduceIte, reduceCtorEq, newCells, bslV, eq_self, *]))
  have rx2 := rx.rdO.less (m' := h.length) (by simp)
  simp only [List.append_assoc, List.cons_append, List.nil_append, List.length_append, List.length_cons, List.length_nil, Nat.zero_add] at rx2
  exact ⟨⟨_, rfl⟩, rx2⟩
def xsT (l : List Task) (A : Nat → Bool) (k : Nat) (t : Task) : Task := { t with P := if A k then 1 + (k : Int) else 2 * (l.length : Int) + k }
def xsN (l : List Task) (A : Nat → Bool) (n : Nat) : List Task := l.mapIdx fun k t => if k < n then xsT l A k t else t
theorem xsN_len (l : List Task) (A : Nat → Bool) (n : Nat) : (xsN l A n).length = l.length := by simp [xsN]
theorem xsN_zero (l : List Task) (A : Nat → Bool) : xsN l A 0 = l := by
  apply List.ext_getElem?
  intro k
  simp [xsN]
theorem xsN_at {l : List Task} {A : Nat → Bool} {n : Nat} (hn : n < l.length) : atI (xsN l A n) (n : Int) = atI l (n : Int) := by
  rw [atI_nat (by rw [xsN_len]; exact hn), atI_nat hn]
  simp [xsN]
theorem xsN_succ {l : List Task} {A : Nat → Bool} {n : Nat} (hn : n < l.length) : xsN l A (n + 1) = (xsN l A n).set n (xsT l A n (atI l (n : Int))) := by
  apply List.ext_getElem?
  intro k
  rw [List.getElem?_set]
  by_cases e : n = k
  · subst e
    rw [if_pos rfl, if_pos (by rw [xsN_len]; exact hn), atI_nat hn]
    simp [xsN, hn]
  · rw [if_neg e]
    unfold xsN
    rw [List.getElem?_mapIdx, List.getElem?_mapIdx]
    by_cases h2 : k < n
    · simp only [h2, if_true, show k < n + 1 by omega]
    · simp only [h2, if_false, show ¬ k < n + 1 by omega]
theorem xsN_last {l : List Task} {A : Nat → Bool} {i : Nat} (hi : i < l.length) : (xsN l A l.length).set i { atI l (i : Int) with P := (l.length : Int) + 1 } = opG 1 (2 * (l.length : Int)) ((l.length : Int) + 1) l i A := by
  apply List.ext_getElem?
  intro k
  rw [List.getElem?_set]
  unfold opG
  rw [List.getElem?_mapIdx]
  by_cases e : i = k
  · subst e
    rw [if_pos rfl, if_pos (by rw [xsN_len]; exact hi), List.getElem?_eq_getElem hi, atI_nat hi]
    simp
  · rw [if_neg e]
    unfold xsN
    rw [List.getElem?_mapIdx]
    by_cases h2 : k < l.length
    · rw [List.getElem?_eq_getElem h2]
      simp only [Option.map_some, h2, if_true, xsT, show ¬ k = i from fun h => e h.symm, if_false]
    · rw [List.getElem?_eq_none (by omega)]; rfl
theorem fitsS (hE : Laid E) (hX : LaidAdd E) (hZ : LaidTz E G) {h : Heap} (ht : Tab G h) {vl : Value} {l : List Task} (hl : Rd 7 encT h vl l) (hs : ∀ t ∈ l, t.name.size < 1152921504606846976) {w : List Nat} (hw : okM w) (i : Int) :
    callW E (.func (.func n_opa_Fits) #[] #[]) [vl, .int .i64 i, .agg (encM w).toArray] h = some (.bool (fitsP l i (memM w)), h, []) := by
  refine fn_same hE.opa_Fits rfl (by simp) ?_
  have hel := encM_len hw
  have heo := encM_one w
  have htk := encM_take hw
  have hm := fun x => mayS hE (hl.app x) hs
  have hll := hl.len
  have hfew := hl.few
  simp only [argsF]
  by_cases hc : validP l ∧ (0 ≤ i ∧ i < l.length)
  · obtain ⟨hv, hi⟩ := hc
    have hn := (valid_iff.1 hv).1
    have hnl : l ≠ [] := fun e => by rw [e] at hn; simp at hn
    rw [decide_eq_true hv] at hm
    (repeat' (first | (with_reducible refine A1 (fun _ => ?_) (fun _ => ?_) <;> try (exfalso; omega)) | (with_reducible refine A2 (fun _ => ?_) (fun _ => ?_) <;> try (exfalso; omega)) | (with_reducible refine A3 (fun _ => ?_) (fun _ => ?_) <;> try (exfalso; omega)) | refine A4 (fun _ => ?_) (fun _ => ?_) | refine A5 (fun _ => ?_) (fun _ => ?_) | refine A6 (fun _ => ?_) (fun _ => ?_) | simp -dsimp (disch := omega) only [↓EA, EB, Nat.reduceEqDiff, Nat.reduceAdd, Nat.reduceLeDiff, Nat.reduceMul, ↓reduceIte, reduceCtorEq, newCells, bslV, eq_self, *]))
    refine wx_new (cloneS hE (hl.app _) hnl hn.2) fun v ys r p => ?_
    have rm := hm ys
    have hb : (h ++ [LObj.cells (encM w) false] ++ ys)[h.length]? = some (.cells (encM w) false) := by rw [List.append_assoc, geta0]; rfl
    have hp : Pre h (h ++ [LObj.cells (encM w) false] ++ ys) := (Pre.app h _).trans p
    have hr0 : RdO (h.length + 1) 7 encT (h ++ [LObj.cells (encM w) false] ++ ys) v l := by simpa using r
    have hHl := hp.le
    have hv0 := r.rd.cv
    have hv1 := r.rd.one
    clear r p hm rm
    generalize h ++ [LObj.cells (encM w) false] ++ ys = H at *
    have hlen := hr0.rd.len
    obtain ⟨n0, hn0⟩ : ∃ n0 : Nat, i = n0 := ⟨i.toNat, by omega⟩
    subst hn0
    have Hn1 := Hid.mk (Int.toNat_natCast n0)
    (repeat' (first | (with_reducible refine A1 (fun _ => ?_) (fun _ => ?_) <;> try (exfalso; omega)) | (with_reducible refine A2 (fun _ => ?_) (fun _ => ?_) <;> try (exfalso; omega)) | (with_reducible refine A3 (fun _ => ?_) (fun _ => ?_) <;> try (exfalso; omega)) | refine A4 (fun _ => ?_) (fun _ => ?_) | refine A5 (fun _ => ?_) (fun _ => ?_) | refine A6 (fun _ => ?_) (fun _ => ?_) | simp -dsimp (disch := omega) only [↓EA, EB, Nat.reduceEqDiff, Nat.reduceAdd, Nat.reduceLeDiff, Nat.reduceMul, ↓reduceIte, reduceCtorEq, newCells, bslV, eq_self, *]))
    refine WO.loop (fun (n : Nat) fr h' => n ≤ l.length ∧ h'.length = H.length ∧ Pre h h' ∧ h'[h.length]? = some (.cells (encM w) false) ∧ get fr 0 = vl ∧ get fr 1 = .int .i64 n0 ∧ get fr 5 = .pointer (some ⟨h.length, 0, none⟩) ∧ get fr 7 = v ∧ get fr 27 = .int .i64 l.length ∧ get fr 28 = .int .i64 n ∧ RdO (h.length + 1) 7 encT h' v (xsN l (memM w) n)) (fun n => l.length - n) ?_ 0 ⟨Nat.zero_le _, rfl, hp, hb, rfl, rfl, rfl, rfl, rfl, rfl, by rw [xsN_zero]; exact hr0⟩
    rintro n fr h' ⟨hn', hH', hp', hb', g0, g1, g5, g7, g27, g28, hx⟩
    unfold c_opa_Fits_l0
    rcases Nat.lt_or_ge n l.length with hlt | hge
    · have hr := hx.rd
      have hxl := xsN_len l (memM w) n
      have hxl1 : l.length ≤ (xsN l (memM w) n).length := by omega
      have hxl2 : (xsN l (memM w) n).length ≤ l.length := by omega
      have Hs := Hid.mk (xsN_succ (A := memM w) hlt)
      have Ha := Hid.mk (xsN_at (A := memM w) hlt)
      clear hxl
      (repeat' (first | (with_reducible refine A1 (fun _ => ?_) (fun _ => ?_) <;> try (exfalso; omega)) | (with_reducible refine A2 (fun _ => ?_) (fun _ => ?_) <;> try (exfalso; omega)) | (with_reducible refine A3 (fun _ => ?_) (fun _ => ?_) <;> try (exfalso; omega)) | refine A4 (fun _ => ?_) (fun _ => ?_) | refine A5 (fun _ => ?_) (fun _ => ?_) | refine A6 (fun _ => ?_) (fun _ => ?_) | simp -dsimp (disch := omega) only [↓EA, EB, Nat.reduceEqDiff, Nat.reduceAdd, Nat.reduceLeDiff, Nat.reduceMul, ↓reduceIte, reduceCtorEq, newCells, bslV, eq_self, *, hr.len, hr.ixs, hr.ld, hr.ld0, hr.lda, hr.ldx, hr.ldx0, hr.ldxa, encT]))
      refine wh_rdO hx (fun b hb => by omega) { atI l (n : Int) with P := 2 * (l.length : Int) + n } (by omega) (by omega) (by decide) rfl (by rw [Ha.out]; rfl) fun h5 k1 k2 k3 => ?_
      have hne : xsN l (memM w) n ≠ [] := fun e => by rw [e] at hxl1; have : l.length ≤ 0 := hxl1; omega
      have hbk := hx.ge hne
      have hb5 : h5[h.length]? = some (.cells (encM w) false) := by rw [k3 _ (by omega)]; exact hb'
      have hp5 : Pre h h5 := fun b o hb => by
        have := (List.getElem?_eq_some_iff.1 hb).1
        rw [k3 b (by omega)]; exact hp' b o hb
      rw [show ((n : Int)).toNat = n by omega] at k1
      have hhas := hasS hE h5 hw (n : Int)
      have hr5 := k1.rd
      have hl5 : ((xsN l (memM w) n).set n { atI l (n : Int) with P := 2 * (l.length : Int) + n }).length = l.length := by rw [List.length_set, xsN_len]
      have hl5a : l.length ≤ ((xsN l (memM w) n).set n { atI l (n : Int) with P := 2 * (l.length : Int) + n }).length := by omega
      have Ha5 := Hid.mk (show atI ((xsN l (memM w) n).set n { atI l (n : Int) with P := 2 * (l.length : Int) + n }) (n : Int) = { atI l (n : Int) with P := 2 * (l.length : Int) + n } by rw [atI_nat (by omega)]; simp)
      have Hs5 := Hid.mk (show ((xsN l (memM w) n).set n { atI l (n : Int) with P := 2 * (l.length : Int) + n }).set n { atI l (n : Int) with P := 1 + (n : Int) } = (xsN l (memM w) n).set n { atI l (n : Int) with P := 1 + (n : Int) } by rw [List.set_set])
      have hhm : hasM w (n : Int) = memM w n := by unfold hasM; rw [decide_eq_true (by omega), Bool.true_and, Int.toNat_natCast]
      rw [hhm] at hhas
      have hH5 : h5.length = H.length := by omega
      clear hl5 hr hx k3 hhm hbk
      generalize hq5 : (xsN l (memM w) n).set n { atI l (n : Int) with P := 2 * (l.length : Int) + n } = q5 at *
      cases hA : memM w n
      · rw [hA] at hhas
        have Hq := Hid.mk (show xsN l (memM w) (n + 1) = q5 by rw [Hs.out, ← hq5]; unfold xsT; rw [hA]; rfl)
        (repeat' (first | (with_reducible refine A1 (fun _ => ?_) (fun _ => ?_) <;> try (exfalso; omega)) | (with_reducible refine A2 (fun _ => ?_) (fun _ => ?_) <;> try (exfalso; omega)) | (with_reducible refine A3 (fun _ => ?_) (fun _ => ?_) <;> try (exfalso; omega)) | refine A4 (fun _ => ?_) (fun _ => ?_) | refine A5 (fun _ => ?_) (fun _ => ?_) | refine A6 (fun _ => ?_) (fun _ => ?_) | simp -dsimp (disch := omega) only [↓EA, EB, Nat.reduceEqDiff, Nat.reduceAdd, Nat.reduceLeDiff, Nat.reduceMul, ↓reduceIte, reduceCtorEq, newCells, bslV, eq_self, *]))
        exact Next.mk (n + 1) ⟨by omega, by omega, hp5, hb5, rfl, rfl, rfl, rfl, rfl, rfl, by rw [Hq.out]; exact k1⟩ (by omega)
      · rw [hA] at hhas
        have Hq := Hid.mk (show xsN l (memM w) (n + 1) = q5.set n { atI l (n : Int) with P := 1 + (n : Int) } by rw [Hs.out, Hs5.out]; unfold xsT; rw [hA]; rfl)
        (repeat' (first | (with_reducible refine A1 (fun _ => ?_) (fun _ => ?_) <;> try (exfalso; omega)) | (with_reducible refine A2 (fun _ => ?_) (fun _ => ?_) <;> try (exfalso; omega)) | (with_reducible refine A3 (fun _ => ?_) (fun _ => ?_) <;> try (exfalso; omega)) | refine A4 (fun _ => ?_) (fun _ => ?_) | refine A5 (fun _ => ?_) (fun _ => ?_) | refine A6 (fun _ => ?_) (fun _ => ?_) | simp -dsimp (disch := omega) only [↓EA, EB, Nat.reduceEqDiff, Nat.reduceAdd, Nat.reduceLeDiff, Nat.reduceMul, ↓reduceIte, reduceCtorEq, newCells, bslV, eq_self, *, hr5.len, hr5.ixs, hr5.ld, hr5.ld0, hr5.lda, hr5.ldx, hr5.ldx0, hr5.ldxa, encT]))
        refine wh_rdO k1 (fun b hb => by omega) { atI l (n : Int) with P := 1 + (n : Int) } (by omega) (by omega) (by decide) rfl (by rw [Ha5.out]; rfl) fun h6 j1 j2 j3 => ?_
        have hbk := k1.ge (fun e => by rw [e] at hl5a; have : l.length ≤ 0 := hl5a; omega)
        have hb6 : h6[h.length]? = some (.cells (encM w) false) := by rw [j3 _ (by omega)]; exact hb5
        have hp6 : Pre h h6 := fun b o hb => by
          have := (List.getElem?_eq_some_iff.1 hb).1
          rw [j3 b (by omega)]; exact hp5 b o hb
        rw [show ((n : Int)).toNat = n by omega, ← Hq.out] at j1
        clear j3
        (repeat' (first | (with_reducible refine A1 (fun _ => ?_) (fun _ => ?_) <;> try (exfalso; omega)) | (with_reducible refine A2 (fun _ => ?_) (fun _ => ?_) <;> try (exfalso; omega)) | (with_reducible refine A3 (fun _ => ?_) (fun _ => ?_) <;> try (exfalso; omega)) | refine A4 (fun _ => ?_) (fun _ => ?_) | refine A5 (fun _ => ?_) (fun _ => ?_) | refine A6 (fun _ => ?_) (fun _ => ?_) | simp -dsimp (disch := omega) only [↓EA, EB, Nat.reduceEqDiff, Nat.reduceAdd, Nat.reduceLeDiff, Nat.reduceMul, ↓reduceIte, reduceCtorEq, newCells, bslV, eq_self, *]))
        exact Next.mk (n + 1) ⟨by omega, by omega, hp6, hb6, rfl, rfl, rfl, rfl, rfl, rfl, j1⟩ (by omega)
    · have e : n = l.length := by omega
      subst e
      have hr := hx.rd
      have hxl := xsN_len l (memM w) l.length
      have hxl1 : l.length ≤ (xsN l (memM w) l.length).length := by omega
      have hat : atI (xsN l (memM w) l.length) (n0 : Int) = xsT l (memM w) n0 (atI l (n0 : Int)) := by
        rw [atI_nat (by omega), atI_nat (by omega)]
        have : n0 < l.length := by omega
        simp [xsN, this]
      clear hxl
      (repeat' (first | (with_reducible refine A1 (fun _ => ?_) (fun _ => ?_) <;> try (exfalso; omega)) | (with_reducible refine A2 (fun _ => ?_) (fun _ => ?_) <;> try (exfalso; omega)) | (with_reducible refine A3 (fun _ => ?_) (fun _ => ?_) <;> try (exfalso; omega)) | refine A4 (fun _ => ?_) (fun _ => ?_) | refine A5 (fun _ => ?_) (fun _ => ?_) | refine A6 (fun _ => ?_) (fun _ => ?_) | simp -dsimp (disch := omega) only [↓EA, EB, Nat.reduceEqDiff, Nat.reduceAdd, Nat.reduceLeDiff, Nat.reduceMul, ↓reduceIte, reduceCtorEq, newCells, bslV, eq_self, *, hr.len, hr.ixs, hr.ld, hr.ld0, hr.lda, hr.ldx, hr.ldx0, hr.ldxa, encT]))
      refine wh_rdO hx (fun b hb => by omega) { atI l (n0 : Int) with P := (l.length : Int) + 1 } (by omega) (by omega) (by decide) rfl (by rw [hat]; rfl) fun h5 k1 k2 k3 => ?_
      have hbk := hx.ge (fun e => by rw [e] at hxl1; have : l.length ≤ 0 := hxl1; omega)
      have hp5 : Pre h h5 := fun b o hb => by
        have := (List.getElem?_eq_some_iff.1 hb).1
        rw [k3 b (by omega)]; exact hp' b o hb
      rw [show ((n0 : Int)).toNat = n0 by omega, xsN_last (by omega)] at k1
      have hbd := boundS hE hX hZ (ht.pre hp5) k1.rd (fun t ht => by
        obtain ⟨k, hk, rfl⟩ := List.getElem_of_mem ht
        rw [opG_len] at hk
        have e := opG_at (a := 1) (b := 2 * (l.length : Int)) (c := (l.length : Int) + 1) (i := n0) (A := memM w) hk
        rw [atI_nat (by rw [opG_len]; exact hk)] at e
        rw [e]
        exact hs (atI l (k : Int)) (atI_mem (l := l) (i := (k : Int)) (by omega) (by omega))) (n0 : Int)
      clear k3
      (repeat' (first | (with_reducible refine A1 (fun _ => ?_) (fun _ => ?_) <;> try (exfalso; omega)) | (with_reducible refine A2 (fun _ => ?_) (fun _ => ?_) <;> try (exfalso; omega)) | (with_reducible refine A3 (fun _ => ?_) (fun _ => ?_) <;> try (exfalso; omega)) | refine A4 (fun _ => ?_) (fun _ => ?_) | refine A5 (fun _ => ?_) (fun _ => ?_) | refine A6 (fun _ => ?_) (fun _ => ?_) | simp -dsimp (disch := omega) only [↓EA, EB, Nat.reduceEqDiff, Nat.reduceAdd, Nat.reduceLeDiff, Nat.reduceMul, ↓reduceIte, reduceCtorEq, newCells, bslV, eq_self, *]))
      unfold fitsP
      rw [Hn1.out]
      congr 1
      exact (decide_eq_decide.2 ⟨fun h => ⟨hv, hi, h⟩, fun h => h.2.2⟩)
  · have e : fitsP l i (memM w) = false := decide_eq_false fun h => hc ⟨h.1, h.2.1⟩
    rw [e]
    by_cases hv : validP l
    · rw [decide_eq_true hv] at hm
      have hi : ¬ (0 ≤ i ∧ i < l.length) := fun h => hc ⟨hv, h⟩
      (repeat' (first | (with_reducible refine A1 (fun _ => ?_) (fun _ => ?_) <;> try (exfalso; omega)) | (with_reducible refine A2 (fun _ => ?_) (fun _ => ?_) <;> try (exfalso; omega)) | (with_reducible refine A3 (fun _ => ?_) (fun _ => ?_) <;> try (exfalso; omega)) | refine A4 (fun _ => ?_) (fun _ => ?_) | refine A5 (fun _ => ?_) (fun _ => ?_) | refine A6 (fun _ => ?_) (fun _ => ?_) | simp -dsimp (disch := omega) only [↓EA, EB, Nat.reduceEqDiff, Nat.reduceAdd, Nat.reduceLeDiff, Nat.reduceMul, ↓reduceIte, reduceCtorEq, newCells, bslV, eq_self, *]))
    · rw [decide_eq_false hv] at hm
      (repeat' (first | (with_reducible refine A1 (fun _ => ?_) (fun _ => ?_) <;> try (exfalso; omega)) | (with_reducible refine A2 (fun _ => ?_) (fun _ => ?_) <;> try (exfalso; omega)) | (with_reducible refine A3 (fun _ => ?_) (fun _ => ?_) <;> try (exfalso; omega)) | refine A4 (fun _ => ?_) (fun _ => ?_) | refine A5 (fun _ => ?_) (fun _ => ?_) | refine A6 (fun _ => ?_) (fun _ => ?_) | simp -dsimp (disch := omega) only [↓EA, EB, Nat.reduceEqDiff, Nat.reduceAdd, Nat.reduceLeDiff, Nat.reduceMul, ↓reduceIte, reduceCtorEq, newCells, bslV, eq_self, *]))
end Go.L.Try
namespace Go.L.Try
open Go Go.L
variable {E : Env} {G : Nat}
def belowM : Nat → List Nat
  | 0 => List.replicate 16 0
  | k + 1 => withM (belowM k) (k : Int)
theorem belowM_ok : ∀ k, okM (belowM k)
  | 0 => okM_zero
  | k + 1 => withM_ok (belowM_ok k) _
theorem belowM_mem : ∀ k, k ≤ 1024 → ∀ m, memM (belowM k) m = decide (m < k)
  | 0, _, m => by unfold belowM; rw [memM_zero]; simp
  | k + 1, hk, m => by
    unfold belowM
    rw [withM_mem (belowM_ok k) (by omega), belowM_mem k (by omega), Bool.eq_iff_iff]
    simp only [Bool.or_eq_true, decide_eq_true_eq]
    omega
theorem belowM_elems {n : Nat} (hn : n ≤ 1024) : elemsFrom (belowM n) 0 = List.range n := by
  unfold elemsFrom
  rw [List.filter_congr (q := fun m => decide (m < n)) fun m _ => belowM_mem n hn m, ← List.range_eq_range']
  have e : (List.range (1024 - 0)) = List.range n ++ (List.range (1024 - n)).map (n + ·) := by
    rw [← List.range_add]; congr 1; omega
  rw [e, List.filter_append, List.filter_eq_self.2 (by intro a ha; simpa using ha), List.filter_eq_nil_iff.2 (by intro a ha; simp at ha ⊢; omega), List.append_nil]
theorem belowS (hE : Laid E) (h : Heap) {n : Nat} (hn : n ≤ 1024) : callW E (.func (.func n_marks_Below) #[] #[]) [.int .i64 (n : Int)] h = some (.agg (encM (belowM n)).toArray, h, []) := by
  refine fn_same hE.marks_Below rfl (by simp) ?_
  simp only [argsF]
  have hmin : max 0 (min (n : Int) 1024) = n := by omega
  have hz0 : (z16).length = 16 := rfl
  have e0 : ∀ a : LObj, a = .cells z16 false → a = .cells (encM (belowM 0)) false := fun a h => h
  (repeat' (first | (with_reducible refine A1 (fun _ => ?_) (fun _ => ?_) <;> try (exfalso; omega)) | (with_reducible refine A2 (fun _ => ?_) (fun _ => ?_) <;> try (exfalso; omega)) | (with_reducible refine A3 (fun _ => ?_) (fun _ => ?_) <;> try (exfalso; omega)) | refine A4 (fun _ => ?_) (fun _ => ?_) | refine A5 (fun _ => ?_) (fun _ => ?_) | refine A6 (fun _ => ?_) (fun _ => ?_) | simp -dsimp (disch := omega) only [↓EA, EB, Nat.reduceEqDiff, Nat.reduceAdd, Nat.reduceLeDiff, Nat.reduceMul, ↓reduceIte, reduceCtorEq, newCells, bslV, eq_self, *, hmin]))
  refine WO.loop (fun (k : Nat) fr h' => k ≤ n ∧ h' = h ++ [LObj.cells z16 false, LObj.cells (encM (belowM k)) false] ∧ get fr 2 = .pointer (some ⟨h.length, 0, none⟩) ∧ get fr 3 = .pointer (some ⟨h.length + 1, 0, none⟩) ∧ get fr 7 = .int .i64 n ∧ get fr 8 = .int .i64 k) (fun k => n - k) ?_ 0 ⟨Nat.zero_le _, rfl, rfl, rfl, rfl, rfl⟩
  rintro k fr h' ⟨hk, rfl, g2, g3, g7, g8⟩
  have hw := belowM_ok k
  have hl := encM_len hw
  have ho := encM_one (belowM k)
  unfold c_marks_Below_l0
  rcases Nat.lt_or_ge k n with hlt | hge
  · have hm : k < 1024 := by omega
    have hwm : belowM (k + 1) = (belowM k).set (k / 64) (wordM (belowM k) (k / 64) ||| 2 ^ (k % 64)) := withM_in hm
    have hok := belowM_ok (k + 1)
    have hat := encM_at hw (i := k / 64) (by omega)
    have hx := wordM_lt hw (k / 64)
    have hp := pow_lt64 (Nat.mod_lt k (by decide : 64 > 0))
    have hsh := fun q => bin_shl1 (q := q) (k := k % 64) (Nat.mod_lt _ (by decide))
    have hand := fun q => bin_and63 (q := q) (a := k) (by omega)
    have hor := fun q => bin_oru (q := q) hx hp
    have hset := encM_set (belowM k) (k / 64) (wordM (belowM k) (k / 64) ||| 2 ^ (k % 64))
    have hdiv : ((k : Int) / 64).toNat = k / 64 := by omega
    have hmul : k / 64 * 1 = k / 64 := Nat.mul_one _
    have h16 : k / 64 + 1 ≤ 16 := by omega
    rw [← hwm] at hset
    have Hwm := Hid.mk hwm
    clear hok hx hp hw hwm
    generalize hv : (wordM (belowM k) (k / 64) ||| 2 ^ (k % 64)) = v at *
    (repeat' (first | (with_reducible refine A1 (fun _ => ?_) (fun _ => ?_) <;> try (exfalso; omega)) | (with_reducible refine A2 (fun _ => ?_) (fun _ => ?_) <;> try (exfalso; omega)) | (with_reducible refine A3 (fun _ => ?_) (fun _ => ?_) <;> try (exfalso; omega)) | refine A4 (fun _ => ?_) (fun _ => ?_) | refine A5 (fun _ => ?_) (fun _ => ?_) | refine A6 (fun _ => ?_) (fun _ => ?_) | simp -dsimp (disch := omega) only [↓EA, EB, Nat.reduceEqDiff, Nat.reduceAdd, Nat.reduceLeDiff, Nat.reduceMul, ↓reduceIte, reduceCtorEq, newCells, bslV, eq_self, *, bin_shr6]))
    exact Next.mk (k + 1) ⟨by omega, rfl, rfl, rfl, rfl, by simp only [get]; simp⟩ (by omega)
  · have e : k = n := by omega
    subst e
    have htk := encM_take hw
    have hs0 := setM0 hw
    have hnn := encM_nn (belowM k) h.length
    unfold z16
    (repeat' (first | (with_reducible refine A1 (fun _ => ?_) (fun _ => ?_) <;> try (exfalso; omega)) | (with_reducible refine A2 (fun _ => ?_) (fun _ => ?_) <;> try (exfalso; omega)) | (with_reducible refine A3 (fun _ => ?_) (fun _ => ?_) <;> try (exfalso; omega)) | refine A4 (fun _ => ?_) (fun _ => ?_) | refine A5 (fun _ => ?_) (fun _ => ?_) | refine A6 (fun _ => ?_) (fun _ => ?_) | simp -dsimp (disch := omega) only [↓EA, EB, Nat.reduceEqDiff, Nat.reduceAdd, Nat.reduceLeDiff, Nat.reduceMul, ↓reduceIte, reduceCtorEq, newCells, bslV, eq_self, *]))
end Go.L.Try
namespace Go.L.Try
open Go Go.L
variable {E : Env} {G : Nat}
abbrev keyQ : EqK := .flat [(.one .i), (.arr 16 .i)]
def keyL (i : Nat) (w : List Nat) : Value := .agg (.int .i64 (i : Int) :: encM w).toArray
theorem sameA_enc : ∀ (n : Nat) {w v : List Nat}, w.length = n → v.length = n → sameA .i n (encM w) (encM v) = some (decide (w = v))
  | 0, w, v, h1, h2 => by rw [List.length_eq_zero_iff.1 h1, List.length_eq_zero_iff.1 h2]; rfl
  | n + 1, x :: w, y :: v, h1, h2 => by
    have ih := sameA_enc n (w := w) (v := v) (by simpa using h1) (by simpa using h2)
    unfold encM at ih ⊢
    simp only [List.map_cons, sameA, sameS, if_true, ih, Option.bind_some, Option.map_some]
    congr 1
    rw [Bool.eq_iff_iff]
    simp
    omega
  | n + 1, [], _, h1, _ => by cases h1
  | n + 1, _ :: _, [], _, h2 => by cases h2
theorem same_key {i j : Nat} {w v : List Nat} (hw : okM w) (hv : okM v) : sameKey keyQ (keyL i w) (keyL j v) = some (decide (i = j ∧ w = v)) := by
  have h1 := encM_len hw
  have h2 := encM_len hv
  have e1 : (encM w).take 16 = encM w := List.take_of_length_le (by omega)
  have e2 : (encM v).take 16 = encM v := List.take_of_length_le (by omega)
  have e3 : (encM w).drop 16 = [] := List.drop_eq_nil_of_le (by omega)
  have e4 : (encM v).drop 16 = [] := List.drop_eq_nil_of_le (by omega)
  have h := sameA_enc 16 hw.len hv.len
  simp only [keyL, sameKey, sameF, sameS, if_true, e1, e2, e3, e4, h, Option.bind_some, Option.map_some, Bool.and_true]
  congr 1
  rw [Bool.eq_iff_iff]
  simp
  omega
def Seen (l : List Task) (es : List (Value × Value)) : Prop := ∀ e ∈ es, ∃ (i : Nat) (w : List Nat), okM w ∧ e = (keyL i w, .bool (fitsP l (i : Int) (memM w)))
theorem find_seen {l : List Task} {i : Nat} {w : List Nat} (hw : okM w) : ∀ {es : List (Value × Value)}, Seen l es → find keyQ (keyL i w) es = some none ∨ find keyQ (keyL i w) es = some (some (.bool (fitsP l (i : Int) (memM w))))
  | [], _ => .inl rfl
  | (x, v) :: r, h => by
    obtain ⟨j, u, hu, e⟩ := h (x, v) (by simp)
    cases e
    have ih := find_seen hw (i := i) (es := r) fun e he => h e (by simp [he])
    simp only [find, same_key hw hu, Option.bind_some]
    by_cases e : i = j ∧ w = u
    · obtain ⟨rfl, rfl⟩ := e
      simp
    · rw [decide_eq_false e]; exact ih
theorem put_seen {l : List Task} {i : Nat} {w : List Nat} (hw : okM w) : ∀ {es : List (Value × Value)}, Seen l es → ∃ es', putE keyQ (keyL i w) (.bool (fitsP l (i : Int) (memM w))) es = some es' ∧ Seen l es'
  | [], _ => ⟨_, rfl, fun e he => ⟨i, w, hw, List.mem_singleton.1 he⟩⟩
  | (x, v) :: r, h => by
    obtain ⟨j, u, hu, e⟩ := h (x, v) (by simp)
    cases e
    obtain ⟨es', h1, h2⟩ := put_seen hw (i := i) (es := r) fun e he => h e (by simp [he])
    simp only [putE, same_key hw hu, Option.bind_some]
    by_cases e : i = j ∧ w = u
    · obtain ⟨rfl, rfl⟩ := e
      refine ⟨_, by simp; rfl, fun e he => ?_⟩
      rcases List.mem_cons.1 he with rfl | he
      · exact ⟨i, w, hw, rfl⟩
      · exact h e (by simp [he])
    · rw [decide_eq_false e]
      refine ⟨_, by simp [h1]; rfl, fun e he => ?_⟩
      rcases List.mem_cons.1 he with rfl | he
      · exact ⟨j, u, hu, rfl⟩
      · exact h2 e he
theorem key_key {i : Nat} {w : List Nat} (hw : okM w) : keyV keyQ (keyL i w) = true := by unfold keyV; rw [same_key hw hw]; simp
theorem lk_seen {l : List Task} {i : Nat} {w : List Nat} (hw : okM w) {es : List (Value × Value)} (hs : Seen l es) : ∃ c : Bool, lkO keyQ (.bool false) (keyL i w) true (some (.map es)) = some (.tuple #[.bool (c && fitsP l (i : Int) (memM w)), .bool c]) := by
  rcases find_seen hw (i := i) hs with h | h
  · exact ⟨false, by simp only [lkO, key_key hw, if_true, h, Option.map_some]; rfl⟩
  · exact ⟨true, by simp only [lkO, key_key hw, if_true, h, Option.map_some]; simp⟩
theorem mp_seen {l : List Task} {i : Nat} {w : List Nat} (hw : okM w) {es : List (Value × Value)} (hs : Seen l es) : ∃ es', Seen l es' ∧ ∀ (h : Heap) (r : Nat), mpO keyQ (keyL i w) (.bool (fitsP l (i : Int) (memM w))) h r (some (.map es)) = some (undef, h.set r (.map es'), [r]) := by
  obtain ⟨es', h1, h2⟩ := put_seen hw (i := i) hs
  exact ⟨es', h2, fun h r => by simp only [mpO, key_key hw, if_true, h1, Option.map_some]⟩
end Go.L.Try
namespace Go.L.Try
open Go Go.L
variable {E : Env} {G : Nat}
def sCells (vo : Value) (lv t : Int) (vl : Value) (w : List Nat) (mb : Nat) : List Value := [vo, .int .i64 lv, .int .i64 t, vl] ++ encM w ++ [.map (some mb)]
section
variable {vo vl : Value} {lv t : Int} {w : List Nat} {mb : Nat}
theorem sC_len (hw : okM w) : (sCells vo lv t vl w mb).length = 21 := by simp [sCells, encM_len hw]
theorem sC_left (hw : okM w) : ((sCells vo lv t vl w mb).drop 4).take 16 = encM w := by
  have := encM_len hw
  simp only [sCells, List.cons_append, List.nil_append, List.drop_succ_cons, List.drop_zero]
  rw [List.take_append_of_le_length (by omega), List.take_of_length_le (by omega)]
theorem sC_seen (hw : okM w) : (sCells vo lv t vl w mb)[20]? = some (.map (some mb)) := by
  have := encM_len hw
  simp only [sCells, List.cons_append, List.nil_append, List.getElem?_cons_succ]
  rw [List.getElem?_append_right (by omega), this]; rfl
theorem sC_0 : (sCells vo lv t vl w mb)[0]? = some vo := rfl
theorem sC_1 : (sCells vo lv t vl w mb)[1]? = some (.int .i64 lv) := rfl
theorem sC_2 : (sCells vo lv t vl w mb)[2]? = some (.int .i64 t) := rfl
theorem sC_3 : (sCells vo lv t vl w mb)[3]? = some vl := rfl
theorem sC_st (x : Int) : setCells (sCells vo lv t vl w mb) 2 [.int .i64 x] = sCells vo lv x vl w mb := rfl
theorem sC_one (hov : oneCell vo = true) (hol : oneCell vl = true) : (sCells vo lv t vl w mb).all oneCell = true := by
  simp [sCells, hov, hol, encM_one w]; exact ⟨rfl, rfl, rfl⟩
end
theorem set_key {i : Nat} {w : List Nat} (hw : okM w) (z : List Value) (hz : z.length = 16) (x : Value) : setCells (x :: z) 1 (encM w) = x :: encM w := by
  have := setCells_pre [x] z (encM w) (by rw [hz, encM_len hw])
  simpa using this
theorem pick_l1 (hE : Laid E) (hX : LaidAdd E) (hZ : LaidTz E G) {H : Heap} (ht : Tab G H) {bs mb b1 b2 b3 : Nat} {vo vl : Value} {lv t : Int} {l : List Task} {w : List Nat} {es : List (Value × Value)} (hl : Rd 7 encT H vl l) (hs : ∀ t ∈ l, t.name.size < 1152921504606846976) (hw : okM w)
    (hb : H[bs]? = some (.cells (sCells vo lv t vl w mb) false)) (hm : H[mb]? = some (.map es)) (h1 : H[b1]? = some (.cells [.pointer (some ⟨bs, 0, none⟩)] false)) (h2 : H[b2]? = some (.cells [.int .i64 0] false)) (h3 : H[b3]? = some (.cells [.bool false] false))
    (hne : b1 ≠ bs ∧ b2 ≠ bs ∧ b3 ≠ bs ∧ b2 ≠ b3) (hse : Seen l es) (ht0 : 0 ≤ t ∧ t < 4611686018427387904) (i : Nat) {W : Nat → Prop} (hW : W bs ∧ W mb ∧ W b2 ∧ W b3 ∧ ∀ b, H.length ≤ b → W b) {Q : Ex → Fr → Heap → Prop} {fr : Fr}
    (g1 : get fr 1 = .pointer (some ⟨b1, 0, none⟩)) (g2 : get fr 2 = .pointer (some ⟨b2, 0, none⟩)) (g3 : get fr 3 = .pointer (some ⟨b3, 0, none⟩)) (g4 : get fr 4 = .int .i64 (i : Int))
    (hq0 : fitsP l (i : Int) (memM w) = false → ∀ es' fr' x, Seen l es' → Q .normal fr' (((H ++ x).set mb (.map es')).set bs (.cells (sCells vo lv (t + 1) vl w mb) false)))
    (hq1 : fitsP l (i : Int) (memM w) = true → ∀ es' fr' x, Seen l es' → Q .ret fr' (((((H ++ x).set mb (.map es')).set bs (.cells (sCells vo lv (t + 1) vl w mb) false)).set b2 (.cells [.int .i64 (i : Int)] false)).set b3 (.cells [.bool true] false))) :
    WO W (code (callW E) iterW 58 c_opa_search_pick_l1 fr H) Q := by
  have hbl := (List.getElem?_eq_some_iff.1 hb).1
  have hml := (List.getElem?_eq_some_iff.1 hm).1
  have hl1 := (List.getElem?_eq_some_iff.1 h1).1
  have hl2 := (List.getElem?_eq_some_iff.1 h2).1
  have hl3 := (List.getElem?_eq_some_iff.1 h3).1
  have m1 : b1 ≠ mb := fun e => by rw [e, hm] at h1; cases h1
  have m2 : b2 ≠ mb := fun e => by rw [e, hm] at h2; cases h2
  have m3 : b3 ≠ mb := fun e => by rw [e, hm] at h3; cases h3
  have ms : bs ≠ mb := fun e => by rw [e, hm] at hb; cases hb
  have kb := fun x => ((List.getElem?_append_left hbl (l₂ := x)).trans hb)
  have km := fun x => ((List.getElem?_append_left hml (l₂ := x)).trans hm)
  have k1 := fun x => ((List.getElem?_append_left hl1 (l₂ := x)).trans h1)
  have k2 := fun x => ((List.getElem?_append_left hl2 (l₂ := x)).trans h2)
  have k3 := fun x => ((List.getElem?_append_left hl3 (l₂ := x)).trans h3)
  have j1 : ∀ x o, ((H ++ x).set mb o)[b1]? = _ := fun x o => (gets (Ne.symm m1)).trans (k1 x)
  have jb : ∀ x o, ((H ++ x).set mb o)[bs]? = _ := fun x o => (gets (Ne.symm ms)).trans (kb x)
  have j2 : ∀ x o c, (((H ++ x).set mb o).set bs c)[b2]? = _ := fun x o c => ((gets (Ne.symm hne.2.1)).trans (gets (Ne.symm m2))).trans (k2 x)
  have j3 : ∀ x o c d, ((((H ++ x).set mb o).set bs c).set b2 d)[b3]? = _ := fun x o c d => (((gets hne.2.2.2).trans (gets (Ne.symm hne.2.2.1))).trans (gets (Ne.symm m3))).trans (k3 x)
  have i2 : ∀ x c, ((H ++ x).set bs c)[b2]? = _ := fun x c => (gets (Ne.symm hne.2.1)).trans (k2 x)
  have i3 : ∀ x c d, (((H ++ x).set bs c).set b2 d)[b3]? = _ := fun x c d => ((gets hne.2.2.2).trans (gets (Ne.symm hne.2.2.1))).trans (k3 x)
  have q0 := sC_len (vo := vo) (lv := lv) (t := t) (vl := vl) (mb := mb) hw
  have q4 := sC_left (vo := vo) (lv := lv) (t := t) (vl := vl) (mb := mb) hw
  have q20 := sC_seen (vo := vo) (lv := lv) (t := t) (vl := vl) (mb := mb) hw
  have q2 := sC_2 (vo := vo) (lv := lv) (t := t) (vl := vl) (w := w) (mb := mb)
  have q3 := sC_3 (vo := vo) (lv := lv) (t := t) (vl := vl) (w := w) (mb := mb)
  have qs := sC_st (vo := vo) (lv := lv) (t := t) (vl := vl) (w := w) (mb := mb)
  have hv := withoutM_ok hw (i : Int)
  have hwo := fun x => withoutS hE (H ++ x) hw (i : Int)
  have hwo0 := withoutS hE H hw (i : Int)
  have hfit := fun x => fitsS hE hX hZ (ht.app x) (hl.app x) hs hv (i : Int)
  have hef : fitsP l (i : Int) (memM (withoutM w (i : Int))) = fitsP l (i : Int) (memM w) := fits_cong fun k _ hk => by
    by_cases hi : i < 1024
    · rw [withoutM_mem hw hi, decide_eq_false (show ¬ k = i by omega), Bool.not_false, Bool.and_true]
    · unfold withoutM; rw [if_neg (by omega)]
  rw [hef] at hfit
  have hkey : ∀ z : List Value, z.length = 16 → setCells (.int .i64 (i : Int) :: z) 1 (encM (withoutM w (i : Int))) = .int .i64 (i : Int) :: encM (withoutM w (i : Int)) := fun z hz => set_key (i := i) hv z hz _
  have hkz := hkey z16 rfl
  obtain ⟨c, hlk⟩ := lk_seen hv (i := i) hse
  obtain ⟨es', hse', hmp⟩ := mp_seen hv (i := i) hse
  rw [hef] at hlk hmp
  generalize hF : fitsP l (i : Int) (memM w) = F at *
  unfold keyL at hlk hmp
  have e16 := encM_len hv
  have eone := encM_one (withoutM w (i : Int))
  have etk := encM_take hv
  have vl1 := hl.one
  have vlc := hl.cv
  have vln := Rd.nnil hl
  unfold c_opa_search_pick_l1
  have Hq := Hid.mk (And.intro hq0 hq1)
  have Hse := Hid.mk (And.intro hse hse')
  clear hq0 hq1 hse hse' vln hkey ht hef
  unfold z16 at hkz
  generalize withoutM w (i : Int) = w' at *
  obtain ⟨w1, w2, w3, w4, w5⟩ := hW
  have w6 := w5 H.length (Nat.le_refl _)
  cases c <;> cases F
  · (repeat' (first | (with_reducible refine A1 (fun _ => ?_) (fun _ => ?_) <;> try (exfalso; omega)) | (with_reducible refine A2 (fun _ => ?_) (fun _ => ?_) <;> try (exfalso; omega)) | (with_reducible refine A3 (fun _ => ?_) (fun _ => ?_) <;> try (exfalso; omega)) | refine A4 (fun _ => ?_) (fun _ => ?_) | refine A5 (fun _ => ?_) (fun _ => ?_) | refine A6 (fun _ => ?_) (fun _ => ?_) | simp -dsimp (disch := omega) only [↓EA, EB, Nat.reduceEqDiff, Nat.reduceAdd, Nat.reduceLeDiff, Nat.reduceMul, ↓reduceIte, reduceCtorEq, newCells, bslV, eq_self, *, Bool.false_and, Bool.true_and]))
    exact Hq.out.1 rfl es' _ _ Hse.out.2
  · (repeat' (first | (with_reducible refine A1 (fun _ => ?_) (fun _ => ?_) <;> try (exfalso; omega)) | (with_reducible refine A2 (fun _ => ?_) (fun _ => ?_) <;> try (exfalso; omega)) | (with_reducible refine A3 (fun _ => ?_) (fun _ => ?_) <;> try (exfalso; omega)) | refine A4 (fun _ => ?_) (fun _ => ?_) | refine A5 (fun _ => ?_) (fun _ => ?_) | refine A6 (fun _ => ?_) (fun _ => ?_) | simp -dsimp (disch := omega) only [↓EA, EB, Nat.reduceEqDiff, Nat.reduceAdd, Nat.reduceLeDiff, Nat.reduceMul, ↓reduceIte, reduceCtorEq, newCells, bslV, eq_self, *, Bool.false_and, Bool.true_and]))
    exact Hq.out.2 rfl es' _ _ Hse.out.2
  · have i0 : ∀ x : Heap, (H ++ x).set mb (.map es) = H ++ x := fun x => set_same (km x)
    (repeat' (first | (with_reducible refine A1 (fun _ => ?_) (fun _ => ?_) <;> try (exfalso; omega)) | (with_reducible refine A2 (fun _ => ?_) (fun _ => ?_) <;> try (exfalso; omega)) | (with_reducible refine A3 (fun _ => ?_) (fun _ => ?_) <;> try (exfalso; omega)) | refine A4 (fun _ => ?_) (fun _ => ?_) | refine A5 (fun _ => ?_) (fun _ => ?_) | refine A6 (fun _ => ?_) (fun _ => ?_) | simp -dsimp (disch := omega) only [↓EA, EB, Nat.reduceEqDiff, Nat.reduceAdd, Nat.reduceLeDiff, Nat.reduceMul, ↓reduceIte, reduceCtorEq, newCells, bslV, eq_self, *, Bool.false_and, Bool.true_and]))
    rw [← i0]
    exact Hq.out.1 rfl es _ _ Hse.out.1
  · have i0 : ∀ x : Heap, (H ++ x).set mb (.map es) = H ++ x := fun x => set_same (km x)
    (repeat' (first | (with_reducible refine A1 (fun _ => ?_) (fun _ => ?_) <;> try (exfalso; omega)) | (with_reducible refine A2 (fun _ => ?_) (fun _ => ?_) <;> try (exfalso; omega)) | (with_reducible refine A3 (fun _ => ?_) (fun _ => ?_) <;> try (exfalso; omega)) | refine A4 (fun _ => ?_) (fun _ => ?_) | refine A5 (fun _ => ?_) (fun _ => ?_) | refine A6 (fun _ => ?_) (fun _ => ?_) | simp -dsimp (disch := omega) only [↓EA, EB, Nat.reduceEqDiff, Nat.reduceAdd, Nat.reduceLeDiff, Nat.reduceMul, ↓reduceIte, reduceCtorEq, newCells, bslV, eq_self, *, Bool.false_and, Bool.true_and]))
    rw [← i0]
    exact Hq.out.2 rfl es _ _ Hse.out.1
end Go.L.Try
