/- OPA: the document's Fits. -/
import Derived.Test.YtafbiejbnbocoaaDoorPi
set_option linter.unusedVariables false
set_option linter.unusedSimpArgs false
set_option maxRecDepth 100000
set_option maxHeartbeats 2000000
namespace Go.L.Try
open Go Go.L
variable {E : Env} {G : Nat}
def encO (b : Bool) : List Value := [.bool b]
theorem flatO : Flat encO := fun _ => rfl
def ysT (l : List Task) (A : Nat → Bool) (k : Nat) (t : Task) : Task := { t with P := if A k then 1 + (k : Int) else 5000 + (k : Int) }
def ysN (l : List Task) (A : Nat → Bool) (n : Nat) : List Task := l.mapIdx fun k t => if k < n then ysT l A k t else t
theorem ysN_len (l : List Task) (A : Nat → Bool) (n : Nat) : (ysN l A n).length = l.length := by simp [ysN]
theorem ysN_zero (l : List Task) (A : Nat → Bool) : ysN l A 0 = l := by
  apply List.ext_getElem?
  intro k
  simp [ysN]
theorem ysN_at {l : List Task} {A : Nat → Bool} {n : Nat} (hn : n < l.length) : atI (ysN l A n) (n : Int) = atI l (n : Int) := by
  rw [atI_nat (by rw [ysN_len]; exact hn), atI_nat hn]
  simp [ysN]
theorem ysN_succ {l : List Task} {A : Nat → Bool} {n : Nat} (hn : n < l.length) : ysN l A (n + 1) = (ysN l A n).set n (ysT l A n (atI l (n : Int))) := by
  apply List.ext_getElem?
  intro k
  rw [List.getElem?_set]
  by_cases e : n = k
  · subst e
    rw [if_pos rfl, if_pos (by rw [ysN_len]; exact hn), atI_nat hn]
    simp [ysN, hn]
  · rw [if_neg e]
    unfold ysN
    rw [List.getElem?_mapIdx, List.getElem?_mapIdx]
    by_cases h2 : k < n
    · simp only [h2, if_true, show k < n + 1 by omega]
    · simp only [h2, if_false, show ¬ k < n + 1 by omega]
theorem ysN_last {l : List Task} {A : Nat → Bool} {i : Nat} (hi : i < l.length) : (ysN l A l.length).set i { atI l (i : Int) with P := 4000 } = opG 1 5000 4000 l i A := by
  apply List.ext_getElem?
  intro k
  rw [List.getElem?_set]
  unfold opG
  rw [List.getElem?_mapIdx]
  by_cases e : i = k
  · subst e
    rw [if_pos rfl, if_pos (by rw [ysN_len]; exact hi), List.getElem?_eq_getElem hi, atI_nat hi]
    simp
  · rw [if_neg e]
    unfold ysN
    rw [List.getElem?_mapIdx]
    by_cases h2 : k < l.length
    · rw [List.getElem?_eq_getElem h2]
      simp only [Option.map_some, h2, if_true, ysT, show ¬ k = i from fun h => e h.symm, if_false]
    · rw [List.getElem?_eq_none (by omega)]; rfl
def atO (bl : List Bool) (k : Nat) : Bool := atI bl (k : Int)
theorem atO_out {bl : List Bool} {k : Nat} (h : bl.length ≤ k) : atO bl k = false := by unfold atO atI; rw [Int.toNat_natCast, List.getD_eq_getElem?_getD, List.getElem?_eq_none h]; rfl
theorem fits19 (hE : Laid E) {h : Heap} {vl vb : Value} {l : List Task} {bl : List Bool} (hl : Rd 7 encT h vl l) (hs : ∀ t ∈ l, t.name.size < 1152921504606846976) (hbl : Rd 1 encO h vb bl) (i : Int) :
    callW E (.func (.func n_ref19_Fits) #[] #[]) [vl, .int .i64 i, vb] h = some (.bool (fitsP l i (atO bl)), h, []) := by
  refine fn_same hE.ref19_Fits rfl (by simp) ?_
  have hm := checkAll04 hE hl hs
  have hll := hl.len
  have hfew := hl.few
  simp only [argsF]
  have er := fits_ref (l := l) (i := i) (A := atO bl) (B := atO bl) fun k _ => rfl
  by_cases hc : validP l ∧ (0 ≤ i ∧ i < l.length)
  · obtain ⟨hv, hi⟩ := hc
    have hn := (valid_iff.1 hv).1
    have hnl : l ≠ [] := fun e => by rw [e] at hn; simp at hn
    have hv2 := hv
    unfold validP at hv2
    (repeat' (first | (with_reducible refine A2 (fun _ => ?_) (fun _ => ?_) <;> try (exfalso; omega)) | (with_reducible refine A3 (fun _ => ?_) (fun _ => ?_) <;> try (exfalso; omega)) | simp -dsimp (disch := omega) only [↓EA, EB, Nat.reduceEqDiff, Nat.reduceAdd, Nat.reduceLeDiff, Nat.reduceMul, ↓reduceIte, reduceCtorEq, newCells, bslV, eq_self, *]))
    refine wx_copy (sz := 7) (enc := encT) (c := []) (ro := false) (off := 0) (l := l) (by rw [geta0]; rfl) (Nat.zero_le _) (hl.app _) hnl (fun _ => rfl) (by decide) (by decide) (by omega) fun rx => ?_
    have hr0 := rx.rdO.less (m' := h.length + 1) (by simp)
    have hp : Pre h (h ++ [LObj.cells [] false] ++ [LObj.cells (l.map encT).flatten false]) := (Pre.app h _).trans (Pre.app _ _)
    clear rx hm
    generalize h ++ [LObj.cells [] false] ++ [LObj.cells (l.map encT).flatten false] = H at *
    generalize Value.slice (some ⟨(h ++ [LObj.cells [] false]).length, 0, some 7⟩) l.length l.length = v at *
    have hHl := hp.le
    have hv0 := hr0.rd.cv
    have hv1 := hr0.rd.one
    have hlen := hr0.rd.len
    obtain ⟨n0, hn0⟩ : ∃ n0 : Nat, i = n0 := ⟨i.toNat, by omega⟩
    subst hn0
    have Hn1 := Hid.mk (Int.toNat_natCast n0)
    (repeat' simp -dsimp (disch := omega) only [↓EA, EB, Nat.reduceEqDiff, ↓reduceIte, reduceCtorEq, eq_self, *])
    refine WO.loop (fun (n : Nat) fr h' => n ≤ l.length ∧ Pre h h' ∧ get fr 1 = .int .i64 n0 ∧ get fr 2 = vb ∧ get fr 7 = v ∧ get fr 8 = .int .i64 n ∧ RdO (h.length + 1) 7 encT h' v (ysN l (atO bl) n)) (fun n => l.length - n) ?_ 0 ⟨Nat.zero_le _, hp, rfl, rfl, rfl, rfl, by rw [ysN_zero]; exact hr0⟩
    rintro n fr h' ⟨hn', hp', g1, g2, g7, g8, hx⟩
    unfold c_ref19_Fits_l0
    have hr := hx.rd
    have hxl := ysN_len l (atO bl) n
    have hlx : lensV false v = some (.int .i64 l.length) := by rw [hr.len, hxl]
    have hxl1 : l.length ≤ (ysN l (atO bl) n).length := by omega
    have hxl2 : (ysN l (atO bl) n).length ≤ l.length := by omega
    have hne : ysN l (atO bl) n ≠ [] := fun e => by rw [e] at hxl1; have : l.length ≤ 0 := hxl1; omega
    have hbk := hx.ge hne
    clear hxl hr0 hlen
    rcases Nat.lt_or_ge n l.length with hlt | hge
    · have Hs := Hid.mk (ysN_succ (A := atO bl) hlt)
      have Ha := Hid.mk (ysN_at (A := atO bl) hlt)
      (repeat' (first | (with_reducible refine A3 (fun _ => ?_) (fun _ => ?_) <;> try (exfalso; omega)) | simp -dsimp (disch := omega) only [↓EA, EB, Nat.reduceEqDiff, ↓reduceIte, eq_self, *, hr.len, hr.ixs]))
      refine wh_rdO hx (fun b hb => by omega) { atI l (n : Int) with P := 5000 + (n : Int) } (by omega) (by omega) (by decide) rfl (by rw [Ha.out]; rfl) fun h5 k1 k2 k3 => ?_
      have hp5 : Pre h h5 := fun b o hb => by
        have := (List.getElem?_eq_some_iff.1 hb).1
        rw [k3 b (by omega)]; exact hp' b o hb
      rw [show ((n : Int)).toNat = n by omega] at k1
      have hb5 := hbl.pre hp5
      have hr5 := k1.rd
      have hl5 : ((ysN l (atO bl) n).set n { atI l (n : Int) with P := 5000 + (n : Int) }).length = l.length := by rw [List.length_set, ysN_len]
      have hl5a : l.length ≤ ((ysN l (atO bl) n).set n { atI l (n : Int) with P := 5000 + (n : Int) }).length := by omega
      have Ha5 := Hid.mk (show atI ((ysN l (atO bl) n).set n { atI l (n : Int) with P := 5000 + (n : Int) }) (n : Int) = { atI l (n : Int) with P := 5000 + (n : Int) } by rw [atI_nat (by omega)]; simp)
      have Hs5 := Hid.mk (show ((ysN l (atO bl) n).set n { atI l (n : Int) with P := 5000 + (n : Int) }).set n { atI l (n : Int) with P := 1 + (n : Int) } = (ysN l (atO bl) n).set n { atI l (n : Int) with P := 1 + (n : Int) } by rw [List.set_set])
      have hlb := hbl.len
      clear hl5 hr hx k3 hbk hxl1 hxl2 hne
      generalize hq5 : (ysN l (atO bl) n).set n { atI l (n : Int) with P := 5000 + (n : Int) } = q5 at *
      cases hA : atO bl n
      · have Hq := Hid.mk (show ysN l (atO bl) (n + 1) = q5 by rw [Hs.out, ← hq5]; unfold ysT; rw [hA]; rfl)
        have hat : atI bl (n : Int) = false := hA
        (repeat' (first | (with_reducible refine A1 (fun _ => ?_) (fun _ => ?_) <;> try (exfalso; omega)) | simp -dsimp (disch := omega) only [↓EA, EB, Nat.reduceEqDiff, ↓reduceIte, eq_self, *, hb5.len, hb5.ixs, hb5.ld0, encO]))
        all_goals exact Next.mk (n + 1) ⟨by omega, hp5, rfl, rfl, rfl, rfl, by rw [Hq.out]; exact k1⟩ (by omega)
      · have Hq := Hid.mk (show ysN l (atO bl) (n + 1) = q5.set n { atI l (n : Int) with P := 1 + (n : Int) } by rw [Hs.out, Hs5.out]; unfold ysT; rw [hA]; rfl)
        have hat : atI bl (n : Int) = true := hA
        have hnb : n < bl.length := by
          rcases Nat.lt_or_ge n bl.length with h | h
          · exact h
          · rw [atO_out h] at hA; cases hA
        (repeat' (first | (with_reducible refine A1 (fun _ => ?_) (fun _ => ?_) <;> try (exfalso; omega)) | simp -dsimp (disch := omega) only [↓EA, EB, Nat.reduceEqDiff, ↓reduceIte, eq_self, *, hr5.ixs, hb5.len, hb5.ixs, hb5.ld0, encO]))
        refine wh_rdO k1 (fun b hb => by omega) { atI l (n : Int) with P := 1 + (n : Int) } (by omega) (by omega) (by decide) rfl (by rw [Ha5.out]; rfl) fun h6 j1 j2 j3 => ?_
        have hbk := k1.ge (fun e => by rw [e] at hl5a; have : l.length ≤ 0 := hl5a; omega)
        have hp6 : Pre h h6 := fun b o hb => by
          have := (List.getElem?_eq_some_iff.1 hb).1
          rw [j3 b (by omega)]; exact hp5 b o hb
        rw [show ((n : Int)).toNat = n by omega, ← Hq.out] at j1
        clear j3
        (repeat' simp -dsimp (disch := omega) only [↓EA, EB, Nat.reduceEqDiff, ↓reduceIte, eq_self, *])
        exact Next.mk (n + 1) ⟨by omega, hp6, rfl, rfl, rfl, rfl, j1⟩ (by omega)
    · have e : n = l.length := by omega
      subst e
      have hat : atI (ysN l (atO bl) l.length) (n0 : Int) = ysT l (atO bl) n0 (atI l (n0 : Int)) := by
        rw [atI_nat (by omega), atI_nat (by omega)]
        have : n0 < l.length := by omega
        simp [ysN, this]
      (repeat' (first | (with_reducible refine A3 (fun _ => ?_) (fun _ => ?_) <;> try (exfalso; omega)) | simp -dsimp (disch := omega) only [↓EA, EB, Nat.reduceEqDiff, ↓reduceIte, eq_self, *, hr.len, hr.ixs]))
      refine wh_rdO hx (fun b hb => by omega) { atI l (n0 : Int) with P := 4000 } (by omega) (by omega) (by decide) rfl (by rw [hat]; rfl) fun h5 k1 k2 k3 => ?_
      have hp5 : Pre h h5 := fun b o hb => by
        have := (List.getElem?_eq_some_iff.1 hb).1
        rw [k3 b (by omega)]; exact hp' b o hb
      rw [show ((n0 : Int)).toNat = n0 by omega, ysN_last (by omega)] at k1
      have hbd := bound14 hE k1.rd (fun t ht => by
        obtain ⟨k, hk, rfl⟩ := List.getElem_of_mem ht
        rw [opG_len] at hk
        have e := opG_at (a := 1) (b := 5000) (c := 4000) (i := n0) (A := atO bl) hk
        rw [atI_nat (by rw [opG_len]; exact hk)] at e
        rw [e]
        exact hs (atI l (k : Int)) (atI_mem (l := l) (i := (k : Int)) (by omega) (by omega))) (n0 : Int)
      clear k3
      (repeat' simp -dsimp (disch := omega) only [↓EA, EB, Nat.reduceEqDiff, ↓reduceIte, eq_self, *])
      rw [Hn1.out]
  · have e : fitsP l i (atO bl) = false := decide_eq_false fun h => hc ⟨h.1, h.2.1⟩
    rw [e]
    unfold validP at hc
    (repeat' (first | (with_reducible refine A2 (fun _ => ?_) (fun _ => ?_) <;> try (exfalso; omega)) | (with_reducible refine A3 (fun _ => ?_) (fun _ => ?_) <;> try (exfalso; omega)) | simp -dsimp (disch := omega) only [↓EA, EB, Nat.reduceEqDiff, Nat.reduceAdd, ↓reduceIte, reduceCtorEq, eq_self, *]))
end Go.L.Try
namespace Go.L.Try
open Go Go.L
variable {E : Env} {G : Nat}
def fromL (len : Nat) (es : List Nat) (i : Nat) : List Nat := (List.range' i (len - i)).filter (inL es)
theorem fromL_end (len : Nat) (es : List Nat) : fromL len es len = [] := by simp [fromL]
theorem fromL_step {len : Nat} {es : List Nat} {i : Nat} (hi : i < len) : fromL len es i = if inL es i then i :: fromL len es (i + 1) else fromL len es (i + 1) := by
  unfold fromL
  rw [show len - i = (len - (i + 1)) + 1 by omega, List.range'_succ, List.filter_cons]
theorem fromL_zero (len : Nat) (es : List Nat) : fromL len es 0 = (List.range len).filter (inL es) := by unfold fromL; rw [List.range_eq_range']; rfl
theorem from_out {len : Nat} {es : List Nat} (h : es = (List.range len).filter (inL es)) (i : Nat) : (es.filter fun k => decide (k ≠ i)) = (List.range len).filter (inL (es.filter fun k => decide (k ≠ i))) := by
  rw [inL_out]
  conv => lhs; rw [h]
  rw [List.filter_filter]
  exact List.filter_congr fun k _ => Bool.and_comm _ _
def Stand (l : List Task) (es : List Nat) (i : Nat) (got : Int) (c : Nat) : Prop :=
  (got = -1 ∧ (pickL l (inL es) es).1 = (pickL l (inL es) (fromL l.length es i)).1 ∧ (pickL l (inL es) es).2 = c + (pickL l (inL es) (fromL l.length es i)).2) ∨ (∃ g : Nat, got = g ∧ pickL l (inL es) es = (some g, c))
theorem stand_zero {l : List Task} {es : List Nat} (h : es = (List.range l.length).filter (inL es)) : Stand l es 0 (-1) 0 := by
  refine .inl ⟨rfl, ?_, ?_⟩
  · rw [fromL_zero, ← h]
  · rw [fromL_zero, ← h]; omega
theorem stand_end {l : List Task} {es : List Nat} {got : Int} {c : Nat} (s : Stand l es l.length got c) : (got = -1 ∧ pickL l (inL es) es = (none, c)) ∨ (∃ g : Nat, got = g ∧ pickL l (inL es) es = (some g, c)) := by
  rcases s with ⟨h1, h2, h3⟩ | h
  · rw [fromL_end] at h2 h3
    exact .inl ⟨h1, Prod.ext h2 (by simpa [pickL] using h3)⟩
  · exact .inr h
theorem stand_no {l : List Task} {es : List Nat} {i c : Nat} (s : Stand l es i (-1) c) (hi : i < l.length) (hn : inL es i = false) : Stand l es (i + 1) (-1) c := by
  rcases s with ⟨h1, h2, h3⟩ | ⟨g, h, _⟩
  · rw [fromL_step hi, hn] at h2 h3
    exact .inl ⟨rfl, h2, h3⟩
  · omega
theorem pickL_cons (l : List Task) (S : Nat → Bool) (i : Nat) (r : List Nat) : pickL l S (i :: r) = if fitsP l (i : Int) S then (some i, 1) else ((pickL l S r).1, (pickL l S r).2 + 1) := rfl
theorem stand_not {l : List Task} {es : List Nat} {i c : Nat} (s : Stand l es i (-1) c) (hi : i < l.length) (hn : inL es i = true) (hf : fitsP l (i : Int) (inL es) = false) : Stand l es (i + 1) (-1) (c + 1) := by
  rcases s with ⟨h1, h2, h3⟩ | ⟨g, h, _⟩
  · rw [fromL_step hi, hn, if_pos rfl] at h2 h3
    rw [pickL_cons, hf, if_neg (by decide)] at h2 h3
    dsimp only at h2 h3
    exact .inl ⟨rfl, h2, by omega⟩
  · omega
theorem stand_fit {l : List Task} {es : List Nat} {i c : Nat} (s : Stand l es i (-1) c) (hi : i < l.length) (hn : inL es i = true) (hf : fitsP l (i : Int) (inL es) = true) (j : Nat) : Stand l es j (i : Int) (c + 1) := by
  rcases s with ⟨h1, h2, h3⟩ | ⟨g, h, _⟩
  · rw [fromL_step hi, hn, if_pos rfl, pickL_cons, hf, if_pos rfl] at h2 h3
    exact .inr ⟨i, rfl, Prod.ext h2 h3⟩
  · omega
theorem stand_stay {l : List Task} {es : List Nat} {i c g : Nat} (s : Stand l es i (g : Int) c) (j : Nat) : Stand l es j (g : Int) c := by
  rcases s with ⟨h1, _⟩ | h
  · omega
  · exact .inr h
def leftB (n : Nat) (es : List Nat) : List Bool := (List.range n).map (inL es)
theorem leftB_len (n : Nat) (es : List Nat) : (leftB n es).length = n := by simp [leftB]
theorem leftB_at {n : Nat} {es : List Nat} {k : Nat} (hk : k < n) : atO (leftB n es) k = inL es k := by
  unfold atO
  rw [atI_nat (by rw [leftB_len]; exact hk)]
  simp [leftB]
theorem leftB_out {n : Nat} {es : List Nat} {i : Nat} (hi : i < n) : (leftB n es).set i false = leftB n (es.filter fun k => decide (k ≠ i)) := by
  apply List.ext_getElem?
  intro k
  rw [List.getElem?_set]
  unfold leftB
  rw [inL_out]
  by_cases e : i = k
  · subst e
    rw [if_pos rfl, if_pos (by simpa using hi)]
    simp [hi]
  · rw [if_neg e]
    rw [List.getElem?_map, List.getElem?_map]
    by_cases hk : k < n
    · rw [List.getElem?_range hk]; simp [show ¬ k = i from fun h => e h.symm]
    · rw [List.getElem?_eq_none (by simpa using hk)]; rfl
theorem asg_l1 (hE : Laid E) {h0 h : Heap} {vl vb : Value} {l : List Task} {es : List Nat} {W : Nat → Prop} (hl : Rd 7 encT h0 vl l) (hs : ∀ t ∈ l, t.name.size < 1152921504606846976) (hn : l.length ≤ 1024) {t : Nat} (ht : t + 1024 ≤ 2097152) {vo : Value}
    {gb bb : Nat} (hbb : h0.length ≤ bb ∧ bb ≠ gb) (hgb : h0.length ≤ gb) (hW : W gb) (hp : Pre h0 h) (hb : h[bb]? = some (.cells ((leftB l.length es).map Value.bool) false)) (hvb : vb = .slice (some ⟨bb, 0, none⟩) l.length l.length) (hg : h[gb]? = some (.cells [vo, .int .i64 0, .int .i64 (t : Int), .int .i64 0] false))
    (hes : es = (List.range l.length).filter (inL es)) {f2 f6 : Value} {Q : Ex → Fr → Heap → Prop} {fr : Fr} (g0 : get fr 0 = vl) (g2 : get fr 2 = f2) (g3 : get fr 3 = vb) (g5 : get fr 5 = .pointer (some ⟨gb, 0, none⟩)) (g6 : get fr 6 = f6) (g7 : get fr 7 = .int .i64 (-1)) (g8 : get fr 8 = .int .i64 0)
    (hq : ∀ fr' (got : Int) (c : Nat), c ≤ 1024 → ((got = -1 ∧ pickL l (inL es) es = (none, c)) ∨ (∃ g : Nat, got = g ∧ pickL l (inL es) es = (some g, c))) → get fr' 0 = vl → get fr' 2 = f2 → get fr' 3 = vb → get fr' 5 = .pointer (some ⟨gb, 0, none⟩) → get fr' 6 = f6 → get fr' 7 = .int .i64 got →
      Q (.exit 4) fr' (h.set gb (.cells [vo, .int .i64 0, .int .i64 ((t + c : Nat) : Int), .int .i64 0] false))) :
    WO W (iterW (code (callW E) iterW 74 c_ref19_Assign_l1) fr h) Q := by
  have hgl := (List.getElem?_eq_some_iff.1 hg).1
  refine WO.loop (α := Nat × Int × Nat) (fun s fr hh => s.1 ≤ l.length ∧ s.2.2 ≤ s.1 ∧ Stand l es s.1 s.2.1 s.2.2 ∧ (s.2.1 = -1 ∨ 0 ≤ s.2.1) ∧ hh = h.set gb (.cells [vo, .int .i64 0, .int .i64 ((t + s.2.2 : Nat) : Int), .int .i64 0] false) ∧ get fr 0 = vl ∧ get fr 2 = f2 ∧ get fr 3 = vb ∧ get fr 5 = .pointer (some ⟨gb, 0, none⟩) ∧ get fr 6 = f6 ∧ get fr 7 = .int .i64 s.2.1 ∧ get fr 8 = .int .i64 s.1) (fun s => l.length - s.1) ?_ (0, -1, 0)
    ⟨Nat.zero_le _, Nat.le_refl _, stand_zero hes, .inl rfl, (set_same hg).symm, g0, g2, g3, g5, g6, g7, g8⟩
  rintro ⟨i, got, c⟩ fr hh ⟨hi, hc, hst, hgot, rfl, g0, g2, g3, g5, g6, g7, g8⟩
  dsimp only at hi hc hst hgot g7 g8
  clear hes
  unfold c_ref19_Assign_l1
  have hpx : Pre h0 (h.set gb (.cells [vo, .int .i64 0, .int .i64 ((t + c : Nat) : Int), .int .i64 0] false)) := hp.set hgb _
  have hl1 := hl.pre hpx
  have hll := hl1.len
  have hbx : (h.set gb (.cells [vo, .int .i64 0, .int .i64 ((t + c : Nat) : Int), .int .i64 0] false))[bb]? = some (.cells ((leftB l.length es).map Value.bool) false) := (gets (Ne.symm hbb.2)).trans hb
  have hgx : (h.set gb (.cells [vo, .int .i64 0, .int .i64 ((t + c : Nat) : Int), .int .i64 0] false))[gb]? = some (.cells [vo, .int .i64 0, .int .i64 ((t + c : Nat) : Int), .int .i64 0] false) := gset hgl
  have hgxl : gb < (h.set gb (.cells [vo, .int .i64 0, .int .i64 ((t + c : Nat) : Int), .int .i64 0] false)).length := by simpa using hgl
  have hss : ∀ y : LObj, (h.set gb (.cells [vo, .int .i64 0, .int .i64 ((t + c : Nat) : Int), .int .i64 0] false)).set gb y = h.set gb y := fun y => List.set_set ..
  have hbf : (leftB l.length es).map Value.bool = ((leftB l.length es).map encO).flatten := by
    generalize leftB l.length es = bl
    induction bl with
    | nil => rfl
    | cons a r ih => rw [List.map_cons, ih]; rfl
  have hrb := Rd.lit (enc := encO) (b := bb) (sp := none) (cap := l.length) (leftB l.length es) hbx hbf (fun _ => rfl) (by rw [leftB_len]; omega) (by rw [leftB_len]; exact Nat.le_refl _) (.inl rfl)
  rw [leftB_len, ← hvb] at hrb
  have hrl := leftB_len l.length es
  have Hq := Hid.mk hq
  have fall : ∀ (y : LObj), callW E (.func (.func n_ref19_Fits) #[] #[]) [vl, .int .i64 (i : Int), vb] (h.set gb y) = some (.bool (fitsP l (i : Int) (inL es)), h.set gb y, []) := fun y => by
    have hby : (h.set gb y)[bb]? = some (.cells ((leftB l.length es).map Value.bool) false) := (gets (Ne.symm hbb.2)).trans hb
    have hry := Rd.lit (enc := encO) (b := bb) (sp := none) (cap := l.length) (leftB l.length es) hby hbf (fun _ => rfl) (by rw [leftB_len]; omega) (by rw [leftB_len]; exact Nat.le_refl _) (.inl rfl)
    rw [leftB_len, ← hvb] at hry
    have := fits19 hE (hl.pre (hp.set hgb y)) hs hry (i : Int)
    rw [fits_cong (A := atO (leftB l.length es)) (B := inL es) fun k hk _ => leftB_at hk] at this
    exact this
  have gy : ∀ y : LObj, (h.set gb y)[gb]? = some y := fun y => gset hgl
  clear hq hbx hbf hvb
  generalize hhe : h.set gb (.cells [vo, .int .i64 0, .int .i64 ((t + c : Nat) : Int), .int .i64 0] false) = hx at *
  by_cases hlt : i < l.length ∧ got = -1
  · obtain ⟨hlt, rfl⟩ := hlt
    have hat : atI (leftB l.length es) (i : Int) = inL es i := leftB_at hlt
    have hl2 : (i : Int) < ((leftB l.length es).length : Int) := by omega
    have hl3 : (i : Int) < (l.length : Int) := by omega
    have har := hrb.ld0 (i : Int) (by omega) hl2 (by decide)
    rw [show atI (leftB l.length es) (i : Int) = inL es i from hat] at har
    cases hin : inL es i
    · have S := stand_no hst hlt hin
      rw [hin] at hat
      (repeat' (first | (with_reducible refine A3 (fun _ => ?_) (fun _ => ?_) <;> try (exfalso; omega)) | simp -dsimp (disch := omega) only [↓EA, EB, Nat.reduceEqDiff, ↓reduceIte, reduceCtorEq, eq_self, *, hrb.ixs, encO]))
      exact Next.mk (i + 1, -1, c) ⟨by simp only []; omega, by simp only []; omega, S, .inl rfl, hhe.symm, rfl, rfl, rfl, rfl, rfl, rfl, rfl⟩ (by simp only []; omega)
    · rw [hin] at hat
      cases hf : fitsP l (i : Int) (inL es)
      · have S := stand_not hst hlt hin hf
        rw [hf] at fall
        (repeat' (first | (with_reducible refine A3 (fun _ => ?_) (fun _ => ?_) <;> try (exfalso; omega)) | simp -dsimp (disch := omega) only [↓EA, EB, Nat.reduceEqDiff, Nat.reduceAdd, Nat.reduceLeDiff, ↓reduceIte, reduceCtorEq, eq_self, *, hrb.ixs, encO]))
        exact Next.mk (i + 1, -1, c + 1) ⟨by simp only []; omega, by simp only []; omega, S, .inl rfl, (by simp only []; rw [show ((t + (c + 1) : Nat) : Int) = ((t + c : Nat) : Int) + 1 by omega]), rfl, rfl, rfl, rfl, rfl, rfl, rfl⟩ (by simp only []; omega)
      · have S := stand_fit hst hlt hin hf (i + 1)
        rw [hf] at fall
        (repeat' (first | (with_reducible refine A3 (fun _ => ?_) (fun _ => ?_) <;> try (exfalso; omega)) | simp -dsimp (disch := omega) only [↓EA, EB, Nat.reduceEqDiff, Nat.reduceAdd, Nat.reduceLeDiff, ↓reduceIte, reduceCtorEq, eq_self, *, hrb.ixs, encO]))
        exact Next.mk (i + 1, (i : Int), c + 1) ⟨by simp only []; omega, by simp only []; omega, S, .inr (by simp only []; omega), (by simp only []; rw [show ((t + (c + 1) : Nat) : Int) = ((t + c : Nat) : Int) + 1 by omega]), rfl, rfl, rfl, rfl, rfl, rfl, rfl⟩ (by simp only []; omega)
  · have fin : (got = -1 ∧ pickL l (inL es) es = (none, c)) ∨ (∃ g : Nat, got = g ∧ pickL l (inL es) es = (some g, c)) := by
      by_cases hg0 : got = -1
      · have : i = l.length := by
          rcases Nat.lt_or_ge i l.length with h | h
          · exact absurd ⟨h, hg0⟩ hlt
          · omega
        subst this
        exact stand_end hst
      · obtain ⟨g, rfl⟩ := Int.eq_ofNat_of_zero_le (show 0 ≤ got by omega)
        exact stand_end (stand_stay hst l.length)
    have Hq2 := Hid.mk (fun fr' => Hq.out fr' got c (by omega) fin)
    have hge : i < l.length → 0 ≤ got := fun h => by
      rcases hgot with h2 | h2
      · exact absurd ⟨h, h2⟩ hlt
      · exact h2
    clear Hq fin hst fall hgx gy
    subst hhe
    have Hge := Hid.mk hge
    clear hge hlt hgot
    rcases Nat.lt_or_ge i l.length with hil | hil
    · have := Hge.out hil
      (repeat' (first | (with_reducible refine A1 (fun _ => ?_) (fun _ => ?_) <;> try (exfalso; omega)) | (with_reducible refine A3 (fun _ => ?_) (fun _ => ?_) <;> try (exfalso; omega)) | simp -dsimp (disch := omega) only [↓EA, EB, Nat.reduceEqDiff, ↓reduceIte, reduceCtorEq, eq_self, *]))
      exact Hq2.out _ rfl rfl rfl rfl rfl rfl
    · (repeat' (first | (with_reducible refine A1 (fun _ => ?_) (fun _ => ?_) <;> try (exfalso; omega)) | simp -dsimp (disch := omega) only [↓EA, EB, Nat.reduceEqDiff, ↓reduceIte, reduceCtorEq, eq_self, *]))
      exact Hq2.out _ rfl rfl rfl rfl rfl rfl
end Go.L.Try
namespace Go.L.Try
open Go Go.L
variable {E : Env} {G : Nat}
theorem wx_pre {h : Heap} {m b : Nat} {vo : Value} {o : List Int} {x : Int} (ho : Rd 1 encI h vo o) (hom : o ≠ [] → m ≤ blk vo) (hb : h[b]? = some (.cells [.int .i64 x] false)) (hl : o.length < 1024) (hmb : m ≤ b) {W : Nat → Prop} {Q : Value → Heap → Prop}
    (hq : ∀ v' h', RdO m 1 encI h' v' (x :: o) → Pre h h' → Q v' h') :
    WX W (appendV 1 8 (.slice (some ⟨b, 0, none⟩) 1 1) vo h) Q := by
  have hc := ho.cells
  have hbl := (List.getElem?_eq_some_iff.1 hb).1
  have h0 : cellsOf 1 (.slice (some ⟨b, 0, none⟩) 1 1) h = some (1, [.int .i64 x]) := by
    rw [cellsOf_some, hb, cellO_cells, if_pos (by simp)]; simp
  by_cases he : o = []
  · subst he
    refine ⟨.slice (some ⟨b, 0, none⟩) 1 1, h, [], ?_, (fun b hb => nomatch hb), hq _ _ ?_ (Pre.refl _)⟩
    · simp only [appendV, hc, h0]; simp [fits]
    · exact ⟨by simp [encI], by simp, .inr ⟨b, 0, none, 1, [.int .i64 x], hmb, rfl, hb, by simp, by simp [encI], Nat.le_refl _, .inl rfl⟩⟩
  · have hn : o.length ≠ 0 := fun e => he (List.length_eq_zero_iff.1 e)
    have hcond : (1 + o.length) * 8 ≤ 140737488355328 ∧ 1 + o.length < 4611686018427387904 ∧ (1 : Nat) ≠ 0 ∧ (8 : Nat) ≠ 0 := ⟨by omega, by omega, by decide, by decide⟩
    have hno : ¬ 1 + o.length ≤ 1 := by omega
    have hfl : (o.map encI).flatten = o.map fun n : Int => Value.int .i64 n := flatI_map o
    refine ⟨.slice (some ⟨h.length, 0, some 1⟩) (1 + o.length) (1 + o.length), h ++ [.cells (.int .i64 x :: (o.map encI).flatten) false], [], ?_, (fun b hb => nomatch hb), hq _ _ ?_ (Pre.app _ _)⟩
    · simp only [appendV, hc, h0, hn, if_false]
      rw [if_pos hcond]
      simp only [hno, if_false]
      rfl
    · refine ⟨by intro e he; obtain ⟨a, _, rfl⟩ := List.mem_map.1 he; rfl, by simp; omega, .inr ⟨h.length, 0, some 1, 1 + o.length, .int .i64 x :: (o.map encI).flatten, by omega, by simp [Nat.add_comm], by rw [geta0]; rfl, by simp [hfl], ?_, by simp; omega, .inr rfl⟩⟩
      rw [List.drop_zero, List.take_of_length_le (by simp [hfl]), List.map_cons, List.flatten_cons]; rfl
def LiveO (m : Nat) (h : Heap) (v : Value) (o : List Int) : Prop := (v = .slice none 0 0 ∧ o = []) ∨ (o ≠ [] ∧ RdO m 1 encI h v o)
theorem LiveO.rd {m : Nat} {h : Heap} {v : Value} {o : List Int} (x : LiveO m h v o) : Rd 1 encI h v o := by
  rcases x with ⟨rfl, rfl⟩ | ⟨_, x⟩
  · exact Rd.of_nil
  · exact RdO.rd x
theorem LiveO.keep {m : Nat} {h h' : Heap} {v : Value} {o : List Int} (x : LiveO m h v o) (hk : ∀ b, m ≤ b → b < h.length → h'[b]? = h[b]?) : LiveO m h' v o := by
  rcases x with x | ⟨hn, x⟩
  · exact .inl x
  · have := x.ge hn
    exact .inr ⟨hn, x.keep hn (hk _ this.1 this.2)⟩
theorem LiveO.ge {m : Nat} {h : Heap} {v : Value} {o : List Int} (x : LiveO m h v o) (hn : o ≠ []) : m ≤ blk v ∧ blk v < h.length := by
  rcases x with ⟨_, e⟩ | ⟨_, x⟩
  · exact absurd e hn
  · exact x.ge hn
structure AtD (h : Heap) (vl : Value) (l : List Task) (R : List Int × Nat × Nat × Int) (n : Nat) (es : List Nat) (o : List Int) (t : Nat) (hh : Heap) : Prop where
  pre : Pre h hh
  res : hh[h.length]? = some (.cells [.slice none 0 0, .int .i64 0, .int .i64 0, .int .i64 0] false)
  left : hh[h.length + 1]? = some (.cells ((leftB l.length es).map Value.bool) false)
  st : ∃ vo, hh[h.length + 2]? = some (.cells [vo, .int .i64 0, .int .i64 (t : Int), .int .i64 0] false) ∧ LiveO (h.length + 3) hh vo o
  nodup : es.Nodup
  len : es.length = n
  mem : ∀ k ∈ es, k < l.length
  olen : o.length + n = l.length
  few : t + n * 1024 ≤ 1048576
  is : assignN l n es o t = R
  from_ : es = (List.range l.length).filter (inL es)
theorem asg_l2 (hE : Laid E) {h : Heap} {vl vb : Value} {l : List Task} (hl : Rd 7 encT h vl l) (hs : ∀ t ∈ l, t.name.size < 1152921504606846976) (hn : l.length ≤ 1024) {R : List Int × Nat × Nat × Int} {es : List Nat} {o : List Int} {n t : Nat} {H : Heap} (hA : AtD h vl l R n es o t H) (hvb : vb = .slice (some ⟨h.length + 1, 0, none⟩) l.length l.length)
    {Q : Ex → Fr → Heap → Prop} {fr : Fr} (g0 : get fr 0 = vl) (g2 : get fr 2 = .pointer (some ⟨h.length, 0, none⟩)) (g3 : get fr 3 = vb) (g5 : get fr 5 = .pointer (some ⟨h.length + 2, 0, none⟩)) (g6 : get fr 6 = .int .i64 (n : Int))
    (hq : ∀ fr' hh (o : List Int) (t : Nat) vo, Pre h hh → hh[h.length]? = some (.cells [.slice none 0 0, .int .i64 0, .int .i64 0, .int .i64 0] false) → hh[h.length + 2]? = some (.cells [vo, .int .i64 0, .int .i64 (t : Int), .int .i64 0] false) → LiveO (h.length + 3) hh vo o → R = (o, 0, t, 0) →
      get fr' 2 = .pointer (some ⟨h.length, 0, none⟩) → get fr' 5 = .pointer (some ⟨h.length + 2, 0, none⟩) → Q (.exit 2) fr' hh)
    (hr : ∀ fr' hh (lv t : Nat), Pre h hh → h.length < hh.length → R = ([], lv, t, 16) → get fr' 2 = .pointer (some ⟨h.length, 0, none⟩) → Q .ret fr' (hh.set h.length (.cells [.slice none 0 0, .int .i64 (lv : Int), .int .i64 (t : Int), .int .i64 16] false))) :
    WO (fun b => h.length ≤ b) (iterW (code (callW E) iterW 74 c_ref19_Assign_l2) fr H) Q := by
  refine WO.loop (α := Nat × List Nat × List Int × Nat) (fun s fr hh => AtD h vl l R s.1 s.2.1 s.2.2.1 s.2.2.2 hh ∧ get fr 0 = vl ∧ get fr 2 = .pointer (some ⟨h.length, 0, none⟩) ∧ get fr 3 = vb ∧ get fr 5 = .pointer (some ⟨h.length + 2, 0, none⟩) ∧ get fr 6 = .int .i64 (s.1 : Int)) (fun s => s.1) ?_ (n, es, o, t) ⟨hA, g0, g2, g3, g5, g6⟩
  rintro ⟨n, es, o, t⟩ fr hh ⟨A, g0, g2, g3, g5, g6⟩
  dsimp only at A g6
  clear hA
  obtain ⟨p, hres, hleft, ⟨vo, hg, ho⟩, a1, a2, a3, a4, a5, a6, a7⟩ := A
  unfold c_ref19_Assign_l2
  cases n with
  | zero =>
    have Hq := Hid.mk (hq · hh o t vo p hres hg ho (by rw [← a6]; rfl))
    clear hq hr a7 hvb
    (repeat' (first | (with_reducible refine A3 (fun _ => ?_) (fun _ => ?_) <;> try (exfalso; omega)) | simp -dsimp (disch := omega) only [↓EA, EB, Nat.reduceEqDiff, ↓reduceIte, reduceCtorEq, eq_self, *]))
    exact Hq.out _ rfl rfl
  | succ n =>
    have hgl := (List.getElem?_eq_some_iff.1 hg).1
    have Hq := Hid.mk (And.intro hq hr)
    have A7 := Hid.mk a7
    have Hvb := Hid.mk hvb
    clear hq hr a7 hvb
    (repeat' (first | (with_reducible refine A3 (fun _ => ?_) (fun _ => ?_) <;> try (exfalso; omega)) | simp -dsimp (disch := omega) only [↓EA, EB, Nat.reduceEqDiff, ↓reduceIte, reduceCtorEq, eq_self, *]))
    refine asg_l1 hE hl hs hn (t := t) (vo := vo) (gb := h.length + 2) (bb := h.length + 1) (f2 := .pointer (some ⟨h.length, 0, none⟩)) (f6 := .int .i64 ((n + 1 : Nat) : Int)) (by omega) ⟨by omega, by omega⟩ (by omega) (show h.length ≤ h.length + 2 by omega) p hleft Hvb.out hg A7.out rfl rfl rfl rfl rfl rfl rfl ?_
    intro fr1 got c hc hgot k0 k2 k3 k5 k6 k7
    have hp1 : Pre h (hh.set (h.length + 2) (.cells [vo, .int .i64 0, .int .i64 ((t + c : Nat) : Int), .int .i64 0] false)) := p.set (by omega) _
    have hg1 : (hh.set (h.length + 2) (.cells [vo, .int .i64 0, .int .i64 ((t + c : Nat) : Int), .int .i64 0] false))[h.length + 2]? = some (.cells [vo, .int .i64 0, .int .i64 ((t + c : Nat) : Int), .int .i64 0] false) := gset hgl
    have hres1 : (hh.set (h.length + 2) (.cells [vo, .int .i64 0, .int .i64 ((t + c : Nat) : Int), .int .i64 0] false))[h.length]? = _ := (gets (by omega)).trans hres
    have hleft1 : (hh.set (h.length + 2) (.cells [vo, .int .i64 0, .int .i64 ((t + c : Nat) : Int), .int .i64 0] false))[h.length + 1]? = _ := (gets (by omega)).trans hleft
    have ho2 : LiveO (h.length + 3) (hh.set (h.length + 2) (.cells [vo, .int .i64 0, .int .i64 ((t + c : Nat) : Int), .int .i64 0] false)) vo o := ho.keep fun b hb _ => gets (by omega)
    have hl1 : (hh.set (h.length + 2) (.cells [vo, .int .i64 0, .int .i64 ((t + c : Nat) : Int), .int .i64 0] false)).length = hh.length := by simp
    generalize hh.set (h.length + 2) (.cells [vo, .int .i64 0, .int .i64 ((t + c : Nat) : Int), .int .i64 0] false) = H1 at *
    have hlA : h.length + 2 < H1.length := by omega
    have hlB : h.length < H1.length := by omega
    clear hl1 hg hres hleft ho p hgl
    have hN : assignN l (n + 1) es o t = match (pickL l (inL es) es).1 with
      | none => ([], n + 1, t + (pickL l (inL es) es).2, 16)
      | some i => assignN l n (es.filter fun k => decide (k ≠ i)) ((i : Int) :: o) (t + (pickL l (inL es) es).2) := rfl
    rw [a6] at hN
    rcases hgot with ⟨rfl, hpk⟩ | ⟨g, rfl, hpk⟩
    · rw [hpk] at hN
      dsimp only at hN
      have Hr := Hid.mk (Hq.out.2 · H1 (n + 1) (t + c) hp1 hlB hN)
      clear Hq hN a6
      (repeat' (first | (with_reducible refine A3 (fun _ => ?_) (fun _ => ?_) <;> try (exfalso; omega)) | simp -dsimp (disch := omega) only [↓EA, EB, Nat.reduceEqDiff, Nat.reduceAdd, Nat.reduceLeDiff, ↓reduceIte, reduceCtorEq, eq_self, *]))
      exact Hr.out _ rfl
    · rw [hpk] at hN
      dsimp only at hN
      have hi : g ∈ es := by
        have := pickL_some (l := l) (S := inL es) (es := es) (i := g) (by rw [hpk])
        exact this.1
      have hgL := a3 g hi
      have hix : ixsV 1 vb (.int .i64 (g : Int)) = some (.pointer (some ⟨h.length + 1, g, none⟩)) := by
        rw [Hvb.out]
        simp only [ixsV, addrOf]
        rw [if_pos (by omega)]
        simp
      have hbl : ((leftB l.length es).map Value.bool).length = l.length := by simp [leftB]
      have hbo : ((leftB l.length es).map Value.bool).all oneCell = true := by rw [List.all_map, List.all_eq_true]; intro x _; rfl
      have hbs : ((leftB l.length es).map Value.bool).set g (.bool false) = (leftB l.length (es.filter fun k => decide (k ≠ g))).map Value.bool := by rw [← leftB_out hgL, List.map_set]
      have ov := ho2.rd.one
      have cv := ho2.rd.cv
      have hlC : h.length + 1 < H1.length := by omega
      have hgL1 : g + 1 ≤ l.length := hgL
      have hfrom := from_out A7.out g
      have hol := out_len a1 hi
      have KK := Hid.mk (And.intro hN (And.intro hi (And.intro hfrom hol)))
      clear hN hpk hi hfrom hol Hq a6
      have g1x : ∀ y x : LObj, (H1.set (h.length + 1) y ++ [x])[h.length + 2]? = some (.cells [vo, .int .i64 0, .int .i64 ((t + c : Nat) : Int), .int .i64 0] false) := fun y x => by
        rw [List.getElem?_append_left (by simpa using hlA), gets (by omega)]; exact hg1
      (repeat' (first | (with_reducible refine A3 (fun _ => ?_) (fun _ => ?_) <;> try (exfalso; omega)) | simp -dsimp (disch := omega) only [↓EA, EB, Nat.reduceEqDiff, Nat.reduceLeDiff, Nat.reduceMul, ↓reduceIte, reduceCtorEq, newCells, bslV, eq_self, *]))
      have hx2 : (H1.set (h.length + 1) (.cells ((leftB l.length (es.filter fun k => decide (k ≠ g))).map Value.bool) false) ++ [LObj.cells [.int .i64 (g : Int)] false])[H1.length]? = some (.cells [.int .i64 (g : Int)] false) := by rw [List.getElem?_append_right (by simp)]; simp
      have ho3 : LiveO (h.length + 3) (H1.set (h.length + 1) (.cells ((leftB l.length (es.filter fun k => decide (k ≠ g))).map Value.bool) false) ++ [LObj.cells [.int .i64 (g : Int)] false]) vo o := ho2.keep fun b hb hb2 => by
        rw [List.getElem?_append_left (by simpa using hb2), gets (by omega)]
      refine wx_pre (m := h.length + 3) ho3.rd (fun hno => (ho3.ge hno).1) hx2 (by omega) (by omega) fun v' h4 k1 k2' => ?_
      have hleft4 := k2' (h.length + 1) _ (show (H1.set (h.length + 1) (.cells ((leftB l.length (es.filter fun k => decide (k ≠ g))).map Value.bool) false) ++ [LObj.cells [.int .i64 (g : Int)] false])[h.length + 1]? = some (.cells ((leftB l.length (es.filter fun k => decide (k ≠ g))).map Value.bool) false) by rw [List.getElem?_append_left (by simpa using hlC)]; exact gset hlC)
      have hg4 := k2' (h.length + 2) _ (g1x _ _)
      have hres4 := k2' (h.length) _ (show (H1.set (h.length + 1) (.cells ((leftB l.length (es.filter fun k => decide (k ≠ g))).map Value.bool) false) ++ [LObj.cells [.int .i64 (g : Int)] false])[h.length]? = some (.cells [.slice none 0 0, .int .i64 0, .int .i64 0, .int .i64 0] false) by rw [List.getElem?_append_left (by simpa using hlB), gets (by omega)]; exact hres1)
      have hp4 : Pre h h4 := ((hp1.set (by omega) _).trans (Pre.app _ _)).trans k2'
      have hl4 := (List.getElem?_eq_some_iff.1 hg4).1
      have o4 := k1.rd.one
      have c4 := k1.rd.cv
      have hbk := k1.ge (by simp)
      clear ho3 hx2 g1x k2' hbs hbl hbo hix hp1 hg1 hres1 hleft1 ho2
      (repeat' simp -dsimp (disch := omega) only [↓EA, EB, Nat.reduceEqDiff, Nat.reduceAdd, Nat.reduceLeDiff, ↓reduceIte, reduceCtorEq, eq_self, *])
      obtain ⟨hN, hi, hfrom, hol⟩ := KK.out
      refine Next.mk (n, es.filter fun k => decide (k ≠ g), (g : Int) :: o, t + c) ⟨⟨hp4.set (by omega) _, (gets (by omega)).trans hres4, (gets (by omega)).trans hleft4, ⟨v', gset hl4, .inr ⟨by simp, k1.keep (by simp) (gets (by omega))⟩⟩, a1.filter _, ?_, fun k hk => a3 k (List.mem_filter.1 hk).1, ?_, ?_, hN.symm, hfrom⟩, rfl, rfl, rfl, rfl, ?_⟩ (by simp)
      · dsimp only; omega
      · simp only [List.length_cons]; omega
      · dsimp only; omega
      · show Value.int .i64 (((n + 1 : Nat) : Int) - 1) = Value.int .i64 (n : Int)
        congr 1; omega
def GotV (r : List Int × Nat × Nat × Int) (h : Heap) (v : Value) : Prop := ∃ us, v = .agg us.toArray ∧ Each h [fun h v => Rd 1 encI h v r.1, fun _ v => v = .int .i64 (r.2.1 : Int), fun _ v => v = .int .i64 (r.2.2.1 : Int), fun _ v => v = .int .i64 r.2.2.2] us
theorem got_movable (m : Nat) (r : List Int × Nat × Nat × Int) : Movable m (GotV r) 2 := by
  refine Movable.aggs (k := 1) (fun R hR => ?_) (by simp)
  simp only [List.mem_cons, List.not_mem_nil, or_false] at hR
  rcases hR with rfl | rfl | rfl | rfl
  · exact Rd.movable flatI _
  · exact movable_eq rfl
  · exact movable_eq rfl
  · exact movable_eq rfl
theorem got_open {r : List Int × Nat × Nat × Int} {h : Heap} {v : Value} (f : GotV r h v) : ∃ vo, v = .agg #[vo, .int .i64 (r.2.1 : Int), .int .i64 (r.2.2.1 : Int), .int .i64 r.2.2.2] ∧ Rd 1 encI h vo r.1 := by
  obtain ⟨us, rfl, hu⟩ := f
  rcases hu with _ | @⟨_, _, u1, _, r1, _ | @⟨_, _, u2, _, r2, _ | @⟨_, _, u3, _, r3, _ | @⟨_, _, u4, _, r4, _ | _⟩⟩⟩⟩
  subst r2; subst r3; subst r4
  exact ⟨_, rfl, r1⟩
theorem msl_bool {n : Nat} (h2 : n ≤ 1048576) : mslV [.bool false] 1 (.int .i64 (n : Int)) (.int .i64 (n : Int)) = some (.cells (List.replicate n (.bool false)) false, fun b => .slice (some ⟨b, 0, none⟩) n n) := by
  have e : (List.replicate n [Value.bool false]).flatten = List.replicate n (.bool false) := by
    induction n with
    | zero => rfl
    | succ k ih => rw [List.replicate_succ, List.flatten_cons, ih (by omega)]; rfl
  have ho : (List.replicate n (Value.bool false)).all oneCell = true := by
    rw [List.all_eq_true]; intro v hv; rw [List.eq_of_mem_replicate hv]; rfl
  simp only [mslV]
  rw [if_pos (by omega), Int.toNat_natCast, e, newCells, if_pos ho]
def upB (n k : Nat) : List Value := (List.range n).map fun j => .bool (decide (j < k))
theorem upB_zero (n : Nat) : upB n 0 = List.replicate n (.bool false) := by
  apply List.ext_getElem <;> simp [upB]
theorem upB_succ {n k : Nat} : (upB n k).set k (.bool true) = upB n (k + 1) := by
  apply List.ext_getElem?
  intro j
  rw [List.getElem?_set]
  unfold upB
  by_cases e : k = j
  · subst e
    by_cases hk : k < n
    · simp [hk]
    · simp [hk]
  · rw [if_neg e, List.getElem?_map, List.getElem?_map]
    by_cases hj : j < n
    · rw [List.getElem?_range hj]; simp; omega
    · rw [List.getElem?_eq_none (by simpa using hj)]; rfl
theorem upB_all (n : Nat) : upB n n = (leftB n (List.range n)).map Value.bool := by
  unfold upB leftB
  rw [List.map_map]
  refine List.map_congr_left fun j hj => ?_
  have := List.mem_range.1 hj
  simp [inL, this]
theorem assign19 (hE : Laid E) {h : Heap} {vl : Value} {l : List Task} (hl : Rd 7 encT h vl l) (hs : ∀ t ∈ l, t.name.size < 1152921504606846976) :
    ∃ v ys, callW E (.func (.func n_ref19_Assign) #[] #[]) [vl] h = some (v, h ++ ys, []) ∧ GotV (assignP l) (h ++ ys) v := by
  refine fn_new hE.ref19_Assign rfl (got_movable _ _) (by simp) ?_
  have hm := fun x => checkAll04 hE (hl.app x) hs
  have hll := hl.len
  have few := hl.few
  simp only [argsF]
  unfold assignP
  by_cases hv : validP l
  · rw [if_pos hv]
    have hn := (valid_iff.1 hv).1
    have hv2 := hv
    unfold validP at hv2
    have hmsl := msl_bool (n := l.length) (by omega)
    (repeat' simp -dsimp (disch := omega) only [↓EA, EB, Nat.reduceEqDiff, ↓reduceIte, reduceCtorEq, newCells, eq_self, *])
    have uo : ∀ k, (upB l.length k).all oneCell = true := fun k => by unfold upB; rw [List.all_map, List.all_eq_true]; intro x _; rfl
    have ul : ∀ k, (upB l.length k).length = l.length := fun k => by simp [upB]
    rw [← upB_zero]
    refine WO.loop (fun (k : Nat) fr h' => k ≤ l.length ∧ h' = h ++ [LObj.cells [.slice none 0 0, .int .i64 0, .int .i64 0, .int .i64 0] false, LObj.cells (upB l.length k) false] ∧ get fr 0 = vl ∧ get fr 2 = .pointer (some ⟨h.length, 0, none⟩) ∧ get fr 3 = .slice (some ⟨h.length + 1, 0, none⟩) l.length l.length ∧ get fr 4 = .int .i64 (k : Int)) (fun k => l.length - k) ?_ 0 ⟨Nat.zero_le _, rfl, rfl, rfl, rfl, rfl⟩
    rintro k fr h' ⟨hk, rfl, g0, g2, g3, g4⟩
    unfold c_ref19_Assign_l0
    rcases Nat.lt_or_ge k l.length with hlt | hge
    · have hix : ixsV 1 (.slice (some ⟨h.length + 1, 0, none⟩) l.length l.length) (.int .i64 (k : Int)) = some (.pointer (some ⟨h.length + 1, k, none⟩)) := by
        simp only [ixsV, addrOf]
        rw [if_pos (by omega)]
        simp
      have us : (upB l.length k).set k (.bool true) = upB l.length (k + 1) := upB_succ
      have hk1 : k + 1 ≤ l.length := hlt
      clear hmsl
      (repeat' (first | (with_reducible refine A3 (fun _ => ?_) (fun _ => ?_) <;> try (exfalso; omega)) | simp -dsimp (disch := omega) only [↓EA, EB, Nat.reduceEqDiff, ↓reduceIte, reduceCtorEq, eq_self, *]))
      exact Next.mk (k + 1) ⟨by omega, rfl, rfl, rfl, rfl, rfl⟩ (by omega)
    · have e : k = l.length := by omega
      subst e
      rw [upB_all]
      clear hmsl uo ul hm
      (repeat' (first | (with_reducible refine A3 (fun _ => ?_) (fun _ => ?_) <;> try (exfalso; omega)) | simp -dsimp (disch := omega) only [↓EA, EB, Nat.reduceEqDiff, Nat.reduceAdd, ↓reduceIte, reduceCtorEq, newCells, eq_self, *]))
      have A0 : AtD h vl l (assignN l l.length (List.range l.length) [] 0) l.length (List.range l.length) [] 0 (h ++ [LObj.cells [.slice none 0 0, .int .i64 0, .int .i64 0, .int .i64 0] false, LObj.cells ((leftB l.length (List.range l.length)).map Value.bool) false, LObj.cells [.slice none 0 0, .int .i64 0, .int .i64 0, .int .i64 0] false]) :=
        ⟨Pre.app _ _, by rw [geta0]; rfl, by rw [geta]; rfl, ⟨.slice none 0 0, by rw [geta]; rfl, .inl ⟨rfl, rfl⟩⟩, List.nodup_range, by simp, fun k hk => by simpa using hk, by simp, by omega, rfl, (List.filter_eq_self.2 fun k hk => decide_eq_true hk).symm⟩
      generalize assignN l l.length (List.range l.length) [] 0 = R at *
      refine asg_l2 hE hl hs hn.2 A0 rfl rfl rfl rfl rfl rfl ?_ ?_
      · intro fr' hh o t vo p hres hg ho hR k2 k5
        have ov := ho.rd.one
        have cv := ho.rd.cv
        have hgl := (List.getElem?_eq_some_iff.1 hg).1
        have hr3 : ∀ y : LObj, (hh.set h.length y)[h.length]? = some y := fun y => gset (by omega)
        rw [hR]
        clear A0 hR
        (repeat' simp -dsimp (disch := omega) only [↓EA, EB, Nat.reduceEqDiff, Nat.reduceAdd, ↓reduceIte, eq_self, *])
        exact ⟨(p.set (Nat.le_refl _) _).ex, [vo, .int .i64 0, .int .i64 (t : Int), .int .i64 0], rfl, .cons (ho.keep fun b hb _ => gets (by omega)).rd (.cons rfl (.cons rfl (.cons rfl .nil)))⟩
      · intro fr' hh lv t p hlh hR k2
        have hr3 : ∀ y : LObj, (hh.set h.length y)[h.length]? = some y := fun y => gset hlh
        rw [hR]
        clear A0 hR
        (repeat' simp -dsimp (disch := omega) only [EB, Nat.reduceAdd, ↓reduceIte, *])
        exact ⟨(p.set (Nat.le_refl _) _).ex, [.slice none 0 0, .int .i64 (lv : Int), .int .i64 (t : Int), .int .i64 16], rfl, .cons Rd.of_nil (.cons rfl (.cons rfl (.cons rfl .nil)))⟩
  · rw [if_neg hv]
    unfold validP at hv
    (repeat' simp -dsimp (disch := omega) only [↓EA, EB, Nat.reduceEqDiff, Nat.reduceAdd, ↓reduceIte, reduceCtorEq, newCells, eq_self, *])
    exact ⟨⟨_, rfl⟩, [.slice none 0 0, .int .i64 0, .int .i64 0, .int .i64 1], rfl, .cons Rd.of_nil (.cons rfl (.cons rfl (.cons rfl .nil)))⟩
end Go.L.Try
namespace Go.L.Try
open Go Go.L
variable {E : Env} {G : Nat}
theorem assignsS (hE : Laid E) (hX : LaidAdd E) (hZ : LaidTz E G) (hI : LaidIns E) {h : Heap} (ht : Tab G h) {vl : Value} {l : List Task} (hl : Rd 7 encT h vl l) (hs : ∀ t ∈ l, t.name.size < 1152921504606846976) :
    callW E (.func (.func n_law19_assigns) #[] #[]) [vl] h = some (.bool true, h, []) := by
  refine fn_same hE.law19_assigns rfl (by simp) ?_
  simp only [argsF]
  (repeat' simp -dsimp (disch := omega) only [↓EA, EB, ↓reduceIte, reduceCtorEq, eq_self, *])
  refine wx_new (assignS hE hX hZ hI ht hl hs) fun vA ys fA pA => ?_
  obtain ⟨w1, rfl, x1⟩ := found_open fA
  have tA := ht.pre pA
  have rA := hl.pre pA
  have hHa := pA.le
  generalize h ++ ys = H1 at *
  have ox1 := x1.one
  have cx1 := x1.cv
  clear pA fA ht
  (repeat' simp -dsimp (disch := omega) only [↓EA, EB, Nat.reduceEqDiff, Nat.reduceAdd, ↓reduceIte, reduceCtorEq, newCells, eq_self, *])
  refine wx_new (assign19 hE (rA.app _) hs) fun vB ys fB pB => ?_
  obtain ⟨w2, rfl, x2⟩ := got_open fB
  have tB := (tA.app _).pre pB
  have rB := (rA.app _).pre pB
  have x1 := (x1.app _).pre pB
  have m1 := pB _ _ (show (H1 ++ [LObj.cells [w1, .int .i64 ((assignP l).2.1 : Int), .int .i64 ((assignP l).2.2.1 : Int)] false])[H1.length]? = some (.cells [w1, .int .i64 ((assignP l).2.1 : Int), .int .i64 ((assignP l).2.2.1 : Int)] false) by rw [geta0]; rfl)
  have hHb := pB.le
  generalize H1 ++ _ ++ ys = H2 at *
  have hHc : h.length ≤ H2.length := by simp at hHb; omega
  have ox2 := x2.one
  have cx2 := x2.cv
  have m1x := fun x => (List.getElem?_append_left (List.getElem?_eq_some_iff.1 m1).1 (l₂ := x)).trans m1
  have hsame := fun x => same18 hE (x1.app x) (x2.app x)
  rw [decide_eq_true rfl] at hsame
  have hbet := fun x => betterS hE hX hZ hI (tB.app x) (rB.app x) hs
  have hte := fun x => tests14 hE (rB.app x) hs
  have hbe : ∀ b : Bool, binOp .eql .bool (.bool b) (.bool b) = some (.bool true) := fun b => by cases b <;> rfl
  clear pB fB tA rA x1 x2 m1 hHb
  generalize assignP l = R at *
  obtain ⟨R1, R2, R3, R4⟩ := R
  dsimp only at *
  by_cases h0 : R4 = 0
  · subst h0
    (repeat' simp -dsimp (disch := omega) only [↓EA, EB, Nat.reduceEqDiff, Nat.reduceAdd, ↓reduceIte, reduceCtorEq, newCells, eq_self, *])
  · rw [decide_eq_false h0] at hbet
    (repeat' simp -dsimp (disch := omega) only [↓EA, EB, Nat.reduceEqDiff, Nat.reduceAdd, ↓reduceIte, reduceCtorEq, newCells, eq_self, *])
    rfl
def smallT (t : Task) : Task := ⟨t.name, t.C.tmod 40, t.T.tmod 40, t.D.tmod 40, t.J.tmod 40, t.Q.tmod 40, t.P⟩
theorem opaAssigns (hE : Laid E) (hX : LaidAdd E) (hZ : LaidTz E G) (hI : LaidIns E) {h : Heap} (ht : Tab G h) {vl vr : Value} {l : List Spec} {raw : List Task} (hl : Rd 5 encSp h vl l) (hr : Rd 7 encT h vr raw) (hs : ∀ t ∈ raw, t.name.size < 1152921504606846976) {i : Int} (hi : i64in i) :
    callW E (.func (.func n_law19_OpaAssigns) #[] #[]) [vl, vr, .int .i64 i] h = some (.bool true, h, []) := by
  refine fn_same hE.law19_OpaAssigns rfl (by simp) ?_
  have aw0 := awake19 hE hX hZ hI ht
  have few := hr.few
  simp only [argsF]
  (repeat' simp -dsimp (disch := omega) only [↓EA, EB, Nat.reduceEqDiff, Nat.reduceAdd, ↓reduceIte, reduceCtorEq, eq_self, *])
  clear aw0
  refine WO.loop (fun (n : Nat) fr h' => n ≤ raw.length ∧ n ≤ 4 ∧ Pre h h' ∧ get fr 0 = vl ∧ get fr 1 = vr ∧ get fr 2 = .int .i64 i ∧ get fr 7 = .bool true ∧ get fr 9 = .int .i64 (n : Int) ∧ OwnT h.length 7 encT h' (get fr 8) ((raw.take n).map smallT)) (fun n => raw.length - n) ?_ 0 ⟨Nat.zero_le _, by decide, Pre.refl _, rfl, rfl, rfl, rfl, rfl, OwnT.nil⟩
  rintro n fr h' ⟨hn, hn4, hp, g0, g1, g2, g7, g9, ho⟩
  generalize hvo : get fr 8 = vo at ho
  unfold c_law19_OpaAssigns_l0
  have hr' := hr.pre hp
  have hrl := hr'.len
  have hml := hp.le
  by_cases hc : n < raw.length ∧ n < 4
  · obtain ⟨hc1, hc2⟩ := hc
    have hol : ((raw.take n).map smallT).length ≤ 4 := by simp; omega
    (repeat' (first | (with_reducible refine A1 (fun _ => ?_) (fun _ => ?_) <;> try (exfalso; omega)) | (with_reducible refine A3 (fun _ => ?_) (fun _ => ?_) <;> try (exfalso; omega)) | simp -dsimp (disch := omega) only [↓EA, EB, Nat.reduceEqDiff, Nat.reduceAdd, Nat.reduceLeDiff, Nat.reduceMul, ↓reduceIte, reduceCtorEq, newCells, bslV, eq_self, *, hr'.len, hr'.ixs, hr'.lda, encT]))
    refine wx_app1 (sz := 7) (bytes := 64) (ho.app _) (hp.app' _) (Nat.le_refl _) (by simp; omega) (fun b hb => hb) (smallT (atI raw n)) (by simp -dsimp (disch := omega) only [EB, Nat.reduceAdd, Nat.reduceMul, ↓reduceIte]; rfl) rfl (by decide) (by decide) (by omega) ?_
    intro v2 h2 k1 k2 k3 k4 k5
    clear k5
    (repeat' simp -dsimp (disch := omega) only [↓EA, EB, Nat.reduceEqDiff, ↓reduceIte, reduceCtorEq, eq_self, *])
    refine Next.mk (n + 1) ⟨by omega, by omega, k2, rfl, rfl, rfl, rfl, rfl, ?_⟩ (by omega)
    rw [take_snoc hc1, List.map_append]; exact k1
  · have hnm : ∀ t ∈ (raw.take n).map smallT, t.name.size < 1152921504606846976 := fun t ht => by
      obtain ⟨u, hu, rfl⟩ := List.mem_map.1 ht
      exact hs u (List.mem_of_mem_take hu)
    have tp := ht.pre hp
    have orr := ho.rd
    have hc2 : n < raw.length → 4 ≤ n := fun h1 => by
      rcases Nat.lt_or_ge n 4 with h2 | h2
      · exact absurd ⟨h1, h2⟩ hc
      · exact h2
    have HC := Hid.mk hc2
    have hset := set04 hE (hl.pre hp) (most := 6) (turn := i) (by decide) (by decide) hi
    have hnm6 := fun t ht => setP_small (l := l) (most := 6) (turn := i) (t := t) (by decide) (by decide) ht
    clear hr' hc hc2
    rcases Nat.lt_or_ge n raw.length with hA | hA
    · have hB := HC.out hA
      (repeat' (first | (with_reducible refine A1 (fun _ => ?_) (fun _ => ?_) <;> try (exfalso; omega)) | (with_reducible refine A3 (fun _ => ?_) (fun _ => ?_) <;> try (exfalso; omega)) | simp -dsimp (disch := omega) only [↓EA, EB, Nat.reduceEqDiff, ↓reduceIte, reduceCtorEq, eq_self, *]))
      refine wx_new hset fun v1 ys r1 p1 => ?_
      have hn6 : ∀ t ∈ setP l 6 i, t.name.size < 1152921504606846976 := fun t ht => by have := (hnm6 t ht).name; omega
      have a1 := assignsS hE hX hZ hI (tp.pre p1) r1 hn6
      have a2 := assignsS hE hX hZ hI (tp.pre p1) (orr.pre p1) hnm
      have a3 := assignsS hE hX hZ hI (tp.pre p1) (vl := .slice none 0 0) (l := []) Rd.of_nil (by simp)
      have hHl := p1.le
      generalize h' ++ ys = H at *
      (repeat' simp -dsimp (disch := omega) only [↓EA, EB, Nat.reduceEqDiff, ↓reduceIte, reduceCtorEq, eq_self, *])
    · (repeat' (first | (with_reducible refine A1 (fun _ => ?_) (fun _ => ?_) <;> try (exfalso; omega)) | simp -dsimp (disch := omega) only [↓EA, EB, Nat.reduceEqDiff, ↓reduceIte, reduceCtorEq, eq_self, *]))
      refine wx_new hset fun v1 ys r1 p1 => ?_
      have hn6 : ∀ t ∈ setP l 6 i, t.name.size < 1152921504606846976 := fun t ht => by have := (hnm6 t ht).name; omega
      have a1 := assignsS hE hX hZ hI (tp.pre p1) r1 hn6
      have a2 := assignsS hE hX hZ hI (tp.pre p1) (orr.pre p1) hnm
      have a3 := assignsS hE hX hZ hI (tp.pre p1) (vl := .slice none 0 0) (l := []) Rd.of_nil (by simp)
      have hHl := p1.le
      generalize h' ++ ys = H at *
      (repeat' simp -dsimp (disch := omega) only [↓EA, EB, Nat.reduceEqDiff, ↓reduceIte, reduceCtorEq, eq_self, *])
end Go.L.Try
