/- OPA: the laws' own small things: awake, rest. -/
import Derived.Test.YtafbiejbnbocoaaDoorPh
set_option linter.unusedVariables false
set_option linter.unusedSimpArgs false
set_option maxRecDepth 100000
set_option maxHeartbeats 2000000
namespace Go.L.Try
open Go Go.L
variable {E : Env} {G : Nat}
def twoL : List Task := [⟨⟨#[97]⟩, 2, 9, 9, 0, 1, 1⟩, ⟨⟨#[98]⟩, 1, 4, 2, 0, 1, 2⟩]
theorem two_is : assignP twoL = ([1, 0], 0, 2, 0) := by decide +kernel
theorem two_name : ∀ t ∈ twoL, t.name.size < 1152921504606846976 := by decide +kernel
theorem found_open {r : List Int × Nat × Nat × Int} {h : Heap} {v : Value} (f : FoundV r h v) : ∃ vo, v = .tuple #[.agg #[vo, .int .i64 (r.2.1 : Int), .int .i64 (r.2.2.1 : Int)], .int .i64 r.2.2.2] ∧ Rd 1 encI h vo r.1 := by
  obtain ⟨vs, rfl, hv⟩ := f
  rcases hv with _ | @⟨_, _, va, _, ra, _ | @⟨_, _, vb, _, rb, _ | _⟩⟩
  obtain ⟨us, rfl, hu⟩ := ra
  rcases hu with _ | @⟨_, _, u1, _, r1, _ | @⟨_, _, u2, _, r2, _ | @⟨_, _, u3, _, r3, _ | _⟩⟩⟩
  
  subst r2; subst r3; subst rb
  exact ⟨_, rfl, r1⟩
theorem rest19 (hE : Laid E) (h : Heap) (x n : Int) (hn : 0 < n) (hn' : n < 4611686018427387904) : callW E (.func (.func n_law19_rest) #[] #[]) [.int .i64 x, .int .i64 n] h = some (.int .i64 (x % n), h, []) := by
  have hb := tmod_bounds x n hn
  refine fn_same hE.law19_rest rfl (by simp) ?_
  simp -dsimp (disch := omega) only [↓EA, EB, Nat.reduceEqDiff, ↓reduceIte, reduceCtorEq, eq_self, argsF, rest_eq x n hn]
theorem awake19 (hE : Laid E) (hX : LaidAdd E) (hZ : LaidTz E G) (hI : LaidIns E) {h : Heap} (ht : Tab G h) :
    callW E (.func (.func n_law19_awake) #[] #[]) [] h = some (.bool true, h, []) := by
  refine fn_same hE.law19_awake rfl (by simp) ?_
  simp only [argsF]
  (repeat' simp -dsimp (disch := omega) only [↓EA, EB, Nat.reduceEqDiff, Nat.reduceAdd, Nat.reduceLeDiff, Nat.reduceMul, ↓reduceIte, newCells, bslV, eq_self, *])
  refine wx_new (assignS hE hX hZ hI (ht.app _) (Rd.lit (enc := encT) twoL (by rw [geta0]; rfl) rfl (fun _ => rfl) (by decide) (by decide) (.inl rfl)) two_name) fun v ys hr hp => ?_
  rw [two_is] at hr
  obtain ⟨vo, rfl, ha⟩ := found_open hr
  have la : lensV false vo = some (.int .i64 2) := ha.len
  have oa := ha.one
  have ca := ha.cv
  have z0 := ha.ixs .i64 0 (by decide) (by decide)
  have z1 := ha.ixs .i64 1 (by decide) (by decide)
  generalize hH : h ++ _ ++ ys = H at *
  have hHl : h.length ≤ H.length := by rw [← hH]; simp
  have x0 : ∀ x, ldO (H ++ x)[blk vo]? _ _ = some (.int .i64 1) := fun x => (ha.app x).ld0 0 (by decide) (by decide) (by decide)
  have x1 : ∀ x, ldO (H ++ x)[blk vo]? _ _ = some (.int .i64 0) := fun x => (ha.app x).ld0 1 (by decide) (by decide) (by decide)
  clear hH
  (repeat' simp -dsimp (disch := omega) only [↓EA, EB, Nat.reduceEqDiff, Nat.reduceAdd, ↓reduceIte, newCells, eq_self, *])
  rfl
end Go.L.Try
namespace Go.L.Try
open Go Go.L
variable {E : Env} {G : Nat}
def encO (b : Bool) : List Value := [.bool b]
theorem flatO : Flat encO := fun _ => rfl
def ysT (l : List Task) (A : Nat → Bool) (k : Nat) (t : Task) : Task := { t with P := if A k then 1 + (k : Int) else 5000 + (k : Int) }
def ysN (l : List Task) (A : Nat → Bool) (n : Nat) : List Task := l.mapIdx fun k t => if k < n then ysT l A k t else t
theorem ysN_len (l : List Task) (A : Nat → Bool) (n : Nat) : (ysN l A n).length = l.length := by simp [ysN]
theorem ysN_zero (l : List Task) (A : Nat → Bool) : ysN l A 0 = l := by
  apply List.ext_getElem?
  intro k
  simp [ysN]
theorem ysN_at {l : List Task} {A : Nat → Bool} {n : Nat} (hn : n < l.length) : atI (ysN l A n) (n : Int) = atI l (n : Int) := by
  rw [atI_nat (by rw [ysN_len]; exact hn), atI_nat hn]
  simp [ysN]
theorem ysN_succ {l : List Task} {A : Nat → Bool} {n : Nat} (hn : n < l.length) : ysN l A (n + 1) = (ysN l A n).set n (ysT l A n (atI l (n : Int))) := by
  apply List.ext_getElem?
  intro k
  rw [List.getElem?_set]
  by_cases e : n = k
  · subst e
    rw [if_pos rfl, if_pos (by rw [ysN_len]; exact hn), atI_nat hn]
    simp [ysN, hn]
  · rw [if_neg e]
    unfold ysN
    rw [List.getElem?_mapIdx, List.getElem?_mapIdx]
    by_cases h2 : k < n
    · simp only [h2, if_true, show k < n + 1 by omega]
    · simp only [h2, if_false, show ¬ k < n + 1 by omega]
theorem ysN_last {l : List Task} {A : Nat → Bool} {i : Nat} (hi : i < l.length) : (ysN l A l.length).set i { atI l (i : Int) with P := 4000 } = opG 1 5000 4000 l i A := by
  apply List.ext_getElem?
  intro k
  rw [List.getElem?_set]
  unfold opG
  rw [List.getElem?_mapIdx]
  by_cases e : i = k
  · subst e
    rw [if_pos rfl, if_pos (by rw [ysN_len]; exact hi), List.getElem?_eq_getElem hi, atI_nat hi]
    simp
  · rw [if_neg e]
    unfold ysN
    rw [List.getElem?_mapIdx]
    by_cases h2 : k < l.length
    · rw [List.getElem?_eq_getElem h2]
      simp only [Option.map_some, h2, if_true, ysT, show ¬ k = i from fun h => e h.symm, if_false]
    · rw [List.getElem?_eq_none (by omega)]; rfl
def atO (bl : List Bool) (k : Nat) : Bool := atI bl (k : Int)
theorem atO_out {bl : List Bool} {k : Nat} (h : bl.length ≤ k) : atO bl k = false := by unfold atO atI; rw [Int.toNat_natCast, List.getD_eq_getElem?_getD, List.getElem?_eq_none h]; rfl
theorem fits19 (hE : Laid E) {h : Heap} {vl vb : Value} {l : List Task} {bl : List Bool} (hl : Rd 7 encT h vl l) (hs : ∀ t ∈ l, t.name.size < 1152921504606846976) (hbl : Rd 1 encO h vb bl) (i : Int) :
    callW E (.func (.func n_ref19_Fits) #[] #[]) [vl, .int .i64 i, vb] h = some (.bool (fitsP l i (atO bl)), h, []) := by
  refine fn_same hE.ref19_Fits rfl (by simp) ?_
  have hm := checkAll04 hE hl hs
  have hll := hl.len
  have hfew := hl.few
  simp only [argsF]
  have er := fits_ref (l := l) (i := i) (A := atO bl) (B := atO bl) fun k _ => rfl
  by_cases hc : validP l ∧ (0 ≤ i ∧ i < l.length)
  · obtain ⟨hv, hi⟩ := hc
    have hn := (valid_iff.1 hv).1
    have hnl : l ≠ [] := fun e => by rw [e] at hn; simp at hn
    have hv2 := hv
    unfold validP at hv2
    (repeat' (first | (with_reducible refine A2 (fun _ => ?_) (fun _ => ?_) <;> try (exfalso; omega)) | (with_reducible refine A3 (fun _ => ?_) (fun _ => ?_) <;> try (exfalso; omega)) | simp -dsimp (disch := omega) only [↓EA, EB, Nat.reduceEqDiff, Nat.reduceAdd, Nat.reduceLeDiff, Nat.reduceMul, ↓reduceIte, reduceCtorEq, newCells, bslV, eq_self, *]))
    refine wx_copy (sz := 7) (enc := encT) (c := []) (ro := false) (off := 0) (l := l) (by rw [geta0]; rfl) (Nat.zero_le _) (hl.app _) hnl (fun _ => rfl) (by decide) (by decide) (by omega) fun rx => ?_
    have hr0 := rx.rdO.less (m' := h.length + 1) (by simp)
    have hp : Pre h (h ++ [LObj.cells [] false] ++ [LObj.cells (l.map encT).flatten false]) := (Pre.app h _).trans (Pre.app _ _)
    clear rx hm
    generalize h ++ [LObj.cells [] false] ++ [LObj.cells (l.map encT).flatten false] = H at *
    generalize Value.slice (some ⟨(h ++ [LObj.cells [] false]).length, 0, some 7⟩) l.length l.length = v at *
    have hHl := hp.le
    have hv0 := hr0.rd.cv
    have hv1 := hr0.rd.one
    have hlen := hr0.rd.len
    obtain ⟨n0, hn0⟩ : ∃ n0 : Nat, i = n0 := ⟨i.toNat, by omega⟩
    subst hn0
    have Hn1 := Hid.mk (Int.toNat_natCast n0)
    (repeat' simp -dsimp (disch := omega) only [↓EA, EB, Nat.reduceEqDiff, ↓reduceIte, reduceCtorEq, eq_self, *])
    refine WO.loop (fun (n : Nat) fr h' => n ≤ l.length ∧ Pre h h' ∧ get fr 1 = .int .i64 n0 ∧ get fr 2 = vb ∧ get fr 7 = v ∧ get fr 8 = .int .i64 n ∧ RdO (h.length + 1) 7 encT h' v (ysN l (atO bl) n)) (fun n => l.length - n) ?_ 0 ⟨Nat.zero_le _, hp, rfl, rfl, rfl, rfl, by rw [ysN_zero]; exact hr0⟩
    rintro n fr h' ⟨hn', hp', g1, g2, g7, g8, hx⟩
    unfold c_ref19_Fits_l0
    have hr := hx.rd
    have hxl := ysN_len l (atO bl) n
    have hlx : lensV false v = some (.int .i64 l.length) := by rw [hr.len, hxl]
    have hxl1 : l.length ≤ (ysN l (atO bl) n).length := by omega
    have hxl2 : (ysN l (atO bl) n).length ≤ l.length := by omega
    have hne : ysN l (atO bl) n ≠ [] := fun e => by rw [e] at hxl1; have : l.length ≤ 0 := hxl1; omega
    have hbk := hx.ge hne
    clear hxl hr0 hlen
    rcases Nat.lt_or_ge n l.length with hlt | hge
    · have Hs := Hid.mk (ysN_succ (A := atO bl) hlt)
      have Ha := Hid.mk (ysN_at (A := atO bl) hlt)
      (repeat' (first | (with_reducible refine A3 (fun _ => ?_) (fun _ => ?_) <;> try (exfalso; omega)) | simp -dsimp (disch := omega) only [↓EA, EB, Nat.reduceEqDiff, ↓reduceIte, eq_self, *, hr.len, hr.ixs]))
      refine wh_rdO hx (fun b hb => by omega) { atI l (n : Int) with P := 5000 + (n : Int) } (by omega) (by omega) (by decide) rfl (by rw [Ha.out]; rfl) fun h5 k1 k2 k3 => ?_
      have hp5 : Pre h h5 := fun b o hb => by
        have := (List.getElem?_eq_some_iff.1 hb).1
        rw [k3 b (by omega)]; exact hp' b o hb
      rw [show ((n : Int)).toNat = n by omega] at k1
      have hb5 := hbl.pre hp5
      have hr5 := k1.rd
      have hl5 : ((ysN l (atO bl) n).set n { atI l (n : Int) with P := 5000 + (n : Int) }).length = l.length := by rw [List.length_set, ysN_len]
      have hl5a : l.length ≤ ((ysN l (atO bl) n).set n { atI l (n : Int) with P := 5000 + (n : Int) }).length := by omega
      have Ha5 := Hid.mk (show atI ((ysN l (atO bl) n).set n { atI l (n : Int) with P := 5000 + (n : Int) }) (n : Int) = { atI l (n : Int) with P := 5000 + (n : Int) } by rw [atI_nat (by omega)]; simp)
      have Hs5 := Hid.mk (show ((ysN l (atO bl) n).set n { atI l (n : Int) with P := 5000 + (n : Int) }).set n { atI l (n : Int) with P := 1 + (n : Int) } = (ysN l (atO bl) n).set n { atI l (n : Int) with P := 1 + (n : Int) } by rw [List.set_set])
      have hlb := hbl.len
      clear hl5 hr hx k3 hbk hxl1 hxl2 hne
      generalize hq5 : (ysN l (atO bl) n).set n { atI l (n : Int) with P := 5000 + (n : Int) } = q5 at *
      cases hA : atO bl n
      · have Hq := Hid.mk (show ysN l (atO bl) (n + 1) = q5 by rw [Hs.out, ← hq5]; unfold ysT; rw [hA]; rfl)
        have hat : atI bl (n : Int) = false := hA
        (repeat' (first | (with_reducible refine A1 (fun _ => ?_) (fun _ => ?_) <;> try (exfalso; omega)) | simp -dsimp (disch := omega) only [↓EA, EB, Nat.reduceEqDiff, ↓reduceIte, eq_self, *, hb5.len, hb5.ixs, hb5.ld0, encO]))
        all_goals exact Next.mk (n + 1) ⟨by omega, hp5, rfl, rfl, rfl, rfl, by rw [Hq.out]; exact k1⟩ (by omega)
      · have Hq := Hid.mk (show ysN l (atO bl) (n + 1) = q5.set n { atI l (n : Int) with P := 1 + (n : Int) } by rw [Hs.out, Hs5.out]; unfold ysT; rw [hA]; rfl)
        have hat : atI bl (n : Int) = true := hA
        have hnb : n < bl.length := by
          rcases Nat.lt_or_ge n bl.length with h | h
          · exact h
          · rw [atO_out h] at hA; cases hA
        (repeat' (first | (with_reducible refine A1 (fun _ => ?_) (fun _ => ?_) <;> try (exfalso; omega)) | simp -dsimp (disch := omega) only [↓EA, EB, Nat.reduceEqDiff, ↓reduceIte, eq_self, *, hr5.ixs, hb5.len, hb5.ixs, hb5.ld0, encO]))
        refine wh_rdO k1 (fun b hb => by omega) { atI l (n : Int) with P := 1 + (n : Int) } (by omega) (by omega) (by decide) rfl (by rw [Ha5.out]; rfl) fun h6 j1 j2 j3 => ?_
        have hbk := k1.ge (fun e => by rw [e] at hl5a; have : l.length ≤ 0 := hl5a; omega)
        have hp6 : Pre h h6 := fun b o hb => by
          have := (List.getElem?_eq_some_iff.1 hb).1
          rw [j3 b (by omega)]; exact hp5 b o hb
        rw [show ((n : Int)).toNat = n by omega, ← Hq.out] at j1
        clear j3
        (repeat' simp -dsimp (disch := omega) only [↓EA, EB, Nat.reduceEqDiff, ↓reduceIte, eq_self, *])
        exact Next.mk (n + 1) ⟨by omega, hp6, rfl, rfl, rfl, rfl, j1⟩ (by omega)
    · have e : n = l.length := by omega
      subst e
      have hat : atI (ysN l (atO bl) l.length) (n0 : Int) = ysT l (atO bl) n0 (atI l (n0 : Int)) := by
        rw [atI_nat (by omega), atI_nat (by omega)]
        have : n0 < l.length := by omega
        simp [ysN, this]
      (repeat' (first | (with_reducible refine A3 (fun _ => ?_) (fun _ => ?_) <;> try (exfalso; omega)) | simp -dsimp (disch := omega) only [↓EA, EB, Nat.reduceEqDiff, ↓reduceIte, eq_self, *, hr.len, hr.ixs]))
      refine wh_rdO hx (fun b hb => by omega) { atI l (n0 : Int) with P := 4000 } (by omega) (by omega) (by decide) rfl (by rw [hat]; rfl) fun h5 k1 k2 k3 => ?_
      have hp5 : Pre h h5 := fun b o hb => by
        have := (List.getElem?_eq_some_iff.1 hb).1
        rw [k3 b (by omega)]; exact hp' b o hb
      rw [show ((n0 : Int)).toNat = n0 by omega, ysN_last (by omega)] at k1
      have hbd := bound14 hE k1.rd (fun t ht => by
        obtain ⟨k, hk, rfl⟩ := List.getElem_of_mem ht
        rw [opG_len] at hk
        have e := opG_at (a := 1) (b := 5000) (c := 4000) (i := n0) (A := atO bl) hk
        rw [atI_nat (by rw [opG_len]; exact hk)] at e
        rw [e]
        exact hs (atI l (k : Int)) (atI_mem (l := l) (i := (k : Int)) (by omega) (by omega))) (n0 : Int)
      clear k3
      (repeat' simp -dsimp (disch := omega) only [↓EA, EB, Nat.reduceEqDiff, ↓reduceIte, eq_self, *])
      rw [Hn1.out]
  · have e : fitsP l i (atO bl) = false := decide_eq_false fun h => hc ⟨h.1, h.2.1⟩
    rw [e]
    unfold validP at hc
    (repeat' (first | (with_reducible refine A2 (fun _ => ?_) (fun _ => ?_) <;> try (exfalso; omega)) | (with_reducible refine A3 (fun _ => ?_) (fun _ => ?_) <;> try (exfalso; omega)) | simp -dsimp (disch := omega) only [↓EA, EB, Nat.reduceEqDiff, Nat.reduceAdd, ↓reduceIte, reduceCtorEq, eq_self, *]))
end Go.L.Try
namespace Go.L.Try
open Go Go.L
variable {E : Env} {G : Nat}
theorem both_step {w : List Nat} {bl : List Bool} (hw : okM w) (hl : bl.length = 8) (h : ∀ m, m < 8 → memM w m = atO bl m) (a : Int) :
    okM (withM (withM w (a % 8)) a) ∧ (bl.set (a % 8).toNat true).length = 8 ∧ (∀ m, m < 8 → memM (withM (withM w (a % 8)) a) m = atO (bl.set (a % 8).toNat true) m) ∧ (0 ≤ a → a < 8 → (bl.set (a % 8).toNat true).set a.toNat true = bl.set (a % 8).toNat true) := by
  have h1 := withM_ok hw (a % 8)
  have hr := emod_in a 8 (by decide)
  refine ⟨withM_ok h1 a, by simp [hl], fun m hm => ?_, fun h0 h8 => by rw [show a % 8 = a by omega, List.set_set]⟩
  have e1 : memM (withM w (a % 8)) m = (memM w m || decide (m = (a % 8).toNat)) := by
    have := withM_mem hw (n := (a % 8).toNat) (by omega) m
    rwa [show (((a % 8).toNat : Nat) : Int) = a % 8 by omega] at this
  have e2 : memM (withM (withM w (a % 8)) a) m = memM (withM w (a % 8)) m := by
    by_cases hin : 0 ≤ a ∧ a < 1024
    · have := withM_mem h1 (n := a.toNat) (by omega) m
      rw [show ((a.toNat : Nat) : Int) = a by omega] at this
      rw [this, e1]
      by_cases e : m = a.toNat
      · rw [decide_eq_true e, decide_eq_true (show m = (a % 8).toNat by omega)]; simp
      · rw [decide_eq_false e]; simp
    · rw [withM_out hin]
  rw [e2, e1, h m hm]
  unfold atO
  rw [atI_nat (by rw [hl]; exact hm), atI_nat (by simp [hl]; exact hm), List.getElem_set]
  by_cases e : m = (a % 8).toNat
  · rw [decide_eq_true e, if_pos e.symm]; simp
  · rw [decide_eq_false e, if_neg fun x => e x.symm]; simp
theorem opaFits (hE : Laid E) (hX : LaidAdd E) (hZ : LaidTz E G) (hI : LaidIns E) {h : Heap} (ht : Tab G h) {vl va : Value} {l : List Spec} {i : Int} {al : List Int} (hl : Rd 5 encSp h vl l) (hi : i64in i) (ha : Rd 1 encI h va al) :
    callW E (.func (.func n_law19_OpaFits) #[] #[]) [vl, .int .i64 i, va] h = some (.bool true, h, []) := by
  refine fn_same hE.law19_OpaFits rfl (by simp) ?_
  have aw0 := awake19 hE hX hZ hI ht
  have hset := setP_len l (most := 6) (turn := i) (by decide)
  have hsm := fun t ht => setP_small (l := l) (most := 6) (turn := i) (t := t) (by decide) (by decide) ht
  simp only [argsF]
  (repeat' simp -dsimp (disch := omega) only [↓EA, EB, Nat.reduceEqDiff, Nat.reduceAdd, ↓reduceIte, reduceCtorEq, eq_self, *])
  refine wx_new (set04 hE hl (by decide) (by decide) hi) fun v1 ys r1 p1 => ?_
  have ht1 := ht.pre p1
  have ha1 := ha.pre p1
  have hv := setP_valid l (most := 6) i (by decide) (by decide)
  generalize setP l 6 i = s at *
  have hnm : ∀ t ∈ s, t.name.size < 1152921504606846976 := fun t ht => by have := (hsm t ht).name; omega
  have hHl := p1.le
  generalize h ++ ys = H at *
  have o1 := r1.one
  have c1 := r1.cv
  clear aw0 p1
  (repeat' simp -dsimp (disch := omega) only [↓EA, EB, Nat.reduceEqDiff, Nat.reduceAdd, ↓reduceIte, reduceCtorEq, newCells, eq_self, *])
  have hz : ∀ m, m < 8 → memM (List.replicate 16 0) m = atO (List.replicate 8 false) m := fun m hm => by
    rw [memM_zero]; unfold atO; rw [atI_nat (by simpa using hm), List.getElem_replicate]
  refine WO.loop (fun (n : Nat) fr h' => ∃ w bl, okM w ∧ bl.length = 8 ∧ (∀ m, m < 8 → memM w m = atO bl m) ∧ n ≤ al.length ∧ h' = H ++ [LObj.cells (encM w) false, LObj.cells (bl.map Value.bool) false] ∧ get fr 1 = .int .i64 i ∧ get fr 2 = va ∧ get fr 7 = .bool true ∧ get fr 8 = v1 ∧ get fr 9 = .pointer (some ⟨H.length, 0, none⟩) ∧ get fr 10 = .pointer (some ⟨H.length + 1, 0, none⟩) ∧ get fr 11 = .int .i64 n) (fun n => al.length - n) ?_ 0
    ⟨List.replicate 16 0, List.replicate 8 false, okM_zero, by simp, hz, Nat.zero_le _, rfl, rfl, rfl, rfl, rfl, rfl, rfl, rfl⟩
  rintro n fr h' ⟨w, bl, hw, hbl, hmem, hn, rfl, g1, g2, g7, g8, g9, g10, g11⟩
  unfold c_law19_OpaFits_l0
  have el := encM_len hw
  have eo := encM_one w
  have et := encM_take hw
  have bL : (bl.map Value.bool).length = 8 := by simp [hbl]
  have bo : (bl.map Value.bool).all oneCell = true := by rw [List.all_map, List.all_eq_true]; intro x _; rfl
  have hal := ha1.len
  have hs1 := r1.len
  clear hz
  by_cases hc : n < al.length ∧ n < 10
  · obtain ⟨hc1, hc2⟩ := hc
    obtain ⟨k1, k2, k3, k4⟩ := both_step hw hbl hmem (atI al (n : Int))
    have hw1 := withM_ok hw (atI al (n : Int) % 8)
    have hrest := fun X => rest19 hE X (atI al (n : Int)) 8 (by decide) (by decide)
    have hwith1 := fun x => withS hE (H ++ x) hw (atI al (n : Int) % 8)
    have hwith2 := fun x => withS hE (H ++ x) hw1 (atI al (n : Int))
    have hr := emod_in (atI al (n : Int)) 8 (by decide)
    have hst : ∀ (b2 : List Bool) (k : Nat), (b2.map Value.bool).set k (.bool true) = (b2.set k true).map Value.bool := fun b2 k => by rw [List.map_set]
    have el2 := encM_len k1
    have eo2 := encM_one (withM (withM w (atI al (n : Int) % 8)) (atI al (n : Int)))
    have et2 := encM_take k1
    have hset := setCells_whole (d := encM w) (cs := encM (withM (withM w (atI al (n : Int) % 8)) (atI al (n : Int)))) (by rw [el, el2])
    have hm1 : (atI al (n : Int) % 8).toNat * 1 = (atI al (n : Int) % 8).toNat := Nat.mul_one _
    have hm2 : (atI al (n : Int)).toNat * 1 = (atI al (n : Int)).toNat := Nat.mul_one _
    have bL2 : ((bl.set (atI al (n : Int) % 8).toNat true).map Value.bool).length = 8 := by simp [hbl]
    have hHl1 : h.length ≤ H.length + 1 := by omega
    have h7 : (atI al (n : Int) % 8).toNat ≤ 7 := by omega
    have KK := Hid.mk (And.intro k1 (And.intro k2 k3))
    have har := ha1
    clear k1 k2 k3 hmem hw hw1 hbl
    by_cases h8 : 0 ≤ atI al (n : Int) ∧ atI al (n : Int) < 8
    · have k5 := k4 h8.1 h8.2
      have h77 : (atI al (n : Int)).toNat ≤ 7 := by omega
      clear k4
      (repeat' (first | (with_reducible refine A1 (fun _ => ?_) (fun _ => ?_) <;> try (exfalso; omega)) | (with_reducible refine A3 (fun _ => ?_) (fun _ => ?_) <;> try (exfalso; omega)) | simp -dsimp (disch := omega) only [↓EA, EB, Nat.reduceEqDiff, Nat.reduceLeDiff, ↓reduceIte, eq_self, *, har.len, har.ixs, har.ldx0, encI]))
      all_goals exact Next.mk (n + 1) ⟨_, _, KK.out.1, KK.out.2.1, KK.out.2.2, by omega, rfl, rfl, rfl, rfl, rfl, rfl, rfl, rfl⟩ (by omega)
    · clear k4
      (repeat' (first | (with_reducible refine A1 (fun _ => ?_) (fun _ => ?_) <;> try (exfalso; omega)) | (with_reducible refine A3 (fun _ => ?_) (fun _ => ?_) <;> try (exfalso; omega)) | simp -dsimp (disch := omega) only [↓EA, EB, Nat.reduceEqDiff, Nat.reduceLeDiff, ↓reduceIte, eq_self, *, har.len, har.ixs, har.ldx0, encI]))
      all_goals exact Next.mk (n + 1) ⟨_, _, KK.out.1, KK.out.2.1, KK.out.2.2, by omega, rfl, rfl, rfl, rfl, rfl, rfl, rfl, rfl⟩ (by omega)
  · have hj := rest19 hE
    have hmod := emod_in i (s.length : Int) (by omega)
    have hhl := fun x => Rd.lit (enc := encO) (h := H ++ [LObj.cells (encM w) false, LObj.cells (bl.map Value.bool) false]) (b := H.length + 1) (sp := none) (cap := 8) bl (by rw [geta]; rfl) x (fun _ => rfl) (by omega) (by omega) (.inl rfl)
    have hbf : bl.map Value.bool = (bl.map encO).flatten := by
      clear hhl hmem hbl bL bo
      induction bl with
      | nil => rfl
      | cons a r ih => rw [List.map_cons, ih]; rfl
    have hb := hhl hbf
    rw [hbl] at hb
    have f1 := fun j => fitsS hE hX hZ (ht1.app [LObj.cells (encM w) false, LObj.cells (bl.map Value.bool) false]) (r1.app _) hnm hw j
    have f2 := fun j => fits19 hE (r1.app [LObj.cells (encM w) false, LObj.cells (bl.map Value.bool) false]) hnm hb j
    have f3 := fitsS hE hX hZ (ht1.app [LObj.cells (encM w) false, LObj.cells (bl.map Value.bool) false]) (vl := .slice none 0 0) (l := []) Rd.of_nil (by simp) hw 0
    have ef : ∀ j, fitsP s j (atO bl) = fitsP s j (memM w) := fun j => fits_cong fun k hk _ => (hmem k (by omega)).symm
    have e0 : fitsP [] 0 (memM w) = false := decide_eq_false fun hh => by have := (valid_iff.1 hh.1).1; simp at this
    rw [e0] at f3
    simp only [ef] at f2
    have hrs := fun X => rest19 hE X i (s.length : Int) (by omega) (by omega)
    have hsla : slaV 8 1 (.pointer (some ⟨H.length + 1, 0, none⟩)) none none = some (.slice (some ⟨H.length + 1, 0, none⟩) 8 8) := rfl
    have hbe : ∀ b : Bool, binOp .eql .bool (.bool b) (.bool b) = some (.bool true) := fun b => by cases b <;> rfl
    clear hhl hbf hb ef hmem hbl
    (repeat' (first | (with_reducible refine A1 (fun _ => ?_) (fun _ => ?_) <;> try (exfalso; omega)) | (with_reducible refine A3 (fun _ => ?_) (fun _ => ?_) <;> try (exfalso; omega)) | simp -dsimp (disch := omega) only [↓EA, EB, Nat.reduceEqDiff, ↓reduceIte, eq_self, *]))
end Go.L.Try
