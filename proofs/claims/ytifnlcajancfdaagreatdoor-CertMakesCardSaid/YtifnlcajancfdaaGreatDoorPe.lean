/- THE DEMAND: demand.Block, Higher, Need. -/
import Derived.Test.YtifnlcajancfdaaGreatDoorPd
import Derived.Test.YtifnlcajancfdaaGreatDoorPb
set_option linter.unusedVariables false
set_option linter.unusedSimpArgs false
set_option maxRecDepth 100000
set_option maxHeartbeats 2000000
namespace Go.L.Try
open Go Go.L
variable {E : Env} {G : Nat}
theorem range'_range (n : Nat) : List.range' 0 n = List.range n := List.range_eq_range'.symm
theorem elems_those {w : List Nat} {n : Nat} {q : Nat → Bool} (hn : n ≤ 1024) (hm : ∀ m, memM w m = (decide (m < n) && q m)) : elemsFrom w 0 = (List.range n).filter q := by
  unfold elemsFrom
  have e : 1024 - 0 = n + (1024 - n) := by omega
  rw [e, List.range'_append_1.symm, List.filter_append, range'_range]
  have h1 : (List.range n).filter (memM w) = (List.range n).filter q := by
    apply List.filter_congr
    intro m hmem
    rw [hm, decide_eq_true (List.mem_range.1 hmem), Bool.true_and]
  have h2 : (List.range' (0 + n) (1024 - n)).filter (memM w) = [] := by
    rw [List.filter_eq_nil_iff]
    intro m hmem
    have := (List.mem_range'_1.1 hmem).1
    rw [hm, decide_eq_false (by omega), Bool.false_and]; decide
  rw [h1, h2, List.append_nil]
theorem fold_those {α : Type} {f : α → Nat → α} {a0 : α} {q : Nat → Bool} (N : Nat → α) (h0 : N 0 = a0) (hN : ∀ k, N (k + 1) = if q k = true then f (N k) k else N k) : ∀ n, ((List.range n).filter q).foldl f a0 = N n
  | 0 => h0.symm
  | n + 1 => by
    rw [List.range_succ, List.filter_append, List.foldl_append, fold_those N h0 hN n, hN]
    by_cases h : q n = true
    · rw [if_pos h]; simp [h]
    · rw [if_neg h]; simp [h]
def accL {α : Type} (f : α → Nat → α) (a0 : α) (es : List Nat) (k : Nat) : α := (es.take k).foldl f a0
theorem accL_succ {α : Type} {f : α → Nat → α} {a0 : α} {es : List Nat} {k m : Nat} (h : es[k]? = some m) : accL f a0 es (k + 1) = f (accL f a0 es k) m := by
  unfold accL
  have hlt := (List.getElem?_eq_some_iff.1 h).1
  have e : es.take (k + 1) = es.take k ++ [m] := by
    rw [List.take_add_one, h]; rfl
  rw [e, List.foldl_append]; rfl
theorem accL_all {α : Type} (f : α → Nat → α) (a0 : α) (es : List Nat) : accL f a0 es es.length = es.foldl f a0 := by unfold accL; rw [List.take_length]
theorem accL_ind {α : Type} {f : α → Nat → α} {a0 : α} {es : List Nat} (I : α → Prop) (h0 : I a0) (hs : ∀ a m, m ∈ es → I a → I (f a m)) : ∀ k, I (accL f a0 es k)
  | 0 => h0
  | k + 1 => by
    cases h : es[k]? with
    | some m => rw [accL_succ h]; exact hs _ _ (List.mem_of_getElem? h) (accL_ind I h0 hs k)
    | none =>
      have e : accL f a0 es (k + 1) = accL f a0 es k := by
        unfold accL
        rw [List.getElem?_eq_none_iff] at h
        rw [List.take_of_length_le (by omega), List.take_of_length_le h]
      rw [e]; exact accL_ind I h0 hs k
def placesQ (q : Task → Bool) (l : List Task) : List Nat := (List.range l.length).filter fun m => q (atI l (m : Int))
theorem elems_places (q : Task → Bool) {l : List Task} (hn : l.length ≤ 1024) : elemsFrom (thoseW q l l.length) 0 = placesQ q l :=
  elems_those hn fun m => thoseW_mem q l l.length hn m
theorem mem_places {q : Task → Bool} {l : List Task} {m : Nat} (h : m ∈ placesQ q l) : m < l.length := List.mem_range.1 (List.mem_filter.1 h).1
def bstep (l : List Task) (a : Int) (m : Nat) : Int := max a ((atI l (m : Int)).Q - 1)
theorem block_fold (l : List Task) (i : Int) : accL (bstep l) 0 (placesQ (lowerQ l i) l) (placesQ (lowerQ l i) l).length = blockN l i l.length := by
  rw [accL_all]
  exact fold_those (blockN l i) rfl (fun k => by show (if _ then _ else _) = _; simp only [lowerQ, decide_eq_true_eq]; rfl) _
theorem blockD (hE : Laid E) (hZ : LaidTz E G) {h : Heap} (ht : Tab G h) {vl : Value} {l : List Task} (hl : Rd 7 encT h vl l) (hs : ∀ t ∈ l, t.name.size < 1152921504606846976) (i : Int) :
    callW E (.func (.func n_demand_Block) #[] #[]) [vl, .int .i64 i] h = some (.int .i64 (blockP l i), h, []) := by
  have hi := fun x => isDem hE (hl.app x) hs i
  have hc := hl.cv
  have ho := hl.one
  refine fn_same hE.demand_Block rfl (by simp) ?_
  simp only [argsF]
  unfold blockP
  cases hb : isP l i
  · rw [hb] at hi
    (repeat' (first | (with_reducible refine A1 (fun _ => ?_) (fun _ => ?_) <;> try (exfalso; omega)) | (with_reducible refine A2 (fun _ => ?_) (fun _ => ?_) <;> try (exfalso; omega)) | (with_reducible refine A3 (fun _ => ?_) (fun _ => ?_) <;> try (exfalso; omega)) | refine A4 (fun _ => ?_) (fun _ => ?_) | refine A5 (fun _ => ?_) (fun _ => ?_) | refine A6 (fun _ => ?_) (fun _ => ?_) | simp -dsimp (disch := omega) only [↓EA, EB, Nat.reduceEqDiff, Nat.reduceAdd, Nat.reduceLeDiff, Nat.reduceMul, ↓reduceIte, reduceCtorEq, newCells, bslV, eq_self, *]))
  · rw [hb] at hi
    obtain ⟨hi2, hlen, hok⟩ := isP_ok hb
    have q := fun x => lowerT hE (hl.app x) hi2 hlen
    have ok := thoseW_ok (lowerQ l i) l l.length
    have ev := elems_places (lowerQ l i) hlen
    have Hf := Hid.mk (block_fold l i)
    have Hm := Hid.mk (fun m (h : m ∈ placesQ (lowerQ l i) l) => mem_places h)
    generalize placesQ (lowerQ l i) l = es at *
    generalize thoseW (lowerQ l i) l l.length = w at *
    rw [if_pos rfl]
    (repeat' (first | (with_reducible refine A1 (fun _ => ?_) (fun _ => ?_) <;> try (exfalso; omega)) | (with_reducible refine A2 (fun _ => ?_) (fun _ => ?_) <;> try (exfalso; omega)) | (with_reducible refine A3 (fun _ => ?_) (fun _ => ?_) <;> try (exfalso; omega)) | refine A4 (fun _ => ?_) (fun _ => ?_) | refine A5 (fun _ => ?_) (fun _ => ?_) | refine A6 (fun _ => ?_) (fun _ => ?_) | simp -dsimp (disch := omega) only [↓EA, EB, Nat.reduceEqDiff, Nat.reduceAdd, Nat.reduceLeDiff, Nat.reduceMul, ↓reduceIte, reduceCtorEq, newCells, bslV, eq_self, *]))
    refine wx_new (allS hE _ ok) fun v ys hr hpre => ?_
    obtain ⟨bx, rfl, hge, hbx⟩ := hr
    (repeat' (first | (with_reducible refine A1 (fun _ => ?_) (fun _ => ?_) <;> try (exfalso; omega)) | (with_reducible refine A2 (fun _ => ?_) (fun _ => ?_) <;> try (exfalso; omega)) | (with_reducible refine A3 (fun _ => ?_) (fun _ => ?_) <;> try (exfalso; omega)) | refine A4 (fun _ => ?_) (fun _ => ?_) | refine A5 (fun _ => ?_) (fun _ => ?_) | refine A6 (fun _ => ?_) (fun _ => ?_) | simp -dsimp (disch := omega) only [↓EA, EB, Nat.reduceEqDiff, Nat.reduceAdd, Nat.reduceLeDiff, Nat.reduceMul, ↓reduceIte, reduceCtorEq, newCells, bslV, eq_self, *]))
    simp only [List.append_assoc, List.cons_append, List.nil_append, List.length_append, List.length_cons, List.length_nil] at hbx hge
    have hbxl := (List.getElem?_eq_some_iff.1 hbx).1
    have hpH : Pre h (h ++ LObj.cells [vl] false :: LObj.cells [Value.int IntKind.i64 0] false :: ys) := Pre.app h _
    have hbt : ∀ m, m ∈ es → 1 ≤ (atI l (m : Int)).Q ∧ (atI l (m : Int)).Q ≤ 2147483647 := fun m hm => by
      have hml := Hm.out m hm
      have := (hok _ (atI_mem (l := l) (i := (m : Int)) (by omega) (by omega))).1
      simp only [rangesB] at this; omega
    have hac : ∀ k, 0 ≤ accL (bstep l) 0 es k ∧ accL (bstep l) 0 es k ≤ 2147483647 := accL_ind (fun a => 0 ≤ a ∧ a ≤ 2147483647) ⟨by decide, by decide⟩ (fun a m hm ⟨h1, h2⟩ => by
      have := hbt m hm
      unfold bstep; omega)
    refine co_iter1 hE.keep rfl (all_iter hE hZ ok bx) (c := h.length + 1) (by simp) (by omega) (fun k => .int .i64 (accL (bstep l) 0 es k)) (fun _ => rfl) (by rw [geta]; rfl) rfl (fun hh e1 e2 => ⟨by rw [e2 bx hbxl (by omega)]; exact hbx, ht.pre fun b o hb => by have hlt := (List.getElem?_eq_some_iff.1 hb).1; rw [e2 b (by simp; omega) (by omega)]; exact hpH b o hb⟩) ?_ ?_
    · intro k a ha
      rw [ev, List.getElem?_map] at ha
      obtain ⟨m, hm, rfl⟩ := Option.map_eq_some_iff.1 ha
      have hmem := List.mem_of_getElem? hm
      have hml := Hm.out m hmem
      have hq := hbt m hmem
      have hsucc := Hid.mk (accL_succ (f := bstep l) (a0 := 0) hm)
      have hak := hac k
      clear ha hm hac hbt Hf ev ok q hi hb hok
      refine ⟨_, rfl, fun hh g1 g2 g3 => ?_⟩
      unfold c_demand_Block_l0
      (repeat' (first | (with_reducible refine A1 (fun _ => ?_) (fun _ => ?_) <;> try (exfalso; omega)) | (with_reducible refine A2 (fun _ => ?_) (fun _ => ?_) <;> try (exfalso; omega)) | (with_reducible refine A3 (fun _ => ?_) (fun _ => ?_) <;> try (exfalso; omega)) | refine A4 (fun _ => ?_) (fun _ => ?_) | refine A5 (fun _ => ?_) (fun _ => ?_) | refine A6 (fun _ => ?_) (fun _ => ?_) | simp -dsimp (disch := omega) only [↓EA, EB, Nat.reduceEqDiff, Nat.reduceAdd, Nat.reduceLeDiff, Nat.reduceMul, ↓reduceIte, reduceCtorEq, newCells, bslV, eq_self, *]))
      refine ⟨[], (List.append_nil _).symm, fun hh2 k1 k2 k3 => ?_⟩
      have hp2 : Pre h hh2 := fun b o hb => by
        have hlt := (List.getElem?_eq_some_iff.1 hb).1
        rw [k3 b (by omega) (by omega)]; exact hpH b o hb
      have hl2 := hl.pre hp2
      have b1 : hh2[h.length]? = some (.cells [vl] false) := by rw [k3 h.length (by omega) (by omega), geta0]; rfl
      generalize accL (bstep l) 0 es k = A at *
      have Hb := Hid.mk (show bstep l A m = max A ((atI l (m : Int)).Q - 1) from rfl)
      unfold c_demand_Block_l1
      (repeat' (first | (with_reducible refine A1 (fun _ => ?_) (fun _ => ?_) <;> try (exfalso; omega)) | (with_reducible refine A2 (fun _ => ?_) (fun _ => ?_) <;> try (exfalso; omega)) | (with_reducible refine A3 (fun _ => ?_) (fun _ => ?_) <;> try (exfalso; omega)) | refine A4 (fun _ => ?_) (fun _ => ?_) | refine A5 (fun _ => ?_) (fun _ => ?_) | refine A6 (fun _ => ?_) (fun _ => ?_) | simp -dsimp (disch := omega) only [↓EA, EB, Nat.reduceEqDiff, Nat.reduceAdd, Nat.reduceLeDiff, Nat.reduceMul, ↓reduceIte, reduceCtorEq, newCells, bslV, eq_self, *, hl2.len, hl2.ixs, hl2.ld, hl2.ld0, hl2.lda, hl2.ldx, hl2.ldx0, hl2.ldxa, encT, true_or]))
      exact ⟨[], by rw [List.append_nil, hsucc.out, Hb.out]⟩
    · rw [ev, List.length_map, Hf.out]
      clear Hf hac hbt ev
      (repeat' (first | (with_reducible refine A1 (fun _ => ?_) (fun _ => ?_) <;> try (exfalso; omega)) | (with_reducible refine A2 (fun _ => ?_) (fun _ => ?_) <;> try (exfalso; omega)) | (with_reducible refine A3 (fun _ => ?_) (fun _ => ?_) <;> try (exfalso; omega)) | refine A4 (fun _ => ?_) (fun _ => ?_) | refine A5 (fun _ => ?_) (fun _ => ?_) | refine A6 (fun _ => ?_) (fun _ => ?_) | simp -dsimp (disch := omega) only [↓EA, EB, Nat.reduceEqDiff, Nat.reduceAdd, Nat.reduceLeDiff, Nat.reduceMul, ↓reduceIte, reduceCtorEq, newCells, bslV, eq_self, *]))
def hstep (l : List Task) (w : Int) (a : Int) (m : Nat) : Int := sat (a + sat (oftenP (atI l (m : Int)) w * (atI l (m : Int)).C))
theorem higher_fold (l : List Task) (i w : Int) : accL (hstep l w) 0 (placesQ (higherQ l i) l) (placesQ (higherQ l i) l).length = higherN l i w l.length := by
  rw [accL_all]
  exact fold_those (higherN l i w) rfl (fun k => by show (if _ then _ else _) = _; simp only [higherQ, decide_eq_true_eq]; rfl) _
theorem higherD (hE : Laid E) (hX : LaidAdd E) (hZ : LaidTz E G) {h : Heap} (ht : Tab G h) {vl : Value} {l : List Task} (hl : Rd 7 encT h vl l) (hs : ∀ t ∈ l, t.name.size < 1152921504606846976) (i : Int) {w : Int} (hw : u64in w) :
    callW E (.func (.func n_demand_Higher) #[] #[]) [vl, .int .i64 i, .int .u64 w] h = some (.int .u64 (higherP l i w), h, []) := by
  have hi := fun x => isDem hE (hl.app x) hs i
  have hc := hl.cv
  have ho := hl.one
  refine fn_same hE.demand_Higher rfl (by simp) ?_
  simp only [argsF]
  have hw2 := hw
  unfold u64in at hw2
  unfold higherP
  by_cases hw0 : w = 0
  · subst hw0
    rw [if_neg (by omega)]
    (repeat' (first | (with_reducible refine A1 (fun _ => ?_) (fun _ => ?_) <;> try (exfalso; omega)) | (with_reducible refine A2 (fun _ => ?_) (fun _ => ?_) <;> try (exfalso; omega)) | (with_reducible refine A3 (fun _ => ?_) (fun _ => ?_) <;> try (exfalso; omega)) | refine A4 (fun _ => ?_) (fun _ => ?_) | refine A5 (fun _ => ?_) (fun _ => ?_) | refine A6 (fun _ => ?_) (fun _ => ?_) | simp -dsimp (disch := omega) only [↓EA, EB, Nat.reduceEqDiff, Nat.reduceAdd, Nat.reduceLeDiff, Nat.reduceMul, ↓reduceIte, reduceCtorEq, newCells, bslV, eq_self, *]))
  cases hb : isP l i
  · rw [hb] at hi
    rw [if_neg (by simp)]
    (repeat' (first | (with_reducible refine A1 (fun _ => ?_) (fun _ => ?_) <;> try (exfalso; omega)) | (with_reducible refine A2 (fun _ => ?_) (fun _ => ?_) <;> try (exfalso; omega)) | (with_reducible refine A3 (fun _ => ?_) (fun _ => ?_) <;> try (exfalso; omega)) | refine A4 (fun _ => ?_) (fun _ => ?_) | refine A5 (fun _ => ?_) (fun _ => ?_) | refine A6 (fun _ => ?_) (fun _ => ?_) | simp -dsimp (disch := omega) only [↓EA, EB, Nat.reduceEqDiff, Nat.reduceAdd, Nat.reduceLeDiff, Nat.reduceMul, ↓reduceIte, reduceCtorEq, newCells, bslV, eq_self, *]))
  · rw [hb] at hi
    obtain ⟨hi2, hlen, hok⟩ := isP_ok hb
    have q := fun x => higherT hE (hl.app x) hi2 hlen
    have ok := thoseW_ok (higherQ l i) l l.length
    have ev := elems_places (higherQ l i) hlen
    have Hf := Hid.mk (higher_fold l i w)
    have Hm := Hid.mk (fun m (h : m ∈ placesQ (higherQ l i) l) => mem_places h)
    generalize placesQ (higherQ l i) l = es at *
    generalize thoseW (higherQ l i) l l.length = wm at *
    rw [if_pos ⟨rfl, by omega⟩]
    (repeat' (first | (with_reducible refine A1 (fun _ => ?_) (fun _ => ?_) <;> try (exfalso; omega)) | (with_reducible refine A2 (fun _ => ?_) (fun _ => ?_) <;> try (exfalso; omega)) | (with_reducible refine A3 (fun _ => ?_) (fun _ => ?_) <;> try (exfalso; omega)) | refine A4 (fun _ => ?_) (fun _ => ?_) | refine A5 (fun _ => ?_) (fun _ => ?_) | refine A6 (fun _ => ?_) (fun _ => ?_) | simp -dsimp (disch := omega) only [↓EA, EB, Nat.reduceEqDiff, Nat.reduceAdd, Nat.reduceLeDiff, Nat.reduceMul, ↓reduceIte, reduceCtorEq, newCells, bslV, eq_self, *]))
    refine wx_new (allS hE _ ok) fun v ys hr hpre => ?_
    obtain ⟨bx, rfl, hge, hbx⟩ := hr
    (repeat' (first | (with_reducible refine A1 (fun _ => ?_) (fun _ => ?_) <;> try (exfalso; omega)) | (with_reducible refine A2 (fun _ => ?_) (fun _ => ?_) <;> try (exfalso; omega)) | (with_reducible refine A3 (fun _ => ?_) (fun _ => ?_) <;> try (exfalso; omega)) | refine A4 (fun _ => ?_) (fun _ => ?_) | refine A5 (fun _ => ?_) (fun _ => ?_) | refine A6 (fun _ => ?_) (fun _ => ?_) | simp -dsimp (disch := omega) only [↓EA, EB, Nat.reduceEqDiff, Nat.reduceAdd, Nat.reduceLeDiff, Nat.reduceMul, ↓reduceIte, reduceCtorEq, newCells, bslV, eq_self, *]))
    simp only [List.append_assoc, List.cons_append, List.nil_append, List.length_append, List.length_cons, List.length_nil] at hbx hge
    have hbxl := (List.getElem?_eq_some_iff.1 hbx).1
    have hpH : Pre h (h ++ LObj.cells [vl] false :: LObj.cells [Value.int IntKind.u64 w] false :: LObj.cells [Value.int IntKind.u64 0] false :: ys) := Pre.app h _
    have hbt : ∀ m, m ∈ es → okTask (atI l (m : Int)) := fun m hm => by
      have hml := Hm.out m hm
      exact hok _ (atI_mem (l := l) (i := (m : Int)) (by omega) (by omega))
    have hac : ∀ k, u64in (accL (hstep l w) 0 es k) := accL_ind u64in ⟨by decide, by decide⟩ (fun a m hm ha => by
      have htk := hbt m hm
      have h1 := (often_in htk hw).2
      have h2 := (ofBounds htk).1
      have h3 := sat_in (Int.mul_nonneg h1.1 (show 0 ≤ (atI l (m : Int)).C by omega))
      exact sat_in (by have := ha.1; have := h3.1; omega))
    refine co_iter1 hE.keep rfl (all_iter hE hZ ok bx) (c := h.length + 2) (by simp) (by omega) (fun k => .int .u64 (accL (hstep l w) 0 es k)) (fun _ => rfl) (by rw [geta]; rfl) rfl (fun hh e1 e2 => ⟨by rw [e2 bx hbxl (by omega)]; exact hbx, ht.pre fun b o hb => by have hlt := (List.getElem?_eq_some_iff.1 hb).1; rw [e2 b (by simp; omega) (by omega)]; exact hpH b o hb⟩) ?_ ?_
    · intro k a ha
      rw [ev, List.getElem?_map] at ha
      obtain ⟨m, hm, rfl⟩ := Option.map_eq_some_iff.1 ha
      have hmem := List.mem_of_getElem? hm
      have hml := Hm.out m hmem
      have hq := hbt m hmem
      have hsucc := Hid.mk (accL_succ (f := hstep l w) (a0 := 0) hm)
      have hak := hac k
      clear ha hm hac hbt Hf ev ok q hi hb hok
      refine ⟨_, rfl, fun hh g1 g2 g3 => ?_⟩
      unfold c_demand_Higher_l0
      (repeat' (first | (with_reducible refine A1 (fun _ => ?_) (fun _ => ?_) <;> try (exfalso; omega)) | (with_reducible refine A2 (fun _ => ?_) (fun _ => ?_) <;> try (exfalso; omega)) | (with_reducible refine A3 (fun _ => ?_) (fun _ => ?_) <;> try (exfalso; omega)) | refine A4 (fun _ => ?_) (fun _ => ?_) | refine A5 (fun _ => ?_) (fun _ => ?_) | refine A6 (fun _ => ?_) (fun _ => ?_) | simp -dsimp (disch := omega) only [↓EA, EB, Nat.reduceEqDiff, Nat.reduceAdd, Nat.reduceLeDiff, Nat.reduceMul, ↓reduceIte, reduceCtorEq, newCells, bslV, eq_self, *]))
      refine ⟨[], (List.append_nil _).symm, fun hh2 k1 k2 k3 => ?_⟩
      have hp2 : Pre h hh2 := fun b o hb => by
        have hlt := (List.getElem?_eq_some_iff.1 hb).1
        rw [k3 b (by omega) (by omega)]; exact hpH b o hb
      have hl2 := hl.pre hp2
      have b1 : hh2[h.length]? = some (.cells [vl] false) := by rw [k3 h.length (by omega) (by omega), geta0]; rfl
      have b2 : hh2[h.length + 1]? = some (.cells [.int .u64 w] false) := by rw [k3 (h.length + 1) (by omega) (by omega), geta]; rfl
      obtain ⟨hC, hT, hJ⟩ := ofBounds hq
      have q1 := fun x => often13 hE hX (hh2 ++ x) hq hw
      have o2 := (often_in hq hw).2
      have hcu : u64in (atI l (m : Int)).C := by unfold u64in; omega
      have q2 := fun x => numTimes hE (hh2 ++ x) o2 hcu
      have hsi := sat_in (Int.mul_nonneg o2.1 hcu.1)
      generalize accL (hstep l w) 0 es k = A at *
      have Hb := Hid.mk (show hstep l w A m = sat (A + sat (oftenP (atI l (m : Int)) w * (atI l (m : Int)).C)) from rfl)
      generalize oftenP (atI l (m : Int)) w = O at *
      generalize sat (O * (atI l (m : Int)).C) = S at *
      have q3 := numSum hE hX (h := hh2 ++ [LObj.cells [.int .u64 S] false]) (vl := .slice (some ⟨hh2.length, 0, none⟩) 1 1) (l := [S]) (Rd.lit (enc := encU) [S] (by rw [geta0]; rfl) rfl (fun _ => rfl) (by simp) (by simp) (.inl rfl)) hak (fun x hx => by rw [List.mem_singleton.1 hx]; exact hsi)
      have e3 : sumU A [S] = sat (A + S) := rfl
      rw [e3] at q3
      have k1a : h.length + 3 ≤ hh2.length := by omega
      have k1b : h.length + (ys.length + 3) < hh2.length := by omega
      clear k1 hq hw hcu hak hsi o2 hpre g1 g2 g3 k3
      simp only [encT] at q1
      have b1x : ∀ x, (hh2 ++ x)[h.length]? = some (.cells [vl] false) := fun x => by rw [List.getElem?_append_left (by omega)]; exact b1
      have b2x : ∀ x, (hh2 ++ x)[h.length + 1]? = some (.cells [.int .u64 w] false) := fun x => by rw [List.getElem?_append_left (by omega)]; exact b2
      have b3x : ∀ x, (hh2 ++ x)[h.length + 2]? = some (.cells [.int .u64 A] false) := fun x => by rw [List.getElem?_append_left (by omega)]; exact k2
      have b4x : ∀ x o, (hh2 ++ x).set (h.length + 2) o = hh2.set (h.length + 2) o ++ x := fun x o => by rw [List.set_append_left _ _ (by omega)]
      rw [List.append_nil]
      unfold c_demand_Higher_l1
      (repeat' (first | (with_reducible refine A1 (fun _ => ?_) (fun _ => ?_) <;> try (exfalso; omega)) | (with_reducible refine A2 (fun _ => ?_) (fun _ => ?_) <;> try (exfalso; omega)) | (with_reducible refine A3 (fun _ => ?_) (fun _ => ?_) <;> try (exfalso; omega)) | refine A4 (fun _ => ?_) (fun _ => ?_) | refine A5 (fun _ => ?_) (fun _ => ?_) | refine A6 (fun _ => ?_) (fun _ => ?_) | simp -dsimp (disch := omega) only [↓EA, EB, Nat.reduceEqDiff, Nat.reduceAdd, Nat.reduceLeDiff, Nat.reduceMul, ↓reduceIte, reduceCtorEq, newCells, bslV, eq_self, *, hl2.len, hl2.ixs, hl2.ld, hl2.ld0, hl2.lda, hl2.ldx, hl2.ldx0, hl2.ldxa, encT, true_or, WL_ptr, b1x, b2x, b3x, b4x]))
      exact ⟨_, by rw [hsucc.out, Hb.out]⟩
    · rw [ev, List.length_map, Hf.out]
      clear Hf hac hbt ev
      (repeat' (first | (with_reducible refine A1 (fun _ => ?_) (fun _ => ?_) <;> try (exfalso; omega)) | (with_reducible refine A2 (fun _ => ?_) (fun _ => ?_) <;> try (exfalso; omega)) | (with_reducible refine A3 (fun _ => ?_) (fun _ => ?_) <;> try (exfalso; omega)) | refine A4 (fun _ => ?_) (fun _ => ?_) | refine A5 (fun _ => ?_) (fun _ => ?_) | refine A6 (fun _ => ?_) (fun _ => ?_) | simp -dsimp (disch := omega) only [↓EA, EB, Nat.reduceEqDiff, Nat.reduceAdd, Nat.reduceLeDiff, Nat.reduceMul, ↓reduceIte, reduceCtorEq, newCells, bslV, eq_self, *]))
theorem needD (hE : Laid E) (hX : LaidAdd E) (hZ : LaidTz E G) {h : Heap} (ht : Tab G h) {vl : Value} {l : List Task} (hl : Rd 7 encT h vl l) (hs : ∀ t ∈ l, t.name.size < 1152921504606846976) (i : Int) {w : Int} (hw : u64in w) :
    callW E (.func (.func n_demand_Need) #[] #[]) [vl, .int .i64 i, .int .u64 w] h = some (.int .u64 (needP l i w), h, []) := by
  have hi := isDem hE hl hs i
  refine fn_same hE.demand_Need rfl (by simp) ?_
  simp only [argsF]
  unfold needP
  cases hb : isP l i
  · rw [hb] at hi
    (repeat' (first | (with_reducible refine A1 (fun _ => ?_) (fun _ => ?_) <;> try (exfalso; omega)) | (with_reducible refine A2 (fun _ => ?_) (fun _ => ?_) <;> try (exfalso; omega)) | (with_reducible refine A3 (fun _ => ?_) (fun _ => ?_) <;> try (exfalso; omega)) | refine A4 (fun _ => ?_) (fun _ => ?_) | refine A5 (fun _ => ?_) (fun _ => ?_) | refine A6 (fun _ => ?_) (fun _ => ?_) | simp -dsimp (disch := omega) only [↓EA, EB, Nat.reduceEqDiff, Nat.reduceAdd, Nat.reduceLeDiff, Nat.reduceMul, ↓reduceIte, reduceCtorEq, newCells, bslV, eq_self, *]))
  · rw [hb] at hi
    have q1 := fun x => blockD hE hZ (ht.app x) (hl.app x) hs i
    have q2 := fun x => higherD hE hX hZ (ht.app x) (hl.app x) hs i hw
    obtain ⟨hi2, hlen, hok⟩ := isP_ok hb
    have htk := hok _ (atI_mem hi2.1 hi2.2)
    obtain ⟨hC, hT, hJ⟩ := ofBounds htk
    have hbi := blockP_in hb
    have hhi : u64in (higherP l i w) := higherP_in hw
    clear hb htk hok
    generalize blockP l i = B at *
    generalize higherP l i w = Hi at *
    have q3 := numSum hE hX (h := h ++ [LObj.cells [.int .u64 B, .int .u64 Hi] false]) (vl := .slice (some ⟨h.length, 0, none⟩) 2 2) (l := [B, Hi]) (Rd.lit (enc := encU) [B, Hi] (by rw [geta0]; rfl) rfl (fun _ => rfl) (by simp) (by simp) (.inl rfl)) (s := (atI l i).C) (by unfold u64in; omega) (fun x hx => by
      simp only [List.mem_cons, List.not_mem_nil, or_false] at hx
      rcases hx with rfl | rfl
      · unfold u64in; omega
      · exact hhi)
    have e3 : sumU 0 [(atI l i).C, B, Hi] = sumU (atI l i).C [B, Hi] := by
      show sat (sat (sat (0 + (atI l i).C) + B) + Hi) = sat (sat ((atI l i).C + B) + Hi)
      have : sat (0 + (atI l i).C) = (atI l i).C := by unfold sat; rw [if_pos (by omega)]; omega
      rw [this]
    rw [if_pos rfl, e3]
    have hblk : blk vl < h.length := hl.lt' (by
      rintro rfl
      have := hl.len
      simp only [lens_slice, Option.some.injEq, Value.int.injEq, true_and] at this
      omega)
    generalize sumU (atI l i).C [B, Hi] = S at *
    clear hhi hw e3
    (repeat' (first | (with_reducible refine A1 (fun _ => ?_) (fun _ => ?_) <;> try (exfalso; omega)) | (with_reducible refine A2 (fun _ => ?_) (fun _ => ?_) <;> try (exfalso; omega)) | (with_reducible refine A3 (fun _ => ?_) (fun _ => ?_) <;> try (exfalso; omega)) | refine A4 (fun _ => ?_) (fun _ => ?_) | refine A5 (fun _ => ?_) (fun _ => ?_) | refine A6 (fun _ => ?_) (fun _ => ?_) | simp -dsimp (disch := omega) only [↓EA, EB, Nat.reduceEqDiff, Nat.reduceAdd, Nat.reduceLeDiff, Nat.reduceMul, ↓reduceIte, reduceCtorEq, newCells, bslV, eq_self, *, hl.len, hl.ixs, hl.ld, hl.ld0, hl.lda, hl.ldx, hl.ldx0, hl.ldxa, encT, true_or, WL_ptr]))
end Go.L.Try
namespace Go.L.Try
open Go Go.L
variable {E : Env} {G : Nat}
theorem eachN_head (l : List Task) (i : Int) (n : Nat) (w : Int) : ∃ r, eachN l i n w = w :: r := by
  cases n with
  | zero => exact ⟨[], rfl⟩
  | succ n => unfold eachN; split <;> exact ⟨_, rfl⟩
def uV (w : Int) : List Value := [.int .u64 w]
theorem each_iter (hE : Laid E) (hX : LaidAdd E) (hZ : LaidTz E G) {vl : Value} {l : List Task} (hs : ∀ t ∈ l, t.name.size < 1152921504606846976) (i : Int) (b1 b2 : Nat) :
    IterOK E (.func (.func n_rta_Each_f1) #[] #[.pointer (some ⟨b1, 0, none⟩), .pointer (some ⟨b2, 0, none⟩)]) (fun h => (h[b1]? = some (.cells [vl] false) ∧ h[b2]? = some (.cells [.int .i64 i] false)) ∧ Rd 7 encT h vl l ∧ Tab G h) ((eachP l i).map uV) := by
  intro h1 L W J Stop hJ h0 hS step
  refine fn_eff hE.keep hE.rta_Each_f1 rfl (by simp) ?_
  obtain ⟨_, ⟨hb1, hb2⟩, hl, ht⟩ := hJ 0 h1 h0
  have hi := isRta hE hl hs i
  simp only [List.cons_append, List.nil_append, argsF]
  have HJ := Hid.mk hJ
  have HS := Hid.mk hS
  have Hst := Hid.mk step
  have H0 := Hid.mk h0
  clear hJ hS step h0
  cases hb : isP l i
  · rw [hb] at hi
    have e : eachP l i = [] := by unfold eachP; rw [hb]; rfl
    rw [e]
    have H0' := H0.out
    clear H0 HJ HS Hst
    have H0 := Hid.mk H0'
    clear H0'
    (repeat' (first | (with_reducible refine A1 (fun _ => ?_) (fun _ => ?_) <;> try (exfalso; omega)) | (with_reducible refine A2 (fun _ => ?_) (fun _ => ?_) <;> try (exfalso; omega)) | (with_reducible refine A3 (fun _ => ?_) (fun _ => ?_) <;> try (exfalso; omega)) | refine A4 (fun _ => ?_) (fun _ => ?_) | refine A5 (fun _ => ?_) (fun _ => ?_) | refine A6 (fun _ => ?_) (fun _ => ?_) | simp -dsimp (disch := omega) only [↓EA, EB, Nat.reduceEqDiff, Nat.reduceAdd, Nat.reduceLeDiff, Nat.reduceMul, ↓reduceIte, reduceCtorEq, newCells, bslV, eq_self, *]))
    exact .inl H0.out
  · rw [hb] at hi
    obtain ⟨hi2, hlen, hok⟩ := isP_ok hb
    have hm := mostP_in hb
    have htk := (hok _ (atI_mem hi2.1 hi2.2)).1
    simp only [rangesB] at htk
    have hD := htk.2.2.2.2.1
    have hJt := htk.2.2.2.2.2.2.1
    have hmd : mostP l i = (atI l i).D - (atI l i).J := rfl
    have z0 : u64in 0 := ⟨by decide, by decide⟩
    have q0 := needD hE hX hZ ht hl hs i z0
    obtain ⟨u0, u1⟩ := needP_in hb z0
    have u2 := needP_mono hb z0 u0.1
    have ev : eachP l i = eachN l i ((mostP l i).toNat + 1) (needP l i 0) := by unfold eachP; rw [hb]; rfl
    generalize hvals : (eachP l i).map uV = vals at *
    rw [ev] at hvals
    generalize hN0 : needP l i 0 = N0 at *
    have Hvals := Hid.mk hvals
    have Hmd := Hid.mk hmd
    have Hb := Hid.mk hb
    clear hok htk hvals ev hN0 hb
    generalize hmost : mostP l i = most at *
    (repeat' (first | (with_reducible refine A1 (fun _ => ?_) (fun _ => ?_) <;> try (exfalso; omega)) | (with_reducible refine A2 (fun _ => ?_) (fun _ => ?_) <;> try (exfalso; omega)) | (with_reducible refine A3 (fun _ => ?_) (fun _ => ?_) <;> try (exfalso; omega)) | refine A4 (fun _ => ?_) (fun _ => ?_) | refine A5 (fun _ => ?_) (fun _ => ?_) | refine A6 (fun _ => ?_) (fun _ => ?_) | simp -dsimp (disch := omega) only [↓EA, EB, Nat.reduceEqDiff, Nat.reduceAdd, Nat.reduceLeDiff, Nat.reduceMul, ↓reduceIte, reduceCtorEq, newCells, bslV, eq_self, *, hl.len, hl.ixs, hl.ld, hl.ld0, hl.lda, hl.ldx, hl.ldx0, hl.ldxa, encT]))
    rw [← Hmd.out]
    clear hmd
    refine WO.loop (α := List Int × Int) (fun s fr h' => J s.1.length h' ∧ get fr 0 = .func (.yield L) #[] #[] ∧ get fr 1 = .pointer (some ⟨b1, 0, none⟩) ∧ get fr 2 = .pointer (some ⟨b2, 0, none⟩) ∧ get fr 4 = .int .u64 most ∧ get fr 5 = .int .u64 s.2 ∧ u64in s.2 ∧ s.2 ≤ needP l i s.2 ∧ ∃ k, eachN l i (most.toNat + 1) N0 = s.1 ++ eachN l i k s.2 ∧ (most + 1 - s.2).toNat ≤ k) (fun s => (most + 1 - s.2).toNat) ?_ ([], N0) ⟨H0.out, rfl, rfl, rfl, rfl, rfl, u0, u2, most.toNat + 1, rfl, by simp only []; omega⟩
    rintro ⟨pre, w⟩ fr h' ⟨hj, g0, g1, g2, g4, g5, hu, hle, k, hk, hkb⟩
    dsimp only at hj hu hle hk hkb g5
    unfold c_rta_Each_f1_l0
    have Hhead := eachN_head l i k w
    obtain ⟨rest, hrest⟩ := Hhead
    have hv : vals[pre.length]? = some (uV w) := by
      rw [← Hvals.out, List.getElem?_map, hk, hrest, List.getElem?_append_right (Nat.le_refl _), Nat.sub_self]; rfl
    have hst := Hid.mk (Hst.out pre.length h' _ hv hj)
    have Hlen := Hid.mk (HJ.out pre.length h' hj).1
    have Hk := Hid.mk hk
    have Hj := Hid.mk hj
    have hstep : ∀ m, eachN l i (m + 1) w = if most < w ∨ needP l i w = w then [w] else w :: eachN l i m (needP l i w) := fun m => by rw [← hmost]; rfl
    have Hstep := Hid.mk hstep
    have hend : eachN l i k w = [w] → vals.length = pre.length + 1 := fun e => by rw [← Hvals.out, hk, e]; simp
    have Hend := Hid.mk hend
    have Hle := Hid.mk hle
    have hsing : most < w ∨ needP l i w = w → eachN l i k w = [w] := fun e => by
      cases k with
      | zero => rfl
      | succ m => rw [hstep, if_pos e]
    have Hsing := Hid.mk hsing
    have Hmost := Hid.mk hmost
    clear hk hv hj hstep hend hrest H0 q0 u0 u1 u2 hi hb1 hb2 hle hsing Hst hmost z0
    unfold uV at hst
    (repeat' (first | (with_reducible refine A1 (fun _ => ?_) (fun _ => ?_) <;> try (exfalso; omega)) | (with_reducible refine A2 (fun _ => ?_) (fun _ => ?_) <;> try (exfalso; omega)) | (with_reducible refine A3 (fun _ => ?_) (fun _ => ?_) <;> try (exfalso; omega)) | refine A4 (fun _ => ?_) (fun _ => ?_) | refine A5 (fun _ => ?_) (fun _ => ?_) | refine A6 (fun _ => ?_) (fun _ => ?_) | simp -dsimp (disch := omega) only [↓EA, EB, Nat.reduceEqDiff, Nat.reduceAdd, Nat.reduceLeDiff, Nat.reduceMul, ↓reduceIte, reduceCtorEq, newCells, bslV, eq_self, *]))
    refine WX.mono hst.out (fun b h => h) fun v h2 hx => ?_
    rcases hx with ⟨rfl, hj2⟩ | ⟨rfl, hs2⟩
    · obtain ⟨hlen2, ⟨c1, c2⟩, hl2, ht2⟩ := HJ.out (pre.length + 1) h2 hj2
      have q := needD hE hX hZ ht2 hl2 hs i hu
      obtain ⟨n0, _⟩ := needP_in Hb.out hu
      have n1 := needP_mono Hb.out hu Hle.out
      have Hj2 := Hid.mk hj2
      have Hn1 := Hid.mk n1
      have Hlen2 := Hid.mk hlen2
      have Hn0 := Hid.mk n0
      have Hu := Hid.mk hu
      clear hj2 hst n1 hlen2 hl2 ht2
      generalize hN : needP l i w = N at *
      have HN := Hid.mk hN
      clear hN
      unfold u64in at hu n0
      have e2 : vals.length = pre.length + 1 → J vals.length h2 := fun e => by rw [e]; exact Hj2.out
      have E2 := Hid.mk e2
      clear e2
      (repeat' (first | (with_reducible refine A1 (fun _ => ?_) (fun _ => ?_) <;> try (exfalso; omega)) | (with_reducible refine A2 (fun _ => ?_) (fun _ => ?_) <;> try (exfalso; omega)) | (with_reducible refine A3 (fun _ => ?_) (fun _ => ?_) <;> try (exfalso; omega)) | refine A4 (fun _ => ?_) (fun _ => ?_) | refine A5 (fun _ => ?_) (fun _ => ?_) | refine A6 (fun _ => ?_) (fun _ => ?_) | simp -dsimp (disch := omega) only [↓EA, EB, Nat.reduceEqDiff, Nat.reduceAdd, Nat.reduceLeDiff, Nat.reduceMul, ↓reduceIte, reduceCtorEq, newCells, bslV, eq_self, *]))
      · exact ⟨Hlen2.out, .inl (E2.out (Hend.out (Hsing.out (.inr (by assumption)))))⟩
      · obtain ⟨k', rfl⟩ : ∃ k', k = k' + 1 := ⟨k - 1, by omega⟩
        have hlt := Hle.out
        refine Next.mk (pre ++ [w], N) ⟨by simpa using Hj2.out, rfl, rfl, rfl, rfl, rfl, Hn0.out, Hn1.out, k', ?_, by simp only []; omega⟩ (by simp only []; omega)
        rw [Hk.out, Hstep.out, if_neg (by omega)]; simp
      · exact ⟨Hlen2.out, .inl (E2.out (Hend.out (Hsing.out (.inl (by omega)))))⟩
    · have Hs2 := Hid.mk hs2
      clear hs2 hst
      (repeat' (first | (with_reducible refine A1 (fun _ => ?_) (fun _ => ?_) <;> try (exfalso; omega)) | (with_reducible refine A2 (fun _ => ?_) (fun _ => ?_) <;> try (exfalso; omega)) | (with_reducible refine A3 (fun _ => ?_) (fun _ => ?_) <;> try (exfalso; omega)) | refine A4 (fun _ => ?_) (fun _ => ?_) | refine A5 (fun _ => ?_) (fun _ => ?_) | refine A6 (fun _ => ?_) (fun _ => ?_) | simp -dsimp (disch := omega) only [↓EA, EB, Nat.reduceEqDiff, Nat.reduceAdd, Nat.reduceLeDiff, Nat.reduceMul, ↓reduceIte, reduceCtorEq, newCells, bslV, eq_self, *]))
      first
        | exact ⟨HS.out _ Hs2.out, .inr Hs2.out⟩
        | exact .inr Hs2.out
def EachV (m : Nat) (vl : Value) (l : List Task) (i : Int) : Heap → Value → Prop := Clo2 m n_rta_Each_f1 (fun h v => v = vl ∧ Rd 7 encT h vl l) (fun _ v => v = .int .i64 i)
theorem eachS (hE : Laid E) {h : Heap} {vl : Value} {l : List Task} (hl : Rd 7 encT h vl l) (i : Int) :
    ∃ v ys, callW E (.func (.func n_rta_Each) #[] #[]) [vl, .int .i64 i] h = some (v, h ++ ys, []) ∧ EachV h.length vl l i (h ++ ys) v := by
  refine fn_new hE.rta_Each rfl (Clo2.movable (hl.old_movable flatT) (movable_eq rfl)) (by simp) ?_
  have hc := hl.cv
  have ho := hl.one
  simp only [argsF]
  (repeat' (first | (with_reducible refine A1 (fun _ => ?_) (fun _ => ?_) <;> try (exfalso; omega)) | (with_reducible refine A2 (fun _ => ?_) (fun _ => ?_) <;> try (exfalso; omega)) | (with_reducible refine A3 (fun _ => ?_) (fun _ => ?_) <;> try (exfalso; omega)) | refine A4 (fun _ => ?_) (fun _ => ?_) | refine A5 (fun _ => ?_) (fun _ => ?_) | refine A6 (fun _ => ?_) (fun _ => ?_) | simp -dsimp (disch := omega) only [↓EA, EB, Nat.reduceEqDiff, Nat.reduceAdd, Nat.reduceLeDiff, Nat.reduceMul, ↓reduceIte, reduceCtorEq, newCells, bslV, eq_self, *]))
  exact ⟨⟨_, rfl⟩, _, _, _, _, rfl, ⟨Nat.le_refl _, by omega⟩, ⟨by rw [geta0]; rfl, by rw [geta]; rfl⟩, ⟨rfl, hl.app _⟩, rfl⟩
def lastK (es : List Int) (k : Nat) : Int := if k = 0 then 0 else es.getD (k - 1) 0
theorem lastK_succ {es : List Int} {k : Nat} {w : Int} (h : es[k]? = some w) : lastK es (k + 1) = w := by
  unfold lastK
  rw [if_neg (by omega), Nat.add_sub_cancel, List.getD_eq_getElem?_getD, h]; rfl
theorem least_none {l : List Task} {i : Int} : ∀ (n : Nat) (w : Int), (∀ v, w ≤ v → v < w + n → v < needP l i v) → leastN l i n w = none
  | 0, _, _ => rfl
  | n + 1, w, h => by
    have h1 := h w (Int.le_refl _) (by omega)
    unfold leastN
    rw [if_neg (by omega)]
    exact least_none n (w + 1) fun v a b => h v (by omega) (by omega)
theorem least_some {l : List Task} {i w0 : Int} (hw : needP l i w0 ≤ w0) : ∀ (n : Nat) (w : Int), w ≤ w0 → w0 < w + n → (∀ v, w ≤ v → v < w0 → v < needP l i v) → leastN l i n w = some w0
  | 0, w, h1, h2, _ => by omega
  | n + 1, w, h1, h2, h => by
    unfold leastN
    by_cases e : w = w0
    · subst e; rw [if_pos hw]
    · have := h w (Int.le_refl _) (by omega)
      rw [if_neg (by omega)]
      exact least_some hw n (w + 1) (by omega) (by omega) fun v a b => h v (by omega) b
theorem eachN_last {l : List Task} {i : Int} (hb : isP l i = true) : ∀ (n : Nat) (w : Int), (mostP l i + 1 - w).toNat ≤ n → u64in w → 1 ≤ w → w ≤ needP l i w → (∀ v, 1 ≤ v → v < w → v < needP l i v) →
    ∃ z, (eachN l i n w).getLast? = some z ∧ u64in z ∧ 1 ≤ z ∧ (z ≤ mostP l i → needP l i z = z) ∧ ∀ v, 1 ≤ v → v < z → v < needP l i v
  | 0, w, hn, hu, h1, hle, hv => ⟨w, rfl, hu, h1, fun h => by omega, hv⟩
  | n + 1, w, hn, hu, h1, hle, hv => by
    unfold eachN
    by_cases h : mostP l i < w ∨ needP l i w = w
    · rw [if_pos h]
      exact ⟨w, rfl, hu, h1, fun hz => by rcases h with h | h; omega; exact h, hv⟩
    · rw [if_neg h]
      have h2 := (needP_in hb hu).1
      obtain ⟨z, e, hz⟩ := eachN_last hb n (needP l i w) (by omega) h2 (by omega) (needP_mono hb hu hle) (fun v a b => by
        rcases Int.lt_or_le v w with hc | hc
        · exact hv v a hc
        · have := needP_mono hb hu hc; omega)
      refine ⟨z, ?_, hz⟩
      obtain ⟨r, er⟩ := eachN_head l i n (needP l i w)
      rw [er] at e ⊢
      rw [List.getLast?_cons_cons]; exact e
theorem eachP_last {l : List Task} {i : Int} (hb : isP l i = true) : ∃ z, (eachP l i).getLast? = some z ∧ u64in z ∧ 1 ≤ z ∧ (z ≤ mostP l i → leastP l i = some z) ∧ (mostP l i < z → leastP l i = none) := by
  have z0 : u64in 0 := ⟨by decide, by decide⟩
  obtain ⟨u0, u1⟩ := needP_in hb z0
  have hm := mostP_in hb
  obtain ⟨z, h1, h2, h3, h4, h5⟩ := eachN_last hb ((mostP l i).toNat + 1) (needP l i 0) (by omega) u0 u1 (needP_mono hb z0 u0.1) (fun v a b => by have := needP_mono hb z0 (show 0 ≤ v by omega); omega)
  have ev : eachP l i = eachN l i ((mostP l i).toNat + 1) (needP l i 0) := by unfold eachP; rw [hb]; rfl
  rw [ev]
  refine ⟨z, h1, h2, h3, fun hz => ?_, fun hz => ?_⟩
  · have := h4 hz
    exact least_some (by omega) _ _ h3 (by omega) h5
  · exact least_none _ _ fun v a b => h5 v a (by omega)
theorem lastK_all {es : List Int} {z : Int} (h : es.getLast? = some z) : lastK es es.length = z := by
  rw [List.getLast?_eq_getElem?] at h
  have hlt := (List.getElem?_eq_some_iff.1 h).1
  obtain ⟨k, hk⟩ : ∃ k, es.length = k + 1 := ⟨es.length - 1, by omega⟩
  rw [hk] at h ⊢
  exact lastK_succ h
theorem boundS (hE : Laid E) (hX : LaidAdd E) (hZ : LaidTz E G) {h : Heap} (ht : Tab G h) {vl : Value} {l : List Task} (hl : Rd 7 encT h vl l) (hs : ∀ t ∈ l, t.name.size < 1152921504606846976) (i : Int) :
    callW E (.func (.func n_rta_Bound) #[] #[]) [vl, .int .i64 i] h = some (.tuple #[.int .i64 (boundP l i).1, .int .i64 (boundP l i).2], h, []) := by
  have hi := isRta hE hl hs i
  refine fn_same hE.rta_Bound rfl (by simp) ?_
  simp only [argsF]
  unfold boundP
  cases hb : isP l i
  · rw [hb] at hi
    rw [if_neg (by decide)]
    (repeat' (first | (with_reducible refine A1 (fun _ => ?_) (fun _ => ?_) <;> try (exfalso; omega)) | (with_reducible refine A2 (fun _ => ?_) (fun _ => ?_) <;> try (exfalso; omega)) | (with_reducible refine A3 (fun _ => ?_) (fun _ => ?_) <;> try (exfalso; omega)) | refine A4 (fun _ => ?_) (fun _ => ?_) | refine A5 (fun _ => ?_) (fun _ => ?_) | refine A6 (fun _ => ?_) (fun _ => ?_) | simp -dsimp (disch := omega) only [↓EA, EB, Nat.reduceEqDiff, Nat.reduceAdd, Nat.reduceLeDiff, Nat.reduceMul, ↓reduceIte, reduceCtorEq, newCells, bslV, eq_self, *]))
  · rw [hb] at hi
    rw [if_pos rfl]
    obtain ⟨hi2, hlen, hok⟩ := isP_ok hb
    have hm := mostP_in hb
    have htk := (hok _ (atI_mem hi2.1 hi2.2)).1
    simp only [rangesB] at htk
    have hD := htk.2.2.2.2.1
    have hJt := htk.2.2.2.2.2.2.1
    have hmd : mostP l i = (atI l i).D - (atI l i).J := rfl
    obtain ⟨z, z1, z2, z3, z4, z5⟩ := eachP_last hb
    have Hz := Hid.mk (lastK_all z1)
    have Z4 := Hid.mk z4
    have Z5 := Hid.mk z5
    clear hok htk z1 z4 z5
    (repeat' (first | (with_reducible refine A1 (fun _ => ?_) (fun _ => ?_) <;> try (exfalso; omega)) | (with_reducible refine A2 (fun _ => ?_) (fun _ => ?_) <;> try (exfalso; omega)) | (with_reducible refine A3 (fun _ => ?_) (fun _ => ?_) <;> try (exfalso; omega)) | refine A4 (fun _ => ?_) (fun _ => ?_) | refine A5 (fun _ => ?_) (fun _ => ?_) | refine A6 (fun _ => ?_) (fun _ => ?_) | simp -dsimp (disch := omega) only [↓EA, EB, Nat.reduceEqDiff, Nat.reduceAdd, Nat.reduceLeDiff, Nat.reduceMul, ↓reduceIte, reduceCtorEq, newCells, bslV, eq_self, *]))
    refine wx_new (eachS hE (hl.app _) i) fun v ys hr hpre => ?_
    obtain ⟨b1, b2, u1, u2, rfl, ⟨hg1, hg2⟩, ⟨hb1, hb2⟩, ⟨rfl, _⟩, rfl⟩ := hr
    (repeat' (first | (with_reducible refine A1 (fun _ => ?_) (fun _ => ?_) <;> try (exfalso; omega)) | (with_reducible refine A2 (fun _ => ?_) (fun _ => ?_) <;> try (exfalso; omega)) | (with_reducible refine A3 (fun _ => ?_) (fun _ => ?_) <;> try (exfalso; omega)) | refine A4 (fun _ => ?_) (fun _ => ?_) | refine A5 (fun _ => ?_) (fun _ => ?_) | refine A6 (fun _ => ?_) (fun _ => ?_) | simp -dsimp (disch := omega) only [↓EA, EB, Nat.reduceEqDiff, Nat.reduceAdd, Nat.reduceLeDiff, Nat.reduceMul, ↓reduceIte, reduceCtorEq, newCells, bslV, eq_self, *]))
    simp only [List.append_assoc, List.cons_append, List.nil_append, List.length_append, List.length_cons, List.length_nil] at hb1 hb2 hg1 hg2
    have hl1 := (List.getElem?_eq_some_iff.1 hb1).1
    have hl2 := (List.getElem?_eq_some_iff.1 hb2).1
    have hpH : Pre h (h ++ LObj.cells [Value.int IntKind.u64 0] false :: ys) := Pre.app h _
    refine co_iter1 hE.keep rfl (each_iter hE hX hZ hs i b1 b2) (c := h.length) (by simp) (by omega) (fun k => .int .u64 (lastK (eachP l i) k)) (fun _ => rfl) (by rw [geta0]; rfl) rfl (fun hh e1 e2 => ⟨⟨by rw [e2 b1 hl1 (by omega)]; exact hb1, by rw [e2 b2 hl2 (by omega)]; exact hb2⟩, ?_⟩) ?_ ?_
    · have hp2 : Pre h hh := fun b o hb => by have hlt := (List.getElem?_eq_some_iff.1 hb).1; rw [e2 b (by simp; omega) (by omega)]; exact hpH b o hb
      exact ⟨hl.pre hp2, ht.pre hp2⟩
    · intro k a ha
      rw [List.getElem?_map] at ha
      obtain ⟨w, hw, rfl⟩ := Option.map_eq_some_iff.1 ha
      have hsucc := Hid.mk (lastK_succ hw)
      clear ha hw
      refine ⟨_, rfl, fun hh g1 g2 g3 => ?_⟩
      unfold c_rta_Bound_l0
      (repeat' (first | (with_reducible refine A1 (fun _ => ?_) (fun _ => ?_) <;> try (exfalso; omega)) | (with_reducible refine A2 (fun _ => ?_) (fun _ => ?_) <;> try (exfalso; omega)) | (with_reducible refine A3 (fun _ => ?_) (fun _ => ?_) <;> try (exfalso; omega)) | refine A4 (fun _ => ?_) (fun _ => ?_) | refine A5 (fun _ => ?_) (fun _ => ?_) | refine A6 (fun _ => ?_) (fun _ => ?_) | simp -dsimp (disch := omega) only [↓EA, EB, Nat.reduceEqDiff, Nat.reduceAdd, Nat.reduceLeDiff, Nat.reduceMul, ↓reduceIte, reduceCtorEq, newCells, bslV, eq_self, *]))
      refine ⟨[], (List.append_nil _).symm, fun hh2 k1 k2 k3 => ?_⟩
      unfold c_rta_Bound_l1
      (repeat' (first | (with_reducible refine A1 (fun _ => ?_) (fun _ => ?_) <;> try (exfalso; omega)) | (with_reducible refine A2 (fun _ => ?_) (fun _ => ?_) <;> try (exfalso; omega)) | (with_reducible refine A3 (fun _ => ?_) (fun _ => ?_) <;> try (exfalso; omega)) | refine A4 (fun _ => ?_) (fun _ => ?_) | refine A5 (fun _ => ?_) (fun _ => ?_) | refine A6 (fun _ => ?_) (fun _ => ?_) | simp -dsimp (disch := omega) only [↓EA, EB, Nat.reduceEqDiff, Nat.reduceAdd, Nat.reduceLeDiff, Nat.reduceMul, ↓reduceIte, reduceCtorEq, newCells, bslV, eq_self, *, true_or]))
      exact ⟨[], by rw [List.append_nil, hsucc.out]⟩
    · rw [List.length_map, Hz.out]
      have hl2 := hl.app (LObj.cells [Value.int IntKind.u64 z] false :: ys)
      clear hb hpre hb1 hb2
      unfold u64in at z2
      (repeat' (first | (with_reducible refine A1 (fun _ => ?_) (fun _ => ?_) <;> try (exfalso; omega)) | (with_reducible refine A2 (fun _ => ?_) (fun _ => ?_) <;> try (exfalso; omega)) | (with_reducible refine A3 (fun _ => ?_) (fun _ => ?_) <;> try (exfalso; omega)) | refine A4 (fun _ => ?_) (fun _ => ?_) | refine A5 (fun _ => ?_) (fun _ => ?_) | refine A6 (fun _ => ?_) (fun _ => ?_) | simp -dsimp (disch := omega) only [↓EA, EB, Nat.reduceEqDiff, Nat.reduceAdd, Nat.reduceLeDiff, Nat.reduceMul, ↓reduceIte, reduceCtorEq, newCells, bslV, eq_self, *, hl2.len, hl2.ixs, hl2.ld, hl2.ld0, hl2.lda, hl2.ldx, hl2.ldx0, hl2.ldxa, encT]))
      · rw [Z5.out (by omega)]
      · rw [Z4.out (by omega)]
end Go.L.Try
namespace Go.L.Try
open Go Go.L
def validP (l : List Task) : Prop := (checkAllP l).2 = 0
instance (l : List Task) : Decidable (validP l) := inferInstanceAs (Decidable (_ = _))
theorem clash_iff (l : List Task) (i : Int) : ∀ k : Nat, clash l i k = false ↔ ∀ j : Nat, j < k → bs (atI l (j : Int)).name ≠ bs (atI l i).name ∧ (atI l (j : Int)).P ≠ (atI l i).P
  | 0 => by simp [clash]
  | k + 1 => by
    rw [clash, Bool.or_eq_false_iff, clash_iff l i k, decide_eq_false_iff_not]
    constructor
    · rintro ⟨h1, h2⟩ j hj
      rcases Nat.lt_or_ge j k with h | h
      · exact h1 j h
      · obtain rfl : j = k := by omega
        exact ⟨fun e => h2 (.inl e), fun e => h2 (.inr e)⟩
    · intro h
      exact ⟨fun j hj => h j (by omega), fun e => e.elim (h k (by omega)).1 (h k (by omega)).2⟩
theorem checkP_zero {t : Task} : checkP t = 0 ↔ okTask t := by
  unfold checkP okTask
  constructor
  · intro h
    split at h
    · split at h
      · exact ⟨‹_›, ‹_›⟩
      · cases h
    · cases h
  · rintro ⟨h1, h2⟩; rw [if_pos h1, if_pos h2]
theorem checkFrom_iff (l : List Task) : ∀ (n : Nat) (i : Nat), (checkFrom l n (i : Int)).2 = 0 ↔ ∀ j : Nat, j < n → okTask (atI l ((i + j : Nat) : Int)) ∧ clash l ((i + j : Nat) : Int) (i + j) = false
  | 0, i => by simp [checkFrom]
  | n + 1, i => by
    have ih := checkFrom_iff l n (i + 1)
    unfold checkFrom
    constructor
    · intro h j hj
      split at h
      · rename_i h1; exact absurd h h1
      · rename_i h1
        split at h
        · cases h
        · rename_i h2
          cases j with
          | zero => exact ⟨checkP_zero.1 (by simpa using h1), by simpa using h2⟩
          | succ j =>
            have := ih.1 (by simpa using h) j (by omega)
            rw [show i + (j + 1) = i + 1 + j by omega]; exact this
    · intro h
      have h0 := h 0 (by omega)
      simp only [Nat.add_zero] at h0
      rw [if_neg (by rw [checkP_zero.2 h0.1]; simp), show ((i : Int)).toNat = i by omega, h0.2]
      simp only [Bool.false_eq_true, if_false]
      have := ih.2 (fun j hj => by
        have := h (j + 1) (by omega)
        rw [show i + 1 + j = i + (j + 1) by omega]; exact this)
      simpa using this
theorem valid_iff {l : List Task} : validP l ↔ (1 ≤ l.length ∧ l.length ≤ 1024) ∧ (∀ t ∈ l, okTask t) ∧ ∀ j k : Nat, j < k → k < l.length → bs (atI l (j : Int)).name ≠ bs (atI l (k : Int)).name ∧ (atI l (j : Int)).P ≠ (atI l (k : Int)).P := by
  unfold validP checkAllP
  have hf := checkFrom_iff l l.length 0
  simp only [Nat.zero_add, Int.natCast_zero] at hf
  by_cases h : l.length = 0 ∨ 1024 < l.length
  · rw [if_pos h]
    constructor
    · intro e; cases e
    · intro ⟨h1, _⟩; omega
  · rw [if_neg h]
    have hf' : (checkFrom l l.length 0).2 = 0 ↔ _ := hf
    rw [hf']
    constructor
    · intro h1
      refine ⟨by omega, fun t ht => ?_, fun j k hj hk => ?_⟩
      · obtain ⟨j, hj, rfl⟩ := List.getElem_of_mem ht
        have := (h1 j hj).1
        rw [atI_nat hj] at this; exact this
      · exact (clash_iff l (k : Int) k).1 (h1 k hk).2 j hj
    · rintro ⟨_, h2, h3⟩ j hj
      refine ⟨h2 _ (atI_mem (by omega) (by omega)), (clash_iff l (j : Int) j).2 fun k hk => h3 k j hk hj⟩
theorem valid_ne {l : List Task} (hv : validP l) {j k : Nat} (hj : j < l.length) (hk : k < l.length) (hne : j ≠ k) : (atI l (j : Int)).P ≠ (atI l (k : Int)).P := by
  have h := (valid_iff.1 hv).2.2
  rcases Nat.lt_or_ge j k with h1 | h1
  · exact (h j k h1 hk).2
  · exact fun e => (h k j (by omega) hj).2 e.symm
theorem setPs_len (n turn : Int) (k : Nat) (L : List Task) : (setPs n turn k L).length = L.length := by simp [setPs]
theorem setP_len (l : List Spec) {most turn : Int} (hm : 1 ≤ most) : 0 < (setP l most turn).length ∧ ((setP l most turn).length : Int) ≤ most := by
  simp only [setP, setPs_len, List.length_mapIdx, List.length_take]
  split
  · simp; omega
  · rename_i hl
    have : 0 < l.length := List.length_pos_iff.2 hl
    omega
theorem setP_get {l : List Spec} {most turn : Int} {i : Nat} (hi : i < (setP l most turn).length) : ∃ s : Spec, (setP l most turn)[i] = { setTask i s with P := prio (setP l most turn).length turn i } := by
  unfold setP at hi ⊢
  dsimp only at hi ⊢
  generalize (if l = [] then [(⟨turn, 0, 0, 0, 0⟩ : Spec)] else l).take most.toNat = X at *
  have hx : i < X.length := by simpa [setPs] using hi
  refine ⟨X[i], ?_⟩
  have hi2 : i < (List.mapIdx setTask X).length := by simpa using hx
  simp only [setPs, List.getElem_mapIdx, List.length_mapIdx]
  rw [if_pos hx]
theorem prio_in {n turn : Int} (hn : 0 < n) (i : Nat) : 1 ≤ prio n turn i ∧ prio n turn i ≤ n := by
  unfold prio
  have := emod_in (i * turnsP n turn + turn % n) n hn
  omega
theorem emod_inj {n a b : Int} (ha : 0 ≤ a ∧ a < n) (hb : 0 ≤ b ∧ b < n) (h : n ∣ a - b) : a = b := by
  have := Int.emod_eq_emod_iff_emod_sub_eq_zero.2 (Int.emod_eq_zero_of_dvd h)
  rwa [Int.emod_eq_of_lt ha.1 ha.2, Int.emod_eq_of_lt hb.1 hb.2] at this
theorem prio_inj {n turn : Int} (hn : 0 < n) {i j : Nat} (hi : (i : Int) < n) (hj : (j : Int) < n) (h : prio n turn i = prio n turn j) : i = j := by
  unfold prio at h
  have h1 : ((i : Int) * turnsP n turn + turn % n) % n = ((j : Int) * turnsP n turn + turn % n) % n := by omega
  have h2 := Int.dvd_of_emod_eq_zero (Int.emod_eq_emod_iff_emod_sub_eq_zero.1 h1)
  have e : (i : Int) * turnsP n turn + turn % n - ((j : Int) * turnsP n turn + turn % n) = ((i : Int) - j) * turnsP n turn := by rw [Int.sub_mul]; omega
  rw [e] at h2
  have h3 : n ∣ (i : Int) - j := by
    unfold turnsP at h2
    split at h2
    · have h4 : n ∣ ((i : Int) - j) * n := Int.dvd_mul_left _ _
      have h5 := Int.dvd_sub h4 h2
      have e2 : ((i : Int) - j) * n - ((i : Int) - j) * (n - 1) = (i : Int) - j := by rw [← Int.mul_sub]; rw [show n - (n - 1) = 1 by omega, Int.mul_one]
      rwa [e2] at h5
    · rwa [Int.mul_one] at h2
  have := emod_inj (n := n) (by omega) (by omega) h3
  omega
theorem tname_word : ∀ i : Nat, i < 26 → wordB (tname i) = true ∧ (tname i).size = 2 := by decide +kernel
theorem tname_inj : ∀ i : Nat, i < 26 → ∀ j : Nat, j < 26 → bs (tname i) = bs (tname j) → i = j := by decide +kernel
theorem setTask_ok (i : Nat) (hi : i < 26) (s : Spec) {p : Int} (hp : 1 ≤ p ∧ p ≤ 26) : okTask { setTask i s with P := p } := by
  have h1 := emod_in s.C 4 (by decide)
  have h2 := emod_in s.D 11 (by decide)
  have h3 := emod_in s.T 7 (by decide)
  have h4 := emod_in s.J (1 + s.C % 4 + s.D % 11 - (1 + s.C % 4) + 1) (by omega)
  have h5 := emod_in s.Q (1 + s.C % 4) (by omega)
  obtain ⟨w1, w2⟩ := tname_word i hi
  refine ⟨⟨w1, by show (tname i).size ≤ 32; omega, ?_⟩, ?_⟩
  · simp only [setTask]; omega
  · simp only [fitsB, setTask]; omega
structure SmallT (t : Task) : Prop where
  name : t.name.size = 2
  C : 1 ≤ t.C ∧ t.C ≤ 4
  D : t.C ≤ t.D ∧ t.D ≤ 14
  J : 0 ≤ t.J ∧ t.C + t.J ≤ t.D
  Q : 1 ≤ t.Q ∧ t.Q ≤ t.C
  T : t.D ≤ t.T ∧ t.T ≤ 20
  P : 1 ≤ t.P ∧ t.P ≤ 26
theorem setP_small {l : List Spec} {most turn : Int} (hm : 1 ≤ most) (hm2 : most ≤ 26) {t : Task} (ht : t ∈ setP l most turn) : SmallT t := by
  obtain ⟨i, hi, rfl⟩ := List.getElem_of_mem ht
  obtain ⟨s, e⟩ := setP_get hi
  have hl := setP_len l (turn := turn) hm
  have hp := prio_in (n := (setP l most turn).length) (turn := turn) (by omega) i
  rw [e]
  have h1 := emod_in s.C 4 (by decide)
  have h2 := emod_in s.D 11 (by decide)
  have h3 := emod_in s.T 7 (by decide)
  have h4 := emod_in s.J (1 + s.C % 4 + s.D % 11 - (1 + s.C % 4) + 1) (by omega)
  have h5 := emod_in s.Q (1 + s.C % 4) (by omega)
  exact ⟨rfl, by simp only [setTask]; omega, by simp only [setTask]; omega, by simp only [setTask]; omega, by simp only [setTask]; omega, by simp only [setTask]; omega, by simp only [setTask]; omega⟩
theorem setP_valid (l : List Spec) {most : Int} (turn : Int) (hm : 1 ≤ most) (hm2 : most ≤ 26) : validP (setP l most turn) := by
  have hl := setP_len l (turn := turn) hm
  have hat : ∀ j : Nat, j < (setP l most turn).length → ∃ s : Spec, atI (setP l most turn) (j : Int) = { setTask j s with P := prio (setP l most turn).length turn j } := fun j hj => by
    rw [atI_nat hj]; exact setP_get hj
  refine valid_iff.2 ⟨by omega, fun t ht => ?_, fun j k hj hk => ?_⟩
  · obtain ⟨i, hi, rfl⟩ := List.getElem_of_mem ht
    obtain ⟨s, e⟩ := setP_get hi
    rw [e]
    have hp := prio_in (n := (setP l most turn).length) (turn := turn) (by omega) i
    exact setTask_ok i (by omega) s (by omega)
  · obtain ⟨s, e1⟩ := hat j (by omega)
    obtain ⟨u, e2⟩ := hat k hk
    rw [e1, e2]
    refine ⟨fun h => ?_, fun h => ?_⟩
    · have := tname_inj j (by omega) k (by omega) h
      omega
    · have := prio_inj (n := (setP l most turn).length) (turn := turn) (by omega) (by omega) (by omega) h
      omega
end Go.L.Try
namespace Go.L.Try
open Go Go.L
variable {E : Env} {G : Nat}
theorem each3 {h : Heap} {R1 R2 R3 : Heap → Value → Prop} {vs : List Value} (e : Each h [R1, R2, R3] vs) : ∃ a b c, vs = [a, b, c] ∧ R1 h a ∧ R2 h b ∧ R3 h c := by
  cases e with
  | cons h1 t1 => cases t1 with
    | cons h2 t2 => cases t2 with
      | cons h3 t3 => cases t3; exact ⟨_, _, _, rfl, h1, h2, h3⟩
theorem each2 {h : Heap} {R1 R2 : Heap → Value → Prop} {vs : List Value} (e : Each h [R1, R2] vs) : ∃ a b, vs = [a, b] ∧ R1 h a ∧ R2 h b := by
  cases e with
  | cons h1 t1 => cases t1 with
    | cons h2 t2 => cases t2; exact ⟨_, _, rfl, h1, h2⟩
def rN (l : List Task) (n : Nat) : List Int := (List.range n).map fun k : Nat => (boundP l (k : Int)).1
def missN (l : List Task) (n : Nat) : List Int := ((List.range n).filter fun k : Nat => decide ((boundP l (k : Int)).2 ≠ 0)).map fun k : Nat => (k : Int)
theorem rN_succ (l : List Task) (n : Nat) : rN l (n + 1) = rN l n ++ [(boundP l (n : Int)).1] := by unfold rN; rw [List.range_succ, List.map_append]; rfl
theorem missN_succ (l : List Task) (n : Nat) : missN l (n + 1) = if (boundP l (n : Int)).2 ≠ 0 then missN l n ++ [(n : Int)] else missN l n := by
  unfold missN
  rw [List.range_succ, List.filter_append, List.map_append]
  by_cases h : (boundP l (n : Int)).2 ≠ 0
  · rw [if_pos h]; simp [h]
  · rw [if_neg h]; simp [h]
theorem rN_len (l : List Task) (n : Nat) : (rN l n).length = n := by simp [rN]
theorem missN_len (l : List Task) (n : Nat) : (missN l n).length ≤ n := by
  unfold missN; rw [List.length_map]
  have := List.length_filter_le (fun k : Nat => decide ((boundP l (k : Int)).2 ≠ 0)) (List.range n)
  rwa [List.length_range] at this
def allR (l : List Task) : List Int := if validP l then rN l l.length else []
def allM (l : List Task) : List Int := if validP l then missN l l.length else []
def allE (l : List Task) : Int := if validP l then (if missN l l.length = [] then 0 else 16) else 1
def AllV (R M : List Int) (e : Int) : Heap → Value → Prop := fun h v => ∃ vs, v = .tuple vs.toArray ∧ Each h [fun h v => Rd 1 encI h v R, fun h v => Rd 1 encI h v M, fun _ v => v = .int .i64 e] vs
theorem allS_ (hE : Laid E) (hX : LaidAdd E) (hZ : LaidTz E G) {h : Heap} (ht : Tab G h) {vl : Value} {l : List Task} (hl : Rd 7 encT h vl l) (hs : ∀ t ∈ l, t.name.size < 1152921504606846976) :
    ∃ v ys, callW E (.func (.func n_rta_All) #[] #[]) [vl] h = some (v, h ++ ys, []) ∧ AllV (allR l) (allM l) (allE l) (h ++ ys) v := by
  have hc := checkAllS hE hl hs
  refine fn_new hE.rta_All rfl (Movable.tuples (k := 1) (fun R hR => by
    simp only [List.mem_cons, List.not_mem_nil, or_false] at hR
    rcases hR with rfl | rfl | rfl
    · exact Rd.movable flatI _
    · exact Rd.movable flatI _
    · exact movable_eq rfl) (by simp)) (by simp) ?_
  have few := hl.few
  simp only [argsF]
  by_cases hv : validP l
  · have hv2 := hv
    unfold validP at hv2
    have hlen : l.length ≤ 1024 := (checkAll_ok hv2).2.1
    have eR : allR l = rN l l.length := by unfold allR; rw [if_pos hv]
    have eM : allM l = missN l l.length := by unfold allM; rw [if_pos hv]
    have eE : allE l = if missN l l.length = [] then 0 else 16 := by unfold allE; rw [if_pos hv]
    rw [eR, eM, eE]
    rw [hv2] at hc
    clear eR eM eE hv hv2
    (repeat' (first | (with_reducible refine A1 (fun _ => ?_) (fun _ => ?_) <;> try (exfalso; omega)) | (with_reducible refine A2 (fun _ => ?_) (fun _ => ?_) <;> try (exfalso; omega)) | (with_reducible refine A3 (fun _ => ?_) (fun _ => ?_) <;> try (exfalso; omega)) | refine A4 (fun _ => ?_) (fun _ => ?_) | refine A5 (fun _ => ?_) (fun _ => ?_) | refine A6 (fun _ => ?_) (fun _ => ?_) | simp -dsimp (disch := omega) only [↓EA, EB, Nat.reduceEqDiff, Nat.reduceAdd, Nat.reduceLeDiff, Nat.reduceMul, ↓reduceIte, reduceCtorEq, newCells, bslV, eq_self, *, hl.len]))
    refine WO.loop (fun (n : Nat) fr h' => Pre h h' ∧ n ≤ l.length ∧ get fr 0 = vl ∧ get fr 20 = .int .i64 l.length ∧ get fr 21 = .int .i64 n ∧ OwnT h.length 1 encI h' (get fr 7) (rN l n) ∧ OwnT h.length 1 encI h' (get fr 8) (missN l n) ∧ (rN l n ≠ [] → missN l n ≠ [] → blk (get fr 7) ≠ blk (get fr 8))) (fun n => l.length - n) ?_ 0 ⟨Pre.refl _, Nat.zero_le _, rfl, rfl, rfl, OwnT.nil, OwnT.nil, fun h => absurd rfl h⟩
    rintro n fr h' ⟨hp, hn, g0, g20, g21, ho7, ho8, hne⟩
    generalize hv7 : get fr 7 = v7 at ho7 hne
    generalize hv8 : get fr 8 = v8 at ho8 hne
    have hr := rN_succ l n
    have hm := missN_succ l n
    have hr2 := rN_len l n
    have hm2 := missN_len l n
    unfold c_rta_All_l0
    rcases Nat.lt_or_ge n l.length with hlt | hge
    · have q := fun x => boundS hE hX hZ ((ht.pre hp).app x) ((hl.pre hp).app x) hs (n : Int)
      have q0 := boundS hE hX hZ (ht.pre hp) (hl.pre hp) hs (n : Int)
      have Hr := Hid.mk hr
      have Hm := Hid.mk hm
      have Hne := Hid.mk hne
      clear hr hm hne
      generalize (boundP l (n : Int)).1 = B1 at *
      generalize (boundP l (n : Int)).2 = B2 at *
      generalize rN l n = R at *
      generalize missN l n = M at *
      have hrl : R.length ≤ 1024 := by omega
      clear hr2
      have hml := hp.le
      (repeat' (first | (with_reducible refine A1 (fun _ => ?_) (fun _ => ?_) <;> try (exfalso; omega)) | (with_reducible refine A2 (fun _ => ?_) (fun _ => ?_) <;> try (exfalso; omega)) | (with_reducible refine A3 (fun _ => ?_) (fun _ => ?_) <;> try (exfalso; omega)) | refine A4 (fun _ => ?_) (fun _ => ?_) | refine A5 (fun _ => ?_) (fun _ => ?_) | refine A6 (fun _ => ?_) (fun _ => ?_) | simp -dsimp (disch := omega) only [↓EA, EB, Nat.reduceEqDiff, Nat.reduceAdd, Nat.reduceLeDiff, Nat.reduceMul, ↓reduceIte, reduceCtorEq, newCells, bslV, eq_self, *]))
      refine wx_app1 (sz := 1) (bytes := 8) (ho7.app _) (hp.app' _) (Nat.le_refl _) (by simp; omega) (fun b hb => hb) B1 (by simp -dsimp (disch := omega) only [↓EA, EB, Nat.reduceEqDiff, Nat.reduceAdd, Nat.reduceLeDiff, Nat.reduceMul, ↓reduceIte, reduceCtorEq, newCells, bslV, eq_self]; rfl) rfl (by decide) (by decide) (by omega) ?_
      intro v2 h2 k1 k2 k3 k4 k5
      have ho8' := OwnT.other (m' := 0) (sz' := 1) (enc' := encI) (ho8.app [LObj.cells [Value.int IntKind.i64 B1] false]) (fun a b => fun e => Hne.out b a e.symm) k5
      have hlt8 := fun hn => (ho8.lt hn)
      have hml2 := k2.le
      simp only [List.length_append, List.length_cons, List.length_nil] at k3 k4
      have K3 := Hid.mk k3
      have K4 : h'.length < h2.length := by omega
      clear k5 k3 k4
      (repeat' (first | (with_reducible refine A1 (fun _ => ?_) (fun _ => ?_) <;> try (exfalso; omega)) | (with_reducible refine A2 (fun _ => ?_) (fun _ => ?_) <;> try (exfalso; omega)) | (with_reducible refine A3 (fun _ => ?_) (fun _ => ?_) <;> try (exfalso; omega)) | refine A4 (fun _ => ?_) (fun _ => ?_) | refine A5 (fun _ => ?_) (fun _ => ?_) | refine A6 (fun _ => ?_) (fun _ => ?_) | simp -dsimp (disch := omega) only [↓EA, EB, Nat.reduceEqDiff, Nat.reduceAdd, Nat.reduceLeDiff, Nat.reduceMul, ↓reduceIte, reduceCtorEq, newCells, bslV, eq_self, *]))
      · refine wx_app1 (sz := 1) (bytes := 8) (ho8'.app _) (k2.app' _) (Nat.le_refl _) (by simp; omega) (fun b hb => hb) (n : Int) (by simp -dsimp (disch := omega) only [↓EA, EB, Nat.reduceEqDiff, Nat.reduceAdd, Nat.reduceLeDiff, Nat.reduceMul, ↓reduceIte, reduceCtorEq, newCells, bslV, eq_self]; rfl) rfl (by decide) (by decide) (by omega) ?_
        intro v3 h3 j1 j2 j3 j4 j5
        simp only [List.length_append, List.length_cons, List.length_nil] at j3 j4
        have k1' := OwnT.other (m' := 0) (sz' := 1) (enc' := encI) (k1.app [LObj.cells [Value.int IntKind.i64 (n : Int)] false]) (fun a b e => by have := hlt8 b; have := K3.out; omega) j5
        clear j5
        have J3 := Hid.mk j3
        clear j3 j4
        (repeat' (first | (with_reducible refine A1 (fun _ => ?_) (fun _ => ?_) <;> try (exfalso; omega)) | (with_reducible refine A2 (fun _ => ?_) (fun _ => ?_) <;> try (exfalso; omega)) | (with_reducible refine A3 (fun _ => ?_) (fun _ => ?_) <;> try (exfalso; omega)) | refine A4 (fun _ => ?_) (fun _ => ?_) | refine A5 (fun _ => ?_) (fun _ => ?_) | refine A6 (fun _ => ?_) (fun _ => ?_) | simp -dsimp (disch := omega) only [↓EA, EB, Nat.reduceEqDiff, Nat.reduceAdd, Nat.reduceLeDiff, Nat.reduceMul, ↓reduceIte, reduceCtorEq, newCells, bslV, eq_self, *]))
        refine Next.mk (n + 1) ⟨j2, by omega, rfl, rfl, rfl, by rw [Hr.out]; exact k1', by rw [Hm.out, if_pos (by assumption)]; exact j1, ?_⟩ (by omega)
        intro _ _
        show blk v2 ≠ blk v3
        have := K3.out
        have := J3.out
        omega
      · refine Next.mk (n + 1) ⟨k2, by omega, rfl, rfl, rfl, by rw [Hr.out]; exact k1, by rw [Hm.out, if_neg (by omega)]; exact ho8', ?_⟩ (by omega)
        intro _ hn
        rw [Hm.out, if_neg (by omega)] at hn
        show blk v2 ≠ blk v8
        have := hlt8 hn
        have := K3.out
        omega
    · have e : n = l.length := by omega
      subst e
      clear hr hm hr2
      generalize rN l l.length = R at *
      generalize missN l l.length = M at *
      have hM : 0 < M.length ↔ M ≠ [] := List.length_pos_iff
      have HM := Hid.mk hM
      have hl8 := ho8.rd.len
      clear hM
      (repeat' (first | (with_reducible refine A1 (fun _ => ?_) (fun _ => ?_) <;> try (exfalso; omega)) | (with_reducible refine A2 (fun _ => ?_) (fun _ => ?_) <;> try (exfalso; omega)) | (with_reducible refine A3 (fun _ => ?_) (fun _ => ?_) <;> try (exfalso; omega)) | refine A4 (fun _ => ?_) (fun _ => ?_) | refine A5 (fun _ => ?_) (fun _ => ?_) | refine A6 (fun _ => ?_) (fun _ => ?_) | simp -dsimp (disch := omega) only [↓EA, EB, Nat.reduceEqDiff, Nat.reduceAdd, Nat.reduceLeDiff, Nat.reduceMul, ↓reduceIte, reduceCtorEq, newCells, bslV, eq_self, *]))
      · refine ⟨hp.ex, [v7, v8, .int .i64 16], rfl, .cons ho7.rd (.cons ho8.rd (.cons ?_ .nil))⟩
        rw [if_neg (HM.out.1 (by omega))]
      · have e : M = [] := by
          cases M with
          | nil => rfl
          | cons a r => simp only [List.length_cons] at *; omega
        refine ⟨hp.ex, [v7, .slice none 0 0, .int .i64 0], rfl, .cons ho7.rd (.cons ?_ (.cons ?_ .nil))⟩
        · subst e; exact Rd.of_nil
        · rw [if_pos e]
  · have eR : allR l = [] := by unfold allR; rw [if_neg hv]
    have eM : allM l = [] := by unfold allM; rw [if_neg hv]
    have eE : allE l = 1 := by unfold allE; rw [if_neg hv]
    rw [eR, eM, eE]
    unfold validP at hv
    generalize (checkAllP l).2 = e at *
    (repeat' (first | (with_reducible refine A1 (fun _ => ?_) (fun _ => ?_) <;> try (exfalso; omega)) | (with_reducible refine A2 (fun _ => ?_) (fun _ => ?_) <;> try (exfalso; omega)) | (with_reducible refine A3 (fun _ => ?_) (fun _ => ?_) <;> try (exfalso; omega)) | refine A4 (fun _ => ?_) (fun _ => ?_) | refine A5 (fun _ => ?_) (fun _ => ?_) | refine A6 (fun _ => ?_) (fun _ => ?_) | simp -dsimp (disch := omega) only [↓EA, EB, Nat.reduceEqDiff, Nat.reduceAdd, Nat.reduceLeDiff, Nat.reduceMul, ↓reduceIte, reduceCtorEq, newCells, bslV, eq_self, *]))
    exact ⟨⟨[], by simp⟩, [.slice none 0 0, .slice none 0 0, .int .i64 1], rfl, .cons Rd.of_nil (.cons Rd.of_nil (.cons rfl .nil))⟩
end Go.L.Try
namespace Go.L.Try
open Go Go.L
variable {E : Env} {G : Nat}
theorem Rd.nt {α : Type} {sz : Nat} {enc : α → List Value} {h : Heap} {v : Value} {l : List α} (r : Rd sz enc h v l) : noTuple v = true := by
  rcases Row.is r with ⟨rfl, _⟩ | ⟨_, _, _, _, _, _, rfl, _⟩ <;> rfl
theorem missN_pre (l : List Task) (n : Nat) : ∀ d, ∃ r, missN l (n + d) = missN l n ++ r
  | 0 => ⟨[], by simp⟩
  | d + 1 => by
    obtain ⟨r, e⟩ := missN_pre l n d
    rw [← Nat.add_assoc, missN_succ, e]
    split
    · exact ⟨r ++ [((n + d : Nat) : Int)], by simp⟩
    · exact ⟨r, rfl⟩
theorem missN_at {l : List Task} {n L : Nat} (hn : n < L) (h : (boundP l (n : Int)).2 ≠ 0) : (missN l n).length < (missN l L).length ∧ atI (missN l L) ((missN l n).length : Int) = (n : Int) := by
  obtain ⟨d, rfl⟩ : ∃ d, L = (n + 1) + d := ⟨L - (n + 1), by omega⟩
  obtain ⟨r, e⟩ := missN_pre l (n + 1) d
  rw [missN_succ, if_pos h] at e
  rw [e]
  have h2 : (missN l n).length < (missN l n ++ [(n : Int)] ++ r).length := by simp <;> omega
  refine ⟨h2, ?_⟩
  rw [atI_nat h2]
  simp
end Go.L.Try
namespace Go.L.Try
open Go Go.L
variable {E : Env} {G : Nat}
theorem missN_nil (l : List Task) : ∀ n : Nat, missN l n = [] ↔ ∀ k : Nat, k < n → (boundP l (k : Int)).2 = 0
  | 0 => ⟨fun _ k hk => by omega, fun _ => rfl⟩
  | n + 1 => by
    rw [missN_succ]
    have ih := missN_nil l n
    by_cases h : (boundP l (n : Int)).2 ≠ 0
    · rw [if_pos h]
      exact ⟨fun e => by simp at e, fun e => absurd (e n (by omega)) h⟩
    · rw [if_neg h, ih]
      exact ⟨fun e k hk => by rcases Nat.lt_or_ge k n with h2 | h2; exact e k h2; rw [show k = n by omega]; omega, fun e k hk => e k (by omega)⟩
theorem allE_zero (l : List Task) : allE l = 0 ↔ validP l ∧ ∀ k : Nat, k < l.length → (boundP l (k : Int)).2 = 0 := by
  unfold allE
  by_cases hv : validP l
  · rw [if_pos hv, ← missN_nil]
    split
    · rename_i h; exact ⟨fun _ => ⟨hv, h⟩, fun _ => rfl⟩
    · rename_i h; exact ⟨fun e => absurd e (by decide), fun e => absurd e.2 h⟩
  · rw [if_neg hv]
    exact ⟨fun e => absurd e (by decide), fun e => absurd e.1 hv⟩
theorem tests14 (hE : Laid E) {h : Heap} {vl : Value} {l : List Task} (hl : Rd 7 encT h vl l) (hs : ∀ t ∈ l, t.name.size < 1152921504606846976) :
    callW E (.func (.func n_ref14_Tests) #[] #[]) [vl] h = some (.bool (decide (allE l = 0)), h, []) := by
  refine fn_same hE.ref14_Tests rfl (by simp) ?_
  have hb := fun i => bound14 hE hl hs i
  have hc := checkAll04 hE hl hs
  have hll := hl.len
  have few := hl.few
  simp only [argsF]
  (repeat' (first | (with_reducible refine A1 (fun _ => ?_) (fun _ => ?_) <;> try (exfalso; omega)) | (with_reducible refine A2 (fun _ => ?_) (fun _ => ?_) <;> try (exfalso; omega)) | (with_reducible refine A3 (fun _ => ?_) (fun _ => ?_) <;> try (exfalso; omega)) | refine A4 (fun _ => ?_) (fun _ => ?_) | refine A5 (fun _ => ?_) (fun _ => ?_) | refine A6 (fun _ => ?_) (fun _ => ?_) | simp -dsimp (disch := omega) only [↓EA, EB, Nat.reduceEqDiff, Nat.reduceAdd, Nat.reduceLeDiff, Nat.reduceMul, ↓reduceIte, reduceCtorEq, newCells, bslV, eq_self, *]))
  refine WO.loop (fun n fr h' => h' = h ∧ n ≤ l.length ∧ get fr 0 = vl ∧ get fr 3 = .int .i64 n ∧ ∀ k : Nat, k < n → (boundP l (k : Int)).2 = 0) (fun n => l.length - n) ?_ 0 ⟨rfl, Nat.zero_le _, rfl, rfl, fun k hk => by omega⟩
  rintro n fr h' ⟨rfl, hn, g0, g3, hk⟩
  unfold c_ref14_Tests_l0
  have Hk := Hid.mk hk
  clear hk
  rcases Nat.lt_or_ge n l.length with hlt | hge
  · have hbn := hb (n : Int)
    clear hb
    by_cases h0 : (boundP l (n : Int)).2 = 0
    · (repeat' (first | (with_reducible refine A1 (fun _ => ?_) (fun _ => ?_) <;> try (exfalso; omega)) | (with_reducible refine A2 (fun _ => ?_) (fun _ => ?_) <;> try (exfalso; omega)) | (with_reducible refine A3 (fun _ => ?_) (fun _ => ?_) <;> try (exfalso; omega)) | refine A4 (fun _ => ?_) (fun _ => ?_) | refine A5 (fun _ => ?_) (fun _ => ?_) | refine A6 (fun _ => ?_) (fun _ => ?_) | simp -dsimp (disch := omega) only [↓EA, EB, Nat.reduceEqDiff, Nat.reduceAdd, Nat.reduceLeDiff, Nat.reduceMul, ↓reduceIte, reduceCtorEq, newCells, bslV, eq_self, *]))
      exact Next.mk (n + 1) ⟨rfl, by omega, rfl, rfl, fun k hk => by rcases Nat.lt_or_ge k n with h2 | h2; exact Hk.out k h2; rw [show k = n by omega]; exact h0⟩ (by omega)
    · have e : decide (allE l = 0) = false := decide_eq_false fun e => h0 ((allE_zero l).1 e |>.2 n hlt)
      rw [e]
      (repeat' (first | (with_reducible refine A1 (fun _ => ?_) (fun _ => ?_) <;> try (exfalso; omega)) | (with_reducible refine A2 (fun _ => ?_) (fun _ => ?_) <;> try (exfalso; omega)) | (with_reducible refine A3 (fun _ => ?_) (fun _ => ?_) <;> try (exfalso; omega)) | refine A4 (fun _ => ?_) (fun _ => ?_) | refine A5 (fun _ => ?_) (fun _ => ?_) | refine A6 (fun _ => ?_) (fun _ => ?_) | simp -dsimp (disch := omega) only [↓EA, EB, Nat.reduceEqDiff, Nat.reduceAdd, Nat.reduceLeDiff, Nat.reduceMul, ↓reduceIte, reduceCtorEq, newCells, bslV, eq_self, *]))
  · have e : n = l.length := by omega
    subst e
    clear hb
    have e2 : decide (allE l = 0) = decide ((checkAllP l).2 = 0) := by
      refine decide_eq_decide.2 ?_
      rw [allE_zero]
      exact ⟨fun e => e.1, fun e => ⟨e, Hk.out⟩⟩
    rw [e2]
    (repeat' (first | (with_reducible refine A1 (fun _ => ?_) (fun _ => ?_) <;> try (exfalso; omega)) | (with_reducible refine A2 (fun _ => ?_) (fun _ => ?_) <;> try (exfalso; omega)) | (with_reducible refine A3 (fun _ => ?_) (fun _ => ?_) <;> try (exfalso; omega)) | refine A4 (fun _ => ?_) (fun _ => ?_) | refine A5 (fun _ => ?_) (fun _ => ?_) | refine A6 (fun _ => ?_) (fun _ => ?_) | simp -dsimp (disch := omega) only [↓EA, EB, Nat.reduceEqDiff, Nat.reduceAdd, Nat.reduceLeDiff, Nat.reduceMul, ↓reduceIte, reduceCtorEq, newCells, bslV, eq_self, *]))
end Go.L.Try
