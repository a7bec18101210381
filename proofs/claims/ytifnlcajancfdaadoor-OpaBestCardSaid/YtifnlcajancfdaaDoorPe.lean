/- PLACES THAT ARE SO: task.those, Higher, Lower. -/
import Derived.Test.YtifnlcajancfdaaDoorPd
import Derived.Test.YtifnlcajancfdaaDoorPc
import Derived.Test.YtifnlcajancfdaaDoorPa
set_option linter.unusedVariables false
set_option linter.unusedSimpArgs false
set_option maxRecDepth 100000
set_option maxHeartbeats 2000000
namespace Go.L.Try
open Go Go.L
variable {E : Env} {G : Nat}
def thoseW (p : Task → Bool) (l : List Task) : Nat → List Nat
  | 0 => List.replicate 16 0
  | k + 1 => if p (atI l (k : Int)) = true then withM (thoseW p l k) (k : Int) else thoseW p l k
theorem thoseW_ok (p : Task → Bool) (l : List Task) : ∀ k, okM (thoseW p l k)
  | 0 => okM_zero
  | k + 1 => by
    unfold thoseW
    split
    · exact withM_ok (thoseW_ok p l k) _
    · exact thoseW_ok p l k
theorem thoseW_mem (p : Task → Bool) (l : List Task) : ∀ (k : Nat), k ≤ 1024 → ∀ m, memM (thoseW p l k) m = (decide (m < k) && p (atI l (m : Int)))
  | 0, _, m => by rw [thoseW, memM_zero]; simp
  | k + 1, hk, m => by
    have ih := thoseW_mem p l k (by omega) m
    unfold thoseW
    by_cases hp : p (atI l (k : Int)) = true
    · rw [if_pos hp, withM_mem (thoseW_ok p l k) (by omega), ih]
      by_cases h : m = k
      · subst h; simp [hp]
      · have e : decide (m < k + 1) = decide (m < k) := decide_eq_decide.2 (by omega)
        simp [h, e]
    · rw [if_neg hp, ih]
      by_cases h : m = k
      · subst h
        have hp' : p (atI l (m : Int)) = false := by simpa using hp
        simp [hp']
      · have e : decide (m < k + 1) = decide (m < k) := decide_eq_decide.2 (by omega)
        rw [e]
theorem those_out (hE : Laid E) {h : Heap} {vl vf : Value} {l : List Task} (hl : Rd 7 encT h vl l) {f : FuncId} {ca cb : Array Value} (hf : vf = .func (.func f) ca cb) {i : Int} {p : Task → Bool} (hi : 0 ≤ i ∧ i < l.length) (hn : l.length ≤ 1024)
    (hp : ∀ (h' : Heap) (t : Task), Pre h h' → callW E vf [.agg (encT t).toArray] h' = some (.bool (p t), h', [])) :
    callW E (.func (.func n_task_those) #[] #[]) [vl, .int .i64 i, vf] h = some (.agg (encM (thoseW p l l.length)).toArray, h, []) := by
  refine fn_same hE.task_those rfl (by simp) ?_
  simp only [argsF]
  have few := hl.few
  have Hf := Hid.mk hf
  clear hf
  have hz : ([.int .u64 0, .int .u64 0, .int .u64 0, .int .u64 0, .int .u64 0, .int .u64 0, .int .u64 0, .int .u64 0, .int .u64 0, .int .u64 0, .int .u64 0, .int .u64 0, .int .u64 0, .int .u64 0, .int .u64 0, .int .u64 0] : List Value) = z16 := rfl
  have Hz := Hid.mk hz
  clear hz
  (repeat' (first | (with_reducible refine A1 (fun _ => ?_) (fun _ => ?_) <;> try (exfalso; omega)) | (with_reducible refine A2 (fun _ => ?_) (fun _ => ?_) <;> try (exfalso; omega)) | (with_reducible refine A3 (fun _ => ?_) (fun _ => ?_) <;> try (exfalso; omega)) | refine A4 (fun _ => ?_) (fun _ => ?_) | refine A5 (fun _ => ?_) (fun _ => ?_) | refine A6 (fun _ => ?_) (fun _ => ?_) | simp -dsimp (disch := omega) only [↓EA, EB, Nat.reduceEqDiff, Nat.reduceAdd, Nat.reduceLeDiff, Nat.reduceMul, ↓reduceIte, reduceCtorEq, newCells, bslV, eq_self, *, hl.len]))
  rw [Hz.out]
  refine WO.loop (fun (n : Nat) fr h' => Pre h h' ∧ h.length + 2 ≤ h'.length ∧ n ≤ l.length ∧ get fr 2 = vf ∧ get fr 6 = .pointer (some ⟨h.length, 0, none⟩) ∧ get fr 7 = .pointer (some ⟨h.length + 1, 0, none⟩) ∧ get fr 19 = vl ∧ get fr 20 = .int .i64 l.length ∧ get fr 21 = .int .i64 n ∧ h'[h.length]? = some (.cells z16 false) ∧ h'[h.length + 1]? = some (.cells (encM (thoseW p l n)) false)) (fun n => l.length - n) ?_ 0 ⟨Pre.app h _, by simp, Nat.zero_le _, rfl, rfl, rfl, rfl, rfl, rfl, by rw [geta0]; rfl, by rw [geta]; rfl⟩
  rintro n fr h' ⟨hpre, hlen, hn', g2, g6, g7, g19, g20, g21, b1, b2⟩
  unfold c_task_those_l0
  have ok := thoseW_ok p l n
  have hlM := encM_len ok
  have hoM := encM_one (thoseW p l n)
  have htk := encM_take ok
  have hs16 := fun w (hw : okM w) => setM (d := z16) rfl hw
  have hl16 : z16.length = 16 := rfl
  rcases Nat.lt_or_ge n l.length with hlt | hge
  · have hl' := hl.pre hpre
    have q := fun (x : Heap) => hp (h' ++ x) (atI l (n : Int)) (hpre.app' x)
    have hset : ∀ (x : Heap) (o : LObj), Pre h ((h' ++ x).set (h.length + 1) o) := fun x o => (hpre.app' x).set (by omega) o
    have w1 := fun x => withS hE (h' ++ x) ok (n : Int)
    have ok2 := withM_ok ok (n : Int)
    have hlM2 := encM_len ok2
    have hoM2 := encM_one (withM (thoseW p l n) (n : Int))
    have hsM := setM hlM ok2
    have Hst := Hid.mk (show thoseW p l (n + 1) = if p (atI l (n : Int)) = true then withM (thoseW p l n) (n : Int) else thoseW p l n from rfl)
    have Hset := Hid.mk hset
    have Hpre := Hid.mk hpre
    have b1x : ∀ x, (h' ++ x)[h.length]? = some (.cells z16 false) := fun x => by rw [List.getElem?_append_left (by omega)]; exact b1
    have b2x : ∀ x, (h' ++ x)[h.length + 1]? = some (.cells (encM (thoseW p l n)) false) := fun x => by rw [List.getElem?_append_left (by omega)]; exact b2
    clear ok ok2 hs16 hset
    generalize withM (thoseW p l n) (n : Int) = w2 at *
    generalize thoseW p l n = w1 at *
    simp only [encT] at q
    (repeat' (first | (with_reducible refine A1 (fun _ => ?_) (fun _ => ?_) <;> try (exfalso; omega)) | (with_reducible refine A2 (fun _ => ?_) (fun _ => ?_) <;> try (exfalso; omega)) | (with_reducible refine A3 (fun _ => ?_) (fun _ => ?_) <;> try (exfalso; omega)) | refine A4 (fun _ => ?_) (fun _ => ?_) | refine A5 (fun _ => ?_) (fun _ => ?_) | refine A6 (fun _ => ?_) (fun _ => ?_) | simp -dsimp (disch := omega) only [↓EA, EB, Nat.reduceEqDiff, Nat.reduceAdd, Nat.reduceLeDiff, Nat.reduceMul, ↓reduceIte, reduceCtorEq, newCells, bslV, eq_self, *, hl'.len, hl'.ixs, hl'.ld, hl'.ld0, hl'.lda, hl'.ldx, hl'.ldx0, hl'.ldxa, encT, hpre.le, hpre.le_add]))
    · refine Next.mk (n + 1) ⟨Hset.out _ _, by simp; omega, by omega, rfl, rfl, rfl, rfl, rfl, rfl, ?_, ?_⟩ (by omega)
      · rw [gets (by omega)]; exact b1x _
      · rw [gset (by simp; omega), Hst.out, if_pos (by assumption)]
    · refine Next.mk (n + 1) ⟨hpre.app' _, by simp; omega, by omega, rfl, rfl, rfl, rfl, rfl, rfl, b1x _, ?_⟩ (by omega)
      rw [b2x, Hst.out, if_neg (Bool.eq_false_iff.1 (by assumption))]
  · have e : n = l.length := by omega
    subst e
    have hnn := encM_nn (thoseW p l l.length) h.length
    have hsM := hs16 _ ok
    (repeat' (first | (with_reducible refine A1 (fun _ => ?_) (fun _ => ?_) <;> try (exfalso; omega)) | (with_reducible refine A2 (fun _ => ?_) (fun _ => ?_) <;> try (exfalso; omega)) | (with_reducible refine A3 (fun _ => ?_) (fun _ => ?_) <;> try (exfalso; omega)) | refine A4 (fun _ => ?_) (fun _ => ?_) | refine A5 (fun _ => ?_) (fun _ => ?_) | refine A6 (fun _ => ?_) (fun _ => ?_) | simp -dsimp (disch := omega) only [↓EA, EB, Nat.reduceEqDiff, Nat.reduceAdd, Nat.reduceLeDiff, Nat.reduceMul, ↓reduceIte, reduceCtorEq, newCells, bslV, eq_self, *, hl.len]))
def higherQ (l : List Task) (i : Int) : Task → Bool := fun t => decide (t.P < (atI l i).P)
def lowerQ (l : List Task) (i : Int) : Task → Bool := fun t => decide ((atI l i).P < t.P)
theorem higher_f1 (hE : Laid E) {h : Heap} {vl : Value} {l : List Task} (hl : Rd 7 encT h vl l) {i : Int} (hi : 0 ≤ i ∧ i < l.length) {b c : Nat} (hb : h[b]? = some (.cells [vl] false)) (hc : h[c]? = some (.cells [.int .i64 i] false)) (t : Task) :
    callW E (.func (.func n_task_Higher_f1) #[] #[.pointer (some ⟨b, 0, none⟩), .pointer (some ⟨c, 0, none⟩)]) [.agg (encT t).toArray] h = some (.bool (higherQ l i t), h, []) := by
  rw [callW_cap hE.task_Higher_f1]
  refine fn_same hE.task_Higher_f1 rfl (by simp) ?_
  simp only [List.nil_append, List.append_nil, List.cons_append, argsF]
  have hb' : ∀ x, (h ++ x)[b]? = some (.cells [vl] false) := fun x => by rw [List.getElem?_append_left (List.getElem?_eq_some_iff.1 hb).1]; exact hb
  have hc' : ∀ x, (h ++ x)[c]? = some (.cells [.int .i64 i] false) := fun x => by rw [List.getElem?_append_left (List.getElem?_eq_some_iff.1 hc).1]; exact hc
  unfold higherQ
  (repeat' (first | (with_reducible refine A1 (fun _ => ?_) (fun _ => ?_) <;> try (exfalso; omega)) | (with_reducible refine A2 (fun _ => ?_) (fun _ => ?_) <;> try (exfalso; omega)) | (with_reducible refine A3 (fun _ => ?_) (fun _ => ?_) <;> try (exfalso; omega)) | refine A4 (fun _ => ?_) (fun _ => ?_) | refine A5 (fun _ => ?_) (fun _ => ?_) | refine A6 (fun _ => ?_) (fun _ => ?_) | simp -dsimp (disch := omega) only [↓EA, EB, Nat.reduceEqDiff, Nat.reduceAdd, Nat.reduceLeDiff, Nat.reduceMul, ↓reduceIte, reduceCtorEq, newCells, bslV, eq_self, *, hl.len, hl.ixs, hl.ld, hl.ld0, hl.lda, hl.ldx, hl.ldx0, hl.ldxa, encT]))
theorem higherT (hE : Laid E) {h : Heap} {vl : Value} {l : List Task} (hl : Rd 7 encT h vl l) {i : Int} (hi : 0 ≤ i ∧ i < l.length) (hn : l.length ≤ 1024) :
    callW E (.func (.func n_task_Higher) #[] #[]) [vl, .int .i64 i] h = some (.agg (encM (thoseW (higherQ l i) l l.length)).toArray, h, []) := by
  refine fn_same hE.task_Higher rfl (by simp) ?_
  have hc := hl.cv
  have ho := hl.one
  have q := fun (x : Heap) (hb : (h ++ x)[h.length]? = some (.cells [vl] false)) (hc : (h ++ x)[h.length + 1]? = some (.cells [.int .i64 i] false)) => those_out hE (hl.app x) (vf := .func (.func n_task_Higher_f1) #[] #[.pointer (some ⟨h.length, 0, none⟩), .pointer (some ⟨h.length + 1, 0, none⟩)]) rfl (i := i) (p := higherQ l i) hi hn (fun h' t hp => higher_f1 hE ((hl.app x).pre hp) hi (hp _ _ hb) (hp _ _ hc) t)
  have q2 : ∀ y, callW E (.func (.func n_task_those) #[] #[]) [vl, .int .i64 i, .func (.func n_task_Higher_f1) #[] #[.pointer (some ⟨h.length, 0, none⟩), .pointer (some ⟨h.length + 1, 0, none⟩)]] (h ++ (LObj.cells [vl] false :: LObj.cells [.int .i64 i] false :: y)) = some (.agg (encM (thoseW (higherQ l i) l l.length)).toArray, h ++ (LObj.cells [vl] false :: LObj.cells [.int .i64 i] false :: y), []) := fun y => q _ (by rw [geta0]; rfl) (by rw [geta]; rfl)
  clear q
  have ok := thoseW_ok (higherQ l i) l l.length
  generalize thoseW (higherQ l i) l l.length = w at *
  have hlM := encM_len ok
  have hoM := encM_one w
  have htk := encM_take ok
  have hs0 := setM0 ok
  have hnn := encM_nn w h.length
  simp only [argsF]
  (repeat' (first | (with_reducible refine A1 (fun _ => ?_) (fun _ => ?_) <;> try (exfalso; omega)) | (with_reducible refine A2 (fun _ => ?_) (fun _ => ?_) <;> try (exfalso; omega)) | (with_reducible refine A3 (fun _ => ?_) (fun _ => ?_) <;> try (exfalso; omega)) | refine A4 (fun _ => ?_) (fun _ => ?_) | refine A5 (fun _ => ?_) (fun _ => ?_) | refine A6 (fun _ => ?_) (fun _ => ?_) | simp -dsimp (disch := omega) only [↓EA, EB, Nat.reduceEqDiff, Nat.reduceAdd, Nat.reduceLeDiff, Nat.reduceMul, ↓reduceIte, reduceCtorEq, newCells, bslV, eq_self, *]))
theorem lower_f1 (hE : Laid E) {h : Heap} {vl : Value} {l : List Task} (hl : Rd 7 encT h vl l) {i : Int} (hi : 0 ≤ i ∧ i < l.length) {b c : Nat} (hb : h[b]? = some (.cells [vl] false)) (hc : h[c]? = some (.cells [.int .i64 i] false)) (t : Task) :
    callW E (.func (.func n_task_Lower_f1) #[] #[.pointer (some ⟨b, 0, none⟩), .pointer (some ⟨c, 0, none⟩)]) [.agg (encT t).toArray] h = some (.bool (lowerQ l i t), h, []) := by
  rw [callW_cap hE.task_Lower_f1]
  refine fn_same hE.task_Lower_f1 rfl (by simp) ?_
  simp only [List.nil_append, List.append_nil, List.cons_append, argsF]
  have hb' : ∀ x, (h ++ x)[b]? = some (.cells [vl] false) := fun x => by rw [List.getElem?_append_left (List.getElem?_eq_some_iff.1 hb).1]; exact hb
  have hc' : ∀ x, (h ++ x)[c]? = some (.cells [.int .i64 i] false) := fun x => by rw [List.getElem?_append_left (List.getElem?_eq_some_iff.1 hc).1]; exact hc
  unfold lowerQ
  (repeat' (first | (with_reducible refine A1 (fun _ => ?_) (fun _ => ?_) <;> try (exfalso; omega)) | (with_reducible refine A2 (fun _ => ?_) (fun _ => ?_) <;> try (exfalso; omega)) | (with_reducible refine A3 (fun _ => ?_) (fun _ => ?_) <;> try (exfalso; omega)) | refine A4 (fun _ => ?_) (fun _ => ?_) | refine A5 (fun _ => ?_) (fun _ => ?_) | refine A6 (fun _ => ?_) (fun _ => ?_) | simp -dsimp (disch := omega) only [↓EA, EB, Nat.reduceEqDiff, Nat.reduceAdd, Nat.reduceLeDiff, Nat.reduceMul, ↓reduceIte, reduceCtorEq, newCells, bslV, eq_self, *, hl.len, hl.ixs, hl.ld, hl.ld0, hl.lda, hl.ldx, hl.ldx0, hl.ldxa, encT]))
theorem lowerT (hE : Laid E) {h : Heap} {vl : Value} {l : List Task} (hl : Rd 7 encT h vl l) {i : Int} (hi : 0 ≤ i ∧ i < l.length) (hn : l.length ≤ 1024) :
    callW E (.func (.func n_task_Lower) #[] #[]) [vl, .int .i64 i] h = some (.agg (encM (thoseW (lowerQ l i) l l.length)).toArray, h, []) := by
  refine fn_same hE.task_Lower rfl (by simp) ?_
  have hc := hl.cv
  have ho := hl.one
  have q := fun (x : Heap) (hb : (h ++ x)[h.length]? = some (.cells [vl] false)) (hc : (h ++ x)[h.length + 1]? = some (.cells [.int .i64 i] false)) => those_out hE (hl.app x) (vf := .func (.func n_task_Lower_f1) #[] #[.pointer (some ⟨h.length, 0, none⟩), .pointer (some ⟨h.length + 1, 0, none⟩)]) rfl (i := i) (p := lowerQ l i) hi hn (fun h' t hp => lower_f1 hE ((hl.app x).pre hp) hi (hp _ _ hb) (hp _ _ hc) t)
  have q2 : ∀ y, callW E (.func (.func n_task_those) #[] #[]) [vl, .int .i64 i, .func (.func n_task_Lower_f1) #[] #[.pointer (some ⟨h.length, 0, none⟩), .pointer (some ⟨h.length + 1, 0, none⟩)]] (h ++ (LObj.cells [vl] false :: LObj.cells [.int .i64 i] false :: y)) = some (.agg (encM (thoseW (lowerQ l i) l l.length)).toArray, h ++ (LObj.cells [vl] false :: LObj.cells [.int .i64 i] false :: y), []) := fun y => q _ (by rw [geta0]; rfl) (by rw [geta]; rfl)
  clear q
  have ok := thoseW_ok (lowerQ l i) l l.length
  generalize thoseW (lowerQ l i) l l.length = w at *
  have hlM := encM_len ok
  have hoM := encM_one w
  have htk := encM_take ok
  have hs0 := setM0 ok
  have hnn := encM_nn w h.length
  simp only [argsF]
  (repeat' (first | (with_reducible refine A1 (fun _ => ?_) (fun _ => ?_) <;> try (exfalso; omega)) | (with_reducible refine A2 (fun _ => ?_) (fun _ => ?_) <;> try (exfalso; omega)) | (with_reducible refine A3 (fun _ => ?_) (fun _ => ?_) <;> try (exfalso; omega)) | refine A4 (fun _ => ?_) (fun _ => ?_) | refine A5 (fun _ => ?_) (fun _ => ?_) | refine A6 (fun _ => ?_) (fun _ => ?_) | simp -dsimp (disch := omega) only [↓EA, EB, Nat.reduceEqDiff, Nat.reduceAdd, Nat.reduceLeDiff, Nat.reduceMul, ↓reduceIte, reduceCtorEq, newCells, bslV, eq_self, *]))
end Go.L.Try
namespace Go.L.Try
open Go Go.L
variable {E : Env} {G : Nat}
theorem range'_range (n : Nat) : List.range' 0 n = List.range n := List.range_eq_range'.symm
theorem elems_those {w : List Nat} {n : Nat} {q : Nat → Bool} (hn : n ≤ 1024) (hm : ∀ m, memM w m = (decide (m < n) && q m)) : elemsFrom w 0 = (List.range n).filter q := by
  unfold elemsFrom
  have e : 1024 - 0 = n + (1024 - n) := by omega
  rw [e, List.range'_append_1.symm, List.filter_append, range'_range]
  have h1 : (List.range n).filter (memM w) = (List.range n).filter q := by
    apply List.filter_congr
    intro m hmem
    rw [hm, decide_eq_true (List.mem_range.1 hmem), Bool.true_and]
  have h2 : (List.range' (0 + n) (1024 - n)).filter (memM w) = [] := by
    rw [List.filter_eq_nil_iff]
    intro m hmem
    have := (List.mem_range'_1.1 hmem).1
    rw [hm, decide_eq_false (by omega), Bool.false_and]; decide
  rw [h1, h2, List.append_nil]
theorem fold_those {α : Type} {f : α → Nat → α} {a0 : α} {q : Nat → Bool} (N : Nat → α) (h0 : N 0 = a0) (hN : ∀ k, N (k + 1) = if q k = true then f (N k) k else N k) : ∀ n, ((List.range n).filter q).foldl f a0 = N n
  | 0 => h0.symm
  | n + 1 => by
    rw [List.range_succ, List.filter_append, List.foldl_append, fold_those N h0 hN n, hN]
    by_cases h : q n = true
    · rw [if_pos h]; simp [h]
    · rw [if_neg h]; simp [h]
def accL {α : Type} (f : α → Nat → α) (a0 : α) (es : List Nat) (k : Nat) : α := (es.take k).foldl f a0
theorem accL_succ {α : Type} {f : α → Nat → α} {a0 : α} {es : List Nat} {k m : Nat} (h : es[k]? = some m) : accL f a0 es (k + 1) = f (accL f a0 es k) m := by
  unfold accL
  have hlt := (List.getElem?_eq_some_iff.1 h).1
  have e : es.take (k + 1) = es.take k ++ [m] := by
    rw [List.take_add_one, h]; rfl
  rw [e, List.foldl_append]; rfl
theorem accL_all {α : Type} (f : α → Nat → α) (a0 : α) (es : List Nat) : accL f a0 es es.length = es.foldl f a0 := by unfold accL; rw [List.take_length]
theorem accL_ind {α : Type} {f : α → Nat → α} {a0 : α} {es : List Nat} (I : α → Prop) (h0 : I a0) (hs : ∀ a m, m ∈ es → I a → I (f a m)) : ∀ k, I (accL f a0 es k)
  | 0 => h0
  | k + 1 => by
    cases h : es[k]? with
    | some m => rw [accL_succ h]; exact hs _ _ (List.mem_of_getElem? h) (accL_ind I h0 hs k)
    | none =>
      have e : accL f a0 es (k + 1) = accL f a0 es k := by
        unfold accL
        rw [List.getElem?_eq_none_iff] at h
        rw [List.take_of_length_le (by omega), List.take_of_length_le h]
      rw [e]; exact accL_ind I h0 hs k
def placesQ (q : Task → Bool) (l : List Task) : List Nat := (List.range l.length).filter fun m => q (atI l (m : Int))
theorem elems_places (q : Task → Bool) {l : List Task} (hn : l.length ≤ 1024) : elemsFrom (thoseW q l l.length) 0 = placesQ q l :=
  elems_those hn fun m => thoseW_mem q l l.length hn m
theorem mem_places {q : Task → Bool} {l : List Task} {m : Nat} (h : m ∈ placesQ q l) : m < l.length := List.mem_range.1 (List.mem_filter.1 h).1
def bstep (l : List Task) (a : Int) (m : Nat) : Int := max a ((atI l (m : Int)).Q - 1)
theorem block_fold (l : List Task) (i : Int) : accL (bstep l) 0 (placesQ (lowerQ l i) l) (placesQ (lowerQ l i) l).length = blockN l i l.length := by
  rw [accL_all]
  exact fold_those (blockN l i) rfl (fun k => by show (if _ then _ else _) = _; simp only [lowerQ, decide_eq_true_eq]; rfl) _
theorem blockD (hE : Laid E) (hZ : LaidTz E G) {h : Heap} (ht : Tab G h) {vl : Value} {l : List Task} (hl : Rd 7 encT h vl l) (hs : ∀ t ∈ l, t.name.size < 1152921504606846976) (i : Int) :
    callW E (.func (.func n_demand_Block) #[] #[]) [vl, .int .i64 i] h = some (.int .i64 (blockP l i), h, []) := by
  have hi := fun x => isDem hE (hl.app x) hs i
  have hc := hl.cv
  have ho := hl.one
  refine fn_same hE.demand_Block rfl (by simp) ?_
  simp only [argsF]
  unfold blockP
  cases hb : isP l i
  · rw [hb] at hi
    (repeat' (first | (with_reducible refine A1 (fun _ => ?_) (fun _ => ?_) <;> try (exfalso; omega)) | (with_reducible refine A2 (fun _ => ?_) (fun _ => ?_) <;> try (exfalso; omega)) | (with_reducible refine A3 (fun _ => ?_) (fun _ => ?_) <;> try (exfalso; omega)) | refine A4 (fun _ => ?_) (fun _ => ?_) | refine A5 (fun _ => ?_) (fun _ => ?_) | refine A6 (fun _ => ?_) (fun _ => ?_) | simp -dsimp (disch := omega) only [↓EA, EB, Nat.reduceEqDiff, Nat.reduceAdd, Nat.reduceLeDiff, Nat.reduceMul, ↓reduceIte, reduceCtorEq, newCells, bslV, eq_self, *]))
  · rw [hb] at hi
    obtain ⟨hi2, hlen, hok⟩ := isP_ok hb
    have q := fun x => lowerT hE (hl.app x) hi2 hlen
    have ok := thoseW_ok (lowerQ l i) l l.length
    have ev := elems_places (lowerQ l i) hlen
    have Hf := Hid.mk (block_fold l i)
    have Hm := Hid.mk (fun m (h : m ∈ placesQ (lowerQ l i) l) => mem_places h)
    generalize placesQ (lowerQ l i) l = es at *
    generalize thoseW (lowerQ l i) l l.length = w at *
    rw [if_pos rfl]
    (repeat' (first | (with_reducible refine A1 (fun _ => ?_) (fun _ => ?_) <;> try (exfalso; omega)) | (with_reducible refine A2 (fun _ => ?_) (fun _ => ?_) <;> try (exfalso; omega)) | (with_reducible refine A3 (fun _ => ?_) (fun _ => ?_) <;> try (exfalso; omega)) | refine A4 (fun _ => ?_) (fun _ => ?_) | refine A5 (fun _ => ?_) (fun _ => ?_) | refine A6 (fun _ => ?_) (fun _ => ?_) | simp -dsimp (disch := omega) only [↓EA, EB, Nat.reduceEqDiff, Nat.reduceAdd, Nat.reduceLeDiff, Nat.reduceMul, ↓reduceIte, reduceCtorEq, newCells, bslV, eq_self, *]))
    refine wx_new (allS hE _ ok) fun v ys hr hpre => ?_
    obtain ⟨bx, rfl, hge, hbx⟩ := hr
    (repeat' (first | (with_reducible refine A1 (fun _ => ?_) (fun _ => ?_) <;> try (exfalso; omega)) | (with_reducible refine A2 (fun _ => ?_) (fun _ => ?_) <;> try (exfalso; omega)) | (with_reducible refine A3 (fun _ => ?_) (fun _ => ?_) <;> try (exfalso; omega)) | refine A4 (fun _ => ?_) (fun _ => ?_) | refine A5 (fun _ => ?_) (fun _ => ?_) | refine A6 (fun _ => ?_) (fun _ => ?_) | simp -dsimp (disch := omega) only [↓EA, EB, Nat.reduceEqDiff, Nat.reduceAdd, Nat.reduceLeDiff, Nat.reduceMul, ↓reduceIte, reduceCtorEq, newCells, bslV, eq_self, *]))
    simp only [List.append_assoc, List.cons_append, List.nil_append, List.length_append, List.length_cons, List.length_nil] at hbx hge
    have hbxl := (List.getElem?_eq_some_iff.1 hbx).1
    have hpH : Pre h (h ++ LObj.cells [vl] false :: LObj.cells [Value.int IntKind.i64 0] false :: ys) := Pre.app h _
    have hbt : ∀ m, m ∈ es → 1 ≤ (atI l (m : Int)).Q ∧ (atI l (m : Int)).Q ≤ 2147483647 := fun m hm => by
      have hml := Hm.out m hm
      have := (hok _ (atI_mem (l := l) (i := (m : Int)) (by omega) (by omega))).1
      simp only [rangesB] at this; omega
    have hac : ∀ k, 0 ≤ accL (bstep l) 0 es k ∧ accL (bstep l) 0 es k ≤ 2147483647 := accL_ind (fun a => 0 ≤ a ∧ a ≤ 2147483647) ⟨by decide, by decide⟩ (fun a m hm ⟨h1, h2⟩ => by
      have := hbt m hm
      unfold bstep; omega)
    refine co_iter1 hE.keep rfl (all_iter hE hZ ok bx) (c := h.length + 1) (by simp) (by omega) (fun k => .int .i64 (accL (bstep l) 0 es k)) (fun _ => rfl) (by rw [geta]; rfl) rfl (fun hh e1 e2 => ⟨by rw [e2 bx hbxl (by omega)]; exact hbx, ht.pre fun b o hb => by have hlt := (List.getElem?_eq_some_iff.1 hb).1; rw [e2 b (by simp; omega) (by omega)]; exact hpH b o hb⟩) ?_ ?_
    · intro k a ha
      rw [ev, List.getElem?_map] at ha
      obtain ⟨m, hm, rfl⟩ := Option.map_eq_some_iff.1 ha
      have hmem := List.mem_of_getElem? hm
      have hml := Hm.out m hmem
      have hq := hbt m hmem
      have hsucc := Hid.mk (accL_succ (f := bstep l) (a0 := 0) hm)
      have hak := hac k
      clear ha hm hac hbt Hf ev ok q hi hb hok
      refine ⟨_, rfl, fun hh g1 g2 g3 => ?_⟩
      unfold c_demand_Block_l0
      (repeat' (first | (with_reducible refine A1 (fun _ => ?_) (fun _ => ?_) <;> try (exfalso; omega)) | (with_reducible refine A2 (fun _ => ?_) (fun _ => ?_) <;> try (exfalso; omega)) | (with_reducible refine A3 (fun _ => ?_) (fun _ => ?_) <;> try (exfalso; omega)) | refine A4 (fun _ => ?_) (fun _ => ?_) | refine A5 (fun _ => ?_) (fun _ => ?_) | refine A6 (fun _ => ?_) (fun _ => ?_) | simp -dsimp (disch := omega) only [↓EA, EB, Nat.reduceEqDiff, Nat.reduceAdd, Nat.reduceLeDiff, Nat.reduceMul, ↓reduceIte, reduceCtorEq, newCells, bslV, eq_self, *]))
      refine ⟨[], (List.append_nil _).symm, fun hh2 k1 k2 k3 => ?_⟩
      have hp2 : Pre h hh2 := fun b o hb => by
        have hlt := (List.getElem?_eq_some_iff.1 hb).1
        rw [k3 b (by omega) (by omega)]; exact hpH b o hb
      have hl2 := hl.pre hp2
      have b1 : hh2[h.length]? = some (.cells [vl] false) := by rw [k3 h.length (by omega) (by omega), geta0]; rfl
      generalize accL (bstep l) 0 es k = A at *
      have Hb := Hid.mk (show bstep l A m = max A ((atI l (m : Int)).Q - 1) from rfl)
      unfold c_demand_Block_l1
      (repeat' (first | (with_reducible refine A1 (fun _ => ?_) (fun _ => ?_) <;> try (exfalso; omega)) | (with_reducible refine A2 (fun _ => ?_) (fun _ => ?_) <;> try (exfalso; omega)) | (with_reducible refine A3 (fun _ => ?_) (fun _ => ?_) <;> try (exfalso; omega)) | refine A4 (fun _ => ?_) (fun _ => ?_) | refine A5 (fun _ => ?_) (fun _ => ?_) | refine A6 (fun _ => ?_) (fun _ => ?_) | simp -dsimp (disch := omega) only [↓EA, EB, Nat.reduceEqDiff, Nat.reduceAdd, Nat.reduceLeDiff, Nat.reduceMul, ↓reduceIte, reduceCtorEq, newCells, bslV, eq_self, *, hl2.len, hl2.ixs, hl2.ld, hl2.ld0, hl2.lda, hl2.ldx, hl2.ldx0, hl2.ldxa, encT, true_or]))
      exact ⟨[], by rw [List.append_nil, hsucc.out, Hb.out]⟩
    · rw [ev, List.length_map, Hf.out]
      clear Hf hac hbt ev
      (repeat' (first | (with_reducible refine A1 (fun _ => ?_) (fun _ => ?_) <;> try (exfalso; omega)) | (with_reducible refine A2 (fun _ => ?_) (fun _ => ?_) <;> try (exfalso; omega)) | (with_reducible refine A3 (fun _ => ?_) (fun _ => ?_) <;> try (exfalso; omega)) | refine A4 (fun _ => ?_) (fun _ => ?_) | refine A5 (fun _ => ?_) (fun _ => ?_) | refine A6 (fun _ => ?_) (fun _ => ?_) | simp -dsimp (disch := omega) only [↓EA, EB, Nat.reduceEqDiff, Nat.reduceAdd, Nat.reduceLeDiff, Nat.reduceMul, ↓reduceIte, reduceCtorEq, newCells, bslV, eq_self, *]))
def hstep (l : List Task) (w : Int) (a : Int) (m : Nat) : Int := sat (a + sat (oftenP (atI l (m : Int)) w * (atI l (m : Int)).C))
theorem higher_fold (l : List Task) (i w : Int) : accL (hstep l w) 0 (placesQ (higherQ l i) l) (placesQ (higherQ l i) l).length = higherN l i w l.length := by
  rw [accL_all]
  exact fold_those (higherN l i w) rfl (fun k => by show (if _ then _ else _) = _; simp only [higherQ, decide_eq_true_eq]; rfl) _
theorem higherD (hE : Laid E) (hX : LaidAdd E) (hZ : LaidTz E G) {h : Heap} (ht : Tab G h) {vl : Value} {l : List Task} (hl : Rd 7 encT h vl l) (hs : ∀ t ∈ l, t.name.size < 1152921504606846976) (i : Int) {w : Int} (hw : u64in w) :
    callW E (.func (.func n_demand_Higher) #[] #[]) [vl, .int .i64 i, .int .u64 w] h = some (.int .u64 (higherP l i w), h, []) := by
  have hi := fun x => isDem hE (hl.app x) hs i
  have hc := hl.cv
  have ho := hl.one
  refine fn_same hE.demand_Higher rfl (by simp) ?_
  simp only [argsF]
  have hw2 := hw
  unfold u64in at hw2
  unfold higherP
  by_cases hw0 : w = 0
  · subst hw0
    rw [if_neg (by omega)]
    (repeat' (first | (with_reducible refine A1 (fun _ => ?_) (fun _ => ?_) <;> try (exfalso; omega)) | (with_reducible refine A2 (fun _ => ?_) (fun _ => ?_) <;> try (exfalso; omega)) | (with_reducible refine A3 (fun _ => ?_) (fun _ => ?_) <;> try (exfalso; omega)) | refine A4 (fun _ => ?_) (fun _ => ?_) | refine A5 (fun _ => ?_) (fun _ => ?_) | refine A6 (fun _ => ?_) (fun _ => ?_) | simp -dsimp (disch := omega) only [↓EA, EB, Nat.reduceEqDiff, Nat.reduceAdd, Nat.reduceLeDiff, Nat.reduceMul, ↓reduceIte, reduceCtorEq, newCells, bslV, eq_self, *]))
  cases hb : isP l i
  · rw [hb] at hi
    rw [if_neg (by simp)]
    (repeat' (first | (with_reducible refine A1 (fun _ => ?_) (fun _ => ?_) <;> try (exfalso; omega)) | (with_reducible refine A2 (fun _ => ?_) (fun _ => ?_) <;> try (exfalso; omega)) | (with_reducible refine A3 (fun _ => ?_) (fun _ => ?_) <;> try (exfalso; omega)) | refine A4 (fun _ => ?_) (fun _ => ?_) | refine A5 (fun _ => ?_) (fun _ => ?_) | refine A6 (fun _ => ?_) (fun _ => ?_) | simp -dsimp (disch := omega) only [↓EA, EB, Nat.reduceEqDiff, Nat.reduceAdd, Nat.reduceLeDiff, Nat.reduceMul, ↓reduceIte, reduceCtorEq, newCells, bslV, eq_self, *]))
  · rw [hb] at hi
    obtain ⟨hi2, hlen, hok⟩ := isP_ok hb
    have q := fun x => higherT hE (hl.app x) hi2 hlen
    have ok := thoseW_ok (higherQ l i) l l.length
    have ev := elems_places (higherQ l i) hlen
    have Hf := Hid.mk (higher_fold l i w)
    have Hm := Hid.mk (fun m (h : m ∈ placesQ (higherQ l i) l) => mem_places h)
    generalize placesQ (higherQ l i) l = es at *
    generalize thoseW (higherQ l i) l l.length = wm at *
    rw [if_pos ⟨rfl, by omega⟩]
    (repeat' (first | (with_reducible refine A1 (fun _ => ?_) (fun _ => ?_) <;> try (exfalso; omega)) | (with_reducible refine A2 (fun _ => ?_) (fun _ => ?_) <;> try (exfalso; omega)) | (with_reducible refine A3 (fun _ => ?_) (fun _ => ?_) <;> try (exfalso; omega)) | refine A4 (fun _ => ?_) (fun _ => ?_) | refine A5 (fun _ => ?_) (fun _ => ?_) | refine A6 (fun _ => ?_) (fun _ => ?_) | simp -dsimp (disch := omega) only [↓EA, EB, Nat.reduceEqDiff, Nat.reduceAdd, Nat.reduceLeDiff, Nat.reduceMul, ↓reduceIte, reduceCtorEq, newCells, bslV, eq_self, *]))
    refine wx_new (allS hE _ ok) fun v ys hr hpre => ?_
    obtain ⟨bx, rfl, hge, hbx⟩ := hr
    (repeat' (first | (with_reducible refine A1 (fun _ => ?_) (fun _ => ?_) <;> try (exfalso; omega)) | (with_reducible refine A2 (fun _ => ?_) (fun _ => ?_) <;> try (exfalso; omega)) | (with_reducible refine A3 (fun _ => ?_) (fun _ => ?_) <;> try (exfalso; omega)) | refine A4 (fun _ => ?_) (fun _ => ?_) | refine A5 (fun _ => ?_) (fun _ => ?_) | refine A6 (fun _ => ?_) (fun _ => ?_) | simp -dsimp (disch := omega) only [↓EA, EB, Nat.reduceEqDiff, Nat.reduceAdd, Nat.reduceLeDiff, Nat.reduceMul, ↓reduceIte, reduceCtorEq, newCells, bslV, eq_self, *]))
    simp only [List.append_assoc, List.cons_append, List.nil_append, List.length_append, List.length_cons, List.length_nil] at hbx hge
    have hbxl := (List.getElem?_eq_some_iff.1 hbx).1
    have hpH : Pre h (h ++ LObj.cells [vl] false :: LObj.cells [Value.int IntKind.u64 w] false :: LObj.cells [Value.int IntKind.u64 0] false :: ys) := Pre.app h _
    have hbt : ∀ m, m ∈ es → okTask (atI l (m : Int)) := fun m hm => by
      have hml := Hm.out m hm
      exact hok _ (atI_mem (l := l) (i := (m : Int)) (by omega) (by omega))
    have hac : ∀ k, u64in (accL (hstep l w) 0 es k) := accL_ind u64in ⟨by decide, by decide⟩ (fun a m hm ha => by
      have htk := hbt m hm
      have h1 := (often_in htk hw).2
      have h2 := (ofBounds htk).1
      have h3 := sat_in (Int.mul_nonneg h1.1 (show 0 ≤ (atI l (m : Int)).C by omega))
      exact sat_in (by have := ha.1; have := h3.1; omega))
    refine co_iter1 hE.keep rfl (all_iter hE hZ ok bx) (c := h.length + 2) (by simp) (by omega) (fun k => .int .u64 (accL (hstep l w) 0 es k)) (fun _ => rfl) (by rw [geta]; rfl) rfl (fun hh e1 e2 => ⟨by rw [e2 bx hbxl (by omega)]; exact hbx, ht.pre fun b o hb => by have hlt := (List.getElem?_eq_some_iff.1 hb).1; rw [e2 b (by simp; omega) (by omega)]; exact hpH b o hb⟩) ?_ ?_
    · intro k a ha
      rw [ev, List.getElem?_map] at ha
      obtain ⟨m, hm, rfl⟩ := Option.map_eq_some_iff.1 ha
      have hmem := List.mem_of_getElem? hm
      have hml := Hm.out m hmem
      have hq := hbt m hmem
      have hsucc := Hid.mk (accL_succ (f := hstep l w) (a0 := 0) hm)
      have hak := hac k
      clear ha hm hac hbt Hf ev ok q hi hb hok
      refine ⟨_, rfl, fun hh g1 g2 g3 => ?_⟩
      unfold c_demand_Higher_l0
      (repeat' (first | (with_reducible refine A1 (fun _ => ?_) (fun _ => ?_) <;> try (exfalso; omega)) | (with_reducible refine A2 (fun _ => ?_) (fun _ => ?_) <;> try (exfalso; omega)) | (with_reducible refine A3 (fun _ => ?_) (fun _ => ?_) <;> try (exfalso; omega)) | refine A4 (fun _ => ?_) (fun _ => ?_) | refine A5 (fun _ => ?_) (fun _ => ?_) | refine A6 (fun _ => ?_) (fun _ => ?_) | simp -dsimp (disch := omega) only [↓EA, EB, Nat.reduceEqDiff, Nat.reduceAdd, Nat.reduceLeDiff, Nat.reduceMul, ↓reduceIte, reduceCtorEq, newCells, bslV, eq_self, *]))
      refine ⟨[], (List.append_nil _).symm, fun hh2 k1 k2 k3 => ?_⟩
      have hp2 : Pre h hh2 := fun b o hb => by
        have hlt := (List.getElem?_eq_some_iff.1 hb).1
        rw [k3 b (by omega) (by omega)]; exact hpH b o hb
      have hl2 := hl.pre hp2
      have b1 : hh2[h.length]? = some (.cells [vl] false) := by rw [k3 h.length (by omega) (by omega), geta0]; rfl
      have b2 : hh2[h.length + 1]? = some (.cells [.int .u64 w] false) := by rw [k3 (h.length + 1) (by omega) (by omega), geta]; rfl
      obtain ⟨hC, hT, hJ⟩ := ofBounds hq
      have q1 := fun x => often13 hE hX (hh2 ++ x) hq hw
      have o2 := (often_in hq hw).2
      have hcu : u64in (atI l (m : Int)).C := by unfold u64in; omega
      have q2 := fun x => numTimes hE (hh2 ++ x) o2 hcu
      have hsi := sat_in (Int.mul_nonneg o2.1 hcu.1)
      generalize accL (hstep l w) 0 es k = A at *
      have Hb := Hid.mk (show hstep l w A m = sat (A + sat (oftenP (atI l (m : Int)) w * (atI l (m : Int)).C)) from rfl)
      generalize oftenP (atI l (m : Int)) w = O at *
      generalize sat (O * (atI l (m : Int)).C) = S at *
      have q3 := numSum hE hX (h := hh2 ++ [LObj.cells [.int .u64 S] false]) (vl := .slice (some ⟨hh2.length, 0, none⟩) 1 1) (l := [S]) (Rd.lit (enc := encU) [S] (by rw [geta0]; rfl) rfl (fun _ => rfl) (by simp) (by simp) (.inl rfl)) hak (fun x hx => by rw [List.mem_singleton.1 hx]; exact hsi)
      have e3 : sumU A [S] = sat (A + S) := rfl
      rw [e3] at q3
      have k1a : h.length + 3 ≤ hh2.length := by omega
      have k1b : h.length + (ys.length + 3) < hh2.length := by omega
      clear k1 hq hw hcu hak hsi o2 hpre g1 g2 g3 k3
      simp only [encT] at q1
      have b1x : ∀ x, (hh2 ++ x)[h.length]? = some (.cells [vl] false) := fun x => by rw [List.getElem?_append_left (by omega)]; exact b1
      have b2x : ∀ x, (hh2 ++ x)[h.length + 1]? = some (.cells [.int .u64 w] false) := fun x => by rw [List.getElem?_append_left (by omega)]; exact b2
      have b3x : ∀ x, (hh2 ++ x)[h.length + 2]? = some (.cells [.int .u64 A] false) := fun x => by rw [List.getElem?_append_left (by omega)]; exact k2
      have b4x : ∀ x o, (hh2 ++ x).set (h.length + 2) o = hh2.set (h.length + 2) o ++ x := fun x o => by rw [List.set_append_left _ _ (by omega)]
      rw [List.append_nil]
      unfold c_demand_Higher_l1
      (repeat' (first | (with_reducible refine A1 (fun _ => ?_) (fun _ => ?_) <;> try (exfalso; omega)) | (with_reducible refine A2 (fun _ => ?_) (fun _ => ?_) <;> try (exfalso; omega)) | (with_reducible refine A3 (fun _ => ?_) (fun _ => ?_) <;> try (exfalso; omega)) | refine A4 (fun _ => ?_) (fun _ => ?_) | refine A5 (fun _ => ?_) (fun _ => ?_) | refine A6 (fun _ => ?_) (fun _ => ?_) | simp -dsimp (disch := omega) only [↓EA, EB, Nat.reduceEqDiff, Nat.reduceAdd, Nat.reduceLeDiff, Nat.reduceMul, ↓reduceIte, reduceCtorEq, newCells, bslV, eq_self, *, hl2.len, hl2.ixs, hl2.ld, hl2.ld0, hl2.lda, hl2.ldx, hl2.ldx0, hl2.ldxa, encT, true_or, WL_ptr, b1x, b2x, b3x, b4x]))
      exact ⟨_, by rw [hsucc.out, Hb.out]⟩
    · rw [ev, List.length_map, Hf.out]
      clear Hf hac hbt ev
      (repeat' (first | (with_reducible refine A1 (fun _ => ?_) (fun _ => ?_) <;> try (exfalso; omega)) | (with_reducible refine A2 (fun _ => ?_) (fun _ => ?_) <;> try (exfalso; omega)) | (with_reducible refine A3 (fun _ => ?_) (fun _ => ?_) <;> try (exfalso; omega)) | refine A4 (fun _ => ?_) (fun _ => ?_) | refine A5 (fun _ => ?_) (fun _ => ?_) | refine A6 (fun _ => ?_) (fun _ => ?_) | simp -dsimp (disch := omega) only [↓EA, EB, Nat.reduceEqDiff, Nat.reduceAdd, Nat.reduceLeDiff, Nat.reduceMul, ↓reduceIte, reduceCtorEq, newCells, bslV, eq_self, *]))
theorem needD (hE : Laid E) (hX : LaidAdd E) (hZ : LaidTz E G) {h : Heap} (ht : Tab G h) {vl : Value} {l : List Task} (hl : Rd 7 encT h vl l) (hs : ∀ t ∈ l, t.name.size < 1152921504606846976) (i : Int) {w : Int} (hw : u64in w) :
    callW E (.func (.func n_demand_Need) #[] #[]) [vl, .int .i64 i, .int .u64 w] h = some (.int .u64 (needP l i w), h, []) := by
  have hi := isDem hE hl hs i
  refine fn_same hE.demand_Need rfl (by simp) ?_
  simp only [argsF]
  unfold needP
  cases hb : isP l i
  · rw [hb] at hi
    (repeat' (first | (with_reducible refine A1 (fun _ => ?_) (fun _ => ?_) <;> try (exfalso; omega)) | (with_reducible refine A2 (fun _ => ?_) (fun _ => ?_) <;> try (exfalso; omega)) | (with_reducible refine A3 (fun _ => ?_) (fun _ => ?_) <;> try (exfalso; omega)) | refine A4 (fun _ => ?_) (fun _ => ?_) | refine A5 (fun _ => ?_) (fun _ => ?_) | refine A6 (fun _ => ?_) (fun _ => ?_) | simp -dsimp (disch := omega) only [↓EA, EB, Nat.reduceEqDiff, Nat.reduceAdd, Nat.reduceLeDiff, Nat.reduceMul, ↓reduceIte, reduceCtorEq, newCells, bslV, eq_self, *]))
  · rw [hb] at hi
    have q1 := fun x => blockD hE hZ (ht.app x) (hl.app x) hs i
    have q2 := fun x => higherD hE hX hZ (ht.app x) (hl.app x) hs i hw
    obtain ⟨hi2, hlen, hok⟩ := isP_ok hb
    have htk := hok _ (atI_mem hi2.1 hi2.2)
    obtain ⟨hC, hT, hJ⟩ := ofBounds htk
    have hbi := blockP_in hb
    have hhi : u64in (higherP l i w) := higherP_in hw
    clear hb htk hok
    generalize blockP l i = B at *
    generalize higherP l i w = Hi at *
    have q3 := numSum hE hX (h := h ++ [LObj.cells [.int .u64 B, .int .u64 Hi] false]) (vl := .slice (some ⟨h.length, 0, none⟩) 2 2) (l := [B, Hi]) (Rd.lit (enc := encU) [B, Hi] (by rw [geta0]; rfl) rfl (fun _ => rfl) (by simp) (by simp) (.inl rfl)) (s := (atI l i).C) (by unfold u64in; omega) (fun x hx => by
      simp only [List.mem_cons, List.not_mem_nil, or_false] at hx
      rcases hx with rfl | rfl
      · unfold u64in; omega
      · exact hhi)
    have e3 : sumU 0 [(atI l i).C, B, Hi] = sumU (atI l i).C [B, Hi] := by
      show sat (sat (sat (0 + (atI l i).C) + B) + Hi) = sat (sat ((atI l i).C + B) + Hi)
      have : sat (0 + (atI l i).C) = (atI l i).C := by unfold sat; rw [if_pos (by omega)]; omega
      rw [this]
    rw [if_pos rfl, e3]
    have hblk : blk vl < h.length := hl.lt' (by
      rintro rfl
      have := hl.len
      simp only [lens_slice, Option.some.injEq, Value.int.injEq, true_and] at this
      omega)
    generalize sumU (atI l i).C [B, Hi] = S at *
    clear hhi hw e3
    (repeat' (first | (with_reducible refine A1 (fun _ => ?_) (fun _ => ?_) <;> try (exfalso; omega)) | (with_reducible refine A2 (fun _ => ?_) (fun _ => ?_) <;> try (exfalso; omega)) | (with_reducible refine A3 (fun _ => ?_) (fun _ => ?_) <;> try (exfalso; omega)) | refine A4 (fun _ => ?_) (fun _ => ?_) | refine A5 (fun _ => ?_) (fun _ => ?_) | refine A6 (fun _ => ?_) (fun _ => ?_) | simp -dsimp (disch := omega) only [↓EA, EB, Nat.reduceEqDiff, Nat.reduceAdd, Nat.reduceLeDiff, Nat.reduceMul, ↓reduceIte, reduceCtorEq, newCells, bslV, eq_self, *, hl.len, hl.ixs, hl.ld, hl.ld0, hl.lda, hl.ldx, hl.ldx0, hl.ldxa, encT, true_or, WL_ptr]))
end Go.L.Try
namespace Go.L.Try
open Go Go.L
variable {E : Env} {G : Nat}
theorem eachN_head (l : List Task) (i : Int) (n : Nat) (w : Int) : ∃ r, eachN l i n w = w :: r := by
  cases n with
  | zero => exact ⟨[], rfl⟩
  | succ n => unfold eachN; split <;> exact ⟨_, rfl⟩
def uV (w : Int) : List Value := [.int .u64 w]
theorem each_iter (hE : Laid E) (hX : LaidAdd E) (hZ : LaidTz E G) {vl : Value} {l : List Task} (hs : ∀ t ∈ l, t.name.size < 1152921504606846976) (i : Int) (b1 b2 : Nat) :
    IterOK E (.func (.func n_rta_Each_f1) #[] #[.pointer (some ⟨b1, 0, none⟩), .pointer (some ⟨b2, 0, none⟩)]) (fun h => (h[b1]? = some (.cells [vl] false) ∧ h[b2]? = some (.cells [.int .i64 i] false)) ∧ Rd 7 encT h vl l ∧ Tab G h) ((eachP l i).map uV) := by
  intro h1 L W J Stop hJ h0 hS step
  refine fn_eff hE.keep hE.rta_Each_f1 rfl (by simp) ?_
  obtain ⟨_, ⟨hb1, hb2⟩, hl, ht⟩ := hJ 0 h1 h0
  have hi := isRta hE hl hs i
  simp only [List.cons_append, List.nil_append, argsF]
  have HJ := Hid.mk hJ
  have HS := Hid.mk hS
  have Hst := Hid.mk step
  have H0 := Hid.mk h0
  clear hJ hS step h0
  cases hb : isP l i
  · rw [hb] at hi
    have e : eachP l i = [] := by unfold eachP; rw [hb]; rfl
    rw [e]
    have H0' := H0.out
    clear H0 HJ HS Hst
    have H0 := Hid.mk H0'
    clear H0'
    (repeat' (first | (with_reducible refine A1 (fun _ => ?_) (fun _ => ?_) <;> try (exfalso; omega)) | (with_reducible refine A2 (fun _ => ?_) (fun _ => ?_) <;> try (exfalso; omega)) | (with_reducible refine A3 (fun _ => ?_) (fun _ => ?_) <;> try (exfalso; omega)) | refine A4 (fun _ => ?_) (fun _ => ?_) | refine A5 (fun _ => ?_) (fun _ => ?_) | refine A6 (fun _ => ?_) (fun _ => ?_) | simp -dsimp (disch := omega) only [↓EA, EB, Nat.reduceEqDiff, Nat.reduceAdd, Nat.reduceLeDiff, Nat.reduceMul, ↓reduceIte, reduceCtorEq, newCells, bslV, eq_self, *]))
    exact .inl H0.out
  · rw [hb] at hi
    obtain ⟨hi2, hlen, hok⟩ := isP_ok hb
    have hm := mostP_in hb
    have htk := (hok _ (atI_mem hi2.1 hi2.2)).1
    simp only [rangesB] at htk
    have hD := htk.2.2.2.2.1
    have hJt := htk.2.2.2.2.2.2.1
    have hmd : mostP l i = (atI l i).D - (atI l i).J := rfl
    have z0 : u64in 0 := ⟨by decide, by decide⟩
    have q0 := needD hE hX hZ ht hl hs i z0
    obtain ⟨u0, u1⟩ := needP_in hb z0
    have u2 := needP_mono hb z0 u0.1
    have ev : eachP l i = eachN l i ((mostP l i).toNat + 1) (needP l i 0) := by unfold eachP; rw [hb]; rfl
    generalize hvals : (eachP l i).map uV = vals at *
    rw [ev] at hvals
    generalize hN0 : needP l i 0 = N0 at *
    have Hvals := Hid.mk hvals
    have Hmd := Hid.mk hmd
    have Hb := Hid.mk hb
    clear hok htk hvals ev hN0 hb
    generalize hmost : mostP l i = most at *
    (repeat' (first | (with_reducible refine A1 (fun _ => ?_) (fun _ => ?_) <;> try (exfalso; omega)) | (with_reducible refine A2 (fun _ => ?_) (fun _ => ?_) <;> try (exfalso; omega)) | (with_reducible refine A3 (fun _ => ?_) (fun _ => ?_) <;> try (exfalso; omega)) | refine A4 (fun _ => ?_) (fun _ => ?_) | refine A5 (fun _ => ?_) (fun _ => ?_) | refine A6 (fun _ => ?_) (fun _ => ?_) | simp -dsimp (disch := omega) only [↓EA, EB, Nat.reduceEqDiff, Nat.reduceAdd, Nat.reduceLeDiff, Nat.reduceMul, ↓reduceIte, reduceCtorEq, newCells, bslV, eq_self, *, hl.len, hl.ixs, hl.ld, hl.ld0, hl.lda, hl.ldx, hl.ldx0, hl.ldxa, encT]))
    rw [← Hmd.out]
    clear hmd
    refine WO.loop (α := List Int × Int) (fun s fr h' => J s.1.length h' ∧ get fr 0 = .func (.yield L) #[] #[] ∧ get fr 1 = .pointer (some ⟨b1, 0, none⟩) ∧ get fr 2 = .pointer (some ⟨b2, 0, none⟩) ∧ get fr 4 = .int .u64 most ∧ get fr 5 = .int .u64 s.2 ∧ u64in s.2 ∧ s.2 ≤ needP l i s.2 ∧ ∃ k, eachN l i (most.toNat + 1) N0 = s.1 ++ eachN l i k s.2 ∧ (most + 1 - s.2).toNat ≤ k) (fun s => (most + 1 - s.2).toNat) ?_ ([], N0) ⟨H0.out, rfl, rfl, rfl, rfl, rfl, u0, u2, most.toNat + 1, rfl, by simp only []; omega⟩
    rintro ⟨pre, w⟩ fr h' ⟨hj, g0, g1, g2, g4, g5, hu, hle, k, hk, hkb⟩
    dsimp only at hj hu hle hk hkb g5
    unfold c_rta_Each_f1_l0
    have Hhead := eachN_head l i k w
    obtain ⟨rest, hrest⟩ := Hhead
    have hv : vals[pre.length]? = some (uV w) := by
      rw [← Hvals.out, List.getElem?_map, hk, hrest, List.getElem?_append_right (Nat.le_refl _), Nat.sub_self]; rfl
    have hst := Hid.mk (Hst.out pre.length h' _ hv hj)
    have Hlen := Hid.mk (HJ.out pre.length h' hj).1
    have Hk := Hid.mk hk
    have Hj := Hid.mk hj
    have hstep : ∀ m, eachN l i (m + 1) w = if most < w ∨ needP l i w = w then [w] else w :: eachN l i m (needP l i w) := fun m => by rw [← hmost]; rfl
    have Hstep := Hid.mk hstep
    have hend : eachN l i k w = [w] → vals.length = pre.length + 1 := fun e => by rw [← Hvals.out, hk, e]; simp
    have Hend := Hid.mk hend
    have Hle := Hid.mk hle
    have hsing : most < w ∨ needP l i w = w → eachN l i k w = [w] := fun e => by
      cases k with
      | zero => rfl
      | succ m => rw [hstep, if_pos e]
    have Hsing := Hid.mk hsing
    have Hmost := Hid.mk hmost
    clear hk hv hj hstep hend hrest H0 q0 u0 u1 u2 hi hb1 hb2 hle hsing Hst hmost z0
    unfold uV at hst
    (repeat' (first | (with_reducible refine A1 (fun _ => ?_) (fun _ => ?_) <;> try (exfalso; omega)) | (with_reducible refine A2 (fun _ => ?_) (fun _ => ?_) <;> try (exfalso; omega)) | (with_reducible refine A3 (fun _ => ?_) (fun _ => ?_) <;> try (exfalso; omega)) | refine A4 (fun _ => ?_) (fun _ => ?_) | refine A5 (fun _ => ?_) (fun _ => ?_) | refine A6 (fun _ => ?_) (fun _ => ?_) | simp -dsimp (disch := omega) only [↓EA, EB, Nat.reduceEqDiff, Nat.reduceAdd, Nat.reduceLeDiff, Nat.reduceMul, ↓reduceIte, reduceCtorEq, newCells, bslV, eq_self, *]))
    refine WX.mono hst.out (fun b h => h) fun v h2 hx => ?_
    rcases hx with ⟨rfl, hj2⟩ | ⟨rfl, hs2⟩
    · obtain ⟨hlen2, ⟨c1, c2⟩, hl2, ht2⟩ := HJ.out (pre.length + 1) h2 hj2
      have q := needD hE hX hZ ht2 hl2 hs i hu
      obtain ⟨n0, _⟩ := needP_in Hb.out hu
      have n1 := needP_mono Hb.out hu Hle.out
      have Hj2 := Hid.mk hj2
      have Hn1 := Hid.mk n1
      have Hlen2 := Hid.mk hlen2
      have Hn0 := Hid.mk n0
      have Hu := Hid.mk hu
      clear hj2 hst n1 hlen2 hl2 ht2
      generalize hN : needP l i w = N at *
      have HN := Hid.mk hN
      clear hN
      unfold u64in at hu n0
      have e2 : vals.length = pre.length + 1 → J vals.length h2 := fun e => by rw [e]; exact Hj2.out
      have E2 := Hid.mk e2
      clear e2
      (repeat' (first | (with_reducible refine A1 (fun _ => ?_) (fun _ => ?_) <;> try (exfalso; omega)) | (with_reducible refine A2 (fun _ => ?_) (fun _ => ?_) <;> try (exfalso; omega)) | (with_reducible refine A3 (fun _ => ?_) (fun _ => ?_) <;> try (exfalso; omega)) | refine A4 (fun _ => ?_) (fun _ => ?_) | refine A5 (fun _ => ?_) (fun _ => ?_) | refine A6 (fun _ => ?_) (fun _ => ?_) | simp -dsimp (disch := omega) only [↓EA, EB, Nat.reduceEqDiff, Nat.reduceAdd, Nat.reduceLeDiff, Nat.reduceMul, ↓reduceIte, reduceCtorEq, newCells, bslV, eq_self, *]))
      · exact ⟨Hlen2.out, .inl (E2.out (Hend.out (Hsing.out (.inr (by assumption)))))⟩
      · obtain ⟨k', rfl⟩ : ∃ k', k = k' + 1 := ⟨k - 1, by omega⟩
        have hlt := Hle.out
        refine Next.mk (pre ++ [w], N) ⟨by simpa using Hj2.out, rfl, rfl, rfl, rfl, rfl, Hn0.out, Hn1.out, k', ?_, by simp only []; omega⟩ (by simp only []; omega)
        rw [Hk.out, Hstep.out, if_neg (by omega)]; simp
      · exact ⟨Hlen2.out, .inl (E2.out (Hend.out (Hsing.out (.inl (by omega)))))⟩
    · have Hs2 := Hid.mk hs2
      clear hs2 hst
      (repeat' (first | (with_reducible refine A1 (fun _ => ?_) (fun _ => ?_) <;> try (exfalso; omega)) | (with_reducible refine A2 (fun _ => ?_) (fun _ => ?_) <;> try (exfalso; omega)) | (with_reducible refine A3 (fun _ => ?_) (fun _ => ?_) <;> try (exfalso; omega)) | refine A4 (fun _ => ?_) (fun _ => ?_) | refine A5 (fun _ => ?_) (fun _ => ?_) | refine A6 (fun _ => ?_) (fun _ => ?_) | simp -dsimp (disch := omega) only [↓EA, EB, Nat.reduceEqDiff, Nat.reduceAdd, Nat.reduceLeDiff, Nat.reduceMul, ↓reduceIte, reduceCtorEq, newCells, bslV, eq_self, *]))
      first
        | exact ⟨HS.out _ Hs2.out, .inr Hs2.out⟩
        | exact .inr Hs2.out
def EachV (m : Nat) (vl : Value) (l : List Task) (i : Int) : Heap → Value → Prop := Clo2 m n_rta_Each_f1 (fun h v => v = vl ∧ Rd 7 encT h vl l) (fun _ v => v = .int .i64 i)
theorem eachS (hE : Laid E) {h : Heap} {vl : Value} {l : List Task} (hl : Rd 7 encT h vl l) (i : Int) :
    ∃ v ys, callW E (.func (.func n_rta_Each) #[] #[]) [vl, .int .i64 i] h = some (v, h ++ ys, []) ∧ EachV h.length vl l i (h ++ ys) v := by
  refine fn_new hE.rta_Each rfl (Clo2.movable (hl.old_movable flatT) (movable_eq rfl)) (by simp) ?_
  have hc := hl.cv
  have ho := hl.one
  simp only [argsF]
  (repeat' (first | (with_reducible refine A1 (fun _ => ?_) (fun _ => ?_) <;> try (exfalso; omega)) | (with_reducible refine A2 (fun _ => ?_) (fun _ => ?_) <;> try (exfalso; omega)) | (with_reducible refine A3 (fun _ => ?_) (fun _ => ?_) <;> try (exfalso; omega)) | refine A4 (fun _ => ?_) (fun _ => ?_) | refine A5 (fun _ => ?_) (fun _ => ?_) | refine A6 (fun _ => ?_) (fun _ => ?_) | simp -dsimp (disch := omega) only [↓EA, EB, Nat.reduceEqDiff, Nat.reduceAdd, Nat.reduceLeDiff, Nat.reduceMul, ↓reduceIte, reduceCtorEq, newCells, bslV, eq_self, *]))
  exact ⟨⟨_, rfl⟩, _, _, _, _, rfl, ⟨Nat.le_refl _, by omega⟩, ⟨by rw [geta0]; rfl, by rw [geta]; rfl⟩, ⟨rfl, hl.app _⟩, rfl⟩
def lastK (es : List Int) (k : Nat) : Int := if k = 0 then 0 else es.getD (k - 1) 0
theorem lastK_succ {es : List Int} {k : Nat} {w : Int} (h : es[k]? = some w) : lastK es (k + 1) = w := by
  unfold lastK
  rw [if_neg (by omega), Nat.add_sub_cancel, List.getD_eq_getElem?_getD, h]; rfl
theorem least_none {l : List Task} {i : Int} : ∀ (n : Nat) (w : Int), (∀ v, w ≤ v → v < w + n → v < needP l i v) → leastN l i n w = none
  | 0, _, _ => rfl
  | n + 1, w, h => by
    have h1 := h w (Int.le_refl _) (by omega)
    unfold leastN
    rw [if_neg (by omega)]
    exact least_none n (w + 1) fun v a b => h v (by omega) (by omega)
theorem least_some {l : List Task} {i w0 : Int} (hw : needP l i w0 ≤ w0) : ∀ (n : Nat) (w : Int), w ≤ w0 → w0 < w + n → (∀ v, w ≤ v → v < w0 → v < needP l i v) → leastN l i n w = some w0
  | 0, w, h1, h2, _ => by omega
  | n + 1, w, h1, h2, h => by
    unfold leastN
    by_cases e : w = w0
    · subst e; rw [if_pos hw]
    · have := h w (Int.le_refl _) (by omega)
      rw [if_neg (by omega)]
      exact least_some hw n (w + 1) (by omega) (by omega) fun v a b => h v (by omega) b
theorem eachN_last {l : List Task} {i : Int} (hb : isP l i = true) : ∀ (n : Nat) (w : Int), (mostP l i + 1 - w).toNat ≤ n → u64in w → 1 ≤ w → w ≤ needP l i w → (∀ v, 1 ≤ v → v < w → v < needP l i v) →
    ∃ z, (eachN l i n w).getLast? = some z ∧ u64in z ∧ 1 ≤ z ∧ (z ≤ mostP l i → needP l i z = z) ∧ ∀ v, 1 ≤ v → v < z → v < needP l i v
  | 0, w, hn, hu, h1, hle, hv => ⟨w, rfl, hu, h1, fun h => by omega, hv⟩
  | n + 1, w, hn, hu, h1, hle, hv => by
    unfold eachN
    by_cases h : mostP l i < w ∨ needP l i w = w
    · rw [if_pos h]
      exact ⟨w, rfl, hu, h1, fun hz => by rcases h with h | h; omega; exact h, hv⟩
    · rw [if_neg h]
      have h2 := (needP_in hb hu).1
      obtain ⟨z, e, hz⟩ := eachN_last hb n (needP l i w) (by omega) h2 (by omega) (needP_mono hb hu hle) (fun v a b => by
        rcases Int.lt_or_le v w with hc | hc
        · exact hv v a hc
        · have := needP_mono hb hu hc; omega)
      refine ⟨z, ?_, hz⟩
      obtain ⟨r, er⟩ := eachN_head l i n (needP l i w)
      rw [er] at e ⊢
      rw [List.getLast?_cons_cons]; exact e
theorem eachP_last {l : List Task} {i : Int} (hb : isP l i = true) : ∃ z, (eachP l i).getLast? = some z ∧ u64in z ∧ 1 ≤ z ∧ (z ≤ mostP l i → leastP l i = some z) ∧ (mostP l i < z → leastP l i = none) := by
  have z0 : u64in 0 := ⟨by decide, by decide⟩
  obtain ⟨u0, u1⟩ := needP_in hb z0
  have hm := mostP_in hb
  obtain ⟨z, h1, h2, h3, h4, h5⟩ := eachN_last hb ((mostP l i).toNat + 1) (needP l i 0) (by omega) u0 u1 (needP_mono hb z0 u0.1) (fun v a b => by have := needP_mono hb z0 (show 0 ≤ v by omega); omega)
  have ev : eachP l i = eachN l i ((mostP l i).toNat + 1) (needP l i 0) := by unfold eachP; rw [hb]; rfl
  rw [ev]
  refine ⟨z, h1, h2, h3, fun hz => ?_, fun hz => ?_⟩
  · have := h4 hz
    exact least_some (by omega) _ _ h3 (by omega) h5
  · exact least_none _ _ fun v a b => h5 v a (by omega)
theorem lastK_all {es : List Int} {z : Int} (h : es.getLast? = some z) : lastK es es.length = z := by
  rw [List.getLast?_eq_getElem?] at h
  have hlt := (List.getElem?_eq_some_iff.1 h).1
  obtain ⟨k, hk⟩ : ∃ k, es.length = k + 1 := ⟨es.length - 1, by omega⟩
  rw [hk] at h ⊢
  exact lastK_succ h
theorem boundS (hE : Laid E) (hX : LaidAdd E) (hZ : LaidTz E G) {h : Heap} (ht : Tab G h) {vl : Value} {l : List Task} (hl : Rd 7 encT h vl l) (hs : ∀ t ∈ l, t.name.size < 1152921504606846976) (i : Int) :
    callW E (.func (.func n_rta_Bound) #[] #[]) [vl, .int .i64 i] h = some (.tuple #[.int .i64 (boundP l i).1, .int .i64 (boundP l i).2], h, []) := by
  have hi := isRta hE hl hs i
  refine fn_same hE.rta_Bound rfl (by simp) ?_
  simp only [argsF]
  unfold boundP
  cases hb : isP l i
  · rw [hb] at hi
    rw [if_neg (by decide)]
    (repeat' (first | (with_reducible refine A1 (fun _ => ?_) (fun _ => ?_) <;> try (exfalso; omega)) | (with_reducible refine A2 (fun _ => ?_) (fun _ => ?_) <;> try (exfalso; omega)) | (with_reducible refine A3 (fun _ => ?_) (fun _ => ?_) <;> try (exfalso; omega)) | refine A4 (fun _ => ?_) (fun _ => ?_) | refine A5 (fun _ => ?_) (fun _ => ?_) | refine A6 (fun _ => ?_) (fun _ => ?_) | simp -dsimp (disch := omega) only [↓EA, EB, Nat.reduceEqDiff, Nat.reduceAdd, Nat.reduceLeDiff, Nat.reduceMul, ↓reduceIte, reduceCtorEq, newCells, bslV, eq_self, *]))
  · rw [hb] at hi
    rw [if_pos rfl]
    obtain ⟨hi2, hlen, hok⟩ := isP_ok hb
    have hm := mostP_in hb
    have htk := (hok _ (atI_mem hi2.1 hi2.2)).1
    simp only [rangesB] at htk
    have hD := htk.2.2.2.2.1
    have hJt := htk.2.2.2.2.2.2.1
    have hmd : mostP l i = (atI l i).D - (atI l i).J := rfl
    obtain ⟨z, z1, z2, z3, z4, z5⟩ := eachP_last hb
    have Hz := Hid.mk (lastK_all z1)
    have Z4 := Hid.mk z4
    have Z5 := Hid.mk z5
    clear hok htk z1 z4 z5
    (repeat' (first | (with_reducible refine A1 (fun _ => ?_) (fun _ => ?_) <;> try (exfalso; omega)) | (with_reducible refine A2 (fun _ => ?_) (fun _ => ?_) <;> try (exfalso; omega)) | (with_reducible refine A3 (fun _ => ?_) (fun _ => ?_) <;> try (exfalso; omega)) | refine A4 (fun _ => ?_) (fun _ => ?_) | refine A5 (fun _ => ?_) (fun _ => ?_) | refine A6 (fun _ => ?_) (fun _ => ?_) | simp -dsimp (disch := omega) only [↓EA, EB, Nat.reduceEqDiff, Nat.reduceAdd, Nat.reduceLeDiff, Nat.reduceMul, ↓reduceIte, reduceCtorEq, newCells, bslV, eq_self, *]))
    refine wx_new (eachS hE (hl.app _) i) fun v ys hr hpre => ?_
    obtain ⟨b1, b2, u1, u2, rfl, ⟨hg1, hg2⟩, ⟨hb1, hb2⟩, ⟨rfl, _⟩, rfl⟩ := hr
    (repeat' (first | (with_reducible refine A1 (fun _ => ?_) (fun _ => ?_) <;> try (exfalso; omega)) | (with_reducible refine A2 (fun _ => ?_) (fun _ => ?_) <;> try (exfalso; omega)) | (with_reducible refine A3 (fun _ => ?_) (fun _ => ?_) <;> try (exfalso; omega)) | refine A4 (fun _ => ?_) (fun _ => ?_) | refine A5 (fun _ => ?_) (fun _ => ?_) | refine A6 (fun _ => ?_) (fun _ => ?_) | simp -dsimp (disch := omega) only [↓EA, EB, Nat.reduceEqDiff, Nat.reduceAdd, Nat.reduceLeDiff, Nat.reduceMul, ↓reduceIte, reduceCtorEq, newCells, bslV, eq_self, *]))
    simp only [List.append_assoc, List.cons_append, List.nil_append, List.length_append, List.length_cons, List.length_nil] at hb1 hb2 hg1 hg2
    have hl1 := (List.getElem?_eq_some_iff.1 hb1).1
    have hl2 := (List.getElem?_eq_some_iff.1 hb2).1
    have hpH : Pre h (h ++ LObj.cells [Value.int IntKind.u64 0] false :: ys) := Pre.app h _
    refine co_iter1 hE.keep rfl (each_iter hE hX hZ hs i b1 b2) (c := h.length) (by simp) (by omega) (fun k => .int .u64 (lastK (eachP l i) k)) (fun _ => rfl) (by rw [geta0]; rfl) rfl (fun hh e1 e2 => ⟨⟨by rw [e2 b1 hl1 (by omega)]; exact hb1, by rw [e2 b2 hl2 (by omega)]; exact hb2⟩, ?_⟩) ?_ ?_
    · have hp2 : Pre h hh := fun b o hb => by have hlt := (List.getElem?_eq_some_iff.1 hb).1; rw [e2 b (by simp; omega) (by omega)]; exact hpH b o hb
      exact ⟨hl.pre hp2, ht.pre hp2⟩
    · intro k a ha
      rw [List.getElem?_map] at ha
      obtain ⟨w, hw, rfl⟩ := Option.map_eq_some_iff.1 ha
      have hsucc := Hid.mk (lastK_succ hw)
      clear ha hw
      refine ⟨_, rfl, fun hh g1 g2 g3 => ?_⟩
      unfold c_rta_Bound_l0
      (repeat' (first | (with_reducible refine A1 (fun _ => ?_) (fun _ => ?_) <;> try (exfalso; omega)) | (with_reducible refine A2 (fun _ => ?_) (fun _ => ?_) <;> try (exfalso; omega)) | (with_reducible refine A3 (fun _ => ?_) (fun _ => ?_) <;> try (exfalso; omega)) | refine A4 (fun _ => ?_) (fun _ => ?_) | refine A5 (fun _ => ?_) (fun _ => ?_) | refine A6 (fun _ => ?_) (fun _ => ?_) | simp -dsimp (disch := omega) only [↓EA, EB, Nat.reduceEqDiff, Nat.reduceAdd, Nat.reduceLeDiff, Nat.reduceMul, ↓reduceIte, reduceCtorEq, newCells, bslV, eq_self, *]))
      refine ⟨[], (List.append_nil _).symm, fun hh2 k1 k2 k3 => ?_⟩
      unfold c_rta_Bound_l1
      (repeat' (first | (with_reducible refine A1 (fun _ => ?_) (fun _ => ?_) <;> try (exfalso; omega)) | (with_reducible refine A2 (fun _ => ?_) (fun _ => ?_) <;> try (exfalso; omega)) | (with_reducible refine A3 (fun _ => ?_) (fun _ => ?_) <;> try (exfalso; omega)) | refine A4 (fun _ => ?_) (fun _ => ?_) | refine A5 (fun _ => ?_) (fun _ => ?_) | refine A6 (fun _ => ?_) (fun _ => ?_) | simp -dsimp (disch := omega) only [↓EA, EB, Nat.reduceEqDiff, Nat.reduceAdd, Nat.reduceLeDiff, Nat.reduceMul, ↓reduceIte, reduceCtorEq, newCells, bslV, eq_self, *, true_or]))
      exact ⟨[], by rw [List.append_nil, hsucc.out]⟩
    · rw [List.length_map, Hz.out]
      have hl2 := hl.app (LObj.cells [Value.int IntKind.u64 z] false :: ys)
      clear hb hpre hb1 hb2
      unfold u64in at z2
      (repeat' (first | (with_reducible refine A1 (fun _ => ?_) (fun _ => ?_) <;> try (exfalso; omega)) | (with_reducible refine A2 (fun _ => ?_) (fun _ => ?_) <;> try (exfalso; omega)) | (with_reducible refine A3 (fun _ => ?_) (fun _ => ?_) <;> try (exfalso; omega)) | refine A4 (fun _ => ?_) (fun _ => ?_) | refine A5 (fun _ => ?_) (fun _ => ?_) | refine A6 (fun _ => ?_) (fun _ => ?_) | simp -dsimp (disch := omega) only [↓EA, EB, Nat.reduceEqDiff, Nat.reduceAdd, Nat.reduceLeDiff, Nat.reduceMul, ↓reduceIte, reduceCtorEq, newCells, bslV, eq_self, *, hl2.len, hl2.ixs, hl2.ld, hl2.ld0, hl2.lda, hl2.ldx, hl2.ldx0, hl2.ldxa, encT]))
      · rw [Z5.out (by omega)]
      · rw [Z4.out (by omega)]
end Go.L.Try
namespace Go.L.Try
open Go Go.L
variable {E : Env} {G : Nat}
theorem each3 {h : Heap} {R1 R2 R3 : Heap → Value → Prop} {vs : List Value} (e : Each h [R1, R2, R3] vs) : ∃ a b c, vs = [a, b, c] ∧ R1 h a ∧ R2 h b ∧ R3 h c := by
  cases e with
  | cons h1 t1 => cases t1 with
    | cons h2 t2 => cases t2 with
      | cons h3 t3 => cases t3; exact ⟨_, _, _, rfl, h1, h2, h3⟩
theorem each2 {h : Heap} {R1 R2 : Heap → Value → Prop} {vs : List Value} (e : Each h [R1, R2] vs) : ∃ a b, vs = [a, b] ∧ R1 h a ∧ R2 h b := by
  cases e with
  | cons h1 t1 => cases t1 with
    | cons h2 t2 => cases t2; exact ⟨_, _, rfl, h1, h2⟩
def rN (l : List Task) (n : Nat) : List Int := (List.range n).map fun k : Nat => (boundP l (k : Int)).1
def missN (l : List Task) (n : Nat) : List Int := ((List.range n).filter fun k : Nat => decide ((boundP l (k : Int)).2 ≠ 0)).map fun k : Nat => (k : Int)
theorem rN_succ (l : List Task) (n : Nat) : rN l (n + 1) = rN l n ++ [(boundP l (n : Int)).1] := by unfold rN; rw [List.range_succ, List.map_append]; rfl
theorem missN_succ (l : List Task) (n : Nat) : missN l (n + 1) = if (boundP l (n : Int)).2 ≠ 0 then missN l n ++ [(n : Int)] else missN l n := by
  unfold missN
  rw [List.range_succ, List.filter_append, List.map_append]
  by_cases h : (boundP l (n : Int)).2 ≠ 0
  · rw [if_pos h]; simp [h]
  · rw [if_neg h]; simp [h]
theorem rN_len (l : List Task) (n : Nat) : (rN l n).length = n := by simp [rN]
theorem missN_len (l : List Task) (n : Nat) : (missN l n).length ≤ n := by
  unfold missN; rw [List.length_map]
  have := List.length_filter_le (fun k : Nat => decide ((boundP l (k : Int)).2 ≠ 0)) (List.range n)
  rwa [List.length_range] at this
def allR (l : List Task) : List Int := if validP l then rN l l.length else []
def allM (l : List Task) : List Int := if validP l then missN l l.length else []
def allE (l : List Task) : Int := if validP l then (if missN l l.length = [] then 0 else 16) else 1
def AllV (R M : List Int) (e : Int) : Heap → Value → Prop := fun h v => ∃ vs, v = .tuple vs.toArray ∧ Each h [fun h v => Rd 1 encI h v R, fun h v => Rd 1 encI h v M, fun _ v => v = .int .i64 e] vs
end Go.L.Try
namespace Go.L.Try
open Go Go.L
variable {E : Env} {G : Nat}
theorem Rd.nt {α : Type} {sz : Nat} {enc : α → List Value} {h : Heap} {v : Value} {l : List α} (r : Rd sz enc h v l) : noTuple v = true := by
  rcases Row.is r with ⟨rfl, _⟩ | ⟨_, _, _, _, _, _, rfl, _⟩ <;> rfl
theorem missN_pre (l : List Task) (n : Nat) : ∀ d, ∃ r, missN l (n + d) = missN l n ++ r
  | 0 => ⟨[], by simp⟩
  | d + 1 => by
    obtain ⟨r, e⟩ := missN_pre l n d
    rw [← Nat.add_assoc, missN_succ, e]
    split
    · exact ⟨r ++ [((n + d : Nat) : Int)], by simp⟩
    · exact ⟨r, rfl⟩
theorem missN_at {l : List Task} {n L : Nat} (hn : n < L) (h : (boundP l (n : Int)).2 ≠ 0) : (missN l n).length < (missN l L).length ∧ atI (missN l L) ((missN l n).length : Int) = (n : Int) := by
  obtain ⟨d, rfl⟩ : ∃ d, L = (n + 1) + d := ⟨L - (n + 1), by omega⟩
  obtain ⟨r, e⟩ := missN_pre l (n + 1) d
  rw [missN_succ, if_pos h] at e
  rw [e]
  have h2 : (missN l n).length < (missN l n ++ [(n : Int)] ++ r).length := by simp <;> omega
  refine ⟨h2, ?_⟩
  rw [atI_nat h2]
  simp
end Go.L.Try
namespace Go.L.Try
open Go Go.L
variable {E : Env} {G : Nat}
theorem three_R : allR threeL = [3, 7, 7] := by decide +kernel
theorem three_M : allM threeL = [] := by decide +kernel
theorem three_E : allE threeL = 0 := by decide +kernel
theorem three_name : ∀ t ∈ threeL, t.name.size < 1152921504606846976 := by decide +kernel
theorem setP_names {l : List Spec} {most turn : Int} (hm : 1 ≤ most) (hm2 : most ≤ 26) : ∀ t ∈ setP l most turn, t.name.size < 1152921504606846976 := fun t ht => by have := (setP_small hm hm2 ht).name; omega
end Go.L.Try
namespace Go.L.Try
open Go Go.L
variable {E : Env} {G : Nat}
theorem leastN_none {l : List Task} {i : Int} : ∀ {n : Nat} {w : Int}, leastN l i n w = none → ∀ v, w ≤ v → v < w + n → v < needP l i v
  | 0, w, _, v, h1, h2 => by omega
  | n + 1, w, h, v, h1, h2 => by
    unfold leastN at h
    split at h
    · cases h
    · rename_i hn
      by_cases e : v = w
      · subst e; omega
      · exact leastN_none h v (by omega) (by omega)
theorem leastN_some {l : List Task} {i z : Int} : ∀ {n : Nat} {w : Int}, leastN l i n w = some z → (w ≤ z ∧ z < w + n) ∧ needP l i z ≤ z ∧ ∀ v, w ≤ v → v < z → v < needP l i v
  | 0, w, h => by cases h
  | n + 1, w, h => by
    unfold leastN at h
    split at h
    · rename_i hn
      cases h
      exact ⟨by omega, hn, fun v h1 h2 => by omega⟩
    · rename_i hn
      obtain ⟨h1, h2, h3⟩ := leastN_some h
      refine ⟨by omega, h2, fun v a b => ?_⟩
      by_cases e : v = w
      · subst e; omega
      · exact h3 v (by omega) b
theorem leastP_none {l : List Task} {i : Int} (h : leastP l i = none) : ∀ v, 1 ≤ v → v ≤ mostP l i → v < needP l i v := fun v h1 h2 => leastN_none h v h1 (by omega)
theorem leastP_some {l : List Task} {i z : Int} (hb : isP l i = true) (h : leastP l i = some z) : (1 ≤ z ∧ z ≤ mostP l i) ∧ needP l i z = z ∧ ∀ v, 1 ≤ v → v < z → v < needP l i v := by
  obtain ⟨h1, h2, h3⟩ := leastN_some h
  have hm := mostP_in hb
  refine ⟨by omega, ?_, h3⟩
  have hu : u64in z := by unfold u64in; omega
  obtain ⟨n1, n2⟩ := needP_in hb hu
  rcases Int.lt_or_le (needP l i z) z with hlt | hge
  · have h4 := h3 _ n2 hlt
    have h5 := needP_mono hb n1 (show needP l i z ≤ z by omega)
    omega
  · omega
theorem setP_isP {l : List Spec} {most turn : Int} (hm : 1 ≤ most) (hm2 : most ≤ 26) {k : Int} (h0 : 0 ≤ k) (h1 : k < (setP l most turn).length) : isP (setP l most turn) k = true := by
  have hv := setP_valid l (most := most) turn hm hm2
  unfold validP at hv
  unfold isP
  exact decide_eq_true ⟨hv, h0, h1⟩
end Go.L.Try
set_option maxHeartbeats 1000000
namespace Go.L.Try
open Go Go.L
theorem atI_map_in {α β : Type} [Inhabited α] [Inhabited β] (f : α → β) {l : List α} {i : Int} (h0 : 0 ≤ i) (h1 : i < l.length) : atI (l.map f) i = f (atI l i) := by
  obtain ⟨n, rfl⟩ := Int.eq_ofNat_of_zero_le h0
  have hn : n < l.length := by omega
  rw [atI_nat hn, atI_nat (by simpa using hn), List.getElem_map]
def hN (l : List Task) (i w : Int) : Nat → Int
  | 0 => 0
  | k + 1 => if (atI l (k : Int)).P < (atI l i).P then hN l i w k + ((w + (atI l (k : Int)).J + (atI l (k : Int)).T - 1) / (atI l (k : Int)).T) * (atI l (k : Int)).C else hN l i w k
structure Mid (t : Task) : Prop where
  C : 1 ≤ t.C ∧ t.C ≤ 134217728
  T : 1 ≤ t.T ∧ t.T ≤ 1073741824
  J : 0 ≤ t.J ∧ t.J ≤ 536870912
theorem term_in {t : Task} (m : Mid t) {w : Int} (hw : 0 ≤ w ∧ w ≤ 1073741824) : oftenP t w = (w + t.J + t.T - 1) / t.T ∧ 0 ≤ ((w + t.J + t.T - 1) / t.T) * t.C ∧ ((w + t.J + t.T - 1) / t.T) * t.C ≤ 576460752303423488 := by
  obtain ⟨hC, hT, hJ⟩ := m
  have e : oftenP t w = (w + t.J + t.T - 1) / t.T := by
    unfold oftenP sat
    rw [if_pos (by omega)]
  have h1 : 0 ≤ (w + t.J + t.T - 1) / t.T := Int.ediv_nonneg (by omega) (by omega)
  have h2 : (w + t.J + t.T - 1) / t.T ≤ 2684354560 := Int.le_trans (Int.ediv_le_self _ (by omega)) (by omega)
  refine ⟨e, Int.mul_nonneg h1 (by omega), ?_⟩
  exact Int.le_trans (Int.mul_le_mul h2 hC.2 (by omega) (by omega)) (by decide)
theorem nosat {l : List Task} (hl : ∀ t ∈ l, Mid t) (hn : l.length ≤ 6) {i w : Int} (hw : 0 ≤ w ∧ w ≤ 1073741824) : ∀ n : Nat, n ≤ l.length → higherN l i w n = hN l i w n ∧ 0 ≤ hN l i w n ∧ hN l i w n ≤ n * 576460752303423488
  | 0, _ => by simp [higherN, hN]
  | n + 1, h => by
    obtain ⟨e, h1, h2⟩ := nosat hl hn (i := i) hw n (by omega)
    obtain ⟨e3, h4, h5⟩ := term_in (hl _ (atI_mem (l := l) (i := (n : Int)) (by omega) (by omega))) hw
    unfold higherN hN
    split
    · rw [e, e3]
      generalize ((w + (atI l (n : Int)).J + (atI l (n : Int)).T - 1) / (atI l (n : Int)).T) * (atI l (n : Int)).C = x at *
      have e5 : sat x = x := by unfold sat; rw [if_pos (by omega)]
      rw [e5]
      have e6 : sat (hN l i w n + x) = hN l i w n + x := by unfold sat; rw [if_pos (by omega)]
      rw [e6]
      exact ⟨rfl, by omega, by omega⟩
    · exact ⟨e, h1, by omega⟩
theorem block_one {l : List Task} (hq : ∀ t ∈ l, t.Q = 1) {i : Int} : ∀ n : Nat, n ≤ l.length → blockN l i n = 0
  | 0, _ => rfl
  | n + 1, h => by
    have h1 := hq _ (atI_mem (l := l) (i := (n : Int)) (by omega) (by omega))
    unfold blockN
    rw [block_one hq n (by omega), h1]
    split <;> rfl
theorem need_plain {l : List Task} {i : Int} (hb : isP l i = true) (hl : ∀ t ∈ l, Mid t) (hq : ∀ t ∈ l, t.Q = 1) (hn : l.length ≤ 6) {w : Int} (hw : 1 ≤ w ∧ w ≤ 1073741824) : needP l i w = (atI l i).C + hN l i w l.length := by
  obtain ⟨hi, _, _⟩ := isP_ok hb
  obtain ⟨e, h1, h2⟩ := nosat hl hn (i := i) (w := w) (by omega) l.length (Nat.le_refl _)
  have hC := (hl _ (atI_mem hi.1 hi.2)).C
  have eb : blockP l i = 0 := by unfold blockP; rw [if_pos hb]; exact block_one hq _ (Nat.le_refl _)
  have eh : higherP l i w = hN l i w l.length := by unfold higherP; rw [if_pos ⟨hb, by omega⟩]; exact e
  rw [needP_eq hb, eb, eh]
  have e2 : sat ((atI l i).C + 0) = (atI l i).C := by unfold sat; rw [if_pos (by omega)]; omega
  rw [e2]
  unfold sat
  rw [if_pos (by omega)]
def sc (k : Int) (t : Task) : Task := ⟨t.name, t.C * k, t.T * k, t.D * k, t.J * k, 1, t.P⟩
theorem ceil_mul {a T k : Int} (hT : 0 < T) (hk : 0 < k) : (a * k + T * k - 1) / (T * k) = (a + T - 1) / T := by
  have h1 := Int.emod_add_mul_ediv (a + T - 1) T
  have h2 := Int.emod_nonneg (a + T - 1) (show T ≠ 0 by omega)
  have h3 := Int.emod_lt_of_pos (a + T - 1) hT
  generalize (a + T - 1) / T = q at *
  generalize (a + T - 1) % T = r at *
  have e : a * k + T * k - 1 = (r * k + k - 1) + (T * k) * q := by
    have : (a + T - 1) * k = (r + T * q) * k := by rw [h1]
    rw [Int.sub_mul, Int.add_mul, Int.add_mul] at this
    have e2 : T * q * k = T * k * q := by rw [Int.mul_assoc, Int.mul_comm q k, ← Int.mul_assoc]
    rw [e2] at this
    omega
  have hTk : 0 < T * k := Int.mul_pos hT hk
  rw [e, Int.add_mul_ediv_left _ _ (by omega), Int.ediv_eq_zero_of_lt]
  · omega
  · have := Int.mul_nonneg h2 (show 0 ≤ k by omega); omega
  · have h5 : (r + 1) * k ≤ T * k := Int.mul_le_mul_of_nonneg_right (by omega) (by omega)
    rw [Int.add_mul] at h5; omega
theorem hN_scale {l : List Task} (hl : ∀ t ∈ l, Mid t) {k : Int} (hk : 0 < k) {i : Int} (hi : 0 ≤ i ∧ i < l.length) (w : Int) : ∀ n : Nat, n ≤ l.length → hN (l.map (sc k)) i (w * k) n = hN l i w n * k
  | 0, _ => by simp [hN]
  | n + 1, h => by
    have ih := hN_scale hl hk hi w n (by omega)
    have hm := hl _ (atI_mem (l := l) (i := (n : Int)) (by omega) (by omega))
    unfold hN
    rw [atI_map_in _ (by omega) (by omega : (n : Int) < l.length), atI_map_in _ hi.1 hi.2, ih]
    show (if (atI l (n : Int)).P < (atI l i).P then _ else _) = _
    split
    · have e := ceil_mul (a := w + (atI l (n : Int)).J) hm.T.1 hk
      rw [Int.add_mul] at e
      show hN l i w n * k + (w * k + (atI l (n : Int)).J * k + (atI l (n : Int)).T * k - 1) / ((atI l (n : Int)).T * k) * ((atI l (n : Int)).C * k) = _
      rw [e, Int.add_mul, Int.mul_assoc]
    · rfl
theorem hN_multiple {l : List Task} {k : Int} {i : Int} (hi : 0 ≤ i ∧ i < l.length) (w : Int) : ∀ n : Nat, n ≤ l.length → ∃ m, hN (l.map (sc k)) i w n = m * k
  | 0, _ => ⟨0, by simp [hN]⟩
  | n + 1, h => by
    obtain ⟨m, e⟩ := hN_multiple (k := k) hi w n (by omega)
    unfold hN
    rw [atI_map_in _ (by omega) (by omega : (n : Int) < l.length), e]
    split
    · refine ⟨m + (w + (sc k (atI l (n : Int))).J + (sc k (atI l (n : Int))).T - 1) / (sc k (atI l (n : Int))).T * (atI l (n : Int)).C, ?_⟩
      rw [Int.add_mul, Int.mul_assoc]; rfl
    · exact ⟨m, rfl⟩
structure Sml (t : Task) : Prop where
  ok : okTask t
  C : 1 ≤ t.C ∧ t.C ≤ 4
  D : t.C ≤ t.D ∧ t.D ≤ 14
  J : 0 ≤ t.J ∧ t.C + t.J ≤ t.D
  T : t.D ≤ t.T ∧ t.T ≤ 20
  Q : t.Q = 1
theorem mul_in {x k a b : Int} (hk : 1 ≤ k ∧ k ≤ 33554432) (ha : 0 ≤ a) (hx : a ≤ x ∧ x ≤ b) : a ≤ x * k ∧ x * k ≤ b * 33554432 := by
  have h1 : a * 1 ≤ x * k := Int.mul_le_mul hx.1 hk.1 (by decide) (by omega)
  have h2 : x * k ≤ b * 33554432 := Int.mul_le_mul hx.2 hk.2 (by omega) (by omega)
  rw [Int.mul_one] at h1
  exact ⟨h1, h2⟩
theorem sc_ok {t : Task} (s : Sml t) {k : Int} (hk : 1 ≤ k ∧ k ≤ 33554432) : okTask (sc k t) ∧ Mid (sc k t) := by
  obtain ⟨⟨h1, h2⟩, hC, hD, hJ, hT, hQ⟩ := s
  have c := mul_in hk (by decide) hC
  have d := mul_in (x := t.D) (a := 1) (b := 14) hk (by decide) (by omega)
  have j := mul_in (x := t.J) (a := 0) (b := 13) hk (by decide) (by omega)
  have t' := mul_in (x := t.T) (a := 1) (b := 20) hk (by decide) (by omega)
  simp only [rangesB] at h1
  have e1 : (t.C + t.J) * k ≤ t.D * k := Int.mul_le_mul_of_nonneg_right hJ.2 (by omega)
  have e2 : t.D * k ≤ t.T * k := Int.mul_le_mul_of_nonneg_right hT.1 (by omega)
  rw [Int.add_mul] at e1
  refine ⟨⟨⟨h1.1, h1.2.1, ?_, ?_, ?_, ?_, ?_, h1.2.2.2.2.2.2.2⟩, ?_⟩, ⟨?_, ?_, ?_⟩⟩
  all_goals simp only [sc, fitsB]
  all_goals omega
theorem sc_valid {l : List Task} (hv : validP l) (hs : ∀ t ∈ l, Sml t) {k : Int} (hk : 1 ≤ k ∧ k ≤ 33554432) : validP (l.map (sc k)) := by
  obtain ⟨h1, h2, h3⟩ := valid_iff.1 hv
  refine valid_iff.2 ⟨by simpa using h1, fun t ht => ?_, fun j m hj hm => ?_⟩
  · obtain ⟨u, hu, rfl⟩ := List.mem_map.1 ht
    exact (sc_ok (hs u hu) hk).1
  · rw [List.length_map] at hm
    rw [atI_map_in _ (by omega) (by omega : (j : Int) < l.length), atI_map_in _ (by omega) (by omega : (m : Int) < l.length)]
    exact h3 j m hj hm
theorem valid_isP {l : List Task} (hv : validP l) {i : Int} (h0 : 0 ≤ i) (h1 : i < l.length) : isP l i = true := by
  unfold validP at hv; unfold isP; exact decide_eq_true ⟨hv, h0, h1⟩
theorem least_scale {l : List Task} (hv : validP l) (hs : ∀ t ∈ l, Sml t) (hn : l.length ≤ 6) {k : Int} (hk : 1 ≤ k ∧ k ≤ 33554432) {i : Int} (hi : 0 ≤ i ∧ i < l.length) :
    leastP (l.map (sc k)) i = (leastP l i).map (· * k) := by
  have hb := valid_isP hv hi.1 hi.2
  have hb2 := valid_isP (sc_valid hv hs hk) hi.1 (by simpa using hi.2)
  have ei : atI (l.map (sc k)) i = sc k (atI l i) := atI_map_in _ hi.1 hi.2
  have hm1 := mostP_in hb
  have hst := hs _ (atI_mem hi.1 hi.2)
  have em : mostP (l.map (sc k)) i = mostP l i * k := by
    unfold mostP; rw [ei, Int.sub_mul]; rfl
  have hmost : mostP l i ≤ 14 := by unfold mostP; have := hst.D; have := hst.J; omega
  have hm2 := mul_in (x := mostP l i) (a := 1) (b := 14) hk (by decide) (by omega)
  have hmid : ∀ t ∈ l, Mid t := fun t ht => by
    have := hs t ht
    obtain ⟨_, hC, hD, hJ, hT, _⟩ := this
    exact ⟨by omega, by omega, by omega⟩
  have hmid2 : ∀ t ∈ l.map (sc k), Mid t := fun t ht => by
    obtain ⟨u, hu, rfl⟩ := List.mem_map.1 ht
    exact (sc_ok (hs u hu) hk).2
  have hq1 : ∀ t ∈ l, t.Q = 1 := fun t ht => (hs t ht).Q
  have hq2 : ∀ t ∈ l.map (sc k), t.Q = 1 := fun t ht => by obtain ⟨u, hu, rfl⟩ := List.mem_map.1 ht; rfl
  have hl2 : (l.map (sc k)).length ≤ 6 := by simpa using hn
  have need1 := fun w hw => need_plain hb hmid hq1 hn (w := w) hw
  have need2 := fun w hw => need_plain hb2 hmid2 hq2 hl2 (w := w) hw
  have escale : ∀ w, 1 ≤ w → w ≤ 14 → needP (l.map (sc k)) i (w * k) = needP l i w * k := fun w a b => by
    have := mul_in (x := w) (a := 1) (b := 14) hk (by decide) ⟨a, b⟩
    rw [need1 w (by omega), need2 (w * k) (by omega), ei, List.length_map, hN_scale hmid (by omega) hi w l.length (Nat.le_refl _), Int.add_mul]; rfl
  have key : ∀ v, 1 ≤ v → v ≤ mostP l i * k → needP (l.map (sc k)) i v ≤ v → ∃ m, 1 ≤ m ∧ m * k ≤ v ∧ needP l i m ≤ m := fun v a b c => by
    obtain ⟨x, hx⟩ := hN_multiple (k := k) hi v (l.map (sc k)).length (by simp)
    have e : needP (l.map (sc k)) i v = ((atI l i).C + x) * k := by
      rw [need2 v (by omega), hx, ei, Int.add_mul]; rfl
    have hu : u64in v := by unfold u64in; omega
    obtain ⟨n1, n2⟩ := needP_in hb2 hu
    rw [e] at c n2
    generalize hm : (atI l i).C + x = m at *
    have hm1' : 1 ≤ m := by
      rcases Int.lt_or_le m 1 with h | h
      · have := Int.mul_le_mul_of_nonneg_right (show m ≤ 0 by omega) (show 0 ≤ k by omega)
        rw [Int.zero_mul] at this; omega
      · exact h
    have hm14 : m ≤ 14 := by
      rcases Int.lt_or_le 14 m with h | h
      · have h1 := Int.mul_le_mul_of_nonneg_right (show (15 : Int) ≤ m by omega) (show 0 ≤ k by omega)
        have h2 := Int.mul_le_mul_of_nonneg_right hmost (show 0 ≤ k by omega)
        omega
      · exact h
    have hmk := mul_in (x := m) (a := 1) (b := 14) hk (by decide) ⟨hm1', hm14⟩
    have h5 := needP_mono hb2 (w := m * k) (v := v) (by unfold u64in; omega) c
    rw [escale m hm1' hm14, e] at h5
    refine ⟨m, hm1', c, ?_⟩
    exact Int.le_of_mul_le_mul_right h5 (by omega)
  have hlen1 : ((mostP l i * k).toNat : Int) = mostP l i * k := by omega
  cases hls : leastP l i with
  | none =>
    have L0 := leastP_none hls
    unfold leastP
    rw [em]
    refine least_none _ _ fun v a b => ?_
    rcases Int.lt_or_le v (needP (l.map (sc k)) i v) with h | h
    · exact h
    · obtain ⟨m, m1, m2, m3⟩ := key v a (by omega) h
      have h2 : m ≤ mostP l i := by
        have : m * k ≤ mostP l i * k := by omega
        exact Int.le_of_mul_le_mul_right this (by omega)
      have := L0 m m1 h2
      omega
  | some w =>
    obtain ⟨⟨w1, w2⟩, w3, w4⟩ := leastP_some hb hls
    have hwk := mul_in (x := w) (a := 1) (b := 14) hk (by decide) ⟨w1, by omega⟩
    have h6 := Int.mul_le_mul_of_nonneg_right w2 (show 0 ≤ k by omega)
    unfold leastP
    rw [em]
    show _ = some (w * k)
    refine least_some (by rw [escale w w1 (by omega), w3]; omega) _ _ hwk.1 (by omega) fun v a b => ?_
    rcases Int.lt_or_le v (needP (l.map (sc k)) i v) with h | h
    · exact h
    · obtain ⟨m, m1, m2, m3⟩ := key v a (by omega) h
      have h2 : m < w := by
        rcases Int.lt_or_le m w with h7 | h7
        · exact h7
        · have := Int.mul_le_mul_of_nonneg_right h7 (show 0 ≤ k by omega); omega
      have := w4 m m1 h2
      omega
theorem bound_scale {l : List Task} (hv : validP l) (hs : ∀ t ∈ l, Sml t) (hn : l.length ≤ 6) {k : Int} (hk : 1 ≤ k ∧ k ≤ 33554432) {i : Int} (hi : 0 ≤ i ∧ i < l.length) :
    (boundP (l.map (sc k)) i).1 = (boundP l i).1 * k ∧ (boundP (l.map (sc k)) i).2 = (boundP l i).2 := by
  have hb := valid_isP hv hi.1 hi.2
  have hb2 := valid_isP (sc_valid hv hs hk) hi.1 (by simpa using hi.2)
  have ei : atI (l.map (sc k)) i = sc k (atI l i) := atI_map_in _ hi.1 hi.2
  unfold boundP
  rw [if_pos hb, if_pos hb2, least_scale hv hs hn hk hi, ei]
  cases leastP l i with
  | none => simp
  | some w => simp [sc, Int.add_mul]
end Go.L.Try
