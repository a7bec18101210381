/- OPA: pick. -/
import Derived.Test.YtifnlcajancfdaaDoorPg
set_option linter.unusedVariables false
set_option linter.unusedSimpArgs false
set_option maxRecDepth 100000
set_option maxHeartbeats 2000000
namespace Go.L.Try
open Go Go.L
variable {E : Env} {G : Nat}
theorem fn_cut (hK : KeepE E) {g : FuncId} {c : FnC} (hE : E g = .text c) {sz : Nat} {res : List R} {body : C} (hc : c = ⟨sz, res, body⟩) {a b : Array Value} {args : List Value} {h : Heap} {W : Nat → Prop} {Q : Value → Heap → Prop} (hl : (a.toList ++ args ++ b.toList).length ≤ sz)
    (hb : WO W (code (callW E) iterW sz body (argsF (a.toList ++ args ++ b.toList) 0) h) (Res res fun v h' => noNew h.length 4 v = true ∧ (∀ b, b < h.length → W b → noNewO h.length h'[b]? = true) ∧ Q v (h'.take h.length))) :
    WX W (callW E (.func (.func g) a b) args h) Q := by
  subst hc
  rw [callW_func hE]
  obtain ⟨e, fr, h', ws, he, hw, hq⟩ := hb
  have hk := codeW_keep hK sz body _ _ _ _ _ _ he
  have hfin : ∀ e', Res res (fun v h' => noNew h.length 4 v = true ∧ (∀ b, b < h.length → W b → noNewO h.length h'[b]? = true) ∧ Q v (h'.take h.length)) e' fr h' → WX W (fin res h (some (e', fr, h', ws))) Q := by
    intro e' hr
    have key : W1 (resL fr h' res) (fun vs => noNew h.length 4 (resV vs) = true ∧ (∀ b, b < h.length → W b → noNewO h.length h'[b]? = true) ∧ Q (resV vs) (h'.take h.length)) → WX W (match resL fr h' res with | some vs => gc h (resV vs) h' ws | none => none) Q := by
      rintro ⟨vs, h1, h2, h3, h4⟩
      rw [h1]
      obtain ⟨h5, ws', h6, h7, h8⟩ := gc_eff hk h2
      refine ⟨_, _, _, h6, fun b hb => hw b (h7 b hb), ?_⟩
      rcases h8 with h8 | ⟨_, b, hb1, hb2, hb3⟩
      · rw [h8]; exact h4
      · rw [h3 b hb2 (hw b hb1)] at hb3; cases hb3
    cases e' with
    | exit _ => exact hr.elim
    | normal => exact key hr
    | ret => exact key hr
  simp only [callF, hl, if_true]
  rw [he]
  exact hfin e hq
theorem seen_noNew {l : List Task} {es : List (Value × Value)} (h : Seen l es) (m : Nat) : noNewO m (some (.map es)) = true := by
  simp only [noNewO, List.all_eq_true]
  intro e he
  obtain ⟨i, w, _, rfl⟩ := h e he
  simp only [keyL, noNew, List.all_cons, Bool.true_and, Bool.and_true]
  exact encM_nn w m |> fun h => by
    rw [List.all_eq_true] at h ⊢
    intro x hx
    obtain ⟨y, _, rfl⟩ := List.mem_map.1 hx
    rfl
theorem back4 {H : Heap} {x : Heap} {L : Nat} {r y o c : LObj} {mb bs : Nat} (hL : H[L]? = some r) (hm : mb < H.length ∧ mb ≠ L) (hb : bs < H.length ∧ bs ≠ L) : ((((H.set L y ++ x).set mb o).set bs c).set L r).take H.length = (H.set mb o).set bs c := by
  have hl := (List.getElem?_eq_some_iff.1 hL).1
  rw [List.set_append_left _ _ (by simpa using hm.1), List.set_append_left _ _ (by simpa using hb.1), List.set_append_left _ _ (by simpa using hl), List.take_left' (by simp)]
  rw [List.set_comm _ _ hb.2, List.set_comm _ _ hm.2, List.set_set, set_same hL]
theorem back6 {H : Heap} {x : Heap} {L : Nat} {r y o c d e : LObj} {mb bs b2 b3 : Nat} (hL : H[L]? = some r) (hm : mb < H.length ∧ mb ≠ L) (hb : bs < H.length ∧ bs ≠ L) (h2 : b2 < H.length ∧ b2 ≠ L) (h3 : b3 < H.length ∧ b3 ≠ L) :
    ((((((H.set L y ++ x).set mb o).set bs c).set b2 d).set b3 e).set L r).take H.length = (((H.set mb o).set bs c).set b2 d).set b3 e := by
  have hl := (List.getElem?_eq_some_iff.1 hL).1
  rw [List.set_append_left _ _ (by simpa using hm.1), List.set_append_left _ _ (by simpa using hb.1), List.set_append_left _ _ (by simpa using h2.1), List.set_append_left _ _ (by simpa using h3.1), List.set_append_left _ _ (by simpa using hl), List.take_left' (by simp)]
  rw [List.set_comm _ _ h3.2, List.set_comm _ _ h2.2, List.set_comm _ _ hb.2, List.set_comm _ _ hm.2, List.set_set, set_same hL]
theorem pickL_at {l : List Task} {S : Nat → Bool} : ∀ (es : List Nat) {k i : Nat}, es[k]? = some i → (∀ (j x : Nat), j < k → es[j]? = some x → fitsP l (x : Int) S = false) → fitsP l (i : Int) S = true → pickL l S es = (some i, k + 1)
  | [], k, i, h, _, _ => by simp at h
  | a :: r, 0, i, h, _, hf => by
    simp at h; subst h
    unfold pickL; rw [if_pos hf]
  | a :: r, k + 1, i, h, hn, hf => by
    have h0 := hn 0 a (by omega) rfl
    have ih := pickL_at r (k := k) (i := i) (by simpa using h) (fun j x hj hx => hn (j + 1) x (by omega) (by simpa using hx)) hf
    unfold pickL
    rw [h0, ih]; simp
theorem pickL_no {l : List Task} {S : Nat → Bool} : ∀ (es : List Nat), (∀ (j x : Nat), es[j]? = some x → fitsP l (x : Int) S = false) → pickL l S es = (none, es.length)
  | [], _ => rfl
  | a :: r, hn => by
    have h0 := hn 0 a rfl
    have ih := pickL_no r fun j x hx => hn (j + 1) x (by simpa using hx)
    unfold pickL
    rw [h0, ih]; simp
theorem pickS (hE : Laid E) (hX : LaidAdd E) (hZ : LaidTz E G) {h : Heap} (ht : Tab G h) {bs mb : Nat} {vo vl : Value} {lv t : Int} {l : List Task} {w : List Nat} {es : List (Value × Value)} (hl : Rd 7 encT h vl l) (hs : ∀ t ∈ l, t.name.size < 1152921504606846976) (hw : okM w)
    (hb : h[bs]? = some (.cells (sCells vo lv t vl w mb) false)) (hm : h[mb]? = some (.map es)) (hse : Seen l es) (ht0 : 0 ≤ t ∧ t < 2305843009213693952) (hG : G ≠ bs ∧ G ≠ mb) (hlb : ∀ k c d, Rd 7 encT ((h.set mb (.map k)).set bs (.cells c d)) vl l)
    (hnn : ∀ m, h.length ≤ m → ∀ t', noNewO m (some (.cells (sCells vo lv t' vl w mb) false)) = true) {W : Nat → Prop} (hW : W bs ∧ W mb ∧ ∀ b, h.length ≤ b → W b) {Q : Value → Heap → Prop}
    (hq : ∀ es', Seen l es' → Q (match (pickL l (memM w) (elemsFrom w 0)).1 with | some i => .tuple #[.int .i64 (i : Int), .bool true] | none => .tuple #[.int .i64 0, .bool false]) ((h.set mb (.map es')).set bs (.cells (sCells vo lv (t + ((pickL l (memM w) (elemsFrom w 0)).2 : Nat)) vl w mb) false))) :
    WX W (callW E (.func (.func n_opa_search_pick) #[] #[]) [.pointer (some ⟨bs, 0, none⟩)] h) Q := by
  refine WX.mono (W := fun b => b = bs ∨ b = mb ∨ h.length ≤ b) (fn_cut (Q := Q) hE.keep hE.opa_search_pick rfl (by simp) ?_) (fun b hb => by rcases hb with rfl | rfl | hb; exact hW.1; exact hW.2.1; exact hW.2.2 b hb) (fun _ _ hq => hq)
  have hbl := (List.getElem?_eq_some_iff.1 hb).1
  have hml := (List.getElem?_eq_some_iff.1 hm).1
  have ms : bs ≠ mb := fun e => by rw [e] at hb; rw [hb] at hm; cases hm
  have hel := encM_len hw
  have heo := encM_one w
  have htk := encM_take hw
  simp only [List.cons_append, List.nil_append, argsF]
  have kb := fun x => ((List.getElem?_append_left hbl (l₂ := x)).trans hb)
  have q0 := sC_len (vo := vo) (lv := lv) (t := t) (vl := vl) (mb := mb) hw
  have q4 := sC_left (vo := vo) (lv := lv) (t := t) (vl := vl) (mb := mb) hw
  have Hq := Hid.mk hq
  have Hlb := Hid.mk hlb
  have Hnn := Hid.mk hnn
  clear hq hlb hnn hW
  (repeat' (first | (with_reducible refine A1 (fun _ => ?_) (fun _ => ?_) <;> try (exfalso; omega)) | (with_reducible refine A2 (fun _ => ?_) (fun _ => ?_) <;> try (exfalso; omega)) | (with_reducible refine A3 (fun _ => ?_) (fun _ => ?_) <;> try (exfalso; omega)) | refine A4 (fun _ => ?_) (fun _ => ?_) | refine A5 (fun _ => ?_) (fun _ => ?_) | refine A6 (fun _ => ?_) (fun _ => ?_) | simp -dsimp (disch := omega) only [↓EA, EB, Nat.reduceEqDiff, Nat.reduceAdd, Nat.reduceLeDiff, Nat.reduceMul, ↓reduceIte, reduceCtorEq, newCells, bslV, eq_self, *]))
  refine wx_new (allS hE _ hw) fun v ys hr hpre => ?_
  obtain ⟨bx, rfl, hbx, hcx⟩ := hr
  have hA : ∀ j, j < 3 → (h ++ [LObj.cells [Value.pointer (some ⟨bs, 0, none⟩)] false, LObj.cells [Value.int .i64 0] false, LObj.cells [Value.bool false] false] ++ ys)[h.length + j]? = [LObj.cells [Value.pointer (some ⟨bs, 0, none⟩)] false, LObj.cells [Value.int .i64 0] false, LObj.cells [Value.bool false] false][j]? := fun j hj => by
    rw [List.append_assoc, List.getElem?_append_right (by omega), Nat.add_sub_cancel_left, List.getElem?_append_left (by simpa using hj)]
  have h1 := hA 0 (by decide)
  have h2 := hA 1 (by decide)
  have h3 := hA 2 (by decide)
  have hp : Pre h (h ++ [LObj.cells [Value.pointer (some ⟨bs, 0, none⟩)] false, LObj.cells [Value.int .i64 0] false, LObj.cells [Value.bool false] false] ++ ys) := (Pre.app h _).trans hpre
  have hHl : h.length + 3 ≤ (h ++ [LObj.cells [Value.pointer (some ⟨bs, 0, none⟩)] false, LObj.cells [Value.int .i64 0] false, LObj.cells [Value.bool false] false] ++ ys).length := by simp
  have hbx2 : h.length + 3 ≤ bx := by simpa using hbx
  clear hA hpre hbx
  simp only [List.getElem?_cons_zero, List.getElem?_cons_succ, Nat.add_zero] at h1 h2 h3
  generalize h ++ [LObj.cells [Value.pointer (some ⟨bs, 0, none⟩)] false, LObj.cells [Value.int .i64 0] false, LObj.cells [Value.bool false] false] ++ ys = H at *
  (repeat' (first | (with_reducible refine A1 (fun _ => ?_) (fun _ => ?_) <;> try (exfalso; omega)) | (with_reducible refine A2 (fun _ => ?_) (fun _ => ?_) <;> try (exfalso; omega)) | (with_reducible refine A3 (fun _ => ?_) (fun _ => ?_) <;> try (exfalso; omega)) | refine A4 (fun _ => ?_) (fun _ => ?_) | refine A5 (fun _ => ?_) (fun _ => ?_) | refine A6 (fun _ => ?_) (fun _ => ?_) | simp -dsimp (disch := omega) only [↓EA, EB, Nat.reduceEqDiff, Nat.reduceAdd, Nat.reduceLeDiff, Nat.reduceMul, ↓reduceIte, reduceCtorEq, newCells, bslV, eq_self, *]))
  have hl1 := (List.getElem?_eq_some_iff.1 h1).1
  have hl3 := (List.getElem?_eq_some_iff.1 h3).1
  have hlx := (List.getElem?_eq_some_iff.1 hcx).1
  clear kb q0 q4 htk hel heo
  refine co_rng hE.keep (W' := fun b => b = bs ∨ b = mb ∨ b = h.length + 1 ∨ b = h.length + 2 ∨ H.length ≤ b) rfl (fun x hx hlt => by rcases hx with h | h | h | h | h; exact .inl h; exact .inr (.inl h); exact .inr (.inr (by omega)); exact .inr (.inr (by omega)); omega) ?_
  generalize hLr : LObj.loop _ = lo
  have key : ∀ (es' : List (Value × Value)) (t' : Int), Seen l es' → ∀ hh, hh = ((H ++ [lo]).set mb (.map es')).set bs (.cells (sCells vo lv t' vl w mb) false) →
      hh.length = H.length + 1 ∧ hh[bs]? = some (.cells (sCells vo lv t' vl w mb) false) ∧ hh[mb]? = some (.map es') ∧ hh[h.length]? = some (.cells [.pointer (some ⟨bs, 0, none⟩)] false) ∧ hh[h.length + 1]? = some (.cells [.int .i64 0] false) ∧ hh[h.length + 2]? = some (.cells [.bool false] false) ∧ hh[H.length]? = some lo ∧ hh[bx]? = some (.cells (encM w) false) ∧ ∀ b, b < h.length → hh[b]? = ((h.set mb (.map es')).set bs (.cells (sCells vo lv t' vl w mb) false))[b]? := by
    rintro es' t' hs' hh rfl
    have g : ∀ b, b ≠ bs → b ≠ mb → b < H.length → (((H ++ [lo]).set mb (.map es')).set bs (.cells (sCells vo lv t' vl w mb) false))[b]? = H[b]? := fun b n1 n2 hb => by
      rw [gets (Ne.symm n1), gets (Ne.symm n2), List.getElem?_append_left hb]
    refine ⟨by simp, ?_, ?_, (g _ (by omega) (by omega) (by omega)).trans h1, (g _ (by omega) (by omega) (by omega)).trans h2, (g _ (by omega) (by omega) (by omega)).trans h3, ?_, (g _ (by omega) (by omega) hlx).trans hcx, fun b hb => ?_⟩
    · exact gset (by simp; omega)
    · rw [gets ms]; exact gset (by simp; omega)
    · rw [gets (by omega), gets (by omega), geta0]; rfl
    · by_cases e1 : b = bs
      · subst e1; rw [gset (by first | omega | (simp; omega)), gset (by first | omega | (simp; omega))]
      · rw [gets (Ne.symm e1), gets (Ne.symm e1)]
        by_cases e2 : b = mb
        · subst e2; rw [gset (by first | omega | (simp; omega)), gset (by first | omega | (simp; omega))]
        · rw [gets (Ne.symm e2), gets (Ne.symm e2), List.getElem?_append_left (by omega)]
          have := hp b _ (List.getElem?_eq_getElem hb)
          rw [this, List.getElem?_eq_getElem hb]
  have htab : ∀ (hh : Heap) es' t', (∀ b, b < h.length → hh[b]? = ((h.set mb (.map es')).set bs (.cells (sCells vo lv t' vl w mb) false))[b]?) → Tab G hh ∧ Rd 7 encT hh vl l := fun hh es' t' hb => by
    obtain ⟨c, ro, e1, e2⟩ := ht
    have hGl := (List.getElem?_eq_some_iff.1 e1).1
    refine ⟨⟨c, ro, ?_, e2⟩, (Hlb.out es' (sCells vo lv t' vl w mb) false).pre (fun b o ho => ?_)⟩
    · rw [hb G hGl, gets (Ne.symm hG.1), gets (Ne.symm hG.2)]; exact e1
    · have hbl := (List.getElem?_eq_some_iff.1 ho).1
      rw [hb b (by simpa using hbl)]; exact ho
  refine WX.mono (all_iter hE hZ hw bx (H ++ [lo]) H.length (fun b => b = bs ∨ b = mb ∨ b = h.length + 1 ∨ b = h.length + 2 ∨ H.length ≤ b)
    (fun k hh => ∃ es', Seen l es' ∧ hh = ((H ++ [lo]).set mb (.map es')).set bs (.cells (sCells vo lv (t + (k : Nat)) vl w mb) false) ∧ ∀ (j x : Nat), j < k → (elemsFrom w 0)[j]? = some x → fitsP l (x : Int) (memM w) = false)
    (fun hh => ∃ (k i : Nat) (es' : List (Value × Value)) (r : LoopRec), Seen l es' ∧ (elemsFrom w 0)[k]? = some i ∧ fitsP l (i : Int) (memM w) = true ∧ (∀ (j x : Nat), j < k → (elemsFrom w 0)[j]? = some x → fitsP l (x : Int) (memM w) = false) ∧ r.state = .done ∧ r.pending = some none ∧
      hh = (((((H ++ [lo]).set mb (.map es')).set bs (.cells (sCells vo lv (t + (k : Nat) + 1) vl w mb) false)).set (h.length + 1) (.cells [.int .i64 (i : Int)] false)).set (h.length + 2) (.cells [.bool true] false)).set H.length (.loop r)) ?_ ?_ ?_ ?_) (fun b hb => hb) ?_
  · rintro k hh ⟨es', s1, rfl, s3⟩
    obtain ⟨k1, k2, k3, k4, k5, k6, k7, k8, k9⟩ := key es' _ s1 _ rfl
    exact ⟨by rw [k1]; simp, k8, (htab _ _ _ k9).1⟩
  · refine ⟨es, hse, ?_, fun j x hj => by omega⟩
    rw [set_same (b := mb) (by rw [List.getElem?_append_left (by omega)]; exact hp mb _ hm), set_same (by rw [List.getElem?_append_left (by omega), Int.natCast_zero, Int.add_zero]; exact hp bs _ hb)]
  · rintro hh ⟨k, i, es', r, s1, s2, s3, s4, s5, s6, rfl⟩
    simp
  · rintro k hh a ha ⟨es', s1, hhe, s3⟩
    obtain ⟨k1, k2, k3, k4, k5, k6, k7, k8, k9⟩ := key es' _ s1 _ hhe
    rw [List.getElem?_map] at ha
    obtain ⟨i, hi, rfl⟩ := Option.map_eq_some_iff.1 ha
    have hcom : ∀ (es2 : List (Value × Value)) (c : LObj), (hh.set mb (.map es2)).set bs c = ((H ++ [lo]).set mb (.map es2)).set bs c := fun es2 c => by
      rw [hhe, List.set_comm _ _ ms, List.set_set, List.set_set]
    have hkl : k < (elemsFrom w 0).length := (List.getElem?_eq_some_iff.1 hi).1
    have hel : (elemsFrom w 0).length ≤ 1024 := by unfold elemsFrom; exact Nat.le_trans (List.length_filter_le _ _) (by simp)
    have e1 : t + ((k + 1 : Nat) : Int) = t + (k : Nat) + 1 := by omega
    clear hhe ha
    subst hLr
    refine WX.mono (wx_round hE.keep (W := fun b => b = bs ∨ b = mb ∨ b = h.length + 1 ∨ b = h.length + 2 ∨ H.length < b) (Rr := fun e h3 => (e = .normal ∧ fitsP l (i : Int) (memM w) = false ∧ ∃ es2, Seen l es2 ∧ h3 = (hh.set mb (.map es2)).set bs (.cells (sCells vo lv (t + (k : Nat) + 1) vl w mb) false)) ∨
      (e = .ret ∧ fitsP l (i : Int) (memM w) = true ∧ ∃ es2, Seen l es2 ∧ h3 = (((hh.set mb (.map es2)).set bs (.cells (sCells vo lv (t + (k : Nat) + 1) vl w mb) false)).set (h.length + 1) (.cells [.int .i64 (i : Int)] false)).set (h.length + 2) (.cells [.bool true] false))) k7 rfl rfl rfl rfl (fun b hb => by omega) ?_) (fun b hb => by omega) ?_
    · show WO _ (code (callW E) iterW 58 c_opa_search_pick_l0 _ hh) _
      unfold c_opa_search_pick_l0
      (repeat' (first | (with_reducible refine A1 (fun _ => ?_) (fun _ => ?_) <;> try (exfalso; omega)) | (with_reducible refine A2 (fun _ => ?_) (fun _ => ?_) <;> try (exfalso; omega)) | (with_reducible refine A3 (fun _ => ?_) (fun _ => ?_) <;> try (exfalso; omega)) | refine A4 (fun _ => ?_) (fun _ => ?_) | refine A5 (fun _ => ?_) (fun _ => ?_) | refine A6 (fun _ => ?_) (fun _ => ?_) | simp -dsimp (disch := omega) only [↓EA, EB, Nat.reduceEqDiff, Nat.reduceAdd, Nat.reduceLeDiff, Nat.reduceMul, ↓reduceIte, reduceCtorEq, newCells, bslV, eq_self, *]))
      generalize hbz : hh.set H.length _ = HH
      have gz : ∀ b, b ≠ H.length → HH[b]? = hh[b]? := fun b hb => by rw [← hbz, gets (Ne.symm hb)]
      have hzl : HH.length = H.length + 1 := by rw [← hbz, List.length_set, k1]
      obtain ⟨z1, z2⟩ := htab HH es' _ (fun b hb => (gz b (by omega)).trans (k9 b hb))
      refine pick_l1 hE hX hZ z1 (b1 := h.length) (b2 := h.length + 1) (b3 := h.length + 2) z2 hs hw ((gz _ (by omega)).trans k2) ((gz _ (by omega)).trans k3) ((gz _ (by omega)).trans k4) ((gz _ (by omega)).trans k5) ((gz _ (by omega)).trans k6)
        ⟨by omega, by omega, by omega, by omega⟩ s1 ⟨by omega, by omega⟩ i ⟨.inl rfl, .inr (.inl rfl), .inr (.inr (.inl rfl)), .inr (.inr (.inr (.inl rfl))), fun b hb => .inr (.inr (.inr (.inr (by omega))))⟩ rfl rfl rfl rfl ?_ ?_
      · intro hf es2 fr' x s2
        refine ⟨fun b hb hw => ?_, .inl ⟨rfl, hf, es2, s2, ?_⟩⟩
        · rcases hw with rfl | rfl | rfl | rfl | hw
          · rw [gset (by simp; omega)]; exact Hnn.out _ (by omega) _
          · rw [gets ms, gset (by simp; omega)]; exact seen_noNew s2 _
          · rw [gets (by omega), gets (by omega), List.getElem?_append_left (by omega), gz _ (by omega), k5]; rfl
          · rw [gets (by omega), gets (by omega), List.getElem?_append_left (by omega), gz _ (by omega), k6]; rfl
          · omega
        · rw [← hbz]
          exact back4 k7 ⟨by omega, by omega⟩ ⟨by omega, by omega⟩
      · intro hf es2 fr' x s2
        refine ⟨fun b hb hw => ?_, .inr ⟨rfl, hf, es2, s2, ?_⟩⟩
        · rcases hw with rfl | rfl | rfl | rfl | hw
          · rw [gets (by omega), gets (by omega), gset (by simp; omega)]; exact Hnn.out _ (by omega) _
          · rw [gets (by omega), gets (by omega), gets ms, gset (by first | omega | (simp; omega))]; exact seen_noNew s2 _
          · rw [gets (by omega), gset (by simp; omega)]; rfl
          · rw [gset (by simp; omega)]; rfl
          · omega
        · rw [← hbz]
          exact back6 k7 ⟨by omega, by omega⟩ ⟨by omega, by omega⟩ ⟨by omega, by omega⟩ ⟨by omega, by omega⟩
    · rintro v h' ⟨e, h3, hR, rfl, rfl⟩
      have hno : ∀ b, fitsP l (i : Int) (memM w) = false → ∀ (j x : Nat), j < k + 1 → (elemsFrom w 0)[j]? = some x → fitsP l (x : Int) (memM w) = b ∨ fitsP l (x : Int) (memM w) = false := fun b hf j x hj hx => by
        rcases Nat.lt_or_ge j k with hjk | hjk
        · exact .inr (s3 j x hjk hx)
        · have : j = k := by omega
          subst this
          rw [hi] at hx; cases hx; exact .inr hf
      rcases hR with ⟨rfl, hf, es2, s2, rfl⟩ | ⟨rfl, hf, es2, s2, rfl⟩
      · refine .inl ⟨rfl, es2, s2, ?_, fun j x hj hx => by rcases hno false hf j x hj hx with h | h <;> exact h⟩
        show (hh.set mb _).set bs _ = _
        rw [hcom, e1]
      · refine .inr ⟨rfl, k, i, es2, { state := .done, pending := some none, fr := [(1, .pointer (some ⟨h.length, 0, none⟩)), (2, .pointer (some ⟨h.length + 1, 0, none⟩)), (3, .pointer (some ⟨h.length + 2, 0, none⟩)), (12, .func (.func n_marks_Set_All_f1) #[] #[.pointer (some ⟨bx, 0, none⟩)])], sz := 58, params := [13], assign := c_opa_search_pick_l0, body := c_opa_search_pick_l1 }, s2, hi, hf, s3, rfl, rfl, ?_⟩
        show ((((hh.set mb _).set bs _).set _ _).set _ _).set _ _ = _
        rw [hcom]
  · have hH0 : ∀ x y : LObj, ((H.set mb x).set bs y).take h.length = (h.set mb x).set bs y := fun x y => by
      apply List.ext_getElem?
      intro b
      rcases Nat.lt_or_ge b h.length with hlt | hge
      · rw [List.getElem?_take, if_pos hlt]
        by_cases e1 : b = bs
        · subst e1; rw [gset (by first | omega | (simp; omega)), gset (by first | omega | (simp; omega))]
        · rw [gets (Ne.symm e1), gets (Ne.symm e1)]
          by_cases e2 : b = mb
          · subst e2; rw [gset (by first | omega | (simp; omega)), gset (by first | omega | (simp; omega))]
          · rw [gets (Ne.symm e2), gets (Ne.symm e2), hp b _ (List.getElem?_eq_getElem hlt), List.getElem?_eq_getElem hlt]
      · rw [List.getElem?_eq_none (by simp; omega), List.getElem?_eq_none (by simp; omega)]
    rintro v h' (⟨es2, s2, hhe, s3⟩ | ⟨k, i, es2, r, s2, hi, hf, s3, r1, r2, rfl⟩)
    · obtain ⟨k1, k2, k3, k4, k5, k6, k7, k8, k9⟩ := key es2 _ s2 _ hhe
      rw [List.length_map] at hhe k2
      have hpk := pickL_no (l := l) (S := memM w) (elemsFrom w 0) fun j x hx => s3 j x (by rw [List.length_map]; exact (List.getElem?_eq_some_iff.1 hx).1) hx
      have hq2 := Hq.out es2 s2
      rw [hpk] at hq2
      subst hLr
      refine ⟨_, k7, by simp, fun b hb hw => ?_, ?_⟩
      · rcases hw with rfl | rfl | rfl | rfl | hw
        · rw [k2]; exact Hnn.out _ (by omega) _
        · rw [k3]; exact seen_noNew s2 _
        · rw [k5]; rfl
        · rw [k6]; rfl
        · omega
      · rw [hhe, List.set_append_left _ _ (by omega), List.set_append_left _ _ (by simp; omega), List.take_left' (by simp)]
        have j2 : ∀ x y : LObj, ((H.set mb x).set bs y)[h.length + 1]? = _ := fun x y => ((gets (by omega)).trans (gets (by omega))).trans h2
        have j3 : ∀ x y z : LObj, (((H.set mb x).set bs y).set (h.length + 1) z)[h.length + 2]? = _ := fun x y z => (gets (by omega)).trans (((gets (by omega)).trans (gets (by omega))).trans h3)
        have j4 : ∀ x y z u : LObj, ((((H.set mb x).set bs y).set (h.length + 1) z).set (h.length + 2) u)[h.length + 1]? = some z := fun x y z u => (gets (by omega)).trans (gset (by simp; omega))
        have j5 : ∀ x y z u : LObj, ((((H.set mb x).set bs y).set (h.length + 1) z).set (h.length + 2) u)[h.length + 2]? = some u := fun x y z u => gset (by simp; omega)
        have HH := Hid.mk (And.intro hH0 hq2)
        clear hhe key htab Hlb Hq hH0 k1 k2 k3 k4 k5 k6 k7 k8 k9 hq2
        (repeat' (first | (with_reducible refine A1 (fun _ => ?_) (fun _ => ?_) <;> try (exfalso; omega)) | (with_reducible refine A2 (fun _ => ?_) (fun _ => ?_) <;> try (exfalso; omega)) | (with_reducible refine A3 (fun _ => ?_) (fun _ => ?_) <;> try (exfalso; omega)) | refine A4 (fun _ => ?_) (fun _ => ?_) | refine A5 (fun _ => ?_) (fun _ => ?_) | refine A6 (fun _ => ?_) (fun _ => ?_) | simp -dsimp (disch := omega) only [↓EA, EB, Nat.reduceEqDiff, Nat.reduceAdd, Nat.reduceLeDiff, Nat.reduceMul, ↓reduceIte, reduceCtorEq, newCells, bslV, eq_self, *]))
        refine ⟨.inr (.inr trivial), .inr (.inr trivial), fun b hb hw => ?_, ?_⟩
        · rcases hw with rfl | rfl | hw
          · rw [gets (by omega), gets (by omega), gset (by simp; omega)]; exact Hnn.out _ (by omega) _
          · rw [gets (by omega), gets (by omega), gets ms, gset (by first | omega | (simp; omega))]; exact seen_noNew s2 _
          · omega
        · rw [List.take_set_of_le (by omega), List.take_set_of_le (by omega), HH.out.1]
          exact HH.out.2
    · have hpk := pickL_at (l := l) (S := memM w) (elemsFrom w 0) hi s3 hf
      have hq2 := Hq.out es2 s2
      rw [hpk] at hq2
      have e1 : t + ((k + 1 : Nat) : Int) = t + (k : Nat) + 1 := by omega
      dsimp only at hq2
      rw [e1] at hq2
      have hX : ∀ x y z u : LObj, (((((H ++ [lo]).set mb x).set bs y).set (h.length + 1) z).set (h.length + 2) u).set H.length (.loop r) = ((((H.set mb x).set bs y).set (h.length + 1) z).set (h.length + 2) u) ++ [LObj.loop r] := fun x y z u => by
        rw [List.set_append_left _ _ (by omega), List.set_append_left _ _ (by simp; omega), List.set_append_left _ _ (by simp; omega), List.set_append_left _ _ (by simp; omega), List.set_append_right _ _ (by simp)]
        simp
      rw [hX]
      have j4 : ∀ x y z u : LObj, ((((H.set mb x).set bs y).set (h.length + 1) z).set (h.length + 2) u)[h.length + 1]? = some z := fun x y z u => (gets (by omega)).trans (gset (by simp; omega))
      have j5 : ∀ x y z u : LObj, ((((H.set mb x).set bs y).set (h.length + 1) z).set (h.length + 2) u)[h.length + 2]? = some u := fun x y z u => gset (by simp; omega)
      have jb : ∀ x y z u : LObj, ((((H.set mb x).set bs y).set (h.length + 1) z).set (h.length + 2) u)[bs]? = some y := fun x y z u => (gets (by omega)).trans ((gets (by omega)).trans (gset (by simp; omega)))
      have jm : ∀ x y z u : LObj, ((((H.set mb x).set bs y).set (h.length + 1) z).set (h.length + 2) u)[mb]? = some x := fun x y z u => (gets (by omega)).trans ((gets (by omega)).trans ((gets ms).trans (gset (by omega))))
      refine ⟨r, by rw [List.getElem?_append_right (by simp)]; simp, by rw [r1]; simp, fun b hb hw => ?_, ?_⟩
      · rw [List.getElem?_append_left (by simpa using hb)]
        rcases hw with rfl | rfl | rfl | rfl | hw
        · rw [jb]; exact Hnn.out _ (by omega) _
        · rw [jm]; exact seen_noNew s2 _
        · rw [j4]; rfl
        · rw [j5]; rfl
        · omega
      · rw [List.take_left' (by simp), r2]
        have HH := Hid.mk (And.intro hH0 (And.intro hq2 (And.intro jb jm)))
        clear key htab Hlb Hq hH0 hq2 hX jb jm hf hi hpk
        (repeat' (first | (with_reducible refine A1 (fun _ => ?_) (fun _ => ?_) <;> try (exfalso; omega)) | (with_reducible refine A2 (fun _ => ?_) (fun _ => ?_) <;> try (exfalso; omega)) | (with_reducible refine A3 (fun _ => ?_) (fun _ => ?_) <;> try (exfalso; omega)) | refine A4 (fun _ => ?_) (fun _ => ?_) | refine A5 (fun _ => ?_) (fun _ => ?_) | refine A6 (fun _ => ?_) (fun _ => ?_) | simp -dsimp (disch := omega) only [↓EA, EB, Nat.reduceEqDiff, Nat.reduceAdd, Nat.reduceLeDiff, Nat.reduceMul, ↓reduceIte, reduceCtorEq, newCells, bslV, eq_self, *]))
        refine ⟨fun b hb hw => ?_, ?_⟩
        · rcases hw with rfl | rfl | hw
          · rw [HH.out.2.2.1]; exact Hnn.out _ (by omega) _
          · rw [HH.out.2.2.2]; exact seen_noNew s2 _
          · omega
        · rw [List.take_set_of_le (by omega), List.take_set_of_le (by omega), HH.out.1]
          exact HH.out.2.1
end Go.L.Try
namespace Go.L.Try
open Go Go.L
variable {E : Env} {G : Nat}
theorem flatI_map (o : List Int) : (o.map encI).flatten = o.map fun n : Int => Value.int .i64 n := by
  induction o with
  | nil => rfl
  | cons a r ih => rw [List.map_cons, List.flatten_cons, ih]; rfl
theorem insS (hI : LaidIns E) {h : Heap} {m vb : Nat} {vo : Value} {o : List Int} {x : Int} (ho : OwnT m 1 encI h vo o) (hx : h[vb]? = some (.cells [.int .i64 x] false)) (hne : o ≠ [] → blk vo ≠ vb) (hl : o.length < 1024) (hm : m ≤ h.length) {W : Nat → Prop} (hW : o ≠ [] → W (blk vo)) {Q : Value → Heap → Prop}
    (hq : ∀ v' h', OwnT m 1 encI h' v' (x :: o) → blk v' = h.length → h'.length = h.length + 1 → (∀ b, b < h.length → (o ≠ [] → b ≠ blk vo) → h'[b]? = h[b]?) → Q v' h') :
    WX W (callW E (.func (.func n_slices_Insert_int_int) #[] #[]) [vo, .int .i64 0, .slice (some ⟨vb, 0, none⟩) 1 1] h) Q := by
  rw [callW_ext hI.ins]
  unfold OwnT at ho
  generalize hL : o.map encI = L at ho
  cases ho with
  | nil =>
    have ho0 : o = [] := by simpa using hL
    subst ho0
    refine ⟨.slice (some ⟨h.length, 0, some 1⟩) 1 1, h ++ [.cells [.int .i64 x] false], [], by simp only [insE, hx]; simp, (fun b hb => nomatch hb), hq _ _ ?_ rfl (by simp) fun b hb _ => List.getElem?_append_left hb⟩
    exact Own.some (b := h.length) (L := [[.int .i64 x]]) hm (by rw [geta0]; rfl) (by simp) (by simp) (by simp)
  | @some b _ hmb hb hs hf hn =>
    have hln : L.length = o.length := by rw [← hL, List.length_map]
    have hon : o ≠ [] := fun e => by rw [e] at hL; exact hn hL.symm
    have hbv : b ≠ vb := hne hon
    have hbl := (List.getElem?_eq_some_iff.1 hb).1
    have hfl : L.flatten.length = L.length := by rw [← hL, flatI_map]; simp
    have hcond : True ∧ True ∧ True ∧ b ≠ vb ∧ 0 < L.length ∧ L.length < 1024 ∧ 0 + L.length ≤ L.flatten.length   := ⟨trivial, trivial, trivial, hbv, by cases L; exact absurd rfl hn; simp, by omega, by omega⟩
    refine ⟨.slice (some ⟨h.length, 0, some 1⟩) (L.length + 1) (L.length + 1), h.set b .dead ++ [.cells (.int .i64 x :: L.flatten) false], [b], ?_, fun y hy => by rw [List.mem_singleton.1 hy]; exact hW hon, hq _ _ ?_ rfl (by simp) fun y hy h2 => ?_⟩
    · simp only [insE, hx, List.getElem?_cons_zero, hb]
      rw [if_pos hcond, List.drop_zero, List.take_of_length_le (by omega)]
    · have := Own.some (m := m) (sz := 1) (h := h.set b .dead ++ [.cells (.int .i64 x :: L.flatten) false]) (b := h.length) (L := [.int .i64 x] :: L) hm (by rw [List.getElem?_append_right (by simp)]; simp) (by intro e he; rcases List.mem_cons.1 he with rfl | he; rfl; exact hs e he) (by simp; omega) (by simp)
      unfold OwnT
      rw [List.map_cons, hL]
      exact this
    · rw [List.getElem?_append_left (by simpa using hy), gets (show b ≠ y from Ne.symm (h2 hon))]
section
variable {vo vl : Value} {lv t : Int} {w : List Nat} {mb : Nat}
theorem sC_st0 (v : Value) : setCells (sCells vo lv t vl w mb) 0 [v] = sCells v lv t vl w mb := rfl
theorem sC_st1 (x : Int) : setCells (sCells vo lv t vl w mb) 1 [.int .i64 x] = sCells vo x t vl w mb := rfl
theorem setCells_mid : ∀ (cs c d r : List Value), d.length = cs.length → setCells (c ++ d ++ r) c.length cs = c ++ cs ++ r
  | [], c, d, r, h => by rw [List.length_eq_zero_iff.1 (show d.length = 0 from h)]; rfl
  | x :: xs, c, [], r, h => by cases h
  | x :: xs, c, y :: d, r, h => by
    have h3 := setCells_mid xs (c ++ [x]) d r (by simpa using h)
    simp only [setCells, List.append_assoc, List.cons_append, List.nil_append, List.length_append, List.length_cons, List.length_nil, Nat.zero_add] at h3 ⊢
    rw [← h3]
    congr 1
    rw [List.set_append_right _ _ (Nat.le_refl _), Nat.sub_self]; rfl
theorem sC_st4 {w' : List Nat} (hw : okM w) (hw' : okM w') : setCells (sCells vo lv t vl w mb) 4 (encM w') = sCells vo lv t vl w' mb :=
  setCells_mid (encM w') [vo, .int .i64 lv, .int .i64 t, vl] (encM w) [.map (some mb)] (by rw [encM_len hw, encM_len hw'])
theorem sC_take : (sCells vo lv t vl w mb).take 3 = [vo, .int .i64 lv, .int .i64 t] := rfl
theorem sC_noNew {m : Nat} (h1 : noNew m 4 vo = true) (h2 : noNew m 4 vl = true) (h3 : mb < m) : noNewO m (some (.cells (sCells vo lv t vl w mb) false)) = true := by
  have h4 : (encM w).all (noNew m 4) = true := by
    rw [List.all_eq_true]; intro x hx
    obtain ⟨y, _, rfl⟩ := List.mem_map.1 hx
    rfl
  simp only [noNewO, sCells, List.all_append, List.all_cons, List.all_nil, h1, h2, h4, Bool.and_true, Bool.true_and]
  simp [noNew, h3]
def zCells (vl : Value) (w : List Nat) : List Value := [.slice none 0 0, .int .i64 0, .int .i64 0, vl] ++ encM w ++ [.map none]
theorem zC_len (hw : okM w) : (zCells vl w).length = 21 := by simp [zCells, encM_len hw]
theorem zC_new (hw : okM w) : setCells [.slice none 0 0, .int .i64 0, .int .i64 0, vl, .int .u64 0, .int .u64 0, .int .u64 0, .int .u64 0, .int .u64 0, .int .u64 0, .int .u64 0, .int .u64 0, .int .u64 0, .int .u64 0, .int .u64 0, .int .u64 0, .int .u64 0, .int .u64 0, .int .u64 0, .int .u64 0, .map none] 4 (encM w) = zCells vl w :=
  setCells_mid (encM w) [.slice none 0 0, .int .i64 0, .int .i64 0, vl] z16 [.map none] (by rw [encM_len hw]; rfl)
theorem zC_map (hw : okM w) : (zCells vl w).set 20 (.map (some mb)) = sCells (.slice none 0 0) 0 0 vl w mb := by
  have h := setCells_mid [.map (some mb)] ([.slice none 0 0, .int .i64 0, .int .i64 0, vl] ++ encM w) [.map none] [] rfl
  have e : ([.slice none 0 0, .int .i64 0, .int .i64 0, vl] ++ encM w).length = 20 := by simp [encM_len hw]
  rw [e, List.append_nil, List.append_nil] at h
  exact h
end
end Go.L.Try
namespace Go.L.Try
open Go Go.L
variable {E : Env} {G : Nat}
theorem rd_noNew {α : Type} {sz m : Nat} {enc : α → List Value} {h : Heap} {v : Value} {l : List α} (r : Rd sz enc h v l) (hm : h.length ≤ m) : noNew m 4 v = true := by
  rcases Row.is r with ⟨rfl, _⟩ | ⟨b, off, sp, cap, c', ro, rfl, hb, _⟩
  · rfl
  · have := (List.getElem?_eq_some_iff.1 hb).1
    simp [noNew]; omega
theorem own_noNew4 {m n : Nat} {h : Heap} {v : Value} {o : List Int} (r : OwnT m 1 encI h v o) (hn : h.length ≤ n) : noNew n 4 v = true := rd_noNew r.rd hn
structure At (h : Heap) (vl : Value) (l : List Task) (R : List Int × Nat × Nat × Int) (n : Nat) (es : List Nat) (o : List Int) (t : Nat) (hh : Heap) : Prop where
  pre : Pre h hh
  res : hh[h.length]? = some (.cells [.slice none 0 0, .int .i64 0, .int .i64 0] false)
  st : ∃ w vo esm, okM w ∧ elemsFrom w 0 = es ∧ hh[h.length + 2]? = some (.cells (sCells vo (n : Int) (t : Int) vl w (h.length + 1)) false) ∧ hh[h.length + 1]? = some (.map esm) ∧ Seen l esm ∧ OwnT (h.length + 3) 1 encI hh vo o
  nodup : es.Nodup
  len : es.length = n
  mem : ∀ k ∈ es, k < l.length
  olen : o.length + n = l.length
  few : t + n * 1024 ≤ 1048576
  is : assignN l n es o t = R
theorem memM_inL {w : List Nat} {es : List Nat} (he : elemsFrom w 0 = es) {k : Nat} (hk : k < 1024) : memM w k = inL es k := by
  unfold inL
  rw [← he, Bool.eq_iff_iff, decide_eq_true_eq, mem_elems]
  exact ⟨fun h => ⟨by omega, hk, h⟩, fun h => h.2.2⟩
theorem assign_l0 (hE : Laid E) (hX : LaidAdd E) (hZ : LaidTz E G) (hI : LaidIns E) {h : Heap} (ht : Tab G h) {vl : Value} {l : List Task} (hl : Rd 7 encT h vl l) (hs : ∀ t ∈ l, t.name.size < 1152921504606846976) (hn : l.length ≤ 1024) {R : List Int × Nat × Nat × Int} {es : List Nat} {o : List Int} {n t : Nat} {H : Heap} (hA : At h vl l R n es o t H)
    {Q : Ex → Fr → Heap → Prop} {fr : Fr} (g2 : get fr 2 = .pointer (some ⟨h.length, 0, none⟩)) (g4 : get fr 4 = .pointer (some ⟨h.length + 2, 0, none⟩))
    (hq : ∀ fr' hh (lv : Nat) (o : List Int) (t : Nat) vo w esm, Pre h hh → hh[h.length]? = some (.cells [.slice none 0 0, .int .i64 0, .int .i64 0] false) → okM w → hh[h.length + 2]? = some (.cells (sCells vo (lv : Int) (t : Int) vl w (h.length + 1)) false) → hh[h.length + 1]? = some (.map esm) → OwnT (h.length + 3) 1 encI hh vo o → lv ≤ 1024 → (lv = 0 ∧ R = (o, 0, t, 0) ∨ 0 < lv ∧ R = ([], lv, t, 16)) →
      get fr' 2 = .pointer (some ⟨h.length, 0, none⟩) → get fr' 4 = .pointer (some ⟨h.length + 2, 0, none⟩) → Q (.exit 0) fr' hh) :
    WO (fun b => h.length ≤ b) (iterW (code (callW E) iterW 85 c_opa_Assign_l0) fr H) Q := by
  refine WO.loop (α := Nat × List Nat × List Int × Nat) (fun s fr hh => At h vl l R s.1 s.2.1 s.2.2.1 s.2.2.2 hh ∧ get fr 2 = .pointer (some ⟨h.length, 0, none⟩) ∧ get fr 4 = .pointer (some ⟨h.length + 2, 0, none⟩)) (fun s => s.1) ?_ (n, es, o, t) ⟨hA, g2, g4⟩
  rintro ⟨n, es, o, t⟩ fr hh ⟨A, g2, g4⟩
  dsimp only at A
  clear hA
  obtain ⟨p, hr, ⟨w, vo, esm, hw, hes, hb, hm, hse, ho⟩, a1, a2, a3, a4, a5, a6⟩ := A
  have hHl := (List.getElem?_eq_some_iff.1 hb).1
  have q0 := sC_len (vo := vo) (lv := (n : Int)) (t := (t : Int)) (vl := vl) (mb := h.length + 1) hw
  have q1 := sC_1 (vo := vo) (lv := (n : Int)) (t := (t : Int)) (vl := vl) (w := w) (mb := h.length + 1)
  unfold c_opa_Assign_l0
  cases n with
  | zero =>
    have Hq := Hid.mk (hq · hh 0 o t vo w esm p hr hw hb hm ho (by omega) (.inl ⟨rfl, by rw [← a6]; rfl⟩))
    clear hq
    (repeat' (first | (with_reducible refine A1 (fun _ => ?_) (fun _ => ?_) <;> try (exfalso; omega)) | (with_reducible refine A2 (fun _ => ?_) (fun _ => ?_) <;> try (exfalso; omega)) | (with_reducible refine A3 (fun _ => ?_) (fun _ => ?_) <;> try (exfalso; omega)) | refine A4 (fun _ => ?_) (fun _ => ?_) | refine A5 (fun _ => ?_) (fun _ => ?_) | refine A6 (fun _ => ?_) (fun _ => ?_) | simp -dsimp (disch := omega) only [↓EA, EB, Nat.reduceEqDiff, Nat.reduceAdd, Nat.reduceLeDiff, Nat.reduceMul, ↓reduceIte, reduceCtorEq, newCells, bslV, eq_self, *]))
    exact Hq.out _ rfl rfl
  | succ n =>
    have hp1 : ∀ (k d : LObj), Pre h ((hh.set (h.length + 1) k).set (h.length + 2) d) := fun k d b o hbo => by
      have := (List.getElem?_eq_some_iff.1 hbo).1
      rw [gets (by omega), gets (by omega)]; exact p b o hbo
    have hG : G < h.length := by obtain ⟨c, ro, e1, _⟩ := ht; exact (List.getElem?_eq_some_iff.1 e1).1
    have hHh := p.le
    have hvo := own_noNew4 ho (Nat.le_refl _)
    have hel : (elemsFrom w 0).length ≤ n + 1 := by rw [hes, a2]; exact Nat.le_refl _
    have hpl := pickL_len l (memM w) (elemsFrom w 0)
    have hpk : pickL l (memM w) (elemsFrom w 0) = pickL l (inL es) es := by
      rw [hes]
      exact pickL_cong fun i hi => fits_cong fun k hk _ => memM_inL hes (by omega)
    have Hq := Hid.mk hq
    clear hq
    (repeat' (first | (with_reducible refine A1 (fun _ => ?_) (fun _ => ?_) <;> try (exfalso; omega)) | (with_reducible refine A2 (fun _ => ?_) (fun _ => ?_) <;> try (exfalso; omega)) | (with_reducible refine A3 (fun _ => ?_) (fun _ => ?_) <;> try (exfalso; omega)) | refine A4 (fun _ => ?_) (fun _ => ?_) | refine A5 (fun _ => ?_) (fun _ => ?_) | refine A6 (fun _ => ?_) (fun _ => ?_) | simp -dsimp (disch := omega) only [↓EA, EB, Nat.reduceEqDiff, Nat.reduceAdd, Nat.reduceLeDiff, Nat.reduceMul, ↓reduceIte, reduceCtorEq, newCells, bslV, eq_self, *]))
    refine pickS hE hX hZ (ht.pre p) (hl.pre p) hs hw hb hm hse (by omega) ⟨by omega, by omega⟩ (fun k c d => hl.pre (hp1 _ _)) (fun m hm' t' => sC_noNew (own_noNew4 ho hm') (rd_noNew hl (by omega)) (by omega)) ⟨by omega, by omega, fun b hb => by omega⟩ fun esm' hse' => ?_
    rw [hpk]
    have hpre1 := hp1 (.map esm') (.cells (sCells vo ((n + 1 : Nat) : Int) ((t : Int) + ((pickL l (inL es) es).2 : Nat)) vl w (h.length + 1)) false)
    have hb1 : ((hh.set (h.length + 1) (.map esm')).set (h.length + 2) (.cells (sCells vo ((n + 1 : Nat) : Int) ((t : Int) + ((pickL l (inL es) es).2 : Nat)) vl w (h.length + 1)) false))[h.length + 2]? = some (.cells (sCells vo ((n + 1 : Nat) : Int) ((t : Int) + ((pickL l (inL es) es).2 : Nat)) vl w (h.length + 1)) false) := gset (by simp; omega)
    have hm1 : ((hh.set (h.length + 1) (.map esm')).set (h.length + 2) (.cells (sCells vo ((n + 1 : Nat) : Int) ((t : Int) + ((pickL l (inL es) es).2 : Nat)) vl w (h.length + 1)) false))[h.length + 1]? = some (.map esm') := (gets (by omega)).trans (gset (by omega))
    have hr1 : ((hh.set (h.length + 1) (.map esm')).set (h.length + 2) (.cells (sCells vo ((n + 1 : Nat) : Int) ((t : Int) + ((pickL l (inL es) es).2 : Nat)) vl w (h.length + 1)) false))[h.length]? = some (.cells [.slice none 0 0, .int .i64 0, .int .i64 0] false) := ((gets (by omega)).trans (gets (by omega))).trans hr
    have ho1 : OwnT (h.length + 3) 1 encI ((hh.set (h.length + 1) (.map esm')).set (h.length + 2) (.cells (sCells vo ((n + 1 : Nat) : Int) ((t : Int) + ((pickL l (inL es) es).2 : Nat)) vl w (h.length + 1)) false)) vo o := ho.keep fun hno => by
      have := ho.ge hno
      rw [gets (by omega), gets (by omega)]
    have hlen1 : ((hh.set (h.length + 1) (.map esm')).set (h.length + 2) (.cells (sCells vo ((n + 1 : Nat) : Int) ((t : Int) + ((pickL l (inL es) es).2 : Nat)) vl w (h.length + 1)) false)).length = hh.length := by simp
    rw [hpk] at hpl
    have hpl2 : (pickL l (inL es) es).2 ≤ n + 1 := by omega
    have ht2 : (t : Int) + ((pickL l (inL es) es).2 : Nat) = ((t + (pickL l (inL es) es).2 : Nat) : Int) := by omega
    rw [ht2] at hb1 hm1 hr1 ho1 hlen1 hpre1 ⊢
    generalize ((hh.set (h.length + 1) (.map esm')).set (h.length + 2) (.cells (sCells vo ((n + 1 : Nat) : Int) ((t + (pickL l (inL es) es).2 : Nat) : Int) vl w (h.length + 1)) false)) = h1 at *
    have hlenA : hh.length ≤ h1.length := by omega
    have hlenB : h1.length ≤ hh.length := by omega
    clear hb hm hr ho hp1 hpl hel hlen1
    have ha6 : R = match (pickL l (inL es) es).1 with
      | none => ([], n + 1, t + (pickL l (inL es) es).2, 16)
      | some i => assignN l n (es.filter fun k => decide (k ≠ i)) ((i : Int) :: o) (t + (pickL l (inL es) es).2) := by rw [← a6]; rfl
    have hmemi : ∀ i, (pickL l (inL es) es).1 = some i → i ∈ es := fun i hi => (pickL_some hi).1
    generalize hpv : (pickL l (inL es) es).1 = pv at *
    generalize hpt : t + (pickL l (inL es) es).2 = t2 at *
    cases pv with
    | none =>
      dsimp only at ha6 ⊢
      have Hq2 := Hid.mk (Hq.out · h1 (n + 1) o t2 vo w esm' hpre1 hr1 hw hb1 hm1 ho1 (by omega) (.inr ⟨by omega, ha6⟩))
      clear Hq
      (repeat' (first | (with_reducible refine A1 (fun _ => ?_) (fun _ => ?_) <;> try (exfalso; omega)) | (with_reducible refine A2 (fun _ => ?_) (fun _ => ?_) <;> try (exfalso; omega)) | (with_reducible refine A3 (fun _ => ?_) (fun _ => ?_) <;> try (exfalso; omega)) | refine A4 (fun _ => ?_) (fun _ => ?_) | refine A5 (fun _ => ?_) (fun _ => ?_) | refine A6 (fun _ => ?_) (fun _ => ?_) | simp -dsimp (disch := omega) only [↓EA, EB, Nat.reduceEqDiff, Nat.reduceAdd, Nat.reduceLeDiff, Nat.reduceMul, ↓reduceIte, reduceCtorEq, newCells, bslV, eq_self, *]))
      exact Hq2.out _ rfl rfl
    | some i =>
      dsimp only at ha6 ⊢
      clear Hq
      have hi := hmemi i rfl
      have hwo := withoutS hE h1 hw (i : Int)
      have hw' := withoutM_ok hw (i : Int)
      have e16 := encM_len hw'
      have eone := encM_one (withoutM w (i : Int))
      have etk := encM_take hw'
      have q0 := sC_len (vo := vo) (lv := ((n + 1 : Nat) : Int)) (t := (t2 : Int)) (vl := vl) (mb := h.length + 1) hw
      have q4 := sC_left (vo := vo) (lv := ((n + 1 : Nat) : Int)) (t := (t2 : Int)) (vl := vl) (mb := h.length + 1) hw
      have s4 := sC_st4 (vo := vo) (lv := ((n + 1 : Nat) : Int)) (t := (t2 : Int)) (vl := vl) (mb := h.length + 1) hw hw'
      have z0 := sC_0 (vo := vo) (lv := ((n + 1 : Nat) : Int)) (t := (t2 : Int)) (vl := vl) (w := withoutM w (i : Int)) (mb := h.length + 1)
      have hsb : h.length + 2 < h1.length := by omega
      (repeat' (first | (with_reducible refine A1 (fun _ => ?_) (fun _ => ?_) <;> try (exfalso; omega)) | (with_reducible refine A2 (fun _ => ?_) (fun _ => ?_) <;> try (exfalso; omega)) | (with_reducible refine A3 (fun _ => ?_) (fun _ => ?_) <;> try (exfalso; omega)) | refine A4 (fun _ => ?_) (fun _ => ?_) | refine A5 (fun _ => ?_) (fun _ => ?_) | refine A6 (fun _ => ?_) (fun _ => ?_) | simp -dsimp (disch := omega) only [↓EA, EB, Nat.reduceEqDiff, Nat.reduceAdd, Nat.reduceLeDiff, Nat.reduceMul, ↓reduceIte, reduceCtorEq, newCells, bslV, eq_self, *]))
      have hb2 : (h1.set (h.length + 2) (.cells (sCells vo ((n + 1 : Nat) : Int) (t2 : Int) vl (withoutM w (i : Int)) (h.length + 1)) false) ++ [LObj.cells [.int .i64 (i : Int)] false])[h1.length]? = some (.cells [.int .i64 (i : Int)] false) := by rw [List.getElem?_append_right (by simp)]; simp
      have ho2 : OwnT (h.length + 3) 1 encI (h1.set (h.length + 2) (.cells (sCells vo ((n + 1 : Nat) : Int) (t2 : Int) vl (withoutM w (i : Int)) (h.length + 1)) false) ++ [LObj.cells [.int .i64 (i : Int)] false]) vo o := ho1.keep fun hno => by
        have := ho1.rdO.ge hno
        rw [List.getElem?_append_left (by simp; omega), gets (by omega)]
      refine insS hI ho2 hb2 (fun hno => by have := ho1.rdO.ge hno; omega) (by omega) (by simp; omega) (fun hno => by have := ho1.rdO.ge hno; show h.length ≤ blk vo; omega) fun v' h4 k1 k2 k3 k4 => ?_
      have hge : ∀ b, b < h.length + 3 → h4[b]? = (h1.set (h.length + 2) (.cells (sCells vo ((n + 1 : Nat) : Int) (t2 : Int) vl (withoutM w (i : Int)) (h.length + 1)) false))[b]? := fun b hb => by
        rw [k4 b (by simp; omega) (fun hno => by have := ho1.rdO.ge hno; omega), List.getElem?_append_left (by simp; omega)]
      have hb4 : h4[h.length + 2]? = some (.cells (sCells vo ((n + 1 : Nat) : Int) (t2 : Int) vl (withoutM w (i : Int)) (h.length + 1)) false) := (hge _ (by omega)).trans (gset (by omega))
      have hm4 : h4[h.length + 1]? = some (.map esm') := (hge _ (by omega)).trans ((gets (by omega)).trans hm1)
      have hr4 : h4[h.length]? = some (.cells [.slice none 0 0, .int .i64 0, .int .i64 0] false) := (hge _ (by omega)).trans ((gets (by omega)).trans hr1)
      have hp4 : Pre h h4 := fun b x hbx => by
        have := (List.getElem?_eq_some_iff.1 hbx).1
        rw [hge b (by omega), gets (by omega)]; exact hpre1 b x hbx
      have hl4 : h.length + 2 < h4.length := (List.getElem?_eq_some_iff.1 hb4).1
      have hbk : h.length + 3 ≤ blk v' := by rw [k2]; simp; omega
      have o4 := k1.rd.one
      have c4 := k1.rd.cv
      have hes' : elemsFrom (withoutM w (i : Int)) 0 = es.filter fun k => decide (k ≠ i) := by
        have hi2 : i < 1024 := by have := a3 i hi; omega
        rw [← hes]
        unfold elemsFrom
        rw [List.filter_filter]
        refine List.filter_congr fun m _ => ?_
        rw [withoutM_mem hw hi2, Bool.and_comm]
        congr 1
        rw [Bool.eq_iff_iff]; simp
      have hol := out_len a1 hi
      have y0 := sC_len (vo := vo) (lv := ((n + 1 : Nat) : Int)) (t := (t2 : Int)) (vl := vl) (mb := h.length + 1) hw'
      have y1 := sC_st0 (vo := vo) (lv := ((n + 1 : Nat) : Int)) (t := (t2 : Int)) (vl := vl) (w := withoutM w (i : Int)) (mb := h.length + 1) v'
      have y2 := sC_len (vo := v') (lv := ((n + 1 : Nat) : Int)) (t := (t2 : Int)) (vl := vl) (mb := h.length + 1) hw'
      have y3 := sC_1 (vo := v') (lv := ((n + 1 : Nat) : Int)) (t := (t2 : Int)) (vl := vl) (w := withoutM w (i : Int)) (mb := h.length + 1)
      have y4 := sC_st1 (vo := v') (lv := ((n + 1 : Nat) : Int)) (t := (t2 : Int)) (vl := vl) (w := withoutM w (i : Int)) (mb := h.length + 1) (n : Int)
      have en : ((n + 1 : Nat) : Int) - 1 = n := by omega
      have gp : ∀ x y : LObj, ((h4.set (h.length + 2) x).set (h.length + 2) y) = h4.set (h.length + 2) y := fun x y => List.set_set ..
      have KK := Hid.mk (And.intro hes' (And.intro hol (And.intro k1 (And.intro k2 (And.intro ha6 hmemi)))))
      clear k4 hge ho2 hb2 ho1 hb1 hm1 hr1 hpre1 hes' hol k1 k2 ha6 hmemi ht2 hpk hwo s4 q4 z0 hes
      (repeat' (first | (with_reducible refine A1 (fun _ => ?_) (fun _ => ?_) <;> try (exfalso; omega)) | (with_reducible refine A2 (fun _ => ?_) (fun _ => ?_) <;> try (exfalso; omega)) | (with_reducible refine A3 (fun _ => ?_) (fun _ => ?_) <;> try (exfalso; omega)) | refine A4 (fun _ => ?_) (fun _ => ?_) | refine A5 (fun _ => ?_) (fun _ => ?_) | refine A6 (fun _ => ?_) (fun _ => ?_) | simp -dsimp (disch := omega) only [↓EA, EB, Nat.reduceEqDiff, Nat.reduceAdd, Nat.reduceLeDiff, Nat.reduceMul, ↓reduceIte, reduceCtorEq, newCells, bslV, eq_self, *]))
      obtain ⟨hes', hol, k1, k2, ha6, _⟩ := KK.out
      refine Next.mk (n, es.filter fun k => decide (k ≠ i), (i : Int) :: o, t2) ⟨⟨fun b x hbx => ?_, ?_, ⟨_, v', esm', hw', hes', gset hl4, (gets (by omega)).trans hm4, hse', k1.keep fun _ => gets (by omega)⟩, a1.filter _, ?_, fun k hk => a3 k (List.mem_filter.1 hk).1, ?_, ?_, ha6.symm⟩, rfl, rfl⟩ (by simp)
      · have := (List.getElem?_eq_some_iff.1 hbx).1
        rw [gets (by omega)]; exact hp4 b x hbx
      · exact (gets (by omega)).trans hr4
      · dsimp only; omega
      · simp only [List.length_cons]; omega
      · dsimp only; omega
end Go.L.Try
namespace Go.L.Try
open Go Go.L
variable {E : Env} {G : Nat}
def FoundV (r : List Int × Nat × Nat × Int) (h : Heap) (v : Value) : Prop := ∃ vs, v = .tuple vs.toArray ∧ Each h [fun h v => ∃ us, v = .agg us.toArray ∧ Each h [fun h v => Rd 1 encI h v r.1, fun _ v => v = .int .i64 (r.2.1 : Int), fun _ v => v = .int .i64 (r.2.2.1 : Int)] us, fun _ v => v = .int .i64 r.2.2.2] vs
theorem movable_int2 {m : Nat} {n : Int} : Movable m (fun _ v => v = .int .i64 n) 2 := ⟨(movable_eq (v0 := .int .i64 n) rfl).move, fun h v hr => by subst hr; rfl⟩
theorem found_movable (m : Nat) (r : List Int × Nat × Nat × Int) : Movable m (FoundV r) 3 := by
  refine Movable.tuples (k := 2) (fun R hR => ?_) (by simp)
  simp only [List.mem_cons, List.not_mem_nil, or_false] at hR
  rcases hR with rfl | rfl
  · refine Movable.aggs (k := 1) (fun R hR => ?_) (by simp)
    simp only [List.mem_cons, List.not_mem_nil, or_false] at hR
    rcases hR with rfl | rfl | rfl
    · exact Rd.movable flatI _
    · exact movable_eq rfl
    · exact movable_eq rfl
  · exact movable_int2
theorem assignS (hE : Laid E) (hX : LaidAdd E) (hZ : LaidTz E G) (hI : LaidIns E) {h : Heap} (ht : Tab G h) {vl : Value} {l : List Task} (hl : Rd 7 encT h vl l) (hs : ∀ t ∈ l, t.name.size < 1152921504606846976) :
    ∃ v ys, callW E (.func (.func n_opa_Assign) #[] #[]) [vl] h = some (v, h ++ ys, []) ∧ FoundV (assignP l) (h ++ ys) v := by
  refine fn_new hE.opa_Assign rfl (found_movable _ _) (by simp) ?_
  have hm := fun x => mayS hE (hl.app x) hs
  have hll := hl.len
  simp only [argsF]
  unfold assignP
  by_cases hv : validP l
  · rw [decide_eq_true hv] at hm
    rw [if_pos hv]
    have hn := (valid_iff.1 hv).1
    have hbe := fun x => belowS hE (h ++ x) (n := l.length) hn.2
    have hw := belowM_ok l.length
    have z1 := zC_new (vl := vl) hw
    have z2 := zC_len (vl := vl) hw
    have z3 := fun mb => zC_map (vl := vl) (mb := mb) hw
    have q0 := fun mb => sC_len (vo := .slice none 0 0) (lv := 0) (t := 0) (vl := vl) (mb := mb) hw
    have q1 := fun mb => sC_one (vo := .slice none 0 0) (lv := 0) (t := 0) (vl := vl) (w := belowM l.length) (mb := mb) rfl hl.one
    have q2 := fun mb => sC_st1 (vo := .slice none 0 0) (lv := 0) (t := 0) (vl := vl) (w := belowM l.length) (mb := mb) (l.length : Int)
    have e16 := encM_len hw
    have eone := encM_one (belowM l.length)
    have etk := encM_take hw
    have vl1 := hl.one
    have vlc := hl.cv
    (repeat' (first | (with_reducible refine A1 (fun _ => ?_) (fun _ => ?_) <;> try (exfalso; omega)) | (with_reducible refine A2 (fun _ => ?_) (fun _ => ?_) <;> try (exfalso; omega)) | (with_reducible refine A3 (fun _ => ?_) (fun _ => ?_) <;> try (exfalso; omega)) | refine A4 (fun _ => ?_) (fun _ => ?_) | refine A5 (fun _ => ?_) (fun _ => ?_) | refine A6 (fun _ => ?_) (fun _ => ?_) | simp -dsimp (disch := omega) only [↓EA, EB, Nat.reduceEqDiff, Nat.reduceAdd, Nat.reduceLeDiff, Nat.reduceMul, ↓reduceIte, reduceCtorEq, newCells, bslV, eq_self, *, hll]))
    have H0 : At h vl l (assignN l l.length (List.range l.length) [] 0) l.length (List.range l.length) [] 0 (h ++ [LObj.cells [.slice none 0 0, .int .i64 0, .int .i64 0] false, LObj.map [], LObj.cells (sCells (.slice none 0 0) (l.length : Int) 0 vl (belowM l.length) (h.length + 1)) false]) :=
      ⟨Pre.app _ _, by rw [geta0]; rfl, ⟨belowM l.length, .slice none 0 0, [], hw, belowM_elems hn.2, by rw [geta]; rfl, by rw [geta]; rfl, (fun e he => by cases he), OwnT.nil⟩, List.nodup_range, by simp, fun k hk => by simpa using hk, by simp, by omega, rfl⟩
    clear hm hbe z1 z2 z3 q0 q1 q2 e16 eone etk
    refine assign_l0 hE hX hZ hI ht hl hs hn.2 H0 rfl rfl ?_
    intro fr' hh lv o t vo w esm p hr hw' hb hmm ho hlv hR g2 g4
    have c0 := sC_len (vo := vo) (lv := (lv : Int)) (t := (t : Int)) (vl := vl) (mb := h.length + 1) hw'
    have c1 := sC_1 (vo := vo) (lv := (lv : Int)) (t := (t : Int)) (vl := vl) (w := w) (mb := h.length + 1)
    have c2 := sC_take (vo := vo) (lv := (lv : Int)) (t := (t : Int)) (vl := vl) (w := w) (mb := h.length + 1)
    have c3 := sC_st0 (vo := vo) (lv := (lv : Int)) (t := (t : Int)) (vl := vl) (w := w) (mb := h.length + 1) (.slice none 0 0)
    have c4 := sC_len (vo := .slice none 0 0) (lv := (lv : Int)) (t := (t : Int)) (vl := vl) (mb := h.length + 1) hw'
    have c5 := sC_take (vo := .slice none 0 0) (lv := (lv : Int)) (t := (t : Int)) (vl := vl) (w := w) (mb := h.length + 1)
    have ov := ho.rd.one
    have cv := ho.rd.cv
    have hHl := (List.getElem?_eq_some_iff.1 hb).1
    have hr2 : ∀ x, (hh.set (h.length + 2) x)[h.length]? = some (.cells [.slice none 0 0, .int .i64 0, .int .i64 0] false) := fun x => (gets (by omega)).trans hr
    have hr3 : ∀ x y : LObj, ((hh.set (h.length + 2) x).set h.length y)[h.length]? = some y := fun x y => gset (by simp; omega)
    clear H0 hl hs hll
    rcases hR with ⟨rfl, hR⟩ | ⟨h0, hR⟩
    · rw [hR]
      (repeat' (first | (with_reducible refine A1 (fun _ => ?_) (fun _ => ?_) <;> try (exfalso; omega)) | (with_reducible refine A2 (fun _ => ?_) (fun _ => ?_) <;> try (exfalso; omega)) | (with_reducible refine A3 (fun _ => ?_) (fun _ => ?_) <;> try (exfalso; omega)) | refine A4 (fun _ => ?_) (fun _ => ?_) | refine A5 (fun _ => ?_) (fun _ => ?_) | refine A6 (fun _ => ?_) (fun _ => ?_) | simp -dsimp (disch := omega) only [↓EA, EB, Nat.reduceEqDiff, Nat.reduceAdd, Nat.reduceLeDiff, Nat.reduceMul, ↓reduceIte, reduceCtorEq, newCells, bslV, eq_self, *]))
      exact ⟨(p.set (Nat.le_refl _) _).ex, [.agg #[vo, .int .i64 0, .int .i64 (t : Int)], .int .i64 0], rfl, .cons ⟨[vo, .int .i64 0, .int .i64 (t : Int)], rfl, .cons (ho.keep fun hno => by have := ho.rdO.ge hno; exact gets (by omega)).rd (.cons rfl (.cons rfl .nil))⟩ (.cons rfl .nil)⟩
    · rw [hR]
      (repeat' (first | (with_reducible refine A1 (fun _ => ?_) (fun _ => ?_) <;> try (exfalso; omega)) | (with_reducible refine A2 (fun _ => ?_) (fun _ => ?_) <;> try (exfalso; omega)) | (with_reducible refine A3 (fun _ => ?_) (fun _ => ?_) <;> try (exfalso; omega)) | refine A4 (fun _ => ?_) (fun _ => ?_) | refine A5 (fun _ => ?_) (fun _ => ?_) | refine A6 (fun _ => ?_) (fun _ => ?_) | simp -dsimp (disch := omega) only [↓EA, EB, Nat.reduceEqDiff, Nat.reduceAdd, Nat.reduceLeDiff, Nat.reduceMul, ↓reduceIte, reduceCtorEq, newCells, bslV, eq_self, *]))
      exact ⟨((p.set (by omega) _).set (Nat.le_refl _) _).ex, [.agg #[.slice none 0 0, .int .i64 (lv : Int), .int .i64 (t : Int)], .int .i64 16], rfl, .cons ⟨[.slice none 0 0, .int .i64 (lv : Int), .int .i64 (t : Int)], rfl, .cons Rd.of_nil (.cons rfl (.cons rfl .nil))⟩ (.cons rfl .nil)⟩
  · rw [decide_eq_false hv] at hm
    rw [if_neg hv]
    (repeat' (first | (with_reducible refine A1 (fun _ => ?_) (fun _ => ?_) <;> try (exfalso; omega)) | (with_reducible refine A2 (fun _ => ?_) (fun _ => ?_) <;> try (exfalso; omega)) | (with_reducible refine A3 (fun _ => ?_) (fun _ => ?_) <;> try (exfalso; omega)) | refine A4 (fun _ => ?_) (fun _ => ?_) | refine A5 (fun _ => ?_) (fun _ => ?_) | refine A6 (fun _ => ?_) (fun _ => ?_) | simp -dsimp (disch := omega) only [↓EA, EB, Nat.reduceEqDiff, Nat.reduceAdd, Nat.reduceLeDiff, Nat.reduceMul, ↓reduceIte, reduceCtorEq, newCells, bslV, eq_self, *]))
    exact ⟨⟨_, rfl⟩, [.agg #[.slice none 0 0, .int .i64 0, .int .i64 0], .int .i64 1], rfl, .cons ⟨[.slice none 0 0, .int .i64 0, .int .i64 0], rfl, .cons Rd.of_nil (.cons rfl (.cons rfl .nil))⟩ (.cons rfl .nil)⟩
end Go.L.Try
