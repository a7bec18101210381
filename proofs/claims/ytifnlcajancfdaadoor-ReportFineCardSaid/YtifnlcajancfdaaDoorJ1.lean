/- REPORT: a text's lines; report.Fine, and the law ReportFine. -/
import Derived.Test.YtifnlcajancfdaaDoorCode
import Derived.Test.YtifnlcajancfdaaDoorVc
set_option linter.unusedVariables false
set_option linter.unusedSimpArgs false
set_option maxRecDepth 100000
set_option maxHeartbeats 2000000
namespace Go.L.Try
open Go Go.L
variable {E : Env}
structure Line where
  name : ByteArray
  r : Int
  ok : Bool
instance : Inhabited Line := ⟨⟨⟨#[]⟩, 0, false⟩⟩
def encL (x : Line) : List Value := [.string x.name, .int .i64 x.r, .bool x.ok]
theorem encL_len (x : Line) : (encL x).length = 3 := rfl
theorem rest23 (hE : Laid E) (h : Heap) (x n : Int) (hn : 0 < n) (hn' : n < 4611686018427387904) : callW E (.func (.func n_law23_rest) #[] #[]) [.int .i64 x, .int .i64 n] h = some (.int .i64 (x % n), h, []) := by
  have hb := tmod_bounds x n hn
  refine fn_same hE.law23_rest rfl (by simp) ?_
  simp -dsimp (disch := omega) only [↓EA, EB, Nat.reduceEqDiff, Nat.reduceAdd, Nat.reduceLeDiff, Nat.reduceMul, ↓reduceIte, reduceCtorEq, newCells, bslV, eq_self, argsF, rest_eq x n hn]
theorem all_take {l : List Line} {n : Nat} (h : n < l.length) : (l.take (n + 1)).all Line.ok = ((l.take n).all Line.ok && (atI l (n : Int)).ok) := by
  rw [Go.L.take_snoc h, List.all_append]; simp
theorem all_not {l : List Line} {n : Nat} (h : n < l.length) (hn : (atI l (n : Int)).ok = false) : l.all Line.ok = false := by
  rw [List.all_eq_false]
  exact ⟨atI l (n : Int), atI_mem (by omega) (by omega), by simp [hn]⟩
theorem fineS (hE : Laid E) {h : Heap} {v : Value} {l : List Line} (hl : Rd 3 encL h v l) : callW E (.func (.func n_report_Fine) #[] #[]) [v] h = some (.bool (l.all Line.ok), h, []) := by
  have few := hl.few
  have hlen := hl.len
  refine fn_same hE.report_Fine rfl (by simp) ?_
  simp only [argsF]
  (repeat' (first | (with_reducible refine A1 (fun _ => ?_) (fun _ => ?_) <;> try (exfalso; omega)) | (with_reducible refine A2 (fun _ => ?_) (fun _ => ?_) <;> try (exfalso; omega)) | (with_reducible refine A3 (fun _ => ?_) (fun _ => ?_) <;> try (exfalso; omega)) | refine A4 (fun _ => ?_) (fun _ => ?_) | refine A5 (fun _ => ?_) (fun _ => ?_) | refine A6 (fun _ => ?_) (fun _ => ?_) | simp -dsimp (disch := omega) only [↓EA, EB, Nat.reduceEqDiff, Nat.reduceAdd, Nat.reduceLeDiff, Nat.reduceMul, ↓reduceIte, reduceCtorEq, newCells, bslV, eq_self, *]))
  refine WO.loop (fun (n : Nat) fr h' => Pre h h' ∧ n ≤ l.length ∧ (l.take n).all Line.ok = true ∧ get fr 5 = v ∧ get fr 6 = .int .i64 l.length ∧ get fr 7 = .int .i64 n) (fun n => l.length - n) ?_ 0 ⟨Pre.refl _, Nat.zero_le _, rfl, rfl, rfl, rfl⟩
  rintro n fr h' ⟨hp, hn, ha, g5, g6, g7⟩
  have hl' := hl.pre hp
  have hpl := hp.le
  unfold c_report_Fine_l0
  rcases Nat.lt_or_ge n l.length with hlt | hge
  · have hst := all_take hlt
    have hnt := all_not hlt
    rw [ha] at hst
    cases hok : (atI l (n : Int)).ok
    · rw [hok] at hst hnt
      have Hn := Hid.mk (hnt rfl)
      clear hst hnt ha
      (repeat' (first | (with_reducible refine A1 (fun _ => ?_) (fun _ => ?_) <;> try (exfalso; omega)) | (with_reducible refine A2 (fun _ => ?_) (fun _ => ?_) <;> try (exfalso; omega)) | (with_reducible refine A3 (fun _ => ?_) (fun _ => ?_) <;> try (exfalso; omega)) | refine A4 (fun _ => ?_) (fun _ => ?_) | refine A5 (fun _ => ?_) (fun _ => ?_) | refine A6 (fun _ => ?_) (fun _ => ?_) | simp -dsimp (disch := omega) only [↓EA, EB, Nat.reduceEqDiff, Nat.reduceAdd, Nat.reduceLeDiff, Nat.reduceMul, ↓reduceIte, reduceCtorEq, newCells, bslV, eq_self, *, hl'.len, hl'.ixs, hl'.ld, hl'.ld0, hl'.lda, hl'.ldx, hl'.ldx0, hl'.ldxa, encL, Hn.out]))
    · rw [hok] at hst hnt
      have Hn := Hid.mk hst
      clear hst hnt ha
      (repeat' (first | (with_reducible refine A1 (fun _ => ?_) (fun _ => ?_) <;> try (exfalso; omega)) | (with_reducible refine A2 (fun _ => ?_) (fun _ => ?_) <;> try (exfalso; omega)) | (with_reducible refine A3 (fun _ => ?_) (fun _ => ?_) <;> try (exfalso; omega)) | refine A4 (fun _ => ?_) (fun _ => ?_) | refine A5 (fun _ => ?_) (fun _ => ?_) | refine A6 (fun _ => ?_) (fun _ => ?_) | simp -dsimp (disch := omega) only [↓EA, EB, Nat.reduceEqDiff, Nat.reduceAdd, Nat.reduceLeDiff, Nat.reduceMul, ↓reduceIte, reduceCtorEq, newCells, bslV, eq_self, *, hl'.len, hl'.ixs, hl'.ld, hl'.ld0, hl'.lda, hl'.ldx, hl'.ldx0, hl'.ldxa, encL]))
      refine Next.mk (n + 1) ⟨hp.trans (Pre.app _ _), by omega, Hn.out, rfl, rfl, rfl⟩ (by omega)
  · have e : n = l.length := by omega
    subst e
    rw [List.take_length] at ha
    (repeat' (first | (with_reducible refine A1 (fun _ => ?_) (fun _ => ?_) <;> try (exfalso; omega)) | (with_reducible refine A2 (fun _ => ?_) (fun _ => ?_) <;> try (exfalso; omega)) | (with_reducible refine A3 (fun _ => ?_) (fun _ => ?_) <;> try (exfalso; omega)) | refine A4 (fun _ => ?_) (fun _ => ?_) | refine A5 (fun _ => ?_) (fun _ => ?_) | refine A6 (fun _ => ?_) (fun _ => ?_) | simp -dsimp (disch := omega) only [↓EA, EB, Nat.reduceEqDiff, Nat.reduceAdd, Nat.reduceLeDiff, Nat.reduceMul, ↓reduceIte, reduceCtorEq, newCells, bslV, eq_self, *, ha]))
def okL (x : Line) : Line := { x with ok := true }
theorem okAll (l : List Line) : (l.map okL).all Line.ok = true := by rw [List.all_eq_true]; intro x hx; obtain ⟨y, _, rfl⟩ := List.mem_map.1 hx; rfl
theorem set_okL {l : List Line} {n : Nat} (h : n < l.length) : ((l.take n).map okL ++ l.drop n).set n (okL (atI l (n : Int))) = (l.take (n + 1)).map okL ++ l.drop (n + 1) := by
  rw [Go.L.take_snoc h, List.map_append, List.set_append_right _ _ (by simp; omega)]
  have e : n - ((l.take n).map okL).length = 0 := by simp; omega
  have e2 : l.drop n = atI l (n : Int) :: l.drop (n + 1) := by rw [List.drop_eq_getElem_cons h, atI_nat h]
  rw [e, e2]; simp
theorem reportFine_l0 (hE : Laid E) {h0 : Heap} {vl vx v5 : Value} {l : List Line} (hl : Rd 3 encL h0 vl l) {m : Nat} (hm : l ≠ [] → blk vl < m) (hx : Rd 3 encL h0 vx l ∧ (l ≠ [] → OwnT m 3 encL h0 vx l)) {at' : Int} {Q : Ex → Fr → Heap → Prop} {fr : Fr} {W : Nat → Prop} (hW : ∀ b, m ≤ b → W b)
    (g0 : get fr 0 = vl) (g1 : get fr 1 = .int .i64 at') (g5 : get fr 5 = v5) (g6 : get fr 6 = vx) (g7 : get fr 7 = .bool true) (g8 : get fr 8 = .int .i64 0)
    (hq : ∀ fr' h', Rd 3 encL h' vl l → Rd 3 encL h' vx (l.map okL) ∧ (l ≠ [] → OwnT m 3 encL h' vx (l.map okL)) → get fr' 0 = vl → get fr' 1 = .int .i64 at' → get fr' 5 = v5 → get fr' 6 = vx → get fr' 7 = .bool (l.all Line.ok) → Q (.exit 0) fr' h') :
    WO W (iterW (code (callW E) iterW 70 c_law23_ReportFine_l0) fr h0) Q := by
  have few := hl.few
  refine WO.loop (fun (n : Nat) fr h' => n ≤ l.length ∧ Rd 3 encL h' vl l ∧ (Rd 3 encL h' vx ((l.take n).map okL ++ l.drop n) ∧ (l ≠ [] → OwnT m 3 encL h' vx ((l.take n).map okL ++ l.drop n))) ∧ get fr 0 = vl ∧ get fr 1 = .int .i64 at' ∧ get fr 5 = v5 ∧ get fr 6 = vx ∧ get fr 7 = .bool ((l.take n).all Line.ok) ∧ get fr 8 = .int .i64 n) (fun n => l.length - n) ?_ 0 ⟨Nat.zero_le _, hl, by simpa using hx, g0, g1, g5, g6, g7, g8⟩
  clear g0 g1 g5 g6 g7 g8 hl hx
  rintro n fr h' ⟨hn, hl, hx, g0, g1, g5, g6, g7, g8⟩
  have hxl : (((l.take n).map okL) ++ l.drop n).length = l.length := by simp; omega
  unfold c_law23_ReportFine_l0
  rcases Nat.lt_or_ge n l.length with hlt | hge
  · have hst := Hid.mk (all_take hlt)
    have hse := Hid.mk (set_okL hlt)
    have hat : atI ((l.take n).map okL ++ l.drop n) (n : Int) = atI l (n : Int) := by
      rw [atI_nat (by omega), atI_nat hlt, List.getElem_append_right (by simp; omega)]; simp; congr; omega
    have Hat := Hid.mk hat
    clear hat
    have hn0 : l ≠ [] := fun e => by rw [e] at hlt; simp at hlt
    replace hx := hx.2 hn0
    replace hm := hm hn0
    have hxr := hx.rd
    have hxlt := hx.lt (fun e => by rw [e] at hxl; simp at hxl; exact hn0 (List.length_eq_zero_iff.1 hxl.symm))
    have hxge := hx.ge (fun e => by rw [e] at hxl; simp at hxl; exact hn0 (List.length_eq_zero_iff.1 hxl.symm))
    generalize (l.take n).all Line.ok = bb at *
    generalize ((l.take n).map okL ++ l.drop n) = lx at *
    have Hx := Hid.mk hx
    clear hx
    cases bb <;> (
      (repeat' (first | (with_reducible refine A1 (fun _ => ?_) (fun _ => ?_) <;> try (exfalso; omega)) | (with_reducible refine A2 (fun _ => ?_) (fun _ => ?_) <;> try (exfalso; omega)) | (with_reducible refine A3 (fun _ => ?_) (fun _ => ?_) <;> try (exfalso; omega)) | refine A4 (fun _ => ?_) (fun _ => ?_) | refine A5 (fun _ => ?_) (fun _ => ?_) | refine A6 (fun _ => ?_) (fun _ => ?_) | simp -dsimp (disch := omega) only [↓EA, EB, Nat.reduceEqDiff, Nat.reduceAdd, Nat.reduceLeDiff, Nat.reduceMul, ↓reduceIte, reduceCtorEq, newCells, bslV, eq_self, *, hl.len, hl.ixs, hl.ld, hl.ld0, hl.lda, hl.ldx, hl.ldx0, hl.ldxa, hxr.len, hxr.ixs, hxr.ld, hxr.ld0, hxr.lda, hxr.ldx, hxr.ldx0, hxr.ldxa, encL]))
      refine wh_ownT Hx.out hW (okL (atI l (n : Int))) (by omega) (by omega) (by decide) rfl (by rw [Hat.out]; rfl) fun h5 k1 k2 k3 => ?_
      rw [show ((n : Int)).toNat = n by omega, hse.out] at k1
      have hl5 : Rd 3 encL h5 vl l := hl.keep fun _ => k3 _ (by omega)
      clear k3 hxr hl
      (repeat' (first | (with_reducible refine A1 (fun _ => ?_) (fun _ => ?_) <;> try (exfalso; omega)) | (with_reducible refine A2 (fun _ => ?_) (fun _ => ?_) <;> try (exfalso; omega)) | (with_reducible refine A3 (fun _ => ?_) (fun _ => ?_) <;> try (exfalso; omega)) | refine A4 (fun _ => ?_) (fun _ => ?_) | refine A5 (fun _ => ?_) (fun _ => ?_) | refine A6 (fun _ => ?_) (fun _ => ?_) | simp -dsimp (disch := omega) only [↓EA, EB, Nat.reduceEqDiff, Nat.reduceAdd, Nat.reduceLeDiff, Nat.reduceMul, ↓reduceIte, reduceCtorEq, newCells, bslV, eq_self, *]))
      refine Next.mk (n + 1) ⟨by omega, hl5, ⟨k1.rd, fun _ => k1⟩, rfl, rfl, rfl, rfl, by rw [hst.out]; rfl, rfl⟩ (by omega))
  · have e : n = l.length := by omega
    subst e
    rw [List.take_length] at g7 hx
    rw [List.drop_length, List.append_nil] at hx
    have Hq := Hid.mk hq
    clear hq
    obtain ⟨bb, hb⟩ : ∃ bb, l.all Line.ok = bb := ⟨_, rfl⟩
    rw [hb] at g7
    have Hb := Hid.mk hb
    clear hb
    (repeat' (first | (with_reducible refine A1 (fun _ => ?_) (fun _ => ?_) <;> try (exfalso; omega)) | (with_reducible refine A2 (fun _ => ?_) (fun _ => ?_) <;> try (exfalso; omega)) | (with_reducible refine A3 (fun _ => ?_) (fun _ => ?_) <;> try (exfalso; omega)) | refine A4 (fun _ => ?_) (fun _ => ?_) | refine A5 (fun _ => ?_) (fun _ => ?_) | refine A6 (fun _ => ?_) (fun _ => ?_) | simp -dsimp (disch := omega) only [↓EA, EB, Nat.reduceEqDiff, Nat.reduceAdd, Nat.reduceLeDiff, Nat.reduceMul, ↓reduceIte, reduceCtorEq, newCells, bslV, eq_self, *, hl.len, hl.ixs, hl.ld, hl.ld0, hl.lda, hl.ldx, hl.ldx0, hl.ldxa]))
    refine Hq.out _ _ hl hx ?_ ?_ ?_ ?_ ?_
    all_goals first | rfl | (rw [Hb.out]; rfl)
theorem app_none {α : Type} {sz : Nat} {enc : α → List Value} {h : Heap} {b : Nat} {bytes : Nat} {ro : Bool} (hb : h[b]? = some (.cells [] ro)) {x : Value} (hx : Rd sz enc h x []) : appendV sz bytes (.slice (some ⟨b, 0, none⟩) 0 0) x h = some (.slice (some ⟨b, 0, none⟩) 0 0, h, []) := by
  have h0 : cellsOf sz (.slice (some ⟨b, 0, none⟩) 0 0) h = some (0, []) := by
    rw [cellsOf_some, hb, cellO_cells, if_pos (by show 0 + 0 * sz ≤ _; simp)]; simp
  simp only [appendV, hx.cells, h0]
  rfl
def restJ : Nat → C → C
  | 0, c => c
  | n + 1, .seq _ b => restJ n b
  | _ + 1, c => c
theorem reportFine_rest (hE : Laid E) {h : Heap} {vl : Value} {l : List Line} (hl : Rd 3 encL h vl l) (h6 : l.length ≤ 6) {at' : Int} (hat : i64in at') {fr : Fr} (g0 : get fr 0 = vl) (g1 : get fr 1 = .int .i64 at') (g5 : get fr 5 = .bool true) :
    WO (fun b => h.length ≤ b) (code (callW E) iterW 70 (restJ 3 c_law23_ReportFine.body) fr h) (Res [(.t 4)] fun v _ => noNew h.length 4 (.bool true) = true ∧ v = .bool true) := by
  simp only [restJ, c_law23_ReportFine]
  by_cases hn : l = []
  · subst hn
    have hc : appendV 3 32 (.slice (some ⟨h.length, 0, none⟩) 0 0) vl (h ++ [.cells [] false]) = some (.slice (some ⟨h.length, 0, none⟩) 0 0, h ++ [.cells [] false], []) := app_none (ro := false) (by rw [geta0]; rfl) (hl.app _)
    have hr : Rd 3 encL (h ++ [.cells [] false]) (.slice (some ⟨h.length, 0, none⟩) 0 0) [] := Rd.lit (ro := false) (c := []) (enc := encL) (sz := 3) (cap := 0) (sp := none) (h := h ++ [.cells [] false]) (b := h.length) [] (by rw [geta0]; rfl) rfl (fun _ => rfl) (by decide) (Nat.le_refl _) (.inl rfl)
    have hl2 := hl.app [.cells [] false]
    have hlo := hl.one
    have hlc := hl.cv
    (repeat' (first | (with_reducible refine A1 (fun _ => ?_) (fun _ => ?_) <;> try (exfalso; omega)) | (with_reducible refine A2 (fun _ => ?_) (fun _ => ?_) <;> try (exfalso; omega)) | (with_reducible refine A3 (fun _ => ?_) (fun _ => ?_) <;> try (exfalso; omega)) | refine A4 (fun _ => ?_) (fun _ => ?_) | refine A5 (fun _ => ?_) (fun _ => ?_) | refine A6 (fun _ => ?_) (fun _ => ?_) | simp -dsimp (disch := omega) only [↓EA, EB, Nat.reduceEqDiff, Nat.reduceAdd, Nat.reduceLeDiff, Nat.reduceMul, ↓reduceIte, reduceCtorEq, newCells, bslV, eq_self, *, hc]))
    generalize h ++ [LObj.cells [] false] = H at *
    refine reportFine_l0 hE hl2 (fun e => absurd rfl e) (m := h.length) ⟨hr, fun e => absurd rfl e⟩ (fun b hb => hb) rfl rfl rfl rfl rfl rfl fun fr' h2 r1 r2 g0 g1 g5 g6 g7 => ?_
    have f1 : callW E (.func (.func n_report_Fine) #[] #[]) [vl] h2 = some (.bool true, h2, []) := fineS hE r1
    have f2 : callW E (.func (.func n_report_Fine) #[] #[]) [.slice (some ⟨h.length, 0, none⟩) 0 0] h2 = some (.bool true, h2, []) := fineS hE r2.1
    have f3 : callW E (.func (.func n_report_Fine) #[] #[]) [.slice none 0 0] h2 = some (.bool true, h2, []) := fineS hE (Rd.of_nil (h := h2) (sz := 3) (enc := encL))
    have e1 : lensV false vl = some (.int .i64 0) := r1.len
    replace g7 : get fr' 7 = .bool true := g7
    replace g5 : get fr' 5 = .bool true := g5
    (repeat' (first | (with_reducible refine A1 (fun _ => ?_) (fun _ => ?_) <;> try (exfalso; omega)) | (with_reducible refine A2 (fun _ => ?_) (fun _ => ?_) <;> try (exfalso; omega)) | (with_reducible refine A3 (fun _ => ?_) (fun _ => ?_) <;> try (exfalso; omega)) | refine A4 (fun _ => ?_) (fun _ => ?_) | refine A5 (fun _ => ?_) (fun _ => ?_) | refine A6 (fun _ => ?_) (fun _ => ?_) | simp -dsimp (disch := omega) only [↓EA, EB, Nat.reduceEqDiff, Nat.reduceAdd, Nat.reduceLeDiff, Nat.reduceMul, ↓reduceIte, reduceCtorEq, newCells, bslV, eq_self, *, f1, f2, f3, e1]))
    rename_i q
    exact absurd q (by decide)
  · have hlt : blk vl < h.length := hl.lt' fun e => by
      have := hl.len
      rw [e] at this
      simp [lensV] at this
      exact hn (List.length_eq_zero_iff.1 (by omega))
    have hln : 0 < l.length := by
      rcases Nat.eq_zero_or_pos l.length with e | e
      · exact absurd (List.length_eq_zero_iff.1 e) hn
      · exact e
    have hlo := hl.one
    have hlc := hl.cv
    have hmod := emod_in at' (l.length : Int) (by omega)
    have hrest := fun hh => rest23 hE hh at' l.length (by omega) (by omega)
    obtain ⟨n, hni⟩ := Int.eq_ofNat_of_zero_le hmod.1
    rw [hni] at hrest
    have hnl : n < l.length := by omega
    clear hmod hni
    (repeat' (first | (with_reducible refine A1 (fun _ => ?_) (fun _ => ?_) <;> try (exfalso; omega)) | (with_reducible refine A2 (fun _ => ?_) (fun _ => ?_) <;> try (exfalso; omega)) | (with_reducible refine A3 (fun _ => ?_) (fun _ => ?_) <;> try (exfalso; omega)) | refine A4 (fun _ => ?_) (fun _ => ?_) | refine A5 (fun _ => ?_) (fun _ => ?_) | refine A6 (fun _ => ?_) (fun _ => ?_) | simp -dsimp (disch := omega) only [↓EA, EB, Nat.reduceEqDiff, Nat.reduceAdd, Nat.reduceLeDiff, Nat.reduceMul, ↓reduceIte, reduceCtorEq, newCells, bslV, eq_self, *]))
    refine wx_copy (sz := 3) (enc := encL) (c := []) (ro := false) (off := 0) (l := l) (by rw [geta0]; rfl) (Nat.zero_le _) (hl.app _) hn (fun _ => rfl) (by decide) (by decide) (by omega) fun rx => ?_
    have rs2 := (hl.app [LObj.cells [] false]).app [LObj.cells (l.map encL).flatten false]
    have hH2 : h.length + 1 ≤ (h ++ [LObj.cells [] false]).length := by simp
    generalize (h ++ [LObj.cells [] false]) ++ [LObj.cells (l.map encL).flatten false] = H2 at *
    generalize (h ++ [LObj.cells [] false]).length = m at *
    generalize hvx : Value.slice (some ⟨m, 0, some 3⟩) l.length l.length = vx at *
    clear hvx
    (repeat' (first | (with_reducible refine A1 (fun _ => ?_) (fun _ => ?_) <;> try (exfalso; omega)) | (with_reducible refine A2 (fun _ => ?_) (fun _ => ?_) <;> try (exfalso; omega)) | (with_reducible refine A3 (fun _ => ?_) (fun _ => ?_) <;> try (exfalso; omega)) | refine A4 (fun _ => ?_) (fun _ => ?_) | refine A5 (fun _ => ?_) (fun _ => ?_) | refine A6 (fun _ => ?_) (fun _ => ?_) | simp -dsimp (disch := omega) only [↓EA, EB, Nat.reduceEqDiff, Nat.reduceAdd, Nat.reduceLeDiff, Nat.reduceMul, ↓reduceIte, reduceCtorEq, newCells, bslV, eq_self, *]))
    refine reportFine_l0 hE rs2 (fun _ => by omega) (m := m) ⟨rx.rd, fun _ => rx⟩ (fun b hb => by omega) rfl rfl rfl rfl rfl rfl fun fr' h2 r1 r2 g0 g1 g5 g6 g7 => ?_
    replace r2 := r2.2 hn
    have rx2 := r2.rd
    have f1 := fineS hE r1
    have f2 := fineS hE rx2
    rw [okAll] at f2
    have f3 : ∀ hh, callW E (.func (.func n_report_Fine) #[] #[]) [.slice none 0 0] hh = some (.bool true, hh, []) := fun hh => fineS hE (Rd.of_nil (h := hh) (sz := 3) (enc := encL))
    have hol := List.length_map (f := okL) (as := l)
    have hge : m ≤ blk vx := r2.ge (fun e => hn (by simpa using e))
    replace g5 : get fr' 5 = .bool true := g5
    clear rx rs2
    generalize l.map okL = lx at *
    generalize hbb : l.all Line.ok = bb at *
    (repeat' (first | (with_reducible refine A1 (fun _ => ?_) (fun _ => ?_) <;> try (exfalso; omega)) | (with_reducible refine A2 (fun _ => ?_) (fun _ => ?_) <;> try (exfalso; omega)) | (with_reducible refine A3 (fun _ => ?_) (fun _ => ?_) <;> try (exfalso; omega)) | refine A4 (fun _ => ?_) (fun _ => ?_) | refine A5 (fun _ => ?_) (fun _ => ?_) | refine A6 (fun _ => ?_) (fun _ => ?_) | simp -dsimp (disch := omega) only [↓EA, EB, Nat.reduceEqDiff, Nat.reduceAdd, Nat.reduceLeDiff, Nat.reduceMul, ↓reduceIte, reduceCtorEq, newCells, bslV, eq_self, *, rx2.len, rx2.ixs, rx2.ld, rx2.ld0, rx2.lda, rx2.ldx, rx2.ldx0, rx2.ldxa]))
    refine wh_ownT r2 (fun b hb => by omega) ⟨(atI lx (n : Int)).name, (atI lx (n : Int)).r, false⟩ (by omega) (by omega) (by decide) rfl rfl fun h5 k1 k2 k3 => ?_
    rw [show ((n : Int)).toNat = n by omega] at k1
    have r5 : Rd 3 encL h5 vl l := r1.keep fun _ => k3 _ (by omega)
    have f4 := fineS hE r5
    have f5 := fineS hE k1.rd
    have hls : (lx.set n ⟨(atI lx (n : Int)).name, (atI lx (n : Int)).r, false⟩).length = l.length := by simp [hol]
    rw [all_not (n := n) (by omega) (by rw [atI_nat (by omega), List.getElem_set_self])] at f5
    rw [hbb] at f4
    have e5 := k1.rd.len
    rw [hls] at e5
    clear k1 k2 k3 r5 hbb
    have hne : decide ((l.length : Int) = 0) = false := by simp [hn]
    cases bb
    · (repeat' (first | (with_reducible refine A1 (fun _ => ?_) (fun _ => ?_) <;> try (exfalso; omega)) | (with_reducible refine A2 (fun _ => ?_) (fun _ => ?_) <;> try (exfalso; omega)) | (with_reducible refine A3 (fun _ => ?_) (fun _ => ?_) <;> try (exfalso; omega)) | refine A4 (fun _ => ?_) (fun _ => ?_) | refine A5 (fun _ => ?_) (fun _ => ?_) | refine A6 (fun _ => ?_) (fun _ => ?_) | simp -dsimp (disch := omega) only [↓EA, EB, Nat.reduceEqDiff, Nat.reduceAdd, Nat.reduceLeDiff, Nat.reduceMul, ↓reduceIte, reduceCtorEq, newCells, bslV, eq_self, *, e5, hne]))
    · (repeat' (first | (with_reducible refine A1 (fun _ => ?_) (fun _ => ?_) <;> try (exfalso; omega)) | (with_reducible refine A2 (fun _ => ?_) (fun _ => ?_) <;> try (exfalso; omega)) | (with_reducible refine A3 (fun _ => ?_) (fun _ => ?_) <;> try (exfalso; omega)) | refine A4 (fun _ => ?_) (fun _ => ?_) | refine A5 (fun _ => ?_) (fun _ => ?_) | refine A6 (fun _ => ?_) (fun _ => ?_) | simp -dsimp (disch := omega) only [↓EA, EB, Nat.reduceEqDiff, Nat.reduceAdd, Nat.reduceLeDiff, Nat.reduceMul, ↓reduceIte, reduceCtorEq, newCells, bslV, eq_self, *, e5, hne]))
theorem reportFine (hE : Laid E) (ha : ∀ h, callW E (.func (.func n_law23_awake) #[] #[]) [] h = some (.bool true, h, [])) {h : Heap} {vl : Value} {l : List Line} (hl : Rd 3 encL h vl l) {at' : Int} (hat : i64in at') :
    callW E (.func (.func n_law23_ReportFine) #[] #[]) [vl, .int .i64 at'] h = some (.bool true, h, []) := by
  refine fn_same hE.law23_ReportFine rfl (by simp) ?_
  simp only [argsF]
  have few := hl.few
  have hlo := hl.one
  have hlc := hl.cv
  have Hrest := Hid.mk (fun {vl l fr} hl h6 g0 g1 g5 => reportFine_rest (h := h) (vl := vl) (l := l) (fr := fr) hE hl h6 hat g0 g1 g5)
  generalize hR : (C.seq (C.reg [0, 1, 5, 6] _) _) = R
  have hR2 : R = restJ 3 c_law23_ReportFine.body := by rw [← hR]; rfl
  have HR := Hid.mk hR2
  clear hR hR2
  by_cases h6 : 6 < l.length
  · obtain ⟨v', e1, e2, _⟩ := hl.sls_hi (k := .i64) (n := 6) (by decide) (by omega)
    have o' := e2.one
    have c' := e2.cv
    (repeat' (first | (with_reducible refine A1 (fun _ => ?_) (fun _ => ?_) <;> try (exfalso; omega)) | (with_reducible refine A2 (fun _ => ?_) (fun _ => ?_) <;> try (exfalso; omega)) | (with_reducible refine A3 (fun _ => ?_) (fun _ => ?_) <;> try (exfalso; omega)) | refine A4 (fun _ => ?_) (fun _ => ?_) | refine A5 (fun _ => ?_) (fun _ => ?_) | refine A6 (fun _ => ?_) (fun _ => ?_) | simp -dsimp (disch := omega) only [↓EA, EB, Nat.reduceEqDiff, Nat.reduceAdd, Nat.reduceLeDiff, Nat.reduceMul, ↓reduceIte, reduceCtorEq, newCells, bslV, eq_self, *, hl.len, hl.ixs, hl.ld, hl.ld0, hl.lda, hl.ldx, hl.ldx0, hl.ldxa, e1]))
    rw [HR.out]
    exact Hrest.out e2 (by simp; omega) rfl rfl rfl
  · (repeat' (first | (with_reducible refine A1 (fun _ => ?_) (fun _ => ?_) <;> try (exfalso; omega)) | (with_reducible refine A2 (fun _ => ?_) (fun _ => ?_) <;> try (exfalso; omega)) | (with_reducible refine A3 (fun _ => ?_) (fun _ => ?_) <;> try (exfalso; omega)) | refine A4 (fun _ => ?_) (fun _ => ?_) | refine A5 (fun _ => ?_) (fun _ => ?_) | refine A6 (fun _ => ?_) (fun _ => ?_) | simp -dsimp (disch := omega) only [↓EA, EB, Nat.reduceEqDiff, Nat.reduceAdd, Nat.reduceLeDiff, Nat.reduceMul, ↓reduceIte, reduceCtorEq, newCells, bslV, eq_self, *, hl.len, hl.ixs, hl.ld, hl.ld0, hl.lda, hl.ldx, hl.ldx0, hl.ldxa]))
    rw [HR.out]
    exact Hrest.out hl (by omega) rfl rfl rfl
end Go.L.Try
