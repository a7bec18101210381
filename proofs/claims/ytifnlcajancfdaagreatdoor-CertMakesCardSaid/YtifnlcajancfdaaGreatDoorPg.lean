/- PROOFS: two that are the same. -/
import Derived.Test.YtifnlcajancfdaaGreatDoorPf
set_option linter.unusedVariables false
set_option linter.unusedSimpArgs false
set_option maxRecDepth 100000
set_option maxHeartbeats 4000000
namespace Go.L.Try
open Go Go.L
variable {E : Env} {G : Nat}
theorem bytes_beq (s : ByteArray) : (s == s) = true := by
  cases s with
  | mk d => exact beq_self_eq_true d
theorem bin_flat7 (s : ByteArray) (a b c d e f : Int) : binOp .neq (.flat [(.one .s), (.one .i), (.one .i), (.one .i), (.one .i), (.one .i), (.one .i)]) (.agg #[.string s, .int .i64 a, .int .i64 b, .int .i64 c, .int .i64 d, .int .i64 e, .int .i64 f]) (.agg #[.string s, .int .i64 a, .int .i64 b, .int .i64 c, .int .i64 d, .int .i64 e, .int .i64 f]) = some (.bool false) := by
  simp [binOp, eqAny, sameF, sameS]
  exact bytes_beq s
theorem bin_flat2 (s : ByteArray) (a : Int) : binOp .neq (.flat [(.one .s), (.one .i)]) (.agg #[.string s, .int .i64 a]) (.agg #[.string s, .int .i64 a]) = some (.bool false) := by
  simp [binOp, eqAny, sameF, sameS]
  exact bytes_beq s
theorem same05 (hE : Laid E) {h : Heap} {va vb : Value} {l : List Task} (ha : Rd 7 encT h va l) (hb : Rd 7 encT h vb l) :
    callW E (.func (.func n_ref05_Same) #[] #[]) [va, vb] h = some (.bool true, h, []) := by
  refine fn_same hE.ref05_Same rfl (by simp) ?_
  have few := ha.few
  simp only [argsF]
  (repeat' (first | (with_reducible refine A1 (fun _ => ?_) (fun _ => ?_) <;> try (exfalso; omega)) | (with_reducible refine A2 (fun _ => ?_) (fun _ => ?_) <;> try (exfalso; omega)) | (with_reducible refine A3 (fun _ => ?_) (fun _ => ?_) <;> try (exfalso; omega)) | refine A4 (fun _ => ?_) (fun _ => ?_) | refine A5 (fun _ => ?_) (fun _ => ?_) | refine A6 (fun _ => ?_) (fun _ => ?_) | simp -dsimp (disch := omega) only [↓EA, EB, Nat.reduceEqDiff, Nat.reduceAdd, Nat.reduceLeDiff, Nat.reduceMul, ↓reduceIte, reduceCtorEq, newCells, bslV, eq_self, *, ha.len, ha.ixs, ha.ld, ha.ld0, ha.lda, ha.ldx, ha.ldx0, ha.ldxa, hb.len, hb.ixs, hb.ld, hb.ld0, hb.lda, hb.ldx, hb.ldx0, hb.ldxa]))
  refine WO.loop (fun (n : Nat) fr h' => h' = h ∧ n ≤ l.length ∧ get fr 0 = va ∧ get fr 1 = vb ∧ get fr 5 = .int .i64 n) (fun n => l.length - n) ?_ 0 ⟨rfl, Nat.zero_le _, rfl, rfl, rfl⟩
  rintro n fr h' ⟨rfl, hn, g0, g1, g5⟩
  unfold c_ref05_Same_l0
  rcases Nat.lt_or_ge n l.length with hlt | hge
  · have hq := bin_flat7 (atI l (n : Int)).name (atI l (n : Int)).C (atI l (n : Int)).T (atI l (n : Int)).D (atI l (n : Int)).J (atI l (n : Int)).Q (atI l (n : Int)).P
    (repeat' (first | (with_reducible refine A1 (fun _ => ?_) (fun _ => ?_) <;> try (exfalso; omega)) | (with_reducible refine A2 (fun _ => ?_) (fun _ => ?_) <;> try (exfalso; omega)) | (with_reducible refine A3 (fun _ => ?_) (fun _ => ?_) <;> try (exfalso; omega)) | refine A4 (fun _ => ?_) (fun _ => ?_) | refine A5 (fun _ => ?_) (fun _ => ?_) | refine A6 (fun _ => ?_) (fun _ => ?_) | simp -dsimp (disch := omega) only [↓EA, EB, Nat.reduceEqDiff, Nat.reduceAdd, Nat.reduceLeDiff, Nat.reduceMul, ↓reduceIte, reduceCtorEq, newCells, bslV, eq_self, *, ha.len, ha.ixs, ha.ld, ha.ld0, ha.lda, ha.ldx, ha.ldx0, ha.ldxa, hb.len, hb.ixs, hb.ld, hb.ld0, hb.lda, hb.ldx, hb.ldx0, hb.ldxa, encT, hq]))
    exact Next.mk (n + 1) ⟨rfl, hlt, rfl, rfl, rfl⟩ (by omega)
  · have e : n = l.length := by omega
    subst e
    (repeat' (first | (with_reducible refine A1 (fun _ => ?_) (fun _ => ?_) <;> try (exfalso; omega)) | (with_reducible refine A2 (fun _ => ?_) (fun _ => ?_) <;> try (exfalso; omega)) | (with_reducible refine A3 (fun _ => ?_) (fun _ => ?_) <;> try (exfalso; omega)) | refine A4 (fun _ => ?_) (fun _ => ?_) | refine A5 (fun _ => ?_) (fun _ => ?_) | refine A6 (fun _ => ?_) (fun _ => ?_) | simp -dsimp (disch := omega) only [↓EA, EB, Nat.reduceEqDiff, Nat.reduceAdd, Nat.reduceLeDiff, Nat.reduceMul, ↓reduceIte, reduceCtorEq, newCells, bslV, eq_self, *, ha.len, ha.ixs, ha.ld, ha.ld0, ha.lda, ha.ldx, ha.ldx0, ha.ldxa, hb.len, hb.ixs, hb.ld, hb.ld0, hb.lda, hb.ldx, hb.ldx0, hb.ldxa]))
theorem same20 (hE : Laid E) {h : Heap} {ta tb oa ob ca cb : Value} {l : List Task} {os : List ByteArray} {cs : List (ByteArray × Int)} (h1 : Rd 7 encT h ta l) (h2 : Rd 7 encT h tb l) (h3 : Rd 1 encW h oa os) (h4 : Rd 1 encW h ob os) (h5 : Rd 2 encC h ca cs) (h6 : Rd 2 encC h cb cs) :
    callW E (.func (.func n_ref20_Same) #[] #[]) [.agg #[ta, oa, ca], .agg #[tb, ob, cb]] h = some (.bool true, h, []) := by
  refine fn_same hE.ref20_Same rfl (by simp) ?_
  have o1 := h1.one
  have o2 := h2.one
  have o3 := h3.one
  have o4 := h4.one
  have o5 := h5.one
  have o6 := h6.one
  have c1 := h1.cv
  have c2 := h2.cv
  have c3 := h3.cv
  have c4 := h4.cv
  have c5 := h5.cv
  have c6 := h6.cv
  have few3 := h3.few
  have few5 := h5.few
  have l3 := h3.len
  have l4 := h4.len
  have l5 := h5.len
  have l6 := h6.len
  have hs := same05 hE (h1.app [.cells [ta, oa, ca] false, .cells [tb, ob, cb] false]) (h2.app [.cells [ta, oa, ca] false, .cells [tb, ob, cb] false])
  simp only [argsF]
  (repeat' (first | (with_reducible refine A1 (fun _ => ?_) (fun _ => ?_) <;> try (exfalso; omega)) | (with_reducible refine A2 (fun _ => ?_) (fun _ => ?_) <;> try (exfalso; omega)) | (with_reducible refine A3 (fun _ => ?_) (fun _ => ?_) <;> try (exfalso; omega)) | refine A4 (fun _ => ?_) (fun _ => ?_) | refine A5 (fun _ => ?_) (fun _ => ?_) | refine A6 (fun _ => ?_) (fun _ => ?_) | simp -dsimp (disch := omega) only [↓EA, EB, Nat.reduceEqDiff, Nat.reduceAdd, Nat.reduceLeDiff, Nat.reduceMul, ↓reduceIte, reduceCtorEq, newCells, bslV, eq_self, *, l3, l4, l5, l6]))
  have b1 : (h ++ [.cells [ta, oa, ca] false, .cells [tb, ob, cb] false])[h.length]? = some (.cells [ta, oa, ca] false) := by rw [geta0]; rfl
  have b2 : (h ++ [.cells [ta, oa, ca] false, .cells [tb, ob, cb] false])[h.length + 1]? = some (.cells [tb, ob, cb] false) := by rw [geta]; rfl
  have k3 := h3.app [.cells [ta, oa, ca] false, .cells [tb, ob, cb] false]
  have k4 := h4.app [.cells [ta, oa, ca] false, .cells [tb, ob, cb] false]
  have k5 := h5.app [.cells [ta, oa, ca] false, .cells [tb, ob, cb] false]
  have k6 := h6.app [.cells [ta, oa, ca] false, .cells [tb, ob, cb] false]
  clear hs h1 h2 h3 h4 h5 h6
  generalize hH : h ++ [.cells [ta, oa, ca] false, .cells [tb, ob, cb] false] = H at *
  clear hH
  refine WO.loop (fun (n : Nat) fr h' => h' = H ∧ n ≤ os.length ∧ get fr 2 = .pointer (some ⟨h.length, 0, none⟩) ∧ get fr 3 = .pointer (some ⟨h.length + 1, 0, none⟩) ∧ get fr 6 = .int .i64 n) (fun n => os.length - n) ?_ 0 ⟨rfl, Nat.zero_le _, rfl, rfl, rfl⟩
  rintro n fr h' ⟨rfl, hn, g2, g3, g6⟩
  unfold c_ref20_Same_l0
  rcases Nat.lt_or_ge n os.length with hlt | hge
  · (repeat' (first | (with_reducible refine A1 (fun _ => ?_) (fun _ => ?_) <;> try (exfalso; omega)) | (with_reducible refine A2 (fun _ => ?_) (fun _ => ?_) <;> try (exfalso; omega)) | (with_reducible refine A3 (fun _ => ?_) (fun _ => ?_) <;> try (exfalso; omega)) | refine A4 (fun _ => ?_) (fun _ => ?_) | refine A5 (fun _ => ?_) (fun _ => ?_) | refine A6 (fun _ => ?_) (fun _ => ?_) | simp -dsimp (disch := omega) only [↓EA, EB, Nat.reduceEqDiff, Nat.reduceAdd, Nat.reduceLeDiff, Nat.reduceMul, ↓reduceIte, reduceCtorEq, newCells, bslV, eq_self, *, k3.len, k3.ixs, k3.ld, k3.ld0, k3.lda, k3.ldx, k3.ldx0, k3.ldxa, k4.len, k4.ixs, k4.ld, k4.ld0, k4.lda, k4.ldx, k4.ldx0, k4.ldxa, encW]))
    exact Next.mk (n + 1) ⟨rfl, hlt, rfl, rfl, rfl⟩ (by omega)
  · have e : n = os.length := by omega
    subst e
    (repeat' (first | (with_reducible refine A1 (fun _ => ?_) (fun _ => ?_) <;> try (exfalso; omega)) | (with_reducible refine A2 (fun _ => ?_) (fun _ => ?_) <;> try (exfalso; omega)) | (with_reducible refine A3 (fun _ => ?_) (fun _ => ?_) <;> try (exfalso; omega)) | refine A4 (fun _ => ?_) (fun _ => ?_) | refine A5 (fun _ => ?_) (fun _ => ?_) | refine A6 (fun _ => ?_) (fun _ => ?_) | simp -dsimp (disch := omega) only [↓EA, EB, Nat.reduceEqDiff, Nat.reduceAdd, Nat.reduceLeDiff, Nat.reduceMul, ↓reduceIte, reduceCtorEq, newCells, bslV, eq_self, *, k3.len, k3.ixs, k3.ld, k3.ld0, k3.lda, k3.ldx, k3.ldx0, k3.ldxa, k4.len, k4.ixs, k4.ld, k4.ld0, k4.lda, k4.ldx, k4.ldx0, k4.ldxa]))
    refine WO.loop (fun (n : Nat) fr h'' => h'' = h' ∧ n ≤ cs.length ∧ get fr 2 = .pointer (some ⟨h.length, 0, none⟩) ∧ get fr 3 = .pointer (some ⟨h.length + 1, 0, none⟩) ∧ get fr 7 = .int .i64 n) (fun n => cs.length - n) ?_ 0 ⟨rfl, Nat.zero_le _, rfl, rfl, rfl⟩
    rintro n fr h'' ⟨rfl, hn, g2, g3, g7⟩
    unfold c_ref20_Same_l1
    rcases Nat.lt_or_ge n cs.length with hlt | hge
    · have hq := bin_flat2 (atI cs (n : Int)).1 (atI cs (n : Int)).2
      (repeat' (first | (with_reducible refine A1 (fun _ => ?_) (fun _ => ?_) <;> try (exfalso; omega)) | (with_reducible refine A2 (fun _ => ?_) (fun _ => ?_) <;> try (exfalso; omega)) | (with_reducible refine A3 (fun _ => ?_) (fun _ => ?_) <;> try (exfalso; omega)) | refine A4 (fun _ => ?_) (fun _ => ?_) | refine A5 (fun _ => ?_) (fun _ => ?_) | refine A6 (fun _ => ?_) (fun _ => ?_) | simp -dsimp (disch := omega) only [↓EA, EB, Nat.reduceEqDiff, Nat.reduceAdd, Nat.reduceLeDiff, Nat.reduceMul, ↓reduceIte, reduceCtorEq, newCells, bslV, eq_self, *, k5.len, k5.ixs, k5.ld, k5.ld0, k5.lda, k5.ldx, k5.ldx0, k5.ldxa, k6.len, k6.ixs, k6.ld, k6.ld0, k6.lda, k6.ldx, k6.ldx0, k6.ldxa, encC, hq]))
      exact Next.mk (n + 1) ⟨rfl, hlt, rfl, rfl, rfl⟩ (by omega)
    · have e : n = cs.length := by omega
      subst e
      (repeat' (first | (with_reducible refine A1 (fun _ => ?_) (fun _ => ?_) <;> try (exfalso; omega)) | (with_reducible refine A2 (fun _ => ?_) (fun _ => ?_) <;> try (exfalso; omega)) | (with_reducible refine A3 (fun _ => ?_) (fun _ => ?_) <;> try (exfalso; omega)) | refine A4 (fun _ => ?_) (fun _ => ?_) | refine A5 (fun _ => ?_) (fun _ => ?_) | refine A6 (fun _ => ?_) (fun _ => ?_) | simp -dsimp (disch := omega) only [↓EA, EB, Nat.reduceEqDiff, Nat.reduceAdd, Nat.reduceLeDiff, Nat.reduceMul, ↓reduceIte, reduceCtorEq, newCells, bslV, eq_self, *, k5.len, k5.ixs, k5.ld, k5.ld0, k5.lda, k5.ldx, k5.ldx0, k5.ldxa, k6.len, k6.ixs, k6.ld, k6.ld0, k6.lda, k6.ldx, k6.ldx0, k6.ldxa]))
end Go.L.Try
namespace Go.L.Try
open Go Go.L
variable {E : Env} {G : Nat}
theorem makes20 (hE : Laid E) (hX : LaidAdd E) (hZ : LaidTz E G) {h : Heap} (ht : Tab G h) {vl : Value} {l : List Task} (hl : Rd 7 encT h vl l) (hs : ∀ t ∈ l, t.name.size < 1152921504606846976) (hn20 : l.length < 20) :
    callW E (.func (.func n_law20_makes) #[] #[]) [vl] h = some (.bool true, h, []) := by
  refine fn_same hE.law20_makes rfl (by simp) ?_
  have hvl1 := hl.one
  have hvl2 := hl.cv
  have hll := hl.len
  have hae : allE l = 0 → 0 < l.length := fun e => by have := (valid_iff.1 ((allE_zero l).1 e).1).1; omega
  simp only [argsF]
  (repeat' (first | (with_reducible refine A1 (fun _ => ?_) (fun _ => ?_) <;> try (exfalso; omega)) | (with_reducible refine A2 (fun _ => ?_) (fun _ => ?_) <;> try (exfalso; omega)) | (with_reducible refine A3 (fun _ => ?_) (fun _ => ?_) <;> try (exfalso; omega)) | refine A4 (fun _ => ?_) (fun _ => ?_) | refine A5 (fun _ => ?_) (fun _ => ?_) | refine A6 (fun _ => ?_) (fun _ => ?_) | simp -dsimp (disch := omega) only [↓EA, EB, Nat.reduceEqDiff, Nat.reduceAdd, Nat.reduceLeDiff, Nat.reduceMul, ↓reduceIte, reduceCtorEq, newCells, bslV, eq_self, *]))
  refine wx_new (certMake hE hX hZ ht hl hs hn20) fun v ys ⟨o, hg, hm⟩ p1 => ?_
  obtain ⟨vs, rfl, hvs⟩ := hm
  obtain ⟨x, y, rfl, ⟨us, rfl, hus⟩, rfl⟩ := each2 hvs
  obtain ⟨ta, oa, ca, rfl, r1, r2, r3⟩ := each3 hus
  have hl1 := hl.pre p1
  have a1 := r1.one
  have a2 := r2.one
  have a3 := r3.one
  have b1 := r1.cv
  have b2 := r2.cv
  have b3 := r3.cv
  have hle := p1.le
  have hg' : validP l → ∃ o', GoodO l o' := fun _ => by
    obtain ⟨_, _, _, o', _, q1, q2⟩ := orderT hE hl hn20
    exact ⟨o', q1, q2⟩
  obtain ⟨o2, hg2, heq⟩ : ∃ o2, (validP l → GoodO l o2) ∧ (allE l = 0 → o2 = o) := by
    by_cases hok : allE l = 0
    · exact ⟨o, fun _ => hg hok, fun _ => rfl⟩
    · by_cases hv : validP l
      · obtain ⟨o', q⟩ := hg' hv
        exact ⟨o', fun _ => q, fun e => absurd e hok⟩
      · exact ⟨[], fun h => absurd h hv, fun e => absurd e hok⟩
  have hos : (if allE l = 0 then nmO l o2 else []) = (if allE l = 0 then nmO l o else []) := by
    by_cases hok : allE l = 0
    · rw [heq hok]
    · rw [if_neg hok, if_neg hok]
  have hts := fun hh (hr : Rd 7 encT hh vl l) => tests14 hE hr hs
  have hrf := fun hh (hr : Rd 7 encT hh vl l) => ref20Make hE hr hs hg2
  rw [hos] at hrf
  have Hrf := Hid.mk hrf
  have Hts := Hid.mk hts
  clear hrf hts hos heq hg2 hg' hg hvs hus
  generalize (if allE l = 0 then l else []) = ts at *
  generalize (if allE l = 0 then nmO l o else []) = os at *
  generalize (if allE l = 0 then clO l (allR l) l.length else []) = cs at *
  generalize h ++ ys = H1 at *
  (repeat' (first | (with_reducible refine A1 (fun _ => ?_) (fun _ => ?_) <;> try (exfalso; omega)) | (with_reducible refine A2 (fun _ => ?_) (fun _ => ?_) <;> try (exfalso; omega)) | (with_reducible refine A3 (fun _ => ?_) (fun _ => ?_) <;> try (exfalso; omega)) | refine A4 (fun _ => ?_) (fun _ => ?_) | refine A5 (fun _ => ?_) (fun _ => ?_) | refine A6 (fun _ => ?_) (fun _ => ?_) | simp -dsimp (disch := omega) only [↓EA, EB, Nat.reduceEqDiff, Nat.reduceAdd, Nat.reduceLeDiff, Nat.reduceMul, ↓reduceIte, reduceCtorEq, newCells, bslV, eq_self, *]))
  refine wx_new (Hrf.out _ (hl1.app _)) fun w ys2 hr2 p2 => ?_
  obtain ⟨us2, rfl, hu2⟩ := hr2
  rcases hu2 with _ | @⟨_, _, tb, _, q1, _ | @⟨_, _, ob, _, q2, _ | @⟨_, _, cb, _, q3, _ | @⟨_, _, z, _, q4, _ | @⟨_, _, e', _, q5, _ | _⟩⟩⟩⟩⟩
  subst q4; subst q5
  have d1 := q1.one
  have d2 := q2.one
  have d3 := q3.one
  have e1 := q1.cv
  have e2 := q2.cv
  have e3 := q3.cv
  have m3 : (H1 ++ [LObj.cells [ta, oa, ca] false] ++ ys2)[H1.length]? = some (.cells [ta, oa, ca] false) := p2 _ _ (by rw [geta0]; rfl)
  have pp : Pre H1 (H1 ++ [LObj.cells [ta, oa, ca] false] ++ ys2) := (Pre.app H1 _).trans p2
  have s1 := r1.pre pp
  have s2 := r2.pre pp
  have s3 := r3.pre pp
  have hl2 := hl1.pre pp
  have hle2 := pp.le
  have h1l : H1.length < (H1 ++ [LObj.cells [ta, oa, ca] false] ++ ys2).length := by simp
  clear p2 pp r1 r2 r3 hl1
  generalize H1 ++ [LObj.cells [ta, oa, ca] false] ++ ys2 = H3 at *
  have hh3 : h.length ≤ H3.length := by omega
  have m3x : ∀ x, (H3 ++ x)[H1.length]? = some (.cells [ta, oa, ca] false) := fun x => Pre.app H3 x _ _ m3
  have hsm := fun x => same20 hE (s1.app x) (q1.app x) (s2.app x) (q2.app x) (s3.app x) (q3.app x)
  have hte := fun x => Hts.out _ (hl2.app x)
  clear s1 s2 s3 q1 q2 q3 m3 hl2
  by_cases hok : allE l = 0
  · have h0 := hae hok
    rw [hok] at hte ⊢
    rw [decide_eq_true rfl] at hte
    clear hae
    (repeat' (first | (with_reducible refine A1 (fun _ => ?_) (fun _ => ?_) <;> try (exfalso; omega)) | (with_reducible refine A2 (fun _ => ?_) (fun _ => ?_) <;> try (exfalso; omega)) | (with_reducible refine A3 (fun _ => ?_) (fun _ => ?_) <;> try (exfalso; omega)) | refine A4 (fun _ => ?_) (fun _ => ?_) | refine A5 (fun _ => ?_) (fun _ => ?_) | refine A6 (fun _ => ?_) (fun _ => ?_) | simp -dsimp (disch := omega) only [↓EA, EB, Nat.reduceEqDiff, Nat.reduceAdd, Nat.reduceLeDiff, Nat.reduceMul, ↓reduceIte, reduceCtorEq, newCells, bslV, eq_self, *, m3x]))
  · rw [decide_eq_false hok] at hte
    generalize allE l = e at *
    clear hae
    (repeat' (first | (with_reducible refine A1 (fun _ => ?_) (fun _ => ?_) <;> try (exfalso; omega)) | (with_reducible refine A2 (fun _ => ?_) (fun _ => ?_) <;> try (exfalso; omega)) | (with_reducible refine A3 (fun _ => ?_) (fun _ => ?_) <;> try (exfalso; omega)) | refine A4 (fun _ => ?_) (fun _ => ?_) | refine A5 (fun _ => ?_) (fun _ => ?_) | refine A6 (fun _ => ?_) (fun _ => ?_) | simp -dsimp (disch := omega) only [↓EA, EB, Nat.reduceEqDiff, Nat.reduceAdd, Nat.reduceLeDiff, Nat.reduceMul, ↓reduceIte, reduceCtorEq, newCells, bslV, eq_self, *, m3x]))
theorem certMakes (hE : Laid E) (hX : LaidAdd E) (hZ : LaidTz E G) {h : Heap} (ht : Tab G h) (ha : callW E (.func (.func n_law20_awake) #[] #[]) [] h = some (.bool true, h, [])) {vl vr : Value} {l : List Spec} {raw : List Task} (hl : Rd 5 encSp h vl l) (hr : Rd 7 encT h vr raw) (hs : ∀ t ∈ raw, t.name.size < 1152921504606846976) {turn : Int} (hturn : i64in turn) :
    callW E (.func (.func n_law20_CertMakes) #[] #[]) [vl, vr, .int .i64 turn] h = some (.bool true, h, []) := by
  refine fn_same hE.law20_CertMakes rfl (by simp) ?_
  simp only [argsF]
  have few := hr.few
  (repeat' (first | (with_reducible refine A1 (fun _ => ?_) (fun _ => ?_) <;> try (exfalso; omega)) | (with_reducible refine A2 (fun _ => ?_) (fun _ => ?_) <;> try (exfalso; omega)) | (with_reducible refine A3 (fun _ => ?_) (fun _ => ?_) <;> try (exfalso; omega)) | refine A4 (fun _ => ?_) (fun _ => ?_) | refine A5 (fun _ => ?_) (fun _ => ?_) | refine A6 (fun _ => ?_) (fun _ => ?_) | simp -dsimp (disch := omega) only [↓EA, EB, Nat.reduceEqDiff, Nat.reduceAdd, Nat.reduceLeDiff, Nat.reduceMul, ↓reduceIte, reduceCtorEq, newCells, bslV, eq_self, *, ha]))
  refine WO.loop (fun (n : Nat) fr h' => Pre h h' ∧ n ≤ raw.length ∧ n ≤ 4 ∧ get fr 0 = vl ∧ get fr 1 = vr ∧ get fr 2 = .int .i64 turn ∧ get fr 7 = .bool true ∧ get fr 9 = .int .i64 n ∧ OwnT h.length 7 encT h' (get fr 8) ((raw.take n).map smallT)) (fun n => raw.length - n) ?_ 0 ⟨Pre.refl _, Nat.zero_le _, by omega, rfl, rfl, rfl, rfl, rfl, OwnT.nil⟩
  rintro n fr h' ⟨hp, hn, hn4, g0, g1, g2, g7, g9, ho⟩
  generalize hvo : get fr 8 = vo at ho
  unfold c_law20_CertMakes_l0
  have hr' := hr.pre hp
  have hml := hp.le
  by_cases hlt : n < raw.length ∧ n < 4
  · obtain ⟨hlt, hlt4⟩ := hlt
    have b1 := tmod_bounds (atI raw (n : Int)).C 40 (by decide)
    have hgl : ((raw.take n).map smallT).length ≤ 4 := by rw [List.length_map, List.length_take]; omega
    have Hst := Hid.mk (show (raw.take (n + 1)).map smallT = (raw.take n).map smallT ++ [smallT (atI raw (n : Int))] by rw [Go.L.take_snoc hlt, List.map_append]; rfl)
    have Ho := Hid.mk ho
    have oo := ho.rd.one
    have oc := ho.rd.cv
    clear ho
    have hlt2 : (n : Int) < raw.length := by omega
    have hlt3 : (n : Int) < 4 := by omega
    (repeat' (first | (with_reducible refine A1 (fun _ => ?_) (fun _ => ?_) <;> try (exfalso; omega)) | (with_reducible refine A2 (fun _ => ?_) (fun _ => ?_) <;> try (exfalso; omega)) | (with_reducible refine A3 (fun _ => ?_) (fun _ => ?_) <;> try (exfalso; omega)) | refine A4 (fun _ => ?_) (fun _ => ?_) | refine A5 (fun _ => ?_) (fun _ => ?_) | refine A6 (fun _ => ?_) (fun _ => ?_) | simp -dsimp (disch := omega) only [↓EA, EB, Nat.reduceEqDiff, Nat.reduceAdd, Nat.reduceLeDiff, Nat.reduceMul, ↓reduceIte, reduceCtorEq, newCells, bslV, eq_self, *, hr'.len, hr'.ixs, hr'.ld, hr'.ld0, hr'.lda, hr'.ldx, hr'.ldx0, hr'.ldxa, encT]))
    refine wx_app1 (sz := 7) (bytes := 64) (Ho.out.app _) (hp.app' _) (Nat.le_refl _) (by simp; omega) (fun b hb => hb) (smallT (atI raw (n : Int))) (by simp -dsimp (disch := omega) only [↓EA, EB, Nat.reduceEqDiff, Nat.reduceAdd, Nat.reduceLeDiff, Nat.reduceMul, ↓reduceIte, reduceCtorEq, newCells, bslV, eq_self]; rfl) rfl (by decide) (by decide) (by omega) ?_
    intro v2 h2 k1 k2 k3 k4 k5
    clear k5
    (repeat' (first | (with_reducible refine A1 (fun _ => ?_) (fun _ => ?_) <;> try (exfalso; omega)) | (with_reducible refine A2 (fun _ => ?_) (fun _ => ?_) <;> try (exfalso; omega)) | (with_reducible refine A3 (fun _ => ?_) (fun _ => ?_) <;> try (exfalso; omega)) | refine A4 (fun _ => ?_) (fun _ => ?_) | refine A5 (fun _ => ?_) (fun _ => ?_) | refine A6 (fun _ => ?_) (fun _ => ?_) | simp -dsimp (disch := omega) only [↓EA, EB, Nat.reduceEqDiff, Nat.reduceAdd, Nat.reduceLeDiff, Nat.reduceMul, ↓reduceIte, reduceCtorEq, newCells, bslV, eq_self, *]))
    refine Next.mk (n + 1) ⟨k2, by omega, by omega, rfl, rfl, rfl, rfl, rfl, ?_⟩ (by omega)
    rw [Hst.out]; exact k1
  · have hend : ¬ ((n : Int) < raw.length ∧ (n : Int) < 4) := fun h => hlt ⟨by omega, by omega⟩
    have rv := ho.rd
    have hsm : ∀ t ∈ (raw.take n).map smallT, t.name.size < 1152921504606846976 := fun t ht => by
      obtain ⟨u, hu, rfl⟩ := List.mem_map.1 ht
      exact hs u (List.mem_of_mem_take hu)
    have hlm : ((raw.take n).map smallT).length < 20 := by rw [List.length_map, List.length_take]; omega
    have rvo := rv.one
    have rvc := rv.cv
    have hset := setP_len l (most := 6) (turn := turn) (by decide)
    have hnm : ∀ t ∈ setP l 6 turn, t.name.size < 1152921504606846976 := fun t ht => by have := (setP_small (l := l) (most := 6) (turn := turn) (t := t) (by decide) (by decide) ht).name; omega
    have hl' := hl.pre hp
    have ht' := ht.pre hp
    generalize (raw.take n).map smallT = sm at *
    have Hst := Hid.mk (set04O hE hl' (most := 6) (by decide) (by decide) hturn)
    have Hset := Hid.mk (And.intro hset hnm)
    clear ho hset hnm hlt
    (repeat' (first | (with_reducible refine A1 (fun _ => ?_) (fun _ => ?_) <;> try (exfalso; omega)) | (with_reducible refine A2 (fun _ => ?_) (fun _ => ?_) <;> try (exfalso; omega)) | (with_reducible refine A3 (fun _ => ?_) (fun _ => ?_) <;> try (exfalso; omega)) | refine A4 (fun _ => ?_) (fun _ => ?_) | refine A5 (fun _ => ?_) (fun _ => ?_) | refine A6 (fun _ => ?_) (fun _ => ?_) | simp -dsimp (disch := omega) only [↓EA, EB, Nat.reduceEqDiff, Nat.reduceAdd, Nat.reduceLeDiff, Nat.reduceMul, ↓reduceIte, reduceCtorEq, newCells, bslV, eq_self, *, hr'.len, hr'.ixs, hr'.ld, hr'.ld0, hr'.lda, hr'.ldx, hr'.ldx0, hr'.ldxa]))
    · refine wx_new Hst.out fun v ys r p => ?_
      obtain ⟨hset, hnm⟩ := Hset.out
      have m1 := makes20 hE hX hZ (ht'.pre p) r.rd hnm (by omega)
      have m2 := makes20 hE hX hZ (ht'.pre p) (rv.pre p) hsm hlm
      have m3 := makes20 hE hX hZ (ht'.pre p) (Rd.of_nil (sz := 7) (enc := encT)) (by simp) (by decide)
      clear r p hset hnm
      generalize h' ++ ys = K at *
      (repeat' (first | (with_reducible refine A1 (fun _ => ?_) (fun _ => ?_) <;> try (exfalso; omega)) | (with_reducible refine A2 (fun _ => ?_) (fun _ => ?_) <;> try (exfalso; omega)) | (with_reducible refine A3 (fun _ => ?_) (fun _ => ?_) <;> try (exfalso; omega)) | refine A4 (fun _ => ?_) (fun _ => ?_) | refine A5 (fun _ => ?_) (fun _ => ?_) | refine A6 (fun _ => ?_) (fun _ => ?_) | simp -dsimp (disch := omega) only [↓EA, EB, Nat.reduceEqDiff, Nat.reduceAdd, Nat.reduceLeDiff, Nat.reduceMul, ↓reduceIte, reduceCtorEq, newCells, bslV, eq_self, *]))
    · refine wx_new Hst.out fun v ys r p => ?_
      obtain ⟨hset, hnm⟩ := Hset.out
      have m1 := makes20 hE hX hZ (ht'.pre p) r.rd hnm (by omega)
      have m2 := makes20 hE hX hZ (ht'.pre p) (rv.pre p) hsm hlm
      have m3 := makes20 hE hX hZ (ht'.pre p) (Rd.of_nil (sz := 7) (enc := encT)) (by simp) (by decide)
      clear r p hset hnm
      generalize h' ++ ys = K at *
      (repeat' (first | (with_reducible refine A1 (fun _ => ?_) (fun _ => ?_) <;> try (exfalso; omega)) | (with_reducible refine A2 (fun _ => ?_) (fun _ => ?_) <;> try (exfalso; omega)) | (with_reducible refine A3 (fun _ => ?_) (fun _ => ?_) <;> try (exfalso; omega)) | refine A4 (fun _ => ?_) (fun _ => ?_) | refine A5 (fun _ => ?_) (fun _ => ?_) | refine A6 (fun _ => ?_) (fun _ => ?_) | simp -dsimp (disch := omega) only [↓EA, EB, Nat.reduceEqDiff, Nat.reduceAdd, Nat.reduceLeDiff, Nat.reduceMul, ↓reduceIte, reduceCtorEq, newCells, bslV, eq_self, *]))
end Go.L.Try
