/- trace.Fits, cadencyref11.Fits. -/
import Derived.Test.YtkfkdhgnddcfdaaPg
import Derived.Test.YtkfkdhgnddcfdaaPh
import Derived.Test.YtkfkdhgnddcfdaaPe
set_option linter.unusedVariables false
set_option linter.unusedSimpArgs false
set_option maxRecDepth 100000
set_option maxHeartbeats 2000000
namespace Go.L.Try
open Go Go.L
variable {E : Env}
theorem same10 (hE : Laid E) {h : Heap} {va vb : Value} {a b : List Span} (ha : Rd 3 encS h va a) (hb : Rd 3 encS h vb b) :
    callW E (.func (.func n_cadencyref10_Same) #[] #[]) [va, vb] h = some (.bool (decide (a = b)), h, []) := by
  refine fn_same hE.cadencyref10_Same rfl (by simp) ?_
  have few := ha.few
  have few2 := hb.few
  simp only [argsF]
  (repeat' (first | (with_reducible refine A3 (fun _ => ?_) (fun _ => ?_) <;> try (exfalso; omega)) | simp -dsimp (disch := omega) only [↓EA, EB, Nat.reduceEqDiff, ↓reduceIte, reduceCtorEq, eq_self, *, ha.len, hb.len]))
  · have : a ≠ b := fun e => by subst e; simp_all
    simp [this]
  · have hn1 : a.length ≤ b.length := by omega
    have hn2 : b.length ≤ a.length := by omega
    refine WO.loop (fun n fr h' => h' = h ∧ n ≤ a.length ∧ get fr 0 = va ∧ get fr 1 = vb ∧ get fr 5 = .int .i64 n ∧ a.take n = b.take n) (fun n => a.length - n) ?_ 0 ⟨rfl, Nat.zero_le _, rfl, rfl, rfl, rfl⟩
    rintro n fr h' ⟨rfl, hn, g0, g1, g5, ht⟩
    have Ht := Hid.mk ht
    clear ht
    unfold c_cadencyref10_Same_l0
    rcases Nat.lt_or_ge n a.length with hlt | hge
    · (repeat' (first | (with_reducible refine A3 (fun _ => ?_) (fun _ => ?_) <;> try (exfalso; omega)) | simp -dsimp (disch := omega) only [↓EA, EB, Nat.reduceEqDiff, ↓reduceIte, reduceCtorEq, eq_self, *, ha.len, ha.ixs, ha.lda, hb.ixs, hb.lda, encS, bin_flat3]))
      · have : a ≠ b := fun e => by subst e; simp_all
        simp [this]
      · refine Next.mk (n + 1) ⟨rfl, by omega, rfl, rfl, rfl, ?_⟩ (by omega)
        rw [take_snoc hlt, take_snoc (by omega), Ht.out]
        congr 2
        exact span_ext.2 (by rename_i hh; omega)
    · have : a = b := by
        have := Ht.out
        rwa [List.take_of_length_le (by omega), List.take_of_length_le (by omega)] at this
      (repeat' (first | (with_reducible refine A3 (fun _ => ?_) (fun _ => ?_) <;> try (exfalso; omega)) | simp -dsimp (disch := omega) only [↓EA, EB, Nat.reduceEqDiff, ↓reduceIte, reduceCtorEq, eq_self, *, ha.len]))
/-- For ever. -/
theorem runU_ever {l : List Task} {jobs : List Job} (h : sumWork jobs ≤ 1099511627776) : runU l jobs 9223372036854775807 = runP l jobs := by
  unfold runU runP
  cases hb : legalB l jobs
  · rfl
  · simp only [if_true]
    rw [untilP_ever (legal_ok hb).1 h (rsInit_inv jobs (legal_ok hb).1.work)]
    rfl
def fitsP (l : List Task) (jobs : List Job) (sp : List Span) : Bool := legalB l jobs && decide ((runP l jobs).L = sp)
theorem fits11 (hE : Laid E) {h : Heap} {vl vj vs : Value} {l : List Task} {jobs : List Job} {sp : List Span} (hl : Rd 7 encT h vl l) (hs : ∀ t ∈ l, t.name.size < 1152921504606846976) (hj : RdJ h vj jobs) (hsum : sumWork jobs ≤ 1099511627776) (hsp : Rd 3 encS h vs sp) :
    callW E (.func (.func n_cadencyref11_Fits) #[] #[]) [vl, vj, vs] h = some (.bool (fitsP l jobs sp), h, []) := by
  refine fn_same hE.cadencyref11_Fits rfl (by simp) ?_
  have hleg := legal08 hE hl hs hj
  simp only [argsF]
  unfold fitsP
  cases hb : legalB l jobs
  · rw [hb] at hleg
    rw [Bool.false_and]
    (repeat' simp -dsimp (disch := omega) only [↓EA, EB, Nat.reduceEqDiff, Nat.reduceAdd, ↓reduceIte, reduceCtorEq, eq_self, *])
  · rw [hb] at hleg
    rw [Bool.true_and]
    have o1 := hl.one
    (repeat' simp -dsimp (disch := omega) only [↓EA, EB, Nat.reduceEqDiff, Nat.reduceAdd, ↓reduceIte, reduceCtorEq, eq_self, *])
    refine wx_new (run10 hE hl hs hj hsum) fun v ys r p => ?_
    generalize _ ++ ys = H at r p ⊢
    obtain ⟨vs', rfl, hv⟩ := r
    rcases hv with _ | @⟨_, _, va, _, ra, _ | @⟨_, _, vb, _, rb, _ | @⟨_, _, vc, _, rc, _ | _⟩⟩⟩
    have hsame := same10 hE ra.1 (hsp.pre p)
    have oa := ra.1.one
    have ca := ra.1.cv
    generalize decide ((runP l jobs).L = sp) = d at *
    (repeat' simp -dsimp (disch := omega) only [↓EA, EB, Nat.reduceEqDiff, ↓reduceIte, reduceCtorEq, eq_self, *])
theorem fitsT (hE : Laid E) {h : Heap} {vl vj vs : Value} {l : List Task} {jobs : List Job} {sp : List Span} (hl : Rd 7 encT h vl l) (hs : ∀ t ∈ l, t.name.size < 1152921504606846976) (hj : RdJ h vj jobs) (hn : jobs.length < 20) (hsum : sumWork jobs ≤ 1099511627776) (hsp : Rd 3 encS h vs sp) :
    callW E (.func (.func n_trace_Fits) #[] #[]) [vl, vj, vs] h = some (.bool (fitsP l jobs sp), h, []) := by
  refine fn_same hE.trace_Fits rfl (by simp) ?_
  have hleg := legalS hE hl hs hj
  simp only [argsF]
  unfold fitsP
  cases hb : legalB l jobs
  · rw [hb] at hleg
    rw [Bool.false_and]
    (repeat' simp -dsimp (disch := omega) only [↓EA, EB, Nat.reduceEqDiff, Nat.reduceAdd, ↓reduceIte, reduceCtorEq, eq_self, *])
  · rw [hb] at hleg
    rw [Bool.true_and]
    (repeat' simp -dsimp (disch := omega) only [↓EA, EB, Nat.reduceEqDiff, Nat.reduceAdd, ↓reduceIte, reduceCtorEq, eq_self, *])
    refine wx_new (runX hE hl hs hj hn hsum) fun v ys r p => ?_
    generalize _ ++ ys = H at r p ⊢
    rw [runU_ever hsum] at r
    obtain ⟨vs', rfl, hv⟩ := r
    rcases hv with _ | @⟨_, _, va, _, ra, _ | @⟨_, _, vb, _, rb, _ | _⟩⟩
    have na := Rd.nt ra.1
    have nb := Rd.nt rb.1
    have oa := ra.1.one
    have ca := ra.1.cv
    have ob := rb.1.one
    have cb := rb.1.cv
    have hsp' := hsp.pre p
    have ra' := ra.1
    have few := ra'.few
    have few2 := hsp'.few
    generalize (runP l jobs).L = L at *
    have hle := p.le
    clear ra rb hleg
    by_cases hlen : L.length = sp.length
    · have h1 : L.length ≤ sp.length := by omega
      have h2 : sp.length ≤ L.length := by omega
      clear hlen
      (repeat' (first | (with_reducible refine A3 (fun _ => ?_) (fun _ => ?_) <;> try (exfalso; omega)) | simp -dsimp (disch := omega) only [↓EA, EB, Nat.reduceEqDiff, ↓reduceIte, reduceCtorEq, eq_self, *, ra'.len, hsp'.len]))
      refine WO.loop (fun n fr h' => Pre H h' ∧ n ≤ L.length ∧ get fr 2 = vs ∧ get fr 26 = va ∧ get fr 27 = .int .i64 L.length ∧ get fr 28 = .int .i64 n ∧ L.take n = sp.take n) (fun n => L.length - n) ?_ 0 ⟨Pre.refl _, Nat.zero_le _, rfl, rfl, rfl, rfl, rfl⟩
      rintro n fr h' ⟨hpp, hn, g2, g26, g27, g28, ht⟩
      have Ht := Hid.mk ht
      have r1 := ra'.pre hpp
      have r2 := hsp'.pre hpp
      clear ht
      unfold c_trace_Fits_l0
      by_cases hlt : n < L.length
      · have hlt2 : (n : Int) < L.length ∧ (n : Int) < sp.length := by omega
        have hWx : h.length ≤ h'.length := by have := hpp.le; omega
        by_cases hc : (atI L (n : Int)).job = (atI sp (n : Int)).job ∧ (atI L (n : Int)).from' = (atI sp (n : Int)).from' ∧ (atI L (n : Int)).to' = (atI sp (n : Int)).to'
        · obtain ⟨c1, c2, c3⟩ := hc
          have ed : ∀ a b c : Int, decide (¬ (a = a ∧ b = b ∧ c = c)) = false := fun a b c => by simp
          (repeat' simp -dsimp (disch := omega) only [↓EA, EB, Nat.reduceEqDiff, Nat.reduceAdd, ↓reduceIte, newCells, eq_self, *, r1.ixs, r1.lda, r2.ixs, r2.ldxa, encS, bin_flat3])
          refine Next.mk (n + 1) ⟨hpp.app' _, by omega, rfl, rfl, rfl, by simp only [get]; simp, ?_⟩ (by omega)
          rw [take_snoc hlt, take_snoc (by omega), Ht.out]
          congr 2
          exact span_ext.2 ⟨c1, c2, c3⟩
        · have hne : L ≠ sp := fun e => hc (by rw [e]; exact ⟨rfl, rfl, rfl⟩)
          rw [decide_eq_false hne]
          (repeat' simp -dsimp (disch := omega) only [↓EA, EB, Nat.reduceEqDiff, Nat.reduceAdd, ↓reduceIte, newCells, eq_self, *, r1.ixs, r1.lda, r2.ixs, r2.ldxa, encS, bin_flat3])
      · have he : L = sp := by
          have := Ht.out
          rwa [List.take_of_length_le (by omega), List.take_of_length_le (by omega)] at this
        rw [decide_eq_true he]
        have hnn : ¬ (n : Int) < L.length := by omega
        (repeat' (first | (with_reducible refine A3 (fun _ => ?_) (fun _ => ?_) <;> try (exfalso; omega)) | simp -dsimp (disch := omega) only [↓EA, EB, Nat.reduceEqDiff, ↓reduceIte, eq_self, *]))
    · have hne : L ≠ sp := fun e => hlen (by rw [e])
      rw [decide_eq_false hne]
      (repeat' (first | (with_reducible refine A3 (fun _ => ?_) (fun _ => ?_) <;> try (exfalso; omega)) | simp -dsimp (disch := omega) only [↓EA, EB, Nat.reduceEqDiff, ↓reduceIte, reduceCtorEq, eq_self, *, ra'.len, hsp'.len]))
end Go.L.Try

/- TraceFits: a run fits, and no other one. -/
set_option linter.unusedVariables false
set_option linter.unusedSimpArgs false
set_option maxRecDepth 100000
set_option maxHeartbeats 4000000
namespace Go.L.Try
open Go Go.L
variable {E : Env}
def SpansOk (l : List Span) : Prop := ∀ x ∈ l, (0 ≤ x.from' ∧ x.from' ≤ 35184372088832) ∧ 0 ≤ x.to' ∧ x.to' ≤ 35184372088832
/-- The times of a run are no later than it is. -/
def rsTimes (s : RS) : Prop := 0 ≤ s.t ∧ (∀ x ∈ s.L, (0 ≤ x.from' ∧ x.from' ≤ s.t) ∧ 0 ≤ x.to' ∧ x.to' ≤ s.t) ∧ ∀ e ∈ s.ends, -1 ≤ e ∧ e ≤ s.t
theorem rsTimes_step {l : List Task} {jobs : List Job} {s : RS} (h : rsTimes s) : rsTimes (rsStep l jobs s) := by
  obtain ⟨h0, h1, h2⟩ := h
  unfold rsStep
  split
  · refine ⟨by show 0 ≤ s.t + 1; omega, fun x hx => ?_, fun e he => ?_⟩
    · have := h1 x hx
      show (_ ∧ x.from' ≤ s.t + 1) ∧ _ ∧ x.to' ≤ s.t + 1
      omega
    · have := h2 e he; show _ ∧ e ≤ s.t + 1; omega
  · refine ⟨by show 0 ≤ s.t + 1; omega, ?_, ?_⟩
    · intro x hx
      show (_ ∧ x.from' ≤ s.t + 1) ∧ _ ∧ x.to' ≤ s.t + 1
      simp only [rsWork, addTick] at hx
      split at hx
      · rename_i hc
        have hlast := h1 (atI s.L ((s.L.length : Int) - 1)) (atI_mem (by omega) (by omega))
        rcases List.mem_or_eq_of_mem_set hx with hx | rfl
        · have := h1 x hx; omega
        · dsimp only; omega
      · rcases List.mem_append.1 hx with hx | hx
        · have := h1 x hx; omega
        · rw [List.mem_singleton] at hx; subst hx; dsimp only; omega
    · intro e he
      show -1 ≤ e ∧ e ≤ s.t + 1
      simp only [rsWork] at he
      split at he
      · rcases List.mem_or_eq_of_mem_set he with he | rfl
        · have := h2 e he; omega
        · omega
      · have := h2 e he; omega
theorem runP_in {l : List Task} {jobs : List Job} (hb : legalB l jobs = true) (hw : sumWork jobs ≤ 1099511627776) : SpansOk (runP l jobs).L ∧ ((runP l jobs).L.length : Int) ≤ sumWork jobs := by
  unfold runP
  rw [if_pos hb]
  obtain ⟨hok, _, _⟩ := legal_ok hb
  have hi := rsInit_inv jobs hok.work
  obtain ⟨g1, g2, _⟩ := untilP_ind (e := -1) hok rsTimes (fun s _ _ h => rsTimes_step h) hi ⟨Int.le_refl _, (fun x hx => nomatch hx), (by intro e he; simp only [rsInit, List.mem_replicate] at he; simp only [rsInit]; omega)⟩
  have hs := g1.sum
  have ht := g1.t1
  have hL := g1.L
  unfold lastRel at ht
  obtain ⟨t0, t1, t2⟩ := g2
  exact ⟨fun x hx => by have := t1 x hx; omega, by omega⟩
theorem rest11 (hE : Laid E) (h : Heap) (x n : Int) (hn : 0 < n) (hn' : n < 4611686018427387904) : callW E (.func (.func n_cadencylaw11_rest) #[] #[]) [.int .i64 x, .int .i64 n] h = some (.int .i64 (x % n), h, []) := by
  have hb := tmod_bounds x n hn
  refine fn_same hE.cadencylaw11_rest rfl (by simp) ?_
  simp -dsimp (disch := omega) only [↓EA, EB, Nat.reduceEqDiff, ↓reduceIte, reduceCtorEq, eq_self, argsF, rest_eq x n hn]
theorem wx_app0 {W : Nat → Prop} {sz bytes b : Nat} {h : Heap} {x : Value} {enc : Span → List Value} (hb : h[b]? = some (.cells [] false)) (hx : Rd sz enc h x []) {Q : Value → Heap → Prop} (hq : Q (.slice (some ⟨b, 0, none⟩) 0 0) h) : WX W (appendV sz bytes (.slice (some ⟨b, 0, none⟩) 0 0) x h) Q := by
  have hc := hx.cells
  have h0 : cellsOf sz (.slice (some ⟨b, 0, none⟩) 0 0) h = some (0, []) := by
    rw [cellsOf_some, hb, cellO_cells, if_pos (by show 0 + 0 * sz ≤ _; simp)]; simp
  refine ⟨_, h, [], ?_, (fun b hb => by cases hb), hq⟩
  simp only [appendV, hc, h0, List.map_nil, List.length_nil, if_true]
  rfl
theorem flatS : ∀ L : List Span, (L.map encS).flatten.length = L.length * 3
  | [] => rfl
  | x :: r => by
    rw [List.map_cons, List.flatten_cons, List.length_append, flatS r, List.length_cons]
    show 3 + r.length * 3 = _
    omega
theorem rd_cut {h : Heap} {b off : Nat} {sp : Option Nat} {A B C : List Span} (hb : h[b]? = some (.cells ((A ++ B ++ C).map encS).flatten false)) (ho : off = A.length * 3) (hsp : sp = none ∨ sp = some 3) (few : B.length < 1152921504606846976) {n : Nat} (hn : n = B.length) : Rd 3 encS h (.slice (some ⟨b, off, sp⟩) n n) B := by
  subst ho hn
  have e1 := flatS A
  have e2 := flatS B
  refine ⟨fun e he => ?_, by rw [List.length_map]; exact few, .inr ⟨b, _, sp, B.length, _, false, by rw [List.length_map], hb, ?_, ?_, by rw [List.length_map]; exact Nat.le_refl _, hsp⟩⟩
  · obtain ⟨x, _, rfl⟩ := List.mem_map.1 he; rfl
  · rw [flatS, List.length_map, List.length_append, List.length_append]; omega
  · rw [List.length_map, List.map_append, List.map_append, List.flatten_append, List.flatten_append, ← e1, ← e2, List.append_assoc, List.drop_left, List.take_left]
theorem wx_cut {W : Nat → Prop} {b i : Nat} {h : Heap} {L : List Span} (hb : h[b]? = some (.cells (L.map encS).flatten false)) (hi : i < L.length) (few : L.length ≤ 1099511627776) {Q : Value → Heap → Prop} (hq : ∀ v' h', Rd 3 encS h' v' (L.take i ++ L.drop (i + 1)) → Pre h h' → Q v' h') :
    WX W (appendV 3 24 (.slice (some ⟨b, 0, none⟩) i i) (.slice (some ⟨b, (i + 1) * 3, some 3⟩) (L.length - (i + 1)) (L.length - (i + 1))) h) Q := by
  have r1 : Rd 3 encS h (.slice (some ⟨b, 0, none⟩) i i) (L.take i) := rd_cut (A := []) (B := L.take i) (C := L.drop i) (by rw [List.nil_append, List.take_append_drop]; exact hb) (by simp) (.inl rfl) (by rw [List.length_take]; omega) (by rw [List.length_take]; omega)
  have r2 : Rd 3 encS h (.slice (some ⟨b, (i + 1) * 3, some 3⟩) (L.length - (i + 1)) (L.length - (i + 1))) (L.drop (i + 1)) := rd_cut (A := L.take (i + 1)) (B := L.drop (i + 1)) (C := []) (by rw [List.append_nil, List.take_append_drop]; exact hb) (by rw [List.length_take]; congr 1; omega) (.inr rfl) (by rw [List.length_drop]; omega) (by rw [List.length_drop])
  have c1 := r1.cells
  have c2 := r2.cells
  have e1 : (L.take i).length = i := by rw [List.length_take]; omega
  have e2 : (L.drop (i + 1)).length = L.length - (i + 1) := by rw [List.length_drop]
  rw [e1] at c1
  rw [e2] at c2
  by_cases hm : L.length - (i + 1) = 0
  · have hd : L.drop (i + 1) = [] := List.drop_of_length_le (by omega)
    refine ⟨_, h, [], ?_, (fun b hb => by cases hb), hq (.slice (some ⟨b, 0, none⟩) i i) h (by rw [hd, List.append_nil]; exact r1) (Pre.refl _)⟩
    unfold appendV
    rw [c2, c1]
    dsimp only
    rw [if_pos hm]
    simp only [fits, Nat.le_refl, decide_true, if_true]
  · refine ⟨_, h ++ [.cells (((L.take i).map encS).flatten ++ ((L.drop (i + 1)).map encS).flatten) false], [], ?_, (fun b hb => by cases hb), hq (.slice (some ⟨h.length, 0, some 3⟩) (i + (L.length - (i + 1))) (i + (L.length - (i + 1)))) _ ?_ (Pre.app _ _)⟩
    · have hbig : (i + (L.length - (i + 1))) * 24 ≤ 140737488355328 ∧ i + (L.length - (i + 1)) < 4611686018427387904 ∧ (3 : Nat) ≠ 0 ∧ (24 : Nat) ≠ 0 := ⟨by omega, by omega, by decide, by decide⟩
      have hcap : ¬ (i + (L.length - (i + 1)) ≤ i) := by omega
      unfold appendV
      rw [c2, c1]
      dsimp only
      rw [if_neg hm, if_pos hbig]
      simp only [hcap, if_false]
    · refine rd_cut (A := []) (B := L.take i ++ L.drop (i + 1)) (C := []) ?_ (by simp) (.inr rfl) (by rw [List.length_append, List.length_take, List.length_drop]; omega) (by rw [List.length_append, List.length_take, List.length_drop]; omega)
      rw [geta0, List.nil_append, List.append_nil, List.map_append, List.flatten_append]; rfl
theorem fitsP_nil (jobs : List Job) (sp : List Span) : fitsP [] jobs sp = false := by
  have : legalB [] jobs = false := by simp [legalB, checkAllP]
  unfold fitsP; rw [this]; rfl
theorem traceFits (hE : Laid E) (ha : ∀ h, callW E (.func (.func n_cadencylaw11_awake) #[] #[]) [] h = some (.bool true, h, [])) {h : Heap} {vl vr : Value} {l : List Spec} {raw : List Raw} {q0 q1 : Int} (hl : Rd 5 encSp h vl l) (hr : RdR h vr raw) (h0 : i64in q0) (h1 : i64in q1) :
    callW E (.func (.func n_cadencylaw11_TraceFits) #[] #[]) [vl, vr, .agg #[.int .i64 q0, .int .i64 q1]] h = some (.bool true, h, []) := by
  refine fn_same hE.cadencylaw11_TraceFits rfl (by simp) ?_
  simp only [argsF]
  (repeat' simp -dsimp (disch := omega) only [↓EA, EB, Nat.reduceEqDiff, Nat.reduceAdd, ↓reduceIte, reduceCtorEq, newCells, eq_self, *, Int.toNat_zero, Nat.zero_mul])
  have hb0 : (h ++ [LObj.cells [.int .i64 q0, .int .i64 q1] false])[h.length]? = some (.cells [.int .i64 q0, .int .i64 q1] false) := by rw [geta0]; rfl
  replace hl := hl.app [LObj.cells [.int .i64 q0, .int .i64 q1] false]
  replace hr := hr.pre (Pre.app h [LObj.cells [.int .i64 q0, .int .i64 q1] false])
  refine wx_new (set04 hE hl (most := 4) (by decide) (by decide) h0) fun v1 ys r1 p1 => ?_
  have P1 := p1
  generalize _ ++ ys = H1 at r1 p1 P1 ⊢
  have hv := setP_valid l (most := 4) q0 (by decide) (by decide)
  have hsl := setP_len l (most := 4) (turn := q0) (by decide)
  have hsm := fun t ht => setP_small (l := l) (most := 4) (turn := q0) (t := t) (by decide) (by decide) ht
  generalize setP l 4 q0 = s at *
  have hnm : ∀ t ∈ s, t.name.size < 1152921504606846976 := fun t ht => by have := (hsm t ht).name; omega
  have o1 := r1.one
  have c1 := r1.cv
  clear p1
  (repeat' simp -dsimp (disch := omega) only [↓EA, EB, Nat.reduceEqDiff, ↓reduceIte, reduceCtorEq, eq_self, *])
  refine wx_new (few08 hE (hr.pre P1) (most := 8) (by decide) (by decide)) fun v2 ys r2 p2 => ?_
  have P2 := P1.trans p2
  replace r1 := r1.pre p2
  generalize _ ++ ys = H2 at r2 p2 P2 r1 ⊢
  clear p2 P1
  generalize hraw : List.map fewOf (List.take (8 : Int).toNat raw) = rw8 at *
  have hgap : ∀ r ∈ rw8, 0 ≤ r.gap ∧ r.gap < 12 := fun r hr => by
    rw [← hraw] at hr
    obtain ⟨x, _, rfl⟩ := List.mem_map.1 hr
    exact emod_in x.gap 12 (by decide)
  have hraw8 : rw8.length ≤ 8 := by rw [← hraw, List.length_map, List.length_take]; omega
  clear hraw
  (repeat' simp -dsimp (disch := omega) only [↓EA, EB, Nat.reduceEqDiff, ↓reduceIte, eq_self, *])
  refine wx_new (decode08 hE r1 hnm r2) fun v3 ys r3 p3 => ?_
  have P3 := P2.trans p3
  replace r1 := r1.pre p3
  generalize _ ++ ys = H3 at r3 p3 P3 r1 ⊢
  have sj := decode_small hv hsm rw8 hraw8 (by decide)
  clear p3 P2 r2 hgap
  generalize decodeP s rw8 = jobs at *
  have hsum : sumWork jobs ≤ 1099511627776 := by have := sj.sum; omega
  have hjl := sj.len
  have SJ := Hid.mk sj
  clear sj
  have hW0 : h.length + 1 ≤ H3.length := by have := P3.le; simpa using this
  have hb3 := P3 _ _ hb0
  have o3 : oneCell v3 = true := by obtain ⟨_, _, h2, _⟩ := r3.is; exact h2.one
  clear hb0 hl hr
  (repeat' simp -dsimp (disch := omega) only [↓EA, EB, Nat.reduceEqDiff, ↓reduceIte, eq_self, *])
  refine wx_new (run10 hE r1 hnm r3 hsum) fun v4 ys r4 p4 => ?_
  have hb4 := p4 _ _ hb3
  have hW4 := p4.le
  replace r1 := r1.pre p4
  replace r3 := r3.pre p4
  generalize _ ++ ys = H4 at r4 p4 r1 r3 hb4 hW4 ⊢
  obtain ⟨vs', rfl, hv4⟩ := r4
  rcases hv4 with _ | @⟨_, _, va, _, ra, _ | @⟨_, _, vb, _, rb, _ | @⟨_, _, vc, _, rc, _ | _⟩⟩⟩
  have oa := ra.1.one
  have ca := ra.1.cv
  have ob := rb.1.one
  have oc := rc.1.one
  have rL := ra.1
  have cb := rb.1.cv
  have cc := rc.1.cv
  clear ra rb rc p4 hb3
  have hleg := SJ.out.legal
  have hf1 : fitsP s jobs (runP s jobs).L = true := by unfold fitsP; rw [hleg]; simp
  have hfne : ∀ sp, sp ≠ (runP s jobs).L → fitsP s jobs sp = false := fun sp hne => by unfold fitsP; rw [hleg, decide_eq_false (fun e => hne e.symm)]; rfl
  have hfT := fun (G : Heap) (vs : Value) (sp : List Span) (hp : Pre H4 G) (hsp : Rd 3 encS G vs sp) => fitsT hE (r1.pre hp) hnm (r3.pre hp) (by omega) hsum hsp
  have hf11 := fun (G : Heap) (vs : Value) (sp : List Span) (hp : Pre H4 G) (hsp : Rd 3 encS G vs sp) => fits11 hE (r1.pre hp) hnm (r3.pre hp) hsum hsp
  have hfN := fun (G : Heap) (vs : Value) (sp : List Span) (hp : Pre H4 G) (hsp : Rd 3 encS G vs sp) => fitsT (l := []) (vl := .slice none 0 0) hE Rd.of_nil (by simp) (r3.pre hp) (by omega) hsum hsp
  have hT2 : ∀ hp : Heap, True := fun _ => trivial
  obtain ⟨hokL, hLw⟩ := runP_in hleg hsum
  generalize hLL : (runP s jobs).L = L at *
  have few := rL.few
  have hHF := Hid.mk (And.intro hfT (And.intro hf11 hfN))
  have px := Pre.app H4 [LObj.cells [va, vb, vc] false]
  have rLx := rL.pre px
  have hq1 := hfT _ va L px rLx
  have hq2 := hfN _ va L px rLx
  rw [fitsP_nil] at hq2
  rw [hf1] at hq1
  have hWq : h.length ≤ H4.length := by omega
  have hb4x : ∀ x, (H4 ++ x)[h.length]? = some (.cells [.int .i64 q0, .int .i64 q1] false) := fun x => by rw [List.getElem?_append_left (List.getElem?_eq_some_iff.1 hb4).1]; exact hb4
  clear hfT hf11 hfN hT2
  (repeat' simp -dsimp (disch := omega) only [↓EA, EB, Nat.reduceEqDiff, Nat.reduceAdd, Nat.reduceLeDiff, Nat.reduceMul, ↓reduceIte, newCells, bslV, eq_self, *])
  have hHG : H4 ++ [LObj.cells [va, vb, vc] false, LObj.cells [] false] = H4 ++ [LObj.cells [va, vb, vc] false, LObj.cells [] false] := rfl
  have pG := Pre.app H4 [LObj.cells [va, vb, vc] false, LObj.cells [] false]
  have hGl : (H4 ++ [LObj.cells [va, vb, vc] false, LObj.cells [] false]).length = H4.length + 2 := by simp
  have hGe : (H4 ++ [LObj.cells [va, vb, vc] false, LObj.cells [] false])[H4.length + 1]? = some (.cells [] false) := by rw [geta]; rfl
  have hG0 : (H4 ++ [LObj.cells [va, vb, vc] false, LObj.cells [] false])[H4.length]? = some (.cells [va, vb, vc] false) := by rw [geta0]; rfl
  have hb5 := hb4x [LObj.cells [va, vb, vc] false, LObj.cells [] false]
  clear hHG px rLx hq1 hq2 hb4x
  generalize H4 ++ [LObj.cells [va, vb, vc] false, LObj.cells [] false] = G at *
  have hG1 : H4.length + 2 ≤ G.length := by omega
  have hG2 : G.length ≤ H4.length + 2 := by omega
  clear hGl
  by_cases hL0 : L = []
  · subst hL0
    refine wx_app0 hGe (rL.pre pG) ?_
    have hsp : Rd 3 encS (G ++ [LObj.cells [.int .i64 0, .int .i64 0, .int .i64 1] false]) (.slice (some ⟨G.length, 0, none⟩) 1 1) [⟨0, 0, 1⟩] := Rd.lit (enc := encS) [⟨0, 0, 1⟩] (by rw [geta0]; rfl) rfl (fun _ => rfl) (by simp) (by simp) (.inl rfl)
    have hf := hHF.out.1 _ _ _ (pG.trans (Pre.app G _)) hsp
    rw [hfne _ (by simp)] at hf
    have hWg : h.length ≤ G.length := by omega
    (repeat' (first | (with_reducible refine A3 (fun _ => ?_) (fun _ => ?_) <;> try (exfalso; omega)) | simp -dsimp (disch := omega) only [↓EA, EB, Nat.reduceEqDiff, Nat.reduceAdd, Nat.reduceLeDiff, Nat.reduceMul, ↓reduceIte, newCells, bslV, eq_self, *]))
  · refine wx_copy hGe (Nat.zero_le _) (rL.pre pG) hL0 (fun _ => rfl) (by decide) (by decide) (by omega) fun o => ?_
    have pX := pG.trans (Pre.app G [.cells (L.map encS).flatten false])
    have hXb : (G ++ [LObj.cells (L.map encS).flatten false])[G.length]? = some (.cells (L.map encS).flatten false) := by rw [geta0]; rfl
    have hXl : (G ++ [LObj.cells (L.map encS).flatten false]).length = G.length + 1 := by simp
    have hb6 : (G ++ [LObj.cells (L.map encS).flatten false])[h.length]? = some (.cells [.int .i64 q0, .int .i64 q1] false) := Pre.app G _ _ _ hb5
    generalize G ++ [LObj.cells (L.map encS).flatten false] = X at *
    have hX1 : X.length ≤ G.length + 1 := by omega
    have hX2 : G.length + 1 ≤ X.length := by omega
    clear hXl
    have hn0 : 0 < L.length := by
      rcases Nat.eq_zero_or_pos L.length with hh | hh
      · exact absurd (List.length_eq_zero_iff.1 hh) hL0
      · exact hh
    have hrest := rest11 hE
    have hi := emod_in q0 L.length (by omega)
    have hk := emod_in (q0.tdiv 7) L.length (by omega)
    have hm := emod_in q1 6 (by decide)
    have rX := o.rd
    have hWx : ∀ b, G.length ≤ b → h.length ≤ b := fun b hb => by omega
    have ho := Hid.mk o
    have hc1 : oneCell (.slice (some ⟨G.length, 0, some 3⟩) L.length L.length) = true := rfl
    clear o hGe hG0 hb5
    unfold i64in at h0 h1
    have hq7 : -9223372036854775808 ≤ q0.tdiv 7 ∧ q0.tdiv 7 ≤ 9223372036854775807 := by
      rcases Int.le_total 0 q0 with hq | hq
      · rw [Int.tdiv_eq_ediv_of_nonneg hq]; omega
      · have e : q0.tdiv 7 = -((-q0).tdiv 7) := by rw [Int.neg_tdiv, Int.neg_neg]
        rw [e, Int.tdiv_eq_ediv_of_nonneg (by omega)]; omega
    have hne0 : ¬ ((L.length : Int) = 0) := by omega
    have hfm := hHF.out
    have hat := hokL _ (atI_mem (l := L) hi.1 hi.2)
    have hnL : L.length ≤ 1099511627776 := by omega
    by_cases hm3 : q1 % 6 = 3
    · have hXV : blk (.slice (some ⟨G.length, 0, some 3⟩) L.length L.length) = G.length := rfl
      obtain ⟨ii, hii⟩ : ∃ ii : Nat, q0 % (L.length : Int) = ii := ⟨(q0 % (L.length : Int)).toNat, by omega⟩
      rw [hii] at hi
      have hiN : ii < L.length := by omega
      clear hfm
      have HXb := Hid.mk hXb
      have hs1 : slsV 3 (.slice (some ⟨G.length, 0, some 3⟩) L.length L.length) none (some (.int .i64 (ii : Nat))) (some (.int .i64 (ii : Nat))) = some (.slice (some ⟨G.length, 0, none⟩) ii ii) := by
        simp [slsV, boundV, show ii ≤ L.length by omega]
      have hs2 : slsV 3 (.slice (some ⟨G.length, 0, some 3⟩) L.length L.length) (some (.int .i64 ((ii : Nat) + 1))) none none = some (.slice (some ⟨G.length, (ii + 1) * 3, some 3⟩) (L.length - (ii + 1)) (L.length - (ii + 1))) := by
        have h1 : (ii : Int) + 1 ≤ L.length := by omega
        have h2 : ((ii : Int) + 1).toNat = ii + 1 := by omega
        have h3 : 0 ≤ (ii : Int) + 1 := by omega
        simp [slsV, boundV, h1, h2, h3]
      clear hXb hat
      generalize hkk : q0.tdiv 7 % (L.length : Int) = kk at *
      (repeat' (first | (with_reducible refine A3 (fun _ => ?_) (fun _ => ?_) <;> try (exfalso; omega)) | simp -dsimp (disch := omega) only [↓EA, EB, Nat.reduceEqDiff, Nat.reduceMul, ↓reduceIte, eq_self, *, Int.toNat_zero, Int.toNat_one, Nat.zero_mul]))
      refine wx_cut HXb.out hiN hnL fun v' h' rd p => ?_
      have f1 := hHF.out.1 h' v' _ (pX.trans p) rd
      have f2 := hHF.out.2.1 h' v' _ (pX.trans p) rd
      have ov := rd.one
      have cv' := rd.cv
      clear rd p
      (repeat' simp -dsimp (disch := omega) only [↓EA, EB, Nat.reduceEqDiff, ↓reduceIte, eq_self, *])
      try rfl
      try simp
    · have hown := ho.out
      generalize (Value.slice (some ⟨G.length, 0, some 3⟩) L.length L.length) = vX at *
      have cX := rX.cv
      have hlX : lensV false vX = some (.int .i64 L.length) := rX.len
      clear hXb
      have hge := hown.ge hL0
      have HX := Hid.mk hown
      clear hown hfm
      (repeat' (first | (with_reducible refine A3 (fun _ => ?_) (fun _ => ?_) <;> try (exfalso; omega)) | simp -dsimp (disch := omega) only [↓EA, EB, Nat.reduceEqDiff, Nat.reduceAdd, Nat.reduceLeDiff, Nat.reduceMul, ↓reduceIte, newCells, bslV, eq_self, *, Int.toNat_zero, Int.toNat_one, Nat.zero_mul, rX.ixs, rX.ld, rX.ld0, encS]))
      · refine wh_rdO0 HX.out.rdO hWx ⟨q0.tdiv 7 % L.length, (atI L (q0 % L.length)).from', (atI L (q0 % L.length)).to'⟩ hi.1 hi.2 (by decide) rfl rfl fun h' k1 k2 kk => ?_
        have pz : Pre H4 h' := fun b o hb => by rw [kk _ (by have := (List.getElem?_eq_some_iff.1 hb).1; omega)]; exact pX _ _ hb
        have f1 := hHF.out.1 h' vX _ pz k1.rd
        have f2 := hHF.out.2.1 h' vX _ pz k1.rd
        clear k1 kk pz
        (repeat' simp -dsimp (disch := omega) only [↓EA, EB, Nat.reduceEqDiff, ↓reduceIte, eq_self, *])
        try rfl
        try simp
      · refine wh_rdO HX.out.rdO hWx (fo := 2) ⟨(atI L (q0 % L.length)).job, (atI L (q0 % L.length)).from', (atI L (q0 % L.length)).to' + 1⟩ hi.1 hi.2 (by decide) rfl rfl fun h' k1 k2 kk => ?_
        have pz : Pre H4 h' := fun b o hb => by rw [kk _ (by have := (List.getElem?_eq_some_iff.1 hb).1; omega)]; exact pX _ _ hb
        have f1 := hHF.out.1 h' vX _ pz k1.rd
        have f2 := hHF.out.2.1 h' vX _ pz k1.rd
        clear k1 kk pz
        (repeat' simp -dsimp (disch := omega) only [↓EA, EB, Nat.reduceEqDiff, ↓reduceIte, eq_self, *])
        try rfl
        try simp
      · refine wh_rdO HX.out.rdO hWx (fo := 1) ⟨(atI L (q0 % L.length)).job, (atI L (q0 % L.length)).from' - 1, (atI L (q0 % L.length)).to'⟩ hi.1 hi.2 (by decide) rfl rfl fun h' k1 k2 kk => ?_
        have pz : Pre H4 h' := fun b o hb => by rw [kk _ (by have := (List.getElem?_eq_some_iff.1 hb).1; omega)]; exact pX _ _ hb
        have f1 := hHF.out.1 h' vX _ pz k1.rd
        have f2 := hHF.out.2.1 h' vX _ pz k1.rd
        clear k1 kk pz
        (repeat' simp -dsimp (disch := omega) only [↓EA, EB, Nat.reduceEqDiff, ↓reduceIte, eq_self, *])
        try rfl
        try simp
      · refine wh_rdO0 HX.out.rdO hWx ⟨(atI L (q0.tdiv 7 % L.length)).job, (atI L (q0 % L.length)).from', (atI L (q0 % L.length)).to'⟩ hi.1 hi.2 (by decide) rfl rfl fun hA k1 k2 kk => ?_
        have rk := k1.rd
        have hset : ((L.set (q0 % L.length).toNat ⟨(atI L (q0.tdiv 7 % L.length)).job, (atI L (q0 % L.length)).from', (atI L (q0 % L.length)).to'⟩).length : Int) = L.length := by rw [List.length_set]
        have K1 := Hid.mk (And.intro k1 kk)
        clear k1 kk
        generalize L.set (q0 % L.length).toNat ⟨(atI L (q0.tdiv 7 % L.length)).job, (atI L (q0 % L.length)).from', (atI L (q0 % L.length)).to'⟩ = L2 at *
        have hk2 : q0.tdiv 7 % (L.length : Int) < (L2.length : Int) := by omega
        have HS := Hid.mk hset
        clear hset rX
        (repeat' simp -dsimp (disch := omega) only [↓EA, EB, Nat.reduceEqDiff, ↓reduceIte, eq_self, *, rk.ixs])
        refine wh_rdO0 K1.out.1 hWx ⟨(atI L (q0 % L.length)).job, (atI L2 (q0.tdiv 7 % L.length)).from', (atI L2 (q0.tdiv 7 % L.length)).to'⟩ hk.1 hk2 (by decide) rfl rfl fun h' k3 k4 kk2 => ?_
        have kk3 : ∀ b, b ≠ blk vX → h'[b]? = X[b]? := fun b hb => (kk2 b hb).trans (K1.out.2 b hb)
        have pz : Pre H4 h' := fun b o hb => by rw [kk3 _ (by have := (List.getElem?_eq_some_iff.1 hb).1; omega)]; exact pX _ _ hb
        have f1 := hHF.out.1 h' vX _ pz k3.rd
        have f2 := hHF.out.2.1 h' vX _ pz k3.rd
        clear k3 kk3 pz
        (repeat' simp -dsimp (disch := omega) only [↓EA, EB, Nat.reduceEqDiff, ↓reduceIte, eq_self, *])
        try rfl
        try simp
      · refine wx_app2 (h0 := H4) (HX.out.app _) (pX.app' _) (by omega) (by rw [List.length_append]; omega) (fun _ => by omega) (⟨q0 % L.length, 900, 901⟩ : Span) (by rw [cellsOf_some, geta0]; rfl) rfl (by decide) (by decide) (by omega) fun v' h' o2 p2 hb2 hl2 hk2 => ?_
        have f1 := hHF.out.1 h' v' _ p2 o2.rd
        have f2 := hHF.out.2.1 h' v' _ p2 o2.rd
        have ov := o2.rd.one
        have cv' := o2.rd.cv
        clear hk2 hb2 o2 p2 hl2
        (repeat' simp -dsimp (disch := omega) only [↓EA, EB, Nat.reduceEqDiff, ↓reduceIte, eq_self, *])
        try rfl
        try simp
end Go.L.Try
