/- LEGAL SCRIPTS: cadencyref08.Legal. -/
import Derived.Test.YtkfkdhgnddcfdaaPb
import Derived.Test.YtkfkdhgnddcfdaaPe
import Derived.Test.YtkfkdhgnddcfdaaV12
set_option linter.unusedVariables false
set_option linter.unusedSimpArgs false
set_option maxRecDepth 100000
set_option maxHeartbeats 2000000
namespace Go.L.Try
open Go Go.L
variable {E : Env}
theorem leg_l0 (hE : Laid E) {W : Nat → Prop} {h0 : Heap} {v0 v1 : Value} {i : Value} {bj bt : Nat} {x0 x1 x2 x3 vc y0 y1 y2 y3 y4 y6 : Value} {q w : Int} {cuts : List Int} (hc : Rd 1 encI h0 vc cuts) (hbj : h0[bj]? = some (.cells [x0, x1, x2, x3, vc] false)) (hbt : h0[bt]? = some (.cells [y0, y1, y2, y3, y4, .int .i64 q, y6] false)) (hw : 0 ≤ w) (hw2 : w ≤ 2147483647) {Q : Ex → Fr → Heap → Prop} {fr : Fr}
    (g0 : get fr 0 = v0) (g1 : get fr 1 = v1) (g5 : get fr 5 = i) (g6 : get fr 6 = .pointer (some ⟨bj, 0, none⟩)) (g7 : get fr 7 = .pointer (some ⟨bt, 0, none⟩)) (g9 : get fr 9 = .int .i64 w) (g10 : get fr 10 = .int .i64 0)
    (hq1 : cutsOk q cuts w = true → ∀ fr', get fr' 0 = v0 → get fr' 1 = v1 → get fr' 5 = i → Q (.exit 2) fr' h0)
    (hq2 : cutsOk q cuts w = false → ∀ fr', get fr' 4 = .bool false → Q .ret fr' h0) :
    WO W (iterW (code (callW E) iterW 146 c_cadencyref08_Legal_l0) fr h0) Q := by
  have few := hc.few
  refine WO.loop (fun c fr h' => h' = h0 ∧ c ≤ cuts.length ∧ get fr 0 = v0 ∧ get fr 1 = v1 ∧ get fr 5 = i ∧ get fr 6 = .pointer (some ⟨bj, 0, none⟩) ∧ get fr 7 = .pointer (some ⟨bt, 0, none⟩) ∧ get fr 10 = .int .i64 c ∧ ∃ left, get fr 9 = .int .i64 left ∧ 0 ≤ left ∧ left ≤ w ∧ cutsOk q cuts w = cutsOk q (cuts.drop c) left) (fun c => cuts.length - c) ?_ 0 ⟨rfl, Nat.zero_le _, g0, g1, g5, g6, g7, g10, w, g9, hw, Int.le_refl _, rfl⟩
  rintro c fr h' ⟨rfl, hcl, g0, g1, g5, g6, g7, g10, left, g9, l0, l1, hcut⟩
  unfold c_cadencyref08_Legal_l0
  rcases Nat.lt_or_ge c cuts.length with hlt | hge
  · have hstep : cutsOk q (cuts.drop c) left = (decide (1 ≤ atI cuts (c : Int) ∧ atI cuts (c : Int) ≤ q ∧ atI cuts (c : Int) ≤ left) && cutsOk q (cuts.drop (c + 1)) (left - atI cuts (c : Int))) := by
      rw [List.drop_eq_getElem_cons hlt, cutsOk, atI_nat hlt]
    rw [hstep] at hcut
    have Hcut := Hid.mk hcut
    clear hcut hstep
    have hq2 := Hid.mk hq2
    clear hq1
    (repeat' (first | (with_reducible refine A2 (fun _ => ?_) (fun _ => ?_) <;> try (exfalso; omega)) | (with_reducible refine A3 (fun _ => ?_) (fun _ => ?_) <;> try (exfalso; omega)) | simp -dsimp (disch := omega) only [↓EA, EB, Nat.reduceEqDiff, ↓reduceIte, reduceCtorEq, eq_self, *, hc.len, hc.ixs, hc.ld0, encI]))
    · exact hq2.out (by rw [Hcut.out, decide_eq_false (by omega)]; rfl) _ rfl
    · exact hq2.out (by rw [Hcut.out, decide_eq_false (by omega)]; rfl) _ rfl
    · exact hq2.out (by rw [Hcut.out, decide_eq_false (by omega)]; rfl) _ rfl
    · exact Next.mk (c + 1) ⟨rfl, by omega, rfl, rfl, rfl, rfl, rfl, rfl, _, rfl, by omega, by omega, by rw [Hcut.out, decide_eq_true (by omega)]; rfl⟩ (by omega)
  · have e : cuts.drop c = [] := List.drop_of_length_le (by omega)
    rw [e] at hcut
    have hq1 := hq1 hcut
    clear hcut e hq2
    (repeat' (first | (with_reducible refine A3 (fun _ => ?_) (fun _ => ?_) <;> try (exfalso; omega)) | simp -dsimp (disch := omega) only [↓EA, EB, Nat.reduceEqDiff, ↓reduceIte, reduceCtorEq, eq_self, *, hc.len]))
    exact hq1 _ rfl rfl rfl
theorem legal08 (hE : Laid E) {h : Heap} {v0 v1 : Value} {l : List Task} {jobs : List Job} (hl : Rd 7 encT h v0 l) (hs : ∀ t ∈ l, t.name.size < 1152921504606846976) (hj : RdJ h v1 jobs) :
    callW E (.func (.func n_cadencyref08_Legal) #[] #[]) [v0, v1] h = some (.bool (legalB l jobs), h, []) := by
  refine fn_same hE.cadencyref08_Legal rfl (by simp) ?_
  obtain ⟨lv, rfl, hlv, hc⟩ := hj.is
  have few := hlv.few
  have fewl := hl.few
  have hca := checkAll04 hE hl hs
  simp only [argsF]
  by_cases hok : (checkAllP l).2 = 0
  · by_cases hle : lv.length ≤ 4096
    · obtain ⟨hl0, hl1, hoks⟩ := checkAll_ok hok
      have hd : legalB l (lv.map (·.j)) = allOk l (lv.map (·.j)) lv.length := by simp [legalB, hok, hle]
      rw [hd]
      clear hd
      have hok' : decide (¬ (checkAllP l).2 = 0) = false := by simp [hok]
      clear hok
      (repeat' (first | (with_reducible refine A3 (fun _ => ?_) (fun _ => ?_) <;> try (exfalso; omega)) | simp -dsimp (disch := omega) only [↓EA, EB, Nat.reduceEqDiff, ↓reduceIte, reduceCtorEq, eq_self, *, hlv.len]))
      clear hca hok'
      refine WO.loop (fun n fr h' => Pre h h' ∧ n ≤ lv.length ∧ get fr 0 = v0 ∧ get fr 1 = v1 ∧ get fr 5 = .int .i64 n ∧ allOk l (lv.map (·.j)) n = true) (fun n => lv.length - n) ?_ 0 ⟨Pre.refl _, Nat.zero_le _, rfl, rfl, rfl, rfl⟩
      rintro n fr h' ⟨hp, hn, g0, g1, g5, hall⟩
      have hl' := hl.pre hp
      have hlv' := hlv.pre hp
      have Hall := Hid.mk hall
      clear hall
      unfold c_cadencyref08_Legal_l1
      rcases Nat.lt_or_ge n lv.length with hlt | hge
      · have hmem := atI_mem (l := lv) (i := n) (by omega) (by omega)
        have hcn := (hc _ hmem).pre hp
        have e2 : atI (lv.map (·.j)) (n : Int) = (atI lv n).j := (atI_map' (fun p : NV Job => p.j) lv n (by omega) (by omega)).symm
        obtain ⟨vs, s1, s2, _⟩ := hlv'.sls_hi (k := .i64) (n := n) (by omega) (by omega)
        have hlast : ∀ x t, callW E (.func (.func n_cadencyref08_last) #[] #[]) [vs, .int .i64 t] (h' ++ x) = some (.int .i64 (lastN (lv.map (·.j)) t n), h' ++ x, []) := fun x t => by
          have := last08 hE (s2.app x) t
          rw [List.map_take, List.length_take, lastN_take (by omega)] at this
          rw [this]; congr 4; omega
        have h5 := lastN_in (lv.map (·.j)) (atI lv n).j.task n
        have hk : 0 ≤ lastN (lv.map (·.j)) (atI lv n).j.task n → atI (lv.map (·.j)) (lastN (lv.map (·.j)) (atI lv n).j.task n) = (atI lv (lastN (lv.map (·.j)) (atI lv n).j.task n)).j ∧ 0 ≤ (atI lv (lastN (lv.map (·.j)) (atI lv n).j.task n)).j.arrive ∧ (atI lv (lastN (lv.map (·.j)) (atI lv n).j.task n)).j.arrive ≤ 17592186044416 := fun hk => by
          have e3 := (atI_map' (fun p : NV Job => p.j) lv _ hk (by omega)).symm
          refine ⟨e3, ?_⟩
          have h1 := allOk_at Hall.out (lastN (lv.map (·.j)) (atI lv n).j.task n).toNat (by omega)
          rw [show lastN (lv.map (·.j)) (atI lv n).j.task n = ((lastN (lv.map (·.j)) (atI lv n).j.task n).toNat : Int) by omega] at e3 ⊢
          simp only [jobOkB, Bool.and_eq_true, decide_eq_true_eq] at h1
          have h2 := h1.1
          unfold jobNums at h2
          dsimp only at h2
          rw [e3] at h2; exact h2.2.1
        have hnot : jobOkB l (lv.map (·.j)) n = false → allOk l (lv.map (·.j)) lv.length = false := fun h => allOk_not hlt h
        have htask : 0 ≤ (atI lv n).j.task → (atI lv n).j.task < l.length → (1 ≤ (atI l (atI lv n).j.task).T ∧ (atI l (atI lv n).j.task).T ≤ 2147483647) ∧ (0 ≤ (atI l (atI lv n).j.task).J ∧ (atI l (atI lv n).j.task).J ≤ 2147483647) ∧ 1 ≤ (atI l (atI lv n).j.task).C ∧ (atI l (atI lv n).j.task).C ≤ 2147483647 := fun a b => by
          obtain ⟨⟨_, _, tC, tT, tD, tQ, tJ, tP⟩, tf1, tf2, tf3⟩ := hoks _ (atI_mem a b)
          exact ⟨tT, tJ, tC⟩
        have Hjob : Hid (jobOkB l (lv.map (·.j)) n = (decide (jobNums l (lv.map (·.j)) n) && cutsOk (atI l (atI lv n).j.task).Q (atI lv n).j.cuts (atI lv n).j.work)) := ⟨by simp only [jobOkB, e2]⟩
        have Hnums : Hid (jobNums l (lv.map (·.j)) n ↔ ((0 ≤ (atI lv n).j.task ∧ (atI lv n).j.task < l.length) ∧ (0 ≤ (atI lv n).j.arrive ∧ (atI lv n).j.arrive ≤ 17592186044416) ∧ (0 ≤ lastN (lv.map (·.j)) (atI lv n).j.task n → (atI lv (lastN (lv.map (·.j)) (atI lv n).j.task n)).j.arrive + (atI l (atI lv n).j.task).T ≤ (atI lv n).j.arrive) ∧ (atI lv n).j.arrive ≤ (atI lv n).j.release ∧ (atI lv n).j.release ≤ (atI lv n).j.arrive + (atI l (atI lv n).j.task).J ∧ 1 ≤ (atI lv n).j.work ∧ (atI lv n).j.work ≤ (atI l (atI lv n).j.task).C)) := ⟨by
          unfold jobNums
          simp only [e2]
          constructor
          · rintro ⟨a, b, c, d⟩; exact ⟨a, b, fun hk' => by have := c hk'; rw [(hk hk').1] at this; exact this, d⟩
          · rintro ⟨a, b, c, d⟩; exact ⟨a, b, fun hk' => by rw [(hk hk').1]; exact c hk', d⟩⟩
        have Hnot := Hid.mk hnot
        clear hnot hoks hc hs
        (repeat' (first | (with_reducible refine A1 (fun _ => ?_) (fun _ => ?_) <;> try (exfalso; omega)) | (with_reducible refine A2 (fun _ => ?_) (fun _ => ?_) <;> try (exfalso; omega)) | (with_reducible refine A3 (fun _ => ?_) (fun _ => ?_) <;> try (exfalso; omega)) | simp -dsimp (disch := omega) only [↓EA, EB, Nat.reduceEqDiff, Nat.reduceAdd, ↓reduceIte, reduceCtorEq, newCells, eq_self, *, hl'.len, hl'.ixs, hl'.ldxa, hlv'.len, hlv'.ixs, hlv'.lda, hlv'.ldx, encN, hdJ, encT, hcn.one, hp.le, hp.le_add]))
        all_goals first
          | (rw [Hnot.out (by rw [Hjob.out, decide_eq_false (by rw [Hnums.out]; omega)]; rfl)]; done)
          | skip
        all_goals
          have hC := htask (by omega) (by omega)
          refine leg_l0 hE (hcn.app _) (bj := h'.length) (bt := h'.length + 1) (by rw [geta0]; rfl) (by rw [geta]; rfl) (by omega) (by omega) rfl rfl rfl rfl rfl rfl rfl (fun hcut fr' q0 q1 q5 => ?_) (fun hcut fr' q4 => ?_)
          · have hn1 : allOk l (lv.map (·.j)) (n + 1) = true := by
              simp only [allOk, Hall.out, Bool.true_and]
              rw [Hjob.out, hcut, decide_eq_true (by rw [Hnums.out]; omega)]; rfl
            have Hn1 := Hid.mk hn1
            clear hn1 hcut
            (repeat' simp -dsimp (disch := omega) only [↓EA, EB, Nat.reduceEqDiff, ↓reduceIte, reduceCtorEq, eq_self, *])
            exact Next.mk (n + 1) ⟨hp.app' _, by omega, rfl, rfl, rfl, Hn1.out⟩ (by omega)
          · have hn1 := Hnot.out (by rw [Hjob.out, hcut, Bool.and_false])
            rw [hn1]
            clear hcut hn1
            (repeat' simp -dsimp (disch := omega) only [EB, eq_self, *])
      · have : n = lv.length := by omega
        subst this
        rw [Hall.out]
        (repeat' (first | (with_reducible refine A3 (fun _ => ?_) (fun _ => ?_) <;> try (exfalso; omega)) | simp -dsimp (disch := omega) only [↓EA, EB, Nat.reduceEqDiff, ↓reduceIte, reduceCtorEq, eq_self, *, hlv'.len]))
    · have hd : legalB l (lv.map (·.j)) = false := by simp [legalB, hle]
      rw [hd]
      have hok' : decide (¬ (checkAllP l).2 = 0) = false := by simp [hok]
      clear hok
      (repeat' (first | (with_reducible refine A3 (fun _ => ?_) (fun _ => ?_) <;> try (exfalso; omega)) | simp -dsimp (disch := omega) only [↓EA, EB, Nat.reduceEqDiff, ↓reduceIte, reduceCtorEq, eq_self, *, hlv.len]))
  · have hd : legalB l (lv.map (·.j)) = false := by simp [legalB, hok]
    have hok2 : (checkAllP l).2 ≠ 0 := hok
    rw [hd]
    (repeat' simp -dsimp (disch := omega) only [↓EA, EB, Nat.reduceEqDiff, ↓reduceIte, reduceCtorEq, eq_self, *])
end Go.L.Try

/- JOBS RUN TICK BY TICK: cadencyref10.within, pick. -/
set_option linter.unusedVariables false
set_option linter.unusedSimpArgs false
set_option maxRecDepth 100000
set_option maxHeartbeats 2000000
namespace Go.L.Try
open Go Go.L
variable {E : Env}
theorem within10 (hE : Laid E) {h : Heap} {j : NV Job} (hc : Rd 1 encI h j.v j.j.cuts) {q w : Int} (hok : cutsOk q j.j.cuts w = true) (hw : w ≤ 2147483647) (d : Int) :
    callW E (.func (.func n_cadencyref10_within) #[] #[]) [.agg (encN hdJ j).toArray, .int .i64 d] h = some (.bool (withinP j.j.cuts 0 d), h, []) := by
  refine fn_same hE.cadencyref10_within rfl (by simp) ?_
  have few := hc.few
  have o1 := hc.one
  have hcx := fun x => hc.app x
  simp only [argsF]
  (repeat' simp -dsimp (disch := omega) only [↓EA, EB, Nat.reduceEqDiff, ↓reduceIte, reduceCtorEq, newCells, eq_self, *, encN, hdJ])
  refine WO.loop (fun c fr h' => h' = h ++ [.cells [.int .i64 j.j.task, .int .i64 j.j.arrive, .int .i64 j.j.release, .int .i64 j.j.work, j.v] false] ∧ c ≤ j.j.cuts.length ∧ get fr 1 = .int .i64 d ∧ get fr 2 = .pointer (some ⟨h.length, 0, none⟩) ∧ get fr 6 = .int .i64 c ∧ ∃ a, get fr 5 = .int .i64 a ∧ 0 ≤ a ∧ cutsOk q (j.j.cuts.drop c) (w - a) = true ∧ withinP j.j.cuts 0 d = withinP (j.j.cuts.drop c) a d) (fun c => j.j.cuts.length - c) ?_ 0 ⟨rfl, Nat.zero_le _, rfl, rfl, rfl, 0, rfl, Int.le_refl _, by simpa using hok, rfl⟩
  rintro c fr h' ⟨rfl, hcl, g1, g2, g6, a, g5, ha, hok, hw'⟩
  unfold c_cadencyref10_within_l0
  rcases Nat.lt_or_ge c j.j.cuts.length with hlt | hge
  · rw [List.drop_eq_getElem_cons hlt, ← atI_nat hlt] at hok hw'
    simp only [cutsOk, Bool.and_eq_true, decide_eq_true_eq] at hok
    simp only [withinP] at hw'
    obtain ⟨hok1, hok2⟩ := hok
    have Hw := Hid.mk hw'
    have H2 := Hid.mk hok2
    rw [hw']
    clear hw' hok2
    (repeat' (first | (with_reducible refine A1 (fun _ => ?_) (fun _ => ?_) <;> try (exfalso; omega)) | (with_reducible refine A3 (fun _ => ?_) (fun _ => ?_) <;> try (exfalso; omega)) | simp -dsimp (disch := omega) only [↓EA, EB, Nat.reduceEqDiff, ↓reduceIte, eq_self, *, hc.ixs, hc.ldx0, hc.len, encI]))
    · simp
    all_goals
      refine Next.mk (c + 1) ⟨rfl, by omega, rfl, rfl, rfl, _, rfl, by omega, ?_, ?_⟩ (by omega)
      · have := H2.out
        rw [show w - (a + atI j.j.cuts (c : Int)) = w - a - atI j.j.cuts (c : Int) by omega]; exact this
      · rw [decide_eq_false (by omega), Bool.false_or]
  · have e : j.j.cuts.drop c = [] := List.drop_of_length_le (by omega)
    rw [hw', e]
    (repeat' (first | (with_reducible refine A3 (fun _ => ?_) (fun _ => ?_) <;> try (exfalso; omega)) | simp -dsimp (disch := omega) only [↓EA, EB, Nat.reduceEqDiff, ↓reduceIte, eq_self, *, hc.len, withinP]))
theorem pick10 (hE : Laid E) {h : Heap} {vl vj vd : Value} {l : List Task} {lv : List (NV Job)} {done : List Int} {t : Int}
    (hl : Rd 7 encT h vl l) (hj : Rd 5 (encN hdJ) h vj lv) (hd : Rd 1 encI h vd done) (hlen : done.length = lv.length) (ht : ∀ j ∈ lv, 0 ≤ j.j.task ∧ j.j.task < l.length) :
    callW E (.func (.func n_cadencyref10_pick) #[] #[]) [vl, vj, vd, .int .i64 t] h = some (.int .i64 (pickN l (lv.map (·.j)) done t lv.length), h, []) := by
  refine fn_same hE.cadencyref10_pick rfl (by simp) ?_
  have few := hj.few
  have hlen1 : done.length ≤ lv.length := by omega
  have hlen2 : lv.length ≤ done.length := by omega
  clear hlen
  simp only [argsF]
  (repeat' simp -dsimp (disch := omega) only [↓EA, EB, Nat.reduceEqDiff, Nat.reduceAdd, ↓reduceIte, reduceCtorEq, eq_self, *])
  refine WO.loop (fun n fr h' => h' = h ∧ n ≤ lv.length ∧ get fr 0 = vl ∧ get fr 1 = vj ∧ get fr 2 = vd ∧ get fr 3 = .int .i64 t ∧ get fr 9 = .int .i64 (pickN l (lv.map (·.j)) done t n) ∧ get fr 10 = .int .i64 n) (fun n => lv.length - n) ?_ 0 ⟨rfl, Nat.zero_le _, rfl, rfl, rfl, rfl, rfl, rfl⟩
  rintro n fr h' ⟨rfl, hn, h0, h1, h2, h3, h9, h10⟩
  unfold c_cadencyref10_pick_l0
  rcases Nat.lt_or_ge n lv.length with hlt | hge
  · have htn := ht _ (atI_mem (l := lv) (i := n) (by omega) (by omega))
    have hr := pickN_in l (lv.map (·.j)) done t n
    have htb : 0 ≤ pickN l (lv.map (·.j)) done t n → 0 ≤ (atI lv (pickN l (lv.map (·.j)) done t n)).j.task ∧ (atI lv (pickN l (lv.map (·.j)) done t n)).j.task < l.length := fun hb => ht _ (atI_mem hb (by omega))
    have e2 : atI (lv.map (·.j)) (n : Int) = (atI lv n).j := (atI_map' (fun p : NV Job => p.j) lv n (by omega) (by omega)).symm
    have e3 : 0 ≤ pickN l (lv.map (·.j)) done t n → atI (lv.map (·.j)) (pickN l (lv.map (·.j)) done t n) = (atI lv (pickN l (lv.map (·.j)) done t n)).j := fun hb => (atI_map' (fun p : NV Job => p.j) lv _ hb (by omega)).symm
    have hs : pickN l (lv.map (·.j)) done t (n + 1) = if (atI lv n).j.release ≤ t ∧ atI done n < (atI lv n).j.work ∧ (pickN l (lv.map (·.j)) done t n < 0 ∨ (atI l (atI lv n).j.task).P < (atI l (atI lv (pickN l (lv.map (·.j)) done t n)).j.task).P) then (n : Int) else pickN l (lv.map (·.j)) done t n := by
      simp only [pickN, e2]
      by_cases hb : 0 ≤ pickN l (lv.map (·.j)) done t n
      · rw [e3 hb]
      · have hb' : pickN l (lv.map (·.j)) done t n < 0 := by omega
        simp only [hb', true_or]
    have Hs := Hid.mk hs
    clear hs ht e3
    (repeat' (first | (with_reducible refine A1 (fun _ => ?_) (fun _ => ?_) <;> try (exfalso; omega)) | (with_reducible refine A2 (fun _ => ?_) (fun _ => ?_) <;> try (exfalso; omega)) | (with_reducible refine A3 (fun _ => ?_) (fun _ => ?_) <;> try (exfalso; omega)) | simp -dsimp (disch := omega) only [↓EA, EB, Nat.reduceEqDiff, ↓reduceIte, reduceCtorEq, eq_self, *, hj.len, hj.ixs, hj.ld, hj.ld0, hd.ixs, hd.ld0, hl.ixs, hl.ld, encN, hdJ, encI, encT]))
    all_goals refine Next.mk (n + 1) ⟨rfl, by omega, rfl, rfl, rfl, rfl, ?_, rfl⟩ (by omega)
    all_goals rw [Hs.out]
    all_goals first
      | (rw [if_pos (by omega)]; rfl)
      | (rw [if_neg (by omega)]; rfl)
  · have : n = lv.length := by omega
    subst this
    (repeat' (first | (with_reducible refine A3 (fun _ => ?_) (fun _ => ?_) <;> try (exfalso; omega)) | simp -dsimp (disch := omega) only [↓EA, EB, Nat.reduceEqDiff, ↓reduceIte, reduceCtorEq, eq_self, *, hj.len]))
end Go.L.Try

/- JOBS RUN TICK BY TICK: cadencyref10.Until. -/
set_option linter.unusedVariables false
set_option linter.unusedSimpArgs false
set_option maxRecDepth 100000
set_option maxHeartbeats 1000000
namespace Go.L.Try
open Go Go.L
variable {E : Env}
theorem rep_set {n k : Nat} (h : k < n) (x y : Int) : (List.replicate k x ++ List.replicate (n - k) y).set k x = List.replicate (k + 1) x ++ List.replicate (n - (k + 1)) y := by
  rw [show n - k = (n - (k + 1)) + 1 by omega, List.replicate_succ, List.set_append_right _ _ (by simp), List.length_replicate, Nat.sub_self, List.set_cons_zero, List.replicate_succ', List.append_assoc]; rfl
theorem until_l0 (hE : Laid E) {W : Nat → Prop} {h0 : Heap} {vj : Value} {lv : List (NV Job)} (hj : Rd 5 (encN hdJ) h0 vj lv) {b bg : Nat} (hne : b ≠ bg) (hjb : vj ≠ .slice none 0 0 → blk vj ≠ b) (hW : W b) {n : Nat} {x0 x2 : Value} (hn : n = lv.length) (hb : h0[b]? = some (icells (List.replicate n 0))) (hg : h0[bg]? = some (.cells [x0, .slice (some ⟨b, 0, none⟩) n n, x2] false)) {v0 v2 v6 v8 : Value} {Q : Ex → Fr → Heap → Prop} {fr : Fr}
    (g0 : get fr 0 = v0) (g1 : get fr 1 = vj) (g2 : get fr 2 = v2) (g6 : get fr 6 = v6) (g7 : get fr 7 = .pointer (some ⟨bg, 0, none⟩)) (g8 : get fr 8 = v8) (g9 : get fr 9 = .int .i64 0)
    (hq : ∀ fr', get fr' 0 = v0 → get fr' 1 = vj → get fr' 2 = v2 → get fr' 6 = v6 → get fr' 7 = .pointer (some ⟨bg, 0, none⟩) → get fr' 8 = v8 → Q (.exit 0) fr' (h0.set b (icells (List.replicate n (-1))))) :
    WO W (iterW (code (callW E) iterW 142 c_cadencyref10_Until_l0) fr h0) Q := by
  have few := hj.few
  have hlt := (List.getElem?_eq_some_iff.1 hb).1
  have hfill : ∀ k, k ≤ n → (List.replicate k (-1 : Int) ++ List.replicate (n - k) 0).length = n := fun k hk => by simp; omega
  have hsame : h0 = h0.set b (icells (List.replicate 0 (-1 : Int) ++ List.replicate (n - 0) 0)) := by
    apply List.ext_getElem?
    intro j
    by_cases e : b = j
    · subst e; rw [List.getElem?_set_self hlt]; simpa using hb
    · rw [gets e]
  refine WO.loop (fun k fr h' => h' = h0.set b (icells (List.replicate k (-1 : Int) ++ List.replicate (n - k) 0)) ∧ k ≤ n ∧ get fr 0 = v0 ∧ get fr 1 = vj ∧ get fr 2 = v2 ∧ get fr 6 = v6 ∧ get fr 7 = .pointer (some ⟨bg, 0, none⟩) ∧ get fr 8 = v8 ∧ get fr 9 = .int .i64 k) (fun k => n - k) ?_ 0 ⟨hsame, Nat.zero_le _, g0, g1, g2, g6, g7, g8, g9⟩
  clear hsame
  rintro k fr h' ⟨rfl, hk, g0, g1, g2, g6, g7, g8, g9⟩
  have hb1 : (h0.set b (icells (List.replicate k (-1 : Int) ++ List.replicate (n - k) 0)))[b]? = some (icells (List.replicate k (-1 : Int) ++ List.replicate (n - k) 0)) := List.getElem?_set_self hlt
  have hg1 : (h0.set b (icells (List.replicate k (-1 : Int) ++ List.replicate (n - k) 0)))[bg]? = some (.cells [x0, .slice (some ⟨b, 0, none⟩) n n, x2] false) := by rw [gets hne]; exact hg
  have hn1 : n ≤ lv.length := by omega
  have hn2 : lv.length ≤ n := by omega
  have hl1 := Hid.mk (hfill k hk)
  clear hn hfill
  unfold c_cadencyref10_Until_l0
  rcases Nat.lt_or_ge k n with hlt' | hge
  · have hl2 := hl1.out
    have hst := fun (h : Heap) => ints_st (h := h) (b := b) (l := List.replicate k (-1 : Int) ++ List.replicate (n - k) 0) (i := k) (x := -1) (by omega) (by omega)
    clear hl2
    (repeat' (first | (with_reducible refine A3 (fun _ => ?_) (fun _ => ?_) <;> try (exfalso; omega)) | simp -dsimp (disch := omega) only [↓EA, EB, Nat.reduceEqDiff, ↓reduceIte, reduceCtorEq, eq_self, *, hj.len, List.set_set]))
    refine Next.mk (k + 1) ⟨?_, by omega, rfl, rfl, rfl, rfl, rfl, rfl, rfl⟩ (by omega)
    rw [show ((k : Int)).toNat = k by omega, rep_set hlt']
  · have : k = n := by omega
    subst this
    simp only [Nat.sub_self, List.replicate_zero, List.append_nil] at *
    (repeat' (first | (with_reducible refine A3 (fun _ => ?_) (fun _ => ?_) <;> try (exfalso; omega)) | simp -dsimp (disch := omega) only [↓EA, EB, Nat.reduceEqDiff, ↓reduceIte, reduceCtorEq, eq_self, *, hj.len]))
    exact hq _ rfl rfl rfl rfl rfl rfl
/-- How the heap stands in a round: a state's rows. -/
structure RsHeap (h h' : Heap) (n : Nat) (s : RS) (vL : Value) : Prop where
  pre : Pre h h'
  len : h.length + 4 ≤ h'.length
  res : h'[h.length]? = some (.cells [.slice none 0 0, .slice none 0 0, .slice none 0 0] false)
  ends : h'[h.length + 1]? = some (icells s.ends)
  done : h'[h.length + 2]? = some (icells s.done)
  got : h'[h.length + 3]? = some (.cells [vL, .slice (some ⟨h.length + 1, 0, none⟩) n n, .slice (some ⟨h.length + 2, 0, none⟩) n n] false)
  L : OwnT (h.length + 4) 3 encS h' vL s.L
theorem until_l1 (hE : Laid E) {h : Heap} {vl vj : Value} {l : List Task} {lv : List (NV Job)} (hl : Rd 7 encT h vl l) (hlv : Rd 5 (encN hdJ) h vj lv) (hc : ∀ p ∈ lv, Rd 1 encI h p.v p.j.cuts) (hok : JobsOk l (lv.map (·.j))) (hsum : sumWork (lv.map (·.j)) ≤ 1099511627776) (e : Int) {s0 : RS} {vL0 : Value} {h0 : Heap} (hi0 : RsInv (lv.map (·.j)) s0) (hh0 : RsHeap h h0 lv.length s0 vL0) {Q : Ex → Fr → Heap → Prop} {fr : Fr}
    (g0 : get fr 0 = vl) (g1 : get fr 1 = vj) (g2 : get fr 2 = .int .i64 e) (g6 : get fr 6 = .pointer (some ⟨h.length, 0, none⟩)) (g7 : get fr 7 = .pointer (some ⟨h.length + 3, 0, none⟩)) (g8 : get fr 8 = .int .i64 s0.left) (g10 : get fr 10 = .int .i64 s0.runs) (g11 : get fr 11 = .int .i64 s0.t)
    (hq : ∀ fr' h' vL, get fr' 6 = .pointer (some ⟨h.length, 0, none⟩) → get fr' 7 = .pointer (some ⟨h.length + 3, 0, none⟩) → RsHeap h h' lv.length (untilP l (lv.map (·.j)) e s0) vL → Q (.exit 2) fr' h') :
    WO (fun b => h.length ≤ b) (iterW (code (callW E) iterW 142 c_cadencyref10_Until_l1) fr h0) Q := by
  have few := hlv.few
  refine WO.loop (α := RS) (fun s fr h' => RsInv (lv.map (·.j)) s ∧ untilP l (lv.map (·.j)) e s0 = untilP l (lv.map (·.j)) e s ∧ get fr 0 = vl ∧ get fr 1 = vj ∧ get fr 2 = .int .i64 e ∧ get fr 6 = .pointer (some ⟨h.length, 0, none⟩) ∧ get fr 7 = .pointer (some ⟨h.length + 3, 0, none⟩) ∧ get fr 8 = .int .i64 s.left ∧ get fr 10 = .int .i64 s.runs ∧ get fr 11 = .int .i64 s.t ∧ ∃ vL, RsHeap h h' lv.length s vL) (fun s => rsLeft (lv.map (·.j)) s) ?_ s0 ⟨hi0, rfl, g0, g1, g2, g6, g7, g8, g10, g11, vL0, hh0⟩
  clear hh0 g0 g1 g2 g6 g7 g8 g10 g11 hi0
  rintro s fr h' ⟨hi, hu, g0, g1, g2, g6, g7, g8, g10, g11, vL, hh⟩
  have Hu := Hid.mk hu
  clear hu
  have hs := hi.sum
  have ht0 := hi.t0
  have ht1 := hi.t1
  unfold lastRel at ht1
  have hruns := hi.runs
  have ht2 : s.t < 70368744177664 := by omega
  have hdl : s.done.length = lv.length := by rw [hi.dlen]; simp
  have hel : s.ends.length = lv.length := by rw [hi.elen]; simp
  have hdl1 : s.done.length ≤ lv.length := by omega
  have hdl2 : lv.length ≤ s.done.length := by omega
  have hel1 : s.ends.length ≤ lv.length := by omega
  have hel2 : lv.length ≤ s.ends.length := by omega
  have hll : (s.L.length : Int) ≤ 1099511627776 := by have := hi.L; omega
  have hlm : ((lv.map (·.j)).length : Int) = lv.length := by simp
  have hrr := rsRuns_ok hok hi
  have hleft := hi.left_le
  have hll2 : s.left ≤ lv.length := by omega
  have Hi := Hid.mk hi
  have Hok := Hid.mk hok
  clear hdl hel hs hok hi
  unfold c_cadencyref10_Until_l1
  by_cases ho : rsOn e s
  · have hst := Hid.mk (rsStep_ok Hok.out Hi.out ho)
    have hus := Hid.mk (untilP_step Hok.out Hi.out ho)
    have Ho := Hid.mk ho
    unfold rsOn at ho
    clear hq
    refine WO.cut (fun fr' h1 => h1 = h' ∧ get fr' 0 = vl ∧ get fr' 1 = vj ∧ get fr' 2 = .int .i64 e ∧ get fr' 6 = .pointer (some ⟨h.length, 0, none⟩) ∧ get fr' 7 = .pointer (some ⟨h.length + 3, 0, none⟩) ∧ get fr' 8 = .int .i64 s.left ∧ get fr' 10 = .int .i64 s.runs ∧ get fr' 11 = .int .i64 s.t) ?_ ?_
    · (repeat' (first | (with_reducible refine A2 (fun _ => ?_) (fun _ => ?_) <;> try (exfalso; omega)) | (with_reducible refine A3 (fun _ => ?_) (fun _ => ?_) <;> try (exfalso; omega)) | simp -dsimp (disch := omega) only [↓EA, EB, Nat.reduceEqDiff, ↓reduceIte, reduceCtorEq, eq_self, *]))
    · rintro fr1 h1 ⟨rfl, g0, g1, g2, g6, g7, g8, g10, g11⟩
      have hl' := hl.pre hh.pre
      have hlv' := hlv.pre hh.pre
      have hdr : Rd 1 encI h1 (.slice (some ⟨h.length + 2, 0, none⟩) lv.length lv.length) s.done := rd_ints hh.done (by omega) (by omega) (by omega)
      have hg := hh.got
      have hwi : 0 ≤ s.runs → callW E (.func (.func n_cadencyref10_within) #[] #[]) [.agg (encN hdJ (atI lv s.runs)).toArray, .int .i64 (atI s.done s.runs)] h1 = some (.bool (withinP (atI lv s.runs).j.cuts 0 (atI s.done s.runs)), h1, []) := fun h0 => by
        have hm := atI_mem (l := lv) h0 (by omega)
        obtain ⟨q, hq⟩ := Hok.out.cuts _ (List.mem_map_of_mem hm)
        exact within10 hE ((hc _ hm).pre hh.pre) hq (Hok.out.work _ (List.mem_map_of_mem hm)).2 _
      have hpk : callW E (.func (.func n_cadencyref10_pick) #[] #[]) [vl, vj, .slice (some ⟨h.length + 2, 0, none⟩) lv.length lv.length, .int .i64 s.t] h1 = some (.int .i64 (pickN l (lv.map (·.j)) s.done s.t lv.length), h1, []) :=
        pick10 hE hl' hlv' hdr (by omega) fun j hj => Hok.out.task _ (List.mem_map_of_mem hj)
      have e2 : 0 ≤ s.runs → atI (lv.map (·.j)) s.runs = (atI lv s.runs).j := fun h0 => (atI_map' (fun p : NV Job => p.j) lv s.runs h0 (by omega)).symm
      rw [co_seq, co_block]
      refine WO.cut (fun fr' h2 => h2 = h1 ∧ get fr' 0 = vl ∧ get fr' 1 = vj ∧ get fr' 2 = .int .i64 e ∧ get fr' 6 = .pointer (some ⟨h.length, 0, none⟩) ∧ get fr' 7 = .pointer (some ⟨h.length + 3, 0, none⟩) ∧ get fr' 8 = .int .i64 s.left ∧ get fr' 10 = .int .i64 (rsRuns l (lv.map (·.j)) s) ∧ get fr' 11 = .int .i64 s.t) ?_ ?_
      · clear hrr
        have hlen' : (lv.map (·.j)).length = lv.length := by simp
        have hrl : s.runs < lv.length := by omega
        rcases Int.lt_or_le s.runs 0 with hneg | hpos
        · have hr : rsRuns l (lv.map (·.j)) s = pickN l (lv.map (·.j)) s.done s.t lv.length := by unfold rsRuns; rw [if_pos (.inl hneg), hlen']
          rw [hr]
          clear hwi e2 hlen' hlm hr
          (repeat' simp -dsimp (disch := omega) only [↓EA, EB, Nat.reduceEqDiff, ↓reduceIte, reduceCtorEq, eq_self, *])
        · have hwi := hwi hpos
          have e2 := e2 hpos
          simp only [encN, hdJ, List.cons_append, List.nil_append] at hwi
          cases hwb : withinP (atI lv s.runs).j.cuts 0 (atI s.done s.runs) <;> rw [hwb] at hwi
          · have hr : rsRuns l (lv.map (·.j)) s = pickN l (lv.map (·.j)) s.done s.t lv.length := by unfold rsRuns; rw [e2, if_pos (.inr hwb), hlen']
            rw [hr]
            clear hlen' hlm hr e2
            (repeat' (first | (with_reducible refine A2 (fun _ => ?_) (fun _ => ?_) <;> try (exfalso; omega)) | simp -dsimp (disch := omega) only [↓EA, EB, Nat.reduceEqDiff, ↓reduceIte, reduceCtorEq, eq_self, *, hdr.ixs, hdr.ld0, hlv'.ixs, hlv'.lda, encN, hdJ, encI]))
          · have hr : rsRuns l (lv.map (·.j)) s = s.runs := by unfold rsRuns; rw [e2, hwb, if_neg (by simp; omega)]
            rw [hr]
            clear hlen' hlm hr e2
            (repeat' (first | (with_reducible refine A2 (fun _ => ?_) (fun _ => ?_) <;> try (exfalso; omega)) | simp -dsimp (disch := omega) only [↓EA, EB, Nat.reduceEqDiff, ↓reduceIte, reduceCtorEq, eq_self, *, hdr.ixs, hdr.ld0, hlv'.ixs, hlv'.lda, encN, hdJ, encI]))
      · rintro fr2 h2 ⟨rfl, g0, g1, g2, g6, g7, g8, g10, g11⟩
        have hrs : rsStep l (lv.map (·.j)) s = if rsRuns l (lv.map (·.j)) s < 0 then { s with t := s.t + 1, runs := rsRuns l (lv.map (·.j)) s } else rsWork (lv.map (·.j)) s (rsRuns l (lv.map (·.j)) s) := rfl
        generalize rsRuns l (lv.map (·.j)) s = r at *
        have hrl : r < lv.length := by omega
        have hbj : blk vj < h.length ∨ r < 0 := by
          rcases Int.lt_or_le r 0 with h1 | h1
          · exact .inr h1
          · exact .inl (Row.lt hlv (by intro e; simp at e; rw [e] at hrl; simp at hrl; omega))
        clear hwi hpk hruns hl hl'
        rcases Int.lt_or_le r 0 with hneg | hpos
        · rw [if_pos hneg] at hrs
          have Hrs := Hid.mk hrs
          clear hrs hrr e2 hlm
          (repeat' simp -dsimp (disch := omega) only [↓EA, EB, Nat.reduceEqDiff, ↓reduceIte, reduceCtorEq, eq_self, *])
          have hst' := hst.out
          have hus' := Hu.out.trans hus.out
          rw [Hrs.out] at hst' hus'
          refine Next.mk _ ⟨hst'.1, hus', rfl, rfl, rfl, rfl, rfl, rfl, rfl, rfl, vL, ?_⟩ hst'.2
          exact ⟨hh.pre, hh.len, hh.res, hh.ends, hh.done, hh.got, hh.L⟩
        · rw [if_neg (by omega)] at hrs
          have hrr := hrr.2.2 hpos
          have e3 : atI (lv.map (·.j)) r = (atI lv r).j := (atI_map' (fun p : NV Job => p.j) lv r hpos hrl).symm
          rw [e3] at hrr
          unfold rsWork at hrs
          rw [e3] at hrs
          have Hrs := Hid.mk hrs
          have hdb := (Hi.out.done r.toNat (by omega)).1
          rw [show ((r.toNat : Nat) : Int) = r by omega] at hdb
          have hwb := (Hok.out.work _ (List.mem_map_of_mem (atI_mem (l := lv) hpos hrl))).2
          clear hrs e2 hlm e3
          refine WO.cut (fun fr' h3 => h3 = h2 ∧ get fr' 0 = vl ∧ get fr' 1 = vj ∧ get fr' 2 = .int .i64 e ∧ get fr' 6 = .pointer (some ⟨h.length, 0, none⟩) ∧ get fr' 7 = .pointer (some ⟨h.length + 3, 0, none⟩) ∧ get fr' 8 = .int .i64 s.left ∧ get fr' 10 = .int .i64 r ∧ get fr' 11 = .int .i64 s.t) ?_ ?_
          · (repeat' (first | (with_reducible refine A3 (fun _ => ?_) (fun _ => ?_) <;> try (exfalso; omega)) | simp -dsimp (disch := omega) only [↓EA, EB, Nat.reduceEqDiff, ↓reduceIte, reduceCtorEq, eq_self, *]))
          rintro fr3 h3 ⟨rfl, g0, g1, g2, g6, g7, g8, g10, g11⟩
          refine WO.cut (fun fr' h4 => h4 = h3 ∧ get fr' 0 = vl ∧ get fr' 1 = vj ∧ get fr' 2 = .int .i64 e ∧ get fr' 6 = .pointer (some ⟨h.length, 0, none⟩) ∧ get fr' 7 = .pointer (some ⟨h.length + 3, 0, none⟩) ∧ get fr' 8 = .int .i64 s.left ∧ get fr' 10 = .int .i64 r ∧ get fr' 11 = .int .i64 s.t ∧ get fr' 12 = .int .i64 s.L.length) ?_ ?_
          · (repeat' simp -dsimp (disch := omega) only [↓EA, EB, Nat.reduceEqDiff, ↓reduceIte, reduceCtorEq, eq_self, *, hh.L.rd.len])
          rintro fr4 h4 ⟨rfl, g0, g1, g2, g6, g7, g8, g10, g11, g12⟩
          have hblk : s.L ≠ [] → h.length + 4 ≤ blk vL := fun hn => hh.L.ge hn
          refine WO.cut (fun fr' h5 => get fr' 0 = vl ∧ get fr' 1 = vj ∧ get fr' 2 = .int .i64 e ∧ get fr' 6 = .pointer (some ⟨h.length, 0, none⟩) ∧ get fr' 7 = .pointer (some ⟨h.length + 3, 0, none⟩) ∧ get fr' 8 = .int .i64 s.left ∧ get fr' 10 = .int .i64 r ∧ get fr' 11 = .int .i64 s.t ∧ ∃ vL', RsHeap h h5 lv.length { s with L := addTick s.L r s.t } vL') ?_ ?_
          · have hadd : addTick s.L r s.t = if 0 < (s.L.length : Int) ∧ (atI s.L ((s.L.length : Int) - 1)).job = r ∧ (atI s.L ((s.L.length : Int) - 1)).to' = s.t then s.L.set ((s.L.length : Int) - 1).toNat { atI s.L ((s.L.length : Int) - 1) with to' := (atI s.L ((s.L.length : Int) - 1)).to' + 1 } else s.L ++ [⟨r, s.t, s.t + 1⟩] := rfl
            have Hadd := Hid.mk hadd
            clear hadd hdr hc
            (repeat' (first | (with_reducible refine A1 (fun _ => ?_) (fun _ => ?_) <;> try (exfalso; omega)) | (with_reducible refine A3 (fun _ => ?_) (fun _ => ?_) <;> try (exfalso; omega)) | simp -dsimp (disch := omega) only [↓EA, EB, Nat.reduceEqDiff, Nat.reduceAdd, Nat.reduceLeDiff, Nat.reduceMul, ↓reduceIte, reduceCtorEq, newCells, bslV, eq_self, *, hh.L.rd.ixs, hh.L.rd.ld, hh.L.rd.ld0, encS]))
            case' refine_1.refine_1.refine_1 =>
              have hne : s.L ≠ [] := by intro e; have : s.L.length = 0 := (by rw [e]; rfl); omega
              have hb4 := hblk hne
              refine wh_ownT hh.L (fun b hb => by omega) { atI s.L ((s.L.length : Int) - 1) with to' := s.t + 1 } (by omega) (by omega) (by decide) rfl rfl fun h5 k1 k2 k3 => ?_
              have Hadd' : addTick s.L r s.t = s.L.set ((s.L.length : Int) - 1).toNat { atI s.L ((s.L.length : Int) - 1) with to' := s.t + 1 } := by
                rw [Hadd.out, if_pos ⟨by omega, by assumption, by assumption⟩, ‹(atI s.L ((s.L.length : Int) - 1)).to' = s.t›]
              replace Hadd' := Hid.mk Hadd'
              (repeat' simp -dsimp (disch := omega) only [↓EA, EB, Nat.reduceEqDiff, ↓reduceIte, reduceCtorEq, eq_self, *])
              refine ⟨vL, ⟨fun b o hb => ?_, by rw [k2]; exact hh.len, ?_, ?_, ?_, ?_, ?_⟩⟩
              · rw [k3 b (by have := (List.getElem?_eq_some_iff.1 hb).1; omega)]; exact hh.pre b o hb
              · rw [k3 _ (by omega)]; exact hh.res
              · rw [k3 _ (by omega)]; exact hh.ends
              · rw [k3 _ (by omega)]; exact hh.done
              · rw [k3 _ (by omega)]; exact hh.got
              · rw [Hadd'.out]; exact k1
            all_goals
              have hlen4 := hh.len
              refine wx_app1 (sz := 3) (bytes := 24) (hh.L.app _) (hh.pre.app' _) (m := h.length + 4) (by omega) (by simp; omega) (fun b hb => by omega) ⟨r, s.t, s.t + 1⟩ ?_ rfl (by decide) (by decide) (by omega) ?_
              · simp -dsimp (disch := omega) only [EB, Nat.reduceAdd, Nat.reduceMul, ↓reduceIte]
                rfl
              · intro v2 h5 k1 k2 k3 k4 k5
                have hat : ∀ b, b < h.length + 4 → h5[b]? = h4[b]? := fun b hb => by
                  rw [k5 b (by simp; omega) (fun hn => by have := hblk hn; omega), List.getElem?_append_left (by omega)]
                have Hadd' : addTick s.L r s.t = s.L ++ [⟨r, s.t, s.t + 1⟩] := by
                  rw [Hadd.out, if_neg (by rintro ⟨a, b, c⟩; simp_all)]
                have hg5 : h5[h.length + 3]? = some (.cells [vL, .slice (some ⟨h.length + 1, 0, none⟩) lv.length lv.length, .slice (some ⟨h.length + 2, 0, none⟩) lv.length lv.length] false) := by rw [hat _ (by omega)]; exact hh.got
                have hv := k1.rd.one
                have hv2 := k1.rd.cv
                simp only [List.length_append, List.length_cons, List.length_nil] at k3 k4
                clear k5 hg
                replace Hadd' := Hid.mk Hadd'
                replace hat := Hid.mk hat
                (repeat' simp -dsimp (disch := omega) only [↓EA, EB, Nat.reduceEqDiff, Nat.reduceAdd, Nat.reduceLeDiff, ↓reduceIte, reduceCtorEq, eq_self, *])
                refine ⟨v2, ⟨k2.set (by omega) _, by rw [List.length_set]; omega, ?_, ?_, ?_, ?_, ?_⟩⟩
                · rw [gets (by omega), hat.out _ (by omega)]; exact hh.res
                · rw [gets (by omega), hat.out _ (by omega)]; exact hh.ends
                · rw [gets (by omega), hat.out _ (by omega)]; exact hh.done
                · exact gset (by omega)
                · rw [Hadd'.out]; exact k1.keep fun hn => gets (by omega)
          · rintro fr5 h5 ⟨g0, g1, g2, g6, g7, g8, g10, g11, vL', hh'⟩
            have hlen5 := hh'.len
            have hd5 := hh'.done
            have he5 := hh'.ends
            have hg5 := hh'.got
            have hr5 := hh'.res
            have hL5 := hh'.L.rd.one
            simp only at hd5 he5
            have hlv5 := hlv.pre hh'.pre
            clear hg hdr hblk
            have hll3 := Ho.out.1
            (repeat' (first | (with_reducible refine A3 (fun _ => ?_) (fun _ => ?_) <;> try (exfalso; omega)) | simp -dsimp (disch := omega) only [↓EA, EB, Nat.reduceEqDiff, ↓reduceIte, reduceCtorEq, eq_self, *, hlv5.ixs, hlv5.ld, encN, hdJ]))
            case' refine_1 => simp only [if_pos ‹atI s.done r + 1 = (atI lv r).j.work›] at Hrs
            case' refine_2 => simp only [if_neg ‹¬ atI s.done r + 1 = (atI lv r).j.work›] at Hrs
            all_goals
              have hst' := hst.out
              have hus' := Hu.out.trans hus.out
              rw [Hrs.out] at hst' hus'
              refine Next.mk _ ⟨hst'.1, hus', rfl, rfl, rfl, rfl, rfl, rfl, rfl, rfl, vL', ?_⟩ hst'.2
            · refine ⟨hh'.pre.set (by omega) _, by simp only [List.length_set]; omega, ?_, ?_, ?_, ?_, ?_⟩
              · rw [gets (by omega)]; exact hr5
              · rw [gets (by omega)]; exact he5
              · exact gset (by omega)
              · rw [gets (by omega)]; exact hg5
              · exact hh'.L.keep fun hn => by have := hh'.L.ge hn; rw [gets (by omega)]
            · refine ⟨(hh'.pre.set (by omega) _).set (by omega) _, by simp only [List.length_set]; omega, ?_, ?_, ?_, ?_, ?_⟩
              · rw [gets (by omega), gets (by omega)]; exact hr5
              · exact gset (by simp only [List.length_set]; omega)
              · rw [gets (by omega), gset (by omega), ‹atI s.done r + 1 = (atI lv r).j.work›]
              · rw [gets (by omega), gets (by omega)]; exact hg5
              · exact hh'.L.keep fun hn => by have := hh'.L.ge hn; rw [gets (by omega), gets (by omega)]
  · rw [untilP_stop ho] at Hu
    unfold rsOn at ho
    (repeat' (first | (with_reducible refine A1 (fun _ => ?_) (fun _ => ?_) <;> try (exfalso; omega)) | (with_reducible refine A2 (fun _ => ?_) (fun _ => ?_) <;> try (exfalso; omega)) | (with_reducible refine A3 (fun _ => ?_) (fun _ => ?_) <;> try (exfalso; omega)) | simp -dsimp (disch := omega) only [↓EA, EB, Nat.reduceEqDiff, ↓reduceIte, reduceCtorEq, eq_self, *]))
    all_goals exact hq _ _ vL rfl rfl (by rw [Hu.out]; exact hh)
/-- What a run tells, read. -/
def GotR (m : Nat) (s : RS) (h : Heap) (v : Value) : Prop := ∃ vs, v = .agg vs.toArray ∧ Each h [fun h v => RdM m 3 encS h v s.L, fun h v => RdM m 1 encI h v s.ends, fun h v => RdM m 1 encI h v s.done] vs
theorem GotR.movable {m : Nat} (s : RS) : Movable m (GotR m s) 2 :=
  Movable.aggs (k := 1) (fun R hR => by
    simp only [List.mem_cons, List.not_mem_nil, or_false] at hR
    rcases hR with rfl | rfl | rfl
    · exact RdM.movable flatS _
    · exact RdM.movable flatI _
    · exact RdM.movable flatI _) (by simp)
theorem until10 (hE : Laid E) {h : Heap} {vl vj : Value} {l : List Task} {jobs : List Job} (hl : Rd 7 encT h vl l) (hj : RdJ h vj jobs) (hok : JobsOk l jobs) (hsum : sumWork jobs ≤ 1099511627776) (e : Int) :
    ∃ v ys, callW E (.func (.func n_cadencyref10_Until) #[] #[]) [vl, vj, .int .i64 e] h = some (v, h ++ ys, []) ∧ GotR h.length (untilP l jobs e (rsInit jobs.length)) (h ++ ys) v := by
  refine fn_new hE.cadencyref10_Until rfl (GotR.movable _) (by simp) ?_
  obtain ⟨lv, rfl, hlv, hc⟩ := hj.is
  have few := hlv.few
  have hlen : (lv.length : Int) ≤ 1099511627776 := by
    have h1 : sumN (fun _ => 1) (lv.map (·.j)).length ≤ sumWork (lv.map (·.j)) := sumN_le fun i hi => (hok.work _ (atI_mem (by omega) (by omega))).1
    rw [sumN_one, List.length_map] at h1; omega
  have htn : ((lv.length : Int)).toNat = lv.length := by omega
  have hinv := rsInit_inv (lv.map (·.j)) hok.work
  simp only [argsF]
  (repeat' simp -dsimp (disch := omega) only [↓EA, EB, Nat.reduceEqDiff, Nat.reduceAdd, Nat.reduceLeDiff, ↓reduceIte, reduceCtorEq, newCells, eq_self, *, hlv.len])
  refine until_l0 hE (hlv.app _) (b := h.length + 1) (bg := h.length + 3) (by omega) (fun hn => by have := hlv.lt' hn; omega) (by omega) rfl (by rw [geta]; rfl) (by rw [geta]; rfl) rfl rfl rfl rfl rfl rfl rfl fun fr' g0 g1 g2 g6 g7 g8 => ?_
  (repeat' simp -dsimp (disch := omega) only [↓EA, EB, Nat.reduceEqDiff, ↓reduceIte, reduceCtorEq, eq_self, *])
  refine until_l1 hE hl hlv hc hok hsum e hinv (vL0 := .slice none 0 0) ⟨Pre.app _ _, by simp, by rw [geta0]; rfl, ?_, ?_, by rw [geta]; rfl, OwnT.nil⟩ rfl rfl rfl rfl rfl ?_ rfl rfl fun fr'' h' vL q6 q7 hh => ?_
  · rw [geta]; simp [rsInit]
  · rw [geta]; simp [rsInit]
  · simp [rsInit, get]
  · have hres := hh.res
    have hgot := hh.got
    have hL1 := hh.L.rd.one
    have hlen4 := hh.len
    (repeat' simp -dsimp (disch := omega) only [↓EA, EB, Nat.reduceEqDiff, Nat.reduceAdd, ↓reduceIte, eq_self, *])
    have hpre := hh.pre.set (Nat.le_refl h.length) (.cells [vL, .slice (some ⟨h.length + 1, 0, none⟩) lv.length lv.length, .slice (some ⟨h.length + 2, 0, none⟩) lv.length lv.length] false)
    have hfin := (untilP_ind (e := e) hok (fun _ => True) (fun _ _ _ _ => trivial) hinv trivial).1
    have e1 := hfin.elen
    have e2 := hfin.dlen
    simp only [List.length_map] at e1 e2 hh ⊢
    refine ⟨hpre.ex, _, rfl, .cons ?_ (.cons ?_ (.cons ?_ .nil))⟩
    · exact ⟨(hh.L.keep fun hn => gets (by have := hh.L.ge hn; omega)).rd, fun hn => by have := hh.L.ge (hh.L.ne hn); omega⟩
    · exact ⟨rd_ints (by rw [gets (by omega)]; exact hh.ends) e1.symm (by rw [e1]; exact few) (by rw [e1]; exact Nat.le_refl _), fun _ => Nat.le_add_right _ _⟩
    · exact ⟨rd_ints (by rw [gets (by omega)]; exact hh.done) e2.symm (by rw [e2]; exact few) (by rw [e2]; exact Nat.le_refl _), fun _ => Nat.le_add_right _ _⟩
end Go.L.Try

/- A RUN, WHOLE: cadencyref10.Run; rows held against one another. -/
set_option linter.unusedVariables false
set_option linter.unusedSimpArgs false
set_option maxRecDepth 100000
set_option maxHeartbeats 1000000
namespace Go.L.Try
open Go Go.L
variable {E : Env}
def runP (l : List Task) (jobs : List Job) : RS := if legalB l jobs then untilP l jobs (-1) (rsInit jobs.length) else ⟨0, -1, [], [], 0, []⟩
theorem run10 (hE : Laid E) {h : Heap} {vl vj : Value} {l : List Task} {jobs : List Job} (hl : Rd 7 encT h vl l) (hs : ∀ t ∈ l, t.name.size < 1152921504606846976) (hj : RdJ h vj jobs) (hsum : sumWork jobs ≤ 1099511627776) :
    ∃ v ys, callW E (.func (.func n_cadencyref10_Run) #[] #[]) [vl, vj] h = some (v, h ++ ys, []) ∧ GotR h.length (runP l jobs) (h ++ ys) v := by
  refine fn_new hE.cadencyref10_Run rfl (GotR.movable _) (by simp) ?_
  have hleg := fun x => legal08 hE (hl.app x) hs (hj.pre (Pre.app h x))
  simp only [argsF]
  cases hb : legalB l jobs
  · have hr : runP l jobs = ⟨0, -1, [], [], 0, []⟩ := by simp [runP, hb]
    rw [hb] at hleg
    rw [hr]
    (repeat' simp -dsimp (disch := omega) only [↓EA, EB, Nat.reduceEqDiff, Nat.reduceAdd, ↓reduceIte, reduceCtorEq, newCells, eq_self, *])
    exact ⟨⟨_, rfl⟩, _, rfl, .cons ⟨Rd.of_nil, fun h => absurd rfl h⟩ (.cons ⟨Rd.of_nil, fun h => absurd rfl h⟩ (.cons ⟨Rd.of_nil, fun h => absurd rfl h⟩ .nil))⟩
  · have hr : runP l jobs = untilP l jobs (-1) (rsInit jobs.length) := by simp [runP, hb]
    rw [hb] at hleg
    rw [hr]
    obtain ⟨v2, ys2, hc2, vs, rfl, hv2⟩ := until10 hE (hl.app [.cells [.slice none 0 0, .slice none 0 0, .slice none 0 0] false]) (hj.pre (Pre.app h _)) (legal_ok hb).1 hsum (-1)
    rcases hv2 with _ | ⟨ra, _ | ⟨rb, _ | ⟨rc, _ | _⟩⟩⟩
    have oa := ra.1.one
    have ob := rb.1.one
    have oc := rc.1.one
    have ca := ra.1.cv
    have cb := rb.1.cv
    have cc := rc.1.cv
    (repeat' simp -dsimp (disch := omega) only [↓EA, EB, Nat.reduceEqDiff, Nat.reduceAdd, ↓reduceIte, reduceCtorEq, newCells, eq_self, *])
    have hk : ∀ (o : LObj) (b : Nat), h.length + 1 ≤ b → (h ++ o :: ys2)[b]? = (h ++ [LObj.cells [.slice none 0 0, .slice none 0 0, .slice none 0 0] false] ++ ys2)[b]? := fun o b hb => by
      rw [List.append_assoc, List.getElem?_append_right (by omega), List.getElem?_append_right (by omega)]
      obtain ⟨k, rfl⟩ : ∃ k, b = h.length + (k + 1) := ⟨b - h.length - 1, by omega⟩
      rw [Nat.add_sub_cancel_left]; rfl
    simp only [List.length_append, List.length_cons, List.length_nil] at ra rb rc
    exact ⟨⟨_, rfl⟩, _, rfl, .cons ⟨ra.1.keep fun hn => hk _ _ (by have := ra.2 hn; omega), fun hn => by have := ra.2 hn; omega⟩ (.cons ⟨rb.1.keep fun hn => hk _ _ (by have := rb.2 hn; omega), fun hn => by have := rb.2 hn; omega⟩ (.cons ⟨rc.1.keep fun hn => hk _ _ (by have := rc.2 hn; omega), fun hn => by have := rc.2 hn; omega⟩ .nil))⟩
theorem sameTicks10 (hE : Laid E) {h : Heap} {va vb : Value} {a b : List Int} (ha : Rd 1 encI h va a) (hb : Rd 1 encI h vb b) :
    callW E (.func (.func n_cadencyref10_SameTicks) #[] #[]) [va, vb] h = some (.bool (decide (a = b)), h, []) := by
  refine fn_same hE.cadencyref10_SameTicks rfl (by simp) ?_
  have few := ha.few
  have few2 := hb.few
  simp only [argsF]
  (repeat' (first | (with_reducible refine A3 (fun _ => ?_) (fun _ => ?_) <;> try (exfalso; omega)) | simp -dsimp (disch := omega) only [↓EA, EB, Nat.reduceEqDiff, ↓reduceIte, reduceCtorEq, eq_self, *, ha.len, hb.len]))
  · have : a ≠ b := fun e => by subst e; simp_all
    simp [this]
  · have hn1 : a.length ≤ b.length := by omega
    have hn2 : b.length ≤ a.length := by omega
    refine WO.loop (fun n fr h' => h' = h ∧ n ≤ a.length ∧ get fr 0 = va ∧ get fr 1 = vb ∧ get fr 5 = .int .i64 n ∧ a.take n = b.take n) (fun n => a.length - n) ?_ 0 ⟨rfl, Nat.zero_le _, rfl, rfl, rfl, rfl⟩
    rintro n fr h' ⟨rfl, hn, g0, g1, g5, ht⟩
    have Ht := Hid.mk ht
    clear ht
    unfold c_cadencyref10_SameTicks_l0
    rcases Nat.lt_or_ge n a.length with hlt | hge
    · (repeat' (first | (with_reducible refine A3 (fun _ => ?_) (fun _ => ?_) <;> try (exfalso; omega)) | simp -dsimp (disch := omega) only [↓EA, EB, Nat.reduceEqDiff, ↓reduceIte, reduceCtorEq, eq_self, *, ha.len, ha.ixs, ha.ld0, hb.ixs, hb.ld0, encI]))
      · have : a ≠ b := fun e => by subst e; simp_all
        simp [this]
      · refine Next.mk (n + 1) ⟨rfl, by omega, rfl, rfl, rfl, ?_⟩ (by omega)
        rw [take_snoc hlt, take_snoc (by omega), Ht.out]
        simp_all
    · have : a = b := by
        have := Ht.out
        rwa [List.take_of_length_le (by omega), List.take_of_length_le (by omega)] at this
      (repeat' (first | (with_reducible refine A3 (fun _ => ?_) (fun _ => ?_) <;> try (exfalso; omega)) | simp -dsimp (disch := omega) only [↓EA, EB, Nat.reduceEqDiff, ↓reduceIte, reduceCtorEq, eq_self, *, ha.len]))
end Go.L.Try

/- SPANS HELD AGAINST ONE ANOTHER. -/
set_option linter.unusedVariables false
set_option linter.unusedSimpArgs false
namespace Go.L.Try
open Go Go.L
theorem span_ext {x y : Span} : x = y ↔ (x.job = y.job ∧ x.from' = y.from' ∧ x.to' = y.to') := by
  cases x; cases y; simp
instance : DecidableEq Span := fun x y => decidable_of_iff _ span_ext.symm
theorem bin_flat3 {a b c x y z : Int} : binOp .neq (.flat [(.one .i), (.one .i), (.one .i)]) (.agg #[.int .i64 a, .int .i64 b, .int .i64 c]) (.agg #[.int .i64 x, .int .i64 y, .int .i64 z]) = some (.bool (decide (¬ (a = x ∧ b = y ∧ c = z)))) := by
  simp [binOp, eqAny, sameF, sameS]
  by_cases h1 : a = x <;> by_cases h2 : b = y <;> by_cases h3 : c = z <;> simp [h1, h2, h3]
end Go.L.Try
