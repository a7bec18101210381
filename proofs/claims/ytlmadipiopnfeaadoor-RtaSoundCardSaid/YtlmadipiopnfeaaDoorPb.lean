/- JOBS: cadencyref08.last, Few, Decode. -/
import Derived.Test.YtlmadipiopnfeaaDoorPa
import Derived.Test.YtlmadipiopnfeaaDoorV9
set_option linter.unusedVariables false
set_option linter.unusedSimpArgs false
set_option maxRecDepth 4000
set_option maxHeartbeats 1000000
namespace Go.L.Try
open Go Go.L
variable {E : Env}
theorem rest08 (hE : Laid E) (h : Heap) (x n : Int) (hn : 0 < n) (hn' : n < 4611686018427387904) : callW E (.func (.func n_ref08_rest) #[] #[]) [.int .i64 x, .int .i64 n] h = some (.int .i64 (x % n), h, []) := by
  have hb := tmod_bounds x n hn
  refine fn_same hE.ref08_rest rfl (by simp) ?_
  simp -dsimp (disch := omega) only [↓EA, EB, Nat.reduceEqDiff, ↓reduceIte, reduceCtorEq, eq_self, argsF, rest_eq x n hn]
theorem last08 (hE : Laid E) {h : Heap} {v : Value} {lv : List (NV Job)} (hl : Rd 5 (encN hdJ) h v lv) (task : Int) :
    callW E (.func (.func n_ref08_last) #[] #[]) [v, .int .i64 task] h = some (.int .i64 (lastN (lv.map (·.j)) task lv.length), h, []) := by
  refine fn_same hE.ref08_last rfl (by simp) ?_
  have few := hl.few
  simp only [argsF]
  (repeat' simp -dsimp (disch := omega) only [↓EA, EB, Nat.reduceEqDiff, ↓reduceIte, reduceCtorEq, eq_self, *, hl.len])
  refine WO.loop (fun k fr h' => h' = h ∧ k ≤ lv.length ∧ lastN (lv.map (·.j)) task lv.length = lastN (lv.map (·.j)) task k ∧ get fr 0 = v ∧ get fr 1 = .int .i64 task ∧ get fr 5 = .int .i64 (k - 1)) (fun k => k) ?_ lv.length ⟨rfl, Nat.le_refl _, rfl, rfl, rfl, rfl⟩
  rintro k fr h' ⟨rfl, hk, he, g0, g1, g5⟩
  rw [he]
  unfold c_ref08_last_l0
  cases k with
  | zero =>
    simp only [Int.natCast_zero] at g5
    have : ((0 : Nat) : Int) - 1 = -1 := rfl
    simp only [lastN]
    (repeat' (first | (with_reducible refine A3 (fun _ => ?_) (fun _ => ?_) <;> try (exfalso; omega)) | simp -dsimp (disch := omega) only [↓EA, EB, Nat.reduceEqDiff, ↓reduceIte, reduceCtorEq, eq_self, *]))
  | succ k =>
    have e1 : ((k + 1 : Nat) : Int) - 1 = k := by omega
    rw [e1] at g5
    have e2 : atI (lv.map (·.j)) (k : Int) = (atI lv k).j := (atI_map' (fun p : NV Job => p.j) lv k (by omega) (by omega)).symm
    simp only [lastN, e2] at he ⊢
    (repeat' (first | (with_reducible refine A3 (fun _ => ?_) (fun _ => ?_) <;> try (exfalso; omega)) | simp -dsimp (disch := omega) only [↓EA, EB, Nat.reduceEqDiff, ↓reduceIte, reduceCtorEq, eq_self, *, hl.ixs, hl.ld0, encN, hdJ]))
    refine Next.mk k ⟨rfl, by omega, ?_, rfl, rfl, rfl⟩ (by omega)
    rw [if_neg (by rw [e2]; assumption)]
def fewOf (r : Raw) : Raw := { r with gap := r.gap % 12, cuts := r.cuts.take 5 }
theorem few08 (hE : Laid E) {h : Heap} {v : Value} {l : List Raw} (hl : RdR h v l) {most : Int} (hm : 0 ≤ most) (hm2 : most ≤ 4096) :
    ∃ v' ys, callW E (.func (.func n_ref08_Few) #[] #[]) [v, .int .i64 most] h = some (v', h ++ ys, []) ∧ RdR (h ++ ys) v' ((l.take most.toNat).map fewOf) := by
  suffices H : ∃ v' ys, callW E (.func (.func n_ref08_Few) #[] #[]) [v, .int .i64 most] h = some (v', h ++ ys, []) ∧ RdR (h ++ ys) v' ((l.take most.toNat).map fewOf) ∧ ((l.take most.toNat).map fewOf ≠ [] → h.length ≤ blk v') by
    obtain ⟨v', ys, h1, h2, _⟩ := H; exact ⟨v', ys, h1, h2⟩
  refine fn_new hE.ref08_Few rfl (RdN.movable (hd := hdR) (cs := Raw.cuts) (sz := 5) (fun _ => rfl) (fun _ => rfl) _) (by simp) ?_
  obtain ⟨lv, rfl, hlv, hc⟩ := hl.is
  have few := hlv.few
  simp only [argsF]
  (repeat' simp -dsimp (disch := omega) only [↓EA, EB, Nat.reduceEqDiff, ↓reduceIte, reduceCtorEq, eq_self, *])
  refine WO.loop (fun n fr h' => Pre h h' ∧ n ≤ lv.length ∧ n ≤ most ∧ get fr 0 = v ∧ get fr 1 = .int .i64 most ∧ get fr 6 = .int .i64 n ∧ ∃ lw : List (NV Raw), lw.map (·.j) = ((lv.map (·.j)).take n).map fewOf ∧ OwnT h.length 5 (encN hdR) h' (get fr 5) lw ∧ ∀ p ∈ lw, Rd 1 encI h p.v p.j.cuts) (fun n => lv.length - n) ?_ 0 ⟨Pre.refl _, Nat.zero_le _, hm, rfl, rfl, rfl, [], rfl, OwnT.nil, by simp⟩
  rintro n fr h' ⟨hp, hn, hn2, g0, g1, g6, lw, e1, ho, hw⟩
  generalize hvo : get fr 5 = vo at ho
  have hlen : lw.length = n := by have := congrArg List.length e1; simp at this; omega
  have hl' := hlv.pre hp
  unfold c_ref08_Few_l0
  rcases Nat.lt_or_ge n lv.length with hlt | hge
  · by_cases hlm : (n : Int) < most
    · have hmem := atI_mem (l := lv) (i := n) (by omega) (by omega)
      have hcn := (hc _ hmem).pre hp
      have hcn0 := hc _ hmem
      have hrest := rest08 hE
      have e2 : atI (lv.map (·.j)) (n : Int) = (atI lv n).j := (atI_map' (fun p : NV Raw => p.j) lv n (by omega) (by omega)).symm
      have hle := hp.le
      have sl : ∃ v', (5 < ((atI lv n).j.cuts.length : Int) → slsV 1 (atI lv n).v none (some (.int .i64 5)) none = some v') ∧ (¬ 5 < ((atI lv n).j.cuts.length : Int) → v' = (atI lv n).v) ∧ Rd 1 encI h v' ((atI lv n).j.cuts.take 5) := by
        by_cases h5 : 5 < ((atI lv n).j.cuts.length : Int)
        · obtain ⟨v', h1, h2, _⟩ := hcn0.sls_hi (k := .i64) (n := 5) (by omega) (by omega)
          exact ⟨v', fun _ => h1, fun h => absurd h5 h, h2⟩
        · exact ⟨_, fun h => absurd h h5, fun _ => rfl, by rw [List.take_of_length_le (by omega)]; exact hcn0⟩
      obtain ⟨v', s1, s2, s3⟩ := sl
      have s4 := s3.one
      have s5 := s3.cv
      clear hc
      (repeat' (first | (with_reducible refine A1 (fun _ => ?_) (fun _ => ?_) <;> try (exfalso; omega)) | (with_reducible refine A3 (fun _ => ?_) (fun _ => ?_) <;> try (exfalso; omega)) | simp -dsimp (disch := omega) only [↓EA, EB, Nat.reduceEqDiff, Nat.reduceAdd, Nat.reduceLeDiff, Nat.reduceMul, ↓reduceIte, reduceCtorEq, newCells, bslV, eq_self, *, hl'.len, hl'.ixs, hl'.lda, encN, hdR, hcn.len, hcn.one, hp.le]))
      case' refine_1 =>
        have s1 := s1 ‹_›
        clear s2
        (repeat' simp -dsimp (disch := omega) only [↓EA, EB, Nat.reduceEqDiff, Nat.reduceAdd, Nat.reduceLeDiff, Nat.reduceMul, ↓reduceIte, reduceCtorEq, newCells, bslV, eq_self, *, hp.le, hp.le_add])
      case' refine_2 => have s2 := s2 ‹_›
      all_goals
        refine wx_app1 (sz := 5) (bytes := 56) (ho.app _) (hp.app' _) (Nat.le_refl _) (by simp; omega) (fun b hb => hb) ⟨fewOf (atI lv n).j, v'⟩ ?_ rfl (by decide) (by decide) (by omega) ?_
        · simp -dsimp (disch := omega) only [EB, Nat.reduceAdd, Nat.reduceMul, ↓reduceIte]
          simp [encN, hdR, fewOf, *]
        · intro v2 h2 k1 k2 k3 k4 k5
          clear k5
          (repeat' simp -dsimp (disch := omega) only [↓EA, EB, Nat.reduceEqDiff, ↓reduceIte, reduceCtorEq, eq_self, *])
          refine Next.mk (n + 1) ⟨k2, by omega, by omega, rfl, rfl, rfl, lw ++ [NV.mk (fewOf (atI lv n).j) v'], ?_, k1, ?_⟩ (by omega)
          · rw [take_snoc (by simpa using hlt), List.map_append, List.map_append, e1, e2]; rfl
          · intro p hp'
            rcases List.mem_append.1 hp' with hp' | hp'
            · exact hw p hp'
            · rw [List.mem_singleton.1 hp']; exact s3
    · have : most.toNat = n := by omega
      rw [this]
      (repeat' (first | (with_reducible refine A1 (fun _ => ?_) (fun _ => ?_) <;> try (exfalso; omega)) | simp -dsimp (disch := omega) only [↓EA, EB, Nat.reduceEqDiff, ↓reduceIte, reduceCtorEq, eq_self, *, hl'.len]))
      exact ⟨hp.ex, ⟨lw, e1, ho.rd, fun p hp' => (hw p hp').pre hp⟩, fun hne => ho.ge (by intro e; apply hne; rw [← e1, e]; rfl)⟩
  · have : (lv.map (·.j)).take most.toNat = (lv.map (·.j)).take n := by rw [List.take_of_length_le (by simp; omega), List.take_of_length_le (by simp; omega)]
    rw [this]
    (repeat' (first | (with_reducible refine A1 (fun _ => ?_) (fun _ => ?_) <;> try (exfalso; omega)) | simp -dsimp (disch := omega) only [↓EA, EB, Nat.reduceEqDiff, ↓reduceIte, reduceCtorEq, eq_self, *, hl'.len]))
    exact ⟨hp.ex, ⟨lw, e1, ho.rd, fun p hp' => (hw p hp').pre hp⟩, fun hne => ho.ge (by intro e; apply hne; rw [← e1, e]; rfl)⟩
end Go.L.Try
set_option maxRecDepth 100000
namespace Go.L.Try
open Go Go.L
variable {E : Env}
def cutsP (q : Int) : List Int → Int → List Int
  | [], _ => []
  | c :: r, left => if 0 < left then (1 + c % (min q left)) :: cutsP q r (left - (1 + c % (min q left))) else []
theorem dec_l0 (hE : Laid E) {W : Nat → Prop} {h0 : Heap} {v0 v1 v5 : Value} {lv : List (NV Raw)} (hl : Rd 5 (encN hdR) h0 v1 lv) {i : Nat} (hi : i < lv.length) (hc : Rd 1 encI h0 (atI lv i).v (atI lv i).j.cuts)
    {a1 a2 a3 w q : Int} {x0 x1 x2 x3 x4 x6 : Value} (hw : 1 ≤ w) (hw2 : w ≤ 2147483647) (hq1 : 1 ≤ q) (hq2 : q ≤ 2147483647) (hW : ∀ b, h0.length ≤ b → W b) {Q : Ex → Fr → Heap → Prop} {fr : Fr}
    (g0 : get fr 0 = v0) (g1 : get fr 1 = v1) (g5 : get fr 5 = v5) (g6 : get fr 6 = .int .i64 i) (g7 : get fr 7 = .pointer (some ⟨h0.length, 0, none⟩)) (g8 : get fr 8 = .pointer (some ⟨h0.length + 1, 0, none⟩)) (g10 : get fr 10 = .int .i64 w) (g11 : get fr 11 = .int .i64 0)
    (hq : ∀ fr' h' vc, get fr' 0 = v0 → get fr' 1 = v1 → get fr' 5 = v5 → get fr' 6 = .int .i64 i → get fr' 7 = .pointer (some ⟨h0.length, 0, none⟩) → Pre h0 h' → h0.length + 2 ≤ h'.length →
      h'[h0.length]? = some (.cells [.int .i64 a1, .int .i64 a2, .int .i64 a3, .int .i64 w, vc] false) → OwnT (h0.length + 2) 1 encI h' vc (cutsP q (atI lv i).j.cuts w) → Q (.exit 2) fr' h') :
    WO W (iterW (code (callW E) iterW 133 c_ref08_Decode_l0) fr (h0 ++ [.cells [.int .i64 a1, .int .i64 a2, .int .i64 a3, .int .i64 w, .slice none 0 0] false, .cells [x0, x1, x2, x3, x4, .int .i64 q, x6] false])) Q := by
  have few := hc.few
  have fewl := hl.few
  refine WO.loop (fun c fr h' => Pre h0 h' ∧ h0.length + 2 ≤ h'.length ∧ c ≤ (atI lv i).j.cuts.length ∧ get fr 0 = v0 ∧ get fr 1 = v1 ∧ get fr 5 = v5 ∧ get fr 6 = .int .i64 i ∧ get fr 7 = .pointer (some ⟨h0.length, 0, none⟩) ∧ get fr 8 = .pointer (some ⟨h0.length + 1, 0, none⟩) ∧ get fr 11 = .int .i64 c ∧
      h'[h0.length + 1]? = some (.cells [x0, x1, x2, x3, x4, .int .i64 q, x6] false) ∧ ∃ left vc done, get fr 10 = .int .i64 left ∧ 0 ≤ left ∧ (done.length : Int) + left ≤ w ∧ h'[h0.length]? = some (.cells [.int .i64 a1, .int .i64 a2, .int .i64 a3, .int .i64 w, vc] false) ∧ OwnT (h0.length + 2) 1 encI h' vc done ∧ done.length = c ∧ cutsP q (atI lv i).j.cuts w = done ++ cutsP q ((atI lv i).j.cuts.drop c) left)
    (fun c => (atI lv i).j.cuts.length - c) ?_ 0 ⟨Pre.app _ _, by simp, Nat.zero_le _, g0, g1, g5, g6, g7, g8, g11, by rw [geta]; rfl, w, .slice none 0 0, [], g10, by omega, by simp, by rw [geta0]; rfl, OwnT.nil, rfl, rfl⟩
  rintro c fr h' ⟨hp, hlen, hcl, g0, g1, g5, g6, g7, g8, g11, ht, left, vc, done, g10, hle0, hle1, hj, ho, hdl, hcut⟩
  have hl' := hl.pre hp
  have hc' := hc.pre hp
  have hone := ho.rd.one
  have hcv := ho.rd.cv
  unfold c_ref08_Decode_l0
  by_cases hlt : c < (atI lv i).j.cuts.length
  · by_cases hpos : 0 < left
    · have hr := emod_in (atI (atI lv i).j.cuts (c : Int)) (min q left) (by omega)
      have hstep : cutsP q ((atI lv i).j.cuts.drop c) left = (1 + atI (atI lv i).j.cuts (c : Int) % (min q left)) :: cutsP q ((atI lv i).j.cuts.drop (c + 1)) (left - (1 + atI (atI lv i).j.cuts (c : Int) % (min q left))) := by
        rw [List.drop_eq_getElem_cons hlt, cutsP, if_pos hpos, atI_nat hlt]
      rw [hstep] at hcut
      clear hstep hq
      (repeat' (first | (with_reducible refine A1 (fun _ => ?_) (fun _ => ?_) <;> try (exfalso; omega)) | simp -dsimp (disch := omega) only [↓EA, EB, Nat.reduceEqDiff, Nat.reduceLeDiff, Nat.reduceMul, ↓reduceIte, reduceCtorEq, newCells, bslV, eq_self, *, hl'.ixs, hl'.ld, hc'.len, hc'.ixs, hc'.ld0, encN, hdR, encI, rest08 hE]))
      refine wx_app1 (sz := 1) (bytes := 8) (ho.app _) (hp.app' _) (m := h0.length + 2) (by omega) (by simp; omega) (fun b hb => hW b (by omega)) (1 + atI (atI lv i).j.cuts (c : Int) % (min q left)) ?_ rfl (by decide) (by decide) (by omega) ?_
      · simp -dsimp (disch := omega) only [EB, Nat.reduceMul, ↓reduceIte]
        rfl
      · intro v2 h2 k1 k2 k3 k4 k5
        have j2 : h2[h0.length]? = some (.cells [.int .i64 a1, .int .i64 a2, .int .i64 a3, .int .i64 w, vc] false) := by
          rw [k5 _ (by simp; omega) (fun hn => by have := ho.ge hn; omega), List.getElem?_append_left (by omega)]; exact hj
        have t2 : h2[h0.length + 1]? = some (.cells [x0, x1, x2, x3, x4, .int .i64 q, x6] false) := by
          rw [k5 _ (by simp; omega) (fun hn => by have := ho.ge hn; omega), List.getElem?_append_left (by omega)]; exact ht
        have o2 := k1.rd.one
        have c2 := k1.rd.cv
        have hW0 := hW h0.length (Nat.le_refl _)
        have hlt2 := (List.getElem?_eq_some_iff.1 j2).1
        simp only [List.length_append, List.length_cons, List.length_nil] at k4
        clear k5 hj ht
        (repeat' simp -dsimp (disch := omega) only [↓EA, EB, Nat.reduceEqDiff, Nat.reduceAdd, ↓reduceIte, reduceCtorEq, eq_self, *])
        refine Next.mk (c + 1) ⟨k2.set (Nat.le_refl _) _, by simp; omega, by omega, rfl, rfl, rfl, rfl, rfl, rfl, rfl, by rw [gets (by omega)]; exact t2, _, v2, done ++ [1 + atI (atI lv i).j.cuts (c : Int) % (min q left)], rfl, by omega, by simp only [List.length_append, List.length_cons, List.length_nil]; omega, List.getElem?_set_self hlt2, ?_, by simp [hdl], ?_⟩ (by omega)
        · exact k1.keep fun hn => gets (by have := k1.ge hn; omega)
        · rw [hcut, List.append_assoc]; rfl
    · have hc0 : cutsP q ((atI lv i).j.cuts.drop c) left = [] := by
        rw [List.drop_eq_getElem_cons hlt, cutsP, if_neg hpos]
      rw [hc0, List.append_nil] at hcut
      rw [hcut] at hq
      clear hcut
      (repeat' (first | (with_reducible refine A1 (fun _ => ?_) (fun _ => ?_) <;> try (exfalso; omega)) | simp -dsimp (disch := omega) only [↓EA, EB, Nat.reduceEqDiff, ↓reduceIte, reduceCtorEq, eq_self, *, hl'.ixs, hl'.ld, hc'.len, encN, hdR]))
      exact hq _ _ _ rfl rfl rfl rfl rfl hp hlen hj ho
  · have hc0 : cutsP q ((atI lv i).j.cuts.drop c) left = [] := by
      rw [List.drop_of_length_le (by omega)]; rfl
    rw [hc0, List.append_nil] at hcut
    rw [hcut] at hq
    clear hcut
    (repeat' (first | (with_reducible refine A1 (fun _ => ?_) (fun _ => ?_) <;> try (exfalso; omega)) | simp -dsimp (disch := omega) only [↓EA, EB, Nat.reduceEqDiff, ↓reduceIte, reduceCtorEq, eq_self, *, hl'.ixs, hl'.ld, hc'.len, encN, hdR]))
    exact hq _ _ _ rfl rfl rfl rfl rfl hp hlen hj ho
def jobOf (l : List Task) (out : List Job) (r : Raw) : Job :=
  let t := atI l (r.task % l.length)
  let k := lastN out (r.task % l.length) out.length
  let a := if 0 ≤ k then r.gap % 1048576 + (atI out k).arrive + t.T else r.gap % 1048576
  let w := 1 + r.work % t.C
  ⟨r.task % l.length, a, a + r.late % (t.J + 1), w, cutsP t.Q r.cuts w⟩
def jobsP (l : List Task) (raw : List Raw) : List Job := raw.foldl (fun out r => out ++ [jobOf l out r]) []
def decodeP (l : List Task) (raw : List Raw) : List Job := if (checkAllP l).2 = 0 then jobsP l (raw.take 4096) else []
theorem jobsP_snoc (l : List Task) (raw : List Raw) (r : Raw) : jobsP l (raw ++ [r]) = jobsP l raw ++ [jobOf l (jobsP l raw) r] := by simp [jobsP]
theorem jobsP_len (l : List Task) (raw : List Raw) : (jobsP l raw).length = raw.length := by
  have : ∀ (raw : List Raw) (out : List Job), (raw.foldl (fun out r => out ++ [jobOf l out r]) out).length = out.length + raw.length := by
    intro raw
    induction raw with
    | nil => intro out; simp
    | cons r s ih => intro out; rw [List.foldl_cons, ih]; simp; omega
  have h := this raw []
  rw [List.length_nil, Nat.zero_add] at h; exact h
def jobIn (n : Nat) (j : Job) : Prop := 0 ≤ j.arrive ∧ j.arrive ≤ n * 4294967296 ∧ j.arrive ≤ j.release ∧ j.release ≤ j.arrive + 2147483647 ∧ 1 ≤ j.work ∧ j.work ≤ 2147483647
theorem jobOf_in {l : List Task} (hl : 0 < l.length) (hok : ∀ t ∈ l, okTask t) {out : List Job} {n : Nat} (ho : ∀ j ∈ out, jobIn n j) (r : Raw) : jobIn (n + 1) (jobOf l out r) := by
  have h1 := emod_in r.task l.length (by omega)
  have ht := hok _ (atI_mem h1.1 h1.2)
  obtain ⟨ht, hf⟩ := ht
  simp only [rangesB, fitsB] at ht hf
  have h2 := emod_in r.gap 1048576 (by omega)
  have h3 := emod_in r.late ((atI l (r.task % l.length)).J + 1) (by omega)
  have h4 := emod_in r.work (atI l (r.task % l.length)).C (by omega)
  have h5 := lastN_in out (r.task % l.length) out.length
  unfold jobIn jobOf
  dsimp only
  split
  · rename_i hk
    have := ho _ (atI_mem hk (by omega))
    unfold jobIn at this
    simp only [Int.natCast_add, Int.natCast_one]
    omega
  · simp only [Int.natCast_add, Int.natCast_one]
    omega
theorem decode08O (hE : Laid E) {h : Heap} {v0 v1 : Value} {l : List Task} {raw : List Raw} (hl : Rd 7 encT h v0 l) (hs : ∀ t ∈ l, t.name.size < 1152921504606846976) (hr : RdR h v1 raw) :
    ∃ v' ys, callW E (.func (.func n_ref08_Decode) #[] #[]) [v0, v1] h = some (v', h ++ ys, []) ∧ RdNO h.length 5 hdJ Job.cuts (h ++ ys) v' (decodeP l raw) := by
  refine fn_new hE.ref08_Decode rfl (RdNO.movable (hd := hdJ) (cs := Job.cuts) (sz := 5) (fun _ => rfl) (fun _ => rfl) _) (by simp) ?_
  obtain ⟨lv, rfl, hlv, hc⟩ := hr.is
  have few := hlv.few
  have fewl := hl.few
  have hca := checkAll04 hE hl hs
  simp only [argsF]
  by_cases hok : (checkAllP l).2 = 0
  · have hne : ¬ ((checkAllP l).2 ≠ 0) := by simpa using hok
    obtain ⟨hl0, hl1, hoks⟩ := checkAll_ok hok
    have hd : decodeP l (lv.map (·.j)) = jobsP l ((lv.map (·.j)).take 4096) := if_pos hok
    rw [hd]
    clear hd
    (repeat' simp -dsimp (disch := omega) only [↓EA, EB, Nat.reduceEqDiff, ↓reduceIte, reduceCtorEq, eq_self, *])
    clear hca hok hne
    refine WO.loop (fun n fr h' => Pre h h' ∧ n ≤ lv.length ∧ n ≤ 4096 ∧ get fr 0 = v0 ∧ get fr 1 = v1 ∧ get fr 6 = .int .i64 n ∧ (∀ j ∈ jobsP l ((lv.map (·.j)).take n), jobIn n j) ∧ ∃ lw : List (NV Job), lw.map (·.j) = jobsP l ((lv.map (·.j)).take n) ∧ OwnT h.length 5 (encN hdJ) h' (get fr 5) lw ∧ ∀ p ∈ lw, Rd 1 encI h' p.v p.j.cuts ∧ (p.v ≠ .slice none 0 0 → blk p.v ≠ blk (get fr 5))) (fun n => lv.length - n) ?_ 0 ⟨Pre.refl _, Nat.zero_le _, by omega, rfl, rfl, rfl, by simp [jobsP], [], rfl, OwnT.nil, by simp⟩
    rintro n fr h' ⟨hp, hn, hn2, g0, g1, g6, hin, lw, e1, ho, hw⟩
    generalize hvo : get fr 5 = vo at ho hw
    have hlen : lw.length = n := by have := congrArg List.length e1; rw [jobsP_len] at this; simp at this; omega
    have hl' := hl.pre hp
    have hlv' := hlv.pre hp
    unfold c_ref08_Decode_l1
    rcases Nat.lt_or_ge n lv.length with hlt | hge
    · by_cases hlm : (n : Int) < 4096
      · have hmem := atI_mem (l := lv) (i := n) (by omega) (by omega)
        have hcn := (hc _ hmem).pre hp
        have hrest := rest08 hE
        have hlast := fun x t => last08 hE (ho.app x).rd t
        have e2 : atI (lv.map (·.j)) (n : Int) = (atI lv n).j := (atI_map' (fun p : NV Raw => p.j) lv n (by omega) (by omega)).symm
        have ejob : jobsP l ((lv.map (·.j)).take (n + 1)) = lw.map (·.j) ++ [jobOf l (lw.map (·.j)) (atI lv n).j] := by
          rw [take_snoc (by simpa using hlt), jobsP_snoc, e1, e2]
        have hin' : ∀ j ∈ lw.map (·.j), jobIn n j := by rw [e1]; exact hin
        have hjin := jobOf_in hl0 hoks (out := lw.map (·.j)) (n := n) hin' (atI lv n).j
        have h1 := emod_in (atI lv n).j.task l.length (by omega)
        have htk := hoks _ (atI_mem h1.1 h1.2)
        obtain ⟨⟨_, _, tC, tT, tD, tQ, tJ, tP⟩, tf1, tf2, tf3⟩ := htk
        have h2 := emod_in (atI lv n).j.gap 1048576 (by omega)
        have h3 := emod_in (atI lv n).j.late ((atI l ((atI lv n).j.task % l.length)).J + 1) (by omega)
        have h4 := emod_in (atI lv n).j.work (atI l ((atI lv n).j.task % l.length)).C (by omega)
        have h5 := lastN_in (lw.map (·.j)) ((atI lv n).j.task % l.length) lw.length
        have hk : 0 ≤ lastN (lw.map (·.j)) ((atI lv n).j.task % l.length) lw.length → atI (lw.map (·.j)) (lastN (lw.map (·.j)) ((atI lv n).j.task % l.length) lw.length) = (atI lw (lastN (lw.map (·.j)) ((atI lv n).j.task % l.length) lw.length)).j ∧ jobIn n (atI lw (lastN (lw.map (·.j)) ((atI lv n).j.task % l.length) lw.length)).j := fun hk => by
          have e3 := (atI_map' (fun p : NV Job => p.j) lw _ hk (by omega)).symm
          refine ⟨e3, ?_⟩
          have := atI_mem (l := lw.map (·.j)) hk (by simp; omega)
          rw [e3] at this; exact hin' _ this
        have E1 : Hid (lw.map (·.j) = jobsP l ((lv.map (·.j)).take n)) := ⟨e1⟩
        have Ej : Hid (jobsP l ((lv.map (·.j)).take (n + 1)) = lw.map (·.j) ++ [jobOf l (lw.map (·.j)) (atI lv n).j]) := ⟨ejob⟩
        have Hin : Hid (∀ j ∈ lw.map (·.j), jobIn n j) := ⟨hin'⟩
        have Hjin : Hid (jobIn (n + 1) (jobOf l (lw.map (·.j)) (atI lv n).j)) := ⟨hjin⟩
        have hlen1 : lw.length ≤ n := by omega
        have hlen2 : n ≤ lw.length := by omega
        clear hin hoks hc e1 ejob hin' hjin hlen
        unfold jobIn at hk
        (repeat' (first | (with_reducible refine A1 (fun _ => ?_) (fun _ => ?_) <;> try (exfalso; omega)) | (with_reducible refine A3 (fun _ => ?_) (fun _ => ?_) <;> try (exfalso; omega)) | simp -dsimp (disch := omega) only [↓EA, EB, Nat.reduceEqDiff, Nat.reduceAdd, Nat.reduceLeDiff, ↓reduceIte, reduceCtorEq, newCells, eq_self, *, hl'.len, hl'.ixs, hl'.ldxa, hlv'.len, hlv'.ixs, hlv'.ld0, hlv'.ldx, ho.rd.ixs, ho.rd.ldx, encN, hdR, hdJ, encT, hp.le, hp.le_add]))
        all_goals
          refine dec_l0 hE hlv' hlt hcn (by omega) (by omega) (by omega) (by omega) (fun b hb => by have := hp.le; omega) rfl rfl rfl rfl rfl rfl rfl rfl fun fr2 h2 vc q0 q1 q5 q6 q7 p2 l2 j2 o2 => ?_
          have hcv := o2.rd.one
          have hcv2 := o2.rd.cv
          (repeat' simp -dsimp (disch := omega) only [↓EA, EB, Nat.reduceEqDiff, Nat.reduceAdd, Nat.reduceLeDiff, Nat.reduceMul, ↓reduceIte, reduceCtorEq, newCells, bslV, eq_self, *])
          refine wx_app1 (sz := 5) (bytes := 56) ((ho.pre p2).app _) ((hp.trans p2).app' _) (Nat.le_refl _) (by simp; have := hp.le; omega) (fun b hb => hb) (NV.mk (jobOf l (lw.map (·.j)) (atI lv n).j) vc) ?_ rfl (by decide) (by decide) (by omega) ?_
          · simp -dsimp (disch := omega) only [EB, Nat.reduceAdd, Nat.reduceMul, ↓reduceIte]
            simp only [encN, hdJ, jobOf, List.length_map, List.cons_append, List.nil_append]
            first
              | (rw [if_pos ‹_›, (hk ‹_›).1]; done)
              | (rw [if_neg ‹_›]; done)
              | skip
          · intro v3 h3 k1 k2 k3 k4 k5
            simp only [List.length_append, List.length_cons, List.length_nil] at k3 k4 k5
            have K5 := Hid.mk k5
            clear k5
            (repeat' simp -dsimp (disch := omega) only [↓EA, EB, Nat.reduceEqDiff, ↓reduceIte, reduceCtorEq, eq_self, *])
            refine Next.mk (n + 1) ⟨k2, by omega, by omega, rfl, rfl, rfl, ?_, lw ++ [NV.mk (jobOf l (lw.map (·.j)) (atI lv n).j) vc], ?_, k1, ?_⟩ (by omega)
            · rw [Ej.out]
              intro j hj
              rcases List.mem_append.1 hj with hj | hj
              · have := Hin.out j hj; unfold jobIn at this ⊢; simp only [Int.natCast_add, Int.natCast_one]; omega
              · rw [List.mem_singleton.1 hj]; exact Hjin.out
            · rw [Ej.out]; simp
            · intro p hp'
              rw [show get [(0, v0), (1, v1), (5, v3), (6, Value.int IntKind.i64 ((n : Int) + 1))] 5 = v3 from rfl]
              rcases List.mem_append.1 hp' with hp' | hp'
              · obtain ⟨w1, w2⟩ := hw p hp'
                have w3 := w1.pre p2
                refine ⟨(w3.app _).keep fun hn => K5.out _ (by have := w3.lt' hn; omega) (fun _ => w2 hn), fun hn => ?_⟩
                have := w3.lt' hn; omega
              · rw [List.mem_singleton.1 hp']
                have w3 := o2.rd
                refine ⟨(w3.app _).keep fun hn => K5.out _ (by have := w3.lt' hn; omega) (fun hne => ?_), fun hn => ?_⟩
                · have h1 := o2.ge (o2.ne hn)
                  have h2 := ho.lt hne
                  omega
                · have := w3.lt' hn; dsimp only; omega
      · have : (lv.map (·.j)).take 4096 = (lv.map (·.j)).take n := by
          have : n = 4096 := by omega
          rw [this]
        rw [this]
        (repeat' (first | (with_reducible refine A1 (fun _ => ?_) (fun _ => ?_) <;> try (exfalso; omega)) | simp -dsimp (disch := omega) only [↓EA, EB, Nat.reduceEqDiff, ↓reduceIte, reduceCtorEq, eq_self, *, hlv'.len]))
        exact ⟨hp.ex, ⟨lw, e1, ho.rdO, hw⟩⟩
    · have : (lv.map (·.j)).take 4096 = (lv.map (·.j)).take n := by rw [List.take_of_length_le (by simp; omega), List.take_of_length_le (by simp; omega)]
      rw [this]
      (repeat' (first | (with_reducible refine A1 (fun _ => ?_) (fun _ => ?_) <;> try (exfalso; omega)) | simp -dsimp (disch := omega) only [↓EA, EB, Nat.reduceEqDiff, ↓reduceIte, reduceCtorEq, eq_self, *, hlv'.len]))
      exact ⟨hp.ex, ⟨lw, e1, ho.rdO, hw⟩⟩
  · have hd : decodeP l (lv.map (·.j)) = [] := if_neg hok
    rw [hd]
    (repeat' simp -dsimp (disch := omega) only [↓EA, EB, Nat.reduceEqDiff, ↓reduceIte, reduceCtorEq, eq_self, *])
    exact ⟨⟨[], by simp⟩, ⟨[], rfl, OwnT.nil.rdO, by simp⟩⟩
theorem decode08 (hE : Laid E) {h : Heap} {v0 v1 : Value} {l : List Task} {raw : List Raw} (hl : Rd 7 encT h v0 l) (hs : ∀ t ∈ l, t.name.size < 1152921504606846976) (hr : RdR h v1 raw) :
    ∃ v' ys, callW E (.func (.func n_ref08_Decode) #[] #[]) [v0, v1] h = some (v', h ++ ys, []) ∧ RdJ (h ++ ys) v' (decodeP l raw) := by
  obtain ⟨v, ys, h1, h2⟩ := decode08O hE hl hs hr
  exact ⟨v, ys, h1, h2.rd⟩
end Go.L.Try
set_option maxHeartbeats 2000000
namespace Go.L.Try
open Go Go.L
def cutsOk (q : Int) : List Int → Int → Bool
  | [], _ => true
  | c :: r, left => decide (1 ≤ c ∧ c ≤ q ∧ c ≤ left) && cutsOk q r (left - c)
def jobNums (l : List Task) (jobs : List Job) (i : Nat) : Prop :=
  let j := atI jobs (i : Int)
  let t := atI l j.task
  let k := lastN jobs j.task i
  (0 ≤ j.task ∧ j.task < l.length) ∧ (0 ≤ j.arrive ∧ j.arrive ≤ 17592186044416) ∧ (0 ≤ k → (atI jobs k).arrive + t.T ≤ j.arrive) ∧ j.arrive ≤ j.release ∧ j.release ≤ j.arrive + t.J ∧ 1 ≤ j.work ∧ j.work ≤ t.C
instance (l : List Task) (jobs : List Job) (i : Nat) : Decidable (jobNums l jobs i) := by unfold jobNums; dsimp only; infer_instance
def jobOkB (l : List Task) (jobs : List Job) (i : Nat) : Bool := decide (jobNums l jobs i) && cutsOk (atI l (atI jobs (i : Int)).task).Q (atI jobs (i : Int)).cuts (atI jobs (i : Int)).work
def allOk (l : List Task) (jobs : List Job) : Nat → Bool
  | 0 => true
  | n + 1 => allOk l jobs n && jobOkB l jobs n
def legalB (l : List Task) (jobs : List Job) : Bool := decide ((checkAllP l).2 = 0 ∧ jobs.length ≤ 4096) && allOk l jobs jobs.length
theorem allOk_at {l : List Task} {jobs : List Job} : ∀ {n : Nat}, allOk l jobs n = true → ∀ i, i < n → jobOkB l jobs i = true
  | 0, _, i, hi => by omega
  | n + 1, h, i, hi => by
    simp only [allOk, Bool.and_eq_true] at h
    rcases Nat.lt_or_ge i n with h1 | h1
    · exact allOk_at h.1 i h1
    · have : i = n := by omega
      subst this; exact h.2
theorem allOk_not {l : List Task} {jobs : List Job} {n i : Nat} (hi : i < n) (h : jobOkB l jobs i = false) : allOk l jobs n = false := by
  cases hc : allOk l jobs n
  · rfl
  · rw [allOk_at hc i hi] at h; cases h
theorem lastN_take {jobs : List Job} {task : Int} : ∀ {k i : Nat}, k ≤ i → lastN (jobs.take i) task k = lastN jobs task k
  | 0, i, _ => rfl
  | k + 1, i, h => by
    have e : atI (jobs.take i) (k : Int) = atI jobs (k : Int) := by
      unfold atI
      rw [List.getD_eq_getElem?_getD, List.getD_eq_getElem?_getD, List.getElem?_take, if_pos (by omega)]
    simp only [lastN, e, lastN_take (k := k) (by omega : k ≤ i)]
theorem lastN_task {jobs : List Job} {task : Int} : ∀ {n : Nat}, 0 ≤ lastN jobs task n → (atI jobs (lastN jobs task n)).task = task
  | 0, h => by simp [lastN] at h
  | n + 1, h => by
    unfold lastN at h ⊢
    split
    · assumption
    · rename_i hn; rw [if_neg hn] at h; exact lastN_task h
end Go.L.Try
namespace Go.L.Try
open Go Go.L
def withinP : List Int → Int → Int → Bool
  | [], _, _ => false
  | c :: r, a, d => decide (a < d ∧ d < a + c) || withinP r (a + c) d
def pickN (l : List Task) (jobs : List Job) (done : List Int) (t : Int) : Nat → Int
 | 0 => -1
 | n+1 => if (atI jobs n).release ≤ t ∧ atI done n < (atI jobs n).work ∧ (pickN l jobs done t n < 0 ∨ (atI l (atI jobs n).task).P < (atI l (atI jobs (pickN l jobs done t n)).task).P) then n else pickN l jobs done t n
theorem pickN_in (l : List Task) (jobs : List Job) (done : List Int) (t : Int) : ∀ n, -1 ≤ pickN l jobs done t n ∧ pickN l jobs done t n < n
 | 0 => by simp [pickN]
 | n+1 => by have := pickN_in l jobs done t n; unfold pickN; split <;> omega
end Go.L.Try
namespace Go.L.Try
open Go Go.L
def sumN (f : Nat → Int) : Nat → Int
  | 0 => 0
  | n + 1 => sumN f n + f n
theorem sumN_same {f g : Nat → Int} : ∀ {n : Nat}, (∀ i, i < n → g i = f i) → sumN g n = sumN f n
  | 0, _ => rfl
  | n + 1, h => by simp only [sumN]; rw [sumN_same (n := n) fun i hi => h i (by omega), h n (by omega)]
theorem sumN_upd {f g : Nat → Int} {r : Nat} : ∀ {n : Nat}, (∀ i, i ≠ r → g i = f i) → r < n → sumN g n = sumN f n + (g r - f r)
  | 0, _, h => by omega
  | n + 1, h, hr => by
    simp only [sumN]
    by_cases e : r = n
    · subst e
      rw [sumN_same (f := f) (g := g) fun i hi => h i (by omega)]; omega
    · rw [sumN_upd h (by omega), h n (fun h => e h.symm)]; omega
theorem sumN_le {f g : Nat → Int} : ∀ {n : Nat}, (∀ i, i < n → f i ≤ g i) → sumN f n ≤ sumN g n
  | 0, _ => Int.le_refl _
  | n + 1, h => by have := sumN_le (n := n) fun i hi => h i (by omega); have := h n (by omega); simp only [sumN]; omega
theorem sumN_zero : ∀ {n : Nat}, sumN (fun _ => 0) n = 0
  | 0 => rfl
  | n + 1 => by simp only [sumN, sumN_zero (n := n)]; rfl
theorem sumN_nonneg {f : Nat → Int} {n : Nat} (h : ∀ i, i < n → 0 ≤ f i) : 0 ≤ sumN f n := by
  have := sumN_le (f := fun _ => 0) (g := f) (n := n) h; rw [sumN_zero] at this; exact this
theorem sumN_pos {f : Nat → Int} : ∀ {n : Nat}, 0 < sumN f n → ∃ i, i < n ∧ 0 < f i
  | 0, h => by simp [sumN] at h
  | n + 1, h => by
    simp only [sumN] at h
    by_cases e : 0 < f n
    · exact ⟨n, by omega, e⟩
    · obtain ⟨i, hi, h1⟩ := sumN_pos (f := f) (n := n) (by omega); exact ⟨i, by omega, h1⟩
theorem atI_set {α : Type} [Inhabited α] {l : List α} {r : Nat} {x : α} (hr : r < l.length) (i : Nat) : atI (l.set r x) (i : Int) = if i = r then x else atI l (i : Int) := by
  unfold atI
  rw [List.getD_eq_getElem?_getD, List.getD_eq_getElem?_getD, show ((i : Int)).toNat = i by omega, List.getElem?_set]
  by_cases e : i = r
  · subst e; simp [hr]
  · rw [if_neg (fun h => e h.symm), if_neg e]
structure RS where
  t : Int
  runs : Int
  done : List Int
  ends : List Int
  left : Int
  L : List Span
def rsRuns (l : List Task) (jobs : List Job) (s : RS) : Int :=
  if s.runs < 0 ∨ withinP (atI jobs s.runs).cuts 0 (atI s.done s.runs) = false then pickN l jobs s.done s.t jobs.length else s.runs
def addTick (L : List Span) (r t : Int) : List Span :=
  if 0 < (L.length : Int) ∧ (atI L ((L.length : Int) - 1)).job = r ∧ (atI L ((L.length : Int) - 1)).to' = t then L.set ((L.length : Int) - 1).toNat { atI L ((L.length : Int) - 1) with to' := (atI L ((L.length : Int) - 1)).to' + 1 } else L ++ [⟨r, t, t + 1⟩]
def rsWork (jobs : List Job) (s : RS) (r : Int) : RS :=
  { t := s.t + 1, runs := r, done := s.done.set r.toNat (atI s.done r + 1), L := addTick s.L r s.t,
    ends := if atI s.done r + 1 = (atI jobs r).work then s.ends.set r.toNat (s.t + 1) else s.ends,
    left := if atI s.done r + 1 = (atI jobs r).work then s.left - 1 else s.left }
def rsStep (l : List Task) (jobs : List Job) (s : RS) : RS :=
  if rsRuns l jobs s < 0 then { s with t := s.t + 1, runs := rsRuns l jobs s } else rsWork jobs s (rsRuns l jobs s)
def rsOn (e : Int) (s : RS) : Prop := 0 < s.left ∧ (e < 0 ∨ s.t < e)
instance (e : Int) (s : RS) : Decidable (rsOn e s) := by unfold rsOn; infer_instance
def rsRun (l : List Task) (jobs : List Job) (e : Int) : Nat → RS → RS
  | 0, s => s
  | n + 1, s => if rsOn e s then rsRun l jobs e n (rsStep l jobs s) else s
def rsInit (n : Nat) : RS := ⟨0, -1, List.replicate n 0, List.replicate n (-1), n, []⟩
def lastRel : Int := 17594333528064
structure JobsOk (l : List Task) (jobs : List Job) : Prop where
  task : ∀ j ∈ jobs, 0 ≤ j.task ∧ j.task < l.length
  rel : ∀ j ∈ jobs, 0 ≤ j.release ∧ j.release < lastRel
  work : ∀ j ∈ jobs, 1 ≤ j.work ∧ j.work ≤ 2147483647
  cuts : ∀ j ∈ jobs, ∃ q, cutsOk q j.cuts j.work = true
structure RsInv (jobs : List Job) (s : RS) : Prop where
  dlen : s.done.length = jobs.length
  elen : s.ends.length = jobs.length
  t0 : 0 ≤ s.t
  t1 : s.t ≤ lastRel + sumN (fun i => atI s.done (i : Int)) jobs.length
  runs : -1 ≤ s.runs ∧ s.runs < jobs.length
  done : ∀ i : Nat, i < jobs.length → 0 ≤ atI s.done (i : Int) ∧ atI s.done (i : Int) ≤ (atI jobs (i : Int)).work
  left : s.left = sumN (fun i => if atI s.done (i : Int) < (atI jobs (i : Int)).work then 1 else 0) jobs.length
  L : (s.L.length : Int) ≤ sumN (fun i => atI s.done (i : Int)) jobs.length
def sumWork (jobs : List Job) : Int := sumN (fun i => (atI jobs (i : Int)).work) jobs.length
def rsLeft (jobs : List Job) (s : RS) : Nat := (lastRel - s.t).toNat + (sumWork jobs - sumN (fun i => atI s.done (i : Int)) jobs.length).toNat
theorem RsInv.sum {jobs : List Job} {s : RS} (h : RsInv jobs s) : 0 ≤ sumN (fun i => atI s.done (i : Int)) jobs.length ∧ sumN (fun i => atI s.done (i : Int)) jobs.length ≤ sumWork jobs :=
  ⟨sumN_nonneg fun i hi => (h.done i hi).1, sumN_le fun i hi => (h.done i hi).2⟩
theorem rsInit_inv (jobs : List Job) (hw : ∀ j ∈ jobs, 1 ≤ j.work ∧ j.work ≤ 2147483647) : RsInv jobs (rsInit jobs.length) := by
  have h0 : ∀ i : Nat, i < jobs.length → atI (List.replicate jobs.length (0 : Int)) (i : Int) = 0 := fun i hi => by
    rw [atI_nat (by simpa using hi)]; simp
  have hs : sumN (fun i => atI (List.replicate jobs.length (0 : Int)) (i : Int)) jobs.length = 0 := by
    rw [sumN_same (f := fun _ => 0) h0, sumN_zero]
  refine ⟨by simp [rsInit], by simp [rsInit], Int.le_refl _, ?_, ⟨by simp [rsInit], by simp [rsInit]; omega⟩, fun i hi => ?_, ?_, ?_⟩
  · show (0 : Int) ≤ lastRel + sumN (fun i => atI (List.replicate jobs.length (0 : Int)) (i : Int)) jobs.length
    rw [hs]; decide
  · show 0 ≤ atI (List.replicate jobs.length (0 : Int)) (i : Int) ∧ atI (List.replicate jobs.length (0 : Int)) (i : Int) ≤ _
    rw [h0 i hi]
    have := (hw _ (atI_mem (l := jobs) (i := i) (by omega) (by omega))).1
    omega
  · show (jobs.length : Int) = sumN (fun i => if atI (List.replicate jobs.length (0 : Int)) (i : Int) < (atI jobs (i : Int)).work then 1 else 0) jobs.length
    rw [sumN_same (f := fun _ => 1) fun i hi => by
      have := (hw _ (atI_mem (l := jobs) (i := i) (by omega) (by omega))).1
      rw [h0 i hi, if_pos (by omega)]]
    have : ∀ n : Nat, (n : Int) = sumN (fun _ => 1) n := by
      intro n
      induction n with
      | zero => rfl
      | succ n ih => simp only [sumN]; omega
    exact this _
  · show ((List.length ([] : List Span) : Nat) : Int) ≤ sumN (fun i => atI (List.replicate jobs.length (0 : Int)) (i : Int)) jobs.length
    rw [hs]; decide
theorem within_lt {q : Int} : ∀ {cuts : List Int} {w a d : Int}, cutsOk q cuts w = true → withinP cuts a d = true → d < a + w
  | [], w, a, d, _, h => by simp [withinP] at h
  | c :: r, w, a, d, h1, h2 => by
    simp only [cutsOk, Bool.and_eq_true, decide_eq_true_eq] at h1
    simp only [withinP, Bool.or_eq_true, decide_eq_true_eq] at h2
    rcases h2 with h2 | h2
    · omega
    · have := within_lt h1.2 h2; omega
theorem pickN_some {l : List Task} {jobs : List Job} {done : List Int} {t : Int} : ∀ {n : Nat}, 0 ≤ pickN l jobs done t n → (atI jobs (pickN l jobs done t n)).release ≤ t ∧ atI done (pickN l jobs done t n) < (atI jobs (pickN l jobs done t n)).work
  | 0, h => by simp [pickN] at h
  | n + 1, h => by
    unfold pickN at h ⊢
    split
    · rename_i hc; exact ⟨hc.1, hc.2.1⟩
    · rename_i hc
      rw [if_neg hc] at h
      exact pickN_some h
theorem pickN_none {l : List Task} {jobs : List Job} {done : List Int} {t : Int} : ∀ {n : Nat}, pickN l jobs done t n < 0 → ∀ i : Nat, i < n → ¬ ((atI jobs (i : Int)).release ≤ t ∧ atI done (i : Int) < (atI jobs (i : Int)).work)
  | 0, _, i, hi => by omega
  | n + 1, h, i, hi => by
    unfold pickN at h
    split at h
    · omega
    · rename_i hc
      rintro ⟨h1, h2⟩
      rcases Nat.lt_or_ge i n with hlt | hge
      · exact pickN_none h i hlt ⟨h1, h2⟩
      · have : i = n := by omega
        subst this
        exact hc ⟨h1, h2, .inl h⟩
theorem rsRuns_ok {l : List Task} {jobs : List Job} {s : RS} (hj : JobsOk l jobs) (hi : RsInv jobs s) : -1 ≤ rsRuns l jobs s ∧ rsRuns l jobs s < jobs.length ∧ (0 ≤ rsRuns l jobs s → atI s.done (rsRuns l jobs s) < (atI jobs (rsRuns l jobs s)).work) := by
  unfold rsRuns
  split
  · have := pickN_in l jobs s.done s.t jobs.length
    exact ⟨this.1, this.2, fun h => (pickN_some h).2⟩
  · rename_i hc
    have h0 : 0 ≤ s.runs := by omega
    have hw : withinP (atI jobs s.runs).cuts 0 (atI s.done s.runs) = true := by simpa using fun h => hc (.inr h)
    refine ⟨by omega, hi.runs.2, fun _ => ?_⟩
    obtain ⟨q, hq⟩ := hj.cuts _ (atI_mem h0 hi.runs.2)
    have := within_lt hq hw; omega
theorem addTick_len (L : List Span) (r t : Int) : (addTick L r t).length ≤ L.length + 1 := by unfold addTick; split <;> simp
theorem rsStep_ok {l : List Task} {jobs : List Job} {s : RS} {e : Int} (hj : JobsOk l jobs) (hi : RsInv jobs s) (ho : rsOn e s) : RsInv jobs (rsStep l jobs s) ∧ rsLeft jobs (rsStep l jobs s) < rsLeft jobs s := by
  obtain ⟨r1, r2, r3⟩ := rsRuns_ok hj hi
  unfold rsStep
  split
  · rename_i hr
    have hlt : s.t < lastRel := by
      have := ho.1
      rw [hi.left] at this
      obtain ⟨i, hin, hp⟩ := sumN_pos this
      split at hp
      · rename_i hd
        have hpn : pickN l jobs s.done s.t jobs.length < 0 := by
          unfold rsRuns at hr
          split at hr
          · exact hr
          · rename_i hc; omega
        have h1 := pickN_none hpn i hin
        have h2 := (hj.rel _ (atI_mem (l := jobs) (i := i) (by omega) (by omega))).2
        omega
      · omega
    have hs := hi.sum
    refine ⟨⟨hi.dlen, hi.elen, by have := hi.t0; show 0 ≤ s.t + 1; omega, ?_, ⟨r1, r2⟩, hi.done, hi.left, hi.L⟩, ?_⟩
    · show s.t + 1 ≤ lastRel + sumN (fun i => atI s.done (i : Int)) jobs.length
      omega
    · show (lastRel - (s.t + 1)).toNat + (sumWork jobs - sumN (fun i => atI s.done (i : Int)) jobs.length).toNat < (lastRel - s.t).toNat + (sumWork jobs - sumN (fun i => atI s.done (i : Int)) jobs.length).toNat
      omega
  · rename_i hr
    generalize hrr : rsRuns l jobs s = r at *
    have h0 : 0 ≤ r := by omega
    have hlt := r3 h0
    obtain ⟨k, rfl⟩ : ∃ k : Nat, r = k := ⟨r.toNat, by omega⟩
    have hk : k < jobs.length := by omega
    have hkd : k < s.done.length := by rw [hi.dlen]; exact hk
    have hat : ∀ i : Nat, atI (s.done.set k (atI s.done (k : Int) + 1)) (i : Int) = if i = k then atI s.done (k : Int) + 1 else atI s.done (i : Int) := fun i => atI_set hkd i
    have hsum : sumN (fun i => atI (s.done.set k (atI s.done (k : Int) + 1)) (i : Int)) jobs.length = sumN (fun i => atI s.done (i : Int)) jobs.length + 1 := by
      rw [sumN_upd (f := fun i => atI s.done (i : Int)) (r := k) (fun i hik => by rw [hat, if_neg hik]) hk, hat, if_pos rfl]; omega
    have hs := hi.sum
    have hb := hi.done k hk
    have hle : sumN (fun i => atI s.done (i : Int)) jobs.length + 1 ≤ sumWork jobs := by
      rw [← hsum]
      refine sumN_le fun i hin => ?_
      rw [hat]
      split
      · rename_i e; subst e; omega
      · exact (hi.done i hin).2
    have htk : ((k : Int)).toNat = k := by omega
    refine ⟨⟨?_, ?_, ?_, ?_, ⟨by show -1 ≤ (k : Int); omega, r2⟩, ?_, ?_, ?_⟩, ?_⟩
    · simp only [rsWork, List.length_set]; exact hi.dlen
    · simp only [rsWork]; split
      · rw [List.length_set]; exact hi.elen
      · exact hi.elen
    · have := hi.t0; show 0 ≤ s.t + 1; omega
    · show s.t + 1 ≤ lastRel + sumN (fun i => atI (s.done.set ((k : Int)).toNat (atI s.done (k : Int) + 1)) (i : Int)) jobs.length
      rw [htk, hsum]; have := hi.t1; omega
    · intro i hin
      show 0 ≤ atI (s.done.set ((k : Int)).toNat (atI s.done (k : Int) + 1)) (i : Int) ∧ atI (s.done.set ((k : Int)).toNat (atI s.done (k : Int) + 1)) (i : Int) ≤ _
      rw [htk, hat]
      split
      · rename_i e; subst e; omega
      · exact hi.done i hin
    · show (if atI s.done (k : Int) + 1 = (atI jobs (k : Int)).work then s.left - 1 else s.left) = sumN (fun i => if atI (s.done.set ((k : Int)).toNat (atI s.done (k : Int) + 1)) (i : Int) < (atI jobs (i : Int)).work then 1 else 0) jobs.length
      rw [htk, sumN_upd (f := fun i => if atI s.done (i : Int) < (atI jobs (i : Int)).work then 1 else 0) (r := k) (fun i hik => by rw [hat, if_neg hik]) hk, ← hi.left, hat, if_pos rfl, if_pos hlt]
      split
      · rw [if_neg (by omega)]; omega
      · rw [if_pos (by omega)]; omega
    · show (((addTick s.L (k : Int) s.t).length : Nat) : Int) ≤ sumN (fun i => atI (s.done.set ((k : Int)).toNat (atI s.done (k : Int) + 1)) (i : Int)) jobs.length
      rw [htk, hsum]
      have := addTick_len s.L k s.t
      have := hi.L
      omega
    · show (lastRel - (s.t + 1)).toNat + (sumWork jobs - sumN (fun i => atI (s.done.set ((k : Int)).toNat (atI s.done (k : Int) + 1)) (i : Int)) jobs.length).toNat < (lastRel - s.t).toNat + (sumWork jobs - sumN (fun i => atI s.done (i : Int)) jobs.length).toNat
      rw [htk, hsum]
      omega
theorem rsRun_more {l : List Task} {jobs : List Job} {e : Int} (hj : JobsOk l jobs) : ∀ {n m : Nat} {s : RS}, RsInv jobs s → rsLeft jobs s ≤ n → rsLeft jobs s ≤ m → rsRun l jobs e n s = rsRun l jobs e m s
  | 0, 0, s, _, _, _ => rfl
  | 0, m + 1, s, hi, h0, _ => by
    unfold rsRun
    by_cases ho : rsOn e s
    · have := (rsStep_ok hj hi ho).2; omega
    · rw [if_neg ho]
  | n + 1, 0, s, hi, _, h0 => by
    unfold rsRun
    by_cases ho : rsOn e s
    · have := (rsStep_ok hj hi ho).2; omega
    · rw [if_neg ho]
  | n + 1, m + 1, s, hi, h1, h2 => by
    unfold rsRun
    by_cases ho : rsOn e s
    · have h3 := rsStep_ok hj hi ho
      rw [if_pos ho, if_pos ho]
      exact rsRun_more hj h3.1 (by omega) (by omega)
    · rw [if_neg ho, if_neg ho]
def untilP (l : List Task) (jobs : List Job) (e : Int) (s : RS) : RS := rsRun l jobs e (rsLeft jobs s) s
theorem untilP_step {l : List Task} {jobs : List Job} {e : Int} {s : RS} (hj : JobsOk l jobs) (hi : RsInv jobs s) (ho : rsOn e s) : untilP l jobs e s = untilP l jobs e (rsStep l jobs s) := by
  have h3 := rsStep_ok hj hi ho
  unfold untilP
  obtain ⟨k, hk⟩ : ∃ k, rsLeft jobs s = k + 1 := ⟨rsLeft jobs s - 1, by omega⟩
  rw [hk]
  show (if rsOn e s then rsRun l jobs e k (rsStep l jobs s) else s) = _
  rw [if_pos ho]
  exact rsRun_more hj h3.1 (by omega) (Nat.le_refl _)
theorem untilP_stop {l : List Task} {jobs : List Job} {e : Int} {s : RS} (ho : ¬ rsOn e s) : untilP l jobs e s = s := by
  unfold untilP
  cases rsLeft jobs s with
  | zero => rfl
  | succ k => exact if_neg ho
theorem untilP_ind {l : List Task} {jobs : List Job} {e : Int} (hj : JobsOk l jobs) (p : RS → Prop) (hp : ∀ s, RsInv jobs s → rsOn e s → p s → p (rsStep l jobs s)) : ∀ {s : RS}, RsInv jobs s → p s → RsInv jobs (untilP l jobs e s) ∧ p (untilP l jobs e s) ∧ ¬ rsOn e (untilP l jobs e s) := by
  have key : ∀ n (s : RS), rsLeft jobs s ≤ n → RsInv jobs s → p s → RsInv jobs (untilP l jobs e s) ∧ p (untilP l jobs e s) ∧ ¬ rsOn e (untilP l jobs e s) := by
    intro n
    induction n with
    | zero =>
      intro s hn hi h
      by_cases ho : rsOn e s
      · have := (rsStep_ok hj hi ho).2; omega
      · rw [untilP_stop ho]; exact ⟨hi, h, ho⟩
    | succ n ih =>
      intro s hn hi h
      by_cases ho : rsOn e s
      · have h3 := rsStep_ok hj hi ho
        rw [untilP_step hj hi ho]
        exact ih _ (by omega) h3.1 (hp s hi ho h)
      · rw [untilP_stop ho]; exact ⟨hi, h, ho⟩
  intro s hi h
  exact key _ s (Nat.le_refl _) hi h
end Go.L.Try
