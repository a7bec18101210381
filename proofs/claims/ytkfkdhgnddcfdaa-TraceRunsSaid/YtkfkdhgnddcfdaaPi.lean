/- RUNS, TOLD: responses, the worst ones, misses: trace, and cadencyref11. -/
import Derived.Test.YtkfkdhgnddcfdaaPa
import Derived.Test.YtkfkdhgnddcfdaaPg
import Derived.Test.YtkfkdhgnddcfdaaPh
set_option linter.unusedVariables false
set_option linter.unusedSimpArgs false
set_option maxRecDepth 100000
set_option maxHeartbeats 1000000
namespace Go.L.Try
open Go Go.L
variable {E : Env}
def Small (l : List Int) : Prop := ∀ e ∈ l, -1152921504606846976 ≤ e ∧ e ≤ 1152921504606846976
def SmallJ (l : List Job) : Prop := ∀ j ∈ l, -1152921504606846976 ≤ j.arrive ∧ j.arrive ≤ 1152921504606846976
def respP (jobs : List Job) (ends : List Int) (i : Int) : Int × Bool :=
  if 0 ≤ i ∧ i < jobs.length ∧ i < ends.length ∧ 0 ≤ atI ends i then (atI ends i - (atI jobs i).arrive, true) else (0, false)
theorem response (hE : Laid E) {h : Heap} {vj ve : Value} {lv : List (NV Job)} {ends : List Int} (hj : Rd 5 (encN hdJ) h vj lv) (he : Rd 1 encI h ve ends) (hs : Small ends) (hsj : SmallJ (lv.map (·.j))) (i : Int) :
    callW E (.func (.func n_trace_Response) #[] #[]) [vj, ve, .int .i64 i] h = some (.tuple #[.int .i64 (respP (lv.map (·.j)) ends i).1, .bool (respP (lv.map (·.j)) ends i).2], h, []) := by
  refine fn_same hE.trace_Response rfl (by simp) ?_
  have few := hj.few
  have few2 := he.few
  simp only [argsF]
  by_cases hc : 0 ≤ i ∧ i < lv.length ∧ i < ends.length
  · have h1 := hs _ (atI_mem (l := ends) hc.1 hc.2.2)
    have h2 := hsj _ (List.mem_map_of_mem (atI_mem (l := lv) hc.1 hc.2.1))
    have e3 : atI (lv.map (·.j)) i = (atI lv i).j := (atI_map' (fun p : NV Job => p.j) lv i hc.1 hc.2.1).symm
    have hr : respP (lv.map (·.j)) ends i = if 0 ≤ atI ends i then (atI ends i - (atI lv i).j.arrive, true) else (0, false) := by
      unfold respP; rw [e3, List.length_map]; simp [hc]
    by_cases h0 : 0 ≤ atI ends i
    · rw [hr, if_pos h0]
      clear hr e3 hs hsj
      (repeat' (first | (with_reducible refine A2 (fun _ => ?_) (fun _ => ?_) <;> try (exfalso; omega)) | (with_reducible refine A3 (fun _ => ?_) (fun _ => ?_) <;> try (exfalso; omega)) | simp -dsimp (disch := omega) only [↓EA, EB, Nat.reduceEqDiff, Nat.reduceAdd, ↓reduceIte, reduceCtorEq, eq_self, *, hj.len, hj.ixs, hj.ld, he.len, he.ixs, he.ld0, encN, hdJ, encI]))
    · rw [hr, if_neg h0]
      clear hr e3 hs hsj
      (repeat' (first | (with_reducible refine A2 (fun _ => ?_) (fun _ => ?_) <;> try (exfalso; omega)) | (with_reducible refine A3 (fun _ => ?_) (fun _ => ?_) <;> try (exfalso; omega)) | simp -dsimp (disch := omega) only [↓EA, EB, Nat.reduceEqDiff, Nat.reduceAdd, ↓reduceIte, reduceCtorEq, eq_self, *, hj.len, he.len, he.ixs, he.ld0, encI]))
  · have hr : respP (lv.map (·.j)) ends i = (0, false) := by
      unfold respP; rw [if_neg]; rw [List.length_map]; intro h; exact hc ⟨h.1, h.2.1, h.2.2.1⟩
    rw [hr]
    (repeat' (first | (with_reducible refine A2 (fun _ => ?_) (fun _ => ?_) <;> try (exfalso; omega)) | simp -dsimp (disch := omega) only [↓EA, EB, Nat.reduceEqDiff, Nat.reduceAdd, ↓reduceIte, reduceCtorEq, eq_self, *, hj.len, he.len]))
def worstN (jobs : List Job) (ends : List Int) (task : Int) : Nat → Int × Int × Bool
  | 0 => (0, 0, false)
  | n + 1 => if (respP jobs ends n).2 = true ∧ (atI jobs (n : Int)).task = task ∧ ((worstN jobs ends task n).2.2 = false ∨ (worstN jobs ends task n).1 < (respP jobs ends n).1) then ((respP jobs ends n).1, n, true) else worstN jobs ends task n
theorem worst (hE : Laid E) {h : Heap} {vj ve : Value} {lv : List (NV Job)} {ends : List Int} (hj : Rd 5 (encN hdJ) h vj lv) (hc : ∀ p ∈ lv, oneCell p.v = true) (he : Rd 1 encI h ve ends) (hs : Small ends) (hsj : SmallJ (lv.map (·.j))) (task : Int) :
    callW E (.func (.func n_trace_Worst) #[] #[]) [vj, ve, .int .i64 task] h = some (.tuple #[.int .i64 (worstN (lv.map (·.j)) ends task lv.length).1, .int .i64 (worstN (lv.map (·.j)) ends task lv.length).2.1, .bool (worstN (lv.map (·.j)) ends task lv.length).2.2], h, []) := by
  refine fn_same hE.trace_Worst rfl (by simp) ?_
  have few := hj.few
  simp only [argsF]
  (repeat' simp -dsimp (disch := omega) only [↓EA, EB, Nat.reduceEqDiff, Nat.reduceAdd, ↓reduceIte, reduceCtorEq, eq_self, *, hj.len])
  refine WO.loop (fun n fr h' => Pre h h' ∧ n ≤ lv.length ∧ get fr 0 = vj ∧ get fr 1 = ve ∧ get fr 2 = .int .i64 task ∧ get fr 16 = vj ∧ get fr 17 = .int .i64 lv.length ∧ get fr 18 = .int .i64 n ∧ get fr 9 = .int .i64 (worstN (lv.map (·.j)) ends task n).1 ∧ get fr 10 = .int .i64 (worstN (lv.map (·.j)) ends task n).2.1 ∧ get fr 11 = .bool (worstN (lv.map (·.j)) ends task n).2.2) (fun n => lv.length - n) ?_ 0 ⟨Pre.refl _, Nat.zero_le _, rfl, rfl, rfl, rfl, rfl, rfl, rfl, rfl, rfl⟩
  rintro n fr h' ⟨hp, hn, g0, g1, g2, g16, g17, g18, g9, g10, g11⟩
  unfold c_trace_Worst_l0
  rcases Nat.lt_or_ge n lv.length with hlt | hge
  · have hj' := hj.pre hp
    have hresp := fun x => response hE (hj'.app x) ((he.pre hp).app x) hs hsj n
    have e3 : atI (lv.map (·.j)) (n : Int) = (atI lv n).j := (atI_map' (fun p : NV Job => p.j) lv n (by omega) (by omega)).symm
    have hone := hc _ (atI_mem (l := lv) (i := n) (by omega) (by omega))
    have hw : worstN (lv.map (·.j)) ends task (n + 1) = if (respP (lv.map (·.j)) ends n).2 = true ∧ (atI lv n).j.task = task ∧ ((worstN (lv.map (·.j)) ends task n).2.2 = false ∨ (worstN (lv.map (·.j)) ends task n).1 < (respP (lv.map (·.j)) ends n).1) then ((respP (lv.map (·.j)) ends n).1, (n : Int), true) else worstN (lv.map (·.j)) ends task n := by
      rw [← e3]; rfl
    generalize respP (lv.map (·.j)) ends n = r at *
    have Hw := Hid.mk hw
    generalize worstN (lv.map (·.j)) ends task n = p at *
    clear hw hs hsj hc e3
    obtain ⟨r1, r2⟩ := r
    obtain ⟨p1, p2, p3⟩ := p
    (repeat' (first | (with_reducible refine A1 (fun _ => ?_) (fun _ => ?_) <;> try (exfalso; omega)) | (with_reducible refine A3 (fun _ => ?_) (fun _ => ?_) <;> try (exfalso; omega)) | refine A5 (fun _ => ?_) (fun _ => ?_) | refine A6 (fun _ => ?_) (fun _ => ?_) | simp -dsimp (disch := omega) only [↓EA, EB, Nat.reduceEqDiff, Nat.reduceAdd, ↓reduceIte, reduceCtorEq, newCells, eq_self, *, hj'.ixs, hj'.lda, encN, hdJ, hp.le]))
    all_goals refine Next.mk (n + 1) ⟨hp.app' _, by omega, rfl, rfl, rfl, rfl, rfl, rfl, ?_, ?_, ?_⟩ (by omega)
    all_goals (rw [Hw.out]; split <;> simp_all [get] <;> omega)
  · have : n = lv.length := by omega
    subst this
    (repeat' (first | (with_reducible refine A3 (fun _ => ?_) (fun _ => ?_) <;> try (exfalso; omega)) | simp -dsimp (disch := omega) only [↓EA, EB, Nat.reduceEqDiff, ↓reduceIte, reduceCtorEq, eq_self, *]))
def missB (l : List Task) (jobs : List Job) (ends : List Int) (i : Int) : Prop := 0 ≤ (atI jobs i).task ∧ (atI jobs i).task < l.length ∧ ((respP jobs ends i).2 = false ∨ (atI l (atI jobs i).task).D < (respP jobs ends i).1)
instance (l : List Task) (jobs : List Job) (ends : List Int) (i : Int) : Decidable (missB l jobs ends i) := by unfold missB; infer_instance
def missN (l : List Task) (jobs : List Job) (ends : List Int) : Nat → List Int
  | 0 => []
  | n + 1 => if missB l jobs ends n then missN l jobs ends n ++ [(n : Int)] else missN l jobs ends n
theorem missN_len (l : List Task) (jobs : List Job) (ends : List Int) : ∀ n, (missN l jobs ends n).length ≤ n
  | 0 => by simp [missN]
  | n + 1 => by have := missN_len l jobs ends n; unfold missN; split <;> simp <;> omega
theorem misses (hE : Laid E) {h : Heap} {vl vj ve : Value} {l : List Task} {lv : List (NV Job)} {ends : List Int} (hl : Rd 7 encT h vl l) (hj : Rd 5 (encN hdJ) h vj lv) (hc : ∀ p ∈ lv, oneCell p.v = true) (he : Rd 1 encI h ve ends) (hs : Small ends) (hsj : SmallJ (lv.map (·.j))) (hn : lv.length ≤ 1099511627776) :
    ∃ v ys, callW E (.func (.func n_trace_Misses) #[] #[]) [vl, vj, ve] h = some (v, h ++ ys, []) ∧ Rd 1 encI (h ++ ys) v (missN l (lv.map (·.j)) ends lv.length) := by
  refine fn_new hE.trace_Misses rfl (Rd.movable flatI _) (by simp) ?_
  have few := hj.few
  have fewl := hl.few
  simp only [argsF]
  (repeat' simp -dsimp (disch := omega) only [↓EA, EB, Nat.reduceEqDiff, Nat.reduceAdd, ↓reduceIte, reduceCtorEq, eq_self, *, hj.len])
  refine WO.loop (fun n fr h' => Pre h h' ∧ n ≤ lv.length ∧ get fr 0 = vl ∧ get fr 1 = vj ∧ get fr 2 = ve ∧ get fr 12 = vj ∧ get fr 13 = .int .i64 lv.length ∧ get fr 14 = .int .i64 n ∧ OwnT h.length 1 encI h' (get fr 7) (missN l (lv.map (·.j)) ends n)) (fun n => lv.length - n) ?_ 0 ⟨Pre.refl _, Nat.zero_le _, rfl, rfl, rfl, rfl, rfl, rfl, OwnT.nil⟩
  rintro n fr h' ⟨hp, hn', g0, g1, g2, g13, g14, g15, ho⟩
  generalize hvo : get fr 7 = vo at ho
  unfold c_trace_Misses_l0
  rcases Nat.lt_or_ge n lv.length with hlt | hge
  · have hj' := hj.pre hp
    have hl' := hl.pre hp
    have hresp := fun x => response hE (hj'.app x) ((he.pre hp).app x) hs hsj n
    have hresp0 := response hE hj' (he.pre hp) hs hsj n
    have e3 : atI (lv.map (·.j)) (n : Int) = (atI lv n).j := (atI_map' (fun p : NV Job => p.j) lv n (by omega) (by omega)).symm
    have hone := hc _ (atI_mem (l := lv) (i := n) (by omega) (by omega))
    have hw : missN l (lv.map (·.j)) ends (n + 1) = if 0 ≤ (atI lv n).j.task ∧ (atI lv n).j.task < l.length ∧ ((respP (lv.map (·.j)) ends n).2 = false ∨ (atI l (atI lv n).j.task).D < (respP (lv.map (·.j)) ends n).1) then missN l (lv.map (·.j)) ends n ++ [(n : Int)] else missN l (lv.map (·.j)) ends n := by
      rw [← e3]; rfl
    have hml := missN_len l (lv.map (·.j)) ends n
    generalize respP (lv.map (·.j)) ends n = r at *
    generalize missN l (lv.map (·.j)) ends n = M at *
    obtain ⟨r1, r2⟩ := r
    cases r2
    all_goals
      simp only [true_or, false_or, and_true, Bool.true_eq_false] at hw
      have Hw := Hid.mk hw
      clear hw
    all_goals clear hs hsj hc e3
    all_goals (repeat' (first | (with_reducible refine A2 (fun _ => ?_) (fun _ => ?_) <;> try (exfalso; omega)) | (with_reducible refine A3 (fun _ => ?_) (fun _ => ?_) <;> try (exfalso; omega)) | simp -dsimp (disch := omega) only [↓EA, EB, Nat.reduceEqDiff, Nat.reduceAdd, Nat.reduceLeDiff, Nat.reduceMul, ↓reduceIte, reduceCtorEq, newCells, bslV, eq_self, *, hj'.ixs, hj'.lda, hl'.len, hl'.ixs, hl'.ldx, encN, hdJ, encT, hp.le]))
    all_goals first
      | (refine Next.mk (n + 1) ⟨hp.app' _, by omega, rfl, rfl, rfl, rfl, rfl, rfl, ?_⟩ (by omega)
         rw [Hw.out, if_neg (by omega)]; exact ho.app _)
      | (refine Next.mk (n + 1) ⟨hp, by omega, rfl, rfl, rfl, rfl, rfl, rfl, ?_⟩ (by omega)
         rw [Hw.out, if_neg (by omega)]; exact ho)
      | (refine wx_app1 (sz := 1) (bytes := 8) (ho.app _) (hp.app' _) (Nat.le_refl _) (by have := hp.le; simp; omega) (fun b hb => hb) (n : Int) (by simp -dsimp (disch := omega) only [EB, Nat.reduceMul, ↓reduceIte]; rfl) rfl (by decide) (by decide) (by omega) ?_
         intro v2 h2 k1 k2 k3 k4 k5
         clear k5
         (repeat' simp -dsimp (disch := omega) only [↓EA, EB, Nat.reduceEqDiff, ↓reduceIte, reduceCtorEq, eq_self, *])
         refine Next.mk (n + 1) ⟨k2, by omega, rfl, rfl, rfl, rfl, rfl, rfl, ?_⟩ (by omega)
         rw [Hw.out, if_pos (by omega)]; exact k1)
  · have : n = lv.length := by omega
    subst this
    (repeat' (first | (with_reducible refine A3 (fun _ => ?_) (fun _ => ?_) <;> try (exfalso; omega)) | simp -dsimp (disch := omega) only [↓EA, EB, Nat.reduceEqDiff, ↓reduceIte, reduceCtorEq, eq_self, *]))
    exact ⟨hp.ex, ho.rd⟩
end Go.L.Try

/- WHEN JOBS END: cadencyref11.Ends, trace.Ends. -/
set_option linter.unusedVariables false
set_option linter.unusedSimpArgs false
set_option maxRecDepth 100000
set_option maxHeartbeats 2000000
namespace Go.L.Try
open Go Go.L
variable {E : Env}
def SpansOk (l : List Span) : Prop := ∀ x ∈ l, (0 ≤ x.from' ∧ x.from' ≤ 35184372088832) ∧ 0 ≤ x.to' ∧ x.to' ≤ 35184372088832
def endStep (i : Int) (s : Int × Int) (x : Span) : Int × Int :=
  if x.job = i ∧ 0 < x.to' - x.from' ∧ s.2 < 0 then (s.1 - (x.to' - x.from'), if s.1 ≤ x.to' - x.from' then x.from' + s.1 else s.2) else s
def endSt (w i : Int) (l : List Span) : Int × Int := l.foldl (endStep i) (w, -1)
theorem endSt_snoc (w i : Int) (l : List Span) (x : Span) : endSt w i (l ++ [x]) = endStep i (endSt w i l) x := by simp [endSt]
theorem endSt_in {w i : Int} (hw : 1 ≤ w) : ∀ {l : List Span}, SpansOk l → (endSt w i l).1 ≤ w ∧ -35184372088832 ≤ (endSt w i l).1 ∧ -1 ≤ (endSt w i l).2 ∧ (endSt w i l).2 ≤ 70368744177664 ∧ ((endSt w i l).2 < 0 → 1 ≤ (endSt w i l).1) := by
  intro l h
  refine foldl_inv (fun s : Int × Int => s.1 ≤ w ∧ -35184372088832 ≤ s.1 ∧ -1 ≤ s.2 ∧ s.2 ≤ 70368744177664 ∧ (s.2 < 0 → 1 ≤ s.1)) (fun s x hx ih => ?_) ⟨Int.le_refl _, by simp only []; omega, by simp only []; omega, by simp only []; omega, fun _ => hw⟩
  have hx := h x hx
  unfold endStep
  split
  · split <;> simp only [] <;> omega
  · exact ih
def endsP (jobs : List Job) (l : List Span) : List Int := jobs.mapIdx fun i j => (endSt j.work i l).2
def endsN (jobs : List Job) (l : List Span) : Nat → List Int
  | 0 => []
  | n + 1 => endsN jobs l n ++ [(endSt (atI jobs (n : Int)).work n l).2]
theorem endsN_len (jobs : List Job) (l : List Span) : ∀ n, (endsN jobs l n).length = n
  | 0 => rfl
  | n + 1 => by simp [endsN, endsN_len jobs l n]
end Go.L.Try

/- WHEN JOBS END: trace.Ends. -/
set_option linter.unusedVariables false
set_option linter.unusedSimpArgs false
set_option maxRecDepth 100000
set_option maxHeartbeats 2000000
namespace Go.L.Try
open Go Go.L
variable {E : Env}
theorem endsN_at (jobs : List Job) (l : List Span) : ∀ {n i : Nat}, i < n → atI (endsN jobs l n) (i : Int) = (endSt (atI jobs (i : Int)).work i l).2
  | 0, i, h => by omega
  | n + 1, i, h => by
    have hl := endsN_len jobs l n
    by_cases e : i = n
    · subst e
      rw [endsN, atI_nat (by simp [hl])]
      rw [List.getElem_append_right (by omega)]; simp [hl]
    · have := endsN_at jobs l (n := n) (i := i) (by omega)
      rw [← this, endsN, atI_nat (by simp [hl]; omega), atI_nat (by omega : i < (endsN jobs l n).length), List.getElem_append_left (by omega)]
theorem endsN_upd {jobs : List Job} {l l' : List Span} {n k : Nat} (hk : k < n) (h : ∀ i : Nat, i < n → i ≠ k → (endSt (atI jobs (i : Int)).work i l').2 = (endSt (atI jobs (i : Int)).work i l).2) : endsN jobs l' n = (endsN jobs l n).set k (endSt (atI jobs (k : Int)).work k l').2 := by
  have h1 := endsN_len jobs l n
  have h2 := endsN_len jobs l' n
  apply List.ext_getElem
  · simp [h1, h2]
  · intro i h3 h4
    have e1 := endsN_at jobs l' (n := n) (i := i) (by omega)
    rw [atI_nat (by omega)] at e1
    rw [e1, List.getElem_set]
    by_cases e : k = i
    · subst e; rw [if_pos rfl]
    · rw [if_neg e, h i (by omega) (fun h => e h.symm)]
      have e2 := endsN_at jobs l (n := n) (i := i) (by omega)
      rw [atI_nat (by omega)] at e2; exact e2.symm
theorem endsN_same {jobs : List Job} {l l' : List Span} {n : Nat} (h : ∀ i : Nat, i < n → (endSt (atI jobs (i : Int)).work i l').2 = (endSt (atI jobs (i : Int)).work i l).2) : endsN jobs l' n = endsN jobs l n := by
  have h1 := endsN_len jobs l n
  have h2 := endsN_len jobs l' n
  apply List.ext_getElem
  · simp [h1, h2]
  · intro i h3 h4
    have e1 := endsN_at jobs l' (n := n) (i := i) (by omega)
    rw [atI_nat (by omega)] at e1
    have e2 := endsN_at jobs l (n := n) (i := i) (by omega)
    rw [atI_nat (by omega)] at e2
    rw [e1, e2, h i (by omega)]
theorem rep_set {n k : Nat} (h : k < n) (x y : Int) : (List.replicate k x ++ List.replicate (n - k) y).set k x = List.replicate (k + 1) x ++ List.replicate (n - (k + 1)) y := by
  rw [show n - k = (n - (k + 1)) + 1 by omega, List.replicate_succ, List.set_append_right _ _ (by simp), List.length_replicate, Nat.sub_self, List.set_cons_zero, List.replicate_succ', List.append_assoc]; rfl
theorem ends_l0 (hE : Laid E) {W : Nat → Prop} {h0 : Heap} {b n : Nat} (hW : W b) (hn : n ≤ 1099511627776) (hb : h0[b]? = some (icells (List.replicate n 0))) {v0 v1 v6 : Value} {Q : Ex → Fr → Heap → Prop} {fr : Fr}
    (g0 : get fr 0 = v0) (g1 : get fr 1 = v1) (g5 : get fr 5 = .slice (some ⟨b, 0, none⟩) n n) (g6 : get fr 6 = v6) (g17 : get fr 17 = .int .i64 n) (g18 : get fr 18 = .int .i64 0)
    (hq : ∀ fr', get fr' 0 = v0 → get fr' 1 = v1 → get fr' 5 = .slice (some ⟨b, 0, none⟩) n n → get fr' 6 = v6 → Q (.exit 0) fr' (h0.set b (icells (List.replicate n (-1))))) :
    WO W (iterW (code (callW E) iterW 88 c_trace_Ends_l0) fr h0) Q := by
  have hlt := (List.getElem?_eq_some_iff.1 hb).1
  have hfill : ∀ k, k ≤ n → (List.replicate k (-1 : Int) ++ List.replicate (n - k) 0).length = n := fun k hk => by simp; omega
  have hsame : h0 = h0.set b (icells (List.replicate 0 (-1 : Int) ++ List.replicate (n - 0) 0)) := by
    apply List.ext_getElem?
    intro j
    by_cases e : b = j
    · subst e; rw [List.getElem?_set_self hlt]; simpa using hb
    · rw [gets e]
  refine WO.loop (fun k fr h' => h' = h0.set b (icells (List.replicate k (-1 : Int) ++ List.replicate (n - k) 0)) ∧ k ≤ n ∧ get fr 0 = v0 ∧ get fr 1 = v1 ∧ get fr 5 = .slice (some ⟨b, 0, none⟩) n n ∧ get fr 6 = v6 ∧ get fr 17 = .int .i64 n ∧ get fr 18 = .int .i64 k) (fun k => n - k) ?_ 0 ⟨hsame, Nat.zero_le _, g0, g1, g5, g6, g17, g18⟩
  clear hsame
  rintro k fr h' ⟨rfl, hk, g0, g1, g5, g6, g17, g18⟩
  have hb1 : (h0.set b (icells (List.replicate k (-1 : Int) ++ List.replicate (n - k) 0)))[b]? = some (icells (List.replicate k (-1 : Int) ++ List.replicate (n - k) 0)) := List.getElem?_set_self hlt
  have hl1 := Hid.mk (hfill k hk)
  clear hfill
  unfold c_trace_Ends_l0
  rcases Nat.lt_or_ge k n with hlt' | hge
  · have hl2 := hl1.out
    have hst := fun (h : Heap) => ints_st (h := h) (b := b) (l := List.replicate k (-1 : Int) ++ List.replicate (n - k) 0) (i := k) (x := -1) (by omega) (by omega)
    clear hl2
    (repeat' (first | (with_reducible refine A3 (fun _ => ?_) (fun _ => ?_) <;> try (exfalso; omega)) | simp -dsimp (disch := omega) only [↓EA, EB, Nat.reduceEqDiff, ↓reduceIte, reduceCtorEq, eq_self, *, List.set_set]))
    refine Next.mk (k + 1) ⟨?_, by omega, rfl, rfl, rfl, rfl, rfl, rfl⟩ (by omega)
    rw [show ((k : Int)).toNat = k by omega, rep_set hlt']
  · have : k = n := by omega
    subst this
    simp only [Nat.sub_self, List.replicate_zero, List.append_nil] at *
    (repeat' (first | (with_reducible refine A3 (fun _ => ?_) (fun _ => ?_) <;> try (exfalso; omega)) | simp -dsimp (disch := omega) only [↓EA, EB, Nat.reduceEqDiff, ↓reduceIte, reduceCtorEq, eq_self, *]))
    exact hq _ rfl rfl rfl rfl
structure EndHeap (h h' : Heap) (jobs : List Job) (l : List Span) (es : List (Value × Value)) : Prop where
  pre : Pre h h'
  len : h.length + 2 ≤ h'.length
  out : h'[h.length]? = some (icells (endsN jobs l jobs.length))
  map : h'[h.length + 1]? = some (.map es)
  keys : IKeys .i64 es
  ran : ∀ i : Nat, i < jobs.length → (mapI .i64 es i).getD (.int .i64 0) = .int .i64 ((atI jobs (i : Int)).work - (endSt (atI jobs (i : Int)).work i l).1)
theorem EndHeap.go {h h' h2 : Heap} {jobs : List Job} {l l' : List Span} {es : List (Value × Value)} (e : EndHeap h h' jobs l es) (hp : ∀ b, b < h'.length → h2[b]? = h'[b]?) (hl : h'.length ≤ h2.length) (hs : ∀ i : Nat, i < jobs.length → endSt (atI jobs (i : Int)).work i l' = endSt (atI jobs (i : Int)).work i l) : EndHeap h h2 jobs l' es := by
  have h1 := e.len
  refine ⟨fun b o hb => ?_, by omega, ?_, ?_, e.keys, fun i hi => ?_⟩
  · have h3 := e.pre b o hb
    rw [hp b (List.getElem?_eq_some_iff.1 h3).1]; exact h3
  · rw [hp _ (by omega), endsN_same (l := l) fun i hi => by rw [hs i hi]]; exact e.out
  · rw [hp _ (by omega)]; exact e.map
  · rw [hs i hi]; exact e.ran i hi
theorem ends_l1 (hE : Laid E) {h : Heap} {vj vs : Value} {lv : List (NV Job)} {l : List Span} (hj : Rd 5 (encN hdJ) h vj lv) (hl : Rd 3 encS h vs l) (hok : SpansOk l) (hw : ∀ j ∈ lv.map (·.j), 1 ≤ j.work ∧ j.work ≤ 2147483647) (hn : lv.length ≤ 1099511627776) {h0 : Heap} (hh0 : EndHeap h h0 (lv.map (·.j)) [] []) {Q : Ex → Fr → Heap → Prop} {fr : Fr}
    (g0 : get fr 0 = vj) (g5 : get fr 5 = .slice (some ⟨h.length, 0, none⟩) lv.length lv.length) (g6 : get fr 6 = .map (some (h.length + 1))) (g25 : get fr 25 = vs) (g26 : get fr 26 = .int .i64 l.length) (g27 : get fr 27 = .int .i64 0)
    (hq : ∀ fr' h' es, get fr' 5 = .slice (some ⟨h.length, 0, none⟩) lv.length lv.length → EndHeap h h' (lv.map (·.j)) l es → Q (.exit 2) fr' h') :
    WO (fun b => h.length ≤ b) (iterW (code (callW E) iterW 88 c_trace_Ends_l1) fr h0) Q := by
  have few := hl.few
  have fewj := hj.few
  refine WO.loop (fun n fr h' => n ≤ l.length ∧ get fr 0 = vj ∧ get fr 5 = .slice (some ⟨h.length, 0, none⟩) lv.length lv.length ∧ get fr 6 = .map (some (h.length + 1)) ∧ get fr 25 = vs ∧ get fr 26 = .int .i64 l.length ∧ get fr 27 = .int .i64 n ∧ ∃ es, EndHeap h h' (lv.map (·.j)) (l.take n) es) (fun n => l.length - n) ?_ 0 ⟨Nat.zero_le _, g0, g5, g6, g25, g26, g27, [], hh0⟩
  clear hh0
  rintro n fr h' ⟨hn', g0, g5, g6, g25, g26, g27, es, hh⟩
  unfold c_trace_Ends_l1
  rcases Nat.lt_or_ge n l.length with hlt | hge
  · have hl' := hl.pre hh.pre
    have hj' := hj.pre hh.pre
    have hx := hok _ (atI_mem (l := l) (i := n) (by omega) (by omega))
    have hlen := hh.len
    have hout := hh.out
    have hmap := hh.map
    have hol := endsN_len (lv.map (·.j)) (l.take n) (lv.map (·.j)).length
    have hoat := fun i => endsN_at (lv.map (·.j)) (l.take n) (n := (lv.map (·.j)).length) (i := i)
    rw [List.length_map] at hol hoat hout
    have hsnoc := fun (w i : Int) => endSt_snoc w i (l.take n) (atI l (n : Int))
    rw [← take_snoc hlt] at hsnoc
    have Hsnoc := Hid.mk hsnoc
    have Hoat := Hid.mk hoat
    have hol1 : (endsN (lv.map (·.j)) (l.take n) lv.length).length ≤ lv.length := by omega
    have hol2 : lv.length ≤ (endsN (lv.map (·.j)) (l.take n) lv.length).length := by omega
    clear hsnoc hoat hq hol
    have hx0 : ∀ l : Heap, (h' ++ l)[h.length]? = h'[h.length]? := fun l => List.getElem?_append_left (by omega)
    have hx1 : ∀ l : Heap, (h' ++ l)[h.length + 1]? = h'[h.length + 1]? := fun l => List.getElem?_append_left (by omega)
    by_cases hjob : 0 ≤ (atI l (n : Int)).job ∧ (atI l (n : Int)).job < lv.length
    · obtain ⟨k, hk⟩ : ∃ k : Nat, (atI l (n : Int)).job = k := ⟨(atI l (n : Int)).job.toNat, by omega⟩
      have hkl : k < lv.length := by omega
      have hkm : k < (lv.map (·.j)).length := by simpa using hkl
      have e3 : atI (lv.map (·.j)) (k : Int) = (atI lv k).j := (atI_map' (fun p : NV Job => p.j) lv k (by omega) (by omega)).symm
      have hwk := hw _ (List.mem_map_of_mem (atI_mem (l := lv) (i := k) (by omega) (by omega)))
      have hi := endSt_in (i := k) hwk.1 (l := l.take n) fun y hy => hok y (List.mem_of_mem_take hy)
      have hran := hh.ran k hkm
      have hoat := Hoat.out k hkl
      have hs := Hsnoc.out (atI lv k).j.work k
      have hother : ∀ i : Nat, i < (List.map (fun x : NV Job => x.j) lv).length → i ≠ k → endSt (atI (List.map (fun x : NV Job => x.j) lv) (i : Int)).work i (l.take (n + 1)) = endSt (atI (List.map (fun x : NV Job => x.j) lv) (i : Int)).work i (l.take n) := fun i hi hik => by
        rw [Hsnoc.out, endStep, if_neg (by rw [hk]; omega)]
      rw [e3] at hran hoat
      unfold endStep at hs
      generalize hst : endSt (atI lv k).j.work k (l.take n) = s at *
      obtain ⟨s1, s2⟩ := s
      dsimp only at hi hran hoat
      obtain ⟨es', hp1, hp2, hp3⟩ := put_int (.int .i64 ((atI lv k).j.work - s1 + ((atI l (n : Int)).to' - (atI l (n : Int)).from'))) hh.keys (k : Int)
      have hlk := fun z n => lk_int hh.keys z n
      have hmp := fun h r => mp_int hp1 h r
      have Hs := Hid.mk hs
      have Hot := Hid.mk hother
      have Hp3 := Hid.mk hp3
      have Hst := Hid.mk hst
      have E3 := Hid.mk e3
      clear hs hother hp3 hst hok hw hjob e3
      (repeat' (first | (with_reducible refine A2 (fun _ => ?_) (fun _ => ?_) <;> try (exfalso; omega)) | (with_reducible refine A3 (fun _ => ?_) (fun _ => ?_) <;> try (exfalso; omega)) | simp -dsimp (disch := omega) only [↓EA, EB, Nat.reduceEqDiff, Nat.reduceAdd, ↓reduceIte, reduceCtorEq, newCells, eq_self, *, hl'.ixs, hl'.lda, hj'.len, hj'.ixs, hj'.ldx, encS, encN, hdJ, hh.pre.le]))
      all_goals first
        | (refine Next.mk (n + 1) ⟨by omega, rfl, rfl, rfl, rfl, rfl, rfl, es, hh.go (fun b hb => List.getElem?_append_left hb) (by simp) fun i hi => ?_⟩ (by omega)
           by_cases e : i = k
           · subst e; rw [E3.out, Hs.out, Hst.out, if_neg (by omega)]
           · exact Hot.out i hi e)
        | skip
      · refine Next.mk (n + 1) ⟨by omega, rfl, rfl, rfl, rfl, rfl, rfl, es', ⟨((hh.pre.app' _).set (by omega) _).set (by omega) _, by simp only [List.length_set, List.length_append]; omega, ?_, ?_, hp2, fun i hi => ?_⟩⟩ (by omega)
        · rw [gets (by omega), gset (by simp only [List.length_append]; omega), endsN_upd (l := l.take n) hkm fun i hi hik => by rw [Hot.out i hi hik]]
          rw [E3.out, Hs.out, if_pos (by omega), if_pos (by omega), List.length_map]
          rw [show (atI l (n : Int)).from' + ((atI lv (k : Int)).j.work - ((atI lv (k : Int)).j.work - s1)) = (atI l (n : Int)).from' + s1 by omega]
          rfl
        · exact gset (by simp only [List.length_set, List.length_append]; omega)
        · rw [Hp3.out]
          by_cases e : i = k
          · subst e
            rw [if_pos rfl, E3.out, Hs.out, if_pos (by omega)]
            show Value.int .i64 _ = Value.int .i64 _
            congr 1; dsimp only; omega
          · rw [if_neg (by omega), Hot.out i hi e]; exact hh.ran i hi
      · refine Next.mk (n + 1) ⟨by omega, rfl, rfl, rfl, rfl, rfl, rfl, es', ⟨(hh.pre.app' _).set (by omega) _, by simp only [List.length_set, List.length_append]; omega, ?_, ?_, hp2, fun i hi => ?_⟩⟩ (by omega)
        · rw [gets (by omega), hx0, endsN_same (l := l.take n) fun i hi => ?_]
          · exact hh.out
          · by_cases e : i = k
            · subst e; rw [E3.out, Hs.out, if_pos (by omega), if_neg (by omega), Hst.out]
            · rw [Hot.out i hi e]
        · exact gset (by simp only [List.length_append]; omega)
        · rw [Hp3.out]
          by_cases e : i = k
          · subst e
            rw [if_pos rfl, E3.out, Hs.out, if_pos (by omega)]
            show Value.int .i64 _ = Value.int .i64 _
            congr 1; dsimp only; omega
          · rw [if_neg (by omega), Hot.out i hi e]; exact hh.ran i hi
    · (repeat' (first | (with_reducible refine A2 (fun _ => ?_) (fun _ => ?_) <;> try (exfalso; omega)) | (with_reducible refine A3 (fun _ => ?_) (fun _ => ?_) <;> try (exfalso; omega)) | simp -dsimp (disch := omega) only [↓EA, EB, Nat.reduceEqDiff, Nat.reduceAdd, ↓reduceIte, reduceCtorEq, newCells, eq_self, *, hl'.ixs, hl'.lda, encS, hj.len, hh.pre.le]))
      all_goals
        refine Next.mk (n + 1) ⟨by omega, rfl, rfl, rfl, rfl, rfl, rfl, es, hh.go (fun b hb => List.getElem?_append_left hb) (by simp) fun i hi => ?_⟩ (by omega)
        rw [List.length_map] at hi
        rw [Hsnoc.out, endStep, if_neg (by omega)]
  · have e : l.take n = l := List.take_of_length_le (by omega)
    rw [e] at hh
    (repeat' (first | (with_reducible refine A3 (fun _ => ?_) (fun _ => ?_) <;> try (exfalso; omega)) | simp -dsimp (disch := omega) only [↓EA, EB, Nat.reduceEqDiff, ↓reduceIte, reduceCtorEq, eq_self, *]))
    exact hq _ _ es rfl hh
theorem ends (hE : Laid E) {h : Heap} {vj vs : Value} {lv : List (NV Job)} {l : List Span} (hj : Rd 5 (encN hdJ) h vj lv) (hl : Rd 3 encS h vs l) (hok : SpansOk l) (hw : ∀ j ∈ lv.map (·.j), 1 ≤ j.work ∧ j.work ≤ 2147483647) (hn : lv.length ≤ 1099511627776) :
    ∃ v ys, callW E (.func (.func n_trace_Ends) #[] #[]) [vj, vs] h = some (v, h ++ ys, []) ∧ Rd 1 encI (h ++ ys) v (endsN (lv.map (·.j)) l lv.length) := by
  refine fn_new hE.trace_Ends rfl (Rd.movable flatI _) (by simp) ?_
  have few := hj.few
  have fewl := hl.few
  have htn : ((lv.length : Int)).toNat = lv.length := by omega
  simp only [argsF]
  (repeat' simp -dsimp (disch := omega) only [↓EA, EB, Nat.reduceEqDiff, ↓reduceIte, reduceCtorEq, eq_self, *, hj.len])
  refine ends_l0 hE (b := h.length) (Nat.le_refl _) hn (by rw [geta0]; rfl) rfl rfl rfl rfl rfl rfl fun fr' g0 g1 g5 g6 => ?_
  (repeat' simp -dsimp (disch := omega) only [↓EA, EB, Nat.reduceEqDiff, ↓reduceIte, reduceCtorEq, eq_self, *, hl.len])
  refine ends_l1 hE hj hl hok hw hn ⟨Pre.app _ _, by simp, ?_, by rw [geta]; rfl, fun e he => by simp at he, fun i hi => by simp [mapI, endSt]⟩ rfl rfl rfl rfl rfl rfl fun fr' h' es q5 hh => ?_
  · rw [geta0]
    have : endsN (lv.map (·.j)) [] (lv.map (·.j)).length = List.replicate lv.length (-1) := by
      apply List.ext_getElem
      · simp [endsN_len]
      · intro i h1 h2
        have := endsN_at (lv.map (·.j)) [] (n := (lv.map (·.j)).length) (i := i) (by rw [endsN_len] at h1; exact h1)
        rw [atI_nat h1] at this
        rw [this]; simp [endSt]
    rw [this]; rfl
  · (repeat' simp -dsimp (disch := omega) only [↓EA, EB, ↓reduceIte, eq_self, *])
    have h1 := hh.out
    have h2 := endsN_len (lv.map (·.j)) l (lv.map (·.j)).length
    rw [List.length_map] at h1 h2
    exact ⟨hh.pre.ex, rd_ints h1 h2.symm (by rw [h2]; exact few) (by rw [h2]; exact Nat.le_refl _)⟩
end Go.L.Try

/- WHAT SPANS TELL OF ENDS (plain). -/
set_option linter.unusedVariables false
set_option linter.unusedSimpArgs false
set_option maxRecDepth 100000
set_option maxHeartbeats 1000000
namespace Go.L.Try
open Go Go.L
variable {l : List Task} {jobs : List Job} {R R' : RS} {T T' : Nat}
theorem EndAt.same (S : Script l jobs) {i e e' : Nat} (hi : i < jobs.length) (h : EndAt l jobs i e) (h' : EndAt l jobs i e') : e = e' := by
  have h1 := (h'.lt S hi e).1 ((h.lt S hi e).2 (Nat.le_refl _))
  have h2 := (h.lt S hi e').1 ((h'.lt S hi e').2 (Nat.le_refl _))
  omega
theorem endStep_other {i : Int} (s : Int × Int) {x : Span} (h : x.job ≠ i) : endStep i s x = s := by unfold endStep; rw [if_neg fun hh => h hh.1]
theorem spanEnds (S : Script l jobs) {i : Nat} (hi : i < jobs.length) : ∀ n, endSt (jb jobs i).work i (st l jobs n).L = ((jb jobs i).work - dn l jobs i n, atI (st l jobs n).ends (i : Int))
  | 0 => by
    have e : atI (st l jobs 0).ends (i : Int) = -1 := rep_at i hi
    rw [e, dn_zero hi, Int.sub_zero]; rfl
  | n + 1 => by
    have ih := spanEnds S hi n
    have hv := st_inv S n
    have hd := dn_succ S hi n
    have he := ends_at S hi n
    have hL := st_L S n
    have hends : atI (st l jobs (n + 1)).ends (i : Int) = if who l jobs n = i ∧ dn l jobs i n + 1 = (jb jobs i).work then (n : Int) + 1 else atI (st l jobs n).ends (i : Int) := by
      rcases step_cases S hv with ⟨h0, h⟩ | ⟨r, hr, hr2, hr3, h⟩
      · have hw : who l jobs n = -1 := h0
        rw [st_succ, h, hw, if_neg (by omega)]
      · have hw : who l jobs n = r := hr2
        rw [st_succ, h, work_ends (by rw [hv.elen]; exact hr), hw, st_t S]
        by_cases e : i = r
        · subst e
          have : atI (st l jobs n).done (i : Int) = dn l jobs i n := rfl
          rw [this]
          by_cases hf : dn l jobs i n + 1 = (jb jobs i).work
          · rw [if_pos ⟨rfl, hf⟩, if_pos ⟨rfl, hf⟩]
          · rw [if_neg fun h => hf h.2, if_neg fun h => hf h.2]
        · rw [if_neg fun h => e h.1, if_neg fun h => e (by omega)]
    rw [hends, hd, hL]
    rcases Int.lt_or_le (who l jobs n) 0 with hw | hw
    · rw [if_pos hw, if_neg (by omega), if_neg (by omega), Int.add_zero]; exact ih
    · rw [if_neg (by omega)]
      by_cases e : who l jobs n = i
      · obtain ⟨_, hlt⟩ := who_dn S e
        have hm1 := he.1 hlt
        rw [hm1] at ih
        rw [if_pos e, hm1, e]
        have hb := (dn_in S hi n).1
        rcases addTick_cases (st l jobs n).L i n with ⟨A, x, h1, h2, h3, h4⟩ | ⟨_, h4⟩
        · obtain ⟨xj, xf, xt⟩ := x
          dsimp only at h2 h3 h4
          subst h2 h3
          have hsp := (sp_ok S n).run ⟨i, xf, n⟩ (by rw [h1]; simp)
          obtain ⟨j', a', b', e', q1, _⟩ := hsp
          simp only [Span.mk.injEq] at e'
          rw [h1, endSt_snoc] at ih
          rw [h4, endSt_snoc]
          generalize endSt (jb jobs i).work i A = s at ih ⊢
          obtain ⟨s1, s2⟩ := s
          unfold endStep at ih ⊢
          dsimp only at ih ⊢
          by_cases hs : s2 < 0
          · rw [if_pos ⟨rfl, by omega, hs⟩] at ih
            rw [if_pos ⟨rfl, by omega, hs⟩]
            simp only [Prod.mk.injEq] at ih ⊢
            obtain ⟨i1, i2⟩ := ih
            rw [if_neg (by omega)] at i2
            refine ⟨by omega, ?_⟩
            by_cases hf : dn l jobs i n + 1 = (jb jobs i).work
            · rw [if_pos (by omega), if_pos ⟨trivial, hf⟩]; omega
            · rw [if_neg (by omega), if_neg fun h => hf h.2]; exact i2
          · rw [if_neg fun h => hs h.2.2] at ih
            simp only [Prod.mk.injEq] at ih
            omega
        · rw [h4, endSt_snoc, ih]
          unfold endStep
          dsimp only
          rw [if_pos ⟨rfl, by omega, by omega⟩]
          simp only [Prod.mk.injEq]
          refine ⟨by omega, ?_⟩
          by_cases hf : dn l jobs i n + 1 = (jb jobs i).work
          · rw [if_pos (by omega), if_pos ⟨trivial, hf⟩]; omega
          · rw [if_neg (by omega), if_neg fun h => hf h.2]
      · rw [if_neg e, if_neg fun h => e h.1, Int.add_zero, ← ih]
        rcases addTick_cases (st l jobs n).L (who l jobs n) n with ⟨A, x, h1, h2, h3, h4⟩ | ⟨_, h4⟩
        · rw [h4, h1, endSt_snoc, endSt_snoc, endStep_other _ (by dsimp only; omega), endStep_other _ (by omega)]
        · rw [h4, endSt_snoc, endStep_other _ (by dsimp only; omega)]
theorem endsN_get (jobs : List Job) (L : List Span) : ∀ {n i : Nat}, i < n → atI (endsN jobs L n) (i : Int) = (endSt (jb jobs i).work i L).2 := by
  intro n
  induction n with
  | zero => intro i h; omega
  | succ n ih =>
    intro i h
    have hl := endsN_len jobs L n
    have hl2 := endsN_len jobs L (n + 1)
    rw [atI_nat (by rw [hl2]; exact h)]
    simp only [endsN]
    by_cases e : i = n
    · subst e
      rw [List.getElem_append_right (by omega)]
      simp only [hl, Nat.sub_self, List.getElem_cons_zero]
    · rw [List.getElem_append_left (by rw [hl]; omega), ← atI_nat (by rw [hl]; omega)]
      exact ih (by omega)
theorem endsN_st (S : Script l jobs) (n : Nat) : endsN jobs (st l jobs n).L jobs.length = (st l jobs n).ends := by
  have hv := st_inv S n
  refine List.ext_getElem (by rw [endsN_len, hv.elen]) fun i h1 h2 => ?_
  rw [endsN_len] at h1
  have e1 := endsN_get jobs (st l jobs n).L h1
  rw [spanEnds S h1] at e1
  rw [atI_nat (by rw [endsN_len]; exact h1), atI_nat h2] at e1
  exact e1
theorem st_T {l : List Task} {jobs : List Job} (hb : legalB l jobs = true) (hs : sumWork jobs ≤ 1099511627776) {e : Int} {T : Nat} (h : untilP l jobs e (rsInit jobs.length) = st l jobs T) : (T : Int) ≤ 18693845155840 := by
  have S := script_of hb
  have h1 := (untilP_ind (e := e) S.ok (fun _ => True) (fun _ _ _ _ => trivial) (rsInit_inv jobs S.ok.work) trivial).1
  rw [h] at h1
  have h2 := h1.t1
  have h3 := h1.sum
  rw [st_t S] at h2
  unfold lastRel at h2
  omega
theorem spansOk_st (S : Script l jobs) {n : Nat} (hn : (n : Int) ≤ 18693845155840) : SpansOk (st l jobs n).L := fun x hx => by
  obtain ⟨j, a, b, e, h1, h2, _⟩ := (sp_ok S n).run x hx
  rw [e]
  dsimp only
  omega
structure CutAt (l : List Task) (jobs : List Job) (e : Int) (R : RS) : Prop where
  ok : SpansOk R.L
  elen : R.ends.length = jobs.length
  ends : endsN jobs R.L jobs.length = R.ends
  cut : ∀ {A : RS} {T : Nat}, RunAt l jobs A T → ∀ i : Nat, i < jobs.length → (atI A.ends (i : Int) ≤ e → atI R.ends (i : Int) = atI A.ends (i : Int)) ∧ (e < atI A.ends (i : Int) → atI R.ends (i : Int) = -1)
theorem cut_at (hb : legalB l jobs = true) (hs : sumWork jobs ≤ 1099511627776) {e : Int} (he : 0 ≤ e) : CutAt l jobs e (runU l jobs e) := by
  have S := script_of hb
  have hr : runU l jobs e = untilP l jobs e (rsInit jobs.length) := by
    unfold runU; rw [if_pos hb, show max e 0 = e by omega]
  obtain ⟨T, h1, h2, h3⟩ := until_st S (e := e)
  have hT := st_T hb hs h1
  rw [hr, h1]
  refine ⟨spansOk_st S hT, (st_inv S T).elen, endsN_st S T, fun {A T'} r i hi => ?_⟩
  obtain ⟨x, x1, x2, x3⟩ := r.ends i hi
  rw [x1]
  have hle := h3 he
  have hend := ends_at S hi T
  refine ⟨fun hx => ?_, fun hx => ?_⟩
  · -- done by then
    have hdone : dn l jobs i T = (jb jobs i).work := by
      rcases Int.lt_or_le 0 (st l jobs T).left with hl | hl
      · have hT2 : ¬ (T : Int) < e := fun h => h2 ⟨hl, .inr (by rw [st_t S]; exact h)⟩
        exact (x3.lt S hi T).2 (by omega)
      · have hd := (dn_in S hi T).2
        rcases Int.lt_or_le (dn l jobs i T) (jb jobs i).work with h4 | h4
        · exfalso
          have h5 := (untilP_ind (e := e) S.ok (fun _ => True) (fun _ _ _ _ => trivial) (rsInit_inv jobs S.ok.work) trivial).1
          rw [h1] at h5
          have := left_pos h5 hi h4
          omega
        · omega
    obtain ⟨y, y1, y2, y3⟩ := hend.2 hdone
    rw [y1, x3.same S hi y3]
  · refine hend.1 ?_
    have h5 := (dn_in S hi T).2
    rcases Int.lt_or_le (dn l jobs i T) (jb jobs i).work with h4 | h4
    · exact h4
    · have := (x3.lt S hi T).1 (by omega)
      omega
end Go.L.Try

/- RESPONSES, THE WORST ONES, MISSES, of a run (plain). -/
set_option linter.unusedVariables false
set_option linter.unusedSimpArgs false
set_option maxRecDepth 100000
set_option maxHeartbeats 1000000
namespace Go.L.Try
open Go Go.L
theorem worst_of {jobs : List Job} {ends : List Int} {t : Int} (hr : ∀ i : Nat, i < jobs.length → (respP jobs ends (i : Int)).2 = true) : ∀ n, n ≤ jobs.length →
    (∀ i : Nat, i < n → (jb jobs i).task = t → (worstN jobs ends t n).2.2 = true ∧ (respP jobs ends (i : Int)).1 ≤ (worstN jobs ends t n).1) ∧ ((worstN jobs ends t n).2.2 = true → (0 ≤ (worstN jobs ends t n).2.1 ∧ (worstN jobs ends t n).2.1 < n) ∧ (atI jobs (worstN jobs ends t n).2.1).task = t)
  | 0, _ => ⟨fun i hi => by omega, fun h => by cases h⟩
  | n + 1, hn => by
    obtain ⟨h1, h2⟩ := worst_of hr n (by omega)
    have h3 := hr n (by omega)
    unfold worstN
    split
    · rename_i hc
      refine ⟨fun i hi ht => ⟨rfl, ?_⟩, fun _ => ⟨⟨by dsimp only; omega, by dsimp only; omega⟩, hc.2.1⟩⟩
      by_cases e : i = n
      · subst e; exact Int.le_refl _
      · obtain ⟨a, b⟩ := h1 i (by omega) ht
        rcases hc.2.2 with h4 | h4
        · rw [a] at h4; cases h4
        · dsimp only; omega
    · rename_i hc
      refine ⟨fun i hi ht => ?_, fun h => ?_⟩
      · by_cases e : i = n
        · subst e
          have h4 : ¬ ((worstN jobs ends t i).2.2 = false ∨ (worstN jobs ends t i).1 < (respP jobs ends (i : Int)).1) := fun h => hc ⟨h3, ht, h⟩
          refine ⟨?_, ?_⟩
          · cases hw : (worstN jobs ends t i).2.2 with
            | true => rfl
            | false => exact absurd (.inl hw) h4
          · rcases Int.lt_or_le (worstN jobs ends t i).1 (respP jobs ends (i : Int)).1 with h5 | h5
            · exact absurd (.inr h5) h4
            · exact h5
        · exact h1 i (by omega) ht
      · have := h2 h
        exact ⟨⟨this.1.1, by omega⟩, this.2⟩
theorem missN_pre (l : List Task) (jobs : List Job) (ends : List Int) (n : Nat) : ∀ k, ∃ r, missN l jobs ends (n + k) = missN l jobs ends n ++ r
  | 0 => ⟨[], by simp⟩
  | k + 1 => by
    obtain ⟨r, h⟩ := missN_pre l jobs ends n k
    have e : missN l jobs ends (n + k + 1) = if missB l jobs ends ((n + k : Nat) : Int) then missN l jobs ends (n + k) ++ [((n + k : Nat) : Int)] else missN l jobs ends (n + k) := rfl
    rw [← Nat.add_assoc, e]
    split
    · exact ⟨r ++ [((n + k : Nat) : Int)], by rw [h, List.append_assoc]⟩
    · exact ⟨r, h⟩
theorem missN_in (l : List Task) (jobs : List Job) (ends : List Int) {n m : Nat} (h : n < m) (hb : missB l jobs ends n) : (missN l jobs ends n).length < (missN l jobs ends m).length ∧ atI (missN l jobs ends m) ((missN l jobs ends n).length : Int) = n := by
  obtain ⟨r, h1⟩ := missN_pre l jobs ends (n + 1) (m - (n + 1))
  rw [show n + 1 + (m - (n + 1)) = m by omega] at h1
  have h2 : missN l jobs ends (n + 1) = missN l jobs ends n ++ [(n : Int)] := by rw [missN, if_pos hb]
  rw [h2, List.append_assoc] at h1
  have hl : (missN l jobs ends n).length < (missN l jobs ends m).length := by rw [h1]; simp
  refine ⟨hl, ?_⟩
  rw [atI_nat hl]
  simp only [h1]
  rw [List.getElem_append_right (Nat.le_refl _)]
  simp
structure RunsAt (l : List Task) (jobs : List Job) (ends : List Int) (n : Nat) : Prop where
  resp : respP jobs ends (n : Int) = (atI ends (n : Int) - (jb jobs n).arrive, true)
  work : (jb jobs n).work ≤ atI ends (n : Int) - (jb jobs n).arrive
  is : (worstN jobs ends (jb jobs n).task jobs.length).2.2 = true
  ge : atI ends (n : Int) - (jb jobs n).arrive ≤ (worstN jobs ends (jb jobs n).task jobs.length).1
  pl : 0 ≤ (worstN jobs ends (jb jobs n).task jobs.length).2.1 ∧ (worstN jobs ends (jb jobs n).task jobs.length).2.1 < jobs.length
  task : (atI jobs (worstN jobs ends (jb jobs n).task jobs.length).2.1).task = (jb jobs n).task
  miss : missB l jobs ends (n : Int) ↔ (atI l (jb jobs n).task).D < atI ends (n : Int) - (jb jobs n).arrive
theorem runs_at {l : List Task} {jobs : List Job} {R : RS} {T : Nat} (hb : legalB l jobs = true) (r : RunAt l jobs R T) {n : Nat} (hn : n < jobs.length) : RunsAt l jobs R.ends n := by
  have S := script_of hb
  have hr : ∀ i : Nat, i < jobs.length → respP jobs R.ends (i : Int) = (atI R.ends (i : Int) - (jb jobs i).arrive, true) := fun i hi => by
    obtain ⟨e, e1, _, _⟩ := r.ends i hi
    unfold respP
    rw [if_pos ⟨by omega, by omega, by rw [r.elen]; omega, by omega⟩]
  have hw := worst_of (t := (jb jobs n).task) (fun i hi => by rw [hr i hi]) jobs.length (Nat.le_refl _)
  obtain ⟨w1, w2⟩ := hw.1 n hn rfl
  obtain ⟨w3, w4⟩ := hw.2 w1
  have hj := jobOK_of hb hn
  have h5 := works_end S r hn
  have h6 := hj.release.1
  rw [hr n hn] at w2
  refine ⟨hr n hn, by omega, w1, w2, w3, w4, ?_⟩
  unfold missB
  rw [hr n hn]
  dsimp only
  constructor
  · rintro ⟨_, _, h | h⟩
    · cases h
    · exact h
  · intro h
    exact ⟨hj.task.1, hj.task.2, .inr h⟩
end Go.L.Try

/- TraceRuns: what is told of a run. -/
set_option linter.unusedVariables false
set_option linter.unusedSimpArgs false
set_option maxRecDepth 100000
set_option maxHeartbeats 2000000
namespace Go.L.Try
open Go Go.L
variable {E : Env}
theorem sameTicks10 (hE : Laid E) {h : Heap} {va vb : Value} {a b : List Int} (ha : Rd 1 encI h va a) (hb : Rd 1 encI h vb b) :
    callW E (.func (.func n_cadencyref10_SameTicks) #[] #[]) [va, vb] h = some (.bool (decide (a = b)), h, []) := by
  refine fn_same hE.cadencyref10_SameTicks rfl (by simp) ?_
  have few := ha.few
  have few2 := hb.few
  simp only [argsF]
  (repeat' (first | (with_reducible refine A3 (fun _ => ?_) (fun _ => ?_) <;> try (exfalso; omega)) | simp -dsimp (disch := omega) only [↓EA, EB, Nat.reduceEqDiff, ↓reduceIte, reduceCtorEq, eq_self, *, ha.len, hb.len]))
  · have : a ≠ b := fun e => by subst e; simp_all
    simp [this]
  · have hn1 : a.length ≤ b.length := by omega
    have hn2 : b.length ≤ a.length := by omega
    refine WO.loop (fun n fr h' => h' = h ∧ n ≤ a.length ∧ get fr 0 = va ∧ get fr 1 = vb ∧ get fr 5 = .int .i64 n ∧ a.take n = b.take n) (fun n => a.length - n) ?_ 0 ⟨rfl, Nat.zero_le _, rfl, rfl, rfl, rfl⟩
    rintro n fr h' ⟨rfl, hn, g0, g1, g5, ht⟩
    have Ht := Hid.mk ht
    clear ht
    unfold c_cadencyref10_SameTicks_l0
    rcases Nat.lt_or_ge n a.length with hlt | hge
    · (repeat' (first | (with_reducible refine A3 (fun _ => ?_) (fun _ => ?_) <;> try (exfalso; omega)) | simp -dsimp (disch := omega) only [↓EA, EB, Nat.reduceEqDiff, ↓reduceIte, reduceCtorEq, eq_self, *, ha.len, ha.ixs, ha.ld0, hb.ixs, hb.ld0, encI]))
      · have : a ≠ b := fun e => by subst e; simp_all
        simp [this]
      · refine Next.mk (n + 1) ⟨rfl, by omega, rfl, rfl, rfl, ?_⟩ (by omega)
        rw [take_snoc hlt, take_snoc (by omega), Ht.out]
        simp_all
    · have : a = b := by
        have := Ht.out
        rwa [List.take_of_length_le (by omega), List.take_of_length_le (by omega)] at this
      (repeat' (first | (with_reducible refine A3 (fun _ => ?_) (fun _ => ?_) <;> try (exfalso; omega)) | simp -dsimp (disch := omega) only [↓EA, EB, Nat.reduceEqDiff, ↓reduceIte, reduceCtorEq, eq_self, *, ha.len]))
theorem RdJ.open2 {h : Heap} {v : Value} {jobs : List Job} (r : RdJ h v jobs) : ∃ jl : List (NV Job), jobs = jl.map NV.j ∧ Rd 5 (encN hdJ) h v jl ∧ ∀ p ∈ jl, Rd 1 encI h p.v p.j.cuts := by
  obtain ⟨jl, h1, h2, h3⟩ := r.is
  exact ⟨jl, h1.symm, h2, h3⟩
theorem traceRuns (hE : Laid E) (ha : ∀ h, callW E (.func (.func n_cadencylaw11_awake) #[] #[]) [] h = some (.bool true, h, [])) {h : Heap} {vl vr : Value} {l : List Spec} {raw : List Raw} {turn : Int} (hl : Rd 5 encSp h vl l) (hr : RdR h vr raw) (ht : i64in turn) :
    callW E (.func (.func n_cadencylaw11_TraceRuns) #[] #[]) [vl, vr, .int .i64 turn] h = some (.bool true, h, []) := by
  refine fn_same hE.cadencylaw11_TraceRuns rfl (by simp) ?_
  simp only [argsF]
  (repeat' simp -dsimp (disch := omega) only [↓EA, EB, Nat.reduceEqDiff, Nat.reduceAdd, ↓reduceIte, reduceCtorEq, eq_self, *])
  refine wx_new (set04 hE hl (most := 5) (by decide) (by decide) ht) fun v1 ys r1 p1 => ?_
  have P1 := p1
  generalize _ ++ ys = H1 at r1 p1 P1 ⊢
  have hv := setP_valid l (most := 5) turn (by decide) (by decide)
  have hsl := setP_len l (most := 5) (turn := turn) (by decide)
  have hsm := fun t ht => setP_small (l := l) (most := 5) (turn := turn) (t := t) (by decide) (by decide) ht
  generalize setP l 5 turn = s at *
  have hnm : ∀ t ∈ s, t.name.size < 1152921504606846976 := fun t ht => by have := (hsm t ht).name; omega
  have o1 := r1.one
  have c1 := r1.cv
  clear p1
  (repeat' simp -dsimp (disch := omega) only [↓EA, EB, Nat.reduceEqDiff, ↓reduceIte, reduceCtorEq, eq_self, *])
  refine wx_new (few08 hE (hr.pre P1) (most := 10) (by decide) (by decide)) fun v2 ys r2 p2 => ?_
  have P2 := P1.trans p2
  replace r1 := r1.pre p2
  generalize _ ++ ys = H2 at r2 p2 P2 r1 ⊢
  clear p2 P1
  generalize hraw : List.map fewOf (List.take (10 : Int).toNat raw) = rw8 at *
  have hraw8 : rw8.length ≤ 10 := by rw [← hraw, List.length_map, List.length_take]; omega
  clear hraw
  (repeat' simp -dsimp (disch := omega) only [↓EA, EB, Nat.reduceEqDiff, ↓reduceIte, eq_self, *])
  refine wx_new (decode08 hE r1 hnm r2) fun v3 ys r3 p3 => ?_
  have P3 := P2.trans p3
  replace r1 := r1.pre p3
  generalize _ ++ ys = H3 at r3 p3 P3 r1 ⊢
  have sj := decode_small hv hsm rw8 hraw8 (by decide)
  clear p3 P2 r2
  generalize decodeP s rw8 = jobs at *
  have hsum : sumWork jobs ≤ 1099511627776 := by have := sj.sum; omega
  have hjl := sj.len
  have SJ := Hid.mk sj
  clear sj
  obtain ⟨jl, hjl2, hj, hcuts⟩ := RdJ.open2 r3
  have hlen : jl.length ≤ 10 := by rw [hjl2, List.length_map] at hjl; exact hjl
  have hjlen : jobs.length = jl.length := by rw [hjl2, List.length_map]
  have hW0 := P3.le
  have Hone := Hid.mk (fun p hp => (hcuts p hp).one : ∀ p ∈ jl, oneCell p.v = true)
  have Hjl2 := Hid.mk hjl2
  clear hjl2 hcuts
  have hrun := runX hE r1 hnm r3 (by omega) hsum
  (repeat' simp -dsimp (disch := omega) only [↓EA, EB, Nat.reduceEqDiff, ↓reduceIte, eq_self, *])
  refine wx_new (hrun) fun v5 ys r5 p5 => ?_
  have P5 := (P3).trans p5
  generalize _ ++ ys = H5 at r5 p5 P5 ⊢
  obtain ⟨vs, rfl, hv5⟩ := r5
  rcases hv5 with _ | @⟨_, _, va5, _, ra5, _ | @⟨_, _, vb5, _, rb5, _ | _⟩⟩
  have na5 := Rd.nt ra5.1
  have nb5 := Rd.nt rb5.1
  have oa5 := ra5.1.one
  have ob5 := rb5.1.one
  have ca5 := ra5.1.cv
  have cb5 := rb5.1.cv
  have r15 := r1.pre p5
  have hj5 := hj.pre p5
  have ra5' := ra5.1
  have rb5' := rb5.1
  clear p5 hrun
  obtain ⟨T, R⟩ := runU_at SJ.out.legal hsum
  have S := script_of SJ.out.legal
  have hT : (T : Int) ≤ 18693845155840 := st_T SJ.out.legal hsum (by rw [← runU_is SJ.out.legal hsum]; exact R.is)
  have hok : SpansOk (runU s jobs 9223372036854775807).L := by rw [R.is]; exact spansOk_st S hT
  have hends : endsN (jl.map (·.j)) (runU s jobs 9223372036854775807).L jl.length = (runU s jobs 9223372036854775807).ends := by rw [show jl.map (·.j) = jobs from Hjl2.out.symm, ← hjlen, R.is]; exact endsN_st S T
  have hel := R.elen
  have hra := fun i hi => runs_at SJ.out.legal R (n := i) hi
  have hen := fun i hi => works_end S R (k := i) hi
  have hsm2 : Small (runU s jobs 9223372036854775807).ends := fun e he => by
    obtain ⟨i, hi, rfl⟩ := List.getElem_of_mem he
    have h1 := hen i (by omega)
    have h2 := jobOK_of SJ.out.legal (show i < jobs.length by omega)
    have h3 := h2.release
    have h4 := h2.arrive
    have h5 := h2.work
    rw [atI_nat hi] at h1
    omega
  have hsj : SmallJ (jl.map (·.j)) := fun j hj => by
    rw [show jl.map (·.j) = jobs from Hjl2.out.symm] at hj
    have := SJ.out.small j hj; omega
  have hcall := ends hE hj5 ra5' hok (fun j hj => by rw [show jl.map (·.j) = jobs from Hjl2.out.symm] at hj; have := (SJ.out.work j hj); omega) (by omega)
  rw [hends] at hcall
  generalize runU s jobs 9223372036854775807 = rs at *
  have HF := Hid.mk (And.intro hra hen)
  have HEl := Hid.mk hel
  clear hra hel R S hok hends hen ra5 rb5 hj
  (repeat' simp -dsimp (disch := omega) only [↓EA, EB, Nat.reduceEqDiff, ↓reduceIte, eq_self, *])
  refine wx_new hcall fun v6 ys r6 p6 => ?_
  have hW5 := P5.le
  generalize _ ++ ys = H6 at r6 p6 ⊢
  have o6 := r6.one
  have c6 := r6.cv
  have rb56 := rb5'.pre p6
  have hj6 := hj5.pre p6
  have r16 := r15.pre p6
  have hW6 := p6.le
  clear hcall p6
  have hsame := sameTicks10 hE r6 rb56
  rw [decide_eq_true rfl] at hsame
  have hmiss := misses hE r16 hj6 Hone.out rb56 hsm2 hsj (by omega)
  rw [show jl.map (·.j) = jobs from Hjl2.out.symm, ← hjlen] at hmiss
  have hresp : ∀ n : Nat, n < jobs.length → ∀ H, Pre H6 H → callW E (.func (.func n_trace_Response) #[] #[]) [v3, vb5, .int .i64 n] H = some (.tuple #[.int .i64 (atI rs.ends (n : Int) - (jb jobs n).arrive), .bool true], H, []) := fun n hn H hp => by
    have h1 := response hE (hj6.pre hp) (rb56.pre hp) hsm2 hsj n
    rw [show jl.map (·.j) = jobs from Hjl2.out.symm, (HF.out.1 n hn).resp] at h1
    exact h1
  have hworst : ∀ t : Int, ∀ H, Pre H6 H → callW E (.func (.func n_trace_Worst) #[] #[]) [v3, vb5, .int .i64 t] H = some (.tuple #[.int .i64 (worstN jobs rs.ends t jobs.length).1, .int .i64 (worstN jobs rs.ends t jobs.length).2.1, .bool (worstN jobs rs.ends t jobs.length).2.2], H, []) := fun t H hp => by
    have h1 := worst hE (hj6.pre hp) Hone.out (rb56.pre hp) hsm2 hsj t
    rw [show jl.map (·.j) = jobs from Hjl2.out.symm, ← hjlen] at h1
    exact h1
  have HR := Hid.mk (And.intro hresp hworst)
  clear hresp hworst
  (repeat' simp -dsimp (disch := omega) only [↓EA, EB, Nat.reduceEqDiff, ↓reduceIte, eq_self, *])
  refine wx_new hmiss fun v7 ys r7 p7 => ?_
  generalize _ ++ ys = H7 at r7 p7 ⊢
  have o7 := r7.one
  have c7 := r7.cv
  have few7 := r7.few
  have hj7 := hj6.pre p7
  have r17 := r16.pre p7
  have hW7 := p7.le
  have hml := missN_len s jobs rs.ends jobs.length
  have P7 := Hid.mk p7
  have HL := Hid.mk hjlen
  have hjl1 : jobs.length ≤ jl.length := by omega
  have hjl3 : jl.length ≤ jobs.length := by omega
  have hl3 : lensV false v3 = some (.int .i64 jobs.length) := by rw [hj7.len, hjlen]
  clear hmiss p7 hsame hj5 hj6 r15 r16 hjlen
  (repeat' simp -dsimp (disch := omega) only [↓EA, EB, Nat.reduceEqDiff, ↓reduceIte, eq_self, *])
  refine WO.loop (fun (n : Nat) fr h' => h' = H7 ∧ n ≤ jobs.length ∧ get fr 7 = .bool true ∧ get fr 8 = v1 ∧ get fr 9 = v3 ∧ get fr 11 = vb5 ∧ get fr 12 = .bool true ∧ get fr 13 = v7 ∧ get fr 14 = .int .i64 (missN s jobs rs.ends n).length ∧ get fr 15 = .int .i64 n) (fun n => jobs.length - n) ?_ 0 ⟨rfl, Nat.zero_le _, rfl, rfl, rfl, rfl, rfl, rfl, rfl, rfl⟩
  rintro n fr h' ⟨rfl, hn, g7, g8, g9, g11, g12, g13, g14, g15⟩
  unfold c_cadencylaw11_TraceRuns_l0
  have hml2 := missN_len s jobs rs.ends n
  by_cases hnj : n < jobs.length
  · have A := HF.out.1 n hnj
    have hn3 : (n : Int) < jl.length ∧ (n : Int) < jobs.length := by omega
    have e3 : (atI jl (n : Int)).j = jb jobs n := by
      show _ = atI jobs (n : Int)
      rw [Hjl2.out]; exact atI_map' NV.j jl (n : Int) (by omega) (by omega)
    have hresp := HR.out.1 n hnj h' P7.out
    have hworst := HR.out.2 (jb jobs n).task h' P7.out
    have hjk := jobOK_of SJ.out.legal hnj
    have htk := hjk.task
    have hDs := (hsm _ (atI_mem htk.1 htk.2)).D
    have hms : missN s jobs rs.ends (n + 1) = if missB s jobs rs.ends n then missN s jobs rs.ends n ++ [(n : Int)] else missN s jobs rs.ends n := rfl
    have hmi := fun h => missN_in s jobs rs.ends hnj h
    have a1 := A.work
    have a2 := A.is
    have a3 := A.ge
    have a4 := A.pl
    have a5 := A.task
    have a6 := A.miss
    generalize worstN jobs rs.ends (jb jobs n).task jobs.length = w at *
    obtain ⟨w1, w2, w3⟩ := w
    dsimp only at a2 a3 a4 a5 hworst
    subst a2
    have e4 : (atI jl w2).j = atI jobs w2 := by
      rw [Hjl2.out]; exact atI_map' NV.j jl w2 (by omega) (by omega)
    have hw2 : w2 < jl.length := by omega
    generalize hrr : atI rs.ends (n : Int) - (jb jobs n).arrive = r at *
    have hk : ∀ x : Int, (x = x) = True := fun x => by simp
    clear A hjk hrr
    by_cases hc : (atI s (jb jobs n).task).D < r
    · have hb := a6.2 hc
      obtain ⟨m1, m2⟩ := hmi hb
      rw [if_pos hb] at hms
      have hm3 : ((missN s jobs rs.ends n).length : Int) < (missN s jobs rs.ends jobs.length).length := by omega
      have HB := Hid.mk (And.intro hms (And.intro a6 hmi))
      clear hms a6 hmi
      (repeat' (first | (with_reducible refine A2 (fun _ => ?_) (fun _ => ?_) <;> try (exfalso; omega)) | simp -dsimp (disch := omega) only [↓EA, EB, Nat.reduceEqDiff, ↓reduceIte, eq_self, *, hj7.len, hj7.ixs, hj7.ld, hj7.ld0, r17.ixs, r17.ld, r7.len, r7.ixs, r7.ld0, encN, hdJ, encT, encI]))
      exact Next.mk (n + 1) ⟨rfl, by omega, rfl, rfl, rfl, rfl, rfl, rfl, by simp only [get]; rw [HB.out.1, List.length_append]; simp, by simp only [get]; simp⟩ (by omega)
    · have hb : ¬ missB s jobs rs.ends n := fun h => hc (a6.1 h)
      rw [if_neg hb] at hms
      have HB := Hid.mk (And.intro hms (And.intro a6 hmi))
      clear hms a6 hmi
      (repeat' (first | (with_reducible refine A2 (fun _ => ?_) (fun _ => ?_) <;> try (exfalso; omega)) | simp -dsimp (disch := omega) only [↓EA, EB, Nat.reduceEqDiff, ↓reduceIte, eq_self, *, hj7.len, hj7.ixs, hj7.ld, hj7.ld0, r17.ixs, r17.ld, encN, hdJ, encT]))
      exact Next.mk (n + 1) ⟨rfl, by omega, rfl, rfl, rfl, rfl, rfl, rfl, by simp only [get]; rw [HB.out.1]; simp, by simp only [get]; simp⟩ (by omega)
  · have hn3 : ¬ (n : Int) < jobs.length := by omega
    have hnn : n = jobs.length := by omega
    (repeat' (first | (with_reducible refine A3 (fun _ => ?_) (fun _ => ?_) <;> try (exfalso; omega)) | simp -dsimp (disch := omega) only [↓EA, EB, Nat.reduceEqDiff, ↓reduceIte, eq_self, *, r7.len]))
end Go.L.Try
