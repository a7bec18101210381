/- WHEN JOBS END: cadencyref11.Ends, trace.Ends. -/
import Derived.Test.YtkfkdhgnddcfdaaPa
import Derived.Test.YtkfkdhgnddcfdaaPg
import Derived.Test.YtkfkdhgnddcfdaaPh
set_option linter.unusedVariables false
set_option linter.unusedSimpArgs false
set_option maxRecDepth 100000
set_option maxHeartbeats 2000000
namespace Go.L.Try
open Go Go.L
variable {E : Env}
def SpansOk (l : List Span) : Prop := ∀ x ∈ l, (0 ≤ x.from' ∧ x.from' ≤ 35184372088832) ∧ 0 ≤ x.to' ∧ x.to' ≤ 35184372088832
def endStep (i : Int) (s : Int × Int) (x : Span) : Int × Int :=
  if x.job = i ∧ 0 < x.to' - x.from' ∧ s.2 < 0 then (s.1 - (x.to' - x.from'), if s.1 ≤ x.to' - x.from' then x.from' + s.1 else s.2) else s
def endSt (w i : Int) (l : List Span) : Int × Int := l.foldl (endStep i) (w, -1)
theorem endSt_snoc (w i : Int) (l : List Span) (x : Span) : endSt w i (l ++ [x]) = endStep i (endSt w i l) x := by simp [endSt]
theorem endSt_in {w i : Int} (hw : 1 ≤ w) : ∀ {l : List Span}, SpansOk l → (endSt w i l).1 ≤ w ∧ -35184372088832 ≤ (endSt w i l).1 ∧ -1 ≤ (endSt w i l).2 ∧ (endSt w i l).2 ≤ 70368744177664 ∧ ((endSt w i l).2 < 0 → 1 ≤ (endSt w i l).1) := by
  intro l h
  refine foldl_inv (fun s : Int × Int => s.1 ≤ w ∧ -35184372088832 ≤ s.1 ∧ -1 ≤ s.2 ∧ s.2 ≤ 70368744177664 ∧ (s.2 < 0 → 1 ≤ s.1)) (fun s x hx ih => ?_) ⟨Int.le_refl _, by simp only []; omega, by simp only []; omega, by simp only []; omega, fun _ => hw⟩
  have hx := h x hx
  unfold endStep
  split
  · split <;> simp only [] <;> omega
  · exact ih
def endsP (jobs : List Job) (l : List Span) : List Int := jobs.mapIdx fun i j => (endSt j.work i l).2
def endsN (jobs : List Job) (l : List Span) : Nat → List Int
  | 0 => []
  | n + 1 => endsN jobs l n ++ [(endSt (atI jobs (n : Int)).work n l).2]
theorem endsN_len (jobs : List Job) (l : List Span) : ∀ n, (endsN jobs l n).length = n
  | 0 => rfl
  | n + 1 => by simp [endsN, endsN_len jobs l n]
end Go.L.Try

/- BUSY ROWS: trace.Busy, Long; cadencyref11.Busy. -/
set_option linter.unusedVariables false
set_option linter.unusedSimpArgs false
set_option maxRecDepth 100000
set_option maxHeartbeats 2000000
namespace Go.L.Try
open Go Go.L
variable {E : Env}
def runTo (t : Int) : List Span → Int × List Span
  | [] => (t, [])
  | x :: r => if x.from' = t then runTo x.to' r else (t, x :: r)
theorem runTo_len : ∀ (l : List Span) (t : Int), (runTo t l).2.length ≤ l.length
  | [], t => by simp [runTo]
  | x :: r, t => by
    unfold runTo; split
    · have := runTo_len r x.to'; simp; omega
    · simp
def yN : Nat → List Span → List (Int × Int)
  | 0, _ => []
  | _ + 1, [] => []
  | n + 1, x :: r => (x.from', (runTo x.to' r).1) :: yN n (runTo x.to' r).2
theorem yN_more : ∀ {n m : Nat} {l : List Span}, l.length ≤ n → l.length ≤ m → yN n l = yN m l
  | 0, 0, _, _, _ => rfl
  | 0, m + 1, [], _, _ => rfl
  | 0, m + 1, _ :: _, h, _ => by simp at h
  | n + 1, 0, [], _, _ => rfl
  | n + 1, 0, _ :: _, _, h => by simp at h
  | n + 1, m + 1, [], _, _ => rfl
  | n + 1, m + 1, x :: r, h1, h2 => by
    have := runTo_len r x.to'
    simp only [List.length_cons] at h1 h2
    simp only [yN]
    rw [yN_more (n := n) (m := m) (by omega) (by omega)]
def busyP (l : List Span) : List (Int × Int) := yN l.length l
theorem busyP_nil : busyP [] = [] := rfl
theorem busyP_cons (x : Span) (r : List Span) : busyP (x :: r) = (x.from', (runTo x.to' r).1) :: busyP (runTo x.to' r).2 := by
  have := runTo_len r x.to'
  unfold busyP
  simp only [List.length_cons, yN]
  rw [yN_more this (Nat.le_refl _)]
theorem busy_l0 (hE : Laid E) {W : Nat → Prop} {h0 : Heap} {vs : Value} {l : List Span} {bx : Nat} (hb : h0[bx]? = some (.cells [vs] false)) (hl : Rd 3 encS h0 vs l) {i0 : Nat} (hi0 : i0 ≤ l.length) {to0 : Int} {v0 v4 : Value} {Q : Ex → Fr → Heap → Prop} {fr : Fr}
    (g0 : get fr 0 = v0) (g1 : get fr 1 = .pointer (some ⟨bx, 0, none⟩)) (g3 : get fr 3 = .int .i64 i0) (g4 : get fr 4 = v4) (g5 : get fr 5 = .int .i64 to0)
    (hq : ∀ fr' (i : Nat), i ≤ l.length → i0 ≤ i → l.drop i = (runTo to0 (l.drop i0)).2 → get fr' 0 = v0 → get fr' 1 = .pointer (some ⟨bx, 0, none⟩) → get fr' 3 = .int .i64 i → get fr' 4 = v4 → get fr' 5 = .int .i64 (runTo to0 (l.drop i0)).1 → Q (.exit 2) fr' h0) :
    WO W (iterW (code (callW E) iterW 47 c_trace_Busy_f1_l0) fr h0) Q := by
  have few := hl.few
  refine WO.loop (fun i fr h' => h' = h0 ∧ i ≤ l.length ∧ i0 ≤ i ∧ get fr 0 = v0 ∧ get fr 1 = .pointer (some ⟨bx, 0, none⟩) ∧ get fr 3 = .int .i64 i ∧ get fr 4 = v4 ∧ ∃ to', get fr 5 = .int .i64 to' ∧ runTo to0 (l.drop i0) = runTo to' (l.drop i)) (fun i => l.length - i) ?_ i0 ⟨rfl, hi0, Nat.le_refl _, g0, g1, g3, g4, to0, g5, rfl⟩
  rintro i fr h' ⟨rfl, hi, hii, g0, g1, g3, g4, to', g5, hr⟩
  have Hr := Hid.mk hr
  clear hr
  unfold c_trace_Busy_f1_l0
  rcases Nat.lt_or_ge i l.length with hlt | hge
  · have hd : l.drop i = atI l (i : Int) :: l.drop (i + 1) := by rw [atI_nat hlt, List.drop_eq_getElem_cons hlt]
    have Hd := Hid.mk hd
    clear hd
    have hq := Hid.mk hq
    (repeat' (first | (with_reducible refine A1 (fun _ => ?_) (fun _ => ?_) <;> try (exfalso; omega)) | (with_reducible refine A3 (fun _ => ?_) (fun _ => ?_) <;> try (exfalso; omega)) | simp -dsimp (disch := omega) only [↓EA, EB, Nat.reduceEqDiff, ↓reduceIte, reduceCtorEq, eq_self, *, hl.len, hl.ixs, hl.ld, encS]))
    · refine Next.mk (i + 1) ⟨rfl, by omega, by omega, rfl, rfl, rfl, rfl, _, rfl, ?_⟩ (by omega)
      rw [Hr.out, Hd.out, runTo, if_pos (by assumption)]
    · have e : runTo to' (l.drop i) = (to', l.drop i) := by rw [Hd.out, runTo, if_neg (by assumption)]
      refine hq.out _ i hi hii ?_ rfl rfl rfl rfl ?_
      · rw [Hr.out, e]
      · rw [Hr.out, e]; rfl
  · have e0 : l.drop i = [] := List.drop_of_length_le (by omega)
    have e : runTo to' (l.drop i) = (to', l.drop i) := by rw [e0]; rfl
    have hq := Hid.mk hq
    have E0 := Hid.mk e
    clear e e0
    (repeat' (first | (with_reducible refine A1 (fun _ => ?_) (fun _ => ?_) <;> try (exfalso; omega)) | simp -dsimp (disch := omega) only [↓EA, EB, Nat.reduceEqDiff, ↓reduceIte, reduceCtorEq, eq_self, *, hl.len]))
    refine hq.out _ i hi hii ?_ rfl rfl rfl rfl ?_
    · rw [Hr.out, E0.out]
    · rw [Hr.out, E0.out]; rfl
theorem busy_iter (hE : Laid E) {h1 : Heap} {L bx : Nat} {vs : Value} {l : List Span} {W : Nat → Prop} {J : Nat → Heap → Prop} {Stop : Heap → Prop} (hJ : ∀ k h, J k h → h.length = h1.length ∧ h[bx]? = some (.cells [vs] false) ∧ Rd 3 encS h vs l) (h0 : J 0 h1) (hS : ∀ h, Stop h → h.length = h1.length)
    (step : ∀ k h p, (busyP l)[k]? = some p → J k h → WX W (callW E (.func (.yield L) #[] #[]) [.int .i64 p.1, .int .i64 p.2] h) (fun v h' => (v = .bool true ∧ J (k + 1) h') ∨ (v = .bool false ∧ Stop h'))) :
    WX W (callW E (.func (.func n_trace_Busy_f1) #[] #[.pointer (some ⟨bx, 0, none⟩)]) [.func (.yield L) #[] #[]] h1) (fun _ h' => J (busyP l).length h' ∨ Stop h') := by
  refine fn_eff hE.keep hE.trace_Busy_f1 rfl (by simp) ?_
  have few := (hJ 0 h1 h0).2.2.few
  simp only [List.cons_append, List.nil_append, argsF]
  (repeat' simp -dsimp (disch := omega) only [↓EA, EB, Nat.reduceEqDiff, ↓reduceIte, reduceCtorEq, eq_self, *])
  refine WO.loop (α := Nat × Nat) (fun s fr h' => s.1 ≤ l.length ∧ J s.2 h' ∧ (busyP l).drop s.2 = busyP (l.drop s.1) ∧ s.2 ≤ (busyP l).length ∧ get fr 0 = .func (.yield L) #[] #[] ∧ get fr 1 = .pointer (some ⟨bx, 0, none⟩) ∧ get fr 3 = .int .i64 s.1) (fun s => l.length - s.1) ?_ (0, 0) ⟨Nat.zero_le _, h0, rfl, Nat.zero_le _, rfl, rfl, rfl⟩
  rintro ⟨i, k⟩ fr h' ⟨hi, hj, hd, hk, g0, g1, g3⟩
  obtain ⟨hlen, hb, hl⟩ := hJ k h' hj
  dsimp only at hi hj hd hk g3
  unfold c_trace_Busy_f1_l1
  rcases Nat.lt_or_ge i l.length with hlt | hge
  · have hdr : l.drop i = atI l (i : Int) :: l.drop (i + 1) := by rw [atI_nat hlt, List.drop_eq_getElem_cons hlt]
    rw [hdr, busyP_cons] at hd
    have hkl : k < (busyP l).length := by
      rcases Nat.lt_or_ge k (busyP l).length with h | h
      · exact h
      · rw [List.drop_of_length_le h] at hd; cases hd
    rw [List.drop_eq_getElem_cons hkl] at hd
    have hd1 := (List.cons.inj hd).1
    have hd2 := (List.cons.inj hd).2
    have hst := step k h' _ (by rw [List.getElem?_eq_getElem hkl, hd1]) hj
    have Hd := Hid.mk hd2
    replace hst := Hid.mk hst
    replace hJ := Hid.mk hJ
    replace hS := Hid.mk hS
    clear hd hd1 hd2 step hdr h0
    (repeat' (first | (with_reducible refine A3 (fun _ => ?_) (fun _ => ?_) <;> try (exfalso; omega)) | simp -dsimp (disch := omega) only [↓EA, EB, Nat.reduceEqDiff, ↓reduceIte, reduceCtorEq, eq_self, *, hl.len, hl.ixs, hl.ld, encS]))
    refine busy_l0 hE hb hl (i0 := i + 1) (by omega) rfl rfl rfl rfl rfl fun fr' i' hi' hii hdrop q0 q1 q3 q4 q5 => ?_
    have Hdrop := Hid.mk hdrop
    clear hdrop
    (repeat' simp -dsimp (disch := omega) only [↓EA, EB, Nat.reduceEqDiff, ↓reduceIte, reduceCtorEq, eq_self, *])
    refine WX.mono hst.out (fun b h => h) fun v h2 hr => ?_
    rcases hr with ⟨rfl, hj2⟩ | ⟨rfl, hs2⟩
    · replace hj2 := Hid.mk hj2
      (repeat' simp -dsimp (disch := omega) only [↓EA, EB, Nat.reduceEqDiff, ↓reduceIte, reduceCtorEq, eq_self, *])
      exact Next.mk (i', k + 1) ⟨hi', hj2.out, by rw [Hdrop.out]; exact Hd.out, hkl, rfl, rfl, rfl⟩ (by simp only []; omega)
    · replace hs2 := Hid.mk hs2
      (repeat' simp -dsimp (disch := omega) only [↓EA, EB, Nat.reduceEqDiff, ↓reduceIte, reduceCtorEq, eq_self, *])
      exact ⟨hS.out _ hs2.out, .inr hs2.out⟩
  · have e : l.drop i = [] := List.drop_of_length_le (by omega)
    rw [e] at hd
    have hk2 : k = (busyP l).length := by
      have := congrArg List.length hd
      rw [List.length_drop] at this; simp [busyP_nil] at this; omega
    subst hk2
    replace hj := Hid.mk hj
    (repeat' (first | (with_reducible refine A3 (fun _ => ?_) (fun _ => ?_) <;> try (exfalso; omega)) | simp -dsimp (disch := omega) only [↓EA, EB, Nat.reduceEqDiff, ↓reduceIte, reduceCtorEq, eq_self, *, hl.len]))
    first
      | exact .inl hj.out
      | exact ⟨hlen, .inl hj.out⟩
theorem busy (hE : Laid E) {h : Heap} {vs : Value} {l : List Span} (hl : Rd 3 encS h vs l) :
    ∃ v ys, callW E (.func (.func n_trace_Busy) #[] #[]) [vs] h = some (v, h ++ ys, []) ∧ Clo1 h.length n_trace_Busy_f1 (fun h v => v = vs ∧ Rd 3 encS h vs l) (h ++ ys) v := by
  refine fn_new hE.trace_Busy rfl (Clo1.movable (hl.old_movable flatS)) (by simp) ?_
  have hc := hl.cv
  have ho := hl.one
  simp only [argsF]
  (repeat' simp -dsimp (disch := omega) only [↓EA, EB, Nat.reduceEqDiff, ↓reduceIte, newCells, eq_self, *])
  exact ⟨⟨_, rfl⟩, _, _, rfl, Nat.le_refl _, by rw [geta0]; rfl, rfl, hl.app _⟩
def longK (l : List Span) : Nat → Int
  | 0 => 0
  | k + 1 => longK l k + ((busyP l).getD k (0, 0)).2 - ((busyP l).getD k (0, 0)).1
def longP (l : List Span) : Int := longK l (busyP l).length
theorem runTo_mem : ∀ (l : List Span) (t : Int), (runTo t l).1 = t ∨ ∃ x ∈ l, (runTo t l).1 = x.to'
  | [], t => .inl rfl
  | x :: r, t => by
    unfold runTo
    split
    · rcases runTo_mem r x.to' with h | ⟨y, hy, h⟩
      · exact .inr ⟨x, by simp, h⟩
      · exact .inr ⟨y, by simp [hy], h⟩
    · exact .inl rfl
theorem runTo_sub : ∀ (l : List Span) (t : Int), ∀ y ∈ (runTo t l).2, y ∈ l
  | [], t, y, h => by simp [runTo] at h
  | x :: r, t, y, h => by
    unfold runTo at h
    split at h
    · exact List.mem_cons_of_mem _ (runTo_sub r x.to' y h)
    · exact h
theorem yN_mem : ∀ (n : Nat) (l : List Span), ∀ p ∈ yN n l, (∃ x ∈ l, p.1 = x.from') ∧ ∃ x ∈ l, p.2 = x.to'
  | 0, _, p, h => by simp [yN] at h
  | n + 1, [], p, h => by simp [yN] at h
  | n + 1, x :: r, p, h => by
    simp only [yN, List.mem_cons] at h
    rcases h with rfl | h
    · refine ⟨⟨x, by simp, rfl⟩, ?_⟩
      rcases runTo_mem r x.to' with h | ⟨y, hy, h⟩
      · exact ⟨x, by simp, h⟩
      · exact ⟨y, by simp [hy], h⟩
    · obtain ⟨⟨y, hy, h1⟩, ⟨z, hz, h2⟩⟩ := yN_mem n _ p h
      exact ⟨⟨y, List.mem_cons_of_mem _ (runTo_sub _ _ y hy), h1⟩, ⟨z, List.mem_cons_of_mem _ (runTo_sub _ _ z hz), h2⟩⟩
theorem yN_len : ∀ (n : Nat) (l : List Span), (yN n l).length ≤ l.length
  | 0, _ => by simp [yN]
  | n + 1, [] => by simp [yN]
  | n + 1, x :: r => by
    have := yN_len n (runTo x.to' r).2
    have := runTo_len r x.to'
    simp only [yN, List.length_cons]; omega
theorem busyP_in {l : List Span} (hok : SpansOk l) : ∀ p ∈ busyP l, (0 ≤ p.1 ∧ p.1 ≤ 35184372088832) ∧ 0 ≤ p.2 ∧ p.2 ≤ 35184372088832 := by
  intro p hp
  obtain ⟨⟨x, hx, h1⟩, ⟨y, hy, h2⟩⟩ := yN_mem _ _ p hp
  rw [h1, h2]; exact ⟨(hok x hx).1, (hok y hy).2⟩
theorem longK_in {l : List Span} (hok : SpansOk l) : ∀ k : Nat, k ≤ (busyP l).length → -(k * 35184372088832 : Int) ≤ longK l k ∧ longK l k ≤ k * 35184372088832
  | 0, _ => by simp [longK]
  | k + 1, h => by
    have ih := longK_in hok k (by omega)
    have hp := busyP_in hok ((busyP l)[k]) (List.getElem_mem _)
    have e : (busyP l).getD k (0, 0) = (busyP l)[k] := by rw [List.getD_eq_getElem?_getD, List.getElem?_eq_getElem (by omega)]; rfl
    simp only [longK, e]
    constructor <;> (have := ih.1; have := ih.2; simp only [Int.natCast_add, Int.natCast_one, Int.add_mul]; omega)
end Go.L.Try

/- WHAT SPANS TELL OF ENDS (plain). -/
set_option linter.unusedVariables false
set_option linter.unusedSimpArgs false
set_option maxRecDepth 100000
set_option maxHeartbeats 1000000
namespace Go.L.Try
open Go Go.L
variable {l : List Task} {jobs : List Job} {R R' : RS} {T T' : Nat}
theorem EndAt.same (S : Script l jobs) {i e e' : Nat} (hi : i < jobs.length) (h : EndAt l jobs i e) (h' : EndAt l jobs i e') : e = e' := by
  have h1 := (h'.lt S hi e).1 ((h.lt S hi e).2 (Nat.le_refl _))
  have h2 := (h.lt S hi e').1 ((h'.lt S hi e').2 (Nat.le_refl _))
  omega
theorem endStep_other {i : Int} (s : Int × Int) {x : Span} (h : x.job ≠ i) : endStep i s x = s := by unfold endStep; rw [if_neg fun hh => h hh.1]
theorem spanEnds (S : Script l jobs) {i : Nat} (hi : i < jobs.length) : ∀ n, endSt (jb jobs i).work i (st l jobs n).L = ((jb jobs i).work - dn l jobs i n, atI (st l jobs n).ends (i : Int))
  | 0 => by
    have e : atI (st l jobs 0).ends (i : Int) = -1 := rep_at i hi
    rw [e, dn_zero hi, Int.sub_zero]; rfl
  | n + 1 => by
    have ih := spanEnds S hi n
    have hv := st_inv S n
    have hd := dn_succ S hi n
    have he := ends_at S hi n
    have hL := st_L S n
    have hends : atI (st l jobs (n + 1)).ends (i : Int) = if who l jobs n = i ∧ dn l jobs i n + 1 = (jb jobs i).work then (n : Int) + 1 else atI (st l jobs n).ends (i : Int) := by
      rcases step_cases S hv with ⟨h0, h⟩ | ⟨r, hr, hr2, hr3, h⟩
      · have hw : who l jobs n = -1 := h0
        rw [st_succ, h, hw, if_neg (by omega)]
      · have hw : who l jobs n = r := hr2
        rw [st_succ, h, work_ends (by rw [hv.elen]; exact hr), hw, st_t S]
        by_cases e : i = r
        · subst e
          have : atI (st l jobs n).done (i : Int) = dn l jobs i n := rfl
          rw [this]
          by_cases hf : dn l jobs i n + 1 = (jb jobs i).work
          · rw [if_pos ⟨rfl, hf⟩, if_pos ⟨rfl, hf⟩]
          · rw [if_neg fun h => hf h.2, if_neg fun h => hf h.2]
        · rw [if_neg fun h => e h.1, if_neg fun h => e (by omega)]
    rw [hends, hd, hL]
    rcases Int.lt_or_le (who l jobs n) 0 with hw | hw
    · rw [if_pos hw, if_neg (by omega), if_neg (by omega), Int.add_zero]; exact ih
    · rw [if_neg (by omega)]
      by_cases e : who l jobs n = i
      · obtain ⟨_, hlt⟩ := who_dn S e
        have hm1 := he.1 hlt
        rw [hm1] at ih
        rw [if_pos e, hm1, e]
        have hb := (dn_in S hi n).1
        rcases addTick_cases (st l jobs n).L i n with ⟨A, x, h1, h2, h3, h4⟩ | ⟨_, h4⟩
        · obtain ⟨xj, xf, xt⟩ := x
          dsimp only at h2 h3 h4
          subst h2 h3
          have hsp := (sp_ok S n).run ⟨i, xf, n⟩ (by rw [h1]; simp)
          obtain ⟨j', a', b', e', q1, _⟩ := hsp
          simp only [Span.mk.injEq] at e'
          rw [h1, endSt_snoc] at ih
          rw [h4, endSt_snoc]
          generalize endSt (jb jobs i).work i A = s at ih ⊢
          obtain ⟨s1, s2⟩ := s
          unfold endStep at ih ⊢
          dsimp only at ih ⊢
          by_cases hs : s2 < 0
          · rw [if_pos ⟨rfl, by omega, hs⟩] at ih
            rw [if_pos ⟨rfl, by omega, hs⟩]
            simp only [Prod.mk.injEq] at ih ⊢
            obtain ⟨i1, i2⟩ := ih
            rw [if_neg (by omega)] at i2
            refine ⟨by omega, ?_⟩
            by_cases hf : dn l jobs i n + 1 = (jb jobs i).work
            · rw [if_pos (by omega), if_pos ⟨trivial, hf⟩]; omega
            · rw [if_neg (by omega), if_neg fun h => hf h.2]; exact i2
          · rw [if_neg fun h => hs h.2.2] at ih
            simp only [Prod.mk.injEq] at ih
            omega
        · rw [h4, endSt_snoc, ih]
          unfold endStep
          dsimp only
          rw [if_pos ⟨rfl, by omega, by omega⟩]
          simp only [Prod.mk.injEq]
          refine ⟨by omega, ?_⟩
          by_cases hf : dn l jobs i n + 1 = (jb jobs i).work
          · rw [if_pos (by omega), if_pos ⟨trivial, hf⟩]; omega
          · rw [if_neg (by omega), if_neg fun h => hf h.2]
      · rw [if_neg e, if_neg fun h => e h.1, Int.add_zero, ← ih]
        rcases addTick_cases (st l jobs n).L (who l jobs n) n with ⟨A, x, h1, h2, h3, h4⟩ | ⟨_, h4⟩
        · rw [h4, h1, endSt_snoc, endSt_snoc, endStep_other _ (by dsimp only; omega), endStep_other _ (by omega)]
        · rw [h4, endSt_snoc, endStep_other _ (by dsimp only; omega)]
theorem endsN_get (jobs : List Job) (L : List Span) : ∀ {n i : Nat}, i < n → atI (endsN jobs L n) (i : Int) = (endSt (jb jobs i).work i L).2 := by
  intro n
  induction n with
  | zero => intro i h; omega
  | succ n ih =>
    intro i h
    have hl := endsN_len jobs L n
    have hl2 := endsN_len jobs L (n + 1)
    rw [atI_nat (by rw [hl2]; exact h)]
    simp only [endsN]
    by_cases e : i = n
    · subst e
      rw [List.getElem_append_right (by omega)]
      simp only [hl, Nat.sub_self, List.getElem_cons_zero]
    · rw [List.getElem_append_left (by rw [hl]; omega), ← atI_nat (by rw [hl]; omega)]
      exact ih (by omega)
theorem endsN_st (S : Script l jobs) (n : Nat) : endsN jobs (st l jobs n).L jobs.length = (st l jobs n).ends := by
  have hv := st_inv S n
  refine List.ext_getElem (by rw [endsN_len, hv.elen]) fun i h1 h2 => ?_
  rw [endsN_len] at h1
  have e1 := endsN_get jobs (st l jobs n).L h1
  rw [spanEnds S h1] at e1
  rw [atI_nat (by rw [endsN_len]; exact h1), atI_nat h2] at e1
  exact e1
theorem st_T {l : List Task} {jobs : List Job} (hb : legalB l jobs = true) (hs : sumWork jobs ≤ 1099511627776) {e : Int} {T : Nat} (h : untilP l jobs e (rsInit jobs.length) = st l jobs T) : (T : Int) ≤ 18693845155840 := by
  have S := script_of hb
  have h1 := (untilP_ind (e := e) S.ok (fun _ => True) (fun _ _ _ _ => trivial) (rsInit_inv jobs S.ok.work) trivial).1
  rw [h] at h1
  have h2 := h1.t1
  have h3 := h1.sum
  rw [st_t S] at h2
  unfold lastRel at h2
  omega
theorem spansOk_st (S : Script l jobs) {n : Nat} (hn : (n : Int) ≤ 18693845155840) : SpansOk (st l jobs n).L := fun x hx => by
  obtain ⟨j, a, b, e, h1, h2, _⟩ := (sp_ok S n).run x hx
  rw [e]
  dsimp only
  omega
structure CutAt (l : List Task) (jobs : List Job) (e : Int) (R : RS) : Prop where
  ok : SpansOk R.L
  elen : R.ends.length = jobs.length
  ends : endsN jobs R.L jobs.length = R.ends
  cut : ∀ {A : RS} {T : Nat}, RunAt l jobs A T → ∀ i : Nat, i < jobs.length → (atI A.ends (i : Int) ≤ e → atI R.ends (i : Int) = atI A.ends (i : Int)) ∧ (e < atI A.ends (i : Int) → atI R.ends (i : Int) = -1)
theorem cut_at (hb : legalB l jobs = true) (hs : sumWork jobs ≤ 1099511627776) {e : Int} (he : 0 ≤ e) : CutAt l jobs e (runU l jobs e) := by
  have S := script_of hb
  have hr : runU l jobs e = untilP l jobs e (rsInit jobs.length) := by
    unfold runU; rw [if_pos hb, show max e 0 = e by omega]
  obtain ⟨T, h1, h2, h3⟩ := until_st S (e := e)
  have hT := st_T hb hs h1
  rw [hr, h1]
  refine ⟨spansOk_st S hT, (st_inv S T).elen, endsN_st S T, fun {A T'} r i hi => ?_⟩
  obtain ⟨x, x1, x2, x3⟩ := r.ends i hi
  rw [x1]
  have hle := h3 he
  have hend := ends_at S hi T
  refine ⟨fun hx => ?_, fun hx => ?_⟩
  · -- done by then
    have hdone : dn l jobs i T = (jb jobs i).work := by
      rcases Int.lt_or_le 0 (st l jobs T).left with hl | hl
      · have hT2 : ¬ (T : Int) < e := fun h => h2 ⟨hl, .inr (by rw [st_t S]; exact h)⟩
        exact (x3.lt S hi T).2 (by omega)
      · have hd := (dn_in S hi T).2
        rcases Int.lt_or_le (dn l jobs i T) (jb jobs i).work with h4 | h4
        · exfalso
          have h5 := (untilP_ind (e := e) S.ok (fun _ => True) (fun _ _ _ _ => trivial) (rsInit_inv jobs S.ok.work) trivial).1
          rw [h1] at h5
          have := left_pos h5 hi h4
          omega
        · omega
    obtain ⟨y, y1, y2, y3⟩ := hend.2 hdone
    rw [y1, x3.same S hi y3]
  · refine hend.1 ?_
    have h5 := (dn_in S hi T).2
    rcases Int.lt_or_le (dn l jobs i T) (jb jobs i).work with h4 | h4
    · exact h4
    · have := (x3.lt S hi T).1 (by omega)
      omega
end Go.L.Try

/- BUSY OR IDLE, whoever works (plain). -/
set_option linter.unusedVariables false
set_option linter.unusedSimpArgs false
set_option maxRecDepth 100000
set_option maxHeartbeats 1000000
namespace Go.L.Try
open Go Go.L
variable {l l' : List Task} {jobs jobs' : List Job}
def sumF (f : Nat → Int) : Nat → Int
  | 0 => 0
  | n + 1 => sumF f n + f n
theorem sumF_le {f g : Nat → Int} : ∀ {m : Nat}, (∀ i, i < m → f i ≤ g i) → sumF f m ≤ sumF g m
  | 0, _ => Int.le_refl _
  | m + 1, h => by
    have h1 := sumF_le (m := m) fun i hi => h i (by omega)
    have h2 := h m (by omega)
    show sumF f m + f m ≤ sumF g m + g m
    omega
theorem sumF_eq {f g : Nat → Int} : ∀ {m : Nat}, (∀ i, i < m → f i = g i) → sumF f m = sumF g m
  | 0, _ => rfl
  | m + 1, h => by
    show sumF f m + f m = sumF g m + g m
    rw [sumF_eq (m := m) fun i hi => h i (by omega), h m (by omega)]
theorem sumF_all {f g : Nat → Int} : ∀ {m : Nat}, (∀ i, i < m → f i ≤ g i) → sumF f m = sumF g m → ∀ i, i < m → f i = g i
  | 0, _, _ => fun i hi => by omega
  | m + 1, h, he => by
    have h1 := sumF_le (m := m) fun i hi => h i (by omega)
    have h2 := h m (by omega)
    have he' : sumF f m + f m = sumF g m + g m := he
    intro i hi
    by_cases e : i = m
    · subst e; omega
    · exact sumF_all (m := m) (fun i hi => h i (by omega)) (by omega) i (by omega)
theorem sumF_one {f g : Nat → Int} {r : Nat} : ∀ {m : Nat}, r < m → (∀ i, i < m → g i = f i + if i = r then 1 else 0) → sumF g m = sumF f m + 1
  | 0, h, _ => by omega
  | m + 1, h, he => by
    show sumF g m + g m = sumF f m + f m + 1
    have h1 := he m (by omega)
    by_cases e : m = r
    · subst e
      rw [if_pos rfl] at h1
      rw [sumF_eq (f := g) (g := f) fun i hi => by have := he i (by omega); rw [if_neg (by omega)] at this; omega]
      omega
    · rw [if_neg e] at h1
      rw [sumF_one (m := m) (by omega) fun i hi => he i (by omega)]; omega
def dnAll (l : List Task) (jobs : List Job) (n : Nat) : Int := sumF (fun i => dn l jobs i n) jobs.length
def relW (jobs : List Job) (n : Nat) : Int := sumF (fun i => if (jb jobs i).release ≤ n then (jb jobs i).work else 0) jobs.length
def allW (jobs : List Job) : Int := sumF (fun i => (jb jobs i).work) jobs.length
theorem dn_unrel (S : Script l jobs) {i n : Nat} (hi : i < jobs.length) (h : ¬ (jb jobs i).release ≤ n) : dn l jobs i n = 0 := by
  have h1 := dn_le S hi n
  have h2 := (dn_in S hi n).1
  omega
theorem dn_relW (S : Script l jobs) {i n : Nat} (hi : i < jobs.length) : dn l jobs i n ≤ if (jb jobs i).release ≤ n then (jb jobs i).work else 0 := by
  split
  · exact (dn_in S hi n).2
  · rename_i h; have := dn_unrel S hi h; omega
theorem idle_iff (S : Script l jobs) (n : Nat) : who l jobs n < 0 ↔ dnAll l jobs n = relW jobs n := by
  constructor
  · intro h
    refine sumF_eq fun i hi => ?_
    split
    · rename_i hr; exact who_none S h hi hr
    · rename_i hr; exact dn_unrel S hi hr
  · intro h
    rcases Int.lt_or_le (who l jobs n) 0 with h1 | h1
    · exact h1
    · obtain ⟨r, hr⟩ : ∃ r : Nat, who l jobs n = r := ⟨(who l jobs n).toNat, by omega⟩
      obtain ⟨h2, h3⟩ := who_dn S hr
      have h4 := sumF_all (fun i hi => dn_relW S (n := n) hi) h r h2
      rw [if_pos (who_rel S hr)] at h4
      omega
theorem dnAll_succ (S : Script l jobs) (n : Nat) : dnAll l jobs (n + 1) = dnAll l jobs n + if who l jobs n < 0 then 0 else 1 := by
  unfold dnAll
  by_cases h : who l jobs n < 0
  · rw [if_pos h, Int.add_zero]
    exact sumF_eq fun i hi => by rw [dn_succ S hi, if_neg (by omega), Int.add_zero]
  · rw [if_neg h]
    obtain ⟨r, hr⟩ : ∃ r : Nat, who l jobs n = r := ⟨(who l jobs n).toNat, by omega⟩
    refine sumF_one (r := r) (who_dn S hr).1 fun i hi => ?_
    rw [dn_succ S hi, hr]
    by_cases e : i = r
    · rw [if_pos e, if_pos (by omega)]
    · rw [if_neg e, if_neg (by omega)]
theorem dnAll_zero : dnAll l jobs 0 = 0 := by
  unfold dnAll
  have key : ∀ m, m ≤ jobs.length → sumF (fun i => dn l jobs i 0) m = 0 := by
    intro m
    induction m with
    | zero => intro _; rfl
    | succ m ih =>
      intro hm
      show sumF (fun i => dn l jobs i 0) m + dn l jobs m 0 = 0
      rw [ih (by omega), dn_zero (by omega)]; rfl
  exact key _ (Nat.le_refl _)
theorem all_iff (S : Script l jobs) (n : Nat) : (∀ i, i < jobs.length → dn l jobs i n = (jb jobs i).work) ↔ dnAll l jobs n = allW jobs :=
  ⟨fun h => sumF_eq h, fun h => sumF_all (fun i hi => (dn_in S hi n).2) h⟩
theorem dnAll_same (S : Script l jobs) (S' : Script l' jobs') (h : ∀ n, relW jobs' n = relW jobs n) : ∀ n, dnAll l' jobs' n = dnAll l jobs n
  | 0 => by rw [dnAll_zero, dnAll_zero]
  | n + 1 => by
    have ih := dnAll_same S S' h n
    rw [dnAll_succ S, dnAll_succ S', ih]
    have h1 := idle_iff S n
    have h2 := idle_iff S' n
    rw [ih, h n, ← h1] at h2
    by_cases hw : who l jobs n < 0
    · rw [if_pos hw, if_pos (h2.2 hw)]
    · rw [if_neg hw, if_neg fun hh => hw (h2.1 hh)]
theorem idle_same (S : Script l jobs) (S' : Script l' jobs') (h : ∀ n, relW jobs' n = relW jobs n) (n : Nat) : who l' jobs' n < 0 ↔ who l jobs n < 0 := by
  rw [idle_iff S, idle_iff S', dnAll_same S S' h, h]
end Go.L.Try

/- BUSY ROWS of a run (plain). -/
set_option linter.unusedVariables false
set_option linter.unusedSimpArgs false
set_option maxRecDepth 100000
set_option maxHeartbeats 1000000
namespace Go.L.Try
open Go Go.L
variable {l : List Task} {jobs : List Job} {R : RS} {T : Nat}
def sumL : List Span → Int
  | [] => 0
  | x :: r => x.to' - x.from' + sumL r
theorem sumL_app : ∀ A B : List Span, sumL (A ++ B) = sumL A + sumL B
  | [], B => by simp [sumL]
  | x :: r, B => by rw [List.cons_append, sumL, sumL, sumL_app r B]; omega
theorem sumL_tick (L : List Span) (r t : Int) : sumL (addTick L r t) = sumL L + 1 := by
  rcases addTick_cases L r t with ⟨A, x, h1, _, _, h4⟩ | ⟨_, h4⟩
  · rw [h4, h1, sumL_app, sumL_app]; simp only [sumL]; omega
  · rw [h4, sumL_app]; simp only [sumL]; omega
theorem sumL_st (S : Script l jobs) : ∀ n, sumL (st l jobs n).L = dnAll l jobs n
  | 0 => by rw [dnAll_zero]; rfl
  | n + 1 => by
    rw [st_L S, dnAll_succ S]
    split
    · rw [sumL_st S n]; omega
    · rw [sumL_tick, sumL_st S n]
theorem sumL_run (S : Script l jobs) (r : RunAt l jobs R T) : sumL R.L = allW jobs := by
  rw [r.is, sumL_st S]; exact (all_iff S T).1 r.done
theorem row_begin (S : Script l jobs) (r : RunAt l jobs R T) {i : Nat} (hi : i < R.L.length) (h : i = 0 ∨ endB R.L i ≠ (atI R.L (i : Int)).from') : ∃ j : Nat, j < jobs.length ∧ (jb jobs j).release = (atI R.L (i : Int)).from' := by
  obtain ⟨hb0, hb⟩ := endB_le r hi
  have hgap := fun k => gap_none S r hi (k := k)
  obtain ⟨j, a, b, e, h1, h2, h3⟩ := span_at r hi
  have hw := h3 a (Nat.le_refl _) h1
  have hj := who_dn S hw
  have hrel := who_rel S hw
  have hr0 := (S.ok.rel _ (jb_mem hj.1)).1
  rw [e] at hb hgap h ⊢
  dsimp only at hb hgap h ⊢
  refine ⟨j, hj.1, ?_⟩
  rcases Nat.eq_zero_or_pos a with ha | ha
  · omega
  · have h5 : who l jobs (a - 1) < 0 := by
      rcases h with h | h
      · subst h; exact hgap (a - 1) (by rw [endB_zero]; omega) (by omega)
      · exact hgap (a - 1) (by omega) (by omega)
    rcases Int.lt_or_le (jb jobs j).release a with h6 | h6
    · have h7 := who_none S h5 hj.1 (by omega)
      have h8 := dn_mono S hj.1 (show a - 1 ≤ a by omega)
      omega
    · omega
theorem drop_at {L : List Span} {i : Nat} (h : i < L.length) : L.drop i = atI L (i : Int) :: L.drop (i + 1) := by
  rw [atI_nat h, List.drop_eq_getElem_cons h]
theorem runTo_at (L : List Span) : ∀ n i, L.length - i ≤ n → i ≤ L.length → ∃ i', i ≤ i' ∧ i' ≤ L.length ∧ runTo (endB L i) (L.drop i) = (endB L i', L.drop i') ∧ (i' < L.length → endB L i' ≠ (atI L (i' : Int)).from') ∧ sumL (L.drop i) = endB L i' - endB L i + sumL (L.drop i')
  | 0, i, hn, hi => ⟨i, Nat.le_refl _, hi, by rw [List.drop_of_length_le (by omega)]; rfl, fun h => by omega, by omega⟩
  | n + 1, i, hn, hi => by
    by_cases h : i < L.length
    · rw [drop_at h]
      by_cases hc : (atI L (i : Int)).from' = endB L i
      · obtain ⟨i', h1, h2, h3, h4, h5⟩ := runTo_at L n (i + 1) (by omega) (by omega)
        rw [endB_succ] at h3 h5
        refine ⟨i', by omega, h2, by unfold runTo; rw [if_pos hc]; exact h3, h4, ?_⟩
        simp only [sumL]
        omega
      · refine ⟨i, Nat.le_refl _, hi, ?_, fun _ h => hc h.symm, by rw [drop_at h]; omega⟩
        unfold runTo; rw [if_neg hc, drop_at h]
    · exact ⟨i, Nat.le_refl _, hi, by rw [List.drop_of_length_le (by omega)]; rfl, fun h => by omega, by omega⟩
def RowsOk (jobs : List Job) : Int → List (Int × Int) → Prop
  | _, [] => True
  | la, p :: r => la < p.1 ∧ p.1 < p.2 ∧ (∃ j : Nat, j < jobs.length ∧ (jb jobs j).release = p.1) ∧ RowsOk jobs p.2 r
def sumB : List (Int × Int) → Int
  | [] => 0
  | p :: r => p.2 - p.1 + sumB r
theorem rows_ok (S : Script l jobs) (r : RunAt l jobs R T) : ∀ n i, R.L.length - i ≤ n → i ≤ R.L.length → (i < R.L.length → i = 0 ∨ endB R.L i ≠ (atI R.L (i : Int)).from') → RowsOk jobs (if i = 0 then -1 else endB R.L i) (busyP (R.L.drop i)) ∧ sumB (busyP (R.L.drop i)) = sumL (R.L.drop i)
  | 0, i, hn, hi, _ => by rw [List.drop_of_length_le (by omega)]; exact ⟨trivial, rfl⟩
  | n + 1, i, hn, hi, hc => by
    by_cases h : i < R.L.length
    · obtain ⟨hb0, hb⟩ := endB_le r h
      obtain ⟨i', h1, h2, h3, h4, h5⟩ := runTo_at R.L R.L.length (i + 1) (by omega) (by omega)
      rw [endB_succ] at h3 h5
      have hrow := row_begin S r h (hc h)
      obtain ⟨_, _, q3, _⟩ := works_span S r h
      obtain ⟨g1, g2⟩ := rows_ok S r n i' (by omega) h2 fun hh => .inr (h4 hh)
      rw [if_neg (by omega)] at g1
      have hto : (atI R.L (i : Int)).to' ≤ endB R.L i' := by
        by_cases e : i' = i + 1
        · rw [e, endB_succ]; exact Int.le_refl _
        · obtain ⟨m, rfl⟩ : ∃ m, i' = m + 1 := ⟨i' - 1, by omega⟩
          rw [endB_succ]
          have h6 := span_sort r (show m < R.L.length by omega) (show i < m by omega)
          obtain ⟨_, _, q4, _⟩ := works_span S r (show m < R.L.length by omega)
          omega
      rw [drop_at h, busyP_cons, h3]
      refine ⟨⟨?_, by dsimp only; omega, hrow, g1⟩, ?_⟩
      · dsimp only
        split
        · obtain ⟨j, a, b, e, _⟩ := span_at r h
          rw [e]; dsimp only; omega
        · rcases hc h with h6 | h6
          · omega
          · omega
      · simp only [sumB, sumL]
        rw [g2]; omega
    · rw [List.drop_of_length_le (by omega)]; exact ⟨trivial, rfl⟩
def lastB (B : List (Int × Int)) : Nat → Int
  | 0 => -1
  | k + 1 => (B.getD k (0, 0)).2
def sumBK (B : List (Int × Int)) : Nat → Int
  | 0 => 0
  | k + 1 => sumBK B k + ((B.getD k (0, 0)).2 - (B.getD k (0, 0)).1)
theorem rows_get : ∀ {B : List (Int × Int)} {la : Int} {k : Nat} {p : Int × Int}, RowsOk jobs la B → B[k]? = some p → (if k = 0 then la else (B.getD (k - 1) (0, 0)).2) < p.1 ∧ p.1 < p.2 ∧ ∃ j : Nat, j < jobs.length ∧ (jb jobs j).release = p.1
  | [], la, k, p, _, h => by simp at h
  | q :: r, la, 0, p, ho, h => by
    have : q = p := by simpa using h
    subst this
    exact ⟨ho.1, ho.2.1, ho.2.2.1⟩
  | q :: r, la, k + 1, p, ho, h => by
    have h2 : r[k]? = some p := by simpa using h
    have h3 := rows_get ho.2.2.2 h2
    refine ⟨?_, h3.2⟩
    rw [if_neg (by omega)]
    cases k with
    | zero => simpa using h3.1
    | succ k =>
      have := h3.1
      rw [if_neg (by omega)] at this
      simpa using this
theorem sumBK_all (B : List (Int × Int)) : sumBK B B.length = sumB B := by
  have key : ∀ (n : Nat), n ≤ B.length → sumBK B n = sumB (B.take n) := by
    have happ : ∀ A C : List (Int × Int), sumB (A ++ C) = sumB A + sumB C := by
      intro A C
      induction A with
      | nil => simp [sumB]
      | cons x r ih => rw [List.cons_append, sumB, sumB, ih]; omega
    intro n
    induction n with
    | zero => intro _; rfl
    | succ n ih =>
      intro hn
      rw [sumBK, ih (by omega), List.take_succ_eq_append_getElem (by omega), happ, List.getD_eq_getElem?_getD, List.getElem?_eq_getElem (by omega)]
      simp only [sumB, Option.getD_some]; omega
  rw [key _ (Nat.le_refl _), List.take_length]
structure BusyOk (jobs : List Job) (B : List (Int × Int)) : Prop where
  row : ∀ {k : Nat} {p : Int × Int}, B[k]? = some p → lastB B k < p.1 ∧ p.1 < p.2 ∧ ∃ j : Nat, j < jobs.length ∧ (jb jobs j).release = p.1
  sum : sumBK B B.length = allW jobs
theorem busy_ok (S : Script l jobs) (r : RunAt l jobs R T) : BusyOk jobs (busyP R.L) := by
  obtain ⟨h1, h2⟩ := rows_ok S r R.L.length 0 (by omega) (Nat.zero_le _) fun _ => .inl rfl
  rw [List.drop_zero, if_pos rfl] at h1
  rw [List.drop_zero] at h2
  refine ⟨fun {k p} h => ?_, by rw [sumBK_all, h2, sumL_run S r]⟩
  have h3 := rows_get h1 h
  cases k with
  | zero => exact h3
  | succ k => rw [if_neg (by omega)] at h3; exact h3
end Go.L.Try

/- TraceBusy: the busy rows of a run. -/
set_option linter.unusedVariables false
set_option linter.unusedSimpArgs false
set_option maxRecDepth 100000
set_option maxHeartbeats 4000000
namespace Go.L.Try
open Go Go.L
variable {E : Env}
theorem rest11 (hE : Laid E) (h : Heap) (x n : Int) (hn : 0 < n) (hn' : n < 4611686018427387904) : callW E (.func (.func n_cadencylaw11_rest) #[] #[]) [.int .i64 x, .int .i64 n] h = some (.int .i64 (x % n), h, []) := by
  have hb := tmod_bounds x n hn
  refine fn_same hE.cadencylaw11_rest rfl (by simp) ?_
  simp -dsimp (disch := omega) only [↓EA, EB, Nat.reduceEqDiff, ↓reduceIte, reduceCtorEq, eq_self, argsF, rest_eq x n hn]
def bH (H : Heap) (w la n : Int) (lo : LObj) : Heap := H ++ [.cells [.int .i64 w] false, .cells [.int .i64 la] false, .cells [.int .i64 n] false, lo]
theorem bH_len (H w la n lo) : (bH H w la n lo).length = H.length + 4 := by simp [bH]
theorem bH_0 (H w la n lo) : (bH H w la n lo)[H.length]? = some (.cells [.int .i64 w] false) := by unfold bH; rw [geta0]; rfl
theorem bH_1 (H w la n lo) : (bH H w la n lo)[H.length + 1]? = some (.cells [.int .i64 la] false) := by unfold bH; rw [geta]; rfl
theorem bH_2 (H w la n lo) : (bH H w la n lo)[H.length + 2]? = some (.cells [.int .i64 n] false) := by unfold bH; rw [geta]; rfl
theorem bH_3 (H w la n lo) : (bH H w la n lo)[H.length + 3]? = some lo := by unfold bH; rw [geta]; rfl
theorem bH_s0 (H w la n lo) (x : Int) : (bH H w la n lo).set H.length (.cells [.int .i64 x] false) = bH H x la n lo := by unfold bH; rw [List.set_append_right _ _ (by omega), show H.length - H.length = 0 by omega]; rfl
theorem bH_s1 (H w la n lo) (x : Int) : (bH H w la n lo).set (H.length + 1) (.cells [.int .i64 x] false) = bH H w x n lo := by unfold bH; rw [List.set_append_right _ _ (by omega), show H.length + 1 - H.length = 1 by omega]; rfl
theorem bH_s2 (H w la n lo) (x : Int) : (bH H w la n lo).set (H.length + 2) (.cells [.int .i64 x] false) = bH H w la x lo := by unfold bH; rw [List.set_append_right _ _ (by omega), show H.length + 2 - H.length = 2 by omega]; rfl
theorem bH_s3 (H w la n lo) (x : LObj) : (bH H w la n lo).set (H.length + 3) x = bH H w la n x := by unfold bH; rw [List.set_append_right _ _ (by omega), show H.length + 3 - H.length = 3 by omega]; rfl
theorem bH_pre (H w la n lo) : Pre H (bH H w la n lo) := Pre.app H _
theorem bH_take (H w la n lo) : (bH H w la n lo).take (H.length + 3) = H ++ [.cells [.int .i64 w] false, .cells [.int .i64 la] false, .cells [.int .i64 n] false] := by
  unfold bH; rw [List.take_append, List.take_of_length_le (by omega)]; simp
def gH (G : Heap) (k n : Int) (lo : LObj) : Heap := G ++ [.cells [.int .i64 k] false, .cells [.int .i64 n] false, lo]
theorem gH_len (G k n lo) : (gH G k n lo).length = G.length + 3 := by simp [gH]
theorem gH_0 (G k n lo) : (gH G k n lo)[G.length]? = some (.cells [.int .i64 k] false) := by unfold gH; rw [geta0]; rfl
theorem gH_1 (G k n lo) : (gH G k n lo)[G.length + 1]? = some (.cells [.int .i64 n] false) := by unfold gH; rw [geta]; rfl
theorem gH_2 (G k n lo) : (gH G k n lo)[G.length + 2]? = some lo := by unfold gH; rw [geta]; rfl
theorem gH_s1 (G k n lo) (x : Int) : (gH G k n lo).set (G.length + 1) (.cells [.int .i64 x] false) = gH G k x lo := by unfold gH; rw [List.set_append_right _ _ (by omega), show G.length + 1 - G.length = 1 by omega]; rfl
theorem gH_s2 (G k n lo) (x : LObj) : (gH G k n lo).set (G.length + 2) x = gH G k n x := by unfold gH; rw [List.set_append_right _ _ (by omega), show G.length + 2 - G.length = 2 by omega]; rfl
theorem gH_pre (G k n lo) : Pre G (gH G k n lo) := Pre.app G _
theorem gH_take (G k n lo) : (gH G k n lo).take (G.length + 2) = G ++ [.cells [.int .i64 k] false, .cells [.int .i64 n] false] := by
  unfold gH; rw [List.take_append, List.take_of_length_le (by omega)]; simp
def begN (jobs : List Job) (f : Int) : Nat → Bool
  | 0 => false
  | n + 1 => begN jobs f n || decide ((jb jobs n).release = f)
theorem begN_true {jobs : List Job} {f : Int} {j : Nat} (h : (jb jobs j).release = f) : ∀ {n : Nat}, j < n → begN jobs f n = true
  | n + 1, hj => by
    unfold begN
    by_cases e : j = n
    · subst e; simp [h]
    · rw [begN_true h (show j < n by omega)]; rfl
theorem sumBK_in {jobs : List Job} {B : List (Int × Int)} (o : BusyOk jobs B) : ∀ k, k ≤ B.length → 0 ≤ sumBK B k ∧ sumBK B k ≤ allW jobs := by
  have step : ∀ k, k < B.length → 0 < (B.getD k (0, 0)).2 - (B.getD k (0, 0)).1 := fun k hk => by
    have h1 := (o.row (List.getElem?_eq_getElem hk)).2.1
    rw [List.getD_eq_getElem?_getD, List.getElem?_eq_getElem hk, Option.getD_some]; omega
  have h0 : ∀ k, k ≤ B.length → 0 ≤ sumBK B k := by
    intro k
    induction k with
    | zero => intro _; exact Int.le_refl _
    | succ k ih => intro hk; have := ih (by omega); have := step k (by omega); simp only [sumBK]; omega
  have h1 : ∀ n k, k + n = B.length → sumBK B k ≤ sumBK B B.length := by
    intro n
    induction n with
    | zero => intro k hk; rw [show k = B.length by omega]; exact Int.le_refl _
    | succ n ih =>
      intro k hk
      have h2 := ih (k + 1) (by omega)
      have h3 := step k (by omega)
      simp only [sumBK] at h2
      omega
  intro k hk
  exact ⟨h0 k hk, by rw [← o.sum]; exact h1 (B.length - k) k (by omega)⟩
theorem traceBusy (hE : Laid E) (ha : ∀ h, callW E (.func (.func n_cadencylaw11_awake) #[] #[]) [] h = some (.bool true, h, [])) {h : Heap} {vl vr : Value} {l : List Spec} {raw : List Raw} {many : Int} (hl : Rd 5 encSp h vl l) (hr : RdR h vr raw) (ht : i64in many) :
    callW E (.func (.func n_cadencylaw11_TraceBusy) #[] #[]) [vl, vr, .int .i64 many] h = some (.bool true, h, []) := by
  refine fn_same hE.cadencylaw11_TraceBusy rfl (by simp) ?_
  have hrest := fun h => rest11 hE h many 9 (by decide) (by decide)
  have h9 := emod_in many 9 (by decide)
  simp only [argsF]
  have hres0 : (h ++ [LObj.cells [.bool false] false])[h.length]? = some (.cells [.bool false] false) := by rw [geta0]; rfl
  (repeat' simp -dsimp (disch := omega) only [↓EA, EB, Nat.reduceEqDiff, Nat.reduceAdd, ↓reduceIte, reduceCtorEq, newCells, eq_self, *])
  replace hl := hl.app [LObj.cells [.bool false] false]
  replace hr := hr.pre (Pre.app h [LObj.cells [.bool false] false])
  refine wx_new (set04 hE hl (most := 5) (by decide) (by decide) ht) fun v1 ys r1 p1 => ?_
  have P1 := p1
  generalize _ ++ ys = H1 at r1 p1 P1 ⊢
  have hv := setP_valid l (most := 5) many (by decide) (by decide)
  have hsl := setP_len l (most := 5) (turn := many) (by decide)
  have hsm := fun t ht => setP_small (l := l) (most := 5) (turn := many) (t := t) (by decide) (by decide) ht
  generalize setP l 5 many = s at *
  have hnm : ∀ t ∈ s, t.name.size < 1152921504606846976 := fun t ht => by have := (hsm t ht).name; omega
  have o1 := r1.one
  have c1 := r1.cv
  clear p1
  (repeat' simp -dsimp (disch := omega) only [↓EA, EB, Nat.reduceEqDiff, ↓reduceIte, reduceCtorEq, eq_self, *])
  refine wx_new (few08 hE (hr.pre P1) (most := 10) (by decide) (by decide)) fun v2 ys r2 p2 => ?_
  have P2 := P1.trans p2
  replace r1 := r1.pre p2
  generalize _ ++ ys = H2 at r2 p2 P2 r1 ⊢
  clear p2 P1
  generalize hraw : List.map fewOf (List.take (10 : Int).toNat raw) = rw8 at *
  have hraw8 : rw8.length ≤ 10 := by rw [← hraw, List.length_map, List.length_take]; omega
  clear hraw
  (repeat' simp -dsimp (disch := omega) only [↓EA, EB, Nat.reduceEqDiff, ↓reduceIte, eq_self, *])
  refine wx_new (decode08 hE r1 hnm r2) fun v3 ys r3 p3 => ?_
  have P3 := P2.trans p3
  replace r1 := r1.pre p3
  generalize _ ++ ys = H3 at r3 p3 P3 r1 ⊢
  have sj := decode_small hv hsm rw8 hraw8 (by decide)
  clear p3 P2 r2
  generalize decodeP s rw8 = jobs at *
  have hsum : sumWork jobs ≤ 1099511627776 := by have := sj.sum; omega
  have hjl := sj.len
  have SJ := Hid.mk sj
  clear sj
  obtain ⟨jl, hjl2, hj⟩ := RdJ.open_ r3
  have hlen : jl.length ≤ 10 := by rw [hjl2, List.length_map] at hjl; exact hjl
  have hjlen : jobs.length = jl.length := by rw [hjl2, List.length_map]
  have hW0 : h.length + 1 ≤ H3.length := by have := P3.le; simpa using this
  have hres3 := P3 _ _ hres0
  have Hjl2 := Hid.mk hjl2
  have o3 := hj.one
  have c3 := hj.cv
  have HP3 := Hid.mk P3
  clear hjl2 hl hr
  have hrun1 := fun x => runX hE (r1.app x) hnm (r3.pre (Pre.app H3 x)) (by omega) hsum
  have hWx : h.length ≤ H3.length := by omega
  (repeat' simp -dsimp (disch := omega) only [↓EA, EB, Nat.reduceEqDiff, ↓reduceIte, newCells, eq_self, *])
  have hPx := Pre.app H3 [LObj.cells [v3] false]
  refine wx_new (hrun1 _) fun v5 ys r5 p5 => ?_
  have P5 := (hPx).trans p5
  generalize _ ++ ys = H5 at r5 p5 P5 ⊢
  obtain ⟨vs, rfl, hv5⟩ := r5
  rcases hv5 with _ | @⟨_, _, va5, _, ra5, _ | @⟨_, _, vb5, _, rb5, _ | _⟩⟩
  have na5 := Rd.nt ra5.1
  have nb5 := Rd.nt rb5.1
  have oa5 := ra5.1.one
  have ob5 := rb5.1.one
  have ca5 := ra5.1.cv
  have cb5 := rb5.1.cv
  have hb9 : H5[H3.length]? = some (.cells [v3] false) := p5 _ _ (by rw [geta0]; rfl)
  have hres5 := P5 _ _ hres3
  have hj5 := hj.pre P5
  have ra5' := ra5.1
  have hW5 : H3.length + 1 ≤ H5.length := by have := p5.le; simpa using this
  clear p5 hrun1 r1 r3 hres3 hres0 hj
  obtain ⟨T, R⟩ := runU_at SJ.out.legal hsum
  have S := script_of SJ.out.legal
  have hT : (T : Int) ≤ 18693845155840 := st_T SJ.out.legal hsum (by rw [← runU_is SJ.out.legal hsum]; exact R.is)
  have hok : SpansOk (runU s jobs 9223372036854775807).L := by rw [R.is]; exact spansOk_st S hT
  have HB := busy_ok S R
  generalize runU s jobs 9223372036854775807 = rs at *
  (repeat' simp -dsimp (disch := omega) only [↓EA, EB, Nat.reduceEqDiff, ↓reduceIte, eq_self, *])
  refine wx_new (busy hE ra5') fun v6 ys r6 p6 => ?_
  generalize _ ++ ys = H6 at r6 p6 ⊢
  obtain ⟨bx, u, rfl, hge, hbx, hue, hu⟩ := r6
  subst hue
  have hW6 := p6.le
  have hb96 := p6 _ _ hb9
  have hres6 := p6 _ _ hres5
  have hj6 := hj5.pre p6
  clear p6 hb9 hres5 hj5
  have hwb : ∀ n, n ≤ jobs.length → 0 ≤ sumF (fun i => (jb jobs i).work) n ∧ sumF (fun i => (jb jobs i).work) n ≤ 4 * n := by
    intro n
    induction n with
    | zero => intro _; exact ⟨Int.le_refl _, Int.le_refl _⟩
    | succ n ih =>
      intro hn
      have h1 := ih (by omega)
      have h2 := SJ.out.work _ (jb_mem (show n < jobs.length by omega))
      simp only [sumF]
      omega
  have hWy : h.length ≤ H6.length := by omega
  have hb9x : ∀ x, (H6 ++ x)[H3.length]? = some (.cells [v3] false) := fun x => by
    rw [List.getElem?_append_left (List.getElem?_eq_some_iff.1 hb96).1]; exact hb96
  have hjx := fun x => hj6.app x
  have e3 : ∀ n : Nat, n < jobs.length → (atI jl (n : Int)).j = jb jobs n := fun n hn => by
    show _ = atI jobs (n : Int)
    rw [Hjl2.out]; exact atI_map' NV.j jl (n : Int) (by omega) (by omega)
  have HL := Hid.mk hjlen
  have E3 := Hid.mk e3
  have hjl1 : jobs.length ≤ jl.length := by omega
  have hjl3 : jl.length ≤ jobs.length := by omega
  clear hjlen e3
  have hl3 : lensV false v3 = some (.int .i64 jobs.length) := by rw [hj6.len, HL.out]
  have hJ := Hid.mk hjx
  have hBB := Hid.mk HB
  have HWB := Hid.mk hwb
  have HS := SJ
  clear hjx HB hwb R S
  (repeat' simp -dsimp (disch := omega) only [↓EA, EB, Nat.reduceEqDiff, ↓reduceIte, newCells, eq_self, *])
  refine WO.loop (fun (n : Nat) fr h' => h' = H6 ++ [.cells [.int .i64 (sumF (fun i => (jb jobs i).work) n)] false] ∧ n ≤ jobs.length ∧ get fr 2 = .int .i64 many ∧ get fr 6 = .pointer (some ⟨h.length, 0, none⟩) ∧ get fr 7 = .bool true ∧ get fr 9 = .pointer (some ⟨H3.length, 0, none⟩) ∧ get fr 12 = .func (.func n_trace_Busy_f1) #[] #[.pointer (some ⟨bx, 0, none⟩)] ∧ get fr 13 = .pointer (some ⟨H6.length, 0, none⟩) ∧ get fr 14 = .int .i64 n) (fun n => jobs.length - n) ?_ 0 ⟨rfl, Nat.zero_le _, rfl, rfl, rfl, rfl, rfl, rfl, rfl⟩
  rintro n fr h' ⟨rfl, hn, g2, g6, g7, g9, g12, g13, g14⟩
  unfold c_cadencylaw11_TraceBusy_l0
  have hb13 : ∀ x, (H6 ++ [LObj.cells [.int .i64 x] false])[H6.length]? = some (.cells [.int .i64 x] false) := fun x => by rw [geta0]; rfl
  by_cases hnj : n < jobs.length
  · have hjx := hJ.out [.cells [.int .i64 (sumF (fun i => (jb jobs i).work) n)] false]
    have w1 := HWB.out n hn
    have w2 := SJ.out.work _ (jb_mem hnj)
    have w3 := E3.out n hnj
    have hn3 : (n : Int) < jl.length ∧ (n : Int) < jobs.length := by omega
    have hset : ∀ x y, (H6 ++ [LObj.cells [.int .i64 x] false]).set H6.length (.cells [.int .i64 y] false) = H6 ++ [.cells [.int .i64 y] false] := fun x y => by
      rw [List.set_append_right _ _ (Nat.le_refl _), Nat.sub_self]; rfl
    (repeat' simp -dsimp (disch := omega) only [↓EA, EB, Nat.reduceEqDiff, ↓reduceIte, eq_self, *, hjx.len, hjx.ixs, hjx.ld, encN, hdJ])
    exact Next.mk (n + 1) ⟨rfl, by omega, rfl, rfl, rfl, rfl, rfl, rfl, by simp only [get]; simp⟩ (by omega)
  · have hn3 : ¬ (n : Int) < jobs.length := by omega
    have hnn : n = jobs.length := by omega
    subst hnn
    have hjx := hJ.out [.cells [.int .i64 (sumF (fun i => (jb jobs i).work) jobs.length)] false]
    have hWz : h.length ≤ H6.length + 1 ∧ h.length ≤ H6.length + 2 := by omega
    (repeat' simp -dsimp (disch := omega) only [↓EA, EB, Nat.reduceEqDiff, Nat.reduceAdd, ↓reduceIte, newCells, eq_self, *])
    have hbxl := (List.getElem?_eq_some_iff.1 hbx).1
    refine co_rng hE.keep (W' := fun b => b = H6.length ∨ b = H6.length + 1 ∨ b = H6.length + 2 ∨ b = H6.length + 3) rfl (fun x hx hlt => by omega) ?_
    have hBL : (H6 ++ [LObj.cells [Value.int .i64 (sumF (fun i => (jb jobs i).work) jobs.length)] false, LObj.cells [Value.int .i64 (-1)] false, LObj.cells [Value.int .i64 0] false]).length = H6.length + 3 := by simp
    rw [hBL]
    generalize hLr : LObj.loop _ = lo
    have hT0 : H6 ++ [LObj.cells [Value.int .i64 (sumF (fun i => (jb jobs i).work) jobs.length)] false, LObj.cells [Value.int .i64 (-1)] false, LObj.cells [Value.int .i64 0] false] ++ [lo] = bH H6 (sumF (fun i => (jb jobs i).work) jobs.length) (-1) 0 lo := by simp [bH]
    rw [hT0]
    have hJJ : ∀ k hh, hh = bH H6 (allW jobs - sumBK (busyP rs.L) k) (lastB (busyP rs.L) k) (k : Nat) lo → hh.length = (bH H6 (sumF (fun i => (jb jobs i).work) jobs.length) (-1) 0 lo).length ∧ hh[bx]? = some (.cells [u] false) ∧ Rd 3 encS hh u rs.L := fun k hh e => by
      subst e
      exact ⟨by rw [bH_len, bH_len], bH_pre _ _ _ _ _ _ _ hbx, hu.pre (bH_pre _ _ _ _ _)⟩
    refine WX.mono (busy_iter hE (J := fun k hh => hh = bH H6 (allW jobs - sumBK (busyP rs.L) k) (lastB (busyP rs.L) k) (k : Nat) lo) (Stop := fun _ => False) hJJ (by show _ = bH H6 (allW jobs - 0) (-1) 0 lo; rw [Int.sub_zero]; rfl) (fun _ hf => hf.elim) ?_) (fun b hb => hb) ?_
    · rintro k hh p hp rfl
      have hk : k < (busyP rs.L).length := (List.getElem?_eq_some_iff.1 hp).1
      have hpk : (busyP rs.L).getD k (0, 0) = p := by rw [List.getD_eq_getElem?_getD, hp]; rfl
      have hpin := busyP_in hok p (List.mem_of_getElem? hp)
      obtain ⟨hr1, hr2, j, hj1, hj2⟩ := hBB.out.row hp
      have hs1 := sumBK_in hBB.out k (by omega)
      have hs2 : sumBK (busyP rs.L) (k + 1) = sumBK (busyP rs.L) k + (p.2 - p.1) := by simp only [sumBK, hpk]
      have hs3 : lastB (busyP rs.L) (k + 1) = p.2 := by simp only [lastB, hpk]
      have hyl : (busyP rs.L).length ≤ rs.L.length := yN_len rs.L.length rs.L
      have fewL := hu.few
      have hw0 := HWB.out jobs.length (Nat.le_refl _)
      have haw : allW jobs = sumF (fun i => (jb jobs i).work) jobs.length := rfl
      have hL := (bH_3 H6 (allW jobs - sumBK (busyP rs.L) k) (lastB (busyP rs.L) k) (k : Nat) lo).trans (congrArg some hLr.symm)
      refine WX.mono (wx_round hE.keep (W := fun b => b = H6.length ∨ b = H6.length + 1 ∨ b = H6.length + 2) (Rr := fun e h3 => leaves e = none ∧ h3 = bH H6 (allW jobs - sumBK (busyP rs.L) (k + 1)) (lastB (busyP rs.L) (k + 1)) ((k + 1 : Nat) : Int) lo) hL rfl rfl rfl rfl (fun b hb => by omega) ?_) (fun b hb => by omega) ?_
      · have HLr := Hid.mk hLr
        have H2 := Hid.mk (And.intro hs2 hs3)
        have hlenT := bH_len H6 (allW jobs - sumBK (busyP rs.L) k) (lastB (busyP rs.L) k) (k : Nat)
        have hbeg := begN_true hj2 hj1
        generalize hW1 : allW jobs - sumBK (busyP rs.L) k = wv at *
        generalize lastB (busyP rs.L) k = la at *
        have hwv : 0 ≤ wv ∧ wv ≤ 40 := by omega
        have hW1' := Hid.mk hW1
        clear hs2 hs3 hL hp hpk hBL hT0 hLr hJJ haw hW1 hs1 hw0 hj2
        dsimp only
        rw [HLr.out]
        generalize LObj.loop _ = lb
        unfold c_cadencylaw11_TraceBusy_l2
        (repeat' simp -dsimp (disch := omega) only [↓EA, EB, Nat.reduceEqDiff, ↓reduceIte, eq_self, *])
        unfold c_cadencylaw11_TraceBusy_l3
        have hc9 := bH_pre H6 wv la (k : Nat) lb _ _ hb96
        have hjz := hj6.pre (bH_pre H6 wv la (k : Nat) lb)
        (repeat' simp -dsimp (disch := omega) only [↓EA, EB, Nat.reduceEqDiff, ↓reduceIte, eq_self, *, bH_s3])
        refine WO.loop (fun (n : Nat) fr h' => h' = bH H6 wv la (k : Nat) lb ∧ n ≤ jobs.length ∧ get fr 6 = .pointer (some ⟨h.length, 0, none⟩) ∧ get fr 9 = .pointer (some ⟨H3.length, 0, none⟩) ∧ get fr 13 = .pointer (some ⟨H6.length, 0, none⟩) ∧ get fr 15 = .pointer (some ⟨H6.length + 1, 0, none⟩) ∧ get fr 16 = .pointer (some ⟨H6.length + 2, 0, none⟩) ∧ get fr 17 = .int .i64 p.1 ∧ get fr 18 = .int .i64 p.2 ∧ get fr 19 = .bool (begN jobs p.1 n) ∧ get fr 20 = .int .i64 n) (fun n => jobs.length - n) ?_ 0 ⟨rfl, Nat.zero_le _, rfl, rfl, rfl, rfl, rfl, rfl, rfl, rfl, rfl⟩
        clear g2 g6 g7 g9 g12 g13 g14 hnj hn3
        rintro n fr h' ⟨rfl, hn, g6, g9, g13, g15, g16, g17, g18, g19, g20⟩
        unfold c_cadencylaw11_TraceBusy_l1
        by_cases hnj : n < jobs.length
        · have w3 := E3.out n hnj
          have hn3 : (n : Int) < jl.length ∧ (n : Int) < jobs.length := by omega
          have hbg : begN jobs p.1 (n + 1) = (begN jobs p.1 n || decide ((jb jobs n).release = p.1)) := rfl
          have HG := Hid.mk hbg
          clear hbg hbeg
          cases hcb : begN jobs p.1 n with
          | true =>
            rw [hcb] at g19 HG
            (repeat' simp -dsimp (disch := omega) only [↓EA, EB, Nat.reduceEqDiff, ↓reduceIte, eq_self, *, hjz.len])
            exact Next.mk (n + 1) ⟨rfl, by omega, rfl, rfl, rfl, rfl, rfl, rfl, rfl, by rw [HG.out]; rfl, by simp only [get]; simp⟩ (by omega)
          | false =>
            rw [hcb] at g19 HG
            (repeat' simp -dsimp (disch := omega) only [↓EA, EB, Nat.reduceEqDiff, ↓reduceIte, eq_self, *, hjz.len, hjz.ixs, hjz.ld, encN, hdJ])
            exact Next.mk (n + 1) ⟨rfl, by omega, rfl, rfl, rfl, rfl, rfl, rfl, rfl, by rw [HG.out]; rfl, by simp only [get]; simp⟩ (by omega)
        · have hn3 : ¬ (n : Int) < jobs.length := by omega
          have hnn : n = jobs.length := by omega
          subst hnn
          rw [hbeg] at g19
          (repeat' (first | (with_reducible refine A2 (fun _ => ?_) (fun _ => ?_) <;> try (exfalso; omega)) | simp -dsimp (disch := omega) only [↓EA, EB, Nat.reduceEqDiff, ↓reduceIte, eq_self, *, bH_0, bH_1, bH_2, bH_s0, bH_s1, bH_s2]))
          refine ⟨.inl trivial, .inr (.inl trivial), .inr (.inr trivial), fun b hb hbe => ?_, rfl, ?_⟩
          · rcases hbe with rfl | rfl | rfl
            · rw [bH_0]; rfl
            · rw [bH_1]; rfl
            · rw [bH_2]; rfl
          · rw [bH_s3, List.take_of_length_le (by rw [bH_len]; omega), H2.out.1, H2.out.2, ← hW1'.out]
            congr 1
            omega
      · rintro v h' ⟨e, h3, ⟨he3, rfl⟩, rfl, rfl⟩
        rw [he3]
        exact .inl ⟨rfl, rfl⟩
    · rintro v h' (rfl | hf)
      · refine ⟨_, by rw [bH_3, ← hLr], by simp, ?_, ?_⟩
        · rintro b hb (rfl | rfl | rfl | rfl)
          · rw [bH_0]; rfl
          · rw [bH_1]; rfl
          · rw [bH_2]; rfl
          · simp at hb
        · rw [bH_take, hBB.out.sum, Int.sub_self]
          show WO _ _ _
          have hresx : ∀ x, (H6 ++ x)[h.length]? = some (.cells [.bool false] false) := fun x => by
            rw [List.getElem?_append_left (List.getElem?_eq_some_iff.1 hres6).1]; exact hres6
          have hlt6 := (List.getElem?_eq_some_iff.1 hres6).1
          have hBn : (H6 ++ [LObj.cells [Value.int .i64 0] false, LObj.cells [Value.int .i64 (lastB (busyP rs.L) (busyP rs.L).length)] false, LObj.cells [Value.int .i64 ((busyP rs.L).length : Nat)] false]).length = H6.length + 3 := by simp
          have hG0 : (H6 ++ [LObj.cells [Value.int .i64 0] false, LObj.cells [Value.int .i64 (lastB (busyP rs.L) (busyP rs.L).length)] false, LObj.cells [Value.int .i64 ((busyP rs.L).length : Nat)] false])[H6.length]? = some (.cells [.int .i64 0] false) := by rw [geta0]; rfl
          have hG2 : (H6 ++ [LObj.cells [Value.int .i64 0] false, LObj.cells [Value.int .i64 (lastB (busyP rs.L) (busyP rs.L).length)] false, LObj.cells [Value.int .i64 ((busyP rs.L).length : Nat)] false])[H6.length + 2]? = some (.cells [.int .i64 ((busyP rs.L).length : Nat)] false) := by rw [geta]; rfl
          have hGb := (Pre.app H6 [LObj.cells [Value.int .i64 0] false, LObj.cells [Value.int .i64 (lastB (busyP rs.L) (busyP rs.L).length)] false, LObj.cells [Value.int .i64 ((busyP rs.L).length : Nat)] false])
          have hGres := hresx [LObj.cells [Value.int .i64 0] false, LObj.cells [Value.int .i64 (lastB (busyP rs.L) (busyP rs.L).length)] false, LObj.cells [Value.int .i64 ((busyP rs.L).length : Nat)] false]
          have hyl : (busyP rs.L).length ≤ rs.L.length := yN_len rs.L.length rs.L
          have fewL := hu.few
          generalize (H6 ++ [LObj.cells [Value.int .i64 0] false, LObj.cells [Value.int .i64 (lastB (busyP rs.L) (busyP rs.L).length)] false, LObj.cells [Value.int .i64 ((busyP rs.L).length : Nat)] false]) = G at *
          have huG := hu.pre hGb
          have hbG := hGb _ _ hbx
          have hWg : h.length ≤ G.length ∧ h.length ≤ G.length + 1 := by omega
          have hltG : h.length < G.length := by omega
          have hB1 : H6.length + 3 ≤ G.length := by omega
          have hB2 : G.length ≤ H6.length + 3 := by omega
          clear hBn
          clear hLr hT0 hBL hJJ hresx
          generalize lo = lo0 at *
          have hset1 : ∀ x, (G ++ [LObj.cells [.int .i64 0] false]).set G.length (.cells [.int .i64 x] false) = G ++ [.cells [.int .i64 x] false] := fun x => by
            rw [List.set_append_right _ _ (Nat.le_refl _), Nat.sub_self]; rfl
          (repeat' simp -dsimp (disch := omega) only [↓EA, EB, Nat.reduceEqDiff, ↓reduceIte, newCells, eq_self, *])
          clear hset1 hrest
          generalize many % 9 = q9 at *
          have hGx0 : ∀ x, (G ++ x)[H6.length]? = some (.cells [.int .i64 0] false) := fun x => by rw [List.getElem?_append_left (by omega)]; exact hG0
          have hGx2 : ∀ x, (G ++ x)[H6.length + 2]? = some (.cells [.int .i64 ((busyP rs.L).length : Nat)] false) := fun x => by rw [List.getElem?_append_left (by omega)]; exact hG2
          have hGxr : ∀ x, (G ++ x)[h.length]? = some (.cells [.bool false] false) := fun x => by rw [List.getElem?_append_left (by omega)]; exact hGres
          have hGxl : ∀ x : List LObj, h.length < (G ++ x).length := fun x => by rw [List.length_append]; omega
          have hbxG : bx < G.length := by omega
          refine co_rng hE.keep (W' := fun b => b = G.length + 1 ∨ b = G.length + 2) rfl (fun x hx hlt => by omega) ?_
          have hBL : (G ++ [LObj.cells [Value.int .i64 q9] false, LObj.cells [Value.int .i64 0] false]).length = G.length + 2 := by simp
          rw [hBL]
          generalize hLr : LObj.loop _ = lo
          have hT0 : G ++ [LObj.cells [Value.int .i64 q9] false, LObj.cells [Value.int .i64 0] false] ++ [lo] = gH G q9 0 lo := by simp [gH]
          rw [hT0]
          have hJJ : ∀ k hh, (hh = gH G q9 (k : Nat) lo ∧ (k : Int) ≤ q9) → hh.length = (gH G q9 0 lo).length ∧ hh[bx]? = some (.cells [u] false) ∧ Rd 3 encS hh u rs.L := fun k hh e => by
            obtain ⟨rfl, _⟩ := e
            exact ⟨by rw [gH_len, gH_len], gH_pre _ _ _ _ _ _ hbG, huG.pre (gH_pre _ _ _ _)⟩
          refine WX.mono (busy_iter hE (J := fun k hh => hh = gH G q9 (k : Nat) lo ∧ (k : Int) ≤ q9) (Stop := fun hh => (∃ r1 : LoopRec, r1.state ≠ .busy ∧ r1.pending = some (some 6) ∧ hh = gH G q9 q9 (.loop r1)) ∧ q9 < (busyP rs.L).length) hJJ ⟨rfl, by omega⟩ (fun hh hs => by obtain ⟨⟨r1, _, _, rfl⟩, _⟩ := hs; rw [gH_len, gH_len]) ?_) (fun b hb => hb) ?_
          · rintro k hh p hp ⟨rfl, hkq⟩
            have hk : k < (busyP rs.L).length := (List.getElem?_eq_some_iff.1 hp).1
            have hL := (gH_2 G q9 (k : Nat) lo).trans (congrArg some hLr.symm)
            have hlenT := gH_len G q9 (k : Nat)
            by_cases hq : (k : Int) = q9
            · refine WX.mono (wx_round hE.keep (W := fun b => b = G.length + 1) (Rr := fun e h3 => e = .exit 6 ∧ h3 = gH G q9 q9 lo) hL rfl rfl rfl rfl (fun b hb => by omega) ?_) (fun b hb => by omega) ?_
              · have HLr := Hid.mk hLr
                have HQ := Hid.mk hq
                rw [hq]
                clear hL hp hBL hT0 hLr hJJ hq
                dsimp only
                rw [HLr.out]
                generalize LObj.loop _ = lb
                unfold c_cadencylaw11_TraceBusy_l4
                (repeat' simp -dsimp (disch := omega) only [↓EA, EB, eq_self, *])
                unfold c_cadencylaw11_TraceBusy_l5
                (repeat' simp -dsimp (disch := omega) only [↓EA, EB, Nat.reduceEqDiff, ↓reduceIte, eq_self, *, gH_s2, gH_0, gH_1])
                refine ⟨fun b hb hbe => ?_, ?_⟩
                · subst hbe; rw [gH_1]; rfl
                · rw [List.take_of_length_le (by rw [gH_len]; omega)]
              · rintro v h' ⟨e, h3, ⟨rfl, rfl⟩, rfl, rfl⟩
                exact .inr ⟨rfl, ⟨_, by simp, rfl, gH_s2 _ _ _ _ _⟩, by omega⟩
            · refine WX.mono (wx_round hE.keep (W := fun b => b = G.length + 1) (Rr := fun e h3 => leaves e = none ∧ h3 = gH G q9 ((k + 1 : Nat) : Int) lo) hL rfl rfl rfl rfl (fun b hb => by omega) ?_) (fun b hb => by omega) ?_
              · have HLr := Hid.mk hLr
                clear hL hp hBL hT0 hLr hJJ
                dsimp only
                rw [HLr.out]
                generalize LObj.loop _ = lb
                unfold c_cadencylaw11_TraceBusy_l4
                (repeat' simp -dsimp (disch := omega) only [↓EA, EB, eq_self, *])
                unfold c_cadencylaw11_TraceBusy_l5
                (repeat' simp -dsimp (disch := omega) only [↓EA, EB, Nat.reduceEqDiff, ↓reduceIte, eq_self, *, gH_s2, gH_0, gH_1, gH_s1])
                refine ⟨fun b hb hbe => ?_, rfl, ?_⟩
                · subst hbe; rw [gH_1]; rfl
                · rw [List.take_of_length_le (by rw [gH_len]; omega)]; rfl
              · rintro v h' ⟨e, h3, ⟨he3, rfl⟩, rfl, rfl⟩
                rw [he3]
                exact .inl ⟨rfl, rfl, by omega⟩
          · rintro v h' (⟨rfl, hle⟩ | ⟨⟨r1, hst, hpe, rfl⟩, hlt⟩)
            · refine ⟨_, by rw [gH_2, ← hLr], by simp, ?_, ?_⟩
              · rintro b hb (rfl | rfl)
                · rw [gH_1]; rfl
                · simp at hb
              · rw [gH_take]
                show WO _ _ _
                have hmin : min q9 ((busyP rs.L).length : Int) = (busyP rs.L).length := by omega
                (repeat' simp -dsimp (disch := omega) only [↓EA, EB, Nat.reduceEqDiff, ↓reduceIte, eq_self, *, gset (hGxl _)])
            · refine ⟨r1, gH_2 _ _ _ _, hst, ?_, ?_⟩
              · rintro b hb (rfl | rfl)
                · rw [gH_1]; rfl
                · simp at hb
              · rw [gH_take, hpe]
                have hmin : min q9 ((busyP rs.L).length : Int) = q9 := by omega
                (repeat' simp -dsimp (disch := omega) only [↓EA, EB, Nat.reduceEqDiff, ↓reduceIte, eq_self, *, gset (hGxl _)])
      · exact hf.elim
end Go.L.Try
