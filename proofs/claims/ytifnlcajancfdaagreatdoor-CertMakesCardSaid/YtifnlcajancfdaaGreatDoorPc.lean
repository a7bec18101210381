/- TASKS BY URGENCY: task.Order, of fewer than 20. -/
import Derived.Test.YtifnlcajancfdaaGreatDoorPa
import Derived.Test.YtifnlcajancfdaaGreatDoorPb
set_option linter.unusedVariables false
set_option linter.unusedSimpArgs false
set_option maxRecDepth 100000
set_option maxHeartbeats 2000000
namespace Go.L.Try
open Go Go.L
variable {E : Env}
theorem cmpCompareI (hE : Laid E) (h : Heap) (x y : Int) : callW E (.func (.func n_cmp_Compare_int) #[] #[]) [.int .i64 x, .int .i64 y] h = some (.int .i64 (cmp3 x y), h, []) := by
  have nan : ∀ (h : Heap) (x : Int), callW E (.func (.func n_cmp_isNaN_int) #[] #[]) [.int .i64 x] h = some (.bool false, h, []) := fun h x => by
    refine fn_same hE.cmp_isNaN_int rfl (by simp) ?_
    simp -dsimp (disch := omega) only [↓EA, EB, Nat.reduceEqDiff, Nat.reduceAdd, Nat.reduceLeDiff, Nat.reduceMul, ↓reduceIte, reduceCtorEq, newCells, bslV, eq_self, argsF]
  refine fn_same hE.cmp_Compare_int rfl (by simp) ?_
  simp only [argsF]
  (repeat' (first | (with_reducible refine A1 (fun _ => ?_) (fun _ => ?_) <;> try (exfalso; omega)) | (with_reducible refine A2 (fun _ => ?_) (fun _ => ?_) <;> try (exfalso; omega)) | (with_reducible refine A3 (fun _ => ?_) (fun _ => ?_) <;> try (exfalso; omega)) | refine A4 (fun _ => ?_) (fun _ => ?_) | refine A5 (fun _ => ?_) (fun _ => ?_) | refine A6 (fun _ => ?_) (fun _ => ?_) | simp -dsimp (disch := omega) only [↓EA, EB, Nat.reduceEqDiff, Nat.reduceAdd, Nat.reduceLeDiff, Nat.reduceMul, ↓reduceIte, reduceCtorEq, newCells, bslV, eq_self, *, nan]))
  · simp [cmp3, *]
  · have : ¬ x < y := by omega
    simp [cmp3, *]
  · have : ¬ x < y := by omega
    have : ¬ y < x := by omega
    simp [cmp3, *]
theorem cmpOrderT (hE : Laid E) {h : Heap} {bx : Nat} {vl : Value} {l : List Task} (hb : h[bx]? = some (.cells [vl] false)) (hl : Rd 7 encT h vl l) {a b : Int} (ha : 0 ≤ a ∧ a < l.length) (hb2 : 0 ≤ b ∧ b < l.length) :
    callW E (.func (.func n_task_Order_f1) #[] #[.pointer (some ⟨bx, 0, none⟩)]) [.int .i64 a, .int .i64 b] h = some (.int .i64 (cmp3 (atI l a).P (atI l b).P), h, []) := by
  rw [callW_capK hE.task_Order_f1]
  have hc := fun hh => cmpCompareI hE hh (atI l a).P (atI l b).P
  refine fn_same hE.task_Order_f1 rfl (by simp) ?_
  simp only [List.nil_append, List.append_nil, List.cons_append, argsF]
  (repeat' (first | (with_reducible refine A1 (fun _ => ?_) (fun _ => ?_) <;> try (exfalso; omega)) | (with_reducible refine A2 (fun _ => ?_) (fun _ => ?_) <;> try (exfalso; omega)) | (with_reducible refine A3 (fun _ => ?_) (fun _ => ?_) <;> try (exfalso; omega)) | refine A4 (fun _ => ?_) (fun _ => ?_) | refine A5 (fun _ => ?_) (fun _ => ?_) | refine A6 (fun _ => ?_) (fun _ => ?_) | simp -dsimp (disch := omega) only [↓EA, EB, Nat.reduceEqDiff, Nat.reduceAdd, Nat.reduceLeDiff, Nat.reduceMul, ↓reduceIte, reduceCtorEq, newCells, bslV, eq_self, *, hl.len, hl.ixs, hl.ld, hl.ld0, hl.lda, hl.ldx, hl.ldx0, hl.ldxa, encT, hb]))
def ltP (l : List Task) (a b : Nat) : Prop := (atI l (a : Int)).P < (atI l (b : Int)).P ∨ ((atI l (a : Int)).P = (atI l (b : Int)).P ∧ a < b)
theorem orderT (hE : Laid E) {h : Heap} {vj : Value} {lv : List Task} (hlv : Rd 7 encT h vj lv) (hn : lv.length < 20) :
    ∃ v ys, callW E (.func (.func n_task_Order) #[] #[]) [vj] h = some (v, h ++ ys, []) ∧ ∃ o : List Nat, RdO h.length 1 encI (h ++ ys) v (o.map Int.ofNat) ∧ (∀ i, i ∈ o ↔ i < lv.length) ∧ o.Pairwise (ltP lv) := by
  have hmov : Movable h.length (fun hh v => ∃ o : List Nat, RdO h.length 1 encI hh v (o.map Int.ofNat) ∧ (∀ i, i ∈ o ↔ i < lv.length) ∧ o.Pairwise (ltP lv)) 1 := by
    refine Movable.ex fun o => ?_
    have h1 := RdO.movable (m := h.length) (sz := 1) flatI (o.map Int.ofNat)
    exact ⟨fun ρ a b d v v' hm hv ⟨p, q⟩ => ⟨h1.move ρ a b d v v' hm hv p, q⟩, fun a v ⟨p, _⟩ => h1.noy a v p⟩
  refine fn_new hE.task_Order rfl hmov (by simp) ?_
  have few := hlv.few
  have o1 := hlv.one
  have c1 := hlv.cv
  obtain ⟨n, hnn⟩ : ∃ n, n = lv.length := ⟨_, rfl⟩
  have hl2 : lensV false vj = some (.int .i64 n) := by rw [hlv.len, hnn]
  have hn2 : (n : Int) < 20 := by omega
  have Hnn := Hid.mk hnn
  clear hnn
  simp only [argsF]
  have hup0 : List.replicate ((n : Int)).toNat (0 : Int) = upto 0 n := by simp [upto]
  (repeat' (first | (with_reducible refine A1 (fun _ => ?_) (fun _ => ?_) <;> try (exfalso; omega)) | (with_reducible refine A2 (fun _ => ?_) (fun _ => ?_) <;> try (exfalso; omega)) | (with_reducible refine A3 (fun _ => ?_) (fun _ => ?_) <;> try (exfalso; omega)) | refine A4 (fun _ => ?_) (fun _ => ?_) | refine A5 (fun _ => ?_) (fun _ => ?_) | refine A6 (fun _ => ?_) (fun _ => ?_) | simp -dsimp (disch := omega) only [↓EA, EB, Nat.reduceEqDiff, Nat.reduceAdd, Nat.reduceLeDiff, Nat.reduceMul, ↓reduceIte, reduceCtorEq, newCells, bslV, eq_self, *, hup0, Int.toNat_natCast]))
  refine WO.loop (fun (i : Nat) fr h' => h' = h ++ [.cells [vj] false, icells (upto i n)] ∧ i ≤ n ∧ get fr 1 = .pointer (some ⟨h.length, 0, none⟩) ∧ get fr 3 = .slice (some ⟨h.length + 1, 0, none⟩) n n ∧ get fr 9 = .int .i64 n ∧ get fr 10 = .int .i64 i) (fun i => n - i) ?_ 0 ⟨rfl, Nat.zero_le _, rfl, rfl, rfl, rfl⟩
  rintro i fr h' ⟨rfl, hin, g1, g3, g9, g10⟩
  unfold c_task_Order_l0
  by_cases hlt : i < n
  · have hul := upto_len hin
    have hus := upto_set hlt
    have i1 := ixs_some (size := 1) (n := n) (c := n) (b := h.length + 1) (o := 0) (sp := none) (k := .i64) (j := (i : Int)) (by omega) (by omega)
    have s1 := fun hh => ints_st (h := hh) (b := h.length + 1) (l := upto i n) (i := (i : Int)) (x := (i : Int)) (by omega) (by omega)
    rw [Int.toNat_natCast, Nat.mul_one] at i1
    rw [Int.toNat_natCast, Nat.mul_one, hus] at s1
    clear hup0
    (repeat' (first | (with_reducible refine A1 (fun _ => ?_) (fun _ => ?_) <;> try (exfalso; omega)) | (with_reducible refine A2 (fun _ => ?_) (fun _ => ?_) <;> try (exfalso; omega)) | (with_reducible refine A3 (fun _ => ?_) (fun _ => ?_) <;> try (exfalso; omega)) | refine A4 (fun _ => ?_) (fun _ => ?_) | refine A5 (fun _ => ?_) (fun _ => ?_) | refine A6 (fun _ => ?_) (fun _ => ?_) | simp -dsimp (disch := omega) only [↓EA, EB, Nat.reduceEqDiff, Nat.reduceAdd, Nat.reduceLeDiff, Nat.reduceMul, ↓reduceIte, reduceCtorEq, newCells, bslV, eq_self, *, geta, List.getElem?_cons_succ, Nat.zero_add]))
    refine Next.mk (i + 1) ⟨rfl, by omega, rfl, rfl, rfl, by simp only [get]; simp⟩ (by omega)
  · have hie : i = n := by omega
    subst hie
    have hu : upto i i = (List.range i).map Int.ofNat := by simp [upto]
    rw [hu]
    clear hup0
    (repeat' (first | (with_reducible refine A1 (fun _ => ?_) (fun _ => ?_) <;> try (exfalso; omega)) | (with_reducible refine A2 (fun _ => ?_) (fun _ => ?_) <;> try (exfalso; omega)) | (with_reducible refine A3 (fun _ => ?_) (fun _ => ?_) <;> try (exfalso; omega)) | refine A4 (fun _ => ?_) (fun _ => ?_) | refine A5 (fun _ => ?_) (fun _ => ?_) | refine A6 (fun _ => ?_) (fun _ => ?_) | simp -dsimp (disch := omega) only [↓EA, EB, Nat.reduceEqDiff, Nat.reduceAdd, Nat.reduceLeDiff, Nat.reduceMul, ↓reduceIte, reduceCtorEq, newCells, bslV, eq_self, *]))
    have hpb : Pre (h ++ [.cells [vj] false]) (h ++ [.cells [vj] false, icells ((List.range i).map Int.ofNat)]) := by
      have := Pre.app (h ++ [.cells [vj] false]) [icells ((List.range i).map Int.ofNat)]
      rwa [List.append_assoc] at this
    have hcmp : CmpOK E (h ++ [.cells [vj] false]) (.func (.func n_task_Order_f1) #[] #[.pointer (some ⟨h.length, 0, none⟩)]) (fun a => (atI lv a).P) i := fun hh hp a b ha1 ha2 hb1 hb2 => by
      have hbx : hh[h.length]? = some (.cells [vj] false) := hp _ _ (by rw [geta0]; rfl)
      have hnn := Hnn.out
      exact cmpOrderT hE hbx ((hlv.app _).pre hp) (by omega) (by omega)
    have hsort := sortStable hE (h := h ++ [.cells [vj] false, icells ((List.range i).map Int.ofNat)]) (b := h.length + 1) (cap := i) (M := (List.range i).map Int.ofNat) (by rw [geta]; rfl) hpb (by simp) hcmp (fun x hx => by
      obtain ⟨k, hk, rfl⟩ := List.mem_map.1 hx
      have := List.mem_range.1 hk
      show 0 ≤ (k : Int) ∧ (k : Int) < i
      omega) (by
      rw [List.pairwise_map]
      refine List.Pairwise.imp ?_ (List.pairwise_lt_range (n := i))
      intro a b hab _
      show (a : Int) < b
      omega) (by simp; omega) (W := fun b => h.length ≤ b) (by omega)
    rw [List.length_map, List.length_range] at hsort
    refine WX.mono hsort (fun b hb => hb) fun v h2 ⟨M', p1, p2, p3⟩ => ?_
    subst p3
    have hset : (h ++ [.cells [vj] false, icells ((List.range i).map Int.ofNat)]).set (h.length + 1) (icells M') = h ++ [.cells [vj] false, icells M'] := by rw [seta]; rfl
    rw [hset]
    have Hp := Hid.mk (And.intro p1 p2)
    clear p1 p2
    (repeat' (first | (with_reducible refine A1 (fun _ => ?_) (fun _ => ?_) <;> try (exfalso; omega)) | (with_reducible refine A2 (fun _ => ?_) (fun _ => ?_) <;> try (exfalso; omega)) | (with_reducible refine A3 (fun _ => ?_) (fun _ => ?_) <;> try (exfalso; omega)) | refine A4 (fun _ => ?_) (fun _ => ?_) | refine A5 (fun _ => ?_) (fun _ => ?_) | refine A6 (fun _ => ?_) (fun _ => ?_) | simp -dsimp (disch := omega) only [↓EA, EB, Nat.reduceEqDiff, Nat.reduceAdd, Nat.reduceLeDiff, Nat.reduceMul, ↓reduceIte, reduceCtorEq, newCells, bslV, eq_self, *]))
    refine ⟨⟨_, rfl⟩, ?_⟩
    have hnn := Hnn.out
    obtain ⟨p1, p2⟩ := Hp.out
    have hM : ∀ x ∈ M', 0 ≤ x ∧ x < i := fun x hx => by
      obtain ⟨k, hk, rfl⟩ := List.mem_map.1 (p1.mem_iff.1 hx)
      have := List.mem_range.1 hk
      show 0 ≤ (k : Int) ∧ (k : Int) < i
      omega
    have hMl : M'.length = i := by rw [p1.length_eq]; simp
    have hback : (M'.map Int.toNat).map Int.ofNat = M' := by
      rw [List.map_map]
      conv => rhs; rw [← List.map_id M']
      refine List.map_congr_left fun x hx => ?_
      have := hM x hx
      show ((x.toNat : Nat) : Int) = x
      omega
    refine ⟨M'.map Int.toNat, ?_, fun k => ?_, ?_⟩
    · rw [hback]
      refine ⟨fun e he => by obtain ⟨a, _, rfl⟩ := List.mem_map.1 he; rfl, by rw [List.length_map]; omega, .inr ⟨h.length + 1, 0, none, i, ints M', by omega, by rw [List.length_map, hMl], by rw [geta]; rfl, ?_, ?_, by rw [List.length_map]; omega, .inl rfl⟩⟩
      · rw [List.length_map, ints_len]; omega
      · rw [List.drop_zero, List.length_map, Nat.mul_one, ← ints_len M', List.take_length, ints_flat]
    · rw [← hnn]
      constructor
      · intro hk
        obtain ⟨x, hx, rfl⟩ := List.mem_map.1 hk
        have := hM x hx; omega
      · intro hk
        refine List.mem_map.2 ⟨(k : Int), p1.mem_iff.2 (List.mem_map.2 ⟨k, List.mem_range.2 hk, rfl⟩), by omega⟩
    · rw [List.pairwise_map]
      refine List.Pairwise.imp_of_mem ?_ p2
      intro a b ha hb hab
      have ha1 := hM a ha
      have hb1 := hM b hb
      unfold ltP
      unfold leK at hab
      dsimp only at hab
      rw [show ((a.toNat : Nat) : Int) = a by omega, show ((b.toNat : Nat) : Int) = b by omega]
      omega
end Go.L.Try
namespace Go.L.Try
open Go Go.L
variable {E : Env}
instance (l : List Task) (a b : Nat) : Decidable (ltP l a b) := by unfold ltP; infer_instance
def rankN (l : List Task) (i : Nat) : Nat → Nat
  | 0 => 0
  | n + 1 => if ltP l n i then rankN l i n + 1 else rankN l i n
theorem rankN_le (l : List Task) (i : Nat) : ∀ n, rankN l i n ≤ n
  | 0 => Nat.le_refl _
  | n + 1 => by have := rankN_le l i n; unfold rankN; split <;> omega
theorem rankN_mono {l : List Task} {i j : Nat} (h : ltP l i j) : ∀ n, rankN l i n ≤ rankN l j n ∧ (i < n → rankN l i n < rankN l j n)
  | 0 => ⟨Nat.le_refl _, fun h => by omega⟩
  | n + 1 => by
    obtain ⟨a, b⟩ := rankN_mono h n
    have tr : ltP l n i → ltP l n j := fun h2 => by unfold ltP at *; omega
    have nn : ¬ ltP l i i := by unfold ltP; omega
    unfold rankN
    by_cases h1 : ltP l n i
    · rw [if_pos h1, if_pos (tr h1)]
      refine ⟨by omega, fun hi => ?_⟩
      have : i ≠ n := fun e => by subst e; exact nn h1
      have := b (by omega); omega
    · rw [if_neg h1]
      refine ⟨by split <;> omega, fun hi => ?_⟩
      by_cases e : i = n
      · subst e; rw [if_pos h]; omega
      · have := b (by omega); split <;> omega
theorem rank_inj {l : List Task} {i j : Nat} (hi : i < l.length) (hj : j < l.length) (h : rankN l i l.length = rankN l j l.length) : i = j := by
  rcases Nat.lt_trichotomy i j with e | e | e
  · by_cases h2 : (atI l (i : Int)).P ≤ (atI l (j : Int)).P
    · have := (rankN_mono (l := l) (i := i) (j := j) (by unfold ltP; omega) l.length).2 hi; omega
    · have := (rankN_mono (l := l) (i := j) (j := i) (by unfold ltP; omega) l.length).2 hj; omega
  · exact e
  · by_cases h2 : (atI l (j : Int)).P ≤ (atI l (i : Int)).P
    · have := (rankN_mono (l := l) (i := j) (j := i) (by unfold ltP; omega) l.length).2 hj; omega
    · have := (rankN_mono (l := l) (i := i) (j := j) (by unfold ltP; omega) l.length).2 hi; omega
theorem rankN_lt {l : List Task} {i : Nat} (hi : i < l.length) : rankN l i l.length < l.length := by
  have key : ∀ n, i < n → rankN l i n < n := by
    intro n hn
    induction n with
    | zero => omega
    | succ n ih =>
      have h0 := rankN_le l i n
      have nn : ¬ ltP l i i := by unfold ltP; omega
      unfold rankN
      by_cases e : i = n
      · subst e; rw [if_neg nn]; omega
      · have := ih (by omega); split <;> omega
  exact key _ hi
theorem nodup_leD : ∀ (p es : List Nat), p.Nodup → (∀ x ∈ p, x ∈ es) → p.length ≤ es.length
  | [], _, _, _ => Nat.zero_le _
  | i :: r, es, hd, hs => by
    have hi := hs i (by simp)
    have hl := List.length_erase_of_mem hi
    have h := nodup_leD r (es.erase i) (List.nodup_cons.1 hd).2 fun x hx => (List.mem_erase_of_ne (fun e => (List.nodup_cons.1 hd).1 (by rw [← e]; exact hx))).2 (hs x (by simp [hx]))
    have := List.length_pos_of_mem hi
    simp only [List.length_cons]
    omega
theorem order_rank {l : List Task} {o : List Nat} (hm : ∀ i, i ∈ o ↔ i < l.length) (hp : o.Pairwise (ltP l)) : o.length = l.length ∧ ∀ r (h : r < o.length), rankN l o[r] l.length = r := by
  have hnd : o.Nodup := hp.imp fun {a b} h e => by subst e; unfold ltP at h; omega
  have h1 := nodup_leD o (List.range l.length) hnd fun x hx => List.mem_range.2 ((hm x).1 hx)
  have h2 := nodup_leD (List.range l.length) o List.nodup_range fun x hx => (hm x).2 (List.mem_range.1 hx)
  rw [List.length_range] at h1 h2
  have hlen : o.length = l.length := by omega
  have hlt : ∀ r (h : r < o.length), o[r] < l.length := fun r h => (hm _).1 (List.getElem_mem h)
  have hstep : ∀ r (h : r + 1 < o.length), rankN l (o[r]'(by omega)) l.length < rankN l o[r + 1] l.length := fun r h =>
    (rankN_mono (List.pairwise_iff_getElem.1 hp r (r + 1) (by omega) h (by omega)) l.length).2 (hlt r (by omega))
  have hge : ∀ r (h : r < o.length), r ≤ rankN l o[r] l.length := by
    intro r
    induction r with
    | zero => intro _; omega
    | succ r ih => intro h; have a := ih (by omega); have b := hstep r h; omega
  have hle : ∀ d r (h : r < o.length), r + d + 1 = o.length → rankN l o[r] l.length ≤ r := by
    intro d
    induction d with
    | zero => intro r h e; have := rankN_lt (hlt r h); omega
    | succ d ih => intro r h e; have a := ih (r + 1) (by omega) (by omega); have b := hstep r (by omega); omega
  exact ⟨hlen, fun r h => by have a := hge r h; have b := hle (o.length - r - 1) r h (by omega); omega⟩
theorem rankS (hE : Laid E) {h : Heap} {vl : Value} {l : List Task} (hl : Rd 7 encT h vl l) {i : Nat} (hi : i < l.length) (hn : l.length ≤ 1024) :
    callW E (.func (.func n_ref04_Rank) #[] #[]) [vl, .int .i64 (i : Int)] h = some (.int .i64 (rankN l i l.length : Nat), h, []) := by
  refine fn_same hE.ref04_Rank rfl (by simp) ?_
  simp only [argsF]
  have few := hl.few
  (repeat' (first | (with_reducible refine A1 (fun _ => ?_) (fun _ => ?_) <;> try (exfalso; omega)) | (with_reducible refine A2 (fun _ => ?_) (fun _ => ?_) <;> try (exfalso; omega)) | (with_reducible refine A3 (fun _ => ?_) (fun _ => ?_) <;> try (exfalso; omega)) | refine A4 (fun _ => ?_) (fun _ => ?_) | refine A5 (fun _ => ?_) (fun _ => ?_) | refine A6 (fun _ => ?_) (fun _ => ?_) | simp -dsimp (disch := omega) only [↓EA, EB, Nat.reduceEqDiff, Nat.reduceAdd, Nat.reduceLeDiff, Nat.reduceMul, ↓reduceIte, reduceCtorEq, newCells, bslV, eq_self, *]))
  refine WO.loop (fun (k : Nat) fr h' => h' = h ∧ k ≤ l.length ∧ get fr 0 = vl ∧ get fr 1 = .int .i64 (i : Int) ∧ get fr 5 = .int .i64 (rankN l i k : Nat) ∧ get fr 6 = .int .i64 k) (fun k => l.length - k) ?_ 0 ⟨rfl, Nat.zero_le _, rfl, rfl, rfl, rfl⟩
  rintro k fr h' ⟨rfl, hk, g0, g1, g5, g6⟩
  unfold c_ref04_Rank_l0
  rcases Nat.lt_or_ge k l.length with hlt | hge
  · have hrk := rankN_le l i k
    have hs : rankN l i (k + 1) = if ltP l k i then rankN l i k + 1 else rankN l i k := rfl
    have Hs := Hid.mk hs
    clear hs
    generalize rankN l i k = q at *
    have hii : (i : Int) < l.length := by omega
    (repeat' (first | (with_reducible refine A1 (fun _ => ?_) (fun _ => ?_) <;> try (exfalso; omega)) | (with_reducible refine A2 (fun _ => ?_) (fun _ => ?_) <;> try (exfalso; omega)) | (with_reducible refine A3 (fun _ => ?_) (fun _ => ?_) <;> try (exfalso; omega)) | refine A4 (fun _ => ?_) (fun _ => ?_) | refine A5 (fun _ => ?_) (fun _ => ?_) | refine A6 (fun _ => ?_) (fun _ => ?_) | simp -dsimp (disch := omega) only [↓EA, EB, Nat.reduceEqDiff, Nat.reduceAdd, Nat.reduceLeDiff, Nat.reduceMul, ↓reduceIte, reduceCtorEq, newCells, bslV, eq_self, *, hl.len, hl.ixs, hl.ld, hl.ld0, hl.lda, hl.ldx, hl.ldx0, hl.ldxa, encT]))
    all_goals
      refine Next.mk (k + 1) ⟨rfl, by omega, rfl, rfl, ?_, rfl⟩ (by omega)
      rw [Hs.out]
      first
        | (rw [if_pos (show ltP l k i by unfold ltP; omega)]; rfl)
        | (rw [if_neg (show ¬ ltP l k i by unfold ltP; omega)]; rfl)
  · have e : k = l.length := by omega
    subst e
    (repeat' (first | (with_reducible refine A1 (fun _ => ?_) (fun _ => ?_) <;> try (exfalso; omega)) | (with_reducible refine A2 (fun _ => ?_) (fun _ => ?_) <;> try (exfalso; omega)) | (with_reducible refine A3 (fun _ => ?_) (fun _ => ?_) <;> try (exfalso; omega)) | refine A4 (fun _ => ?_) (fun _ => ?_) | refine A5 (fun _ => ?_) (fun _ => ?_) | refine A6 (fun _ => ?_) (fun _ => ?_) | simp -dsimp (disch := omega) only [↓EA, EB, Nat.reduceEqDiff, Nat.reduceAdd, Nat.reduceLeDiff, Nat.reduceMul, ↓reduceIte, reduceCtorEq, newCells, bslV, eq_self, *, hl.len, hl.ixs, hl.ld, hl.ld0, hl.lda, hl.ldx, hl.ldx0, hl.ldxa]))
theorem byUrgencyS (hE : Laid E) {h : Heap} {vl : Value} {l : List Task} (hl : Rd 7 encT h vl l) {i0 : Nat} (hi : i0 < l.length) (hn : l.length ≤ 1024) :
    callW E (.func (.func n_ref20_byUrgency) #[] #[]) [vl, .int .i64 (rankN l i0 l.length : Nat)] h = some (.int .i64 (i0 : Int), h, []) := by
  refine fn_same hE.ref20_byUrgency rfl (by simp) ?_
  simp only [argsF]
  have few := hl.few
  have hrk := rankN_lt hi
  obtain ⟨r, hr⟩ : ∃ r, rankN l i0 l.length = r := ⟨_, rfl⟩
  rw [hr]
  (repeat' (first | (with_reducible refine A1 (fun _ => ?_) (fun _ => ?_) <;> try (exfalso; omega)) | (with_reducible refine A2 (fun _ => ?_) (fun _ => ?_) <;> try (exfalso; omega)) | (with_reducible refine A3 (fun _ => ?_) (fun _ => ?_) <;> try (exfalso; omega)) | refine A4 (fun _ => ?_) (fun _ => ?_) | refine A5 (fun _ => ?_) (fun _ => ?_) | refine A6 (fun _ => ?_) (fun _ => ?_) | simp -dsimp (disch := omega) only [↓EA, EB, Nat.reduceEqDiff, Nat.reduceAdd, Nat.reduceLeDiff, Nat.reduceMul, ↓reduceIte, reduceCtorEq, newCells, bslV, eq_self, *]))
  refine WO.loop (fun (k : Nat) fr h' => h' = h ∧ k ≤ i0 ∧ get fr 0 = vl ∧ get fr 1 = .int .i64 (r : Int) ∧ get fr 5 = .int .i64 k) (fun k => l.length - k) ?_ 0 ⟨rfl, Nat.zero_le _, rfl, rfl, rfl⟩
  rintro k fr h' ⟨rfl, hk, g0, g1, g5⟩
  unfold c_ref20_byUrgency_l0
  have hkl : (k : Int) < l.length := by omega
  have hrs := rankS hE hl (i := k) (by omega) hn
  have hkr := rankN_le l k l.length
  by_cases e : k = i0
  · subst e
    rw [hr] at hrs
    (repeat' (first | (with_reducible refine A1 (fun _ => ?_) (fun _ => ?_) <;> try (exfalso; omega)) | (with_reducible refine A2 (fun _ => ?_) (fun _ => ?_) <;> try (exfalso; omega)) | (with_reducible refine A3 (fun _ => ?_) (fun _ => ?_) <;> try (exfalso; omega)) | refine A4 (fun _ => ?_) (fun _ => ?_) | refine A5 (fun _ => ?_) (fun _ => ?_) | refine A6 (fun _ => ?_) (fun _ => ?_) | simp -dsimp (disch := omega) only [↓EA, EB, Nat.reduceEqDiff, Nat.reduceAdd, Nat.reduceLeDiff, Nat.reduceMul, ↓reduceIte, reduceCtorEq, newCells, bslV, eq_self, *, hl.len, hl.ixs, hl.ld, hl.ld0, hl.lda, hl.ldx, hl.ldx0, hl.ldxa]))
  · have hne : ¬ rankN l k l.length = r := fun h2 => e (rank_inj (by omega) hi (by rw [h2, hr]))
    generalize rankN l k l.length = q at *
    have hne2 : ¬ (q : Int) = (r : Int) := by omega
    (repeat' (first | (with_reducible refine A1 (fun _ => ?_) (fun _ => ?_) <;> try (exfalso; omega)) | (with_reducible refine A2 (fun _ => ?_) (fun _ => ?_) <;> try (exfalso; omega)) | (with_reducible refine A3 (fun _ => ?_) (fun _ => ?_) <;> try (exfalso; omega)) | refine A4 (fun _ => ?_) (fun _ => ?_) | refine A5 (fun _ => ?_) (fun _ => ?_) | refine A6 (fun _ => ?_) (fun _ => ?_) | simp -dsimp (disch := omega) only [↓EA, EB, Nat.reduceEqDiff, Nat.reduceAdd, Nat.reduceLeDiff, Nat.reduceMul, ↓reduceIte, reduceCtorEq, newCells, bslV, eq_self, *, hl.len, hl.ixs, hl.ld, hl.ld0, hl.lda, hl.ldx, hl.ldx0, hl.ldxa]))
    exact Next.mk (k + 1) ⟨rfl, by omega, rfl, rfl, rfl⟩ (by omega)
end Go.L.Try
set_option maxHeartbeats 1000000
namespace Go.L.Try
open Go Go.L
variable {E : Env}
theorem sat_mono {x y : Int} (h : x ≤ y) : sat x ≤ sat y := by unfold sat; split <;> split <;> omega
theorem often_mono {t : Task} (ht : okTask t) {w v : Int} (h : w ≤ v) : oftenP t w ≤ oftenP t v := by
  obtain ⟨_, hT, _⟩ := ofBounds ht
  unfold oftenP
  exact Int.ediv_le_ediv (by omega) (by have := sat_mono (x := w + t.J) (y := v + t.J) (by omega); omega)
theorem higherN_mono {l : List Task} (hok : ∀ t ∈ l, okTask t) {i w v : Int} (h : w ≤ v) : ∀ k : Nat, k ≤ l.length → higherN l i w k ≤ higherN l i v k
  | 0, _ => Int.le_refl _
  | k + 1, hk => by
    have ih := higherN_mono hok (i := i) h k (by omega)
    have ht := hok _ (atI_mem (l := l) (i := (k : Int)) (by omega) (by omega))
    have hC := (ofBounds ht).1
    unfold higherN
    split
    · have h1 := Int.mul_le_mul_of_nonneg_right (often_mono ht h) (show 0 ≤ (atI l (k : Int)).C by omega)
      have h2 := sat_mono h1
      exact sat_mono (by omega)
    · exact ih
theorem higherP_in {l : List Task} {i w : Int} (hw : u64in w) : u64in (higherP l i w) := by
  unfold higherP
  split
  · rename_i h; exact higherN_in (isP_ok h.1).2.2 hw _ (Nat.le_refl _)
  · exact ⟨by decide, by decide⟩
theorem higherP_mono {l : List Task} {i w v : Int} (h0 : u64in w) (h : w ≤ v) : higherP l i w ≤ higherP l i v := by
  unfold higherP
  split
  · rename_i hc
    rw [if_pos ⟨hc.1, by omega⟩]
    exact higherN_mono (isP_ok hc.1).2.2 h _ (Nat.le_refl _)
  · split
    · rename_i hc
      have hv : higherN l i v l.length ≥ higherN l i 0 l.length := by
        have hw := h0.1
        exact higherN_mono (isP_ok hc.1).2.2 (by omega) _ (Nat.le_refl _)
      have := (higherN_in (isP_ok hc.1).2.2 (i := i) (w := 0) ⟨by decide, by decide⟩ l.length (Nat.le_refl _)).1
      omega
    · exact Int.le_refl _
theorem needP_eq {l : List Task} {i : Int} (h : isP l i = true) (w : Int) : needP l i w = sat (sat ((atI l i).C + blockP l i) + higherP l i w) := by
  obtain ⟨hi, _, hok⟩ := isP_ok h
  have hC := (ofBounds (hok _ (atI_mem hi.1 hi.2))).1
  unfold needP
  rw [if_pos h]
  have e : sat (0 + (atI l i).C) = (atI l i).C := by unfold sat; rw [if_pos (by omega)]; omega
  show sat (sat (sat (0 + (atI l i).C) + blockP l i) + higherP l i w) = _
  rw [e]
theorem blockP_in {l : List Task} {i : Int} (h : isP l i = true) : 0 ≤ blockP l i ∧ blockP l i ≤ 2147483647 := by
  unfold blockP; rw [if_pos h]; exact blockN_in (isP_ok h).2.2 i _ (Nat.le_refl _)
theorem needP_in {l : List Task} {i w : Int} (h : isP l i = true) (hw : u64in w) : u64in (needP l i w) ∧ 1 ≤ needP l i w := by
  obtain ⟨hi, _, hok⟩ := isP_ok h
  have hC := (ofBounds (hok _ (atI_mem hi.1 hi.2))).1
  have hB := blockP_in h
  have hH := (higherP_in (l := l) (i := i) hw).1
  rw [needP_eq h]
  have e : sat ((atI l i).C + blockP l i) = (atI l i).C + blockP l i := by unfold sat; rw [if_pos (by omega)]
  rw [e]
  refine ⟨sat_in (by omega), ?_⟩
  unfold sat; split <;> omega
theorem needP_mono {l : List Task} {i w v : Int} (h : isP l i = true) (h0 : u64in w) (hv : w ≤ v) : needP l i w ≤ needP l i v := by
  rw [needP_eq h, needP_eq h]
  have := higherP_mono (l := l) (i := i) h0 hv
  exact sat_mono (by omega)
def mostP (l : List Task) (i : Int) : Int := (atI l i).D - (atI l i).J
theorem mostP_in {l : List Task} {i : Int} (h : isP l i = true) : 1 ≤ mostP l i ∧ mostP l i ≤ 2147483647 := by
  obtain ⟨hi, _, hok⟩ := isP_ok h
  have ht := hok _ (atI_mem hi.1 hi.2)
  have h1 := ht.1
  have h2 := ht.2
  simp only [rangesB] at h1
  simp only [fitsB] at h2
  unfold mostP; omega
def leastN (l : List Task) (i : Int) : Nat → Int → Option Int
  | 0, _ => none
  | n + 1, w => if needP l i w ≤ w then some w else leastN l i n (w + 1)
def leastP (l : List Task) (i : Int) : Option Int := leastN l i (mostP l i).toNat 1
def boundP (l : List Task) (i : Int) : Int × Int := if isP l i then (match leastP l i with | some w => (w + (atI l i).J, 0) | none => (0, 16)) else (0, 1)
theorem bound14 (hE : Laid E) {h : Heap} {vl : Value} {l : List Task} (hl : Rd 7 encT h vl l) (hs : ∀ t ∈ l, t.name.size < 1152921504606846976) (i : Int) :
    callW E (.func (.func n_ref14_Bound) #[] #[]) [vl, .int .i64 i] h = some (.agg #[.int .i64 (boundP l i).1, .int .i64 (boundP l i).2], h, []) := by
  have hi := fun x => is13 hE (hl.app x) hs i
  have few := hl.few
  refine fn_same hE.ref14_Bound rfl (by simp) ?_
  simp only [argsF]
  unfold boundP
  cases hb : isP l i
  · rw [hb] at hi
    (repeat' (first | (with_reducible refine A1 (fun _ => ?_) (fun _ => ?_) <;> try (exfalso; omega)) | (with_reducible refine A2 (fun _ => ?_) (fun _ => ?_) <;> try (exfalso; omega)) | (with_reducible refine A3 (fun _ => ?_) (fun _ => ?_) <;> try (exfalso; omega)) | refine A4 (fun _ => ?_) (fun _ => ?_) | refine A5 (fun _ => ?_) (fun _ => ?_) | refine A6 (fun _ => ?_) (fun _ => ?_) | simp -dsimp (disch := omega) only [↓EA, EB, Nat.reduceEqDiff, Nat.reduceAdd, Nat.reduceLeDiff, Nat.reduceMul, ↓reduceIte, reduceCtorEq, newCells, bslV, eq_self, *]))
  · rw [hb] at hi
    rw [if_pos rfl]
    obtain ⟨hi2, hlen, hok⟩ := isP_ok hb
    have hm := mostP_in hb
    have ht := (hok _ (atI_mem hi2.1 hi2.2)).1
    simp only [rangesB] at ht
    have hD := ht.2.2.2.2.1
    have hJ := ht.2.2.2.2.2.2.1
    (repeat' (first | (with_reducible refine A1 (fun _ => ?_) (fun _ => ?_) <;> try (exfalso; omega)) | (with_reducible refine A2 (fun _ => ?_) (fun _ => ?_) <;> try (exfalso; omega)) | (with_reducible refine A3 (fun _ => ?_) (fun _ => ?_) <;> try (exfalso; omega)) | refine A4 (fun _ => ?_) (fun _ => ?_) | refine A5 (fun _ => ?_) (fun _ => ?_) | refine A6 (fun _ => ?_) (fun _ => ?_) | simp -dsimp (disch := omega) only [↓EA, EB, Nat.reduceEqDiff, Nat.reduceAdd, Nat.reduceLeDiff, Nat.reduceMul, ↓reduceIte, reduceCtorEq, newCells, bslV, eq_self, *]))
    have hmd : mostP l i = (atI l i).D - (atI l i).J := rfl
    have Hok := Hid.mk hok
    have hl1 := hl.app [LObj.cells [Value.int IntKind.i64 0, Value.int IntKind.i64 0] false]
    clear ht hok hi
    refine WO.loop (fun (n : Nat) fr h' => h' = h ++ [LObj.cells [Value.int IntKind.i64 0, Value.int IntKind.i64 0] false] ∧ (n : Int) ≤ mostP l i ∧ leastP l i = leastN l i ((mostP l i).toNat - n) (n + 1) ∧ get fr 0 = vl ∧ get fr 1 = .int .i64 i ∧ get fr 4 = .pointer (some ⟨h.length, 0, none⟩) ∧ get fr 6 = .int .i64 (n + 1)) (fun n => (mostP l i).toNat + 1 - n) ?_ 0 ⟨rfl, by omega, rfl, rfl, rfl, rfl, rfl⟩
    rintro n fr h' ⟨rfl, hn, hle, g0, g1, g4, g6⟩
    have Hle := Hid.mk hle
    clear hle
    unfold c_ref14_Bound_l0
    by_cases hc : (n : Int) + 1 ≤ mostP l i
    · have hu : u64in ((n : Int) + 1) := by unfold u64in; omega
      have q := need13 hE hl1 hs i hu
      have hstep : leastN l i ((mostP l i).toNat - n) (n + 1) = if needP l i ((n : Int) + 1) ≤ n + 1 then some ((n : Int) + 1) else leastN l i ((mostP l i).toNat - (n + 1)) ((n : Int) + 1 + 1) := by
        obtain ⟨k, hk⟩ : ∃ k, (mostP l i).toNat - n = k + 1 := ⟨(mostP l i).toNat - n - 1, by omega⟩
        rw [hk, show (mostP l i).toNat - (n + 1) = k by omega]; rfl
      have Hst := Hid.mk hstep
      clear hstep hb
      generalize needP l i ((n : Int) + 1) = N at *
      (repeat' (first | (with_reducible refine A1 (fun _ => ?_) (fun _ => ?_) <;> try (exfalso; omega)) | (with_reducible refine A2 (fun _ => ?_) (fun _ => ?_) <;> try (exfalso; omega)) | (with_reducible refine A3 (fun _ => ?_) (fun _ => ?_) <;> try (exfalso; omega)) | refine A4 (fun _ => ?_) (fun _ => ?_) | refine A5 (fun _ => ?_) (fun _ => ?_) | refine A6 (fun _ => ?_) (fun _ => ?_) | simp -dsimp (disch := omega) only [↓EA, EB, Nat.reduceEqDiff, Nat.reduceAdd, Nat.reduceLeDiff, Nat.reduceMul, ↓reduceIte, reduceCtorEq, newCells, bslV, eq_self, *, hl1.len, hl1.ixs, hl1.ld, hl1.ld0, hl1.lda, hl1.ldx, hl1.ldx0, hl1.ldxa, encT]))
      · rw [Hle.out, Hst.out, if_pos (by omega)]
      · refine Next.mk (n + 1) ⟨rfl, by omega, ?_, rfl, rfl, rfl, rfl⟩ (by omega)
        rw [Hle.out, Hst.out, if_neg (by omega)]; rfl
    · have e0 : leastP l i = none := by rw [Hle.out, show (mostP l i).toNat - n = 0 by omega]; rfl
      rw [e0]
      clear hb
      (repeat' (first | (with_reducible refine A1 (fun _ => ?_) (fun _ => ?_) <;> try (exfalso; omega)) | (with_reducible refine A2 (fun _ => ?_) (fun _ => ?_) <;> try (exfalso; omega)) | (with_reducible refine A3 (fun _ => ?_) (fun _ => ?_) <;> try (exfalso; omega)) | refine A4 (fun _ => ?_) (fun _ => ?_) | refine A5 (fun _ => ?_) (fun _ => ?_) | refine A6 (fun _ => ?_) (fun _ => ?_) | simp -dsimp (disch := omega) only [↓EA, EB, Nat.reduceEqDiff, Nat.reduceAdd, Nat.reduceLeDiff, Nat.reduceMul, ↓reduceIte, reduceCtorEq, newCells, bslV, eq_self, *, hl1.len, hl1.ixs, hl1.ld, hl1.ld0, hl1.lda, hl1.ldx, hl1.ldx0, hl1.ldxa, encT]))
end Go.L.Try
namespace Go.L.Try
open Go Go.L
variable {E : Env}
def OwnL {α : Type} (m sz : Nat) (enc : α → List Value) (h : Heap) (v : Value) (l : List α) : Prop :=
  OwnT m sz enc h v l ∨ ∃ b, v = .slice (some ⟨b, 0, none⟩) l.length l.length ∧ m ≤ b ∧ h[b]? = some (.cells (l.map enc).flatten false) ∧ (∀ a, (enc a).length = sz) ∧ l.length < 1152921504606846976
theorem OwnL.rd {α : Type} {m sz : Nat} {enc : α → List Value} {h : Heap} {v : Value} {l : List α} (o : OwnL m sz enc h v l) : Rd sz enc h v l := by
  rcases o with o | ⟨b, rfl, _, hb, hs, hf⟩
  · exact o.rd
  · exact Rd.lit l hb rfl hs hf (Nat.le_refl _) (.inl rfl)
theorem OwnL.app {α : Type} {m sz : Nat} {enc : α → List Value} {h : Heap} {v : Value} {l : List α} (o : OwnL m sz enc h v l) (x : Heap) : OwnL m sz enc (h ++ x) v l := by
  rcases o with o | ⟨b, rfl, hm, hb, hs, hf⟩
  · exact .inl (o.app x)
  · exact .inr ⟨b, rfl, hm, by rw [List.getElem?_append_left (List.getElem?_eq_some_iff.1 hb).1]; exact hb, hs, hf⟩
theorem wx_appL {α : Type} {W : Nat → Prop} {m sz : Nat} {enc : α → List Value} {h0 h : Heap} {v : Value} {l : List α} (o : OwnL m sz enc h v l) (hp : Pre h0 h) (hm : h0.length ≤ m) (hmh : m ≤ h.length) (hW : ∀ b, m ≤ b → W b) {bytes : Nat} {x : Value} (a : α) {Q : Value → Heap → Prop}
    (hx : cellsOf sz x h = some (1, enc a)) (hs : (enc a).length = sz) (hsz : sz ≠ 0) (hby : bytes ≠ 0) (hb : (l.length + 1) * bytes ≤ 140737488355328)
    (hq : ∀ v' h', OwnL m sz enc h' v' (l ++ [a]) → Pre h0 h' → Q v' h') : WX W (appendV sz bytes v x h) Q := by
  rcases o with o | ⟨b, rfl, hmb, hbb, hsz2, hf⟩
  · exact wx_app1 o hp hm hmh hW a hx hs hsz hby hb fun v' h' h1 h2 _ _ _ => hq v' h' (.inl h1) h2
  · have hle : l.length + 1 ≤ (l.length + 1) * bytes := Nat.le_mul_of_pos_right _ (by omega)
    have hfl : (l.map enc).flatten.length = l.length * sz := by
      have := flat_len (sz := sz) (L := l.map enc) (fun e he => by obtain ⟨y, _, rfl⟩ := List.mem_map.1 he; exact hsz2 y)
      rw [this, List.length_map]
    have hc : cellsOf sz (.slice (some ⟨b, 0, none⟩) l.length l.length) h = some (l.length, (l.map enc).flatten) := by
      rw [cellsOf_some, hbb, cellO_cells, if_pos (by show 0 + _ ≤ _; omega), List.drop_zero, ← hfl, List.take_length]
    refine ⟨.slice (some ⟨h.length, 0, some sz⟩) (l.length + 1) (l.length + 1), h ++ [.cells ((l.map enc).flatten ++ enc a) false], [], ?_, (fun b hb => nomatch hb), ?_⟩
    · have hcond : (l.length + 1) * bytes ≤ 140737488355328 ∧ l.length + 1 < 4611686018427387904 ∧ sz ≠ 0 ∧ bytes ≠ 0 := ⟨hb, by omega, hsz, hby⟩
      have hno : ¬ l.length + 1 ≤ l.length := by omega
      simp only [appendV, hx, hc, hcond, and_self, if_true, hno, if_false, ne_eq, not_false_eq_true, Nat.one_ne_zero]
    · refine hq _ _ (.inl ?_) (hp.trans (Pre.app h _))
      have e : (l ++ [a]).map enc = l.map enc ++ [enc a] := by simp
      have hlen : ((l ++ [a]).map enc).length = l.length + 1 := by simp
      unfold OwnT
      have := Own.some (m := m) (sz := sz) (h := h ++ [.cells ((l.map enc).flatten ++ enc a) false]) (b := h.length) (L := (l ++ [a]).map enc) hmh (by rw [geta0, e]; simp) (fun y hy => by obtain ⟨z, _, rfl⟩ := List.mem_map.1 hy; exact hsz2 z) (by rw [hlen]; omega) (by simp)
      rw [hlen] at this; exact this
def eachN (l : List Task) (i : Int) : Nat → Int → List Int
  | 0, w => [w]
  | n + 1, w => if mostP l i < w ∨ needP l i w = w then [w] else w :: eachN l i n (needP l i w)
def eachP (l : List Task) (i : Int) : List Int := if isP l i then eachN l i ((mostP l i).toNat + 1) (needP l i 0) else []
end Go.L.Try
namespace Go.L.Try
open Go Go.L
variable {E : Env}
theorem bin_or8 {q : EqK} {c : UInt8} : binOp .or q (.int .u8 (c.toNat : Int)) (.int .u8 32) = some (.int .u8 ((c.toNat ||| 32 : Nat) : Int)) := by
  have hlt : c.toNat < 256 := c.toNat_lt
  have hor : c.toNat ||| 32 < 256 := Nat.or_lt_two_pow (n := 8) hlt (by decide)
  have e1 : BitVec.ofInt 8 (c.toNat : Int) = BitVec.ofNat 8 c.toNat := by simp
  have e : ((BitVec.ofInt 8 (c.toNat : Int)) ||| (BitVec.ofInt 8 32)).toNat = c.toNat ||| 32 := by
    have e2 : BitVec.ofInt 8 32 = BitVec.ofNat 8 32 := by decide
    rw [e1, e2, BitVec.toNat_or, BitVec.toNat_ofNat, BitVec.toNat_ofNat, Nat.mod_eq_of_lt hlt]
  have e3 : binOp .or q (.int .u8 (c.toNat : Int)) (.int .u8 32) = some (.int .u8 (IntKind.u8.wrap (((BitVec.ofInt 8 (c.toNat : Int)) ||| (BitVec.ofInt 8 32)).toNat : Nat))) := by simp only [binOp, intOp, if_true]; rfl
  rw [e3, e, wrap_u8 (by omega) (by omega)]
theorem letter_bits : ∀ n : Nat, n < 256 → (decide ((97 ≤ n ||| 32 ∧ n ||| 32 ≤ 122) ∨ n = 95) == decide ((97 ≤ n ∧ n ≤ 122) ∨ (65 ≤ n ∧ n ≤ 90) ∨ n = 95)) = true := by
  have h : (List.range 256).all (fun n => decide ((97 ≤ n ||| 32 ∧ n ||| 32 ≤ 122) ∨ n = 95) == decide ((97 ≤ n ∧ n ≤ 122) ∨ (65 ≤ n ∧ n ≤ 90) ∨ n = 95)) = true := by decide +kernel
  intro n hn
  exact List.all_eq_true.1 h n (List.mem_range.2 hn)
theorem letterS (hE : Laid E) (h : Heap) (c : UInt8) : callW E (.func (.func n_scan_letter) #[] #[]) [.int .u8 c.toNat] h = some (.bool (letterB c), h, []) := by
  have hlt : c.toNat < 256 := c.toNat_lt
  have hb := eq_of_beq (letter_bits c.toNat hlt)
  have e : letterB c = decide ((97 ≤ c.toNat ||| 32 ∧ c.toNat ||| 32 ≤ 122) ∨ c.toNat = 95) := by unfold letterB; exact hb.symm
  rw [e]
  clear hb e
  refine fn_same hE.scan_letter rfl (by simp) ?_
  simp only [argsF]
  generalize hx : c.toNat ||| 32 = x
  have hor := @bin_or8 .other c
  rw [hx] at hor
  clear hx
  (repeat' (first | (with_reducible refine A1 (fun _ => ?_) (fun _ => ?_) <;> try (exfalso; omega)) | (with_reducible refine A2 (fun _ => ?_) (fun _ => ?_) <;> try (exfalso; omega)) | (with_reducible refine A3 (fun _ => ?_) (fun _ => ?_) <;> try (exfalso; omega)) | refine A4 (fun _ => ?_) (fun _ => ?_) | refine A5 (fun _ => ?_) (fun _ => ?_) | refine A6 (fun _ => ?_) (fun _ => ?_) | simp -dsimp (disch := omega) only [↓EA, EB, Nat.reduceEqDiff, Nat.reduceAdd, Nat.reduceLeDiff, Nat.reduceMul, ↓reduceIte, reduceCtorEq, newCells, bslV, eq_self, *, hor]))
  all_goals (congr 1; first | (rw [decide_eq_decide]; omega) | (symm; rw [decide_eq_true_eq]; omega) | (symm; rw [decide_eq_false_iff_not]; omega))
theorem digitS (hE : Laid E) (h : Heap) (c : UInt8) : callW E (.func (.func n_scan_digit) #[] #[]) [.int .u8 c.toNat] h = some (.bool (digitB c), h, []) := by
  refine fn_same hE.scan_digit rfl (by simp) ?_
  simp only [argsF]
  (repeat' (first | (with_reducible refine A1 (fun _ => ?_) (fun _ => ?_) <;> try (exfalso; omega)) | (with_reducible refine A2 (fun _ => ?_) (fun _ => ?_) <;> try (exfalso; omega)) | (with_reducible refine A3 (fun _ => ?_) (fun _ => ?_) <;> try (exfalso; omega)) | refine A4 (fun _ => ?_) (fun _ => ?_) | refine A5 (fun _ => ?_) (fun _ => ?_) | refine A6 (fun _ => ?_) (fun _ => ?_) | simp -dsimp (disch := omega) only [↓EA, EB, Nat.reduceEqDiff, Nat.reduceAdd, Nat.reduceLeDiff, Nat.reduceMul, ↓reduceIte, reduceCtorEq, newCells, bslV, eq_self, *]))
  all_goals (unfold digitB; congr 1; first | (rw [decide_eq_decide]; omega) | (symm; rw [decide_eq_true_eq]; omega) | (symm; rw [decide_eq_false_iff_not]; omega))
theorem goesS (hE : Laid E) (h : Heap) (c : UInt8) : callW E (.func (.func n_scan_goes) #[] #[]) [.int .u8 c.toNat] h = some (.bool (goesB c), h, []) := by
  have q1 := letterS hE h c
  have q2 := digitS hE h c
  refine fn_same hE.scan_goes rfl (by simp) ?_
  simp only [argsF]
  unfold goesB
  cases hl : letterB c <;> cases hd : digitB c
  all_goals
    rw [hl] at q1
    rw [hd] at q2
    (repeat' (first | (with_reducible refine A1 (fun _ => ?_) (fun _ => ?_) <;> try (exfalso; omega)) | (with_reducible refine A2 (fun _ => ?_) (fun _ => ?_) <;> try (exfalso; omega)) | (with_reducible refine A3 (fun _ => ?_) (fun _ => ?_) <;> try (exfalso; omega)) | refine A4 (fun _ => ?_) (fun _ => ?_) | refine A5 (fun _ => ?_) (fun _ => ?_) | refine A6 (fun _ => ?_) (fun _ => ?_) | simp -dsimp (disch := omega) only [↓EA, EB, Nat.reduceEqDiff, Nat.reduceAdd, Nat.reduceLeDiff, Nat.reduceMul, ↓reduceIte, reduceCtorEq, newCells, bslV, eq_self, *]))
  all_goals first | rfl | (congr 1; simp; done) | (congr 1; simp; omega)
theorem longS (hE : Laid E) (h : Heap) {s : ByteArray} (hs : s.size < 1152921504606846976) :
    callW E (.func (.func n_scan_long) #[] #[]) [.string s, .func (.func n_scan_goes) #[] #[]] h = some (.int .i64 (runEnd goesB s 0 : Nat), h, []) := by
  refine fn_same hE.scan_long rfl (by simp) ?_
  simp only [argsF]
  (repeat' (first | (with_reducible refine A1 (fun _ => ?_) (fun _ => ?_) <;> try (exfalso; omega)) | (with_reducible refine A2 (fun _ => ?_) (fun _ => ?_) <;> try (exfalso; omega)) | (with_reducible refine A3 (fun _ => ?_) (fun _ => ?_) <;> try (exfalso; omega)) | refine A4 (fun _ => ?_) (fun _ => ?_) | refine A5 (fun _ => ?_) (fun _ => ?_) | refine A6 (fun _ => ?_) (fun _ => ?_) | simp -dsimp (disch := omega) only [↓EA, EB, Nat.reduceEqDiff, Nat.reduceAdd, Nat.reduceLeDiff, Nat.reduceMul, ↓reduceIte, reduceCtorEq, newCells, bslV, eq_self, *]))
  refine WO.loop (fun (n : Nat) fr h' => h' = h ∧ n ≤ s.size ∧ runEnd goesB s 0 = runEnd goesB s n ∧ get fr 0 = .string s ∧ get fr 1 = .func (.func n_scan_goes) #[] #[] ∧ get fr 5 = .int .i64 n) (fun n => s.size - n) ?_ 0 ⟨rfl, Nat.zero_le _, rfl, rfl, rfl, rfl⟩
  rintro n fr h' ⟨rfl, hn, hr, g0, g1, g5⟩
  have Hr := Hid.mk hr
  clear hr
  unfold c_scan_long_l0
  rcases Nat.lt_or_ge n s.size with hlt | hge
  · have q := goesS hE h' (byteAt s (n : Int))
    have H1 := Hid.mk (fun hp => runEnd_step (p := goesB) hlt hp)
    have H2 := Hid.mk (fun hp => runEnd_stop (p := goesB) hlt hp)
    have hix : ∀ k : IntKind, ixtV (.string s) (.int k n) = some (.int .u8 ((byteAt s n).toNat : Int)) := fun k => ixt_at (by omega) (by omega)
    cases hg : goesB (byteAt s (n : Int))
    · rw [hg] at q
      have e := H2.out hg
      (repeat' (first | (with_reducible refine A1 (fun _ => ?_) (fun _ => ?_) <;> try (exfalso; omega)) | (with_reducible refine A2 (fun _ => ?_) (fun _ => ?_) <;> try (exfalso; omega)) | (with_reducible refine A3 (fun _ => ?_) (fun _ => ?_) <;> try (exfalso; omega)) | refine A4 (fun _ => ?_) (fun _ => ?_) | refine A5 (fun _ => ?_) (fun _ => ?_) | refine A6 (fun _ => ?_) (fun _ => ?_) | simp -dsimp (disch := omega) only [↓EA, EB, Nat.reduceEqDiff, Nat.reduceAdd, Nat.reduceLeDiff, Nat.reduceMul, ↓reduceIte, reduceCtorEq, newCells, bslV, eq_self, *]))
      rw [Hr.out, e]
    · rw [hg] at q
      have Hs := Hid.mk (H1.out hg)
      (repeat' (first | (with_reducible refine A1 (fun _ => ?_) (fun _ => ?_) <;> try (exfalso; omega)) | (with_reducible refine A2 (fun _ => ?_) (fun _ => ?_) <;> try (exfalso; omega)) | (with_reducible refine A3 (fun _ => ?_) (fun _ => ?_) <;> try (exfalso; omega)) | refine A4 (fun _ => ?_) (fun _ => ?_) | refine A5 (fun _ => ?_) (fun _ => ?_) | refine A6 (fun _ => ?_) (fun _ => ?_) | simp -dsimp (disch := omega) only [↓EA, EB, Nat.reduceEqDiff, Nat.reduceAdd, Nat.reduceLeDiff, Nat.reduceMul, ↓reduceIte, reduceCtorEq, newCells, bslV, eq_self, *]))
      exact Next.mk (n + 1) ⟨rfl, by omega, by rw [Hr.out, Hs.out], rfl, rfl, rfl⟩ (by omega)
  · have e := Hid.mk (runEnd_end (p := goesB) hge)
    (repeat' (first | (with_reducible refine A1 (fun _ => ?_) (fun _ => ?_) <;> try (exfalso; omega)) | (with_reducible refine A2 (fun _ => ?_) (fun _ => ?_) <;> try (exfalso; omega)) | (with_reducible refine A3 (fun _ => ?_) (fun _ => ?_) <;> try (exfalso; omega)) | refine A4 (fun _ => ?_) (fun _ => ?_) | refine A5 (fun _ => ?_) (fun _ => ?_) | refine A6 (fun _ => ?_) (fun _ => ?_) | simp -dsimp (disch := omega) only [↓EA, EB, Nat.reduceEqDiff, Nat.reduceAdd, Nat.reduceLeDiff, Nat.reduceMul, ↓reduceIte, reduceCtorEq, newCells, bslV, eq_self, *]))
    rw [Hr.out, e.out]
theorem word_run {s : ByteArray} (h0 : 0 < s.size) : wordB s = (letterB (byteAt s 0) && decide ((runEnd goesB s 0 : Nat) = s.size)) := by
  have hl := bs_len s
  cases hb : bs s with
  | nil => rw [hb] at hl; simp at hl; omega
  | cons c r =>
    have hc : byteAt s 0 = c := by unfold byteAt; rw [hb]; rfl
    have hr : (runEnd goesB s 0 : Nat) = ((c :: r).takeWhile goesB).length := by unfold runEnd; rw [List.drop_zero, hb, Nat.zero_add]
    have hs : s.size = (c :: r).length := by rw [← hb, bs_len]
    rw [hc, hr, hs]
    unfold wordB
    rw [hb]
    show (letterB c && r.all goesB) = _
    cases hlc : letterB c
    · rfl
    · have hg : goesB c = true := by unfold goesB; rw [hlc]; rfl
      have : decide (((c :: r).takeWhile goesB).length = (c :: r).length) = (c :: r).all goesB := by
        rw [← Bool.coe_iff_coe, decide_eq_true_eq]; exact takeWhile_len
      rw [this, List.all_cons, hg]; rfl
theorem wordS (hE : Laid E) (h : Heap) {s : ByteArray} (hs : s.size < 1152921504606846976) :
    callW E (.func (.func n_scan_Word) #[] #[]) [.string s] h = some (.bool (wordB s), h, []) := by
  refine fn_same hE.scan_Word rfl (by simp) ?_
  simp only [argsF]
  rcases Nat.eq_zero_or_pos s.size with h0 | h0
  · have e : bs s = [] := List.length_eq_zero_iff.1 (by rw [bs_len]; exact h0)
    have e2 : bs ⟨#[]⟩ = [] := rfl
    (repeat' (first | (with_reducible refine A1 (fun _ => ?_) (fun _ => ?_) <;> try (exfalso; omega)) | (with_reducible refine A2 (fun _ => ?_) (fun _ => ?_) <;> try (exfalso; omega)) | (with_reducible refine A3 (fun _ => ?_) (fun _ => ?_) <;> try (exfalso; omega)) | refine A4 (fun _ => ?_) (fun _ => ?_) | refine A5 (fun _ => ?_) (fun _ => ?_) | refine A6 (fun _ => ?_) (fun _ => ?_) | simp -dsimp (disch := omega) only [↓EA, EB, Nat.reduceEqDiff, Nat.reduceAdd, Nat.reduceLeDiff, Nat.reduceMul, ↓reduceIte, reduceCtorEq, newCells, bslV, eq_self, *, bs_eq, e, e2]))
    all_goals simp [wordB, e, noNew]
  · have e : bs s ≠ [] := fun e => by rw [← bs_len, e] at h0; simp at h0
    have e2 : bs ⟨#[]⟩ = [] := rfl
    have hix : ∀ k : IntKind, ixtV (.string s) (.int k 0) = some (.int .u8 ((byteAt s 0).toNat : Int)) := fun k => ixt_at (by omega) (by omega)
    have q1 := letterS hE h (byteAt s 0)
    have q2 := longS hE h hs
    rw [word_run h0]
    cases hl : letterB (byteAt s 0)
    · rw [hl] at q1
      (repeat' (first | (with_reducible refine A1 (fun _ => ?_) (fun _ => ?_) <;> try (exfalso; omega)) | (with_reducible refine A2 (fun _ => ?_) (fun _ => ?_) <;> try (exfalso; omega)) | (with_reducible refine A3 (fun _ => ?_) (fun _ => ?_) <;> try (exfalso; omega)) | refine A4 (fun _ => ?_) (fun _ => ?_) | refine A5 (fun _ => ?_) (fun _ => ?_) | refine A6 (fun _ => ?_) (fun _ => ?_) | simp -dsimp (disch := omega) only [↓EA, EB, Nat.reduceEqDiff, Nat.reduceAdd, Nat.reduceLeDiff, Nat.reduceMul, ↓reduceIte, reduceCtorEq, newCells, bslV, eq_self, *, bs_eq, e, e2]))
      rfl
    · rw [hl] at q1
      generalize runEnd goesB s 0 = R at *
      (repeat' (first | (with_reducible refine A1 (fun _ => ?_) (fun _ => ?_) <;> try (exfalso; omega)) | (with_reducible refine A2 (fun _ => ?_) (fun _ => ?_) <;> try (exfalso; omega)) | (with_reducible refine A3 (fun _ => ?_) (fun _ => ?_) <;> try (exfalso; omega)) | refine A4 (fun _ => ?_) (fun _ => ?_) | refine A5 (fun _ => ?_) (fun _ => ?_) | refine A6 (fun _ => ?_) (fun _ => ?_) | simp -dsimp (disch := omega) only [↓EA, EB, Nat.reduceEqDiff, Nat.reduceAdd, Nat.reduceLeDiff, Nat.reduceMul, ↓reduceIte, reduceCtorEq, newCells, bslV, eq_self, *, bs_eq, e, e2]))
      congr 1
      rw [decide_eq_decide]; omega
end Go.L.Try
set_option maxHeartbeats 2000000
namespace Go.L.Try
open Go Go.L
variable {E : Env}
theorem callW_cap {g : FuncId} {c : FnC} (hf : E g = .text c) (a b : Array Value) (args : List Value) (h : Heap) : callW E (.func (.func g) a b) args h = callW E (.func (.func g) #[] #[]) (a.toList ++ args ++ b.toList) h := by
  rw [callW_func hf, callW_text hf]
theorem within1 (hE : Laid E) (h : Heap) (n : Int) : callW E (.func (.func n_task_Check_f1) #[] #[]) [.int .i64 n] h = some (.bool (decide (0 ≤ n ∧ n ≤ 2147483647)), h, []) := by
  refine fn_same hE.task_Check_f1 rfl (by simp) ?_
  simp only [argsF]
  (repeat' (first | (with_reducible refine A1 (fun _ => ?_) (fun _ => ?_) <;> try (exfalso; omega)) | (with_reducible refine A2 (fun _ => ?_) (fun _ => ?_) <;> try (exfalso; omega)) | (with_reducible refine A3 (fun _ => ?_) (fun _ => ?_) <;> try (exfalso; omega)) | refine A4 (fun _ => ?_) (fun _ => ?_) | refine A5 (fun _ => ?_) (fun _ => ?_) | refine A6 (fun _ => ?_) (fun _ => ?_) | simp -dsimp (disch := omega) only [↓EA, EB, Nat.reduceEqDiff, Nat.reduceAdd, Nat.reduceLeDiff, Nat.reduceMul, ↓reduceIte, reduceCtorEq, newCells, bslV, eq_self, *]))
  all_goals first | rfl | (congr 1; first | (rw [decide_eq_decide]; omega) | (symm; rw [decide_eq_true_eq]; omega) | (symm; rw [decide_eq_false_iff_not]; omega))
theorem ranges2 (hE : Laid E) {h : Heap} {t : Task} (hs : t.name.size < 1152921504606846976) {b c : Nat} (hb : h[b]? = some (.cells (encT t) false)) (hc : h[c]? = some (.cells [.func (.func n_task_Check_f1) #[] #[]] false)) :
    callW E (.func (.func n_task_Check_f2) #[] #[.pointer (some ⟨b, 0, none⟩), .pointer (some ⟨c, 0, none⟩)]) [] h = some (.bool (decide (rangesB t)), h, []) := by
  have q := wordS hE h hs
  have w1 := within1 hE h
  unfold encT at hb
  rw [callW_cap hE.task_Check_f2]
  have e : decide (rangesB t) = (wordB t.name && decide (t.name.size ≤ 32 ∧ (1 ≤ t.C ∧ t.C ≤ 2147483647) ∧ (1 ≤ t.T ∧ t.T ≤ 2147483647) ∧ (1 ≤ t.D ∧ t.D ≤ 2147483647) ∧ (1 ≤ t.Q ∧ t.Q ≤ 2147483647) ∧ (0 ≤ t.J ∧ t.J ≤ 2147483647) ∧ 1 ≤ t.P ∧ t.P ≤ 1048576)) := by
    rw [Bool.eq_iff_iff, Bool.and_eq_true, decide_eq_true_iff, decide_eq_true_iff]; exact Iff.rfl
  rw [e]
  clear e
  generalize hX : decide (t.name.size ≤ 32 ∧ (1 ≤ t.C ∧ t.C ≤ 2147483647) ∧ (1 ≤ t.T ∧ t.T ≤ 2147483647) ∧ (1 ≤ t.D ∧ t.D ≤ 2147483647) ∧ (1 ≤ t.Q ∧ t.Q ≤ 2147483647) ∧ (0 ≤ t.J ∧ t.J ≤ 2147483647) ∧ 1 ≤ t.P ∧ t.P ≤ 1048576) = X
  replace hX := Hid.mk hX
  refine fn_same hE.task_Check_f2 rfl (by simp) ?_
  simp only [List.nil_append, List.append_nil, argsF]
  cases hw : wordB t.name
  · rw [hw] at q
    (repeat' (first | (with_reducible refine A1 (fun _ => ?_) (fun _ => ?_) <;> try (exfalso; omega)) | (with_reducible refine A2 (fun _ => ?_) (fun _ => ?_) <;> try (exfalso; omega)) | (with_reducible refine A3 (fun _ => ?_) (fun _ => ?_) <;> try (exfalso; omega)) | refine A4 (fun _ => ?_) (fun _ => ?_) | refine A5 (fun _ => ?_) (fun _ => ?_) | refine A6 (fun _ => ?_) (fun _ => ?_) | simp -dsimp (disch := omega) only [↓EA, EB, Nat.reduceEqDiff, Nat.reduceAdd, Nat.reduceLeDiff, Nat.reduceMul, ↓reduceIte, reduceCtorEq, newCells, bslV, eq_self, *]))
    rfl
  · rw [hw] at q
    (repeat' (first | (with_reducible refine A1 (fun _ => ?_) (fun _ => ?_) <;> try (exfalso; omega)) | (with_reducible refine A2 (fun _ => ?_) (fun _ => ?_) <;> try (exfalso; omega)) | (with_reducible refine A3 (fun _ => ?_) (fun _ => ?_) <;> try (exfalso; omega)) | refine A4 (fun _ => ?_) (fun _ => ?_) | refine A5 (fun _ => ?_) (fun _ => ?_) | refine A6 (fun _ => ?_) (fun _ => ?_) | simp -dsimp (disch := omega) only [↓EA, EB, Nat.reduceEqDiff, Nat.reduceAdd, Nat.reduceLeDiff, Nat.reduceMul, ↓reduceIte, reduceCtorEq, newCells, bslV, eq_self, *]))
    all_goals
      congr 1
      rw [← hX.out]
      first | exact decide_eq_decide.2 (by omega) | exact (decide_eq_false (by omega)).symm | exact (decide_eq_true (by omega)).symm
theorem fits3 (hE : Laid E) {h : Heap} {t : Task} (ht : rangesB t) {b : Nat} (hb : h[b]? = some (.cells (encT t) false)) :
    callW E (.func (.func n_task_Check_f3) #[] #[.pointer (some ⟨b, 0, none⟩)]) [] h = some (.bool (decide (fitsB t)), h, []) := by
  unfold encT at hb
  rw [callW_cap hE.task_Check_f3]
  simp only [rangesB] at ht
  have hC := ht.2.2.1
  have hJ := ht.2.2.2.2.2.2.1
  clear ht
  refine fn_same hE.task_Check_f3 rfl (by simp) ?_
  simp only [List.nil_append, List.append_nil, argsF]
  (repeat' (first | (with_reducible refine A1 (fun _ => ?_) (fun _ => ?_) <;> try (exfalso; omega)) | (with_reducible refine A2 (fun _ => ?_) (fun _ => ?_) <;> try (exfalso; omega)) | (with_reducible refine A3 (fun _ => ?_) (fun _ => ?_) <;> try (exfalso; omega)) | refine A4 (fun _ => ?_) (fun _ => ?_) | refine A5 (fun _ => ?_) (fun _ => ?_) | refine A6 (fun _ => ?_) (fun _ => ?_) | simp -dsimp (disch := omega) only [↓EA, EB, Nat.reduceEqDiff, Nat.reduceAdd, Nat.reduceLeDiff, Nat.reduceMul, ↓reduceIte, reduceCtorEq, newCells, bslV, eq_self, *]))
  all_goals
    congr 1
    first | exact decide_eq_decide.2 (by unfold fitsB; omega) | exact (decide_eq_false (by unfold fitsB; omega)).symm | exact (decide_eq_true (by unfold fitsB; omega)).symm
def firstP (b0 b1 : Bool) (e0 e1 : Int) : Int := if b0 then if b1 then 0 else e1 else e0
theorem firstS (hE : Laid E) {h : Heap} {f0 f1 : Value} {b0 b1 : Bool} {e0 e1 : Int} (h0 : cellsV f0 = [f0]) (h1 : cellsV f1 = [f1]) (o0 : oneCell f0 = true) (o1 : oneCell f1 = true) (q0 : ∀ x, callW E f0 [] (h ++ x) = some (.bool b0, h ++ x, [])) (q1 : b0 = true → ∀ x, callW E f1 [] (h ++ x) = some (.bool b1, h ++ x, [])) :
    callW E (.func (.func n_task_first) #[] #[]) [.agg #[f0, .int .i64 e0, f1, .int .i64 e1]] h = some (.int .i64 (firstP b0 b1 e0 e1), h, []) := by
  refine fn_same hE.task_first rfl (by simp) ?_
  simp only [argsF]
  (repeat' (first | (with_reducible refine A1 (fun _ => ?_) (fun _ => ?_) <;> try (exfalso; omega)) | (with_reducible refine A2 (fun _ => ?_) (fun _ => ?_) <;> try (exfalso; omega)) | (with_reducible refine A3 (fun _ => ?_) (fun _ => ?_) <;> try (exfalso; omega)) | refine A4 (fun _ => ?_) (fun _ => ?_) | refine A5 (fun _ => ?_) (fun _ => ?_) | refine A6 (fun _ => ?_) (fun _ => ?_) | simp -dsimp (disch := omega) only [↓EA, EB, Nat.reduceEqDiff, Nat.reduceAdd, Nat.reduceLeDiff, Nat.reduceMul, ↓reduceIte, reduceCtorEq, newCells, bslV, eq_self, *]))
  replace q1 := Hid.mk q1
  have hst : firstP b0 b1 e0 e1 = if b0 then if b1 then 0 else e1 else e0 := rfl
  replace hst := Hid.mk hst
  refine WO.loop (fun (n : Nat) fr h' => (∃ x, h' = h ++ x) ∧ n ≤ 2 ∧ (1 ≤ n → b0 = true) ∧ (2 ≤ n → b1 = true) ∧ get fr 3 = .int .i64 0 ∧ get fr 6 = .agg #[f0, .int .i64 e0, f1, .int .i64 e1] ∧ get fr 7 = .int .i64 n) (fun n => 2 - n) ?_ 0 ⟨⟨_, rfl⟩, by omega, fun h => by omega, fun h => by omega, rfl, rfl, rfl⟩
  rintro n fr h' ⟨⟨x, rfl⟩, hn, c1, c2, g3, g6, g7⟩
  unfold c_task_first_l0
  have ix0 : ixvV 2 2 (some 2) (.agg #[f0, .int .i64 e0, f1, .int .i64 e1]) (.int .i64 0) = some (.agg #[f0, .int .i64 e0]) := rfl
  have ix1 : ixvV 2 2 (some 2) (.agg #[f0, .int .i64 e0, f1, .int .i64 e1]) (.int .i64 1) = some (.agg #[f1, .int .i64 e1]) := rfl
  rcases n with _ | _ | n
  · replace g7 : get fr 7 = .int .i64 0 := g7
    clear c1 c2
    cases b0
    · (repeat' (first | (with_reducible refine A1 (fun _ => ?_) (fun _ => ?_) <;> try (exfalso; omega)) | (with_reducible refine A2 (fun _ => ?_) (fun _ => ?_) <;> try (exfalso; omega)) | (with_reducible refine A3 (fun _ => ?_) (fun _ => ?_) <;> try (exfalso; omega)) | refine A4 (fun _ => ?_) (fun _ => ?_) | refine A5 (fun _ => ?_) (fun _ => ?_) | refine A6 (fun _ => ?_) (fun _ => ?_) | simp -dsimp (disch := omega) only [↓EA, EB, Nat.reduceEqDiff, Nat.reduceAdd, Nat.reduceLeDiff, Nat.reduceMul, ↓reduceIte, reduceCtorEq, newCells, bslV, eq_self, *]))
      rw [hst.out]; rfl
    · (repeat' (first | (with_reducible refine A1 (fun _ => ?_) (fun _ => ?_) <;> try (exfalso; omega)) | (with_reducible refine A2 (fun _ => ?_) (fun _ => ?_) <;> try (exfalso; omega)) | (with_reducible refine A3 (fun _ => ?_) (fun _ => ?_) <;> try (exfalso; omega)) | refine A4 (fun _ => ?_) (fun _ => ?_) | refine A5 (fun _ => ?_) (fun _ => ?_) | refine A6 (fun _ => ?_) (fun _ => ?_) | simp -dsimp (disch := omega) only [↓EA, EB, Nat.reduceEqDiff, Nat.reduceAdd, Nat.reduceLeDiff, Nat.reduceMul, ↓reduceIte, reduceCtorEq, newCells, bslV, eq_self, *]))
      exact Next.mk 1 ⟨⟨_, rfl⟩, by omega, fun _ => rfl, fun h => by omega, rfl, rfl, rfl⟩ (by omega)
  · replace g7 : get fr 7 = .int .i64 1 := g7
    have hb := c1 (by omega)
    subst hb
    clear c1 c2
    have q2 := q1.out rfl
    cases b1
    · (repeat' (first | (with_reducible refine A1 (fun _ => ?_) (fun _ => ?_) <;> try (exfalso; omega)) | (with_reducible refine A2 (fun _ => ?_) (fun _ => ?_) <;> try (exfalso; omega)) | (with_reducible refine A3 (fun _ => ?_) (fun _ => ?_) <;> try (exfalso; omega)) | refine A4 (fun _ => ?_) (fun _ => ?_) | refine A5 (fun _ => ?_) (fun _ => ?_) | refine A6 (fun _ => ?_) (fun _ => ?_) | simp -dsimp (disch := omega) only [↓EA, EB, Nat.reduceEqDiff, Nat.reduceAdd, Nat.reduceLeDiff, Nat.reduceMul, ↓reduceIte, reduceCtorEq, newCells, bslV, eq_self, *]))
      rw [hst.out]; rfl
    · (repeat' (first | (with_reducible refine A1 (fun _ => ?_) (fun _ => ?_) <;> try (exfalso; omega)) | (with_reducible refine A2 (fun _ => ?_) (fun _ => ?_) <;> try (exfalso; omega)) | (with_reducible refine A3 (fun _ => ?_) (fun _ => ?_) <;> try (exfalso; omega)) | refine A4 (fun _ => ?_) (fun _ => ?_) | refine A5 (fun _ => ?_) (fun _ => ?_) | refine A6 (fun _ => ?_) (fun _ => ?_) | simp -dsimp (disch := omega) only [↓EA, EB, Nat.reduceEqDiff, Nat.reduceAdd, Nat.reduceLeDiff, Nat.reduceMul, ↓reduceIte, reduceCtorEq, newCells, bslV, eq_self, *]))
      exact Next.mk 2 ⟨⟨_, rfl⟩, by omega, fun _ => rfl, fun _ => rfl, rfl, rfl, rfl⟩ (by omega)
  · have hb := c1 (by omega)
    have hb2 := c2 (by omega)
    obtain rfl : n = 0 := by omega
    subst hb hb2
    clear c1 c2
    (repeat' (first | (with_reducible refine A1 (fun _ => ?_) (fun _ => ?_) <;> try (exfalso; omega)) | (with_reducible refine A2 (fun _ => ?_) (fun _ => ?_) <;> try (exfalso; omega)) | (with_reducible refine A3 (fun _ => ?_) (fun _ => ?_) <;> try (exfalso; omega)) | refine A4 (fun _ => ?_) (fun _ => ?_) | refine A5 (fun _ => ?_) (fun _ => ?_) | refine A6 (fun _ => ?_) (fun _ => ?_) | simp -dsimp (disch := omega) only [↓EA, EB, Nat.reduceEqDiff, Nat.reduceAdd, Nat.reduceLeDiff, Nat.reduceMul, ↓reduceIte, reduceCtorEq, newCells, bslV, eq_self, *]))
    rw [hst.out]; rfl
theorem checkS (hE : Laid E) (h : Heap) (t : Task) (hs : t.name.size < 1152921504606846976) :
    callW E (.func (.func n_task_Check) #[] #[]) [.agg (encT t).toArray] h = some (.int .i64 (checkP t), h, []) := by
  have hg := fun H f0 f1 b0 b1 e0 e1 => @firstS E hE H f0 f1 b0 b1 e0 e1
  have e : checkP t = firstP (decide (rangesB t)) (decide (fitsB t)) 11 12 := by
    unfold checkP firstP
    by_cases h1 : rangesB t <;> by_cases h2 : fitsB t <;> simp [h1, h2]
  rw [e]
  clear e
  refine fn_same hE.task_Check rfl (by simp) ?_
  simp only [argsF]
  unfold encT
  have Hg := Hid.mk hg
  clear hg
  (repeat' (first | (with_reducible refine A1 (fun _ => ?_) (fun _ => ?_) <;> try (exfalso; omega)) | (with_reducible refine A2 (fun _ => ?_) (fun _ => ?_) <;> try (exfalso; omega)) | (with_reducible refine A3 (fun _ => ?_) (fun _ => ?_) <;> try (exfalso; omega)) | refine A4 (fun _ => ?_) (fun _ => ?_) | refine A5 (fun _ => ?_) (fun _ => ?_) | refine A6 (fun _ => ?_) (fun _ => ?_) | simp -dsimp (disch := omega) only [↓EA, EB, Nat.reduceEqDiff, Nat.reduceAdd, Nat.reduceLeDiff, Nat.reduceMul, ↓reduceIte, reduceCtorEq, newCells, bslV, eq_self, *]))
  have eH : (h ++ [LObj.cells [.string t.name, .int .i64 t.C, .int .i64 t.T, .int .i64 t.D, .int .i64 t.J, .int .i64 t.Q, .int .i64 t.P] false, LObj.cells [.func (.func n_task_Check_f1) #[] #[]] false]) = h ++ [LObj.cells (encT t) false, LObj.cells [.func (.func n_task_Check_f1) #[] #[]] false] := rfl
  have hb : ∀ x, ((h ++ [LObj.cells (encT t) false, LObj.cells [.func (.func n_task_Check_f1) #[] #[]] false]) ++ x)[h.length]? = some (.cells (encT t) false) := fun x => by rw [List.append_assoc, geta0]; rfl
  have hc : ∀ x, ((h ++ [LObj.cells (encT t) false, LObj.cells [.func (.func n_task_Check_f1) #[] #[]] false]) ++ x)[h.length + 1]? = some (.cells [.func (.func n_task_Check_f1) #[] #[]] false) := fun x => by rw [List.append_assoc, geta]; rfl
  have hf := Hg.out (h ++ [LObj.cells (encT t) false, LObj.cells [.func (.func n_task_Check_f1) #[] #[]] false]) _ _ _ _ 11 12 rfl rfl rfl rfl (fun x => ranges2 hE hs (hb x) (hc x)) (fun hr x => fits3 hE (of_decide_eq_true hr) (hb x))
  rw [eH]
  clear eH hb hc
  (repeat' (first | (with_reducible refine A1 (fun _ => ?_) (fun _ => ?_) <;> try (exfalso; omega)) | (with_reducible refine A2 (fun _ => ?_) (fun _ => ?_) <;> try (exfalso; omega)) | (with_reducible refine A3 (fun _ => ?_) (fun _ => ?_) <;> try (exfalso; omega)) | refine A4 (fun _ => ?_) (fun _ => ?_) | refine A5 (fun _ => ?_) (fun _ => ?_) | refine A6 (fun _ => ?_) (fun _ => ?_) | simp -dsimp (disch := omega) only [↓EA, EB, Nat.reduceEqDiff, Nat.reduceAdd, Nat.reduceLeDiff, Nat.reduceMul, ↓reduceIte, reduceCtorEq, newCells, bslV, eq_self, *, hf]))
end Go.L.Try
namespace Go.L.Try
open Go Go.L
variable {E : Env}
theorem ba_beq (s t : ByteArray) : (s == t) = decide (s = t) := by
  cases s with | mk x =>
  cases t with | mk y =>
  have e : ((⟨x⟩ : ByteArray) == ⟨y⟩) = (x == y) := rfl
  rw [e]; by_cases h : x = y <;> simp [h]
def SKeys (es : List (Value × Value)) : Prop := ∀ e ∈ es, ∃ s, e.1 = .string s
def mapS : List (Value × Value) → ByteArray → Option Value
  | [], _ => none
  | (.string a, v) :: r, s => if s = a then some v else mapS r s
  | _ :: r, s => mapS r s
theorem find_str : ∀ {es : List (Value × Value)}, SKeys es → ∀ s, find .str (.string s) es = some (mapS es s)
  | [], _, _ => rfl
  | (x, v) :: r, hk, s => by
    obtain ⟨a, rfl⟩ := hk (x, v) (by simp)
    have ih := find_str (es := r) (fun e he => hk e (by simp [he])) s
    simp only [find, sameKey, sameS, Option.bind_some, mapS]
    by_cases h : s = a
    · simp [h, ba_beq]
    · have : (s == a) = false := by rw [ba_beq]; exact decide_eq_false h
      simp [h, this, ih]
theorem put_str (v : Value) : ∀ {es : List (Value × Value)}, SKeys es → ∀ s, ∃ es', putE .str (.string s) v es = some es' ∧ SKeys es' ∧ ∀ j, mapS es' j = if j = s then some v else mapS es j
  | [], _, s => ⟨_, rfl, fun e he => by rw [List.mem_singleton.1 he]; exact ⟨s, rfl⟩, fun j => rfl⟩
  | (x, u) :: r, hk, s => by
    obtain ⟨a, rfl⟩ := hk (x, u) (by simp)
    obtain ⟨es', h1, h2, h3⟩ := put_str v (es := r) (fun e he => hk e (by simp [he])) s
    by_cases h : s = a
    · subst h
      refine ⟨(.string s, v) :: r, by simp [putE, sameKey, sameS, ba_beq], fun e he => ?_, fun j => ?_⟩
      · rcases List.mem_cons.1 he with rfl | he
        · exact ⟨s, rfl⟩
        · exact hk e (by simp [he])
      · simp only [mapS]; split <;> rfl
    · have hb : (s == a) = false := by rw [ba_beq]; exact decide_eq_false h
      refine ⟨(.string a, u) :: es', by simp [putE, sameKey, sameS, hb, h1], fun e he => ?_, fun j => ?_⟩
      · rcases List.mem_cons.1 he with rfl | he
        · exact ⟨a, rfl⟩
        · exact h2 e he
      · simp only [mapS, h3]
        by_cases hj : j = a
        · subst hj; rw [if_pos rfl, if_pos rfl, if_neg (fun e => h e.symm)]
        · rw [if_neg hj, if_neg hj]
theorem key_str {s : ByteArray} : keyV .str (.string s) = true := by simp [keyV, sameKey, sameS, ba_beq]
theorem lk_str {es : List (Value × Value)} (hk : SKeys es) (z : Value) (s : ByteArray) : lkO .str z (.string s) false (some (.map es)) = some ((mapS es s).getD z) := by
  simp only [lkO, key_str, if_true, find_str hk, Option.map_some]
  cases mapS es s <;> rfl
theorem mp_str {s : ByteArray} {v : Value} {es es' : List (Value × Value)} (h1 : putE .str (.string s) v es = some es') (h : Heap) (r : Nat) : mpO .str (.string s) v h r (some (.map es)) = some (undef, h.set r (.map es'), [r]) := by
  simp only [mpO, key_str, if_true, h1, Option.map_some]
def cntN (l : List Task) : Nat → ByteArray → Int
  | 0, _ => 0
  | n + 1, s => cntN l n s + if (atI l (n : Int)).name = s then 1 else 0
def cntP (l : List Task) : Nat → Int → Int
  | 0, _ => 0
  | n + 1, p => cntP l n p + if (atI l (n : Int)).P = p then 1 else 0
theorem cntN_in (l : List Task) (s : ByteArray) : ∀ n : Nat, 0 ≤ cntN l n s ∧ cntN l n s ≤ n
  | 0 => by simp [cntN]
  | n + 1 => by have := cntN_in l s n; unfold cntN; split <;> omega
theorem cntP_in (l : List Task) (p : Int) : ∀ n : Nat, 0 ≤ cntP l n p ∧ cntP l n p ≤ n
  | 0 => by simp [cntP]
  | n + 1 => by have := cntP_in l p n; unfold cntP; split <;> omega
theorem bs_iff {s t : ByteArray} : bs s = bs t ↔ s = t := ⟨bs_inj, fun h => by rw [h]⟩
theorem clash_cnt (l : List Task) (i : Int) : ∀ k : Nat, clash l i k = decide (1 ≤ cntN l k (atI l i).name ∨ 1 ≤ cntP l k (atI l i).P)
  | 0 => by simp [clash, cntN, cntP]
  | k + 1 => by
    have h1 := cntN_in l (atI l i).name k
    have h2 := cntP_in l (atI l i).P k
    unfold clash cntN cntP
    rw [clash_cnt l i k, Bool.eq_iff_iff, Bool.or_eq_true, decide_eq_true_iff, decide_eq_true_iff, decide_eq_true_iff, bs_iff]
    generalize cntN l k (atI l i).name = x at *
    generalize cntP l k (atI l i).P = y at *
    by_cases a : (atI l (k : Int)).name = (atI l i).name <;> by_cases b : (atI l (k : Int)).P = (atI l i).P
    · rw [if_pos a, if_pos b]; exact ⟨fun _ => .inl (by omega), fun _ => .inr (.inl a)⟩
    · rw [if_pos a, if_neg b]; exact ⟨fun _ => .inl (by omega), fun _ => .inr (.inl a)⟩
    · rw [if_neg a, if_pos b]; exact ⟨fun _ => .inr (by omega), fun _ => .inr (.inr b)⟩
    · rw [if_neg a, if_neg b, Int.add_zero, Int.add_zero]; exact ⟨fun h => h.elim id fun h => (h.elim a b).elim, fun h => .inl h⟩
theorem checkAllS (hE : Laid E) {h : Heap} {vl : Value} {l : List Task} (hl : Rd 7 encT h vl l) (hs : ∀ t ∈ l, t.name.size < 1152921504606846976) :
    callW E (.func (.func n_task_CheckAll) #[] #[]) [vl] h = some (.tuple #[.int .i64 (checkAllP l).1, .int .i64 (checkAllP l).2], h, []) := by
  refine fn_same hE.task_CheckAll rfl (by simp) ?_
  have few := hl.few
  have hnn := noNew
  simp only [argsF]
  unfold checkAllP
  by_cases hc : l.length = 0 ∨ 1024 < l.length
  · rw [if_pos hc]
    (repeat' (first | (with_reducible refine A1 (fun _ => ?_) (fun _ => ?_) <;> try (exfalso; omega)) | (with_reducible refine A2 (fun _ => ?_) (fun _ => ?_) <;> try (exfalso; omega)) | (with_reducible refine A3 (fun _ => ?_) (fun _ => ?_) <;> try (exfalso; omega)) | refine A4 (fun _ => ?_) (fun _ => ?_) | refine A5 (fun _ => ?_) (fun _ => ?_) | refine A6 (fun _ => ?_) (fun _ => ?_) | simp -dsimp (disch := omega) only [↓EA, EB, Nat.reduceEqDiff, Nat.reduceAdd, Nat.reduceLeDiff, Nat.reduceMul, ↓reduceIte, reduceCtorEq, newCells, bslV, eq_self, *, hl.len]))
  · rw [if_neg hc]
    have hlen : 1 ≤ l.length ∧ l.length ≤ 1024 := by omega
    clear hc hnn
    have Hfin := Hid.mk (rfl : checkFrom l l.length 0 = checkFrom l l.length 0)
    (repeat' (first | (with_reducible refine A1 (fun _ => ?_) (fun _ => ?_) <;> try (exfalso; omega)) | (with_reducible refine A2 (fun _ => ?_) (fun _ => ?_) <;> try (exfalso; omega)) | (with_reducible refine A3 (fun _ => ?_) (fun _ => ?_) <;> try (exfalso; omega)) | refine A4 (fun _ => ?_) (fun _ => ?_) | refine A5 (fun _ => ?_) (fun _ => ?_) | refine A6 (fun _ => ?_) (fun _ => ?_) | simp -dsimp (disch := omega) only [↓EA, EB, Nat.reduceEqDiff, Nat.reduceAdd, Nat.reduceLeDiff, Nat.reduceMul, ↓reduceIte, reduceCtorEq, newCells, bslV, eq_self, *, hl.len]))
    refine WO.loop (fun (n : Nat) fr h' => n ≤ l.length ∧ checkFrom l l.length 0 = checkFrom l (l.length - n) n ∧ Pre h h' ∧ get fr 0 = vl ∧ get fr 4 = .map (some h.length) ∧ get fr 5 = .map (some (h.length + 1)) ∧ get fr 19 = vl ∧ get fr 20 = .int .i64 l.length ∧ get fr 21 = .int .i64 n ∧ ∃ e1 e2, h'[h.length]? = some (.map e1) ∧ h'[h.length + 1]? = some (.map e2) ∧ SKeys e1 ∧ IKeys .i64 e2 ∧ (∀ s, (mapS e1 s).getD (.int .i64 0) = .int .i64 (cntN l n s)) ∧ ∀ p, (mapI .i64 e2 p).getD (.int .i64 0) = .int .i64 (cntP l n p)) (fun n => l.length - n) ?_ 0 ⟨Nat.zero_le _, rfl, Pre.app h _, rfl, rfl, rfl, rfl, rfl, rfl, [], [], by rw [geta0]; rfl, by rw [geta]; rfl, (fun e he => nomatch he), (fun e he => nomatch he), fun s => rfl, fun p => rfl⟩
    rintro n fr h' ⟨hn, hcf, hp, g0, g4, g5, g19, g20, g21, e1, e2, m1, m2, k1, k2, c1, c2⟩
    have Hcf := Hid.mk hcf
    clear hcf
    unfold c_task_CheckAll_l0
    rcases Nat.lt_or_ge n l.length with hlt | hge
    · have hl' := hl.pre hp
      have hm := atI_mem (l := l) (i := (n : Int)) (by omega) (by omega)
      have q := fun x => checkS hE (h' ++ x) (atI l (n : Int)) (hs _ hm)
      simp only [encT] at q
      have hstep : checkFrom l (l.length - n) n = if checkP (atI l (n : Int)) ≠ 0 then ((n : Int), checkP (atI l (n : Int))) else if clash l (n : Int) n then ((n : Int), 13) else checkFrom l (l.length - (n + 1)) ((n : Int) + 1) := by
        obtain ⟨k, hk⟩ : ∃ k, l.length - n = k + 1 := ⟨l.length - n - 1, by omega⟩
        rw [hk, show l.length - (n + 1) = k by omega]; rfl
      rw [clash_cnt] at hstep
      have Hst := Hid.mk hstep
      clear hstep
      have cn := cntN_in l (atI l (n : Int)).name n
      have cp := cntP_in l (atI l (n : Int)).P n
      have L1 := fun z => lk_str k1 z (atI l (n : Int)).name
      have hml := hp.le
      have hml1 := (List.getElem?_eq_some_iff.1 m1).1
      have hml2 := (List.getElem?_eq_some_iff.1 m2).1
      obtain ⟨e1', p1, p2, p3⟩ := put_str (.int .i64 (cntN l n (atI l (n : Int)).name + 1)) k1 (atI l (n : Int)).name
      obtain ⟨e2', r1, r2, r3⟩ := put_int (.int .i64 (cntP l n (atI l (n : Int)).P + 1)) k2 (atI l (n : Int)).P
      have C1 := c1 (atI l (n : Int)).name
      have C2 := c2 (atI l (n : Int)).P
      have Hc1 := Hid.mk c1
      have Hc2 := Hid.mk c2
      have P3 := Hid.mk p3
      have R3 := Hid.mk r3
      have D1 : (mapS e1' (atI l (n : Int)).name).getD (.int .i64 0) = .int .i64 (cntN l n (atI l (n : Int)).name + 1) := by rw [p3, if_pos rfl]; rfl
      have D2 : (mapI .i64 e2' (atI l (n : Int)).P).getD (.int .i64 0) = .int .i64 (cntP l n (atI l (n : Int)).P + 1) := by rw [r3, if_pos rfl]; rfl
      have M1 := mp_str p1
      have M2 := mp_int r1
      have L2 := lk_int k2
      have L3 := lk_str p2
      have L4 := lk_int r2
      clear c1 c2 p3 r3 p1 r1 hm hs L1
      have L1 := lk_str k1
      have m1x : ∀ x, (h' ++ x)[h.length]? = some (.map e1) := fun x => by rw [List.getElem?_append_left hml1]; exact m1
      have m2x : ∀ x, (h' ++ x)[h.length + 1]? = some (.map e2) := fun x => by rw [List.getElem?_append_left hml2]; exact m2
      clear m1 m2
      have G1 : ∀ x o, (List.set (h' ++ x) h.length o)[h.length]? = some o := fun x o => gset (by simp; omega)
      have G2 : ∀ x o o2, (List.set (List.set (h' ++ x) h.length o) (h.length + 1) o2)[h.length + 1]? = some o2 := fun x o o2 => gset (by simp; omega)
      (repeat' (first | (with_reducible refine A1 (fun _ => ?_) (fun _ => ?_) <;> try (exfalso; omega)) | (with_reducible refine A2 (fun _ => ?_) (fun _ => ?_) <;> try (exfalso; omega)) | (with_reducible refine A3 (fun _ => ?_) (fun _ => ?_) <;> try (exfalso; omega)) | refine A4 (fun _ => ?_) (fun _ => ?_) | refine A5 (fun _ => ?_) (fun _ => ?_) | refine A6 (fun _ => ?_) (fun _ => ?_) | simp -dsimp (disch := omega) only [↓EA, EB, Nat.reduceEqDiff, Nat.reduceAdd, Nat.reduceLeDiff, Nat.reduceMul, ↓reduceIte, reduceCtorEq, newCells, bslV, eq_self, *, hl'.len, hl'.ixs, hl'.ld, hl'.ld0, hl'.lda, hl'.ldx, hl'.ldx0, hl'.ldxa, encT, m1x, m2x, G1, G2]))
      · rw [Hcf.out, Hst.out, if_pos (by assumption)]
      · rw [Hcf.out, Hst.out, if_neg (by omega), if_pos (decide_eq_true (by omega))]
      · rw [Hcf.out, Hst.out, if_neg (by omega), if_pos (decide_eq_true (by omega))]
      · refine Next.mk (n + 1) ⟨by omega, ?_, ((hp.app' _).set (Nat.le_refl _) _).set (by omega) _, rfl, rfl, rfl, rfl, rfl, rfl, e1', e2', ?_, G2 _ _ _, p2, r2, ?_, ?_⟩ (by omega)
        · rw [Hcf.out, Hst.out, if_neg (by omega), if_neg (by rw [decide_eq_true_eq]; omega)]; rfl
        · rw [gets (by omega)]; exact G1 _ _
        · intro s
          rw [P3.out]
          by_cases hj : s = (atI l (n : Int)).name
          · subst hj
            rw [if_pos rfl]
            show Value.int .i64 _ = Value.int .i64 (cntN l n _ + if _ then 1 else 0)
            rw [if_pos rfl]
          · rw [if_neg hj, Hc1.out]
            show Value.int .i64 _ = Value.int .i64 (cntN l n _ + if _ then 1 else 0)
            rw [if_neg (fun e => hj e.symm), Int.add_zero]
        · intro p
          rw [R3.out]
          by_cases hj : p = (atI l (n : Int)).P
          · subst hj
            rw [if_pos rfl]
            show Value.int .i64 _ = Value.int .i64 (cntP l n _ + if _ then 1 else 0)
            rw [if_pos rfl]
          · rw [if_neg hj, Hc2.out]
            show Value.int .i64 _ = Value.int .i64 (cntP l n _ + if _ then 1 else 0)
            rw [if_neg (fun e => hj e.symm), Int.add_zero]
    · have e : n = l.length := by omega
      subst e
      have e0 : checkFrom l (l.length - l.length) l.length = ((l.length : Int), 0) := by rw [Nat.sub_self]; rfl
      have E0 := Hid.mk e0
      clear e0
      (repeat' (first | (with_reducible refine A1 (fun _ => ?_) (fun _ => ?_) <;> try (exfalso; omega)) | (with_reducible refine A2 (fun _ => ?_) (fun _ => ?_) <;> try (exfalso; omega)) | (with_reducible refine A3 (fun _ => ?_) (fun _ => ?_) <;> try (exfalso; omega)) | refine A4 (fun _ => ?_) (fun _ => ?_) | refine A5 (fun _ => ?_) (fun _ => ?_) | refine A6 (fun _ => ?_) (fun _ => ?_) | simp -dsimp (disch := omega) only [↓EA, EB, Nat.reduceEqDiff, Nat.reduceAdd, Nat.reduceLeDiff, Nat.reduceMul, ↓reduceIte, reduceCtorEq, newCells, bslV, eq_self, *, hl.len]))
      rw [Hcf.out, E0.out]
end Go.L.Try
