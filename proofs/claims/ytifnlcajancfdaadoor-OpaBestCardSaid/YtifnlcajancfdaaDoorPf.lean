/- OPA, PLAIN: a bound depends on who is ahead, and who is behind, alone; behind fewer it is no greater. -/
import Derived.Test.YtifnlcajancfdaaDoorPe
import Derived.Test.YtifnlcajancfdaaDoorPa
set_option linter.unusedVariables false
set_option maxRecDepth 100000
namespace Go.L.Try
open Go Go.L
structure SameT (x t : Task) : Prop where
  C : x.C = t.C
  T : x.T = t.T
  D : x.D = t.D
  J : x.J = t.J
  Q : x.Q = t.Q
theorem higherN_cong {x y : List Task} {i w : Int} : ∀ n : Nat, (∀ k : Nat, k < n → SameT (atI x (k : Int)) (atI y (k : Int))) → (∀ k : Nat, k < n → ((atI x (k : Int)).P < (atI x i).P ↔ (atI y (k : Int)).P < (atI y i).P)) → higherN x i w n = higherN y i w n
  | 0, _, _ => rfl
  | n + 1, hs, hlt => by
    have ih := higherN_cong n (fun k hk => hs k (by omega)) (fun k hk => hlt k (by omega)) (w := w)
    have s := hs n (by omega)
    unfold higherN
    rw [ih]
    simp only [hlt n (by omega), oftenP, s.C, s.T, s.J]
theorem blockN_cong {x y : List Task} {i : Int} : ∀ n : Nat, (∀ k : Nat, k < n → SameT (atI x (k : Int)) (atI y (k : Int))) → (∀ k : Nat, k < n → ((atI x i).P < (atI x (k : Int)).P ↔ (atI y i).P < (atI y (k : Int)).P)) → blockN x i n = blockN y i n
  | 0, _, _ => rfl
  | n + 1, hs, hlt => by
    have ih := blockN_cong n (fun k hk => hs k (by omega)) (fun k hk => hlt k (by omega))
    have s := hs n (by omega)
    unfold blockN
    rw [ih]
    simp only [hlt n (by omega), s.Q]
structure SameO (x y : List Task) (i : Int) : Prop where
  len : x.length = y.length
  same : ∀ k : Nat, k < y.length → SameT (atI x (k : Int)) (atI y (k : Int))
  lt : ∀ k : Nat, k < y.length → ((atI x (k : Int)).P < (atI x i).P ↔ (atI y (k : Int)).P < (atI y i).P)
  gt : ∀ k : Nat, k < y.length → ((atI x i).P < (atI x (k : Int)).P ↔ (atI y i).P < (atI y (k : Int)).P)
theorem SameO.at {x y : List Task} {i : Int} (s : SameO x y i) (h0 : 0 ≤ i) (h1 : i < y.length) : SameT (atI x i) (atI y i) := by
  have := s.same i.toNat (by omega)
  rwa [show ((i.toNat : Nat) : Int) = i by omega] at this
theorem needP_cong {x y : List Task} {i : Int} (hx : isP x i = true) (hy : isP y i = true) (s : SameO x y i) (w : Int) : needP x i w = needP y i w := by
  have hi := (isP_ok hy).1
  rw [needP_eq hx, needP_eq hy]
  have e1 : blockP x i = blockP y i := by unfold blockP; rw [if_pos hx, if_pos hy, s.len]; exact blockN_cong _ s.same s.gt
  have e2 : higherP x i w = higherP y i w := by
    unfold higherP
    by_cases h0 : 0 < w
    · rw [if_pos ⟨hx, h0⟩, if_pos ⟨hy, h0⟩, s.len]; exact higherN_cong _ s.same s.lt
    · rw [if_neg fun h => h0 h.2, if_neg fun h => h0 h.2]
  rw [e1, e2, (s.at hi.1 hi.2).C]
theorem leastN_cong {x y : List Task} {i : Int} (h : ∀ w, needP x i w = needP y i w) : ∀ (n : Nat) (w : Int), leastN x i n w = leastN y i n w
  | 0, _ => rfl
  | n + 1, w => by unfold leastN; rw [h w, leastN_cong h n]
theorem boundP_cong {x y : List Task} {i : Int} (hx : isP x i = true) (hy : isP y i = true) (s : SameO x y i) : boundP x i = boundP y i := by
  have hi := (isP_ok hy).1
  have a := s.at hi.1 hi.2
  unfold boundP leastP mostP
  rw [if_pos hx, if_pos hy, a.D, a.J, leastN_cong (needP_cong hx hy s)]
def opG (a b c : Int) (l : List Task) (i : Nat) (A : Nat → Bool) : List Task := l.mapIdx fun k t => { t with P := if k = i then c else if A k then a + k else b + k }
theorem opG_len (a b c : Int) (l : List Task) (i : Nat) (A : Nat → Bool) : (opG a b c l i A).length = l.length := by simp [opG]
theorem opG_at {a b c : Int} {l : List Task} {i : Nat} {A : Nat → Bool} {k : Nat} (hk : k < l.length) : atI (opG a b c l i A) (k : Int) = { atI l (k : Int) with P := if k = i then c else if A k then a + k else b + k } := by
  rw [atI_nat (by rw [opG_len]; exact hk), atI_nat hk]
  simp [opG]
structure Sep (a b c : Int) (n i : Nat) : Prop where
  a1 : 1 ≤ a
  c1 : 1 ≤ c ∧ c ≤ 1048576
  b1 : b + n ≤ 1048577
  sep : ∀ k : Nat, k < n → k ≠ i → a + k < c ∧ c < b + k
theorem opG_valid {a b c : Int} {l : List Task} {i : Nat} {A : Nat → Bool} (hv : validP l) (hs : Sep a b c l.length i) : validP (opG a b c l i A) := by
  obtain ⟨h1, h2, h3⟩ := valid_iff.1 hv
  have key : ∀ k : Nat, k < l.length → okTask (atI (opG a b c l i A) (k : Int)) := fun k hk => by
    rw [opG_at hk]
    obtain ⟨⟨r1, r2, r3, r4, r5, r6, r7, r8⟩, f⟩ := h2 _ (atI_mem (l := l) (i := (k : Int)) (by omega) (by omega))
    refine ⟨⟨r1, r2, r3, r4, r5, r6, r7, ?_⟩, f⟩
    have s := hs.sep k hk
    have := hs.a1; have := hs.c1; have := hs.b1
    dsimp only
    split
    · omega
    · rename_i e
      have s := s e
      split <;> omega
  refine valid_iff.2 ⟨by rw [opG_len]; exact h1, fun t ht => ?_, fun j k hj hk => ?_⟩
  · obtain ⟨k, hk, rfl⟩ := List.getElem_of_mem ht
    have := key k (by rw [opG_len] at hk; exact hk)
    rwa [atI_nat hk] at this
  · rw [opG_len] at hk
    rw [opG_at (by omega : j < l.length), opG_at hk]
    refine ⟨(h3 j k hj hk).1, ?_⟩
    have sj := hs.sep j (by omega)
    have sk := hs.sep k hk
    dsimp only
    intro e
    by_cases e1 : j = i
    · have e2 : k ≠ i := by omega
      have := sk e2
      rw [if_pos e1, if_neg e2] at e
      split at e <;> omega
    · have := sj e1
      rw [if_neg e1] at e
      by_cases e2 : k = i
      · rw [if_pos e2] at e
        split at e <;> omega
      · have := sk e2
        rw [if_neg e2] at e
        split at e <;> split at e <;> omega
theorem opG_lt {a b c : Int} {l : List Task} {i : Nat} {A : Nat → Bool} (hs : Sep a b c l.length i) (hi : i < l.length) {k : Nat} (hk : k < l.length) :
    ((atI (opG a b c l i A) (k : Int)).P < (atI (opG a b c l i A) (i : Int)).P ↔ k ≠ i ∧ A k = true) ∧ ((atI (opG a b c l i A) (i : Int)).P < (atI (opG a b c l i A) (k : Int)).P ↔ k ≠ i ∧ A k = false) := by
  rw [opG_at hk, opG_at hi]
  dsimp only
  rw [if_pos rfl]
  have s := hs.sep k hk
  by_cases e : k = i
  · rw [if_pos e]
    exact ⟨⟨fun h => by omega, fun h => absurd e h.1⟩, ⟨fun h => by omega, fun h => absurd e h.1⟩⟩
  · rw [if_neg e]
    have := s e
    cases hA : A k
    · simp only [Bool.false_eq_true, if_false]
      exact ⟨⟨fun h => by omega, fun h => by simp at h⟩, ⟨fun h => ⟨e, by simp⟩, fun h => by omega⟩⟩
    · simp only [if_true]
      exact ⟨⟨fun h => ⟨e, by simp⟩, fun h => by omega⟩, ⟨fun h => by omega, fun h => by simp at h⟩⟩
theorem opG_isP {a b c : Int} {l : List Task} {i : Nat} {A : Nat → Bool} (hv : validP l) (hs : Sep a b c l.length i) (hi : i < l.length) : isP (opG a b c l i A) (i : Int) = true :=
  valid_isP (opG_valid hv hs) (by omega) (by rw [opG_len]; omega)
theorem opG_cong {a b c a' b' c' : Int} {l : List Task} {i : Nat} {A B : Nat → Bool} (hv : validP l) (hs : Sep a b c l.length i) (hs' : Sep a' b' c' l.length i) (hi : i < l.length) (hAB : ∀ k, k < l.length → k ≠ i → A k = B k) :
    boundP (opG a b c l i A) (i : Int) = boundP (opG a' b' c' l i B) (i : Int) := by
  refine boundP_cong (opG_isP hv hs hi) (opG_isP hv hs' hi) ⟨by rw [opG_len, opG_len], fun k hk => ?_, fun k hk => ?_, fun k hk => ?_⟩
  · rw [opG_len] at hk; rw [opG_at hk, opG_at hk]; exact ⟨rfl, rfl, rfl, rfl, rfl⟩
  · rw [opG_len] at hk
    rw [(opG_lt hs hi hk).1, (opG_lt hs' hi hk).1]
    exact ⟨fun h => ⟨h.1, by rw [← hAB k hk h.1]; exact h.2⟩, fun h => ⟨h.1, by rw [hAB k hk h.1]; exact h.2⟩⟩
  · rw [opG_len] at hk
    rw [(opG_lt hs hi hk).2, (opG_lt hs' hi hk).2]
    exact ⟨fun h => ⟨h.1, by rw [← hAB k hk h.1]; exact h.2⟩, fun h => ⟨h.1, by rw [hAB k hk h.1]; exact h.2⟩⟩
theorem sep_op {n i : Nat} (hn : n ≤ 1024) (hi : i < n) : Sep 1 (2 * (n : Int)) ((n : Int) + 1) n i := ⟨by omega, by omega, by omega, fun k hk hne => by omega⟩
theorem sep_ref {n i : Nat} (hn : n ≤ 1024) : Sep 1 5000 4000 n i := ⟨by omega, by omega, by omega, fun k hk hne => by omega⟩
def fitsP (l : List Task) (i : Int) (A : Nat → Bool) : Bool := decide (validP l ∧ (0 ≤ i ∧ i < l.length) ∧ (boundP (opG 1 (2 * (l.length : Int)) ((l.length : Int) + 1) l i.toNat A) i).2 = 0)
theorem fits_ref {l : List Task} {i : Int} {A B : Nat → Bool} (hAB : ∀ k, k < l.length → A k = B k) :
    fitsP l i A = decide (validP l ∧ (0 ≤ i ∧ i < l.length) ∧ (boundP (opG 1 5000 4000 l i.toNat B) i).2 = 0) := by
  unfold fitsP
  congr 1
  refine propext (and_congr_right fun hv => and_congr_right fun hi => ?_)
  have hn := (valid_iff.1 hv).1.2
  have e := opG_cong (A := A) (B := B) hv (sep_op (i := i.toNat) hn (by omega)) (sep_ref (i := i.toNat) hn) (by omega) fun k hk _ => hAB k hk
  rw [show ((i.toNat : Nat) : Int) = i by omega] at e
  rw [e]
theorem fits_cong {l : List Task} {i : Int} {A B : Nat → Bool} (hAB : ∀ k, k < l.length → (k : Int) ≠ i → A k = B k) : fitsP l i A = fitsP l i B := by
  unfold fitsP
  congr 1
  refine propext (and_congr_right fun hv => and_congr_right fun hi => ?_)
  have hn := (valid_iff.1 hv).1.2
  have e := opG_cong (A := A) (B := B) hv (sep_op (i := i.toNat) hn (by omega)) (sep_op (i := i.toNat) hn (by omega)) (by omega) fun k hk hne => hAB k hk (by omega)
  rw [show ((i.toNat : Nat) : Int) = i by omega] at e
  rw [e]
theorem need_fullA {l : List Task} {i : Int} (hb : isP l i = true) (hl : ∀ t ∈ l, Mid t) (hn : l.length ≤ 6) {w : Int} (hw : 1 ≤ w ∧ w ≤ 1073741824) : needP l i w = (atI l i).C + blockN l i l.length + hN l i w l.length := by
  obtain ⟨hi, _, hok⟩ := isP_ok hb
  obtain ⟨e, h1, h2⟩ := nosat hl hn (i := i) (w := w) (by omega) l.length (Nat.le_refl _)
  have hC := (hl _ (atI_mem hi.1 hi.2)).C
  have hB : 0 ≤ blockN l i l.length ∧ blockN l i l.length ≤ 2147483647 := blockN_in hok i _ (Nat.le_refl _)
  have eh : higherP l i w = hN l i w l.length := by unfold higherP; rw [if_pos ⟨hb, by omega⟩]; exact e
  have ebl : blockP l i = blockN l i l.length := by unfold blockP; rw [if_pos hb]
  rw [needP_eq hb, eh, ebl]
  have e2 : sat ((atI l i).C + blockN l i l.length) = (atI l i).C + blockN l i l.length := by unfold sat; rw [if_pos (by omega)]
  rw [e2]
  unfold sat
  rw [if_pos (by omega)]
theorem term_ge {t : Task} (m : Mid t) (ho : okTask t) {w : Int} (hw : 1 ≤ w) : t.Q ≤ ((w + t.J + t.T - 1) / t.T) * t.C ∧ 0 ≤ ((w + t.J + t.T - 1) / t.T) * t.C := by
  have hf := ho.2
  simp only [fitsB] at hf
  have hC := m.C; have hT := m.T; have hJ := m.J
  have h1 : 1 ≤ (w + t.J + t.T - 1) / t.T := (Int.le_ediv_iff_mul_le (by omega)).2 (by omega)
  have h2 : 1 * t.C ≤ ((w + t.J + t.T - 1) / t.T) * t.C := Int.mul_le_mul_of_nonneg_right h1 (by omega)
  omega
structure Fewer (x y : List Task) (i : Int) : Prop where
  len : x.length = y.length
  same : ∀ k : Nat, k < y.length → SameT (atI x (k : Int)) (atI y (k : Int))
  lt : ∀ k : Nat, k < y.length → (atI x (k : Int)).P < (atI x i).P → (atI y (k : Int)).P < (atI y i).P
  gt : ∀ k : Nat, k < y.length → (atI y i).P < (atI y (k : Int)).P → (atI x i).P < (atI x (k : Int)).P
  me : ∀ k : Nat, k < y.length → (atI x i).P < (atI x (k : Int)).P → (atI y k).P < (atI y i).P ∨ (atI y i).P < (atI y (k : Int)).P
theorem fewer_sum {x y : List Task} {i : Int} (s : Fewer x y i) (hm : ∀ t ∈ y, Mid t) (ho : ∀ t ∈ y, okTask t) {w : Int} (hw : 1 ≤ w) : ∀ n : Nat, n ≤ y.length →
    hN x i w n ≤ hN y i w n ∧ 0 ≤ blockN y i n ∧ blockN x i n + hN x i w n ≤ blockN y i n + hN y i w n
  | 0, _ => by simp [hN, blockN]
  | n + 1, hn => by
    obtain ⟨h1, h2, h3⟩ := fewer_sum s hm ho hw n (by omega)
    have sm := s.same n (by omega)
    have lt := s.lt n (by omega)
    have gt := s.gt n (by omega)
    have me := s.me n (by omega)
    have hmem := atI_mem (l := y) (i := (n : Int)) (by omega) (by omega)
    obtain ⟨t1, t2⟩ := term_ge (hm _ hmem) (ho _ hmem) hw
    have hq := (ho _ hmem).1
    simp only [rangesB] at hq
    unfold hN blockN
    rw [sm.C, sm.T, sm.J, sm.Q]
    generalize ((w + (atI y (n : Int)).J + (atI y (n : Int)).T - 1) / (atI y (n : Int)).T) * (atI y (n : Int)).C = z at *
    generalize (atI y (n : Int)).Q = q at *
    by_cases a : (atI x (n : Int)).P < (atI x i).P
    · have b := lt a
      have c : ¬ (atI x i).P < (atI x (n : Int)).P := by omega
      have d : ¬ (atI y i).P < (atI y (n : Int)).P := by omega
      rw [if_pos a, if_pos b, if_neg c, if_neg d]
      omega
    · rw [if_neg a]
      by_cases c : (atI x i).P < (atI x (n : Int)).P
      · rw [if_pos c]
        rcases me c with b | d
        · rw [if_pos b, if_neg (by omega)]; omega
        · rw [if_pos d, if_neg (by omega)]; omega
      · have d : ¬ (atI y i).P < (atI y (n : Int)).P := fun d => c (gt d)
        rw [if_neg c, if_neg d]
        split <;> omega
theorem bound_fewer {x y : List Task} {i : Int} (hx : isP x i = true) (hy : isP y i = true) (s : Fewer x y i) (mx : ∀ t ∈ x, Mid t) (my : ∀ t ∈ y, Mid t) (hn : y.length ≤ 6) (h : (boundP y i).2 = 0) : (boundP x i).2 = 0 := by
  obtain ⟨hi, _, oy⟩ := isP_ok hy
  have a : SameT (atI x i) (atI y i) := by
    have := s.same i.toNat (by omega)
    rwa [show ((i.toNat : Nat) : Int) = i by omega] at this
  have em : mostP x i = mostP y i := by unfold mostP; rw [a.D, a.J]
  unfold boundP at h ⊢
  rw [if_pos hy] at h
  rw [if_pos hx]
  cases hls : leastP y i with
  | none => rw [hls] at h; cases h
  | some w =>
    obtain ⟨⟨w1, w2⟩, w3, _⟩ := leastP_some hy hls
    have hmost : mostP y i ≤ 1073741824 := by
      have hmem := atI_mem hi.1 hi.2
      have h1 := (oy _ hmem).2
      have h2 := (my _ hmem).T
      have h3 := (my _ hmem).J
      simp only [fitsB] at h1
      unfold mostP; omega
    have e1 := need_fullA hy my hn (w := w) (by omega)
    have e2 := need_fullA hx mx (by rw [s.len]; exact hn) (w := w) (by omega)
    have f := (fewer_sum s my oy w1 y.length (Nat.le_refl _)).2.2
    rw [s.len, a.C] at e2
    cases hlx : leastP x i with
    | none =>
      have := leastP_none hlx w w1 (by omega)
      omega
    | some z => rfl
theorem fits_fewer {l : List Task} {i : Int} {A B : Nat → Bool} (hm : ∀ t ∈ l, Mid t) (hn : l.length ≤ 6) (hAB : ∀ k, k < l.length → (k : Int) ≠ i → B k = true → A k = true) (h : fitsP l i A = true) : fitsP l i B = true := by
  unfold fitsP at h ⊢
  obtain ⟨hv, hi, hb⟩ := of_decide_eq_true h
  refine decide_eq_true ⟨hv, hi, ?_⟩
  have hnl := (valid_iff.1 hv).1.2
  obtain ⟨n, rfl⟩ := Int.eq_ofNat_of_zero_le hi.1
  simp only [Int.toNat_natCast] at hb ⊢
  have hil : n < l.length := by omega
  have hs := sep_op (i := n) hnl hil
  have hmid : ∀ (A : Nat → Bool), ∀ t ∈ opG 1 (2 * (l.length : Int)) ((l.length : Int) + 1) l n A, Mid t := fun A t ht => by
    obtain ⟨k, hk, rfl⟩ := List.getElem_of_mem ht
    have e := opG_at (a := 1) (b := 2 * (l.length : Int)) (c := (l.length : Int) + 1) (i := n) (A := A) (by rw [opG_len] at hk; exact hk)
    rw [atI_nat hk] at e
    rw [e]
    have m := hm _ (atI_mem (l := l) (i := (k : Int)) (by omega) (by rw [opG_len] at hk; omega))
    exact ⟨m.C, m.T, m.J⟩
  refine bound_fewer (opG_isP hv hs hil) (opG_isP hv hs hil) ⟨by rw [opG_len, opG_len], fun k hk => ?_, fun k hk => ?_, fun k hk => ?_, fun k hk => ?_⟩ (hmid _) (hmid _) (by rw [opG_len]; exact hn) hb
  · rw [opG_len] at hk; rw [opG_at hk, opG_at hk]; exact ⟨rfl, rfl, rfl, rfl, rfl⟩
  · rw [opG_len] at hk
    rw [(opG_lt hs hil hk).1, (opG_lt hs hil hk).1]
    exact fun h => ⟨h.1, hAB k hk (by omega) h.2⟩
  · rw [opG_len] at hk
    rw [(opG_lt hs hil hk).2, (opG_lt hs hil hk).2]
    exact fun h => ⟨h.1, by cases hB : B k; rfl; rw [hAB k hk (by omega) hB] at h; cases h.2⟩
  · rw [opG_len] at hk
    rw [(opG_lt hs hil hk).2]
    intro h
    have a1 := (opG_lt (A := A) hs hil hk).1
    have a2 := (opG_lt (A := A) hs hil hk).2
    cases hA : A k
    · exact .inr (a2.2 ⟨h.1, hA⟩)
    · exact .inl (a1.2 ⟨h.1, hA⟩)
end Go.L.Try
namespace Go.L.Try
open Go Go.L
def pickL (l : List Task) (S : Nat → Bool) : List Nat → Option Nat × Nat
  | [] => (none, 0)
  | i :: r => if fitsP l (i : Int) S then (some i, 1) else ((pickL l S r).1, (pickL l S r).2 + 1)
def inL (es : List Nat) (k : Nat) : Bool := decide (k ∈ es)
def assignN (l : List Task) : Nat → List Nat → List Int → Nat → List Int × Nat × Nat × Int
  | 0, _, o, t => (o, 0, t, 0)
  | n + 1, es, o, t => match (pickL l (inL es) es).1 with
    | none => ([], n + 1, t + (pickL l (inL es) es).2, 16)
    | some i => assignN l n (es.filter fun k => decide (k ≠ i)) ((i : Int) :: o) (t + (pickL l (inL es) es).2)
def assignP (l : List Task) : List Int × Nat × Nat × Int := if validP l then assignN l l.length (List.range l.length) [] 0 else ([], 0, 0, 1)
theorem pickL_len (l : List Task) (S : Nat → Bool) : ∀ es : List Nat, (pickL l S es).2 ≤ es.length ∧ (es ≠ [] → 1 ≤ (pickL l S es).2)
  | [] => by simp [pickL]
  | i :: r => by
    have ih := pickL_len l S r
    unfold pickL
    split
    · simp
    · simp only [List.length_cons]; exact ⟨by omega, fun _ => by omega⟩
theorem pickL_some {l : List Task} {S : Nat → Bool} {i : Nat} : ∀ {es : List Nat}, (pickL l S es).1 = some i → i ∈ es ∧ fitsP l (i : Int) S = true
  | [], h => by cases h
  | j :: r, h => by
    unfold pickL at h
    split at h
    · rename_i hf; cases h; exact ⟨by simp, hf⟩
    · have := pickL_some (es := r) h; exact ⟨by simp [this.1], this.2⟩
theorem pickL_none {l : List Task} {S : Nat → Bool} : ∀ {es : List Nat}, (pickL l S es).1 = none → ∀ i ∈ es, fitsP l (i : Int) S = false
  | [], _, i, hi => by cases hi
  | j :: r, h, i, hi => by
    unfold pickL at h
    split at h
    · cases h
    · rename_i hf
      rcases List.mem_cons.1 hi with rfl | hi
      · simpa using hf
      · exact pickL_none (es := r) h i hi
theorem pickL_cong {l l' : List Task} {S S' : Nat → Bool} : ∀ {es : List Nat}, (∀ i ∈ es, fitsP l (i : Int) S = fitsP l' (i : Int) S') → pickL l S es = pickL l' S' es
  | [], _ => rfl
  | j :: r, h => by
    unfold pickL
    rw [h j (by simp), pickL_cong (es := r) fun i hi => h i (by simp [hi])]
theorem out_len {es : List Nat} (hn : es.Nodup) {i : Nat} (hi : i ∈ es) : (es.filter fun k => decide (k ≠ i)).length + 1 = es.length := by
  induction es with
  | nil => cases hi
  | cons a r ih =>
    obtain ⟨h1, h2⟩ := List.nodup_cons.1 hn
    by_cases e : a = i
    · subst e
      have : (r.filter fun k => decide (k ≠ a)) = r := List.filter_eq_self.2 fun x hx => by simp; rintro rfl; exact h1 hx
      rw [List.filter_cons_of_neg (by simp), this]; rfl
    · rw [List.filter_cons_of_pos (by simp [e])]
      have hir : i ∈ r := by rcases List.mem_cons.1 hi with h | h; exact absurd h.symm e; exact h
      have := ih h2 hir
      simp only [List.length_cons]; omega
theorem assignN_cong {l l' : List Task} (h : ∀ (i : Int) S, fitsP l i S = fitsP l' i S) : ∀ (n : Nat) es o t, assignN l n es o t = assignN l' n es o t
  | 0, _, _, _ => rfl
  | n + 1, es, o, t => by
    unfold assignN
    rw [pickL_cong (l' := l') (S' := inL es) fun i _ => h i _]
    split
    · rfl
    · exact assignN_cong h n _ _ _
theorem assignN_tests {l : List Task} : ∀ (n : Nat) (es : List Nat) (o : List Int) (t : Nat), es.Nodup → es.length = n →
    2 * (assignN l n es o t).2.2.1 ≤ 2 * t + n * (n + 1) ∧ t + n ≤ (assignN l n es o t).2.2.1 + (assignN l n es o t).2.1 ∧ (assignN l n es o t).2.1 ≤ n ∧ t ≤ (assignN l n es o t).2.2.1
  | 0, es, o, t, _, _ => by simp [assignN]
  | n + 1, es, o, t, hd, hl => by
    have h1 := pickL_len l (inL es) es
    have hne : es ≠ [] := fun e => by rw [e] at hl; cases hl
    have h2 := h1.2 hne
    have e : (n + 1) * (n + 1 + 1) = n * (n + 1) + 2 * (n + 1) := by rw [Nat.add_mul, Nat.mul_add]; omega
    rw [e]
    unfold assignN
    split
    · dsimp only; omega
    · rename_i i hi
      have hm := (pickL_some hi).1
      obtain ⟨a, b, c, d⟩ := assignN_tests (l := l) n (es.filter fun k => decide (k ≠ i)) ((i : Int) :: o) (t + (pickL l (inL es) es).2) (hd.filter _) (by have := out_len hd hm; omega)
      omega
def Can (l : List Task) : Nat → (Nat → Bool) → Prop
  | 0, _ => True
  | n + 1, S => ∃ i : Nat, i < l.length ∧ S i = true ∧ fitsP l (i : Int) S = true ∧ Can l n (fun k => S k && decide (k ≠ i))
theorem can_greedy {l : List Task} (hm : ∀ t ∈ l, Mid t) (hl : l.length ≤ 6) : ∀ (n : Nat) (S : Nat → Bool) (i : Nat), Can l (n + 1) S → i < l.length → S i = true → fitsP l (i : Int) S = true → Can l n (fun k => S k && decide (k ≠ i))
  | 0, S, i, _, _, _, _ => trivial
  | n + 1, S, i, hc, hi, hS, hf => by
    obtain ⟨j, hj, hSj, hfj, hcj⟩ := hc
    by_cases e : i = j
    · subst e; exact hcj
    · have h1 : fitsP l (i : Int) (fun k => S k && decide (k ≠ j)) = true := fits_fewer hm hl (fun k _ _ h => by simp at h; exact h.1) hf
      have h2 := can_greedy hm hl n _ i hcj hi (by simp [hS, e]) h1
      refine ⟨j, hj, by simp [hSj]; exact fun h => e h.symm, fits_fewer hm hl (fun k _ _ h => by simp at h; exact h.1) hfj, ?_⟩
      have e2 : (fun k => (S k && decide (k ≠ i)) && decide (k ≠ j)) = (fun k => (S k && decide (k ≠ j)) && decide (k ≠ i)) := by
        funext k; rw [Bool.and_assoc, Bool.and_assoc, Bool.and_comm (decide (k ≠ i))]
      rw [e2]; exact h2
theorem can_set {l : List Task} {n : Nat} {S S' : Nat → Bool} (h : S = S') : Can l n S ↔ Can l n S' := by rw [h]
theorem inL_out (es : List Nat) (i : Nat) : inL (es.filter fun k => decide (k ≠ i)) = fun k => inL es k && decide (k ≠ i) := by
  funext k; unfold inL; rw [Bool.eq_iff_iff]; simp [List.mem_filter]
theorem assignN_iff {l : List Task} (hm : ∀ t ∈ l, Mid t) (hl : l.length ≤ 6) : ∀ (n : Nat) (es : List Nat) (o : List Int) (t : Nat), (∀ k ∈ es, k < l.length) → es.Nodup → es.length = n → ((assignN l n es o t).2.2.2 = 0 ↔ Can l n (inL es)) ∧ ((assignN l n es o t).2.2.2 = 0 ∨ (assignN l n es o t).2.2.2 = 16)
  | 0, es, o, t, _, _, _ => ⟨⟨fun _ => trivial, fun _ => rfl⟩, .inl rfl⟩
  | n + 1, es, o, t, hk, hd, hn => by
    unfold assignN
    split
    · rename_i hp
      have h := pickL_none hp
      refine ⟨⟨fun e => absurd (show (16 : Int) = 0 from e) (by decide), fun ⟨i, h1, h2, h3, _⟩ => ?_⟩, .inr rfl⟩
      have := h i (by unfold inL at h2; exact of_decide_eq_true h2)
      rw [h3] at this; cases this
    · rename_i i hp
      obtain ⟨h1, h2⟩ := pickL_some hp
      obtain ⟨a, b⟩ := assignN_iff hm hl n (es.filter fun k => decide (k ≠ i)) ((i : Int) :: o) (t + (pickL l (inL es) es).2) (fun k h => hk k (List.mem_filter.1 h).1) (hd.filter _) (by have := out_len hd h1; omega)
      refine ⟨a.trans ?_, b⟩
      rw [can_set (inL_out es i)]
      have hS : inL es i = true := by unfold inL; exact decide_eq_true h1
      exact ⟨fun h => ⟨i, hk i h1, hS, h2, h⟩, fun h => can_greedy hm hl n _ i h (hk i h1) hS h2⟩
theorem assignN_orderLen {l : List Task} : ∀ (n : Nat) (es : List Nat) (o : List Int) (t : Nat), (assignN l n es o t).1.length ≤ o.length + n
  | 0, es, o, t => by simp [assignN]
  | n + 1, es, o, t => by
    unfold assignN
    split
    · simp
    · rename_i i _
      have := assignN_orderLen (l := l) n (es.filter fun k => decide (k ≠ i)) ((i : Int) :: o) (t + (pickL l (inL es) es).2)
      simp only [List.length_cons] at this
      exact Nat.le_trans this (by omega)
theorem can_map {l l' : List Task} {f : Nat → Nat} (hf : ∀ k, k < l.length → f k < l'.length ∧ f (f k) = k) (hfit : ∀ (i : Nat) S, i < l.length → fitsP l (i : Int) (fun k => S (f k)) = fitsP l' ((f i : Nat) : Int) S) : ∀ (n : Nat) (S T : Nat → Bool), (∀ k, k < l.length → T k = S (f k)) → Can l n T → Can l' n S
  | 0, _, _, _, _ => trivial
  | n + 1, S, T, hT, ⟨i, h1, h2, h3, h4⟩ => by
    have h2' := hT i h1
    refine ⟨f i, (hf i h1).1, by rw [← h2']; exact h2, ?_, ?_⟩
    · rw [← hfit i S h1, ← h3]
      exact fits_cong fun k hk _ => (hT k hk).symm
    · refine can_map hf hfit n _ _ (fun k hk => ?_) h4
      rw [hT k hk]
      congr 1
      rw [decide_eq_decide]
      refine not_congr ⟨fun e => by rw [e], fun e => ?_⟩
      have h := (hf k hk).2
      rw [e, (hf i h1).2] at h; exact h.symm
end Go.L.Try
namespace Go.L.Try
open Go Go.L
theorem bound_zero {x : List Task} {i : Int} (hx : isP x i = true) : (boundP x i).2 = 0 ↔ ∃ w, 1 ≤ w ∧ w ≤ mostP x i ∧ needP x i w ≤ w := by
  unfold boundP
  rw [if_pos hx]
  cases h : leastP x i with
  | none => exact ⟨fun e => absurd (show (16 : Int) = 0 from e) (by decide), fun ⟨w, h1, h2, h3⟩ => by have := leastP_none h w h1 h2; omega⟩
  | some w =>
    obtain ⟨⟨h1, h2⟩, h3, _⟩ := leastP_some hx h
    exact ⟨fun _ => ⟨w, h1, h2, by omega⟩, fun _ => rfl⟩
theorem fits_same {l l' : List Task} (hv : validP l) (hv' : validP l') (hlen : l.length = l'.length) (hs : ∀ k : Nat, k < l'.length → SameT (atI l (k : Int)) (atI l' (k : Int))) (i : Int) (S : Nat → Bool) : fitsP l i S = fitsP l' i S := by
  unfold fitsP
  congr 1
  rw [hlen]
  refine propext ⟨fun ⟨_, hi, hb⟩ => ⟨hv', hi, ?_⟩, fun ⟨_, hi, hb⟩ => ⟨hv, hi, ?_⟩⟩
  all_goals
    have hn := (valid_iff.1 hv').1.2
    obtain ⟨n, rfl⟩ := Int.eq_ofNat_of_zero_le hi.1
    have hil : n < l'.length := by omega
    have s1 := sep_op (i := n) hn hil
    have s2 : Sep 1 (2 * (l'.length : Int)) ((l'.length : Int) + 1) l.length n := by rw [hlen]; exact s1
    have e : boundP (opG 1 (2 * (l'.length : Int)) ((l'.length : Int) + 1) l n S) (n : Int) = boundP (opG 1 (2 * (l'.length : Int)) ((l'.length : Int) + 1) l' n S) (n : Int) := by
      refine boundP_cong (opG_isP hv s2 (by omega)) (opG_isP hv' s1 hil) ⟨by rw [opG_len, opG_len, hlen], fun k hk => ?_, fun k hk => ?_, fun k hk => ?_⟩
      · rw [opG_len] at hk
        rw [opG_at (by omega), opG_at hk]
        have := hs k hk
        exact ⟨this.C, this.T, this.D, this.J, this.Q⟩
      · rw [opG_len] at hk
        rw [(opG_lt s2 (by omega) (by omega)).1, (opG_lt s1 hil hk).1]
      · rw [opG_len] at hk
        rw [(opG_lt s2 (by omega) (by omega)).2, (opG_lt s1 hil hk).2]
    have hnn : ((n : Int)).toNat = n := by omega
    rw [hnn] at hb ⊢
  · rw [← e]; exact hb
  · rw [e]; exact hb
def sumZ (f : Nat → Int) : Nat → Int
  | 0 => 0
  | n + 1 => sumZ f n + f n
def maxZ (f : Nat → Int) : Nat → Int
  | 0 => 0
  | n + 1 => max (maxZ f n) (f n)
theorem sumZ_head (f : Nat → Int) : ∀ n, sumZ f (n + 1) = f 0 + sumZ (fun k => f (k + 1)) n
  | 0 => by simp [sumZ]
  | n + 1 => by
    have ih := sumZ_head f n
    rw [sumZ, ih, sumZ]; omega
theorem sumZ_cong {f g : Nat → Int} : ∀ n, (∀ k, k < n → f k = g k) → sumZ f n = sumZ g n
  | 0, _ => rfl
  | n + 1, h => by rw [sumZ, sumZ, sumZ_cong n fun k hk => h k (by omega), h n (by omega)]
theorem sumZ_rev (f : Nat → Int) : ∀ n, sumZ (fun k => f (n - 1 - k)) n = sumZ f n
  | 0 => rfl
  | n + 1 => by
    rw [sumZ_head, sumZ]
    have := sumZ_rev f n
    rw [← this, sumZ_cong (g := fun k => f (n - 1 - k)) n fun k hk => by rw [show n + 1 - 1 - (k + 1) = n - 1 - k by omega]]
    rw [show n + 1 - 1 - 0 = n by omega]; omega
theorem maxZ_le (f : Nat → Int) : ∀ n x, maxZ f n ≤ x ↔ 0 ≤ x ∧ ∀ k, k < n → f k ≤ x
  | 0, x => by simp [maxZ]
  | n + 1, x => by
    rw [maxZ, Int.max_le, maxZ_le f n x]
    exact ⟨fun ⟨⟨a, b⟩, c⟩ => ⟨a, fun k hk => by rcases Nat.lt_or_ge k n with h | h; exact b k h; rw [show k = n by omega]; exact c⟩, fun ⟨a, b⟩ => ⟨⟨a, fun k hk => b k (by omega)⟩, b n (by omega)⟩⟩
theorem maxZ_rev (f : Nat → Int) (n : Nat) : maxZ (fun k => f (n - 1 - k)) n = maxZ f n := by
  have key : ∀ x, maxZ (fun k => f (n - 1 - k)) n ≤ x ↔ maxZ f n ≤ x := fun x => by
    rw [maxZ_le, maxZ_le]
    refine and_congr_right fun _ => ⟨fun h k hk => ?_, fun h k hk => h _ (by omega)⟩
    have := h (n - 1 - k) (by omega)
    rwa [show n - 1 - (n - 1 - k) = k by omega] at this
  exact Int.le_antisymm ((key _).2 (Int.le_refl _)) ((key _).1 (Int.le_refl _))
theorem maxZ_cong {f g : Nat → Int} : ∀ n, (∀ k, k < n → f k = g k) → maxZ f n = maxZ g n
  | 0, _ => rfl
  | n + 1, h => by rw [maxZ, maxZ, maxZ_cong n fun k hk => h k (by omega), h n (by omega)]
theorem hN_sum (l : List Task) (i w : Int) : ∀ n, hN l i w n = sumZ (fun k => if (atI l (k : Int)).P < (atI l i).P then ((w + (atI l (k : Int)).J + (atI l (k : Int)).T - 1) / (atI l (k : Int)).T) * (atI l (k : Int)).C else 0) n
  | 0 => rfl
  | n + 1 => by
    have ih := hN_sum l i w n
    rw [hN, sumZ, ← ih]
    split <;> simp
theorem blockN_max {l : List Task} (hok : ∀ t ∈ l, okTask t) (i : Int) : ∀ n, n ≤ l.length → blockN l i n = maxZ (fun k => if (atI l i).P < (atI l (k : Int)).P then (atI l (k : Int)).Q - 1 else 0) n
  | 0, _ => rfl
  | n + 1, hn => by
    have ih := blockN_max hok i n (by omega)
    have h0 := (blockN_in hok i n (by omega)).1
    rw [blockN, maxZ, ← ih]
    split
    · rfl
    · rw [Int.max_eq_left h0]
theorem rev_at {l : List Task} {k : Nat} (hk : k < l.length) : atI l.reverse (k : Int) = atI l ((l.length - 1 - k : Nat) : Int) := by
  rw [atI_nat (by simpa using hk), atI_nat (by omega), List.getElem_reverse]
theorem rev_valid {l : List Task} (hv : validP l) : validP l.reverse := by
  obtain ⟨h1, h2, h3⟩ := valid_iff.1 hv
  refine valid_iff.2 ⟨by simpa using h1, fun t ht => h2 t (by simpa using ht), fun j k hj hk => ?_⟩
  rw [List.length_reverse] at hk
  rw [rev_at (by omega), rev_at hk]
  have h := h3 (l.length - 1 - k) (l.length - 1 - j) (by omega) (by omega)
  exact ⟨fun e => h.1 e.symm, fun e => h.2 e.symm⟩
theorem fits_rev {l : List Task} (hv : validP l) (hm : ∀ t ∈ l, Mid t) (hn : l.length ≤ 6) {i : Nat} (hi : i < l.length) (S : Nat → Bool) :
    fitsP l (i : Int) (fun k => S (l.length - 1 - k)) = fitsP l.reverse ((l.length - 1 - i : Nat) : Int) S := by
  have hvr := rev_valid hv
  have hnl := (valid_iff.1 hv).1.2
  have hri : l.length - 1 - i < l.length := by omega
  have s1 := sep_op (i := i) hnl hi
  have s2 := sep_op (i := l.length - 1 - i) hnl hri
  have s2' : Sep 1 (2 * (l.length : Int)) ((l.length : Int) + 1) l.reverse.length (l.length - 1 - i) := by rw [List.length_reverse]; exact s2
  generalize hA : (fun k => S (l.length - 1 - k)) = A
  have hx := opG_isP (A := A) hv s1 hi
  have hy := opG_isP (A := S) hvr s2' (by rw [List.length_reverse]; exact hri)
  have lx := opG_len 1 (2 * (l.length : Int)) ((l.length : Int) + 1) l i A
  have ly : (opG 1 (2 * (l.length : Int)) ((l.length : Int) + 1) l.reverse (l.length - 1 - i) S).length = l.length := by rw [opG_len, List.length_reverse]
  have ax : ∀ k : Nat, k < l.length → SameT (atI (opG 1 (2 * (l.length : Int)) ((l.length : Int) + 1) l i A) (k : Int)) (atI l (k : Int)) := fun k hk => by rw [opG_at hk]; exact ⟨rfl, rfl, rfl, rfl, rfl⟩
  have ay : ∀ k : Nat, k < l.length → SameT (atI (opG 1 (2 * (l.length : Int)) ((l.length : Int) + 1) l.reverse (l.length - 1 - i) S) (k : Int)) (atI l ((l.length - 1 - k : Nat) : Int)) := fun k hk => by
    rw [opG_at (by rw [List.length_reverse]; exact hk), rev_at hk]; exact ⟨rfl, rfl, rfl, rfl, rfl⟩
  have ltx := fun k hk => opG_lt (A := A) s1 hi (k := k) hk
  have lty := fun k (hk : k < l.length) => opG_lt (A := S) s2' (by rw [List.length_reverse]; exact hri) (k := k) (by rw [List.length_reverse]; exact hk)
  have hl : fitsP l (i : Int) A = decide ((boundP (opG 1 (2 * (l.length : Int)) ((l.length : Int) + 1) l i A) (i : Int)).2 = 0) := by
    unfold fitsP
    refine decide_eq_decide.2 ⟨fun h => h.2.2, fun h => ⟨hv, by omega, h⟩⟩
  have hr : fitsP l.reverse ((l.length - 1 - i : Nat) : Int) S = decide ((boundP (opG 1 (2 * (l.length : Int)) ((l.length : Int) + 1) l.reverse (l.length - 1 - i) S) ((l.length - 1 - i : Nat) : Int)).2 = 0) := by
    unfold fitsP
    rw [List.length_reverse]
    refine decide_eq_decide.2 ⟨fun h => h.2.2, fun h => ⟨hvr, by omega, h⟩⟩
  rw [hl, hr]
  generalize opG 1 (2 * (l.length : Int)) ((l.length : Int) + 1) l i A = x at *
  generalize opG 1 (2 * (l.length : Int)) ((l.length : Int) + 1) l.reverse (l.length - 1 - i) S = y at *
  have mx : ∀ t ∈ x, Mid t := fun t ht => by
    obtain ⟨k, hk, rfl⟩ := List.getElem_of_mem ht
    have h := ax k (by omega)
    rw [atI_nat hk] at h
    have m := hm _ (atI_mem (l := l) (i := (k : Int)) (by omega) (by omega))
    exact ⟨by rw [h.C]; exact m.C, by rw [h.T]; exact m.T, by rw [h.J]; exact m.J⟩
  have my : ∀ t ∈ y, Mid t := fun t ht => by
    obtain ⟨k, hk, rfl⟩ := List.getElem_of_mem ht
    have h := ay k (by omega)
    rw [atI_nat hk] at h
    have m := hm _ (atI_mem (l := l) (i := ((l.length - 1 - k : Nat) : Int)) (by omega) (by omega))
    exact ⟨by rw [h.C]; exact m.C, by rw [h.T]; exact m.T, by rw [h.J]; exact m.J⟩
  have si := ax i hi
  have sr := ay (l.length - 1 - i) hri
  rw [show l.length - 1 - (l.length - 1 - i) = i by omega] at sr
  have em : mostP x (i : Int) = mostP y ((l.length - 1 - i : Nat) : Int) := by unfold mostP; rw [si.D, si.J, sr.D, sr.J]
  have hmost : mostP x (i : Int) ≤ 1073741824 := by
    have hmem := atI_mem (l := x) (i := (i : Int)) (by omega) (by omega)
    have h1 := ((isP_ok hx).2.2 _ hmem).2
    have h2 := (mx _ hmem).T
    have h3 := (mx _ hmem).J
    simp only [fitsB] at h1
    unfold mostP; omega
  have en : ∀ w, 1 ≤ w → w ≤ mostP x (i : Int) → needP x (i : Int) w = needP y ((l.length - 1 - i : Nat) : Int) w := fun w h1 h2 => by
    rw [need_fullA hx mx (by omega) (by omega), need_fullA hy my (by omega) (by omega), si.C, sr.C, lx, ly]
    have e1 : hN x (i : Int) w l.length = hN y ((l.length - 1 - i : Nat) : Int) w l.length := by
      rw [hN_sum, hN_sum, ← sumZ_rev]
      refine sumZ_cong _ fun k hk => ?_
      have hk2 : l.length - 1 - k < l.length := by omega
      have a := ax (l.length - 1 - k) hk2
      have b := ay k hk
      have c := (ltx (l.length - 1 - k) hk2).1
      have d := (lty k hk).1
      rw [a.C, a.T, a.J, b.C, b.T, b.J]
      have e : ((atI x ((l.length - 1 - k : Nat) : Int)).P < (atI x (i : Int)).P) ↔ ((atI y (k : Int)).P < (atI y ((l.length - 1 - i : Nat) : Int)).P) := by
        rw [c, d, ← hA]
        simp only [show l.length - 1 - (l.length - 1 - k) = k by omega]
        exact ⟨fun h => ⟨by omega, h.2⟩, fun h => ⟨by omega, h.2⟩⟩
      simp only [e]
    have e2 : blockN x (i : Int) l.length = blockN y ((l.length - 1 - i : Nat) : Int) l.length := by
      rw [blockN_max (isP_ok hx).2.2 _ _ (by omega), blockN_max (isP_ok hy).2.2 _ _ (by omega), ← maxZ_rev]
      refine maxZ_cong _ fun k hk => ?_
      have hk2 : l.length - 1 - k < l.length := by omega
      have a := ax (l.length - 1 - k) hk2
      have b := ay k hk
      have c := (ltx (l.length - 1 - k) hk2).2
      have d := (lty k hk).2
      rw [a.Q, b.Q]
      have e : ((atI x (i : Int)).P < (atI x ((l.length - 1 - k : Nat) : Int)).P) ↔ ((atI y ((l.length - 1 - i : Nat) : Int)).P < (atI y (k : Int)).P) := by
        rw [c, d, ← hA]
        simp only [show l.length - 1 - (l.length - 1 - k) = k by omega]
        exact ⟨fun h => ⟨by omega, h.2⟩, fun h => ⟨by omega, h.2⟩⟩
      simp only [e]
    rw [e1, e2]
  refine decide_eq_decide.2 ?_
  rw [bound_zero hx, bound_zero hy, ← em]
  exact ⟨fun ⟨w, h1, h2, h3⟩ => ⟨w, h1, h2, by rw [← en w h1 h2]; exact h3⟩, fun ⟨w, h1, h2, h3⟩ => ⟨w, h1, h2, by rw [en w h1 h2]; exact h3⟩⟩
theorem assign_same {l l' : List Task} (hv : validP l) (hv' : validP l') (hlen : l.length = l'.length) (hs : ∀ k : Nat, k < l'.length → SameT (atI l (k : Int)) (atI l' (k : Int))) : assignP l = assignP l' := by
  unfold assignP
  rw [if_pos hv, if_pos hv', hlen]
  exact assignN_cong (fun i S => fits_same hv hv' hlen hs i S) _ _ _ _
theorem assign_tests {l : List Task} (hv : validP l) : 2 * (assignP l).2.2.1 ≤ l.length * (l.length + 1) ∧ l.length ≤ (assignP l).2.2.1 + (assignP l).2.1 ∧ (assignP l).2.1 ≤ l.length := by
  unfold assignP
  rw [if_pos hv]
  obtain ⟨a, b, c, _⟩ := assignN_tests (l := l) l.length (List.range l.length) [] 0 List.nodup_range (by simp)
  omega
theorem assign_iff {l : List Task} (hv : validP l) (hm : ∀ t ∈ l, Mid t) (hl : l.length ≤ 6) : ((assignP l).2.2.2 = 0 ↔ Can l l.length (inL (List.range l.length))) ∧ ((assignP l).2.2.2 = 0 ∨ (assignP l).2.2.2 = 16) := by
  unfold assignP
  rw [if_pos hv]
  exact assignN_iff hm hl _ _ _ _ (fun k hk => by simpa using hk) List.nodup_range (by simp)
theorem assign_back {l : List Task} (hv : validP l) (hm : ∀ t ∈ l, Mid t) (hl : l.length ≤ 6) : (assignP l.reverse).2.2.2 = (assignP l).2.2.2 := by
  have hvr := rev_valid hv
  have hmr : ∀ t ∈ l.reverse, Mid t := fun t ht => hm t (by simpa using ht)
  obtain ⟨a, a'⟩ := assign_iff hv hm hl
  obtain ⟨b, b'⟩ := assign_iff hvr hmr (by simpa using hl)
  rw [List.length_reverse] at b
  have e : Can l l.length (inL (List.range l.length)) ↔ Can l.reverse l.length (inL (List.range l.length)) := by
    constructor
    · refine can_map (f := fun k => l.length - 1 - k) (fun k hk => ⟨by rw [List.length_reverse]; omega, by omega⟩) (fun i S hi => fits_rev hv hm hl hi S) _ _ _ fun k hk => ?_
      unfold inL
      refine decide_eq_decide.2 ?_
      simp only [List.mem_range]; omega
    · have h := can_map (l := l.reverse) (l' := l.reverse.reverse) (f := fun k => l.length - 1 - k) (fun k hk => by rw [List.length_reverse] at hk; exact ⟨by rw [List.reverse_reverse]; omega, by omega⟩)
        (fun i S hi => by have := fits_rev hvr hmr (by simpa using hl) hi S; rw [List.length_reverse] at this; exact this) l.length (inL (List.range l.length)) (inL (List.range l.length)) (fun k hk => by
          rw [List.length_reverse] at hk
          unfold inL
          refine decide_eq_decide.2 ?_
          simp only [List.mem_range]; omega)
      rw [List.reverse_reverse] at h
      exact h
  rw [← e, ← a] at b
  rcases a' with h | h <;> rcases b' with h2 | h2 <;> rw [h, h2]
  · exact absurd (b.2 h) (by rw [h2]; decide)
  · exact absurd (b.1 h2) (by rw [h]; decide)
end Go.L.Try
set_option linter.unusedSimpArgs false
set_option maxHeartbeats 2000000
namespace Go.L.Try
open Go Go.L
variable {E : Env}
def insE : List Value → Heap → Option (Value × Heap × List Nat)
  | [s, .int .i64 z, .slice (some va) 1 vc], h => match h[va.block]? with
    | some (.cells vcs false) => match vcs[va.off]? with
      | some (.int .i64 x) => match s with
        | .slice none n c => if z = 0 ∧ n = 0 ∧ c = 0 then some (.slice (some ⟨h.length, 0, some 1⟩) 1 1, h ++ [.cells [.int .i64 x] false], []) else none
        | .slice (some a) n c => match h[a.block]? with
          | some (.cells cs false) => if z = 0 ∧ a.spot = some 1 ∧ n = c ∧ a.block ≠ va.block ∧ 0 < n ∧ n < 1024 ∧ a.off + n ≤ cs.length then
              some (.slice (some ⟨h.length, 0, some 1⟩) (n + 1) (n + 1), h.set a.block .dead ++ [.cells (.int .i64 x :: (cs.drop a.off).take n) false], [a.block]) else none
          | _ => none
        | _ => none
      | _ => none
    | _ => none
  | _, _ => none
theorem insE_keep : ∀ args h v h' ws, insE args h = some (v, h', ws) → Keeps h.length h h' ws := by
  intro args h v h' ws hv
  unfold insE at hv
  split at hv <;> try (cases hv; done)
  split at hv <;> try (cases hv; done)
  split at hv <;> try (cases hv; done)
  split at hv <;> try (cases hv; done)
  · split at hv <;> try (cases hv; done)
    simp only [Option.some.injEq, Prod.mk.injEq] at hv
    obtain ⟨rfl, rfl, rfl⟩ := hv
    exact ⟨by simp, fun b hb _ => List.getElem?_append_left hb⟩
  · split at hv <;> try (cases hv; done)
    split at hv <;> try (cases hv; done)
    simp only [Option.some.injEq, Prod.mk.injEq] at hv
    obtain ⟨rfl, rfl, rfl⟩ := hv
    refine ⟨by simp, fun b hb hn => ?_⟩
    rw [List.getElem?_append_left (by simpa using hb), List.getElem?_set_ne (by simp at hn; omega)]
structure LaidIns (E : Env) : Prop where
  ins : E n_slices_Insert_int_int = .ext insE
end Go.L.Try
