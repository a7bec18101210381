/- PLACES BY RELEASES: stream.Order, of few jobs (an insertion sort). -/
import Derived.Test.YtlmadipiopnfeaaDoorPd
import Derived.Test.YtlmadipiopnfeaaDoorPb
import Derived.Test.YtlmadipiopnfeaaDoorPa
set_option linter.unusedVariables false
set_option linter.unusedSimpArgs false
set_option maxRecDepth 100000
set_option maxHeartbeats 2000000
namespace Go.L.Try
open Go Go.L
variable {E : Env}
def cmp3 (x y : Int) : Int := if x < y then -1 else if y < x then 1 else 0
theorem cmpCompare (hE : Laid E) (h : Heap) (x y : Int) : callW E (.func (.func n_cmp_Compare_int64) #[] #[]) [.int .i64 x, .int .i64 y] h = some (.int .i64 (cmp3 x y), h, []) := by
  have nan : ∀ (h : Heap) (x : Int), callW E (.func (.func n_cmp_isNaN_int64) #[] #[]) [.int .i64 x] h = some (.bool false, h, []) := fun h x => by
    refine fn_same hE.cmp_isNaN_int64 rfl (by simp) ?_
    simp -dsimp (disch := omega) only [↓EA, EB, Nat.reduceEqDiff, ↓reduceIte, reduceCtorEq, eq_self, argsF]
  refine fn_same hE.cmp_Compare_int64 rfl (by simp) ?_
  simp only [argsF]
  (repeat' (first | (with_reducible refine A3 (fun _ => ?_) (fun _ => ?_) <;> try (exfalso; omega)) | simp -dsimp (disch := omega) only [↓EA, EB, Nat.reduceEqDiff, ↓reduceIte, reduceCtorEq, eq_self, *]))
  · simp [cmp3, *]
  · have : ¬ x < y := by omega
    simp [cmp3, *]
  · have : ¬ x < y := by omega
    have : ¬ y < x := by omega
    simp [cmp3, *]
def CmpOK (E : Env) (h0 : Heap) (cv : Value) (key : Int → Int) (n : Nat) : Prop := ∀ hh, Pre h0 hh → ∀ a b : Int, 0 ≤ a → a < n → 0 ≤ b → b < n → callW E cv [.int .i64 a, .int .i64 b] hh = some (.int .i64 (cmp3 (key a) (key b)), hh, [])
def leK (key : Int → Int) (x y : Int) : Prop := key x < key y ∨ (key x = key y ∧ x < y)
theorem ins_sorted {key : Int → Int} {S : List Int} {x : Int} {j : Nat} (hS : S.Pairwise (leK key)) (hx : ∀ y ∈ S, key y = key x → y < x) (hj : j ≤ S.length) (hd : ∀ y ∈ S.drop j, key x < key y) (hs : 0 < j → ¬ key x < key (atI S ((j : Int) - 1))) : (S.take j ++ x :: S.drop j).Pairwise (leK key) := by
  have hSS := hS
  rw [← List.take_append_drop j S, List.pairwise_append] at hS
  obtain ⟨h1, h2, h3⟩ := hS
  have htake : ∀ y ∈ S.take j, leK key y x := fun y hy => by
    have hyS := List.mem_of_mem_take hy
    have hj0 : 0 < j := by
      rcases Nat.eq_zero_or_pos j with e | e
      · subst e; simp at hy
      · exact e
    have hle : key y ≤ key (atI S ((j : Int) - 1)) := by
      obtain ⟨k, hk, rfl⟩ := List.getElem_of_mem hy
      rw [List.length_take] at hk
      rw [List.getElem_take]
      rw [show ((j : Int) - 1) = ((j - 1 : Nat) : Int) by omega, atI_nat (by omega)]
      by_cases e : k = j - 1
      · subst e; exact Int.le_refl _
      · have := List.pairwise_iff_getElem.1 hSS k (j - 1) (by omega) (by omega) (by omega)
        unfold leK at this; omega
    have := hs hj0
    unfold leK
    by_cases e : key y = key x
    · exact .inr ⟨e, hx y hyS e⟩
    · left; omega
  refine List.pairwise_append.2 ⟨h1, List.pairwise_cons.2 ⟨fun y hy => .inl (hd y hy), h2⟩, fun y hy z hz => ?_⟩
  rcases List.mem_cons.1 hz with rfl | hz
  · exact htake y hy
  · exact h3 y hy z hz
theorem swap_step {P S R : List Int} {x : Int} {j : Nat} (hj : 0 < j) (hl : j ≤ S.length) :
    ((P ++ (S.take j ++ x :: S.drop j) ++ R).set (P.length + j) (atI S ((j : Int) - 1))).set (P.length + j - 1) x = P ++ (S.take (j - 1) ++ x :: S.drop (j - 1)) ++ R := by
  obtain ⟨k, rfl⟩ : ∃ k, j = k + 1 := ⟨j - 1, by omega⟩
  have hk : k < S.length := by omega
  have e1 : S.take (k + 1) = S.take k ++ [S[k]] := by rw [List.take_succ_eq_append_getElem hk]
  have e2 : S.drop k = S[k] :: S.drop (k + 1) := List.drop_eq_getElem_cons hk
  have e3 : atI S (((k + 1 : Nat) : Int) - 1) = S[k] := by rw [show (((k + 1 : Nat) : Int) - 1) = (k : Int) by omega, atI_nat hk]
  rw [e3, e1, show k + 1 - 1 = k from rfl, e2]
  have l1 : (S.take k).length = k := by rw [List.length_take]; omega
  have e5 : P ++ (S.take k ++ [S[k]] ++ x :: S.drop (k + 1)) ++ R = (P ++ S.take k) ++ (S[k] :: x :: (S.drop (k + 1) ++ R)) := by simp only [List.append_assoc, List.cons_append, List.nil_append]
  rw [e5, List.set_append_right _ _ (by simp; omega)]
  rw [show P.length + (k + 1) - (P ++ S.take k).length = 1 by rw [List.length_append, l1]; omega, List.set_cons_succ, List.set_cons_zero]
  rw [show P.length + (k + 1) - 1 = P.length + k by omega, List.set_append_right _ _ (by simp; omega), show P.length + k - (P ++ S.take k).length = 0 by rw [List.length_append, l1]; omega, List.set_cons_zero]
  simp only [List.append_assoc, List.cons_append]
theorem atI_mid {P R : List Int} {x : Int} {i : Int} (h : i = P.length) : atI (P ++ x :: R) i = x := by
  subst h
  unfold atI
  rw [List.getD_eq_getElem?_getD, Int.toNat_natCast, List.getElem?_append_right (Nat.le_refl _), Nat.sub_self]; rfl
theorem insSort (hE : Laid E) {h0 h : Heap} {b cap n : Nat} {P M T : List Int} {key : Int → Int} {cv : Value} (hb : h[b]? = some (icells (P ++ M ++ T))) (hp : Pre h0 h) (hbm : h0.length ≤ b) (hc : CmpOK E h0 cv key n) (hin : ∀ x ∈ M, 0 ≤ x ∧ x < n) (hpre : M.Pairwise fun x y => key x = key y → x < y) (hfew : (P ++ M ++ T).length ≤ 1048576) {W : Nat → Prop} (hW : W b) :
    WX W (callW E (.func (.func n_slices_insertionSortCmpFunc_int) #[] #[]) [.slice (some ⟨b, 0, none⟩) (P ++ M ++ T).length cap, .int .i64 P.length, .int .i64 ((P.length : Int) + M.length), cv] h) (fun _ h' => ∃ M', M'.Perm M ∧ M'.Pairwise (leK key) ∧ h' = h.set b (icells (P ++ M' ++ T))) := by
  refine fn_all hE.slices_insertionSortCmpFunc_int rfl (by simp) ?_
  simp only [List.nil_append, List.cons_append, argsF]
  have hlt := (List.getElem?_eq_some_iff.1 hb).1
  have hlen : (P ++ M ++ T).length = P.length + M.length + T.length := by simp only [List.length_append]
  rw [hlen] at hfew ⊢
  have few1 : (P.length : Int) + M.length + T.length ≤ 1048576 := by omega
  have hset := set_same hb
  have Hin := Hid.mk hin
  have Hpre := Hid.mk hpre
  have Hc := Hid.mk hc
  clear hin hpre hlen hc
  (repeat' simp -dsimp (disch := omega) only [↓EA, EB, Nat.reduceEqDiff, Nat.reduceAdd, ↓reduceIte, reduceCtorEq, eq_self, *])
  refine WO.loop (fun (S : List Int) fr h' => h' = h.set b (icells (P ++ (S ++ M.drop S.length) ++ T)) ∧ (M = [] ∨ (S.length ≤ M.length ∧ 1 ≤ S.length)) ∧ S.Perm (M.take S.length) ∧ S.Pairwise (leK key) ∧ get fr 0 = .slice (some ⟨b, 0, none⟩) (P.length + M.length + T.length) cap ∧ get fr 1 = .int .i64 P.length ∧ get fr 2 = .int .i64 ((P.length : Int) + M.length) ∧ get fr 3 = cv ∧ get fr 8 = .int .i64 ((P.length : Int) + ((max 1 S.length : Nat) : Int))) (fun S => M.length - S.length) ?_ (M.take 1) ?_
  · rintro S fr h' ⟨rfl, hSl, hSp, hSs, g0, g1, g2, g3, g8⟩
    unfold c_slices_insertionSortCmpFunc_int_l1
    by_cases hend : max 1 S.length < M.length
    · have hS1 : S.length ≤ M.length ∧ 1 ≤ S.length := by rcases hSl with e | e; subst e; simp at hend; exact e
      have hSM : S.length < M.length := by omega
      have hmx : max 1 S.length = S.length := by omega
      have hd : M.drop S.length = M[S.length] :: M.drop (S.length + 1) := List.drop_eq_getElem_cons hSM
      obtain ⟨x, hx⟩ : ∃ x, x = M[S.length] := ⟨_, rfl⟩
      have hxm : x ∈ M := by rw [hx]; exact List.getElem_mem _
      rw [hd, ← hx]
      rw [hmx] at g8
      have hxn := Hin.out x hxm
      have hSin : ∀ y ∈ S, 0 ≤ y ∧ y < n := fun y hy => Hin.out y (List.mem_of_mem_take (hSp.mem_iff.1 hy))
      have hxS : ∀ y ∈ S, key y = key x → y < x := fun y hy => by
        have hy' := hSp.mem_iff.1 hy
        obtain ⟨k, hk, rfl⟩ := List.getElem_of_mem hy'
        rw [List.length_take] at hk
        rw [List.getElem_take, hx]
        exact List.pairwise_iff_getElem.1 Hpre.out k S.length (by omega) hSM (by omega)
      have hdone : ∀ j : Nat, j ≤ S.length → (∀ y ∈ S.drop j, key x < key y) → (0 < j → ¬ key x < key (atI S ((j : Int) - 1))) → (S.take j ++ x :: S.drop j).length = S.length + 1 ∧ (S.take j ++ x :: S.drop j).Perm (M.take (S.length + 1)) ∧ (S.take j ++ x :: S.drop j).Pairwise (leK key) := fun j hj h1 h2 => by
        refine ⟨by simp only [List.length_append, List.length_cons, List.length_take, List.length_drop]; omega, ?_, ins_sorted hSs hxS hj h1 h2⟩
        rw [List.take_succ_eq_append_getElem hSM, ← hx]
        refine List.Perm.trans List.perm_middle ?_
        rw [List.take_append_drop]
        exact (hSp.cons x).trans (List.perm_append_singleton x _).symm
      have Hdone := Hid.mk hdone
      clear hdone
      have HxS := Hid.mk hxS
      have HSin := Hid.mk hSin
      have HSp := Hid.mk hSp
      have HSs := Hid.mk hSs
      have Hx := Hid.mk hx
      have Hd := Hid.mk hd
      clear hSp hSs hSl hmx hxS hSin hx hd
      (repeat' (first | (with_reducible refine A3 (fun _ => ?_) (fun _ => ?_) <;> try (exfalso; omega)) | simp -dsimp (disch := omega) only [↓EA, EB, Nat.reduceEqDiff, ↓reduceIte, reduceCtorEq, eq_self, *]))
      have e0 : P ++ (S ++ x :: (M.drop (S.length + 1) ++ T)) = P ++ (S.take S.length ++ x :: S.drop S.length) ++ (M.drop (S.length + 1) ++ T) := by simp
      rw [e0]
      refine WO.loop (fun (j : Nat) fr h' => h' = h.set b (icells (P ++ (S.take j ++ x :: S.drop j) ++ (M.drop (S.length + 1) ++ T))) ∧ j ≤ S.length ∧ (∀ y ∈ S.drop j, key x < key y) ∧ get fr 0 = .slice (some ⟨b, 0, none⟩) (P.length + M.length + T.length) cap ∧ get fr 1 = .int .i64 P.length ∧ get fr 2 = .int .i64 ((P.length : Int) + M.length) ∧ get fr 3 = cv ∧ get fr 8 = .int .i64 ((P.length : Int) + S.length) ∧ get fr 9 = .int .i64 ((P.length : Int) + j)) (fun j => j) ?_ S.length ⟨rfl, Nat.le_refl _, by simp, rfl, rfl, rfl, rfl, rfl, rfl⟩
      rintro j fr h' ⟨rfl, hjS, hdr, g0, g1, g2, g3, g8, g9⟩
      unfold c_slices_insertionSortCmpFunc_int_l0
      have Hdr := Hid.mk hdr
      clear hdr
      have hll : (P ++ (S.take j ++ x :: S.drop j) ++ (M.drop (S.length + 1) ++ T)).length = P.length + M.length + T.length := by
        simp only [List.length_append, List.length_cons, List.length_take, List.length_drop]; omega
      have hatj : atI (P ++ (S.take j ++ x :: S.drop j) ++ (M.drop (S.length + 1) ++ T)) ((P.length : Int) + j) = x := by
        have e5 : P ++ (S.take j ++ x :: S.drop j) ++ (M.drop (S.length + 1) ++ T) = (P ++ S.take j) ++ x :: (S.drop j ++ (M.drop (S.length + 1) ++ T)) := by simp
        rw [e5, atI_mid]; rw [List.length_append, List.length_take]; omega
      have hatp : 0 < j → atI (P ++ (S.take j ++ x :: S.drop j) ++ (M.drop (S.length + 1) ++ T)) ((P.length : Int) + j - 1) = atI S ((j : Int) - 1) := fun hj0 => by
        obtain ⟨k, rfl⟩ : ∃ k, j = k + 1 := ⟨j - 1, by omega⟩
        have hk : k < S.length := by omega
        have e5 : P ++ (S.take (k + 1) ++ x :: S.drop (k + 1)) ++ (M.drop (S.length + 1) ++ T) = (P ++ S.take k) ++ S[k] :: (x :: S.drop (k + 1) ++ (M.drop (S.length + 1) ++ T)) := by
          rw [List.take_succ_eq_append_getElem hk]; simp only [List.append_assoc, List.cons_append, List.nil_append]
        rw [e5, atI_mid (by rw [List.length_append, List.length_take]; omega), show (((k + 1 : Nat) : Int) - 1) = (k : Int) by omega, atI_nat hk]
      have hstep := fun hj0 => swap_step (P := P) (S := S) (R := M.drop (S.length + 1) ++ T) (x := x) (j := j) hj0 hjS
      generalize hA : P ++ (S.take j ++ x :: S.drop j) ++ (M.drop (S.length + 1) ++ T) = A at *
      have hpre2 : Pre h0 (h.set b (icells A)) := hp.set hbm _
      have hbA : (h.set b (icells A))[b]? = some (icells A) := gset hlt
      have hAl : ((A.length : Nat) : Int) = (P.length : Int) + M.length + T.length := by omega
      have hjb : (j : Int) ≤ S.length ∧ (S.length : Int) < M.length ∧ (0 : Int) ≤ P.length ∧ (0 : Int) ≤ T.length := by omega
      have HA := Hid.mk hA
      have Hstep := Hid.mk hstep
      have Hll := Hid.mk hll
      have HAl := Hid.mk hAl
      clear hA hstep hll hAl
      by_cases hj0 : 0 < j
      · have hatp' := hatp hj0
        have hyS : atI S ((j : Int) - 1) ∈ S := atI_mem (by omega) (by omega)
        have hyn := HSin.out _ hyS
        have hcc := Hc.out _ hpre2 x (atI S ((j : Int) - 1)) hxn.1 hxn.2 hyn.1 hyn.2
        have i1 := ixs_some (size := 1) (n := P.length + M.length + T.length) (c := cap) (b := b) (o := 0) (sp := none) (k := .i64) (j := (P.length : Int) + j) (by omega) (by omega)
        have i2 := ixs_some (size := 1) (n := P.length + M.length + T.length) (c := cap) (b := b) (o := 0) (sp := none) (k := .i64) (j := (P.length : Int) + j - 1) (by omega) (by omega)
        have l1 := ints_ld (l := A) (i := (P.length : Int) + j) (by omega) (by rw [HAl.out]; omega)
        have l2 := ints_ld (l := A) (i := (P.length : Int) + j - 1) (by omega) (by rw [HAl.out]; omega)
        rw [hatj] at l1
        rw [hatp'] at l2
        generalize hy : atI S ((j : Int) - 1) = y at *
        by_cases hlt2 : key x < key y
        · have h3 : cmp3 (key x) (key y) = -1 := by simp [cmp3, hlt2]
          rw [h3] at hcc
          have s1 := ints_st (h := h.set b (icells A)) (b := b) (l := A) (i := (P.length : Int) + j) (x := y) (by omega) (by rw [HAl.out]; omega)
          have s2 := ints_st (h := h.set b (icells (A.set ((P.length : Int) + j).toNat y))) (b := b) (l := A.set ((P.length : Int) + j).toNat y) (i := (P.length : Int) + j - 1) (x := x) (by omega) (by rw [List.length_set, HAl.out]; omega)
          have hbA2 : (h.set b (icells (A.set ((P.length : Int) + j).toNat y)))[b]? = some (icells (A.set ((P.length : Int) + j).toNat y)) := gset hlt
          rw [Nat.mul_one] at l1 l2 s1 s2
          clear hatp hatp'
          (repeat' (first | (with_reducible refine A1 (fun _ => ?_) (fun _ => ?_) <;> try (exfalso; omega)) | (with_reducible refine A3 (fun _ => ?_) (fun _ => ?_) <;> try (exfalso; omega)) | simp -dsimp (disch := omega) only [↓EA, EB, Nat.reduceEqDiff, ↓reduceIte, reduceCtorEq, eq_self, *, List.set_set, Nat.mul_one]))
          refine Next.mk (j - 1) ⟨?_, by omega, ?_, rfl, rfl, rfl, rfl, rfl, by simp only [get]; simp; omega⟩ (by omega)
          · have := Hstep.out hj0
            rw [show ((P.length : Int) + j).toNat = P.length + j by omega, show ((P.length : Int) + j - 1).toNat = P.length + j - 1 by omega, this]
          · intro z hz
            rw [show j - 1 = j - 1 from rfl, List.drop_eq_getElem_cons (by omega : j - 1 < S.length)] at hz
            rcases List.mem_cons.1 hz with rfl | hz
            · have e6 : y = S[j - 1] := by rw [← hy, show ((j : Int) - 1) = ((j - 1 : Nat) : Int) by omega, atI_nat (by omega)]
              rw [← e6]; exact hlt2
            · rw [show j - 1 + 1 = j by omega] at hz; exact Hdr.out z hz
        · have h3 : ¬ cmp3 (key x) (key y) < 0 := by unfold cmp3; rw [if_neg hlt2]; split <;> decide
          clear hatp hatp'
          rw [Nat.mul_one] at l1 l2
          (repeat' (first | (with_reducible refine A1 (fun _ => ?_) (fun _ => ?_) <;> try (exfalso; omega)) | simp -dsimp (disch := omega) only [↓EA, EB, Nat.reduceEqDiff, ↓reduceIte, reduceCtorEq, eq_self, *, Nat.mul_one]))
          obtain ⟨d1, d2, d3⟩ := Hdone.out j hjS Hdr.out (fun _ => by rw [hy]; exact hlt2)
          refine Next.mk (S.take j ++ x :: S.drop j) ⟨?_, .inr ⟨by omega, by omega⟩, by rw [d1]; exact d2, d3, rfl, rfl, rfl, rfl, ?_⟩ (by omega)
          · rw [d1, ← HA.out]; simp only [List.append_assoc, List.cons_append]
          · rw [d1]; simp only [get]; simp; omega
      · (repeat' (first | (with_reducible refine A1 (fun _ => ?_) (fun _ => ?_) <;> try (exfalso; omega)) | simp -dsimp (disch := omega) only [↓EA, EB, Nat.reduceEqDiff, ↓reduceIte, reduceCtorEq, eq_self, *]))
        obtain ⟨d1, d2, d3⟩ := Hdone.out j hjS Hdr.out (fun h => absurd h hj0)
        refine Next.mk (S.take j ++ x :: S.drop j) ⟨?_, .inr ⟨by omega, by omega⟩, by rw [d1]; exact d2, d3, rfl, rfl, rfl, rfl, ?_⟩ (by omega)
        · rw [d1, ← HA.out]; simp only [List.append_assoc, List.cons_append]
        · rw [d1]; simp only [get]; simp; omega
    · have he : S.length = M.length := by
        have h5 := hSp.length_eq
        rw [List.length_take] at h5
        rcases hSl with e | e
        · subst e; simp at h5 ⊢; omega
        · omega
      have h6 : M.drop S.length = [] := List.drop_of_length_le (by omega)
      rw [he, List.take_length] at hSp
      have Hf := Hid.mk (And.intro hSp hSs)
      have He := Hid.mk he
      have hmx : ¬ ((P.length : Int) + ((max 1 S.length : Nat) : Int) < (P.length : Int) + M.length) := by omega
      clear hSp hSs he hSl
      (repeat' simp -dsimp (disch := omega) only [↓EA, EB, Nat.reduceEqDiff, ↓reduceIte, reduceCtorEq, eq_self, *])
      exact ⟨S, Hf.out.1, Hf.out.2, rfl⟩
  · have e1 : (M.take 1).length = min 1 M.length := List.length_take ..
    have e2 : M.take 1 ++ M.drop (M.take 1).length = M := by
      rcases M with _ | ⟨x, M⟩
      · rfl
      · rfl
    refine ⟨by rw [e2, hset], ?_, ?_, ?_, rfl, rfl, rfl, rfl, ?_⟩
    · rcases M with _ | ⟨x, M⟩
      · exact .inl rfl
      · exact .inr ⟨by simp, by simp⟩
    · rcases M with _ | ⟨x, M⟩
      · exact List.Perm.refl _
      · exact List.Perm.refl _
    · rcases M with _ | ⟨x, M⟩
      · exact List.Pairwise.nil
      · exact List.pairwise_singleton _ _
    · have : max 1 (M.take 1).length = 1 := by omega
      rw [this]; rfl
theorem callW_capK {g : FuncId} {c : FnC} (hf : E g = .text c) (a b : Array Value) (args : List Value) (h : Heap) : callW E (.func (.func g) a b) args h = callW E (.func (.func g) #[] #[]) (a.toList ++ args ++ b.toList) h := by
  rw [callW_func hf, callW_text hf]
theorem cmpOrder (hE : Laid E) {h : Heap} {bx : Nat} {vj : Value} {lv : List (NV Job)} (hb : h[bx]? = some (.cells [vj] false)) (hj : Rd 5 (encN hdJ) h vj lv) {a b : Int} (ha : 0 ≤ a ∧ a < lv.length) (hb2 : 0 ≤ b ∧ b < lv.length) :
    callW E (.func (.func n_stream_Order_f1) #[] #[.pointer (some ⟨bx, 0, none⟩)]) [.int .i64 a, .int .i64 b] h = some (.int .i64 (cmp3 (atI lv a).j.release (atI lv b).j.release), h, []) := by
  rw [callW_capK hE.stream_Order_f1]
  have hc := fun hh => cmpCompare hE hh (atI lv a).j.release (atI lv b).j.release
  refine fn_same hE.stream_Order_f1 rfl (by simp) ?_
  simp only [List.nil_append, List.cons_append, argsF]
  (repeat' simp -dsimp (disch := omega) only [↓EA, EB, Nat.reduceEqDiff, Nat.reduceAdd, ↓reduceIte, reduceCtorEq, eq_self, *, hj.ixs, hj.ld, encN, hdJ])
theorem sortStable (hE : Laid E) {h0 h : Heap} {b n cap : Nat} {M : List Int} {key : Int → Int} {cv : Value} (hb : h[b]? = some (icells M)) (hp : Pre h0 h) (hbm : h0.length ≤ b) (hc : CmpOK E h0 cv key n) (hin : ∀ x ∈ M, 0 ≤ x ∧ x < n) (hpre : M.Pairwise fun x y => key x = key y → x < y) (hfew : M.length < 20) {W : Nat → Prop} (hW : W b) :
    WX W (callW E (.func (.func n_slices_SortStableFunc_int_int) #[] #[]) [.slice (some ⟨b, 0, none⟩) M.length cap, cv] h) (fun _ h' => ∃ M', M'.Perm M ∧ M'.Pairwise (leK key) ∧ h' = h.set b (icells M')) := by
  have hst : WX W (callW E (.func (.func n_slices_stableCmpFunc_int) #[] #[]) [.slice (some ⟨b, 0, none⟩) M.length cap, .int .i64 M.length, cv] h) (fun _ h' => ∃ M', M'.Perm M ∧ M'.Pairwise (leK key) ∧ h' = h.set b (icells M')) := by
    have hi := insSort hE (P := []) (M := M) (T := []) (cap := cap) (by rw [List.nil_append, List.append_nil]; exact hb) hp hbm hc hin hpre (by simp; omega) hW
    simp only [List.nil_append, List.append_nil, List.length_nil, Int.natCast_zero, Int.zero_add] at hi
    refine fn_all hE.slices_stableCmpFunc_int rfl (by simp) ?_
    simp only [List.nil_append, List.cons_append, argsF]
    have hn : (M.length : Int) < 20 := by omega
    have Hx := Hid.mk (And.intro hc (And.intro hin (And.intro hpre hb)))
    clear hc hin hpre hb
    (repeat' simp -dsimp (disch := omega) only [↓EA, EB, Nat.reduceEqDiff, Nat.reduceAdd, ↓reduceIte, reduceCtorEq, eq_self, *])
    refine WO.loop (fun (_ : Unit) fr h' => h' = h ∧ get fr 0 = .slice (some ⟨b, 0, none⟩) M.length cap ∧ get fr 1 = .int .i64 M.length ∧ get fr 2 = cv ∧ get fr 6 = .int .i64 20 ∧ get fr 7 = .int .i64 0 ∧ get fr 8 = .int .i64 20) (fun _ => 0) ?_ () ⟨rfl, rfl, rfl, rfl, rfl, rfl, rfl⟩
    rintro _ fr h' ⟨rfl, g0, g1, g2, g6, g7, g8⟩
    unfold c_slices_stableCmpFunc_int_l0
    (repeat' (first | (with_reducible refine A3 (fun _ => ?_) (fun _ => ?_) <;> try (exfalso; omega)) | simp -dsimp (disch := omega) only [↓EA, EB, Nat.reduceEqDiff, ↓reduceIte, reduceCtorEq, eq_self, *]))
    refine WX.mono hi (fun b hb => hb) fun v h2 ⟨M', p1, p2, p3⟩ => ?_
    rw [List.append_nil] at p3
    have Hp := Hid.mk (And.intro p1 (And.intro p2 p3))
    clear p1 p2 p3
    (repeat' simp -dsimp (disch := omega) only [↓EA, EB, Nat.reduceEqDiff, ↓reduceIte, reduceCtorEq, eq_self, *])
    refine WO.loop (fun (_ : Unit) fr h' => h' = h2 ∧ get fr 1 = .int .i64 M.length ∧ get fr 6 = .int .i64 20) (fun _ => 0) ?_ () ⟨rfl, rfl, rfl⟩
    rintro _ fr h3 ⟨rfl, g1, g6⟩
    unfold c_slices_stableCmpFunc_int_l2
    (repeat' (first | (with_reducible refine A3 (fun _ => ?_) (fun _ => ?_) <;> try (exfalso; omega)) | simp -dsimp (disch := omega) only [↓EA, EB, Nat.reduceEqDiff, ↓reduceIte, reduceCtorEq, eq_self, *]))
    exact ⟨M', Hp.out⟩
  refine fn_all hE.slices_SortStableFunc_int_int rfl (by simp) ?_
  simp only [List.nil_append, List.cons_append, argsF]
  have Hx := Hid.mk (And.intro hc (And.intro hin (And.intro hpre hb)))
  clear hc hin hpre hb
  (repeat' simp -dsimp (disch := omega) only [↓EA, EB, Nat.reduceEqDiff, ↓reduceIte, reduceCtorEq, eq_self, *])
  refine WX.mono hst (fun b hb => hb) fun v h2 q => ?_
  have Hq := Hid.mk q
  clear q
  (repeat' simp -dsimp (disch := omega) only [↓EA, EB, *])
  exact Hq.out
def upto (i n : Nat) : List Int := (List.range i).map Int.ofNat ++ List.replicate (n - i) 0
theorem upto_len {i n : Nat} (h : i ≤ n) : (upto i n).length = n := by simp [upto]; omega
theorem upto_set {i n : Nat} (h : i < n) : (upto i n).set i (i : Int) = upto (i + 1) n := by
  unfold upto
  rw [List.set_append_right _ _ (by simp), List.length_map, List.length_range, Nat.sub_self, show n - i = (n - (i + 1)) + 1 by omega, List.replicate_succ, List.set_cons_zero, List.range_succ, List.map_append]
  simp
def ltR (jobs : List Job) (a b : Nat) : Prop := (atI jobs (a : Int)).release < (atI jobs (b : Int)).release ∨ ((atI jobs (a : Int)).release = (atI jobs (b : Int)).release ∧ a < b)
theorem orderS (hE : Laid E) {h : Heap} {vj : Value} {jobs : List Job} (hj : RdJ h vj jobs) (hn : jobs.length < 20) :
    ∃ v ys, callW E (.func (.func n_stream_Order) #[] #[]) [vj] h = some (v, h ++ ys, []) ∧ ∃ o : List Nat, RdO h.length 1 encI (h ++ ys) v (o.map Int.ofNat) ∧ (∀ i, i ∈ o ↔ i < jobs.length) ∧ o.Pairwise (ltR jobs) := by
  have hmov : Movable h.length (fun hh v => ∃ o : List Nat, RdO h.length 1 encI hh v (o.map Int.ofNat) ∧ (∀ i, i ∈ o ↔ i < jobs.length) ∧ o.Pairwise (ltR jobs)) 1 := by
    refine Movable.ex fun o => ?_
    have h1 := RdO.movable (m := h.length) (sz := 1) flatI (o.map Int.ofNat)
    exact ⟨fun ρ a b d v v' hm hv ⟨p, q⟩ => ⟨h1.move ρ a b d v v' hm hv p, q⟩, fun a v ⟨p, _⟩ => h1.noy a v p⟩
  refine fn_new hE.stream_Order rfl hmov (by simp) ?_
  obtain ⟨lv, rfl, hlv, _⟩ := hj.is
  rw [List.length_map] at hn
  have few := hlv.few
  have o1 := hlv.one
  have c1 := hlv.cv
  obtain ⟨n, hnn⟩ : ∃ n, n = lv.length := ⟨_, rfl⟩
  have hl2 : lensV false vj = some (.int .i64 n) := by rw [hlv.len, hnn]
  have hn2 : (n : Int) < 20 := by omega
  have Hnn := Hid.mk hnn
  clear hnn
  simp only [argsF]
  have hup0 : List.replicate ((n : Int)).toNat (0 : Int) = upto 0 n := by simp [upto]
  (repeat' simp -dsimp (disch := omega) only [↓EA, EB, Nat.reduceEqDiff, ↓reduceIte, newCells, eq_self, *, Int.toNat_natCast])
  refine WO.loop (fun (i : Nat) fr h' => h' = h ++ [.cells [vj] false, icells (upto i n)] ∧ i ≤ n ∧ get fr 1 = .pointer (some ⟨h.length, 0, none⟩) ∧ get fr 3 = .slice (some ⟨h.length + 1, 0, none⟩) n n ∧ get fr 9 = .int .i64 n ∧ get fr 10 = .int .i64 i) (fun i => n - i) ?_ 0 ⟨rfl, Nat.zero_le _, rfl, rfl, rfl, rfl⟩
  rintro i fr h' ⟨rfl, hin, g1, g3, g9, g10⟩
  unfold c_stream_Order_l0
  by_cases hlt : i < n
  · have hul := upto_len hin
    have hus := upto_set hlt
    have i1 := ixs_some (size := 1) (n := n) (c := n) (b := h.length + 1) (o := 0) (sp := none) (k := .i64) (j := (i : Int)) (by omega) (by omega)
    have s1 := fun hh => ints_st (h := hh) (b := h.length + 1) (l := upto i n) (i := (i : Int)) (x := (i : Int)) (by omega) (by omega)
    rw [Int.toNat_natCast, Nat.mul_one] at i1
    rw [Int.toNat_natCast, Nat.mul_one, hus] at s1
    clear hup0
    (repeat' (first | (with_reducible refine A3 (fun _ => ?_) (fun _ => ?_) <;> try (exfalso; omega)) | simp -dsimp (disch := omega) only [↓EA, EB, Nat.reduceEqDiff, ↓reduceIte, eq_self, *]))
    refine Next.mk (i + 1) ⟨rfl, by omega, rfl, rfl, rfl, by simp only [get]; simp⟩ (by omega)
  · have hie : i = n := by omega
    subst hie
    have hu : upto i i = (List.range i).map Int.ofNat := by simp [upto]
    rw [hu]
    clear hup0
    (repeat' (first | (with_reducible refine A3 (fun _ => ?_) (fun _ => ?_) <;> try (exfalso; omega)) | simp -dsimp (disch := omega) only [↓EA, EB, Nat.reduceEqDiff, ↓reduceIte, eq_self, *]))
    have hpb : Pre (h ++ [.cells [vj] false]) (h ++ [.cells [vj] false, icells ((List.range i).map Int.ofNat)]) := by
      have := Pre.app (h ++ [.cells [vj] false]) [icells ((List.range i).map Int.ofNat)]
      rwa [List.append_assoc] at this
    have hcmp : CmpOK E (h ++ [.cells [vj] false]) (.func (.func n_stream_Order_f1) #[] #[.pointer (some ⟨h.length, 0, none⟩)]) (fun a => (atI lv a).j.release) i := fun hh hp a b ha1 ha2 hb1 hb2 => by
      have hbx : hh[h.length]? = some (.cells [vj] false) := hp _ _ (by rw [geta0]; rfl)
      have hnn := Hnn.out
      exact cmpOrder hE hbx ((hlv.app _).pre hp) (by omega) (by omega)
    have hsort := sortStable hE (h := h ++ [.cells [vj] false, icells ((List.range i).map Int.ofNat)]) (b := h.length + 1) (cap := i) (M := (List.range i).map Int.ofNat) (by rw [geta]; rfl) hpb (by simp) hcmp (fun x hx => by
      obtain ⟨k, hk, rfl⟩ := List.mem_map.1 hx
      have := List.mem_range.1 hk
      show 0 ≤ (k : Int) ∧ (k : Int) < i
      omega) (by
      rw [List.pairwise_map]
      refine List.Pairwise.imp ?_ (List.pairwise_lt_range (n := i))
      intro a b hab _
      show (a : Int) < b
      omega) (by simp; omega) (W := fun b => h.length ≤ b) (by omega)
    rw [List.length_map, List.length_range] at hsort
    refine WX.mono hsort (fun b hb => hb) fun v h2 ⟨M', p1, p2, p3⟩ => ?_
    subst p3
    have hset : (h ++ [.cells [vj] false, icells ((List.range i).map Int.ofNat)]).set (h.length + 1) (icells M') = h ++ [.cells [vj] false, icells M'] := by rw [seta]; rfl
    rw [hset]
    have Hp := Hid.mk (And.intro p1 p2)
    clear p1 p2
    (repeat' simp -dsimp (disch := omega) only [↓EA, EB, Nat.reduceEqDiff, ↓reduceIte, eq_self, *])
    refine ⟨⟨_, rfl⟩, ?_⟩
    have hnn := Hnn.out
    obtain ⟨p1, p2⟩ := Hp.out
    have hM : ∀ x ∈ M', 0 ≤ x ∧ x < i := fun x hx => by
      obtain ⟨k, hk, rfl⟩ := List.mem_map.1 (p1.mem_iff.1 hx)
      have := List.mem_range.1 hk
      show 0 ≤ (k : Int) ∧ (k : Int) < i
      omega
    have hMl : M'.length = i := by rw [p1.length_eq]; simp
    have hback : (M'.map Int.toNat).map Int.ofNat = M' := by
      rw [List.map_map]
      conv => rhs; rw [← List.map_id M']
      refine List.map_congr_left fun x hx => ?_
      have := hM x hx
      show ((x.toNat : Nat) : Int) = x
      omega
    refine ⟨M'.map Int.toNat, ?_, fun k => ?_, ?_⟩
    · rw [hback]
      refine ⟨fun e he => by obtain ⟨a, _, rfl⟩ := List.mem_map.1 he; rfl, by rw [List.length_map]; omega, .inr ⟨h.length + 1, 0, none, i, ints M', by omega, by rw [List.length_map, hMl], by rw [geta]; rfl, ?_, ?_, by rw [List.length_map]; omega, .inl rfl⟩⟩
      · rw [List.length_map, ints_len]; omega
      · rw [List.drop_zero, List.length_map, Nat.mul_one, ← ints_len M', List.take_length, ints_flat]
    · rw [List.length_map, ← hnn]
      constructor
      · intro hk
        obtain ⟨x, hx, rfl⟩ := List.mem_map.1 hk
        have := hM x hx; omega
      · intro hk
        refine List.mem_map.2 ⟨(k : Int), p1.mem_iff.2 (List.mem_map.2 ⟨k, List.mem_range.2 hk, rfl⟩), by omega⟩
    · rw [List.pairwise_map]
      refine List.Pairwise.imp_of_mem ?_ p2
      intro a b ha hb hab
      have ha1 := hM a ha
      have hb1 := hM b hb
      unfold ltR
      unfold leK at hab
      dsimp only at hab
      rw [show ((a.toNat : Nat) : Int) = a by omega, show ((b.toNat : Nat) : Int) = b by omega]
      have e1 := atI_map' NV.j lv a (by omega) (by omega)
      have e2 := atI_map' NV.j lv b (by omega) (by omega)
      rw [← e1, ← e2]
      omega
end Go.L.Try
set_option maxHeartbeats 1000000
namespace Go.L.Try
open Go Go.L
structure XS where
  coming : List Nat
  now : Int
  spans : List Span
  ends : List Int
  running : Option Nat
  Q : Int → Option (List Nat)
  ready : List Int
  left : Nat → Int
  sec : Nat → Int
  cuts : Nat → List Int
def XS.q (s : XS) (t : Int) : List Nat := (s.Q t).getD []
def at1 {α β : Type} [DecidableEq α] (f : α → β) (a : α) (b : β) : α → β := fun x => if x = a then b else f x
theorem at1_self {α β : Type} [DecidableEq α] {f : α → β} {a : α} {b : β} : at1 f a b a = b := if_pos rfl
theorem at1_ne {α β : Type} [DecidableEq α] {f : α → β} {a x : α} {b : β} (h : x ≠ a) : at1 f a b x = f x := if_neg h
abbrev jb (jobs : List Job) (i : Nat) : Job := atI jobs (i : Int)
def relOne (jobs : List Job) (s : XS) (i : Nat) (r : List Nat) : XS :=
  { s with coming := r, Q := at1 s.Q (jb jobs i).task (some (s.q (jb jobs i).task ++ [i])), ready := if s.q (jb jobs i).task = [] then (jb jobs i).task :: s.ready else s.ready, left := at1 s.left i (jb jobs i).work, sec := at1 s.sec i 0, cuts := at1 s.cuts i (jb jobs i).cuts }
def back (jobs : List Job) (s : XS) : XS := match s.running with
  | some i => { s with running := none, ready := (jb jobs i).task :: s.ready }
  | none => s
def chosen (s : XS) (rd : List Int) (i : Nat) : XS := match s.cuts i with
  | [] => { s with ready := rd, running := some i }
  | c :: cs => { s with ready := rd, running := some i, sec := at1 s.sec i c, cuts := at1 s.cuts i cs }
def addSpan (L : List Span) (r t n : Int) : List Span :=
  if 0 < (L.length : Int) ∧ (atI L ((L.length : Int) - 1)).job = r ∧ (atI L ((L.length : Int) - 1)).to' = t then L.set ((L.length : Int) - 1).toNat { atI L ((L.length : Int) - 1) with to' := (atI L ((L.length : Int) - 1)).to' + n } else L ++ [⟨r, t, t + n⟩]
def worked (jobs : List Job) (s : XS) (i : Nat) (n : Int) : XS :=
  if s.left i - n = 0 then
    { s with now := s.now + n, spans := addSpan s.spans i s.now n, left := at1 s.left i (s.left i - n), sec := at1 s.sec i (max (s.sec i - n) 0), ends := s.ends.set i (s.now + n), running := none, Q := at1 s.Q (jb jobs i).task (some (s.q (jb jobs i).task).tail), ready := if (s.q (jb jobs i).task).tail = [] then s.ready else (jb jobs i).task :: s.ready }
  else { s with now := s.now + n, spans := addSpan s.spans i s.now n, left := at1 s.left i (s.left i - n), sec := at1 s.sec i (max (s.sec i - n) 0) }
def nextX (jobs : List Job) (s : XS) : Int := match s.coming with
  | [] => 9223372036854775807
  | i :: _ => (jb jobs i).release
def sumI (l : List Int) : Int := l.foldr (· + ·) 0
theorem sumI_app (a b : List Int) : sumI (a ++ b) = sumI a + sumI b := by
  induction a with
  | nil => simp [sumI]
  | cons x r ih => simp only [sumI, List.cons_append, List.foldr_cons] at ih ⊢; omega
theorem sumI_cons (a : Int) (b : List Int) : sumI (a :: b) = a + sumI b := rfl
theorem sumI_nil : sumI [] = 0 := rfl
structure CutInv (cs : List Int) (done sec : Int) (rem : List Int) : Prop where
  is : ∃ pre, cs = pre ++ rem ∧ ((done + sec = sumI pre) ∨ (rem = [] ∧ sec = 0 ∧ sumI pre ≤ done)) ∧ (0 < sec → ∃ pre' c, pre = pre' ++ [c] ∧ sec ≤ c)
  nn : 0 ≤ sec
theorem cutsOk_pos {q : Int} : ∀ {cs : List Int} {w : Int}, cutsOk q cs w = true → ∀ c ∈ cs, 1 ≤ c
  | [], _, _, c, hc => by cases hc
  | x :: r, w, h, c, hc => by
    simp only [cutsOk, Bool.and_eq_true, decide_eq_true_eq] at h
    rcases List.mem_cons.1 hc with rfl | hc
    · exact h.1.1
    · exact cutsOk_pos h.2 c hc
theorem sumI_nonneg {l : List Int} (h : ∀ c ∈ l, 1 ≤ c) : 0 ≤ sumI l := by
  induction l with
  | nil => exact Int.le_refl _
  | cons x r ih => have := h x (by simp); have := ih fun c hc => h c (by simp [hc]); rw [sumI_cons]; omega
theorem within_app (pre rest : List Int) (a d : Int) : withinP (pre ++ rest) a d = (withinP pre a d || withinP rest (a + sumI pre) d) := by
  induction pre generalizing a with
  | nil => simp [withinP, sumI_nil]
  | cons x r ih => simp only [List.cons_append, withinP, ih, sumI_cons, Bool.or_assoc]; congr 2; rw [Int.add_assoc]
theorem within_below {l : List Int} {a d : Int} (h : ∀ c ∈ l, 1 ≤ c) (hd : d ≤ a) : withinP l a d = false := by
  induction l generalizing a with
  | nil => rfl
  | cons x r ih => have := h x (by simp); simp only [withinP, Bool.or_eq_false_iff, decide_eq_false_iff_not]; exact ⟨by omega, ih (fun c hc => h c (by simp [hc])) (by omega)⟩
theorem within_above {l : List Int} {a d : Int} (h : ∀ c ∈ l, 1 ≤ c) (hd : a + sumI l ≤ d) : withinP l a d = false := by
  induction l generalizing a with
  | nil => rfl
  | cons x r ih =>
    rw [sumI_cons] at hd
    have h1 := h x (by simp)
    have := sumI_nonneg fun c hc => h c (List.mem_cons_of_mem x hc)
    simp only [withinP, Bool.or_eq_false_iff, decide_eq_false_iff_not]; exact ⟨by omega, ih (fun c hc => h c (by simp [hc])) (by omega)⟩
theorem CutInv.out {cs : List Int} {done sec : Int} {rem : List Int} (h : CutInv cs done sec rem) (hc : ∀ c ∈ cs, 1 ≤ c) (h0 : sec = 0) : withinP cs 0 done = false := by
  obtain ⟨pre, rfl, h1, h2⟩ := h.is
  rw [within_app, Bool.or_eq_false_iff, Int.zero_add]
  rcases h1 with h1 | ⟨rfl, _, h1⟩
  · exact ⟨within_above (fun c h => hc c (by simp [h])) (by omega), within_below (fun c h => hc c (by simp [h])) (by omega)⟩
  · exact ⟨within_above (fun c h => hc c (by simp [h])) (by omega), rfl⟩
theorem CutInv.in_ {cs : List Int} {done sec : Int} {rem : List Int} (h : CutInv cs done sec rem) (h0 : 0 < sec) {k : Int} (hk : 0 < k) (hk2 : k < sec) : withinP cs 0 (done + k) = true := by
  obtain ⟨pre, rfl, h1, h2⟩ := h.is
  obtain ⟨pre', c, rfl, hc⟩ := h2 h0
  rw [within_app, within_app]
  rcases h1 with h1 | ⟨_, h1, _⟩
  · rw [sumI_app, sumI_cons, sumI_nil] at h1
    have : withinP [c] (0 + sumI pre') (done + k) = true := by simp only [withinP, Bool.or_false, decide_eq_true_eq]; omega
    rw [this]; simp
  · omega
theorem CutInv.work {cs : List Int} {done sec : Int} {rem : List Int} (h : CutInv cs done sec rem) {n : Int} (hn : 0 < n) (hh : n ≤ sec ∨ (sec = 0 ∧ rem = [])) : CutInv cs (done + n) (max (sec - n) 0) rem := by
  obtain ⟨pre, e, h1, h2⟩ := h.is
  have h3 := h.nn
  refine ⟨⟨pre, e, ?_, fun h4 => ?_⟩, by omega⟩
  · rcases hh with hh | ⟨hh, hr⟩
    · rcases h1 with h1 | ⟨_, h1, _⟩
      · left; omega
      · omega
    · right
      refine ⟨hr, by omega, ?_⟩
      rcases h1 with h1 | ⟨_, _, h1⟩ <;> omega
  · obtain ⟨p', c, e2, h5⟩ := h2 (by omega)
    exact ⟨p', c, e2, by omega⟩
theorem CutInv.next {cs : List Int} {done c : Int} {rem : List Int} (h : CutInv cs done 0 (c :: rem)) (hc : 0 ≤ c) : CutInv cs done c rem := by
  obtain ⟨pre, e, h1, h2⟩ := h.is
  refine ⟨⟨pre ++ [c], by simp [e], .inl ?_, fun _ => ⟨pre, c, rfl, Int.le_refl _⟩⟩, hc⟩
  rw [sumI_app, sumI_cons, sumI_nil]
  rcases h1 with h1 | ⟨h1, _⟩
  · omega
  · cases h1
theorem CutInv.new (cs : List Int) : CutInv cs 0 0 cs := ⟨⟨[], rfl, .inl rfl, fun h => absurd h (by decide)⟩, Int.le_refl _⟩
theorem addTick_one (L : List Span) (r t : Int) : addTick L r t = addSpan L r t 1 := rfl
theorem atI_snoc {α : Type} [Inhabited α] (L : List α) (x : α) : atI (L ++ [x]) (((L ++ [x]).length : Int) - 1) = x := by
  unfold atI
  rw [List.getD_eq_getElem?_getD, List.length_append, List.length_singleton, show (((L.length + 1 : Nat) : Int) - 1).toNat = L.length by omega, List.getElem?_append_right (Nat.le_refl _), Nat.sub_self]; rfl
theorem atI_last_set {α : Type} [Inhabited α] {L : List α} (x : α) (h : 0 < (L.length : Int)) : atI (L.set ((L.length : Int) - 1).toNat x) ((L.length : Int) - 1) = x := by
  unfold atI
  rw [List.getD_eq_getElem?_getD, List.getElem?_set_self (by omega)]; rfl
theorem addTick_more (L : List Span) (r t k : Int) : addTick (addSpan L r t k) r (t + k) = addSpan L r t (k + 1) := by
  unfold addSpan
  split
  · rename_i h
    obtain ⟨h1, h2, h3⟩ := h
    unfold addTick
    rw [List.length_set, atI_last_set _ h1, if_pos ⟨h1, h2, by show (atI L ((L.length : Int) - 1)).to' + k = t + k; omega⟩, List.set_set]
    congr 1
    simp only [Span.mk.injEq, true_and]; omega
  · unfold addTick
    rw [atI_snoc, if_pos ⟨by simp, rfl, rfl⟩]
    rw [List.length_append, List.length_singleton, show (((L.length + 1 : Nat) : Int) - 1).toNat = L.length by omega, List.set_append_right _ _ (Nat.le_refl _), Nat.sub_self]
    simp only [List.set_cons_zero]
    congr 3
    omega
def rsK (jobs : List Job) (r : RS) (i : Nat) (k : Nat) : RS :=
  { t := r.t + k, runs := if k = 0 then r.runs else i, done := r.done.set i (atI r.done (i : Int) + k), L := if k = 0 then r.L else addSpan r.L i r.t k,
    ends := if atI r.done (i : Int) + k = (jb jobs i).work then r.ends.set i (r.t + k) else r.ends,
    left := if atI r.done (i : Int) + k = (jb jobs i).work then r.left - 1 else r.left }
theorem set_self_at {l : List Int} {i : Nat} (h : i < l.length) : l.set i (atI l (i : Int)) = l := by
  rw [atI_nat h]; exact List.set_getElem_self h
theorem rsK_zero {jobs : List Job} {r : RS} {i : Nat} (hi : i < r.done.length) (h : atI r.done (i : Int) ≠ (jb jobs i).work) : rsK jobs r i 0 = r := by
  unfold rsK
  rw [show ((0 : Nat) : Int) = 0 from rfl, Int.add_zero, Int.add_zero, if_pos rfl, if_pos rfl, if_neg h, if_neg h, set_self_at hi]
theorem rsK_succ {jobs : List Job} {r : RS} {i k : Nat} (hi : i < r.done.length) (h : atI r.done (i : Int) + k < (jb jobs i).work) : rsWork jobs (rsK jobs r i k) i = rsK jobs r i (k + 1) := by
  have e1 : atI (rsK jobs r i k).done (i : Int) = atI r.done (i : Int) + k := by
    show atI (r.done.set i (atI r.done (i : Int) + k)) (i : Int) = _
    rw [atI_set hi, if_pos rfl]
  unfold rsWork
  rw [e1]
  have e2 : (rsK jobs r i k).ends = r.ends := by show (if _ then _ else _) = _; rw [if_neg (by omega)]
  have e3 : (rsK jobs r i k).left = r.left := by show (if _ then _ else _) = _; rw [if_neg (by omega)]
  have e4 : (rsK jobs r i k).t = r.t + k := rfl
  have e5 : ((i : Int)).toNat = i := by omega
  rw [e2, e3, e4, e5]
  unfold rsK
  simp only [List.set_set]
  have e6 : r.t + (k : Int) + 1 = r.t + ((k + 1 : Nat) : Int) := by omega
  have e7 : atI r.done (i : Int) + (k : Int) + 1 = atI r.done (i : Int) + ((k + 1 : Nat) : Int) := by omega
  rw [e6, e7, if_neg (Nat.succ_ne_zero k)]
  have e8 : addTick (if k = 0 then r.L else addSpan r.L i r.t k) i (r.t + k) = if k + 1 = 0 then r.L else addSpan r.L i r.t ((k + 1 : Nat) : Int) := by
    rw [if_neg (Nat.succ_ne_zero k)]
    by_cases hk : k = 0
    · subst hk; rw [if_pos rfl, addTick_one]; congr 1; simp
    · rw [if_neg hk, addTick_more]; congr 1
  rw [e8]
theorem rs_many {l : List Task} {jobs : List Job} {e : Int} (hj : JobsOk l jobs) {r : RS} (hi : RsInv jobs r) {i : Nat} (hin : i < jobs.length) :
    ∀ n : Nat, (∀ k : Nat, k < n → rsOn e (rsK jobs r i k) ∧ rsRuns l jobs (rsK jobs r i k) = i ∧ atI r.done (i : Int) + k < (jb jobs i).work) → atI r.done (i : Int) < (jb jobs i).work →
      RsInv jobs (rsK jobs r i n) ∧ untilP l jobs e r = untilP l jobs e (rsK jobs r i n) ∧ rsLeft jobs (rsK jobs r i n) + n ≤ rsLeft jobs r
  | 0, _, h0 => by rw [rsK_zero (by rw [hi.dlen]; exact hin) (by omega)]; exact ⟨hi, rfl, Nat.le_refl _⟩
  | n + 1, h, h0 => by
    obtain ⟨h1, h2, h3⟩ := rs_many hj hi hin n (fun k hk => h k (by omega)) h0
    obtain ⟨h4, h5, h6⟩ := h n (by omega)
    have hs : rsStep l jobs (rsK jobs r i n) = rsK jobs r i (n + 1) := by
      unfold rsStep
      rw [h5, if_neg (by omega), rsK_succ (by rw [hi.dlen]; exact hin) h6]
    have h7 := rsStep_ok hj h1 h4
    have h8 := untilP_step hj h1 h4
    rw [hs] at h7 h8
    exact ⟨h7.1, h2.trans h8, by omega⟩
theorem rs_idle {l : List Task} {jobs : List Job} {e : Int} (hj : JobsOk l jobs) {r : RS} (hi : RsInv jobs r) (hr : r.runs < 0 ∨ withinP (atI jobs r.runs).cuts 0 (atI r.done r.runs) = false) :
    ∀ n : Nat, (∀ k : Nat, k < n → (e < 0 ∨ r.t + k < e) ∧ 0 < r.left ∧ pickN l jobs r.done (r.t + k) jobs.length < 0) →
      let r' := if n = 0 then r else { r with t := r.t + n, runs := -1 }
      RsInv jobs r' ∧ untilP l jobs e r = untilP l jobs e r' ∧ rsLeft jobs r' + n ≤ rsLeft jobs r
  | 0, _ => ⟨hi, rfl, Nat.le_refl _⟩
  | n + 1, h => by
    obtain ⟨h1, h2, h3⟩ := rs_idle hj hi hr n (fun k hk => h k (by omega))
    obtain ⟨h4, h5, h6⟩ := h n (by omega)
    dsimp only at h1 h2 h3 ⊢
    rw [if_neg (Nat.succ_ne_zero n)]
    generalize hr' : (if n = 0 then r else { r with t := r.t + n, runs := -1 } : RS) = r' at h1 h2 h3
    have ht : r'.t = r.t + n := by
      rw [← hr']; split
      · rename_i e; subst e; simp
      · rfl
    have hl : r'.left = r.left := by rw [← hr']; split <;> rfl
    have hd : r'.done = r.done := by rw [← hr']; split <;> rfl
    have hL : r'.L = r.L := by rw [← hr']; split <;> rfl
    have he : r'.ends = r.ends := by rw [← hr']; split <;> rfl
    have hrr : r'.runs < 0 ∨ withinP (atI jobs r'.runs).cuts 0 (atI r'.done r'.runs) = false := by
      rw [← hr']; split
      · exact hr
      · exact .inl (by show (-1 : Int) < 0; decide)
    have hon : rsOn e r' := ⟨by omega, by rw [ht]; exact h4⟩
    have hruns : rsRuns l jobs r' = -1 := by
      unfold rsRuns
      rw [if_pos hrr, hd, ht]
      have := (pickN_in l jobs r.done (r.t + n) jobs.length).1
      omega
    have hs : rsStep l jobs r' = { r with t := r.t + ((n + 1 : Nat) : Int), runs := -1 } := by
      unfold rsStep
      rw [hruns, if_pos (by decide), ht]
      cases r; cases r'
      simp only at hl hd hL he ⊢
      subst hl hd hL he
      simp only [RS.mk.injEq, and_true]
      omega
    have h7 := rsStep_ok hj h1 hon
    have h8 := untilP_step hj h1 hon
    rw [hs] at h7 h8
    exact ⟨h7.1, h2.trans h8, by omega⟩
theorem pickN_is {l : List Task} {jobs : List Job} {done : List Int} {t : Int} {i : Nat} (hc : (jb jobs i).release ≤ t ∧ atI done (i : Int) < (jb jobs i).work) {n : Nat} (hi : i < n)
    (hb : ∀ k : Nat, k < n → (jb jobs k).release ≤ t → atI done (k : Int) < (jb jobs k).work → (atI l (jb jobs i).task).P < (atI l (jb jobs k).task).P ∨ ((atI l (jb jobs i).task).P ≤ (atI l (jb jobs k).task).P ∧ i ≤ k)) : pickN l jobs done t n = i := by
  have low : ∀ m : Nat, m ≤ i → pickN l jobs done t m < 0 ∨ (atI l (jb jobs i).task).P < (atI l (atI jobs (pickN l jobs done t m)).task).P := by
    intro m
    induction m with
    | zero => intro _; exact .inl (by simp [pickN])
    | succ m ih =>
      intro hm
      unfold pickN
      split
      · rename_i h
        right
        rcases hb m (by omega) h.1 h.2.1 with h1 | h1
        · exact h1
        · omega
      · exact ih (by omega)
  have up : ∀ m : Nat, i < m → m ≤ n → pickN l jobs done t m = i := by
    intro m
    induction m with
    | zero => intro h; omega
    | succ m ih =>
      intro h1 h2
      unfold pickN
      by_cases e : m = i
      · subst e
        rw [if_pos ⟨hc.1, hc.2, low m (Nat.le_refl _)⟩]
      · rw [ih (by omega) (by omega), if_neg]
        rintro ⟨h3, h4, h5 | h5⟩
        · omega
        · rcases hb m (by omega) h3 h4 with h6 | h6
          · have : (atI l (jb jobs m).task).P < (atI l (jb jobs i).task).P := h5
            omega
          · have : (atI l (jb jobs m).task).P < (atI l (jb jobs i).task).P := h5
            omega
  exact up n hi (Nat.le_refl _)
theorem pickN_no {l : List Task} {jobs : List Job} {done : List Int} {t : Int} {n : Nat} (h : ∀ k : Nat, k < n → (jb jobs k).release ≤ t → ¬ atI done (k : Int) < (jb jobs k).work) : pickN l jobs done t n < 0 := by
  rcases Int.lt_or_le (pickN l jobs done t n) 0 with h1 | h1
  · exact h1
  · have h2 := pickN_some h1
    have h3 := (pickN_in l jobs done t n).2
    obtain ⟨k, hk⟩ : ∃ k : Nat, pickN l jobs done t n = k := ⟨(pickN l jobs done t n).toNat, by omega⟩
    rw [hk] at h2 h3
    exact absurd h2.2 (h k (by omega) h2.1)
end Go.L.Try
namespace Go.L.Try
open Go Go.L
structure Script (l : List Task) (jobs : List Job) : Prop where
  ok : JobsOk l jobs
  mono : ∀ a b : Nat, a < b → b < jobs.length → (jb jobs a).task = (jb jobs b).task → (jb jobs a).release < (jb jobs b).release
  prio : ∀ t u : Int, 0 ≤ t → t < l.length → 0 ≤ u → u < l.length → (atI l t).P = (atI l u).P → t = u
def ltO (jobs : List Job) (a b : Nat) : Prop := (jb jobs a).release < (jb jobs b).release ∨ ((jb jobs a).release = (jb jobs b).release ∧ a < b)
structure SimC (jobs : List Job) (s : XS) (r : RS) : Prop where
  t : r.t = s.now
  L : r.L = s.spans
  ends : r.ends = s.ends
  coming : ∀ i ∈ s.coming, i < jobs.length ∧ atI r.done (i : Int) = 0
  sorted : s.coming.Pairwise (ltO jobs)
  ord : ∀ k, k < jobs.length → k ∉ s.coming → ∀ i ∈ s.coming, ltO jobs k i
  mem : ∀ t i, i ∈ s.q t ↔ (i < jobs.length ∧ (jb jobs i).task = t ∧ i ∉ s.coming ∧ atI r.done (i : Int) < (jb jobs i).work)
  asc : ∀ t, (s.q t).Pairwise (· < ·)
  rel : ∀ i, i < jobs.length → i ∉ s.coming → (jb jobs i).release ≤ s.now
  run : ∀ i, s.running = some i → ∃ rest, s.q (jb jobs i).task = i :: rest
  nodup : s.ready.Nodup
  ready : ∀ t, t ∈ s.ready ↔ (s.q t ≠ [] ∧ ∀ i, s.running = some i → (jb jobs i).task ≠ t)
  left : ∀ t, ∀ i ∈ s.q t, s.left i = (jb jobs i).work - atI r.done (i : Int)
  cut : ∀ t, ∀ i ∈ s.q t, CutInv (jb jobs i).cuts (atI r.done (i : Int)) (s.sec i) (s.cuts i)
  sec0 : ∀ t, ∀ i ∈ s.q t, s.running ≠ some i → s.sec i = 0
structure Sim0 (jobs : List Job) (s : XS) (r : RS) : Prop extends SimC jobs s r where
  runs : ∀ i, s.running = some i → r.runs = i
  norun : s.running = none → (r.runs < 0 ∨ withinP (atI jobs r.runs).cuts 0 (atI r.done r.runs) = false)
  within : ∀ i, s.running = some i → 0 < s.sec i → withinP (jb jobs i).cuts 0 (atI r.done (i : Int)) = true
theorem ltO_irr {jobs : List Job} {a : Nat} : ¬ ltO jobs a a := by unfold ltO; omega
theorem cutsOk_sum {q : Int} : ∀ {cs : List Int} {w : Int}, cutsOk q cs w = true → 0 ≤ w → sumI cs ≤ w
  | [], w, _, h => h
  | x :: r, w, h, hw => by
    simp only [cutsOk, Bool.and_eq_true, decide_eq_true_eq] at h
    have := cutsOk_sum h.2 (by omega)
    rw [sumI_cons]; omega
variable {l : List Task} {jobs : List Job} {s : XS} {r : RS} {e : Int}
theorem jb_mem {i : Nat} (h : i < jobs.length) : jb jobs i ∈ jobs := atI_mem (by omega) (by omega)
theorem Script.cuts (S : Script l jobs) {i : Nat} (h : i < jobs.length) : (∀ c ∈ (jb jobs i).cuts, 1 ≤ c) ∧ sumI (jb jobs i).cuts ≤ (jb jobs i).work := by
  obtain ⟨q, hq⟩ := S.ok.cuts _ (jb_mem h)
  exact ⟨cutsOk_pos hq, cutsOk_sum hq (by have := (S.ok.work _ (jb_mem h)).1; omega)⟩
theorem sim_rel (S : Script l jobs) (h : SimC jobs s r) {i : Nat} {rest : List Nat} (hc : s.coming = i :: rest) (hr : (jb jobs i).release ≤ s.now) : SimC jobs (relOne jobs s i rest) r := by
  have hi := h.coming i (by rw [hc]; simp)
  have hs := h.sorted
  rw [hc, List.pairwise_cons] at hs
  have hnot : i ∉ rest := fun hm => ltO_irr (hs.1 i hm)
  have hw := (S.ok.work _ (jb_mem hi.1)).1
  have hq : ∀ t, (relOne jobs s i rest).q t = if t = (jb jobs i).task then s.q (jb jobs i).task ++ [i] else s.q t := fun t => by
    unfold XS.q relOne
    by_cases e : t = (jb jobs i).task
    · subst e; rw [if_pos rfl]; dsimp only; rw [at1_self]; rfl
    · rw [if_neg e]; dsimp only; rw [at1_ne e]
  have hni : ∀ t, i ∉ s.q t := fun t hm => ((h.mem t i).1 hm).2.2.1 (by rw [hc]; simp)
  have hmq : ∀ {t k}, k ∈ (relOne jobs s i rest).q t → k = i ∨ (k ≠ i ∧ k ∈ s.q t) := fun {t k} hm => by
    rw [hq] at hm
    by_cases e : k = i
    · exact .inl e
    · right
      refine ⟨e, ?_⟩
      split at hm
      · rename_i et
        subst et
        rcases List.mem_append.1 hm with hm | hm
        · exact hm
        · exact absurd (List.mem_singleton.1 hm) e
      · exact hm
  refine { t := h.t, L := h.L, ends := h.ends, coming := fun k hk => h.coming k (by rw [hc]; exact List.mem_cons_of_mem _ hk), sorted := hs.2, ord := ?_, mem := ?_, asc := ?_, rel := ?_, run := ?_, nodup := ?_, ready := ?_, left := ?_, cut := ?_, sec0 := ?_ }
  · intro k hk hn j hj
    by_cases e : k = i
    · subst e; exact hs.1 j hj
    · exact h.ord k hk (by rw [hc]; intro hm; rcases List.mem_cons.1 hm with hm | hm; exact e hm; exact hn hm) j (by rw [hc]; exact List.mem_cons_of_mem _ hj)
  · intro t k
    rw [hq]
    by_cases e : k = i
    · subst e
      constructor
      · intro hm
        split at hm
        · rename_i et; exact ⟨hi.1, et.symm, hnot, by rw [hi.2]; omega⟩
        · exact absurd hm (hni t)
      · rintro ⟨_, et, _, _⟩
        rw [if_pos et.symm]; simp
    · have hm0 := h.mem t k
      rw [hc] at hm0
      constructor
      · intro hm
        have : k ∈ s.q t := by
          split at hm
          · rename_i et
            subst et
            rcases List.mem_append.1 hm with hm | hm
            · exact hm
            · exact absurd (List.mem_singleton.1 hm) e
          · exact hm
        obtain ⟨a, b, c, d⟩ := hm0.1 this
        exact ⟨a, b, fun hm => c (List.mem_cons_of_mem _ hm), d⟩
      · rintro ⟨a, b, c, d⟩
        have hm := hm0.2 ⟨a, b, fun hm => by rcases List.mem_cons.1 hm with hm | hm; exact e hm; exact c hm, d⟩
        split
        · rename_i et; subst et; exact List.mem_append_left _ hm
        · exact hm
  · intro t
    rw [hq]
    split
    · refine List.pairwise_append.2 ⟨h.asc _, List.pairwise_singleton _ _, fun k hk j hj => ?_⟩
      rw [List.mem_singleton.1 hj]
      obtain ⟨a, b, c, d⟩ := (h.mem _ _).1 hk
      have h1 := h.ord k a c i (by rw [hc]; simp)
      rcases Nat.lt_trichotomy k i with h2 | h2 | h2
      · exact h2
      · subst h2; exact absurd h1 ltO_irr
      · have := S.mono i k h2 a b.symm
        unfold ltO at h1; omega
    · exact h.asc t
  · intro k hk hn
    by_cases e : k = i
    · subst e; exact hr
    · exact h.rel k hk (by rw [hc]; intro hm; rcases List.mem_cons.1 hm with hm | hm; exact e hm; exact hn hm)
  · intro k hk
    obtain ⟨rest', h1⟩ := h.run k hk
    rw [hq]
    split
    · rename_i et
      rw [← et, h1]; exact ⟨rest' ++ [i], rfl⟩
    · exact ⟨rest', h1⟩
  · show (if s.q (jb jobs i).task = [] then (jb jobs i).task :: s.ready else s.ready).Nodup
    split
    · rename_i hq0
      exact List.nodup_cons.2 ⟨fun hm => ((h.ready _).1 hm).1 hq0, h.nodup⟩
    · exact h.nodup
  · intro t
    show t ∈ (if s.q (jb jobs i).task = [] then (jb jobs i).task :: s.ready else s.ready) ↔ _
    rw [hq]
    have hr0 := h.ready t
    by_cases e : t = (jb jobs i).task
    · subst e
      rw [if_pos rfl]
      constructor
      · intro hm
        refine ⟨by simp, fun k hk he => ?_⟩
        obtain ⟨rest', h1⟩ := h.run k hk
        rw [he] at h1
        rw [if_neg (by rw [h1]; simp)] at hm
        exact (hr0.1 hm).2 k hk he
      · rintro ⟨_, h2⟩
        split
        · simp
        · rename_i hq0; exact hr0.2 ⟨hq0, h2⟩
    · rw [if_neg e]
      have : t ∈ (if s.q (jb jobs i).task = [] then (jb jobs i).task :: s.ready else s.ready) ↔ t ∈ s.ready := by
        split
        · simp [e]
        · rfl
      rw [this]; exact hr0
  · intro t k hk
    show at1 s.left i (jb jobs i).work k = _
    rcases hmq hk with rfl | ⟨e, hm⟩
    · rw [at1_self, hi.2]; omega
    · rw [at1_ne e]; exact h.left t k hm
  · intro t k hk
    show CutInv _ _ (at1 s.sec i 0 k) (at1 s.cuts i (jb jobs i).cuts k)
    rcases hmq hk with rfl | ⟨e, hm⟩
    · rw [at1_self, at1_self, hi.2]; exact CutInv.new _
    · rw [at1_ne e, at1_ne e]; exact h.cut t k hm
  · intro t k hk hn
    show at1 s.sec i 0 k = 0
    rcases hmq hk with rfl | ⟨e, hm⟩
    · rw [at1_self]
    · rw [at1_ne e]; exact h.sec0 t k hm hn
theorem sim_rel0 (S : Script l jobs) (h : Sim0 jobs s r) {i : Nat} {rest : List Nat} (hc : s.coming = i :: rest) (hr : (jb jobs i).release ≤ s.now) : Sim0 jobs (relOne jobs s i rest) r := by
  refine { sim_rel S h.toSimC hc hr with runs := h.runs, norun := h.norun, within := fun k hk hs => ?_ }
  have hk' : s.running = some k := hk
  obtain ⟨rest', h1⟩ := h.run k hk'
  have hm := ((h.mem _ k).1 (by rw [h1]; simp : k ∈ s.q (jb jobs k).task)).2.2.1
  have e : k ≠ i := fun e => hm (by rw [hc, e]; simp)
  have hs' : 0 < at1 s.sec i 0 k := hs
  rw [at1_ne e] at hs'
  exact h.within k hk' hs'
theorem sim_choose (S : Script l jobs) (h : Sim0 jobs s r) (hn : ∀ i ∈ s.coming, s.now < (jb jobs i).release) (hin : ∀ i, s.running = some i → s.sec i = 0) {t : Int} {rd : List Int} (hp : (t :: rd).Perm (back jobs s).ready) (hmin : ∀ u ∈ (back jobs s).ready, (atI l t).P ≤ (atI l u).P) :
    ∃ i rest, s.q t = i :: rest ∧ (jb jobs i).task = t ∧ SimC jobs (chosen (back jobs s) rd i) r ∧ rsRuns l jobs r = i ∧ (chosen (back jobs s) rd i).running = some i ∧ (∀ u, s.q u ≠ [] → (atI l t).P ≤ (atI l u).P) ∧ (0 < (chosen (back jobs s) rd i).sec i ∨ ((chosen (back jobs s) rd i).sec i = 0 ∧ (chosen (back jobs s) rd i).cuts i = [])) := by
  have hq : ∀ u, (back jobs s).q u = s.q u := fun u => by unfold back; split <;> rfl
  have hb : ∀ u, u ∈ (back jobs s).ready ↔ s.q u ≠ [] := fun u => by
    unfold back
    cases hr : s.running with
    | none =>
      have := h.ready u
      simp only [hr] at this ⊢
      rw [this]; simp
    | some i =>
      obtain ⟨rest, h1⟩ := h.run i hr
      have := h.ready u
      simp only [hr] at this ⊢
      rw [List.mem_cons, this]
      constructor
      · rintro (rfl | h2)
        · rw [h1]; simp
        · exact h2.1
      · intro h2
        by_cases e : u = (jb jobs i).task
        · exact .inl e
        · exact .inr ⟨h2, fun k hk => by cases hk; exact fun e' => e e'.symm⟩
  have ht : t ∈ (back jobs s).ready := hp.mem_iff.1 (by simp)
  have htq := (hb t).1 ht
  obtain ⟨i, rest, hqt⟩ : ∃ i rest, s.q t = i :: rest := by
    cases hh : s.q t with
    | nil => exact absurd hh htq
    | cons i rest => exact ⟨i, rest, rfl⟩
  have him : i ∈ s.q t := by rw [hqt]; simp
  obtain ⟨hi1, hi2, hi3, hi4⟩ := (h.mem t i).1 him
  have hsec : ∀ u, ∀ k ∈ s.q u, s.sec k = 0 := fun u k hk => by
    by_cases e : s.running = some k
    · exact hin k e
    · exact h.sec0 u k hk e
  have hnd : (back jobs s).ready.Nodup := by
    unfold back
    cases hr : s.running with
    | none => exact h.nodup
    | some k => exact List.nodup_cons.2 ⟨fun hm => ((h.ready _).1 hm).2 k hr rfl, h.nodup⟩
  have hnd2 := hp.nodup_iff.2 hnd
  rw [List.nodup_cons] at hnd2
  have hrd : ∀ u, u ∈ rd ↔ s.q u ≠ [] ∧ t ≠ u := fun u => by
    have := hp.mem_iff (a := u)
    rw [hb, List.mem_cons] at this
    rw [← this]
    constructor
    · intro hu; exact ⟨.inr hu, fun e => hnd2.1 (by rw [e]; exact hu)⟩
    · rintro ⟨rfl | hu, e⟩
      · exact absurd rfl e
      · exact hu
  have hmin2 : ∀ u, s.q u ≠ [] → (atI l t).P ≤ (atI l u).P := fun u hu => hmin u ((hb u).2 hu)
  have hruns : rsRuns l jobs r = i := by
    have hout : r.runs < 0 ∨ withinP (atI jobs r.runs).cuts 0 (atI r.done r.runs) = false := by
      cases hr : s.running with
      | none => exact h.norun hr
      | some k =>
        obtain ⟨rest', h1⟩ := h.run k hr
        have hk : k ∈ s.q (jb jobs k).task := by rw [h1]; simp
        have h2 := h.cut _ k hk
        rw [h.runs k hr]
        exact .inr (h2.out (S.cuts ((h.mem _ _).1 hk).1).1 (hin k hr))
    unfold rsRuns
    rw [if_pos hout]
    refine pickN_is ⟨by rw [h.t]; exact h.rel i hi1 hi3, hi4⟩ hi1 fun k hk h1 h2 => ?_
    have hkc : k ∉ s.coming := fun hm => by have := hn k hm; rw [h.t] at h1; omega
    have hkm : k ∈ s.q (jb jobs k).task := (h.mem _ _).2 ⟨hk, rfl, hkc, h2⟩
    have hle := hmin2 (jb jobs k).task (by intro e; rw [e] at hkm; cases hkm)
    rw [hi2]
    by_cases e : (jb jobs k).task = t
    · right
      rw [e] at hkm ⊢
      refine ⟨Int.le_refl _, ?_⟩
      rw [hqt] at hkm
      rcases List.mem_cons.1 hkm with rfl | hkm
      · exact Nat.le_refl _
      · have := h.asc t
        rw [hqt, List.pairwise_cons] at this
        exact Nat.le_of_lt (this.1 k hkm)
    · left
      have ht1 := S.ok.task _ (jb_mem hi1)
      have ht2 := S.ok.task _ (jb_mem hk)
      rw [hi2] at ht1
      have hne : ¬ (atI l (jb jobs k).task).P = (atI l t).P := fun h => e (S.prio _ _ ht2.1 ht2.2 ht1.1 ht1.2 h)
      omega
  have hcv := h.cut t i him
  rw [hsec t i him] at hcv
  have hbn : ∀ k, (back jobs s).running = some k → False := fun k => by unfold back; split <;> simp_all
  have hbs : (back jobs s).sec = s.sec ∧ (back jobs s).cuts = s.cuts ∧ (back jobs s).left = s.left ∧ (back jobs s).coming = s.coming ∧ (back jobs s).now = s.now ∧ (back jobs s).spans = s.spans ∧ (back jobs s).ends = s.ends := by unfold back; split <;> exact ⟨rfl, rfl, rfl, rfl, rfl, rfl, rfl⟩
  generalize hB : back jobs s = B at *
  obtain ⟨b1, b2, b3, b4, b5, b6, b7⟩ := hbs
  have hready : ∀ u, u ∈ rd ↔ (B.q u ≠ [] ∧ ∀ k, some i = some k → (jb jobs k).task ≠ u) := fun u => by
    rw [hrd, hq]
    constructor
    · rintro ⟨h1, h2⟩; exact ⟨h1, fun k hk => by cases hk; rw [hi2]; exact h2⟩
    · rintro ⟨h1, h2⟩; exact ⟨h1, by have := h2 i rfl; rwa [hi2] at this⟩
  refine ⟨i, rest, hqt, hi2, ?_⟩
  unfold chosen
  rw [b2]
  cases hcc : s.cuts i with
  | nil =>
    refine ⟨?_, hruns, rfl, hmin2, .inr ⟨by show B.sec i = 0; rw [b1]; exact hsec t i him, by show s.cuts i = []; exact hcc⟩⟩
    refine { t := by rw [h.t]; exact b5.symm, L := by rw [h.L]; exact b6.symm, ends := by rw [h.ends]; exact b7.symm, coming := ?_, sorted := ?_, ord := ?_, mem := ?_, asc := ?_, rel := ?_, run := ?_, nodup := hnd2.2, ready := hready, left := ?_, cut := ?_, sec0 := ?_ }
    · dsimp only; rw [b4]; exact h.coming
    · dsimp only; rw [b4]; exact h.sorted
    · dsimp only; rw [b4]; exact h.ord
    · intro u k; show k ∈ B.q u ↔ _; dsimp only; rw [hq, b4]; exact h.mem u k
    · intro u; show (B.q u).Pairwise _; rw [hq]; exact h.asc u
    · dsimp only; rw [b4, b5]; exact h.rel
    · intro k hk; cases hk; show ∃ rest, B.q _ = _; rw [hi2, hq, hqt]; exact ⟨rest, rfl⟩
    · intro u k hk; have hk' : k ∈ B.q u := hk; rw [hq] at hk'; show B.left k = _; rw [b3]; exact h.left u k hk'
    · intro u k hk; have hk' : k ∈ B.q u := hk; rw [hq] at hk'; show CutInv _ _ (B.sec k) (s.cuts k); rw [b1]; exact h.cut u k hk'
    · intro u k hk _; have hk' : k ∈ B.q u := hk; rw [hq] at hk'; show B.sec k = 0; rw [b1]; exact hsec u k hk'
  | cons c cs =>
    rw [hcc] at hcv
    have hc1 : 1 ≤ c := by
      obtain ⟨pre, e, _⟩ := hcv.is
      exact (S.cuts hi1).1 c (by rw [e]; simp)
    refine ⟨?_, hruns, rfl, hmin2, .inl (by show 0 < at1 B.sec i c i; rw [at1_self]; omega)⟩
    refine { t := by rw [h.t]; exact b5.symm, L := by rw [h.L]; exact b6.symm, ends := by rw [h.ends]; exact b7.symm, coming := ?_, sorted := ?_, ord := ?_, mem := ?_, asc := ?_, rel := ?_, run := ?_, nodup := hnd2.2, ready := hready, left := ?_, cut := ?_, sec0 := ?_ }
    · dsimp only; rw [b4]; exact h.coming
    · dsimp only; rw [b4]; exact h.sorted
    · dsimp only; rw [b4]; exact h.ord
    · intro u k; show k ∈ B.q u ↔ _; dsimp only; rw [hq, b4]; exact h.mem u k
    · intro u; show (B.q u).Pairwise _; rw [hq]; exact h.asc u
    · dsimp only; rw [b4, b5]; exact h.rel
    · intro k hk; cases hk; show ∃ rest, B.q _ = _; rw [hi2, hq, hqt]; exact ⟨rest, rfl⟩
    · intro u k hk; have hk' : k ∈ B.q u := hk; rw [hq] at hk'; show B.left k = _; rw [b3]; exact h.left u k hk'
    · intro u k hk
      have hk' : k ∈ B.q u := hk
      rw [hq] at hk'
      show CutInv _ _ (at1 B.sec i c k) (at1 s.cuts i cs k)
      by_cases ek : k = i
      · subst ek; rw [at1_self, at1_self]; exact hcv.next (by omega)
      · rw [at1_ne ek, at1_ne ek, b1]; exact h.cut u k hk'
    · intro u k hk hne
      have hk' : k ∈ B.q u := hk
      rw [hq] at hk'
      have ek : k ≠ i := fun e => hne (by rw [e])
      show at1 B.sec i c k = 0
      rw [at1_ne ek, b1]; exact hsec u k hk'
theorem sim_inside (h : Sim0 jobs s r) {i : Nat} (hr : s.running = some i) (hs : 0 < s.sec i) : rsRuns l jobs r = i := by
  have h1 := h.runs i hr
  have h2 := h.within i hr hs
  unfold rsRuns
  rw [h1, if_neg]
  rintro (h3 | h3)
  · omega
  · have : withinP (jb jobs i).cuts 0 (atI r.done (i : Int)) = false := h3
    rw [h2] at this; cases this
theorem sumN_ge {f : Nat → Int} {n i : Nat} (h : ∀ k, k < n → 0 ≤ f k) (hi : i < n) : f i ≤ sumN f n := by
  induction n with
  | zero => omega
  | succ n ih =>
    have h1 := sumN_nonneg (f := f) (n := n) fun k hk => h k (by omega)
    have h2 := h n (by omega)
    simp only [sumN]
    by_cases e : i = n
    · subst e; omega
    · have := ih (fun k hk => h k (by omega)) (by omega); omega
theorem left_pos (hi : RsInv jobs r) {i : Nat} (h : i < jobs.length) (hd : atI r.done (i : Int) < (jb jobs i).work) : 0 < r.left := by
  rw [hi.left]
  have := sumN_ge (f := fun i => if atI r.done (i : Int) < (atI jobs (i : Int)).work then 1 else 0) (n := jobs.length) (i := i) (fun k _ => by split <;> decide) h
  have h2 : atI r.done (i : Int) < (atI jobs (i : Int)).work := hd
  rw [if_pos h2] at this
  omega
theorem sim_work (S : Script l jobs) (h : SimC jobs s r) (hi : RsInv jobs r) {i : Nat} (hr : s.running = some i) (hp : rsRuns l jobs r = i) (hmin : s.sec i = 0 → ∀ u, s.q u ≠ [] → (atI l (jb jobs i).task).P ≤ (atI l u).P) {N : Nat} (hN : 0 < N)
    (hn : (N : Int) ≤ s.sec i ∨ (s.sec i = 0 ∧ s.cuts i = [] ∧ (N : Int) ≤ s.left i ∧ ∀ k ∈ s.coming, s.now + N ≤ (jb jobs k).release)) (he : e < 0 ∨ s.now + N ≤ e) :
    ∃ r', Sim0 jobs (worked jobs s i N) r' ∧ RsInv jobs r' ∧ untilP l jobs e r = untilP l jobs e r' ∧ rsLeft jobs r' < rsLeft jobs r := by
  obtain ⟨rest, hq⟩ := h.run i hr
  have him : i ∈ s.q (jb jobs i).task := by rw [hq]; simp
  obtain ⟨hi1, _, hi3, hi4⟩ := (h.mem _ i).1 him
  have hcv := h.cut _ i him
  have hlf := h.left _ i him
  obtain ⟨hc1, hc2⟩ := S.cuts hi1
  have hdl : i < r.done.length := by rw [hi.dlen]; exact hi1
  have hsl : s.sec i ≤ s.left i := by
    obtain ⟨pre, e1, h1, h2⟩ := hcv.is
    have hpre : sumI pre ≤ (jb jobs i).work := by
      have : sumI (jb jobs i).cuts = sumI pre + sumI (s.cuts i) := by rw [e1, sumI_app]
      have := sumI_nonneg fun c hc => hc1 c (show c ∈ (jb jobs i).cuts by rw [e1]; exact List.mem_append_right _ hc)
      omega
    rcases h1 with h1 | ⟨_, h1, _⟩ <;> omega
  have hNl : (N : Int) ≤ s.left i := by rcases hn with hn | hn <;> omega
  have hticks : ∀ k : Nat, k < N → rsOn e (rsK jobs r i k) ∧ rsRuns l jobs (rsK jobs r i k) = i ∧ atI r.done (i : Int) + k < (jb jobs i).work := by
    intro k hk
    have hlt : atI r.done (i : Int) + k < (jb jobs i).work := by omega
    have hd : ∀ j : Nat, atI (rsK jobs r i k).done (j : Int) = if j = i then atI r.done (i : Int) + k else atI r.done (j : Int) := fun j => atI_set hdl j
    refine ⟨⟨?_, ?_⟩, ?_, hlt⟩
    · show 0 < (if atI r.done (i : Int) + k = (jb jobs i).work then r.left - 1 else r.left)
      rw [if_neg (by omega)]; exact left_pos hi hi1 hi4
    · show e < 0 ∨ r.t + k < e
      rw [h.t]; omega
    · by_cases k0 : k = 0
      · subst k0; rw [rsK_zero hdl (by omega)]; exact hp
      · have hruns : (rsK jobs r i k).runs = i := if_neg k0
        have hdi : atI (rsK jobs r i k).done ((rsK jobs r i k).runs) = atI r.done (i : Int) + k := by rw [hruns, hd, if_pos rfl]
        unfold rsRuns
        rw [hdi, hruns]
        rcases hn with hn | ⟨hn1, hn2, hn3, hn4⟩
        · have hw := hcv.in_ (by omega) (k := (k : Int)) (by omega) (by omega)
          have hw' : withinP (atI jobs (i : Int)).cuts 0 (atI r.done (i : Int) + k) = true := hw
          rw [if_neg (by rw [hw']; rintro (h | h); omega; cases h)]
        · have hw : withinP (atI jobs (i : Int)).cuts 0 (atI r.done (i : Int) + k) = false := by
            have h1 := hcv.work (n := (k : Int)) (by omega) (.inr ⟨hn1, hn2⟩)
            refine h1.out hc1 ?_
            omega
          rw [if_pos (.inr hw)]
          have ht : (rsK jobs r i k).t = s.now + k := by show r.t + k = _; rw [h.t]
          rw [ht]
          refine pickN_is ⟨by have := h.rel i hi1 hi3; omega, by rw [hd, if_pos rfl]; exact hlt⟩ hi1 fun j hj h1 h2 => ?_
          have hjc : j ∉ s.coming := fun hm => by have := hn4 j hm; omega
          have hjm : j ∈ s.q (jb jobs j).task := by
            by_cases ej : j = i
            · subst ej; exact him
            · rw [hd, if_neg ej] at h2
              exact (h.mem _ _).2 ⟨hj, rfl, hjc, h2⟩
          have hle := hmin hn1 (jb jobs j).task (by intro e; rw [e] at hjm; cases hjm)
          by_cases ej : (jb jobs j).task = (jb jobs i).task
          · right
            rw [ej] at hjm ⊢
            refine ⟨Int.le_refl _, ?_⟩
            rw [hq] at hjm
            rcases List.mem_cons.1 hjm with rfl | hjm
            · exact Nat.le_refl _
            · have := h.asc (jb jobs i).task
              rw [hq, List.pairwise_cons] at this
              exact Nat.le_of_lt (this.1 j hjm)
          · left
            have ht1 := S.ok.task _ (jb_mem hi1)
            have ht2 := S.ok.task _ (jb_mem hj)
            have hne : ¬ (atI l (jb jobs j).task).P = (atI l (jb jobs i).task).P := fun h => ej (S.prio _ _ ht2.1 ht2.2 ht1.1 ht1.2 h)
            omega
  obtain ⟨k1, k2, k3⟩ := rs_many S.ok hi hi1 N hticks hi4
  refine ⟨rsK jobs r i N, ?_, k1, k2, by omega⟩
  have hd : ∀ j : Nat, atI (rsK jobs r i N).done (j : Int) = if j = i then atI r.done (i : Int) + N else atI r.done (j : Int) := fun j => atI_set hdl j
  have hL : (rsK jobs r i N).L = addSpan s.spans i s.now N := by
    show (if N = 0 then r.L else addSpan r.L i r.t N) = _
    rw [if_neg (by omega), h.L, h.t]
  have hruns : (rsK jobs r i N).runs = i := if_neg (by omega)
  have hasc := h.asc (jb jobs i).task
  rw [hq, List.pairwise_cons] at hasc
  have hirest : i ∉ rest := fun hm => absurd (hasc.1 i hm) (Nat.lt_irrefl _)
  have hnc : ∀ k ∈ s.coming, k ≠ i := fun k hk e => hi3 (e ▸ hk)
  have hcut2 := hcv.work (n := (N : Int)) (by omega) (by rcases hn with hn | hn; exact .inl hn; exact .inr ⟨hn.1, hn.2.1⟩)
  unfold worked
  split
  · rename_i hz
    have hwk : atI r.done (i : Int) + N = (jb jobs i).work := by omega
    have hq' : ∀ u, (at1 s.Q (jb jobs i).task (some (s.q (jb jobs i).task).tail) u).getD [] = if u = (jb jobs i).task then rest else s.q u := fun u => by
      by_cases eu : u = (jb jobs i).task
      · subst eu; rw [if_pos rfl, at1_self, hq]; rfl
      · rw [if_neg eu, at1_ne eu]; rfl
    have hsub : ∀ {u k}, k ∈ (if u = (jb jobs i).task then rest else s.q u) → k ≠ i ∧ k ∈ s.q u := fun {u k} hk => by
      split at hk
      · rename_i eu
        subst eu
        exact ⟨fun e => hirest (e ▸ hk), by rw [hq]; exact List.mem_cons_of_mem _ hk⟩
      · rename_i eu
        refine ⟨fun e => eu ?_, hk⟩
        subst e
        exact ((h.mem _ _).1 hk).2.1.symm
    refine { t := by show r.t + N = s.now + N; rw [h.t], L := hL, ends := ?_, coming := ?_, sorted := h.sorted, ord := h.ord, mem := ?_, asc := ?_, rel := ?_, run := ?_, nodup := ?_, ready := ?_, left := ?_, cut := ?_, sec0 := ?_, runs := ?_, norun := ?_, within := ?_ }
    · show (if atI r.done (i : Int) + N = (jb jobs i).work then r.ends.set i (r.t + N) else r.ends) = s.ends.set i (s.now + N)
      rw [if_pos hwk, h.ends, h.t]
    · intro k hk; have := h.coming k hk; rw [hd, if_neg (hnc k hk)]; exact this
    · intro u k
      show k ∈ (at1 s.Q (jb jobs i).task (some (s.q (jb jobs i).task).tail) u).getD [] ↔ _
      rw [hq', hd]
      constructor
      · intro hk
        obtain ⟨ek, hm⟩ := hsub hk
        rw [if_neg ek]; exact (h.mem u k).1 hm
      · rintro ⟨a, b, c, d⟩
        split at d
        · rename_i ek; subst ek; omega
        · rename_i ek
          have hm := (h.mem u k).2 ⟨a, b, c, d⟩
          split
          · rename_i eu
            subst eu
            rw [hq] at hm
            rcases List.mem_cons.1 hm with hm | hm
            · exact absurd hm ek
            · exact hm
          · exact hm
    · intro u
      show ((at1 s.Q (jb jobs i).task (some (s.q (jb jobs i).task).tail) u).getD []).Pairwise _
      rw [hq']
      split
      · exact hasc.2
      · exact h.asc u
    · intro k hk hkc; have := h.rel k hk hkc; show _ ≤ s.now + (N : Int); omega
    · intro k hk; cases hk
    · show (if (s.q (jb jobs i).task).tail = [] then s.ready else (jb jobs i).task :: s.ready).Nodup
      split
      · exact h.nodup
      · exact List.nodup_cons.2 ⟨fun hm => ((h.ready _).1 hm).2 i hr rfl, h.nodup⟩
    · intro u
      show u ∈ (if (s.q (jb jobs i).task).tail = [] then s.ready else (jb jobs i).task :: s.ready) ↔ ((at1 s.Q (jb jobs i).task (some (s.q (jb jobs i).task).tail) u).getD [] ≠ [] ∧ _)
      rw [hq', hq, List.tail_cons]
      have h0 := h.ready u
      by_cases eu : u = (jb jobs i).task
      · subst eu
        rw [if_pos rfl]
        constructor
        · intro hm
          refine ⟨fun hre => ?_, fun k hk => by cases hk⟩
          rw [if_pos hre] at hm
          exact (h0.1 hm).2 i hr rfl
        · rintro ⟨hre, _⟩
          rw [if_neg hre]; simp
      · rw [if_neg eu]
        have h1 : u ∈ (if rest = [] then s.ready else (jb jobs i).task :: s.ready) ↔ u ∈ s.ready := by
          split
          · rfl
          · simp [eu]
        rw [h1, h0]
        constructor
        · rintro ⟨a, b⟩; exact ⟨a, fun k hk => by cases hk⟩
        · rintro ⟨a, b⟩; exact ⟨a, fun k hk => by rw [hr] at hk; cases hk; exact fun e => eu e.symm⟩
    · intro u k hk
      have hk' : k ∈ (at1 s.Q (jb jobs i).task (some (s.q (jb jobs i).task).tail) u).getD [] := hk
      rw [hq'] at hk'
      obtain ⟨ek, hm⟩ := hsub hk'
      show at1 s.left i _ k = _
      rw [at1_ne ek, hd, if_neg ek]; exact h.left u k hm
    · intro u k hk
      have hk' : k ∈ (at1 s.Q (jb jobs i).task (some (s.q (jb jobs i).task).tail) u).getD [] := hk
      rw [hq'] at hk'
      obtain ⟨ek, hm⟩ := hsub hk'
      show CutInv _ _ (at1 s.sec i _ k) (s.cuts k)
      rw [at1_ne ek, hd, if_neg ek]; exact h.cut u k hm
    · intro u k hk _
      have hk' : k ∈ (at1 s.Q (jb jobs i).task (some (s.q (jb jobs i).task).tail) u).getD [] := hk
      rw [hq'] at hk'
      obtain ⟨ek, hm⟩ := hsub hk'
      show at1 s.sec i _ k = 0
      rw [at1_ne ek]
      exact h.sec0 u k hm fun e => by rw [hr] at e; cases e; exact ek rfl
    · intro k hk; cases hk
    · intro _
      right
      rw [hruns, hd, if_pos rfl, hwk]
      exact within_above hc1 (by rw [Int.zero_add]; exact hc2)
    · intro k hk; cases hk
  · rename_i hz
    have hwk : atI r.done (i : Int) + N < (jb jobs i).work := by omega
    refine { t := by show r.t + N = s.now + N; rw [h.t], L := hL, ends := ?_, coming := ?_, sorted := h.sorted, ord := h.ord, mem := ?_, asc := h.asc, rel := ?_, run := h.run, nodup := h.nodup, ready := h.ready, left := ?_, cut := ?_, sec0 := ?_, runs := ?_, norun := ?_, within := ?_ }
    · show (if atI r.done (i : Int) + N = (jb jobs i).work then r.ends.set i (r.t + N) else r.ends) = s.ends
      rw [if_neg (by omega), h.ends]
    · intro k hk; have := h.coming k hk; rw [hd, if_neg (hnc k hk)]; exact this
    · intro u k
      rw [hd]
      show k ∈ s.q u ↔ _
      rw [h.mem]
      by_cases ek : k = i
      · subst ek
        rw [if_pos rfl]
        constructor
        · rintro ⟨a, b, c, d⟩; exact ⟨a, b, c, hwk⟩
        · rintro ⟨a, b, c, d⟩; exact ⟨a, b, c, hi4⟩
      · rw [if_neg ek]
    · intro k hk hkc; have := h.rel k hk hkc; show _ ≤ s.now + (N : Int); omega
    · intro u k hk
      show at1 s.left i _ k = _
      have := h.left u k hk
      by_cases ek : k = i
      · subst ek; rw [at1_self, hd, if_pos rfl]; omega
      · rw [at1_ne ek, hd, if_neg ek]; exact this
    · intro u k hk
      show CutInv _ _ (at1 s.sec i _ k) (s.cuts k)
      by_cases ek : k = i
      · subst ek; rw [at1_self, hd, if_pos rfl]; exact hcut2
      · rw [at1_ne ek, hd, if_neg ek]; exact h.cut u k hk
    · intro u k hk hne
      show at1 s.sec i _ k = 0
      have hne' : s.running ≠ some k := hne
      have ek : k ≠ i := fun e => hne' (by rw [e]; exact hr)
      rw [at1_ne ek]; exact h.sec0 u k hk hne'
    · intro k hk
      have hk' : s.running = some k := hk
      rw [hr] at hk'; cases hk'; exact hruns
    · intro hk
      have hk' : s.running = none := hk
      rw [hr] at hk'; cases hk'
    · intro k hk hs
      have hk' : s.running = some k := hk
      rw [hr] at hk'; cases hk'
      have hs' : 0 < at1 s.sec i (max (s.sec i - N) 0) i := hs
      rw [at1_self] at hs'
      rw [hd, if_pos rfl]
      exact hcv.in_ (by omega) (by omega) (by omega)
theorem sim_none (h : Sim0 jobs s r) (hr : s.running = none) (hn : s.ready = []) : ∀ u, s.q u = [] := fun u => by
  cases hq : s.q u with
  | nil => rfl
  | cons i rest =>
    have := (h.ready u).2 ⟨by rw [hq]; simp, fun k hk => by rw [hr] at hk; cases hk⟩
    rw [hn] at this; cases this
theorem sim_idle (S : Script l jobs) (h : Sim0 jobs s r) (hi : RsInv jobs r) (hr : s.running = none) (hn : s.ready = []) {c : Nat} {rest : List Nat} (hc : s.coming = c :: rest) (hlt : s.now < (jb jobs c).release) (he : e < 0 ∨ (jb jobs c).release ≤ e) :
    ∃ r', Sim0 jobs { s with now := (jb jobs c).release } r' ∧ RsInv jobs r' ∧ untilP l jobs e r = untilP l jobs e r' ∧ rsLeft jobs r' < rsLeft jobs r := by
  have hq := sim_none h hr hn
  obtain ⟨N, hN⟩ : ∃ N : Nat, (jb jobs c).release - s.now = N := ⟨((jb jobs c).release - s.now).toNat, by omega⟩
  have hcl := h.coming c (by rw [hc]; simp)
  have hs := h.sorted
  rw [hc, List.pairwise_cons] at hs
  have hge : ∀ k ∈ s.coming, (jb jobs c).release ≤ (jb jobs k).release := fun k hk => by
    rw [hc] at hk
    rcases List.mem_cons.1 hk with rfl | hk
    · exact Int.le_refl _
    · have := hs.1 k hk; unfold ltO at this; omega
  have hw := (S.ok.work _ (jb_mem hcl.1)).1
  obtain ⟨k1, k2, k3⟩ := rs_idle (e := e) S.ok hi (h.norun hr) N fun k hk => ⟨by rw [h.t]; omega, left_pos hi hcl.1 (by rw [hcl.2]; omega), pickN_no fun j hj h1 h2 => by
    rw [h.t] at h1
    have hjc : j ∉ s.coming := fun hm => by have := hge j hm; omega
    have := (h.mem (jb jobs j).task j).2 ⟨hj, rfl, hjc, h2⟩
    rw [hq] at this; cases this⟩
  have hN0 : N ≠ 0 := by omega
  try dsimp only at k1 k2 k3
  rw [if_neg hN0] at k1 k2 k3
  refine ⟨_, ?_, k1, k2, by omega⟩
  refine { t := by show r.t + N = _; rw [h.t]; dsimp only; omega, L := h.L, ends := h.ends, coming := h.coming, sorted := h.sorted, ord := h.ord, mem := h.mem, asc := h.asc, rel := fun k hk hkc => ?_, run := h.run, nodup := h.nodup, ready := h.ready, left := h.left, cut := h.cut, sec0 := h.sec0, runs := fun k hk => ?_, norun := fun _ => .inl (by show (-1 : Int) < 0; decide), within := h.within }
  · have := h.rel k hk hkc; show _ ≤ (jb jobs c).release; omega
  · have hk' : s.running = some k := hk
    rw [hr] at hk'; cases hk'
theorem sim_end (S : Script l jobs) (h : Sim0 jobs s r) (hi : RsInv jobs r) (hr : s.running = none) (hn : s.ready = []) (he : ∀ k ∈ s.coming, 0 ≤ e ∧ e ≤ (jb jobs k).release) : (untilP l jobs e r).L = s.spans ∧ (untilP l jobs e r).ends = s.ends := by
  have hq := sim_none h hr hn
  cases hc : s.coming with
  | nil =>
    have hz : ¬ 0 < r.left := by
      rw [hi.left]
      intro hp
      obtain ⟨i, h1, h2⟩ := sumN_pos hp
      try dsimp only at h2
      split at h2
      · rename_i h3
        have := (h.mem (jb jobs i).task i).2 ⟨h1, rfl, by rw [hc]; simp, h3⟩
        rw [hq] at this; cases this
      · omega
    rw [untilP_stop (fun ho => hz ho.1)]
    exact ⟨h.L, h.ends⟩
  | cons c rest =>
    have hcl := h.coming c (by rw [hc]; simp)
    have hw := (S.ok.work _ (jb_mem hcl.1)).1
    have hec := he c (by rw [hc]; simp)
    obtain ⟨N, hN⟩ : ∃ N : Nat, (e - s.now).toNat = N := ⟨_, rfl⟩
    obtain ⟨k1, k2, k3⟩ := rs_idle (e := e) S.ok hi (h.norun hr) N fun k hk => ⟨by rw [h.t]; omega, left_pos hi hcl.1 (by rw [hcl.2]; omega), pickN_no fun j hj h1 h2 => by
      rw [h.t] at h1
      have hjc : j ∉ s.coming := fun hm => by have := (he j hm).2; omega
      have := (h.mem (jb jobs j).task j).2 ⟨hj, rfl, hjc, h2⟩
      rw [hq] at this; cases this⟩
    try dsimp only at k1 k2 k3
    rw [k2, untilP_stop]
    · split
      · exact ⟨h.L, h.ends⟩
      · exact ⟨h.L, h.ends⟩
    · rintro ⟨_, h2⟩
      have ht : (if N = 0 then r else { r with t := r.t + N, runs := -1 } : RS).t = s.now + N := by
        split
        · rename_i e0; rw [e0, h.t]; simp
        · show r.t + N = _; rw [h.t]
      rw [ht] at h2
      omega
theorem sim_stop (h : Sim0 jobs s r) (h0 : 0 ≤ e) (he : e ≤ s.now) : (untilP l jobs e r).L = s.spans ∧ (untilP l jobs e r).ends = s.ends := by
  rw [untilP_stop (fun ho => by have := ho.2; rw [h.t] at this; omega)]
  exact ⟨h.L, h.ends⟩
def xsInit (n : Nat) (o : List Nat) : XS := ⟨o, 0, [], List.replicate n (-1), none, fun _ => none, [], fun _ => 0, fun _ => 0, fun _ => []⟩
theorem sim_init {o : List Nat} (ho : ∀ i, i ∈ o ↔ i < jobs.length) (hs : o.Pairwise (ltO jobs)) : Sim0 jobs (xsInit jobs.length o) (rsInit jobs.length) := by
  have h0 : ∀ i : Nat, i < jobs.length → atI (List.replicate jobs.length (0 : Int)) (i : Int) = 0 := fun i hi => by
    rw [atI_nat (by simpa using hi)]; simp
  refine { t := rfl, L := rfl, ends := rfl, coming := fun i hi => ⟨(ho i).1 hi, h0 i ((ho i).1 hi)⟩, sorted := hs, ord := fun k hk hn => absurd ((ho k).2 hk) hn, mem := fun t i => ⟨fun h => (by cases h), fun ⟨a, _, c, _⟩ => absurd ((ho i).2 a) c⟩, asc := fun _ => List.Pairwise.nil, rel := fun k hk hn => absurd ((ho k).2 hk) hn, run := fun i h => (by cases h), nodup := List.nodup_nil, ready := fun t => ⟨fun h => (by cases h), fun h => absurd rfl h.1⟩, left := fun t i h => (by cases h), cut := fun t i h => (by cases h), sec0 := fun t i h => (by cases h), runs := fun i h => (by cases h), norun := fun _ => .inl (by show (-1 : Int) < 0; decide), within := fun i h => (by cases h) }
theorem rsOn_ever (hi : RsInv jobs r) (hs : sumWork jobs ≤ 1099511627776) : rsOn (-1) r ↔ rsOn 9223372036854775807 r := by
  have h1 := hi.t1
  have h2 := hi.sum
  unfold rsOn lastRel at *
  constructor
  · rintro ⟨a, _⟩; exact ⟨a, .inr (by omega)⟩
  · rintro ⟨a, _⟩; exact ⟨a, .inl (by decide)⟩
theorem rsRun_ever (hj : JobsOk l jobs) (hs : sumWork jobs ≤ 1099511627776) : ∀ (n : Nat) (r : RS), RsInv jobs r → rsRun l jobs (-1) n r = rsRun l jobs 9223372036854775807 n r
  | 0, r, _ => rfl
  | n + 1, r, hi => by
    unfold rsRun
    by_cases h : rsOn (-1) r
    · rw [if_pos h, if_pos ((rsOn_ever hi hs).1 h)]
      exact rsRun_ever hj hs n _ (rsStep_ok hj hi h).1
    · rw [if_neg h, if_neg (fun h' => h ((rsOn_ever hi hs).2 h'))]
theorem untilP_ever (hj : JobsOk l jobs) (hs : sumWork jobs ≤ 1099511627776) (hi : RsInv jobs r) : untilP l jobs (-1) r = untilP l jobs 9223372036854775807 r := rsRun_ever hj hs _ r hi
end Go.L.Try
namespace Go.L.Try
open Go Go.L
theorem legal_ok {l : List Task} {jobs : List Job} (h : legalB l jobs = true) : JobsOk l jobs ∧ jobs.length ≤ 4096 ∧ (checkAllP l).2 = 0 := by
  simp only [legalB, Bool.and_eq_true, decide_eq_true_eq] at h
  obtain ⟨⟨h1, h2⟩, h3⟩ := h
  obtain ⟨_, _, hok⟩ := checkAll_ok h1
  have key : ∀ j ∈ jobs, (0 ≤ j.task ∧ j.task < l.length) ∧ (0 ≤ j.arrive ∧ j.arrive ≤ 17592186044416) ∧ j.arrive ≤ j.release ∧ j.release ≤ j.arrive + (atI l j.task).J ∧ 1 ≤ j.work ∧ j.work ≤ (atI l j.task).C ∧ cutsOk (atI l j.task).Q j.cuts j.work = true ∧ okTask (atI l j.task) := by
    intro j hj
    obtain ⟨i, hi, rfl⟩ := List.getElem_of_mem hj
    have h4 := allOk_at h3 i hi
    simp only [jobOkB, Bool.and_eq_true, decide_eq_true_eq] at h4
    obtain ⟨h5, h6⟩ := h4
    unfold jobNums at h5
    dsimp only at h5
    rw [atI_nat hi] at h5 h6
    exact ⟨h5.1, h5.2.1, h5.2.2.2.1, h5.2.2.2.2.1, h5.2.2.2.2.2.1, h5.2.2.2.2.2.2, h6, hok _ (atI_mem h5.1.1 h5.1.2)⟩
  refine ⟨⟨fun j hj => (key j hj).1, fun j hj => ?_, fun j hj => ?_, fun j hj => ⟨_, (key j hj).2.2.2.2.2.2.1⟩⟩, h2, h1⟩
  · obtain ⟨a, b, c, d, e, f, g, ⟨hr, _⟩⟩ := key j hj
    simp only [rangesB] at hr
    unfold lastRel; omega
  · obtain ⟨a, b, c, d, e, f, g, ⟨hr, _⟩⟩ := key j hj
    simp only [rangesB] at hr
    omega
theorem legal_job {l : List Task} {jobs : List Job} (h : legalB l jobs = true) {i : Nat} (hi : i < jobs.length) : jobNums l jobs i ∧ okTask (atI l (atI jobs (i : Int)).task) ∧ cutsOk (atI l (atI jobs (i : Int)).task).Q (atI jobs (i : Int)).cuts (atI jobs (i : Int)).work = true := by
  simp only [legalB, Bool.and_eq_true, decide_eq_true_eq] at h
  obtain ⟨⟨h1, h2⟩, h3⟩ := h
  obtain ⟨_, _, hok⟩ := checkAll_ok h1
  have h4 := allOk_at h3 i hi
  simp only [jobOkB, Bool.and_eq_true, decide_eq_true_eq] at h4
  obtain ⟨h5, h6⟩ := h4
  have h7 := h5
  unfold jobNums at h7
  dsimp only at h7
  exact ⟨h5, hok _ (atI_mem h7.1.1 h7.1.2), h6⟩
theorem lastN_ge {jobs : List Job} {t : Int} {a : Nat} (ha : (atI jobs (a : Int)).task = t) : ∀ {b : Nat}, a < b → (a : Int) ≤ lastN jobs t b
  | 0, h => by omega
  | b + 1, h => by
    unfold lastN
    split
    · omega
    · rename_i hn
      have : a ≠ b := fun e => hn (by rw [← e]; exact ha)
      exact lastN_ge ha (by omega)
theorem arrive_le {l : List Task} {jobs : List Job} (h : legalB l jobs = true) {a : Nat} : ∀ (b : Nat), a < b → b < jobs.length → (atI jobs (a : Int)).task = (atI jobs (b : Int)).task → (atI jobs (a : Int)).arrive + (atI l (atI jobs (b : Int)).task).T ≤ (atI jobs (b : Int)).arrive := by
  intro b
  induction b using Nat.strongRecOn with
  | _ b ih =>
    intro hab hb ht
    obtain ⟨h1, h2, h3⟩ := legal_job h hb
    unfold jobNums at h1
    dsimp only at h1
    have hge := lastN_ge (jobs := jobs) ht hab
    have hin := lastN_in jobs (atI jobs (b : Int)).task b
    have htk := lastN_task (jobs := jobs) (task := (atI jobs (b : Int)).task) (n := b) (by omega)
    obtain ⟨k, hk⟩ : ∃ k : Nat, lastN jobs (atI jobs (b : Int)).task b = k := ⟨(lastN jobs (atI jobs (b : Int)).task b).toNat, by omega⟩
    rw [hk] at h1 hge hin htk
    have h5 := h1.2.2.1 (by omega)
    by_cases e : a = k
    · subst e; exact h5
    · have h6 := ih k (by omega) (by omega) (by omega) (by rw [ht, htk])
      rw [htk] at h6
      obtain ⟨⟨hr, _⟩, _⟩ := And.intro h2 h3
      simp only [rangesB] at hr
      omega
theorem script_of {l : List Task} {jobs : List Job} (h : legalB l jobs = true) : Script l jobs := by
  obtain ⟨h1, h2, h3⟩ := legal_ok h
  refine ⟨h1, fun a b hab hb ht => ?_, fun t u ht1 ht2 hu1 hu2 hp => ?_⟩
  · obtain ⟨n1, n2, n3⟩ := legal_job h hb
    obtain ⟨m1, m2, m3⟩ := legal_job h (show a < jobs.length by omega)
    have h4 := arrive_le h b hab hb ht
    unfold jobNums at n1 m1
    dsimp only at n1 m1
    have ht' : (atI jobs (a : Int)).task = (atI jobs (b : Int)).task := ht
    rw [ht'] at m1
    obtain ⟨hr, hf⟩ := n2
    simp only [rangesB] at hr
    unfold fitsB at hf
    show (atI jobs (a : Int)).release < (atI jobs (b : Int)).release
    omega
  · obtain ⟨_, _, h5⟩ := valid_iff.1 (show validP l from h3)
    obtain ⟨a, rfl⟩ : ∃ a : Nat, t = a := ⟨t.toNat, by omega⟩
    obtain ⟨b, rfl⟩ : ∃ b : Nat, u = b := ⟨u.toNat, by omega⟩
    rcases Nat.lt_trichotomy a b with h6 | h6 | h6
    · exact absurd hp (h5 a b h6 (by omega)).2
    · rw [h6]
    · exact absurd hp.symm (h5 b a h6 (by omega)).2
end Go.L.Try
namespace Go.L.Try
open Go Go.L
theorem lastN_app {A B : List Job} {t : Int} {k : Nat} (hk : k ≤ A.length) : lastN (A ++ B) t k = lastN A t k := by
  have h1 := lastN_take (jobs := A ++ B) (task := t) hk
  rw [List.take_left] at h1
  exact h1.symm
theorem atI_app {A B : List Job} {i : Int} (h0 : 0 ≤ i) (h : i < A.length) : atI (A ++ B) i = atI A i := by
  unfold atI
  rw [List.getD_eq_getElem?_getD, List.getD_eq_getElem?_getD, List.getElem?_append_left (by omega)]
theorem jobOkB_app {l : List Task} {A B : List Job} {i : Nat} (hi : i < A.length) : jobOkB l (A ++ B) i = jobOkB l A i := by
  have e1 : atI (A ++ B) (i : Int) = atI A (i : Int) := atI_app (by omega) (by omega)
  have e2 : lastN (A ++ B) (atI A (i : Int)).task i = lastN A (atI A (i : Int)).task i := lastN_app (by omega)
  have e3 : jobNums l (A ++ B) i ↔ jobNums l A i := by
    unfold jobNums
    dsimp only
    rw [e1, e2]
    have h5 := lastN_in A (atI A (i : Int)).task i
    constructor
    · rintro ⟨a, b, c, d⟩
      exact ⟨a, b, fun hk => by have := c hk; rwa [atI_app hk (by omega)] at this, d⟩
    · rintro ⟨a, b, c, d⟩
      exact ⟨a, b, fun hk => by rw [atI_app hk (by omega)]; exact c hk, d⟩
  unfold jobOkB
  rw [e1]
  congr 1
  exact decide_eq_decide.2 e3
theorem allOk_app {l : List Task} {A B : List Job} : ∀ {n : Nat}, n ≤ A.length → allOk l (A ++ B) n = allOk l A n
  | 0, _ => rfl
  | n + 1, h => by
    show (allOk l (A ++ B) n && jobOkB l (A ++ B) n) = (allOk l A n && jobOkB l A n)
    rw [allOk_app (by omega), jobOkB_app (by omega)]
theorem allOk_snoc {l : List Task} {A : List Job} {j : Job} (hA : allOk l A A.length = true) (h1 : 0 ≤ j.task ∧ j.task < l.length) (h2 : 0 ≤ j.arrive ∧ j.arrive ≤ 17592186044416) (h3 : ∀ x ∈ A, x.task = j.task → x.arrive + (atI l j.task).T ≤ j.arrive) (h4 : j.arrive ≤ j.release) (h5 : j.release ≤ j.arrive + (atI l j.task).J) (h6 : 1 ≤ j.work) (h7 : j.work ≤ (atI l j.task).C) (h8 : cutsOk (atI l j.task).Q j.cuts j.work = true) : allOk l (A ++ [j]) (A ++ [j]).length = true := by
  rw [List.length_append, List.length_singleton]
  show (allOk l (A ++ [j]) A.length && jobOkB l (A ++ [j]) A.length) = true
  rw [allOk_app (Nat.le_refl _), hA, Bool.true_and]
  have e : atI (A ++ [j]) (A.length : Int) = j := by rw [atI_nat (by simp)]; simp
  unfold jobOkB
  rw [e, h8, Bool.and_true, decide_eq_true_eq]
  unfold jobNums
  dsimp only
  rw [e, lastN_app (Nat.le_refl _)]
  have h9 := lastN_in A j.task A.length
  refine ⟨h1, h2, fun hk => ?_, h4, h5, h6, h7⟩
  rw [atI_app hk (by omega)]
  exact h3 _ (atI_mem hk (by omega)) (lastN_task hk)
def ofT (A : List Job) (t : Int) : Nat := A.countP fun j => decide (j.task = t)
structure Laid17 (l : List Task) (A : List Job) : Prop where
  ok : allOk l A A.length = true
  nth : ∀ n : Nat, n < A.length → (atI A (n : Int)).release = (atI A (n : Int)).arrive ∧ (atI A (n : Int)).arrive = ofT (A.take n) (atI A (n : Int)).task * (atI l (atI A (n : Int)).task).T ∧ (atI A (n : Int)).work = (atI l (atI A (n : Int)).task).C ∧ (atI A (n : Int)).cuts = []
theorem Laid17.nil (l : List Task) : Laid17 l [] := ⟨rfl, fun n hn => by simp at hn⟩
end Go.L.Try
namespace Go.L.Try
open Go Go.L
theorem cutsP_ok {q : Int} (hq : 1 ≤ q) : ∀ (cs : List Int) {left : Int}, 0 ≤ left → cutsOk q (cutsP q cs left) left = true
  | [], left, h => rfl
  | c :: r, left, h => by
    unfold cutsP
    split
    · rename_i hp
      have := emod_in c (min q left) (by omega)
      simp only [cutsOk, Bool.and_eq_true, decide_eq_true_eq]
      exact ⟨by omega, cutsP_ok hq r (by omega)⟩
    · rfl
theorem jobsP_both {l : List Task} (hv : validP l) (raw : List Raw) (hr : raw.length ≤ 4096) : legalB l (jobsP l raw) = true ∧ ∀ j ∈ jobsP l raw, jobIn raw.length j := by
  obtain ⟨h0, h1, hok⟩ := checkAll_ok hv
  have key : ∀ n : Nat, n ≤ raw.length → allOk l (jobsP l (raw.take n)) (jobsP l (raw.take n)).length = true ∧ ∀ j ∈ jobsP l (raw.take n), jobIn n j := by
    intro n
    induction n with
    | zero => intro _; exact ⟨rfl, fun j hj => by simp [jobsP] at hj⟩
    | succ n ih =>
      intro hn
      obtain ⟨hA, hin⟩ := ih (by omega)
      rw [take_snoc (by omega), jobsP_snoc]
      generalize hAA : jobsP l (raw.take n) = A at *
      generalize atI raw (n : Int) = r
      have hlen : A.length = n := by rw [← hAA, jobsP_len, List.length_take]; omega
      have hj := jobOf_in h0 hok hin r
      have ht := emod_in r.task l.length (by omega)
      obtain ⟨hrg, hf⟩ := hok _ (atI_mem ht.1 ht.2)
      simp only [rangesB] at hrg
      have hleg : legalB l A = true := by
        simp only [legalB, Bool.and_eq_true, decide_eq_true_eq]
        exact ⟨⟨hv, by omega⟩, hA⟩
      have hgap := emod_in r.gap 1048576 (by decide)
      have hlate := emod_in r.late ((atI l (r.task % l.length)).J + 1) (by omega)
      have hwork := emod_in r.work (atI l (r.task % l.length)).C (by omega)
      unfold jobIn at hj
      refine ⟨allOk_snoc hA ht ⟨hj.1, by omega⟩ (fun x hx hxt => ?_) hj.2.2.1 ?_ hj.2.2.2.2.1 ?_ ?_, fun j hjm => ?_⟩
      · obtain ⟨i, hi, rfl⟩ := List.getElem_of_mem hx
        have hxt' : (atI A (i : Int)).task = r.task % l.length := by rw [atI_nat hi]; exact hxt
        have hge := lastN_ge (jobs := A) hxt' hi
        have hlt := lastN_in A (r.task % l.length) A.length
        have htk := lastN_task (jobs := A) (task := r.task % l.length) (n := A.length) (by omega)
        show A[i].arrive + (atI l (r.task % l.length)).T ≤ (if 0 ≤ lastN A (r.task % l.length) A.length then r.gap % 1048576 + (atI A (lastN A (r.task % l.length) A.length)).arrive + (atI l (r.task % l.length)).T else r.gap % 1048576)
        rw [if_pos (by omega), ← atI_nat hi]
        obtain ⟨k, hk⟩ : ∃ k : Nat, lastN A (r.task % l.length) A.length = k := ⟨(lastN A (r.task % l.length) A.length).toNat, by omega⟩
        rw [hk] at hge hlt htk ⊢
        by_cases e : i = k
        · subst e; omega
        · have := arrive_le hleg k (show i < k by omega) (by omega) (by rw [hxt', htk])
          rw [htk] at this
          omega
      · show (if 0 ≤ lastN A (r.task % l.length) A.length then r.gap % 1048576 + (atI A (lastN A (r.task % l.length) A.length)).arrive + (atI l (r.task % l.length)).T else r.gap % 1048576) + r.late % ((atI l (r.task % l.length)).J + 1) ≤ (if 0 ≤ lastN A (r.task % l.length) A.length then r.gap % 1048576 + (atI A (lastN A (r.task % l.length) A.length)).arrive + (atI l (r.task % l.length)).T else r.gap % 1048576) + (atI l (r.task % l.length)).J
        omega
      · show 1 + r.work % (atI l (r.task % l.length)).C ≤ (atI l (r.task % l.length)).C
        omega
      · exact cutsP_ok (by show 1 ≤ (atI l (r.task % l.length)).Q; omega) r.cuts (by show 0 ≤ 1 + r.work % (atI l (r.task % l.length)).C; omega)
      · rcases List.mem_append.1 hjm with hjm | hjm
        · have := hin j hjm
          unfold jobIn at this ⊢
          simp only [Int.natCast_add, Int.natCast_one]
          omega
        · rw [List.mem_singleton.1 hjm]; unfold jobIn; exact hj
  have h := key raw.length (Nat.le_refl _)
  rw [List.take_length] at h
  refine ⟨?_, h.2⟩
  simp only [legalB, Bool.and_eq_true, decide_eq_true_eq]
  exact ⟨⟨hv, by rw [jobsP_len]; exact hr⟩, h.1⟩
theorem jobsP_legal {l : List Task} (hv : validP l) (raw : List Raw) (hr : raw.length ≤ 4096) : legalB l (jobsP l raw) = true := (jobsP_both hv raw hr).1
theorem decodeP_legal {l : List Task} (hv : validP l) (raw : List Raw) (hr : raw.length ≤ 4096) : legalB l (decodeP l raw) = true := by
  have e : decodeP l raw = jobsP l raw := by rw [decodeP, if_pos (show (checkAllP l).2 = 0 from hv), List.take_of_length_le hr]
  rw [e]; exact jobsP_legal hv raw hr
theorem sumN_mul {k : Int} : ∀ n : Nat, sumN (fun _ => k) n = k * n
  | 0 => by simp [sumN]
  | n + 1 => by simp only [sumN, sumN_mul n, Int.natCast_add, Int.natCast_one, Int.mul_add, Int.mul_one]
theorem sumWork_le {jobs : List Job} {k : Int} (h : ∀ j ∈ jobs, j.work ≤ k) : sumWork jobs ≤ k * jobs.length := by
  rw [← sumN_mul]
  exact sumN_le fun i hi => h _ (atI_mem (by omega) (by omega))
structure SmallJobs (s : List Task) (jobs : List Job) (m : Nat) : Prop where
  legal : legalB s jobs = true
  len : jobs.length ≤ m
  sum : sumWork jobs ≤ 4 * m
  work : ∀ j ∈ jobs, 1 ≤ j.work ∧ j.work ≤ 4
  task : ∀ j ∈ jobs, 0 ≤ j.task ∧ j.task < s.length
  small : ∀ j ∈ jobs, 0 ≤ j.arrive ∧ j.arrive ≤ m * 4294967296
theorem decode_small {s : List Task} (hv : validP s) (hs : ∀ t ∈ s, SmallT t) (raw : List Raw) {m : Nat} (hm : raw.length ≤ m) (hm2 : m ≤ 4096) : SmallJobs s (decodeP s raw) m := by
  have hl := decodeP_legal hv raw (by omega)
  have e : decodeP s raw = jobsP s raw := by rw [decodeP, if_pos (show (checkAllP s).2 = 0 from hv), List.take_of_length_le (by omega)]
  have hlen : (decodeP s raw).length ≤ m := by rw [e, jobsP_len]; exact hm
  have hj : ∀ j ∈ decodeP s raw, (0 ≤ j.task ∧ j.task < s.length) ∧ 1 ≤ j.work ∧ j.work ≤ 4 := fun j hj => by
    obtain ⟨i, hi, rfl⟩ := List.getElem_of_mem hj
    obtain ⟨h1, _, _⟩ := legal_job hl hi
    unfold jobNums at h1
    dsimp only at h1
    rw [atI_nat hi] at h1
    have h2 := (hs _ (atI_mem h1.1.1 h1.1.2)).C
    exact ⟨h1.1, h1.2.2.2.2.2.1, by omega⟩
  refine ⟨hl, hlen, ?_, fun j h => (hj j h).2, fun j h => (hj j h).1, fun j h => ?_⟩
  rotate_left
  · rw [e] at h
    have := (jobsP_both hv raw (by omega)).2 j h
    unfold jobIn at this
    have h2 : (raw.length : Int) * 4294967296 ≤ (m : Int) * 4294967296 := Int.mul_le_mul_of_nonneg_right (by omega) (by decide)
    omega
  have := sumWork_le fun j h => (hj j h).2.2
  omega
end Go.L.Try
