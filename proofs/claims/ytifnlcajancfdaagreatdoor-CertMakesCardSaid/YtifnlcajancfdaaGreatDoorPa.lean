/- A RING OF CELLS, plain. -/
import Derived.Test.YtifnlcajancfdaaGreatDoorCode
import Derived.Test.YtifnlcajancfdaaGreatDoorVc
set_option linter.unusedVariables false
namespace Go.L
theorem mod_step {N a i : Nat} (ha : a < N) (hi : i ≤ N) : (a + i) % N = if a + i < N then a + i else a + i - N := by
  split
  · exact Nat.mod_eq_of_lt ‹_›
  · rw [Nat.mod_eq_sub_mod (by omega), Nat.mod_eq_of_lt (by omega)]
structure RingL {α : Type} (R : List α) (f : Nat) (l : List α) : Prop where
  few : l.length ≤ R.length
  from_ : f < R.length
  nth : ∀ i, i < l.length → R[(f + i) % R.length]? = l[i]?
namespace RingL
variable {α : Type} {R : List α} {f : Nat} {l : List α}
theorem push (r : RingL R f l) (h : l.length < R.length) (x : α) : RingL (R.set ((f + l.length) % R.length) x) f (l ++ [x]) := by
  have hf := r.from_
  refine ⟨by simp; omega, by simpa using hf, fun i hi => ?_⟩
  rw [List.length_append, List.length_singleton] at hi
  rw [List.length_set]
  have e1 := mod_step (i := i) hf (by omega)
  have e2 := mod_step (i := l.length) hf (by omega)
  by_cases hlt : i < l.length
  · rw [List.getElem?_set_ne (by rw [e1, e2]; split <;> split <;> omega), List.getElem?_append_left hlt]
    exact r.nth i hlt
  · have e : i = l.length := by omega
    subst e
    rw [List.getElem?_set_self (Nat.mod_lt _ (by omega)), List.getElem?_append_right (Nat.le_refl _), Nat.sub_self]; rfl
theorem pop (r : RingL R f l) {a : α} {s : List α} (h : l = a :: s) (x : α) : RingL (R.set f x) ((f + 1) % R.length) s ∧ R[f]? = some a := by
  subst h
  have hf := r.from_
  have hn := r.few
  rw [List.length_cons] at hn
  refine ⟨⟨by rw [List.length_set]; omega, by rw [List.length_set]; exact Nat.mod_lt _ (by omega), fun i hi => ?_⟩, ?_⟩
  · rw [List.length_set]
    have e0 := mod_step (i := 1) hf (by omega)
    have e1 := mod_step (i := i + 1) hf (by omega)
    have e2 := mod_step (a := (f + 1) % R.length) (i := i) (Nat.mod_lt _ (by omega)) (by omega)
    have e3 : ((f + 1) % R.length + i) % R.length = (f + (i + 1)) % R.length := by rw [e2, e1, e0]; split <;> split <;> split <;> omega
    rw [e3, List.getElem?_set_ne (by rw [e1]; split <;> omega), r.nth (i + 1) (by simp; omega)]
    rfl
  · have := r.nth 0 (by simp)
    rw [Nat.add_zero, Nat.mod_eq_of_lt hf] at this
    exact this
theorem at0 (r : RingL R f l) {i : Nat} (h : i < l.length) : R[(f + i) % R.length]? = some (l[i]) := by rw [r.nth i h, List.getElem?_eq_getElem h]
theorem grow (r : RingL R f l) (h : l.length = R.length) (m : Nat) (x : α) : RingL (R.drop f ++ R.take f ++ List.replicate m x) 0 l := by
  have hf := r.from_
  have el : (R.drop f ++ R.take f).length = R.length := by simp; omega
  refine ⟨by rw [List.length_append, el]; omega, by rw [List.length_append, el]; omega, fun i hi => ?_⟩
  rw [Nat.zero_add, Nat.mod_eq_of_lt (by rw [List.length_append, el]; omega), List.getElem?_append_left (by rw [el]; omega), ← r.nth i hi, mod_step hf (by omega)]
  by_cases hc : f + i < R.length
  · rw [if_pos hc, List.getElem?_append_left (by simp; omega), List.getElem?_drop]
  · rw [if_neg hc, List.getElem?_append_right (by simp; omega), List.getElem?_take, List.length_drop, if_pos (by omega)]
    congr 1; omega
theorem new (m : Nat) (x : α) (hm : 0 < m) : RingL (List.replicate m x) 0 ([] : List α) := ⟨by simp, by simpa using hm, fun i hi => by simp at hi⟩
end RingL
end Go.L
set_option linter.unusedSimpArgs false
set_option maxRecDepth 100000
set_option maxHeartbeats 2000000
namespace Go.L.Try
open Go Go.L
variable {E : Env}
inductive RingH (h : Heap) (q : Nat) : List Value → (Nat → Prop) → Nat → Prop
  | empty (hq : h[q]? = some (.cells [.slice none 0 0, .int .i64 0, .int .i64 0] false)) : RingH h q [] (fun b => b = q) 0
  | full {l R : List Value} {f rb : Nat} (hq : h[q]? = some (.cells [.slice (some ⟨rb, 0, none⟩) R.length R.length, .int .i64 f, .int .i64 l.length] false)) (hr : h[rb]? = some (.cells R false)) (hne : rb ≠ q) (hR : RingL R f l) (hs : R.length ≤ 1048576) (ho : ∀ x ∈ R, oneCell x = true) : RingH h q l (fun b => b = q ∨ b = rb) R.length
theorem RingH.len {h : Heap} {q : Nat} {l : List Value} {F : Nat → Prop} {N : Nat} (r : RingH h q l F N) : ∃ v f, h[q]? = some (.cells [v, f, .int .i64 l.length] false) := by
  cases r with
  | empty hq => exact ⟨_, _, hq⟩
  | full hq _ _ _ _ _ => exact ⟨_, _, hq⟩
theorem RingH.keep {h h' : Heap} {q : Nat} {l : List Value} {F : Nat → Prop} {N : Nat} (r : RingH h q l F N) (hk : ∀ b, F b → h'[b]? = h[b]?) : RingH h' q l F N := by
  cases r with
  | empty hq => exact .empty (by rw [hk q rfl]; exact hq)
  | full hq hr hne hR hs ho => exact .full (by rw [hk q (.inl rfl)]; exact hq) (by rw [hk _ (.inr rfl)]; exact hr) hne hR hs ho
theorem RingH.lt {h : Heap} {q : Nat} {l : List Value} {F : Nat → Prop} {N : Nat} (r : RingH h q l F N) : ∀ b, F b → b < h.length := by
  cases r with
  | empty hq => intro b hb; subst hb; exact (List.getElem?_eq_some_iff.1 hq).1
  | full hq hr hne hR hs ho =>
    rintro b (rfl | rfl)
    · exact (List.getElem?_eq_some_iff.1 hq).1
    · exact (List.getElem?_eq_some_iff.1 hr).1
theorem msl_ptr {n : Nat} (h2 : n ≤ 1048576) : mslV [.pointer none] 8 (.int .i64 0) (.int .i64 (n : Int)) = some (.cells (List.replicate n (.pointer none)) false, fun b => .slice (some ⟨b, 0, none⟩) 0 n) := by
  have e : (List.replicate n (Value.pointer none)).all oneCell = true := by
    rw [List.all_eq_true]; intro v hv; rw [List.eq_of_mem_replicate hv]; rfl
  simp [mslV]
  refine ⟨⟨by omega, by omega⟩, ?_⟩
  rw [newCells, if_pos e]
theorem wx_clr {W : Nat → Prop} {h : Heap} {b f cap : Nat} {R : List Value} {Q : Value → Heap → Prop} (hb : h[b]? = some (.cells R false)) (hf : f < R.length) (hW : W b) (hq : ∀ v, Q v (h.set b (.cells (R.set f (.pointer none)) false))) : WX W (clearV [.pointer none] (.slice (some ⟨b, f, none⟩) 1 cap) h) Q := by
  refine ⟨.tuple #[], _, [b], ?_, fun y hy => by rw [List.mem_singleton.1 hy]; exact hW, hq _⟩
  simp [clearV, hb]
  exact ⟨⟨hf, rfl⟩, rfl⟩
end Go.L.Try
namespace Go.L.Try
open Go Go.L
variable {E : Env}
def cmp3 (x y : Int) : Int := if x < y then -1 else if y < x then 1 else 0
def CmpOK (E : Env) (h0 : Heap) (cv : Value) (key : Int → Int) (n : Nat) : Prop := ∀ hh, Pre h0 hh → ∀ a b : Int, 0 ≤ a → a < n → 0 ≤ b → b < n → callW E cv [.int .i64 a, .int .i64 b] hh = some (.int .i64 (cmp3 (key a) (key b)), hh, [])
def leK (key : Int → Int) (x y : Int) : Prop := key x < key y ∨ (key x = key y ∧ x < y)
theorem ins_sorted {key : Int → Int} {S : List Int} {x : Int} {j : Nat} (hS : S.Pairwise (leK key)) (hx : ∀ y ∈ S, key y = key x → y < x) (hj : j ≤ S.length) (hd : ∀ y ∈ S.drop j, key x < key y) (hs : 0 < j → ¬ key x < key (atI S ((j : Int) - 1))) : (S.take j ++ x :: S.drop j).Pairwise (leK key) := by
  have hSS := hS
  rw [← List.take_append_drop j S, List.pairwise_append] at hS
  obtain ⟨h1, h2, h3⟩ := hS
  have htake : ∀ y ∈ S.take j, leK key y x := fun y hy => by
    have hyS := List.mem_of_mem_take hy
    have hj0 : 0 < j := by
      rcases Nat.eq_zero_or_pos j with e | e
      · subst e; simp at hy
      · exact e
    have hle : key y ≤ key (atI S ((j : Int) - 1)) := by
      obtain ⟨k, hk, rfl⟩ := List.getElem_of_mem hy
      rw [List.length_take] at hk
      rw [List.getElem_take]
      rw [show ((j : Int) - 1) = ((j - 1 : Nat) : Int) by omega, atI_nat (by omega)]
      by_cases e : k = j - 1
      · subst e; exact Int.le_refl _
      · have := List.pairwise_iff_getElem.1 hSS k (j - 1) (by omega) (by omega) (by omega)
        unfold leK at this; omega
    have := hs hj0
    unfold leK
    by_cases e : key y = key x
    · exact .inr ⟨e, hx y hyS e⟩
    · left; omega
  refine List.pairwise_append.2 ⟨h1, List.pairwise_cons.2 ⟨fun y hy => .inl (hd y hy), h2⟩, fun y hy z hz => ?_⟩
  rcases List.mem_cons.1 hz with rfl | hz
  · exact htake y hy
  · exact h3 y hy z hz
theorem swap_step {P S R : List Int} {x : Int} {j : Nat} (hj : 0 < j) (hl : j ≤ S.length) :
    ((P ++ (S.take j ++ x :: S.drop j) ++ R).set (P.length + j) (atI S ((j : Int) - 1))).set (P.length + j - 1) x = P ++ (S.take (j - 1) ++ x :: S.drop (j - 1)) ++ R := by
  obtain ⟨k, rfl⟩ : ∃ k, j = k + 1 := ⟨j - 1, by omega⟩
  have hk : k < S.length := by omega
  have e1 : S.take (k + 1) = S.take k ++ [S[k]] := by rw [List.take_succ_eq_append_getElem hk]
  have e2 : S.drop k = S[k] :: S.drop (k + 1) := List.drop_eq_getElem_cons hk
  have e3 : atI S (((k + 1 : Nat) : Int) - 1) = S[k] := by rw [show (((k + 1 : Nat) : Int) - 1) = (k : Int) by omega, atI_nat hk]
  rw [e3, e1, show k + 1 - 1 = k from rfl, e2]
  have l1 : (S.take k).length = k := by rw [List.length_take]; omega
  have e5 : P ++ (S.take k ++ [S[k]] ++ x :: S.drop (k + 1)) ++ R = (P ++ S.take k) ++ (S[k] :: x :: (S.drop (k + 1) ++ R)) := by simp only [List.append_assoc, List.cons_append, List.nil_append]
  rw [e5, List.set_append_right _ _ (by simp; omega)]
  rw [show P.length + (k + 1) - (P ++ S.take k).length = 1 by rw [List.length_append, l1]; omega, List.set_cons_succ, List.set_cons_zero]
  rw [show P.length + (k + 1) - 1 = P.length + k by omega, List.set_append_right _ _ (by simp; omega), show P.length + k - (P ++ S.take k).length = 0 by rw [List.length_append, l1]; omega, List.set_cons_zero]
  simp only [List.append_assoc, List.cons_append, List.nil_append]
theorem atI_mid {P R : List Int} {x : Int} {i : Int} (h : i = P.length) : atI (P ++ x :: R) i = x := by
  subst h
  unfold atI
  rw [List.getD_eq_getElem?_getD, Int.toNat_natCast, List.getElem?_append_right (Nat.le_refl _), Nat.sub_self]; rfl
theorem insSort (hE : Laid E) {h0 h : Heap} {b cap n : Nat} {P M T : List Int} {key : Int → Int} {cv : Value} (hb : h[b]? = some (icells (P ++ M ++ T))) (hp : Pre h0 h) (hbm : h0.length ≤ b) (hc : CmpOK E h0 cv key n) (hin : ∀ x ∈ M, 0 ≤ x ∧ x < n) (hpre : M.Pairwise fun x y => key x = key y → x < y) (hfew : (P ++ M ++ T).length ≤ 1048576) {W : Nat → Prop} (hW : W b) :
    WX W (callW E (.func (.func n_slices_insertionSortCmpFunc_int) #[] #[]) [.slice (some ⟨b, 0, none⟩) (P ++ M ++ T).length cap, .int .i64 P.length, .int .i64 ((P.length : Int) + M.length), cv] h) (fun _ h' => ∃ M', M'.Perm M ∧ M'.Pairwise (leK key) ∧ h' = h.set b (icells (P ++ M' ++ T))) := by
  refine fn_all hE.slices_insertionSortCmpFunc_int rfl (by simp) ?_
  simp only [List.nil_append, List.cons_append, argsF]
  have hlt := (List.getElem?_eq_some_iff.1 hb).1
  have hlen : (P ++ M ++ T).length = P.length + M.length + T.length := by simp only [List.length_append]
  rw [hlen] at hfew ⊢
  have few1 : (P.length : Int) + M.length + T.length ≤ 1048576 := by omega
  have hset := set_same hb
  have Hin := Hid.mk hin
  have Hpre := Hid.mk hpre
  have Hc := Hid.mk hc
  clear hin hpre hlen hc
  (repeat' (first | (with_reducible refine A1 (fun _ => ?_) (fun _ => ?_) <;> try (exfalso; omega)) | (with_reducible refine A2 (fun _ => ?_) (fun _ => ?_) <;> try (exfalso; omega)) | (with_reducible refine A3 (fun _ => ?_) (fun _ => ?_) <;> try (exfalso; omega)) | refine A4 (fun _ => ?_) (fun _ => ?_) | refine A5 (fun _ => ?_) (fun _ => ?_) | refine A6 (fun _ => ?_) (fun _ => ?_) | simp -dsimp (disch := omega) only [↓EA, EB, Nat.reduceEqDiff, Nat.reduceAdd, Nat.reduceLeDiff, Nat.reduceMul, ↓reduceIte, reduceCtorEq, newCells, bslV, eq_self, *]))
  refine WO.loop (fun (S : List Int) fr h' => h' = h.set b (icells (P ++ (S ++ M.drop S.length) ++ T)) ∧ (M = [] ∨ (S.length ≤ M.length ∧ 1 ≤ S.length)) ∧ S.Perm (M.take S.length) ∧ S.Pairwise (leK key) ∧ get fr 0 = .slice (some ⟨b, 0, none⟩) (P.length + M.length + T.length) cap ∧ get fr 1 = .int .i64 P.length ∧ get fr 2 = .int .i64 ((P.length : Int) + M.length) ∧ get fr 3 = cv ∧ get fr 8 = .int .i64 ((P.length : Int) + ((max 1 S.length : Nat) : Int))) (fun S => M.length - S.length) ?_ (M.take 1) ?_
  · rintro S fr h' ⟨rfl, hSl, hSp, hSs, g0, g1, g2, g3, g8⟩
    unfold c_slices_insertionSortCmpFunc_int_l1
    by_cases hend : max 1 S.length < M.length
    · have hS1 : S.length ≤ M.length ∧ 1 ≤ S.length := by rcases hSl with e | e; subst e; simp at hend; exact e
      have hSM : S.length < M.length := by omega
      have hmx : max 1 S.length = S.length := by omega
      have hd : M.drop S.length = M[S.length] :: M.drop (S.length + 1) := List.drop_eq_getElem_cons hSM
      obtain ⟨x, hx⟩ : ∃ x, x = M[S.length] := ⟨_, rfl⟩
      have hxm : x ∈ M := by rw [hx]; exact List.getElem_mem _
      rw [hd, ← hx]
      rw [hmx] at g8
      have hxn := Hin.out x hxm
      have hSin : ∀ y ∈ S, 0 ≤ y ∧ y < n := fun y hy => Hin.out y (List.mem_of_mem_take (hSp.mem_iff.1 hy))
      have hxS : ∀ y ∈ S, key y = key x → y < x := fun y hy => by
        have hy' := hSp.mem_iff.1 hy
        obtain ⟨k, hk, rfl⟩ := List.getElem_of_mem hy'
        rw [List.length_take] at hk
        rw [List.getElem_take, hx]
        exact List.pairwise_iff_getElem.1 Hpre.out k S.length (by omega) hSM (by omega)
      have hdone : ∀ j : Nat, j ≤ S.length → (∀ y ∈ S.drop j, key x < key y) → (0 < j → ¬ key x < key (atI S ((j : Int) - 1))) → (S.take j ++ x :: S.drop j).length = S.length + 1 ∧ (S.take j ++ x :: S.drop j).Perm (M.take (S.length + 1)) ∧ (S.take j ++ x :: S.drop j).Pairwise (leK key) := fun j hj h1 h2 => by
        refine ⟨by simp only [List.length_append, List.length_cons, List.length_take, List.length_drop]; omega, ?_, ins_sorted hSs hxS hj h1 h2⟩
        rw [List.take_succ_eq_append_getElem hSM, ← hx]
        refine List.Perm.trans List.perm_middle ?_
        rw [List.take_append_drop]
        exact (hSp.cons x).trans (List.perm_append_singleton x _).symm
      have Hdone := Hid.mk hdone
      clear hdone
      have HxS := Hid.mk hxS
      have HSin := Hid.mk hSin
      have HSp := Hid.mk hSp
      have HSs := Hid.mk hSs
      have Hx := Hid.mk hx
      have Hd := Hid.mk hd
      clear hSp hSs hSl hmx hxS hSin hx hd
      (repeat' (first | (with_reducible refine A1 (fun _ => ?_) (fun _ => ?_) <;> try (exfalso; omega)) | (with_reducible refine A2 (fun _ => ?_) (fun _ => ?_) <;> try (exfalso; omega)) | (with_reducible refine A3 (fun _ => ?_) (fun _ => ?_) <;> try (exfalso; omega)) | refine A4 (fun _ => ?_) (fun _ => ?_) | refine A5 (fun _ => ?_) (fun _ => ?_) | refine A6 (fun _ => ?_) (fun _ => ?_) | simp -dsimp (disch := omega) only [↓EA, EB, Nat.reduceEqDiff, Nat.reduceAdd, Nat.reduceLeDiff, Nat.reduceMul, ↓reduceIte, reduceCtorEq, newCells, bslV, eq_self, *]))
      have e0 : P ++ (S ++ x :: (M.drop (S.length + 1) ++ T)) = P ++ (S.take S.length ++ x :: S.drop S.length) ++ (M.drop (S.length + 1) ++ T) := by simp
      rw [e0]
      refine WO.loop (fun (j : Nat) fr h' => h' = h.set b (icells (P ++ (S.take j ++ x :: S.drop j) ++ (M.drop (S.length + 1) ++ T))) ∧ j ≤ S.length ∧ (∀ y ∈ S.drop j, key x < key y) ∧ get fr 0 = .slice (some ⟨b, 0, none⟩) (P.length + M.length + T.length) cap ∧ get fr 1 = .int .i64 P.length ∧ get fr 2 = .int .i64 ((P.length : Int) + M.length) ∧ get fr 3 = cv ∧ get fr 8 = .int .i64 ((P.length : Int) + S.length) ∧ get fr 9 = .int .i64 ((P.length : Int) + j)) (fun j => j) ?_ S.length ⟨rfl, Nat.le_refl _, by simp, rfl, rfl, rfl, rfl, rfl, rfl⟩
      rintro j fr h' ⟨rfl, hjS, hdr, g0, g1, g2, g3, g8, g9⟩
      unfold c_slices_insertionSortCmpFunc_int_l0
      have Hdr := Hid.mk hdr
      clear hdr
      have hll : (P ++ (S.take j ++ x :: S.drop j) ++ (M.drop (S.length + 1) ++ T)).length = P.length + M.length + T.length := by
        simp only [List.length_append, List.length_cons, List.length_take, List.length_drop]; omega
      have hatj : atI (P ++ (S.take j ++ x :: S.drop j) ++ (M.drop (S.length + 1) ++ T)) ((P.length : Int) + j) = x := by
        have e5 : P ++ (S.take j ++ x :: S.drop j) ++ (M.drop (S.length + 1) ++ T) = (P ++ S.take j) ++ x :: (S.drop j ++ (M.drop (S.length + 1) ++ T)) := by simp
        rw [e5, atI_mid]; rw [List.length_append, List.length_take]; omega
      have hatp : 0 < j → atI (P ++ (S.take j ++ x :: S.drop j) ++ (M.drop (S.length + 1) ++ T)) ((P.length : Int) + j - 1) = atI S ((j : Int) - 1) := fun hj0 => by
        obtain ⟨k, rfl⟩ : ∃ k, j = k + 1 := ⟨j - 1, by omega⟩
        have hk : k < S.length := by omega
        have e5 : P ++ (S.take (k + 1) ++ x :: S.drop (k + 1)) ++ (M.drop (S.length + 1) ++ T) = (P ++ S.take k) ++ S[k] :: (x :: S.drop (k + 1) ++ (M.drop (S.length + 1) ++ T)) := by
          rw [List.take_succ_eq_append_getElem hk]; simp only [List.append_assoc, List.cons_append, List.nil_append]
        rw [e5, atI_mid (by rw [List.length_append, List.length_take]; omega), show (((k + 1 : Nat) : Int) - 1) = (k : Int) by omega, atI_nat hk]
      have hstep := fun hj0 => swap_step (P := P) (S := S) (R := M.drop (S.length + 1) ++ T) (x := x) (j := j) hj0 hjS
      generalize hA : P ++ (S.take j ++ x :: S.drop j) ++ (M.drop (S.length + 1) ++ T) = A at *
      have hpre2 : Pre h0 (h.set b (icells A)) := hp.set hbm _
      have hbA : (h.set b (icells A))[b]? = some (icells A) := gset hlt
      have hAl : ((A.length : Nat) : Int) = (P.length : Int) + M.length + T.length := by omega
      have hjb : (j : Int) ≤ S.length ∧ (S.length : Int) < M.length ∧ (0 : Int) ≤ P.length ∧ (0 : Int) ≤ T.length := by omega
      have HA := Hid.mk hA
      have Hstep := Hid.mk hstep
      have Hll := Hid.mk hll
      have HAl := Hid.mk hAl
      clear hA hstep hll hAl
      by_cases hj0 : 0 < j
      · have hatp' := hatp hj0
        have hyS : atI S ((j : Int) - 1) ∈ S := atI_mem (by omega) (by omega)
        have hyn := HSin.out _ hyS
        have hcc := Hc.out _ hpre2 x (atI S ((j : Int) - 1)) hxn.1 hxn.2 hyn.1 hyn.2
        have i1 := ixs_some (size := 1) (n := P.length + M.length + T.length) (c := cap) (b := b) (o := 0) (sp := none) (k := .i64) (j := (P.length : Int) + j) (by omega) (by omega)
        have i2 := ixs_some (size := 1) (n := P.length + M.length + T.length) (c := cap) (b := b) (o := 0) (sp := none) (k := .i64) (j := (P.length : Int) + j - 1) (by omega) (by omega)
        have l1 := ints_ld (l := A) (i := (P.length : Int) + j) (by omega) (by rw [HAl.out]; omega)
        have l2 := ints_ld (l := A) (i := (P.length : Int) + j - 1) (by omega) (by rw [HAl.out]; omega)
        rw [hatj] at l1
        rw [hatp'] at l2
        generalize hy : atI S ((j : Int) - 1) = y at *
        by_cases hlt2 : key x < key y
        · have h3 : cmp3 (key x) (key y) = -1 := by simp [cmp3, hlt2]
          rw [h3] at hcc
          have s1 := ints_st (h := h.set b (icells A)) (b := b) (l := A) (i := (P.length : Int) + j) (x := y) (by omega) (by rw [HAl.out]; omega)
          have s2 := ints_st (h := h.set b (icells (A.set ((P.length : Int) + j).toNat y))) (b := b) (l := A.set ((P.length : Int) + j).toNat y) (i := (P.length : Int) + j - 1) (x := x) (by omega) (by rw [List.length_set, HAl.out]; omega)
          have hbA2 : (h.set b (icells (A.set ((P.length : Int) + j).toNat y)))[b]? = some (icells (A.set ((P.length : Int) + j).toNat y)) := gset hlt
          rw [Nat.mul_one] at l1 l2 s1 s2
          clear hatp hatp'
          (repeat' (first | (with_reducible refine A1 (fun _ => ?_) (fun _ => ?_) <;> try (exfalso; omega)) | (with_reducible refine A2 (fun _ => ?_) (fun _ => ?_) <;> try (exfalso; omega)) | (with_reducible refine A3 (fun _ => ?_) (fun _ => ?_) <;> try (exfalso; omega)) | refine A4 (fun _ => ?_) (fun _ => ?_) | refine A5 (fun _ => ?_) (fun _ => ?_) | refine A6 (fun _ => ?_) (fun _ => ?_) | simp -dsimp (disch := omega) only [↓EA, EB, Nat.reduceEqDiff, Nat.reduceAdd, Nat.reduceLeDiff, Nat.reduceMul, ↓reduceIte, reduceCtorEq, newCells, bslV, eq_self, *, List.set_set, Nat.mul_one]))
          refine Next.mk (j - 1) ⟨?_, by omega, ?_, rfl, rfl, rfl, rfl, rfl, by simp only [get]; simp; omega⟩ (by omega)
          · have := Hstep.out hj0
            rw [show ((P.length : Int) + j).toNat = P.length + j by omega, show ((P.length : Int) + j - 1).toNat = P.length + j - 1 by omega, this]
          · intro z hz
            rw [show j - 1 = j - 1 from rfl, List.drop_eq_getElem_cons (by omega : j - 1 < S.length)] at hz
            rcases List.mem_cons.1 hz with rfl | hz
            · have e6 : y = S[j - 1] := by rw [← hy, show ((j : Int) - 1) = ((j - 1 : Nat) : Int) by omega, atI_nat (by omega)]
              rw [← e6]; exact hlt2
            · rw [show j - 1 + 1 = j by omega] at hz; exact Hdr.out z hz
        · have h3 : ¬ cmp3 (key x) (key y) < 0 := by unfold cmp3; rw [if_neg hlt2]; split <;> decide
          clear hatp hatp'
          rw [Nat.mul_one] at l1 l2
          (repeat' (first | (with_reducible refine A1 (fun _ => ?_) (fun _ => ?_) <;> try (exfalso; omega)) | (with_reducible refine A2 (fun _ => ?_) (fun _ => ?_) <;> try (exfalso; omega)) | (with_reducible refine A3 (fun _ => ?_) (fun _ => ?_) <;> try (exfalso; omega)) | refine A4 (fun _ => ?_) (fun _ => ?_) | refine A5 (fun _ => ?_) (fun _ => ?_) | refine A6 (fun _ => ?_) (fun _ => ?_) | simp -dsimp (disch := omega) only [↓EA, EB, Nat.reduceEqDiff, Nat.reduceAdd, Nat.reduceLeDiff, Nat.reduceMul, ↓reduceIte, reduceCtorEq, newCells, bslV, eq_self, *, Nat.mul_one]))
          obtain ⟨d1, d2, d3⟩ := Hdone.out j hjS Hdr.out (fun _ => by rw [hy]; exact hlt2)
          refine Next.mk (S.take j ++ x :: S.drop j) ⟨?_, .inr ⟨by omega, by omega⟩, by rw [d1]; exact d2, d3, rfl, rfl, rfl, rfl, ?_⟩ (by omega)
          · rw [d1, ← HA.out]; simp only [List.append_assoc, List.cons_append]
          · rw [d1]; simp only [get]; simp; omega
      · (repeat' (first | (with_reducible refine A1 (fun _ => ?_) (fun _ => ?_) <;> try (exfalso; omega)) | (with_reducible refine A2 (fun _ => ?_) (fun _ => ?_) <;> try (exfalso; omega)) | (with_reducible refine A3 (fun _ => ?_) (fun _ => ?_) <;> try (exfalso; omega)) | refine A4 (fun _ => ?_) (fun _ => ?_) | refine A5 (fun _ => ?_) (fun _ => ?_) | refine A6 (fun _ => ?_) (fun _ => ?_) | simp -dsimp (disch := omega) only [↓EA, EB, Nat.reduceEqDiff, Nat.reduceAdd, Nat.reduceLeDiff, Nat.reduceMul, ↓reduceIte, reduceCtorEq, newCells, bslV, eq_self, *]))
        obtain ⟨d1, d2, d3⟩ := Hdone.out j hjS Hdr.out (fun h => absurd h hj0)
        refine Next.mk (S.take j ++ x :: S.drop j) ⟨?_, .inr ⟨by omega, by omega⟩, by rw [d1]; exact d2, d3, rfl, rfl, rfl, rfl, ?_⟩ (by omega)
        · rw [d1, ← HA.out]; simp only [List.append_assoc, List.cons_append]
        · rw [d1]; simp only [get]; simp; omega
    · have he : S.length = M.length := by
        have h5 := hSp.length_eq
        rw [List.length_take] at h5
        rcases hSl with e | e
        · subst e; simp at h5 ⊢; omega
        · omega
      have h6 : M.drop S.length = [] := List.drop_of_length_le (by omega)
      rw [he, List.take_length] at hSp
      have Hf := Hid.mk (And.intro hSp hSs)
      have He := Hid.mk he
      have hmx : ¬ ((P.length : Int) + ((max 1 S.length : Nat) : Int) < (P.length : Int) + M.length) := by omega
      clear hSp hSs he hSl
      (repeat' (first | (with_reducible refine A1 (fun _ => ?_) (fun _ => ?_) <;> try (exfalso; omega)) | (with_reducible refine A2 (fun _ => ?_) (fun _ => ?_) <;> try (exfalso; omega)) | (with_reducible refine A3 (fun _ => ?_) (fun _ => ?_) <;> try (exfalso; omega)) | refine A4 (fun _ => ?_) (fun _ => ?_) | refine A5 (fun _ => ?_) (fun _ => ?_) | refine A6 (fun _ => ?_) (fun _ => ?_) | simp -dsimp (disch := omega) only [↓EA, EB, Nat.reduceEqDiff, Nat.reduceAdd, Nat.reduceLeDiff, Nat.reduceMul, ↓reduceIte, reduceCtorEq, newCells, bslV, eq_self, *]))
      exact ⟨S, Hf.out.1, Hf.out.2, rfl⟩
  · have e1 : (M.take 1).length = min 1 M.length := List.length_take ..
    have e2 : M.take 1 ++ M.drop (M.take 1).length = M := by
      rcases M with _ | ⟨x, M⟩
      · rfl
      · rfl
    refine ⟨by rw [e2, hset], ?_, ?_, ?_, rfl, rfl, rfl, rfl, ?_⟩
    · rcases M with _ | ⟨x, M⟩
      · exact .inl rfl
      · exact .inr ⟨by simp, by simp⟩
    · rcases M with _ | ⟨x, M⟩
      · exact List.Perm.refl _
      · exact List.Perm.refl _
    · rcases M with _ | ⟨x, M⟩
      · exact List.Pairwise.nil
      · exact List.pairwise_singleton _ _
    · have : max 1 (M.take 1).length = 1 := by omega
      rw [this]; rfl
theorem callW_capK {g : FuncId} {c : FnC} (hf : E g = .text c) (a b : Array Value) (args : List Value) (h : Heap) : callW E (.func (.func g) a b) args h = callW E (.func (.func g) #[] #[]) (a.toList ++ args ++ b.toList) h := by
  rw [callW_func hf, callW_text hf]
theorem sortStable (hE : Laid E) {h0 h : Heap} {b n cap : Nat} {M : List Int} {key : Int → Int} {cv : Value} (hb : h[b]? = some (icells M)) (hp : Pre h0 h) (hbm : h0.length ≤ b) (hc : CmpOK E h0 cv key n) (hin : ∀ x ∈ M, 0 ≤ x ∧ x < n) (hpre : M.Pairwise fun x y => key x = key y → x < y) (hfew : M.length < 20) {W : Nat → Prop} (hW : W b) :
    WX W (callW E (.func (.func n_slices_SortStableFunc_int_int) #[] #[]) [.slice (some ⟨b, 0, none⟩) M.length cap, cv] h) (fun _ h' => ∃ M', M'.Perm M ∧ M'.Pairwise (leK key) ∧ h' = h.set b (icells M')) := by
  have hst : WX W (callW E (.func (.func n_slices_stableCmpFunc_int) #[] #[]) [.slice (some ⟨b, 0, none⟩) M.length cap, .int .i64 M.length, cv] h) (fun _ h' => ∃ M', M'.Perm M ∧ M'.Pairwise (leK key) ∧ h' = h.set b (icells M')) := by
    have hi := insSort hE (P := []) (M := M) (T := []) (cap := cap) (by rw [List.nil_append, List.append_nil]; exact hb) hp hbm hc hin hpre (by simp; omega) hW
    simp only [List.nil_append, List.append_nil, List.length_nil, Int.natCast_zero, Int.zero_add] at hi
    refine fn_all hE.slices_stableCmpFunc_int rfl (by simp) ?_
    simp only [List.nil_append, List.cons_append, argsF]
    have hn : (M.length : Int) < 20 := by omega
    have Hx := Hid.mk (And.intro hc (And.intro hin (And.intro hpre hb)))
    clear hc hin hpre hb
    (repeat' (first | (with_reducible refine A1 (fun _ => ?_) (fun _ => ?_) <;> try (exfalso; omega)) | (with_reducible refine A2 (fun _ => ?_) (fun _ => ?_) <;> try (exfalso; omega)) | (with_reducible refine A3 (fun _ => ?_) (fun _ => ?_) <;> try (exfalso; omega)) | refine A4 (fun _ => ?_) (fun _ => ?_) | refine A5 (fun _ => ?_) (fun _ => ?_) | refine A6 (fun _ => ?_) (fun _ => ?_) | simp -dsimp (disch := omega) only [↓EA, EB, Nat.reduceEqDiff, Nat.reduceAdd, Nat.reduceLeDiff, Nat.reduceMul, ↓reduceIte, reduceCtorEq, newCells, bslV, eq_self, *]))
    refine WO.loop (fun (_ : Unit) fr h' => h' = h ∧ get fr 0 = .slice (some ⟨b, 0, none⟩) M.length cap ∧ get fr 1 = .int .i64 M.length ∧ get fr 2 = cv ∧ get fr 6 = .int .i64 20 ∧ get fr 7 = .int .i64 0 ∧ get fr 8 = .int .i64 20) (fun _ => 0) ?_ () ⟨rfl, rfl, rfl, rfl, rfl, rfl, rfl⟩
    rintro _ fr h' ⟨rfl, g0, g1, g2, g6, g7, g8⟩
    unfold c_slices_stableCmpFunc_int_l0
    (repeat' (first | (with_reducible refine A1 (fun _ => ?_) (fun _ => ?_) <;> try (exfalso; omega)) | (with_reducible refine A2 (fun _ => ?_) (fun _ => ?_) <;> try (exfalso; omega)) | (with_reducible refine A3 (fun _ => ?_) (fun _ => ?_) <;> try (exfalso; omega)) | refine A4 (fun _ => ?_) (fun _ => ?_) | refine A5 (fun _ => ?_) (fun _ => ?_) | refine A6 (fun _ => ?_) (fun _ => ?_) | simp -dsimp (disch := omega) only [↓EA, EB, Nat.reduceEqDiff, Nat.reduceAdd, Nat.reduceLeDiff, Nat.reduceMul, ↓reduceIte, reduceCtorEq, newCells, bslV, eq_self, *]))
    refine WX.mono hi (fun b hb => hb) fun v h2 ⟨M', p1, p2, p3⟩ => ?_
    rw [List.append_nil] at p3
    have Hp := Hid.mk (And.intro p1 (And.intro p2 p3))
    clear p1 p2 p3
    (repeat' (first | (with_reducible refine A1 (fun _ => ?_) (fun _ => ?_) <;> try (exfalso; omega)) | (with_reducible refine A2 (fun _ => ?_) (fun _ => ?_) <;> try (exfalso; omega)) | (with_reducible refine A3 (fun _ => ?_) (fun _ => ?_) <;> try (exfalso; omega)) | refine A4 (fun _ => ?_) (fun _ => ?_) | refine A5 (fun _ => ?_) (fun _ => ?_) | refine A6 (fun _ => ?_) (fun _ => ?_) | simp -dsimp (disch := omega) only [↓EA, EB, Nat.reduceEqDiff, Nat.reduceAdd, Nat.reduceLeDiff, Nat.reduceMul, ↓reduceIte, reduceCtorEq, newCells, bslV, eq_self, *]))
    refine WO.loop (fun (_ : Unit) fr h' => h' = h2 ∧ get fr 1 = .int .i64 M.length ∧ get fr 6 = .int .i64 20) (fun _ => 0) ?_ () ⟨rfl, rfl, rfl⟩
    rintro _ fr h3 ⟨rfl, g1, g6⟩
    unfold c_slices_stableCmpFunc_int_l2
    (repeat' (first | (with_reducible refine A1 (fun _ => ?_) (fun _ => ?_) <;> try (exfalso; omega)) | (with_reducible refine A2 (fun _ => ?_) (fun _ => ?_) <;> try (exfalso; omega)) | (with_reducible refine A3 (fun _ => ?_) (fun _ => ?_) <;> try (exfalso; omega)) | refine A4 (fun _ => ?_) (fun _ => ?_) | refine A5 (fun _ => ?_) (fun _ => ?_) | refine A6 (fun _ => ?_) (fun _ => ?_) | simp -dsimp (disch := omega) only [↓EA, EB, Nat.reduceEqDiff, Nat.reduceAdd, Nat.reduceLeDiff, Nat.reduceMul, ↓reduceIte, reduceCtorEq, newCells, bslV, eq_self, *]))
    exact ⟨M', Hp.out⟩
  refine fn_all hE.slices_SortStableFunc_int_int rfl (by simp) ?_
  simp only [List.nil_append, List.cons_append, argsF]
  have Hx := Hid.mk (And.intro hc (And.intro hin (And.intro hpre hb)))
  clear hc hin hpre hb
  (repeat' (first | (with_reducible refine A1 (fun _ => ?_) (fun _ => ?_) <;> try (exfalso; omega)) | (with_reducible refine A2 (fun _ => ?_) (fun _ => ?_) <;> try (exfalso; omega)) | (with_reducible refine A3 (fun _ => ?_) (fun _ => ?_) <;> try (exfalso; omega)) | refine A4 (fun _ => ?_) (fun _ => ?_) | refine A5 (fun _ => ?_) (fun _ => ?_) | refine A6 (fun _ => ?_) (fun _ => ?_) | simp -dsimp (disch := omega) only [↓EA, EB, Nat.reduceEqDiff, Nat.reduceAdd, Nat.reduceLeDiff, Nat.reduceMul, ↓reduceIte, reduceCtorEq, newCells, bslV, eq_self, *]))
  refine WX.mono hst (fun b hb => hb) fun v h2 q => ?_
  have Hq := Hid.mk q
  clear q
  (repeat' (first | (with_reducible refine A1 (fun _ => ?_) (fun _ => ?_) <;> try (exfalso; omega)) | (with_reducible refine A2 (fun _ => ?_) (fun _ => ?_) <;> try (exfalso; omega)) | (with_reducible refine A3 (fun _ => ?_) (fun _ => ?_) <;> try (exfalso; omega)) | refine A4 (fun _ => ?_) (fun _ => ?_) | refine A5 (fun _ => ?_) (fun _ => ?_) | refine A6 (fun _ => ?_) (fun _ => ?_) | simp -dsimp (disch := omega) only [↓EA, EB, Nat.reduceEqDiff, Nat.reduceAdd, Nat.reduceLeDiff, Nat.reduceMul, ↓reduceIte, reduceCtorEq, newCells, bslV, eq_self, *]))
  exact Hq.out
theorem range_atI {n : Nat} (i : Nat) (hi : i < n) : atI ((List.range n).map Int.ofNat) (i : Int) = i := by
  rw [atI_nat (by simpa using hi)]; simp
def upto (i n : Nat) : List Int := (List.range i).map Int.ofNat ++ List.replicate (n - i) 0
theorem upto_len {i n : Nat} (h : i ≤ n) : (upto i n).length = n := by simp [upto]; omega
theorem upto_set {i n : Nat} (h : i < n) : (upto i n).set i (i : Int) = upto (i + 1) n := by
  unfold upto
  rw [List.set_append_right _ _ (by simp), List.length_map, List.length_range, Nat.sub_self, show n - i = (n - (i + 1)) + 1 by omega, List.replicate_succ, List.set_cons_zero, List.range_succ, List.map_append]
  simp
def ltR (jobs : List Job) (a b : Nat) : Prop := (atI jobs (a : Int)).release < (atI jobs (b : Int)).release ∨ ((atI jobs (a : Int)).release = (atI jobs (b : Int)).release ∧ a < b)
end Go.L.Try
namespace Go.L.Try
open Go Go.L
variable {E : Env}
def u64in (x : Int) : Prop := 0 ≤ x ∧ x < 18446744073709551616
theorem bin_and32 {q : EqK} {a : Int} (h1 : 0 ≤ a) (h2 : a < 18446744073709551616) : binOp .and q (.int .u64 a) (.int .u64 4294967295) = some (.int .u64 (a % 4294967296)) := by
  obtain ⟨n, rfl⟩ := Int.eq_ofNat_of_zero_le h1
  have hn : n < 18446744073709551616 := by omega
  have e : ((BitVec.ofInt 64 (n : Int)) &&& (BitVec.ofInt 64 4294967295)).toNat = n % 4294967296 := by
    have e1 : BitVec.ofInt 64 (n : Int) = BitVec.ofNat 64 n := by simp
    have e2 : BitVec.ofInt 64 4294967295 = BitVec.ofNat 64 4294967295 := by decide
    rw [e1, e2, BitVec.toNat_and, BitVec.toNat_ofNat, BitVec.toNat_ofNat, Nat.mod_eq_of_lt hn]
    exact Nat.and_two_pow_sub_one_eq_mod n 32
  have e3 : binOp .and q (.int .u64 (n : Int)) (.int .u64 4294967295) = some (.int .u64 (IntKind.u64.wrap (((BitVec.ofInt 64 (n : Int)) &&& (BitVec.ofInt 64 4294967295)).toNat : Nat))) := by simp only [binOp, intOp, if_true]; rfl
  rw [e3, e, wrap_u64 (by omega) (by omega)]; simp
theorem bin_shr32 {q : EqK} {a : Int} (h1 : 0 ≤ a) : binOp .shr q (.int .u64 a) (.int .u64 32) = some (.int .u64 (a / 4294967296)) := by
  simp only [binOp, intOp]
  rw [if_neg (by decide), Int.fdiv_eq_ediv_of_nonneg _ (by decide)]; rfl
theorem wrap_mod {x : Int} : IntKind.u64.wrap x = x % 18446744073709551616 := by simp [IntKind.wrap, IntKind.bits, IntKind.signed]
theorem mulParts (a b : Int) (ha : u64in a) (hb : u64in b) :
    let a0 := a % 4294967296; let a1 := a / 4294967296; let b0 := b % 4294967296; let b1 := b / 4294967296
    (0 ≤ a0 * b0 ∧ a0 * b0 ≤ 18446744065119617025) ∧ (0 ≤ a1 * b0 ∧ a1 * b0 ≤ 18446744065119617025) ∧ (0 ≤ a0 * b1 ∧ a0 * b1 ≤ 18446744065119617025) ∧ (0 ≤ a1 * b1 ∧ a1 * b1 ≤ 18446744065119617025) ∧
    a * b = a1 * b1 * 18446744073709551616 + (a1 * b0 + a0 * b1) * 4294967296 + a0 * b0 := by
  intro a0 a1 b0 b1
  unfold u64in at ha hb
  have k : ∀ x y : Int, 0 ≤ x → x ≤ 4294967295 → 0 ≤ y → y ≤ 4294967295 → 0 ≤ x * y ∧ x * y ≤ 18446744065119617025 := fun x y h1 h2 h3 h4 =>
    ⟨Int.mul_nonneg h1 h3, by have := Int.mul_le_mul h2 h4 h3 (by decide : (0:Int) ≤ 4294967295); omega⟩
  have ha0 : 0 ≤ a0 ∧ a0 ≤ 4294967295 := by omega
  have ha1 : 0 ≤ a1 ∧ a1 ≤ 4294967295 := by omega
  have hb0 : 0 ≤ b0 ∧ b0 ≤ 4294967295 := by omega
  have hb1 : 0 ≤ b1 ∧ b1 ≤ 4294967295 := by omega
  refine ⟨k _ _ ha0.1 ha0.2 hb0.1 hb0.2, k _ _ ha1.1 ha1.2 hb0.1 hb0.2, k _ _ ha0.1 ha0.2 hb1.1 hb1.2, k _ _ ha1.1 ha1.2 hb1.1 hb1.2, ?_⟩
  have ea : a = a1 * 4294967296 + a0 := by omega
  have eb : b = b1 * 4294967296 + b0 := by omega
  generalize a0 = x0 at *
  generalize a1 = x1 at *
  generalize b0 = y0 at *
  generalize b1 = y1 at *
  subst ea eb
  grind
theorem mul64 (hE : Laid E) (h : Heap) {a b : Int} (ha : u64in a) (hb : u64in b) :
    callW E (.func (.func n_math_bits_Mul64) #[] #[]) [.int .u64 a, .int .u64 b] h = some (.tuple #[.int .u64 (a * b / 18446744073709551616), .int .u64 (a * b % 18446744073709551616)], h, []) := by
  have hp := mulParts a b ha hb
  dsimp only at hp
  obtain ⟨h00, h10, h01, h11, he⟩ := hp
  have He := Hid.mk he
  unfold u64in at ha hb
  clear he
  have m0 := Int.emod_nonneg a (by decide : (4294967296 : Int) ≠ 0)
  have m1 := Int.emod_nonneg b (by decide : (4294967296 : Int) ≠ 0)
  refine fn_same hE.math_bits_Mul64 rfl (by simp) ?_
  simp only [argsF]
  (repeat' (first | (with_reducible refine A1 (fun _ => ?_) (fun _ => ?_) <;> try (exfalso; omega)) | (with_reducible refine A2 (fun _ => ?_) (fun _ => ?_) <;> try (exfalso; omega)) | (with_reducible refine A3 (fun _ => ?_) (fun _ => ?_) <;> try (exfalso; omega)) | refine A4 (fun _ => ?_) (fun _ => ?_) | refine A5 (fun _ => ?_) (fun _ => ?_) | refine A6 (fun _ => ?_) (fun _ => ?_) | simp -dsimp (disch := omega) only [↓EA, EB, Nat.reduceEqDiff, Nat.reduceAdd, Nat.reduceLeDiff, Nat.reduceMul, ↓reduceIte, reduceCtorEq, newCells, bslV, eq_self, *, bin_and32, bin_shr32, wrap_mod]))
  rw [He.out]
  generalize a / 4294967296 * (b / 4294967296) = p11 at *
  generalize a / 4294967296 * (b % 4294967296) = p10 at *
  generalize a % 4294967296 * (b / 4294967296) = p01 at *
  generalize a % 4294967296 * (b % 4294967296) = p00 at *
  have e : p11 + (p10 + p00 / 4294967296) / 4294967296 + ((p10 + p00 / 4294967296) % 4294967296 + p01) / 4294967296 = (p11 * 18446744073709551616 + (p10 + p01) * 4294967296 + p00) / 18446744073709551616 := by omega
  rw [e]
theorem numMul (hE : Laid E) (h : Heap) {a b : Int} (ha : u64in a) (hb : u64in b) :
    callW E (.func (.func n_num_Mul) #[] #[]) [.int .u64 a, .int .u64 b] h = some (if a * b < 18446744073709551616 then .tuple #[.int .u64 (a * b), .bool true] else .tuple #[.int .u64 0, .bool false], h, []) := by
  have hmul := mul64 hE h ha hb
  have hpos : 0 ≤ a * b := Int.mul_nonneg ha.1 hb.1
  generalize a * b = c at *
  refine fn_same hE.num_Mul rfl (by simp) ?_
  simp only [argsF]
  have hm : c < 18446744073709551616 → c % 18446744073709551616 = c := fun h => by omega
  have Hm := Hid.mk hm
  clear hm
  (repeat' (first | (with_reducible refine A1 (fun _ => ?_) (fun _ => ?_) <;> try (exfalso; omega)) | (with_reducible refine A2 (fun _ => ?_) (fun _ => ?_) <;> try (exfalso; omega)) | (with_reducible refine A3 (fun _ => ?_) (fun _ => ?_) <;> try (exfalso; omega)) | refine A4 (fun _ => ?_) (fun _ => ?_) | refine A5 (fun _ => ?_) (fun _ => ?_) | refine A6 (fun _ => ?_) (fun _ => ?_) | simp -dsimp (disch := omega) only [↓EA, EB, Nat.reduceEqDiff, Nat.reduceAdd, Nat.reduceLeDiff, Nat.reduceMul, ↓reduceIte, reduceCtorEq, newCells, bslV, eq_self, *]))
  · rw [if_neg (by omega)]; exact ⟨rfl, rfl⟩
  · rw [if_pos (by omega), Hm.out (by omega)]; exact ⟨rfl, rfl⟩
end Go.L.Try
namespace Go.L.Try
open Go Go.L
variable {E : Env}
def sat (x : Int) : Int := if x < 18446744073709551616 then x else 18446744073709551615
def ceilP (a b : Int) : Int := if b = 0 then 0 else (a + b - 1) / b
theorem ceil_eq {a b : Int} (ha : 0 ≤ a) (hb : 0 < b) : (a + b - 1) / b = if 0 < a % b then a / b + 1 else a / b := by
  have h := Int.emod_add_mul_ediv a b
  have h1 := Int.emod_nonneg a (by omega : b ≠ 0)
  have h2 := Int.emod_lt_of_pos a hb
  split
  · have e : a + b - 1 = (a % b - 1) + b * (a / b + 1) := by rw [Int.mul_add, Int.mul_one]; omega
    rw [e, Int.add_mul_ediv_left _ _ (by omega), Int.ediv_eq_zero_of_lt (by omega) (by omega)]; omega
  · have e : a + b - 1 = (b - 1) + b * (a / b) := by omega
    rw [e, Int.add_mul_ediv_left _ _ (by omega), Int.ediv_eq_zero_of_lt (by omega) (by omega)]; omega
theorem refAdd (hE : Laid E) (h : Heap) {a b : Int} (ha : u64in a) (hb : u64in b) :
    callW E (.func (.func n_ref01_Add) #[] #[]) [.int .u64 a, .int .u64 b] h = some (if a + b < 18446744073709551616 then .agg #[.int .u64 (a + b), .bool true] else .agg #[.int .u64 0, .bool false], h, []) := by
  unfold u64in at ha hb
  refine fn_same hE.ref01_Add rfl (by simp) ?_
  simp only [argsF]
  (repeat' (first | (with_reducible refine A1 (fun _ => ?_) (fun _ => ?_) <;> try (exfalso; omega)) | (with_reducible refine A2 (fun _ => ?_) (fun _ => ?_) <;> try (exfalso; omega)) | (with_reducible refine A3 (fun _ => ?_) (fun _ => ?_) <;> try (exfalso; omega)) | refine A4 (fun _ => ?_) (fun _ => ?_) | refine A5 (fun _ => ?_) (fun _ => ?_) | refine A6 (fun _ => ?_) (fun _ => ?_) | simp -dsimp (disch := omega) only [↓EA, EB, Nat.reduceEqDiff, Nat.reduceAdd, Nat.reduceLeDiff, Nat.reduceMul, ↓reduceIte, reduceCtorEq, newCells, bslV, eq_self, *]))
  · rw [if_neg (by omega)]; exact ⟨rfl, rfl⟩
  · rw [if_pos (by omega)]; exact ⟨rfl, rfl⟩
theorem refMul (hE : Laid E) (h : Heap) {a b : Int} (ha : u64in a) (hb : u64in b) :
    callW E (.func (.func n_ref01_Mul) #[] #[]) [.int .u64 a, .int .u64 b] h = some (if a * b < 18446744073709551616 then .agg #[.int .u64 (a * b), .bool true] else .agg #[.int .u64 0, .bool false], h, []) := by
  unfold u64in at ha hb
  refine fn_same hE.ref01_Mul rfl (by simp) ?_
  have hq : (18446744073709551615 : Int).tdiv b = 18446744073709551615 / b := Int.tdiv_eq_ediv_of_nonneg (by decide)
  have hbound : 0 ≤ (18446744073709551615 : Int) / b ∧ (18446744073709551615 : Int) / b < 18446744073709551616 := ⟨Int.ediv_nonneg (by decide) hb.1, by have := Int.ediv_le_self b (by decide : (0 : Int) ≤ 18446744073709551615); omega⟩
  have hpos : 0 ≤ a * b := Int.mul_nonneg ha.1 hb.1
  have hmod : a * b < 18446744073709551616 → a * b % 18446744073709551616 = a * b := fun h => Int.emod_eq_of_lt hpos h
  have hle : 0 < b → (a ≤ 18446744073709551615 / b ↔ a * b ≤ 18446744073709551615) := fun h => Int.le_ediv_iff_mul_le h
  have Hle := Hid.mk hle
  have Hmod := Hid.mk hmod
  clear hle hmod
  simp only [argsF]
  (repeat' (first | (with_reducible refine A1 (fun _ => ?_) (fun _ => ?_) <;> try (exfalso; omega)) | (with_reducible refine A2 (fun _ => ?_) (fun _ => ?_) <;> try (exfalso; omega)) | (with_reducible refine A3 (fun _ => ?_) (fun _ => ?_) <;> try (exfalso; omega)) | refine A4 (fun _ => ?_) (fun _ => ?_) | refine A5 (fun _ => ?_) (fun _ => ?_) | refine A6 (fun _ => ?_) (fun _ => ?_) | simp -dsimp (disch := omega) only [↓EA, EB, Nat.reduceEqDiff, Nat.reduceAdd, Nat.reduceLeDiff, Nat.reduceMul, ↓reduceIte, reduceCtorEq, newCells, bslV, eq_self, *, wrap_mod, hq]))
  · have := Hle.out (by omega)
    rw [if_neg (by omega)]; exact ⟨rfl, rfl⟩
  · have := Hle.out (by omega)
    rw [if_pos (by omega), Hmod.out (by omega)]; exact ⟨rfl, rfl⟩
  · have : b = 0 := by omega
    subst this
    simp; rfl
theorem refCeil (hE : Laid E) (h : Heap) {a b : Int} (ha : u64in a) (hb : u64in b) :
    callW E (.func (.func n_ref01_Ceil) #[] #[]) [.int .u64 a, .int .u64 b] h = some (if b = 0 then .agg #[.int .u64 0, .bool false] else .agg #[.int .u64 ((a + b - 1) / b), .bool true], h, []) := by
  unfold u64in at ha hb
  refine fn_same hE.ref01_Ceil rfl (by simp) ?_
  have hq : a.tdiv b = a / b := Int.tdiv_eq_ediv_of_nonneg ha.1
  have hm : a.tmod b = a % b := Int.tmod_eq_emod_of_nonneg ha.1
  have hbound : 0 ≤ a / b ∧ a / b ≤ a := ⟨Int.ediv_nonneg ha.1 hb.1, Int.ediv_le_self b ha.1⟩
  have hmb : 0 < b → 0 ≤ a % b ∧ a % b < b := fun h => ⟨Int.emod_nonneg a (by omega), Int.emod_lt_of_pos a h⟩
  have Hce := Hid.mk (fun h => ceil_eq (a := a) (b := b) ha.1 h)
  have h64 : (a / b) % 18446744073709551616 = a / b := Int.emod_eq_of_lt hbound.1 (by omega)
  have Hlt : Hid (0 < a % b → 0 < b → a / b + 1 < 18446744073709551616) := ⟨fun h1 h2 => by
    by_cases h3 : b < 2
    · have : b = 1 := by omega
      subst this; simp at h1
    · have e1 := Int.mul_le_mul_of_nonneg_left (show (2 : Int) ≤ b by omega) hbound.1
      have e2 := Int.ediv_mul_le a (show b ≠ 0 by omega)
      omega⟩
  simp only [argsF]
  (repeat' (first | (with_reducible refine A1 (fun _ => ?_) (fun _ => ?_) <;> try (exfalso; omega)) | (with_reducible refine A2 (fun _ => ?_) (fun _ => ?_) <;> try (exfalso; omega)) | (with_reducible refine A3 (fun _ => ?_) (fun _ => ?_) <;> try (exfalso; omega)) | refine A4 (fun _ => ?_) (fun _ => ?_) | refine A5 (fun _ => ?_) (fun _ => ?_) | refine A6 (fun _ => ?_) (fun _ => ?_) | simp -dsimp (disch := omega) only [↓EA, EB, Nat.reduceEqDiff, Nat.reduceAdd, Nat.reduceLeDiff, Nat.reduceMul, ↓reduceIte, reduceCtorEq, newCells, bslV, eq_self, *, wrap_mod, hq, hm, h64]))
  · rw [Hce.out (by omega), if_pos (by omega), Int.emod_eq_of_lt (by omega) (Hlt.out (by omega) (by omega))]
  · rw [Hce.out (by omega), if_neg (by omega)]
theorem refEnd (hE : Laid E) (h : Heap) {a : Int} {b : Bool} :
    callW E (.func (.func n_ref01_End) #[] #[]) [.agg #[.int .u64 a, .bool b]] h = some (.int .u64 (if b = true then a else 18446744073709551615), h, []) := by
  refine fn_same hE.ref01_End rfl (by simp) ?_
  simp only [argsF]
  cases b
  · (repeat' (first | (with_reducible refine A1 (fun _ => ?_) (fun _ => ?_) <;> try (exfalso; omega)) | (with_reducible refine A2 (fun _ => ?_) (fun _ => ?_) <;> try (exfalso; omega)) | (with_reducible refine A3 (fun _ => ?_) (fun _ => ?_) <;> try (exfalso; omega)) | refine A4 (fun _ => ?_) (fun _ => ?_) | refine A5 (fun _ => ?_) (fun _ => ?_) | refine A6 (fun _ => ?_) (fun _ => ?_) | simp -dsimp (disch := omega) only [↓EA, EB, Nat.reduceEqDiff, Nat.reduceAdd, Nat.reduceLeDiff, Nat.reduceMul, ↓reduceIte, reduceCtorEq, newCells, bslV, eq_self, *]))
  · (repeat' (first | (with_reducible refine A1 (fun _ => ?_) (fun _ => ?_) <;> try (exfalso; omega)) | (with_reducible refine A2 (fun _ => ?_) (fun _ => ?_) <;> try (exfalso; omega)) | (with_reducible refine A3 (fun _ => ?_) (fun _ => ?_) <;> try (exfalso; omega)) | refine A4 (fun _ => ?_) (fun _ => ?_) | refine A5 (fun _ => ?_) (fun _ => ?_) | refine A6 (fun _ => ?_) (fun _ => ?_) | simp -dsimp (disch := omega) only [↓EA, EB, Nat.reduceEqDiff, Nat.reduceAdd, Nat.reduceLeDiff, Nat.reduceMul, ↓reduceIte, reduceCtorEq, newCells, bslV, eq_self, *]))
theorem numCeil (hE : Laid E) (h : Heap) {a b : Int} (ha : u64in a) (hb : u64in b) :
    callW E (.func (.func n_num_Ceil) #[] #[]) [.int .u64 a, .int .u64 b] h = some (if b = 0 then .tuple #[.int .u64 0, .bool false] else .tuple #[.int .u64 ((a + b - 1) / b), .bool true], h, []) := by
  unfold u64in at ha hb
  refine fn_same hE.num_Ceil rfl (by simp) ?_
  have hq : a.tdiv b = a / b := Int.tdiv_eq_ediv_of_nonneg ha.1
  have hm : a.tmod b = a % b := Int.tmod_eq_emod_of_nonneg ha.1
  have hbound : 0 ≤ a / b ∧ a / b ≤ a := ⟨Int.ediv_nonneg ha.1 hb.1, Int.ediv_le_self b ha.1⟩
  have hmb : 0 < b → 0 ≤ a % b ∧ a % b < b := fun h => ⟨Int.emod_nonneg a (by omega), Int.emod_lt_of_pos a h⟩
  have Hce := Hid.mk (fun h => ceil_eq (a := a) (b := b) ha.1 h)
  have h64 : (a / b) % 18446744073709551616 = a / b := Int.emod_eq_of_lt hbound.1 (by omega)
  have Hlt : Hid (0 < a % b → 0 < b → a / b + 1 < 18446744073709551616) := ⟨fun h1 h2 => by
    by_cases h3 : b < 2
    · have : b = 1 := by omega
      subst this; simp at h1
    · have e1 := Int.mul_le_mul_of_nonneg_left (show (2 : Int) ≤ b by omega) hbound.1
      have e2 := Int.ediv_mul_le a (show b ≠ 0 by omega)
      omega⟩
  simp only [argsF]
  (repeat' (first | (with_reducible refine A1 (fun _ => ?_) (fun _ => ?_) <;> try (exfalso; omega)) | (with_reducible refine A2 (fun _ => ?_) (fun _ => ?_) <;> try (exfalso; omega)) | (with_reducible refine A3 (fun _ => ?_) (fun _ => ?_) <;> try (exfalso; omega)) | refine A4 (fun _ => ?_) (fun _ => ?_) | refine A5 (fun _ => ?_) (fun _ => ?_) | refine A6 (fun _ => ?_) (fun _ => ?_) | simp -dsimp (disch := omega) only [↓EA, EB, Nat.reduceEqDiff, Nat.reduceAdd, Nat.reduceLeDiff, Nat.reduceMul, ↓reduceIte, reduceCtorEq, newCells, bslV, eq_self, *, wrap_mod, hq, hm, h64]))
  · rw [Hce.out (by omega), if_pos (by omega), Int.emod_eq_of_lt (by omega) (Hlt.out (by omega) (by omega))]
  · rw [Hce.out (by omega), if_neg (by omega)]
end Go.L.Try
namespace Go.L.Try
open Go Go.L
variable {E : Env}
def addE : List Value → Heap → Option (Value × Heap × List Nat)
  | [.int .u64 a, .int .u64 b, .int .u64 c], h => if (0 ≤ a ∧ a < 18446744073709551616) ∧ (0 ≤ b ∧ b < 18446744073709551616) ∧ 0 ≤ c ∧ c ≤ 1 then some (.tuple #[.int .u64 ((a + b + c) % 18446744073709551616), .int .u64 ((a + b + c) / 18446744073709551616)], h, []) else none
  | _, _ => none
structure LaidAdd (E : Env) : Prop where
  add64 : E n_math_bits_Add64 = .ext addE
theorem callW_ext {g : FuncId} {e : List Value → Heap → Option (Value × Heap × List Nat)} (hf : E g = .ext e) (args : List Value) (h : Heap) : callW E (.func (.func g) #[] #[]) args h = e args h := by
  rw [callW_eq]; simp [callG, hf, callF]
theorem add64 (hX : LaidAdd E) (h : Heap) {a b : Int} (ha : u64in a) (hb : u64in b) :
    callW E (.func (.func n_math_bits_Add64) #[] #[]) [.int .u64 a, .int .u64 b, .int .u64 0] h = some (.tuple #[.int .u64 ((a + b) % 18446744073709551616), .int .u64 ((a + b) / 18446744073709551616)], h, []) := by
  rw [callW_ext hX.add64]
  unfold u64in at ha hb
  simp only [addE]
  rw [if_pos ⟨ha, hb, by decide, by decide⟩, Int.add_zero]
theorem numAdd (hE : Laid E) (hX : LaidAdd E) (h : Heap) {a b : Int} (ha : u64in a) (hb : u64in b) :
    callW E (.func (.func n_num_Add) #[] #[]) [.int .u64 a, .int .u64 b] h = some (if a + b < 18446744073709551616 then .tuple #[.int .u64 (a + b), .bool true] else .tuple #[.int .u64 0, .bool false], h, []) := by
  have hadd := add64 hX h ha hb
  unfold u64in at ha hb
  refine fn_same hE.num_Add rfl (by simp) ?_
  simp only [argsF]
  have hm : a + b < 18446744073709551616 → (a + b) % 18446744073709551616 = a + b := fun h => by omega
  have Hm := Hid.mk hm
  clear hm
  (repeat' (first | (with_reducible refine A1 (fun _ => ?_) (fun _ => ?_) <;> try (exfalso; omega)) | (with_reducible refine A2 (fun _ => ?_) (fun _ => ?_) <;> try (exfalso; omega)) | (with_reducible refine A3 (fun _ => ?_) (fun _ => ?_) <;> try (exfalso; omega)) | refine A4 (fun _ => ?_) (fun _ => ?_) | refine A5 (fun _ => ?_) (fun _ => ?_) | refine A6 (fun _ => ?_) (fun _ => ?_) | simp -dsimp (disch := omega) only [↓EA, EB, Nat.reduceEqDiff, Nat.reduceAdd, Nat.reduceLeDiff, Nat.reduceMul, ↓reduceIte, reduceCtorEq, newCells, bslV, eq_self, *]))
  · rw [if_neg (by omega)]; exact ⟨rfl, rfl⟩
  · rw [if_pos (by omega), Hm.out (by omega)]; exact ⟨rfl, rfl⟩
theorem numTimes (hE : Laid E) (h : Heap) {a b : Int} (ha : u64in a) (hb : u64in b) :
    callW E (.func (.func n_num_Times) #[] #[]) [.int .u64 a, .int .u64 b] h = some (.int .u64 (sat (a * b)), h, []) := by
  have hmul := numMul hE h ha hb
  unfold sat
  refine fn_same hE.num_Times rfl (by simp) ?_
  simp only [argsF]
  by_cases hc : a * b < 18446744073709551616
  · rw [if_pos hc] at hmul
    rw [if_pos hc]
    (repeat' (first | (with_reducible refine A1 (fun _ => ?_) (fun _ => ?_) <;> try (exfalso; omega)) | (with_reducible refine A2 (fun _ => ?_) (fun _ => ?_) <;> try (exfalso; omega)) | (with_reducible refine A3 (fun _ => ?_) (fun _ => ?_) <;> try (exfalso; omega)) | refine A4 (fun _ => ?_) (fun _ => ?_) | refine A5 (fun _ => ?_) (fun _ => ?_) | refine A6 (fun _ => ?_) (fun _ => ?_) | simp -dsimp (disch := omega) only [↓EA, EB, Nat.reduceEqDiff, Nat.reduceAdd, Nat.reduceLeDiff, Nat.reduceMul, ↓reduceIte, reduceCtorEq, newCells, bslV, eq_self, *]))
  · rw [if_neg hc] at hmul
    rw [if_neg hc]
    (repeat' (first | (with_reducible refine A1 (fun _ => ?_) (fun _ => ?_) <;> try (exfalso; omega)) | (with_reducible refine A2 (fun _ => ?_) (fun _ => ?_) <;> try (exfalso; omega)) | (with_reducible refine A3 (fun _ => ?_) (fun _ => ?_) <;> try (exfalso; omega)) | refine A4 (fun _ => ?_) (fun _ => ?_) | refine A5 (fun _ => ?_) (fun _ => ?_) | refine A6 (fun _ => ?_) (fun _ => ?_) | simp -dsimp (disch := omega) only [↓EA, EB, Nat.reduceEqDiff, Nat.reduceAdd, Nat.reduceLeDiff, Nat.reduceMul, ↓reduceIte, reduceCtorEq, newCells, bslV, eq_self, *]))
theorem sat_in {x : Int} (h : 0 ≤ x) : u64in (sat x) := by unfold sat u64in; split <;> omega
def encU (n : Int) : List Value := [.int .u64 n]
theorem flatU : Flat encU := fun _ => rfl
def sumU (s : Int) (l : List Int) : Int := l.foldl (fun s x => sat (s + x)) s
theorem sumU_in : ∀ {l : List Int} {s : Int}, u64in s → (∀ x ∈ l, u64in x) → u64in (sumU s l)
  | [], s, h, _ => h
  | x :: l, s, h, hl => sumU_in (l := l) (sat_in (by have := (hl x (by simp)).1; have := h.1; omega)) fun y hy => hl y (by simp [hy])
theorem sumU_most : ∀ {l : List Int}, (∀ x ∈ l, u64in x) → sumU 18446744073709551615 l = 18446744073709551615
  | [], _ => rfl
  | x :: l, hl => by
    have hx := (hl x (by simp)).1
    have e : sat (18446744073709551615 + x) = 18446744073709551615 := by unfold sat; split <;> omega
    show sumU (sat (18446744073709551615 + x)) l = _
    rw [e]; exact sumU_most fun y hy => hl y (by simp [hy])
theorem numSum (hE : Laid E) (hX : LaidAdd E) {h : Heap} {vl : Value} {l : List Int} {s : Int} (hl : Rd 1 encU h vl l) (hs : u64in s) (hin : ∀ x ∈ l, u64in x) :
    callW E (.func (.func n_num_Sum) #[] #[]) [.int .u64 s, vl] h = some (.int .u64 (sumU s l), h, []) := by
  refine fn_same hE.num_Sum rfl (by simp) ?_
  have few := hl.few
  simp only [argsF]
  (repeat' (first | (with_reducible refine A1 (fun _ => ?_) (fun _ => ?_) <;> try (exfalso; omega)) | (with_reducible refine A2 (fun _ => ?_) (fun _ => ?_) <;> try (exfalso; omega)) | (with_reducible refine A3 (fun _ => ?_) (fun _ => ?_) <;> try (exfalso; omega)) | refine A4 (fun _ => ?_) (fun _ => ?_) | refine A5 (fun _ => ?_) (fun _ => ?_) | refine A6 (fun _ => ?_) (fun _ => ?_) | simp -dsimp (disch := omega) only [↓EA, EB, Nat.reduceEqDiff, Nat.reduceAdd, Nat.reduceLeDiff, Nat.reduceMul, ↓reduceIte, reduceCtorEq, newCells, bslV, eq_self, *, hl.len]))
  refine WO.loop (fun n fr h' => h' = h ∧ n ≤ l.length ∧ get fr 0 = .int .u64 (sumU s (l.take n)) ∧ get fr 9 = vl ∧ get fr 10 = .int .i64 l.length ∧ get fr 11 = .int .i64 n) (fun n => l.length - n) ?_ 0 ⟨rfl, Nat.zero_le _, rfl, rfl, rfl, rfl⟩
  rintro n fr h' ⟨rfl, hn, g0, g9, g10, g11⟩
  have hsn : u64in (sumU s (l.take n)) := sumU_in hs fun x hx => hin x (List.mem_of_mem_take hx)
  unfold c_num_Sum_l0
  rcases Nat.lt_or_ge n l.length with hlt | hge
  · have hat : u64in (atI l (n : Int)) := hin _ (atI_mem (by omega) (by omega))
    have hadd := fun hh => numAdd hE hX hh hsn hat
    have hst : sumU s (l.take (n + 1)) = sat (sumU s (l.take n) + atI l (n : Int)) := by rw [take_snoc hlt]; simp [sumU]
    have hfin : ¬ sumU s (l.take n) + atI l (n : Int) < 18446744073709551616 → sumU s l = 18446744073709551615 := fun hc => by
      have e : l = l.take (n + 1) ++ l.drop (n + 1) := (List.take_append_drop _ _).symm
      have e2 : sumU s l = sumU (sumU s (l.take (n + 1))) (l.drop (n + 1)) := by
        unfold sumU
        rw [← List.foldl_append, ← e]
      rw [e2, hst, show sat (sumU s (l.take n) + atI l (n : Int)) = 18446744073709551615 by unfold sat; rw [if_neg hc]]
      exact sumU_most fun x hx => hin x (List.mem_of_mem_drop hx)
    have Hst := Hid.mk hst
    have Hfin := Hid.mk hfin
    clear hst hfin
    generalize sumU s (l.take n) = S at *
    by_cases hc : S + atI l (n : Int) < 18446744073709551616
    · simp only [if_pos hc] at hadd
      (repeat' (first | (with_reducible refine A1 (fun _ => ?_) (fun _ => ?_) <;> try (exfalso; omega)) | (with_reducible refine A2 (fun _ => ?_) (fun _ => ?_) <;> try (exfalso; omega)) | (with_reducible refine A3 (fun _ => ?_) (fun _ => ?_) <;> try (exfalso; omega)) | refine A4 (fun _ => ?_) (fun _ => ?_) | refine A5 (fun _ => ?_) (fun _ => ?_) | refine A6 (fun _ => ?_) (fun _ => ?_) | simp -dsimp (disch := omega) only [↓EA, EB, Nat.reduceEqDiff, Nat.reduceAdd, Nat.reduceLeDiff, Nat.reduceMul, ↓reduceIte, reduceCtorEq, newCells, bslV, eq_self, *, hl.len, hl.ixs, hl.ld, hl.ld0, hl.lda, hl.ldx, hl.ldx0, hl.ldxa, encU]))
      refine Next.mk (n + 1) ⟨rfl, by omega, ?_, rfl, rfl, rfl⟩ (by omega)
      rw [Hst.out]; unfold sat; rw [if_pos hc]; rfl
    · simp only [if_neg hc] at hadd
      (repeat' (first | (with_reducible refine A1 (fun _ => ?_) (fun _ => ?_) <;> try (exfalso; omega)) | (with_reducible refine A2 (fun _ => ?_) (fun _ => ?_) <;> try (exfalso; omega)) | (with_reducible refine A3 (fun _ => ?_) (fun _ => ?_) <;> try (exfalso; omega)) | refine A4 (fun _ => ?_) (fun _ => ?_) | refine A5 (fun _ => ?_) (fun _ => ?_) | refine A6 (fun _ => ?_) (fun _ => ?_) | simp -dsimp (disch := omega) only [↓EA, EB, Nat.reduceEqDiff, Nat.reduceAdd, Nat.reduceLeDiff, Nat.reduceMul, ↓reduceIte, reduceCtorEq, newCells, bslV, eq_self, *, hl.len, hl.ixs, hl.ld, hl.ld0, hl.lda, hl.ldx, hl.ldx0, hl.ldxa, encU]))
      rw [Hfin.out hc]
  · have e : l.take n = l := List.take_of_length_le (by omega)
    rw [e] at g0
    (repeat' (first | (with_reducible refine A1 (fun _ => ?_) (fun _ => ?_) <;> try (exfalso; omega)) | (with_reducible refine A2 (fun _ => ?_) (fun _ => ?_) <;> try (exfalso; omega)) | (with_reducible refine A3 (fun _ => ?_) (fun _ => ?_) <;> try (exfalso; omega)) | refine A4 (fun _ => ?_) (fun _ => ?_) | refine A5 (fun _ => ?_) (fun _ => ?_) | refine A6 (fun _ => ?_) (fun _ => ?_) | simp -dsimp (disch := omega) only [↓EA, EB, Nat.reduceEqDiff, Nat.reduceAdd, Nat.reduceLeDiff, Nat.reduceMul, ↓reduceIte, reduceCtorEq, newCells, bslV, eq_self, *]))
theorem refSum (hE : Laid E) {h : Heap} {vl : Value} {l : List Int} (hl : Rd 1 encU h vl l) (hin : ∀ x ∈ l, u64in x) :
    callW E (.func (.func n_ref01_Sum) #[] #[]) [vl] h = some (.int .u64 (sumU 0 l), h, []) := by
  refine fn_same hE.ref01_Sum rfl (by simp) ?_
  have few := hl.few
  simp only [argsF]
  (repeat' (first | (with_reducible refine A1 (fun _ => ?_) (fun _ => ?_) <;> try (exfalso; omega)) | (with_reducible refine A2 (fun _ => ?_) (fun _ => ?_) <;> try (exfalso; omega)) | (with_reducible refine A3 (fun _ => ?_) (fun _ => ?_) <;> try (exfalso; omega)) | refine A4 (fun _ => ?_) (fun _ => ?_) | refine A5 (fun _ => ?_) (fun _ => ?_) | refine A6 (fun _ => ?_) (fun _ => ?_) | simp -dsimp (disch := omega) only [↓EA, EB, Nat.reduceEqDiff, Nat.reduceAdd, Nat.reduceLeDiff, Nat.reduceMul, ↓reduceIte, reduceCtorEq, newCells, bslV, eq_self, *, hl.len]))
  refine WO.loop (fun n fr h' => h' = h ∧ n ≤ l.length ∧ get fr 0 = vl ∧ get fr 3 = .int .u64 (sumU 0 (l.take n)) ∧ get fr 4 = .int .i64 n) (fun n => l.length - n) ?_ 0 ⟨rfl, Nat.zero_le _, rfl, rfl, rfl⟩
  rintro n fr h' ⟨rfl, hn, g0, g3, g4⟩
  have hsn : u64in (sumU 0 (l.take n)) := sumU_in ⟨by decide, by decide⟩ fun x hx => hin x (List.mem_of_mem_take hx)
  unfold c_ref01_Sum_l0
  rcases Nat.lt_or_ge n l.length with hlt | hge
  · have hat : u64in (atI l (n : Int)) := hin _ (atI_mem (by omega) (by omega))
    have hadd := fun hh => refAdd hE hh hsn hat
    have hst : sumU 0 (l.take (n + 1)) = sat (sumU 0 (l.take n) + atI l (n : Int)) := by rw [take_snoc hlt]; simp [sumU]
    have Hst := Hid.mk hst
    clear hst
    generalize sumU 0 (l.take n) = S at *
    have hend := fun hh a b => refEnd hE hh (a := a) (b := b)
    by_cases hc : S + atI l (n : Int) < 18446744073709551616
    · simp only [if_pos hc] at hadd
      (repeat' (first | (with_reducible refine A1 (fun _ => ?_) (fun _ => ?_) <;> try (exfalso; omega)) | (with_reducible refine A2 (fun _ => ?_) (fun _ => ?_) <;> try (exfalso; omega)) | (with_reducible refine A3 (fun _ => ?_) (fun _ => ?_) <;> try (exfalso; omega)) | refine A4 (fun _ => ?_) (fun _ => ?_) | refine A5 (fun _ => ?_) (fun _ => ?_) | refine A6 (fun _ => ?_) (fun _ => ?_) | simp -dsimp (disch := omega) only [↓EA, EB, Nat.reduceEqDiff, Nat.reduceAdd, Nat.reduceLeDiff, Nat.reduceMul, ↓reduceIte, reduceCtorEq, newCells, bslV, eq_self, *, hl.len, hl.ixs, hl.ld, hl.ld0, hl.lda, hl.ldx, hl.ldx0, hl.ldxa, encU]))
      refine Next.mk (n + 1) ⟨rfl, by omega, rfl, ?_, rfl⟩ (by omega)
      rw [Hst.out]; unfold sat; rw [if_pos hc]; rfl
    · simp only [if_neg hc] at hadd
      (repeat' (first | (with_reducible refine A1 (fun _ => ?_) (fun _ => ?_) <;> try (exfalso; omega)) | (with_reducible refine A2 (fun _ => ?_) (fun _ => ?_) <;> try (exfalso; omega)) | (with_reducible refine A3 (fun _ => ?_) (fun _ => ?_) <;> try (exfalso; omega)) | refine A4 (fun _ => ?_) (fun _ => ?_) | refine A5 (fun _ => ?_) (fun _ => ?_) | refine A6 (fun _ => ?_) (fun _ => ?_) | simp -dsimp (disch := omega) only [↓EA, EB, Nat.reduceEqDiff, Nat.reduceAdd, Nat.reduceLeDiff, Nat.reduceMul, ↓reduceIte, reduceCtorEq, newCells, bslV, eq_self, *, hl.len, hl.ixs, hl.ld, hl.ld0, hl.lda, hl.ldx, hl.ldx0, hl.ldxa, encU]))
      refine Next.mk (n + 1) ⟨rfl, by omega, rfl, ?_, rfl⟩ (by omega)
      rw [Hst.out]; unfold sat; rw [if_neg hc]; rfl
  · have e : l.take n = l := List.take_of_length_le (by omega)
    rw [e] at g3
    (repeat' (first | (with_reducible refine A1 (fun _ => ?_) (fun _ => ?_) <;> try (exfalso; omega)) | (with_reducible refine A2 (fun _ => ?_) (fun _ => ?_) <;> try (exfalso; omega)) | (with_reducible refine A3 (fun _ => ?_) (fun _ => ?_) <;> try (exfalso; omega)) | refine A4 (fun _ => ?_) (fun _ => ?_) | refine A5 (fun _ => ?_) (fun _ => ?_) | refine A6 (fun _ => ?_) (fun _ => ?_) | simp -dsimp (disch := omega) only [↓EA, EB, Nat.reduceEqDiff, Nat.reduceAdd, Nat.reduceLeDiff, Nat.reduceMul, ↓reduceIte, reduceCtorEq, newCells, bslV, eq_self, *, hl.len]))
end Go.L.Try
