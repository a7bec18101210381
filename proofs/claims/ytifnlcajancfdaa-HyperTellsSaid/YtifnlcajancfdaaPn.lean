/- THE JOBS OF A PERIOD: how many, how A05, in which bounds (plain). -/
import Derived.Test.YtifnlcajancfdaaPl
import Derived.Test.YtifnlcajancfdaaPm
import Derived.Test.YtifnlcajancfdaaPh
import Derived.Test.YtifnlcajancfdaaPc
set_option linter.unusedVariables false
set_option linter.unusedSimpArgs false
set_option maxRecDepth 100000
set_option maxHeartbeats 1000000
namespace Go.L.Try
open Go Go.L
theorem Atn {T p : Int} (hT : 0 < T) (hp : 0 < p) (hd : T ∣ p) : (manyP T p : Int) = p / T := by
 exact (Int.ediv_eq_of_eq_mul_left (by omega) (Atm hT hp hd).symm).symm
def Ma (l : List Af) (p : Int) : Nat → Int
 | 0 => 0
 | i + 1 => Ma l p i + p / (atI l (i : Int)).T
theorem Aa3 {l : List Af} {p : Int} (hp : 0 < p) (hT : ∀ t ∈ l, 1 ≤ t.T ∧ t.T ∣ p ∧ t.T ≤ p) : ∀ i, i ≤ l.length → ((allH l p i).length : Int) = Ma l p i
 | 0, _ => rfl
 | i + 1, h => by
  have a := Aa3 hp hT i (by omega)
  have c := hT _ (Aj (l := l) (i := (i : Int)) (by omega) (by omega))
  show ((allH l p i ++ Jy i _ _).length : Int) = Ma l p i + _
  rw [LA, Q6, Int.natCast_add, a, Atn (by omega) hp c.2.1]
theorem Ah8 {l : List Af} {p : Int} : ∀ {i : Nat} {x : Job}, x ∈ allH l p i → ∃ t k : Nat, t < i ∧ k < manyP (atI l (t : Int)).T p ∧ x = Tx t (atI l (t : Int)) k
 | 0, x, h => by simp [allH] at h
 | i + 1, x, h => by
  rcases List.mem_append.1 h with h | h
  ·obtain ⟨t, k, d, h2, c⟩ := Ah8 h
   exact ⟨t, k, by omega, h2, c⟩
  ·obtain ⟨k, a, rfl⟩ := List.mem_map.1 h
   exact ⟨i, k, by omega, List.mem_range.1 a, rfl⟩
theorem Ah9 {l : List Af} {p : Int} (hok : ∀ t ∈ l, F6 t) (hT : ∀ t ∈ l, 1 ≤ t.T ∧ t.T ∣ p ∧ t.T ≤ p) {x : Job} (h : x ∈ allH l p l.length) : (0 ≤ x.task ∧ x.task < l.length) ∧ x.release = x.arrive ∧ (0 ≤ x.arrive ∧ x.arrive < p) ∧ (1 ≤ x.work ∧ x.work ≤ p) ∧ x.cuts = [] ∧ x.work = (atI l x.task).C := by
 obtain ⟨t, k, j, h2, rfl⟩ := Ah8 h
 have a := Aj (l := l) (i := (t : Int)) (by omega) (by omega)
 have f := hT _ a
 have c := (Sq f.1 k).1 h2
 obtain ⟨e, g⟩ := hok _ a
 simp only [Bh] at e
 unfold Jc at g
 have d : 0 ≤ (k : Int) * (atI l (t : Int)).T := Int.mul_nonneg (by omega) (by omega)
 refine ⟨⟨?_, ?_⟩, rfl, ⟨d, c⟩, ⟨?_, ?_⟩, rfl, rfl⟩
 ·show (0 : Int) ≤ (t : Int); omega
 ·show (t : Int) < l.length; omega
 ·show 1 ≤ (atI l (t : Int)).C; omega
 ·show (atI l (t : Int)).C ≤ p; omega
theorem Au9 {l : List Af} {p : Int} (hok : ∀ t ∈ l, F6 t) (hT : ∀ t ∈ l, 1 ≤ t.T ∧ t.T ∣ p ∧ t.T ≤ p) (hp : p ≤ 268435456) (hn : (allH l p l.length).length ≤ 4096) : B9 (allH l p l.length) ≤ 1099511627776 := by
 have a : B9 (allH l p l.length) ≤ Df (fun _ => 268435456) (allH l p l.length).length := Ox fun i c => by
  have := (Ah9 hok hT (Aj (l := allH l p l.length) (i := (i : Int)) (by omega) (by omega))).2.2.2.1; omega
 rw [Aew] at a
 omega
theorem Ab3 : ∀ (l : List Span) (t : Int), (Eh t l).1 - t + sumL (Eh t l).2 = sumL l
 | [], t => by simp [Eh, sumL]
 | x :: r, t => by
  unfold Eh
  split
  ·rename_i h
   have := Ab3 r x.to'
   simp only [sumL]; omega
  ·simp only [sumL]; omega
theorem Aks : ∀ (n : Nat) (l : List Span), l.length ≤ n → Yt (yN n l) = sumL l
 | 0, l, h => by
  have e : l = [] := List.length_eq_zero_iff.1 (by omega)
  subst e; rfl
 | n + 1, [], _ => rfl
 | n + 1, x :: r, h => by
  have a := Ab3 r x.to'
  have h2 := Aks n (Eh x.to' r).2 (by have := N4 r x.to'; simp only [List.length_cons] at h; omega)
  simp only [yN, Yt, sumL, h2]; omega
theorem Aey : ∀ A B : List (Int × Int), Yt (A ++ B) = Yt A + Yt B
 | [], B => by simp [Yt]
 | x :: r, B => by rw [List.cons_append, Yt, Yt, Aey r B]; omega
theorem Aco (l : List Span) : ∀ k, k ≤ (Dz l).length → E5 l k = Yt ((Dz l).take k)
 | 0, _ => rfl
 | k + 1, h => by
  have a := Aco l k (by omega)
  have e : (Dz l).getD k (0, 0) = (Dz l)[k] := by rw [List.getD_eq_getElem?_getD, List.getElem?_eq_getElem (by omega)]; rfl
  rw [List.take_succ_eq_append_getElem (by omega), Aey]
  simp only [E5, a, e, Yt]; omega
theorem Ato (l : List Span) : Am1 l = sumL l := by
 unfold Am1
 rw [Aco l _ (Nat.le_refl _), List.take_length]
 exact Aks _ _ (Nat.le_refl _)
end Go.L.Try
set_option maxHeartbeats 4000000
namespace Go.L.Try
open Go Go.L
variable {E : Env}
theorem Ay4 (hE : Ap E) (h : Aa) : ∀ (n : Nat) {a b : Int}, b.toNat ≤ n → Bz a → Bz b →
  callW E (.func (.func Il) #[] #[]) [.int .u64 a, .int .u64 b] h = some (.int .u64 (gcdI a b), h, []) := by
 intro n
 induction n with
 | zero =>
  intro a b j c f
  unfold Bz at c f
  have e : b = 0 := by omega
  subst e
  have d := Aaa a c.1
  refine Ai hE.V1 rfl (by simp) ?_
  simp only [Ah]
  rw [d]
  (repeat' simp -dsimp (disch := omega) only [↓EA, EB, Nat.reduceEqDiff, ↓reduceIte, reduceCtorEq, eq_self, *])
 | succ n ih =>
  intro a b j c f
  by_cases l : b = 0
  ·subst l
   have d := Aaa a c.1
   refine Ai hE.V1 rfl (by simp) ?_
   simp only [Ah]
   rw [d]
   (repeat' simp -dsimp (disch := omega) only [↓EA, EB, Nat.reduceEqDiff, ↓reduceIte, reduceCtorEq, eq_self, *])
  ·unfold Bz at c f
   have o : a.tmod b = a % b := Int.tmod_eq_emod_of_nonneg c.1
   have m := Int.emod_nonneg a (show b ≠ 0 by omega)
   have h2 := Int.emod_lt_of_pos a (show 0 < b by omega)
   have q := ih (a := b) (b := a % b) (by omega) (by unfold Bz; omega) (by unfold Bz; omega)
   rw [Ahg a b c.1 (by omega)] at q
   refine Ai hE.V1 rfl (by simp) ?_
   simp only [Ah]
   clear ih
   generalize gcdI a b = g at *
   (repeat' simp -dsimp (disch := omega) only [↓EA, EB, Nat.reduceEqDiff, ↓reduceIte, reduceCtorEq, eq_self, *])
theorem Ay3 (hE : Ap E) (h : Aa) {a b : Int} (ha : Bz a) (hb : Bz b) (ha0 : 0 < a) (hb0 : 0 < b) :
  callW E (.func (.func Ko) #[] #[]) [.int .u64 a, .int .u64 b] h = some (if lcmI a b < 18446744073709551616 then .agg #[.int .u64 (lcmI a b), .bool true] else .agg #[.int .u64 0, .bool false], h, []) := by
 have m := Am9 a b ha0 hb.1
 have l : 0 ≤ a / gcdI a b := Int.ediv_nonneg ha.1 (by omega)
 have h2 : a / gcdI a b ≤ a := Int.ediv_le_self _ ha.1
 have o := fun f => Ay4 hE f b.toNat (Nat.le_refl _) ha hb
 have e := fun f => Ay2 hE f (a := a / gcdI a b) (b := b) ⟨l, by have := ha.2; omega⟩ hb
 rw [Am3 a b ha0 hb0] at e
 have n : a.tdiv (gcdI a b) = a / gcdI a b := Int.tdiv_eq_ediv_of_nonneg ha.1
 unfold Bz at ha hb
 refine Ai hE.Ape rfl (by simp) ?_
 simp only [Ah]
 generalize lcmI a b = c at *
 generalize a / gcdI a b = d at *
 generalize gcdI a b = g at *
 by_cases j : c < 18446744073709551616
 ·simp only [if_pos j] at e ⊢
  (repeat' (first | (with_reducible refine A2 (fun _ => ?_) (fun _ => ?_) <;> try (exfalso; omega)) | (with_reducible refine A3 (fun _ => ?_) (fun _ => ?_) <;> try (exfalso; omega)) | simp -dsimp (disch := omega) only [↓EA, EB, Nat.reduceEqDiff, Nat.reduceAdd, ↓reduceIte, reduceCtorEq, Ab, eq_self, *]))
 ·simp only [if_neg j] at e ⊢
  (repeat' (first | (with_reducible refine A2 (fun _ => ?_) (fun _ => ?_) <;> try (exfalso; omega)) | (with_reducible refine A3 (fun _ => ?_) (fun _ => ?_) <;> try (exfalso; omega)) | simp -dsimp (disch := omega) only [↓EA, EB, Nat.reduceEqDiff, Nat.reduceAdd, ↓reduceIte, reduceCtorEq, Ab, eq_self, *]))
def Aph (o : Option Int) : Value := match o with
 | some p => .agg #[.int .u64 p, .bool true]
 | none => .agg #[.int .u64 0, .bool false]
theorem Ar0 (hE : Ap E) {h : Aa} {vl : Value} {l : List Af} (hl : Rd 7 Az h vl l) (hT : ∀ t ∈ l, t.T ≤ 4611686018427387904) :
  callW E (.func (.func Gb) #[] #[]) [vl] h = some (Aph (Bo l), h, []) := by
 refine Ai hE.Ado rfl (by simp) ?_
 simp only [Ah]
 have few := hl.few
 (repeat' simp -dsimp (disch := omega) only [↓EA, EB, Nat.reduceEqDiff, Nat.reduceAdd, Nat.reduceLeDiff, ↓reduceIte, reduceCtorEq, Ab, eq_self, *])
 refine WO.loop (fun (n : Nat) fr h' => h' = h ++ [.cells [.int .u64 0, .bool false] false, .cells [.int .u64 1, .bool true] false] ∧ n ≤ l.length ∧ (∀ i : Nat, i < n → 1 ≤ (atI l (i : Int)).T) ∧ get fr 0 = vl ∧ get fr 2 = .pointer (some ⟨h.length, 0, none⟩) ∧ get fr 3 = .pointer (some ⟨h.length + 1, 0, none⟩) ∧ get fr 4 = .int .i64 n) (fun n => l.length - n) ?_ 0 ⟨rfl, Nat.zero_le _, fun i z => absurd z (Nat.not_lt_zero _), rfl, rfl, rfl, rfl⟩
 rintro n fr h' ⟨rfl, hn, j, g0, g2, g3, g4⟩
 have d := Hid.mk j
 clear j
 have a3 := fun x => hl.app x
 unfold M9
 rcases Nat.lt_or_ge n l.length with hlt | hge
 ·by_cases r : (atI l (n : Int)).T < 1
  ·have f : Bo l = none := by
    unfold Bo
    rw [if_neg]
    intro ha
    have := List.all_eq_true.1 ha _ (Aj (l := l) (i := (n : Int)) (by omega) (by omega))
    simp at this; omega
   rw [f, show Aph none = .agg #[.int .u64 0, .bool false] from rfl]
   (repeat' (first | (with_reducible refine A3 (fun _ => ?_) (fun _ => ?_) <;> try (exfalso; omega)) | simp -dsimp (disch := omega) only [↓EA, EB, Nat.reduceEqDiff, Nat.reduceAdd, ↓reduceIte, reduceCtorEq, eq_self, *, hl.len, hl.ixs, hl.ldx, Az]))
  ·(repeat' (first | (with_reducible refine A3 (fun _ => ?_) (fun _ => ?_) <;> try (exfalso; omega)) | simp -dsimp (disch := omega) only [↓EA, EB, Nat.reduceEqDiff, ↓reduceIte, reduceCtorEq, eq_self, *, hl.len, hl.ixs, hl.ldx, Az]))
   refine Next.mk (n + 1) ⟨rfl, by omega, fun i z => ?_, rfl, rfl, rfl, by simp only [get]; simp⟩ (by omega)
   by_cases e : i = n
   ·subst e; omega
   ·exact d.out i (by omega)
 ·have e : l.length = n := by omega
  have f : Bo l = Dv l 1 := by
   unfold Bo
   rw [if_pos]
   refine List.all_eq_true.2 fun t ht => ?_
   obtain ⟨i, z, rfl⟩ := List.getElem_of_mem ht
   have := d.out i (by omega)
   rw [Ax z] at this
   simpa using this
  have y : ∀ i : Nat, i < l.length → 1 ≤ (atI l (i : Int)).T ∧ (atI l (i : Int)).T ≤ 4611686018427387904 := fun i z => ⟨d.out i (by omega), hT _ (Aj (by omega) (by omega))⟩
  rw [f]
  have a2 := Hid.mk y
  clear f y hT d
  subst e
  (repeat' (first | (with_reducible refine A3 (fun _ => ?_) (fun _ => ?_) <;> try (exfalso; omega)) | simp -dsimp (disch := omega) only [↓EA, EB, Nat.reduceEqDiff, ↓reduceIte, reduceCtorEq, eq_self, *, hl.len]))
  refine WO.loop (fun (q : Nat × Option Int) fr h' => q.1 ≤ l.length ∧ (∀ p, q.2 = some p → Dv (l.drop q.1) p = Dv l 1 ∧ 0 < p ∧ p < 18446744073709551616) ∧ (q.2 = none → Dv l 1 = none) ∧ h' = h ++ [.cells [.int .u64 0, .bool false] false, .cells [.int .u64 (q.2.getD 0), .bool q.2.isSome] false] ∧ get fr 0 = vl ∧ get fr 2 = .pointer (some ⟨h.length, 0, none⟩) ∧ get fr 3 = .pointer (some ⟨h.length + 1, 0, none⟩) ∧ get fr 5 = .int .i64 q.1) (fun q => l.length - q.1) ?_ (0, some 1) ⟨Nat.zero_le _, fun p e => ?_, fun e => (by cases e), rfl, rfl, rfl, rfl, rfl⟩
  ·rintro ⟨n, o⟩ fr h' ⟨hn, s, g, rfl, g0, g2, g3, g5⟩
   dsimp only at *
   unfold M8
   rcases Nat.lt_or_ge n l.length with hlt | hge
   ·obtain ⟨t1, t2⟩ := a2.out n hlt
    cases o with
    | none =>
     have a1 := Hid.mk g
     clear g s
     simp only [Option.getD, Option.isSome] at *
     (repeat' (first | (with_reducible refine A3 (fun _ => ?_) (fun _ => ?_) <;> try (exfalso; omega)) | simp -dsimp (disch := omega) only [↓EA, EB, Nat.reduceEqDiff, ↓reduceIte, reduceCtorEq, eq_self, *, hl.len]))
     exact Next.mk (n + 1, none) ⟨by dsimp only; omega, fun p e => (by cases e), fun _ => a1.out trivial, rfl, rfl, rfl, rfl, by simp only [get]; simp⟩ (by dsimp only; omega)
    | some p =>
     obtain ⟨c, m, v⟩ := s p rfl
     have u := fun hh => Ay3 hE hh (a := p) (b := (atI l (n : Int)).T) ⟨by omega, v⟩ ⟨by omega, by omega⟩ m (by omega)
     have a0 := lcm_pos p (atI l (n : Int)).T m (by omega)
     rw [Anb hlt] at c
     have Hs := Hid.mk c
     clear g s c
     simp only [Option.getD, Option.isSome] at *
     by_cases r : lcmI p (atI l (n : Int)).T < 18446744073709551616
     ·simp only [if_pos r] at u
      rw [if_pos r] at Hs
      (repeat' (first | (with_reducible refine A3 (fun _ => ?_) (fun _ => ?_) <;> try (exfalso; omega)) | simp -dsimp (disch := omega) only [↓EA, EB, Nat.reduceEqDiff, Nat.reduceAdd, ↓reduceIte, reduceCtorEq, eq_self, *, hl.len, hl.ixs, hl.ldx, Az]))
      refine Next.mk (n + 1, some (lcmI p (atI l (n : Int)).T)) ⟨by dsimp only; omega, fun q e => ?_, fun e => (by cases e), ?_, rfl, rfl, rfl, by simp only [get]; simp⟩ (by dsimp only; omega)
      ·cases e
       exact ⟨Hs.out, a0, r⟩
      ·rfl
     ·simp only [if_neg r] at u
      rw [if_neg r] at Hs
      (repeat' (first | (with_reducible refine A3 (fun _ => ?_) (fun _ => ?_) <;> try (exfalso; omega)) | simp -dsimp (disch := omega) only [↓EA, EB, Nat.reduceEqDiff, Nat.reduceAdd, ↓reduceIte, reduceCtorEq, eq_self, *, hl.len, hl.ixs, hl.ldx, Az]))
      refine Next.mk (n + 1, none) ⟨by dsimp only; omega, fun q e => (by cases e), fun _ => Hs.out.symm, ?_, rfl, rfl, rfl, by simp only [get]; simp⟩ (by dsimp only; omega)
      ·rfl
   ·have e : l.length = n := by omega
    cases o with
    | none =>
     rw [g rfl, show Aph none = .agg #[.int .u64 0, .bool false] from rfl]
     clear g s
     simp only [Option.getD, Option.isSome] at *
     subst e
     (repeat' simp -dsimp (disch := omega) only [↓EA, EB, Nat.reduceEqDiff, Nat.reduceAdd, ↓reduceIte, reduceCtorEq, eq_self, *, hl.len])
    | some p =>
     obtain ⟨c, m, v⟩ := s p rfl
     rw [← e, List.drop_length] at c
     rw [← c, show Aph (Dv [] p) = .agg #[.int .u64 p, .bool true] from rfl]
     clear g s c
     simp only [Option.getD, Option.isSome] at *
     subst e
     (repeat' simp -dsimp (disch := omega) only [↓EA, EB, Nat.reduceEqDiff, Nat.reduceAdd, ↓reduceIte, reduceCtorEq, eq_self, *, hl.len])
  ·cases e
   exact ⟨by rw [List.drop_zero], by decide, by decide⟩
end Go.L.Try
namespace Go.L.Try
open Go Go.L
variable {E : Env}
structure D17 (h0 : Aa) (p : Int) (A : List Job) (v : Value) (hh : Aa) : Prop where
 pre : Pre h0 hh
 len : h0.length + 3 ≤ hh.length
 b0 : hh[h0.length]? = some (.cells [.slice none 0 0, .int .u64 0, .int .i64 0] false)
 b1 : hh[h0.length + 1]? = some (.cells [.int .u64 p, .bool true] false)
 b2 : hh[h0.length + 2]? = some (.cells [v, .int .u64 p, .int .i64 0] false)
 own : OwnT (h0.length + 3) 5 (Ci hdJ) hh v (A.map Nm)
theorem Az2 (hE : Ap E) {W : Nat → Prop} {h0 : Aa} (hW : ∀ b, h0.length ≤ b → W b) {vl : Value} {l : List Af} (hl : Rd 7 Az h0 vl l) {p : Int} (hp0 : 0 < p) (hp1 : p ≤ 4611686018427387904) {i : Nat} (hi : i < l.length) (hT : 1 ≤ (atI l (i : Int)).T ∧ (atI l (i : Int)).T ≤ 4611686018427387904)
  {A : List Job} (hA : A.length + manyP (atI l (i : Int)).T p ≤ 4096) {v : Value} {hh : Aa} (d : D17 h0 p A v hh) {fr : Fr} (g0 : get fr 0 = vl) (g4 : get fr 4 = .pointer (some ⟨h0.length, 0, none⟩)) (g5 : get fr 5 = .pointer (some ⟨h0.length + 1, 0, none⟩)) (g8 : get fr 8 = .pointer (some ⟨h0.length + 2, 0, none⟩)) (g9 : get fr 9 = .int .i64 i) (g10 : get fr 10 = .int .i64 0) {Q : Ex → Fr → Aa → Prop}
  (hq : ∀ fr' v' h', get fr' 0 = vl → get fr' 4 = .pointer (some ⟨h0.length, 0, none⟩) → get fr' 5 = .pointer (some ⟨h0.length + 1, 0, none⟩) → get fr' 8 = .pointer (some ⟨h0.length + 2, 0, none⟩) → get fr' 9 = .int .i64 i → D17 h0 p (A ++ Jy i (atI l (i : Int)) (manyP (atI l (i : Int)).T p)) v' h' → Q (.exit 4) fr' h') :
  WO W (iterW (code (callW E) iterW 84 Lb) fr hh) Q := by
 refine WO.loop (fun (q : Nat × Value) fr h' => q.1 ≤ manyP (atI l (i : Int)).T p ∧ D17 h0 p (A ++ Jy i (atI l (i : Int)) q.1) q.2 h' ∧ get fr 0 = vl ∧ get fr 4 = .pointer (some ⟨h0.length, 0, none⟩) ∧ get fr 5 = .pointer (some ⟨h0.length + 1, 0, none⟩) ∧ get fr 8 = .pointer (some ⟨h0.length + 2, 0, none⟩) ∧ get fr 9 = .int .i64 i ∧ get fr 10 = .int .i64 ((q.1 : Int) * (atI l (i : Int)).T)) (fun q => manyP (atI l (i : Int)).T p - q.1) ?_ (0, v) ⟨Nat.zero_le _, by simpa [Jy] using d, g0, g4, g5, g8, g9, by rw [g10]; simp⟩
 clear d g0 g4 g5 g8 g9 g10
 rintro ⟨n, v⟩ fr hh ⟨m, d, g0, g4, g5, g8, g9, g10⟩
 dsimp only at m d g10
 have Hq := Hid.mk hq
 clear hq
 unfold Lb
 have j := Sq (T := (atI l (i : Int)).T) (p := p) hT.1 n
 have a5 : 0 ≤ (n : Int) * (atI l (i : Int)).T := Int.mul_nonneg (by omega) (by omega)
 have a : ((n + 1 : Nat) : Int) * (atI l (i : Int)).T = (n : Int) * (atI l (i : Int)).T + (atI l (i : Int)).T := by rw [Int.natCast_add, Int.natCast_one, Int.add_mul, Int.one_mul]
 have c : Tx i (atI l (i : Int)) n = ⟨i, (n : Int) * (atI l (i : Int)).T, (n : Int) * (atI l (i : Int)).T, (atI l (i : Int)).C, []⟩ := rfl
 have a4 : (n : Int) * (atI l (i : Int)).T ≤ p + 4611686018427387904 := by
  by_cases h : n = 0
  ·subst h; simp; omega
  ·have := (Sq (T := (atI l (i : Int)).T) (p := p) hT.1 (n - 1)).1 (by omega)
   have e : ((n : Int)) * (atI l (i : Int)).T = ((n - 1 : Nat) : Int) * (atI l (i : Int)).T + (atI l (i : Int)).T := by
    rw [show (n : Int) = ((n - 1 : Nat) : Int) + 1 by omega, Int.add_mul, Int.one_mul]
   omega
 have f := hl.pre d.pre
 by_cases hc : n < manyP (atI l (i : Int)).T p
 ·have a3 := j.1 hc
  have Hm := Hid.mk (AI a (AI c j))
  generalize htn : (n : Int) * (atI l (i : Int)).T = x at *
  have D := Hid.mk d
  obtain ⟨d1, d2, d3, d4, t, g⟩ := d
  have hr := g.rd
  have few := hr.few
  have aa : ((A ++ Jy i (atI l (i : Int)) n).map Nm).length = A.length + n := by rw [List.length_map, LA, Q6]
  have ov := g.rd.one
  have cv := g.rd.cv
  have s := g.ge
  have a7 : h0.length + 2 < hh.length := by omega
  clear a c j g
  have r : ∀ y, (hh ++ y)[h0.length + 2]? = some (.cells [v, .int .u64 p, .int .i64 0] false) := fun y => by rw [GL (by omega)]; exact t
  have a2 : (room hh 1)[h0.length + 2]? = some (.cells [v, .int .u64 p, .int .i64 0] false) := r _
  (repeat' simp -dsimp (disch := omega) only [↓EA, EB, Nat.reduceEqDiff, ↓reduceIte, reduceCtorEq, eq_self, *])
  refine ⟨by simp [low]; omega, ?_⟩
  (repeat' simp -dsimp (disch := omega) only [↓EA, EB, Nat.reduceEqDiff, Nat.reduceAdd, Nat.reduceLeDiff, Nat.reduceMul, ↓reduceIte, reduceCtorEq, Ab, T9, eq_self, *, f.ixs, f.ldx, Az])
  refine Sh (sz := 5) (bytes := 56) (h0 := h0) (D.out.own.app _) (d1.app' _) (by omega) (by simp; omega) (fun m => hW _ (by have := s m; omega)) (Nm ⟨i, x, x, (atI l (i : Int)).C, []⟩) ?_ rfl (by decide) (by decide) (by omega) ?_
  ·simp -dsimp (disch := omega) only [EB, Nat.reduceAdd, Nat.reduceMul, ↓reduceIte]
   rfl
  ·intro v2 o u k2 k3 k4 k5
   rw [LA, List.length_singleton] at k3 k4 k5
   have z : ∀ b, b < h0.length + 3 → o[b]? = hh[b]? := fun b hb => by
    rw [k5 b (by omega) (fun m e => by have := s m; omega), GL (by omega)]
   have m0 := (z _ (by omega)).trans d3
   have m1 := (z _ (by omega)).trans d4
   have m2 := (z _ (by omega)).trans t
   have a9 := u.rd.one
   have a6 := u.rd.cv
   have K1 := Hid.mk u
   have K2 := Hid.mk k2
   have a8 : W (h0.length + 2) := hW _ (by omega)
   have a1 := (hl.pre k2)
   clear u k2 k5 z d1 d3 d4 t r a2
   (repeat' simp -dsimp (disch := omega) only [↓EA, EB, Nat.reduceEqDiff, Nat.reduceAdd, Nat.reduceLeDiff, ↓reduceIte, reduceCtorEq, eq_self, *, f.ixs])
   have a0 : Rd 7 Az (o.set (h0.length + 2) (.cells [v2, .int .u64 p, .int .i64 0] false)) vl l := hl.pre (K2.out.set (by omega) _)
   clear f a1
   (repeat' simp -dsimp (disch := omega) only [↓EA, EB, Nat.reduceEqDiff, ↓reduceIte, reduceCtorEq, eq_self, *, a0.ld, Az])
   obtain ⟨a, c, j⟩ := Hm.out
   refine Next.mk (n + 1, v2) ⟨by dsimp only; omega, ?_, rfl, rfl, rfl, rfl, rfl, ?_⟩ (by dsimp only; omega)
   ·dsimp only
    refine ⟨K2.out.set (by omega) _, by rw [List.length_set]; omega, by rw [Aq (by omega)]; exact m0, by rw [Aq (by omega)]; exact m1, Bx (by omega), ?_⟩
    rw [Sl, ← List.append_assoc, c]
    have := K1.out
    rw [show (A ++ Jy i (atI l (i : Int)) n ++ [(⟨i, x, x, (atI l (i : Int)).C, []⟩ : Job)]).map Nm = (A ++ Jy i (atI l (i : Int)) n).map Nm ++ [Nm ⟨i, x, x, (atI l (i : Int)).C, []⟩] by simp]
    exact this.keep fun _ => Aq (by omega)
   ·dsimp only
    rw [a]; simp only [get]; simp
 ·have e : n = manyP (atI l (i : Int)).T p := by omega
  have a3 : ¬ (n : Int) * (atI l (i : Int)).T < p := fun h => hc (j.2 h)
  have D := Hid.mk d
  obtain ⟨d1, d2, d3, d4, t, g⟩ := d
  generalize htn : (n : Int) * (atI l (i : Int)).T = x at *
  clear j a c g
  (repeat' simp -dsimp (disch := omega) only [↓EA, EB, Nat.reduceEqDiff, ↓reduceIte, reduceCtorEq, eq_self, *])
  exact Hq.out _ v hh rfl rfl rfl rfl rfl (by rw [← e]; exact D.out)
theorem Got17.movable {m : Nat} (r : List Job × Int × Int) : Movable m (fun h v => ∃ vs, v = .agg vs.toArray ∧ Each h [fun h v => RdNO m 5 hdJ Job.cuts h v r.1, fun _ v => v = .int .u64 r.2.1, fun _ v => v = .int .i64 r.2.2] vs) 2 :=
 Movable.aggs (k := 1) (fun R hR => by
  simp only [List.mem_cons, List.not_mem_nil, or_false] at hR
  rcases hR with rfl | rfl | rfl
  ·exact RdNO.movable (hd := hdJ) (cs := Job.cuts) (sz := 5) (fun _ => rfl) (fun _ => rfl) _
  ·exact Gd rfl
  ·exact Gd rfl) (by simp)
def Got17 (m : Nat) (r : List Job × Int × Int) (h : Aa) (v : Value) : Prop := ∃ vs, v = .agg vs.toArray ∧ Each h [fun h v => RdNO m 5 hdJ Job.cuts h v r.1, fun _ v => v = .int .u64 r.2.1, fun _ v => v = .int .i64 r.2.2] vs
theorem Apf {m : Nat} {h : Aa} {v : Value} {A : List Job} (o : OwnT m 5 (Ci hdJ) h v (A.map Nm)) (hc : ∀ x ∈ A, x.cuts = []) : RdNO m 5 hdJ Job.cuts h v A :=
 ⟨A.map Nm, by rw [List.map_map]; exact List.map_id _, o.rdO, fun q hq => by
  obtain ⟨j, hj, rfl⟩ := List.mem_map.1 hq
  refine ⟨?_, fun hn => absurd rfl hn⟩
  rw [show (Nm j).j.cuts = [] from hc j hj]
  exact Rd.of_nil⟩
theorem Zx {l : List Af} {p : Int} (hp : 0 < p) (hT : ∀ t ∈ l, 1 ≤ t.T ∧ t.T ∣ p ∧ t.T ≤ p) {i : Nat} : ∀ {j : Nat}, i ≤ j → j ≤ l.length → Ma l p i ≤ Ma l p j
 | 0, h, _ => by
  have e : i = 0 := by omega
  subst e; exact Int.le_refl _
 | j + 1, h, hj => by
  by_cases e : i = j + 1
  ·subst e; exact Int.le_refl _
  ·have c := Zx hp hT (i := i) (j := j) (by omega) (by omega)
   have d := hT _ (Aj (l := l) (i := (j : Int)) (by omega) (by omega))
   have a : 0 ≤ p / (atI l (j : Int)).T := Int.ediv_nonneg (by omega) (by omega)
   simp only [Ma]; omega
theorem Awx (hE : Ap E) {h : Aa} {vl : Value} {l : List Af} (hl : Rd 7 Az h vl l) (hs : ∀ t ∈ l, t.name.size < 1152921504606846976) {cap : Int} (hcap : Bz cap) (hper : ∀ p, Bo l = some p → p ≤ cap → p ≤ 1152921504606846976) :
  ∃ v ys, callW E (.func (.func I6) #[] #[]) [vl, .int .u64 cap] h = some (v, h ++ ys, []) ∧ Got17 h.length (Bv l cap) (h ++ ys) v := by
 refine Ja hE.Ajc rfl (Got17.movable _) (by simp) ?_
 have am := fun x => Akd hE (hl.app x) hs
 have few := hl.few
 unfold Bz at hcap
 have a7 : ∀ hh, RdNO h.length 5 hdJ Job.cuts hh (.slice none 0 0) [] := fun hh => ⟨[], rfl, OwnT.nil.rdO, by simp⟩
 have c : ∀ (n : Int) ys, (∃ zs, h ++ ys = h ++ zs) ∧ Got17 h.length ([], 0, n) (h ++ ys) (.agg #[.slice none 0 0, .int .u64 0, .int .i64 n]) := fun n ys => ⟨⟨_, rfl⟩, _, rfl, .cons (a7 _) (.cons rfl (.cons rfl .nil))⟩
 simp only [Ah]
 by_cases r : (A0 l).2 = 0
 ·obtain ⟨ah, ak, f⟩ := Dj r
  have hp := fun x => Ar0 hE (hl.app x) (fun t ht => by have := (f t ht).1; simp only [Bh] at this; omega)
  have hd : Bv l cap = match Bo l with
   | none => ([], 0, 15)
   | some p => if cap < p then ([], 0, 15) else if 4096 < (allH l p l.length).length then ([], 0, 15) else (allH l p l.length, p, 0) := if_neg (fun h => h r)
  rw [hd]
  cases hpp : Bo l with
  | none =>
   rw [hpp, show Aph none = .agg #[.int .u64 0, .bool false] from rfl] at hp
   have Err := Hid.mk c
   clear c
   dsimp only
   (repeat' simp -dsimp (disch := omega) only [↓EA, EB, Nat.reduceEqDiff, Nat.reduceAdd, ↓reduceIte, reduceCtorEq, Ab, eq_self, *])
   exact Err.out 15 _
  | some p =>
   rw [hpp, show Aph (some p) = .agg #[.int .u64 p, .bool true] from rfl] at hp
   obtain ⟨⟨a2, aj⟩, hT⟩ := N7 hpp
   dsimp only
   by_cases a5 : cap < p
   ·rw [if_pos a5]
    have Err := Hid.mk c
    clear c hT
    (repeat' simp -dsimp (disch := omega) only [↓EA, EB, Nat.reduceEqDiff, Nat.reduceAdd, ↓reduceIte, reduceCtorEq, Ab, eq_self, *])
    exact Err.out 15 _
   ·rw [if_neg a5]
    have ae := hper p hpp (by omega)
    have z := Aa3 a2 hT l.length (Nat.le_refl _)
    have Err := Hid.mk c
    have HT := Hid.mk hT
    have y := Hid.mk z
    have s := Hid.mk f
    clear c hd hpp hper z hT f
    (repeat' simp -dsimp (disch := omega) only [↓EA, EB, Nat.reduceEqDiff, Nat.reduceAdd, ↓reduceIte, reduceCtorEq, Ab, eq_self, *])
    refine WO.loop (fun (n : Nat) fr h' => h' = h ++ [.cells [.slice none 0 0, .int .u64 0, .int .i64 0] false, .cells [.int .u64 p, .bool true] false] ∧ n ≤ l.length ∧ 0 ≤ Ma l p n ∧ Ma l p n ≤ 4096 ∧ get fr 0 = vl ∧ get fr 4 = .pointer (some ⟨h.length, 0, none⟩) ∧ get fr 5 = .pointer (some ⟨h.length + 1, 0, none⟩) ∧ get fr 6 = .int .u64 (Ma l p n) ∧ get fr 7 = .int .i64 n) (fun n => l.length - n) ?_ 0 ⟨rfl, Nat.zero_le _, Int.le_refl _, by simp [Ma], rfl, rfl, rfl, rfl, rfl⟩
    rintro n fr h' ⟨rfl, hn, aa, a8, g0, g4, g5, g6, g7⟩
    unfold P9
    by_cases ag : n < l.length
    ·have ht := HT.out _ (Aj (l := l) (i := (n : Int)) (by omega) (by omega))
     have a := (s.out _ (Aj (l := l) (i := (n : Int)) (by omega) (by omega))).1
     simp only [Bh] at a
     have hq : p.tdiv (atI l (n : Int)).T = p / (atI l (n : Int)).T := Int.tdiv_eq_ediv_of_nonneg (by omega)
     have q1 : 0 ≤ p / (atI l (n : Int)).T := Int.ediv_nonneg (by omega) (by omega)
     have q2 : p / (atI l (n : Int)).T ≤ p := Int.ediv_le_self _ (by omega)
     have o : Ma l p (n + 1) = Ma l p n + p / (atI l (n : Int)).T := rfl
     have a6 := Hid.mk o
     have j : 1 ≤ (atI l (n : Int)).T ∧ (atI l (n : Int)).T ≤ 2147483647 := by omega
     obtain ⟨j, al⟩ := j
     clear a o ht
     generalize hqq : p / (atI l (n : Int)).T = d at *
     generalize hmm : Ma l p n = m at *
     by_cases ad : 4096 < m + d
     ·have a3 : Ma l p (n + 1) ≤ Ma l p l.length := Zx a2 HT.out (by omega) (Nat.le_refl _)
      have g : 4096 < (allH l p l.length).length := by have := y.out; have := a6.out; omega
      rw [if_pos g]
      clear g a3
      (repeat' (first | (with_reducible refine A3 (fun _ => ?_) (fun _ => ?_) <;> try (exfalso; omega)) | simp -dsimp (disch := omega) only [↓EA, EB, Nat.reduceEqDiff, Nat.reduceAdd, ↓reduceIte, reduceCtorEq, eq_self, *, hl.len, hl.ixs, hl.ldx, Az]))
      exact Err.out 15 _
     ·(repeat' (first | (with_reducible refine A3 (fun _ => ?_) (fun _ => ?_) <;> try (exfalso; omega)) | simp -dsimp (disch := omega) only [↓EA, EB, Nat.reduceEqDiff, ↓reduceIte, reduceCtorEq, eq_self, *, hl.len, hl.ixs, hl.ldx, Az]))
      have o := a6.out
      refine Next.mk (n + 1) ⟨rfl, by omega, by omega, by omega, rfl, rfl, rfl, ?_, by simp only [get]; simp⟩ (by omega)
      rw [o]; simp only [get]; simp
    ·have e : l.length = n := by omega
     have a1 : ¬ 4096 < (allH l p l.length).length := by have := y.out; rw [e] at this ⊢; omega
     rw [if_neg a1]
     have a9 := Hid.mk a1
     have E0 := Hid.mk e
     clear a1 e
     have ab : ¬ (n : Int) < l.length := by omega
     (repeat' simp -dsimp (disch := omega) only [↓EA, EB, Nat.reduceEqDiff, Nat.reduceAdd, Nat.reduceLeDiff, ↓reduceIte, reduceCtorEq, Ab, eq_self, *, hl.len])
     refine WO.loop (fun (q : Nat × Value) fr h' => q.1 ≤ l.length ∧ D17 h p (allH l p q.1) q.2 h' ∧ get fr 0 = vl ∧ get fr 4 = .pointer (some ⟨h.length, 0, none⟩) ∧ get fr 5 = .pointer (some ⟨h.length + 1, 0, none⟩) ∧ get fr 8 = .pointer (some ⟨h.length + 2, 0, none⟩) ∧ get fr 9 = .int .i64 q.1) (fun q => l.length - q.1) ?_ (0, .slice none 0 0) ⟨Nat.zero_le _, ⟨Pre.app _ _, by simp, by rw [Bk]; rfl, by rw [Og]; rfl, by rw [Og]; rfl, OwnT.nil⟩, rfl, rfl, rfl, rfl, rfl⟩
     clear g0 g4 g5 g6 g7 hn aa a8
     rintro ⟨i, v⟩ fr hh ⟨hi, d, g0, g4, g5, g8, g9⟩
     dsimp only at *
     unfold P8
     have a4 := hl.pre d.pre
     by_cases u : i < l.length
     ·have ht := HT.out _ (Aj (l := l) (i := (i : Int)) (by omega) (by omega))
      have a := (s.out _ (Aj (l := l) (i := (i : Int)) (by omega) (by omega))).1
      simp only [Bh] at a
      have j : 1 ≤ (atI l (i : Int)).T ∧ (atI l (i : Int)).T ≤ 4611686018427387904 := by omega
      have a0 : (allH l p i).length + manyP (atI l (i : Int)).T p ≤ 4096 := by
       have h1 := Wp (l := l) (p := p) (show i + 1 ≤ l.length by omega)
       have h2 : (allH l p (i + 1)).length = (allH l p i).length + manyP (atI l (i : Int)).T p := by
        show (allH l p i ++ Jy i _ _).length = _
        rw [LA, Q6]
       have h3 := a9.out
       omega
      clear a ht
      (repeat' (first | (with_reducible refine A3 (fun _ => ?_) (fun _ => ?_) <;> try (exfalso; omega)) | simp -dsimp (disch := omega) only [↓EA, EB, Nat.reduceEqDiff, ↓reduceIte, reduceCtorEq, eq_self, *, a4.len]))
      refine Az2 hE (fun b hb => hb) hl a2 (by omega) u j a0 d rfl rfl rfl rfl rfl rfl fun af v' h' g0 g4 g5 g8 g9 d' => ?_
      clear a4 a0
      (repeat' simp -dsimp (disch := omega) only [↓EA, EB, Nat.reduceEqDiff, ↓reduceIte, reduceCtorEq, eq_self, *])
      exact Next.mk (i + 1, v') ⟨by dsimp only; omega, d', rfl, rfl, rfl, rfl, by simp only [get]; simp⟩ (by dsimp only; omega)
     ·have e : l.length = i := by omega
      have E1 := Hid.mk e
      have D := Hid.mk d
      obtain ⟨d1, d2, d3, d4, d5, d6⟩ := d
      have ov := d6.rd.one
      have cv := d6.rd.cv
      have ab : ¬ (i : Int) < l.length := by omega
      have ai : h.length < hh.length := by omega
      clear d6 e u
      (repeat' simp -dsimp (disch := omega) only [↓EA, EB, Nat.reduceEqDiff, Nat.reduceAdd, ↓reduceIte, reduceCtorEq, eq_self, *, a4.len])
      have d := D.out
      refine ⟨(d.pre.set (by omega) _).ex, _, rfl, .cons (Apf ?_ ?_) (.cons rfl (.cons rfl .nil))⟩
      ·rw [E1.out]
       exact ((d.own.keep fun hn => Aq (by have := d.own.ge hn; omega)).less (by omega))
      ·exact fun x hx => Wq hx
 ·have hd : Bv l cap = ([], 0, 1) := if_pos r
  rw [hd]
  have Err := Hid.mk c
  clear c
  have ac : (A0 l).2 ≠ 0 := r
  (repeat' simp -dsimp (disch := omega) only [↓EA, EB, Nat.reduceEqDiff, Nat.reduceAdd, ↓reduceIte, reduceCtorEq, Ab, eq_self, *])
  exact Err.out 1 _
end Go.L.Try
