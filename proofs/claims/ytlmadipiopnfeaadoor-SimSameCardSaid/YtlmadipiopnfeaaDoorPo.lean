/- A TASK's CRITICAL SCENE (plain): its jobs; it is legal, and a scene. -/
import Derived.Test.YtlmadipiopnfeaaDoorPn
import Derived.Test.YtlmadipiopnfeaaDoorPg
import Derived.Test.YtlmadipiopnfeaaDoorPl
set_option linter.unusedVariables false
set_option linter.unusedSimpArgs false
set_option maxRecDepth 100000
set_option maxHeartbeats 1000000
namespace Go.L.Try
open Go Go.L
def mostJ (l : List Ab) (i : Int) : Nat → Int
 | 0 => (atI l i).J
 | n + 1 => if (atI l (n : Int)).P < (atI l i).P then max (mostJ l i n) (atI l (n : Int)).J else mostJ l i n
def Af (l : List Ab) (i : Int) : Int := 1 + mostJ l i l.length
def blkN (l : List Ab) (i : Int) : Nat → Int × Bool
 | 0 => (0, false)
 | n + 1 => if (atI l i).P < (atI l (n : Int)).P ∧ 1 < (atI l (n : Int)).Q ∧ ((blkN l i n).2 = false ∨ (atI l (blkN l i n).1).Q < (atI l (n : Int)).Q) then ((n : Int), true) else blkN l i n
def Id (s : Int) (h : Nat) (t : Ab) (N : Nat) : List Job := (List.range N).map fun (n : Nat) => ⟨h, s - t.J + n * t.T, if n = 0 then s else s - t.J + n * t.T, t.C, []⟩
def Jl (l : List Ab) (i : Int) (h : Nat) : Nat := Ij (atI l (h : Int)).T ((atI l i).D - (atI l i).J + (atI l (h : Int)).J)
def upC (l : List Ab) (i : Int) : Nat → List Job
 | 0 => []
 | n + 1 => if (atI l (n : Int)).P < (atI l i).P then upC l i n ++ Id (Af l i) n (atI l (n : Int)) (Jl l i n) else upC l i n
def Bj (l : List Ab) (i : Int) : List Job := if (blkN l i l.length).2 = true then [⟨(blkN l i l.length).1, Af l i - 1, Af l i - 1, (atI l (blkN l i l.length).1).Q, [(atI l (blkN l i l.length).1).Q]⟩] else []
def Cz (l : List Ab) (i : Int) : Job := ⟨i, Af l i - (atI l i).J, Af l i, (atI l i).C, []⟩
def A9 (l : List Ab) (i : Int) : List Job := Bj l i ++ Cz l i :: upC l i l.length
variable {l : List Ab} {i : Int}
theorem Jk (hok : ∀ t ∈ l, Ci t) (hi : 0 ≤ i ∧ i < l.length) : ∀ n, n ≤ l.length → ((atI l i).J ≤ mostJ l i n ∧ mostJ l i n ≤ 2147483647) ∧ ∀ h : Nat, h < n → (atI l (h : Int)).P < (atI l i).P → (atI l (h : Int)).J ≤ mostJ l i n
 | 0, _ => by
  have := (hok _ (Aj hi.1 hi.2)).1
  simp only [An] at this
  exact ⟨⟨Int.le_refl _, by show (atI l i).J ≤ _; omega⟩, fun h c => absurd c (Nat.not_lt_zero _)⟩
 | n + 1, hn => by
  obtain ⟨f, h2⟩ := Jk hok hi n (by omega)
  have := (hok _ (Aj (l := l) (i := (n : Int)) (by omega) (by omega))).1
  simp only [An] at this
  unfold mostJ
  split
  ·refine ⟨by omega, fun h c a => ?_⟩
   by_cases e : h = n
   ·subst e; omega
   ·have := h2 h (by omega) a; omega
  ·refine ⟨f, fun h c a => ?_⟩
   by_cases e : h = n
   ·subst e; rename_i d; exact absurd a d
   ·exact h2 h (by omega) a
theorem V9 (hok : ∀ t ∈ l, Ci t) : ∀ n, n ≤ l.length → ((blkN l i n).2 = false → Iv l i n = 0) ∧ ((blkN l i n).2 = true → (0 ≤ (blkN l i n).1 ∧ (blkN l i n).1 < n) ∧ (atI l i).P < (atI l (blkN l i n).1).P ∧ 1 < (atI l (blkN l i n).1).Q ∧ Iv l i n = (atI l (blkN l i n).1).Q - 1)
 | 0, _ => ⟨fun _ => rfl, fun h => by cases h⟩
 | n + 1, hn => by
  obtain ⟨f, h2⟩ := V9 hok n (by omega)
  have p := (hok _ (Aj (l := l) (i := (n : Int)) (by omega) (by omega))).1
  simp only [An] at p
  unfold blkN Iv
  by_cases a : (atI l i).P < (atI l (n : Int)).P ∧ 1 < (atI l (n : Int)).Q ∧ ((blkN l i n).2 = false ∨ (atI l (blkN l i n).1).Q < (atI l (n : Int)).Q)
  ·rw [if_pos a, if_pos a.1]
   refine ⟨fun h => (by cases h), fun _ => ⟨⟨by dsimp only; omega, by dsimp only; omega⟩, a.1, a.2.1, ?_⟩⟩
   dsimp only
   rcases a.2.2 with h | h
   ·rw [f h]; omega
   ·cases hb : (blkN l i n).2 with
    | false => rw [f hb]; omega
    | true => have := (h2 hb).2.2.2; omega
  ·rw [if_neg a]
   refine ⟨fun h => ?_, fun h => ?_⟩
   ·have e := f h
    by_cases c : (atI l i).P < (atI l (n : Int)).P
    ·rw [if_pos c, e]
     have : ¬ 1 < (atI l (n : Int)).Q := fun d => a ⟨c, d, .inl h⟩
     omega
    ·rw [if_neg c, e]
   ·obtain ⟨r, m, o, g⟩ := h2 h
    refine ⟨by omega, m, o, ?_⟩
    by_cases c : (atI l i).P < (atI l (n : Int)).P
    ·rw [if_pos c, g]
     by_cases d : 1 < (atI l (n : Int)).Q
     ·have : ¬ (atI l (blkN l i n).1).Q < (atI l (n : Int)).Q := fun j => a ⟨c, d, .inr j⟩
      omega
     ·omega
    ·rw [if_neg c, g]
theorem Nl {j : Job} : ∀ {n : Nat}, j ∈ upC l i n → ∃ h k : Nat, h < n ∧ (atI l (h : Int)).P < (atI l i).P ∧ k < Jl l i h ∧ j = ⟨h, Af l i - (atI l (h : Int)).J + k * (atI l (h : Int)).T, if k = 0 then Af l i else Af l i - (atI l (h : Int)).J + k * (atI l (h : Int)).T, (atI l (h : Int)).C, []⟩
 | 0, h => by simp [upC] at h
 | n + 1, h => by
  unfold upC at h
  split at h
  ·rename_i e
   rcases List.mem_append.1 h with h | h
   ·obtain ⟨a, b, c, d⟩ := Nl h
    exact ⟨a, b, by omega, d⟩
   ·obtain ⟨k, f, rfl⟩ := List.mem_map.1 h
    exact ⟨n, k, by omega, e, List.mem_range.1 f, rfl⟩
  ·obtain ⟨a, b, c, d⟩ := Nl h
   exact ⟨a, b, by omega, d⟩
def Ae7 (l : List Ab) (x y : Job) : Prop := x.task = y.task → x.arrive + (atI l y.task).T ≤ y.arrive
theorem Aj0 {s : Int} {h : Nat} (N : Nat) (hT : 0 ≤ (atI l (h : Int)).T) : (Id s h (atI l (h : Int)) N).Pairwise (Ae7 l) := by
 unfold Id
 rw [List.pairwise_map]
 refine List.Pairwise.imp ?_ (List.pairwise_lt_range (n := N))
 intro a b c _
 dsimp only
 have : ((a : Int) + 1) * (atI l (h : Int)).T ≤ (b : Int) * (atI l (h : Int)).T := Int.mul_le_mul_of_nonneg_right (by omega) hT
 rw [Int.add_mul, Int.one_mul] at this
 omega
theorem Ace (hok : ∀ t ∈ l, Ci t) : ∀ n, n ≤ l.length → (upC l i n).Pairwise (Ae7 l)
 | 0, _ => List.Pairwise.nil
 | n + 1, hn => by
  have d := Ace hok n (by omega)
  have j := (hok _ (Aj (l := l) (i := (n : Int)) (by omega) (by omega))).1
  simp only [An] at j
  unfold upC
  split
  ·refine List.pairwise_append.2 ⟨d, Aj0 _ (by omega), fun x f y g e => ?_⟩
   obtain ⟨a, b, c, _, _, rfl⟩ := Nl f
   obtain ⟨k, m, rfl⟩ := List.mem_map.1 g
   have : (a : Int) = (n : Int) := e
   omega
  ·exact d
theorem Axk {r : Job → Job → Prop} {jobs : List Job} (h : jobs.Pairwise r) {a b : Nat} (hab : a < b) (hb : b < jobs.length) : r (jb jobs a) (jb jobs b) := by
 have d : jb jobs a = jobs[a] := Bw (by omega)
 have c : jb jobs b = jobs[b] := Bw hb
 rw [d, c]; exact List.pairwise_iff_getElem.1 h a b (by omega) hb hab
theorem W9 (hok : ∀ t ∈ l, Ci t) (hi : 0 ≤ i ∧ i < l.length) {h : Nat} (hh : h < l.length) : (1 ≤ (atI l (h : Int)).T ∧ 0 ≤ (atI l (h : Int)).J ∧ (atI l (h : Int)).J + 1 ≤ (atI l (h : Int)).T) ∧ ∀ k : Nat, k < Jl l i h ↔ (k : Int) * (atI l (h : Int)).T < (atI l i).D - (atI l i).J + (atI l (h : Int)).J := by
 obtain ⟨a, h2⟩ := hok _ (Aj (l := l) (i := (h : Int)) (by omega) (by omega))
 simp only [An, D4] at a h2
 exact ⟨by omega, fun k => S4 (by omega) k⟩
theorem Ak9 : ∀ {n h : Nat}, h < n → (atI l (h : Int)).P < (atI l i).P → ∃ A C, upC l i n = A ++ Id (Af l i) h (atI l (h : Int)) (Jl l i h) ++ C
 | 0, h, hh, _ => absurd hh (Nat.not_lt_zero _)
 | n + 1, h, hh, hp => by
  unfold upC
  by_cases e : h = n
  ·subst e
   rw [if_pos hp]; exact ⟨_, [], by rw [List.append_nil]⟩
  ·obtain ⟨A, C, a⟩ := Ak9 (n := n) (h := h) (by omega) hp
   split
   ·exact ⟨A, C ++ _, by rw [a, List.append_assoc _ C]⟩
   ·exact ⟨A, C, a⟩
theorem Ajz {s x : Int} {h : Nat} {t : Ab} {c N : Nat} (hc : c ≤ N) (hx : ∀ n : Nat, n < c → (if n = 0 then s else s - t.J + n * t.T) < x) : c ≤ cntB (Id s h t N) h x := by
 obtain ⟨d, rfl⟩ : ∃ d, N = c + d := ⟨N - c, by omega⟩
 have e : Id s h t (c + d) = Id s h t c ++ ((List.range d).map fun n => ⟨h, s - t.J + ((c + n : Nat) : Int) * t.T, if c + n = 0 then s else s - t.J + ((c + n : Nat) : Int) * t.T, t.C, []⟩) := by
  unfold Id
  rw [List.range_add, List.map_append, List.map_map]; rfl
 rw [e, V3]
 have : cntB (Id s h t c) h x = (Id s h t c).length := by
  unfold cntB
  rw [List.countP_eq_length]
  intro j a
  obtain ⟨k, f, rfl⟩ := List.mem_map.1 a
  exact decide_eq_true ⟨rfl, hx k (List.mem_range.1 f)⟩
 rw [this]
 simp only [Id, List.length_map, List.length_range]; omega
end Go.L.Try
set_option maxHeartbeats 2000000
namespace Go.L.Try
open Go Go.L
variable {l : List Ab} {i : Nat}
theorem Anp {A R : List Job} {j : Job} : jb (A ++ j :: R) A.length = j := by
 unfold jb atI
 rw [List.getD_eq_getElem?_getD, Int.toNat_natCast, List.getElem?_append_right (Nat.le_refl _), Nat.sub_self]; rfl
theorem Xi {j : Job} (h : j ∈ A9 l i) : ((blkN l i l.length).2 = true ∧ j = ⟨(blkN l i l.length).1, Af l i - 1, Af l i - 1, (atI l (blkN l i l.length).1).Q, [(atI l (blkN l i l.length).1).Q]⟩) ∨ j = Cz l i ∨ ∃ h k : Nat, h < l.length ∧ (atI l (h : Int)).P < (atI l (i : Int)).P ∧ k < Jl l i h ∧ j = ⟨h, Af l i - (atI l (h : Int)).J + k * (atI l (h : Int)).T, if k = 0 then Af l i else Af l i - (atI l (h : Int)).J + k * (atI l (h : Int)).T, (atI l (h : Int)).C, []⟩ := by
 unfold A9 at h
 rcases List.mem_append.1 h with h | h
 ·unfold Bj at h
  split at h
  ·rename_i a; exact .inl ⟨a, by simpa using h⟩
  ·simp at h
 ·rcases List.mem_cons.1 h with h | h
  ·exact .inr (.inl h)
  ·exact .inr (.inr (Nl h))
theorem Pz (hv : D5 l) (hi : i < l.length) (hf : (A9 l i).length ≤ 4096) : legalB l (A9 l i) = true := by
 obtain ⟨_, _, c⟩ := Bn hv
 have f : ∀ h : Nat, h < l.length → atI l (h : Int) ∈ l := fun h hh => Aj (by omega) (by omega)
 obtain ⟨⟨m0, m1⟩, m2⟩ := Jk (i := (i : Int)) c ⟨by omega, by omega⟩ l.length (Nat.le_refl _)
 have z := (V9 (i := (i : Int)) c l.length (Nat.le_refl _)).2
 have hs : Af l (i : Int) = 1 + mostJ l (i : Int) l.length := rfl
 obtain ⟨ri, fi⟩ := c _ (f i hi)
 simp only [An, D4] at ri fi
 refine Auf hv hf (fun j v => ?_) fun a b n o => ?_
 ·rcases Xi v with ⟨o, rfl⟩ | rfl | ⟨h, k, g, h2, h3, rfl⟩
  ·obtain ⟨m, p, b3, _⟩ := z o
   obtain ⟨t, u⟩ := c _ (Aj m.1 m.2)
   simp only [An, D4] at t u
   refine ⟨m, ⟨by dsimp only; omega, by dsimp only; omega⟩, ⟨Int.le_refl _, by dsimp only; omega⟩, ⟨by dsimp only; omega, by dsimp only; omega⟩, ?_⟩
   simp [Dl]; omega
  ·refine ⟨⟨by show (0 : Int) ≤ (i : Int); omega, by show (i : Int) < l.length; omega⟩, ⟨?_, ?_⟩, ⟨?_, ?_⟩, ⟨?_, ?_⟩, rfl⟩
   ·show 0 ≤ Af l (i : Int) - (atI l (i : Int)).J; omega
   ·show Af l (i : Int) - (atI l (i : Int)).J ≤ _; omega
   ·show Af l (i : Int) - (atI l (i : Int)).J ≤ Af l (i : Int); omega
   ·show Af l (i : Int) ≤ Af l (i : Int) - (atI l (i : Int)).J + (atI l (i : Int)).J; omega
   ·show 1 ≤ (atI l (i : Int)).C; omega
   ·exact Int.le_refl _
  ·obtain ⟨t, u⟩ := c _ (f h g)
   simp only [An, D4] at t u
   have v := m2 h g h2
   have a1 : 0 ≤ (k : Int) * (atI l (h : Int)).T := Int.mul_nonneg (by omega) (by omega)
   have a0 := ((W9 (i := (i : Int)) c ⟨by omega, by omega⟩ g).2 k).1 h3
   refine ⟨⟨by dsimp only; omega, by dsimp only; omega⟩, ⟨by dsimp only; omega, by dsimp only; omega⟩, ?_, ⟨by dsimp only; omega, Int.le_refl _⟩, rfl⟩
   dsimp only
   by_cases e : k = 0
   ·subst e; rw [if_pos rfl]; constructor <;> simp <;> omega
   ·rw [if_neg e]; omega
 ·refine (Axk (r := Ae7 l) ?_ n o : Ae7 l _ _)
  unfold A9
  refine List.pairwise_append.2 ⟨?_, List.pairwise_cons.2 ⟨fun y hy e => ?_, Ace c _ (Nat.le_refl _)⟩, fun x d y hy e => ?_⟩
  ·unfold Bj; split
   ·exact List.pairwise_singleton _ _
   ·exact List.Pairwise.nil
  ·obtain ⟨h, k, g, h2, _, rfl⟩ := Nl hy
   have e : (i : Int) = (h : Int) := e
   rw [e] at h2; omega
  ·unfold Bj at d
   split at d
   ·rename_i s
    obtain ⟨m, p, b3, _⟩ := z s
    have d := List.mem_singleton.1 d
    rcases List.mem_cons.1 hy with hy | hy
    ·rw [d, hy] at e
     have e : (blkN l (i : Int) l.length).1 = (i : Int) := e
     rw [e] at p; omega
    ·obtain ⟨h, k, g, h2, _, rfl⟩ := Nl hy
     rw [d] at e
     have e : (blkN l (i : Int) l.length).1 = (h : Int) := e
     rw [e] at p; omega
   ·simp at d
end Go.L.Try
namespace Go.L.Try
open Go Go.L
variable {l : List Ab} {i : Nat}
theorem Auj {A C : List Job} {x : Job} (m : Nat) : jb (A ++ x :: C) (A.length + (m + 1)) = jb C m := by
 unfold jb atI
 rw [List.getD_eq_getElem?_getD, List.getD_eq_getElem?_getD, Int.toNat_natCast, Int.toNat_natCast, List.getElem?_append_right (by omega), show A.length + (m + 1) - A.length = m + 1 by omega, List.getElem?_cons_succ]
theorem Aku (hv : D5 l) (hl : ∀ t ∈ l, Mid t) (hn : l.length ≤ 6) (hi : i < l.length) (hf : (A9 l i).length ≤ 4096) : Scene l (A9 l i) i (Bj l i).length (Af l i).toNat (blockP l i).toNat ((atI l (i : Int)).D - (atI l (i : Int)).J).toNat := by
 have hb := Pz hv hi hf
 have S := Mc hb
 obtain ⟨_, _, v⟩ := Bn hv
 have ah : ∀ h : Nat, h < l.length → atI l (h : Int) ∈ l := fun h z => Aj (by omega) (by omega)
 obtain ⟨⟨m0, m1⟩, m2⟩ := Jk (i := (i : Int)) v ⟨by omega, by omega⟩ l.length (Nat.le_refl _)
 obtain ⟨bf, bt⟩ := V9 (i := (i : Int)) v l.length (Nat.le_refl _)
 have hs : Af l (i : Int) = 1 + mostJ l (i : Int) l.length := rfl
 obtain ⟨ri, fi⟩ := v _ (ah i hi)
 simp only [An, D4] at ri fi
 have hp : isP l (i : Int) = true := by unfold isP; exact decide_eq_true ⟨hv, by omega, by omega⟩
 have au : blockP l (i : Int) = Iv l (i : Int) l.length := by unfold blockP; rw [if_pos hp]
 have aq := (Pa v (i : Int) l.length (Nat.le_refl _)).1
 obtain ⟨a, a4⟩ : ∃ a : Nat, Af l (i : Int) = a := ⟨(Af l (i : Int)).toNat, by omega⟩
 obtain ⟨B, hB⟩ : ∃ B : Nat, blockP l (i : Int) = B := ⟨(blockP l (i : Int)).toNat, by omega⟩
 obtain ⟨M, hM⟩ : ∃ M : Nat, (atI l (i : Int)).D - (atI l (i : Int)).J = M := ⟨((atI l (i : Int)).D - (atI l (i : Int)).J).toNat, by omega⟩
 rw [a4, hB, hM, Int.toNat_natCast, Int.toNat_natCast, Int.toNat_natCast]
 have f : jb (A9 l (i : Int)) (Bj l (i : Int)).length = Cz l (i : Int) := Anp
 have hk : (Bj l (i : Int)).length < (A9 l (i : Int)).length := by unfold A9; simp only [LA, List.length_cons]; omega
 have cases : ∀ m, m < (A9 l (i : Int)).length → ((blkN l (i : Int) l.length).2 = true ∧ m = 0 ∧ jb (A9 l (i : Int)) m = ⟨(blkN l (i : Int) l.length).1, Af l (i : Int) - 1, Af l (i : Int) - 1, (atI l (blkN l (i : Int) l.length).1).Q, [(atI l (blkN l (i : Int) l.length).1).Q]⟩) ∨ ((m = (Bj l (i : Int)).length ∨ (atI l (jb (A9 l (i : Int)) m).task).P < (atI l (i : Int)).P) ∧ (a : Int) ≤ (jb (A9 l (i : Int)) m).release ∧ (jb (A9 l (i : Int)) m).cuts = []) := fun m hm => by
  by_cases o : (blkN l (i : Int) l.length).2 = true ∧ m = 0
  ·left
   refine ⟨o.1, o.2, ?_⟩
   rw [o.2]
   unfold A9 Bj
   rw [if_pos o.1]; rfl
  ·right
   have ac : ∃ m', m = (Bj l (i : Int)).length + m' := by
    refine ⟨m - (Bj l (i : Int)).length, ?_⟩
    unfold Bj at o ⊢
    split
    ·rename_i h
     have : m ≠ 0 := fun e => o ⟨h, e⟩
     simp; omega
    ·simp
   obtain ⟨m', rfl⟩ := ac
   cases m' with
   | zero =>
    rw [Nat.add_zero, f]
    exact ⟨.inl rfl, by show (a : Int) ≤ Af l (i : Int); omega, rfl⟩
   | succ m' =>
    have ab : m' < (upC l (i : Int) l.length).length := by unfold A9 at hm; simp only [LA, List.length_cons] at hm; omega
    have e : jb (A9 l (i : Int)) ((Bj l (i : Int)).length + (m' + 1)) = (upC l (i : Int) l.length)[m'] := by
     unfold A9
     rw [Auj]
     exact Bw ab
    obtain ⟨h, k, h1, h2, h3, h4⟩ := Nl (List.getElem_mem ab)
    rw [e, h4]
    obtain ⟨t1, t2, t3⟩ := (W9 (i := (i : Int)) v ⟨by omega, by omega⟩ h1).1
    refine ⟨.inr h2, ?_, rfl⟩
    dsimp only
    by_cases ek : k = 0
    ·rw [if_pos ek]; omega
    ·rw [if_neg ek]
     have : 1 * (atI l (h : Int)).T ≤ (k : Int) * (atI l (h : Int)).T := Int.mul_le_mul_of_nonneg_right (by omega) (by omega)
     omega
 have ae : (atI l (jb (A9 l (i : Int)) (Bj l (i : Int)).length).task).P = (atI l (i : Int)).P := by rw [f]; rfl
 have aa : ∀ h : Nat, h < l.length → (atI l (h : Int)).P < (atI l (i : Int)).P → ∀ n : Nat, 1 ≤ n → n ≤ M → ((n : Int) + (atI l (h : Int)).J + (atI l (h : Int)).T - 1) / (atI l (h : Int)).T ≤ cntB (A9 l (i : Int)) h ((a + n : Nat) : Int) := fun h z hP n h1 h2 => by
  obtain ⟨⟨t1, t2, t3⟩, t4⟩ := W9 (i := (i : Int)) v ⟨by omega, by omega⟩ z
  obtain ⟨A, C, al⟩ := Ak9 (n := l.length) (i := (i : Int)) z hP
  have hc : Ij (atI l (h : Int)).T (n + (atI l (h : Int)).J) ≤ cntB (A9 l (i : Int)) h ((a + n : Nat) : Int) := by
   unfold A9
   rw [V3, Adf, al, V3, V3]
   have := Ajz (s := Af l (i : Int)) (x := ((a + n : Nat) : Int)) (h := h) (t := atI l (h : Int)) (c := Ij (atI l (h : Int)).T (n + (atI l (h : Int)).J)) (N := Jl l (i : Int) h) (by
    apply Classical.byContradiction
    intro as
    have a1 := (S4 t1 (p := (n : Int) + (atI l (h : Int)).J) (Jl l (i : Int) h)).1 (by omega)
    have a2 := (t4 (Jl l (i : Int) h)).2 (by omega)
    omega) (fun k hk => by
     have := (S4 t1 k).1 hk
     by_cases e : k = 0
     ·rw [if_pos e]; omega
     ·rw [if_neg e]; omega)
   omega
  unfold Ij at hc
  have h0 : 0 ≤ ((n : Int) + (atI l (h : Int)).J + (atI l (h : Int)).T - 1) / (atI l (h : Int)).T := Int.ediv_nonneg (by omega) (by omega)
  omega
 have a6 : ∀ j ∈ A9 l (i : Int), (atI l j.task).P < (atI l (i : Int)).P → j.work = (atI l j.task).C := fun j hj hP => by
  rcases Xi hj with ⟨ai, rfl⟩ | rfl | ⟨h, k, h1, h2, h3, rfl⟩
  ·have := (bt ai).2.1
   dsimp only at hP; omega
  ·have hP : (atI l (i : Int)).P < (atI l (i : Int)).P := hP
   omega
  ·rfl
 have g : (blkN l (i : Int) l.length).2 = true → 0 < (Bj l (i : Int)).length := fun h => by unfold Bj; rw [if_pos h]; simp
 have a9 : (blkN l (i : Int) l.length).2 = true → (atI l (blkN l (i : Int) l.length).1).Q = B + 1 := fun h => by have := (bt h).2.2.2; omega
 have af : (blkN l (i : Int) l.length).2 = false → B = 0 := fun h => by have := bf h; omega
 have ao : (blkN l (i : Int) l.length).2 = true → (atI l (i : Int)).P < (atI l (blkN l (i : Int) l.length).1).P := fun h => (bt h).2.1
 generalize hJ : A9 l (i : Int) = jobs at *
 generalize hkk : (Bj l (i : Int)).length = k at *
 generalize hbk : blkN l (i : Int) l.length = bk at *
 obtain ⟨b, sm⟩ := bk
 dsimp only at *
 have ak : ∀ r, r < jobs.length → (upL l jobs k r ∨ (sm = true ∧ r = 0)) := fun r u => by
  rcases cases r u with h | h
  ·exact .inr ⟨h.1, h.2.1⟩
  ·left
   unfold upL
   rw [ae]
   exact h.1
 have y : sm = true → ¬ upL l jobs k 0 := fun h hu => by
  have h0 : 0 < jobs.length := by have := g h; omega
  rcases cases 0 h0 with h1 | h1
  ·have hx := ao h
   rcases hu with hu | hu
   ·have := g h; omega
   ·rw [h1.2.2, ae] at hu
    dsimp only at hu; omega
  ·have e : jb jobs 0 = ⟨b, Af l (i : Int) - 1, Af l (i : Int) - 1, (atI l b).Q, [(atI l b).Q]⟩ := by
    rw [← hJ]
    unfold A9 Bj
    rw [hbk, if_pos h]; rfl
   have := h1.2.1
   rw [e] at this
   dsimp only at this; omega
 have a8 : ∀ r n, r < jobs.length → O3 l jobs r n = true → sm = true ∧ r = 0 := fun r n u h => by
  rcases cases r u with h1 | h1
  ·exact ⟨h1.1, h1.2.1⟩
  ·unfold O3 at h
   rw [h1.2.2] at h; cases h
 have blk : sm = true → ∀ m : Nat, m ≤ B + 1 → dn l jobs 0 (a - 1 + m) = m ∧ (m < B + 1 → who l jobs (a - 1 + m) = (0 : Nat)) := fun h => by
  have h0 : 0 < jobs.length := by have := g h; omega
  have e : jb jobs 0 = ⟨b, Af l (i : Int) - 1, Af l (i : Int) - 1, (atI l b).Q, [(atI l b).Q]⟩ := by
   rcases cases 0 h0 with h1 | h1
   ·exact h1.2.2
   ·rw [← hJ]
    unfold A9 Bj
    rw [hbk, if_pos h]; rfl
  have hq := a9 h
  have d : dn l jobs 0 (a - 1) = 0 := Aew S h0 (by rw [e]; dsimp only; omega)
  have first : who l jobs (a - 1) = (0 : Nat) := by
   refine Arc S (fun r u => ?_) ⟨h0, by rw [e]; dsimp only; omega, by rw [e, d]; dsimp only; omega, fun r u a3 hd => ?_⟩
   ·cases z : O3 l jobs r (a - 1) with
    | false => rfl
    | true =>
     obtain ⟨_, rfl⟩ := a8 r _ u z
     unfold O3 at z
     rw [d, e] at z
     simp [As] at z
   ·rcases cases r u with h1 | h1
    ·rw [h1.2.1]; exact .inr ⟨Int.le_refl _, Nat.le_refl _⟩
    ·have := h1.2.1; omega
  intro m
  induction m with
  | zero => intro _; exact ⟨d, fun _ => first⟩
  | succ m ih =>
   intro hm
   obtain ⟨a1, a2⟩ := ih (by omega)
   have a2 := a2 (by omega)
   have hd := G6 S h0 (a - 1 + m)
   rw [if_pos a2, a1] at hd
   have e2 : a - 1 + (m + 1) = a - 1 + m + 1 := by omega
   rw [e2]
   refine ⟨by rw [hd]; omega, fun a7 => ?_⟩
   refine Arb S h0 ?_
   unfold O3
   rw [hd, e]
   simp [As]; omega
 refine ⟨⟨S, hk, ?_, fun j hj hu => ?_, fun n am ad r hw hu => ?_, fun n am ad hd => ?_, fun n ad hw j hj hu aj a3 => ?_⟩, hb, hl, hn, by rw [f]; rfl, by omega, by omega, by rw [f]; rfl, ?_, a6, aa⟩
 ·rw [f]; show Af l (i : Int) = a; exact a4
 ·rcases cases j hj with h | h
  ·have := y h.1
   rw [h.2.1] at hu; exact absurd hu this
  ·exact h.2.1
 ·cases hsm : sm with
  | false => have := af hsm; omega
  | true =>
   have := (blk hsm (n + 1) (by omega)).2 (by omega)
   rw [show a - 1 + (n + 1) = a + n by omega] at this
   rw [this] at hw
   have : r = 0 := by omega
   subst this
   exact y hsm hu
 ·have ap : 0 ≤ who l jobs (a + n) := by
   rcases Int.lt_or_le (who l jobs (a + n)) 0 with h | h
   ·have := Afk S h hk (by rw [f]; show Af l (i : Int) ≤ _; omega); omega
   ·exact h
  obtain ⟨r, u⟩ : ∃ r : Nat, who l jobs (a + n) = r := ⟨(who l jobs (a + n)).toNat, by omega⟩
  have a0 := Tx S u
  rcases ak r a0.1 with h | h
  ·exact ⟨r, u, h⟩
  ·exfalso
   obtain ⟨h1, rfl⟩ := h
   have hq := a9 h1
   have an := (blk h1 (B + 1) (Nat.le_refl _)).1
   have ag := S7 S a0.1 (show a - 1 + (B + 1) ≤ a + n by omega)
   have ar : (jb jobs 0).work = (atI l b).Q := by
    rcases cases 0 a0.1 with h2 | h2
    ·rw [h2.2.2]
    ·rw [← hJ]
     unfold A9 Bj
     rw [hbk, if_pos h1]; rfl
   have := a0.2
   omega
 ·have a5 : ∀ r, r < jobs.length → O3 l jobs r (a + n) = false := fun r u => by
   cases z : O3 l jobs r (a + n) with
   | false => rfl
   | true =>
    exfalso
    obtain ⟨h1, rfl⟩ := a8 r _ u z
    have := Arb S u z
    rw [this] at hw
    have := g h1
    omega
  obtain ⟨b1, b2, b3, b4⟩ := Ayq S a5 hw
  have hd := (Qk S hj (a + n)).2
  by_cases a7 : dn l jobs j (a + n) < (jb jobs j).work
  ·have h4 := b4 j hj a3 a7
   rcases hu with hu | hu
   ·exact absurd hu aj
   ·omega
  ·omega
 ·rw [f]; show Af l (i : Int) - _ = _; rw [a4]
end Go.L.Try
set_option maxHeartbeats 4000000
namespace Go.L.Try
open Go Go.L
variable {E : Env} {G : Nat}
theorem Aen (hE : Ay E) {h : Aa} {vl : Value} {l : List Ab} (hl : Rd 7 A0 h vl l) (hs : ∀ t ∈ l, t.name.size < 1152921504606846976) (i : Int) :
  callW E (.func (.func Iq) #[] #[]) [vl, .int .i64 i] h = some (.bool (isP l i), h, []) := by
 have a := Ta hE hl hs
 have few := hl.few
 refine Am hE.Ar7 rfl (by simp) ?_
 simp only [Ak]
 (repeat' (first | (with_reducible refine A1 (fun _ => ?_) (fun _ => ?_) <;> try (exfalso; omega)) | simp -dsimp (disch := omega) only [↓EA, EB, Nat.reduceEqDiff, ↓reduceIte, reduceCtorEq, eq_self, *, hl.len]))
 ·congr 1; unfold isP; exact decide_eq_decide.2 (by omega)
 ·congr 1; unfold isP; exact (decide_eq_false (by omega)).symm
 ·congr 1; unfold isP; exact (decide_eq_false (by omega)).symm
def X3 (l : List Ab) (a : Int) (m : Nat) : Int := max a (atI l (m : Int)).J
theorem Ajh (l : List Ab) (i : Int) : accL (X3 l) (atI l i).J (placesQ (Bc l i) l) (placesQ (Bc l i) l).length = mostJ l i l.length := by
 rw [Sq]
 exact Kg (mostJ l i) rfl (fun k => by show (if _ then _ else _) = _; simp only [Bc, decide_eq_true_eq]; rfl) _
theorem A0c (hE : Ay E) (hZ : Fd E G) {h : Aa} (ht : Tab G h) {vl : Value} {l : List Ab} (hl : Rd 7 A0 h vl l) (hs : ∀ t ∈ l, t.name.size < 1152921504606846976) {i : Int} (hb : isP l i = true) :
  callW E (.func (.func Ig) #[] #[]) [vl, .int .i64 i] h = some (.int .i64 (Af l i), h, []) := by
 have hi := fun x => Aen hE (hl.app x) hs i
 have hc := hl.cv
 have ho := hl.one
 refine Am hE.Afz rfl (by simp) ?_
 simp only [Ak]
 rw [hb] at hi
 obtain ⟨y, j, z⟩ := E7 hb
 have q := fun x => Aeo hE (hl.app x) y j
 have ok := D7 (Bc l i) l l.length
 have ev := Jp (Bc l i) j
 have Hf := Hid.mk (Ajh l i)
 have Hm := Hid.mk (fun m (h : m ∈ placesQ (Bc l i) l) => Mt h)
 have a1 := (z _ (Aj y.1 y.2)).1
 simp only [An] at a1
 have a6 : 0 ≤ (atI l i).J ∧ (atI l i).J ≤ 2147483647 := by omega
 clear a1
 generalize placesQ (Bc l i) l = es at *
 generalize thoseW (Bc l i) l l.length = w at *
 have p := fun x => hl.app x
 have g := hl.app [LObj.cells [vl] false]
 (repeat' simp -dsimp (disch := omega) only [↓EA, EB, Nat.reduceEqDiff, ↓reduceIte, reduceCtorEq, Ac, eq_self, *, g.ixs, g.ld, A0])
 refine J4 (Awc hE _ ok) fun v ys hr ad => ?_
 obtain ⟨bx, rfl, ab, s⟩ := hr
 (repeat' simp -dsimp (disch := omega) only [↓EA, EB, Nat.reduceEqDiff, ↓reduceIte, eq_self, *])
 simp only [List.append_assoc, List.cons_append, List.nil_append, LA, List.length_cons, List.length_nil] at s ab
 have a5 := (GI.1 s).1
 have a3 : Pre h (h ++ LObj.cells [vl] false :: LObj.cells [Value.int IntKind.i64 (atI l i).J] false :: ys) := Pre.app h _
 have e : ∀ m, m ∈ es → 0 ≤ (atI l (m : Int)).J ∧ (atI l (m : Int)).J ≤ 2147483647 := fun m u => by
  have ac := Hm.out m u
  have := (z _ (Aj (l := l) (i := (m : Int)) (by omega) (by omega))).1
  simp only [An] at this; omega
 have d : ∀ k, 0 ≤ accL (X3 l) (atI l i).J es k ∧ accL (X3 l) (atI l i).J es k ≤ 2147483647 := Pb (fun a => 0 ≤ a ∧ a ≤ 2147483647) a6 (fun a m u ⟨h1, h2⟩ => by
  have := e m u
  unfold X3; omega)
 refine V2 hE.keep rfl (Wb hE hZ ok bx) (c := h.length + 1) (by simp) (by omega) (fun k => .int .i64 (accL (X3 l) (atI l i).J es k)) (fun _ => rfl) (by rw [Ke]; rfl) rfl (fun hh e1 e2 => ⟨by rw [e2 bx a5 (by omega)]; exact s, ht.pre fun b o hb => by have a7 := (GI.1 hb).1; rw [e2 b (by simp; omega) (by omega)]; exact a3 b o hb⟩) ?_ ?_
 ·intro k a ha
  rw [ev, List.getElem?_map] at ha
  obtain ⟨m, u, rfl⟩ := OM.1 ha
  have n := List.mem_of_getElem? u
  have ac := Hm.out m n
  have hq := e m n
  have r := Hid.mk (Md (f := X3 l) (a0 := (atI l i).J) u)
  have ae := d k
  clear ha u d e Hf ev ok q hi hb z g p
  refine ⟨_, rfl, fun hh g1 g2 g3 => ?_⟩
  unfold O8
  (repeat' simp -dsimp (disch := omega) only [↓EA, EB, Nat.reduceEqDiff, Nat.reduceAdd, ↓reduceIte, eq_self, *])
  refine ⟨[], (List.append_nil _).symm, fun a4 k1 k2 k3 => ?_⟩
  have a8 : Pre h a4 := fun b o hb => by
   have a7 := (GI.1 hb).1
   rw [k3 b (by omega) (by omega)]; exact a3 b o hb
  have a2 := hl.pre a8
  have b1 : a4[h.length]? = some (.cells [vl] false) := by rw [k3 h.length (by omega) (by omega), Bm]; rfl
  generalize accL (X3 l) (atI l i).J es k = A at *
  have Hb := Hid.mk (show X3 l A m = max A (atI l (m : Int)).J from rfl)
  unfold O7
  (repeat' simp -dsimp (disch := omega) only [↓EA, EB, Nat.reduceEqDiff, ↓reduceIte, eq_self, *, a2.ixs, a2.ld, A0, true_or])
  exact ⟨[], by rw [List.append_nil, r.out, Hb.out]⟩
 ·rw [ev, List.length_map, Hf.out]
  have a9 : Af l i = 1 + mostJ l i l.length := rfl
  have aa := d es.length
  rw [Hf.out] at aa
  rw [a9]
  clear Hf d e ev g p
  generalize mostJ l i l.length = mj at *
  (repeat' simp -dsimp (disch := omega) only [↓EA, EB, Nat.reduceEqDiff, ↓reduceIte, eq_self, *])
end Go.L.Try
namespace Go.L.Try
open Go Go.L
variable {E : Env} {G : Nat}
theorem Avp (hK : N2 E) {sz : Nat} {fr : Fr} {H : Aa} {g : X} {ps : List Nat} {assign body : C} {W : Nat → Prop} {Q : Ex → Fr → Aa → Prop} {f : FuncId} {ca cb : Array Value} {base : Aa → Prop} {vals : List (List Value)}
  (hg : ev (get fr) g = .func (.func f) ca cb) (hI : Afd E (.func (.func f) ca cb) base vals) {c : Nat} (hcl : c + 1 < H.length) (hWc : W c) (hWd : W (c + 1)) (acc acd : Nat → Value) (hs : ∀ k, U9 (acc k) = true ∧ U9 (acd k) = true) (h0 : H[c]? = some (.cells [acc 0] false)) (h1 : H[c + 1]? = some (.cells [acd 0] false))
  (hps : ps.all (fun p => decide (p < sz)) = true) (hbase : ∀ hh : Aa, H.length ≤ hh.length → (∀ b, b < H.length → b ≠ c → b ≠ c + 1 → hh[b]? = H[b]?) → base hh)
  (hstep : ∀ k a, vals[k]? = some a → ∃ fr0, Go.L.setPs ps a fr = some fr0 ∧ ∀ hh : Aa, hh.length = H.length + 1 → hh[c]? = some (.cells [acc k] false) → hh[c + 1]? = some (.cells [acd k] false) → (∀ b, b < H.length → b ≠ c → b ≠ c + 1 → hh[b]? = H[b]?) →
   WO (fun b => (b = c ∨ b = c + 1) ∨ H.length < b) (code (callW E) iterW sz assign fr0 hh) (fun e fr1 h1 => e = .normal ∧ ∃ zs, h1 = hh ++ zs ∧ ∀ hh2 : Aa, hh2.length = H.length + 1 → hh2[c]? = some (.cells [acc k] false) → hh2[c + 1]? = some (.cells [acd k] false) → (∀ b, b < H.length → b ≠ c → b ≠ c + 1 → hh2[b]? = H[b]?) →
    WO (fun b => (b = c ∨ b = c + 1) ∨ H.length < b) (code (callW E) iterW sz body fr1 (hh2 ++ zs)) (fun e2 _ h2 => e2 = .normal ∧ ∃ ys, h2 = (hh2.set c (.cells [acc (k + 1)] false)).set (c + 1) (.cells [acd (k + 1)] false) ++ ys)))
  (hend : Q .normal fr ((H.set c (.cells [acc vals.length] false)).set (c + 1) (.cells [acd vals.length] false))) :
  WO W (code (callW E) iterW sz (.rng g ps assign body) fr H) Q := by
 refine Avm hK (W' := fun b => (b = c ∨ b = c + 1) ∨ H.length ≤ b) hg (fun x hx a0 => by rcases hx with (rfl | rfl) | hx; exact hWc; exact hWd; omega) ?_
 generalize hLr : LObj.loop _ = lo
 have l : ∀ k, (((H ++ [lo]).set c (.cells [acc k] false)).set (c + 1) (.cells [acd k] false)).length = H.length + 1 ∧ (((H ++ [lo]).set c (.cells [acc k] false)).set (c + 1) (.cells [acd k] false))[c]? = some (.cells [acc k] false) ∧ (((H ++ [lo]).set c (.cells [acc k] false)).set (c + 1) (.cells [acd k] false))[c + 1]? = some (.cells [acd k] false) ∧ ∀ b, b < H.length → b ≠ c → b ≠ c + 1 → (((H ++ [lo]).set c (.cells [acc k] false)).set (c + 1) (.cells [acd k] false))[b]? = H[b]? := fun k => by
  refine ⟨by simp, by rw [Bd (by omega)]; exact Cb (by simp; omega), Cb (by simp; omega), fun b j r n => ?_⟩
  rw [Bd (Ne.symm n), Bd (Ne.symm r), GL j]
 refine WX.mono (hI (H ++ [lo]) H.length (fun b => (b = c ∨ b = c + 1) ∨ H.length ≤ b) (fun k hh => hh = ((H ++ [lo]).set c (.cells [acc k] false)).set (c + 1) (.cells [acd k] false)) (fun _ => False) ?_ ?_ (fun _ hf => hf.elim) ?_) (fun b j => j) ?_
 ·rintro k hh rfl
  obtain ⟨a, b, d, e⟩ := l k
  exact ⟨by simp, hbase _ (by rw [a]; omega) e⟩
 ·have e1 : (H ++ [lo]).set c (.cells [acc 0] false) = H ++ [lo] := De (by rw [GL (by omega)]; exact h0)
  rw [e1]
  exact (De (by rw [GL (by omega)]; exact h1)).symm
 ·rintro k hh a ha rfl
  obtain ⟨fr0, s, u⟩ := hstep k a ha
  obtain ⟨y, g2, t, g3⟩ := l k
  have hL : (((H ++ [lo]).set c (.cells [acc k] false)).set (c + 1) (.cells [acd k] false))[H.length]? = some lo := by rw [Bd (by omega), Bd (by omega), Bm]; rfl
  have hA := u _ y g2 t g3
  have o : ((((H ++ [lo]).set c (.cells [acc k] false)).set (c + 1) (.cells [acd k] false)).set c (.cells [acc (k + 1)] false)).set (c + 1) (.cells [acd (k + 1)] false) = ((H ++ [lo]).set c (.cells [acc (k + 1)] false)).set (c + 1) (.cells [acd (k + 1)] false) := by
   have e : (((H ++ [lo]).set c (.cells [acc k] false)).set (c + 1) (.cells [acd k] false)).set c (.cells [acc (k + 1)] false) = ((H ++ [lo]).set c (.cells [acc (k + 1)] false)).set (c + 1) (.cells [acd k] false) := by
    rw [List.set_comm (LObj.cells [acd k] false) (LObj.cells [acc (k + 1)] false) (show c + 1 ≠ c by omega), List.set_set]
   rw [e, List.set_set]
  generalize ((H ++ [lo]).set c (.cells [acc k] false)).set (c + 1) (.cells [acd k] false) = hh at *
  subst hLr
  refine WX.mono (Afg hK (W := fun b => (b = c ∨ b = c + 1) ∨ H.length < b) (Rr := fun e z => e = .normal ∧ z = (hh.set c (.cells [acc (k + 1)] false)).set (c + 1) (.cells [acd (k + 1)] false)) hL rfl rfl hps s (fun b j => by omega) ?_) (fun b j => by omega) ?_
  ·refine hA.mono (fun b j => j) ?_
   rintro e fr1 h1 ⟨rfl, zs, rfl, hB⟩
   refine ⟨rfl, ?_⟩
   have m : ∀ x : LObj, (hh ++ zs).set H.length x = hh.set H.length x ++ zs := fun x => by rw [List.set_append_left _ _ (by omega)]
   rw [m]
   refine (hB (hh.set H.length _) (by rw [List.length_set]; exact y) (by rw [Bd (by omega)]; exact g2) (by rw [Bd (by omega)]; exact t) (fun b j r n => by rw [Bd (by omega)]; exact g3 b j r n)).mono (fun b j => j) ?_
   rintro e2 a1 h2 ⟨rfl, ys, rfl⟩
   refine ⟨fun b j hw => ?_, rfl, ?_⟩
   ·rcases hw with (rfl | rfl) | hw
    ·rw [GL (by simp; omega), Bd (by omega), Cb (by simp; omega)]
     exact I1 (hs _).1
    ·rw [GL (by simp; omega), Cb (by simp; omega)]
     exact I1 (hs _).2
    ·omega
   ·rw [List.set_append_left _ _ (by simp; omega), List.set_comm _ _ (show c + 1 ≠ H.length by omega), Afw hL (by omega), List.take_left' (by simp)]
  ·rintro v h' ⟨e, z, ⟨rfl, rfl⟩, rfl, rfl⟩
   exact .inl ⟨rfl, o⟩
 ·rintro v h' (rfl | hf)
  ·refine ⟨_, by rw [Bd (by omega), Bd (by omega), Bm, ← hLr]; rfl, by simp, ?_, ?_⟩
   ·rintro b j ((rfl | rfl) | hw)
    ·rw [Bd (by omega), Cb (by simp; omega)]; exact I1 (hs _).1
    ·rw [Cb (by simp; omega)]; exact I1 (hs _).2
    ·omega
   ·have e : (((H ++ [lo]).set c (.cells [acc vals.length] false)).set (c + 1) (.cells [acd vals.length] false)).take H.length = (H.set c (.cells [acc vals.length] false)).set (c + 1) (.cells [acd vals.length] false) := by
     rw [List.set_append_left _ _ (by omega), List.set_append_left _ _ (by simp; omega), List.take_left' (by simp)]
    rw [e]; exact hend
  ·exact hf.elim
def Oi (l : List Ab) (a : Int × Bool) (m : Nat) : Int × Bool := if 1 < (atI l (m : Int)).Q ∧ (a.2 = false ∨ (atI l a.1).Q < (atI l (m : Int)).Q) then ((m : Int), true) else a
theorem Ae3 (l : List Ab) (i : Int) : accL (Oi l) (0, false) (placesQ (Du l i) l) (placesQ (Du l i) l).length = blkN l i l.length := by
 rw [Sq]
 refine Kg (blkN l i) rfl (fun k => ?_) _
 show (if _ then _ else _) = _
 simp only [Du, decide_eq_true_eq]
 unfold Oi
 by_cases h : (atI l i).P < (atI l (k : Int)).P
 ·rw [if_pos h]
  simp only [h, true_and]
 ·rw [if_neg h, if_neg fun a => h a.1]
theorem Avx (hE : Ay E) (hZ : Fd E G) {h : Aa} (ht : Tab G h) {vl : Value} {l : List Ab} (hl : Rd 7 A0 h vl l) (hs : ∀ t ∈ l, t.name.size < 1152921504606846976) {i : Int} (hb : isP l i = true) :
  callW E (.func (.func Fq) #[] #[]) [vl, .int .i64 i] h = some (.tuple #[.int .i64 (blkN l i l.length).1, .bool (blkN l i l.length).2], h, []) := by
 have hi := fun x => Aen hE (hl.app x) hs i
 have hc := hl.cv
 have ho := hl.one
 refine Am hE.Abw rfl (by simp) ?_
 simp only [Ak]
 rw [hb] at hi
 obtain ⟨a8, g, aa⟩ := E7 hb
 have q := fun x => Aud hE (hl.app x) a8 g
 have ok := D7 (Du l i) l l.length
 have ev := Jp (Du l i) g
 have Hf := Hid.mk (Ae3 l i)
 have Hm := Hid.mk (fun m (h : m ∈ placesQ (Du l i) l) => Mt h)
 generalize placesQ (Du l i) l = es at *
 generalize thoseW (Du l i) l l.length = w at *
 (repeat' simp -dsimp (disch := omega) only [↓EA, EB, Nat.reduceEqDiff, Nat.reduceAdd, ↓reduceIte, reduceCtorEq, Ac, eq_self, *])
 refine J4 (Awc hE _ ok) fun v ys hr ae => ?_
 obtain ⟨bx, rfl, ac, j⟩ := hr
 (repeat' simp -dsimp (disch := omega) only [↓EA, EB, Nat.reduceEqDiff, ↓reduceIte, eq_self, *])
 simp only [List.append_assoc, List.cons_append, List.nil_append, LA, List.length_cons, List.length_nil] at j ac
 have a3 := (GI.1 j).1
 have y : Pre h (h ++ LObj.cells [vl] false :: LObj.cells [Value.int IntKind.i64 0] false :: LObj.cells [Value.bool false] false :: ys) := Pre.app h _
 have n : ∀ k, 0 ≤ (accL (Oi l) (0, false) es k).1 ∧ (accL (Oi l) (0, false) es k).1 < l.length := Pb (fun (a : Int × Bool) => 0 ≤ a.1 ∧ a.1 < l.length) ⟨by dsimp only; omega, by dsimp only; omega⟩ (fun a m u ⟨h1, h2⟩ => by
  have := Hm.out m u
  unfold Oi
  split
  ·dsimp only; omega
  ·exact ⟨h1, h2⟩)
 refine Avp hE.keep rfl (Wb hE hZ ok bx) (c := h.length + 1) (by simp; omega) (by omega) (by omega) (fun k => .int .i64 (accL (Oi l) (0, false) es k).1) (fun k => .bool (accL (Oi l) (0, false) es k).2) (fun _ => ⟨rfl, rfl⟩) (by rw [Ke]; rfl) (by rw [show h.length + 1 + 1 = h.length + 2 from rfl, Ke]; rfl) rfl (fun hh e1 e2 => ⟨by rw [e2 bx a3 (by omega) (by omega)]; exact j, ht.pre fun b o hb => by have a5 := (GI.1 hb).1; rw [e2 b (by simp; omega) (by omega) (by omega)]; exact y b o hb⟩) ?_ ?_
 ·intro k a ha
  rw [ev, List.getElem?_map] at ha
  obtain ⟨m, u, rfl⟩ := OM.1 ha
  have z := List.mem_of_getElem? u
  have aj := Hm.out m z
  have d := Hid.mk (Md (f := Oi l) (a0 := (0, false)) u)
  have ab := n k
  clear ha u n Hf ev ok q hi hb aa
  refine ⟨_, rfl, fun hh g1 g2 ag g3 => ?_⟩
  unfold M7
  (repeat' simp -dsimp (disch := omega) only [↓EA, EB, Nat.reduceEqDiff, Nat.reduceAdd, ↓reduceIte, eq_self, *])
  refine ⟨[], (List.append_nil _).symm, fun p k1 k2 a6 k3 => ?_⟩
  have a7 : Pre h p := fun b o hb => by
   have a5 := (GI.1 hb).1
   rw [k3 b (by omega) (by omega) (by omega)]; exact y b o hb
  have e := hl.pre a7
  have b1 : p[h.length]? = some (.cells [vl] false) := by rw [k3 h.length (by omega) (by omega) (by omega), Bm]; rfl
  generalize accL (Oi l) (0, false) es k = A at *
  obtain ⟨a1, r⟩ := A
  have Hb := Hid.mk (show Oi l (a1, r) m = if 1 < (atI l (m : Int)).Q ∧ (r = false ∨ (atI l a1).Q < (atI l (m : Int)).Q) then ((m : Int), true) else (a1, r) from rfl)
  unfold M6
  dsimp only at *
  obtain ⟨ad, af⟩ := ab
  rw [show h.length + 1 + 1 = h.length + 2 from rfl] at *
  have ai : (m : Int) < l.length := by omega
  have ah : h.length + 2 < p.length := by omega
  have a4 := De k2
  have s := De a6
  by_cases c1 : 1 < (atI l (m : Int)).Q
  ·by_cases c2 : r = false
   ·subst c2
    (repeat' simp -dsimp (disch := omega) only [↓EA, EB, Nat.reduceEqDiff, ↓reduceIte, eq_self, *, e.ixs, e.ld, A0, true_or, or_true])
    refine ⟨[], ?_⟩
    rw [List.append_nil, d.out, Hb.out, if_pos ⟨c1, .inl rfl⟩]
   ·have a9 : r = true := by cases r; exact absurd rfl c2; rfl
    subst a9
    by_cases c3 : (atI l a1).Q < (atI l (m : Int)).Q
    ·(repeat' simp -dsimp (disch := omega) only [↓EA, EB, Nat.reduceEqDiff, ↓reduceIte, eq_self, *, e.ixs, e.ld, A0, true_or, or_true])
     refine ⟨[], ?_⟩
     rw [List.append_nil, d.out, Hb.out, if_pos ⟨c1, .inr c3⟩]
    ·(repeat' simp -dsimp (disch := omega) only [↓EA, EB, Nat.reduceEqDiff, ↓reduceIte, eq_self, *, e.ixs, e.ld, A0])
     refine ⟨[], ?_⟩
     rw [List.append_nil, d.out, Hb.out, if_neg fun hh => by rcases hh.2 with h1 | h1; cases h1; exact c3 h1]
     dsimp only
     rw [a4, s]
  ·(repeat' simp -dsimp (disch := omega) only [↓EA, EB, Nat.reduceEqDiff, ↓reduceIte, eq_self, *, e.ixs, e.ld, A0])
   refine ⟨[], ?_⟩
   rw [List.append_nil, d.out, Hb.out, if_neg fun hh => c1 hh.1]
   dsimp only
   rw [a4, s]
 ·rw [ev, List.length_map, Hf.out]
  clear Hf n ev
  generalize blkN l i l.length = bk at *
  obtain ⟨b1, b2⟩ := bk
  dsimp only
  rw [show h.length + 1 + 1 = h.length + 2 from rfl]
  (repeat' simp -dsimp (disch := omega) only [↓EA, EB, Nat.reduceEqDiff, ↓reduceIte, eq_self, *])
end Go.L.Try
