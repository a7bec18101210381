/- NUMBERS OF 64 BITS: math/bits.Mul64, num.Mul. -/
import Derived.Test.YtlmadipiopnfeaaDoorCode
import Derived.Test.YtlmadipiopnfeaaDoorPa
set_option linter.unusedVariables false
set_option linter.unusedSimpArgs false
set_option maxRecDepth 100000
namespace Go.L.Try
open Go Go.L
variable {E : Env}
def A8 (x : Int) : Prop := 0 ≤ x ∧ x < 18446744073709551616
theorem Aqx {q : EqK} {a : Int} (h1 : 0 ≤ a) (h2 : a < 18446744073709551616) : binOp .and q (.int .u64 a) (.int .u64 4294967295) = some (.int .u64 (a % 4294967296)) := by
 obtain ⟨n, rfl⟩ := Int.eq_ofNat_of_zero_le h1
 have d : n < 18446744073709551616 := by omega
 have e : ((BitVec.ofInt 64 (n : Int)) &&& (BitVec.ofInt 64 4294967295)).toNat = n % 4294967296 := by
  have g : BitVec.ofInt 64 (n : Int) = BitVec.ofNat 64 n := by simp
  have f : BitVec.ofInt 64 4294967295 = BitVec.ofNat 64 4294967295 := by decide
  rw [g, f, BitVec.toNat_and, BitVec.toNat_ofNat, BitVec.toNat_ofNat, Nat.mod_eq_of_lt d]
  exact Nat.and_two_pow_sub_one_eq_mod n 32
 have c : binOp .and q (.int .u64 (n : Int)) (.int .u64 4294967295) = some (.int .u64 (IntKind.u64.wrap (((BitVec.ofInt 64 (n : Int)) &&& (BitVec.ofInt 64 4294967295)).toNat : Nat))) := by simp only [binOp, Ee, if_true]; rfl
 rw [c, e, Oj (by omega) (by omega)]; simp
theorem Aqw {q : EqK} {a : Int} (h1 : 0 ≤ a) : binOp .shr q (.int .u64 a) (.int .u64 32) = some (.int .u64 (a / 4294967296)) := by
 simp only [binOp, Ee]
 rw [if_neg (by decide), Int.fdiv_eq_ediv_of_nonneg _ (by decide)]; rfl
theorem Afh {x : Int} : IntKind.u64.wrap x = x % 18446744073709551616 := by simp [IntKind.wrap, IntKind.bits, IntKind.signed]
theorem Aua (a b : Int) (ha : A8 a) (hb : A8 b) :
  let a0 := a % 4294967296; let a1 := a / 4294967296; let b0 := b % 4294967296; let b1 := b / 4294967296
  (0 ≤ a0 * b0 ∧ a0 * b0 ≤ 18446744065119617025) ∧ (0 ≤ a1 * b0 ∧ a1 * b0 ≤ 18446744065119617025) ∧ (0 ≤ a0 * b1 ∧ a0 * b1 ≤ 18446744065119617025) ∧ (0 ≤ a1 * b1 ∧ a1 * b1 ≤ 18446744065119617025) ∧
  a * b = a1 * b1 * 18446744073709551616 + (a1 * b0 + a0 * b1) * 4294967296 + a0 * b0 := by
 intro a0 a1 b0 b1
 unfold A8 at ha hb
 have k : ∀ x y : Int, 0 ≤ x → x ≤ 4294967295 → 0 ≤ y → y ≤ 4294967295 → 0 ≤ x * y ∧ x * y ≤ 18446744065119617025 := fun x y j h2 g l =>
  ⟨Int.mul_nonneg j g, by have := Int.mul_le_mul h2 l g (by decide : (0:Int) ≤ 4294967295); omega⟩
 have d : 0 ≤ a0 ∧ a0 ≤ 4294967295 := by omega
 have f : 0 ≤ a1 ∧ a1 ≤ 4294967295 := by omega
 have e : 0 ≤ b0 ∧ b0 ≤ 4294967295 := by omega
 have c : 0 ≤ b1 ∧ b1 ≤ 4294967295 := by omega
 refine ⟨k _ _ d.1 d.2 e.1 e.2, k _ _ f.1 f.2 e.1 e.2, k _ _ d.1 d.2 c.1 c.2, k _ _ f.1 f.2 c.1 c.2, ?_⟩
 have n : a = a1 * 4294967296 + a0 := by omega
 have m : b = b1 * 4294967296 + b0 := by omega
 generalize a0 = x0 at *
 generalize a1 = x1 at *
 generalize b0 = y0 at *
 generalize b1 = y1 at *
 subst n m
 grind
theorem A2h (hE : Ay E) (h : Aa) {a b : Int} (ha : A8 a) (hb : A8 b) :
  callW E (.func (.func Ea) #[] #[]) [.int .u64 a, .int .u64 b] h = some (.tuple #[.int .u64 (a * b / 18446744073709551616), .int .u64 (a * b % 18446744073709551616)], h, []) := by
 have c := Aua a b ha hb
 dsimp only at c
 obtain ⟨j, g, l, f, d⟩ := c
 have He := Hid.mk d
 unfold A8 at ha hb
 clear d
 have m := Int.emod_nonneg a (by decide : (4294967296 : Int) ≠ 0)
 have n := Int.emod_nonneg b (by decide : (4294967296 : Int) ≠ 0)
 refine Am hE.Yn rfl (by simp) ?_
 simp only [Ak]
 (repeat' simp -dsimp (disch := omega) only [↓EA, EB, Nat.reduceEqDiff, ↓reduceIte, reduceCtorEq, eq_self, *, Aqx, Aqw, Afh])
 rw [He.out]
 generalize a / 4294967296 * (b / 4294967296) = p11 at *
 generalize a / 4294967296 * (b % 4294967296) = p10 at *
 generalize a % 4294967296 * (b / 4294967296) = p01 at *
 generalize a % 4294967296 * (b % 4294967296) = p00 at *
 have e : p11 + (p10 + p00 / 4294967296) / 4294967296 + ((p10 + p00 / 4294967296) % 4294967296 + p01) / 4294967296 = (p11 * 18446744073709551616 + (p10 + p01) * 4294967296 + p00) / 18446744073709551616 := by omega
 rw [e]
theorem A0s (hE : Ay E) (h : Aa) {a b : Int} (ha : A8 a) (hb : A8 b) :
  callW E (.func (.func Oq) #[] #[]) [.int .u64 a, .int .u64 b] h = some (if a * b < 18446744073709551616 then .tuple #[.int .u64 (a * b), .bool true] else .tuple #[.int .u64 0, .bool false], h, []) := by
 have f := A2h hE h ha hb
 have d : 0 ≤ a * b := Int.mul_nonneg ha.1 hb.1
 generalize a * b = c at *
 refine Am hE.Axr rfl (by simp) ?_
 simp only [Ak]
 have e : c < 18446744073709551616 → c % 18446744073709551616 = c := fun h => by omega
 have Hm := Hid.mk e
 clear e
 (repeat' (first | (with_reducible refine A3 (fun _ => ?_) (fun _ => ?_) <;> try (exfalso; omega)) | simp -dsimp (disch := omega) only [↓EA, EB, Nat.reduceEqDiff, ↓reduceIte, reduceCtorEq, eq_self, *]))
 ·rw [if_neg (by omega)]; exact ⟨rfl, rfl⟩
 ·rw [if_pos (by omega), Hm.out (by omega)]; exact ⟨rfl, rfl⟩
end Go.L.Try
namespace Go.L.Try
open Go Go.L
variable {E : Env}
def sat (x : Int) : Int := if x < 18446744073709551616 then x else 18446744073709551615
theorem An9 {a b : Int} (ha : 0 ≤ a) (hb : 0 < b) : (a + b - 1) / b = if 0 < a % b then a / b + 1 else a / b := by
 have h := Int.emod_add_mul_ediv a b
 have c := Int.emod_nonneg a (by omega : b ≠ 0)
 have h2 := Int.emod_lt_of_pos a hb
 split
 ·have e : a + b - 1 = (a % b - 1) + b * (a / b + 1) := by rw [Int.mul_add, Int.mul_one]; omega
  rw [e, Int.add_mul_ediv_left _ _ (by omega), Int.ediv_eq_zero_of_lt (by omega) (by omega)]; omega
 ·have e : a + b - 1 = (b - 1) + b * (a / b) := by omega
  rw [e, Int.add_mul_ediv_left _ _ (by omega), Int.ediv_eq_zero_of_lt (by omega) (by omega)]; omega
theorem Axt (hE : Ay E) (h : Aa) {a b : Int} (ha : A8 a) (hb : A8 b) :
  callW E (.func (.func Ms) #[] #[]) [.int .u64 a, .int .u64 b] h = some (if b = 0 then .tuple #[.int .u64 0, .bool false] else .tuple #[.int .u64 ((a + b - 1) / b), .bool true], h, []) := by
 unfold A8 at ha hb
 refine Am hE.Atx rfl (by simp) ?_
 have l : a.tdiv b = a / b := Int.tdiv_eq_ediv_of_nonneg ha.1
 have m : a.tmod b = a % b := Int.tmod_eq_emod_of_nonneg ha.1
 have c : 0 ≤ a / b ∧ a / b ≤ a := ⟨Int.ediv_nonneg ha.1 hb.1, Int.ediv_le_self b ha.1⟩
 have j : 0 < b → 0 ≤ a % b ∧ a % b < b := fun h => ⟨Int.emod_nonneg a (by omega), Int.emod_lt_of_pos a h⟩
 have d := Hid.mk (fun h => An9 (a := a) (b := b) ha.1 h)
 have g : (a / b) % 18446744073709551616 = a / b := Int.emod_eq_of_lt c.1 (by omega)
 have e : Hid (0 < a % b → 0 < b → a / b + 1 < 18446744073709551616) := ⟨fun f h2 => by
  by_cases n : b < 2
  ·have : b = 1 := by omega
   subst this; simp at f
  ·have p := Int.mul_le_mul_of_nonneg_left (show (2 : Int) ≤ b by omega) c.1
   have o := Int.ediv_mul_le a (show b ≠ 0 by omega)
   omega⟩
 simp only [Ak]
 (repeat' (first | (with_reducible refine A3 (fun _ => ?_) (fun _ => ?_) <;> try (exfalso; omega)) | simp -dsimp (disch := omega) only [↓EA, EB, Nat.reduceEqDiff, ↓reduceIte, reduceCtorEq, eq_self, *, Afh]))
 ·rw [d.out (by omega), if_pos (by omega), Int.emod_eq_of_lt (by omega) (e.out (by omega) (by omega))]
 ·rw [d.out (by omega), if_neg (by omega)]
end Go.L.Try
namespace Go.L.Try
open Go Go.L
variable {E : Env}
def Aiy : List Value → Aa → Option (Value × Aa × List Nat)
 | [.int .u64 a, .int .u64 b, .int .u64 c], h => if (0 ≤ a ∧ a < 18446744073709551616) ∧ (0 ≤ b ∧ b < 18446744073709551616) ∧ 0 ≤ c ∧ c ≤ 1 then some (.tuple #[.int .u64 ((a + b + c) % 18446744073709551616), .int .u64 ((a + b + c) / 18446744073709551616)], h, []) else none
 | _, _ => none
structure Kp (E : Env) : Prop where
 add64 : E Eb = .ext Aiy
theorem Adi {g : FuncId} {e : List Value → Aa → Option (Value × Aa × List Nat)} (hf : E g = .ext e) (args : List Value) (h : Aa) : callW E (.func (.func g) #[] #[]) args h = e args h := by
 rw [O6]; simp [J3, hf, Gb]
theorem add64 (hX : Kp E) (h : Aa) {a b : Int} (ha : A8 a) (hb : A8 b) :
  callW E (.func (.func Eb) #[] #[]) [.int .u64 a, .int .u64 b, .int .u64 0] h = some (.tuple #[.int .u64 ((a + b) % 18446744073709551616), .int .u64 ((a + b) / 18446744073709551616)], h, []) := by
 rw [Adi hX.add64]
 unfold A8 at ha hb
 simp only [Aiy]
 rw [if_pos ⟨ha, hb, by decide, by decide⟩, Int.add_zero]
theorem A0t (hE : Ay E) (hX : Kp E) (h : Aa) {a b : Int} (ha : A8 a) (hb : A8 b) :
  callW E (.func (.func Ot) #[] #[]) [.int .u64 a, .int .u64 b] h = some (if a + b < 18446744073709551616 then .tuple #[.int .u64 (a + b), .bool true] else .tuple #[.int .u64 0, .bool false], h, []) := by
 have hadd := add64 hX h ha hb
 unfold A8 at ha hb
 refine Am hE.Axs rfl (by simp) ?_
 simp only [Ak]
 have c : a + b < 18446744073709551616 → (a + b) % 18446744073709551616 = a + b := fun h => by omega
 have Hm := Hid.mk c
 clear c
 (repeat' (first | (with_reducible refine A3 (fun _ => ?_) (fun _ => ?_) <;> try (exfalso; omega)) | simp -dsimp (disch := omega) only [↓EA, EB, Nat.reduceEqDiff, ↓reduceIte, reduceCtorEq, eq_self, *]))
 ·rw [if_neg (by omega)]; exact ⟨rfl, rfl⟩
 ·rw [if_pos (by omega), Hm.out (by omega)]; exact ⟨rfl, rfl⟩
theorem Aty (hE : Ay E) (h : Aa) {a b : Int} (ha : A8 a) (hb : A8 b) :
  callW E (.func (.func Kx) #[] #[]) [.int .u64 a, .int .u64 b] h = some (.int .u64 (sat (a * b)), h, []) := by
 have c := A0s hE h ha hb
 unfold sat
 refine Am hE.Ap1 rfl (by simp) ?_
 simp only [Ak]
 by_cases d : a * b < 18446744073709551616
 ·rw [if_pos d] at c
  rw [if_pos d]
  (repeat' simp -dsimp (disch := omega) only [↓EA, EB, Nat.reduceEqDiff, ↓reduceIte, reduceCtorEq, eq_self, *])
 ·rw [if_neg d] at c
  rw [if_neg d]
  (repeat' simp -dsimp (disch := omega) only [↓EA, EB, Nat.reduceEqDiff, ↓reduceIte, reduceCtorEq, eq_self, *])
theorem Rc {x : Int} (h : 0 ≤ x) : A8 (sat x) := by unfold sat A8; split <;> omega
def Aqi (n : Int) : List Value := [.int .u64 n]
def sumU (s : Int) (l : List Int) : Int := l.foldl (fun s x => sat (s + x)) s
theorem Alc : ∀ {l : List Int} {s : Int}, A8 s → (∀ x ∈ l, A8 x) → A8 (sumU s l)
 | [], s, h, _ => h
 | x :: l, s, h, hl => Alc (l := l) (Rc (by have := (hl x (by simp)).1; have := h.1; omega)) fun y a => hl y (by simp [a])
theorem Ach : ∀ {l : List Int}, (∀ x ∈ l, A8 x) → sumU 18446744073709551615 l = 18446744073709551615
 | [], _ => rfl
 | x :: l, hl => by
  have c := (hl x (by simp)).1
  have e : sat (18446744073709551615 + x) = 18446744073709551615 := by unfold sat; split <;> omega
  show sumU (sat (18446744073709551615 + x)) l = _
  rw [e]; exact Ach fun y a => hl y (by simp [a])
theorem Ake (hE : Ay E) (hX : Kp E) {h : Aa} {vl : Value} {l : List Int} {s : Int} (hl : Rd 1 Aqi h vl l) (hs : A8 s) (hin : ∀ x ∈ l, A8 x) :
  callW E (.func (.func I3) #[] #[]) [.int .u64 s, vl] h = some (.int .u64 (sumU s l), h, []) := by
 refine Am hE.Axq rfl (by simp) ?_
 have few := hl.few
 simp only [Ak]
 (repeat' simp -dsimp (disch := omega) only [↓EA, EB, Nat.reduceEqDiff, ↓reduceIte, reduceCtorEq, eq_self, *, hl.len])
 refine WO.loop (fun n fr h' => h' = h ∧ n ≤ l.length ∧ get fr 0 = .int .u64 (sumU s (l.take n)) ∧ get fr 9 = vl ∧ get fr 10 = .int .i64 l.length ∧ get fr 11 = .int .i64 n) (fun n => l.length - n) ?_ 0 ⟨rfl, Nat.zero_le _, rfl, rfl, rfl, rfl⟩
 rintro n fr h' ⟨rfl, y, p, z, u, v⟩
 have g : A8 (sumU s (l.take n)) := Alc hs fun x j => hin x (List.mem_of_mem_take j)
 unfold V7
 rcases Nat.lt_or_ge n l.length with hlt | hge
 ·have o : A8 (atI l (n : Int)) := hin _ (Aj (by omega) (by omega))
  have hadd := fun t => A0t hE hX t g o
  have c : sumU s (l.take (n + 1)) = sat (sumU s (l.take n) + atI l (n : Int)) := by rw [take_snoc hlt]; simp [sumU]
  have a : ¬ sumU s (l.take n) + atI l (n : Int) < 18446744073709551616 → sumU s l = 18446744073709551615 := fun d => by
   have e : l = l.take (n + 1) ++ l.drop (n + 1) := (List.take_append_drop _ _).symm
   have r : sumU s l = sumU (sumU s (l.take (n + 1))) (l.drop (n + 1)) := by
    unfold sumU
    rw [← List.foldl_append, ← e]
   rw [r, c, show sat (sumU s (l.take n) + atI l (n : Int)) = 18446744073709551615 by unfold sat; rw [if_neg d]]
   exact Ach fun x j => hin x (List.mem_of_mem_drop j)
  have m := Hid.mk c
  have f := Hid.mk a
  clear c a
  generalize sumU s (l.take n) = S at *
  by_cases d : S + atI l (n : Int) < 18446744073709551616
  ·simp only [if_pos d] at hadd
   (repeat' (first | (with_reducible refine A3 (fun _ => ?_) (fun _ => ?_) <;> try (exfalso; omega)) | simp -dsimp (disch := omega) only [↓EA, EB, Nat.reduceEqDiff, ↓reduceIte, reduceCtorEq, eq_self, *, hl.ixs, hl.ld0, Aqi]))
   refine Next.mk (n + 1) ⟨rfl, by omega, ?_, rfl, rfl, rfl⟩ (by omega)
   rw [m.out]; unfold sat; rw [if_pos d]; rfl
  ·simp only [if_neg d] at hadd
   (repeat' (first | (with_reducible refine A3 (fun _ => ?_) (fun _ => ?_) <;> try (exfalso; omega)) | simp -dsimp (disch := omega) only [↓EA, EB, Nat.reduceEqDiff, ↓reduceIte, reduceCtorEq, eq_self, *, hl.ixs, hl.ld0, Aqi]))
   rw [f.out d]
 ·have e : l.take n = l := List.take_of_length_le (by omega)
  rw [e] at p
  (repeat' (first | (with_reducible refine A3 (fun _ => ?_) (fun _ => ?_) <;> try (exfalso; omega)) | simp -dsimp (disch := omega) only [↓EA, EB, Nat.reduceEqDiff, ↓reduceIte, reduceCtorEq, eq_self, *]))
end Go.L.Try
set_option maxHeartbeats 1000000
namespace Go.L.Try
open Go Go.L
variable {E : Env}
def isP (l : List Ab) (i : Int) : Bool := decide ((Dr l).2 = 0 ∧ 0 ≤ i ∧ i < l.length)
def Iv (l : List Ab) (i : Int) : Nat → Int
 | 0 => 0
 | k + 1 => if (atI l i).P < (atI l (k : Int)).P then max (Iv l i k) ((atI l (k : Int)).Q - 1) else Iv l i k
def oftenP (t : Ab) (w : Int) : Int := (sat (w + t.J) + t.T - 1) / t.T
def Ef (l : List Ab) (i w : Int) : Nat → Int
 | 0 => 0
 | k + 1 => if (atI l (k : Int)).P < (atI l i).P then sat (Ef l i w k + sat (oftenP (atI l (k : Int)) w * (atI l (k : Int)).C)) else Ef l i w k
def blockP (l : List Ab) (i : Int) : Int := if isP l i then Iv l i l.length else 0
def higherP (l : List Ab) (i w : Int) : Int := if isP l i ∧ 0 < w then Ef l i w l.length else 0
def Cg (l : List Ab) (i w : Int) : Int := if isP l i then sumU 0 [(atI l i).C, blockP l i, higherP l i w] else 0
theorem E7 {l : List Ab} {i : Int} (h : isP l i = true) : (0 ≤ i ∧ i < l.length) ∧ l.length ≤ 1024 ∧ ∀ t ∈ l, Ci t := by
 unfold isP at h
 have h := of_decide_eq_true h
 exact ⟨h.2, (Bn h.1).2⟩
theorem Pa {l : List Ab} (hok : ∀ t ∈ l, Ci t) (i : Int) : ∀ k : Nat, k ≤ l.length → 0 ≤ Iv l i k ∧ Iv l i k ≤ 2147483647
 | 0, _ => by simp [Iv]
 | k + 1, hk => by
  have c := Pa hok i k (by omega)
  have a := (hok _ (Aj (l := l) (i := (k : Int)) (by omega) (by omega))).1
  simp only [An] at a
  unfold Iv
  split <;> omega
theorem Ie {t : Ab} (ht : Ci t) : (1 ≤ t.C ∧ t.C ≤ 2147483647) ∧ (1 ≤ t.T ∧ t.T ≤ 2147483647) ∧ (0 ≤ t.J ∧ t.J ≤ 2147483647) := by
 have := ht.1; simp only [An] at this; omega
theorem Vh {t : Ab} (ht : Ci t) {w : Int} (hw : A8 w) : A8 (sat (w + t.J)) ∧ A8 (oftenP t w) := by
 obtain ⟨_, j, g⟩ := Ie ht
 have c : A8 (sat (w + t.J)) := Rc (by have := hw.1; omega)
 refine ⟨c, ?_⟩
 unfold oftenP
 generalize sat (w + t.J) = x at *
 unfold A8 at *
 have e := An9 (a := x) (b := t.T) c.1 (by omega)
 have f : 0 ≤ x / t.T ∧ x / t.T ≤ x := ⟨Int.ediv_nonneg c.1 (by omega), Int.ediv_le_self t.T c.1⟩
 rw [e]
 split
 ·rename_i d
  by_cases l : t.T < 2
  ·have : t.T = 1 := by omega
   rw [this] at d; simp at d
  ·have n := Int.mul_le_mul_of_nonneg_left (show (2 : Int) ≤ t.T by omega) f.1
   have m := Int.ediv_mul_le x (show t.T ≠ 0 by omega)
   omega
 ·omega
theorem Ug {l : List Ab} (hok : ∀ t ∈ l, Ci t) {i w : Int} (hw : A8 w) : ∀ k : Nat, k ≤ l.length → A8 (Ef l i w k)
 | 0, _ => ⟨by simp [Ef], by simp [Ef]⟩
 | k + 1, hk => by
  have c := Ug hok (i := i) hw k (by omega)
  have a := hok _ (Aj (l := l) (i := (k : Int)) (by omega) (by omega))
  unfold Ef
  split
  ·have d := (Vh a hw).2
   have h2 := (Ie a).1
   have e := Rc (Int.mul_nonneg d.1 (show 0 ≤ (atI l (k : Int)).C by omega))
   exact Rc (by have := c.1; have := e.1; omega)
  ·exact c
end Go.L.Try
namespace Go.L.Try
open Go Go.L
variable {E : Env}
theorem Va {x y : Int} (h : x ≤ y) : sat x ≤ sat y := by unfold sat; split <;> split <;> omega
theorem Aj9 {t : Ab} (ht : Ci t) {w v : Int} (h : w ≤ v) : oftenP t w ≤ oftenP t v := by
 obtain ⟨_, a, _⟩ := Ie ht
 unfold oftenP
 exact Int.ediv_le_ediv (by omega) (by have := Va (x := w + t.J) (y := v + t.J) (by omega); omega)
theorem Pv {l : List Ab} (hok : ∀ t ∈ l, Ci t) {i w v : Int} (h : w ≤ v) : ∀ k : Nat, k ≤ l.length → Ef l i w k ≤ Ef l i v k
 | 0, _ => Int.le_refl _
 | k + 1, hk => by
  have c := Pv hok (i := i) h k (by omega)
  have a := hok _ (Aj (l := l) (i := (k : Int)) (by omega) (by omega))
  have e := (Ie a).1
  unfold Ef
  split
  ·have d := Int.mul_le_mul_of_nonneg_right (Aj9 a h) (show 0 ≤ (atI l (k : Int)).C by omega)
   have h2 := Va d
   exact Va (by omega)
  ·exact c
theorem Aau {l : List Ab} {i w : Int} (hw : A8 w) : A8 (higherP l i w) := by
 unfold higherP
 split
 ·rename_i h; exact Ug (E7 h.1).2.2 hw _ (Nat.le_refl _)
 ·exact ⟨by decide, by decide⟩
theorem Aep {l : List Ab} {i w v : Int} (h0 : A8 w) (h : w ≤ v) : higherP l i w ≤ higherP l i v := by
 unfold higherP
 split
 ·rename_i a
  rw [if_pos ⟨a.1, by omega⟩]
  exact Pv (E7 a.1).2.2 h _ (Nat.le_refl _)
 ·split
  ·rename_i a
   have c : Ef l i v l.length ≥ Ef l i 0 l.length := by
    have d := h0.1
    exact Pv (E7 a.1).2.2 (by omega) _ (Nat.le_refl _)
   have := (Ug (E7 a.1).2.2 (i := i) (w := 0) ⟨by decide, by decide⟩ l.length (Nat.le_refl _)).1
   omega
  ·exact Int.le_refl _
theorem Vm {l : List Ab} {i : Int} (h : isP l i = true) (w : Int) : Cg l i w = sat (sat ((atI l i).C + blockP l i) + higherP l i w) := by
 obtain ⟨c, _, a⟩ := E7 h
 have d := (Ie (a _ (Aj c.1 c.2))).1
 unfold Cg
 rw [if_pos h]
 have e : sat (0 + (atI l i).C) = (atI l i).C := by unfold sat; rw [if_pos (by omega)]; omega
 show sat (sat (sat (0 + (atI l i).C) + blockP l i) + higherP l i w) = _
 rw [e]
theorem Adk {l : List Ab} {i : Int} (h : isP l i = true) : 0 ≤ blockP l i ∧ blockP l i ≤ 2147483647 := by
 unfold blockP; rw [if_pos h]; exact Pa (E7 h).2.2 i _ (Nat.le_refl _)
theorem Rp {l : List Ab} {i w : Int} (h : isP l i = true) (hw : A8 w) : A8 (Cg l i w) ∧ 1 ≤ Cg l i w := by
 obtain ⟨c, _, a⟩ := E7 h
 have d := (Ie (a _ (Aj c.1 c.2))).1
 have g := Adk h
 have f := (Aau (l := l) (i := i) hw).1
 rw [Vm h]
 have e : sat ((atI l i).C + blockP l i) = (atI l i).C + blockP l i := by unfold sat; rw [if_pos (by omega)]
 rw [e]
 refine ⟨Rc (by omega), ?_⟩
 unfold sat; split <;> omega
theorem Ip {l : List Ab} {i w v : Int} (h : isP l i = true) (h0 : A8 w) (hv : w ≤ v) : Cg l i w ≤ Cg l i v := by
 rw [Vm h, Vm h]
 have := Aep (l := l) (i := i) h0 hv
 exact Va (by omega)
def G9 (l : List Ab) (i : Int) : Int := (atI l i).D - (atI l i).J
theorem Rq {l : List Ab} {i : Int} (h : isP l i = true) : 1 ≤ G9 l i ∧ G9 l i ≤ 2147483647 := by
 obtain ⟨c, _, a⟩ := E7 h
 have d := a _ (Aj c.1 c.2)
 have e := d.1
 have h2 := d.2
 simp only [An] at e
 simp only [D4] at h2
 unfold G9; omega
def N9 (l : List Ab) (i : Int) : Nat → Int → Option Int
 | 0, _ => none
 | n + 1, w => if Cg l i w ≤ w then some w else N9 l i n (w + 1)
def Lc (l : List Ab) (i : Int) : Option Int := N9 l i (G9 l i).toNat 1
def boundP (l : List Ab) (i : Int) : Int × Int := if isP l i then (match Lc l i with | some w => (w + (atI l i).J, 0) | none => (0, 16)) else (0, 1)
end Go.L.Try
namespace Go.L.Try
open Go Go.L
variable {E : Env}
def OwnL {α : Type} (m sz : Nat) (enc : α → List Value) (h : Aa) (v : Value) (l : List α) : Prop :=
 OwnT m sz enc h v l ∨ ∃ b, v = .slice (some ⟨b, 0, none⟩) l.length l.length ∧ m ≤ b ∧ h[b]? = some (.cells (l.map enc).flatten false) ∧ (∀ a, (enc a).length = sz) ∧ l.length < 1152921504606846976
theorem OwnL.rd {α : Type} {m sz : Nat} {enc : α → List Value} {h : Aa} {v : Value} {l : List α} (o : OwnL m sz enc h v l) : Rd sz enc h v l := by
 rcases o with o | ⟨b, rfl, _, a, c, d⟩
 ·exact o.rd
 ·exact Rd.lit l a rfl c d (Nat.le_refl _) (.inl rfl)
theorem OwnL.app {α : Type} {m sz : Nat} {enc : α → List Value} {h : Aa} {v : Value} {l : List α} (o : OwnL m sz enc h v l) (x : Aa) : OwnL m sz enc (h ++ x) v l := by
 rcases o with o | ⟨b, rfl, d, a, c, e⟩
 ·exact .inl (o.app x)
 ·exact .inr ⟨b, rfl, d, by rw [GL (GI.1 a).1]; exact a, c, e⟩
def Nr (l : List Ab) (i : Int) : Nat → Int → List Int
 | 0, w => [w]
 | n + 1, w => if G9 l i < w ∨ Cg l i w = w then [w] else w :: Nr l i n (Cg l i w)
def Tu (l : List Ab) (i : Int) : List Int := if isP l i then Nr l i ((G9 l i).toNat + 1) (Cg l i 0) else []
end Go.L.Try
