/- NUMBERS OF 64 BITS: math/bits.Mul64, num.Mul. -/
import Derived.Test.YtifnlcajancfdaaCode
set_option linter.unusedVariables false
set_option linter.unusedSimpArgs false
set_option maxRecDepth 100000
namespace Go.L.Try
open Go Go.L
variable {E : Env}
def Bz (x : Int) : Prop := 0 ≤ x ∧ x < 18446744073709551616
theorem Ap8 {q : EqK} {a : Int} (h1 : 0 ≤ a) (h2 : a < 18446744073709551616) : binOp .and q (.int .u64 a) (.int .u64 4294967295) = some (.int .u64 (a % 4294967296)) := by
 obtain ⟨n, rfl⟩ := Int.eq_ofNat_of_zero_le h1
 have f : n < 18446744073709551616 := by omega
 have e : ((BitVec.ofInt 64 (n : Int)) &&& (BitVec.ofInt 64 4294967295)).toNat = n % 4294967296 := by
  have g : BitVec.ofInt 64 (n : Int) = BitVec.ofNat 64 n := by simp
  have c : BitVec.ofInt 64 4294967295 = BitVec.ofNat 64 4294967295 := by decide
  rw [g, c, BitVec.toNat_and, BitVec.toNat_ofNat, BitVec.toNat_ofNat, Nat.mod_eq_of_lt f]
  exact Nat.and_two_pow_sub_one_eq_mod n 32
 have d : binOp .and q (.int .u64 (n : Int)) (.int .u64 4294967295) = some (.int .u64 (IntKind.u64.wrap (((BitVec.ofInt 64 (n : Int)) &&& (BitVec.ofInt 64 4294967295)).toNat : Nat))) := by simp only [binOp, Ib, if_true]; rfl
 rw [d, e, Yf (by omega) (by omega)]; simp
theorem Ap7 {q : EqK} {a : Int} (h1 : 0 ≤ a) : binOp .shr q (.int .u64 a) (.int .u64 32) = some (.int .u64 (a / 4294967296)) := by
 simp only [binOp, Ib]
 rw [if_neg (by decide), Int.fdiv_eq_ediv_of_nonneg _ (by decide)]; rfl
theorem Aeq {x : Int} : IntKind.u64.wrap x = x % 18446744073709551616 := by simp [IntKind.wrap, IntKind.bits, IntKind.signed]
theorem Atl (a b : Int) (ha : Bz a) (hb : Bz b) :
  let a0 := a % 4294967296; let a1 := a / 4294967296; let b0 := b % 4294967296; let b1 := b / 4294967296
  (0 ≤ a0 * b0 ∧ a0 * b0 ≤ 18446744065119617025) ∧ (0 ≤ a1 * b0 ∧ a1 * b0 ≤ 18446744065119617025) ∧ (0 ≤ a0 * b1 ∧ a0 * b1 ≤ 18446744065119617025) ∧ (0 ≤ a1 * b1 ∧ a1 * b1 ≤ 18446744065119617025) ∧
  a * b = a1 * b1 * 18446744073709551616 + (a1 * b0 + a0 * b1) * 4294967296 + a0 * b0 := by
 intro a0 a1 b0 b1
 unfold Bz at ha hb
 have k : ∀ x y : Int, 0 ≤ x → x ≤ 4294967295 → 0 ≤ y → y ≤ 4294967295 → 0 ≤ x * y ∧ x * y ≤ 18446744065119617025 := fun x y j h2 g l =>
  ⟨Int.mul_nonneg j g, by have := Int.mul_le_mul h2 l g (by decide : (0:Int) ≤ 4294967295); omega⟩
 have c : 0 ≤ a0 ∧ a0 ≤ 4294967295 := by omega
 have d : 0 ≤ a1 ∧ a1 ≤ 4294967295 := by omega
 have f : 0 ≤ b0 ∧ b0 ≤ 4294967295 := by omega
 have e : 0 ≤ b1 ∧ b1 ≤ 4294967295 := by omega
 refine ⟨k _ _ c.1 c.2 f.1 f.2, k _ _ d.1 d.2 f.1 f.2, k _ _ c.1 c.2 e.1 e.2, k _ _ d.1 d.2 e.1 e.2, ?_⟩
 have n : a = a1 * 4294967296 + a0 := by omega
 have m : b = b1 * 4294967296 + b0 := by omega
 generalize a0 = x0 at *
 generalize a1 = x1 at *
 generalize b0 = y0 at *
 generalize b1 = y1 at *
 subst n m
 grind
theorem A02 (hE : Ap E) (h : Aa) {a b : Int} (ha : Bz a) (hb : Bz b) :
  callW E (.func (.func D6) #[] #[]) [.int .u64 a, .int .u64 b] h = some (.tuple #[.int .u64 (a * b / 18446744073709551616), .int .u64 (a * b % 18446744073709551616)], h, []) := by
 have d := Atl a b ha hb
 dsimp only at d
 obtain ⟨g, f, j, l, c⟩ := d
 have He := Hid.mk c
 unfold Bz at ha hb
 clear c
 have n := Int.emod_nonneg a (by decide : (4294967296 : Int) ≠ 0)
 have m := Int.emod_nonneg b (by decide : (4294967296 : Int) ≠ 0)
 refine Ai hE.Xv rfl (by simp) ?_
 simp only [Ah]
 (repeat' simp -dsimp (disch := omega) only [↓EA, EB, Nat.reduceEqDiff, ↓reduceIte, reduceCtorEq, eq_self, *, Ap8, Ap7, Aeq])
 rw [He.out]
 generalize a / 4294967296 * (b / 4294967296) = p11 at *
 generalize a / 4294967296 * (b % 4294967296) = p10 at *
 generalize a % 4294967296 * (b / 4294967296) = p01 at *
 generalize a % 4294967296 * (b % 4294967296) = p00 at *
 have e : p11 + (p10 + p00 / 4294967296) / 4294967296 + ((p10 + p00 / 4294967296) % 4294967296 + p01) / 4294967296 = (p11 * 18446744073709551616 + (p10 + p01) * 4294967296 + p00) / 18446744073709551616 := by omega
 rw [e]
theorem Azb (hE : Ap E) (h : Aa) {a b : Int} (ha : Bz a) (hb : Bz b) :
  callW E (.func (.func N8) #[] #[]) [.int .u64 a, .int .u64 b] h = some (if a * b < 18446744073709551616 then .tuple #[.int .u64 (a * b), .bool true] else .tuple #[.int .u64 0, .bool false], h, []) := by
 have f := A02 hE h ha hb
 have d : 0 ≤ a * b := Int.mul_nonneg ha.1 hb.1
 generalize a * b = c at *
 refine Ai hE.Awi rfl (by simp) ?_
 simp only [Ah]
 have e : c < 18446744073709551616 → c % 18446744073709551616 = c := fun h => by omega
 have Hm := Hid.mk e
 clear e
 (repeat' (first | (with_reducible refine A3 (fun _ => ?_) (fun _ => ?_) <;> try (exfalso; omega)) | simp -dsimp (disch := omega) only [↓EA, EB, Nat.reduceEqDiff, ↓reduceIte, reduceCtorEq, eq_self, *]))
 ·rw [if_neg (by omega)]; exact ⟨rfl, rfl⟩
 ·rw [if_pos (by omega), Hm.out (by omega)]; exact ⟨rfl, rfl⟩
end Go.L.Try
namespace Go.L.Try
open Go Go.L
variable {E : Env}
theorem Ay2 (hE : Ap E) (h : Aa) {a b : Int} (ha : Bz a) (hb : Bz b) :
  callW E (.func (.func Kn) #[] #[]) [.int .u64 a, .int .u64 b] h = some (if a * b < 18446744073709551616 then .agg #[.int .u64 (a * b), .bool true] else .agg #[.int .u64 0, .bool false], h, []) := by
 unfold Bz at ha hb
 refine Ai hE.Apd rfl (by simp) ?_
 have l : (18446744073709551615 : Int).tdiv b = 18446744073709551615 / b := Int.tdiv_eq_ediv_of_nonneg (by decide)
 have j : 0 ≤ (18446744073709551615 : Int) / b ∧ (18446744073709551615 : Int) / b < 18446744073709551616 := ⟨Int.ediv_nonneg (by decide) hb.1, by have := Int.ediv_le_self b (by decide : (0 : Int) ≤ 18446744073709551615); omega⟩
 have f : 0 ≤ a * b := Int.mul_nonneg ha.1 hb.1
 have c : a * b < 18446744073709551616 → a * b % 18446744073709551616 = a * b := fun h => Int.emod_eq_of_lt f h
 have e : 0 < b → (a ≤ 18446744073709551615 / b ↔ a * b ≤ 18446744073709551615) := fun h => Int.le_ediv_iff_mul_le h
 have d := Hid.mk e
 have g := Hid.mk c
 clear e c
 simp only [Ah]
 (repeat' (first | (with_reducible refine A1 (fun _ => ?_) (fun _ => ?_) <;> try (exfalso; omega)) | (with_reducible refine A3 (fun _ => ?_) (fun _ => ?_) <;> try (exfalso; omega)) | simp -dsimp (disch := omega) only [↓EA, EB, Nat.reduceEqDiff, Nat.reduceAdd, Nat.reduceLeDiff, ↓reduceIte, reduceCtorEq, Ab, eq_self, *, Aeq]))
 ·have := d.out (by omega)
  rw [if_neg (by omega)]; exact ⟨rfl, rfl⟩
 ·have := d.out (by omega)
  rw [if_pos (by omega), g.out (by omega)]; exact ⟨rfl, rfl⟩
 ·have : b = 0 := by omega
  subst this
  simp; rfl
end Go.L.Try
