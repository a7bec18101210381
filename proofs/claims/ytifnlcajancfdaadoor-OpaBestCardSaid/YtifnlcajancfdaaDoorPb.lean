/- NUMBERS OF 64 BITS: math/bits.Mul64, num.Mul. -/
import Derived.Test.YtifnlcajancfdaaDoorCode
import Derived.Test.YtifnlcajancfdaaDoorPa
set_option linter.unusedVariables false
set_option linter.unusedSimpArgs false
set_option maxRecDepth 100000
namespace Go.L.Try
open Go Go.L
variable {E : Env}
def u64in (x : Int) : Prop := 0 ≤ x ∧ x < 18446744073709551616
theorem bin_and32 {q : EqK} {a : Int} (h1 : 0 ≤ a) (h2 : a < 18446744073709551616) : binOp .and q (.int .u64 a) (.int .u64 4294967295) = some (.int .u64 (a % 4294967296)) := by
  obtain ⟨n, rfl⟩ := Int.eq_ofNat_of_zero_le h1
  have hn : n < 18446744073709551616 := by omega
  have e : ((BitVec.ofInt 64 (n : Int)) &&& (BitVec.ofInt 64 4294967295)).toNat = n % 4294967296 := by
    have e1 : BitVec.ofInt 64 (n : Int) = BitVec.ofNat 64 n := by simp
    have e2 : BitVec.ofInt 64 4294967295 = BitVec.ofNat 64 4294967295 := by decide
    rw [e1, e2, BitVec.toNat_and, BitVec.toNat_ofNat, BitVec.toNat_ofNat, Nat.mod_eq_of_lt hn]
    exact Nat.and_two_pow_sub_one_eq_mod n 32
  have e3 : binOp .and q (.int .u64 (n : Int)) (.int .u64 4294967295) = some (.int .u64 (IntKind.u64.wrap (((BitVec.ofInt 64 (n : Int)) &&& (BitVec.ofInt 64 4294967295)).toNat : Nat))) := by simp only [binOp, intOp, if_true]; rfl
  rw [e3, e, wrap_u64 (by omega) (by omega)]; simp
theorem bin_shr32 {q : EqK} {a : Int} (h1 : 0 ≤ a) : binOp .shr q (.int .u64 a) (.int .u64 32) = some (.int .u64 (a / 4294967296)) := by
  simp only [binOp, intOp]
  rw [if_neg (by decide), Int.fdiv_eq_ediv_of_nonneg _ (by decide)]; rfl
theorem wrap_mod {x : Int} : IntKind.u64.wrap x = x % 18446744073709551616 := by simp [IntKind.wrap, IntKind.bits, IntKind.signed]
theorem mulParts (a b : Int) (ha : u64in a) (hb : u64in b) :
    let a0 := a % 4294967296; let a1 := a / 4294967296; let b0 := b % 4294967296; let b1 := b / 4294967296
    (0 ≤ a0 * b0 ∧ a0 * b0 ≤ 18446744065119617025) ∧ (0 ≤ a1 * b0 ∧ a1 * b0 ≤ 18446744065119617025) ∧ (0 ≤ a0 * b1 ∧ a0 * b1 ≤ 18446744065119617025) ∧ (0 ≤ a1 * b1 ∧ a1 * b1 ≤ 18446744065119617025) ∧
    a * b = a1 * b1 * 18446744073709551616 + (a1 * b0 + a0 * b1) * 4294967296 + a0 * b0 := by
  intro a0 a1 b0 b1
  unfold u64in at ha hb
  have k : ∀ x y : Int, 0 ≤ x → x ≤ 4294967295 → 0 ≤ y → y ≤ 4294967295 → 0 ≤ x * y ∧ x * y ≤ 18446744065119617025 := fun x y h1 h2 h3 h4 =>
    ⟨Int.mul_nonneg h1 h3, by have := Int.mul_le_mul h2 h4 h3 (by decide : (0:Int) ≤ 4294967295); omega⟩
  have ha0 : 0 ≤ a0 ∧ a0 ≤ 4294967295 := by omega
  have ha1 : 0 ≤ a1 ∧ a1 ≤ 4294967295 := by omega
  have hb0 : 0 ≤ b0 ∧ b0 ≤ 4294967295 := by omega
  have hb1 : 0 ≤ b1 ∧ b1 ≤ 4294967295 := by omega
  refine ⟨k _ _ ha0.1 ha0.2 hb0.1 hb0.2, k _ _ ha1.1 ha1.2 hb0.1 hb0.2, k _ _ ha0.1 ha0.2 hb1.1 hb1.2, k _ _ ha1.1 ha1.2 hb1.1 hb1.2, ?_⟩
  have ea : a = a1 * 4294967296 + a0 := by omega
  have eb : b = b1 * 4294967296 + b0 := by omega
  generalize a0 = x0 at *
  generalize a1 = x1 at *
  generalize b0 = y0 at *
  generalize b1 = y1 at *
  subst ea eb
  grind
theorem mul64 (hE : Laid E) (h : Heap) {a b : Int} (ha : u64in a) (hb : u64in b) :
    callW E (.func (.func n_math_bits_Mul64) #[] #[]) [.int .u64 a, .int .u64 b] h = some (.tuple #[.int .u64 (a * b / 18446744073709551616), .int .u64 (a * b % 18446744073709551616)], h, []) := by
  have hp := mulParts a b ha hb
  dsimp only at hp
  obtain ⟨h00, h10, h01, h11, he⟩ := hp
  have He := Hid.mk he
  unfold u64in at ha hb
  clear he
  have m0 := Int.emod_nonneg a (by decide : (4294967296 : Int) ≠ 0)
  have m1 := Int.emod_nonneg b (by decide : (4294967296 : Int) ≠ 0)
  refine fn_same hE.math_bits_Mul64 rfl (by simp) ?_
  simp only [argsF]
  (repeat' (first | (with_reducible refine A1 (fun _ => ?_) (fun _ => ?_) <;> try (exfalso; omega)) | (with_reducible refine A2 (fun _ => ?_) (fun _ => ?_) <;> try (exfalso; omega)) | (with_reducible refine A3 (fun _ => ?_) (fun _ => ?_) <;> try (exfalso; omega)) | refine A4 (fun _ => ?_) (fun _ => ?_) | refine A5 (fun _ => ?_) (fun _ => ?_) | refine A6 (fun _ => ?_) (fun _ => ?_) | simp -dsimp (disch := omega) only [↓EA, EB, Nat.reduceEqDiff, Nat.reduceAdd, Nat.reduceLeDiff, Nat.reduceMul, ↓reduceIte, reduceCtorEq, newCells, bslV, eq_self, *, bin_and32, bin_shr32, wrap_mod]))
  rw [He.out]
  generalize a / 4294967296 * (b / 4294967296) = p11 at *
  generalize a / 4294967296 * (b % 4294967296) = p10 at *
  generalize a % 4294967296 * (b / 4294967296) = p01 at *
  generalize a % 4294967296 * (b % 4294967296) = p00 at *
  have e : p11 + (p10 + p00 / 4294967296) / 4294967296 + ((p10 + p00 / 4294967296) % 4294967296 + p01) / 4294967296 = (p11 * 18446744073709551616 + (p10 + p01) * 4294967296 + p00) / 18446744073709551616 := by omega
  rw [e]
theorem numMul (hE : Laid E) (h : Heap) {a b : Int} (ha : u64in a) (hb : u64in b) :
    callW E (.func (.func n_num_Mul) #[] #[]) [.int .u64 a, .int .u64 b] h = some (if a * b < 18446744073709551616 then .tuple #[.int .u64 (a * b), .bool true] else .tuple #[.int .u64 0, .bool false], h, []) := by
  have hmul := mul64 hE h ha hb
  have hpos : 0 ≤ a * b := Int.mul_nonneg ha.1 hb.1
  generalize a * b = c at *
  refine fn_same hE.num_Mul rfl (by simp) ?_
  simp only [argsF]
  have hm : c < 18446744073709551616 → c % 18446744073709551616 = c := fun h => by omega
  have Hm := Hid.mk hm
  clear hm
  (repeat' (first | (with_reducible refine A1 (fun _ => ?_) (fun _ => ?_) <;> try (exfalso; omega)) | (with_reducible refine A2 (fun _ => ?_) (fun _ => ?_) <;> try (exfalso; omega)) | (with_reducible refine A3 (fun _ => ?_) (fun _ => ?_) <;> try (exfalso; omega)) | refine A4 (fun _ => ?_) (fun _ => ?_) | refine A5 (fun _ => ?_) (fun _ => ?_) | refine A6 (fun _ => ?_) (fun _ => ?_) | simp -dsimp (disch := omega) only [↓EA, EB, Nat.reduceEqDiff, Nat.reduceAdd, Nat.reduceLeDiff, Nat.reduceMul, ↓reduceIte, reduceCtorEq, newCells, bslV, eq_self, *]))
  · rw [if_neg (by omega)]; exact ⟨rfl, rfl⟩
  · rw [if_pos (by omega), Hm.out (by omega)]; exact ⟨rfl, rfl⟩
end Go.L.Try
namespace Go.L.Try
open Go Go.L
variable {E : Env}
def sat (x : Int) : Int := if x < 18446744073709551616 then x else 18446744073709551615
def ceilP (a b : Int) : Int := if b = 0 then 0 else (a + b - 1) / b
theorem ceil_eq {a b : Int} (ha : 0 ≤ a) (hb : 0 < b) : (a + b - 1) / b = if 0 < a % b then a / b + 1 else a / b := by
  have h := Int.emod_add_mul_ediv a b
  have h1 := Int.emod_nonneg a (by omega : b ≠ 0)
  have h2 := Int.emod_lt_of_pos a hb
  split
  · have e : a + b - 1 = (a % b - 1) + b * (a / b + 1) := by rw [Int.mul_add, Int.mul_one]; omega
    rw [e, Int.add_mul_ediv_left _ _ (by omega), Int.ediv_eq_zero_of_lt (by omega) (by omega)]; omega
  · have e : a + b - 1 = (b - 1) + b * (a / b) := by omega
    rw [e, Int.add_mul_ediv_left _ _ (by omega), Int.ediv_eq_zero_of_lt (by omega) (by omega)]; omega
theorem refAdd (hE : Laid E) (h : Heap) {a b : Int} (ha : u64in a) (hb : u64in b) :
    callW E (.func (.func n_ref01_Add) #[] #[]) [.int .u64 a, .int .u64 b] h = some (if a + b < 18446744073709551616 then .agg #[.int .u64 (a + b), .bool true] else .agg #[.int .u64 0, .bool false], h, []) := by
  unfold u64in at ha hb
  refine fn_same hE.ref01_Add rfl (by simp) ?_
  simp only [argsF]
  (repeat' (first | (with_reducible refine A1 (fun _ => ?_) (fun _ => ?_) <;> try (exfalso; omega)) | (with_reducible refine A2 (fun _ => ?_) (fun _ => ?_) <;> try (exfalso; omega)) | (with_reducible refine A3 (fun _ => ?_) (fun _ => ?_) <;> try (exfalso; omega)) | refine A4 (fun _ => ?_) (fun _ => ?_) | refine A5 (fun _ => ?_) (fun _ => ?_) | refine A6 (fun _ => ?_) (fun _ => ?_) | simp -dsimp (disch := omega) only [↓EA, EB, Nat.reduceEqDiff, Nat.reduceAdd, Nat.reduceLeDiff, Nat.reduceMul, ↓reduceIte, reduceCtorEq, newCells, bslV, eq_self, *]))
  · rw [if_neg (by omega)]; exact ⟨rfl, rfl⟩
  · rw [if_pos (by omega)]; exact ⟨rfl, rfl⟩
theorem refMul (hE : Laid E) (h : Heap) {a b : Int} (ha : u64in a) (hb : u64in b) :
    callW E (.func (.func n_ref01_Mul) #[] #[]) [.int .u64 a, .int .u64 b] h = some (if a * b < 18446744073709551616 then .agg #[.int .u64 (a * b), .bool true] else .agg #[.int .u64 0, .bool false], h, []) := by
  unfold u64in at ha hb
  refine fn_same hE.ref01_Mul rfl (by simp) ?_
  have hq : (18446744073709551615 : Int).tdiv b = 18446744073709551615 / b := Int.tdiv_eq_ediv_of_nonneg (by decide)
  have hbound : 0 ≤ (18446744073709551615 : Int) / b ∧ (18446744073709551615 : Int) / b < 18446744073709551616 := ⟨Int.ediv_nonneg (by decide) hb.1, by have := Int.ediv_le_self b (by decide : (0 : Int) ≤ 18446744073709551615); omega⟩
  have hpos : 0 ≤ a * b := Int.mul_nonneg ha.1 hb.1
  have hmod : a * b < 18446744073709551616 → a * b % 18446744073709551616 = a * b := fun h => Int.emod_eq_of_lt hpos h
  have hle : 0 < b → (a ≤ 18446744073709551615 / b ↔ a * b ≤ 18446744073709551615) := fun h => Int.le_ediv_iff_mul_le h
  have Hle := Hid.mk hle
  have Hmod := Hid.mk hmod
  clear hle hmod
  simp only [argsF]
  (repeat' (first | (with_reducible refine A1 (fun _ => ?_) (fun _ => ?_) <;> try (exfalso; omega)) | (with_reducible refine A2 (fun _ => ?_) (fun _ => ?_) <;> try (exfalso; omega)) | (with_reducible refine A3 (fun _ => ?_) (fun _ => ?_) <;> try (exfalso; omega)) | refine A4 (fun _ => ?_) (fun _ => ?_) | refine A5 (fun _ => ?_) (fun _ => ?_) | refine A6 (fun _ => ?_) (fun _ => ?_) | simp -dsimp (disch := omega) only [↓EA, EB, Nat.reduceEqDiff, Nat.reduceAdd, Nat.reduceLeDiff, Nat.reduceMul, ↓reduceIte, reduceCtorEq, newCells, bslV, eq_self, *, wrap_mod, hq]))
  · have := Hle.out (by omega)
    rw [if_neg (by omega)]; exact ⟨rfl, rfl⟩
  · have := Hle.out (by omega)
    rw [if_pos (by omega), Hmod.out (by omega)]; exact ⟨rfl, rfl⟩
  · have : b = 0 := by omega
    subst this
    simp; rfl
theorem refCeil (hE : Laid E) (h : Heap) {a b : Int} (ha : u64in a) (hb : u64in b) :
    callW E (.func (.func n_ref01_Ceil) #[] #[]) [.int .u64 a, .int .u64 b] h = some (if b = 0 then .agg #[.int .u64 0, .bool false] else .agg #[.int .u64 ((a + b - 1) / b), .bool true], h, []) := by
  unfold u64in at ha hb
  refine fn_same hE.ref01_Ceil rfl (by simp) ?_
  have hq : a.tdiv b = a / b := Int.tdiv_eq_ediv_of_nonneg ha.1
  have hm : a.tmod b = a % b := Int.tmod_eq_emod_of_nonneg ha.1
  have hbound : 0 ≤ a / b ∧ a / b ≤ a := ⟨Int.ediv_nonneg ha.1 hb.1, Int.ediv_le_self b ha.1⟩
  have hmb : 0 < b → 0 ≤ a % b ∧ a % b < b := fun h => ⟨Int.emod_nonneg a (by omega), Int.emod_lt_of_pos a h⟩
  have Hce := Hid.mk (fun h => ceil_eq (a := a) (b := b) ha.1 h)
  have h64 : (a / b) % 18446744073709551616 = a / b := Int.emod_eq_of_lt hbound.1 (by omega)
  have Hlt : Hid (0 < a % b → 0 < b → a / b + 1 < 18446744073709551616) := ⟨fun h1 h2 => by
    by_cases h3 : b < 2
    · have : b = 1 := by omega
      subst this; simp at h1
    · have e1 := Int.mul_le_mul_of_nonneg_left (show (2 : Int) ≤ b by omega) hbound.1
      have e2 := Int.ediv_mul_le a (show b ≠ 0 by omega)
      omega⟩
  simp only [argsF]
  (repeat' (first | (with_reducible refine A1 (fun _ => ?_) (fun _ => ?_) <;> try (exfalso; omega)) | (with_reducible refine A2 (fun _ => ?_) (fun _ => ?_) <;> try (exfalso; omega)) | (with_reducible refine A3 (fun _ => ?_) (fun _ => ?_) <;> try (exfalso; omega)) | refine A4 (fun _ => ?_) (fun _ => ?_) | refine A5 (fun _ => ?_) (fun _ => ?_) | refine A6 (fun _ => ?_) (fun _ => ?_) | simp -dsimp (disch := omega) only [↓EA, EB, Nat.reduceEqDiff, Nat.reduceAdd, Nat.reduceLeDiff, Nat.reduceMul, ↓reduceIte, reduceCtorEq, newCells, bslV, eq_self, *, wrap_mod, hq, hm, h64]))
  · rw [Hce.out (by omega), if_pos (by omega), Int.emod_eq_of_lt (by omega) (Hlt.out (by omega) (by omega))]
  · rw [Hce.out (by omega), if_neg (by omega)]
theorem refEnd (hE : Laid E) (h : Heap) {a : Int} {b : Bool} :
    callW E (.func (.func n_ref01_End) #[] #[]) [.agg #[.int .u64 a, .bool b]] h = some (.int .u64 (if b = true then a else 18446744073709551615), h, []) := by
  refine fn_same hE.ref01_End rfl (by simp) ?_
  simp only [argsF]
  cases b
  · (repeat' (first | (with_reducible refine A1 (fun _ => ?_) (fun _ => ?_) <;> try (exfalso; omega)) | (with_reducible refine A2 (fun _ => ?_) (fun _ => ?_) <;> try (exfalso; omega)) | (with_reducible refine A3 (fun _ => ?_) (fun _ => ?_) <;> try (exfalso; omega)) | refine A4 (fun _ => ?_) (fun _ => ?_) | refine A5 (fun _ => ?_) (fun _ => ?_) | refine A6 (fun _ => ?_) (fun _ => ?_) | simp -dsimp (disch := omega) only [↓EA, EB, Nat.reduceEqDiff, Nat.reduceAdd, Nat.reduceLeDiff, Nat.reduceMul, ↓reduceIte, reduceCtorEq, newCells, bslV, eq_self, *]))
  · (repeat' (first | (with_reducible refine A1 (fun _ => ?_) (fun _ => ?_) <;> try (exfalso; omega)) | (with_reducible refine A2 (fun _ => ?_) (fun _ => ?_) <;> try (exfalso; omega)) | (with_reducible refine A3 (fun _ => ?_) (fun _ => ?_) <;> try (exfalso; omega)) | refine A4 (fun _ => ?_) (fun _ => ?_) | refine A5 (fun _ => ?_) (fun _ => ?_) | refine A6 (fun _ => ?_) (fun _ => ?_) | simp -dsimp (disch := omega) only [↓EA, EB, Nat.reduceEqDiff, Nat.reduceAdd, Nat.reduceLeDiff, Nat.reduceMul, ↓reduceIte, reduceCtorEq, newCells, bslV, eq_self, *]))
theorem numCeil (hE : Laid E) (h : Heap) {a b : Int} (ha : u64in a) (hb : u64in b) :
    callW E (.func (.func n_num_Ceil) #[] #[]) [.int .u64 a, .int .u64 b] h = some (if b = 0 then .tuple #[.int .u64 0, .bool false] else .tuple #[.int .u64 ((a + b - 1) / b), .bool true], h, []) := by
  unfold u64in at ha hb
  refine fn_same hE.num_Ceil rfl (by simp) ?_
  have hq : a.tdiv b = a / b := Int.tdiv_eq_ediv_of_nonneg ha.1
  have hm : a.tmod b = a % b := Int.tmod_eq_emod_of_nonneg ha.1
  have hbound : 0 ≤ a / b ∧ a / b ≤ a := ⟨Int.ediv_nonneg ha.1 hb.1, Int.ediv_le_self b ha.1⟩
  have hmb : 0 < b → 0 ≤ a % b ∧ a % b < b := fun h => ⟨Int.emod_nonneg a (by omega), Int.emod_lt_of_pos a h⟩
  have Hce := Hid.mk (fun h => ceil_eq (a := a) (b := b) ha.1 h)
  have h64 : (a / b) % 18446744073709551616 = a / b := Int.emod_eq_of_lt hbound.1 (by omega)
  have Hlt : Hid (0 < a % b → 0 < b → a / b + 1 < 18446744073709551616) := ⟨fun h1 h2 => by
    by_cases h3 : b < 2
    · have : b = 1 := by omega
      subst this; simp at h1
    · have e1 := Int.mul_le_mul_of_nonneg_left (show (2 : Int) ≤ b by omega) hbound.1
      have e2 := Int.ediv_mul_le a (show b ≠ 0 by omega)
      omega⟩
  simp only [argsF]
  (repeat' (first | (with_reducible refine A1 (fun _ => ?_) (fun _ => ?_) <;> try (exfalso; omega)) | (with_reducible refine A2 (fun _ => ?_) (fun _ => ?_) <;> try (exfalso; omega)) | (with_reducible refine A3 (fun _ => ?_) (fun _ => ?_) <;> try (exfalso; omega)) | refine A4 (fun _ => ?_) (fun _ => ?_) | refine A5 (fun _ => ?_) (fun _ => ?_) | refine A6 (fun _ => ?_) (fun _ => ?_) | simp -dsimp (disch := omega) only [↓EA, EB, Nat.reduceEqDiff, Nat.reduceAdd, Nat.reduceLeDiff, Nat.reduceMul, ↓reduceIte, reduceCtorEq, newCells, bslV, eq_self, *, wrap_mod, hq, hm, h64]))
  · rw [Hce.out (by omega), if_pos (by omega), Int.emod_eq_of_lt (by omega) (Hlt.out (by omega) (by omega))]
  · rw [Hce.out (by omega), if_neg (by omega)]
end Go.L.Try
namespace Go.L.Try
open Go Go.L
variable {E : Env}
def addE : List Value → Heap → Option (Value × Heap × List Nat)
  | [.int .u64 a, .int .u64 b, .int .u64 c], h => if (0 ≤ a ∧ a < 18446744073709551616) ∧ (0 ≤ b ∧ b < 18446744073709551616) ∧ 0 ≤ c ∧ c ≤ 1 then some (.tuple #[.int .u64 ((a + b + c) % 18446744073709551616), .int .u64 ((a + b + c) / 18446744073709551616)], h, []) else none
  | _, _ => none
structure LaidAdd (E : Env) : Prop where
  add64 : E n_math_bits_Add64 = .ext addE
theorem callW_ext {g : FuncId} {e : List Value → Heap → Option (Value × Heap × List Nat)} (hf : E g = .ext e) (args : List Value) (h : Heap) : callW E (.func (.func g) #[] #[]) args h = e args h := by
  rw [callW_eq]; simp [callG, hf, callF]
theorem add64 (hX : LaidAdd E) (h : Heap) {a b : Int} (ha : u64in a) (hb : u64in b) :
    callW E (.func (.func n_math_bits_Add64) #[] #[]) [.int .u64 a, .int .u64 b, .int .u64 0] h = some (.tuple #[.int .u64 ((a + b) % 18446744073709551616), .int .u64 ((a + b) / 18446744073709551616)], h, []) := by
  rw [callW_ext hX.add64]
  unfold u64in at ha hb
  simp only [addE]
  rw [if_pos ⟨ha, hb, by decide, by decide⟩, Int.add_zero]
theorem numAdd (hE : Laid E) (hX : LaidAdd E) (h : Heap) {a b : Int} (ha : u64in a) (hb : u64in b) :
    callW E (.func (.func n_num_Add) #[] #[]) [.int .u64 a, .int .u64 b] h = some (if a + b < 18446744073709551616 then .tuple #[.int .u64 (a + b), .bool true] else .tuple #[.int .u64 0, .bool false], h, []) := by
  have hadd := add64 hX h ha hb
  unfold u64in at ha hb
  refine fn_same hE.num_Add rfl (by simp) ?_
  simp only [argsF]
  have hm : a + b < 18446744073709551616 → (a + b) % 18446744073709551616 = a + b := fun h => by omega
  have Hm := Hid.mk hm
  clear hm
  (repeat' (first | (with_reducible refine A1 (fun _ => ?_) (fun _ => ?_) <;> try (exfalso; omega)) | (with_reducible refine A2 (fun _ => ?_) (fun _ => ?_) <;> try (exfalso; omega)) | (with_reducible refine A3 (fun _ => ?_) (fun _ => ?_) <;> try (exfalso; omega)) | refine A4 (fun _ => ?_) (fun _ => ?_) | refine A5 (fun _ => ?_) (fun _ => ?_) | refine A6 (fun _ => ?_) (fun _ => ?_) | simp -dsimp (disch := omega) only [↓EA, EB, Nat.reduceEqDiff, Nat.reduceAdd, Nat.reduceLeDiff, Nat.reduceMul, ↓reduceIte, reduceCtorEq, newCells, bslV, eq_self, *]))
  · rw [if_neg (by omega)]; exact ⟨rfl, rfl⟩
  · rw [if_pos (by omega), Hm.out (by omega)]; exact ⟨rfl, rfl⟩
theorem numTimes (hE : Laid E) (h : Heap) {a b : Int} (ha : u64in a) (hb : u64in b) :
    callW E (.func (.func n_num_Times) #[] #[]) [.int .u64 a, .int .u64 b] h = some (.int .u64 (sat (a * b)), h, []) := by
  have hmul := numMul hE h ha hb
  unfold sat
  refine fn_same hE.num_Times rfl (by simp) ?_
  simp only [argsF]
  by_cases hc : a * b < 18446744073709551616
  · rw [if_pos hc] at hmul
    rw [if_pos hc]
    (repeat' (first | (with_reducible refine A1 (fun _ => ?_) (fun _ => ?_) <;> try (exfalso; omega)) | (with_reducible refine A2 (fun _ => ?_) (fun _ => ?_) <;> try (exfalso; omega)) | (with_reducible refine A3 (fun _ => ?_) (fun _ => ?_) <;> try (exfalso; omega)) | refine A4 (fun _ => ?_) (fun _ => ?_) | refine A5 (fun _ => ?_) (fun _ => ?_) | refine A6 (fun _ => ?_) (fun _ => ?_) | simp -dsimp (disch := omega) only [↓EA, EB, Nat.reduceEqDiff, Nat.reduceAdd, Nat.reduceLeDiff, Nat.reduceMul, ↓reduceIte, reduceCtorEq, newCells, bslV, eq_self, *]))
  · rw [if_neg hc] at hmul
    rw [if_neg hc]
    (repeat' (first | (with_reducible refine A1 (fun _ => ?_) (fun _ => ?_) <;> try (exfalso; omega)) | (with_reducible refine A2 (fun _ => ?_) (fun _ => ?_) <;> try (exfalso; omega)) | (with_reducible refine A3 (fun _ => ?_) (fun _ => ?_) <;> try (exfalso; omega)) | refine A4 (fun _ => ?_) (fun _ => ?_) | refine A5 (fun _ => ?_) (fun _ => ?_) | refine A6 (fun _ => ?_) (fun _ => ?_) | simp -dsimp (disch := omega) only [↓EA, EB, Nat.reduceEqDiff, Nat.reduceAdd, Nat.reduceLeDiff, Nat.reduceMul, ↓reduceIte, reduceCtorEq, newCells, bslV, eq_self, *]))
theorem sat_in {x : Int} (h : 0 ≤ x) : u64in (sat x) := by unfold sat u64in; split <;> omega
def encU (n : Int) : List Value := [.int .u64 n]
theorem flatU : Flat encU := fun _ => rfl
def sumU (s : Int) (l : List Int) : Int := l.foldl (fun s x => sat (s + x)) s
theorem sumU_in : ∀ {l : List Int} {s : Int}, u64in s → (∀ x ∈ l, u64in x) → u64in (sumU s l)
  | [], s, h, _ => h
  | x :: l, s, h, hl => sumU_in (l := l) (sat_in (by have := (hl x (by simp)).1; have := h.1; omega)) fun y hy => hl y (by simp [hy])
theorem sumU_most : ∀ {l : List Int}, (∀ x ∈ l, u64in x) → sumU 18446744073709551615 l = 18446744073709551615
  | [], _ => rfl
  | x :: l, hl => by
    have hx := (hl x (by simp)).1
    have e : sat (18446744073709551615 + x) = 18446744073709551615 := by unfold sat; split <;> omega
    show sumU (sat (18446744073709551615 + x)) l = _
    rw [e]; exact sumU_most fun y hy => hl y (by simp [hy])
theorem numSum (hE : Laid E) (hX : LaidAdd E) {h : Heap} {vl : Value} {l : List Int} {s : Int} (hl : Rd 1 encU h vl l) (hs : u64in s) (hin : ∀ x ∈ l, u64in x) :
    callW E (.func (.func n_num_Sum) #[] #[]) [.int .u64 s, vl] h = some (.int .u64 (sumU s l), h, []) := by
  refine fn_same hE.num_Sum rfl (by simp) ?_
  have few := hl.few
  simp only [argsF]
  (repeat' (first | (with_reducible refine A1 (fun _ => ?_) (fun _ => ?_) <;> try (exfalso; omega)) | (with_reducible refine A2 (fun _ => ?_) (fun _ => ?_) <;> try (exfalso; omega)) | (with_reducible refine A3 (fun _ => ?_) (fun _ => ?_) <;> try (exfalso; omega)) | refine A4 (fun _ => ?_) (fun _ => ?_) | refine A5 (fun _ => ?_) (fun _ => ?_) | refine A6 (fun _ => ?_) (fun _ => ?_) | simp -dsimp (disch := omega) only [↓EA, EB, Nat.reduceEqDiff, Nat.reduceAdd, Nat.reduceLeDiff, Nat.reduceMul, ↓reduceIte, reduceCtorEq, newCells, bslV, eq_self, *, hl.len]))
  refine WO.loop (fun n fr h' => h' = h ∧ n ≤ l.length ∧ get fr 0 = .int .u64 (sumU s (l.take n)) ∧ get fr 9 = vl ∧ get fr 10 = .int .i64 l.length ∧ get fr 11 = .int .i64 n) (fun n => l.length - n) ?_ 0 ⟨rfl, Nat.zero_le _, rfl, rfl, rfl, rfl⟩
  rintro n fr h' ⟨rfl, hn, g0, g9, g10, g11⟩
  have hsn : u64in (sumU s (l.take n)) := sumU_in hs fun x hx => hin x (List.mem_of_mem_take hx)
  unfold c_num_Sum_l0
  rcases Nat.lt_or_ge n l.length with hlt | hge
  · have hat : u64in (atI l (n : Int)) := hin _ (atI_mem (by omega) (by omega))
    have hadd := fun hh => numAdd hE hX hh hsn hat
    have hst : sumU s (l.take (n + 1)) = sat (sumU s (l.take n) + atI l (n : Int)) := by rw [take_snoc hlt]; simp [sumU]
    have hfin : ¬ sumU s (l.take n) + atI l (n : Int) < 18446744073709551616 → sumU s l = 18446744073709551615 := fun hc => by
      have e : l = l.take (n + 1) ++ l.drop (n + 1) := (List.take_append_drop _ _).symm
      have e2 : sumU s l = sumU (sumU s (l.take (n + 1))) (l.drop (n + 1)) := by
        unfold sumU
        rw [← List.foldl_append, ← e]
      rw [e2, hst, show sat (sumU s (l.take n) + atI l (n : Int)) = 18446744073709551615 by unfold sat; rw [if_neg hc]]
      exact sumU_most fun x hx => hin x (List.mem_of_mem_drop hx)
    have Hst := Hid.mk hst
    have Hfin := Hid.mk hfin
    clear hst hfin
    generalize sumU s (l.take n) = S at *
    by_cases hc : S + atI l (n : Int) < 18446744073709551616
    · simp only [if_pos hc] at hadd
      (repeat' (first | (with_reducible refine A1 (fun _ => ?_) (fun _ => ?_) <;> try (exfalso; omega)) | (with_reducible refine A2 (fun _ => ?_) (fun _ => ?_) <;> try (exfalso; omega)) | (with_reducible refine A3 (fun _ => ?_) (fun _ => ?_) <;> try (exfalso; omega)) | refine A4 (fun _ => ?_) (fun _ => ?_) | refine A5 (fun _ => ?_) (fun _ => ?_) | refine A6 (fun _ => ?_) (fun _ => ?_) | simp -dsimp (disch := omega) only [↓EA, EB, Nat.reduceEqDiff, Nat.reduceAdd, Nat.reduceLeDiff, Nat.reduceMul, ↓reduceIte, reduceCtorEq, newCells, bslV, eq_self, *, hl.len, hl.ixs, hl.ld, hl.ld0, hl.lda, hl.ldx, hl.ldx0, hl.ldxa, encU]))
      refine Next.mk (n + 1) ⟨rfl, by omega, ?_, rfl, rfl, rfl⟩ (by omega)
      rw [Hst.out]; unfold sat; rw [if_pos hc]; rfl
    · simp only [if_neg hc] at hadd
      (repeat' (first | (with_reducible refine A1 (fun _ => ?_) (fun _ => ?_) <;> try (exfalso; omega)) | (with_reducible refine A2 (fun _ => ?_) (fun _ => ?_) <;> try (exfalso; omega)) | (with_reducible refine A3 (fun _ => ?_) (fun _ => ?_) <;> try (exfalso; omega)) | refine A4 (fun _ => ?_) (fun _ => ?_) | refine A5 (fun _ => ?_) (fun _ => ?_) | refine A6 (fun _ => ?_) (fun _ => ?_) | simp -dsimp (disch := omega) only [↓EA, EB, Nat.reduceEqDiff, Nat.reduceAdd, Nat.reduceLeDiff, Nat.reduceMul, ↓reduceIte, reduceCtorEq, newCells, bslV, eq_self, *, hl.len, hl.ixs, hl.ld, hl.ld0, hl.lda, hl.ldx, hl.ldx0, hl.ldxa, encU]))
      rw [Hfin.out hc]
  · have e : l.take n = l := List.take_of_length_le (by omega)
    rw [e] at g0
    (repeat' (first | (with_reducible refine A1 (fun _ => ?_) (fun _ => ?_) <;> try (exfalso; omega)) | (with_reducible refine A2 (fun _ => ?_) (fun _ => ?_) <;> try (exfalso; omega)) | (with_reducible refine A3 (fun _ => ?_) (fun _ => ?_) <;> try (exfalso; omega)) | refine A4 (fun _ => ?_) (fun _ => ?_) | refine A5 (fun _ => ?_) (fun _ => ?_) | refine A6 (fun _ => ?_) (fun _ => ?_) | simp -dsimp (disch := omega) only [↓EA, EB, Nat.reduceEqDiff, Nat.reduceAdd, Nat.reduceLeDiff, Nat.reduceMul, ↓reduceIte, reduceCtorEq, newCells, bslV, eq_self, *]))
theorem refSum (hE : Laid E) {h : Heap} {vl : Value} {l : List Int} (hl : Rd 1 encU h vl l) (hin : ∀ x ∈ l, u64in x) :
    callW E (.func (.func n_ref01_Sum) #[] #[]) [vl] h = some (.int .u64 (sumU 0 l), h, []) := by
  refine fn_same hE.ref01_Sum rfl (by simp) ?_
  have few := hl.few
  simp only [argsF]
  (repeat' (first | (with_reducible refine A1 (fun _ => ?_) (fun _ => ?_) <;> try (exfalso; omega)) | (with_reducible refine A2 (fun _ => ?_) (fun _ => ?_) <;> try (exfalso; omega)) | (with_reducible refine A3 (fun _ => ?_) (fun _ => ?_) <;> try (exfalso; omega)) | refine A4 (fun _ => ?_) (fun _ => ?_) | refine A5 (fun _ => ?_) (fun _ => ?_) | refine A6 (fun _ => ?_) (fun _ => ?_) | simp -dsimp (disch := omega) only [↓EA, EB, Nat.reduceEqDiff, Nat.reduceAdd, Nat.reduceLeDiff, Nat.reduceMul, ↓reduceIte, reduceCtorEq, newCells, bslV, eq_self, *, hl.len]))
  refine WO.loop (fun n fr h' => h' = h ∧ n ≤ l.length ∧ get fr 0 = vl ∧ get fr 3 = .int .u64 (sumU 0 (l.take n)) ∧ get fr 4 = .int .i64 n) (fun n => l.length - n) ?_ 0 ⟨rfl, Nat.zero_le _, rfl, rfl, rfl⟩
  rintro n fr h' ⟨rfl, hn, g0, g3, g4⟩
  have hsn : u64in (sumU 0 (l.take n)) := sumU_in ⟨by decide, by decide⟩ fun x hx => hin x (List.mem_of_mem_take hx)
  unfold c_ref01_Sum_l0
  rcases Nat.lt_or_ge n l.length with hlt | hge
  · have hat : u64in (atI l (n : Int)) := hin _ (atI_mem (by omega) (by omega))
    have hadd := fun hh => refAdd hE hh hsn hat
    have hst : sumU 0 (l.take (n + 1)) = sat (sumU 0 (l.take n) + atI l (n : Int)) := by rw [take_snoc hlt]; simp [sumU]
    have Hst := Hid.mk hst
    clear hst
    generalize sumU 0 (l.take n) = S at *
    have hend := fun hh a b => refEnd hE hh (a := a) (b := b)
    by_cases hc : S + atI l (n : Int) < 18446744073709551616
    · simp only [if_pos hc] at hadd
      (repeat' (first | (with_reducible refine A1 (fun _ => ?_) (fun _ => ?_) <;> try (exfalso; omega)) | (with_reducible refine A2 (fun _ => ?_) (fun _ => ?_) <;> try (exfalso; omega)) | (with_reducible refine A3 (fun _ => ?_) (fun _ => ?_) <;> try (exfalso; omega)) | refine A4 (fun _ => ?_) (fun _ => ?_) | refine A5 (fun _ => ?_) (fun _ => ?_) | refine A6 (fun _ => ?_) (fun _ => ?_) | simp -dsimp (disch := omega) only [↓EA, EB, Nat.reduceEqDiff, Nat.reduceAdd, Nat.reduceLeDiff, Nat.reduceMul, ↓reduceIte, reduceCtorEq, newCells, bslV, eq_self, *, hl.len, hl.ixs, hl.ld, hl.ld0, hl.lda, hl.ldx, hl.ldx0, hl.ldxa, encU]))
      refine Next.mk (n + 1) ⟨rfl, by omega, rfl, ?_, rfl⟩ (by omega)
      rw [Hst.out]; unfold sat; rw [if_pos hc]; rfl
    · simp only [if_neg hc] at hadd
      (repeat' (first | (with_reducible refine A1 (fun _ => ?_) (fun _ => ?_) <;> try (exfalso; omega)) | (with_reducible refine A2 (fun _ => ?_) (fun _ => ?_) <;> try (exfalso; omega)) | (with_reducible refine A3 (fun _ => ?_) (fun _ => ?_) <;> try (exfalso; omega)) | refine A4 (fun _ => ?_) (fun _ => ?_) | refine A5 (fun _ => ?_) (fun _ => ?_) | refine A6 (fun _ => ?_) (fun _ => ?_) | simp -dsimp (disch := omega) only [↓EA, EB, Nat.reduceEqDiff, Nat.reduceAdd, Nat.reduceLeDiff, Nat.reduceMul, ↓reduceIte, reduceCtorEq, newCells, bslV, eq_self, *, hl.len, hl.ixs, hl.ld, hl.ld0, hl.lda, hl.ldx, hl.ldx0, hl.ldxa, encU]))
      refine Next.mk (n + 1) ⟨rfl, by omega, rfl, ?_, rfl⟩ (by omega)
      rw [Hst.out]; unfold sat; rw [if_neg hc]; rfl
  · have e : l.take n = l := List.take_of_length_le (by omega)
    rw [e] at g3
    (repeat' (first | (with_reducible refine A1 (fun _ => ?_) (fun _ => ?_) <;> try (exfalso; omega)) | (with_reducible refine A2 (fun _ => ?_) (fun _ => ?_) <;> try (exfalso; omega)) | (with_reducible refine A3 (fun _ => ?_) (fun _ => ?_) <;> try (exfalso; omega)) | refine A4 (fun _ => ?_) (fun _ => ?_) | refine A5 (fun _ => ?_) (fun _ => ?_) | refine A6 (fun _ => ?_) (fun _ => ?_) | simp -dsimp (disch := omega) only [↓EA, EB, Nat.reduceEqDiff, Nat.reduceAdd, Nat.reduceLeDiff, Nat.reduceMul, ↓reduceIte, reduceCtorEq, newCells, bslV, eq_self, *, hl.len]))
end Go.L.Try
set_option maxHeartbeats 1000000
namespace Go.L.Try
open Go Go.L
variable {E : Env}
def isP (l : List Task) (i : Int) : Bool := decide ((checkAllP l).2 = 0 ∧ 0 ≤ i ∧ i < l.length)
theorem is13 (hE : Laid E) {h : Heap} {vl : Value} {l : List Task} (hl : Rd 7 encT h vl l) (hs : ∀ t ∈ l, t.name.size < 1152921504606846976) (i : Int) :
    callW E (.func (.func n_ref13_Is) #[] #[]) [vl, .int .i64 i] h = some (.bool (isP l i), h, []) := by
  have hc := checkAll04 hE hl hs
  refine fn_same hE.ref13_Is rfl (by simp) ?_
  simp only [argsF]
  (repeat' (first | (with_reducible refine A1 (fun _ => ?_) (fun _ => ?_) <;> try (exfalso; omega)) | (with_reducible refine A2 (fun _ => ?_) (fun _ => ?_) <;> try (exfalso; omega)) | (with_reducible refine A3 (fun _ => ?_) (fun _ => ?_) <;> try (exfalso; omega)) | refine A4 (fun _ => ?_) (fun _ => ?_) | refine A5 (fun _ => ?_) (fun _ => ?_) | refine A6 (fun _ => ?_) (fun _ => ?_) | simp -dsimp (disch := omega) only [↓EA, EB, Nat.reduceEqDiff, Nat.reduceAdd, Nat.reduceLeDiff, Nat.reduceMul, ↓reduceIte, reduceCtorEq, newCells, bslV, eq_self, *, hl.len]))
  · congr 1; unfold isP; exact decide_eq_decide.2 (by omega)
  · congr 1; unfold isP; exact (decide_eq_false (by omega)).symm
  · congr 1; unfold isP; exact (decide_eq_false (by omega)).symm
def blockN (l : List Task) (i : Int) : Nat → Int
  | 0 => 0
  | k + 1 => if (atI l i).P < (atI l (k : Int)).P then max (blockN l i k) ((atI l (k : Int)).Q - 1) else blockN l i k
def oftenP (t : Task) (w : Int) : Int := (sat (w + t.J) + t.T - 1) / t.T
def higherN (l : List Task) (i w : Int) : Nat → Int
  | 0 => 0
  | k + 1 => if (atI l (k : Int)).P < (atI l i).P then sat (higherN l i w k + sat (oftenP (atI l (k : Int)) w * (atI l (k : Int)).C)) else higherN l i w k
def blockP (l : List Task) (i : Int) : Int := if isP l i then blockN l i l.length else 0
def higherP (l : List Task) (i w : Int) : Int := if isP l i ∧ 0 < w then higherN l i w l.length else 0
def needP (l : List Task) (i w : Int) : Int := if isP l i then sumU 0 [(atI l i).C, blockP l i, higherP l i w] else 0
theorem isP_ok {l : List Task} {i : Int} (h : isP l i = true) : (0 ≤ i ∧ i < l.length) ∧ l.length ≤ 1024 ∧ ∀ t ∈ l, okTask t := by
  unfold isP at h
  have h := of_decide_eq_true h
  exact ⟨h.2, (checkAll_ok h.1).2⟩
theorem blockN_in {l : List Task} (hok : ∀ t ∈ l, okTask t) (i : Int) : ∀ k : Nat, k ≤ l.length → 0 ≤ blockN l i k ∧ blockN l i k ≤ 2147483647
  | 0, _ => by simp [blockN]
  | k + 1, hk => by
    have ih := blockN_in hok i k (by omega)
    have ht := (hok _ (atI_mem (l := l) (i := (k : Int)) (by omega) (by omega))).1
    simp only [rangesB] at ht
    unfold blockN
    split <;> omega
theorem block13 (hE : Laid E) {h : Heap} {vl : Value} {l : List Task} (hl : Rd 7 encT h vl l) (hs : ∀ t ∈ l, t.name.size < 1152921504606846976) (i : Int) :
    callW E (.func (.func n_ref13_Block) #[] #[]) [vl, .int .i64 i] h = some (.int .i64 (blockP l i), h, []) := by
  have hi := is13 hE hl hs i
  refine fn_same hE.ref13_Block rfl (by simp) ?_
  simp only [argsF]
  unfold blockP
  cases hb : isP l i
  · rw [hb] at hi
    (repeat' (first | (with_reducible refine A1 (fun _ => ?_) (fun _ => ?_) <;> try (exfalso; omega)) | (with_reducible refine A2 (fun _ => ?_) (fun _ => ?_) <;> try (exfalso; omega)) | (with_reducible refine A3 (fun _ => ?_) (fun _ => ?_) <;> try (exfalso; omega)) | refine A4 (fun _ => ?_) (fun _ => ?_) | refine A5 (fun _ => ?_) (fun _ => ?_) | refine A6 (fun _ => ?_) (fun _ => ?_) | simp -dsimp (disch := omega) only [↓EA, EB, Nat.reduceEqDiff, Nat.reduceAdd, Nat.reduceLeDiff, Nat.reduceMul, ↓reduceIte, reduceCtorEq, newCells, bslV, eq_self, *]))
    refine WO.loop (fun (n : Nat) fr h' => h' = h ∧ n = 0 ∧ get fr 0 = vl ∧ get fr 5 = .bool false ∧ get fr 6 = .int .i64 0 ∧ get fr 7 = .int .i64 0) (fun n => 0) ?_ 0 ⟨rfl, rfl, rfl, rfl, rfl, rfl⟩
    rintro n fr h' ⟨rfl, rfl, g0, g5, g6, g7⟩
    unfold c_ref13_Block_l0
    (repeat' (first | (with_reducible refine A1 (fun _ => ?_) (fun _ => ?_) <;> try (exfalso; omega)) | (with_reducible refine A2 (fun _ => ?_) (fun _ => ?_) <;> try (exfalso; omega)) | (with_reducible refine A3 (fun _ => ?_) (fun _ => ?_) <;> try (exfalso; omega)) | refine A4 (fun _ => ?_) (fun _ => ?_) | refine A5 (fun _ => ?_) (fun _ => ?_) | refine A6 (fun _ => ?_) (fun _ => ?_) | simp -dsimp (disch := omega) only [↓EA, EB, Nat.reduceEqDiff, Nat.reduceAdd, Nat.reduceLeDiff, Nat.reduceMul, ↓reduceIte, reduceCtorEq, newCells, bslV, eq_self, *, hl.len]))
  · rw [hb] at hi
    obtain ⟨hi2, hlen, hok⟩ := isP_ok hb
    (repeat' (first | (with_reducible refine A1 (fun _ => ?_) (fun _ => ?_) <;> try (exfalso; omega)) | (with_reducible refine A2 (fun _ => ?_) (fun _ => ?_) <;> try (exfalso; omega)) | (with_reducible refine A3 (fun _ => ?_) (fun _ => ?_) <;> try (exfalso; omega)) | refine A4 (fun _ => ?_) (fun _ => ?_) | refine A5 (fun _ => ?_) (fun _ => ?_) | refine A6 (fun _ => ?_) (fun _ => ?_) | simp -dsimp (disch := omega) only [↓EA, EB, Nat.reduceEqDiff, Nat.reduceAdd, Nat.reduceLeDiff, Nat.reduceMul, ↓reduceIte, reduceCtorEq, newCells, bslV, eq_self, *]))
    refine WO.loop (fun (n : Nat) fr h' => h' = h ∧ n ≤ l.length ∧ get fr 0 = vl ∧ get fr 1 = .int .i64 i ∧ get fr 5 = .bool true ∧ get fr 6 = .int .i64 (blockN l i n) ∧ get fr 7 = .int .i64 n) (fun n => l.length - n) ?_ 0 ⟨rfl, Nat.zero_le _, rfl, rfl, rfl, rfl, rfl⟩
    rintro n fr h' ⟨rfl, hn, g0, g1, g5, g6, g7⟩
    unfold c_ref13_Block_l0
    have hbi := blockN_in hok i n hn
    have Hst := Hid.mk (show blockN l i (n + 1) = if (atI l i).P < (atI l (n : Int)).P then max (blockN l i n) ((atI l (n : Int)).Q - 1) else blockN l i n from rfl)
    rcases Nat.lt_or_ge n l.length with hlt | hge
    · have ht := (hok _ (atI_mem (l := l) (i := (n : Int)) (by omega) (by omega))).1
      simp only [rangesB] at ht
      have hq := ht.2.2.2.2.2.1
      clear ht hb hi hok
      generalize blockN l i n = B at *
      (repeat' (first | (with_reducible refine A1 (fun _ => ?_) (fun _ => ?_) <;> try (exfalso; omega)) | (with_reducible refine A2 (fun _ => ?_) (fun _ => ?_) <;> try (exfalso; omega)) | (with_reducible refine A3 (fun _ => ?_) (fun _ => ?_) <;> try (exfalso; omega)) | refine A4 (fun _ => ?_) (fun _ => ?_) | refine A5 (fun _ => ?_) (fun _ => ?_) | refine A6 (fun _ => ?_) (fun _ => ?_) | simp -dsimp (disch := omega) only [↓EA, EB, Nat.reduceEqDiff, Nat.reduceAdd, Nat.reduceLeDiff, Nat.reduceMul, ↓reduceIte, reduceCtorEq, newCells, bslV, eq_self, *, hl.len, hl.ixs, hl.ld, hl.ld0, hl.lda, hl.ldx, hl.ldx0, hl.ldxa, encT]))
      · refine Next.mk (n + 1) ⟨rfl, by omega, rfl, rfl, rfl, ?_, rfl⟩ (by omega)
        rw [Hst.out, if_pos (by omega)]; rfl
      · refine Next.mk (n + 1) ⟨rfl, by omega, rfl, rfl, rfl, ?_, rfl⟩ (by omega)
        rw [Hst.out, if_neg (by omega)]; rfl
    · have e : n = l.length := by omega
      subst e
      (repeat' (first | (with_reducible refine A1 (fun _ => ?_) (fun _ => ?_) <;> try (exfalso; omega)) | (with_reducible refine A2 (fun _ => ?_) (fun _ => ?_) <;> try (exfalso; omega)) | (with_reducible refine A3 (fun _ => ?_) (fun _ => ?_) <;> try (exfalso; omega)) | refine A4 (fun _ => ?_) (fun _ => ?_) | refine A5 (fun _ => ?_) (fun _ => ?_) | refine A6 (fun _ => ?_) (fun _ => ?_) | simp -dsimp (disch := omega) only [↓EA, EB, Nat.reduceEqDiff, Nat.reduceAdd, Nat.reduceLeDiff, Nat.reduceMul, ↓reduceIte, reduceCtorEq, newCells, bslV, eq_self, *, hl.len]))
theorem ofBounds {t : Task} (ht : okTask t) : (1 ≤ t.C ∧ t.C ≤ 2147483647) ∧ (1 ≤ t.T ∧ t.T ≤ 2147483647) ∧ (0 ≤ t.J ∧ t.J ≤ 2147483647) := by
  have := ht.1; simp only [rangesB] at this; omega
theorem often_in {t : Task} (ht : okTask t) {w : Int} (hw : u64in w) : u64in (sat (w + t.J)) ∧ u64in (oftenP t w) := by
  obtain ⟨_, hT, hJ⟩ := ofBounds ht
  have h1 : u64in (sat (w + t.J)) := sat_in (by have := hw.1; omega)
  refine ⟨h1, ?_⟩
  unfold oftenP
  generalize sat (w + t.J) = x at *
  unfold u64in at *
  have e := ceil_eq (a := x) (b := t.T) h1.1 (by omega)
  have b1 : 0 ≤ x / t.T ∧ x / t.T ≤ x := ⟨Int.ediv_nonneg h1.1 (by omega), Int.ediv_le_self t.T h1.1⟩
  rw [e]
  split
  · rename_i hc
    by_cases h3 : t.T < 2
    · have : t.T = 1 := by omega
      rw [this] at hc; simp at hc
    · have e1 := Int.mul_le_mul_of_nonneg_left (show (2 : Int) ≤ t.T by omega) b1.1
      have e2 := Int.ediv_mul_le x (show t.T ≠ 0 by omega)
      omega
  · omega
theorem higherN_in {l : List Task} (hok : ∀ t ∈ l, okTask t) {i w : Int} (hw : u64in w) : ∀ k : Nat, k ≤ l.length → u64in (higherN l i w k)
  | 0, _ => ⟨by simp [higherN], by simp [higherN]⟩
  | k + 1, hk => by
    have ih := higherN_in hok (i := i) hw k (by omega)
    have ht := hok _ (atI_mem (l := l) (i := (k : Int)) (by omega) (by omega))
    unfold higherN
    split
    · have h1 := (often_in ht hw).2
      have h2 := (ofBounds ht).1
      have h3 := sat_in (Int.mul_nonneg h1.1 (show 0 ≤ (atI l (k : Int)).C by omega))
      exact sat_in (by have := ih.1; have := h3.1; omega)
    · exact ih
theorem refAddE (hE : Laid E) (h : Heap) {a b : Int} (ha : u64in a) (hb : u64in b) :
    ∃ v, callW E (.func (.func n_ref01_Add) #[] #[]) [.int .u64 a, .int .u64 b] h = some (v, h, []) ∧ callW E (.func (.func n_ref01_End) #[] #[]) [v] h = some (.int .u64 (sat (a + b)), h, []) := by
  refine ⟨_, refAdd hE h ha hb, ?_⟩
  unfold sat
  split
  · rw [refEnd hE h]; rfl
  · rw [refEnd hE h]; rfl
theorem refMulE (hE : Laid E) (h : Heap) {a b : Int} (ha : u64in a) (hb : u64in b) :
    ∃ v, callW E (.func (.func n_ref01_Mul) #[] #[]) [.int .u64 a, .int .u64 b] h = some (v, h, []) ∧ callW E (.func (.func n_ref01_End) #[] #[]) [v] h = some (.int .u64 (sat (a * b)), h, []) := by
  refine ⟨_, refMul hE h ha hb, ?_⟩
  unfold sat
  split
  · rw [refEnd hE h]; rfl
  · rw [refEnd hE h]; rfl
theorem higher13 (hE : Laid E) {h : Heap} {vl : Value} {l : List Task} (hl : Rd 7 encT h vl l) (hs : ∀ t ∈ l, t.name.size < 1152921504606846976) (i : Int) {w : Int} (hw : u64in w) :
    callW E (.func (.func n_ref13_Higher) #[] #[]) [vl, .int .i64 i, .int .u64 w] h = some (.int .u64 (higherP l i w), h, []) := by
  have hi := is13 hE hl hs i
  refine fn_same hE.ref13_Higher rfl (by simp) ?_
  simp only [argsF]
  have hw2 := hw
  unfold u64in at hw2
  by_cases hb : isP l i = true ∧ 0 < w
  · have e0 : higherP l i w = higherN l i w l.length := by unfold higherP; rw [if_pos hb]
    rw [e0]
    obtain ⟨hb, hw0⟩ := hb
    rw [hb] at hi
    obtain ⟨hi2, hlen, hok⟩ := isP_ok hb
    clear e0
    (repeat' (first | (with_reducible refine A1 (fun _ => ?_) (fun _ => ?_) <;> try (exfalso; omega)) | (with_reducible refine A2 (fun _ => ?_) (fun _ => ?_) <;> try (exfalso; omega)) | (with_reducible refine A3 (fun _ => ?_) (fun _ => ?_) <;> try (exfalso; omega)) | refine A4 (fun _ => ?_) (fun _ => ?_) | refine A5 (fun _ => ?_) (fun _ => ?_) | refine A6 (fun _ => ?_) (fun _ => ?_) | simp -dsimp (disch := omega) only [↓EA, EB, Nat.reduceEqDiff, Nat.reduceAdd, Nat.reduceLeDiff, Nat.reduceMul, ↓reduceIte, reduceCtorEq, newCells, bslV, eq_self, *]))
    refine WO.loop (fun (n : Nat) fr h' => h' = h ∧ n ≤ l.length ∧ get fr 0 = vl ∧ get fr 1 = .int .i64 i ∧ get fr 2 = .int .u64 w ∧ get fr 7 = .bool true ∧ get fr 8 = .int .u64 (higherN l i w n) ∧ get fr 9 = .int .i64 n) (fun n => l.length - n) ?_ 0 ⟨rfl, Nat.zero_le _, rfl, rfl, rfl, rfl, rfl, rfl⟩
    rintro n fr h' ⟨rfl, hn, g0, g1, g2, g7, g8, g9⟩
    unfold c_ref13_Higher_l0
    have hsn := higherN_in hok (i := i) hw n hn
    have Hst := Hid.mk (show higherN l i w (n + 1) = if (atI l (n : Int)).P < (atI l i).P then sat (higherN l i w n + sat (oftenP (atI l (n : Int)) w * (atI l (n : Int)).C)) else higherN l i w n from rfl)
    rcases Nat.lt_or_ge n l.length with hlt | hge
    · have ht := hok _ (atI_mem (l := l) (i := (n : Int)) (by omega) (by omega))
      obtain ⟨hC, hT, hJ⟩ := ofBounds ht
      obtain ⟨o1, o2⟩ := often_in ht hw
      have hcu : u64in (atI l (n : Int)).C := by unfold u64in; omega
      obtain ⟨v1, a1, a2⟩ := refAddE hE h' hw (b := (atI l (n : Int)).J) (by unfold u64in; omega)
      have a3 := refCeil hE h' o1 (b := (atI l (n : Int)).T) (by unfold u64in; omega)
      rw [if_neg (by omega)] at a3
      obtain ⟨v2, a4, a5⟩ := refMulE hE h' o2 hcu
      obtain ⟨v3, a6, a7⟩ := refAddE hE h' hsn (sat_in (Int.mul_nonneg o2.1 hcu.1))
      clear hb hi hok ht
      have eo : (sat (w + (atI l (n : Int)).J) + (atI l (n : Int)).T - 1) / (atI l (n : Int)).T = oftenP (atI l (n : Int)) w := rfl
      rw [eo] at a3
      clear eo
      generalize oftenP (atI l (n : Int)) w = O at *
      generalize higherN l i w n = B at *
      clear o1 o2 hsn hcu hw
      (repeat' (first | (with_reducible refine A1 (fun _ => ?_) (fun _ => ?_) <;> try (exfalso; omega)) | (with_reducible refine A2 (fun _ => ?_) (fun _ => ?_) <;> try (exfalso; omega)) | (with_reducible refine A3 (fun _ => ?_) (fun _ => ?_) <;> try (exfalso; omega)) | refine A4 (fun _ => ?_) (fun _ => ?_) | refine A5 (fun _ => ?_) (fun _ => ?_) | refine A6 (fun _ => ?_) (fun _ => ?_) | simp -dsimp (disch := omega) only [↓EA, EB, Nat.reduceEqDiff, Nat.reduceAdd, Nat.reduceLeDiff, Nat.reduceMul, ↓reduceIte, reduceCtorEq, newCells, bslV, eq_self, *, hl.len, hl.ixs, hl.ld, hl.ld0, hl.lda, hl.ldx, hl.ldx0, hl.ldxa, encT]))
      · refine Next.mk (n + 1) ⟨rfl, by omega, rfl, rfl, rfl, rfl, ?_, rfl⟩ (by omega)
        rw [Hst.out, if_pos (by omega)]; rfl
      · refine Next.mk (n + 1) ⟨rfl, by omega, rfl, rfl, rfl, rfl, ?_, rfl⟩ (by omega)
        rw [Hst.out, if_neg (by omega)]; rfl
    · have e : n = l.length := by omega
      subst e
      (repeat' (first | (with_reducible refine A1 (fun _ => ?_) (fun _ => ?_) <;> try (exfalso; omega)) | (with_reducible refine A2 (fun _ => ?_) (fun _ => ?_) <;> try (exfalso; omega)) | (with_reducible refine A3 (fun _ => ?_) (fun _ => ?_) <;> try (exfalso; omega)) | refine A4 (fun _ => ?_) (fun _ => ?_) | refine A5 (fun _ => ?_) (fun _ => ?_) | refine A6 (fun _ => ?_) (fun _ => ?_) | simp -dsimp (disch := omega) only [↓EA, EB, Nat.reduceEqDiff, Nat.reduceAdd, Nat.reduceLeDiff, Nat.reduceMul, ↓reduceIte, reduceCtorEq, newCells, bslV, eq_self, *, hl.len]))
  · have e0 : higherP l i w = 0 := by unfold higherP; rw [if_neg hb]
    rw [e0]
    have hq : isP l i = false ∨ w = 0 := by
      cases h : isP l i
      · exact .inl rfl
      · exact .inr (by have : ¬ 0 < w := fun h' => hb ⟨h, h'⟩; omega)
    clear hb e0
    (repeat' (first | (with_reducible refine A1 (fun _ => ?_) (fun _ => ?_) <;> try (exfalso; omega)) | (with_reducible refine A2 (fun _ => ?_) (fun _ => ?_) <;> try (exfalso; omega)) | (with_reducible refine A3 (fun _ => ?_) (fun _ => ?_) <;> try (exfalso; omega)) | refine A4 (fun _ => ?_) (fun _ => ?_) | refine A5 (fun _ => ?_) (fun _ => ?_) | refine A6 (fun _ => ?_) (fun _ => ?_) | simp -dsimp (disch := omega) only [↓EA, EB, Nat.reduceEqDiff, Nat.reduceAdd, Nat.reduceLeDiff, Nat.reduceMul, ↓reduceIte, reduceCtorEq, newCells, bslV, eq_self, *]))
    refine WO.loop (fun (n : Nat) fr h' => h' = h ∧ n = 0 ∧ get fr 0 = vl ∧ get fr 2 = .int .u64 w ∧ get fr 7 = .bool (isP l i) ∧ get fr 8 = .int .u64 0 ∧ get fr 9 = .int .i64 0) (fun n => 0) ?_ 0 ⟨rfl, rfl, rfl, rfl, rfl, rfl, rfl⟩
    rintro n fr h' ⟨rfl, rfl, g0, g2, g7, g8, g9⟩
    unfold c_ref13_Higher_l0
    rcases hq with hq | hq
    · rw [hq] at g7
      clear hq hi
      (repeat' (first | (with_reducible refine A1 (fun _ => ?_) (fun _ => ?_) <;> try (exfalso; omega)) | (with_reducible refine A2 (fun _ => ?_) (fun _ => ?_) <;> try (exfalso; omega)) | (with_reducible refine A3 (fun _ => ?_) (fun _ => ?_) <;> try (exfalso; omega)) | refine A4 (fun _ => ?_) (fun _ => ?_) | refine A5 (fun _ => ?_) (fun _ => ?_) | refine A6 (fun _ => ?_) (fun _ => ?_) | simp -dsimp (disch := omega) only [↓EA, EB, Nat.reduceEqDiff, Nat.reduceAdd, Nat.reduceLeDiff, Nat.reduceMul, ↓reduceIte, reduceCtorEq, newCells, bslV, eq_self, *, hl.len]))
    · subst hq
      clear hi
      generalize isP l i = b at *
      cases b
      · (repeat' (first | (with_reducible refine A1 (fun _ => ?_) (fun _ => ?_) <;> try (exfalso; omega)) | (with_reducible refine A2 (fun _ => ?_) (fun _ => ?_) <;> try (exfalso; omega)) | (with_reducible refine A3 (fun _ => ?_) (fun _ => ?_) <;> try (exfalso; omega)) | refine A4 (fun _ => ?_) (fun _ => ?_) | refine A5 (fun _ => ?_) (fun _ => ?_) | refine A6 (fun _ => ?_) (fun _ => ?_) | simp -dsimp (disch := omega) only [↓EA, EB, Nat.reduceEqDiff, Nat.reduceAdd, Nat.reduceLeDiff, Nat.reduceMul, ↓reduceIte, reduceCtorEq, newCells, bslV, eq_self, *, hl.len]))
      · (repeat' (first | (with_reducible refine A1 (fun _ => ?_) (fun _ => ?_) <;> try (exfalso; omega)) | (with_reducible refine A2 (fun _ => ?_) (fun _ => ?_) <;> try (exfalso; omega)) | (with_reducible refine A3 (fun _ => ?_) (fun _ => ?_) <;> try (exfalso; omega)) | refine A4 (fun _ => ?_) (fun _ => ?_) | refine A5 (fun _ => ?_) (fun _ => ?_) | refine A6 (fun _ => ?_) (fun _ => ?_) | simp -dsimp (disch := omega) only [↓EA, EB, Nat.reduceEqDiff, Nat.reduceAdd, Nat.reduceLeDiff, Nat.reduceMul, ↓reduceIte, reduceCtorEq, newCells, bslV, eq_self, *, hl.len]))
theorem need13 (hE : Laid E) {h : Heap} {vl : Value} {l : List Task} (hl : Rd 7 encT h vl l) (hs : ∀ t ∈ l, t.name.size < 1152921504606846976) (i : Int) {w : Int} (hw : u64in w) :
    callW E (.func (.func n_ref13_Need) #[] #[]) [vl, .int .i64 i, .int .u64 w] h = some (.int .u64 (needP l i w), h, []) := by
  have hi := is13 hE hl hs i
  refine fn_same hE.ref13_Need rfl (by simp) ?_
  simp only [argsF]
  unfold needP
  cases hb : isP l i
  · rw [hb] at hi
    (repeat' (first | (with_reducible refine A1 (fun _ => ?_) (fun _ => ?_) <;> try (exfalso; omega)) | (with_reducible refine A2 (fun _ => ?_) (fun _ => ?_) <;> try (exfalso; omega)) | (with_reducible refine A3 (fun _ => ?_) (fun _ => ?_) <;> try (exfalso; omega)) | refine A4 (fun _ => ?_) (fun _ => ?_) | refine A5 (fun _ => ?_) (fun _ => ?_) | refine A6 (fun _ => ?_) (fun _ => ?_) | simp -dsimp (disch := omega) only [↓EA, EB, Nat.reduceEqDiff, Nat.reduceAdd, Nat.reduceLeDiff, Nat.reduceMul, ↓reduceIte, reduceCtorEq, newCells, bslV, eq_self, *]))
  · rw [hb] at hi
    have q1 := fun x => block13 hE (hl.app x) hs i
    have q2 := fun x => higher13 hE (hl.app x) hs i hw
    obtain ⟨hi2, hlen, hok⟩ := isP_ok hb
    have ht := hok _ (atI_mem hi2.1 hi2.2)
    obtain ⟨hC, hT, hJ⟩ := ofBounds ht
    have hbi : 0 ≤ blockP l i ∧ blockP l i ≤ 2147483647 := by unfold blockP; rw [if_pos hb]; exact blockN_in hok i _ (Nat.le_refl _)
    have hhi : u64in (higherP l i w) := by unfold higherP; split; exact higherN_in hok hw _ (Nat.le_refl _); exact ⟨by decide, by decide⟩
    clear hb ht hok
    generalize blockP l i = B at *
    generalize higherP l i w = Hi at *
    (repeat' (first | (with_reducible refine A1 (fun _ => ?_) (fun _ => ?_) <;> try (exfalso; omega)) | (with_reducible refine A2 (fun _ => ?_) (fun _ => ?_) <;> try (exfalso; omega)) | (with_reducible refine A3 (fun _ => ?_) (fun _ => ?_) <;> try (exfalso; omega)) | refine A4 (fun _ => ?_) (fun _ => ?_) | refine A5 (fun _ => ?_) (fun _ => ?_) | refine A6 (fun _ => ?_) (fun _ => ?_) | simp -dsimp (disch := omega) only [↓EA, EB, Nat.reduceEqDiff, Nat.reduceAdd, Nat.reduceLeDiff, Nat.reduceMul, ↓reduceIte, reduceCtorEq, newCells, bslV, eq_self, *, hl.len, hl.ixs, hl.ld, hl.ld0, hl.lda, hl.ldx, hl.ldx0, hl.ldxa, encT]))
    have hsum := refSum hE (h := h ++ [LObj.cells [Value.int IntKind.u64 (atI l i).C, Value.int IntKind.u64 B, Value.int IntKind.u64 Hi] false]) (vl := .slice (some ⟨h.length, 0, none⟩) 3 3) (l := [(atI l i).C, B, Hi]) (Rd.lit (enc := encU) [(atI l i).C, B, Hi] (by rw [geta0]; rfl) rfl (fun _ => rfl) (by simp) (by simp) (.inl rfl)) (fun x hx => by
      simp only [List.mem_cons, List.not_mem_nil, or_false] at hx
      unfold u64in
      rcases hx with rfl | rfl | rfl
      · omega
      · omega
      · exact hhi)
    (repeat' (first | (with_reducible refine A1 (fun _ => ?_) (fun _ => ?_) <;> try (exfalso; omega)) | (with_reducible refine A2 (fun _ => ?_) (fun _ => ?_) <;> try (exfalso; omega)) | (with_reducible refine A3 (fun _ => ?_) (fun _ => ?_) <;> try (exfalso; omega)) | refine A4 (fun _ => ?_) (fun _ => ?_) | refine A5 (fun _ => ?_) (fun _ => ?_) | refine A6 (fun _ => ?_) (fun _ => ?_) | simp -dsimp (disch := omega) only [↓EA, EB, Nat.reduceEqDiff, Nat.reduceAdd, Nat.reduceLeDiff, Nat.reduceMul, ↓reduceIte, reduceCtorEq, newCells, bslV, eq_self, *, hsum]))
end Go.L.Try
namespace Go.L.Try
open Go Go.L
variable {E : Env}
theorem sat_mono {x y : Int} (h : x ≤ y) : sat x ≤ sat y := by unfold sat; split <;> split <;> omega
theorem often_mono {t : Task} (ht : okTask t) {w v : Int} (h : w ≤ v) : oftenP t w ≤ oftenP t v := by
  obtain ⟨_, hT, _⟩ := ofBounds ht
  unfold oftenP
  exact Int.ediv_le_ediv (by omega) (by have := sat_mono (x := w + t.J) (y := v + t.J) (by omega); omega)
theorem higherN_mono {l : List Task} (hok : ∀ t ∈ l, okTask t) {i w v : Int} (h : w ≤ v) : ∀ k : Nat, k ≤ l.length → higherN l i w k ≤ higherN l i v k
  | 0, _ => Int.le_refl _
  | k + 1, hk => by
    have ih := higherN_mono hok (i := i) h k (by omega)
    have ht := hok _ (atI_mem (l := l) (i := (k : Int)) (by omega) (by omega))
    have hC := (ofBounds ht).1
    unfold higherN
    split
    · have h1 := Int.mul_le_mul_of_nonneg_right (often_mono ht h) (show 0 ≤ (atI l (k : Int)).C by omega)
      have h2 := sat_mono h1
      exact sat_mono (by omega)
    · exact ih
theorem higherP_in {l : List Task} {i w : Int} (hw : u64in w) : u64in (higherP l i w) := by
  unfold higherP
  split
  · rename_i h; exact higherN_in (isP_ok h.1).2.2 hw _ (Nat.le_refl _)
  · exact ⟨by decide, by decide⟩
theorem higherP_mono {l : List Task} {i w v : Int} (h0 : u64in w) (h : w ≤ v) : higherP l i w ≤ higherP l i v := by
  unfold higherP
  split
  · rename_i hc
    rw [if_pos ⟨hc.1, by omega⟩]
    exact higherN_mono (isP_ok hc.1).2.2 h _ (Nat.le_refl _)
  · split
    · rename_i hc
      have hv : higherN l i v l.length ≥ higherN l i 0 l.length := by
        have hw := h0.1
        exact higherN_mono (isP_ok hc.1).2.2 (by omega) _ (Nat.le_refl _)
      have := (higherN_in (isP_ok hc.1).2.2 (i := i) (w := 0) ⟨by decide, by decide⟩ l.length (Nat.le_refl _)).1
      omega
    · exact Int.le_refl _
theorem needP_eq {l : List Task} {i : Int} (h : isP l i = true) (w : Int) : needP l i w = sat (sat ((atI l i).C + blockP l i) + higherP l i w) := by
  obtain ⟨hi, _, hok⟩ := isP_ok h
  have hC := (ofBounds (hok _ (atI_mem hi.1 hi.2))).1
  unfold needP
  rw [if_pos h]
  have e : sat (0 + (atI l i).C) = (atI l i).C := by unfold sat; rw [if_pos (by omega)]; omega
  show sat (sat (sat (0 + (atI l i).C) + blockP l i) + higherP l i w) = _
  rw [e]
theorem blockP_in {l : List Task} {i : Int} (h : isP l i = true) : 0 ≤ blockP l i ∧ blockP l i ≤ 2147483647 := by
  unfold blockP; rw [if_pos h]; exact blockN_in (isP_ok h).2.2 i _ (Nat.le_refl _)
theorem needP_in {l : List Task} {i w : Int} (h : isP l i = true) (hw : u64in w) : u64in (needP l i w) ∧ 1 ≤ needP l i w := by
  obtain ⟨hi, _, hok⟩ := isP_ok h
  have hC := (ofBounds (hok _ (atI_mem hi.1 hi.2))).1
  have hB := blockP_in h
  have hH := (higherP_in (l := l) (i := i) hw).1
  rw [needP_eq h]
  have e : sat ((atI l i).C + blockP l i) = (atI l i).C + blockP l i := by unfold sat; rw [if_pos (by omega)]
  rw [e]
  refine ⟨sat_in (by omega), ?_⟩
  unfold sat; split <;> omega
theorem needP_mono {l : List Task} {i w v : Int} (h : isP l i = true) (h0 : u64in w) (hv : w ≤ v) : needP l i w ≤ needP l i v := by
  rw [needP_eq h, needP_eq h]
  have := higherP_mono (l := l) (i := i) h0 hv
  exact sat_mono (by omega)
def mostP (l : List Task) (i : Int) : Int := (atI l i).D - (atI l i).J
theorem mostP_in {l : List Task} {i : Int} (h : isP l i = true) : 1 ≤ mostP l i ∧ mostP l i ≤ 2147483647 := by
  obtain ⟨hi, _, hok⟩ := isP_ok h
  have ht := hok _ (atI_mem hi.1 hi.2)
  have h1 := ht.1
  have h2 := ht.2
  simp only [rangesB] at h1
  simp only [fitsB] at h2
  unfold mostP; omega
def leastN (l : List Task) (i : Int) : Nat → Int → Option Int
  | 0, _ => none
  | n + 1, w => if needP l i w ≤ w then some w else leastN l i n (w + 1)
def leastP (l : List Task) (i : Int) : Option Int := leastN l i (mostP l i).toNat 1
def boundP (l : List Task) (i : Int) : Int × Int := if isP l i then (match leastP l i with | some w => (w + (atI l i).J, 0) | none => (0, 16)) else (0, 1)
theorem bound14 (hE : Laid E) {h : Heap} {vl : Value} {l : List Task} (hl : Rd 7 encT h vl l) (hs : ∀ t ∈ l, t.name.size < 1152921504606846976) (i : Int) :
    callW E (.func (.func n_ref14_Bound) #[] #[]) [vl, .int .i64 i] h = some (.agg #[.int .i64 (boundP l i).1, .int .i64 (boundP l i).2], h, []) := by
  have hi := fun x => is13 hE (hl.app x) hs i
  have few := hl.few
  refine fn_same hE.ref14_Bound rfl (by simp) ?_
  simp only [argsF]
  unfold boundP
  cases hb : isP l i
  · rw [hb] at hi
    (repeat' (first | (with_reducible refine A1 (fun _ => ?_) (fun _ => ?_) <;> try (exfalso; omega)) | (with_reducible refine A2 (fun _ => ?_) (fun _ => ?_) <;> try (exfalso; omega)) | (with_reducible refine A3 (fun _ => ?_) (fun _ => ?_) <;> try (exfalso; omega)) | refine A4 (fun _ => ?_) (fun _ => ?_) | refine A5 (fun _ => ?_) (fun _ => ?_) | refine A6 (fun _ => ?_) (fun _ => ?_) | simp -dsimp (disch := omega) only [↓EA, EB, Nat.reduceEqDiff, Nat.reduceAdd, Nat.reduceLeDiff, Nat.reduceMul, ↓reduceIte, reduceCtorEq, newCells, bslV, eq_self, *]))
  · rw [hb] at hi
    rw [if_pos rfl]
    obtain ⟨hi2, hlen, hok⟩ := isP_ok hb
    have hm := mostP_in hb
    have ht := (hok _ (atI_mem hi2.1 hi2.2)).1
    simp only [rangesB] at ht
    have hD := ht.2.2.2.2.1
    have hJ := ht.2.2.2.2.2.2.1
    (repeat' (first | (with_reducible refine A1 (fun _ => ?_) (fun _ => ?_) <;> try (exfalso; omega)) | (with_reducible refine A2 (fun _ => ?_) (fun _ => ?_) <;> try (exfalso; omega)) | (with_reducible refine A3 (fun _ => ?_) (fun _ => ?_) <;> try (exfalso; omega)) | refine A4 (fun _ => ?_) (fun _ => ?_) | refine A5 (fun _ => ?_) (fun _ => ?_) | refine A6 (fun _ => ?_) (fun _ => ?_) | simp -dsimp (disch := omega) only [↓EA, EB, Nat.reduceEqDiff, Nat.reduceAdd, Nat.reduceLeDiff, Nat.reduceMul, ↓reduceIte, reduceCtorEq, newCells, bslV, eq_self, *]))
    have hmd : mostP l i = (atI l i).D - (atI l i).J := rfl
    have Hok := Hid.mk hok
    have hl1 := hl.app [LObj.cells [Value.int IntKind.i64 0, Value.int IntKind.i64 0] false]
    clear ht hok hi
    refine WO.loop (fun (n : Nat) fr h' => h' = h ++ [LObj.cells [Value.int IntKind.i64 0, Value.int IntKind.i64 0] false] ∧ (n : Int) ≤ mostP l i ∧ leastP l i = leastN l i ((mostP l i).toNat - n) (n + 1) ∧ get fr 0 = vl ∧ get fr 1 = .int .i64 i ∧ get fr 4 = .pointer (some ⟨h.length, 0, none⟩) ∧ get fr 6 = .int .i64 (n + 1)) (fun n => (mostP l i).toNat + 1 - n) ?_ 0 ⟨rfl, by omega, rfl, rfl, rfl, rfl, rfl⟩
    rintro n fr h' ⟨rfl, hn, hle, g0, g1, g4, g6⟩
    have Hle := Hid.mk hle
    clear hle
    unfold c_ref14_Bound_l0
    by_cases hc : (n : Int) + 1 ≤ mostP l i
    · have hu : u64in ((n : Int) + 1) := by unfold u64in; omega
      have q := need13 hE hl1 hs i hu
      have hstep : leastN l i ((mostP l i).toNat - n) (n + 1) = if needP l i ((n : Int) + 1) ≤ n + 1 then some ((n : Int) + 1) else leastN l i ((mostP l i).toNat - (n + 1)) ((n : Int) + 1 + 1) := by
        obtain ⟨k, hk⟩ : ∃ k, (mostP l i).toNat - n = k + 1 := ⟨(mostP l i).toNat - n - 1, by omega⟩
        rw [hk, show (mostP l i).toNat - (n + 1) = k by omega]; rfl
      have Hst := Hid.mk hstep
      clear hstep hb
      generalize needP l i ((n : Int) + 1) = N at *
      (repeat' (first | (with_reducible refine A1 (fun _ => ?_) (fun _ => ?_) <;> try (exfalso; omega)) | (with_reducible refine A2 (fun _ => ?_) (fun _ => ?_) <;> try (exfalso; omega)) | (with_reducible refine A3 (fun _ => ?_) (fun _ => ?_) <;> try (exfalso; omega)) | refine A4 (fun _ => ?_) (fun _ => ?_) | refine A5 (fun _ => ?_) (fun _ => ?_) | refine A6 (fun _ => ?_) (fun _ => ?_) | simp -dsimp (disch := omega) only [↓EA, EB, Nat.reduceEqDiff, Nat.reduceAdd, Nat.reduceLeDiff, Nat.reduceMul, ↓reduceIte, reduceCtorEq, newCells, bslV, eq_self, *, hl1.len, hl1.ixs, hl1.ld, hl1.ld0, hl1.lda, hl1.ldx, hl1.ldx0, hl1.ldxa, encT]))
      · rw [Hle.out, Hst.out, if_pos (by omega)]
      · refine Next.mk (n + 1) ⟨rfl, by omega, ?_, rfl, rfl, rfl, rfl⟩ (by omega)
        rw [Hle.out, Hst.out, if_neg (by omega)]; rfl
    · have e0 : leastP l i = none := by rw [Hle.out, show (mostP l i).toNat - n = 0 by omega]; rfl
      rw [e0]
      clear hb
      (repeat' (first | (with_reducible refine A1 (fun _ => ?_) (fun _ => ?_) <;> try (exfalso; omega)) | (with_reducible refine A2 (fun _ => ?_) (fun _ => ?_) <;> try (exfalso; omega)) | (with_reducible refine A3 (fun _ => ?_) (fun _ => ?_) <;> try (exfalso; omega)) | refine A4 (fun _ => ?_) (fun _ => ?_) | refine A5 (fun _ => ?_) (fun _ => ?_) | refine A6 (fun _ => ?_) (fun _ => ?_) | simp -dsimp (disch := omega) only [↓EA, EB, Nat.reduceEqDiff, Nat.reduceAdd, Nat.reduceLeDiff, Nat.reduceMul, ↓reduceIte, reduceCtorEq, newCells, bslV, eq_self, *, hl1.len, hl1.ixs, hl1.ld, hl1.ld0, hl1.lda, hl1.ldx, hl1.ldx0, hl1.ldxa, encT]))
end Go.L.Try
namespace Go.L.Try
open Go Go.L
variable {E : Env}
def OwnL {α : Type} (m sz : Nat) (enc : α → List Value) (h : Heap) (v : Value) (l : List α) : Prop :=
  OwnT m sz enc h v l ∨ ∃ b, v = .slice (some ⟨b, 0, none⟩) l.length l.length ∧ m ≤ b ∧ h[b]? = some (.cells (l.map enc).flatten false) ∧ (∀ a, (enc a).length = sz) ∧ l.length < 1152921504606846976
theorem OwnL.rd {α : Type} {m sz : Nat} {enc : α → List Value} {h : Heap} {v : Value} {l : List α} (o : OwnL m sz enc h v l) : Rd sz enc h v l := by
  rcases o with o | ⟨b, rfl, _, hb, hs, hf⟩
  · exact o.rd
  · exact Rd.lit l hb rfl hs hf (Nat.le_refl _) (.inl rfl)
theorem OwnL.app {α : Type} {m sz : Nat} {enc : α → List Value} {h : Heap} {v : Value} {l : List α} (o : OwnL m sz enc h v l) (x : Heap) : OwnL m sz enc (h ++ x) v l := by
  rcases o with o | ⟨b, rfl, hm, hb, hs, hf⟩
  · exact .inl (o.app x)
  · exact .inr ⟨b, rfl, hm, by rw [List.getElem?_append_left (List.getElem?_eq_some_iff.1 hb).1]; exact hb, hs, hf⟩
theorem wx_appL {α : Type} {W : Nat → Prop} {m sz : Nat} {enc : α → List Value} {h0 h : Heap} {v : Value} {l : List α} (o : OwnL m sz enc h v l) (hp : Pre h0 h) (hm : h0.length ≤ m) (hmh : m ≤ h.length) (hW : ∀ b, m ≤ b → W b) {bytes : Nat} {x : Value} (a : α) {Q : Value → Heap → Prop}
    (hx : cellsOf sz x h = some (1, enc a)) (hs : (enc a).length = sz) (hsz : sz ≠ 0) (hby : bytes ≠ 0) (hb : (l.length + 1) * bytes ≤ 140737488355328)
    (hq : ∀ v' h', OwnL m sz enc h' v' (l ++ [a]) → Pre h0 h' → Q v' h') : WX W (appendV sz bytes v x h) Q := by
  rcases o with o | ⟨b, rfl, hmb, hbb, hsz2, hf⟩
  · exact wx_app1 o hp hm hmh hW a hx hs hsz hby hb fun v' h' h1 h2 _ _ _ => hq v' h' (.inl h1) h2
  · have hle : l.length + 1 ≤ (l.length + 1) * bytes := Nat.le_mul_of_pos_right _ (by omega)
    have hfl : (l.map enc).flatten.length = l.length * sz := by
      have := flat_len (sz := sz) (L := l.map enc) (fun e he => by obtain ⟨y, _, rfl⟩ := List.mem_map.1 he; exact hsz2 y)
      rw [this, List.length_map]
    have hc : cellsOf sz (.slice (some ⟨b, 0, none⟩) l.length l.length) h = some (l.length, (l.map enc).flatten) := by
      rw [cellsOf_some, hbb, cellO_cells, if_pos (by show 0 + _ ≤ _; omega), List.drop_zero, ← hfl, List.take_length]
    refine ⟨.slice (some ⟨h.length, 0, some sz⟩) (l.length + 1) (l.length + 1), h ++ [.cells ((l.map enc).flatten ++ enc a) false], [], ?_, (fun b hb => nomatch hb), ?_⟩
    · have hcond : (l.length + 1) * bytes ≤ 140737488355328 ∧ l.length + 1 < 4611686018427387904 ∧ sz ≠ 0 ∧ bytes ≠ 0 := ⟨hb, by omega, hsz, hby⟩
      have hno : ¬ l.length + 1 ≤ l.length := by omega
      simp only [appendV, hx, hc, hcond, and_self, if_true, hno, if_false, ne_eq, not_false_eq_true, Nat.one_ne_zero]
    · refine hq _ _ (.inl ?_) (hp.trans (Pre.app h _))
      have e : (l ++ [a]).map enc = l.map enc ++ [enc a] := by simp
      have hlen : ((l ++ [a]).map enc).length = l.length + 1 := by simp
      unfold OwnT
      have := Own.some (m := m) (sz := sz) (h := h ++ [.cells ((l.map enc).flatten ++ enc a) false]) (b := h.length) (L := (l ++ [a]).map enc) hmh (by rw [geta0, e]; simp) (fun y hy => by obtain ⟨z, _, rfl⟩ := List.mem_map.1 hy; exact hsz2 z) (by rw [hlen]; omega) (by simp)
      rw [hlen] at this; exact this
def eachN (l : List Task) (i : Int) : Nat → Int → List Int
  | 0, w => [w]
  | n + 1, w => if mostP l i < w ∨ needP l i w = w then [w] else w :: eachN l i n (needP l i w)
def eachP (l : List Task) (i : Int) : List Int := if isP l i then eachN l i ((mostP l i).toNat + 1) (needP l i 0) else []
end Go.L.Try
