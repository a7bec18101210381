/- PLACES: rta.is, demand.is; small things of the law. -/
import Derived.Test.YtlmadipiopnfeaaDoorPj
import Derived.Test.YtlmadipiopnfeaaDoorPc
import Derived.Test.YtlmadipiopnfeaaDoorVb
import Derived.Lib.TrailingZeros
import Derived.Test.YtlmadipiopnfeaaDoorVc
set_option linter.unusedVariables false
set_option linter.unusedSimpArgs false
set_option maxRecDepth 100000
set_option maxHeartbeats 2000000
namespace Go.L.Try
open Go Go.L
variable {E : Env}
theorem Ak7 {m b off : Nat} {sp : Option Nat} {A : Prop} (h : b < m) : WL m (.pointer (some ⟨b, off, sp⟩)) A = A := by simp [WL, low, h]
theorem Azo (hE : Ay E) {h : Aa} {vl : Value} {l : List Ab} (hl : Rd 7 A0 h vl l) (hs : ∀ t ∈ l, t.name.size < 1152921504606846976) (i : Int) :
  callW E (.func (.func Oo) #[] #[]) [vl, .int .i64 i] h = some (.bool (isP l i), h, []) := by
 have a := Ta hE hl hs
 refine Am hE.A0o rfl (by simp) ?_
 simp only [Ak]
 (repeat' (first | (with_reducible refine A1 (fun _ => ?_) (fun _ => ?_) <;> try (exfalso; omega)) | simp -dsimp (disch := omega) only [↓EA, EB, Nat.reduceEqDiff, ↓reduceIte, reduceCtorEq, eq_self, *, hl.len]))
 ·congr 1; unfold isP; exact decide_eq_decide.2 (by omega)
 ·congr 1; unfold isP; exact (decide_eq_false (by omega)).symm
 ·congr 1; unfold isP; exact (decide_eq_false (by omega)).symm
theorem Aun (hE : Ay E) {h : Aa} {vl : Value} {l : List Ab} (hl : Rd 7 A0 h vl l) (hs : ∀ t ∈ l, t.name.size < 1152921504606846976) (i : Int) :
  callW E (.func (.func Gp) #[] #[]) [vl, .int .i64 i] h = some (.bool (isP l i), h, []) := by
 have a := Ta hE hl hs
 refine Am hE.Aqn rfl (by simp) ?_
 simp only [Ak]
 (repeat' (first | (with_reducible refine A1 (fun _ => ?_) (fun _ => ?_) <;> try (exfalso; omega)) | simp -dsimp (disch := omega) only [↓EA, EB, Nat.reduceEqDiff, ↓reduceIte, reduceCtorEq, eq_self, *, hl.len]))
 ·congr 1; unfold isP; exact decide_eq_decide.2 (by omega)
 ·congr 1; unfold isP; exact (decide_eq_false (by omega)).symm
 ·congr 1; unfold isP; exact (decide_eq_false (by omega)).symm
theorem Axo (hE : Ay E) (hX : Kp E) (h : Aa) {t : Ab} (ht : Ci t) {w : Int} (hw : A8 w) :
  callW E (.func (.func Gn) #[] #[]) [.agg (A0 t).toArray, .int .u64 w] h = some (.int .u64 (oftenP t w), h, []) := by
 obtain ⟨j, n, m⟩ := Ie ht
 obtain ⟨d, g⟩ := Vh ht hw
 have a : A8 t.J := by unfold A8; omega
 have e := fun x => Axt hE x d (b := t.T) (by unfold A8; omega)
 simp only [if_neg (show ¬ t.T = 0 by omega)] at e
 have c : (sat (w + t.J) + t.T - 1) / t.T = oftenP t w := rfl
 rw [c] at e
 clear c
 refine Am hE.Aey rfl (by simp) ?_
 simp only [Ak]
 unfold A0
 generalize oftenP t w = O at *
 have o : ∀ b, callW E (.func (.func I3) #[] #[]) [.int .u64 w, .slice (some ⟨h.length + 1, 0, none⟩) 1 1] (h ++ [b, LObj.cells [.int .u64 t.J] false]) = some (.int .u64 (sat (w + t.J)), h ++ [b, LObj.cells [.int .u64 t.J] false], []) := fun b =>
  Ake hE hX (l := [t.J]) (Rd.lit (enc := Aqi) [t.J] (by rw [Ke]; rfl) rfl (fun _ => rfl) (by simp) (by simp) (.inl rfl)) hw (fun x f => by rw [List.mem_singleton.1 f]; exact a)
 clear ht d g
 generalize sat (w + t.J) = S at *
 (repeat' simp -dsimp (disch := omega) only [↓EA, EB, Nat.reduceEqDiff, Nat.reduceLeDiff, Nat.reduceMul, ↓reduceIte, reduceCtorEq, Ac, Sk, eq_self, *, Ak7])
end Go.L.Try
namespace Go.L.Try
open Go Go.L
variable {E : Env}
end Go.L.Try
namespace Go.L.Try
open Go Go.L
def Fu (w : List Nat) : List Value := w.map fun x : Nat => .int .u64 (x : Int)
structure okM (w : List Nat) : Prop where
 len : w.length = 16
 lt : ∀ x ∈ w, x < 18446744073709551616
def wordM (w : List Nat) (i : Nat) : Nat := w.getD i 0
def Tf (w : List Nat) (n : Nat) : Bool := (wordM w (n / 64)).testBit (n % 64)
def withM (w : List Nat) (n : Int) : List Nat := if 0 ≤ n ∧ n < 1024 then w.set (n.toNat / 64) (wordM w (n.toNat / 64) ||| 2 ^ (n.toNat % 64)) else w
theorem Q2 {w : List Nat} (hw : okM w) (i : Nat) : wordM w i < 18446744073709551616 := by
 unfold wordM
 rw [List.getD_eq_getElem?_getD]
 cases h : w[i]? with
 | none => decide
 | some x => exact hw.lt x (List.mem_of_getElem? h)
theorem Ao7 {w : List Nat} {i j x : Nat} (hi : i < w.length) : wordM (w.set i x) j = if i = j then x else wordM w j := by
 unfold wordM
 rw [List.getD_eq_getElem?_getD, List.getD_eq_getElem?_getD]
 by_cases e : i = j
 ·subst e; rw [List.getElem?_set_self hi, if_pos rfl]; rfl
 ·rw [List.getElem?_set_ne e, if_neg e]
theorem Atw : okM (List.replicate 16 0) := ⟨by simp, by simp⟩
theorem Ap4 (n : Nat) : Tf (List.replicate 16 0) n = false := by
 unfold Tf wordM
 rw [List.getD_eq_getElem?_getD]
 cases h : (List.replicate 16 0)[n / 64]? with
 | none => simp
 | some x => have := List.eq_of_mem_replicate (List.mem_of_getElem? h); subst this; simp
theorem Agf {k : Nat} (hk : k < 64) : 2 ^ k < 18446744073709551616 := Nat.pow_lt_pow_right (by decide) (show k < 64 from hk)
theorem Y8 {w : List Nat} (hw : okM w) (n : Int) : okM (withM w n) := by
 unfold withM
 split
 ·refine ⟨by simp [hw.len], fun x a => ?_⟩
  rcases List.mem_or_eq_of_mem_set a with h | rfl
  ·exact hw.lt x h
  ·exact Nat.or_lt_two_pow (n := 64) (Q2 hw _) (Agf (Nat.mod_lt _ (by decide)))
 ·exact hw
theorem Ao9 {w : List Nat} (hw : okM w) {n : Nat} (hn : n < 1024) (m : Nat) : Tf (withM w n) m = (Tf w m || decide (m = n)) := by
 unfold withM Tf
 rw [if_pos ⟨by omega, by omega⟩, Ao7 (by rw [hw.len]; omega)]
 simp only [Int.toNat_natCast]
 by_cases h : n / 64 = m / 64
 ·rw [if_pos h, h, Nat.testBit_or, Nat.testBit_two_pow]
  congr 1
  exact decide_eq_decide.2 (by omega)
 ·rw [if_neg h]
  have : m ≠ n := by intro e; subst e; exact h rfl
  simp [this]
theorem Ao8 {w : List Nat} {n : Int} (hn : ¬ (0 ≤ n ∧ n < 1024)) : withM w n = w := by unfold withM; rw [if_neg hn]
def Al (w : List Nat) (n : Nat) : List Nat := (List.range' n (1024 - n)).filter (Tf w)
theorem Xh (w : List Nat) {n : Nat} (h : 1024 ≤ n) : Al w n = [] := by
 unfold Al; rw [show 1024 - n = 0 by omega]; rfl
theorem Um (w : List Nat) {n : Nat} (h : n < 1024) : Al w n = if Tf w n then n :: Al w (n + 1) else Al w (n + 1) := by
 unfold Al
 obtain ⟨k, a⟩ : ∃ k, 1024 - n = k + 1 := ⟨1024 - n - 1, by omega⟩
 rw [a, show 1024 - (n + 1) = k by omega, List.range'_succ, List.filter_cons]
theorem Un {w : List Nat} : ∀ {d n : Nat}, n + d ≤ 1024 → (∀ j, n ≤ j → j < n + d → Tf w j = false) → Al w n = Al w (n + d)
 | 0, _, _, _ => rfl
 | d + 1, n, h, hj => by
  rw [Um w (by omega), hj n (Nat.le_refl _) (by omega), Un (d := d) (n := n + 1) (by omega) (fun j a h2 => hj j (by omega) (by omega))]
  simp only [Bool.false_eq_true, if_false]
  congr 1; omega
theorem My {w : List Nat} : ∀ (d : Nat) {m n : Nat} {r : List Nat}, 1024 - m = d → Al w m = n :: r → r = Al w (n + 1) ∧ n < 1024
 | 0, m, n, r, hd, h => by rw [Xh w (by omega)] at h; cases h
 | d + 1, m, n, r, hd, h => by
  rw [Um w (by omega)] at h
  split at h
  ·cases h; exact ⟨rfl, by omega⟩
  ·exact My d (m := m + 1) (by omega) h
def tz (x : Nat) : Nat := Lib.ctz 64 x
theorem Awp {x : Nat} (h0 : x ≠ 0) (h : x < 18446744073709551616) : x.testBit (tz x) = true ∧ tz x < 64 ∧ ∀ j, j < tz x → x.testBit j = false := by
 have a : tz x = Lib.ctzFrom 64 x := by unfold tz Lib.ctz; rw [if_neg h0]
 obtain ⟨m, c, h2⟩ := Lib.ctzFrom_spec 64 x (Nat.pos_of_ne_zero h0) h
 rw [a]
 generalize Lib.ctzFrom 64 x = k at *
 have e : ∀ j, x.testBit j = (decide (k ≤ j) && (2 * m + 1).testBit (j - k)) := fun j => by rw [c, Nat.mul_comm, Nat.testBit_mul_two_pow]
 refine ⟨?_, h2, fun j d => ?_⟩
 ·rw [e k]; simp
 ·rw [e j]; simp; omega
def Qx (x k : Nat) : Nat := (x >>> k) <<< k
theorem Aa4 (x k j : Nat) : (Qx x k).testBit j = (decide (k ≤ j) && x.testBit j) := by
 unfold Qx
 rw [Nat.testBit_shiftLeft, Nat.testBit_shiftRight]
 by_cases h : k ≤ j
 ·simp [h, show k + (j - k) = j by omega]
 ·simp [h]
theorem Ae0 (x k : Nat) : Qx x k ≤ x := by
 unfold Qx
 rw [Nat.shiftRight_eq_div_pow, Nat.shiftLeft_eq]
 exact Nat.div_mul_le_self _ _
theorem Aqo (x : Nat) : Qx x 0 = x := by unfold Qx; simp
theorem Aid {w : List Nat} {i k : Nat} (hi : i < 16) (hk : k < 64) (h0 : Qx (wordM w i) k = 0) : Al w (64 * i + k) = Al w (64 * (i + 1)) := by
 have := Un (w := w) (n := 64 * i + k) (d := 64 - k) (by omega) (fun j c h2 => by
  unfold Tf
  rw [show j / 64 = i by omega]
  have := Aa4 (wordM w i) k (j % 64)
  rw [h0] at this
  simp only [Nat.zero_testBit] at this
  have a : k ≤ j % 64 := by omega
  simpa [a] using this.symm)
 rw [this]; congr 1; omega
theorem Akq {w : List Nat} (hw : okM w) {i k : Nat} (hi : i < 16) (hk : k < 64) (h0 : Qx (wordM w i) k ≠ 0) : tz (Qx (wordM w i) k) < 64 ∧ k ≤ tz (Qx (wordM w i) k) ∧ Al w (64 * i + k) = (64 * i + tz (Qx (wordM w i) k)) :: Al w (64 * i + tz (Qx (wordM w i) k) + 1) := by
 have e : Qx (wordM w i) k < 18446744073709551616 := Nat.lt_of_le_of_lt (Ae0 _ _) (Q2 hw i)
 obtain ⟨a, b, c⟩ := Awp h0 e
 generalize tz (Qx (wordM w i) k) = z at *
 rw [Aa4, Bool.and_eq_true, decide_eq_true_eq] at a
 have f := Un (w := w) (n := 64 * i + k) (d := z - k) (by omega) (fun j f h2 => by
  unfold Tf
  rw [show j / 64 = i by omega]
  have := c (j % 64) (by omega)
  rw [Aa4] at this
  have g : k ≤ j % 64 := by omega
  simpa [g] using this)
 refine ⟨b, a.1, ?_⟩
 rw [f, show 64 * i + k + (z - k) = 64 * i + z by omega, Um w (by omega)]
 have : Tf w (64 * i + z) = true := by
  unfold Tf
  rw [show (64 * i + z) / 64 = i by omega, show (64 * i + z) % 64 = z by omega]; exact a.2
 rw [this, if_pos rfl]
end Go.L.Try
namespace Go.L.Try
open Go Go.L
variable {E : Env}
theorem Anh (hE : Ay E) (h : Aa) (n : Int) : callW E (.func (.func Kb) #[] #[]) [.int .i64 n] h = some (.bool (decide (0 ≤ n ∧ n < 1024)), h, []) := by
 refine Am hE.Aub rfl (by simp) ?_
 simp only [Ak]
 (repeat' (first | (with_reducible refine A1 (fun _ => ?_) (fun _ => ?_) <;> try (exfalso; omega)) | simp -dsimp (disch := omega) only [↓EA, EB, Nat.reduceEqDiff, ↓reduceIte, reduceCtorEq, eq_self, *]))
 all_goals first | rfl | exact congrArg Value.bool (decide_eq_decide.2 (by omega)) | exact congrArg Value.bool (decide_eq_false (by omega)).symm | exact congrArg Value.bool (decide_eq_true (by omega)).symm
theorem Aip {q : EqK} {a : Int} (h1 : 0 ≤ a) : binOp .shr q (.int .i64 a) (.int .u64 6) = some (.int .i64 (a / 64)) := by
 simp only [binOp, Ee]
 rw [if_neg (by decide), Int.fdiv_eq_ediv_of_nonneg _ (by decide)]; rfl
theorem Adn {q : EqK} {a : Nat} (h2 : a < 9223372036854775808) : binOp .and q (.int .i64 (a : Int)) (.int .i64 63) = some (.int .i64 ((a % 64 : Nat) : Int)) := by
 have e : ((BitVec.ofInt 64 (a : Int)) &&& (BitVec.ofInt 64 63)).toNat = a % 64 := by
  have f : BitVec.ofInt 64 (a : Int) = BitVec.ofNat 64 a := by simp
  have d : BitVec.ofInt 64 63 = BitVec.ofNat 64 63 := by decide
  rw [f, d, BitVec.toNat_and, BitVec.toNat_ofNat, BitVec.toNat_ofNat, Nat.mod_eq_of_lt (by omega)]
  exact Nat.and_two_pow_sub_one_eq_mod a 6
 have c : binOp .and q (.int .i64 (a : Int)) (.int .i64 63) = some (.int .i64 (IntKind.i64.wrap (((BitVec.ofInt 64 (a : Int)) &&& (BitVec.ofInt 64 63)).toNat : Nat))) := by simp only [binOp, Ee, if_true]; rfl
 rw [c, e, Q1 (by omega) (by omega)]
theorem Ayo {q : EqK} {a b : Nat} (ha : a < 18446744073709551616) (hb : b < 18446744073709551616) : binOp .or q (.int .u64 (a : Int)) (.int .u64 (b : Int)) = some (.int .u64 ((a ||| b : Nat) : Int)) := by
 have f : a ||| b < 18446744073709551616 := Nat.or_lt_two_pow (n := 64) ha hb
 have e : ((BitVec.ofInt 64 (a : Int)) ||| (BitVec.ofInt 64 (b : Int))).toNat = a ||| b := by
  have c : ∀ x : Nat, BitVec.ofInt 64 (x : Int) = BitVec.ofNat 64 x := fun x => by simp
  rw [c, c, BitVec.toNat_or, BitVec.toNat_ofNat, BitVec.toNat_ofNat, Nat.mod_eq_of_lt ha, Nat.mod_eq_of_lt hb]
 have d : binOp .or q (.int .u64 (a : Int)) (.int .u64 (b : Int)) = some (.int .u64 (IntKind.u64.wrap (((BitVec.ofInt 64 (a : Int)) ||| (BitVec.ofInt 64 (b : Int))).toNat : Nat))) := by simp only [binOp, Ee, if_true]; rfl
 rw [d, e, Oj (by omega) (by omega)]
theorem Av2 {q : EqK} {k : Nat} (hk : k < 64) : binOp .shl q (.int .u64 1) (.int .i64 (k : Int)) = some (.int .u64 ((2 ^ k : Nat) : Int)) := by
 have a : (2 ^ k : Nat) < 18446744073709551616 := Nat.pow_lt_pow_right (by decide) (show k < 64 from hk)
 simp only [binOp, Ee]
 rw [if_neg (by omega), show min ((k : Int)).toNat (IntKind.bits .u64) = k by show min _ 64 = k; omega]
 have e : (1 : Int) * 2 ^ k = ((2 ^ k : Nat) : Int) := by simp
 rw [e, Oj (Int.natCast_nonneg _) (Int.ofNat_lt.2 a)]
end Go.L.Try
namespace Go.L.Try
open Go Go.L
variable {E : Env}
theorem E9 {w : List Nat} (hw : okM w) : (Fu w).length = 16 := by simp [Fu, hw.len]
theorem Gr (w : List Nat) : (Fu w).all Ag = true := by
 unfold Fu; rw [List.all_map, List.all_eq_true]; intro x _; rfl
theorem Aqj (w : List Nat) : (Fu w).all U9 = true := by
 unfold Fu; rw [List.all_map, List.all_eq_true]; intro x _; rfl
theorem Vx (w : List Nat) (m : Nat) : (Fu w).all (Ad m 3) = true := by
 unfold Fu; rw [List.all_map, List.all_eq_true]; intro x _; rfl
theorem I4 {w : List Nat} (hw : okM w) : (Fu w).take 16 = Fu w := List.take_of_length_le (by rw [E9 hw]; exact Nat.le_refl _)
theorem Aev {w : List Nat} (hw : okM w) {i : Nat} (hi : i < 16) : (Fu w)[i]? = some (.int .u64 (wordM w i : Int)) := by
 have h := hw.len
 unfold Fu wordM
 rw [List.getElem?_map, List.getD_eq_getElem?_getD, List.getElem?_eq_getElem (by omega)]; rfl
theorem Au9 (w : List Nat) (i x : Nat) : (Fu w).set i (.int .u64 (x : Int)) = Fu (w.set i x) := by unfold Fu; rw [List.map_set]
theorem U5 : ∀ (c d : List Value) (cs : List Value), d.length = cs.length → setCells (c ++ d) c.length cs = c ++ cs
 | c, [], [], _ => by simp [I9]
 | c, [], _ :: _, h => by simp at h
 | c, _ :: _, [], h => by simp at h
 | c, x :: d, y :: cs, h => by
  have a := U5 (c ++ [y]) d cs (by simpa using h)
  rw [Fw, List.set_append_right _ _ (Nat.le_refl _), Nat.sub_self, List.set_cons_zero]
  simp only [List.append_assoc, List.cons_append, List.nil_append, LA, List.length_cons, List.length_nil] at a
  exact a
theorem Zu {d cs : List Value} (h : d.length = cs.length) : setCells d 0 cs = cs := U5 [] d cs h
theorem A0h {d : List Value} {w : List Nat} (hd : d.length = 16) (hw : okM w) : setCells d 0 (Fu w) = Fu w := Zu (by rw [hd, E9 hw])
def z16 : List Value := [.int .u64 0, .int .u64 0, .int .u64 0, .int .u64 0, .int .u64 0, .int .u64 0, .int .u64 0, .int .u64 0, .int .u64 0, .int .u64 0, .int .u64 0, .int .u64 0, .int .u64 0, .int .u64 0, .int .u64 0, .int .u64 0]
theorem Alf {w : List Nat} (hw : okM w) : setCells [.int .u64 0, .int .u64 0, .int .u64 0, .int .u64 0, .int .u64 0, .int .u64 0, .int .u64 0, .int .u64 0, .int .u64 0, .int .u64 0, .int .u64 0, .int .u64 0, .int .u64 0, .int .u64 0, .int .u64 0, .int .u64 0] 0 (Fu w) = Fu w := A0h rfl hw
theorem Ara {w : List Nat} {m : Nat} (hm : m < 1024) : withM w (m : Int) = w.set (m / 64) (wordM w (m / 64) ||| 2 ^ (m % 64)) := by
 unfold withM; rw [if_pos ⟨by omega, by omega⟩]; rfl
theorem A1z (hE : Ay E) (h : Aa) {w : List Nat} (hw : okM w) (n : Int) :
  callW E (.func (.func E4) #[] #[]) [.agg (Fu w).toArray, .int .i64 n] h = some (.agg (Fu (withM w n)).toArray, h, []) := by
 have q := fun x => Anh hE (h ++ x) n
 refine Am hE.Aad rfl (by simp) ?_
 simp only [Ak]
 have hl := E9 hw
 have ho := Gr w
 have a1 := I4 hw
 have y := Alf hw
 by_cases c : 0 ≤ n ∧ n < 1024
 ·rw [decide_eq_true c] at q
  obtain ⟨m, rfl⟩ := Int.eq_ofNat_of_zero_le c.1
  have hm : m < 1024 := by omega
  have f : withM w (m : Int) = w.set (m / 64) (wordM w (m / 64) ||| 2 ^ (m % 64)) := Ara hm
  have d := Y8 hw (m : Int)
  rw [f] at d ⊢
  have u := Aev hw (i := m / 64) (by omega)
  have o := Q2 hw (m / 64)
  have l := Agf (Nat.mod_lt m (by decide : 64 > 0))
  have a2 := fun q => Av2 (q := q) (k := m % 64) (Nat.mod_lt _ (by decide))
  have r := fun q => Adn (q := q) (a := m) (by omega)
  have a4 := fun q => Ayo (q := q) o l
  have j := Au9 w (m / 64) (wordM w (m / 64) ||| 2 ^ (m % 64))
  have a0 := E9 d
  have z := Gr (w.set (m / 64) (wordM w (m / 64) ||| 2 ^ (m % 64)))
  have g := I4 d
  have a3 := Alf d
  have p : ((m : Int) / 64).toNat = m / 64 := by omega
  have s : m / 64 * 1 = m / 64 := Nat.mul_one _
  have t : m / 64 + 1 ≤ 16 := by omega
  clear d hw o l c
  generalize hv : (wordM w (m / 64) ||| 2 ^ (m % 64)) = v at *
  generalize hw2 : w.set (m / 64) v = w2 at *
  have e := Vx w2 h.length
  (repeat' simp -dsimp (disch := omega) only [↓EA, EB, Nat.reduceEqDiff, Nat.reduceAdd, ↓reduceIte, reduceCtorEq, Ac, eq_self, *, Aip])
 ·rw [decide_eq_false c] at q
  rw [Ao8 c]
  have e := Vx w h.length
  (repeat' simp -dsimp (disch := omega) only [↓EA, EB, Nat.reduceEqDiff, Nat.reduceAdd, ↓reduceIte, reduceCtorEq, Ac, eq_self, *])
theorem Avz {q : EqK} {a k : Nat} (hk : k < 64) : binOp .shr q (.int .u64 (a : Int)) (.int .i64 (k : Int)) = some (.int .u64 ((a >>> k : Nat) : Int)) := by
 have e : binOp .shr q (.int .u64 (a : Int)) (.int .i64 (k : Int)) = some (.int .u64 (Int.fdiv (a : Int) (2 ^ k))) := by
  simp only [binOp, Ee]
  rw [if_neg (by omega), show min ((k : Int)).toNat (IntKind.bits .u64) = k by show min _ 64 = k; omega]
 rw [e, Int.fdiv_eq_ediv_of_nonneg _ (Int.pow_nonneg (by decide)), Nat.shiftRight_eq_div_pow]
 congr 2
theorem Av0 {q : EqK} {a k : Nat} (hk : k < 64) (hlt : a <<< k < 18446744073709551616) : binOp .shl q (.int .u64 (a : Int)) (.int .i64 (k : Int)) = some (.int .u64 ((a <<< k : Nat) : Int)) := by
 have e : binOp .shl q (.int .u64 (a : Int)) (.int .i64 (k : Int)) = some (.int .u64 (IntKind.u64.wrap ((a : Int) * 2 ^ k))) := by
  simp only [binOp, Ee]
  rw [if_neg (by omega), show min ((k : Int)).toNat (IntKind.bits .u64) = k by show min _ 64 = k; omega]
 have c : (a : Int) * 2 ^ k = ((a <<< k : Nat) : Int) := by rw [Nat.shiftLeft_eq]; simp
 rw [e, c, Oj (Int.natCast_nonneg _) (Int.ofNat_lt.2 hlt)]
end Go.L.Try
namespace Go.L.Try
open Go Go.L
variable {E : Env} {G : Nat}
def Afm (c : List Value) : Bool := decide (c.length = 64) && (List.range 64).all fun j => match c[j]? with
 | some (.int .u8 n) => n == ((Lib.deBruijn64tab.getD j 0 : Nat) : Int)
 | _ => false
def tzE (G : Nat) : List Value → Aa → Option (Value × Aa × List Nat)
 | [.int .u64 a], h => match h[G]? with
  | some (.cells c _) => if Afm c = true ∧ 0 ≤ a ∧ a < 18446744073709551616 then some (.int .i64 (tz a.toNat : Nat), h, []) else none
  | _ => none
 | _, _ => none
structure Fd (E : Env) (G : Nat) : Prop where
 tz64 : E Bv = .ext (tzE G)
def Tab (G : Nat) (h : Aa) : Prop := ∃ c ro, h[G]? = some (.cells c ro) ∧ Afm c = true
theorem Tab.pre {h h' : Aa} (t : Tab G h) (p : Pre h h') : Tab G h' := by
 obtain ⟨c, a, d, h2⟩ := t; exact ⟨c, a, p _ _ d, h2⟩
theorem Tab.app {h : Aa} (t : Tab G h) (x : Aa) : Tab G (h ++ x) := t.pre (Pre.app h x)
theorem tz64 (hZ : Fd E G) {h : Aa} (ht : Tab G h) {a : Nat} (ha : a < 18446744073709551616) :
  callW E (.func (.func Bv) #[] #[]) [.int .u64 (a : Int)] h = some (.int .i64 (tz a : Nat), h, []) := by
 obtain ⟨c, e, d, h2⟩ := ht
 rw [Adi hZ.tz64]
 simp only [tzE, d]
 rw [if_pos ⟨h2, by omega, by omega⟩]; rfl
theorem Av1 {q : EqK} {a : Int} (h1 : 0 ≤ a) (h2 : a < 1073741824) : binOp .shl q (.int .i64 a) (.int .u64 6) = some (.int .i64 (a * 64)) := by
 have e : binOp .shl q (.int .i64 a) (.int .u64 6) = some (.int .i64 (IntKind.i64.wrap (a * 64))) := by
  simp only [binOp, Ee]
  rw [if_neg (by decide)]; rfl
 rw [e, Q1 (by omega) (by omega)]
def Ro (w : List Nat) (n : Int) : Option Nat := (Al w (max n (-1) + 1).toNat).head?
def Mp : Option Nat → Value
 | some m => .tuple #[.int .i64 (m : Nat), .bool true]
 | none => .tuple #[.int .i64 0, .bool false]
theorem At6 (hE : Ay E) (hZ : Fd E G) {h : Aa} (ht : Tab G h) {w : List Nat} (hw : okM w) {n : Int} (hn : n < 4611686018427387904) :
  callW E (.func (.func Dq) #[] #[]) [.agg (Fu w).toArray, .int .i64 n] h = some (Mp (Ro w n), h, []) := by
 have q := fun x => Anh hE (h ++ x) (max n (-1) + 1)
 refine Am hE.Aae rfl (by simp) ?_
 simp only [Ak]
 have hl := E9 hw
 have ho := Gr w
 by_cases a1 : max n (-1) + 1 < 1024
 ·rw [decide_eq_true (show 0 ≤ max n (-1) + 1 ∧ max n (-1) + 1 < 1024 by omega)] at q
  unfold Ro
  obtain ⟨m, hm⟩ : ∃ m : Nat, max n (-1) + 1 = (m : Int) := ⟨(max n (-1) + 1).toNat, by omega⟩
  have a6 : max n (-1) = (m : Int) - 1 := by omega
  have a5 : (m : Int) - 1 + 1 = m := by omega
  rw [hm] at q ⊢
  rw [show ((m : Int)).toNat = m by omega]
  have a4 : m < 1024 := by omega
  have d := Aev hw (i := m / 64) (by omega)
  have hx := Q2 hw (m / 64)
  have c := Nat.mod_lt m (by decide : 64 > 0)
  have y := fun q => Adn (q := q) (a := m) (by omega)
  have a0 := fun q => Avz (q := q) (a := wordM w (m / 64)) (k := m % 64) c
  have o := fun q => Av0 (q := q) (a := wordM w (m / 64) >>> (m % 64)) (k := m % 64) c (by have := Ae0 (wordM w (m / 64)) (m % 64); unfold Qx at this; omega)
  have j : (wordM w (m / 64) >>> (m % 64)) <<< (m % 64) = Qx (wordM w (m / 64)) (m % 64) := rfl
  rw [j] at o
  clear j
  have u : ((m : Int) / 64).toNat = m / 64 := by omega
  have p : ((m : Int) / 64) = ((m / 64 : Nat) : Int) := by omega
  have l : m / 64 * 1 = m / 64 := Nat.mul_one _
  have t : m / 64 < 16 := by omega
  clear hm hx a1
  have a2 := ht.app [LObj.cells (Fu w) false]
  have g : 64 * (m / 64) + m % 64 = m := by omega
  (repeat' simp -dsimp (disch := omega) only [↓EA, EB, Nat.reduceEqDiff, ↓reduceIte, reduceCtorEq, Ac, eq_self, *, Aip, Int.toNat_natCast])
  refine WO.loop (α := Nat × Nat) (fun s fr h' => h' = h ++ [LObj.cells (Fu w) false] ∧ s.1 < 16 ∧ s.2 < 64 ∧ Al w m = Al w (64 * s.1 + s.2) ∧ get fr 2 = .pointer (some ⟨h.length, 0, none⟩) ∧ get fr 7 = .int .u64 ((Qx (wordM w s.1) s.2 : Nat) : Int) ∧ get fr 8 = .int .i64 (s.1 : Int)) (fun s => 16 - s.1) ?_ (m / 64, m % 64) ?_
  rotate_left
  ·exact ⟨rfl, t, c, by rw [g], rfl, rfl, rfl⟩
  rintro ⟨i, k⟩ fr h' ⟨rfl, hi, hk, he, g2, g7, g8⟩
  dsimp only at hi hk he g7 g8
  have He := Hid.mk he
  clear he q y a0 o u p l d g c t
  have H0 := Hid.mk (fun r => Aid (w := w) hi hk r)
  have H1 := Hid.mk (fun r => Akq hw hi hk r)
  have hc := Nat.lt_of_le_of_lt (Ae0 (wordM w i) k) (Q2 hw i)
  have hz := tz64 hZ a2 hc
  have d := fun hi => Aev hw (i := i + 1) hi
  have r := Aqo (wordM w (i + 1))
  generalize hcv : Qx (wordM w i) k = cv at *
  unfold Lt
  by_cases f : cv = 0
  ·subst f
   have e := H0.out rfl
   by_cases v : i = 15
   ·subst v
    have e2 : (Al w m).head? = none := by rw [He.out, e, Xh w (by omega)]; rfl
    rw [e2]
    clear d H0 H1 He
    unfold Mp
    (repeat' (first | (with_reducible refine A3 (fun _ => ?_) (fun _ => ?_) <;> try (exfalso; omega)) | simp -dsimp (disch := omega) only [↓EA, EB, Nat.reduceEqDiff, ↓reduceIte, eq_self, *]))
   ·have d := d (by omega)
    have a7 : ((i : Int) + 1).toNat = i + 1 := by omega
    have l : (i + 1) * 1 = i + 1 := Nat.mul_one _
    clear H0 H1 hz
    (repeat' (first | (with_reducible refine A3 (fun _ => ?_) (fun _ => ?_) <;> try (exfalso; omega)) | simp -dsimp (disch := omega) only [↓EA, EB, Nat.reduceEqDiff, ↓reduceIte, eq_self, *]))
    refine Next.mk (i + 1, 0) ⟨rfl, by simp only []; omega, by simp only []; omega, ?_, rfl, ?_, rfl⟩ (by simp only []; omega)
    ·rw [He.out, e]; rfl
    ·simp only [r]; rfl
  ·obtain ⟨t1, t2, t3⟩ := H1.out f
   have e2 : (Al w m).head? = some (64 * i + tz cv) := by rw [He.out, t3]; rfl
   rw [e2]
   generalize tz cv = z at *
   have e4 : (i : Int) * 64 + z = ((64 * i + z : Nat) : Int) := by omega
   clear d H0 H1 He t3 e2
   unfold Mp
   have a3 : ¬ ((cv : Int) = 0) := by omega
   (repeat' simp -dsimp (disch := omega) only [↓EA, EB, Nat.reduceEqDiff, ↓reduceIte, eq_self, *, Av1])
 ·rw [decide_eq_false (show ¬ (0 ≤ max n (-1) + 1 ∧ max n (-1) + 1 < 1024) by omega)] at q
  have e : Ro w n = none := by unfold Ro; rw [Xh w (by omega)]; rfl
  rw [e]
  unfold Mp
  (repeat' simp -dsimp (disch := omega) only [↓EA, EB, Nat.reduceEqDiff, ↓reduceIte, reduceCtorEq, Ac, eq_self, *])
theorem X0 (w : List Nat) : Ro w (-1) = (Al w 0).head? := rfl
theorem Aaf (hE : Ay E) (hZ : Fd E G) {h : Aa} (ht : Tab G h) {w : List Nat} (hw : okM w) :
  callW E (.func (.func Ec) #[] #[]) [.agg (Fu w).toArray] h = some (Mp (Ro w (-1)), h, []) := by
 have q := fun x => At6 hE hZ (ht.app x) hw (n := -1) (by decide)
 refine Am hE.Yo rfl (by simp) ?_
 simp only [Ak]
 have c := E9 hw
 have d := Gr w
 have a := I4 hw
 cases hn : Ro w (-1) with
 | none =>
  rw [hn] at q
  unfold Mp at q ⊢
  (repeat' simp -dsimp (disch := omega) only [↓EA, EB, Nat.reduceEqDiff, ↓reduceIte, Ac, eq_self, *])
 | some m =>
  rw [hn] at q
  unfold Mp at q ⊢
  (repeat' simp -dsimp (disch := omega) only [↓EA, EB, Nat.reduceEqDiff, ↓reduceIte, Ac, eq_self, *])
theorem Awc (hE : Ay E) (h : Aa) {w : List Nat} (hw : okM w) :
  ∃ v ys, callW E (.func (.func B8) #[] #[]) [.agg (Fu w).toArray] h = some (v, h ++ ys, []) ∧ ∃ bx, v = .func (.func Bo) #[] #[.pointer (some ⟨bx, 0, none⟩)] ∧ h.length ≤ bx ∧ (h ++ ys)[bx]? = some (.cells (Fu w) false) := by
 have l : Movable h.length (fun m v => ∃ bx, v = .func (.func Bo) #[] #[.pointer (some ⟨bx, 0, none⟩)] ∧ h.length ≤ bx ∧ m[bx]? = some (.cells (Fu w) false)) 2 := by
  refine ⟨fun ρ a a' d v v' hm hv ⟨bx, e, f, n⟩ => ?_, fun a v ⟨bx, e, _⟩ => by subst e; rfl⟩
  subst e
  cases d with
  | zero => simp [A7, List.mapM_cons] at hv
  | succ d =>
   simp only [A7, List.mapM_nil, List.mapM_cons] at hv
   cases hρ : ρ bx with
   | none => simp [hρ] at hv
   | some j =>
    simp [hρ] at hv
    subst hv
    obtain ⟨o, c, g⟩ := hm.new bx j f hρ
    rw [List.getD_eq_getElem?_getD, n] at c
    simp only [Option.getD_some, Ri, Bool.false_eq_true, if_false] at c
    rw [Ow (d := 3) (Aqj w)] at c
    simp at c
    subst c
    exact ⟨j, rfl, hm.ge bx j f hρ, g⟩
 refine Pw hE.Ab7 rfl l (by simp) ?_
 have p := E9 hw
 have c := Gr w
 simp only [Ak]
 (repeat' simp -dsimp (disch := omega) only [↓EA, EB, Nat.reduceEqDiff, ↓reduceIte, Ac, eq_self, *])
 exact ⟨⟨_, rfl⟩, _, rfl, Nat.le_refl _, by rw [Bm]; rfl⟩
theorem Wb (hE : Ay E) (hZ : Fd E G) {w : List Nat} (hw : okM w) (bx : Nat) :
  Afd E (.func (.func Bo) #[] #[.pointer (some ⟨bx, 0, none⟩)]) (fun h => h[bx]? = some (.cells (Fu w) false) ∧ Tab G h) ((Al w 0).map fun n : Nat => [.int .i64 (n : Int)]) := by
 intro u L W J Stop hJ h0 hS step
 refine Aux hE.keep hE.Ov rfl (by simp) ?_
 obtain ⟨_, a5, y⟩ := hJ 0 u h0
 have q := Aaf hE hZ y hw
 have hl := E9 hw
 have ho := Gr w
 have a6 := I4 hw
 simp only [List.cons_append, List.nil_append, Ak]
 have HJ := Hid.mk hJ
 have HS := Hid.mk hS
 have j := Hid.mk step
 have H0 := Hid.mk h0
 clear hJ hS step h0
 generalize hvals : (Al w 0).map (fun n : Nat => [Value.int .i64 (n : Int)]) = vals at *
 rw [X0] at q
 have g : ∀ (e : List Nat) (fr : Fr), Al w 0 = e → get fr 0 = .func (.yield L) #[] #[] → get fr 1 = .pointer (some ⟨bx, 0, none⟩) → (match e with | [] => get fr 4 = .bool false | n :: _ => get fr 3 = .int .i64 (n : Int) ∧ get fr 4 = .bool true) →
   WO W (code (callW E) iterW 21 (.block 0 (.loop Ct)) fr u) (Res [] fun v h' => Ad (List.length u) 4 v = true ∧ h'.length = u.length ∧ (J vals.length h' ∨ Stop h')) := by
  intro e fr f g0 g1 c
  (repeat' simp -dsimp (disch := omega) only [↓EA, *])
  refine WO.loop (α := Nat × List Nat) (fun s fr h' => (Al w 0).drop s.1 = s.2 ∧ s.1 + s.2.length = (Al w 0).length ∧ J s.1 h' ∧ get fr 0 = .func (.yield L) #[] #[] ∧ get fr 1 = .pointer (some ⟨bx, 0, none⟩) ∧ (match s.2 with | [] => get fr 4 = .bool false | n :: r => get fr 3 = .int .i64 (n : Int) ∧ get fr 4 = .bool true) ∧ ∀ n r, s.2 = n :: r → r = Al w (n + 1) ∧ n < 1024) (fun s => s.2.length) ?_ (0, e) ⟨f, by rw [f]; simp, H0.out, g0, g1, c, fun n r h => My _ rfl (f.trans h)⟩
  rintro ⟨k, e⟩ fr h' ⟨hd, d, x, g0, g1, c, a⟩
  dsimp only at hd d x c a
  obtain ⟨l, hb, ht⟩ := HJ.out k h' x
  clear f q H0 y a5
  unfold Ct
  cases e with
  | nil =>
   dsimp only at c
   have hk : k = vals.length := by rw [← hvals, List.length_map, ← d]; rfl
   subst hk
   have Hj := Hid.mk x
   clear x hd d a
   (repeat' simp -dsimp (disch := omega) only [↓EA, EB, Nat.reduceEqDiff, ↓reduceIte, reduceCtorEq, eq_self, *])
   first
    | exact ⟨l, .inl Hj.out⟩
    | exact .inl Hj.out
  | cons n r =>
   dsimp only at c
   obtain ⟨g3, g4⟩ := c
   obtain ⟨hr, hn⟩ := a n r rfl
   have hv : vals[k]? = some [.int .i64 (n : Int)] := by
    have u : (Al w 0)[k]? = some n := by
     have : ((Al w 0).drop k)[0]? = some n := by rw [hd]; rfl
     rw [List.getElem?_drop, Nat.add_zero] at this; exact this
    rw [← hvals, List.getElem?_map, u]; rfl
   have p := Hid.mk (j.out k h' _ hv x)
   have Hd := Hid.mk hd
   have Hc := Hid.mk a
   clear hd a hv x j
   simp only [List.length_cons] at d
   (repeat' simp -dsimp (disch := omega) only [↓EA, EB, Nat.reduceEqDiff, ↓reduceIte, reduceCtorEq, eq_self, *])
   refine WX.mono p.out (fun b h => h) fun v h2 hx => ?_
   rcases hx with ⟨rfl, o⟩ | ⟨rfl, a2⟩
   ·obtain ⟨a4, a7, z⟩ := HJ.out (k + 1) h2 o
    have q2 := At6 hE hZ z hw (n := (n : Int)) (by omega)
    have en : Ro w (n : Int) = r.head? := by
     unfold Ro; rw [show (max (n : Int) (-1) + 1).toNat = n + 1 by omega, ← hr]
    rw [en] at q2
    have a3 := Hid.mk o
    have Hr := Hid.mk hr
    clear o hr p z en hb ht l
    have a1 : (Al w 0).drop (k + 1) = r := by rw [← List.drop_drop, Hd.out]; rfl
    have a0 := Hid.mk a1
    clear a1
    cases r with
    | nil =>
     simp only [List.head?_nil, Mp] at q2
     (repeat' simp -dsimp (disch := omega) only [↓EA, EB, Nat.reduceEqDiff, ↓reduceIte, reduceCtorEq, eq_self, *])
     exact Next.mk (k + 1, []) ⟨a0.out, by simpa using d, a3.out, rfl, rfl, rfl, fun n r h => by cases h⟩ (by simp)
    | cons m r2 =>
     simp only [List.head?_cons, Mp] at q2
     (repeat' simp -dsimp (disch := omega) only [↓EA, EB, Nat.reduceEqDiff, ↓reduceIte, reduceCtorEq, eq_self, *])
     refine Next.mk (k + 1, m :: r2) ⟨a0.out, by simp only [List.length_cons] at d ⊢; omega, a3.out, rfl, rfl, ⟨rfl, rfl⟩, fun n' r' h => ?_⟩ (by simp)
     exact My _ rfl (Hr.out.symm.trans h)
   ·have t := Hid.mk a2
    clear a2 p
    (repeat' simp -dsimp (disch := omega) only [↓EA, EB, Nat.reduceEqDiff, ↓reduceIte, reduceCtorEq, eq_self, *])
    first
     | exact ⟨HS.out _ t.out, .inr t.out⟩
     | exact .inr t.out
 clear hvals
 cases f : Al w 0 with
 | nil =>
  rw [f] at q
  simp only [List.head?_nil, Mp] at q
  have K := Hid.mk (g [] [(0, .func (.yield L) #[] #[]), (1, .pointer (some ⟨bx, 0, none⟩)), (3, .int .i64 0), (4, .bool false)] f rfl rfl rfl)
  clear g f H0 HJ HS j
  simp -dsimp (disch := omega) only [↓EA, EB, Nat.reduceEqDiff, ↓reduceIte, reduceCtorEq, eq_self, *]
  have k := K.out
  rw [O5, S9] at k
  exact k
 | cons n r =>
  rw [f] at q
  simp only [List.head?_cons, Mp] at q
  have K := Hid.mk (g (n :: r) [(0, .func (.yield L) #[] #[]), (1, .pointer (some ⟨bx, 0, none⟩)), (3, .int .i64 (n : Int)), (4, .bool true)] f rfl rfl ⟨rfl, rfl⟩)
  clear g f H0 HJ HS j
  simp -dsimp (disch := omega) only [↓EA, EB, Nat.reduceEqDiff, ↓reduceIte, reduceCtorEq, eq_self, *]
  have k := K.out
  rw [O5, S9] at k
  exact k
end Go.L.Try
namespace Go.L.Try
open Go Go.L
variable {E : Env} {G : Nat}
def A3o (E : Env) (g : Value) (base : Aa → Prop) (vals : List (List Value)) : Prop :=
 ∀ (h1 : Aa) (L : Nat) (W : Nat → Prop) (J : Nat → Aa → Prop) (Stop : Aa → Prop), (∀ k h, J k h → base h) → J 0 h1 → (∀ k h h3, J k h → Tr h1 h h3 → J k h3) → (∀ h h3, Stop h → Tr h1 h h3 → Stop h3) →
  (∀ k h a, vals[k]? = some a → J k h → WX W (callW E (.func (.yield L) #[] #[]) a h) (fun v h' => (v = .bool true ∧ J (k + 1) h') ∨ (v = .bool false ∧ Stop h'))) →
  WX W (callW E g [.func (.yield L) #[] #[]] h1) (fun _ h' => J vals.length h' ∨ Stop h')
theorem Aq3 (hE : Ay E) (hZ : Fd E G) {w : List Nat} (hw : okM w) (bx : Nat) :
  A3o E (.func (.func Bo) #[] #[.pointer (some ⟨bx, 0, none⟩)]) (fun h => h[bx]? = some (.cells (Fu w) false) ∧ Tab G h) ((Al w 0).map fun n : Nat => [.int .i64 (n : Int)]) := by
 intro t L W J Stop hJ h0 x hS step
 refine A27 hE.keep hE.Ov rfl (by simp) ?_
 obtain ⟨a4, y⟩ := hJ 0 t h0
 have q := Aaf hE hZ y hw
 have hl := E9 hw
 have ho := Gr w
 have a6 := I4 hw
 simp only [List.cons_append, List.nil_append, Ak]
 have HJ := Hid.mk hJ
 have l := Hid.mk x
 have HS := Hid.mk hS
 have j := Hid.mk step
 have H0 := Hid.mk h0
 clear hJ hS step h0 x
 generalize hvals : (Al w 0).map (fun n : Nat => [Value.int .i64 (n : Int)]) = vals at *
 rw [X0] at q
 have g : ∀ (e : List Nat) (fr : Fr), Al w 0 = e → get fr 0 = .func (.yield L) #[] #[] → get fr 1 = .pointer (some ⟨bx, 0, none⟩) → (match e with | [] => get fr 4 = .bool false | n :: _ => get fr 3 = .int .i64 (n : Int) ∧ get fr 4 = .bool true) →
   WO W (code (callW E) iterW 21 (.block 0 (.loop Ct)) fr t) (Res [] fun v h' => Ad (List.length t) 4 v = true ∧ ∀ h3, Tr t h' h3 → (J vals.length h3 ∨ Stop h3)) := by
  intro e fr f g0 g1 c
  (repeat' simp -dsimp (disch := omega) only [↓EA, *])
  refine WO.loop (α := Nat × List Nat) (fun s fr h' => (Al w 0).drop s.1 = s.2 ∧ s.1 + s.2.length = (Al w 0).length ∧ J s.1 h' ∧ get fr 0 = .func (.yield L) #[] #[] ∧ get fr 1 = .pointer (some ⟨bx, 0, none⟩) ∧ (match s.2 with | [] => get fr 4 = .bool false | n :: r => get fr 3 = .int .i64 (n : Int) ∧ get fr 4 = .bool true) ∧ ∀ n r, s.2 = n :: r → r = Al w (n + 1) ∧ n < 1024) (fun s => s.2.length) ?_ (0, e) ⟨f, by rw [f]; simp, H0.out, g0, g1, c, fun n r h => My _ rfl (f.trans h)⟩
  rintro ⟨k, e⟩ fr h' ⟨hd, d, u, g0, g1, c, a⟩
  dsimp only at hd d u c a
  obtain ⟨hb, ht⟩ := HJ.out k h' u
  clear f q H0 y a4
  unfold Ct
  cases e with
  | nil =>
   dsimp only at c
   have hk : k = vals.length := by rw [← hvals, List.length_map, ← d]; rfl
   subst hk
   have Hj := Hid.mk u
   clear u hd d a
   (repeat' simp -dsimp (disch := omega) only [↓EA, EB, Nat.reduceEqDiff, ↓reduceIte, reduceCtorEq, eq_self, *])
   exact fun h3 ht => .inl (l.out _ _ _ Hj.out ht)
  | cons n r =>
   dsimp only at c
   obtain ⟨g3, g4⟩ := c
   obtain ⟨hr, hn⟩ := a n r rfl
   have hv : vals[k]? = some [.int .i64 (n : Int)] := by
    have t : (Al w 0)[k]? = some n := by
     have : ((Al w 0).drop k)[0]? = some n := by rw [hd]; rfl
     rw [List.getElem?_drop, Nat.add_zero] at this; exact this
    rw [← hvals, List.getElem?_map, t]; rfl
   have p := Hid.mk (j.out k h' _ hv u)
   have Hd := Hid.mk hd
   have Hc := Hid.mk a
   clear hd a hv u j
   simp only [List.length_cons] at d
   (repeat' simp -dsimp (disch := omega) only [↓EA, EB, Nat.reduceEqDiff, ↓reduceIte, reduceCtorEq, eq_self, *])
   refine WX.mono p.out (fun b h => h) fun v h2 hx => ?_
   rcases hx with ⟨rfl, o⟩ | ⟨rfl, a2⟩
   ·obtain ⟨a7, z⟩ := HJ.out (k + 1) h2 o
    have q2 := At6 hE hZ z hw (n := (n : Int)) (by omega)
    have en : Ro w (n : Int) = r.head? := by
     unfold Ro; rw [show (max (n : Int) (-1) + 1).toNat = n + 1 by omega, ← hr]
    rw [en] at q2
    have a3 := Hid.mk o
    have Hr := Hid.mk hr
    clear o hr p z en hb ht
    have a1 : (Al w 0).drop (k + 1) = r := by rw [← List.drop_drop, Hd.out]; rfl
    have a0 := Hid.mk a1
    clear a1
    cases r with
    | nil =>
     simp only [List.head?_nil, Mp] at q2
     (repeat' simp -dsimp (disch := omega) only [↓EA, EB, Nat.reduceEqDiff, ↓reduceIte, reduceCtorEq, eq_self, *])
     exact Next.mk (k + 1, []) ⟨a0.out, by simpa using d, a3.out, rfl, rfl, rfl, fun n r h => by cases h⟩ (by simp)
    | cons m r2 =>
     simp only [List.head?_cons, Mp] at q2
     (repeat' simp -dsimp (disch := omega) only [↓EA, EB, Nat.reduceEqDiff, ↓reduceIte, reduceCtorEq, eq_self, *])
     refine Next.mk (k + 1, m :: r2) ⟨a0.out, by simp only [List.length_cons] at d ⊢; omega, a3.out, rfl, rfl, ⟨rfl, rfl⟩, fun n' r' h => ?_⟩ (by simp)
     exact My _ rfl (Hr.out.symm.trans h)
   ·have a5 := Hid.mk a2
    clear a2 p
    (repeat' simp -dsimp (disch := omega) only [↓EA, EB, Nat.reduceEqDiff, ↓reduceIte, reduceCtorEq, eq_self, *])
    exact fun h3 ht => .inr (HS.out _ _ a5.out ht)
 clear hvals
 cases f : Al w 0 with
 | nil =>
  rw [f] at q
  simp only [List.head?_nil, Mp] at q
  have K := Hid.mk (g [] [(0, .func (.yield L) #[] #[]), (1, .pointer (some ⟨bx, 0, none⟩)), (3, .int .i64 0), (4, .bool false)] f rfl rfl rfl)
  clear g f H0 HJ HS j l
  simp -dsimp (disch := omega) only [↓EA, EB, Nat.reduceEqDiff, ↓reduceIte, reduceCtorEq, eq_self, *]
  have k := K.out
  rw [O5, S9] at k
  exact k
 | cons n r =>
  rw [f] at q
  simp only [List.head?_cons, Mp] at q
  have K := Hid.mk (g (n :: r) [(0, .func (.yield L) #[] #[]), (1, .pointer (some ⟨bx, 0, none⟩)), (3, .int .i64 (n : Int)), (4, .bool true)] f rfl rfl ⟨rfl, rfl⟩)
  clear g f H0 HJ HS j l
  simp -dsimp (disch := omega) only [↓EA, EB, Nat.reduceEqDiff, ↓reduceIte, reduceCtorEq, eq_self, *]
  have k := K.out
  rw [O5, S9] at k
  exact k
end Go.L.Try
