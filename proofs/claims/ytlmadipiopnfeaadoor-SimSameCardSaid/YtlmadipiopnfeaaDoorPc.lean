/- WORDS, AS THE PROGRAM SCANS THEM. -/
import Derived.Test.YtlmadipiopnfeaaDoorPa
import Derived.Test.YtlmadipiopnfeaaDoorPb
set_option linter.unusedVariables false
set_option linter.unusedSimpArgs false
set_option maxRecDepth 100000
set_option maxHeartbeats 1000000
namespace Go.L.Try
open Go Go.L
variable {E : Env}
theorem Ayp {q : EqK} {c : UInt8} : binOp .or q (.int .u8 (c.toNat : Int)) (.int .u8 32) = some (.int .u8 ((c.toNat ||| 32 : Nat) : Int)) := by
 have a : c.toNat < 256 := c.toNat_lt
 have g : c.toNat ||| 32 < 256 := Nat.or_lt_two_pow (n := 8) a (by decide)
 have j : BitVec.ofInt 8 (c.toNat : Int) = BitVec.ofNat 8 c.toNat := by simp
 have e : ((BitVec.ofInt 8 (c.toNat : Int)) ||| (BitVec.ofInt 8 32)).toNat = c.toNat ||| 32 := by
  have f : BitVec.ofInt 8 32 = BitVec.ofNat 8 32 := by decide
  rw [j, f, BitVec.toNat_or, BitVec.toNat_ofNat, BitVec.toNat_ofNat, Nat.mod_eq_of_lt a]
 have d : binOp .or q (.int .u8 (c.toNat : Int)) (.int .u8 32) = some (.int .u8 (IntKind.u8.wrap (((BitVec.ofInt 8 (c.toNat : Int)) ||| (BitVec.ofInt 8 32)).toNat : Nat))) := by simp only [binOp, Ee, if_true]; rfl
 rw [d, e, Adw (by omega) (by omega)]
theorem Ahl : ∀ n : Nat, n < 256 → (decide ((97 ≤ n ||| 32 ∧ n ||| 32 ≤ 122) ∨ n = 95) == decide ((97 ≤ n ∧ n ≤ 122) ∨ (65 ≤ n ∧ n ≤ 90) ∨ n = 95)) = true := by
 have h : (List.range 256).all (fun n => decide ((97 ≤ n ||| 32 ∧ n ||| 32 ≤ 122) ∨ n = 95) == decide ((97 ≤ n ∧ n ≤ 122) ∨ (65 ≤ n ∧ n ≤ 90) ∨ n = 95)) = true := by decide +kernel
 intro n a
 exact List.all_eq_true.1 h n (List.mem_range.2 a)
theorem Anl (hE : Ay E) (h : Aa) (c : UInt8) : callW E (.func (.func Fy) #[] #[]) [.int .u8 c.toNat] h = some (.bool (Ko c), h, []) := by
 have a : c.toNat < 256 := c.toNat_lt
 have f := eq_of_beq (Ahl c.toNat a)
 have e : Ko c = decide ((97 ≤ c.toNat ||| 32 ∧ c.toNat ||| 32 ≤ 122) ∨ c.toNat = 95) := by unfold Ko; exact f.symm
 rw [e]
 clear f e
 refine Am hE.Af0 rfl (by simp) ?_
 simp only [Ak]
 generalize hx : c.toNat ||| 32 = x
 have d := @Ayp .other c
 rw [hx] at d
 clear hx
 (repeat' (first | (with_reducible refine A1 (fun _ => ?_) (fun _ => ?_) <;> try (exfalso; omega)) | (with_reducible refine A2 (fun _ => ?_) (fun _ => ?_) <;> try (exfalso; omega)) | simp -dsimp (disch := omega) only [↓EA, EB, Nat.reduceEqDiff, ↓reduceIte, reduceCtorEq, eq_self, *]))
 all_goals (congr 1; first | (rw [decide_eq_decide]; omega) | (symm; rw [decide_eq_true_eq]; omega) | (symm; rw [decide_eq_false_iff_not]; omega))
theorem A1g (hE : Ay E) (h : Aa) (c : UInt8) : callW E (.func (.func Jh) #[] #[]) [.int .u8 c.toNat] h = some (.bool (Aex c), h, []) := by
 refine Am hE.Ajt rfl (by simp) ?_
 simp only [Ak]
 (repeat' (first | (with_reducible refine A1 (fun _ => ?_) (fun _ => ?_) <;> try (exfalso; omega)) | simp -dsimp (disch := omega) only [↓EA, EB, Nat.reduceEqDiff, ↓reduceIte, reduceCtorEq, eq_self, *]))
 all_goals (unfold Aex; congr 1; first | (rw [decide_eq_decide]; omega) | (symm; rw [decide_eq_true_eq]; omega) | (symm; rw [decide_eq_false_iff_not]; omega))
theorem A2n (hE : Ay E) (h : Aa) (c : UInt8) : callW E (.func (.func Gl) #[] #[]) [.int .u8 c.toNat] h = some (.bool (Jn c), h, []) := by
 have d := Anl hE h c
 have a := A1g hE h c
 refine Am hE.Apk rfl (by simp) ?_
 simp only [Ak]
 unfold Jn
 cases hl : Ko c <;> cases hd : Aex c
 all_goals
  rw [hl] at d
  rw [hd] at a
  (repeat' (first | (with_reducible refine A3 (fun _ => ?_) (fun _ => ?_) <;> try (exfalso; omega)) | simp -dsimp (disch := omega) only [↓EA, EB, Nat.reduceEqDiff, ↓reduceIte, reduceCtorEq, eq_self, *]))
 all_goals first | rfl | (congr 1; simp; done) | (congr 1; simp; omega)
theorem A2j (hE : Ay E) (h : Aa) {s : ByteArray} (hs : s.size < 1152921504606846976) :
  callW E (.func (.func Ku) #[] #[]) [.string s, .func (.func Gl) #[] #[]] h = some (.int .i64 (runEnd Jn s 0 : Nat), h, []) := by
 refine Am hE.Apj rfl (by simp) ?_
 simp only [Ak]
 (repeat' simp -dsimp (disch := omega) only [↓EA, EB, Nat.reduceEqDiff, ↓reduceIte, reduceCtorEq, eq_self, *])
 refine WO.loop (fun (n : Nat) fr h' => h' = h ∧ n ≤ s.size ∧ runEnd Jn s 0 = runEnd Jn s n ∧ get fr 0 = .string s ∧ get fr 1 = .func (.func Gl) #[] #[] ∧ get fr 5 = .int .i64 n) (fun n => s.size - n) ?_ 0 ⟨rfl, Nat.zero_le _, rfl, rfl, rfl, rfl⟩
 rintro n fr h' ⟨rfl, j, c, g, f, l⟩
 have Hr := Hid.mk c
 clear c
 unfold R9
 rcases Nat.lt_or_ge n s.size with hlt | hge
 ·have q := A2n hE h' (F9 s (n : Int))
  have H1 := Hid.mk (fun a => Af5 (p := Jn) hlt a)
  have H2 := Hid.mk (fun a => Af4 (p := Jn) hlt a)
  have d : ∀ k : IntKind, Akj (.string s) (.int k n) = some (.int .u8 ((F9 s n).toNat : Int)) := fun k => Aul (by omega) (by omega)
  cases hg : Jn (F9 s (n : Int))
  ·rw [hg] at q
   have e := H2.out hg
   (repeat' (first | (with_reducible refine A3 (fun _ => ?_) (fun _ => ?_) <;> try (exfalso; omega)) | simp -dsimp (disch := omega) only [↓EA, EB, Nat.reduceEqDiff, ↓reduceIte, reduceCtorEq, eq_self, *]))
   rw [Hr.out, e]
  ·rw [hg] at q
   have Hs := Hid.mk (H1.out hg)
   (repeat' (first | (with_reducible refine A3 (fun _ => ?_) (fun _ => ?_) <;> try (exfalso; omega)) | simp -dsimp (disch := omega) only [↓EA, EB, Nat.reduceEqDiff, ↓reduceIte, reduceCtorEq, eq_self, *]))
   exact Next.mk (n + 1) ⟨rfl, by omega, by rw [Hr.out, Hs.out], rfl, rfl, rfl⟩ (by omega)
 ·have e := Hid.mk (Ajy (p := Jn) hge)
  (repeat' (first | (with_reducible refine A3 (fun _ => ?_) (fun _ => ?_) <;> try (exfalso; omega)) | simp -dsimp (disch := omega) only [↓EA, EB, Nat.reduceEqDiff, ↓reduceIte, reduceCtorEq, eq_self, *]))
  rw [Hr.out, e.out]
theorem Aq9 {s : ByteArray} (h0 : 0 < s.size) : Xp s = (Ko (F9 s 0) && decide ((runEnd Jn s 0 : Nat) = s.size)) := by
 have a := Sl s
 cases hb : bs s with
 | nil => rw [hb] at a; simp at a; omega
 | cons c r =>
  have e : F9 s 0 = c := by unfold F9; rw [hb]; rfl
  have g : (runEnd Jn s 0 : Nat) = ((c :: r).takeWhile Jn).length := by unfold runEnd; rw [List.drop_zero, hb, Nat.zero_add]
  have f : s.size = (c :: r).length := by rw [← hb, Sl]
  rw [e, g, f]
  unfold Xp
  rw [hb]
  show (Ko c && r.all Jn) = _
  cases hlc : Ko c
  ·rfl
  ·have d : Jn c = true := by unfold Jn; rw [hlc]; rfl
   have : decide (((c :: r).takeWhile Jn).length = (c :: r).length) = (c :: r).all Jn := by
    rw [← Bool.coe_iff_coe, decide_eq_true_eq]; exact To
   rw [this, List.all_cons, d]; rfl
theorem A1y (hE : Ay E) (h : Aa) {s : ByteArray} (hs : s.size < 1152921504606846976) :
  callW E (.func (.func Kv) #[] #[]) [.string s] h = some (.bool (Xp s), h, []) := by
 refine Am hE.Apl rfl (by simp) ?_
 simp only [Ak]
 rcases Nat.eq_zero_or_pos s.size with h0 | h0
 ·have e : bs s = [] := List.length_eq_zero_iff.1 (by rw [Sl]; exact h0)
  have d : bs ⟨#[]⟩ = [] := rfl
  (repeat' simp -dsimp (disch := omega) only [↓EA, EB, Nat.reduceEqDiff, ↓reduceIte, reduceCtorEq, eq_self, *, Avv])
  all_goals simp [Xp, e]
 ·have e : bs s ≠ [] := fun e => by rw [← Sl, e] at h0; simp at h0
  have d : bs ⟨#[]⟩ = [] := rfl
  have c : ∀ k : IntKind, Akj (.string s) (.int k 0) = some (.int .u8 ((F9 s 0).toNat : Int)) := fun k => Aul (by omega) (by omega)
  have a := Anl hE h (F9 s 0)
  have f := A2j hE h hs
  rw [Aq9 h0]
  cases hl : Ko (F9 s 0)
  ·rw [hl] at a
   (repeat' simp -dsimp (disch := omega) only [↓EA, EB, Nat.reduceEqDiff, ↓reduceIte, reduceCtorEq, eq_self, *, Avv])
   rfl
  ·rw [hl] at a
   generalize runEnd Jn s 0 = R at *
   (repeat' simp -dsimp (disch := omega) only [↓EA, EB, Nat.reduceEqDiff, ↓reduceIte, reduceCtorEq, eq_self, *, Avv])
   congr 1
   rw [decide_eq_decide]; omega
end Go.L.Try
set_option maxHeartbeats 2000000
namespace Go.L.Try
open Go Go.L
variable {E : Env}
theorem Tb {g : FuncId} {c : FnC} (hf : E g = .text c) (a b : Array Value) (args : List Value) (h : Aa) : callW E (.func (.func g) a b) args h = callW E (.func (.func g) #[] #[]) (a.toList ++ args ++ b.toList) h := by
 rw [P7 hf, P6 hf]
theorem Awk (hE : Ay E) (h : Aa) (n : Int) : callW E (.func (.func Bg) #[] #[]) [.int .i64 n] h = some (.bool (decide (0 ≤ n ∧ n ≤ 2147483647)), h, []) := by
 refine Am hE.Abs rfl (by simp) ?_
 simp only [Ak]
 (repeat' (first | (with_reducible refine A1 (fun _ => ?_) (fun _ => ?_) <;> try (exfalso; omega)) | simp -dsimp (disch := omega) only [↓EA, EB, Nat.reduceEqDiff, ↓reduceIte, reduceCtorEq, eq_self, *]))
 all_goals first | rfl | (congr 1; first | (rw [decide_eq_decide]; omega) | (symm; rw [decide_eq_true_eq]; omega) | (symm; rw [decide_eq_false_iff_not]; omega))
theorem Axg (hE : Ay E) {h : Aa} {t : Ab} (hs : t.name.size < 1152921504606846976) {b c : Nat} (hb : h[b]? = some (.cells (A0 t) false)) (hc : h[c]? = some (.cells [.func (.func Bg) #[] #[]] false)) :
  callW E (.func (.func Fp) #[] #[.pointer (some ⟨b, 0, none⟩), .pointer (some ⟨c, 0, none⟩)]) [] h = some (.bool (decide (An t)), h, []) := by
 have q := A1y hE h hs
 have d := Awk hE h
 unfold A0 at hb
 rw [Tb hE.Tn]
 have e : decide (An t) = (Xp t.name && decide (t.name.size ≤ 32 ∧ (1 ≤ t.C ∧ t.C ≤ 2147483647) ∧ (1 ≤ t.T ∧ t.T ≤ 2147483647) ∧ (1 ≤ t.D ∧ t.D ≤ 2147483647) ∧ (1 ≤ t.Q ∧ t.Q ≤ 2147483647) ∧ (0 ≤ t.J ∧ t.J ≤ 2147483647) ∧ 1 ≤ t.P ∧ t.P ≤ 1048576)) := by
  rw [Bool.eq_iff_iff, Bool.and_eq_true, decide_eq_true_iff, decide_eq_true_iff]; exact Iff.rfl
 rw [e]
 clear e
 generalize a : decide (t.name.size ≤ 32 ∧ (1 ≤ t.C ∧ t.C ≤ 2147483647) ∧ (1 ≤ t.T ∧ t.T ≤ 2147483647) ∧ (1 ≤ t.D ∧ t.D ≤ 2147483647) ∧ (1 ≤ t.Q ∧ t.Q ≤ 2147483647) ∧ (0 ≤ t.J ∧ t.J ≤ 2147483647) ∧ 1 ≤ t.P ∧ t.P ≤ 1048576) = X
 replace a := Hid.mk a
 refine Am hE.Tn rfl (by simp) ?_
 simp only [List.nil_append, List.append_nil, Ak]
 cases hw : Xp t.name
 ·rw [hw] at q
  (repeat' simp -dsimp (disch := omega) only [↓EA, EB, Nat.reduceEqDiff, ↓reduceIte, reduceCtorEq, eq_self, *])
  rfl
 ·rw [hw] at q
  (repeat' (first | (with_reducible refine A1 (fun _ => ?_) (fun _ => ?_) <;> try (exfalso; omega)) | simp -dsimp (disch := omega) only [↓EA, EB, Nat.reduceEqDiff, ↓reduceIte, reduceCtorEq, eq_self, *]))
  all_goals
   congr 1
   rw [← a.out]
   first | exact decide_eq_decide.2 (by omega) | exact (decide_eq_false (by omega)).symm | exact (decide_eq_true (by omega)).symm
theorem A28 (hE : Ay E) {h : Aa} {t : Ab} (ht : An t) {b : Nat} (hb : h[b]? = some (.cells (A0 t) false)) :
  callW E (.func (.func Fo) #[] #[.pointer (some ⟨b, 0, none⟩)]) [] h = some (.bool (decide (D4 t)), h, []) := by
 unfold A0 at hb
 rw [Tb hE.Tm]
 simp only [An] at ht
 have a := ht.2.2.1
 have c := ht.2.2.2.2.2.2.1
 clear ht
 refine Am hE.Tm rfl (by simp) ?_
 simp only [List.nil_append, List.append_nil, Ak]
 (repeat' (first | (with_reducible refine A1 (fun _ => ?_) (fun _ => ?_) <;> try (exfalso; omega)) | simp -dsimp (disch := omega) only [↓EA, EB, Nat.reduceEqDiff, ↓reduceIte, reduceCtorEq, eq_self, *]))
 all_goals
  congr 1
  first | exact decide_eq_decide.2 (by unfold D4; omega) | exact (decide_eq_false (by unfold D4; omega)).symm | exact (decide_eq_true (by unfold D4; omega)).symm
def Aet (b0 b1 : Bool) (e0 e1 : Int) : Int := if b0 then if b1 then 0 else e1 else e0
theorem A1b (hE : Ay E) {h : Aa} {f0 f1 : Value} {b0 b1 : Bool} {e0 e1 : Int} (h0 : Bp f0 = [f0]) (h1 : Bp f1 = [f1]) (o0 : Ag f0 = true) (o1 : Ag f1 = true) (q0 : ∀ x, callW E f0 [] (h ++ x) = some (.bool b0, h ++ x, [])) (q1 : b0 = true → ∀ x, callW E f1 [] (h ++ x) = some (.bool b1, h ++ x, [])) :
  callW E (.func (.func Je) #[] #[]) [.agg #[f0, .int .i64 e0, f1, .int .i64 e1]] h = some (.int .i64 (Aet b0 b1 e0 e1), h, []) := by
 refine Am hE.Ajc rfl (by simp) ?_
 simp only [Ak]
 (repeat' simp -dsimp (disch := omega) only [↓EA, EB, Nat.reduceEqDiff, Nat.reduceAdd, ↓reduceIte, Ac, eq_self, *])
 replace q1 := Hid.mk q1
 have a : Aet b0 b1 e0 e1 = if b0 then if b1 then 0 else e1 else e0 := rfl
 replace a := Hid.mk a
 refine WO.loop (fun (n : Nat) fr h' => (∃ x, h' = h ++ x) ∧ n ≤ 2 ∧ (1 ≤ n → b0 = true) ∧ (2 ≤ n → b1 = true) ∧ get fr 3 = .int .i64 0 ∧ get fr 6 = .agg #[f0, .int .i64 e0, f1, .int .i64 e1] ∧ get fr 7 = .int .i64 n) (fun n => 2 - n) ?_ 0 ⟨⟨_, rfl⟩, by omega, fun h => by omega, fun h => by omega, rfl, rfl, rfl⟩
 rintro n fr h' ⟨⟨x, rfl⟩, o, c, d, p, m, e⟩
 unfold Qm
 have j : Ax5 2 2 (some 2) (.agg #[f0, .int .i64 e0, f1, .int .i64 e1]) (.int .i64 0) = some (.agg #[f0, .int .i64 e0]) := rfl
 have l : Ax5 2 2 (some 2) (.agg #[f0, .int .i64 e0, f1, .int .i64 e1]) (.int .i64 1) = some (.agg #[f1, .int .i64 e1]) := rfl
 rcases n with _ | _ | n
 ·replace e : get fr 7 = .int .i64 0 := e
  clear c d
  cases b0
  ·(repeat' (first | (with_reducible refine A3 (fun _ => ?_) (fun _ => ?_) <;> try (exfalso; omega)) | simp -dsimp (disch := omega) only [↓EA, EB, Nat.reduceEqDiff, Nat.reduceAdd, ↓reduceIte, reduceCtorEq, Ac, eq_self, *]))
   rw [a.out]; rfl
  ·(repeat' (first | (with_reducible refine A3 (fun _ => ?_) (fun _ => ?_) <;> try (exfalso; omega)) | simp -dsimp (disch := omega) only [↓EA, EB, Nat.reduceEqDiff, Nat.reduceAdd, ↓reduceIte, Ac, eq_self, *]))
   exact Next.mk 1 ⟨⟨_, rfl⟩, by omega, fun _ => rfl, fun h => by omega, rfl, rfl, rfl⟩ (by omega)
 ·replace e : get fr 7 = .int .i64 1 := e
  have g := c (by omega)
  subst g
  clear c d
  have r := q1.out rfl
  cases b1
  ·(repeat' (first | (with_reducible refine A3 (fun _ => ?_) (fun _ => ?_) <;> try (exfalso; omega)) | simp -dsimp (disch := omega) only [↓EA, EB, Nat.reduceEqDiff, Nat.reduceAdd, ↓reduceIte, reduceCtorEq, Ac, eq_self, *]))
   rw [a.out]; rfl
  ·(repeat' (first | (with_reducible refine A3 (fun _ => ?_) (fun _ => ?_) <;> try (exfalso; omega)) | simp -dsimp (disch := omega) only [↓EA, EB, Nat.reduceEqDiff, Nat.reduceAdd, ↓reduceIte, Ac, eq_self, *]))
   exact Next.mk 2 ⟨⟨_, rfl⟩, by omega, fun _ => rfl, fun _ => rfl, rfl, rfl, rfl⟩ (by omega)
 ·have g := c (by omega)
  have f := d (by omega)
  obtain rfl : n = 0 := by omega
  subst g f
  clear c d
  (repeat' (first | (with_reducible refine A3 (fun _ => ?_) (fun _ => ?_) <;> try (exfalso; omega)) | simp -dsimp (disch := omega) only [↓EA, EB, Nat.reduceEqDiff, Nat.reduceAdd, ↓reduceIte, eq_self, *]))
  rw [a.out]; rfl
theorem A1k (hE : Ay E) (h : Aa) (t : Ab) (hs : t.name.size < 1152921504606846976) :
  callW E (.func (.func Jf) #[] #[]) [.agg (A0 t).toArray] h = some (.int .i64 (Lf t), h, []) := by
 have d := fun H m j g o p r => @A1b E hE H m j g o p r
 have e : Lf t = Aet (decide (An t)) (decide (D4 t)) 11 12 := by
  unfold Lf Aet
  by_cases l : An t <;> by_cases h2 : D4 t <;> simp [l, h2]
 rw [e]
 clear e
 refine Am hE.Aje rfl (by simp) ?_
 simp only [Ak]
 unfold A0
 have Hg := Hid.mk d
 clear d
 (repeat' simp -dsimp (disch := omega) only [↓EA, EB, Nat.reduceEqDiff, Nat.reduceAdd, Nat.reduceLeDiff, ↓reduceIte, Ac, eq_self, *])
 have c : (h ++ [LObj.cells [.string t.name, .int .i64 t.C, .int .i64 t.T, .int .i64 t.D, .int .i64 t.J, .int .i64 t.Q, .int .i64 t.P] false, LObj.cells [.func (.func Bg) #[] #[]] false]) = h ++ [LObj.cells (A0 t) false, LObj.cells [.func (.func Bg) #[] #[]] false] := rfl
 have a : ∀ x, ((h ++ [LObj.cells (A0 t) false, LObj.cells [.func (.func Bg) #[] #[]] false]) ++ x)[h.length]? = some (.cells (A0 t) false) := fun x => by rw [List.append_assoc, Bm]; rfl
 have f : ∀ x, ((h ++ [LObj.cells (A0 t) false, LObj.cells [.func (.func Bg) #[] #[]] false]) ++ x)[h.length + 1]? = some (.cells [.func (.func Bg) #[] #[]] false) := fun x => by rw [List.append_assoc, Ke]; rfl
 have s := Hg.out (h ++ [LObj.cells (A0 t) false, LObj.cells [.func (.func Bg) #[] #[]] false]) _ _ _ _ 11 12 rfl rfl rfl rfl (fun x => Axg hE hs (a x) (f x)) (fun n x => A28 hE (of_decide_eq_true n) (a x))
 rw [c]
 clear c a f
 (repeat' simp -dsimp (disch := omega) only [↓EA, EB, ↓reduceIte, eq_self, *])
end Go.L.Try
namespace Go.L.Try
open Go Go.L
variable {E : Env}
theorem Abi (s t : ByteArray) : (s == t) = decide (s = t) := by
 cases s with | mk x =>
 cases t with | mk y =>
 have e : ((⟨x⟩ : ByteArray) == ⟨y⟩) = (x == y) := rfl
 rw [e]; by_cases h : x = y <;> simp [h]
def Ai5 (es : List (Value × Value)) : Prop := ∀ e ∈ es, ∃ s, e.1 = .string s
def Yp : List (Value × Value) → ByteArray → Option Value
 | [], _ => none
 | (.string a, v) :: r, s => if s = a then some v else Yp r s
 | _ :: r, s => Yp r s
theorem Ah3 : ∀ {es : List (Value × Value)}, Ai5 es → ∀ s, find .str (.string s) es = some (Yp es s)
 | [], _, _ => rfl
 | (x, v) :: r, hk, s => by
  obtain ⟨a, rfl⟩ := hk (x, v) (by simp)
  have c := Ah3 (es := r) (fun e d => hk e (by simp [d])) s
  simp only [find, B4, G8, Option.bind_some, Yp]
  by_cases h : s = a
  ·simp [h, Abi]
  ·have : (s == a) = false := by rw [Abi]; exact decide_eq_false h
   simp [h, this, c]
theorem Alp (v : Value) : ∀ {es : List (Value × Value)}, Ai5 es → ∀ s, ∃ es', N5 .str (.string s) v es = some es' ∧ Ai5 es' ∧ ∀ j, Yp es' j = if j = s then some v else Yp es j
 | [], _, s => ⟨_, rfl, fun e he => by rw [List.mem_singleton.1 he]; exact ⟨s, rfl⟩, fun j => rfl⟩
 | (x, u) :: r, hk, s => by
  obtain ⟨a, rfl⟩ := hk (x, u) (by simp)
  obtain ⟨es', f, h2, g⟩ := Alp v (es := r) (fun e he => hk e (by simp [he])) s
  by_cases h : s = a
  ·subst h
   refine ⟨(.string s, v) :: r, by simp [N5, B4, G8, Abi], fun e he => ?_, fun j => ?_⟩
   ·rcases List.mem_cons.1 he with rfl | he
    ·exact ⟨s, rfl⟩
    ·exact hk e (by simp [he])
   ·simp only [Yp]; split <;> rfl
  ·have d : (s == a) = false := by rw [Abi]; exact decide_eq_false h
   refine ⟨(.string a, u) :: es', by simp [N5, B4, G8, d, f], fun e he => ?_, fun j => ?_⟩
   ·rcases List.mem_cons.1 he with rfl | he
    ·exact ⟨a, rfl⟩
    ·exact h2 e he
   ·simp only [Yp, g]
    by_cases c : j = a
    ·subst c; rw [if_pos rfl, if_pos rfl, if_neg (fun e => h e.symm)]
    ·rw [if_neg c, if_neg c]
theorem Ann {s : ByteArray} : Rw .str (.string s) = true := by simp [Rw, B4, G8, Abi]
theorem Akg {es : List (Value × Value)} (hk : Ai5 es) (z : Value) (s : ByteArray) : lkO .str z (.string s) false (some (.map es)) = some ((Yp es s).getD z) := by
 simp only [lkO, Ann, if_true, Ah3 hk, Option.map_some]
 cases Yp es s <;> rfl
theorem A0w {s : ByteArray} {v : Value} {es es' : List (Value × Value)} (h1 : N5 .str (.string s) v es = some es') (h : Aa) (r : Nat) : mpO .str (.string s) v h r (some (.map es)) = some (undef, h.set r (.map es'), [r]) := by
 simp only [mpO, Ann, if_true, h1, Option.map_some]
def cntN (l : List Ab) : Nat → ByteArray → Int
 | 0, _ => 0
 | n + 1, s => cntN l n s + if (atI l (n : Int)).name = s then 1 else 0
def cntP (l : List Ab) : Nat → Int → Int
 | 0, _ => 0
 | n + 1, p => cntP l n p + if (atI l (n : Int)).P = p then 1 else 0
theorem Ae2 (l : List Ab) (s : ByteArray) : ∀ n : Nat, 0 ≤ cntN l n s ∧ cntN l n s ≤ n
 | 0 => by simp [cntN]
 | n + 1 => by have := Ae2 l s n; unfold cntN; split <;> omega
theorem Ae1 (l : List Ab) (p : Int) : ∀ n : Nat, 0 ≤ cntP l n p ∧ cntP l n p ≤ n
 | 0 => by simp [cntP]
 | n + 1 => by have := Ae1 l p n; unfold cntP; split <;> omega
theorem A1m {s t : ByteArray} : bs s = bs t ↔ s = t := ⟨A1l, fun h => by rw [h]⟩
theorem Adg (l : List Ab) (i : Int) : ∀ k : Nat, Tv l i k = decide (1 ≤ cntN l k (atI l i).name ∨ 1 ≤ cntP l k (atI l i).P)
 | 0 => by simp [Tv, cntN, cntP]
 | k + 1 => by
  have c := Ae2 l (atI l i).name k
  have h2 := Ae1 l (atI l i).P k
  unfold Tv cntN cntP
  rw [Adg l i k, Bool.eq_iff_iff, Bool.or_eq_true, decide_eq_true_iff, decide_eq_true_iff, decide_eq_true_iff, A1m]
  generalize cntN l k (atI l i).name = x at *
  generalize cntP l k (atI l i).P = y at *
  by_cases a : (atI l (k : Int)).name = (atI l i).name <;> by_cases b : (atI l (k : Int)).P = (atI l i).P
  ·rw [if_pos a, if_pos b]; exact ⟨fun _ => .inl (by omega), fun _ => .inr (.inl a)⟩
  ·rw [if_pos a, if_neg b]; exact ⟨fun _ => .inl (by omega), fun _ => .inr (.inl a)⟩
  ·rw [if_neg a, if_pos b]; exact ⟨fun _ => .inr (by omega), fun _ => .inr (.inr b)⟩
  ·rw [if_neg a, if_neg b, Int.add_zero, Int.add_zero]; exact ⟨fun h => h.elim id fun h => (h.elim a b).elim, fun h => .inl h⟩
theorem Ta (hE : Ay E) {h : Aa} {vl : Value} {l : List Ab} (hl : Rd 7 A0 h vl l) (hs : ∀ t ∈ l, t.name.size < 1152921504606846976) :
  callW E (.func (.func Co) #[] #[]) [vl] h = some (.tuple #[.int .i64 (Dr l).1, .int .i64 (Dr l).2], h, []) := by
 refine Am hE.Abt rfl (by simp) ?_
 have few := hl.few
 have a0 := Ad
 simp only [Ak]
 unfold Dr
 by_cases hc : l.length = 0 ∨ 1024 < l.length
 ·rw [if_pos hc]
  (repeat' (first | (with_reducible refine A2 (fun _ => ?_) (fun _ => ?_) <;> try (exfalso; omega)) | (with_reducible refine A3 (fun _ => ?_) (fun _ => ?_) <;> try (exfalso; omega)) | simp -dsimp (disch := omega) only [↓EA, EB, Nat.reduceEqDiff, ↓reduceIte, reduceCtorEq, eq_self, *, hl.len]))
 ·rw [if_neg hc]
  have a3 : 1 ≤ l.length ∧ l.length ≤ 1024 := by omega
  clear hc a0
  have a4 := Hid.mk (rfl : Cw l l.length 0 = Cw l l.length 0)
  (repeat' (first | (with_reducible refine A2 (fun _ => ?_) (fun _ => ?_) <;> try (exfalso; omega)) | (with_reducible refine A3 (fun _ => ?_) (fun _ => ?_) <;> try (exfalso; omega)) | simp -dsimp (disch := omega) only [↓EA, EB, Nat.reduceEqDiff, ↓reduceIte, reduceCtorEq, eq_self, *, hl.len]))
  refine WO.loop (fun (n : Nat) fr h' => n ≤ l.length ∧ Cw l l.length 0 = Cw l (l.length - n) n ∧ Pre h h' ∧ get fr 0 = vl ∧ get fr 4 = .map (some h.length) ∧ get fr 5 = .map (some (h.length + 1)) ∧ get fr 19 = vl ∧ get fr 20 = .int .i64 l.length ∧ get fr 21 = .int .i64 n ∧ ∃ y v, h'[h.length]? = some (.map y) ∧ h'[h.length + 1]? = some (.map v) ∧ Ai5 y ∧ Yb .i64 v ∧ (∀ s, (Yp y s).getD (.int .i64 0) = .int .i64 (cntN l n s)) ∧ ∀ p, (Tg .i64 v p).getD (.int .i64 0) = .int .i64 (cntP l n p)) (fun n => l.length - n) ?_ 0 ⟨Nat.zero_le _, rfl, Pre.app h _, rfl, rfl, rfl, rfl, rfl, rfl, [], [], by rw [Bm]; rfl, by rw [Ke]; rfl, (fun e he => nomatch he), (fun e he => nomatch he), fun s => rfl, fun p => rfl⟩
  rintro n fr h' ⟨hn, j, hp, g0, g4, g5, a5, a6, a7, y, v, m1, m2, k1, k2, c1, c2⟩
  have a := Hid.mk j
  clear j
  unfold M0
  rcases Nat.lt_or_ge n l.length with hlt | hge
  ·have u := hl.pre hp
   have hm := Aj (l := l) (i := (n : Int)) (by omega) (by omega)
   have q := fun x => A1k hE (h' ++ x) (atI l (n : Int)) (hs _ hm)
   simp only [A0] at q
   have hstep : Cw l (l.length - n) n = if Lf (atI l (n : Int)) ≠ 0 then ((n : Int), Lf (atI l (n : Int))) else if Tv l (n : Int) n then ((n : Int), 13) else Cw l (l.length - (n + 1)) ((n : Int) + 1) := by
    obtain ⟨k, hk⟩ : ∃ k, l.length - n = k + 1 := ⟨l.length - n - 1, by omega⟩
    rw [hk, show l.length - (n + 1) = k by omega]; rfl
   rw [Adg] at hstep
   have c := Hid.mk hstep
   clear hstep
   have cn := Ae2 l (atI l (n : Int)).name n
   have cp := Ae1 l (atI l (n : Int)).P n
   have L1 := fun z => Akg k1 z (atI l (n : Int)).name
   have aa := hp.le
   have r := (GI.1 m1).1
   have f := (GI.1 m2).1
   obtain ⟨g, p1, p2, p3⟩ := Alp (.int .i64 (cntN l n (atI l (n : Int)).name + 1)) k1 (atI l (n : Int)).name
   obtain ⟨m, r1, r2, r3⟩ := Yy (.int .i64 (cntP l n (atI l (n : Int)).P + 1)) k2 (atI l (n : Int)).P
   have C1 := c1 (atI l (n : Int)).name
   have C2 := c2 (atI l (n : Int)).P
   have a2 := Hid.mk c1
   have a1 := Hid.mk c2
   have P3 := Hid.mk p3
   have R3 := Hid.mk r3
   have D1 : (Yp g (atI l (n : Int)).name).getD (.int .i64 0) = .int .i64 (cntN l n (atI l (n : Int)).name + 1) := by rw [p3, if_pos rfl]; rfl
   have D2 : (Tg .i64 m (atI l (n : Int)).P).getD (.int .i64 0) = .int .i64 (cntP l n (atI l (n : Int)).P + 1) := by rw [r3, if_pos rfl]; rfl
   have M1 := A0w p1
   have M2 := Akf r1
   have L2 := Ue k2
   have L3 := Akg p2
   have L4 := Ue r2
   clear c1 c2 p3 r3 p1 r1 hm hs L1
   have L1 := Akg k1
   have a8 : ∀ x, (h' ++ x)[h.length]? = some (.map y) := fun x => by rw [GL r]; exact m1
   have a9 : ∀ x, (h' ++ x)[h.length + 1]? = some (.map v) := fun x => by rw [GL f]; exact m2
   clear m1 m2
   have G1 : ∀ x o, (List.set (h' ++ x) h.length o)[h.length]? = some o := fun x o => Cb (by simp; omega)
   have G2 : ∀ x o o2, (List.set (List.set (h' ++ x) h.length o) (h.length + 1) o2)[h.length + 1]? = some o2 := fun x o o2 => Cb (by simp; omega)
   (repeat' (first | (with_reducible refine A2 (fun _ => ?_) (fun _ => ?_) <;> try (exfalso; omega)) | (with_reducible refine A3 (fun _ => ?_) (fun _ => ?_) <;> try (exfalso; omega)) | simp -dsimp (disch := omega) only [↓EA, EB, Nat.reduceEqDiff, Nat.reduceAdd, ↓reduceIte, reduceCtorEq, Ac, eq_self, *, u.ixs, u.lda, A0]))
   ·rw [a.out, c.out, if_pos (by assumption)]
   ·rw [a.out, c.out, if_neg (by omega), if_pos (decide_eq_true (by omega))]
   ·rw [a.out, c.out, if_neg (by omega), if_pos (decide_eq_true (by omega))]
   ·refine Next.mk (n + 1) ⟨by omega, ?_, ((hp.app' _).set (Nat.le_refl _) _).set (by omega) _, rfl, rfl, rfl, rfl, rfl, rfl, g, m, ?_, G2 _ _ _, p2, r2, ?_, ?_⟩ (by omega)
    ·rw [a.out, c.out, if_neg (by omega), if_neg (by rw [decide_eq_true_eq]; omega)]; rfl
    ·rw [Bd (by omega)]; exact G1 _ _
    ·intro s
     rw [P3.out]
     by_cases d : s = (atI l (n : Int)).name
     ·subst d
      rw [if_pos rfl]
      show Value.int .i64 _ = Value.int .i64 (cntN l n _ + if _ then 1 else 0)
      rw [if_pos rfl]
     ·rw [if_neg d, a2.out]
      show Value.int .i64 _ = Value.int .i64 (cntN l n _ + if _ then 1 else 0)
      rw [if_neg (fun e => d e.symm), Int.add_zero]
    ·intro p
     rw [R3.out]
     by_cases d : p = (atI l (n : Int)).P
     ·subst d
      rw [if_pos rfl]
      show Value.int .i64 _ = Value.int .i64 (cntP l n _ + if _ then 1 else 0)
      rw [if_pos rfl]
     ·rw [if_neg d, a1.out]
      show Value.int .i64 _ = Value.int .i64 (cntP l n _ + if _ then 1 else 0)
      rw [if_neg (fun e => d e.symm), Int.add_zero]
  ·have e : n = l.length := by omega
   subst e
   have e0 : Cw l (l.length - l.length) l.length = ((l.length : Int), 0) := by rw [Nat.sub_self]; rfl
   have E0 := Hid.mk e0
   clear e0
   (repeat' (first | (with_reducible refine A3 (fun _ => ?_) (fun _ => ?_) <;> try (exfalso; omega)) | simp -dsimp (disch := omega) only [↓EA, EB, Nat.reduceEqDiff, ↓reduceIte, reduceCtorEq, eq_self, *, hl.len]))
   rw [a.out, E0.out]
end Go.L.Try
namespace Go.L.Try
open Go Go.L
variable {E : Env}
theorem Api (hE : Ay E) {h : Aa} {vl : Value} {l : List Ab} (hl : Rd 7 A0 h vl l) (hs : ∀ t ∈ l, t.name.size < 1152921504606846976) :
  callW E (.func (.func Jg) #[] #[]) [vl] h = some (.bool (decide ((Dr l).2 = 0)), h, []) := by
 have q := Ta hE hl hs
 refine Am hE.Ajr rfl (by simp) ?_
 generalize (Dr l).2 = e at *
 simp only [Ak]
 (repeat' simp -dsimp (disch := omega) only [↓EA, EB, Nat.reduceEqDiff, ↓reduceIte, reduceCtorEq, eq_self, *])
theorem Np (hE : Ay E) (h : Aa) (n a b : Int) : callW E (.func (.func Bu) #[] #[]) [.int .i64 n, .int .i64 a, .int .i64 b] h = some (.bool (decide (a ≤ n ∧ n ≤ b)), h, []) := by
 refine Am hE.Yd rfl (by simp) ?_
 simp only [Ak]
 (repeat' (first | (with_reducible refine A1 (fun _ => ?_) (fun _ => ?_) <;> try (exfalso; omega)) | simp -dsimp (disch := omega) only [↓EA, EB, Nat.reduceEqDiff, Nat.reduceAdd, ↓reduceIte, reduceCtorEq, eq_self, *]))
 all_goals first | rfl | exact congrArg Value.bool (decide_eq_decide.2 (by omega)) | exact congrArg Value.bool (decide_eq_false (by omega)).symm | exact congrArg Value.bool (decide_eq_true (by omega)).symm
theorem Aug (hE : Ay E) (h : Aa) {j : Value} (hj : (Bp j).all Ag = true) (g : Value) : callW E (.func (.func Cj) #[] #[]) [j, g] h = some (.tuple #[], h, []) := by
 refine Am hE.Ye rfl (by simp) ?_
 simp only [Ak]
 (repeat' simp -dsimp (disch := omega) only [↓EA, EB, ↓reduceIte, Ac, eq_self, *])
def Fi (l : List Ab) (jobs : List Job) (n : Nat) (task : Int) : Int := if 0 ≤ C5 jobs task n then (atI jobs (C5 jobs task n)).arrive + (atI l task).T else 0
theorem Ad0 (l : List Ab) (jobs : List Job) (n : Nat) (t : Int) : Fi l jobs (n + 1) t = if (atI jobs (n : Int)).task = t then (atI jobs (n : Int)).arrive + (atI l t).T else Fi l jobs n t := by
 have e : C5 jobs t (n + 1) = if (atI jobs (n : Int)).task = t then (n : Int) else C5 jobs t n := rfl
 unfold Fi
 rw [e]
 by_cases h : (atI jobs (n : Int)).task = t
 ·rw [if_pos h, if_pos h, if_pos (by omega)]
 ·rw [if_neg h, if_neg h]
theorem Ac8 (l : List Ab) (jobs : List Job) (i : Nat) : Dy l jobs i ↔ (0 ≤ (atI jobs (i : Int)).task ∧ (atI jobs (i : Int)).task < l.length) ∧ (0 ≤ (atI jobs (i : Int)).arrive ∧ (atI jobs (i : Int)).arrive ≤ 17592186044416) ∧ (0 ≤ C5 jobs (atI jobs (i : Int)).task i → Fi l jobs i (atI jobs (i : Int)).task ≤ (atI jobs (i : Int)).arrive) ∧ (atI jobs (i : Int)).arrive ≤ (atI jobs (i : Int)).release ∧ (atI jobs (i : Int)).release ≤ (atI jobs (i : Int)).arrive + (atI l (atI jobs (i : Int)).task).J ∧ 1 ≤ (atI jobs (i : Int)).work ∧ (atI jobs (i : Int)).work ≤ (atI l (atI jobs (i : Int)).task).C := by
 unfold Dy Fi
 dsimp only
 constructor
 ·rintro ⟨a, b, c, d⟩; exact ⟨a, b, fun h => by rw [if_pos h]; exact c h, d⟩
 ·rintro ⟨a, b, c, d⟩; exact ⟨a, b, fun h => by have := c h; rw [if_pos h] at this; exact this, d⟩
theorem Ape (hE : Ay E) {W : Nat → Prop} {h0 : Aa} {v0 v2 v8 v24 v25 v26 : Value} {bj bt : Nat} {y0 y1 y2 y3 y4 y6 vc : Value} {q w : Int} {cuts : List Int} (hc : Rd 1 H5 h0 vc cuts) (hbt : h0[bt]? = some (.cells [y0, y1, y2, y3, y4, .int .i64 q, y6] false)) (hw : 0 ≤ w) (hw2 : w ≤ 2147483647) {Q : Ex → Fr → Aa → Prop} {fr : Fr}
  (g0 : get fr 0 = v0) (g2 : get fr 2 = v2) (g7 : get fr 7 = .func (.func Bu) #[] #[]) (g8 : get fr 8 = v8) (g10 : get fr 10 = .pointer (some ⟨bj, 0, none⟩)) (g11 : get fr 11 = .pointer (some ⟨bt, 0, none⟩)) (g12 : get fr 12 = .int .i64 w) (g24 : get fr 24 = v24) (g25 : get fr 25 = v25) (g26 : get fr 26 = v26) (g80 : get fr 80 = vc) (g81 : get fr 81 = .int .i64 cuts.length) (g82 : get fr 82 = .int .i64 0)
  (hq1 : Dl q cuts w = true → ∀ fr', get fr' 0 = v0 → get fr' 2 = v2 → get fr' 7 = .func (.func Bu) #[] #[] → get fr' 8 = v8 → get fr' 10 = .pointer (some ⟨bj, 0, none⟩) → get fr' 11 = .pointer (some ⟨bt, 0, none⟩) → get fr' 24 = v24 → get fr' 25 = v25 → get fr' 26 = v26 → Q (.exit 2) fr' h0)
  (hq2 : Dl q cuts w = false → ∀ fr', get fr' 6 = .bool false → Q .ret fr' h0) :
  WO W (iterW (code (callW E) iterW 117 Jr) fr h0) Q := by
 have few := hc.few
 refine WO.loop (fun (c : Nat) fr h' => h' = h0 ∧ c ≤ cuts.length ∧ get fr 0 = v0 ∧ get fr 2 = v2 ∧ get fr 7 = .func (.func Bu) #[] #[] ∧ get fr 8 = v8 ∧ get fr 10 = .pointer (some ⟨bj, 0, none⟩) ∧ get fr 11 = .pointer (some ⟨bt, 0, none⟩) ∧ get fr 24 = v24 ∧ get fr 25 = v25 ∧ get fr 26 = v26 ∧ get fr 80 = vc ∧ get fr 81 = .int .i64 cuts.length ∧ get fr 82 = .int .i64 c ∧ ∃ left, get fr 12 = .int .i64 left ∧ 0 ≤ left ∧ left ≤ w ∧ Dl q cuts w = Dl q (cuts.drop c) left) (fun c => cuts.length - c) ?_ 0 ⟨rfl, Nat.zero_le _, g0, g2, g7, g8, g10, g11, g24, g25, g26, g80, g81, g82, w, g12, hw, Int.le_refl _, rfl⟩
 rintro c fr h' ⟨rfl, j, g0, g2, g7, g8, g10, g11, g24, g25, g26, g80, g81, g82, left, g12, n, o, a⟩
 unfold Jr
 rcases Nat.lt_or_ge c cuts.length with hlt | hge
 ·have hstep : Dl q (cuts.drop c) left = (decide (1 ≤ atI cuts (c : Int) ∧ atI cuts (c : Int) ≤ min q left) && Dl q (cuts.drop (c + 1)) (left - atI cuts (c : Int))) := by
   rw [List.drop_eq_getElem_cons hlt, Dl, Bw hlt]
   congr 1
   exact decide_eq_decide.2 (by omega)
  rw [hstep] at a
  have g := Np hE h' (atI cuts (c : Int)) 1 (min q left)
  have f := Hid.mk a
  clear a hstep
  have hq2 := Hid.mk hq2
  clear hq1
  by_cases d : 1 ≤ atI cuts (c : Int) ∧ atI cuts (c : Int) ≤ min q left
  ·rw [decide_eq_true d] at g
   have Hc := Hid.mk d
   have l : atI cuts (c : Int) ≤ left := by omega
   have m := d.1
   clear d
   (repeat' (first | (with_reducible refine A3 (fun _ => ?_) (fun _ => ?_) <;> try (exfalso; omega)) | simp -dsimp (disch := omega) only [↓EA, EB, Nat.reduceEqDiff, ↓reduceIte, reduceCtorEq, eq_self, *, hc.ixs, hc.ld0, H5]))
   exact Next.mk (c + 1) ⟨rfl, by omega, rfl, rfl, rfl, rfl, rfl, rfl, rfl, rfl, rfl, rfl, rfl, rfl, _, rfl, by omega, by omega, by rw [f.out, decide_eq_true Hc.out]; rfl⟩ (by omega)
  ·rw [decide_eq_false d] at g
   have Hc := Hid.mk d
   clear d
   (repeat' (first | (with_reducible refine A3 (fun _ => ?_) (fun _ => ?_) <;> try (exfalso; omega)) | simp -dsimp (disch := omega) only [↓EA, EB, Nat.reduceEqDiff, ↓reduceIte, reduceCtorEq, eq_self, *, hc.ixs, hc.ld0, H5]))
   exact hq2.out (by rw [f.out, decide_eq_false Hc.out]; rfl) _ rfl
 ·have e : cuts.drop c = [] := List.drop_of_length_le (by omega)
  rw [e] at a
  have hq1 := hq1 a
  clear a e hq2
  (repeat' (first | (with_reducible refine A3 (fun _ => ?_) (fun _ => ?_) <;> try (exfalso; omega)) | simp -dsimp (disch := omega) only [↓EA, EB, Nat.reduceEqDiff, ↓reduceIte, reduceCtorEq, eq_self, *]))
  exact hq1 _ rfl rfl rfl rfl rfl rfl rfl rfl rfl
theorem Ak4 (l : List Ab) (jobs : List Job) (n : Nat) : Ha l jobs (n + 1) = (Ha l jobs n && E6 l jobs n) := rfl
theorem Afy (hE : Ay E) {h : Aa} {v0 v1 : Value} {l : List Ab} {jobs : List Job} (hl : Rd 7 A0 h v0 l) (hs : ∀ t ∈ l, t.name.size < 1152921504606846976) (hj : RdJ h v1 jobs) :
  callW E (.func (.func Gj) #[] #[]) [v0, v1, .func (.func Cj) #[] #[]] h = some (.bool (legalB l jobs), h, []) := by
 refine Am hE.Ad3 rfl (by simp) ?_
 obtain ⟨f, rfl, a9, hc⟩ := hj.is
 have few := a9.few
 have as := hl.few
 have aa := Api hE hl hs
 simp only [Ak]
 by_cases y : (Dr l).2 = 0
 ·by_cases ai : f.length ≤ 4096
  ·obtain ⟨b9, b7, a0⟩ := Bn y
   have hd : legalB l (f.map (·.j)) = Ha l (f.map (·.j)) f.length := by simp [legalB, y, ai]
   rw [hd]
   rw [decide_eq_true y] at aa
   clear hd y
   (repeat' (first | (with_reducible refine A3 (fun _ => ?_) (fun _ => ?_) <;> try (exfalso; omega)) | simp -dsimp (disch := omega) only [↓EA, EB, Nat.reduceEqDiff, Nat.reduceAdd, ↓reduceIte, reduceCtorEq, eq_self, *, a9.len]))
   clear aa
   refine WO.loop (fun (n : Nat) fr h' => Pre h h' ∧ h.length < h'.length ∧ n ≤ f.length ∧ get fr 0 = v0 ∧ get fr 2 = .func (.func Cj) #[] #[] ∧ get fr 7 = .func (.func Bu) #[] #[] ∧ get fr 8 = .map (some h.length) ∧ get fr 24 = v1 ∧ get fr 25 = .int .i64 f.length ∧ get fr 26 = .int .i64 n ∧ Ha l (f.map (·.j)) n = true ∧ ∃ es, h'[h.length]? = some (.map es) ∧ Yb .i64 es ∧ ∀ t : Int, 0 ≤ t → t < l.length → (Tg .i64 es t).getD (.int .i64 0) = .int .i64 (Fi l (f.map (·.j)) n t)) (fun n => f.length - n) ?_ 0 ⟨Pre.app h _, by simp, Nat.zero_le _, rfl, rfl, rfl, rfl, rfl, rfl, rfl, rfl, [], by rw [Bm]; rfl, (fun e he => nomatch he), fun t _ _ => rfl⟩
   rintro n fr h' ⟨hp, a1, hn, g0, g2, g7, g8, b1, bc, b8, ab, es, m1, k1, c1⟩
   have m := hl.pre hp
   have g := a9.pre hp
   have a7 := Hid.mk ab
   clear ab
   unfold Nt
   rcases Nat.lt_or_ge n f.length with hlt | hge
   ·have af := Aj (l := f) (i := n) (by omega) (by omega)
    have r := (hc _ af).pre hp
    have e2 : atI (f.map (·.j)) (n : Int) = (atI f n).j := (Sn (fun p : NV Job => p.j) f n (by omega) (by omega)).symm
    have z := Ac8 l (f.map (·.j)) n
    have ae := fun t => Ad0 l (f.map (·.j)) n t
    rw [e2] at z
    simp only [e2] at ae
    have aj : 0 ≤ C5 (f.map (·.j)) (atI f n).j.task n → 0 ≤ Fi l (f.map (·.j)) n (atI f n).j.task ∧ Fi l (f.map (·.j)) n (atI f n).j.task ≤ 17592186044416 + 2147483647 := fun hk => by
     have h5 := O2 (f.map (·.j)) (atI f n).j.task n
     have h1 := So a7.out (C5 (f.map (·.j)) (atI f n).j.task n).toNat (by omega)
     simp only [E6, Bool.and_eq_true, decide_eq_true_eq] at h1
     have h2 := (Ac8 _ _ _).1 h1.1
     rw [show ((C5 (f.map (·.j)) (atI f n).j.task n).toNat : Int) = C5 (f.map (·.j)) (atI f n).j.task n by omega] at h2
     have h6 := Mv hk
     rw [h6] at h2
     have h7 := (a0 _ (Aj h2.1.1 h2.1.2)).1
     simp only [An] at h7
     unfold Fi
     rw [if_pos hk]
     omega
    have ac : ¬ 0 ≤ C5 (f.map (·.j)) (atI f n).j.task n → Fi l (f.map (·.j)) n (atI f n).j.task = 0 := fun hk => by unfold Fi; rw [if_neg hk]
    have b2 : 0 ≤ Fi l (f.map (·.j)) n (atI f n).j.task ∧ Fi l (f.map (·.j)) n (atI f n).j.task ≤ 17592186044416 + 2147483647 := by
     by_cases hk : 0 ≤ C5 (f.map (·.j)) (atI f n).j.task n
     ·exact aj hk
     ·rw [ac hk]; omega
    have a6 : Hid (Dy l (f.map (·.j)) n ↔ ((0 ≤ (atI f n).j.task ∧ (atI f n).j.task < l.length) ∧ (Fi l (f.map (·.j)) n (atI f n).j.task ≤ (atI f n).j.arrive ∧ (atI f n).j.arrive ≤ 17592186044416) ∧ ((atI f n).j.arrive ≤ (atI f n).j.release ∧ (atI f n).j.release ≤ (atI f n).j.arrive + (atI l (atI f n).j.task).J) ∧ 1 ≤ (atI f n).j.work ∧ (atI f n).j.work ≤ (atI l (atI f n).j.task).C)) := ⟨by
     rw [z]
     constructor
     ·rintro ⟨a, b, c, d⟩
      refine ⟨a, ⟨?_, b.2⟩, ⟨d.1, d.2.1⟩, d.2.2⟩
      by_cases hk : 0 ≤ C5 (f.map (·.j)) (atI f n).j.task n
      ·exact c hk
      ·rw [ac hk]; exact b.1
     ·rintro ⟨a, b, c, d⟩
      exact ⟨a, ⟨by omega, b.2⟩, fun _ => b.1, c.1, c.2, d⟩⟩
    have o : Hid (E6 l (f.map (·.j)) n = (decide (Dy l (f.map (·.j)) n) && Dl (atI l (atI f n).j.task).Q (atI f n).j.cuts (atI f n).j.work)) := ⟨by simp only [E6, e2]⟩
    have u : Hid (E6 l (f.map (·.j)) n = false → Ha l (f.map (·.j)) f.length = false) := ⟨fun h => Aq4 hlt h⟩
    have ak := Hid.mk ae
    have hL := Ue k1 (.int .i64 0) (atI f n).j.task
    clear ae z aj ac e2 hc hs
    generalize hS : Fi l (f.map (·.j)) n (atI f n).j.task = S at *
    by_cases a3 : 0 ≤ (atI f n).j.task ∧ (atI f n).j.task < l.length
    ·have hC := c1 _ a3.1 a3.2
     rw [hS] at hC
     have a8 := (a0 _ (Aj a3.1 a3.2)).1
     simp only [An] at a8
     have b3 := a8.2.2.2.1
     have ax := a8.2.2.1
     have av := a8.2.2.2.2.2.2.1
     clear a8 a0
     rw [hC] at hL
     have w1 := fun x => Np hE (h' ++ x) (atI f n).j.arrive S 17592186044416
     have w2 := fun x => Np hE (h' ++ x) (atI f n).j.release (atI f n).j.arrive ((atI f n).j.arrive + (atI l (atI f n).j.task).J)
     have w3 := fun x => Np hE (h' ++ x) (atI f n).j.work 1 (atI l (atI f n).j.task).C
     by_cases a4 : S ≤ (atI f n).j.arrive ∧ (atI f n).j.arrive ≤ 17592186044416
     ·rw [decide_eq_true a4] at w1
      by_cases a5 : (atI f n).j.arrive ≤ (atI f n).j.release ∧ (atI f n).j.release ≤ (atI f n).j.arrive + (atI l (atI f n).j.task).J
      ·rw [decide_eq_true a5] at w2
       by_cases a2 : 1 ≤ (atI f n).j.work ∧ (atI f n).j.work ≤ (atI l (atI f n).j.task).C
       ·rw [decide_eq_true a2] at w3
        have ap := Hid.mk (a6.out.2 ⟨a3, a4, a5, a2⟩)
        have ad : ∀ x, (h' ++ x)[h.length]? = some (.map es) := fun x => by rw [GL a1]; exact m1
        (repeat' (first | (with_reducible refine A2 (fun _ => ?_) (fun _ => ?_) <;> try (exfalso; omega)) | (with_reducible refine A3 (fun _ => ?_) (fun _ => ?_) <;> try (exfalso; omega)) | simp -dsimp (disch := omega) only [↓EA, EB, Nat.reduceEqDiff, Nat.reduceAdd, ↓reduceIte, reduceCtorEq, Ac, eq_self, *, m.len, m.ixs, m.ldxa, g.ixs, g.lda, Ft, hdJ, A0, r.len, r.one, hp.le, hp.le_add]))
        refine Ape hE (r.app _) (bj := h'.length) (bt := h'.length + 1) (by rw [Ke]; rfl) (by omega) (by omega) rfl rfl rfl rfl rfl rfl rfl rfl rfl rfl rfl rfl rfl (fun s ar q0 q2 q7 q8 bb aw b5 b0 az => ?_) (fun s ar q6 => ?_)
        ·have ag : Ha l (f.map (·.j)) (n + 1) = true := by
          rw [Ak4, a7.out, Bool.true_and, o.out, s, decide_eq_true ap.out]; rfl
         have an := Hid.mk ag
         obtain ⟨al, p1, p2, p3⟩ := Yy (.int .i64 ((atI f n).j.arrive + (atI l (atI f n).j.task).T)) k1 (atI f n).j.task
         have M1 := Akf p1
         have P3 := Hid.mk p3
         have am := Hid.mk c1
         have ah := r.one
         have bd := r.cv
         have au := fun x => Aug hE (h' ++ x) (j := .agg #[.int .i64 (atI f n).j.task, .int .i64 (atI f n).j.arrive, .int .i64 (atI f n).j.release, .int .i64 (atI f n).j.work, (atI f n).v]) (by simp [Us, Aeb, ah]) (.int .i64 ((atI f n).j.arrive - S))
         have ba := hp.le
         clear ag s p1 p3 c1 w1 w2 w3
         (repeat' simp -dsimp (disch := omega) only [↓EA, EB, Nat.reduceEqDiff, Nat.reduceAdd, ↓reduceIte, reduceCtorEq, eq_self, *])
         refine Next.mk (n + 1) ⟨(hp.app' _).set (Nat.le_refl _) _, by simp; omega, by omega, rfl, rfl, rfl, rfl, rfl, rfl, rfl, an.out, al, Cb (by simp; omega), p2, fun t aq ao => ?_⟩ (by omega)
         rw [P3.out, ak.out]
         by_cases ht : (atI f n).j.task = t
         ·rw [if_pos ht.symm, if_pos ht, ht]; rfl
         ·rw [if_neg (fun e => ht e.symm), if_neg ht]; exact am.out t aq ao
        ·have hf := u.out (by rw [o.out, s, Bool.and_false])
         rw [hf]
         clear s w1 w2 w3
         (repeat' simp -dsimp (disch := omega) only [EB, eq_self, *])
       ·rw [decide_eq_false a2] at w3
        have hf := u.out (by rw [o.out, decide_eq_false (fun e => a2 (a6.out.1 e).2.2.2)]; rfl)
        rw [hf]
        have ad : ∀ x, (h' ++ x)[h.length]? = some (.map es) := fun x => by rw [GL a1]; exact m1
        have b4 := Hid.mk a2
        clear hf a2
        (repeat' (first | (with_reducible refine A2 (fun _ => ?_) (fun _ => ?_) <;> try (exfalso; omega)) | (with_reducible refine A3 (fun _ => ?_) (fun _ => ?_) <;> try (exfalso; omega)) | simp -dsimp (disch := omega) only [↓EA, EB, Nat.reduceEqDiff, Nat.reduceAdd, ↓reduceIte, reduceCtorEq, Ac, eq_self, *, m.len, m.ixs, m.ldxa, g.ixs, g.lda, Ft, hdJ, A0, r.one, hp.le, hp.le_add]))
      ·rw [decide_eq_false a5] at w2
       have hf := u.out (by rw [o.out, decide_eq_false (fun e => a5 (a6.out.1 e).2.2.1)]; rfl)
       rw [hf]
       have ad : ∀ x, (h' ++ x)[h.length]? = some (.map es) := fun x => by rw [GL a1]; exact m1
       have ay := Hid.mk a5
       clear hf a5 w3
       (repeat' (first | (with_reducible refine A2 (fun _ => ?_) (fun _ => ?_) <;> try (exfalso; omega)) | (with_reducible refine A3 (fun _ => ?_) (fun _ => ?_) <;> try (exfalso; omega)) | simp -dsimp (disch := omega) only [↓EA, EB, Nat.reduceEqDiff, Nat.reduceAdd, ↓reduceIte, reduceCtorEq, Ac, eq_self, *, m.len, m.ixs, m.ldxa, g.ixs, g.lda, Ft, hdJ, A0, r.one, hp.le, hp.le_add]))
     ·rw [decide_eq_false a4] at w1
      have hf := u.out (by rw [o.out, decide_eq_false (fun e => a4 (a6.out.1 e).2.1)]; rfl)
      rw [hf]
      have ad : ∀ x, (h' ++ x)[h.length]? = some (.map es) := fun x => by rw [GL a1]; exact m1
      have b6 := Hid.mk a4
      clear hf a4 w2 w3
      (repeat' (first | (with_reducible refine A2 (fun _ => ?_) (fun _ => ?_) <;> try (exfalso; omega)) | (with_reducible refine A3 (fun _ => ?_) (fun _ => ?_) <;> try (exfalso; omega)) | simp -dsimp (disch := omega) only [↓EA, EB, Nat.reduceEqDiff, Nat.reduceAdd, ↓reduceIte, reduceCtorEq, Ac, eq_self, *, m.len, m.ixs, m.ldxa, g.ixs, g.lda, Ft, hdJ, A0, r.one, hp.le, hp.le_add]))
    ·have hf := u.out (by rw [o.out, decide_eq_false (fun e => a3 (a6.out.1 e).1)]; rfl)
     rw [hf]
     clear hf c1 a0
     (repeat' (first | (with_reducible refine A2 (fun _ => ?_) (fun _ => ?_) <;> try (exfalso; omega)) | (with_reducible refine A3 (fun _ => ?_) (fun _ => ?_) <;> try (exfalso; omega)) | simp -dsimp (disch := omega) only [↓EA, EB, Nat.reduceEqDiff, Nat.reduceAdd, ↓reduceIte, reduceCtorEq, Ac, eq_self, *, m.len, g.ixs, g.lda, Ft, hdJ, r.one, hp.le]))
   ·have e : n = f.length := by omega
    subst e
    rw [a7.out]
    (repeat' (first | (with_reducible refine A3 (fun _ => ?_) (fun _ => ?_) <;> try (exfalso; omega)) | simp -dsimp (disch := omega) only [↓EA, EB, Nat.reduceEqDiff, ↓reduceIte, reduceCtorEq, eq_self, *]))
  ·have hd : legalB l (f.map (·.j)) = false := by simp [legalB, ai]
   rw [hd]
   rw [decide_eq_true y] at aa
   (repeat' (first | (with_reducible refine A3 (fun _ => ?_) (fun _ => ?_) <;> try (exfalso; omega)) | simp -dsimp (disch := omega) only [↓EA, EB, Nat.reduceEqDiff, Nat.reduceAdd, ↓reduceIte, reduceCtorEq, eq_self, *, a9.len]))
 ·have hd : legalB l (f.map (·.j)) = false := by simp [legalB, y]
  rw [hd]
  rw [decide_eq_false y] at aa
  (repeat' simp -dsimp (disch := omega) only [↓EA, EB, Nat.reduceEqDiff, Nat.reduceAdd, ↓reduceIte, reduceCtorEq, eq_self, *])
theorem A01 (hE : Ay E) {h : Aa} {v0 v1 : Value} {l : List Ab} {jobs : List Job} (hl : Rd 7 A0 h v0 l) (hs : ∀ t ∈ l, t.name.size < 1152921504606846976) (hj : RdJ h v1 jobs) :
  callW E (.func (.func Gk) #[] #[]) [v0, v1] h = some (.bool (legalB l jobs), h, []) := by
 have q := Afy hE hl hs hj
 refine Am hE.Ad4 rfl (by simp) ?_
 simp only [Ak]
 generalize legalB l jobs = b at *
 (repeat' simp -dsimp (disch := omega) only [↓EA, EB, Nat.reduceEqDiff, ↓reduceIte, reduceCtorEq, eq_self, *])
end Go.L.Try
