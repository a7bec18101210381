/- WORDS, AS THE PROGRAM SCANS THEM. -/
import Derived.Test.YtifnlcajancfdaaPa
import Derived.Test.YtifnlcajancfdaaPb
set_option linter.unusedVariables false
set_option linter.unusedSimpArgs false
set_option maxRecDepth 100000
set_option maxHeartbeats 1000000
namespace Go.L.Try
open Go Go.L
variable {E : Env}
theorem Axh {q : EqK} {c : UInt8} : binOp .or q (.int .u8 (c.toNat : Int)) (.int .u8 32) = some (.int .u8 ((c.toNat ||| 32 : Nat) : Int)) := by
 have a : c.toNat < 256 := c.toNat_lt
 have f : c.toNat ||| 32 < 256 := Nat.or_lt_two_pow (n := 8) a (by decide)
 have g : BitVec.ofInt 8 (c.toNat : Int) = BitVec.ofNat 8 c.toNat := by simp
 have e : ((BitVec.ofInt 8 (c.toNat : Int)) ||| (BitVec.ofInt 8 32)).toNat = c.toNat ||| 32 := by
  have j : BitVec.ofInt 8 32 = BitVec.ofNat 8 32 := by decide
  rw [g, j, BitVec.toNat_or, BitVec.toNat_ofNat, BitVec.toNat_ofNat, Nat.mod_eq_of_lt a]
 have d : binOp .or q (.int .u8 (c.toNat : Int)) (.int .u8 32) = some (.int .u8 (IntKind.u8.wrap (((BitVec.ofInt 8 (c.toNat : Int)) ||| (BitVec.ofInt 8 32)).toNat : Nat))) := by simp only [binOp, Ib, if_true]; rfl
 rw [d, e, Ada (by omega) (by omega)]
theorem Ag4 : ∀ n : Nat, n < 256 → (decide ((97 ≤ n ||| 32 ∧ n ||| 32 ≤ 122) ∨ n = 95) == decide ((97 ≤ n ∧ n ≤ 122) ∨ (65 ≤ n ∧ n ≤ 90) ∨ n = 95)) = true := by
 have h : (List.range 256).all (fun n => decide ((97 ≤ n ||| 32 ∧ n ||| 32 ≤ 122) ∨ n = 95) == decide ((97 ≤ n ∧ n ≤ 122) ∨ (65 ≤ n ∧ n ≤ 90) ∨ n = 95)) = true := by decide +kernel
 intro n a
 exact List.all_eq_true.1 h n (List.mem_range.2 a)
theorem Am2 (hE : Ap E) (h : Aa) (c : UInt8) : callW E (.func (.func Fq) #[] #[]) [.int .u8 c.toNat] h = some (.bool (Ff c), h, []) := by
 have d : c.toNat < 256 := c.toNat_lt
 have f := eq_of_beq (Ag4 c.toNat d)
 have e : Ff c = decide ((97 ≤ c.toNat ||| 32 ∧ c.toNat ||| 32 ≤ 122) ∨ c.toNat = 95) := by unfold Ff; exact f.symm
 rw [e]
 clear f e
 refine Ai hE.Afd rfl (by simp) ?_
 simp only [Ah]
 generalize hx : c.toNat ||| 32 = x
 have a := @Axh .other c
 rw [hx] at a
 clear hx
 (repeat' (first | (with_reducible refine A1 (fun _ => ?_) (fun _ => ?_) <;> try (exfalso; omega)) | (with_reducible refine A2 (fun _ => ?_) (fun _ => ?_) <;> try (exfalso; omega)) | simp -dsimp (disch := omega) only [↓EA, EB, Nat.reduceEqDiff, ↓reduceIte, reduceCtorEq, eq_self, *]))
 all_goals (congr 1; first | (rw [decide_eq_decide]; omega) | (symm; rw [decide_eq_true_eq]; omega) | (symm; rw [decide_eq_false_iff_not]; omega))
theorem Az0 (hE : Ap E) (h : Aa) (c : UInt8) : callW E (.func (.func I5) #[] #[]) [.int .u8 c.toNat] h = some (.bool (Cp c), h, []) := by
 refine Ai hE.Ai2 rfl (by simp) ?_
 simp only [Ah]
 (repeat' (first | (with_reducible refine A1 (fun _ => ?_) (fun _ => ?_) <;> try (exfalso; omega)) | simp -dsimp (disch := omega) only [↓EA, EB, Nat.reduceEqDiff, ↓reduceIte, reduceCtorEq, eq_self, *]))
 all_goals (unfold Cp; congr 1; first | (rw [decide_eq_decide]; omega) | (symm; rw [decide_eq_true_eq]; omega) | (symm; rw [decide_eq_false_iff_not]; omega))
theorem A08 (hE : Ap E) (h : Aa) (c : UInt8) : callW E (.func (.func Ga) #[] #[]) [.int .u8 c.toNat] h = some (.bool (Cx c), h, []) := by
 have a := Am2 hE h c
 have d := Az0 hE h c
 refine Ai hE.Ao2 rfl (by simp) ?_
 simp only [Ah]
 unfold Cx
 cases hl : Ff c <;> cases hd : Cp c
 all_goals
  rw [hl] at a
  rw [hd] at d
  (repeat' (first | (with_reducible refine A3 (fun _ => ?_) (fun _ => ?_) <;> try (exfalso; omega)) | simp -dsimp (disch := omega) only [↓EA, EB, Nat.reduceEqDiff, ↓reduceIte, reduceCtorEq, eq_self, *]))
 all_goals first | rfl | (congr 1; simp; done) | (congr 1; simp; omega)
theorem A04 (hE : Ap E) (h : Aa) {s : ByteArray} (hs : s.size < 1152921504606846976) :
  callW E (.func (.func Kk) #[] #[]) [.string s, .func (.func Ga) #[] #[]] h = some (.int .i64 (runEnd Cx s 0 : Nat), h, []) := by
 refine Ai hE.Ao1 rfl (by simp) ?_
 simp only [Ah]
 (repeat' simp -dsimp (disch := omega) only [↓EA, EB, Nat.reduceEqDiff, ↓reduceIte, reduceCtorEq, eq_self, *])
 refine WO.loop (fun (n : Nat) fr h' => h' = h ∧ n ≤ s.size ∧ runEnd Cx s 0 = runEnd Cx s n ∧ get fr 0 = .string s ∧ get fr 1 = .func (.func Ga) #[] #[] ∧ get fr 5 = .int .i64 n) (fun n => s.size - n) ?_ 0 ⟨rfl, Nat.zero_le _, rfl, rfl, rfl, rfl⟩
 rintro n fr h' ⟨rfl, g, c, f, j, l⟩
 have Hr := Hid.mk c
 clear c
 unfold Rt
 rcases Nat.lt_or_ge n s.size with hlt | hge
 ·have q := A08 hE h' (Bg s (n : Int))
  have H1 := Hid.mk (fun a => Q4 (p := Cx) hlt a)
  have H2 := Hid.mk (fun a => Q3 (p := Cx) hlt a)
  have d : ∀ k : IntKind, Z5 (.string s) (.int k n) = some (.int .u8 ((Bg s n).toNat : Int)) := fun k => Wf (by omega) (by omega)
  cases hg : Cx (Bg s (n : Int))
  ·rw [hg] at q
   have e := H2.out hg
   (repeat' (first | (with_reducible refine A3 (fun _ => ?_) (fun _ => ?_) <;> try (exfalso; omega)) | simp -dsimp (disch := omega) only [↓EA, EB, Nat.reduceEqDiff, ↓reduceIte, reduceCtorEq, eq_self, *]))
   rw [Hr.out, e]
  ·rw [hg] at q
   have Hs := Hid.mk (H1.out hg)
   (repeat' (first | (with_reducible refine A3 (fun _ => ?_) (fun _ => ?_) <;> try (exfalso; omega)) | simp -dsimp (disch := omega) only [↓EA, EB, Nat.reduceEqDiff, ↓reduceIte, reduceCtorEq, eq_self, *]))
   exact Next.mk (n + 1) ⟨rfl, by omega, by rw [Hr.out, Hs.out], rfl, rfl, rfl⟩ (by omega)
 ·have e := Hid.mk (Tj (p := Cx) hge)
  (repeat' (first | (with_reducible refine A3 (fun _ => ?_) (fun _ => ?_) <;> try (exfalso; omega)) | simp -dsimp (disch := omega) only [↓EA, EB, Nat.reduceEqDiff, ↓reduceIte, reduceCtorEq, eq_self, *]))
  rw [Hr.out, e.out]
theorem Aqk {s : ByteArray} (h0 : 0 < s.size) : P0 s = (Ff (Bg s 0) && decide ((runEnd Cx s 0 : Nat) = s.size)) := by
 have a := Ii s
 cases hb : bs s with
 | nil => rw [hb] at a; simp at a; omega
 | cons c r =>
  have g : Bg s 0 = c := by unfold Bg; rw [hb]; rfl
  have e : (runEnd Cx s 0 : Nat) = ((c :: r).takeWhile Cx).length := by unfold runEnd; rw [List.drop_zero, hb, Nat.zero_add]
  have f : s.size = (c :: r).length := by rw [← hb, Ii]
  rw [g, e, f]
  unfold P0
  rw [hb]
  show (Ff c && r.all Cx) = _
  cases hlc : Ff c
  ·rfl
  ·have d : Cx c = true := by unfold Cx; rw [hlc]; rfl
   have : decide (((c :: r).takeWhile Cx).length = (c :: r).length) = (c :: r).all Cx := by
    rw [← Bool.coe_iff_coe, decide_eq_true_eq]; exact Ng
   rw [this, List.all_cons, d]; rfl
theorem A0m (hE : Ap E) (h : Aa) {s : ByteArray} (hs : s.size < 1152921504606846976) :
  callW E (.func (.func Kl) #[] #[]) [.string s] h = some (.bool (P0 s), h, []) := by
 refine Ai hE.Ao3 rfl (by simp) ?_
 simp only [Ah]
 rcases Nat.eq_zero_or_pos s.size with h0 | h0
 ·have e : bs s = [] := List.length_eq_zero_iff.1 (by rw [Ii]; exact h0)
  have c : bs ⟨#[]⟩ = [] := rfl
  (repeat' simp -dsimp (disch := omega) only [↓EA, EB, Nat.reduceEqDiff, ↓reduceIte, reduceCtorEq, eq_self, *, Ac2])
  all_goals simp [P0, e]
 ·have e : bs s ≠ [] := fun e => by rw [← Ii, e] at h0; simp at h0
  have c : bs ⟨#[]⟩ = [] := rfl
  have d : ∀ k : IntKind, Z5 (.string s) (.int k 0) = some (.int .u8 ((Bg s 0).toNat : Int)) := fun k => Wf (by omega) (by omega)
  have a := Am2 hE h (Bg s 0)
  have f := A04 hE h hs
  rw [Aqk h0]
  cases hl : Ff (Bg s 0)
  ·rw [hl] at a
   (repeat' simp -dsimp (disch := omega) only [↓EA, EB, Nat.reduceEqDiff, ↓reduceIte, reduceCtorEq, eq_self, *, Ac2])
   rfl
  ·rw [hl] at a
   generalize runEnd Cx s 0 = R at *
   (repeat' simp -dsimp (disch := omega) only [↓EA, EB, Nat.reduceEqDiff, ↓reduceIte, reduceCtorEq, eq_self, *, Ac2])
   congr 1
   rw [decide_eq_decide]; omega
end Go.L.Try
set_option maxHeartbeats 2000000
namespace Go.L.Try
open Go Go.L
variable {E : Env}
theorem Ac0 {g : FuncId} {c : FnC} (hf : E g = .text c) (a b : Array Value) (args : List Value) (h : Aa) : callW E (.func (.func g) a b) args h = callW E (.func (.func g) #[] #[]) (a.toList ++ args ++ b.toList) h := by
 rw [Ph hf, Pg hf]
theorem Avj (hE : Ap E) (h : Aa) (n : Int) : callW E (.func (.func Bc) #[] #[]) [.int .i64 n] h = some (.bool (decide (0 ≤ n ∧ n ≤ 2147483647)), h, []) := by
 refine Ai hE.Aba rfl (by simp) ?_
 simp only [Ah]
 (repeat' (first | (with_reducible refine A1 (fun _ => ?_) (fun _ => ?_) <;> try (exfalso; omega)) | simp -dsimp (disch := omega) only [↓EA, EB, Nat.reduceEqDiff, ↓reduceIte, reduceCtorEq, eq_self, *]))
 all_goals first | rfl | (congr 1; first | (rw [decide_eq_decide]; omega) | (symm; rw [decide_eq_true_eq]; omega) | (symm; rw [decide_eq_false_iff_not]; omega))
theorem Awd (hE : Ap E) {h : Aa} {t : Af} (hs : t.name.size < 1152921504606846976) {b c : Nat} (hb : h[b]? = some (.cells (Az t) false)) (hc : h[c]? = some (.cells [.func (.func Bc) #[] #[]] false)) :
  callW E (.func (.func Fk) #[] #[.pointer (some ⟨b, 0, none⟩), .pointer (some ⟨c, 0, none⟩)]) [] h = some (.bool (decide (Bh t)), h, []) := by
 have q := A0m hE h hs
 have d := Avj hE h
 unfold Az at hb
 rw [Ac0 hE.S7]
 have e : decide (Bh t) = (P0 t.name && decide (t.name.size ≤ 32 ∧ (1 ≤ t.C ∧ t.C ≤ 2147483647) ∧ (1 ≤ t.T ∧ t.T ≤ 2147483647) ∧ (1 ≤ t.D ∧ t.D ≤ 2147483647) ∧ (1 ≤ t.Q ∧ t.Q ≤ 2147483647) ∧ (0 ≤ t.J ∧ t.J ≤ 2147483647) ∧ 1 ≤ t.P ∧ t.P ≤ 1048576)) := by
  rw [Bool.eq_iff_iff, Bool.and_eq_true, decide_eq_true_iff, decide_eq_true_iff]; exact Iff.rfl
 rw [e]
 clear e
 generalize a : decide (t.name.size ≤ 32 ∧ (1 ≤ t.C ∧ t.C ≤ 2147483647) ∧ (1 ≤ t.T ∧ t.T ≤ 2147483647) ∧ (1 ≤ t.D ∧ t.D ≤ 2147483647) ∧ (1 ≤ t.Q ∧ t.Q ≤ 2147483647) ∧ (0 ≤ t.J ∧ t.J ≤ 2147483647) ∧ 1 ≤ t.P ∧ t.P ≤ 1048576) = X
 replace a := Hid.mk a
 refine Ai hE.S7 rfl (by simp) ?_
 simp only [List.nil_append, List.append_nil, Ah]
 cases hw : P0 t.name
 ·rw [hw] at q
  (repeat' simp -dsimp (disch := omega) only [↓EA, EB, Nat.reduceEqDiff, ↓reduceIte, reduceCtorEq, eq_self, *])
  rfl
 ·rw [hw] at q
  (repeat' (first | (with_reducible refine A1 (fun _ => ?_) (fun _ => ?_) <;> try (exfalso; omega)) | simp -dsimp (disch := omega) only [↓EA, EB, Nat.reduceEqDiff, ↓reduceIte, reduceCtorEq, eq_self, *]))
  all_goals
   congr 1
   rw [← a.out]
   first | exact decide_eq_decide.2 (by omega) | exact (decide_eq_false (by omega)).symm | exact (decide_eq_true (by omega)).symm
theorem A1t (hE : Ap E) {h : Aa} {t : Af} (ht : Bh t) {b : Nat} (hb : h[b]? = some (.cells (Az t) false)) :
  callW E (.func (.func Fj) #[] #[.pointer (some ⟨b, 0, none⟩)]) [] h = some (.bool (decide (Jc t)), h, []) := by
 unfold Az at hb
 rw [Ac0 hE.S6]
 simp only [Bh] at ht
 have a := ht.2.2.1
 have c := ht.2.2.2.2.2.2.1
 clear ht
 refine Ai hE.S6 rfl (by simp) ?_
 simp only [List.nil_append, List.append_nil, Ah]
 (repeat' (first | (with_reducible refine A1 (fun _ => ?_) (fun _ => ?_) <;> try (exfalso; omega)) | simp -dsimp (disch := omega) only [↓EA, EB, Nat.reduceEqDiff, ↓reduceIte, reduceCtorEq, eq_self, *]))
 all_goals
  congr 1
  first | exact decide_eq_decide.2 (by unfold Jc; omega) | exact (decide_eq_false (by unfold Jc; omega)).symm | exact (decide_eq_true (by unfold Jc; omega)).symm
def Aea (b0 b1 : Bool) (e0 e1 : Int) : Int := if b0 then if b1 then 0 else e1 else e0
theorem Azv (hE : Ap E) {h : Aa} {f0 f1 : Value} {b0 b1 : Bool} {e0 e1 : Int} (h0 : Bf f0 = [f0]) (h1 : Bf f1 = [f1]) (o0 : Ae f0 = true) (o1 : Ae f1 = true) (q0 : ∀ x, callW E f0 [] (h ++ x) = some (.bool b0, h ++ x, [])) (q1 : b0 = true → ∀ x, callW E f1 [] (h ++ x) = some (.bool b1, h ++ x, [])) :
  callW E (.func (.func I2) #[] #[]) [.agg #[f0, .int .i64 e0, f1, .int .i64 e1]] h = some (.int .i64 (Aea b0 b1 e0 e1), h, []) := by
 refine Ai hE.Aiq rfl (by simp) ?_
 simp only [Ah]
 (repeat' simp -dsimp (disch := omega) only [↓EA, EB, Nat.reduceEqDiff, Nat.reduceAdd, ↓reduceIte, Ab, eq_self, *])
 replace q1 := Hid.mk q1
 have a : Aea b0 b1 e0 e1 = if b0 then if b1 then 0 else e1 else e0 := rfl
 replace a := Hid.mk a
 refine WO.loop (fun (n : Nat) fr h' => (∃ x, h' = h ++ x) ∧ n ≤ 2 ∧ (1 ≤ n → b0 = true) ∧ (2 ≤ n → b1 = true) ∧ get fr 3 = .int .i64 0 ∧ get fr 6 = .agg #[f0, .int .i64 e0, f1, .int .i64 e1] ∧ get fr 7 = .int .i64 n) (fun n => 2 - n) ?_ 0 ⟨⟨_, rfl⟩, by omega, fun h => by omega, fun h => by omega, rfl, rfl, rfl⟩
 rintro n fr h' ⟨⟨x, rfl⟩, m, c, e, p, o, d⟩
 unfold P7
 have l : Atu 2 2 (some 2) (.agg #[f0, .int .i64 e0, f1, .int .i64 e1]) (.int .i64 0) = some (.agg #[f0, .int .i64 e0]) := rfl
 have j : Atu 2 2 (some 2) (.agg #[f0, .int .i64 e0, f1, .int .i64 e1]) (.int .i64 1) = some (.agg #[f1, .int .i64 e1]) := rfl
 rcases n with _ | _ | n
 ·replace d : get fr 7 = .int .i64 0 := d
  clear c e
  cases b0
  ·(repeat' (first | (with_reducible refine A3 (fun _ => ?_) (fun _ => ?_) <;> try (exfalso; omega)) | simp -dsimp (disch := omega) only [↓EA, EB, Nat.reduceEqDiff, Nat.reduceAdd, ↓reduceIte, reduceCtorEq, Ab, eq_self, *]))
   rw [a.out]; rfl
  ·(repeat' (first | (with_reducible refine A3 (fun _ => ?_) (fun _ => ?_) <;> try (exfalso; omega)) | simp -dsimp (disch := omega) only [↓EA, EB, Nat.reduceEqDiff, Nat.reduceAdd, ↓reduceIte, Ab, eq_self, *]))
   exact Next.mk 1 ⟨⟨_, rfl⟩, by omega, fun _ => rfl, fun h => by omega, rfl, rfl, rfl⟩ (by omega)
 ·replace d : get fr 7 = .int .i64 1 := d
  have f := c (by omega)
  subst f
  clear c e
  have r := q1.out rfl
  cases b1
  ·(repeat' (first | (with_reducible refine A3 (fun _ => ?_) (fun _ => ?_) <;> try (exfalso; omega)) | simp -dsimp (disch := omega) only [↓EA, EB, Nat.reduceEqDiff, Nat.reduceAdd, ↓reduceIte, reduceCtorEq, Ab, eq_self, *]))
   rw [a.out]; rfl
  ·(repeat' (first | (with_reducible refine A3 (fun _ => ?_) (fun _ => ?_) <;> try (exfalso; omega)) | simp -dsimp (disch := omega) only [↓EA, EB, Nat.reduceEqDiff, Nat.reduceAdd, ↓reduceIte, Ab, eq_self, *]))
   exact Next.mk 2 ⟨⟨_, rfl⟩, by omega, fun _ => rfl, fun _ => rfl, rfl, rfl, rfl⟩ (by omega)
 ·have f := c (by omega)
  have g := e (by omega)
  obtain rfl : n = 0 := by omega
  subst f g
  clear c e
  (repeat' (first | (with_reducible refine A3 (fun _ => ?_) (fun _ => ?_) <;> try (exfalso; omega)) | simp -dsimp (disch := omega) only [↓EA, EB, Nat.reduceEqDiff, Nat.reduceAdd, ↓reduceIte, eq_self, *]))
  rw [a.out]; rfl
theorem Az5 (hE : Ap E) (h : Aa) (t : Af) (hs : t.name.size < 1152921504606846976) :
  callW E (.func (.func I3) #[] #[]) [.agg (Az t).toArray] h = some (.int .i64 (G5 t), h, []) := by
 have c := fun H m j p r o l => @Azv E hE H m j p r o l
 have e : G5 t = Aea (decide (Bh t)) (decide (Jc t)) 11 12 := by
  unfold G5 Aea
  by_cases g : Bh t <;> by_cases h2 : Jc t <;> simp [g, h2]
 rw [e]
 clear e
 refine Ai hE.Air rfl (by simp) ?_
 simp only [Ah]
 unfold Az
 have Hg := Hid.mk c
 clear c
 (repeat' simp -dsimp (disch := omega) only [↓EA, EB, Nat.reduceEqDiff, Nat.reduceAdd, Nat.reduceLeDiff, ↓reduceIte, Ab, eq_self, *])
 have d : (h ++ [LObj.cells [.string t.name, .int .i64 t.C, .int .i64 t.T, .int .i64 t.D, .int .i64 t.J, .int .i64 t.Q, .int .i64 t.P] false, LObj.cells [.func (.func Bc) #[] #[]] false]) = h ++ [LObj.cells (Az t) false, LObj.cells [.func (.func Bc) #[] #[]] false] := rfl
 have a : ∀ x, ((h ++ [LObj.cells (Az t) false, LObj.cells [.func (.func Bc) #[] #[]] false]) ++ x)[h.length]? = some (.cells (Az t) false) := fun x => by rw [List.append_assoc, Bk]; rfl
 have f : ∀ x, ((h ++ [LObj.cells (Az t) false, LObj.cells [.func (.func Bc) #[] #[]] false]) ++ x)[h.length + 1]? = some (.cells [.func (.func Bc) #[] #[]] false) := fun x => by rw [List.append_assoc, Og]; rfl
 have s := Hg.out (h ++ [LObj.cells (Az t) false, LObj.cells [.func (.func Bc) #[] #[]] false]) _ _ _ _ 11 12 rfl rfl rfl rfl (fun x => Awd hE hs (a x) (f x)) (fun n x => A1t hE (of_decide_eq_true n) (a x))
 rw [d]
 clear d a f
 (repeat' simp -dsimp (disch := omega) only [↓EA, EB, ↓reduceIte, eq_self, *])
end Go.L.Try
namespace Go.L.Try
open Go Go.L
variable {E : Env}
theorem Aaz (s t : ByteArray) : (s == t) = decide (s = t) := by
 cases s with | mk x =>
 cases t with | mk y =>
 have e : ((⟨x⟩ : ByteArray) == ⟨y⟩) = (x == y) := rfl
 rw [e]; by_cases h : x = y <;> simp [h]
def Aii (es : List (Value × Value)) : Prop := ∀ e ∈ es, ∃ s, e.1 = .string s
def Xw : List (Value × Value) → ByteArray → Option Value
 | [], _ => none
 | (.string a, v) :: r, s => if s = a then some v else Xw r s
 | _ :: r, s => Xw r s
theorem Ahm : ∀ {es : List (Value × Value)}, Aii es → ∀ s, find .str (.string s) es = some (Xw es s)
 | [], _, _ => rfl
 | (x, v) :: r, hk, s => by
  obtain ⟨a, rfl⟩ := hk (x, v) (by simp)
  have c := Ahm (es := r) (fun e d => hk e (by simp [d])) s
  simp only [find, B0, Gy, Option.bind_some, Xw]
  by_cases h : s = a
  ·simp [h, Aaz]
  ·have : (s == a) = false := by rw [Aaz]; exact decide_eq_false h
   simp [h, this, c]
theorem Ak4 (v : Value) : ∀ {es : List (Value × Value)}, Aii es → ∀ s, ∃ es', Nj .str (.string s) v es = some es' ∧ Aii es' ∧ ∀ j, Xw es' j = if j = s then some v else Xw es j
 | [], _, s => ⟨_, rfl, fun e he => by rw [List.mem_singleton.1 he]; exact ⟨s, rfl⟩, fun j => rfl⟩
 | (x, u) :: r, hk, s => by
  obtain ⟨a, rfl⟩ := hk (x, u) (by simp)
  obtain ⟨es', f, h2, g⟩ := Ak4 v (es := r) (fun e he => hk e (by simp [he])) s
  by_cases h : s = a
  ·subst h
   refine ⟨(.string s, v) :: r, by simp [Nj, B0, Gy, Aaz], fun e he => ?_, fun j => ?_⟩
   ·rcases List.mem_cons.1 he with rfl | he
    ·exact ⟨s, rfl⟩
    ·exact hk e (by simp [he])
   ·simp only [Xw]; split <;> rfl
  ·have d : (s == a) = false := by rw [Aaz]; exact decide_eq_false h
   refine ⟨(.string a, u) :: es', by simp [Nj, B0, Gy, d, f], fun e he => ?_, fun j => ?_⟩
   ·rcases List.mem_cons.1 he with rfl | he
    ·exact ⟨a, rfl⟩
    ·exact h2 e he
   ·simp only [Xw, g]
    by_cases c : j = a
    ·subst c; rw [if_pos rfl, if_pos rfl, if_neg (fun e => h e.symm)]
    ·rw [if_neg c, if_neg c]
theorem Am4 {s : ByteArray} : Rh .str (.string s) = true := by simp [Rh, B0, Gy, Aaz]
theorem Ajs {es : List (Value × Value)} (hk : Aii es) (z : Value) (s : ByteArray) : lkO .str z (.string s) false (some (.map es)) = some ((Xw es s).getD z) := by
 simp only [lkO, Am4, if_true, Ahm hk, Option.map_some]
 cases Xw es s <;> rfl
theorem Azg {s : ByteArray} {v : Value} {es es' : List (Value × Value)} (h1 : Nj .str (.string s) v es = some es') (h : Aa) (r : Nat) : mpO .str (.string s) v h r (some (.map es)) = some (undef, h.set r (.map es'), [r]) := by
 simp only [mpO, Am4, if_true, h1, Option.map_some]
def cntN (l : List Af) : Nat → ByteArray → Int
 | 0, _ => 0
 | n + 1, s => cntN l n s + if (atI l (n : Int)).name = s then 1 else 0
def cntP (l : List Af) : Nat → Int → Int
 | 0, _ => 0
 | n + 1, p => cntP l n p + if (atI l (n : Int)).P = p then 1 else 0
theorem Aee (l : List Af) (s : ByteArray) : ∀ n : Nat, 0 ≤ cntN l n s ∧ cntN l n s ≤ n
 | 0 => by simp [cntN]
 | n + 1 => by have := Aee l s n; unfold cntN; split <;> omega
theorem Aed (l : List Af) (p : Int) : ∀ n : Nat, 0 ≤ cntP l n p ∧ cntP l n p ≤ n
 | 0 => by simp [cntP]
 | n + 1 => by have := Aed l p n; unfold cntP; split <;> omega
theorem Az8 {s t : ByteArray} : bs s = bs t ↔ s = t := ⟨Az7, fun h => by rw [h]⟩
theorem Acx (l : List Af) (i : Int) : ∀ k : Nat, Jr l i k = decide (1 ≤ cntN l k (atI l i).name ∨ 1 ≤ cntP l k (atI l i).P)
 | 0 => by simp [Jr, cntN, cntP]
 | k + 1 => by
  have c := Aee l (atI l i).name k
  have h2 := Aed l (atI l i).P k
  unfold Jr cntN cntP
  rw [Acx l i k, Bool.eq_iff_iff, Bool.or_eq_true, decide_eq_true_iff, decide_eq_true_iff, decide_eq_true_iff, Az8]
  generalize cntN l k (atI l i).name = x at *
  generalize cntP l k (atI l i).P = y at *
  by_cases a : (atI l (k : Int)).name = (atI l i).name <;> by_cases b : (atI l (k : Int)).P = (atI l i).P
  ·rw [if_pos a, if_pos b]; exact ⟨fun _ => .inl (by omega), fun _ => .inr (.inl a)⟩
  ·rw [if_pos a, if_neg b]; exact ⟨fun _ => .inl (by omega), fun _ => .inr (.inl a)⟩
  ·rw [if_neg a, if_pos b]; exact ⟨fun _ => .inr (by omega), fun _ => .inr (.inr b)⟩
  ·rw [if_neg a, if_neg b, Int.add_zero, Int.add_zero]; exact ⟨fun h => h.elim id fun h => (h.elim a b).elim, fun h => .inl h⟩
theorem Acy (hE : Ap E) {h : Aa} {vl : Value} {l : List Af} (hl : Rd 7 Az h vl l) (hs : ∀ t ∈ l, t.name.size < 1152921504606846976) :
  callW E (.func (.func D3) #[] #[]) [vl] h = some (.tuple #[.int .i64 (A0 l).1, .int .i64 (A0 l).2], h, []) := by
 refine Ai hE.Abb rfl (by simp) ?_
 have few := hl.few
 have a0 := Ac
 simp only [Ah]
 unfold A0
 by_cases hc : l.length = 0 ∨ 1024 < l.length
 ·rw [if_pos hc]
  (repeat' (first | (with_reducible refine A2 (fun _ => ?_) (fun _ => ?_) <;> try (exfalso; omega)) | (with_reducible refine A3 (fun _ => ?_) (fun _ => ?_) <;> try (exfalso; omega)) | simp -dsimp (disch := omega) only [↓EA, EB, Nat.reduceEqDiff, ↓reduceIte, reduceCtorEq, eq_self, *, hl.len]))
 ·rw [if_neg hc]
  have a3 : 1 ≤ l.length ∧ l.length ≤ 1024 := by omega
  clear hc a0
  have a4 := Hid.mk (rfl : Bm l l.length 0 = Bm l l.length 0)
  (repeat' (first | (with_reducible refine A2 (fun _ => ?_) (fun _ => ?_) <;> try (exfalso; omega)) | (with_reducible refine A3 (fun _ => ?_) (fun _ => ?_) <;> try (exfalso; omega)) | simp -dsimp (disch := omega) only [↓EA, EB, Nat.reduceEqDiff, ↓reduceIte, reduceCtorEq, eq_self, *, hl.len]))
  refine WO.loop (fun (n : Nat) fr h' => n ≤ l.length ∧ Bm l l.length 0 = Bm l (l.length - n) n ∧ Pre h h' ∧ get fr 0 = vl ∧ get fr 4 = .map (some h.length) ∧ get fr 5 = .map (some (h.length + 1)) ∧ get fr 19 = vl ∧ get fr 20 = .int .i64 l.length ∧ get fr 21 = .int .i64 n ∧ ∃ j e2, h'[h.length]? = some (.map j) ∧ h'[h.length + 1]? = some (.map e2) ∧ Aii j ∧ Xh .i64 e2 ∧ (∀ s, (Xw j s).getD (.int .i64 0) = .int .i64 (cntN l n s)) ∧ ∀ p, (Sz .i64 e2 p).getD (.int .i64 0) = .int .i64 (cntP l n p)) (fun n => l.length - n) ?_ 0 ⟨Nat.zero_le _, rfl, Pre.app h _, rfl, rfl, rfl, rfl, rfl, rfl, [], [], by rw [Bk]; rfl, by rw [Og]; rfl, (fun e he => nomatch he), (fun e he => nomatch he), fun s => rfl, fun p => rfl⟩
  rintro n fr h' ⟨hn, y, hp, g0, g4, g5, aa, a6, a9, j, e2, m1, m2, k1, k2, c1, c2⟩
  have c := Hid.mk y
  clear y
  unfold Me
  rcases Nat.lt_or_ge n l.length with hlt | hge
  ·have u := hl.pre hp
   have hm := Aj (l := l) (i := (n : Int)) (by omega) (by omega)
   have q := fun x => Az5 hE (h' ++ x) (atI l (n : Int)) (hs _ hm)
   simp only [Az] at q
   have a : Bm l (l.length - n) n = if G5 (atI l (n : Int)) ≠ 0 then ((n : Int), G5 (atI l (n : Int))) else if Jr l (n : Int) n then ((n : Int), 13) else Bm l (l.length - (n + 1)) ((n : Int) + 1) := by
    obtain ⟨k, hk⟩ : ∃ k, l.length - n = k + 1 := ⟨l.length - n - 1, by omega⟩
    rw [hk, show l.length - (n + 1) = k by omega]; rfl
   rw [Acx] at a
   have d := Hid.mk a
   clear a
   have cn := Aee l (atI l (n : Int)).name n
   have cp := Aed l (atI l (n : Int)).P n
   have L1 := fun z => Ajs k1 z (atI l (n : Int)).name
   have a7 := hp.le
   have v := (GI.1 m1).1
   have r := (GI.1 m2).1
   obtain ⟨g, p1, p2, p3⟩ := Ak4 (.int .i64 (cntN l n (atI l (n : Int)).name + 1)) k1 (atI l (n : Int)).name
   obtain ⟨m, r1, r2, r3⟩ := X7 (.int .i64 (cntP l n (atI l (n : Int)).P + 1)) k2 (atI l (n : Int)).P
   have C1 := c1 (atI l (n : Int)).name
   have C2 := c2 (atI l (n : Int)).P
   have a2 := Hid.mk c1
   have a1 := Hid.mk c2
   have P3 := Hid.mk p3
   have R3 := Hid.mk r3
   have D1 : (Xw g (atI l (n : Int)).name).getD (.int .i64 0) = .int .i64 (cntN l n (atI l (n : Int)).name + 1) := by rw [p3, if_pos rfl]; rfl
   have D2 : (Sz .i64 m (atI l (n : Int)).P).getD (.int .i64 0) = .int .i64 (cntP l n (atI l (n : Int)).P + 1) := by rw [r3, if_pos rfl]; rfl
   have M1 := Azg p1
   have M2 := Ajq r1
   have L2 := Tw k2
   have L3 := Ajs p2
   have L4 := Tw r2
   clear c1 c2 p3 r3 p1 r1 hm hs L1
   have L1 := Ajs k1
   have a8 : ∀ x, (h' ++ x)[h.length]? = some (.map j) := fun x => by rw [GL v]; exact m1
   have a5 : ∀ x, (h' ++ x)[h.length + 1]? = some (.map e2) := fun x => by rw [GL r]; exact m2
   clear m1 m2
   have G1 : ∀ x o, (List.set (h' ++ x) h.length o)[h.length]? = some o := fun x o => Bx (by simp; omega)
   have G2 : ∀ x o o2, (List.set (List.set (h' ++ x) h.length o) (h.length + 1) o2)[h.length + 1]? = some o2 := fun x o o2 => Bx (by simp; omega)
   (repeat' (first | (with_reducible refine A2 (fun _ => ?_) (fun _ => ?_) <;> try (exfalso; omega)) | (with_reducible refine A3 (fun _ => ?_) (fun _ => ?_) <;> try (exfalso; omega)) | simp -dsimp (disch := omega) only [↓EA, EB, Nat.reduceEqDiff, Nat.reduceAdd, ↓reduceIte, reduceCtorEq, Ab, eq_self, *, u.ixs, u.lda, Az]))
   ·rw [c.out, d.out, if_pos (by assumption)]
   ·rw [c.out, d.out, if_neg (by omega), if_pos (decide_eq_true (by omega))]
   ·rw [c.out, d.out, if_neg (by omega), if_pos (decide_eq_true (by omega))]
   ·refine Next.mk (n + 1) ⟨by omega, ?_, ((hp.app' _).set (Nat.le_refl _) _).set (by omega) _, rfl, rfl, rfl, rfl, rfl, rfl, g, m, ?_, G2 _ _ _, p2, r2, ?_, ?_⟩ (by omega)
    ·rw [c.out, d.out, if_neg (by omega), if_neg (by rw [decide_eq_true_eq]; omega)]; rfl
    ·rw [Aq (by omega)]; exact G1 _ _
    ·intro s
     rw [P3.out]
     by_cases f : s = (atI l (n : Int)).name
     ·subst f
      rw [if_pos rfl]
      show Value.int .i64 _ = Value.int .i64 (cntN l n _ + if _ then 1 else 0)
      rw [if_pos rfl]
     ·rw [if_neg f, a2.out]
      show Value.int .i64 _ = Value.int .i64 (cntN l n _ + if _ then 1 else 0)
      rw [if_neg (fun e => f e.symm), Int.add_zero]
    ·intro p
     rw [R3.out]
     by_cases f : p = (atI l (n : Int)).P
     ·subst f
      rw [if_pos rfl]
      show Value.int .i64 _ = Value.int .i64 (cntP l n _ + if _ then 1 else 0)
      rw [if_pos rfl]
     ·rw [if_neg f, a1.out]
      show Value.int .i64 _ = Value.int .i64 (cntP l n _ + if _ then 1 else 0)
      rw [if_neg (fun e => f e.symm), Int.add_zero]
  ·have e : n = l.length := by omega
   subst e
   have e0 : Bm l (l.length - l.length) l.length = ((l.length : Int), 0) := by rw [Nat.sub_self]; rfl
   have E0 := Hid.mk e0
   clear e0
   (repeat' (first | (with_reducible refine A3 (fun _ => ?_) (fun _ => ?_) <;> try (exfalso; omega)) | simp -dsimp (disch := omega) only [↓EA, EB, Nat.reduceEqDiff, ↓reduceIte, reduceCtorEq, eq_self, *, hl.len]))
   rw [c.out, E0.out]
end Go.L.Try
namespace Go.L.Try
open Go Go.L
variable {E : Env}
theorem Ao0 (hE : Ap E) {h : Aa} {vl : Value} {l : List Af} (hl : Rd 7 Az h vl l) (hs : ∀ t ∈ l, t.name.size < 1152921504606846976) :
  callW E (.func (.func I4) #[] #[]) [vl] h = some (.bool (decide ((A0 l).2 = 0)), h, []) := by
 have q := Acy hE hl hs
 refine Ai hE.Ai1 rfl (by simp) ?_
 generalize (A0 l).2 = e at *
 simp only [Ah]
 (repeat' simp -dsimp (disch := omega) only [↓EA, EB, Nat.reduceEqDiff, ↓reduceIte, reduceCtorEq, eq_self, *])
theorem M4 (hE : Ap E) (h : Aa) (n a b : Int) : callW E (.func (.func Bj) #[] #[]) [.int .i64 n, .int .i64 a, .int .i64 b] h = some (.bool (decide (a ≤ n ∧ n ≤ b)), h, []) := by
 refine Ai hE.Xj rfl (by simp) ?_
 simp only [Ah]
 (repeat' (first | (with_reducible refine A1 (fun _ => ?_) (fun _ => ?_) <;> try (exfalso; omega)) | simp -dsimp (disch := omega) only [↓EA, EB, Nat.reduceEqDiff, Nat.reduceAdd, ↓reduceIte, reduceCtorEq, eq_self, *]))
 all_goals first | rfl | exact congrArg Value.bool (decide_eq_decide.2 (by omega)) | exact congrArg Value.bool (decide_eq_false (by omega)).symm | exact congrArg Value.bool (decide_eq_true (by omega)).symm
theorem Atq (hE : Ap E) (h : Aa) {j : Value} (hj : (Bf j).all Ae = true) (g : Value) : callW E (.func (.func Ce) #[] #[]) [j, g] h = some (.tuple #[], h, []) := by
 refine Ai hE.Xk rfl (by simp) ?_
 simp only [Ah]
 (repeat' simp -dsimp (disch := omega) only [↓EA, EB, ↓reduceIte, Ab, eq_self, *])
def Fb (l : List Af) (jobs : List Job) (n : Nat) (task : Int) : Int := if 0 ≤ Dc jobs task n then (atI jobs (Dc jobs task n)).arrive + (atI l task).T else 0
theorem Adf (l : List Af) (jobs : List Job) (n : Nat) (t : Int) : Fb l jobs (n + 1) t = if (atI jobs (n : Int)).task = t then (atI jobs (n : Int)).arrive + (atI l t).T else Fb l jobs n t := by
 have e : Dc jobs t (n + 1) = if (atI jobs (n : Int)).task = t then (n : Int) else Dc jobs t n := rfl
 unfold Fb
 rw [e]
 by_cases h : (atI jobs (n : Int)).task = t
 ·rw [if_pos h, if_pos h, if_pos (by omega)]
 ·rw [if_neg h, if_neg h]
theorem Acq (l : List Af) (jobs : List Job) (i : Nat) : Eo l jobs i ↔ (0 ≤ (atI jobs (i : Int)).task ∧ (atI jobs (i : Int)).task < l.length) ∧ (0 ≤ (atI jobs (i : Int)).arrive ∧ (atI jobs (i : Int)).arrive ≤ 17592186044416) ∧ (0 ≤ Dc jobs (atI jobs (i : Int)).task i → Fb l jobs i (atI jobs (i : Int)).task ≤ (atI jobs (i : Int)).arrive) ∧ (atI jobs (i : Int)).arrive ≤ (atI jobs (i : Int)).release ∧ (atI jobs (i : Int)).release ≤ (atI jobs (i : Int)).arrive + (atI l (atI jobs (i : Int)).task).J ∧ 1 ≤ (atI jobs (i : Int)).work ∧ (atI jobs (i : Int)).work ≤ (atI l (atI jobs (i : Int)).task).C := by
 unfold Eo Fb
 dsimp only
 constructor
 ·rintro ⟨a, b, c, d⟩; exact ⟨a, b, fun h => by rw [if_pos h]; exact c h, d⟩
 ·rintro ⟨a, b, c, d⟩; exact ⟨a, b, fun h => by have := c h; rw [if_pos h] at this; exact this, d⟩
theorem Aow (hE : Ap E) {W : Nat → Prop} {h0 : Aa} {v0 v2 v8 v24 v25 v26 : Value} {bj bt : Nat} {y0 y1 y2 y3 y4 y6 vc : Value} {q w : Int} {cuts : List Int} (hc : Rd 1 Cj h0 vc cuts) (hbt : h0[bt]? = some (.cells [y0, y1, y2, y3, y4, .int .i64 q, y6] false)) (hw : 0 ≤ w) (hw2 : w ≤ 2147483647) {Q : Ex → Fr → Aa → Prop} {fr : Fr}
  (g0 : get fr 0 = v0) (g2 : get fr 2 = v2) (g7 : get fr 7 = .func (.func Bj) #[] #[]) (g8 : get fr 8 = v8) (g10 : get fr 10 = .pointer (some ⟨bj, 0, none⟩)) (g11 : get fr 11 = .pointer (some ⟨bt, 0, none⟩)) (g12 : get fr 12 = .int .i64 w) (g24 : get fr 24 = v24) (g25 : get fr 25 = v25) (g26 : get fr 26 = v26) (g80 : get fr 80 = vc) (g81 : get fr 81 = .int .i64 cuts.length) (g82 : get fr 82 = .int .i64 0)
  (hq1 : Dq q cuts w = true → ∀ fr', get fr' 0 = v0 → get fr' 2 = v2 → get fr' 7 = .func (.func Bj) #[] #[] → get fr' 8 = v8 → get fr' 10 = .pointer (some ⟨bj, 0, none⟩) → get fr' 11 = .pointer (some ⟨bt, 0, none⟩) → get fr' 24 = v24 → get fr' 25 = v25 → get fr' 26 = v26 → Q (.exit 2) fr' h0)
  (hq2 : Dq q cuts w = false → ∀ fr', get fr' 6 = .bool false → Q .ret fr' h0) :
  WO W (iterW (code (callW E) iterW 117 Je) fr h0) Q := by
 have few := hc.few
 refine WO.loop (fun (c : Nat) fr h' => h' = h0 ∧ c ≤ cuts.length ∧ get fr 0 = v0 ∧ get fr 2 = v2 ∧ get fr 7 = .func (.func Bj) #[] #[] ∧ get fr 8 = v8 ∧ get fr 10 = .pointer (some ⟨bj, 0, none⟩) ∧ get fr 11 = .pointer (some ⟨bt, 0, none⟩) ∧ get fr 24 = v24 ∧ get fr 25 = v25 ∧ get fr 26 = v26 ∧ get fr 80 = vc ∧ get fr 81 = .int .i64 cuts.length ∧ get fr 82 = .int .i64 c ∧ ∃ left, get fr 12 = .int .i64 left ∧ 0 ≤ left ∧ left ≤ w ∧ Dq q cuts w = Dq q (cuts.drop c) left) (fun c => cuts.length - c) ?_ 0 ⟨rfl, Nat.zero_le _, g0, g2, g7, g8, g10, g11, g24, g25, g26, g80, g81, g82, w, g12, hw, Int.le_refl _, rfl⟩
 rintro c fr h' ⟨rfl, m, g0, g2, g7, g8, g10, g11, g24, g25, g26, g80, g81, g82, left, g12, p, o, a⟩
 unfold Je
 rcases Nat.lt_or_ge c cuts.length with hlt | hge
 ·have f : Dq q (cuts.drop c) left = (decide (1 ≤ atI cuts (c : Int) ∧ atI cuts (c : Int) ≤ min q left) && Dq q (cuts.drop (c + 1)) (left - atI cuts (c : Int))) := by
   rw [List.drop_eq_getElem_cons hlt, Dq, Ax hlt]
   congr 1
   exact decide_eq_decide.2 (by omega)
  rw [f] at a
  have j := M4 hE h' (atI cuts (c : Int)) 1 (min q left)
  have g := Hid.mk a
  clear a f
  have hq2 := Hid.mk hq2
  clear hq1
  by_cases d : 1 ≤ atI cuts (c : Int) ∧ atI cuts (c : Int) ≤ min q left
  ·rw [decide_eq_true d] at j
   have Hc := Hid.mk d
   have n : atI cuts (c : Int) ≤ left := by omega
   have l := d.1
   clear d
   (repeat' (first | (with_reducible refine A3 (fun _ => ?_) (fun _ => ?_) <;> try (exfalso; omega)) | simp -dsimp (disch := omega) only [↓EA, EB, Nat.reduceEqDiff, ↓reduceIte, reduceCtorEq, eq_self, *, hc.ixs, hc.ld0, Cj]))
   exact Next.mk (c + 1) ⟨rfl, by omega, rfl, rfl, rfl, rfl, rfl, rfl, rfl, rfl, rfl, rfl, rfl, rfl, _, rfl, by omega, by omega, by rw [g.out, decide_eq_true Hc.out]; rfl⟩ (by omega)
  ·rw [decide_eq_false d] at j
   have Hc := Hid.mk d
   clear d
   (repeat' (first | (with_reducible refine A3 (fun _ => ?_) (fun _ => ?_) <;> try (exfalso; omega)) | simp -dsimp (disch := omega) only [↓EA, EB, Nat.reduceEqDiff, ↓reduceIte, reduceCtorEq, eq_self, *, hc.ixs, hc.ld0, Cj]))
   exact hq2.out (by rw [g.out, decide_eq_false Hc.out]; rfl) _ rfl
 ·have e : cuts.drop c = [] := List.drop_of_length_le (by omega)
  rw [e] at a
  have hq1 := hq1 a
  clear a e hq2
  (repeat' (first | (with_reducible refine A3 (fun _ => ?_) (fun _ => ?_) <;> try (exfalso; omega)) | simp -dsimp (disch := omega) only [↓EA, EB, Nat.reduceEqDiff, ↓reduceIte, reduceCtorEq, eq_self, *]))
  exact hq1 _ rfl rfl rfl rfl rfl rfl rfl rfl rfl
theorem Akj (l : List Af) (jobs : List Job) (n : Nat) : Iu l jobs (n + 1) = (Iu l jobs n && Gf l jobs n) := rfl
theorem Afc (hE : Ap E) {h : Aa} {v0 v1 : Value} {l : List Af} {jobs : List Job} (hl : Rd 7 Az h v0 l) (hs : ∀ t ∈ l, t.name.size < 1152921504606846976) (hj : RdJ h v1 jobs) :
  callW E (.func (.func F8) #[] #[]) [v0, v1, .func (.func Ce) #[] #[]] h = some (.bool (legalB l jobs), h, []) := by
 refine Ai hE.Adi rfl (by simp) ?_
 obtain ⟨f, rfl, a9, hc⟩ := hj.is
 have few := a9.few
 have au := hl.few
 have aa := Ao0 hE hl hs
 simp only [Ah]
 by_cases y : (A0 l).2 = 0
 ·by_cases ah : f.length ≤ 4096
  ·obtain ⟨ba, bb, a0⟩ := Dj y
   have hd : legalB l (f.map (·.j)) = Iu l (f.map (·.j)) f.length := by simp [legalB, y, ah]
   rw [hd]
   rw [decide_eq_true y] at aa
   clear hd y
   (repeat' (first | (with_reducible refine A3 (fun _ => ?_) (fun _ => ?_) <;> try (exfalso; omega)) | simp -dsimp (disch := omega) only [↓EA, EB, Nat.reduceEqDiff, Nat.reduceAdd, ↓reduceIte, reduceCtorEq, eq_self, *, a9.len]))
   clear aa
   refine WO.loop (fun (n : Nat) fr h' => Pre h h' ∧ h.length < h'.length ∧ n ≤ f.length ∧ get fr 0 = v0 ∧ get fr 2 = .func (.func Ce) #[] #[] ∧ get fr 7 = .func (.func Bj) #[] #[] ∧ get fr 8 = .map (some h.length) ∧ get fr 24 = v1 ∧ get fr 25 = .int .i64 f.length ∧ get fr 26 = .int .i64 n ∧ Iu l (f.map (·.j)) n = true ∧ ∃ es, h'[h.length]? = some (.map es) ∧ Xh .i64 es ∧ ∀ t : Int, 0 ≤ t → t < l.length → (Sz .i64 es t).getD (.int .i64 0) = .int .i64 (Fb l (f.map (·.j)) n t)) (fun n => f.length - n) ?_ 0 ⟨Pre.app h _, by simp, Nat.zero_le _, rfl, rfl, rfl, rfl, rfl, rfl, rfl, rfl, [], by rw [Bk]; rfl, (fun e he => nomatch he), fun t _ _ => rfl⟩
   rintro n fr h' ⟨hp, a1, hn, g0, g2, g7, g8, b4, bc, b0, ab, es, m1, k1, c1⟩
   have m := hl.pre hp
   have g := a9.pre hp
   have a7 := Hid.mk ab
   clear ab
   unfold M7
   rcases Nat.lt_or_ge n f.length with hlt | hge
   ·have ai := Aj (l := f) (i := n) (by omega) (by omega)
    have r := (hc _ ai).pre hp
    have e2 : atI (f.map (·.j)) (n : Int) = (atI f n).j := (Eb (fun p : NV Job => p.j) f n (by omega) (by omega)).symm
    have z := Acq l (f.map (·.j)) n
    have ac := fun t => Adf l (f.map (·.j)) n t
    rw [e2] at z
    simp only [e2] at ac
    have aj : 0 ≤ Dc (f.map (·.j)) (atI f n).j.task n → 0 ≤ Fb l (f.map (·.j)) n (atI f n).j.task ∧ Fb l (f.map (·.j)) n (atI f n).j.task ≤ 17592186044416 + 2147483647 := fun hk => by
     have h5 := Rg (f.map (·.j)) (atI f n).j.task n
     have h1 := Sd a7.out (Dc (f.map (·.j)) (atI f n).j.task n).toNat (by omega)
     simp only [Gf, Bool.and_eq_true, decide_eq_true_eq] at h1
     have h2 := (Acq _ _ _).1 h1.1
     rw [show ((Dc (f.map (·.j)) (atI f n).j.task n).toNat : Int) = Dc (f.map (·.j)) (atI f n).j.task n by omega] at h2
     have h6 := Pb hk
     rw [h6] at h2
     have h7 := (a0 _ (Aj h2.1.1 h2.1.2)).1
     simp only [Bh] at h7
     unfold Fb
     rw [if_pos hk]
     omega
    have ae : ¬ 0 ≤ Dc (f.map (·.j)) (atI f n).j.task n → Fb l (f.map (·.j)) n (atI f n).j.task = 0 := fun hk => by unfold Fb; rw [if_neg hk]
    have az : 0 ≤ Fb l (f.map (·.j)) n (atI f n).j.task ∧ Fb l (f.map (·.j)) n (atI f n).j.task ≤ 17592186044416 + 2147483647 := by
     by_cases hk : 0 ≤ Dc (f.map (·.j)) (atI f n).j.task n
     ·exact aj hk
     ·rw [ae hk]; omega
    have a8 : Hid (Eo l (f.map (·.j)) n ↔ ((0 ≤ (atI f n).j.task ∧ (atI f n).j.task < l.length) ∧ (Fb l (f.map (·.j)) n (atI f n).j.task ≤ (atI f n).j.arrive ∧ (atI f n).j.arrive ≤ 17592186044416) ∧ ((atI f n).j.arrive ≤ (atI f n).j.release ∧ (atI f n).j.release ≤ (atI f n).j.arrive + (atI l (atI f n).j.task).J) ∧ 1 ≤ (atI f n).j.work ∧ (atI f n).j.work ≤ (atI l (atI f n).j.task).C)) := ⟨by
     rw [z]
     constructor
     ·rintro ⟨a, b, c, d⟩
      refine ⟨a, ⟨?_, b.2⟩, ⟨d.1, d.2.1⟩, d.2.2⟩
      by_cases hk : 0 ≤ Dc (f.map (·.j)) (atI f n).j.task n
      ·exact c hk
      ·rw [ae hk]; exact b.1
     ·rintro ⟨a, b, c, d⟩
      exact ⟨a, ⟨by omega, b.2⟩, fun _ => b.1, c.1, c.2, d⟩⟩
    have o : Hid (Gf l (f.map (·.j)) n = (decide (Eo l (f.map (·.j)) n) && Dq (atI l (atI f n).j.task).Q (atI f n).j.cuts (atI f n).j.work)) := ⟨by simp only [Gf, e2]⟩
    have s : Hid (Gf l (f.map (·.j)) n = false → Iu l (f.map (·.j)) f.length = false) := ⟨fun h => Aqf hlt h⟩
    have ak := Hid.mk ac
    have hL := Tw k1 (.int .i64 0) (atI f n).j.task
    clear ac z aj ae e2 hc hs
    generalize hS : Fb l (f.map (·.j)) n (atI f n).j.task = S at *
    by_cases a5 : 0 ≤ (atI f n).j.task ∧ (atI f n).j.task < l.length
    ·have hC := c1 _ a5.1 a5.2
     rw [hS] at hC
     have a6 := (a0 _ (Aj a5.1 a5.2)).1
     simp only [Bh] at a6
     have bd := a6.2.2.2.1
     have b3 := a6.2.2.1
     have b1 := a6.2.2.2.2.2.2.1
     clear a6 a0
     rw [hC] at hL
     have w1 := fun x => M4 hE (h' ++ x) (atI f n).j.arrive S 17592186044416
     have w2 := fun x => M4 hE (h' ++ x) (atI f n).j.release (atI f n).j.arrive ((atI f n).j.arrive + (atI l (atI f n).j.task).J)
     have w3 := fun x => M4 hE (h' ++ x) (atI f n).j.work 1 (atI l (atI f n).j.task).C
     by_cases a2 : S ≤ (atI f n).j.arrive ∧ (atI f n).j.arrive ≤ 17592186044416
     ·rw [decide_eq_true a2] at w1
      by_cases a4 : (atI f n).j.arrive ≤ (atI f n).j.release ∧ (atI f n).j.release ≤ (atI f n).j.arrive + (atI l (atI f n).j.task).J
      ·rw [decide_eq_true a4] at w2
       by_cases a3 : 1 ≤ (atI f n).j.work ∧ (atI f n).j.work ≤ (atI l (atI f n).j.task).C
       ·rw [decide_eq_true a3] at w3
        have am := Hid.mk (a8.out.2 ⟨a5, a2, a4, a3⟩)
        have ad : ∀ x, (h' ++ x)[h.length]? = some (.map es) := fun x => by rw [GL a1]; exact m1
        (repeat' (first | (with_reducible refine A2 (fun _ => ?_) (fun _ => ?_) <;> try (exfalso; omega)) | (with_reducible refine A3 (fun _ => ?_) (fun _ => ?_) <;> try (exfalso; omega)) | simp -dsimp (disch := omega) only [↓EA, EB, Nat.reduceEqDiff, Nat.reduceAdd, ↓reduceIte, reduceCtorEq, Ab, eq_self, *, m.len, m.ixs, m.ldxa, g.ixs, g.lda, Ci, hdJ, Az, r.len, r.one, hp.le, hp.le_add]))
        refine Aow hE (r.app _) (bj := h'.length) (bt := h'.length + 1) (by rw [Og]; rfl) (by omega) (by omega) rfl rfl rfl rfl rfl rfl rfl rfl rfl rfl rfl rfl rfl (fun u an q0 q2 q7 q8 ay b8 b2 b9 b7 => ?_) (fun u an q6 => ?_)
        ·have af : Iu l (f.map (·.j)) (n + 1) = true := by
          rw [Akj, a7.out, Bool.true_and, o.out, u, decide_eq_true am.out]; rfl
         have ar := Hid.mk af
         obtain ⟨ap, p1, p2, p3⟩ := X7 (.int .i64 ((atI f n).j.arrive + (atI l (atI f n).j.task).T)) k1 (atI f n).j.task
         have M1 := Ajq p1
         have P3 := Hid.mk p3
         have al := Hid.mk c1
         have ag := r.one
         have av := r.cv
         have as := fun x => Atq hE (h' ++ x) (j := .agg #[.int .i64 (atI f n).j.task, .int .i64 (atI f n).j.arrive, .int .i64 (atI f n).j.release, .int .i64 (atI f n).j.work, (atI f n).v]) (by simp [T5, Adv, ag]) (.int .i64 ((atI f n).j.arrive - S))
         have b6 := hp.le
         clear af u p1 p3 c1 w1 w2 w3
         (repeat' simp -dsimp (disch := omega) only [↓EA, EB, Nat.reduceEqDiff, Nat.reduceAdd, ↓reduceIte, reduceCtorEq, eq_self, *])
         refine Next.mk (n + 1) ⟨(hp.app' _).set (Nat.le_refl _) _, by simp; omega, by omega, rfl, rfl, rfl, rfl, rfl, rfl, rfl, ar.out, ap, Bx (by simp; omega), p2, fun t ao aq => ?_⟩ (by omega)
         rw [P3.out, ak.out]
         by_cases ht : (atI f n).j.task = t
         ·rw [if_pos ht.symm, if_pos ht, ht]; rfl
         ·rw [if_neg (fun e => ht e.symm), if_neg ht]; exact al.out t ao aq
        ·have hf := s.out (by rw [o.out, u, Bool.and_false])
         rw [hf]
         clear u w1 w2 w3
         (repeat' simp -dsimp (disch := omega) only [EB, eq_self, *])
       ·rw [decide_eq_false a3] at w3
        have hf := s.out (by rw [o.out, decide_eq_false (fun e => a3 (a8.out.1 e).2.2.2)]; rfl)
        rw [hf]
        have ad : ∀ x, (h' ++ x)[h.length]? = some (.map es) := fun x => by rw [GL a1]; exact m1
        have aw := Hid.mk a3
        clear hf a3
        (repeat' (first | (with_reducible refine A2 (fun _ => ?_) (fun _ => ?_) <;> try (exfalso; omega)) | (with_reducible refine A3 (fun _ => ?_) (fun _ => ?_) <;> try (exfalso; omega)) | simp -dsimp (disch := omega) only [↓EA, EB, Nat.reduceEqDiff, Nat.reduceAdd, ↓reduceIte, reduceCtorEq, Ab, eq_self, *, m.len, m.ixs, m.ldxa, g.ixs, g.lda, Ci, hdJ, Az, r.one, hp.le, hp.le_add]))
      ·rw [decide_eq_false a4] at w2
       have hf := s.out (by rw [o.out, decide_eq_false (fun e => a4 (a8.out.1 e).2.2.1)]; rfl)
       rw [hf]
       have ad : ∀ x, (h' ++ x)[h.length]? = some (.map es) := fun x => by rw [GL a1]; exact m1
       have b5 := Hid.mk a4
       clear hf a4 w3
       (repeat' (first | (with_reducible refine A2 (fun _ => ?_) (fun _ => ?_) <;> try (exfalso; omega)) | (with_reducible refine A3 (fun _ => ?_) (fun _ => ?_) <;> try (exfalso; omega)) | simp -dsimp (disch := omega) only [↓EA, EB, Nat.reduceEqDiff, Nat.reduceAdd, ↓reduceIte, reduceCtorEq, Ab, eq_self, *, m.len, m.ixs, m.ldxa, g.ixs, g.lda, Ci, hdJ, Az, r.one, hp.le, hp.le_add]))
     ·rw [decide_eq_false a2] at w1
      have hf := s.out (by rw [o.out, decide_eq_false (fun e => a2 (a8.out.1 e).2.1)]; rfl)
      rw [hf]
      have ad : ∀ x, (h' ++ x)[h.length]? = some (.map es) := fun x => by rw [GL a1]; exact m1
      have ax := Hid.mk a2
      clear hf a2 w2 w3
      (repeat' (first | (with_reducible refine A2 (fun _ => ?_) (fun _ => ?_) <;> try (exfalso; omega)) | (with_reducible refine A3 (fun _ => ?_) (fun _ => ?_) <;> try (exfalso; omega)) | simp -dsimp (disch := omega) only [↓EA, EB, Nat.reduceEqDiff, Nat.reduceAdd, ↓reduceIte, reduceCtorEq, Ab, eq_self, *, m.len, m.ixs, m.ldxa, g.ixs, g.lda, Ci, hdJ, Az, r.one, hp.le, hp.le_add]))
    ·have hf := s.out (by rw [o.out, decide_eq_false (fun e => a5 (a8.out.1 e).1)]; rfl)
     rw [hf]
     clear hf c1 a0
     (repeat' (first | (with_reducible refine A2 (fun _ => ?_) (fun _ => ?_) <;> try (exfalso; omega)) | (with_reducible refine A3 (fun _ => ?_) (fun _ => ?_) <;> try (exfalso; omega)) | simp -dsimp (disch := omega) only [↓EA, EB, Nat.reduceEqDiff, Nat.reduceAdd, ↓reduceIte, reduceCtorEq, Ab, eq_self, *, m.len, g.ixs, g.lda, Ci, hdJ, r.one, hp.le]))
   ·have e : n = f.length := by omega
    subst e
    rw [a7.out]
    (repeat' (first | (with_reducible refine A3 (fun _ => ?_) (fun _ => ?_) <;> try (exfalso; omega)) | simp -dsimp (disch := omega) only [↓EA, EB, Nat.reduceEqDiff, ↓reduceIte, reduceCtorEq, eq_self, *]))
  ·have hd : legalB l (f.map (·.j)) = false := by simp [legalB, ah]
   rw [hd]
   rw [decide_eq_true y] at aa
   (repeat' (first | (with_reducible refine A3 (fun _ => ?_) (fun _ => ?_) <;> try (exfalso; omega)) | simp -dsimp (disch := omega) only [↓EA, EB, Nat.reduceEqDiff, Nat.reduceAdd, ↓reduceIte, reduceCtorEq, eq_self, *, a9.len]))
 ·have hd : legalB l (f.map (·.j)) = false := by simp [legalB, y]
  rw [hd]
  rw [decide_eq_false y] at aa
  (repeat' simp -dsimp (disch := omega) only [↓EA, EB, Nat.reduceEqDiff, Nat.reduceAdd, ↓reduceIte, reduceCtorEq, eq_self, *])
theorem Azl (hE : Ap E) {h : Aa} {v0 v1 : Value} {l : List Af} {jobs : List Job} (hl : Rd 7 Az h v0 l) (hs : ∀ t ∈ l, t.name.size < 1152921504606846976) (hj : RdJ h v1 jobs) :
  callW E (.func (.func F9) #[] #[]) [v0, v1] h = some (.bool (legalB l jobs), h, []) := by
 have q := Afc hE hl hs hj
 refine Ai hE.Adj rfl (by simp) ?_
 simp only [Ah]
 generalize legalB l jobs = b at *
 (repeat' simp -dsimp (disch := omega) only [↓EA, EB, Nat.reduceEqDiff, ↓reduceIte, reduceCtorEq, eq_self, *])
end Go.L.Try
