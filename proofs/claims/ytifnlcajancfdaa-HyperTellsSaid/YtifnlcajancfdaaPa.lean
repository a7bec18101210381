/- THE REFERENCES' SETS OF TASKS: what cadencyref04 tells. -/
import Derived.Test.YtifnlcajancfdaaCode
import Derived.Test.YtifnlcajancfdaaVc
set_option linter.unusedVariables false
set_option linter.unusedSimpArgs false
set_option maxRecDepth 4000
namespace Go.L.Try
open Go Go.L
variable {E : Env}
theorem Ai9 (hE : Ap E) (h : Aa) (x n : Int) (hn : 0 < n) (hn' : n < 4611686018427387904) : callW E (.func (.func Cf) #[] #[]) [.int .i64 x, .int .i64 n] h = some (.int .i64 (x % n), h, []) := by
 have a := Qu x n hn
 refine Ai hE.Ajg rfl (by simp) ?_
 simp -dsimp (disch := omega) only [↓EA, EB, Nat.reduceEqDiff, ↓reduceIte, reduceCtorEq, eq_self, Ah, Ak1 x n hn]
theorem A2s (hE : Ap E) (h : Aa) (n a b : Int) : callW E (.func (.func Fc) #[] #[]) [.int .i64 n, .int .i64 a, .int .i64 b] h = some (.bool (decide (a ≤ n ∧ n ≤ b)), h, []) := by
 refine Ai hE.Ars rfl (by simp) ?_
 simp only [Ah]
 (repeat' (first | (with_reducible refine A1 (fun _ => ?_) (fun _ => ?_) <;> try (exfalso; omega)) | simp -dsimp (disch := omega) only [↓EA, EB, Nat.reduceEqDiff, Nat.reduceAdd, ↓reduceIte, reduceCtorEq, eq_self, *]))
 all_goals simp [*]
def Fv (n turn : Int) : Int := if 2 < n ∧ (turn.tdiv n) % 2 = 1 then n - 1 else 1
theorem Avn (hE : Ap E) (h : Aa) (n x : Int) (hn : 0 < n) (hn' : n < 4611686018427387904) (hx : Lf x) : callW E (.func (.func H5) #[] #[]) [.int .i64 n, .int .i64 x] h = some (.int .i64 (Fv n x), h, []) := by
 refine Ai hE.Afr rfl (by simp) ?_
 simp only [Ah]
 have c := fun y => Ai9 hE h y 2 (by decide) (by decide)
 have a : Lf (x.tdiv n) := Avr hn hx
 unfold Lf at a
 unfold Fv
 (repeat' (first | (with_reducible refine A1 (fun _ => ?_) (fun _ => ?_) <;> try (exfalso; omega)) | (with_reducible refine A3 (fun _ => ?_) (fun _ => ?_) <;> try (exfalso; omega)) | simp -dsimp (disch := omega) only [↓EA, EB, Nat.reduceEqDiff, ↓reduceIte, reduceCtorEq, eq_self, *]))
 all_goals simp [*]
def Yj (i : Nat) : ByteArray := ⟨#[116]⟩ ++ ⟨#[UInt8.ofNat (97 + i)]⟩
def Bw (i : Nat) (s : Mw) : Af := ⟨Yj i, 1 + s.C % 4, 1 + s.C % 4 + s.D % 11 + s.T % 7, 1 + s.C % 4 + s.D % 11, s.J % (1 + s.C % 4 + s.D % 11 - (1 + s.C % 4) + 1), 1 + s.Q % (1 + s.C % 4), 0⟩
theorem Ard (hE : Ap E) {W : Nat → Prop} {h0 : Aa} (hW : ∀ b, h0.length ≤ b → W b) {vl : Value} {l : List Mw} (hl : Rd 5 Rn h0 vl l) {most turn : Int} (hm : 0 ≤ most) (hm2 : most ≤ 26) {Q : Ex → Fr → Aa → Prop} {fr : Fr}
  (g0 : get fr 0 = vl) (g1 : get fr 1 = .int .i64 most) (g2 : get fr 2 = .int .i64 turn) (g7 : get fr 7 = .slice none 0 0) (g8 : get fr 8 = .int .i64 0)
  (hq : ∀ fr' h' vo, Pre h0 h' → get fr' 2 = .int .i64 turn → get fr' 7 = vo → OwnT h0.length 7 Az h' vo ((l.take most.toNat).mapIdx Bw) → Q (.exit 0) fr' h') :
  WO W (iterW (code (callW E) iterW 113 Mm) fr h0) Q := by
 refine WO.loop (fun n fr h' => Pre h0 h' ∧ n ≤ l.length ∧ n ≤ most ∧ get fr 0 = vl ∧ get fr 1 = .int .i64 most ∧ get fr 2 = .int .i64 turn ∧ get fr 8 = .int .i64 n ∧ OwnT h0.length 7 Az h' (get fr 7) ((l.take n).mapIdx Bw)) (fun n => l.length - n) ?_ 0 ⟨Pre.refl _, Nat.zero_le _, by omega, g0, g1, g2, g8, by rw [g7]; exact OwnT.nil⟩
 rintro n fr h' ⟨c, g, m, e, h2, j, p, d⟩
 have few := hl.few
 have a := hl.pre c
 unfold Mm
 generalize hvo : get fr 7 = vo at d
 have v := C6 (atI l ↑n).J (1 + (atI l ↑n).C % 4 + (atI l ↑n).D % 11 - (1 + (atI l ↑n).C % 4) + 1) (by omega)
 have s := C6 (atI l ↑n).Q (1 + (atI l ↑n).C % 4) (by omega)
 have u : ∀ x : UInt8, binOp .add .other (.string ⟨#[116]⟩) (.string ⟨#[x]⟩) = some (.string (⟨#[116]⟩ ++ ⟨#[x]⟩)) := fun x => Aax (by simp [ByteArray.size])
 (repeat' (first | (with_reducible refine A1 (fun _ => ?_) (fun _ => ?_) <;> try (exfalso; omega)) | (with_reducible refine A3 (fun _ => ?_) (fun _ => ?_) <;> try (exfalso; omega)) | simp -dsimp (disch := omega) only [↓EA, EB, Nat.reduceEqDiff, Nat.reduceAdd, Nat.reduceLeDiff, Nat.reduceMul, ↓reduceIte, reduceCtorEq, Ab, T9, eq_self, *, a.len, a.ixs, a.ld, a.ld0, Ai9 hE, Rn]))
 ·refine Akp (sz := 7) (bytes := 64) (d.app _) (c.app' _) (Nat.le_refl _) (by have := c.le; simp; omega) hW (Bw n (atI l n)) ?_ rfl (by decide) (by decide) ?_ ?_
  ·simp -dsimp (disch := omega) only [EB, Nat.reduceAdd, Nat.reduceMul, ↓reduceIte]
   simp [Bw, Az, Yj]
   rw [show (97 + (n : Int)).toNat = 97 + n by omega, UInt8.ofNat_add]; rfl
  ·simp; omega
  ·intro o f e h2 j r t
   (repeat' simp -dsimp (disch := omega) only [↓EA, EB, Nat.reduceEqDiff, ↓reduceIte, reduceCtorEq, eq_self, *])
   refine Next.mk (n + 1) ⟨h2, by omega, by omega, rfl, rfl, rfl, rfl, ?_⟩ (by omega)
   rw [take_snoc (by omega), List.mapIdx_append]
   simpa [get, Nat.min_eq_left g] using e
 ·refine hq _ _ _ c rfl rfl ?_
  have : most.toNat = n := by omega
  rw [this]; exact d
 ·refine hq _ _ _ c rfl rfl ?_
  have : l.take most.toNat = l.take n := by rw [List.take_of_length_le (by omega), List.take_of_length_le (by omega)]
  rw [this]; exact d
def prio (n turn : Int) (i : Nat) : Int := 1 + (i * Fv n turn + turn % n) % n
def setPs (n turn : Int) (k : Nat) (L : List Af) : List Af := L.mapIdx fun i t => if i < k then { t with P := prio n turn i } else t
theorem Aix (n turn : Int) (L : List Af) : setPs n turn 0 L = L := by unfold setPs; apply List.ext_getElem <;> simp
theorem Aiy (n turn : Int) (k : Nat) (L : List Af) (hk : k < L.length) : setPs n turn (k + 1) L = (setPs n turn k L).set k { atI (setPs n turn k L) (k : Int) with P := prio n turn k } := by
 have d : k < (setPs n turn k L).length := by simp [setPs]; exact hk
 rw [Ax d]
 apply List.ext_getElem
 ·simp [setPs]
 ·intro i c h2
  simp only [setPs, List.getElem_mapIdx, List.getElem_set]
  simp only [setPs, List.length_mapIdx] at c
  by_cases e : k = i
  ·subst e; simp
  ·rw [if_neg e]
   by_cases a : i < k
   ·rw [if_pos (by omega), if_pos a]
   ·rw [if_neg (by omega), if_neg a]
theorem Aqy (n x : Int) (hn : 0 < n) (hn2 : n ≤ 26) : 1 ≤ Fv n x ∧ Fv n x ≤ 26 := by unfold Fv; split <;> omega
theorem Ayy (hE : Ap E) {W : Nat → Prop} {m : Nat} {h0 : Aa} (hm0 : m ≤ h0.length) (hW : ∀ b, m ≤ b → W b) {L : List Af} {vo : Value} (ho : OwnT m 7 Az h0 vo L) {turn : Int} (ht : Lf turn) (hn : 0 < L.length) (hn2 : L.length ≤ 26) {Q : Ex → Fr → Aa → Prop} {fr : Fr}
  (g2 : get fr 2 = .int .i64 turn) (g7 : get fr 7 = vo) (g14 : get fr 14 = .int .i64 L.length) (g15 : get fr 15 = .int .i64 0)
  (hq : ∀ fr' h', (∀ b, b < m → h'[b]? = h0[b]?) → h'.length = h0.length → get fr' 7 = vo → OwnT m 7 Az h' vo (setPs L.length turn L.length L) → Q (.exit 2) fr' h') :
  WO W (iterW (code (callW E) iterW 113 Ml) fr h0) Q := by
 have few := ho.rd.few
 refine WO.loop (fun n fr h' => (∀ b, b < m → h'[b]? = h0[b]?) ∧ h'.length = h0.length ∧ n ≤ L.length ∧ get fr 2 = .int .i64 turn ∧ get fr 7 = vo ∧ get fr 14 = .int .i64 L.length ∧ get fr 15 = .int .i64 n ∧ OwnT m 7 Az h' vo (setPs L.length turn n L)) (fun n => L.length - n) ?_ 0 ⟨fun _ _ => rfl, rfl, Nat.zero_le _, g2, g7, g14, g15, by rw [Aix]; exact ho⟩
 rintro n fr h' ⟨j, a, v, h2, h7, u, t, ho⟩
 have f : (setPs L.length turn n L).length = L.length := by simp [setPs]
 have p := ho.rd
 unfold Ml
 have o := Aqy L.length turn (by omega) (by omega)
 have z := C6 turn L.length (by omega)
 have g : 0 ≤ (n : Int) * Fv L.length turn ∧ (n : Int) * Fv L.length turn ≤ 26 * 26 := by
  constructor
  ·exact Int.mul_nonneg (by omega) (by omega)
  ·exact Int.mul_le_mul (by omega) (by omega) (by omega) (by omega)
 have l := C6 (n * Fv L.length turn + turn % L.length) L.length (by omega)
 have e1 : ((n : Int) * Fv L.length turn + turn % L.length).tmod L.length = ((n : Int) * Fv L.length turn + turn % L.length) % L.length := Int.tmod_eq_emod_of_nonneg (by omega)
 have c := fun h => Avn hE h L.length turn (by omega) (by omega) ht
 (repeat' (first | (with_reducible refine A3 (fun _ => ?_) (fun _ => ?_) <;> try (exfalso; omega)) | simp -dsimp (disch := omega) only [↓EA, EB, Nat.reduceEqDiff, ↓reduceIte, eq_self, *, p.ixs, Ai9 hE]))
 ·refine X2 ho hW { atI (setPs L.length turn n L) (n : Int) with P := prio L.length turn n } (by omega) (by omega) (by decide) rfl rfl fun s y h2 x => ?_
  (repeat' simp -dsimp (disch := omega) only [↓EA, EB, Nat.reduceEqDiff, ↓reduceIte, eq_self, *])
  have d : setPs L.length turn n L ≠ [] := by intro e; rw [e] at f; simp at f; omega
  refine Next.mk (n + 1) ⟨fun b r => by rw [x b (by have := ho.ge d; omega), j b r], by omega, by omega, rfl, rfl, rfl, rfl, ?_⟩ (by omega)
  rw [Aiy _ _ _ _ (by omega)]; simpa using y
 ·have : n = L.length := by omega
  subst this
  exact hq _ _ j a rfl ho
def setP (l : List Mw) (most turn : Int) : List Af :=
 let L := ((if l = [] then [⟨turn, 0, 0, 0, 0⟩] else l).take most.toNat).mapIdx Bw
 setPs L.length turn L.length L
theorem Are (hE : Ap E) {h : Aa} {vl : Value} {l : List Mw} (hl : Rd 5 Rn h vl l) {most turn : Int} (hm : 1 ≤ most) (hm2 : most ≤ 26) (ht : Lf turn) :
  ∃ v ys, callW E (.func (.func Ik) #[] #[]) [vl, .int .i64 most, .int .i64 turn] h = some (v, h ++ ys, []) ∧ RdO h.length 7 Az (h ++ ys) v (setP l most turn) := by
 have few := hl.few
 refine Ja hE.Apb rfl (RdO.movable Ayc _) (by simp) ?_
 simp only [Ah]
 (repeat' (first | (with_reducible refine A3 (fun _ => ?_) (fun _ => ?_) <;> try (exfalso; omega)) | simp -dsimp (disch := omega) only [↓EA, EB, Nat.reduceEqDiff, Nat.reduceAdd, Nat.reduceLeDiff, Nat.reduceMul, ↓reduceIte, reduceCtorEq, Ab, T9, eq_self, *, hl.len]))
 case' refine_1 =>
  refine Ard hE (fun b d => by simp at d; omega) (l := [⟨turn, 0, 0, 0, 0⟩]) (Rd.lit _ (by rw [Bk]; rfl) rfl (fun _ => rfl) (by simp) (by simp) (.inl rfl)) (by omega) hm2 rfl rfl rfl rfl rfl fun m h' p f t u a => ?_
  have f := (Pre.app h _).trans f
  have e : l = [] := List.length_eq_zero_iff.1 (by omega)
  have j : setP l most turn = setPs (List.mapIdx Bw (List.take most.toNat [⟨turn, 0, 0, 0, 0⟩])).length turn (List.mapIdx Bw (List.take most.toNat [⟨turn, 0, 0, 0, 0⟩])).length (List.mapIdx Bw (List.take most.toNat [⟨turn, 0, 0, 0, 0⟩])) := by simp [setP, e]
  have g : 0 < (List.mapIdx Bw (List.take most.toNat [⟨turn, 0, 0, 0, 0⟩])).length := by simp; omega
  have c : (List.mapIdx Bw (List.take most.toNat [⟨turn, 0, 0, 0, 0⟩])).length ≤ 26 := by simp; omega
  replace a := a.less (m' := h.length) (by simp)
 case' refine_2 =>
  refine Ard hE (fun b d => d) hl (by omega) hm2 rfl rfl rfl rfl rfl fun m h' p f t u a => ?_
  have e : l ≠ [] := fun e => by simp_all
  have j : setP l most turn = setPs (List.mapIdx Bw (List.take most.toNat l)).length turn (List.mapIdx Bw (List.take most.toNat l)).length (List.mapIdx Bw (List.take most.toNat l)) := by simp [setP, e]
  have g : 0 < (List.mapIdx Bw (List.take most.toNat l)).length := by have := List.length_pos_iff.2 e; simp; omega
  have c : (List.mapIdx Bw (List.take most.toNat l)).length ≤ 26 := by simp; omega
  replace a := a.less (Nat.le_refl _)
 all_goals
  rw [j]
  revert a g c
  generalize List.mapIdx Bw _ = L
  intro g c a
  clear j
  (repeat' simp -dsimp (disch := omega) only [↓EA, EB, Nat.reduceEqDiff, ↓reduceIte, eq_self, *, a.rd.len])
  refine Ayy hE f.le (fun b d => d) a ht g c rfl rfl rfl rfl fun n s r z y x => ?_
  (repeat' simp -dsimp (disch := omega) only [↓EA, EB, ↓reduceIte, eq_self, *])
  exact ⟨Pre.ex fun b o d => by rw [r b (GI.1 d).1]; exact f b o d, x.rdO⟩
end Go.L.Try
set_option maxHeartbeats 1000000
namespace Go.L.Try
open Go Go.L
variable {E : Env}
def Ff (c : UInt8) : Bool := decide ((97 ≤ c.toNat ∧ c.toNat ≤ 122) ∨ (65 ≤ c.toNat ∧ c.toNat ≤ 90) ∨ c.toNat = 95)
def Cp (c : UInt8) : Bool := decide (48 ≤ c.toNat ∧ c.toNat ≤ 57)
def Cx (c : UInt8) : Bool := Ff c || Cp c || decide (c.toNat = 46) || decide (c.toNat = 45)
theorem Zy (hE : Ap E) (h : Aa) (c : UInt8) : callW E (.func (.func Ev) #[] #[]) [.int .u8 c.toNat] h = some (.bool (Ff c), h, []) := by
 refine Ai hE.Adq rfl (by simp) ?_
 simp only [Ah]
 (repeat' (first | (with_reducible refine A1 (fun _ => ?_) (fun _ => ?_) <;> try (exfalso; omega)) | (with_reducible refine A2 (fun _ => ?_) (fun _ => ?_) <;> try (exfalso; omega)) | simp -dsimp (disch := omega) only [↓EA, EB, Nat.reduceEqDiff, ↓reduceIte, reduceCtorEq, eq_self, *]))
 all_goals (unfold Ff; congr 1; first | (rw [decide_eq_decide]; omega) | (symm; rw [decide_eq_true_eq]; omega) | (symm; rw [decide_eq_false_iff_not]; omega))
theorem U8 (hE : Ap E) (h : Aa) (c : UInt8) : callW E (.func (.func Ef) #[] #[]) [.int .u8 c.toNat] h = some (.bool (Cp c), h, []) := by
 refine Ai hE.Aft rfl (by simp) ?_
 simp only [Ah]
 (repeat' (first | (with_reducible refine A1 (fun _ => ?_) (fun _ => ?_) <;> try (exfalso; omega)) | simp -dsimp (disch := omega) only [↓EA, EB, Nat.reduceEqDiff, ↓reduceIte, reduceCtorEq, eq_self, *]))
 all_goals (unfold Cp; congr 1; first | (rw [decide_eq_decide]; omega) | (symm; rw [decide_eq_true_eq]; omega) | (symm; rw [decide_eq_false_iff_not]; omega))
def runEnd (p : UInt8 → Bool) (s : ByteArray) (e : Nat) : Nat := e + (((bs s).drop e).takeWhile p).length
theorem Q4 {p : UInt8 → Bool} {s : ByteArray} {e : Nat} (h : e < s.size) (hp : p (Bg s e) = true) : runEnd p s e = runEnd p s (e + 1) := by
 unfold runEnd
 have a : e < (bs s).length := by rw [Ii]; exact h
 have c : Bg s e = (bs s)[e] := by unfold Bg; rw [List.getD_eq_getElem?_getD, show ((e : Int)).toNat = e by omega, List.getElem?_eq_getElem a]; rfl
 rw [List.drop_eq_getElem_cons a, List.takeWhile_cons, ← c, hp]
 simp only [if_true, List.length_cons]; omega
theorem Q3 {p : UInt8 → Bool} {s : ByteArray} {e : Nat} (h : e < s.size) (hp : p (Bg s e) = false) : runEnd p s e = e := by
 unfold runEnd
 have a : e < (bs s).length := by rw [Ii]; exact h
 have c : Bg s e = (bs s)[e] := by unfold Bg; rw [List.getD_eq_getElem?_getD, show ((e : Int)).toNat = e by omega, List.getElem?_eq_getElem a]; rfl
 rw [List.drop_eq_getElem_cons a, List.takeWhile_cons, ← c, hp]
 simp
theorem Tj {p : UInt8 → Bool} {s : ByteArray} {e : Nat} (h : s.size ≤ e) : runEnd p s e = e := by
 unfold runEnd
 rw [List.drop_of_length_le (by rw [Ii]; exact h)]; simp
theorem Vz {p : UInt8 → Bool} {s : ByteArray} {e : Nat} (h : e ≤ s.size) : e ≤ runEnd p s e ∧ runEnd p s e ≤ s.size := by
 unfold runEnd
 have a : (((bs s).drop e).takeWhile p).length ≤ ((bs s).drop e).length := (List.takeWhile_sublist p).length_le
 rw [List.length_drop, Ii] at a
 omega
theorem Aza (hE : Ap E) {W : Nat → Prop} {h0 : Aa} {s : ByteArray} (hs : s.size < 1152921504606846976) {e0 : Nat} (he0 : e0 ≤ s.size) {v1 v4 v5 : Value} {Q : Ex → Fr → Aa → Prop} {fr : Fr}
  (g0 : get fr 0 = .string s) (g1 : get fr 1 = v1) (g4 : get fr 4 = v4) (g5 : get fr 5 = v5) (g6 : get fr 6 = .int .i64 e0)
  (hq : ∀ fr', get fr' 0 = .string s → get fr' 1 = v1 → get fr' 4 = v4 → get fr' 5 = v5 → get fr' 6 = .int .i64 (runEnd Cx s e0) → Q (.exit 0) fr' h0) :
  WO W (iterW (code (callW E) iterW 98 Mp) fr h0) Q := by
 refine WO.loop (fun e fr h' => h' = h0 ∧ e ≤ s.size ∧ get fr 0 = .string s ∧ get fr 1 = v1 ∧ get fr 4 = v4 ∧ get fr 5 = v5 ∧ get fr 6 = .int .i64 e ∧ runEnd Cx s e0 = runEnd Cx s e) (fun e => s.size - e) ?_ e0 ⟨rfl, he0, g0, g1, g4, g5, g6, rfl⟩
 rintro e fr h' ⟨rfl, j, g0, g1, g4, g5, g6, a⟩
 unfold Mp
 by_cases d : e < s.size
 ·have g : ∀ k : IntKind, Z5 (.string s) (.int k e) = some (.int .u8 ((Bg s e).toNat : Int)) := fun k => Wf (by omega) (by omega)
  by_cases f : Cx (Bg s e) = true
  ·have : runEnd Cx s e0 = runEnd Cx s (e + 1) := a.trans (Q4 d f)
   clear a hq
   simp only [Cx, Bool.or_eq_true, decide_eq_true_eq] at f
   (repeat' (first | (with_reducible refine A1 (fun _ => ?_) (fun _ => ?_) <;> try (exfalso; omega)) | (with_reducible refine A2 (fun _ => ?_) (fun _ => ?_) <;> try (exfalso; omega)) | (with_reducible refine A3 (fun _ => ?_) (fun _ => ?_) <;> try (exfalso; omega)) | refine A6 (fun _ => ?_) (fun _ => ?_) | simp -dsimp (disch := omega) only [↓EA, EB, Nat.reduceEqDiff, ↓reduceIte, reduceCtorEq, eq_self, *, Zy hE, U8 hE]))
   all_goals first
    | exact Next.mk (e + 1) ⟨rfl, by omega, rfl, rfl, rfl, rfl, rfl, this⟩ (by omega)
    | (exfalso; simp_all; done)
    | (exfalso; simp_all; omega)
  ·have c := Q3 (p := Cx) d (by simpa using f)
   rw [c] at a
   rw [a] at hq
   clear a c
   simp only [Cx, Bool.or_eq_true, decide_eq_true_eq] at f
   (repeat' (first | (with_reducible refine A1 (fun _ => ?_) (fun _ => ?_) <;> try (exfalso; omega)) | (with_reducible refine A2 (fun _ => ?_) (fun _ => ?_) <;> try (exfalso; omega)) | (with_reducible refine A3 (fun _ => ?_) (fun _ => ?_) <;> try (exfalso; omega)) | refine A6 (fun _ => ?_) (fun _ => ?_) | simp -dsimp (disch := omega) only [↓EA, EB, Nat.reduceEqDiff, ↓reduceIte, reduceCtorEq, eq_self, *, Zy hE, U8 hE]))
   all_goals first
    | exact hq _ rfl rfl rfl rfl rfl
    | (exfalso; simp_all; done)
    | (exfalso; simp_all; omega)
 ·rw [Tj (p := Cx) (e := e) (by omega)] at a
  rw [a] at hq
  (repeat' (first | (with_reducible refine A1 (fun _ => ?_) (fun _ => ?_) <;> try (exfalso; omega)) | simp -dsimp (disch := omega) only [↓EA, EB, Nat.reduceEqDiff, ↓reduceIte, reduceCtorEq, eq_self, *]))
  exact hq _ rfl rfl rfl rfl rfl
theorem Ay9 (hE : Ap E) {W : Nat → Prop} {h0 : Aa} {s : ByteArray} (hs : s.size < 1152921504606846976) {e0 : Nat} (he0 : e0 ≤ s.size) {v1 v4 v5 : Value} {Q : Ex → Fr → Aa → Prop} {fr : Fr}
  (g0 : get fr 0 = .string s) (g1 : get fr 1 = v1) (g4 : get fr 4 = v4) (g5 : get fr 5 = v5) (g6 : get fr 6 = .int .i64 e0)
  (hq : ∀ fr', get fr' 0 = .string s → get fr' 1 = v1 → get fr' 4 = v4 → get fr' 5 = v5 → get fr' 6 = .int .i64 (runEnd Cp s e0) → Q (.exit 2) fr' h0) :
  WO W (iterW (code (callW E) iterW 98 Mo) fr h0) Q := by
 refine WO.loop (fun e fr h' => h' = h0 ∧ e ≤ s.size ∧ get fr 0 = .string s ∧ get fr 1 = v1 ∧ get fr 4 = v4 ∧ get fr 5 = v5 ∧ get fr 6 = .int .i64 e ∧ runEnd Cp s e0 = runEnd Cp s e) (fun e => s.size - e) ?_ e0 ⟨rfl, he0, g0, g1, g4, g5, g6, rfl⟩
 rintro e fr h' ⟨rfl, l, g0, g1, g4, g5, g6, a⟩
 unfold Mo
 by_cases d : e < s.size
 ·have j : ∀ k : IntKind, Z5 (.string s) (.int k e) = some (.int .u8 ((Bg s e).toNat : Int)) := fun k => Wf (by omega) (by omega)
  by_cases f : Cp (Bg s e) = true
  ·have : runEnd Cp s e0 = runEnd Cp s (e + 1) := a.trans (Q4 d f)
   clear a hq
   (repeat' (first | (with_reducible refine A1 (fun _ => ?_) (fun _ => ?_) <;> try (exfalso; omega)) | simp -dsimp (disch := omega) only [↓EA, EB, Nat.reduceEqDiff, ↓reduceIte, reduceCtorEq, eq_self, *, U8 hE]))
   all_goals exact Next.mk (e + 1) ⟨rfl, by omega, rfl, rfl, rfl, rfl, rfl, this⟩ (by omega)
  ·have c := Q3 (p := Cp) d (by simpa using f)
   rw [c] at a
   rw [a] at hq
   clear a c
   have g : Cp (Bg s e) = false := by simpa using f
   clear f
   (repeat' (first | (with_reducible refine A1 (fun _ => ?_) (fun _ => ?_) <;> try (exfalso; omega)) | simp -dsimp (disch := omega) only [↓EA, EB, Nat.reduceEqDiff, ↓reduceIte, reduceCtorEq, eq_self, *, U8 hE]))
   all_goals exact hq _ rfl rfl rfl rfl rfl
 ·rw [Tj (p := Cp) (e := e) (by omega)] at a
  rw [a] at hq
  (repeat' (first | (with_reducible refine A1 (fun _ => ?_) (fun _ => ?_) <;> try (exfalso; omega)) | simp -dsimp (disch := omega) only [↓EA, EB, Nat.reduceEqDiff, ↓reduceIte, reduceCtorEq, eq_self, *]))
  exact hq _ rfl rfl rfl rfl rfl
theorem Ai7 {p : UInt8 → Bool} {s : ByteArray} {e j : Nat} (h1 : e ≤ j) (h2 : j < runEnd p s e) : p (Bg s j) = true := by
 unfold runEnd at h2
 have g : (((bs s).drop e).takeWhile p).length ≤ ((bs s).drop e).length := (List.takeWhile_sublist p).length_le
 rw [List.length_drop] at g
 have c : j - e < (((bs s).drop e).takeWhile p).length := by omega
 have f : (((bs s).drop e).takeWhile p)[j - e] ∈ ((bs s).drop e).takeWhile p := List.getElem_mem c
 have d := List.all_eq_true.1 (List.all_takeWhile (p := p) (l := (bs s).drop e)) _ f
 have m : (((bs s).drop e).takeWhile p)[j - e] = Bg s j := by
  have a := List.takeWhile_prefix p (l := (bs s).drop e)
  rw [a.getElem c, List.getElem_drop]
  unfold Bg
  rw [List.getD_eq_getElem?_getD, show ((j : Int)).toNat = j by omega, List.getElem?_eq_getElem (by omega)]
  simp only [show e + (j - e) = j by omega]; rfl
 rw [m] at d; exact d
def Abt (s : ByteArray) (a : Nat) : Nat → Int
 | 0 => 0
 | k + 1 => min (Abt s a k * 10 + ((Bg s ((a + k : Nat) : Int)).toNat - 48)) 1099511627776
theorem Amg {s : ByteArray} {a : Nat} : ∀ {k : Nat}, (∀ j, a ≤ j → j < a + k → Cp (Bg s j) = true) → 0 ≤ Abt s a k ∧ Abt s a k ≤ 1099511627776
 | 0, _ => by simp [Abt]
 | k + 1, h => by
  have e := Amg (k := k) fun j d h2 => h j d (by omega)
  have c := h (a + k) (by omega) (by omega)
  simp only [Cp, decide_eq_true_eq] at c
  simp only [Abt]; omega
theorem Ay8 (hE : Ap E) {W : Nat → Prop} {h0 : Aa} {s : ByteArray} (hs : s.size < 1152921504606846976) {a e : Nat} (hae : a ≤ e) (hes : e ≤ s.size) (hd : ∀ j, a ≤ j → j < e → Cp (Bg s j) = true) {b : Nat} (hW : W b) {x y z v4 : Value} (hb : h0[b]? = some (.cells [x, y, z, .int .i64 0] false)) {Q : Ex → Fr → Aa → Prop} {fr : Fr}
  (g0 : get fr 0 = .string s) (g1 : get fr 1 = .int .i64 a) (g4 : get fr 4 = v4) (g5 : get fr 5 = .pointer (some ⟨b, 0, none⟩)) (g6 : get fr 6 = .int .i64 e) (g10 : get fr 10 = .int .i64 a)
  (hq : ∀ fr', get fr' 0 = .string s → get fr' 1 = .int .i64 a → get fr' 4 = v4 → get fr' 5 = .pointer (some ⟨b, 0, none⟩) → get fr' 6 = .int .i64 e → Q (.exit 4) fr' (h0.set b (.cells [x, y, z, .int .i64 (Abt s a (e - a))] false))) :
  WO W (iterW (code (callW E) iterW 98 Mn) fr h0) Q := by
 have d := (GI.1 hb).1
 have c : h0 = h0.set b (.cells [x, y, z, .int .i64 0] false) := by
  apply List.ext_getElem?
  intro j
  by_cases e : b = j
  ·subst e; rw [List.getElem?_set_self d]; exact hb
  ·rw [Aq e]
 refine WO.loop (fun k fr h' => h' = h0.set b (.cells [x, y, z, .int .i64 (Abt s a k)] false) ∧ a + k ≤ e ∧ get fr 0 = .string s ∧ get fr 1 = .int .i64 a ∧ get fr 4 = v4 ∧ get fr 5 = .pointer (some ⟨b, 0, none⟩) ∧ get fr 6 = .int .i64 e ∧ get fr 10 = .int .i64 (a + k : Nat)) (fun k => e - a - k) ?_ 0 ⟨c, hae, g0, g1, g4, g5, g6, g10⟩
 rintro k fr h' ⟨rfl, p, g0, g1, g4, g5, g6, g10⟩
 clear c
 unfold Mn
 have o := Amg (s := s) (a := a) (k := k) fun j m h2 => hd j m (by omega)
 have l : (h0.set b (.cells [x, y, z, .int .i64 (Abt s a k)] false))[b]? = some (.cells [x, y, z, .int .i64 (Abt s a k)] false) := List.getElem?_set_self d
 by_cases f : a + k < e
 ·have n : ∀ k' : IntKind, Z5 (.string s) (.int k' (a + k : Nat)) = some (.int .u8 ((Bg s ((a + k : Nat) : Int)).toNat : Int)) := fun k => Wf (by omega) (by omega)
  have g := hd (a + k) (by omega) f
  simp only [Cp, decide_eq_true_eq] at g
  clear hd hq
  (repeat' (first | (with_reducible refine A3 (fun _ => ?_) (fun _ => ?_) <;> try (exfalso; omega)) | simp -dsimp (disch := omega) only [↓EA, EB, Nat.reduceEqDiff, Nat.reduceAdd, ↓reduceIte, reduceCtorEq, eq_self, *, List.set_set]))
  exact Next.mk (k + 1) ⟨rfl, by omega, rfl, rfl, rfl, rfl, rfl, rfl⟩ (by omega)
 ·have : e - a = k := by omega
  rw [this] at hq
  (repeat' (first | (with_reducible refine A3 (fun _ => ?_) (fun _ => ?_) <;> try (exfalso; omega)) | simp -dsimp (disch := omega) only [↓EA, EB, Nat.reduceEqDiff, ↓reduceIte, reduceCtorEq, eq_self, *]))
  exact hq _ rfl rfl rfl rfl rfl
structure Tok where
 kind : Int
 at' : Int
 text : ByteArray
 n : Int
instance : Inhabited Tok := ⟨⟨0, 0, ⟨#[]⟩, 0⟩⟩
def Aaf (t : Tok) : List Value := [.int .i64 t.kind, .int .i64 t.at', .string t.text, .int .i64 t.n]
def Ain (s : ByteArray) (a : Nat) : Tok :=
 if Ff (Bg s a) then ⟨1, a, s.extract a (runEnd Cx s (a + 1)), 0⟩
 else if Cp (Bg s a) then ⟨2, a, s.extract a (runEnd Cp s (a + 1)), Abt s a (runEnd Cp s (a + 1) - a)⟩
 else if ((Bg s a).toNat : Int) = 61 then ⟨3, a, s.extract a (a + 1), 0⟩
 else if ((Bg s a).toNat : Int) = 10 then ⟨4, a, s.extract a (a + 1), 0⟩
 else ⟨0, 0, ⟨#[]⟩, 0⟩
theorem A0w (hE : Ap E) (h : Aa) {s : ByteArray} (hs : s.size < 1152921504606846976) {a : Nat} (ha : a < s.size) :
  callW E (.func (.func Km) #[] #[]) [.string s, .int .i64 a] h = some (.agg (Aaf (Ain s a)).toArray, h, []) := by
 refine Ai hE.Apc rfl (by simp) ?_
 have u : ∀ k' : IntKind, Z5 (.string s) (.int k' a) = some (.int .u8 ((Bg s a).toNat : Int)) := fun k => Wf (by omega) (by omega)
 have r := Vz (p := Cx) (s := s) (e := a + 1) (by omega)
 have f := Vz (p := Cp) (s := s) (e := a + 1) (by omega)
 have o : Cp (Bg s a) = true → ∀ j, a ≤ j → j < runEnd Cp s (a + 1) → Cp (Bg s j) = true := fun t j v h2 => by
  rcases Nat.lt_or_ge a j with h3 | h3
  ·exact Ai7 (e := a + 1) (by omega) h2
  ·have : j = a := by omega
   subst this; exact t
 simp only [Ah]
 (repeat' (first | (with_reducible refine A3 (fun _ => ?_) (fun _ => ?_) <;> try (exfalso; omega)) | refine A4 (fun _ => ?_) (fun _ => ?_) | simp -dsimp (disch := omega) only [↓EA, EB, Nat.reduceEqDiff, Nat.reduceAdd, Nat.reduceLeDiff, ↓reduceIte, reduceCtorEq, Ab, eq_self, *, Zy hE, U8 hE]))
 ·refine Aza hE hs (e0 := a + 1) (by omega) rfl rfl rfl rfl rfl fun c d m g n l => ?_
  (repeat' simp -dsimp (disch := omega) only [↓EA, EB, Nat.reduceEqDiff, Nat.reduceAdd, Nat.reduceLeDiff, ↓reduceIte, reduceCtorEq, eq_self, *])
  simp [Ain, Aaf, Ac, *]
 ·refine Ay9 hE hs (e0 := a + 1) (by omega) rfl rfl rfl rfl rfl fun c d m g n l => ?_
  (repeat' simp -dsimp (disch := omega) only [↓EA, EB, Nat.reduceEqDiff, ↓reduceIte, reduceCtorEq, eq_self, *])
  refine Ay8 hE hs (a := a) (e := runEnd Cp s (a + 1)) (b := h.length + 1) (by omega) (by omega) (o ‹_›) (by omega) (by rw [Og]; rfl) rfl rfl rfl rfl rfl rfl fun c d m g n l => ?_
  (repeat' simp -dsimp (disch := omega) only [↓EA, EB, Nat.reduceEqDiff, Nat.reduceAdd, Nat.reduceLeDiff, ↓reduceIte, reduceCtorEq, eq_self, *])
  simp [Ain, Aaf, Ac, *]
 all_goals simp [Ain, Aaf, Ac, *]
def P0 (s : ByteArray) : Bool := match bs s with
 | [] => false
 | c :: r => Ff c && r.all Cx
theorem Ng {α : Type} {p : α → Bool} : ∀ {l : List α}, (l.takeWhile p).length = l.length ↔ l.all p = true
 | [] => by simp
 | x :: r => by
  rw [List.takeWhile_cons, List.all_cons]
  by_cases h : p x = true
  ·rw [if_pos h, List.length_cons, List.length_cons, h, Bool.true_and, ← Ng]; omega
  ·rw [if_neg h]; simp [h]
theorem Ahr {s : ByteArray} {e : Nat} (h : e ≤ s.size) : bs (s.extract 0 e) = bs s ↔ e = s.size := by
 have a : bs (s.extract 0 e) = (bs s).take e := by simp [bs, ByteArray.data_extract]
 rw [a]
 constructor
 ·intro h2
  have := congrArg List.length h2
  rw [List.length_take, Ii] at this; omega
 ·intro h2; rw [h2, ← Ii, List.take_length]
theorem Aqz {s : ByteArray} (h : 0 < s.size) : P0 s = decide ((Ain s 0).kind = 1 ∧ bs (Ain s 0).text = bs s) := by
 have f : 0 < (bs s).length := by rw [Ii]; exact h
 match hb : bs s with
 | [] => rw [hb] at f; simp at f
 | c :: r =>
  have l : Bg s (0 : Nat) = c := by simp [Bg, hb]
  have g : s.size = r.length + 1 := by rw [← Ii, hb]; rfl
  unfold P0 Ain
  rw [l, hb]
  dsimp only
  by_cases a : Ff c = true
  ·rw [if_pos a, a, Bool.true_and]
   have h2 := Ahr (s := s) (e := runEnd Cx s 1) (Vz (p := Cx) (by omega)).2
   dsimp only [Nat.zero_add]
   have j : runEnd Cx s 1 = s.size ↔ r.all Cx = true := by
    rw [← Ng]; unfold runEnd; rw [hb, List.drop_succ_cons, List.drop_zero]; omega
   rw [← hb, Bool.eq_iff_iff, decide_eq_true_eq, h2, j]; simp
  ·rw [if_neg a]
   have d : Ff c = false := by simpa using a
   rw [d, Bool.false_and]
   symm; rw [decide_eq_false_iff_not]
   split
   ·simp
   ·split
    ·simp
    ·split <;> simp
theorem Ayl (hE : Ap E) (h : Aa) {s : ByteArray} (hs : s.size < 1152921504606846976) :
  callW E (.func (.func I8) #[] #[]) [.string s] h = some (.bool (P0 s), h, []) := by
 refine Ai hE.Ajh rfl (by simp) ?_
 simp only [Ah]
 rcases Nat.eq_zero_or_pos s.size with h0 | h0
 ·have e : bs s = [] := List.length_eq_zero_iff.1 (by rw [Ii]; exact h0)
  have d : bs ⟨#[]⟩ = [] := rfl
  (repeat' simp -dsimp (disch := omega) only [↓EA, EB, ↓reduceIte, reduceCtorEq, eq_self, *, Ac2])
  simp [P0, e]
 ·have c := fun h => A0w hE h hs (a := 0) h0
  have e : bs s ≠ [] := fun e => by rw [← Ii, e] at h0; simp at h0
  have d : bs ⟨#[]⟩ = [] := rfl
  rw [Aqz h0]
  simp only [Aaf, Int.ofNat_zero] at c
  (repeat' (first | (with_reducible refine A1 (fun _ => ?_) (fun _ => ?_) <;> try (exfalso; omega)) | simp -dsimp (disch := omega) only [↓EA, EB, Nat.reduceEqDiff, Nat.reduceAdd, ↓reduceIte, reduceCtorEq, Ab, eq_self, *, Ac2]))
  all_goals simp [*]
end Go.L.Try
namespace Go.L.Try
open Go Go.L
variable {E : Env}
def Bh (t : Af) : Prop := P0 t.name = true ∧ t.name.size ≤ 32 ∧ (1 ≤ t.C ∧ t.C ≤ 2147483647) ∧ (1 ≤ t.T ∧ t.T ≤ 2147483647) ∧ (1 ≤ t.D ∧ t.D ≤ 2147483647) ∧ (1 ≤ t.Q ∧ t.Q ≤ 2147483647) ∧ (0 ≤ t.J ∧ t.J ≤ 2147483647) ∧ 1 ≤ t.P ∧ t.P ≤ 1048576
instance (t : Af) : Decidable (Bh t) := by unfold Bh; infer_instance
def Jc (t : Af) : Prop := t.Q ≤ t.C ∧ t.C + t.J ≤ t.D ∧ t.D ≤ t.T
instance (t : Af) : Decidable (Jc t) := by unfold Jc; infer_instance
def G5 (t : Af) : Int := if Bh t then if Jc t then 0 else 12 else 11
theorem Axb (hE : Ap E) (h : Aa) (t : Af) (hs : t.name.size < 1152921504606846976) :
    callW E (.func (.func H7) #[] #[]) [.agg (Az t).toArray] h = some (.int .i64 (G5 t), h, []) := by
  refine Ai hE.Afs rfl (by simp) ?_
  have c := fun h => Ayl hE h hs
  simp only [Ah]
  (repeat' (first | (with_reducible refine A2 (fun _ => ?_) (fun _ => ?_) <;> try (exfalso; omega)) | (with_reducible refine A3 (fun _ => ?_) (fun _ => ?_) <;> try (exfalso; omega)) | refine A6 (fun _ => ?_) (fun _ => ?_) | simp -dsimp (disch := omega) only [↓EA, EB, Nat.reduceEqDiff, ↓reduceIte, Ab, eq_self, *, Az, A2s hE]))
  all_goals
    congr 1
    by_cases a : Bh t
    · by_cases h2 : Jc t
      · simp only [G5, a, h2, if_true] <;>
        (first | rfl | (exfalso; unfold Bh Jc at *; simp_all; done) | (exfalso; unfold Bh Jc at *; simp_all; omega))
      · simp only [G5, a, h2, if_true, if_false] <;>
        (first | rfl | (exfalso; unfold Bh Jc at *; simp_all; done) | (exfalso; unfold Bh Jc at *; simp_all; omega))
    · simp only [G5, a, if_false] <;>
      (first | rfl | (exfalso; unfold Bh at *; simp_all; done) | (exfalso; unfold Bh at *; simp_all; omega))
def Jr (l : List Af) (i : Int) : Nat → Bool
  | 0 => false
  | k + 1 => Jr l i k || decide (bs (atI l (k : Int)).name = bs (atI l i).name ∨ (atI l (k : Int)).P = (atI l i).P)
def Bm (l : List Af) : Nat → Int → Int × Int
  | 0, i => (i, 0)
  | n + 1, i => if G5 (atI l i) ≠ 0 then (i, G5 (atI l i)) else if Jr l i i.toNat then (i, 13) else Bm l n (i + 1)
def A0 (l : List Af) : Int × Int := if l.length = 0 ∨ 1024 < l.length then (0, 14) else Bm l l.length 0
theorem Akc {l : List Af} {i : Int} {k j : Nat} (h : k ≤ j) (hc : Jr l i k = true) : Jr l i j = true := by
  induction h with
  | refl => exact hc
  | step _ ih => simp only [Jr, ih, Bool.true_or]
theorem A16 (hE : Ap E) {W : Nat → Prop} {h0 : Aa} {vl : Value} {l : List Af} (hl : Rd 7 Az h0 vl l) {i : Nat} (hi : i < l.length) {b : Nat} {x y : Value} (hb : h0[b]? = some (.cells [x, y] false)) (hW : W b) {Q : Ex → Fr → Aa → Prop} {fr : Fr}
    (g0 : get fr 0 = vl) (g2 : get fr 2 = .pointer (some ⟨b, 0, none⟩)) (g3 : get fr 3 = .int .i64 i) (g5 : get fr 5 = .int .i64 0)
    (hq1 : Jr l i i = false → ∀ fr', get fr' 0 = vl → get fr' 2 = .pointer (some ⟨b, 0, none⟩) → get fr' 3 = .int .i64 i → Q (.exit 2) fr' h0)
    (hq2 : Jr l i i = true → ∀ fr', get fr' 2 = .pointer (some ⟨b, 0, none⟩) → Q .ret fr' (h0.set b (.cells [.int .i64 i, .int .i64 13] false))) :
    WO W (iterW (code (callW E) iterW 65 G6) fr h0) Q := by
  have few := hl.few
  refine WO.loop (fun k fr h' => h' = h0 ∧ k ≤ i ∧ Jr l i k = false ∧ get fr 0 = vl ∧ get fr 2 = .pointer (some ⟨b, 0, none⟩) ∧ get fr 3 = .int .i64 i ∧ get fr 5 = .int .i64 k) (fun k => i - k) ?_ 0 ⟨rfl, Nat.zero_le _, rfl, g0, g2, g3, g5⟩
  rintro k fr h' ⟨rfl, d, c, g0, g2, g3, g5⟩
  unfold G6
  rcases Nat.lt_or_ge k i with hlt | hge
  · have a : Jr l i (k + 1) = decide (bs (atI l (k : Int)).name = bs (atI l i).name ∨ (atI l (k : Int)).P = (atI l i).P) := by simp [Jr, c]
    clear hq1
    have hq2 := fun h => hq2 (Akc (k := k + 1) (by omega) h)
    rw [a] at hq2
    simp only [decide_eq_true_eq] at hq2
    (repeat' (first | (with_reducible refine A2 (fun _ => ?_) (fun _ => ?_) <;> try (exfalso; omega)) | (with_reducible refine A3 (fun _ => ?_) (fun _ => ?_) <;> try (exfalso; omega)) | simp -dsimp (disch := omega) only [↓EA, EB, Nat.reduceEqDiff, Nat.reduceAdd, Nat.reduceLeDiff, ↓reduceIte, reduceCtorEq, eq_self, *, hl.ixs, hl.ld, hl.ld0, Az, Ac2]))
    · exact hq2 (.inl ‹_›) _ rfl
    · exact hq2 (.inr ‹_›) _ rfl
    · exact Next.mk (k + 1) ⟨rfl, by omega, by rw [a]; simp [*], rfl, rfl, rfl, rfl⟩ (by omega)
  · have : k = i := by omega
    subst this
    (repeat' (first | (with_reducible refine A3 (fun _ => ?_) (fun _ => ?_) <;> try (exfalso; omega)) | simp -dsimp (disch := omega) only [↓EA, EB, Nat.reduceEqDiff, ↓reduceIte, reduceCtorEq, eq_self, *]))
    exact hq1 c _ rfl rfl rfl
theorem Akd (hE : Ap E) {h : Aa} {vl : Value} {l : List Af} (hl : Rd 7 Az h vl l) (hs : ∀ t ∈ l, t.name.size < 1152921504606846976) :
    callW E (.func (.func Eu) #[] #[]) [vl] h = some (.agg #[.int .i64 (A0 l).1, .int .i64 (A0 l).2], h, []) := by
  refine Ai hE.Y8 rfl (by simp) ?_
  have few := hl.few
  simp only [Ah]
  (repeat' (first | (with_reducible refine A2 (fun _ => ?_) (fun _ => ?_) <;> try (exfalso; omega)) | (with_reducible refine A3 (fun _ => ?_) (fun _ => ?_) <;> try (exfalso; omega)) | simp -dsimp (disch := omega) only [↓EA, EB, Nat.reduceEqDiff, Nat.reduceAdd, ↓reduceIte, reduceCtorEq, Ab, eq_self, *, hl.len]))
  · have d : A0 l = (0, 14) := if_pos (by omega)
    simp [d]
  · have d : A0 l = (0, 14) := if_pos (by omega)
    simp [d]
  · have d : A0 l = Bm l l.length 0 := by unfold A0; rw [if_neg (by omega)]
    rw [d]
    refine WO.loop (fun i fr h' => h' = h ++ [LObj.cells [.int .i64 0, .int .i64 0] false] ∧ i ≤ l.length ∧ Bm l l.length 0 = Bm l (l.length - i) i ∧ get fr 0 = vl ∧ get fr 2 = .pointer (some ⟨h.length, 0, none⟩) ∧ get fr 3 = .int .i64 i) (fun i => l.length - i) ?_ 0 ⟨rfl, Nat.zero_le _, rfl, rfl, rfl, rfl⟩
    rintro i fr h' ⟨rfl, o, c, j, g, n⟩
    unfold Lg
    have a := hl.app [LObj.cells [.int .i64 0, .int .i64 0] false]
    rcases Nat.lt_or_ge i l.length with hlt | hge
    · have m := fun h => Axb hE h (atI l i) (hs _ (Aj (by omega) (by omega)))
      have f : l.length - i = (l.length - (i + 1)) + 1 := by omega
      rw [f] at c
      simp only [Bm] at c
      rw [c]
      clear c d f
      (repeat' (first | (with_reducible refine A3 (fun _ => ?_) (fun _ => ?_) <;> try (exfalso; omega)) | simp -dsimp (disch := omega) only [↓EA, EB, Nat.reduceEqDiff, Nat.reduceAdd, Nat.reduceLeDiff, ↓reduceIte, reduceCtorEq, eq_self, *, a.len, a.ixs, a.lda]))
      · simp [*]
      · refine A16 hE a hlt (b := h.length) (by rw [Bk]; rfl) (Nat.le_refl _) rfl rfl rfl rfl (fun c e j g n => ?_) (fun c e g => ?_)
        · (repeat' simp -dsimp (disch := omega) only [↓EA, EB, Nat.reduceEqDiff, ↓reduceIte, reduceCtorEq, eq_self, *])
          refine Next.mk (i + 1) ⟨rfl, by omega, ?_, rfl, rfl, rfl⟩ (by omega)
          rw [if_neg (by simp [*]), if_neg (by simpa using c)]; rfl
        · (repeat' simp -dsimp (disch := omega) only [EB, Nat.reduceAdd, ↓reduceIte, eq_self, *])
          simp [*]
    · have : i = l.length := by omega
      subst this
      rw [c]
      (repeat' (first | (with_reducible refine A3 (fun _ => ?_) (fun _ => ?_) <;> try (exfalso; omega)) | simp -dsimp (disch := omega) only [↓EA, EB, Nat.reduceEqDiff, Nat.reduceAdd, Nat.reduceLeDiff, ↓reduceIte, reduceCtorEq, eq_self, *, a.len]))
      simp [Bm]
def F6 (t : Af) : Prop := Bh t ∧ Jc t
theorem Vd {l : List Af} : ∀ {n : Nat} {i : Int}, (Bm l n i).2 = 0 → ∀ j : Nat, j < n → G5 (atI l (i + j)) = 0
  | 0, i, _, j, hj => by omega
  | n + 1, i, h, j, hj => by
    unfold Bm at h
    split at h
    · rename_i a; exact absurd h a
    · split at h
      · cases h
      · rename_i a _
        cases j with
        | zero => have : G5 (atI l i) = 0 := by simpa using a
                  simpa using this
        | succ j =>
          have := Vd h j (by omega)
          rw [show i + ((j + 1 : Nat) : Int) = i + 1 + (j : Int) by omega]; exact this
theorem Dj {l : List Af} (h : (A0 l).2 = 0) : 0 < l.length ∧ l.length ≤ 1024 ∧ ∀ t ∈ l, F6 t := by
  unfold A0 at h
  split at h
  · cases h
  · rename_i e
    refine ⟨by omega, by omega, fun t d => ?_⟩
    obtain ⟨j, c, rfl⟩ := List.getElem_of_mem d
    have a := Vd h j c
    rw [show (0 : Int) + (j : Int) = (j : Int) by omega, Ax c] at a
    unfold G5 at a
    split at a
    · split at a
      · exact ⟨‹_›, ‹_›⟩
      · cases a
    · cases a
end Go.L.Try
set_option maxRecDepth 100000
namespace Go.L.Try
open Go Go.L
def Qt (l : List Af) : Prop := (A0 l).2 = 0
instance (l : List Af) : Decidable (Qt l) := inferInstanceAs (Decidable (_ = _))
theorem Wk (l : List Af) (i : Int) : ∀ k : Nat, Jr l i k = false ↔ ∀ j : Nat, j < k → bs (atI l (j : Int)).name ≠ bs (atI l i).name ∧ (atI l (j : Int)).P ≠ (atI l i).P
 | 0 => by simp [Jr]
 | k + 1 => by
  rw [Jr, Bool.or_eq_false_iff, Wk l i k, decide_eq_false_iff_not]
  constructor
  ·rintro ⟨a, h2⟩ j c
   rcases Nat.lt_or_ge j k with h | h
   ·exact a j h
   ·obtain rfl : j = k := by omega
    exact ⟨fun e => h2 (.inl e), fun e => h2 (.inr e)⟩
  ·intro h
   exact ⟨fun j c => h j (by omega), fun e => e.elim (h k (by omega)).1 (h k (by omega)).2⟩
theorem checkP_zero {t : Af} : G5 t = 0 ↔ F6 t := by
 unfold G5 F6
 constructor
 ·intro h
  split at h
  ·split at h
   ·exact ⟨‹_›, ‹_›⟩
   ·cases h
  ·cases h
 ·rintro ⟨h1, h2⟩; rw [if_pos h1, if_pos h2]
theorem Tb (l : List Af) : ∀ (n : Nat) (i : Nat), (Bm l n (i : Int)).2 = 0 ↔ ∀ j : Nat, j < n → F6 (atI l ((i + j : Nat) : Int)) ∧ Jr l ((i + j : Nat) : Int) (i + j) = false
 | 0, i => by simp [Bm]
 | n + 1, i => by
  have d := Tb l n (i + 1)
  unfold Bm
  constructor
  ·intro h j e
   split at h
   ·rename_i a; exact absurd h a
   ·rename_i a
    split at h
    ·cases h
    ·rename_i h2
     cases j with
     | zero => exact ⟨checkP_zero.1 (by simpa using a), by simpa using h2⟩
     | succ j =>
      have := d.1 (by simpa using h) j (by omega)
      rw [show i + (j + 1) = i + 1 + j by omega]; exact this
  ·intro h
   have c := h 0 (by omega)
   simp only [Nat.add_zero] at c
   rw [if_neg (by rw [checkP_zero.2 c.1]; simp), show ((i : Int)).toNat = i by omega, c.2]
   simp only [Bool.false_eq_true, if_false]
   have := d.2 (fun j e => by
    have := h (j + 1) (by omega)
    rw [show i + 1 + j = i + (j + 1) by omega]; exact this)
   simpa using this
theorem valid_iff {l : List Af} : Qt l ↔ (1 ≤ l.length ∧ l.length ≤ 1024) ∧ (∀ t ∈ l, F6 t) ∧ ∀ j k : Nat, j < k → k < l.length → bs (atI l (j : Int)).name ≠ bs (atI l (k : Int)).name ∧ (atI l (j : Int)).P ≠ (atI l (k : Int)).P := by
 unfold Qt A0
 have g := Tb l l.length 0
 simp only [Nat.zero_add, Int.natCast_zero] at g
 by_cases h : l.length = 0 ∨ 1024 < l.length
 ·rw [if_pos h]
  constructor
  ·intro e; cases e
  ·intro ⟨c, _⟩; omega
 ·rw [if_neg h]
  have d : (Bm l l.length 0).2 = 0 ↔ _ := g
  rw [d]
  constructor
  ·intro c
   refine ⟨by omega, fun t m => ?_, fun j k a f => ?_⟩
   ·obtain ⟨j, a, rfl⟩ := List.getElem_of_mem m
    have := (c j a).1
    rw [Ax a] at this; exact this
   ·exact (Wk l (k : Int) k).1 (c k f).2 j a
  ·rintro ⟨_, h2, n⟩ j a
   refine ⟨h2 _ (Aj (by omega) (by omega)), (Wk l (j : Int) j).2 fun k f => n k j f a⟩
theorem Aoy (n turn : Int) (k : Nat) (L : List Af) : (setPs n turn k L).length = L.length := by simp [setPs]
theorem Uf (l : List Mw) {most turn : Int} (hm : 1 ≤ most) : 0 < (setP l most turn).length ∧ ((setP l most turn).length : Int) ≤ most := by
 simp only [setP, Aoy, List.length_mapIdx, List.length_take]
 split
 ·simp; omega
 ·rename_i a
  have : 0 < l.length := List.length_pos_iff.2 a
  omega
theorem Yz {l : List Mw} {most turn : Int} {i : Nat} (hi : i < (setP l most turn).length) : ∃ s : Mw, (setP l most turn)[i] = { Bw i s with P := prio (setP l most turn).length turn i } := by
 unfold setP at hi ⊢
 dsimp only at hi ⊢
 generalize (if l = [] then [(⟨turn, 0, 0, 0, 0⟩ : Mw)] else l).take most.toNat = X at *
 have a : i < X.length := by simpa [setPs] using hi
 refine ⟨X[i], ?_⟩
 have c : i < (List.mapIdx Bw X).length := by simpa using a
 simp only [setPs, List.getElem_mapIdx, List.length_mapIdx]
 rw [if_pos a]
theorem Ak5 {n turn : Int} (hn : 0 < n) (i : Nat) : 1 ≤ prio n turn i ∧ prio n turn i ≤ n := by
 unfold prio
 have := C6 (i * Fv n turn + turn % n) n hn
 omega
theorem Aui {n a b : Int} (ha : 0 ≤ a ∧ a < n) (hb : 0 ≤ b ∧ b < n) (h : n ∣ a - b) : a = b := by
 have := Int.emod_eq_emod_iff_emod_sub_eq_zero.2 (Int.emod_eq_zero_of_dvd h)
 rwa [Int.emod_eq_of_lt ha.1 ha.2, Int.emod_eq_of_lt hb.1 hb.2] at this
theorem Arv {n turn : Int} (hn : 0 < n) {i j : Nat} (hi : (i : Int) < n) (hj : (j : Int) < n) (h : prio n turn i = prio n turn j) : i = j := by
 unfold prio at h
 have a : ((i : Int) * Fv n turn + turn % n) % n = ((j : Int) * Fv n turn + turn % n) % n := by omega
 have h2 := Int.dvd_of_emod_eq_zero (Int.emod_eq_emod_iff_emod_sub_eq_zero.1 a)
 have e : (i : Int) * Fv n turn + turn % n - ((j : Int) * Fv n turn + turn % n) = ((i : Int) - j) * Fv n turn := by rw [Int.sub_mul]; omega
 rw [e] at h2
 have g : n ∣ (i : Int) - j := by
  unfold Fv at h2
  split at h2
  ·have c : n ∣ ((i : Int) - j) * n := Int.dvd_mul_left _ _
   have f := Int.dvd_sub c h2
   have d : ((i : Int) - j) * n - ((i : Int) - j) * (n - 1) = (i : Int) - j := by rw [← Int.mul_sub]; rw [show n - (n - 1) = 1 by omega, Int.mul_one]
   rwa [d] at f
  ·rwa [Int.mul_one] at h2
 have := Aui (n := n) (by omega) (by omega) g
 omega
theorem Aio : ∀ i : Nat, i < 26 → P0 (Yj i) = true ∧ (Yj i).size = 2 := by decide +kernel
theorem Aoo : ∀ i : Nat, i < 26 → ∀ j : Nat, j < 26 → bs (Yj i) = bs (Yj j) → i = j := by decide +kernel
theorem Aiw (i : Nat) (hi : i < 26) (s : Mw) {p : Int} (hp : 1 ≤ p ∧ p ≤ 26) : F6 { Bw i s with P := p } := by
 have c := C6 s.C 4 (by decide)
 have h2 := C6 s.D 11 (by decide)
 have f := C6 s.T 7 (by decide)
 have d := C6 s.J (1 + s.C % 4 + s.D % 11 - (1 + s.C % 4) + 1) (by omega)
 have e := C6 s.Q (1 + s.C % 4) (by omega)
 obtain ⟨a, g⟩ := Aio i hi
 refine ⟨⟨a, by show (Yj i).size ≤ 32; omega, ?_⟩, ?_⟩
 ·simp only [Bw]; omega
 ·simp only [Jc, Bw]; omega
structure Ave (t : Af) : Prop where
 name : t.name.size = 2
 C : 1 ≤ t.C ∧ t.C ≤ 4
 D : t.C ≤ t.D ∧ t.D ≤ 14
 J : 0 ≤ t.J ∧ t.C + t.J ≤ t.D
 Q : 1 ≤ t.Q ∧ t.Q ≤ t.C
 T : t.D ≤ t.T ∧ t.T ≤ 20
 P : 1 ≤ t.P ∧ t.P ≤ 26
theorem Yy {l : List Mw} {most turn : Int} (hm : 1 ≤ most) (hm2 : most ≤ 26) {t : Af} (ht : t ∈ setP l most turn) : Ave t := by
 obtain ⟨i, a, rfl⟩ := List.getElem_of_mem ht
 obtain ⟨s, e⟩ := Yz a
 have f := Uf l (turn := turn) hm
 have m := Ak5 (n := (setP l most turn).length) (turn := turn) (by omega) i
 rw [e]
 have c := C6 s.C 4 (by decide)
 have h2 := C6 s.D 11 (by decide)
 have j := C6 s.T 7 (by decide)
 have d := C6 s.J (1 + s.C % 4 + s.D % 11 - (1 + s.C % 4) + 1) (by omega)
 have g := C6 s.Q (1 + s.C % 4) (by omega)
 exact ⟨rfl, by simp only [Bw]; omega, by simp only [Bw]; omega, by simp only [Bw]; omega, by simp only [Bw]; omega, by simp only [Bw]; omega, by simp only []; omega⟩
theorem Aiz (l : List Mw) {most : Int} (turn : Int) (hm : 1 ≤ most) (hm2 : most ≤ 26) : Qt (setP l most turn) := by
 have p := Uf l (turn := turn) hm
 have a : ∀ j : Nat, j < (setP l most turn).length → ∃ s : Mw, atI (setP l most turn) (j : Int) = { Bw j s with P := prio (setP l most turn).length turn j } := fun j c => by
  rw [Ax c]; exact Yz c
 refine valid_iff.2 ⟨by omega, fun t f => ?_, fun j k c o => ?_⟩
 ·obtain ⟨i, d, rfl⟩ := List.getElem_of_mem f
  obtain ⟨s, e⟩ := Yz d
  rw [e]
  have r := Ak5 (n := (setP l most turn).length) (turn := turn) (by omega) i
  exact Aiw i (by omega) s (by omega)
 ·obtain ⟨s, g⟩ := a j (by omega)
  obtain ⟨u, m⟩ := a k o
  rw [g, m]
  refine ⟨fun h => ?_, fun h => ?_⟩
  ·have := Aoo j (by omega) k (by omega) h
   omega
  ·have := Arv (n := (setP l most turn).length) (turn := turn) (by omega) (by omega) (by omega) h
   omega
end Go.L.Try
namespace Go.L.Try
open Go Go.L
def Dc (l : List Job) (task : Int) : Nat → Int
 | 0 => -1
 | k + 1 => if (atI l (k : Int)).task = task then k else Dc l task k
theorem Rg (l : List Job) (task : Int) : ∀ k, -1 ≤ Dc l task k ∧ Dc l task k < k
 | 0 => by simp [Dc]
 | k + 1 => by have := Rg l task k; unfold Dc; split <;> omega
end Go.L.Try
