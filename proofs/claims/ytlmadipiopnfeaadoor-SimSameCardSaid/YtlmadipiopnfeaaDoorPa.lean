/- THE REFERENCES' SETS OF TASKS: what cadencyref04 tells. -/
import Derived.Test.YtlmadipiopnfeaaDoorCode
import Derived.Test.YtlmadipiopnfeaaDoorVc
set_option linter.unusedVariables false
set_option linter.unusedSimpArgs false
set_option maxRecDepth 4000
namespace Go.L.Try
open Go Go.L
variable {E : Env}
theorem Aj2 (hE : Ay E) (h : Aa) (x n : Int) (hn : 0 < n) (hn' : n < 4611686018427387904) : callW E (.func (.func Ck) #[] #[]) [.int .i64 x, .int .i64 n] h = some (.int .i64 (x % n), h, []) := by
 have a := Q4 x n hn
 refine Am hE.Aj4 rfl (by simp) ?_
 simp -dsimp (disch := omega) only [↓EA, EB, Nat.reduceEqDiff, ↓reduceIte, reduceCtorEq, eq_self, Ak, Alm x n hn]
def F4 (n turn : Int) : Int := if 2 < n ∧ (turn.tdiv n) % 2 = 1 then n - 1 else 1
theorem Awq (hE : Ay E) (h : Aa) (n x : Int) (hn : 0 < n) (hn' : n < 4611686018427387904) (hx : Lr x) : callW E (.func (.func Ih) #[] #[]) [.int .i64 n, .int .i64 x] h = some (.int .i64 (F4 n x), h, []) := by
 refine Am hE.Agd rfl (by simp) ?_
 simp only [Ak]
 have c := fun y => Aj2 hE h y 2 (by decide) (by decide)
 have a : Lr (x.tdiv n) := Awu hn hx
 unfold Lr at a
 unfold F4
 (repeat' (first | (with_reducible refine A1 (fun _ => ?_) (fun _ => ?_) <;> try (exfalso; omega)) | (with_reducible refine A3 (fun _ => ?_) (fun _ => ?_) <;> try (exfalso; omega)) | simp -dsimp (disch := omega) only [↓EA, EB, Nat.reduceEqDiff, ↓reduceIte, reduceCtorEq, eq_self, *]))
 all_goals simp [*]
def Zc (i : Nat) : ByteArray := ⟨#[116]⟩ ++ ⟨#[UInt8.ofNat (97 + i)]⟩
def B0 (i : Nat) (s : Spec) : Ab := ⟨Zc i, 1 + s.C % 4, 1 + s.C % 4 + s.D % 11 + s.T % 7, 1 + s.C % 4 + s.D % 11, s.J % (1 + s.C % 4 + s.D % 11 - (1 + s.C % 4) + 1), 1 + s.Q % (1 + s.C % 4), 0⟩
theorem Ar5 (hE : Ay E) {W : Nat → Prop} {h0 : Aa} (hW : ∀ b, h0.length ≤ b → W b) {vl : Value} {l : List Spec} (hl : Rd 5 Vw h0 vl l) {most turn : Int} (hm : 0 ≤ most) (hm2 : most ≤ 26) {Q : Ex → Fr → Aa → Prop} {fr : Fr}
  (g0 : get fr 0 = vl) (g1 : get fr 1 = .int .i64 most) (g2 : get fr 2 = .int .i64 turn) (g7 : get fr 7 = .slice none 0 0) (g8 : get fr 8 = .int .i64 0)
  (hq : ∀ fr' h' vo, Pre h0 h' → get fr' 2 = .int .i64 turn → get fr' 7 = vo → OwnT h0.length 7 A0 h' vo ((l.take most.toNat).mapIdx B0) → Q (.exit 0) fr' h') :
  WO W (iterW (code (callW E) iterW 113 M9) fr h0) Q := by
 refine WO.loop (fun n fr h' => Pre h0 h' ∧ n ≤ l.length ∧ n ≤ most ∧ get fr 0 = vl ∧ get fr 1 = .int .i64 most ∧ get fr 2 = .int .i64 turn ∧ get fr 8 = .int .i64 n ∧ OwnT h0.length 7 A0 h' (get fr 7) ((l.take n).mapIdx B0)) (fun n => l.length - n) ?_ 0 ⟨Pre.refl _, Nat.zero_le _, by omega, g0, g1, g2, g8, by rw [g7]; exact OwnT.nil⟩
 rintro n fr h' ⟨c, g, f, e, h2, m, p, d⟩
 have few := hl.few
 have a := hl.pre c
 unfold M9
 generalize hvo : get fr 7 = vo at d
 have u := Eh (atI l ↑n).J (1 + (atI l ↑n).C % 4 + (atI l ↑n).D % 11 - (1 + (atI l ↑n).C % 4) + 1) (by omega)
 have v := Eh (atI l ↑n).Q (1 + (atI l ↑n).C % 4) (by omega)
 have r : ∀ x : UInt8, binOp .add .other (.string ⟨#[116]⟩) (.string ⟨#[x]⟩) = some (.string (⟨#[116]⟩ ++ ⟨#[x]⟩)) := fun x => Abg (by simp [ByteArray.size])
 (repeat' (first | (with_reducible refine A1 (fun _ => ?_) (fun _ => ?_) <;> try (exfalso; omega)) | (with_reducible refine A3 (fun _ => ?_) (fun _ => ?_) <;> try (exfalso; omega)) | simp -dsimp (disch := omega) only [↓EA, EB, Nat.reduceEqDiff, Nat.reduceAdd, Nat.reduceLeDiff, Nat.reduceMul, ↓reduceIte, reduceCtorEq, Ac, Sk, eq_self, *, a.len, a.ixs, a.ld, a.ld0, Aj2 hE, Vw]))
 ·refine Ak8 (sz := 7) (bytes := 64) (d.app _) (c.app' _) (Nat.le_refl _) (by have := c.le; simp; omega) hW (B0 n (atI l n)) ?_ rfl (by decide) (by decide) ?_ ?_
  ·simp -dsimp (disch := omega) only [EB, Nat.reduceAdd, Nat.reduceMul, ↓reduceIte]
   simp [B0, A0, Zc]
   rw [show (97 + (n : Int)).toNat = 97 + n by omega, UInt8.ofNat_add]; rfl
  ·simp; omega
  ·intro s j e h2 m t o
   (repeat' simp -dsimp (disch := omega) only [↓EA, EB, Nat.reduceEqDiff, ↓reduceIte, reduceCtorEq, eq_self, *])
   refine Next.mk (n + 1) ⟨h2, by omega, by omega, rfl, rfl, rfl, rfl, ?_⟩ (by omega)
   rw [take_snoc (by omega), List.mapIdx_append]
   simpa [get, Nat.min_eq_left g] using e
 ·refine hq _ _ _ c rfl rfl ?_
  have : most.toNat = n := by omega
  rw [this]; exact d
 ·refine hq _ _ _ c rfl rfl ?_
  have : l.take most.toNat = l.take n := by rw [List.take_of_length_le (by omega), List.take_of_length_le (by omega)]
  rw [this]; exact d
def prio (n turn : Int) (i : Nat) : Int := 1 + (i * F4 n turn + turn % n) % n
def setPs (n turn : Int) (k : Nat) (L : List Ab) : List Ab := L.mapIdx fun i t => if i < k then { t with P := prio n turn i } else t
theorem Ajm (n turn : Int) (L : List Ab) : setPs n turn 0 L = L := by unfold setPs; apply List.ext_getElem <;> simp
theorem Ajn (n turn : Int) (k : Nat) (L : List Ab) (hk : k < L.length) : setPs n turn (k + 1) L = (setPs n turn k L).set k { atI (setPs n turn k L) (k : Int) with P := prio n turn k } := by
 have c : k < (setPs n turn k L).length := by simp [setPs]; exact hk
 rw [Bw c]
 apply List.ext_getElem
 ·simp [setPs]
 ·intro i d h2
  simp only [setPs, List.getElem_mapIdx, List.getElem_set]
  simp only [setPs, List.length_mapIdx] at d
  by_cases e : k = i
  ·subst e; simp
  ·rw [if_neg e]
   by_cases a : i < k
   ·rw [if_pos (by omega), if_pos a]
   ·rw [if_neg (by omega), if_neg a]
theorem Arr (n x : Int) (hn : 0 < n) (hn2 : n ≤ 26) : 1 ≤ F4 n x ∧ F4 n x ≤ 26 := by unfold F4; split <;> omega
theorem A0g (hE : Ay E) {W : Nat → Prop} {m : Nat} {h0 : Aa} (hm0 : m ≤ h0.length) (hW : ∀ b, m ≤ b → W b) {L : List Ab} {vo : Value} (ho : OwnT m 7 A0 h0 vo L) {turn : Int} (ht : Lr turn) (hn : 0 < L.length) (hn2 : L.length ≤ 26) {Q : Ex → Fr → Aa → Prop} {fr : Fr}
  (g2 : get fr 2 = .int .i64 turn) (g7 : get fr 7 = vo) (g14 : get fr 14 = .int .i64 L.length) (g15 : get fr 15 = .int .i64 0)
  (hq : ∀ fr' h', (∀ b, b < m → h'[b]? = h0[b]?) → h'.length = h0.length → get fr' 7 = vo → OwnT m 7 A0 h' vo (setPs L.length turn L.length L) → Q (.exit 2) fr' h') :
  WO W (iterW (code (callW E) iterW 113 M8) fr h0) Q := by
 have few := ho.rd.few
 refine WO.loop (fun n fr h' => (∀ b, b < m → h'[b]? = h0[b]?) ∧ h'.length = h0.length ∧ n ≤ L.length ∧ get fr 2 = .int .i64 turn ∧ get fr 7 = vo ∧ get fr 14 = .int .i64 L.length ∧ get fr 15 = .int .i64 n ∧ OwnT m 7 A0 h' vo (setPs L.length turn n L)) (fun n => L.length - n) ?_ 0 ⟨fun _ _ => rfl, rfl, Nat.zero_le _, g2, g7, g14, g15, by rw [Ajm]; exact ho⟩
 rintro n fr h' ⟨j, a, s, h2, h7, u, p, ho⟩
 have g : (setPs L.length turn n L).length = L.length := by simp [setPs]
 have r := ho.rd
 unfold M8
 have o := Arr L.length turn (by omega) (by omega)
 have z := Eh turn L.length (by omega)
 have l : 0 ≤ (n : Int) * F4 L.length turn ∧ (n : Int) * F4 L.length turn ≤ 26 * 26 := by
  constructor
  ·exact Int.mul_nonneg (by omega) (by omega)
  ·exact Int.mul_le_mul (by omega) (by omega) (by omega) (by omega)
 have f := Eh (n * F4 L.length turn + turn % L.length) L.length (by omega)
 have e1 : ((n : Int) * F4 L.length turn + turn % L.length).tmod L.length = ((n : Int) * F4 L.length turn + turn % L.length) % L.length := Int.tmod_eq_emod_of_nonneg (by omega)
 have c := fun h => Awq hE h L.length turn (by omega) (by omega) ht
 (repeat' (first | (with_reducible refine A3 (fun _ => ?_) (fun _ => ?_) <;> try (exfalso; omega)) | simp -dsimp (disch := omega) only [↓EA, EB, Nat.reduceEqDiff, ↓reduceIte, eq_self, *, r.ixs, Aj2 hE]))
 ·refine Ady ho hW { atI (setPs L.length turn n L) (n : Int) with P := prio L.length turn n } (by omega) (by omega) (by decide) rfl rfl fun v x h2 y => ?_
  (repeat' simp -dsimp (disch := omega) only [↓EA, EB, Nat.reduceEqDiff, ↓reduceIte, eq_self, *])
  have d : setPs L.length turn n L ≠ [] := by intro e; rw [e] at g; simp at g; omega
  refine Next.mk (n + 1) ⟨fun b t => by rw [y b (by have := ho.ge d; omega), j b t], by omega, by omega, rfl, rfl, rfl, rfl, ?_⟩ (by omega)
  rw [Ajn _ _ _ _ (by omega)]; simpa using x
 ·have : n = L.length := by omega
  subst this
  exact hq _ _ j a rfl ho
def setP (l : List Spec) (most turn : Int) : List Ab :=
 let L := ((if l = [] then [⟨turn, 0, 0, 0, 0⟩] else l).take most.toNat).mapIdx B0
 setPs L.length turn L.length L
theorem A0l (hE : Ay E) {h : Aa} {vl : Value} {l : List Spec} (hl : Rd 5 Vw h vl l) {most turn : Int} (hm : 1 ≤ most) (hm2 : most ≤ 26) (ht : Lr turn) :
  ∃ v ys, callW E (.func (.func Kw) #[] #[]) [vl, .int .i64 most, .int .i64 turn] h = some (v, h ++ ys, []) ∧ RdO h.length 7 A0 (h ++ ys) v (setP l most turn) := by
 have few := hl.few
 refine Pw hE.Apw rfl (RdO.movable Azr _) (by simp) ?_
 simp only [Ak]
 (repeat' (first | (with_reducible refine A3 (fun _ => ?_) (fun _ => ?_) <;> try (exfalso; omega)) | simp -dsimp (disch := omega) only [↓EA, EB, Nat.reduceEqDiff, Nat.reduceAdd, Nat.reduceLeDiff, Nat.reduceMul, ↓reduceIte, reduceCtorEq, Ac, Sk, eq_self, *, hl.len]))
 case' refine_1 =>
  refine Ar5 hE (fun b d => by simp at d; omega) (l := [⟨turn, 0, 0, 0, 0⟩]) (Rd.lit _ (by rw [Bm]; rfl) rfl (fun _ => rfl) (by simp) (by simp) (.inl rfl)) (by omega) hm2 rfl rfl rfl rfl rfl fun m h' u f x t c => ?_
  have f := (Pre.app h _).trans f
  have e : l = [] := List.length_eq_zero_iff.1 (by omega)
  have j : setP l most turn = setPs (List.mapIdx B0 (List.take most.toNat [⟨turn, 0, 0, 0, 0⟩])).length turn (List.mapIdx B0 (List.take most.toNat [⟨turn, 0, 0, 0, 0⟩])).length (List.mapIdx B0 (List.take most.toNat [⟨turn, 0, 0, 0, 0⟩])) := by simp [setP, e]
  have g : 0 < (List.mapIdx B0 (List.take most.toNat [⟨turn, 0, 0, 0, 0⟩])).length := by simp; omega
  have a : (List.mapIdx B0 (List.take most.toNat [⟨turn, 0, 0, 0, 0⟩])).length ≤ 26 := by simp; omega
  replace c := c.less (m' := h.length) (by simp)
 case' refine_2 =>
  refine Ar5 hE (fun b d => d) hl (by omega) hm2 rfl rfl rfl rfl rfl fun m h' u f x t c => ?_
  have e : l ≠ [] := fun e => by simp_all
  have j : setP l most turn = setPs (List.mapIdx B0 (List.take most.toNat l)).length turn (List.mapIdx B0 (List.take most.toNat l)).length (List.mapIdx B0 (List.take most.toNat l)) := by simp [setP, e]
  have g : 0 < (List.mapIdx B0 (List.take most.toNat l)).length := by have := List.length_pos_iff.2 e; simp; omega
  have a : (List.mapIdx B0 (List.take most.toNat l)).length ≤ 26 := by simp; omega
  replace c := c.less (Nat.le_refl _)
 all_goals
  rw [j]
  revert c g a
  generalize List.mapIdx B0 _ = L
  intro g a c
  clear j
  (repeat' simp -dsimp (disch := omega) only [↓EA, EB, Nat.reduceEqDiff, ↓reduceIte, eq_self, *, c.rd.len])
  refine A0g hE f.le (fun b d => d) c ht g a rfl rfl rfl rfl fun n s r z y p => ?_
  (repeat' simp -dsimp (disch := omega) only [↓EA, EB, ↓reduceIte, eq_self, *])
  exact ⟨Pre.ex fun b o d => by rw [r b (GI.1 d).1]; exact f b o d, p.rdO⟩
end Go.L.Try
set_option maxHeartbeats 1000000
namespace Go.L.Try
open Go Go.L
variable {E : Env}
def Ko (c : UInt8) : Bool := decide ((97 ≤ c.toNat ∧ c.toNat ≤ 122) ∨ (65 ≤ c.toNat ∧ c.toNat ≤ 90) ∨ c.toNat = 95)
def Aex (c : UInt8) : Bool := decide (48 ≤ c.toNat ∧ c.toNat ≤ 57)
def Jn (c : UInt8) : Bool := Ko c || Aex c || decide (c.toNat = 46) || decide (c.toNat = 45)
def runEnd (p : UInt8 → Bool) (s : ByteArray) (e : Nat) : Nat := e + (((bs s).drop e).takeWhile p).length
theorem Af5 {p : UInt8 → Bool} {s : ByteArray} {e : Nat} (h : e < s.size) (hp : p (F9 s e) = true) : runEnd p s e = runEnd p s (e + 1) := by
 unfold runEnd
 have a : e < (bs s).length := by rw [Sl]; exact h
 have c : F9 s e = (bs s)[e] := by unfold F9; rw [List.getD_eq_getElem?_getD, show ((e : Int)).toNat = e by omega, List.getElem?_eq_getElem a]; rfl
 rw [List.drop_eq_getElem_cons a, List.takeWhile_cons, ← c, hp]
 simp only [if_true, List.length_cons]; omega
theorem Af4 {p : UInt8 → Bool} {s : ByteArray} {e : Nat} (h : e < s.size) (hp : p (F9 s e) = false) : runEnd p s e = e := by
 unfold runEnd
 have a : e < (bs s).length := by rw [Sl]; exact h
 have c : F9 s e = (bs s)[e] := by unfold F9; rw [List.getD_eq_getElem?_getD, show ((e : Int)).toNat = e by omega, List.getElem?_eq_getElem a]; rfl
 rw [List.drop_eq_getElem_cons a, List.takeWhile_cons, ← c, hp]
 simp
theorem Ajy {p : UInt8 → Bool} {s : ByteArray} {e : Nat} (h : s.size ≤ e) : runEnd p s e = e := by
 unfold runEnd
 rw [List.drop_of_length_le (by rw [Sl]; exact h)]; simp
structure Tok where
 kind : Int
 at' : Int
 text : ByteArray
 n : Int
instance : Inhabited Tok := ⟨⟨0, 0, ⟨#[]⟩, 0⟩⟩
def Xp (s : ByteArray) : Bool := match bs s with
 | [] => false
 | c :: r => Ko c && r.all Jn
theorem To {α : Type} {p : α → Bool} : ∀ {l : List α}, (l.takeWhile p).length = l.length ↔ l.all p = true
 | [] => by simp
 | x :: r => by
  rw [List.takeWhile_cons, List.all_cons]
  by_cases h : p x = true
  ·rw [if_pos h, List.length_cons, List.length_cons, h, Bool.true_and, ← To]; omega
  ·rw [if_neg h]; simp [h]
end Go.L.Try
namespace Go.L.Try
open Go Go.L
variable {E : Env}
def An (t : Ab) : Prop := Xp t.name = true ∧ t.name.size ≤ 32 ∧ (1 ≤ t.C ∧ t.C ≤ 2147483647) ∧ (1 ≤ t.T ∧ t.T ≤ 2147483647) ∧ (1 ≤ t.D ∧ t.D ≤ 2147483647) ∧ (1 ≤ t.Q ∧ t.Q ≤ 2147483647) ∧ (0 ≤ t.J ∧ t.J ≤ 2147483647) ∧ 1 ≤ t.P ∧ t.P ≤ 1048576
instance (t : Ab) : Decidable (An t) := by unfold An; infer_instance
def D4 (t : Ab) : Prop := t.Q ≤ t.C ∧ t.C + t.J ≤ t.D ∧ t.D ≤ t.T
instance (t : Ab) : Decidable (D4 t) := by unfold D4; infer_instance
def Lf (t : Ab) : Int := if An t then if D4 t then 0 else 12 else 11
def Tv (l : List Ab) (i : Int) : Nat → Bool
  | 0 => false
  | k + 1 => Tv l i k || decide (bs (atI l (k : Int)).name = bs (atI l i).name ∨ (atI l (k : Int)).P = (atI l i).P)
def Cw (l : List Ab) : Nat → Int → Int × Int
  | 0, i => (i, 0)
  | n + 1, i => if Lf (atI l i) ≠ 0 then (i, Lf (atI l i)) else if Tv l i i.toNat then (i, 13) else Cw l n (i + 1)
def Dr (l : List Ab) : Int × Int := if l.length = 0 ∨ 1024 < l.length then (0, 14) else Cw l l.length 0
def Ci (t : Ab) : Prop := An t ∧ D4 t
theorem V5 {l : List Ab} : ∀ {n : Nat} {i : Int}, (Cw l n i).2 = 0 → ∀ j : Nat, j < n → Lf (atI l (i + j)) = 0
  | 0, i, _, j, hj => by omega
  | n + 1, i, h, j, hj => by
    unfold Cw at h
    split at h
    · rename_i a; exact absurd h a
    · split at h
      · cases h
      · rename_i a _
        cases j with
        | zero => have : Lf (atI l i) = 0 := by simpa using a
                  simpa using this
        | succ j =>
          have := V5 h j (by omega)
          rw [show i + ((j + 1 : Nat) : Int) = i + 1 + (j : Int) by omega]; exact this
theorem Bn {l : List Ab} (h : (Dr l).2 = 0) : 0 < l.length ∧ l.length ≤ 1024 ∧ ∀ t ∈ l, Ci t := by
  unfold Dr at h
  split at h
  · cases h
  · rename_i e
    refine ⟨by omega, by omega, fun t d => ?_⟩
    obtain ⟨j, c, rfl⟩ := List.getElem_of_mem d
    have a := V5 h j c
    rw [show (0 : Int) + (j : Int) = (j : Int) by omega, Bw c] at a
    unfold Lf at a
    split at a
    · split at a
      · exact ⟨‹_›, ‹_›⟩
      · cases a
    · cases a
end Go.L.Try
set_option maxRecDepth 100000
namespace Go.L.Try
open Go Go.L
def D5 (l : List Ab) : Prop := (Dr l).2 = 0
instance (l : List Ab) : Decidable (D5 l) := inferInstanceAs (Decidable (_ = _))
theorem Xk (l : List Ab) (i : Int) : ∀ k : Nat, Tv l i k = false ↔ ∀ j : Nat, j < k → bs (atI l (j : Int)).name ≠ bs (atI l i).name ∧ (atI l (j : Int)).P ≠ (atI l i).P
 | 0 => by simp [Tv]
 | k + 1 => by
  rw [Tv, Bool.or_eq_false_iff, Xk l i k, decide_eq_false_iff_not]
  constructor
  ·rintro ⟨c, h2⟩ j a
   rcases Nat.lt_or_ge j k with h | h
   ·exact c j h
   ·obtain rfl : j = k := by omega
    exact ⟨fun e => h2 (.inl e), fun e => h2 (.inr e)⟩
  ·intro h
   exact ⟨fun j a => h j (by omega), fun e => e.elim (h k (by omega)).1 (h k (by omega)).2⟩
theorem checkP_zero {t : Ab} : Lf t = 0 ↔ Ci t := by
 unfold Lf Ci
 constructor
 ·intro h
  split at h
  ·split at h
   ·exact ⟨‹_›, ‹_›⟩
   ·cases h
  ·cases h
 ·rintro ⟨h1, h2⟩; rw [if_pos h1, if_pos h2]
theorem Tw (l : List Ab) : ∀ (n : Nat) (i : Nat), (Cw l n (i : Int)).2 = 0 ↔ ∀ j : Nat, j < n → Ci (atI l ((i + j : Nat) : Int)) ∧ Tv l ((i + j : Nat) : Int) (i + j) = false
 | 0, i => by simp [Cw]
 | n + 1, i => by
  have d := Tw l n (i + 1)
  unfold Cw
  constructor
  ·intro h j e
   split at h
   ·rename_i c; exact absurd h c
   ·rename_i c
    split at h
    ·cases h
    ·rename_i h2
     cases j with
     | zero => exact ⟨checkP_zero.1 (by simpa using c), by simpa using h2⟩
     | succ j =>
      have := d.1 (by simpa using h) j (by omega)
      rw [show i + (j + 1) = i + 1 + j by omega]; exact this
  ·intro h
   have a := h 0 (by omega)
   simp only [Nat.add_zero] at a
   rw [if_neg (by rw [checkP_zero.2 a.1]; simp), show ((i : Int)).toNat = i by omega, a.2]
   simp only [Bool.false_eq_true, if_false]
   have := d.2 (fun j e => by
    have := h (j + 1) (by omega)
    rw [show i + 1 + j = i + (j + 1) by omega]; exact this)
   simpa using this
theorem valid_iff {l : List Ab} : D5 l ↔ (1 ≤ l.length ∧ l.length ≤ 1024) ∧ (∀ t ∈ l, Ci t) ∧ ∀ j k : Nat, j < k → k < l.length → bs (atI l (j : Int)).name ≠ bs (atI l (k : Int)).name ∧ (atI l (j : Int)).P ≠ (atI l (k : Int)).P := by
 unfold D5 Dr
 have g := Tw l l.length 0
 simp only [Nat.zero_add, Int.natCast_zero] at g
 by_cases h : l.length = 0 ∨ 1024 < l.length
 ·rw [if_pos h]
  constructor
  ·intro e; cases e
  ·intro ⟨d, _⟩; omega
 ·rw [if_neg h]
  have c : (Cw l l.length 0).2 = 0 ↔ _ := g
  rw [c]
  constructor
  ·intro d
   refine ⟨by omega, fun t m => ?_, fun j k a f => ?_⟩
   ·obtain ⟨j, a, rfl⟩ := List.getElem_of_mem m
    have := (d j a).1
    rw [Bw a] at this; exact this
   ·exact (Xk l (k : Int) k).1 (d k f).2 j a
  ·rintro ⟨_, h2, n⟩ j a
   refine ⟨h2 _ (Aj (by omega) (by omega)), (Xk l (j : Int) j).2 fun k f => n k j f a⟩
theorem Aph (n turn : Int) (k : Nat) (L : List Ab) : (setPs n turn k L).length = L.length := by simp [setPs]
theorem Zq (l : List Spec) {most turn : Int} (hm : 1 ≤ most) : 0 < (setP l most turn).length ∧ ((setP l most turn).length : Int) ≤ most := by
 simp only [setP, Aph, List.length_mapIdx, List.length_take]
 split
 ·simp; omega
 ·rename_i a
  have : 0 < l.length := List.length_pos_iff.2 a
  omega
theorem Zr {l : List Spec} {most turn : Int} {i : Nat} (hi : i < (setP l most turn).length) : ∃ s : Spec, (setP l most turn)[i] = { B0 i s with P := prio (setP l most turn).length turn i } := by
 unfold setP at hi ⊢
 dsimp only at hi ⊢
 generalize (if l = [] then [(⟨turn, 0, 0, 0, 0⟩ : Spec)] else l).take most.toNat = X at *
 have a : i < X.length := by simpa [setPs] using hi
 refine ⟨X[i], ?_⟩
 have c : i < (List.mapIdx B0 X).length := by simpa using a
 simp only [setPs, List.getElem_mapIdx, List.length_mapIdx]
 rw [if_pos a]
theorem Alq {n turn : Int} (hn : 0 < n) (i : Nat) : 1 ≤ prio n turn i ∧ prio n turn i ≤ n := by
 unfold prio
 have := Eh (i * F4 n turn + turn % n) n hn
 omega
theorem Ava {n a b : Int} (ha : 0 ≤ a ∧ a < n) (hb : 0 ≤ b ∧ b < n) (h : n ∣ a - b) : a = b := by
 have := Int.emod_eq_emod_iff_emod_sub_eq_zero.2 (Int.emod_eq_zero_of_dvd h)
 rwa [Int.emod_eq_of_lt ha.1 ha.2, Int.emod_eq_of_lt hb.1 hb.2] at this
theorem Aso {n turn : Int} (hn : 0 < n) {i j : Nat} (hi : (i : Int) < n) (hj : (j : Int) < n) (h : prio n turn i = prio n turn j) : i = j := by
 unfold prio at h
 have c : ((i : Int) * F4 n turn + turn % n) % n = ((j : Int) * F4 n turn + turn % n) % n := by omega
 have h2 := Int.dvd_of_emod_eq_zero (Int.emod_eq_emod_iff_emod_sub_eq_zero.1 c)
 have e : (i : Int) * F4 n turn + turn % n - ((j : Int) * F4 n turn + turn % n) = ((i : Int) - j) * F4 n turn := by rw [Int.sub_mul]; omega
 rw [e] at h2
 have f : n ∣ (i : Int) - j := by
  unfold F4 at h2
  split at h2
  ·have d : n ∣ ((i : Int) - j) * n := Int.dvd_mul_left _ _
   have a := Int.dvd_sub d h2
   have g : ((i : Int) - j) * n - ((i : Int) - j) * (n - 1) = (i : Int) - j := by rw [← Int.mul_sub]; rw [show n - (n - 1) = 1 by omega, Int.mul_one]
   rwa [g] at a
  ·rwa [Int.mul_one] at h2
 have := Ava (n := n) (by omega) (by omega) f
 omega
theorem Aja : ∀ i : Nat, i < 26 → Xp (Zc i) = true ∧ (Zc i).size = 2 := by decide +kernel
theorem Apb : ∀ i : Nat, i < 26 → ∀ j : Nat, j < 26 → bs (Zc i) = bs (Zc j) → i = j := by decide +kernel
theorem Ajl (i : Nat) (hi : i < 26) (s : Spec) {p : Int} (hp : 1 ≤ p ∧ p ≤ 26) : Ci { B0 i s with P := p } := by
 have d := Eh s.C 4 (by decide)
 have h2 := Eh s.D 11 (by decide)
 have f := Eh s.T 7 (by decide)
 have e := Eh s.J (1 + s.C % 4 + s.D % 11 - (1 + s.C % 4) + 1) (by omega)
 have c := Eh s.Q (1 + s.C % 4) (by omega)
 obtain ⟨a, g⟩ := Aja i hi
 refine ⟨⟨a, by show (Zc i).size ≤ 32; omega, ?_⟩, ?_⟩
 ·simp only [B0]; omega
 ·simp only [D4, B0]; omega
structure Abp (t : Ab) : Prop where
 name : t.name.size = 2
 C : 1 ≤ t.C ∧ t.C ≤ 4
 D : t.C ≤ t.D ∧ t.D ≤ 14
 J : 0 ≤ t.J ∧ t.C + t.J ≤ t.D
 Q : 1 ≤ t.Q ∧ t.Q ≤ t.C
 T : t.D ≤ t.T ∧ t.T ≤ 20
 P : 1 ≤ t.P ∧ t.P ≤ 26
theorem Ajp {l : List Spec} {most turn : Int} (hm : 1 ≤ most) (hm2 : most ≤ 26) {t : Ab} (ht : t ∈ setP l most turn) : Abp t := by
 obtain ⟨i, a, rfl⟩ := List.getElem_of_mem ht
 obtain ⟨s, e⟩ := Zr a
 have f := Zq l (turn := turn) hm
 have m := Alq (n := (setP l most turn).length) (turn := turn) (by omega) i
 rw [e]
 have d := Eh s.C 4 (by decide)
 have h2 := Eh s.D 11 (by decide)
 have j := Eh s.T 7 (by decide)
 have g := Eh s.J (1 + s.C % 4 + s.D % 11 - (1 + s.C % 4) + 1) (by omega)
 have c := Eh s.Q (1 + s.C % 4) (by omega)
 exact ⟨rfl, by simp only [B0]; omega, by simp only [B0]; omega, by simp only [B0]; omega, by simp only [B0]; omega, by simp only [B0]; omega, by simp only []; omega⟩
theorem Ajo (l : List Spec) {most : Int} (turn : Int) (hm : 1 ≤ most) (hm2 : most ≤ 26) : D5 (setP l most turn) := by
 have p := Zq l (turn := turn) hm
 have a : ∀ j : Nat, j < (setP l most turn).length → ∃ s : Spec, atI (setP l most turn) (j : Int) = { B0 j s with P := prio (setP l most turn).length turn j } := fun j c => by
  rw [Bw c]; exact Zr c
 refine valid_iff.2 ⟨by omega, fun t f => ?_, fun j k c m => ?_⟩
 ·obtain ⟨i, d, rfl⟩ := List.getElem_of_mem f
  obtain ⟨s, e⟩ := Zr d
  rw [e]
  have r := Alq (n := (setP l most turn).length) (turn := turn) (by omega) i
  exact Ajl i (by omega) s (by omega)
 ·obtain ⟨s, o⟩ := a j (by omega)
  obtain ⟨u, g⟩ := a k m
  rw [o, g]
  refine ⟨fun h => ?_, fun h => ?_⟩
  ·have := Apb j (by omega) k (by omega) h
   omega
  ·have := Aso (n := (setP l most turn).length) (turn := turn) (by omega) (by omega) (by omega) h
   omega
end Go.L.Try
namespace Go.L.Try
open Go Go.L
def C5 (l : List Job) (task : Int) : Nat → Int
 | 0 => -1
 | k + 1 => if (atI l (k : Int)).task = task then k else C5 l task k
theorem O2 (l : List Job) (task : Int) : ∀ k, -1 ≤ C5 l task k ∧ C5 l task k < k
 | 0 => by simp [C5]
 | k + 1 => by have := O2 l task k; unfold C5; split <;> omega
end Go.L.Try
