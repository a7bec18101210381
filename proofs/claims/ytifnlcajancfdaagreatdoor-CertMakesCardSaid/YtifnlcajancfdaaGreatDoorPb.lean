/- THE REFERENCES' SETS OF TASKS: what cadencyref04 tells. -/
import Derived.Test.YtifnlcajancfdaaGreatDoorCode
import Derived.Test.YtifnlcajancfdaaGreatDoorVc
import Derived.Test.YtifnlcajancfdaaGreatDoorPa
set_option linter.unusedVariables false
set_option linter.unusedSimpArgs false
set_option maxRecDepth 4000
namespace Go.L.Try
open Go Go.L
variable {E : Env}
theorem rest04 (hE : Laid E) (h : Heap) (x n : Int) (hn : 0 < n) (hn' : n < 4611686018427387904) : callW E (.func (.func n_ref04_rest) #[] #[]) [.int .i64 x, .int .i64 n] h = some (.int .i64 (x % n), h, []) := by
  have hb := tmod_bounds x n hn
  refine fn_same hE.ref04_rest rfl (by simp) ?_
  simp -dsimp (disch := omega) only [↓EA, EB, Nat.reduceEqDiff, Nat.reduceAdd, Nat.reduceLeDiff, Nat.reduceMul, ↓reduceIte, reduceCtorEq, newCells, bslV, eq_self, argsF, rest_eq x n hn]
theorem in04 (hE : Laid E) (h : Heap) (n a b : Int) : callW E (.func (.func n_ref04_in) #[] #[]) [.int .i64 n, .int .i64 a, .int .i64 b] h = some (.bool (decide (a ≤ n ∧ n ≤ b)), h, []) := by
  refine fn_same hE.ref04_in rfl (by simp) ?_
  simp only [argsF]
  (repeat' (first | (with_reducible refine A1 (fun _ => ?_) (fun _ => ?_) <;> try (exfalso; omega)) | (with_reducible refine A2 (fun _ => ?_) (fun _ => ?_) <;> try (exfalso; omega)) | (with_reducible refine A3 (fun _ => ?_) (fun _ => ?_) <;> try (exfalso; omega)) | refine A4 (fun _ => ?_) (fun _ => ?_) | refine A5 (fun _ => ?_) (fun _ => ?_) | refine A6 (fun _ => ?_) (fun _ => ?_) | simp -dsimp (disch := omega) only [↓EA, EB, Nat.reduceEqDiff, Nat.reduceAdd, Nat.reduceLeDiff, Nat.reduceMul, ↓reduceIte, reduceCtorEq, newCells, bslV, eq_self, *]))
  all_goals simp [*]
def turnsP (n turn : Int) : Int := if 2 < n ∧ (turn.tdiv n) % 2 = 1 then n - 1 else 1
theorem turns04 (hE : Laid E) (h : Heap) (n x : Int) (hn : 0 < n) (hn' : n < 4611686018427387904) (hx : i64in x) : callW E (.func (.func n_ref04_turns) #[] #[]) [.int .i64 n, .int .i64 x] h = some (.int .i64 (turnsP n x), h, []) := by
  refine fn_same hE.ref04_turns rfl (by simp) ?_
  simp only [argsF]
  have hr := fun y => rest04 hE h y 2 (by decide) (by decide)
  have hq : i64in (x.tdiv n) := tdiv_in hn hx
  unfold i64in at hq
  unfold turnsP
  (repeat' (first | (with_reducible refine A1 (fun _ => ?_) (fun _ => ?_) <;> try (exfalso; omega)) | (with_reducible refine A2 (fun _ => ?_) (fun _ => ?_) <;> try (exfalso; omega)) | (with_reducible refine A3 (fun _ => ?_) (fun _ => ?_) <;> try (exfalso; omega)) | refine A4 (fun _ => ?_) (fun _ => ?_) | refine A5 (fun _ => ?_) (fun _ => ?_) | refine A6 (fun _ => ?_) (fun _ => ?_) | simp -dsimp (disch := omega) only [↓EA, EB, Nat.reduceEqDiff, Nat.reduceAdd, Nat.reduceLeDiff, Nat.reduceMul, ↓reduceIte, reduceCtorEq, newCells, bslV, eq_self, *, hr]))
  all_goals simp [*]
def tname (i : Nat) : ByteArray := ⟨#[116]⟩ ++ ⟨#[UInt8.ofNat (97 + i)]⟩
def setTask (i : Nat) (s : Spec) : Task := ⟨tname i, 1 + s.C % 4, 1 + s.C % 4 + s.D % 11 + s.T % 7, 1 + s.C % 4 + s.D % 11, s.J % (1 + s.C % 4 + s.D % 11 - (1 + s.C % 4) + 1), 1 + s.Q % (1 + s.C % 4), 0⟩
theorem set_l0 (hE : Laid E) {W : Nat → Prop} {h0 : Heap} (hW : ∀ b, h0.length ≤ b → W b) {vl : Value} {l : List Spec} (hl : Rd 5 encSp h0 vl l) {most turn : Int} (hm : 0 ≤ most) (hm2 : most ≤ 26) {Q : Ex → Fr → Heap → Prop} {fr : Fr}
    (g0 : get fr 0 = vl) (g1 : get fr 1 = .int .i64 most) (g2 : get fr 2 = .int .i64 turn) (g7 : get fr 7 = .slice none 0 0) (g8 : get fr 8 = .int .i64 0)
    (hq : ∀ fr' h' vo, Pre h0 h' → get fr' 2 = .int .i64 turn → get fr' 7 = vo → OwnT h0.length 7 encT h' vo ((l.take most.toNat).mapIdx setTask) → Q (.exit 0) fr' h') :
    WO W (iterW (code (callW E) iterW 113 c_ref04_Set_l0) fr h0) Q := by
  refine WO.loop (fun n fr h' => Pre h0 h' ∧ n ≤ l.length ∧ n ≤ most ∧ get fr 0 = vl ∧ get fr 1 = .int .i64 most ∧ get fr 2 = .int .i64 turn ∧ get fr 8 = .int .i64 n ∧ OwnT h0.length 7 encT h' (get fr 7) ((l.take n).mapIdx setTask)) (fun n => l.length - n) ?_ 0 ⟨Pre.refl _, Nat.zero_le _, by omega, g0, g1, g2, g8, by rw [g7]; exact OwnT.nil⟩
  rintro n fr h' ⟨hp, hn, hn2, h1, h2, h3, h8, ho⟩
  have few := hl.few
  have hl' := hl.pre hp
  unfold c_ref04_Set_l0
  generalize hvo : get fr 7 = vo at ho
  have hj := emod_in (atI l ↑n).J (1 + (atI l ↑n).C % 4 + (atI l ↑n).D % 11 - (1 + (atI l ↑n).C % 4) + 1) (by omega)
  have hk := emod_in (atI l ↑n).Q (1 + (atI l ↑n).C % 4) (by omega)
  have hs : ∀ x : UInt8, binOp .add .other (.string ⟨#[116]⟩) (.string ⟨#[x]⟩) = some (.string (⟨#[116]⟩ ++ ⟨#[x]⟩)) := fun x => bin_sadd (by simp [ByteArray.size])
  (repeat' (first | (with_reducible refine A1 (fun _ => ?_) (fun _ => ?_) <;> try (exfalso; omega)) | (with_reducible refine A2 (fun _ => ?_) (fun _ => ?_) <;> try (exfalso; omega)) | (with_reducible refine A3 (fun _ => ?_) (fun _ => ?_) <;> try (exfalso; omega)) | refine A4 (fun _ => ?_) (fun _ => ?_) | refine A5 (fun _ => ?_) (fun _ => ?_) | refine A6 (fun _ => ?_) (fun _ => ?_) | simp -dsimp (disch := omega) only [↓EA, EB, Nat.reduceEqDiff, Nat.reduceAdd, Nat.reduceLeDiff, Nat.reduceMul, ↓reduceIte, reduceCtorEq, newCells, bslV, eq_self, *, hl'.len, hl'.ixs, hl'.ld, hl'.ld0, hl'.lda, hl'.ldx, hl'.ldx0, hl'.ldxa, rest04 hE, encSp, hs]))
  · refine wx_app1 (sz := 7) (bytes := 64) (ho.app _) (hp.app' _) (Nat.le_refl _) (by have := hp.le; simp; omega) hW (setTask n (atI l n)) ?_ rfl (by decide) (by decide) ?_ ?_
    · simp -dsimp (disch := omega) only [↓EA, EB, Nat.reduceEqDiff, Nat.reduceAdd, Nat.reduceLeDiff, Nat.reduceMul, ↓reduceIte, reduceCtorEq, newCells, bslV, eq_self]
      simp [setTask, encT, tname]
      rw [show (97 + (n : Int)).toNat = 97 + n by omega, UInt8.ofNat_add]; rfl
    · simp; omega
    · intro v' h'' h1 h2 h3 h4 h5
      (repeat' (first | (with_reducible refine A1 (fun _ => ?_) (fun _ => ?_) <;> try (exfalso; omega)) | (with_reducible refine A2 (fun _ => ?_) (fun _ => ?_) <;> try (exfalso; omega)) | (with_reducible refine A3 (fun _ => ?_) (fun _ => ?_) <;> try (exfalso; omega)) | refine A4 (fun _ => ?_) (fun _ => ?_) | refine A5 (fun _ => ?_) (fun _ => ?_) | refine A6 (fun _ => ?_) (fun _ => ?_) | simp -dsimp (disch := omega) only [↓EA, EB, Nat.reduceEqDiff, Nat.reduceAdd, Nat.reduceLeDiff, Nat.reduceMul, ↓reduceIte, reduceCtorEq, newCells, bslV, eq_self, *]))
      refine Next.mk (n + 1) ⟨h2, by omega, by omega, rfl, rfl, rfl, rfl, ?_⟩ (by omega)
      rw [take_snoc (by omega), List.mapIdx_append]
      simpa [get, Nat.min_eq_left hn] using h1
  · refine hq _ _ _ hp rfl rfl ?_
    have : most.toNat = n := by omega
    rw [this]; exact ho
  · refine hq _ _ _ hp rfl rfl ?_
    have : l.take most.toNat = l.take n := by rw [List.take_of_length_le (by omega), List.take_of_length_le (by omega)]
    rw [this]; exact ho
def prio (n turn : Int) (i : Nat) : Int := 1 + (i * turnsP n turn + turn % n) % n
def setPs (n turn : Int) (k : Nat) (L : List Task) : List Task := L.mapIdx fun i t => if i < k then { t with P := prio n turn i } else t
theorem setPs_zero (n turn : Int) (L : List Task) : setPs n turn 0 L = L := by unfold setPs; apply List.ext_getElem <;> simp
theorem setPs_succ (n turn : Int) (k : Nat) (L : List Task) (hk : k < L.length) : setPs n turn (k + 1) L = (setPs n turn k L).set k { atI (setPs n turn k L) (k : Int) with P := prio n turn k } := by
  have hl : k < (setPs n turn k L).length := by simp [setPs]; exact hk
  rw [atI_nat hl]
  apply List.ext_getElem
  · simp [setPs]
  · intro i h1 h2
    simp only [setPs, List.getElem_mapIdx, List.getElem_set]
    simp only [setPs, List.length_mapIdx] at h1
    by_cases e : k = i
    · subst e; simp
    · rw [if_neg e]
      by_cases hlt : i < k
      · rw [if_pos (by omega), if_pos hlt]
      · rw [if_neg (by omega), if_neg hlt]
theorem turns_in (n x : Int) (hn : 0 < n) (hn2 : n ≤ 26) : 1 ≤ turnsP n x ∧ turnsP n x ≤ 26 := by unfold turnsP; split <;> omega
theorem set_l1 (hE : Laid E) {W : Nat → Prop} {m : Nat} {h0 : Heap} (hm0 : m ≤ h0.length) (hW : ∀ b, m ≤ b → W b) {L : List Task} {vo : Value} (ho : OwnT m 7 encT h0 vo L) {turn : Int} (ht : i64in turn) (hn : 0 < L.length) (hn2 : L.length ≤ 26) {Q : Ex → Fr → Heap → Prop} {fr : Fr}
    (g2 : get fr 2 = .int .i64 turn) (g7 : get fr 7 = vo) (g14 : get fr 14 = .int .i64 L.length) (g15 : get fr 15 = .int .i64 0)
    (hq : ∀ fr' h', (∀ b, b < m → h'[b]? = h0[b]?) → h'.length = h0.length → get fr' 7 = vo → OwnT m 7 encT h' vo (setPs L.length turn L.length L) → Q (.exit 2) fr' h') :
    WO W (iterW (code (callW E) iterW 113 c_ref04_Set_l1) fr h0) Q := by
  have few := ho.rd.few
  refine WO.loop (fun n fr h' => (∀ b, b < m → h'[b]? = h0[b]?) ∧ h'.length = h0.length ∧ n ≤ L.length ∧ get fr 2 = .int .i64 turn ∧ get fr 7 = vo ∧ get fr 14 = .int .i64 L.length ∧ get fr 15 = .int .i64 n ∧ OwnT m 7 encT h' vo (setPs L.length turn n L)) (fun n => L.length - n) ?_ 0 ⟨fun _ _ => rfl, rfl, Nat.zero_le _, g2, g7, g14, g15, by rw [setPs_zero]; exact ho⟩
  rintro n fr h' ⟨hk, hlen, hn3, h2, h7, h14, h15, ho⟩
  have ln : (setPs L.length turn n L).length = L.length := by simp [setPs]
  have hr := ho.rd
  unfold c_ref04_Set_l1
  have ht' := turns_in L.length turn (by omega) (by omega)
  have hm := emod_in turn L.length (by omega)
  have hmul : 0 ≤ (n : Int) * turnsP L.length turn ∧ (n : Int) * turnsP L.length turn ≤ 26 * 26 := by
    constructor
    · exact Int.mul_nonneg (by omega) (by omega)
    · exact Int.mul_le_mul (by omega) (by omega) (by omega) (by omega)
  have hmod := emod_in (n * turnsP L.length turn + turn % L.length) L.length (by omega)
  have e1 : ((n : Int) * turnsP L.length turn + turn % L.length).tmod L.length = ((n : Int) * turnsP L.length turn + turn % L.length) % L.length := Int.tmod_eq_emod_of_nonneg (by omega)
  have hturns := fun h => turns04 hE h L.length turn (by omega) (by omega) ht
  (repeat' (first | (with_reducible refine A1 (fun _ => ?_) (fun _ => ?_) <;> try (exfalso; omega)) | (with_reducible refine A2 (fun _ => ?_) (fun _ => ?_) <;> try (exfalso; omega)) | (with_reducible refine A3 (fun _ => ?_) (fun _ => ?_) <;> try (exfalso; omega)) | refine A4 (fun _ => ?_) (fun _ => ?_) | refine A5 (fun _ => ?_) (fun _ => ?_) | refine A6 (fun _ => ?_) (fun _ => ?_) | simp -dsimp (disch := omega) only [↓EA, EB, Nat.reduceEqDiff, Nat.reduceAdd, Nat.reduceLeDiff, Nat.reduceMul, ↓reduceIte, reduceCtorEq, newCells, bslV, eq_self, *, hr.ixs, rest04 hE, hturns, e1]))
  · refine wh_ownT ho hW { atI (setPs L.length turn n L) (n : Int) with P := prio L.length turn n } (by omega) (by omega) (by decide) rfl rfl fun h'' h1 h2 h3 => ?_
    (repeat' (first | (with_reducible refine A1 (fun _ => ?_) (fun _ => ?_) <;> try (exfalso; omega)) | (with_reducible refine A2 (fun _ => ?_) (fun _ => ?_) <;> try (exfalso; omega)) | (with_reducible refine A3 (fun _ => ?_) (fun _ => ?_) <;> try (exfalso; omega)) | refine A4 (fun _ => ?_) (fun _ => ?_) | refine A5 (fun _ => ?_) (fun _ => ?_) | refine A6 (fun _ => ?_) (fun _ => ?_) | simp -dsimp (disch := omega) only [↓EA, EB, Nat.reduceEqDiff, Nat.reduceAdd, Nat.reduceLeDiff, Nat.reduceMul, ↓reduceIte, reduceCtorEq, newCells, bslV, eq_self, *]))
    have hne : setPs L.length turn n L ≠ [] := by intro e; rw [e] at ln; simp at ln; omega
    refine Next.mk (n + 1) ⟨fun b hb => by rw [h3 b (by have := ho.ge hne; omega), hk b hb], by omega, by omega, rfl, rfl, rfl, rfl, ?_⟩ (by omega)
    rw [setPs_succ _ _ _ _ (by omega)]; simpa using h1
  · have : n = L.length := by omega
    subst this
    exact hq _ _ hk hlen rfl ho
def setP (l : List Spec) (most turn : Int) : List Task :=
  let L := ((if l = [] then [⟨turn, 0, 0, 0, 0⟩] else l).take most.toNat).mapIdx setTask
  setPs L.length turn L.length L
theorem set04O (hE : Laid E) {h : Heap} {vl : Value} {l : List Spec} (hl : Rd 5 encSp h vl l) {most turn : Int} (hm : 1 ≤ most) (hm2 : most ≤ 26) (ht : i64in turn) :
    ∃ v ys, callW E (.func (.func n_ref04_Set) #[] #[]) [vl, .int .i64 most, .int .i64 turn] h = some (v, h ++ ys, []) ∧ RdO h.length 7 encT (h ++ ys) v (setP l most turn) := by
  have few := hl.few
  refine fn_new hE.ref04_Set rfl (RdO.movable flatT _) (by simp) ?_
  simp only [argsF]
  (repeat' (first | (with_reducible refine A1 (fun _ => ?_) (fun _ => ?_) <;> try (exfalso; omega)) | (with_reducible refine A2 (fun _ => ?_) (fun _ => ?_) <;> try (exfalso; omega)) | (with_reducible refine A3 (fun _ => ?_) (fun _ => ?_) <;> try (exfalso; omega)) | refine A4 (fun _ => ?_) (fun _ => ?_) | refine A5 (fun _ => ?_) (fun _ => ?_) | refine A6 (fun _ => ?_) (fun _ => ?_) | simp -dsimp (disch := omega) only [↓EA, EB, Nat.reduceEqDiff, Nat.reduceAdd, Nat.reduceLeDiff, Nat.reduceMul, ↓reduceIte, reduceCtorEq, newCells, bslV, eq_self, *, hl.len]))
  case' refine_1 =>
    refine set_l0 hE (fun b hb => by simp at hb; omega) (l := [⟨turn, 0, 0, 0, 0⟩]) (Rd.lit _ (by rw [geta0]; rfl) rfl (fun _ => rfl) (by simp) (by simp) (.inl rfl)) (by omega) hm2 rfl rfl rfl rfl rfl fun fr' h' vo hp g2 g7 ho => ?_
    have hp := (Pre.app h _).trans hp
    have e : l = [] := List.length_eq_zero_iff.1 (by omega)
    have hL : setP l most turn = setPs (List.mapIdx setTask (List.take most.toNat [⟨turn, 0, 0, 0, 0⟩])).length turn (List.mapIdx setTask (List.take most.toNat [⟨turn, 0, 0, 0, 0⟩])).length (List.mapIdx setTask (List.take most.toNat [⟨turn, 0, 0, 0, 0⟩])) := by simp [setP, e]
    have hn : 0 < (List.mapIdx setTask (List.take most.toNat [⟨turn, 0, 0, 0, 0⟩])).length := by simp; omega
    have hn2 : (List.mapIdx setTask (List.take most.toNat [⟨turn, 0, 0, 0, 0⟩])).length ≤ 26 := by simp; omega
    replace ho := ho.less (m' := h.length) (by simp)
  case' refine_2 =>
    refine set_l0 hE (fun b hb => hb) hl (by omega) hm2 rfl rfl rfl rfl rfl fun fr' h' vo hp g2 g7 ho => ?_
    have e : l ≠ [] := fun e => by simp_all
    have hL : setP l most turn = setPs (List.mapIdx setTask (List.take most.toNat l)).length turn (List.mapIdx setTask (List.take most.toNat l)).length (List.mapIdx setTask (List.take most.toNat l)) := by simp [setP, e]
    have hn : 0 < (List.mapIdx setTask (List.take most.toNat l)).length := by have := List.length_pos_iff.2 e; simp; omega
    have hn2 : (List.mapIdx setTask (List.take most.toNat l)).length ≤ 26 := by simp; omega
    replace ho := ho.less (Nat.le_refl _)
  all_goals
    rw [hL]
    revert ho hn hn2
    generalize List.mapIdx setTask _ = L
    intro hn hn2 ho
    clear hL
    (repeat' (first | (with_reducible refine A1 (fun _ => ?_) (fun _ => ?_) <;> try (exfalso; omega)) | (with_reducible refine A2 (fun _ => ?_) (fun _ => ?_) <;> try (exfalso; omega)) | (with_reducible refine A3 (fun _ => ?_) (fun _ => ?_) <;> try (exfalso; omega)) | refine A4 (fun _ => ?_) (fun _ => ?_) | refine A5 (fun _ => ?_) (fun _ => ?_) | refine A6 (fun _ => ?_) (fun _ => ?_) | simp -dsimp (disch := omega) only [↓EA, EB, Nat.reduceEqDiff, Nat.reduceAdd, Nat.reduceLeDiff, Nat.reduceMul, ↓reduceIte, reduceCtorEq, newCells, bslV, eq_self, *, ho.rd.len]))
    refine set_l1 hE hp.le (fun b hb => hb) ho ht hn hn2 rfl rfl rfl rfl fun fr'' h'' h1 h3 h4 h5 => ?_
    (repeat' (first | (with_reducible refine A1 (fun _ => ?_) (fun _ => ?_) <;> try (exfalso; omega)) | (with_reducible refine A2 (fun _ => ?_) (fun _ => ?_) <;> try (exfalso; omega)) | (with_reducible refine A3 (fun _ => ?_) (fun _ => ?_) <;> try (exfalso; omega)) | refine A4 (fun _ => ?_) (fun _ => ?_) | refine A5 (fun _ => ?_) (fun _ => ?_) | refine A6 (fun _ => ?_) (fun _ => ?_) | simp -dsimp (disch := omega) only [↓EA, EB, Nat.reduceEqDiff, Nat.reduceAdd, Nat.reduceLeDiff, Nat.reduceMul, ↓reduceIte, reduceCtorEq, newCells, bslV, eq_self, *]))
    exact ⟨Pre.ex fun b o hb => by rw [h1 b (List.getElem?_eq_some_iff.1 hb).1]; exact hp b o hb, h5.rdO⟩
theorem set04 (hE : Laid E) {h : Heap} {vl : Value} {l : List Spec} (hl : Rd 5 encSp h vl l) {most turn : Int} (hm : 1 ≤ most) (hm2 : most ≤ 26) (ht : i64in turn) :
    ∃ v ys, callW E (.func (.func n_ref04_Set) #[] #[]) [vl, .int .i64 most, .int .i64 turn] h = some (v, h ++ ys, []) ∧ Rd 7 encT (h ++ ys) v (setP l most turn) := by
  obtain ⟨v, ys, h1, h2⟩ := set04O hE hl hm hm2 ht
  exact ⟨v, ys, h1, h2.rd⟩
end Go.L.Try
set_option maxHeartbeats 1000000
namespace Go.L.Try
open Go Go.L
variable {E : Env}
def letterB (c : UInt8) : Bool := decide ((97 ≤ c.toNat ∧ c.toNat ≤ 122) ∨ (65 ≤ c.toNat ∧ c.toNat ≤ 90) ∨ c.toNat = 95)
def digitB (c : UInt8) : Bool := decide (48 ≤ c.toNat ∧ c.toNat ≤ 57)
def goesB (c : UInt8) : Bool := letterB c || digitB c || decide (c.toNat = 46) || decide (c.toNat = 45)
theorem letter03 (hE : Laid E) (h : Heap) (c : UInt8) : callW E (.func (.func n_ref03_letter) #[] #[]) [.int .u8 c.toNat] h = some (.bool (letterB c), h, []) := by
  refine fn_same hE.ref03_letter rfl (by simp) ?_
  simp only [argsF]
  (repeat' (first | (with_reducible refine A1 (fun _ => ?_) (fun _ => ?_) <;> try (exfalso; omega)) | (with_reducible refine A2 (fun _ => ?_) (fun _ => ?_) <;> try (exfalso; omega)) | (with_reducible refine A3 (fun _ => ?_) (fun _ => ?_) <;> try (exfalso; omega)) | refine A4 (fun _ => ?_) (fun _ => ?_) | refine A5 (fun _ => ?_) (fun _ => ?_) | refine A6 (fun _ => ?_) (fun _ => ?_) | simp -dsimp (disch := omega) only [↓EA, EB, Nat.reduceEqDiff, Nat.reduceAdd, Nat.reduceLeDiff, Nat.reduceMul, ↓reduceIte, reduceCtorEq, newCells, bslV, eq_self, *]))
  all_goals (unfold letterB; congr 1; first | (rw [decide_eq_decide]; omega) | (symm; rw [decide_eq_true_eq]; omega) | (symm; rw [decide_eq_false_iff_not]; omega))
theorem digit03 (hE : Laid E) (h : Heap) (c : UInt8) : callW E (.func (.func n_ref03_digit) #[] #[]) [.int .u8 c.toNat] h = some (.bool (digitB c), h, []) := by
  refine fn_same hE.ref03_digit rfl (by simp) ?_
  simp only [argsF]
  (repeat' (first | (with_reducible refine A1 (fun _ => ?_) (fun _ => ?_) <;> try (exfalso; omega)) | (with_reducible refine A2 (fun _ => ?_) (fun _ => ?_) <;> try (exfalso; omega)) | (with_reducible refine A3 (fun _ => ?_) (fun _ => ?_) <;> try (exfalso; omega)) | refine A4 (fun _ => ?_) (fun _ => ?_) | refine A5 (fun _ => ?_) (fun _ => ?_) | refine A6 (fun _ => ?_) (fun _ => ?_) | simp -dsimp (disch := omega) only [↓EA, EB, Nat.reduceEqDiff, Nat.reduceAdd, Nat.reduceLeDiff, Nat.reduceMul, ↓reduceIte, reduceCtorEq, newCells, bslV, eq_self, *]))
  all_goals (unfold digitB; congr 1; first | (rw [decide_eq_decide]; omega) | (symm; rw [decide_eq_true_eq]; omega) | (symm; rw [decide_eq_false_iff_not]; omega))
def runEnd (p : UInt8 → Bool) (s : ByteArray) (e : Nat) : Nat := e + (((bs s).drop e).takeWhile p).length
theorem runEnd_step {p : UInt8 → Bool} {s : ByteArray} {e : Nat} (h : e < s.size) (hp : p (byteAt s e) = true) : runEnd p s e = runEnd p s (e + 1) := by
  unfold runEnd
  have hl : e < (bs s).length := by rw [bs_len]; exact h
  have hb : byteAt s e = (bs s)[e] := by unfold byteAt; rw [List.getD_eq_getElem?_getD, show ((e : Int)).toNat = e by omega, List.getElem?_eq_getElem hl]; rfl
  rw [List.drop_eq_getElem_cons hl, List.takeWhile_cons, ← hb, hp]
  simp only [if_true, List.length_cons]; omega
theorem runEnd_stop {p : UInt8 → Bool} {s : ByteArray} {e : Nat} (h : e < s.size) (hp : p (byteAt s e) = false) : runEnd p s e = e := by
  unfold runEnd
  have hl : e < (bs s).length := by rw [bs_len]; exact h
  have hb : byteAt s e = (bs s)[e] := by unfold byteAt; rw [List.getD_eq_getElem?_getD, show ((e : Int)).toNat = e by omega, List.getElem?_eq_getElem hl]; rfl
  rw [List.drop_eq_getElem_cons hl, List.takeWhile_cons, ← hb, hp]
  simp
theorem runEnd_end {p : UInt8 → Bool} {s : ByteArray} {e : Nat} (h : s.size ≤ e) : runEnd p s e = e := by
  unfold runEnd
  rw [List.drop_of_length_le (by rw [bs_len]; exact h)]; simp
theorem runEnd_le {p : UInt8 → Bool} {s : ByteArray} {e : Nat} (h : e ≤ s.size) : e ≤ runEnd p s e ∧ runEnd p s e ≤ s.size := by
  unfold runEnd
  have h1 : (((bs s).drop e).takeWhile p).length ≤ ((bs s).drop e).length := (List.takeWhile_sublist p).length_le
  rw [List.length_drop, bs_len] at h1
  omega
theorem one_l0 (hE : Laid E) {W : Nat → Prop} {h0 : Heap} {s : ByteArray} (hs : s.size < 1152921504606846976) {e0 : Nat} (he0 : e0 ≤ s.size) {v1 v4 v5 : Value} {Q : Ex → Fr → Heap → Prop} {fr : Fr}
    (g0 : get fr 0 = .string s) (g1 : get fr 1 = v1) (g4 : get fr 4 = v4) (g5 : get fr 5 = v5) (g6 : get fr 6 = .int .i64 e0)
    (hq : ∀ fr', get fr' 0 = .string s → get fr' 1 = v1 → get fr' 4 = v4 → get fr' 5 = v5 → get fr' 6 = .int .i64 (runEnd goesB s e0) → Q (.exit 0) fr' h0) :
    WO W (iterW (code (callW E) iterW 98 c_ref03_one_l0) fr h0) Q := by
  refine WO.loop (fun e fr h' => h' = h0 ∧ e ≤ s.size ∧ get fr 0 = .string s ∧ get fr 1 = v1 ∧ get fr 4 = v4 ∧ get fr 5 = v5 ∧ get fr 6 = .int .i64 e ∧ runEnd goesB s e0 = runEnd goesB s e) (fun e => s.size - e) ?_ e0 ⟨rfl, he0, g0, g1, g4, g5, g6, rfl⟩
  rintro e fr h' ⟨rfl, he, g0, g1, g4, g5, g6, hr⟩
  unfold c_ref03_one_l0
  by_cases hlt : e < s.size
  · have hix : ∀ k : IntKind, ixtV (.string s) (.int k e) = some (.int .u8 ((byteAt s e).toNat : Int)) := fun k => ixt_at (by omega) (by omega)
    by_cases hg : goesB (byteAt s e) = true
    · have : runEnd goesB s e0 = runEnd goesB s (e + 1) := hr.trans (runEnd_step hlt hg)
      clear hr hq
      simp only [goesB, Bool.or_eq_true, decide_eq_true_eq] at hg
      (repeat' (first | (with_reducible refine A1 (fun _ => ?_) (fun _ => ?_) <;> try (exfalso; omega)) | (with_reducible refine A2 (fun _ => ?_) (fun _ => ?_) <;> try (exfalso; omega)) | (with_reducible refine A3 (fun _ => ?_) (fun _ => ?_) <;> try (exfalso; omega)) | refine A4 (fun _ => ?_) (fun _ => ?_) | refine A5 (fun _ => ?_) (fun _ => ?_) | refine A6 (fun _ => ?_) (fun _ => ?_) | simp -dsimp (disch := omega) only [↓EA, EB, Nat.reduceEqDiff, Nat.reduceAdd, Nat.reduceLeDiff, Nat.reduceMul, ↓reduceIte, reduceCtorEq, newCells, bslV, eq_self, *, letter03 hE, digit03 hE, hix]))
      all_goals first
        | exact Next.mk (e + 1) ⟨rfl, by omega, rfl, rfl, rfl, rfl, rfl, this⟩ (by omega)
        | (exfalso; simp_all; done)
        | (exfalso; simp_all; omega)
    · have hst := runEnd_stop (p := goesB) hlt (by simpa using hg)
      rw [hst] at hr
      rw [hr] at hq
      clear hr hst
      simp only [goesB, Bool.or_eq_true, decide_eq_true_eq] at hg
      (repeat' (first | (with_reducible refine A1 (fun _ => ?_) (fun _ => ?_) <;> try (exfalso; omega)) | (with_reducible refine A2 (fun _ => ?_) (fun _ => ?_) <;> try (exfalso; omega)) | (with_reducible refine A3 (fun _ => ?_) (fun _ => ?_) <;> try (exfalso; omega)) | refine A4 (fun _ => ?_) (fun _ => ?_) | refine A5 (fun _ => ?_) (fun _ => ?_) | refine A6 (fun _ => ?_) (fun _ => ?_) | simp -dsimp (disch := omega) only [↓EA, EB, Nat.reduceEqDiff, Nat.reduceAdd, Nat.reduceLeDiff, Nat.reduceMul, ↓reduceIte, reduceCtorEq, newCells, bslV, eq_self, *, letter03 hE, digit03 hE, hix]))
      all_goals first
        | exact hq _ rfl rfl rfl rfl rfl
        | (exfalso; simp_all; done)
        | (exfalso; simp_all; omega)
  · rw [runEnd_end (p := goesB) (e := e) (by omega)] at hr
    rw [hr] at hq
    (repeat' (first | (with_reducible refine A1 (fun _ => ?_) (fun _ => ?_) <;> try (exfalso; omega)) | (with_reducible refine A2 (fun _ => ?_) (fun _ => ?_) <;> try (exfalso; omega)) | (with_reducible refine A3 (fun _ => ?_) (fun _ => ?_) <;> try (exfalso; omega)) | refine A4 (fun _ => ?_) (fun _ => ?_) | refine A5 (fun _ => ?_) (fun _ => ?_) | refine A6 (fun _ => ?_) (fun _ => ?_) | simp -dsimp (disch := omega) only [↓EA, EB, Nat.reduceEqDiff, Nat.reduceAdd, Nat.reduceLeDiff, Nat.reduceMul, ↓reduceIte, reduceCtorEq, newCells, bslV, eq_self, *]))
    exact hq _ rfl rfl rfl rfl rfl
theorem one_l1 (hE : Laid E) {W : Nat → Prop} {h0 : Heap} {s : ByteArray} (hs : s.size < 1152921504606846976) {e0 : Nat} (he0 : e0 ≤ s.size) {v1 v4 v5 : Value} {Q : Ex → Fr → Heap → Prop} {fr : Fr}
    (g0 : get fr 0 = .string s) (g1 : get fr 1 = v1) (g4 : get fr 4 = v4) (g5 : get fr 5 = v5) (g6 : get fr 6 = .int .i64 e0)
    (hq : ∀ fr', get fr' 0 = .string s → get fr' 1 = v1 → get fr' 4 = v4 → get fr' 5 = v5 → get fr' 6 = .int .i64 (runEnd digitB s e0) → Q (.exit 2) fr' h0) :
    WO W (iterW (code (callW E) iterW 98 c_ref03_one_l1) fr h0) Q := by
  refine WO.loop (fun e fr h' => h' = h0 ∧ e ≤ s.size ∧ get fr 0 = .string s ∧ get fr 1 = v1 ∧ get fr 4 = v4 ∧ get fr 5 = v5 ∧ get fr 6 = .int .i64 e ∧ runEnd digitB s e0 = runEnd digitB s e) (fun e => s.size - e) ?_ e0 ⟨rfl, he0, g0, g1, g4, g5, g6, rfl⟩
  rintro e fr h' ⟨rfl, he, g0, g1, g4, g5, g6, hr⟩
  unfold c_ref03_one_l1
  by_cases hlt : e < s.size
  · have hix : ∀ k : IntKind, ixtV (.string s) (.int k e) = some (.int .u8 ((byteAt s e).toNat : Int)) := fun k => ixt_at (by omega) (by omega)
    by_cases hg : digitB (byteAt s e) = true
    · have : runEnd digitB s e0 = runEnd digitB s (e + 1) := hr.trans (runEnd_step hlt hg)
      clear hr hq
      (repeat' (first | (with_reducible refine A1 (fun _ => ?_) (fun _ => ?_) <;> try (exfalso; omega)) | (with_reducible refine A2 (fun _ => ?_) (fun _ => ?_) <;> try (exfalso; omega)) | (with_reducible refine A3 (fun _ => ?_) (fun _ => ?_) <;> try (exfalso; omega)) | refine A4 (fun _ => ?_) (fun _ => ?_) | refine A5 (fun _ => ?_) (fun _ => ?_) | refine A6 (fun _ => ?_) (fun _ => ?_) | simp -dsimp (disch := omega) only [↓EA, EB, Nat.reduceEqDiff, Nat.reduceAdd, Nat.reduceLeDiff, Nat.reduceMul, ↓reduceIte, reduceCtorEq, newCells, bslV, eq_self, *, digit03 hE, hix]))
      all_goals exact Next.mk (e + 1) ⟨rfl, by omega, rfl, rfl, rfl, rfl, rfl, this⟩ (by omega)
    · have hst := runEnd_stop (p := digitB) hlt (by simpa using hg)
      rw [hst] at hr
      rw [hr] at hq
      clear hr hst
      have hg' : digitB (byteAt s e) = false := by simpa using hg
      clear hg
      (repeat' (first | (with_reducible refine A1 (fun _ => ?_) (fun _ => ?_) <;> try (exfalso; omega)) | (with_reducible refine A2 (fun _ => ?_) (fun _ => ?_) <;> try (exfalso; omega)) | (with_reducible refine A3 (fun _ => ?_) (fun _ => ?_) <;> try (exfalso; omega)) | refine A4 (fun _ => ?_) (fun _ => ?_) | refine A5 (fun _ => ?_) (fun _ => ?_) | refine A6 (fun _ => ?_) (fun _ => ?_) | simp -dsimp (disch := omega) only [↓EA, EB, Nat.reduceEqDiff, Nat.reduceAdd, Nat.reduceLeDiff, Nat.reduceMul, ↓reduceIte, reduceCtorEq, newCells, bslV, eq_self, *, digit03 hE, hix]))
      all_goals exact hq _ rfl rfl rfl rfl rfl
  · rw [runEnd_end (p := digitB) (e := e) (by omega)] at hr
    rw [hr] at hq
    (repeat' (first | (with_reducible refine A1 (fun _ => ?_) (fun _ => ?_) <;> try (exfalso; omega)) | (with_reducible refine A2 (fun _ => ?_) (fun _ => ?_) <;> try (exfalso; omega)) | (with_reducible refine A3 (fun _ => ?_) (fun _ => ?_) <;> try (exfalso; omega)) | refine A4 (fun _ => ?_) (fun _ => ?_) | refine A5 (fun _ => ?_) (fun _ => ?_) | refine A6 (fun _ => ?_) (fun _ => ?_) | simp -dsimp (disch := omega) only [↓EA, EB, Nat.reduceEqDiff, Nat.reduceAdd, Nat.reduceLeDiff, Nat.reduceMul, ↓reduceIte, reduceCtorEq, newCells, bslV, eq_self, *]))
    exact hq _ rfl rfl rfl rfl rfl
theorem runEnd_all {p : UInt8 → Bool} {s : ByteArray} {e j : Nat} (h1 : e ≤ j) (h2 : j < runEnd p s e) : p (byteAt s j) = true := by
  unfold runEnd at h2
  have hl : (((bs s).drop e).takeWhile p).length ≤ ((bs s).drop e).length := (List.takeWhile_sublist p).length_le
  rw [List.length_drop] at hl
  have hlt : j - e < (((bs s).drop e).takeWhile p).length := by omega
  have hm : (((bs s).drop e).takeWhile p)[j - e] ∈ ((bs s).drop e).takeWhile p := List.getElem_mem hlt
  have hp := List.all_eq_true.1 (List.all_takeWhile (p := p) (l := (bs s).drop e)) _ hm
  have e2 : (((bs s).drop e).takeWhile p)[j - e] = byteAt s j := by
    have hpre := List.takeWhile_prefix p (l := (bs s).drop e)
    rw [hpre.getElem hlt, List.getElem_drop]
    unfold byteAt
    rw [List.getD_eq_getElem?_getD, show ((j : Int)).toNat = j by omega, List.getElem?_eq_getElem (by omega)]
    simp only [show e + (j - e) = j by omega]; rfl
  rw [e2] at hp; exact hp
def numF (s : ByteArray) (a : Nat) : Nat → Int
  | 0 => 0
  | k + 1 => min (numF s a k * 10 + ((byteAt s ((a + k : Nat) : Int)).toNat - 48)) 1099511627776
theorem numF_in {s : ByteArray} {a : Nat} : ∀ {k : Nat}, (∀ j, a ≤ j → j < a + k → digitB (byteAt s j) = true) → 0 ≤ numF s a k ∧ numF s a k ≤ 1099511627776
  | 0, _ => by simp [numF]
  | k + 1, h => by
    have ih := numF_in (k := k) fun j h1 h2 => h j h1 (by omega)
    have hd := h (a + k) (by omega) (by omega)
    simp only [digitB, decide_eq_true_eq] at hd
    simp only [numF]; omega
theorem one_l2 (hE : Laid E) {W : Nat → Prop} {h0 : Heap} {s : ByteArray} (hs : s.size < 1152921504606846976) {a e : Nat} (hae : a ≤ e) (hes : e ≤ s.size) (hd : ∀ j, a ≤ j → j < e → digitB (byteAt s j) = true) {b : Nat} (hW : W b) {x y z v4 : Value} (hb : h0[b]? = some (.cells [x, y, z, .int .i64 0] false)) {Q : Ex → Fr → Heap → Prop} {fr : Fr}
    (g0 : get fr 0 = .string s) (g1 : get fr 1 = .int .i64 a) (g4 : get fr 4 = v4) (g5 : get fr 5 = .pointer (some ⟨b, 0, none⟩)) (g6 : get fr 6 = .int .i64 e) (g10 : get fr 10 = .int .i64 a)
    (hq : ∀ fr', get fr' 0 = .string s → get fr' 1 = .int .i64 a → get fr' 4 = v4 → get fr' 5 = .pointer (some ⟨b, 0, none⟩) → get fr' 6 = .int .i64 e → Q (.exit 4) fr' (h0.set b (.cells [x, y, z, .int .i64 (numF s a (e - a))] false))) :
    WO W (iterW (code (callW E) iterW 98 c_ref03_one_l2) fr h0) Q := by
  have hlt := (List.getElem?_eq_some_iff.1 hb).1
  have hsame : h0 = h0.set b (.cells [x, y, z, .int .i64 0] false) := by
    apply List.ext_getElem?
    intro j
    by_cases e : b = j
    · subst e; rw [List.getElem?_set_self hlt]; exact hb
    · rw [gets e]
  refine WO.loop (fun k fr h' => h' = h0.set b (.cells [x, y, z, .int .i64 (numF s a k)] false) ∧ a + k ≤ e ∧ get fr 0 = .string s ∧ get fr 1 = .int .i64 a ∧ get fr 4 = v4 ∧ get fr 5 = .pointer (some ⟨b, 0, none⟩) ∧ get fr 6 = .int .i64 e ∧ get fr 10 = .int .i64 (a + k : Nat)) (fun k => e - a - k) ?_ 0 ⟨hsame, hae, g0, g1, g4, g5, g6, g10⟩
  rintro k fr h' ⟨rfl, hk, g0, g1, g4, g5, g6, g10⟩
  clear hsame
  unfold c_ref03_one_l2
  have hn := numF_in (s := s) (a := a) (k := k) fun j h1 h2 => hd j h1 (by omega)
  have hget : (h0.set b (.cells [x, y, z, .int .i64 (numF s a k)] false))[b]? = some (.cells [x, y, z, .int .i64 (numF s a k)] false) := List.getElem?_set_self hlt
  by_cases hke : a + k < e
  · have hix : ∀ k' : IntKind, ixtV (.string s) (.int k' (a + k : Nat)) = some (.int .u8 ((byteAt s ((a + k : Nat) : Int)).toNat : Int)) := fun k => ixt_at (by omega) (by omega)
    have hdk := hd (a + k) (by omega) hke
    simp only [digitB, decide_eq_true_eq] at hdk
    clear hd hq
    (repeat' (first | (with_reducible refine A1 (fun _ => ?_) (fun _ => ?_) <;> try (exfalso; omega)) | (with_reducible refine A2 (fun _ => ?_) (fun _ => ?_) <;> try (exfalso; omega)) | (with_reducible refine A3 (fun _ => ?_) (fun _ => ?_) <;> try (exfalso; omega)) | refine A4 (fun _ => ?_) (fun _ => ?_) | refine A5 (fun _ => ?_) (fun _ => ?_) | refine A6 (fun _ => ?_) (fun _ => ?_) | simp -dsimp (disch := omega) only [↓EA, EB, Nat.reduceEqDiff, Nat.reduceAdd, Nat.reduceLeDiff, Nat.reduceMul, ↓reduceIte, reduceCtorEq, newCells, bslV, eq_self, *, hix, List.set_set]))
    exact Next.mk (k + 1) ⟨rfl, by omega, rfl, rfl, rfl, rfl, rfl, rfl⟩ (by omega)
  · have : e - a = k := by omega
    rw [this] at hq
    (repeat' (first | (with_reducible refine A1 (fun _ => ?_) (fun _ => ?_) <;> try (exfalso; omega)) | (with_reducible refine A2 (fun _ => ?_) (fun _ => ?_) <;> try (exfalso; omega)) | (with_reducible refine A3 (fun _ => ?_) (fun _ => ?_) <;> try (exfalso; omega)) | refine A4 (fun _ => ?_) (fun _ => ?_) | refine A5 (fun _ => ?_) (fun _ => ?_) | refine A6 (fun _ => ?_) (fun _ => ?_) | simp -dsimp (disch := omega) only [↓EA, EB, Nat.reduceEqDiff, Nat.reduceAdd, Nat.reduceLeDiff, Nat.reduceMul, ↓reduceIte, reduceCtorEq, newCells, bslV, eq_self, *]))
    exact hq _ rfl rfl rfl rfl rfl
structure Tok where
  kind : Int
  at' : Int
  text : ByteArray
  n : Int
instance : Inhabited Tok := ⟨⟨0, 0, ⟨#[]⟩, 0⟩⟩
def encTok (t : Tok) : List Value := [.int .i64 t.kind, .int .i64 t.at', .string t.text, .int .i64 t.n]
def tokP (s : ByteArray) (a : Nat) : Tok :=
  if letterB (byteAt s a) then ⟨1, a, s.extract a (runEnd goesB s (a + 1)), 0⟩
  else if digitB (byteAt s a) then ⟨2, a, s.extract a (runEnd digitB s (a + 1)), numF s a (runEnd digitB s (a + 1) - a)⟩
  else if ((byteAt s a).toNat : Int) = 61 then ⟨3, a, s.extract a (a + 1), 0⟩
  else if ((byteAt s a).toNat : Int) = 10 then ⟨4, a, s.extract a (a + 1), 0⟩
  else ⟨0, 0, ⟨#[]⟩, 0⟩
theorem one03 (hE : Laid E) (h : Heap) {s : ByteArray} (hs : s.size < 1152921504606846976) {a : Nat} (ha : a < s.size) :
    callW E (.func (.func n_ref03_one) #[] #[]) [.string s, .int .i64 a] h = some (.agg (encTok (tokP s a)).toArray, h, []) := by
  refine fn_same hE.ref03_one rfl (by simp) ?_
  have hix : ∀ k' : IntKind, ixtV (.string s) (.int k' a) = some (.int .u8 ((byteAt s a).toNat : Int)) := fun k => ixt_at (by omega) (by omega)
  have hle := runEnd_le (p := goesB) (s := s) (e := a + 1) (by omega)
  have hle2 := runEnd_le (p := digitB) (s := s) (e := a + 1) (by omega)
  have hd : digitB (byteAt s a) = true → ∀ j, a ≤ j → j < runEnd digitB s (a + 1) → digitB (byteAt s j) = true := fun h0 j h1 h2 => by
    rcases Nat.lt_or_ge a j with h3 | h3
    · exact runEnd_all (e := a + 1) (by omega) h2
    · have : j = a := by omega
      subst this; exact h0
  simp only [argsF]
  (repeat' (first | (with_reducible refine A1 (fun _ => ?_) (fun _ => ?_) <;> try (exfalso; omega)) | (with_reducible refine A2 (fun _ => ?_) (fun _ => ?_) <;> try (exfalso; omega)) | (with_reducible refine A3 (fun _ => ?_) (fun _ => ?_) <;> try (exfalso; omega)) | refine A4 (fun _ => ?_) (fun _ => ?_) | refine A5 (fun _ => ?_) (fun _ => ?_) | refine A6 (fun _ => ?_) (fun _ => ?_) | simp -dsimp (disch := omega) only [↓EA, EB, Nat.reduceEqDiff, Nat.reduceAdd, Nat.reduceLeDiff, Nat.reduceMul, ↓reduceIte, reduceCtorEq, newCells, bslV, eq_self, *, hix, letter03 hE, digit03 hE]))
  · refine one_l0 hE hs (e0 := a + 1) (by omega) rfl rfl rfl rfl rfl fun fr' g0 g1 g4 g5 g6 => ?_
    (repeat' (first | (with_reducible refine A1 (fun _ => ?_) (fun _ => ?_) <;> try (exfalso; omega)) | (with_reducible refine A2 (fun _ => ?_) (fun _ => ?_) <;> try (exfalso; omega)) | (with_reducible refine A3 (fun _ => ?_) (fun _ => ?_) <;> try (exfalso; omega)) | refine A4 (fun _ => ?_) (fun _ => ?_) | refine A5 (fun _ => ?_) (fun _ => ?_) | refine A6 (fun _ => ?_) (fun _ => ?_) | simp -dsimp (disch := omega) only [↓EA, EB, Nat.reduceEqDiff, Nat.reduceAdd, Nat.reduceLeDiff, Nat.reduceMul, ↓reduceIte, reduceCtorEq, newCells, bslV, eq_self, *]))
    simp [tokP, encTok, noNew, *]
  · refine one_l1 hE hs (e0 := a + 1) (by omega) rfl rfl rfl rfl rfl fun fr' g0 g1 g4 g5 g6 => ?_
    (repeat' (first | (with_reducible refine A1 (fun _ => ?_) (fun _ => ?_) <;> try (exfalso; omega)) | (with_reducible refine A2 (fun _ => ?_) (fun _ => ?_) <;> try (exfalso; omega)) | (with_reducible refine A3 (fun _ => ?_) (fun _ => ?_) <;> try (exfalso; omega)) | refine A4 (fun _ => ?_) (fun _ => ?_) | refine A5 (fun _ => ?_) (fun _ => ?_) | refine A6 (fun _ => ?_) (fun _ => ?_) | simp -dsimp (disch := omega) only [↓EA, EB, Nat.reduceEqDiff, Nat.reduceAdd, Nat.reduceLeDiff, Nat.reduceMul, ↓reduceIte, reduceCtorEq, newCells, bslV, eq_self, *]))
    refine one_l2 hE hs (a := a) (e := runEnd digitB s (a + 1)) (b := h.length + 1) (by omega) (by omega) (hd ‹_›) (by omega) (by rw [geta]; rfl) rfl rfl rfl rfl rfl rfl fun fr' g0 g1 g4 g5 g6 => ?_
    (repeat' (first | (with_reducible refine A1 (fun _ => ?_) (fun _ => ?_) <;> try (exfalso; omega)) | (with_reducible refine A2 (fun _ => ?_) (fun _ => ?_) <;> try (exfalso; omega)) | (with_reducible refine A3 (fun _ => ?_) (fun _ => ?_) <;> try (exfalso; omega)) | refine A4 (fun _ => ?_) (fun _ => ?_) | refine A5 (fun _ => ?_) (fun _ => ?_) | refine A6 (fun _ => ?_) (fun _ => ?_) | simp -dsimp (disch := omega) only [↓EA, EB, Nat.reduceEqDiff, Nat.reduceAdd, Nat.reduceLeDiff, Nat.reduceMul, ↓reduceIte, reduceCtorEq, newCells, bslV, eq_self, *]))
    simp [tokP, encTok, noNew, *]
  all_goals simp [tokP, encTok, noNew, *]
def wordB (s : ByteArray) : Bool := match bs s with
  | [] => false
  | c :: r => letterB c && r.all goesB
theorem takeWhile_len {α : Type} {p : α → Bool} : ∀ {l : List α}, (l.takeWhile p).length = l.length ↔ l.all p = true
  | [] => by simp
  | x :: r => by
    rw [List.takeWhile_cons, List.all_cons]
    by_cases h : p x = true
    · rw [if_pos h, List.length_cons, List.length_cons, h, Bool.true_and, ← takeWhile_len]; omega
    · rw [if_neg h]; simp [h]
theorem extract_all {s : ByteArray} {e : Nat} (h : e ≤ s.size) : bs (s.extract 0 e) = bs s ↔ e = s.size := by
  have e1 : bs (s.extract 0 e) = (bs s).take e := by simp [bs, ByteArray.data_extract]
  rw [e1]
  constructor
  · intro h2
    have := congrArg List.length h2
    rw [List.length_take, bs_len] at this; omega
  · intro h2; rw [h2, ← bs_len, List.take_length]
theorem tok_word {s : ByteArray} (h : 0 < s.size) : wordB s = decide ((tokP s 0).kind = 1 ∧ bs (tokP s 0).text = bs s) := by
  have hl : 0 < (bs s).length := by rw [bs_len]; exact h
  match hb : bs s with
  | [] => rw [hb] at hl; simp at hl
  | c :: r =>
    have hc : byteAt s (0 : Nat) = c := by simp [byteAt, hb]
    have hsz : s.size = r.length + 1 := by rw [← bs_len, hb]; rfl
    unfold wordB tokP
    rw [hc, hb]
    dsimp only
    by_cases h1 : letterB c = true
    · rw [if_pos h1, h1, Bool.true_and]
      have h2 := extract_all (s := s) (e := runEnd goesB s 1) (runEnd_le (p := goesB) (by omega)).2
      dsimp only [Nat.zero_add]
      have h3 : runEnd goesB s 1 = s.size ↔ r.all goesB = true := by
        rw [← takeWhile_len]; unfold runEnd; rw [hb, List.drop_succ_cons, List.drop_zero]; omega
      rw [← hb, Bool.eq_iff_iff, decide_eq_true_eq, h2, h3]; simp
    · rw [if_neg h1]
      have h1' : letterB c = false := by simpa using h1
      rw [h1', Bool.false_and]
      symm; rw [decide_eq_false_iff_not]
      split
      · simp
      · split
        · simp
        · split <;> simp
theorem word03 (hE : Laid E) (h : Heap) {s : ByteArray} (hs : s.size < 1152921504606846976) :
    callW E (.func (.func n_ref03_Word) #[] #[]) [.string s] h = some (.bool (wordB s), h, []) := by
  refine fn_same hE.ref03_Word rfl (by simp) ?_
  simp only [argsF]
  rcases Nat.eq_zero_or_pos s.size with h0 | h0
  · have e : bs s = [] := List.length_eq_zero_iff.1 (by rw [bs_len]; exact h0)
    have e2 : bs ⟨#[]⟩ = [] := rfl
    (repeat' (first | (with_reducible refine A1 (fun _ => ?_) (fun _ => ?_) <;> try (exfalso; omega)) | (with_reducible refine A2 (fun _ => ?_) (fun _ => ?_) <;> try (exfalso; omega)) | (with_reducible refine A3 (fun _ => ?_) (fun _ => ?_) <;> try (exfalso; omega)) | refine A4 (fun _ => ?_) (fun _ => ?_) | refine A5 (fun _ => ?_) (fun _ => ?_) | refine A6 (fun _ => ?_) (fun _ => ?_) | simp -dsimp (disch := omega) only [↓EA, EB, Nat.reduceEqDiff, Nat.reduceAdd, Nat.reduceLeDiff, Nat.reduceMul, ↓reduceIte, reduceCtorEq, newCells, bslV, eq_self, *, bs_eq, e, e2]))
    simp [wordB, e, noNew]
  · have h1 := fun h => one03 hE h hs (a := 0) h0
    have e : bs s ≠ [] := fun e => by rw [← bs_len, e] at h0; simp at h0
    have e2 : bs ⟨#[]⟩ = [] := rfl
    rw [tok_word h0]
    simp only [encTok, Int.ofNat_zero, Int.natCast_zero] at h1
    (repeat' (first | (with_reducible refine A1 (fun _ => ?_) (fun _ => ?_) <;> try (exfalso; omega)) | (with_reducible refine A2 (fun _ => ?_) (fun _ => ?_) <;> try (exfalso; omega)) | (with_reducible refine A3 (fun _ => ?_) (fun _ => ?_) <;> try (exfalso; omega)) | refine A4 (fun _ => ?_) (fun _ => ?_) | refine A5 (fun _ => ?_) (fun _ => ?_) | refine A6 (fun _ => ?_) (fun _ => ?_) | simp -dsimp (disch := omega) only [↓EA, EB, Nat.reduceEqDiff, Nat.reduceAdd, Nat.reduceLeDiff, Nat.reduceMul, ↓reduceIte, reduceCtorEq, newCells, bslV, eq_self, *, bs_eq, e, e2, h1]))
    all_goals simp [*]
end Go.L.Try
namespace Go.L.Try
open Go Go.L
variable {E : Env}
def rangesB (t : Task) : Prop := wordB t.name = true ∧ t.name.size ≤ 32 ∧ (1 ≤ t.C ∧ t.C ≤ 2147483647) ∧ (1 ≤ t.T ∧ t.T ≤ 2147483647) ∧ (1 ≤ t.D ∧ t.D ≤ 2147483647) ∧ (1 ≤ t.Q ∧ t.Q ≤ 2147483647) ∧ (0 ≤ t.J ∧ t.J ≤ 2147483647) ∧ 1 ≤ t.P ∧ t.P ≤ 1048576
instance (t : Task) : Decidable (rangesB t) := by unfold rangesB; infer_instance
def fitsB (t : Task) : Prop := t.Q ≤ t.C ∧ t.C + t.J ≤ t.D ∧ t.D ≤ t.T
instance (t : Task) : Decidable (fitsB t) := by unfold fitsB; infer_instance
def checkP (t : Task) : Int := if rangesB t then if fitsB t then 0 else 12 else 11
theorem check04 (hE : Laid E) (h : Heap) (t : Task) (hs : t.name.size < 1152921504606846976) :
    callW E (.func (.func n_ref04_Check) #[] #[]) [.agg (encT t).toArray] h = some (.int .i64 (checkP t), h, []) := by
  refine fn_same hE.ref04_Check rfl (by simp) ?_
  have hw := fun h => word03 hE h hs
  simp only [argsF]
  (repeat' (first | (with_reducible refine A1 (fun _ => ?_) (fun _ => ?_) <;> try (exfalso; omega)) | (with_reducible refine A2 (fun _ => ?_) (fun _ => ?_) <;> try (exfalso; omega)) | (with_reducible refine A3 (fun _ => ?_) (fun _ => ?_) <;> try (exfalso; omega)) | refine A4 (fun _ => ?_) (fun _ => ?_) | refine A5 (fun _ => ?_) (fun _ => ?_) | refine A6 (fun _ => ?_) (fun _ => ?_) | simp -dsimp (disch := omega) only [↓EA, EB, Nat.reduceEqDiff, Nat.reduceAdd, Nat.reduceLeDiff, Nat.reduceMul, ↓reduceIte, reduceCtorEq, newCells, bslV, eq_self, *, encT, hw, in04 hE]))
  all_goals
    congr 1
    by_cases h1 : rangesB t
    · by_cases h2 : fitsB t
      · simp only [checkP, h1, h2, if_true] <;>
        (first | rfl | (exfalso; unfold rangesB fitsB at *; simp_all; done) | (exfalso; unfold rangesB fitsB at *; simp_all; omega))
      · simp only [checkP, h1, h2, if_true, if_false] <;>
        (first | rfl | (exfalso; unfold rangesB fitsB at *; simp_all; done) | (exfalso; unfold rangesB fitsB at *; simp_all; omega))
    · simp only [checkP, h1, if_false] <;>
      (first | rfl | (exfalso; unfold rangesB at *; simp_all; done) | (exfalso; unfold rangesB at *; simp_all; omega))
def clash (l : List Task) (i : Int) : Nat → Bool
  | 0 => false
  | k + 1 => clash l i k || decide (bs (atI l (k : Int)).name = bs (atI l i).name ∨ (atI l (k : Int)).P = (atI l i).P)
def checkFrom (l : List Task) : Nat → Int → Int × Int
  | 0, i => (i, 0)
  | n + 1, i => if checkP (atI l i) ≠ 0 then (i, checkP (atI l i)) else if clash l i i.toNat then (i, 13) else checkFrom l n (i + 1)
def checkAllP (l : List Task) : Int × Int := if l.length = 0 ∨ 1024 < l.length then (0, 14) else checkFrom l l.length 0
theorem clash_mono {l : List Task} {i : Int} {k j : Nat} (h : k ≤ j) (hc : clash l i k = true) : clash l i j = true := by
  induction h with
  | refl => exact hc
  | step _ ih => simp only [clash, ih, Bool.true_or]
theorem ca_l0 (hE : Laid E) {W : Nat → Prop} {h0 : Heap} {vl : Value} {l : List Task} (hl : Rd 7 encT h0 vl l) {i : Nat} (hi : i < l.length) {b : Nat} {x y : Value} (hb : h0[b]? = some (.cells [x, y] false)) (hW : W b) {Q : Ex → Fr → Heap → Prop} {fr : Fr}
    (g0 : get fr 0 = vl) (g2 : get fr 2 = .pointer (some ⟨b, 0, none⟩)) (g3 : get fr 3 = .int .i64 i) (g5 : get fr 5 = .int .i64 0)
    (hq1 : clash l i i = false → ∀ fr', get fr' 0 = vl → get fr' 2 = .pointer (some ⟨b, 0, none⟩) → get fr' 3 = .int .i64 i → Q (.exit 2) fr' h0)
    (hq2 : clash l i i = true → ∀ fr', get fr' 2 = .pointer (some ⟨b, 0, none⟩) → Q .ret fr' (h0.set b (.cells [.int .i64 i, .int .i64 13] false))) :
    WO W (iterW (code (callW E) iterW 65 c_ref04_CheckAll_l0) fr h0) Q := by
  have few := hl.few
  refine WO.loop (fun k fr h' => h' = h0 ∧ k ≤ i ∧ clash l i k = false ∧ get fr 0 = vl ∧ get fr 2 = .pointer (some ⟨b, 0, none⟩) ∧ get fr 3 = .int .i64 i ∧ get fr 5 = .int .i64 k) (fun k => i - k) ?_ 0 ⟨rfl, Nat.zero_le _, rfl, g0, g2, g3, g5⟩
  rintro k fr h' ⟨rfl, hk, hc, g0, g2, g3, g5⟩
  unfold c_ref04_CheckAll_l0
  rcases Nat.lt_or_ge k i with hlt | hge
  · have hcl : clash l i (k + 1) = decide (bs (atI l (k : Int)).name = bs (atI l i).name ∨ (atI l (k : Int)).P = (atI l i).P) := by simp [clash, hc]
    clear hq1
    have hq2 := fun h => hq2 (clash_mono (k := k + 1) (by omega) h)
    rw [hcl] at hq2
    simp only [decide_eq_true_eq] at hq2
    (repeat' (first | (with_reducible refine A1 (fun _ => ?_) (fun _ => ?_) <;> try (exfalso; omega)) | (with_reducible refine A2 (fun _ => ?_) (fun _ => ?_) <;> try (exfalso; omega)) | (with_reducible refine A3 (fun _ => ?_) (fun _ => ?_) <;> try (exfalso; omega)) | refine A4 (fun _ => ?_) (fun _ => ?_) | refine A5 (fun _ => ?_) (fun _ => ?_) | refine A6 (fun _ => ?_) (fun _ => ?_) | simp -dsimp (disch := omega) only [↓EA, EB, Nat.reduceEqDiff, Nat.reduceAdd, Nat.reduceLeDiff, Nat.reduceMul, ↓reduceIte, reduceCtorEq, newCells, bslV, eq_self, *, hl.len, hl.ixs, hl.ld, hl.ld0, hl.lda, hl.ldx, hl.ldx0, hl.ldxa, encT, bs_eq, hb]))
    · exact hq2 (.inl ‹_›) _ rfl
    · exact hq2 (.inr ‹_›) _ rfl
    · exact Next.mk (k + 1) ⟨rfl, by omega, by rw [hcl]; simp [*], rfl, rfl, rfl, rfl⟩ (by omega)
  · have : k = i := by omega
    subst this
    (repeat' (first | (with_reducible refine A1 (fun _ => ?_) (fun _ => ?_) <;> try (exfalso; omega)) | (with_reducible refine A2 (fun _ => ?_) (fun _ => ?_) <;> try (exfalso; omega)) | (with_reducible refine A3 (fun _ => ?_) (fun _ => ?_) <;> try (exfalso; omega)) | refine A4 (fun _ => ?_) (fun _ => ?_) | refine A5 (fun _ => ?_) (fun _ => ?_) | refine A6 (fun _ => ?_) (fun _ => ?_) | simp -dsimp (disch := omega) only [↓EA, EB, Nat.reduceEqDiff, Nat.reduceAdd, Nat.reduceLeDiff, Nat.reduceMul, ↓reduceIte, reduceCtorEq, newCells, bslV, eq_self, *]))
    exact hq1 hc _ rfl rfl rfl
theorem checkAll04 (hE : Laid E) {h : Heap} {vl : Value} {l : List Task} (hl : Rd 7 encT h vl l) (hs : ∀ t ∈ l, t.name.size < 1152921504606846976) :
    callW E (.func (.func n_ref04_CheckAll) #[] #[]) [vl] h = some (.agg #[.int .i64 (checkAllP l).1, .int .i64 (checkAllP l).2], h, []) := by
  refine fn_same hE.ref04_CheckAll rfl (by simp) ?_
  have few := hl.few
  simp only [argsF]
  (repeat' (first | (with_reducible refine A1 (fun _ => ?_) (fun _ => ?_) <;> try (exfalso; omega)) | (with_reducible refine A2 (fun _ => ?_) (fun _ => ?_) <;> try (exfalso; omega)) | (with_reducible refine A3 (fun _ => ?_) (fun _ => ?_) <;> try (exfalso; omega)) | refine A4 (fun _ => ?_) (fun _ => ?_) | refine A5 (fun _ => ?_) (fun _ => ?_) | refine A6 (fun _ => ?_) (fun _ => ?_) | simp -dsimp (disch := omega) only [↓EA, EB, Nat.reduceEqDiff, Nat.reduceAdd, Nat.reduceLeDiff, Nat.reduceMul, ↓reduceIte, reduceCtorEq, newCells, bslV, eq_self, *, hl.len, hl.ixs, hl.ld, hl.ld0, hl.lda, hl.ldx, hl.ldx0, hl.ldxa]))
  · have e0 : checkAllP l = (0, 14) := if_pos (by omega)
    simp [e0]
  · have e0 : checkAllP l = (0, 14) := if_pos (by omega)
    simp [e0]
  · have e0 : checkAllP l = checkFrom l l.length 0 := by unfold checkAllP; rw [if_neg (by omega)]
    rw [e0]
    refine WO.loop (fun i fr h' => h' = h ++ [LObj.cells [.int .i64 0, .int .i64 0] false] ∧ i ≤ l.length ∧ checkFrom l l.length 0 = checkFrom l (l.length - i) i ∧ get fr 0 = vl ∧ get fr 2 = .pointer (some ⟨h.length, 0, none⟩) ∧ get fr 3 = .int .i64 i) (fun i => l.length - i) ?_ 0 ⟨rfl, Nat.zero_le _, rfl, rfl, rfl, rfl⟩
    rintro i fr h' ⟨rfl, hi, hc, g0, g2, g3⟩
    unfold c_ref04_CheckAll_l1
    have hl' := hl.app [LObj.cells [.int .i64 0, .int .i64 0] false]
    rcases Nat.lt_or_ge i l.length with hlt | hge
    · have hck := fun h => check04 hE h (atI l i) (hs _ (atI_mem (by omega) (by omega)))
      have e1 : l.length - i = (l.length - (i + 1)) + 1 := by omega
      rw [e1] at hc
      simp only [checkFrom] at hc
      rw [hc]
      clear hc e0 e1
      (repeat' (first | (with_reducible refine A1 (fun _ => ?_) (fun _ => ?_) <;> try (exfalso; omega)) | (with_reducible refine A2 (fun _ => ?_) (fun _ => ?_) <;> try (exfalso; omega)) | (with_reducible refine A3 (fun _ => ?_) (fun _ => ?_) <;> try (exfalso; omega)) | refine A4 (fun _ => ?_) (fun _ => ?_) | refine A5 (fun _ => ?_) (fun _ => ?_) | refine A6 (fun _ => ?_) (fun _ => ?_) | simp -dsimp (disch := omega) only [↓EA, EB, Nat.reduceEqDiff, Nat.reduceAdd, Nat.reduceLeDiff, Nat.reduceMul, ↓reduceIte, reduceCtorEq, newCells, bslV, eq_self, *, hl'.len, hl'.ixs, hl'.ld, hl'.ld0, hl'.lda, hl'.ldx, hl'.ldx0, hl'.ldxa, hck]))
      · simp [*]
      · refine ca_l0 hE hl' hlt (b := h.length) (by rw [geta0]; rfl) (Nat.le_refl _) rfl rfl rfl rfl (fun hc fr' g0 g2 g3 => ?_) (fun hc fr' g2 => ?_)
        · (repeat' (first | (with_reducible refine A1 (fun _ => ?_) (fun _ => ?_) <;> try (exfalso; omega)) | (with_reducible refine A2 (fun _ => ?_) (fun _ => ?_) <;> try (exfalso; omega)) | (with_reducible refine A3 (fun _ => ?_) (fun _ => ?_) <;> try (exfalso; omega)) | refine A4 (fun _ => ?_) (fun _ => ?_) | refine A5 (fun _ => ?_) (fun _ => ?_) | refine A6 (fun _ => ?_) (fun _ => ?_) | simp -dsimp (disch := omega) only [↓EA, EB, Nat.reduceEqDiff, Nat.reduceAdd, Nat.reduceLeDiff, Nat.reduceMul, ↓reduceIte, reduceCtorEq, newCells, bslV, eq_self, *]))
          refine Next.mk (i + 1) ⟨rfl, by omega, ?_, rfl, rfl, rfl⟩ (by omega)
          rw [if_neg (by simp [*]), if_neg (by simpa using hc)]; rfl
        · (repeat' (first | (with_reducible refine A1 (fun _ => ?_) (fun _ => ?_) <;> try (exfalso; omega)) | (with_reducible refine A2 (fun _ => ?_) (fun _ => ?_) <;> try (exfalso; omega)) | (with_reducible refine A3 (fun _ => ?_) (fun _ => ?_) <;> try (exfalso; omega)) | refine A4 (fun _ => ?_) (fun _ => ?_) | refine A5 (fun _ => ?_) (fun _ => ?_) | refine A6 (fun _ => ?_) (fun _ => ?_) | simp -dsimp (disch := omega) only [↓EA, EB, Nat.reduceEqDiff, Nat.reduceAdd, Nat.reduceLeDiff, Nat.reduceMul, ↓reduceIte, reduceCtorEq, newCells, bslV, eq_self, *]))
          simp [*]
    · have : i = l.length := by omega
      subst this
      rw [hc]
      (repeat' (first | (with_reducible refine A1 (fun _ => ?_) (fun _ => ?_) <;> try (exfalso; omega)) | (with_reducible refine A2 (fun _ => ?_) (fun _ => ?_) <;> try (exfalso; omega)) | (with_reducible refine A3 (fun _ => ?_) (fun _ => ?_) <;> try (exfalso; omega)) | refine A4 (fun _ => ?_) (fun _ => ?_) | refine A5 (fun _ => ?_) (fun _ => ?_) | refine A6 (fun _ => ?_) (fun _ => ?_) | simp -dsimp (disch := omega) only [↓EA, EB, Nat.reduceEqDiff, Nat.reduceAdd, Nat.reduceLeDiff, Nat.reduceMul, ↓reduceIte, reduceCtorEq, newCells, bslV, eq_self, *, hl'.len, hl'.ixs, hl'.ld, hl'.ld0, hl'.lda, hl'.ldx, hl'.ldx0, hl'.ldxa]))
      simp [checkFrom]
def okTask (t : Task) : Prop := rangesB t ∧ fitsB t
theorem checkFrom_ok {l : List Task} : ∀ {n : Nat} {i : Int}, (checkFrom l n i).2 = 0 → ∀ j : Nat, j < n → checkP (atI l (i + j)) = 0
  | 0, i, _, j, hj => by omega
  | n + 1, i, h, j, hj => by
    unfold checkFrom at h
    split at h
    · rename_i h1; exact absurd h h1
    · split at h
      · cases h
      · rename_i h1 _
        cases j with
        | zero => have : checkP (atI l i) = 0 := by simpa using h1
                  simpa using this
        | succ j =>
          have := checkFrom_ok h j (by omega)
          rw [show i + ((j + 1 : Nat) : Int) = i + 1 + (j : Int) by omega]; exact this
theorem checkAll_ok {l : List Task} (h : (checkAllP l).2 = 0) : 0 < l.length ∧ l.length ≤ 1024 ∧ ∀ t ∈ l, okTask t := by
  unfold checkAllP at h
  split at h
  · cases h
  · rename_i hn
    refine ⟨by omega, by omega, fun t ht => ?_⟩
    obtain ⟨j, hj, rfl⟩ := List.getElem_of_mem ht
    have h1 := checkFrom_ok h j hj
    rw [show (0 : Int) + (j : Int) = (j : Int) by omega, atI_nat hj] at h1
    unfold checkP at h1
    split at h1
    · split at h1
      · exact ⟨‹_›, ‹_›⟩
      · cases h1
    · cases h1
end Go.L.Try
set_option maxRecDepth 100000
namespace Go.L.Try
open Go Go.L
variable {E : Env}
def isP (l : List Task) (i : Int) : Bool := decide ((checkAllP l).2 = 0 ∧ 0 ≤ i ∧ i < l.length)
theorem is13 (hE : Laid E) {h : Heap} {vl : Value} {l : List Task} (hl : Rd 7 encT h vl l) (hs : ∀ t ∈ l, t.name.size < 1152921504606846976) (i : Int) :
    callW E (.func (.func n_ref13_Is) #[] #[]) [vl, .int .i64 i] h = some (.bool (isP l i), h, []) := by
  have hc := checkAll04 hE hl hs
  refine fn_same hE.ref13_Is rfl (by simp) ?_
  simp only [argsF]
  (repeat' (first | (with_reducible refine A1 (fun _ => ?_) (fun _ => ?_) <;> try (exfalso; omega)) | (with_reducible refine A2 (fun _ => ?_) (fun _ => ?_) <;> try (exfalso; omega)) | (with_reducible refine A3 (fun _ => ?_) (fun _ => ?_) <;> try (exfalso; omega)) | refine A4 (fun _ => ?_) (fun _ => ?_) | refine A5 (fun _ => ?_) (fun _ => ?_) | refine A6 (fun _ => ?_) (fun _ => ?_) | simp -dsimp (disch := omega) only [↓EA, EB, Nat.reduceEqDiff, Nat.reduceAdd, Nat.reduceLeDiff, Nat.reduceMul, ↓reduceIte, reduceCtorEq, newCells, bslV, eq_self, *, hl.len]))
  · congr 1; unfold isP; exact decide_eq_decide.2 (by omega)
  · congr 1; unfold isP; exact (decide_eq_false (by omega)).symm
  · congr 1; unfold isP; exact (decide_eq_false (by omega)).symm
def blockN (l : List Task) (i : Int) : Nat → Int
  | 0 => 0
  | k + 1 => if (atI l i).P < (atI l (k : Int)).P then max (blockN l i k) ((atI l (k : Int)).Q - 1) else blockN l i k
def oftenP (t : Task) (w : Int) : Int := (sat (w + t.J) + t.T - 1) / t.T
def higherN (l : List Task) (i w : Int) : Nat → Int
  | 0 => 0
  | k + 1 => if (atI l (k : Int)).P < (atI l i).P then sat (higherN l i w k + sat (oftenP (atI l (k : Int)) w * (atI l (k : Int)).C)) else higherN l i w k
def blockP (l : List Task) (i : Int) : Int := if isP l i then blockN l i l.length else 0
def higherP (l : List Task) (i w : Int) : Int := if isP l i ∧ 0 < w then higherN l i w l.length else 0
def needP (l : List Task) (i w : Int) : Int := if isP l i then sumU 0 [(atI l i).C, blockP l i, higherP l i w] else 0
theorem isP_ok {l : List Task} {i : Int} (h : isP l i = true) : (0 ≤ i ∧ i < l.length) ∧ l.length ≤ 1024 ∧ ∀ t ∈ l, okTask t := by
  unfold isP at h
  have h := of_decide_eq_true h
  exact ⟨h.2, (checkAll_ok h.1).2⟩
theorem blockN_in {l : List Task} (hok : ∀ t ∈ l, okTask t) (i : Int) : ∀ k : Nat, k ≤ l.length → 0 ≤ blockN l i k ∧ blockN l i k ≤ 2147483647
  | 0, _ => by simp [blockN]
  | k + 1, hk => by
    have ih := blockN_in hok i k (by omega)
    have ht := (hok _ (atI_mem (l := l) (i := (k : Int)) (by omega) (by omega))).1
    simp only [rangesB] at ht
    unfold blockN
    split <;> omega
theorem block13 (hE : Laid E) {h : Heap} {vl : Value} {l : List Task} (hl : Rd 7 encT h vl l) (hs : ∀ t ∈ l, t.name.size < 1152921504606846976) (i : Int) :
    callW E (.func (.func n_ref13_Block) #[] #[]) [vl, .int .i64 i] h = some (.int .i64 (blockP l i), h, []) := by
  have hi := is13 hE hl hs i
  refine fn_same hE.ref13_Block rfl (by simp) ?_
  simp only [argsF]
  unfold blockP
  cases hb : isP l i
  · rw [hb] at hi
    (repeat' (first | (with_reducible refine A1 (fun _ => ?_) (fun _ => ?_) <;> try (exfalso; omega)) | (with_reducible refine A2 (fun _ => ?_) (fun _ => ?_) <;> try (exfalso; omega)) | (with_reducible refine A3 (fun _ => ?_) (fun _ => ?_) <;> try (exfalso; omega)) | refine A4 (fun _ => ?_) (fun _ => ?_) | refine A5 (fun _ => ?_) (fun _ => ?_) | refine A6 (fun _ => ?_) (fun _ => ?_) | simp -dsimp (disch := omega) only [↓EA, EB, Nat.reduceEqDiff, Nat.reduceAdd, Nat.reduceLeDiff, Nat.reduceMul, ↓reduceIte, reduceCtorEq, newCells, bslV, eq_self, *]))
    refine WO.loop (fun (n : Nat) fr h' => h' = h ∧ n = 0 ∧ get fr 0 = vl ∧ get fr 5 = .bool false ∧ get fr 6 = .int .i64 0 ∧ get fr 7 = .int .i64 0) (fun n => 0) ?_ 0 ⟨rfl, rfl, rfl, rfl, rfl, rfl⟩
    rintro n fr h' ⟨rfl, rfl, g0, g5, g6, g7⟩
    unfold c_ref13_Block_l0
    (repeat' (first | (with_reducible refine A1 (fun _ => ?_) (fun _ => ?_) <;> try (exfalso; omega)) | (with_reducible refine A2 (fun _ => ?_) (fun _ => ?_) <;> try (exfalso; omega)) | (with_reducible refine A3 (fun _ => ?_) (fun _ => ?_) <;> try (exfalso; omega)) | refine A4 (fun _ => ?_) (fun _ => ?_) | refine A5 (fun _ => ?_) (fun _ => ?_) | refine A6 (fun _ => ?_) (fun _ => ?_) | simp -dsimp (disch := omega) only [↓EA, EB, Nat.reduceEqDiff, Nat.reduceAdd, Nat.reduceLeDiff, Nat.reduceMul, ↓reduceIte, reduceCtorEq, newCells, bslV, eq_self, *, hl.len]))
  · rw [hb] at hi
    obtain ⟨hi2, hlen, hok⟩ := isP_ok hb
    (repeat' (first | (with_reducible refine A1 (fun _ => ?_) (fun _ => ?_) <;> try (exfalso; omega)) | (with_reducible refine A2 (fun _ => ?_) (fun _ => ?_) <;> try (exfalso; omega)) | (with_reducible refine A3 (fun _ => ?_) (fun _ => ?_) <;> try (exfalso; omega)) | refine A4 (fun _ => ?_) (fun _ => ?_) | refine A5 (fun _ => ?_) (fun _ => ?_) | refine A6 (fun _ => ?_) (fun _ => ?_) | simp -dsimp (disch := omega) only [↓EA, EB, Nat.reduceEqDiff, Nat.reduceAdd, Nat.reduceLeDiff, Nat.reduceMul, ↓reduceIte, reduceCtorEq, newCells, bslV, eq_self, *]))
    refine WO.loop (fun (n : Nat) fr h' => h' = h ∧ n ≤ l.length ∧ get fr 0 = vl ∧ get fr 1 = .int .i64 i ∧ get fr 5 = .bool true ∧ get fr 6 = .int .i64 (blockN l i n) ∧ get fr 7 = .int .i64 n) (fun n => l.length - n) ?_ 0 ⟨rfl, Nat.zero_le _, rfl, rfl, rfl, rfl, rfl⟩
    rintro n fr h' ⟨rfl, hn, g0, g1, g5, g6, g7⟩
    unfold c_ref13_Block_l0
    have hbi := blockN_in hok i n hn
    have Hst := Hid.mk (show blockN l i (n + 1) = if (atI l i).P < (atI l (n : Int)).P then max (blockN l i n) ((atI l (n : Int)).Q - 1) else blockN l i n from rfl)
    rcases Nat.lt_or_ge n l.length with hlt | hge
    · have ht := (hok _ (atI_mem (l := l) (i := (n : Int)) (by omega) (by omega))).1
      simp only [rangesB] at ht
      have hq := ht.2.2.2.2.2.1
      clear ht hb hi hok
      generalize blockN l i n = B at *
      (repeat' (first | (with_reducible refine A1 (fun _ => ?_) (fun _ => ?_) <;> try (exfalso; omega)) | (with_reducible refine A2 (fun _ => ?_) (fun _ => ?_) <;> try (exfalso; omega)) | (with_reducible refine A3 (fun _ => ?_) (fun _ => ?_) <;> try (exfalso; omega)) | refine A4 (fun _ => ?_) (fun _ => ?_) | refine A5 (fun _ => ?_) (fun _ => ?_) | refine A6 (fun _ => ?_) (fun _ => ?_) | simp -dsimp (disch := omega) only [↓EA, EB, Nat.reduceEqDiff, Nat.reduceAdd, Nat.reduceLeDiff, Nat.reduceMul, ↓reduceIte, reduceCtorEq, newCells, bslV, eq_self, *, hl.len, hl.ixs, hl.ld, hl.ld0, hl.lda, hl.ldx, hl.ldx0, hl.ldxa, encT]))
      · refine Next.mk (n + 1) ⟨rfl, by omega, rfl, rfl, rfl, ?_, rfl⟩ (by omega)
        rw [Hst.out, if_pos (by omega)]; rfl
      · refine Next.mk (n + 1) ⟨rfl, by omega, rfl, rfl, rfl, ?_, rfl⟩ (by omega)
        rw [Hst.out, if_neg (by omega)]; rfl
    · have e : n = l.length := by omega
      subst e
      (repeat' (first | (with_reducible refine A1 (fun _ => ?_) (fun _ => ?_) <;> try (exfalso; omega)) | (with_reducible refine A2 (fun _ => ?_) (fun _ => ?_) <;> try (exfalso; omega)) | (with_reducible refine A3 (fun _ => ?_) (fun _ => ?_) <;> try (exfalso; omega)) | refine A4 (fun _ => ?_) (fun _ => ?_) | refine A5 (fun _ => ?_) (fun _ => ?_) | refine A6 (fun _ => ?_) (fun _ => ?_) | simp -dsimp (disch := omega) only [↓EA, EB, Nat.reduceEqDiff, Nat.reduceAdd, Nat.reduceLeDiff, Nat.reduceMul, ↓reduceIte, reduceCtorEq, newCells, bslV, eq_self, *, hl.len]))
theorem ofBounds {t : Task} (ht : okTask t) : (1 ≤ t.C ∧ t.C ≤ 2147483647) ∧ (1 ≤ t.T ∧ t.T ≤ 2147483647) ∧ (0 ≤ t.J ∧ t.J ≤ 2147483647) := by
  have := ht.1; simp only [rangesB] at this; omega
theorem often_in {t : Task} (ht : okTask t) {w : Int} (hw : u64in w) : u64in (sat (w + t.J)) ∧ u64in (oftenP t w) := by
  obtain ⟨_, hT, hJ⟩ := ofBounds ht
  have h1 : u64in (sat (w + t.J)) := sat_in (by have := hw.1; omega)
  refine ⟨h1, ?_⟩
  unfold oftenP
  generalize sat (w + t.J) = x at *
  unfold u64in at *
  have e := ceil_eq (a := x) (b := t.T) h1.1 (by omega)
  have b1 : 0 ≤ x / t.T ∧ x / t.T ≤ x := ⟨Int.ediv_nonneg h1.1 (by omega), Int.ediv_le_self t.T h1.1⟩
  rw [e]
  split
  · rename_i hc
    by_cases h3 : t.T < 2
    · have : t.T = 1 := by omega
      rw [this] at hc; simp at hc
    · have e1 := Int.mul_le_mul_of_nonneg_left (show (2 : Int) ≤ t.T by omega) b1.1
      have e2 := Int.ediv_mul_le x (show t.T ≠ 0 by omega)
      omega
  · omega
theorem higherN_in {l : List Task} (hok : ∀ t ∈ l, okTask t) {i w : Int} (hw : u64in w) : ∀ k : Nat, k ≤ l.length → u64in (higherN l i w k)
  | 0, _ => ⟨by simp [higherN], by simp [higherN]⟩
  | k + 1, hk => by
    have ih := higherN_in hok (i := i) hw k (by omega)
    have ht := hok _ (atI_mem (l := l) (i := (k : Int)) (by omega) (by omega))
    unfold higherN
    split
    · have h1 := (often_in ht hw).2
      have h2 := (ofBounds ht).1
      have h3 := sat_in (Int.mul_nonneg h1.1 (show 0 ≤ (atI l (k : Int)).C by omega))
      exact sat_in (by have := ih.1; have := h3.1; omega)
    · exact ih
theorem refAddE (hE : Laid E) (h : Heap) {a b : Int} (ha : u64in a) (hb : u64in b) :
    ∃ v, callW E (.func (.func n_ref01_Add) #[] #[]) [.int .u64 a, .int .u64 b] h = some (v, h, []) ∧ callW E (.func (.func n_ref01_End) #[] #[]) [v] h = some (.int .u64 (sat (a + b)), h, []) := by
  refine ⟨_, refAdd hE h ha hb, ?_⟩
  unfold sat
  split
  · rw [refEnd hE h]; rfl
  · rw [refEnd hE h]; rfl
theorem refMulE (hE : Laid E) (h : Heap) {a b : Int} (ha : u64in a) (hb : u64in b) :
    ∃ v, callW E (.func (.func n_ref01_Mul) #[] #[]) [.int .u64 a, .int .u64 b] h = some (v, h, []) ∧ callW E (.func (.func n_ref01_End) #[] #[]) [v] h = some (.int .u64 (sat (a * b)), h, []) := by
  refine ⟨_, refMul hE h ha hb, ?_⟩
  unfold sat
  split
  · rw [refEnd hE h]; rfl
  · rw [refEnd hE h]; rfl
theorem higher13 (hE : Laid E) {h : Heap} {vl : Value} {l : List Task} (hl : Rd 7 encT h vl l) (hs : ∀ t ∈ l, t.name.size < 1152921504606846976) (i : Int) {w : Int} (hw : u64in w) :
    callW E (.func (.func n_ref13_Higher) #[] #[]) [vl, .int .i64 i, .int .u64 w] h = some (.int .u64 (higherP l i w), h, []) := by
  have hi := is13 hE hl hs i
  refine fn_same hE.ref13_Higher rfl (by simp) ?_
  simp only [argsF]
  have hw2 := hw
  unfold u64in at hw2
  by_cases hb : isP l i = true ∧ 0 < w
  · have e0 : higherP l i w = higherN l i w l.length := by unfold higherP; rw [if_pos hb]
    rw [e0]
    obtain ⟨hb, hw0⟩ := hb
    rw [hb] at hi
    obtain ⟨hi2, hlen, hok⟩ := isP_ok hb
    clear e0
    (repeat' (first | (with_reducible refine A1 (fun _ => ?_) (fun _ => ?_) <;> try (exfalso; omega)) | (with_reducible refine A2 (fun _ => ?_) (fun _ => ?_) <;> try (exfalso; omega)) | (with_reducible refine A3 (fun _ => ?_) (fun _ => ?_) <;> try (exfalso; omega)) | refine A4 (fun _ => ?_) (fun _ => ?_) | refine A5 (fun _ => ?_) (fun _ => ?_) | refine A6 (fun _ => ?_) (fun _ => ?_) | simp -dsimp (disch := omega) only [↓EA, EB, Nat.reduceEqDiff, Nat.reduceAdd, Nat.reduceLeDiff, Nat.reduceMul, ↓reduceIte, reduceCtorEq, newCells, bslV, eq_self, *]))
    refine WO.loop (fun (n : Nat) fr h' => h' = h ∧ n ≤ l.length ∧ get fr 0 = vl ∧ get fr 1 = .int .i64 i ∧ get fr 2 = .int .u64 w ∧ get fr 7 = .bool true ∧ get fr 8 = .int .u64 (higherN l i w n) ∧ get fr 9 = .int .i64 n) (fun n => l.length - n) ?_ 0 ⟨rfl, Nat.zero_le _, rfl, rfl, rfl, rfl, rfl, rfl⟩
    rintro n fr h' ⟨rfl, hn, g0, g1, g2, g7, g8, g9⟩
    unfold c_ref13_Higher_l0
    have hsn := higherN_in hok (i := i) hw n hn
    have Hst := Hid.mk (show higherN l i w (n + 1) = if (atI l (n : Int)).P < (atI l i).P then sat (higherN l i w n + sat (oftenP (atI l (n : Int)) w * (atI l (n : Int)).C)) else higherN l i w n from rfl)
    rcases Nat.lt_or_ge n l.length with hlt | hge
    · have ht := hok _ (atI_mem (l := l) (i := (n : Int)) (by omega) (by omega))
      obtain ⟨hC, hT, hJ⟩ := ofBounds ht
      obtain ⟨o1, o2⟩ := often_in ht hw
      have hcu : u64in (atI l (n : Int)).C := by unfold u64in; omega
      obtain ⟨v1, a1, a2⟩ := refAddE hE h' hw (b := (atI l (n : Int)).J) (by unfold u64in; omega)
      have a3 := refCeil hE h' o1 (b := (atI l (n : Int)).T) (by unfold u64in; omega)
      rw [if_neg (by omega)] at a3
      obtain ⟨v2, a4, a5⟩ := refMulE hE h' o2 hcu
      obtain ⟨v3, a6, a7⟩ := refAddE hE h' hsn (sat_in (Int.mul_nonneg o2.1 hcu.1))
      clear hb hi hok ht
      have eo : (sat (w + (atI l (n : Int)).J) + (atI l (n : Int)).T - 1) / (atI l (n : Int)).T = oftenP (atI l (n : Int)) w := rfl
      rw [eo] at a3
      clear eo
      generalize oftenP (atI l (n : Int)) w = O at *
      generalize higherN l i w n = B at *
      clear o1 o2 hsn hcu hw
      (repeat' (first | (with_reducible refine A1 (fun _ => ?_) (fun _ => ?_) <;> try (exfalso; omega)) | (with_reducible refine A2 (fun _ => ?_) (fun _ => ?_) <;> try (exfalso; omega)) | (with_reducible refine A3 (fun _ => ?_) (fun _ => ?_) <;> try (exfalso; omega)) | refine A4 (fun _ => ?_) (fun _ => ?_) | refine A5 (fun _ => ?_) (fun _ => ?_) | refine A6 (fun _ => ?_) (fun _ => ?_) | simp -dsimp (disch := omega) only [↓EA, EB, Nat.reduceEqDiff, Nat.reduceAdd, Nat.reduceLeDiff, Nat.reduceMul, ↓reduceIte, reduceCtorEq, newCells, bslV, eq_self, *, hl.len, hl.ixs, hl.ld, hl.ld0, hl.lda, hl.ldx, hl.ldx0, hl.ldxa, encT]))
      · refine Next.mk (n + 1) ⟨rfl, by omega, rfl, rfl, rfl, rfl, ?_, rfl⟩ (by omega)
        rw [Hst.out, if_pos (by omega)]; rfl
      · refine Next.mk (n + 1) ⟨rfl, by omega, rfl, rfl, rfl, rfl, ?_, rfl⟩ (by omega)
        rw [Hst.out, if_neg (by omega)]; rfl
    · have e : n = l.length := by omega
      subst e
      (repeat' (first | (with_reducible refine A1 (fun _ => ?_) (fun _ => ?_) <;> try (exfalso; omega)) | (with_reducible refine A2 (fun _ => ?_) (fun _ => ?_) <;> try (exfalso; omega)) | (with_reducible refine A3 (fun _ => ?_) (fun _ => ?_) <;> try (exfalso; omega)) | refine A4 (fun _ => ?_) (fun _ => ?_) | refine A5 (fun _ => ?_) (fun _ => ?_) | refine A6 (fun _ => ?_) (fun _ => ?_) | simp -dsimp (disch := omega) only [↓EA, EB, Nat.reduceEqDiff, Nat.reduceAdd, Nat.reduceLeDiff, Nat.reduceMul, ↓reduceIte, reduceCtorEq, newCells, bslV, eq_self, *, hl.len]))
  · have e0 : higherP l i w = 0 := by unfold higherP; rw [if_neg hb]
    rw [e0]
    have hq : isP l i = false ∨ w = 0 := by
      cases h : isP l i
      · exact .inl rfl
      · exact .inr (by have : ¬ 0 < w := fun h' => hb ⟨h, h'⟩; omega)
    clear hb e0
    (repeat' (first | (with_reducible refine A1 (fun _ => ?_) (fun _ => ?_) <;> try (exfalso; omega)) | (with_reducible refine A2 (fun _ => ?_) (fun _ => ?_) <;> try (exfalso; omega)) | (with_reducible refine A3 (fun _ => ?_) (fun _ => ?_) <;> try (exfalso; omega)) | refine A4 (fun _ => ?_) (fun _ => ?_) | refine A5 (fun _ => ?_) (fun _ => ?_) | refine A6 (fun _ => ?_) (fun _ => ?_) | simp -dsimp (disch := omega) only [↓EA, EB, Nat.reduceEqDiff, Nat.reduceAdd, Nat.reduceLeDiff, Nat.reduceMul, ↓reduceIte, reduceCtorEq, newCells, bslV, eq_self, *]))
    refine WO.loop (fun (n : Nat) fr h' => h' = h ∧ n = 0 ∧ get fr 0 = vl ∧ get fr 2 = .int .u64 w ∧ get fr 7 = .bool (isP l i) ∧ get fr 8 = .int .u64 0 ∧ get fr 9 = .int .i64 0) (fun n => 0) ?_ 0 ⟨rfl, rfl, rfl, rfl, rfl, rfl, rfl⟩
    rintro n fr h' ⟨rfl, rfl, g0, g2, g7, g8, g9⟩
    unfold c_ref13_Higher_l0
    rcases hq with hq | hq
    · rw [hq] at g7
      clear hq hi
      (repeat' (first | (with_reducible refine A1 (fun _ => ?_) (fun _ => ?_) <;> try (exfalso; omega)) | (with_reducible refine A2 (fun _ => ?_) (fun _ => ?_) <;> try (exfalso; omega)) | (with_reducible refine A3 (fun _ => ?_) (fun _ => ?_) <;> try (exfalso; omega)) | refine A4 (fun _ => ?_) (fun _ => ?_) | refine A5 (fun _ => ?_) (fun _ => ?_) | refine A6 (fun _ => ?_) (fun _ => ?_) | simp -dsimp (disch := omega) only [↓EA, EB, Nat.reduceEqDiff, Nat.reduceAdd, Nat.reduceLeDiff, Nat.reduceMul, ↓reduceIte, reduceCtorEq, newCells, bslV, eq_self, *, hl.len]))
    · subst hq
      clear hi
      generalize isP l i = b at *
      cases b
      · (repeat' (first | (with_reducible refine A1 (fun _ => ?_) (fun _ => ?_) <;> try (exfalso; omega)) | (with_reducible refine A2 (fun _ => ?_) (fun _ => ?_) <;> try (exfalso; omega)) | (with_reducible refine A3 (fun _ => ?_) (fun _ => ?_) <;> try (exfalso; omega)) | refine A4 (fun _ => ?_) (fun _ => ?_) | refine A5 (fun _ => ?_) (fun _ => ?_) | refine A6 (fun _ => ?_) (fun _ => ?_) | simp -dsimp (disch := omega) only [↓EA, EB, Nat.reduceEqDiff, Nat.reduceAdd, Nat.reduceLeDiff, Nat.reduceMul, ↓reduceIte, reduceCtorEq, newCells, bslV, eq_self, *, hl.len]))
      · (repeat' (first | (with_reducible refine A1 (fun _ => ?_) (fun _ => ?_) <;> try (exfalso; omega)) | (with_reducible refine A2 (fun _ => ?_) (fun _ => ?_) <;> try (exfalso; omega)) | (with_reducible refine A3 (fun _ => ?_) (fun _ => ?_) <;> try (exfalso; omega)) | refine A4 (fun _ => ?_) (fun _ => ?_) | refine A5 (fun _ => ?_) (fun _ => ?_) | refine A6 (fun _ => ?_) (fun _ => ?_) | simp -dsimp (disch := omega) only [↓EA, EB, Nat.reduceEqDiff, Nat.reduceAdd, Nat.reduceLeDiff, Nat.reduceMul, ↓reduceIte, reduceCtorEq, newCells, bslV, eq_self, *, hl.len]))
theorem need13 (hE : Laid E) {h : Heap} {vl : Value} {l : List Task} (hl : Rd 7 encT h vl l) (hs : ∀ t ∈ l, t.name.size < 1152921504606846976) (i : Int) {w : Int} (hw : u64in w) :
    callW E (.func (.func n_ref13_Need) #[] #[]) [vl, .int .i64 i, .int .u64 w] h = some (.int .u64 (needP l i w), h, []) := by
  have hi := is13 hE hl hs i
  refine fn_same hE.ref13_Need rfl (by simp) ?_
  simp only [argsF]
  unfold needP
  cases hb : isP l i
  · rw [hb] at hi
    (repeat' (first | (with_reducible refine A1 (fun _ => ?_) (fun _ => ?_) <;> try (exfalso; omega)) | (with_reducible refine A2 (fun _ => ?_) (fun _ => ?_) <;> try (exfalso; omega)) | (with_reducible refine A3 (fun _ => ?_) (fun _ => ?_) <;> try (exfalso; omega)) | refine A4 (fun _ => ?_) (fun _ => ?_) | refine A5 (fun _ => ?_) (fun _ => ?_) | refine A6 (fun _ => ?_) (fun _ => ?_) | simp -dsimp (disch := omega) only [↓EA, EB, Nat.reduceEqDiff, Nat.reduceAdd, Nat.reduceLeDiff, Nat.reduceMul, ↓reduceIte, reduceCtorEq, newCells, bslV, eq_self, *]))
  · rw [hb] at hi
    have q1 := fun x => block13 hE (hl.app x) hs i
    have q2 := fun x => higher13 hE (hl.app x) hs i hw
    obtain ⟨hi2, hlen, hok⟩ := isP_ok hb
    have ht := hok _ (atI_mem hi2.1 hi2.2)
    obtain ⟨hC, hT, hJ⟩ := ofBounds ht
    have hbi : 0 ≤ blockP l i ∧ blockP l i ≤ 2147483647 := by unfold blockP; rw [if_pos hb]; exact blockN_in hok i _ (Nat.le_refl _)
    have hhi : u64in (higherP l i w) := by unfold higherP; split; exact higherN_in hok hw _ (Nat.le_refl _); exact ⟨by decide, by decide⟩
    clear hb ht hok
    generalize blockP l i = B at *
    generalize higherP l i w = Hi at *
    (repeat' (first | (with_reducible refine A1 (fun _ => ?_) (fun _ => ?_) <;> try (exfalso; omega)) | (with_reducible refine A2 (fun _ => ?_) (fun _ => ?_) <;> try (exfalso; omega)) | (with_reducible refine A3 (fun _ => ?_) (fun _ => ?_) <;> try (exfalso; omega)) | refine A4 (fun _ => ?_) (fun _ => ?_) | refine A5 (fun _ => ?_) (fun _ => ?_) | refine A6 (fun _ => ?_) (fun _ => ?_) | simp -dsimp (disch := omega) only [↓EA, EB, Nat.reduceEqDiff, Nat.reduceAdd, Nat.reduceLeDiff, Nat.reduceMul, ↓reduceIte, reduceCtorEq, newCells, bslV, eq_self, *, hl.len, hl.ixs, hl.ld, hl.ld0, hl.lda, hl.ldx, hl.ldx0, hl.ldxa, encT]))
    have hsum := refSum hE (h := h ++ [LObj.cells [Value.int IntKind.u64 (atI l i).C, Value.int IntKind.u64 B, Value.int IntKind.u64 Hi] false]) (vl := .slice (some ⟨h.length, 0, none⟩) 3 3) (l := [(atI l i).C, B, Hi]) (Rd.lit (enc := encU) [(atI l i).C, B, Hi] (by rw [geta0]; rfl) rfl (fun _ => rfl) (by simp) (by simp) (.inl rfl)) (fun x hx => by
      simp only [List.mem_cons, List.not_mem_nil, or_false] at hx
      unfold u64in
      rcases hx with rfl | rfl | rfl
      · omega
      · omega
      · exact hhi)
    (repeat' (first | (with_reducible refine A1 (fun _ => ?_) (fun _ => ?_) <;> try (exfalso; omega)) | (with_reducible refine A2 (fun _ => ?_) (fun _ => ?_) <;> try (exfalso; omega)) | (with_reducible refine A3 (fun _ => ?_) (fun _ => ?_) <;> try (exfalso; omega)) | refine A4 (fun _ => ?_) (fun _ => ?_) | refine A5 (fun _ => ?_) (fun _ => ?_) | refine A6 (fun _ => ?_) (fun _ => ?_) | simp -dsimp (disch := omega) only [↓EA, EB, Nat.reduceEqDiff, Nat.reduceAdd, Nat.reduceLeDiff, Nat.reduceMul, ↓reduceIte, reduceCtorEq, newCells, bslV, eq_self, *, hsum]))
end Go.L.Try
