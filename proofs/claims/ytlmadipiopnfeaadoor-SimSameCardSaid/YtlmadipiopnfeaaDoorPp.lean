/- A SCENE's JOBS, one by one: the function within scene.Critical that puts one behind the others. -/
import Derived.Test.YtlmadipiopnfeaaDoorPo
import Derived.Test.YtlmadipiopnfeaaDoorPk
set_option linter.unusedVariables false
set_option linter.unusedSimpArgs false
set_option maxRecDepth 100000
set_option maxHeartbeats 4000000
namespace Go.L.Try
open Go Go.L
variable {E : Env} {G : Nat}
theorem Axh (hE : Ay E) {hh : Aa} {b m : Nat} {v vc : Value} {A : List (NV Job)} (hb : hh[b]? = some (.cells [v] false)) (o : OwnT m 5 (Ft hdJ) hh v A) (hbm : b < m) (hml : m ≤ hh.length) (hA : A.length ≤ 1048576) (j : Job) (hvc : Ag vc = true) (hvn : Bp vc = [vc]) {W : Nat → Prop} (hWb : W b) (hWv : A ≠ [] → W (blk v)) :
  WX W (callW E (.func (.func Ah) #[] #[.pointer (some ⟨b, 0, none⟩)]) [.int .i64 j.task, .int .i64 j.arrive, .int .i64 j.release, .int .i64 j.work, vc] hh) (fun res h' => res = .bool (decide (A.length + 1 ≤ 4096)) ∧ ∃ v', hh.length ≤ blk v' ∧ hh.length ≤ h'.length ∧ h'[b]? = some (.cells [v'] false) ∧ OwnT m 5 (Ft hdJ) h' v' (A ++ [⟨j, vc⟩]) ∧ ∀ y, y < hh.length → y ≠ b → (A ≠ [] → y ≠ blk v) → h'[y]? = hh[y]?) := by
 refine E8 hE.U7 rfl (by simp) ?_
 simp only [List.nil_append, List.cons_append, Ak]
 have z := (GI.1 hb).1
 have p : ∀ x, (hh ++ x)[b]? = some (.cells [v] false) := fun x => by rw [GL z]; exact hb
 have ov := o.rd.one
 have cv := o.rd.cv
 have a0 := o.ge
 have O := Hid.mk o
 clear o
 (repeat' simp -dsimp (disch := omega) only [↓EA, EB, Nat.reduceEqDiff, Nat.reduceAdd, Nat.reduceLeDiff, Nat.reduceMul, ↓reduceIte, reduceCtorEq, Ac, Sk, eq_self, *])
 refine Adv (sz := 5) (bytes := 56) (h0 := []) (O.out.app _) (fun b o hb => by simp at hb) (Nat.zero_le _) (by simp; omega) hWv (⟨j, vc⟩ : NV Job) ?_ rfl (by decide) (by decide) (by omega) ?_
 ·simp -dsimp (disch := omega) only [EB, Nat.reduceAdd, Nat.reduceMul, ↓reduceIte]
  rfl
 ·intro v2 h2 a k2 g k4 l
  rw [LA, List.length_singleton] at g k4 l
  have u : h2[b]? = some (.cells [v] false) := by
   rw [l b (by omega) (fun c e => by have := a0 c; omega)]; exact p _
  have d : ∀ y, y < hh.length → (A ≠ [] → y ≠ blk v) → h2[y]? = hh[y]? := fun y f c => by
   rw [l y (by omega) c, GL f]
  have a1 := (GI.1 u).1
  have a2 := a.rd.one
  have a3 := a.rd.cv
  have n := a.rd.len
  have K := Hid.mk (AI a (AI d g))
  have s : (((A ++ [(⟨j, vc⟩ : NV Job)]).length : Nat) : Int) = (A.length : Int) + 1 := by simp
  rw [s] at n
  clear a k2 g l d
  by_cases hc : A.length + 1 ≤ 4096
  ·have t : (A.length : Int) + 1 ≤ 4096 := by omega
   (repeat' simp -dsimp (disch := omega) only [↓EA, EB, Nat.reduceEqDiff, Nat.reduceAdd, ↓reduceIte, reduceCtorEq, eq_self, *])
   obtain ⟨a, d, g⟩ := K.out
   exact ⟨v2, by omega, rfl, a.keep fun _ => Bd (by omega), fun y f c r => by rw [Bd (Ne.symm c)]; exact d y f r⟩
  ·have t : ¬ (A.length : Int) + 1 ≤ 4096 := by omega
   (repeat' simp -dsimp (disch := omega) only [↓EA, EB, Nat.reduceEqDiff, Nat.reduceAdd, ↓reduceIte, reduceCtorEq, eq_self, *])
   obtain ⟨a, d, g⟩ := K.out
   exact ⟨v2, by omega, rfl, a.keep fun _ => Bd (by omega), fun y f c r => by rw [Bd (Ne.symm c)]; exact d y f r⟩
end Go.L.Try
set_option maxHeartbeats 8000000
namespace Go.L.Try
open Go Go.L
variable {E : Env} {G : Nat}
def On (j : Job) : NV Job := ⟨j, .slice none 0 0⟩
structure SC (m0 : Nat) (Hb : Aa) (v0 : Value) (lo : LObj) (LV : List (NV Job)) (hh : Aa) : Prop where
 len : Hb.length < hh.length
 old : ∀ y, y < Hb.length → y ≠ m0 + 1 → y ≠ blk v0 → hh[y]? = Hb[y]?
 bL : hh[Hb.length]? = some lo
 out : ∃ v, hh[m0 + 1]? = some (.cells [v] false) ∧ OwnT (m0 + 4) 5 (Ft hdJ) hh v LV ∧ (blk v = blk v0 ∨ Hb.length < blk v)
section
variable {m0 : Nat} {Hb hh : Aa} {v0 : Value} {lo : LObj} {LV : List (NV Job)}
theorem SC.setL (s : SC m0 Hb v0 lo LV hh) (hm : m0 + 4 ≤ Hb.length) (hv : blk v0 < Hb.length) (lo' : LObj) : SC m0 Hb v0 lo' LV (hh.set Hb.length lo') := by
 obtain ⟨a, b, c, v, f, e, j⟩ := s
 exact ⟨by rw [List.length_set]; exact a, fun y d h2 g => by rw [Bd (by omega)]; exact b y d h2 g, Cb a, v, by rw [Bd (by omega)]; exact f, e.keep fun l => Bd (by omega), j⟩
theorem SC.tr (s : SC m0 Hb v0 lo LV hh) (hm : m0 + 4 ≤ Hb.length) (hv : blk v0 < Hb.length) (hne : LV ≠ []) {H h3 : Aa} (hH : Hb.length ≤ H.length) (hH2 : H.length ≤ Hb.length + 1) (hL : H.length = Hb.length + 1 ∨ True) (h0 : H[m0 + 1]? = some (.cells [v0] false)) (t : Tr H hh h3) : (∃ v, h3[m0 + 1]? = some (.cells [v] false) ∧ OwnT (m0 + 4) 5 (Ft hdJ) h3 v LV ∧ (blk v = blk v0 ∨ Hb.length < blk v)) ∧ ∀ b, b < H.length → h3[b]? = hh[b]? := by
 obtain ⟨a, b, c, v, d, e, g⟩ := s
 rcases t with rfl | ⟨rfl, l⟩
 ·exact ⟨⟨v, d, e, g⟩, fun _ _ => rfl⟩
 ·have f : ∀ b, b < H.length → (hh.take H.length)[b]? = hh[b]? := fun b j => by rw [List.getElem?_take, if_pos j]
  refine ⟨⟨v, by rw [f _ (by omega)]; exact d, e.keep fun _ => f _ ?_, g⟩, f⟩
  rcases l (m0 + 1) (by omega) with h4 | h4
  ·rw [d, h0] at h4
   cases h4
   omega
  ·rw [d] at h4
   exact Aco e hne h4
end
def loC (frL : Fr) (st : LoopState) (pd : Option (Option Nat)) : LObj := .loop { state := st, pending := pd, fr := frL, sz := 132, params := [86], assign := Br, body := Bq }
structure Ao0 (m0 eb : Nat) (Hb : Aa) (vl : Value) (s e : Int) (v0 : Value) : Prop where
 hm : m0 + 4 ≤ Hb.length
 hv : blk v0 < Hb.length ∧ m0 + 4 ≤ blk v0
 hb : m0 + 4 ≤ eb ∧ eb < Hb.length ∧ eb ≠ blk v0
 b0 : Hb[m0]? = some (.cells [vl] false)
 b2 : Hb[m0 + 2]? = some (.cells [.func (.func Ah) #[] #[.pointer (some ⟨m0 + 1, 0, none⟩)]] false)
 b3 : Hb[m0 + 3]? = some (.cells [.int .i64 s] false)
 be : Hb[eb]? = some (.cells [.int .i64 e] false)
theorem Ayh (hE : Ay E) {W : Nat → Prop} {m0 eb : Nat} {Hb : Aa} {vl v0 : Value} {s e : Int} (hb : Ao0 m0 eb Hb vl s e v0) (hW : ∀ b, m0 ≤ b → b ≠ Hb.length → W b) {k : Nat} {t : Ab} (hok : Ci t) (hs : 1 ≤ s ∧ s ≤ 4611686018427387904 ∧ t.J < s) (he : e - s ≤ 2147483647 ∧ s < e) {lo : LObj} {A : List (NV Job)} (hA : A ≠ []) (few : A.length + Ij t.T (e - s + t.J) ≤ 4096)
  {hh : Aa} {tb : Nat} (htb : Hb.length < tb) (st : SC m0 Hb v0 lo (A ++ (Id s k t 1).map On) hh) (ht : hh[tb]? = some (.cells (A0 t) false)) (hvt : ∀ v, hh[m0 + 1]? = some (.cells [v] false) → tb < blk v) {fr : Fr}
  (g8 : get fr 8 = .pointer (some ⟨m0 + 2, 0, none⟩)) (g13 : get fr 13 = .pointer (some ⟨eb, 0, none⟩)) (g14 : get fr 14 = .int .i64 k) (g15 : get fr 15 = .pointer (some ⟨tb, 0, none⟩)) (g16 : get fr 16 = .bool true) (g17 : get fr 17 = .int .i64 (s - t.J + t.T)) {Q : Ex → Fr → Aa → Prop}
  (hq : ∀ fr' h', get fr' 16 = .bool true → SC m0 Hb v0 lo (A ++ (Id s k t (Ij t.T (e - s + t.J))).map On) h' → (∀ v, h'[m0 + 1]? = some (.cells [v] false) → tb < blk v) → Q (.exit 2) fr' h') :
  WO W (iterW (code (callW E) iterW 132 H7) fr hh) Q := by
 obtain ⟨rg, ft⟩ := hok
 simp only [An, D4] at rg ft
 have hN := fun n => S4 (T := t.T) (p := e - s + t.J) (by omega) n
 have a1 : 1 ≤ Ij t.T (e - s + t.J) ∨ Ij t.T (e - s + t.J) = 0 := by omega
 have hC : (1 ≤ t.C ∧ t.C ≤ 2147483647) ∧ (1 ≤ t.T ∧ t.T ≤ 2147483647) ∧ (0 ≤ t.J ∧ t.J ≤ 2147483647) := by omega
 obtain ⟨hC, hT, hJ⟩ := hC
 obtain ⟨bm, bv, bb, b0, b2, b3, be⟩ := hb
 refine WO.loop (fun (n : Nat) fr h' => (1 ≤ n ∧ (n = 1 ∨ n ≤ Ij t.T (e - s + t.J))) ∧ SC m0 Hb v0 lo (A ++ (Id s k t n).map On) h' ∧ h'[tb]? = some (.cells (A0 t) false) ∧ (∀ v, h'[m0 + 1]? = some (.cells [v] false) → tb < blk v) ∧ get fr 8 = .pointer (some ⟨m0 + 2, 0, none⟩) ∧ get fr 13 = .pointer (some ⟨eb, 0, none⟩) ∧ get fr 14 = .int .i64 k ∧ get fr 15 = .pointer (some ⟨tb, 0, none⟩) ∧ get fr 16 = .bool true ∧ get fr 17 = .int .i64 (s - t.J + n * t.T)) (fun n => Ij t.T (e - s + t.J) - n) ?_ 1 ⟨⟨Nat.le_refl _, .inl rfl⟩, st, ht, hvt, g8, g13, g14, g15, g16, by rw [g17]; simp⟩
 clear st ht hvt g8 g13 g14 g15 g16 g17
 rintro n fr hh ⟨hn, st, ht, hvt, g8, g13, g14, g15, g16, g17⟩
 have Hq := Hid.mk hq
 clear hq
 unfold H7
 have f := hN n
 obtain ⟨sl, r, sL, v, sv, sw, sx⟩ := st
 have c2 : hh[m0 + 2]? = some (.cells [.func (.func Ah) #[] #[.pointer (some ⟨m0 + 1, 0, none⟩)]] false) := (r _ (by omega) (by omega) (by omega)).trans b2
 have ce : hh[eb]? = some (.cells [.int .i64 e] false) := (r _ bb.2.1 (by omega) bb.2.2).trans be
 have g : (A ++ (Id s k t n).map On).length = A.length + n := by simp [Id]
 have ae : (n : Int) * t.T ≤ e - s + t.J + t.T := by
  have := hN (n - 1)
  rcases Nat.lt_or_ge (n - 1) (Ij t.T (e - s + t.J)) with h | h
  ·have h2 := this.1 h
   have e2 : (n : Int) * t.T = ((n - 1 : Nat) : Int) * t.T + t.T := by
    rw [show (n : Int) = ((n - 1 : Nat) : Int) + 1 by omega, Int.add_mul, Int.one_mul]
   omega
  ·have : n = 1 := by omega
   subst this; simp; omega
 have ab : 0 ≤ (n : Int) * t.T := Int.mul_nonneg (by omega) (by omega)
 have a : ((n + 1 : Nat) : Int) * t.T = (n : Int) * t.T + t.T := by rw [Int.natCast_add, Int.natCast_one, Int.add_mul, Int.one_mul]
 have c : (Id s k t (n + 1)).map On = (Id s k t n).map On ++ [On ⟨k, s - t.J + n * t.T, s - t.J + n * t.T, t.C, []⟩] := by
  unfold Id
  rw [List.range_succ, List.map_append, List.map_append]
  simp [show n ≠ 0 by omega]
 have l := ht
 unfold A0 at l
 by_cases z : n < Ij t.T (e - s + t.J)
 ·have hx := f.1 z
  have d := Axh hE (hh := hh) (b := m0 + 1) (m := m0 + 4) (v := v) (vc := .slice none 0 0) (A := A ++ (Id s k t n).map On) sv sw (by omega) (by omega) (by omega) ⟨k, s - t.J + n * t.T, s - t.J + n * t.T, t.C, []⟩ rfl rfl (W := W) (hW _ (by omega) (by omega)) (fun _ => hW _ (by omega) (by omega))
  dsimp only at d
  have j : (decide ((A ++ (Id s k t n).map On).length + 1 ≤ 4096)) = true := decide_eq_true (by omega)
  rw [j] at d
  have Hs := Hid.mk (AI a c)
  have HN := Hid.mk hN
  have a0 := Hid.mk d
  have a8 := Hid.mk (AI few (AI g j))
  have a5 := Hid.mk (AI r (AI sw hvt))
  clear hN f a c d j few g r sw hvt a1
  generalize hxx : s - t.J + n * t.T = x at *
  have a7 := Hid.mk ht
  clear ht
  have aa : x < e := by omega
  have a4 : 0 ≤ x ∧ x ≤ 4611686018427387904 + 8589934588 := by omega
  obtain ⟨a4, ad⟩ := a4
  (repeat' simp -dsimp (disch := omega) only [↓EA, EB, Nat.reduceEqDiff, ↓reduceIte, eq_self, *])
  refine WX.mono a0.out (fun b hb => hb) fun ac h2 a3 => ?_
  obtain ⟨rfl, v', q1, q2, q3, q4, q5⟩ := a3
  have a2 := Hid.mk (AI q4 q5)
  clear q4 q5
  have a6 : h2[tb]? = some (.cells [.string t.name, .int .i64 t.C, .int .i64 t.T, .int .i64 t.D, .int .i64 t.J, .int .i64 t.Q, .int .i64 t.P] false) := by
   rw [a2.out.2 tb (GI.1 l).1 (by omega) (fun _ e2 => by have := a5.out.2.2 v sv; omega)]; exact l
  clear l
  (repeat' simp -dsimp (disch := omega) only [↓EA, EB, Nat.reduceEqDiff, ↓reduceIte, eq_self, *])
  obtain ⟨a, c⟩ := Hs.out
  obtain ⟨q4, q5⟩ := a2.out
  refine Next.mk (n + 1) ⟨⟨by omega, .inr (by omega)⟩, ⟨by omega, fun y h1 h2 h3 => ?_, ?_, v', q3, ?_, .inr (by omega)⟩, a6, fun u hu => ?_, rfl, rfl, rfl, rfl, rfl, ?_⟩ (by omega)
  ·rw [q5 y (by omega) h2 (fun _ => by rcases sx with h | h <;> omega)]; exact a5.out.1 y h1 h2 h3
  ·rw [q5 _ (by omega) (by omega) (fun _ => by rcases sx with h | h <;> omega)]; exact sL
  ·rw [c, ← List.append_assoc]; exact q4
  ·rw [q3] at hu
   cases hu
   have := (GI.1 a7.out).1
   omega
  ·show Value.int .i64 (x + t.T) = _
   rw [a]
   congr 1; omega
 ·have hx := fun h => z (f.2 h)
  have af : ¬ s - t.J + n * t.T < e := by omega
  have o : SC m0 Hb v0 lo (A ++ (Id s k t n).map On) hh := ⟨sl, r, sL, v, sv, sw, sx⟩
  have HN := Hid.mk (AI hN (AI f (AI hn (AI o hvt))))
  clear hN f a c few g r sw hvt a1 hx o
  generalize hxx : s - t.J + n * t.T = x at *
  (repeat' simp -dsimp (disch := omega) only [↓EA, EB, Nat.reduceEqDiff, ↓reduceIte, eq_self, *])
  obtain ⟨hN, f, hn, o, hvt⟩ := HN.out
  have a9 : 1 ≤ Ij t.T (e - s + t.J) := by
   have := (hN 0).2 (by simp; omega)
   omega
  have e1 : n = Ij t.T (e - s + t.J) := by omega
  exact Hq.out _ hh rfl (by rw [← e1]; exact o) hvt
end Go.L.Try
namespace Go.L.Try
open Go Go.L
variable {E : Env} {G : Nat}
theorem Awr {α : Type} {m sz : Nat} {enc : α → List Value} {hh h2 h3 : Aa} {v v2 : Value} {c : Nat} {l : List α} (hb : h2[c]? = some (.cells [v2] false)) (ho : OwnT m sz enc h2 v2 l) (hl : l ≠ []) (hf : hh.length ≤ blk v2) (hc : c < hh.length) (hold : hh[c]? = some (.cells [v] false)) (hv : v ≠ .slice none 0 0 → blk v < hh.length) (t : Tr hh h2 h3) : h3 = h2 := by
 rcases t with rfl | ⟨rfl, a⟩
 ·rfl
 ·exfalso
  rcases a c hc with h4 | h4
  ·rw [hb, hold] at h4
   cases h4
   have := hv fun e => hl (by rw [e] at ho; exact Axl ho)
   omega
  ·rw [hb] at h4
   have := Aco ho hl h4
   omega
theorem Ase (s : Int) (k : Nat) (t : Ab) : Id s k t 1 = [⟨k, s - t.J, s, t.C, []⟩] := by
 unfold Id
 simp
theorem SC.rd {m0 : Nat} {Hb hh : Aa} {v0 : Value} {lo : LObj} {LV : List (NV Job)} (s : SC m0 Hb v0 lo LV hh) (hm : m0 + 4 ≤ Hb.length) (hv : m0 + 4 ≤ blk v0) {vl : Value} {l : List Ab} (hl : Rd 7 A0 Hb vl l) (hvl : vl ≠ .slice none 0 0 → blk vl < m0) : Rd 7 A0 hh vl l :=
 hl.keep fun hn => s.old _ (by have := hvl hn; omega) (by have := hvl hn; omega) (by have := hvl hn; omega)
theorem Akv (hE : Ay E) {m0 eb : Nat} {Hb : Aa} {vl v0 : Value} {s e : Int} (hb : Ao0 m0 eb Hb vl s e v0) {l : List Ab} (hl : Rd 7 A0 Hb vl l) (hvl : vl ≠ .slice none 0 0 → blk vl < m0) {k : Nat} (hk : k < l.length) (hok : Ci (atI l (k : Int))) (hs : 1 ≤ s ∧ s ≤ 4611686018427387904 ∧ (atI l (k : Int)).J < s) (he : e - s ≤ 2147483647 ∧ s < e)
  {A : List (NV Job)} (hA : A ≠ []) (few : A.length + Ij (atI l (k : Int)).T (e - s + (atI l (k : Int)).J) ≤ 4096) {frL : Fr} (f2 : get frL 2 = .pointer (some ⟨m0, 0, none⟩)) (f8 : get frL 8 = .pointer (some ⟨m0 + 2, 0, none⟩)) (f9 : get frL 9 = .pointer (some ⟨m0 + 3, 0, none⟩)) (f13 : get frL 13 = .pointer (some ⟨eb, 0, none⟩))
  {hh : Aa} (st : SC m0 Hb v0 (loC frL .ready none) A hh) :
  WX (fun b => m0 ≤ b) (callW E (.func (.yield Hb.length) #[] #[]) [.int .i64 k] hh) (fun v h' => v = .bool true ∧ SC m0 Hb v0 (loC frL .ready none) (A ++ (Id s k (atI l (k : Int)) (Ij (atI l (k : Int)).T (e - s + (atI l (k : Int)).J))).map On) h') := by
 generalize hlo : loC frL .ready none = lo at *
 have ac := hb
 obtain ⟨bm, ⟨bv, ad⟩, bb, b0, b2, b3, be⟩ := ac
 refine WX.mono (Ao1 hE.keep (r := { state := .ready, pending := none, fr := frL, sz := 132, params := [86], assign := Br, body := Bq }) (W := fun b => m0 ≤ b ∧ b ≠ Hb.length) (Rr := fun e' h3 => e' = .normal ∧ SC m0 Hb v0 lo (A ++ (Id s k (atI l (k : Int)) (Ij (atI l (k : Int)).T (e - s + (atI l (k : Int)).J))).map On) h3) (st.bL.trans (congrArg some hlo.symm)) rfl rfl rfl rfl (fun b hb => hb.2) ?_) (fun b hb => by rcases hb with hb | hb; exact hb.1; omega) ?_
 ·dsimp only
  have aj := Hid.mk hlo
  rw [show (LObj.loop { state := .ready, pending := none, fr := frL, sz := 132, params := [86], assign := Br, body := Bq }) = lo from hlo]
  generalize LObj.loop { state := LoopState.busy, pending := none, fr := frL, sz := 132, params := [86], assign := Br, body := Bq } = lb
  clear hlo
  have f : hh[m0 + 1]? = some (.cells [_] false) := st.out.choose_spec.1
  have a5 := st.out.choose_spec.2
  generalize st.out.choose = vc at f a5
  obtain ⟨g, a6⟩ := a5
  have d : vc ≠ .slice none 0 0 → blk vc < hh.length := fun hn => g.lt (g.ne hn)
  have s2 := st.setL bm bv lb
  have rl := s2.rd bm ad hl hvl
  have a1 : (hh.set Hb.length lb).length = hh.length := List.length_set ..
  have ae := Hid.mk (AI f (AI d a1))
  have af := st.len
  clear st f d a1 g a6
  unfold Br
  (repeat' simp -dsimp (disch := omega) only [↓EA, EB, Nat.reduceEqDiff, ↓reduceIte, eq_self, *])
  obtain ⟨sl, so, sL, v, sv, sw, sx⟩ := s2
  generalize hh.set Hb.length lb = G1 at *
  obtain ⟨rg, ft⟩ := hok
  have z : Ci (atI l (k : Int)) := ⟨rg, ft⟩
  simp only [An, D4] at rg ft
  have hC : (1 ≤ (atI l (k : Int)).C ∧ (atI l (k : Int)).C ≤ 2147483647) ∧ (1 ≤ (atI l (k : Int)).T ∧ (atI l (k : Int)).T ≤ 2147483647) ∧ (0 ≤ (atI l (k : Int)).J ∧ (atI l (k : Int)).J ≤ 2147483647) := by omega
  obtain ⟨hC, hT, hJ⟩ := hC
  have ah := Hid.mk z
  clear rg ft z
  have c0 : G1[m0]? = some (.cells [vl] false) := (so _ (by omega) (by omega) (by omega)).trans b0
  have c2 : G1[m0 + 2]? = some (.cells [.func (.func Ah) #[] #[.pointer (some ⟨m0 + 1, 0, none⟩)]] false) := (so _ (by omega) (by omega) (by omega)).trans b2
  have c3 : G1[m0 + 3]? = some (.cells [.int .i64 s] false) := (so _ (by omega) (by omega) (by omega)).trans b3
  have ao : (k : Int) < l.length := by omega
  have ak : m0 ≤ G1.length := by omega
  have ab : G1.length ≠ Hb.length := by omega
  have e2 : ∀ x, (G1 ++ x)[m0 + 2]? = some (.cells [.func (.func Ah) #[] #[.pointer (some ⟨m0 + 1, 0, none⟩)]] false) := fun x => by rw [GL (by omega)]; exact c2
  have e3 : ∀ x, (G1 ++ x)[m0 + 3]? = some (.cells [.int .i64 s] false) := fun x => by rw [GL (by omega)]; exact c3
  have c := Axh hE (hh := G1 ++ [.cells (A0 (atI l (k : Int))) false]) (b := m0 + 1) (m := m0 + 4) (v := v) (vc := .slice none 0 0) (A := A) (by rw [GL (by omega)]; exact sv) (sw.app _) (by omega) (by simp; omega) (by omega) ⟨k, s - (atI l (k : Int)).J, s, (atI l (k : Int)).C, []⟩ rfl rfl (W := fun b => m0 ≤ b ∧ b ≠ Hb.length) ⟨by omega, by omega⟩ (fun hn => by have := sw.ge hn; exact ⟨by omega, by omega⟩)
  dsimp only at c
  have aa : 1 ≤ Ij (atI l (k : Int)).T (e - s + (atI l (k : Int)).J) := by
   have := (S4 (T := (atI l (k : Int)).T) (p := e - s + (atI l (k : Int)).J) (by omega) 0).2 (by simp; omega)
   omega
  have n : (decide (A.length + 1 ≤ 4096)) = true := decide_eq_true (by omega)
  rw [n] at c
  have a4 := Hid.mk c
  have ag := Hid.mk (AI so (AI sL (AI sw (AI sv sx))))
  have a2 := Hid.mk (AI few (AI aa n))
  have ai := Hid.mk b0
  clear c n few aa so sL sw sv sx b0 b2 b3 be
  unfold Bq
  (repeat' simp -dsimp (disch := omega) only [↓EA, EB, Nat.reduceEqDiff, Nat.reduceAdd, ↓reduceIte, Ac, eq_self, *, rl.ixs, rl.lda, A0])
  refine ⟨ab, ?_⟩
  change WX _ (callW _ _ _ (G1 ++ [LObj.cells (A0 (atI l (k : Int))) false])) _
  refine WX.mono a4.out (fun b hb => hb) fun am h2 a8 => ?_
  obtain ⟨rfl, v', q1, q2, q3, q4, q5⟩ := a8
  rw [LA, List.length_singleton] at q1 q2
  obtain ⟨so, sL, sw, sv, sx⟩ := ag.out
  have j : ∀ y, y < G1.length → y ≠ m0 + 1 → y ≠ blk v → h2[y]? = G1[y]? := fun y hy h1 h3 => by
   rw [q5 y (by simp; omega) h1 (fun _ => h3), GL hy]
  have a0 : h2[G1.length]? = some (.cells (A0 (atI l (k : Int))) false) := by
   rw [q5 _ (by simp) (by omega) (fun hn => by have := sw.lt hn; omega), Bm]; rfl
  have d2 : h2[m0 + 2]? = some (.cells [.func (.func Ah) #[] #[.pointer (some ⟨m0 + 1, 0, none⟩)]] false) := (j _ (by omega) (by omega) (by omega)).trans c2
  have d3 : h2[m0 + 3]? = some (.cells [.int .i64 s] false) := (j _ (by omega) (by omega) (by omega)).trans c3
  have a9 : SC m0 Hb v0 lb (A ++ (Id s k (atI l (k : Int)) 1).map On) h2 := by
   refine ⟨by omega, fun y h1 h3 h4 => ?_, (j _ (by omega) (by omega) (by omega)).trans sL, v', q3, by rw [Ase]; exact q4, .inr (by omega)⟩
   rw [j y (by omega) h3 (by omega)]
   exact so y h1 h3 h4
  have a7 : ∀ u, h2[m0 + 1]? = some (.cells [u] false) → G1.length < blk u := fun u hu => by
   rw [q3] at hu; cases hu; omega
  have Ht := Hid.mk (AI a0 (AI a9 a7))
  unfold A0 at a0
  clear q1 q3 q4 q5 j c0 c2 c3 e2 e3 so sL sw sv sx a9 a7
  (repeat' simp -dsimp (disch := omega) only [↓EA, EB, Nat.reduceEqDiff, ↓reduceIte, eq_self, *])
  refine Ayh hE hb (fun b h1 h2 => ⟨h1, h2⟩) (t := atI l (k : Int)) ah.out hs he hA a2.out.1 (tb := G1.length) (by omega) Ht.out.2.1 Ht.out.1 Ht.out.2.2 rfl rfl rfl rfl rfl rfl fun ap h' al o a => ?_
  have S3 := Hid.mk (AI o a)
  clear o a a0 d2 d3 rl
  (repeat' simp -dsimp (disch := omega) only [↓EA, EB, ↓reduceIte, eq_self, *])
  intro h3 t3
  obtain ⟨o, a⟩ := S3.out
  obtain ⟨f, d, a1⟩ := ae.out
  have s4 := o.setL bm bv lo
  obtain ⟨w, w1, w2, w3⟩ := s4.out
  have hw : G1.length < blk w := a w (by rw [← w1, Bd (by omega)])
  have e := Awr w1 w2 (by simp [hA]) (by omega) (by omega) f d t3
  rw [e]; exact s4
 ·rintro v h' ⟨e', an, ⟨rfl, a3⟩, rfl, rfl⟩
  exact ⟨rfl, a3⟩
end Go.L.Try
namespace Go.L.Try
open Go Go.L
variable {E : Env} {G : Nat}
def Ls (l : List Ab) (i : Int) (a : List Job) (m : Nat) : List Job := a ++ Id (Af l i) m (atI l (m : Int)) (Jl l i m)
theorem Awo (l : List Ab) (i : Int) : accL (Ls l i) [] (placesQ (Bc l i) l) (placesQ (Bc l i) l).length = upC l i l.length := by
 rw [Sq]
 exact Kg (upC l i) rfl (fun k => by show (if _ then _ else _) = _; simp only [Bc, decide_eq_true_eq]; rfl) _
theorem Adb {l : List Ab} {i : Int} : ∀ (es : List Nat) (a : List Job), a.length ≤ (es.foldl (Ls l i) a).length
 | [], a => Nat.le_refl _
 | m :: r, a => by
  have := Adb (l := l) (i := i) r (Ls l i a m)
  show _ ≤ (r.foldl (Ls l i) (Ls l i a m)).length
  unfold Ls at this ⊢
  rw [LA] at this
  omega
theorem Awe {l : List Ab} {i : Int} (es : List Nat) (a : List Job) (k : Nat) : (accL (Ls l i) a es k).length ≤ (accL (Ls l i) a es es.length).length := by
 unfold accL
 rw [List.take_length]
 have e : es = es.take k ++ es.drop k := (List.take_append_drop k es).symm
 have := Adb (l := l) (i := i) (es.drop k) ((es.take k).foldl (Ls l i) a)
 rw [← List.foldl_append, ← e] at this
 exact this
theorem SC.trL {m0 : Nat} {Hb hh : Aa} {v0 : Value} {lo : LObj} {LV : List (NV Job)} (s : SC m0 Hb v0 lo LV hh) (hm : m0 + 4 ≤ Hb.length) (hv : blk v0 < Hb.length) (hne : LV ≠ []) {H h3 : Aa} (hH : H.length = Hb.length + 1) (h0 : H[m0 + 1]? = some (.cells [v0] false)) (t : Tr H hh h3) : SC m0 Hb v0 lo LV h3 := by
 obtain ⟨o, a⟩ := s.tr hm hv hne (H := H) (by omega) (by omega) (.inr trivial) h0 t
 have c := (a Hb.length (by omega)).trans s.bL
 exact ⟨(GI.1 c).1, fun y d h2 h3 => (a y (by omega)).trans (s.old y d h2 h3), c, o⟩
theorem Avg (hE : Ay E) (hZ : Fd E G) {h : Aa} (ht : Tab G h) {Hb : Aa} {vl v0 : Value} {l : List Ab} {i : Nat} {eb bx : Nat} (hv : D5 l) (hi : i < l.length) (hl : Rd 7 A0 h vl l) (hvl : vl ≠ .slice none 0 0 → blk vl < h.length) (hp : Pre h Hb)
  (hb : Ao0 h.length eb Hb vl (Af l i) (Af l i + (atI l (i : Int)).D - (atI l (i : Int)).J) v0) (hbx : Hb[bx]? = some (.cells (Fu (thoseW (Bc l i) l l.length)) false)) (hbx2 : h.length + 4 ≤ bx) (hbx3 : bx ≠ blk v0)
  {A : List (NV Job)} (hA : A ≠ []) (hv0 : Hb[h.length + 1]? = some (.cells [v0] false)) (hO : OwnT (h.length + 4) 5 (Ft hdJ) Hb v0 A) (few : A.length + (upC l i l.length).length ≤ 4096)
  {W : Nat → Prop} (hW : ∀ b, h.length ≤ b → W b) {fr : Fr} (f2 : get fr 2 = .pointer (some ⟨h.length, 0, none⟩)) (f8 : get fr 8 = .pointer (some ⟨h.length + 2, 0, none⟩)) (f9 : get fr 9 = .pointer (some ⟨h.length + 3, 0, none⟩)) (f13 : get fr 13 = .pointer (some ⟨eb, 0, none⟩)) (f85 : get fr 85 = .func (.func Bo) #[] #[.pointer (some ⟨bx, 0, none⟩)]) {Q : Ex → Fr → Aa → Prop}
  (hq : ∀ h', Pre h h' → h.length + 4 ≤ h'.length → (∀ y, h.length + 4 ≤ y → y < Hb.length → y ≠ blk v0 → h'[y]? = Hb[y]?) → (∃ v, h'[h.length + 1]? = some (.cells [v] false) ∧ OwnT (h.length + 4) 5 (Ft hdJ) h' v (A ++ (upC l i l.length).map On) ∧ (blk v = blk v0 ∨ Hb.length < blk v)) → Q .normal fr h') :
  WO W (code (callW E) iterW 132 (.rng (.t 85) [86] Br Bq) fr Hb) Q := by
 have a7 := hb
 obtain ⟨bm, ⟨bv, ah⟩, bb, b0, b2, b3, be⟩ := a7
 obtain ⟨_, a2, s⟩ := Bn hv
 have ab := s _ (Aj (l := l) (i := (i : Int)) (by omega) (by omega))
 obtain ⟨a9, a8⟩ := ab
 simp only [An, D4] at a9 a8
 have ac := Jk (i := (i : Int)) s ⟨by omega, by omega⟩ l.length (Nat.le_refl _)
 have af : Af l i = 1 + mostJ l i l.length := rfl
 have a4 := (GI.1 hbx).1
 have aa := hl.pre hp
 refine Ayi hE.keep (W' := fun b => h.length ≤ b) (show ev (get fr) (.t 85) = _ from f85) (fun x hx _ => hW x hx) ?_
 have ad : LObj.loop { state := .ready, pending := none, fr, sz := 132, params := [86], assign := Br, body := Bq } = loC fr .ready none := rfl
 rw [ad]
 have ev := Jp (Bc l i) a2
 have a1 : (Hb ++ [loC fr .ready none])[h.length + 1]? = some (.cells [v0] false) := by rw [GL (by omega)]; exact hv0
 have d := Awo l (i : Int)
 refine WX.mono (Aq3 hE hZ (D7 (Bc l i) l l.length) bx (Hb ++ [loC fr .ready none]) Hb.length (fun b => h.length ≤ b)
  (fun k hh => SC h.length Hb v0 (loC fr .ready none) (A ++ (accL (Ls l i) [] (placesQ (Bc l i) l) k).map On) hh) (fun _ => False) (fun k hh u => ⟨(u.old _ a4 (by omega) hbx3).trans hbx, ht.pre fun b o p => ?_⟩) ?_ (fun k hh z u t3 => u.trL bm bv (by simp [hA]) (by simp) a1 t3) (fun _ _ hf _ => hf.elim) ?_) (fun b hb => hb) ?_
 ·have a6 := (GI.1 p).1
  rw [u.old b (by omega) (by omega) (by omega)]; exact hp b o p
 ·refine ⟨by simp, fun y h1 h2 z => GL h1, by rw [Bm]; rfl, v0, a1, ?_, .inl rfl⟩
  have : A ++ (accL (Ls l i) [] (placesQ (Bc l i) l) 0).map On = A := by simp [accL]
  rw [this]; exact hO.app _
 ·intro k hh a ha u
  rw [ev, List.getElem?_map] at ha
  obtain ⟨m, hm, rfl⟩ := OM.1 ha
  have a5 := Mt (List.mem_of_getElem? hm)
  have ae : (atI l (m : Int)).P < (atI l (i : Int)).P := by
   have := (List.mem_filter.1 (List.mem_of_getElem? hm)).2
   simpa [Bc] using this
  have n := Md (f := Ls l i) (a0 := []) hm
  have ag := ac.2 m a5 ae
  have r := Awe (l := l) (i := i) (placesQ (Bc l i) l) [] (k + 1)
  rw [d, n] at r
  have g : Jl l i m = Ij (atI l (m : Int)).T (Af l i + (atI l (i : Int)).D - (atI l (i : Int)).J - Af l i + (atI l (m : Int)).J) := by
   unfold Jl
   congr 1; omega
  have a3 : (accL (Ls l i) [] (placesQ (Bc l i) l) k).length + Jl l i m ≤ (upC l i l.length).length := by
   have e3 : ∀ X : List Job, (Ls l (i : Int) X m).length = X.length + Jl l i m := fun X => by
    show (X ++ Id (Af l i) m (atI l (m : Int)) (Jl l i m)).length = _
    rw [LA]
    simp [Id]
   rw [e3] at r
   exact r
  rw [g] at a3
  refine WX.mono (Akv hE hb aa (fun hn => by have := hvl hn; omega) a5 (s _ (Aj (l := l) (i := (m : Int)) (by omega) (by omega))) ⟨by omega, by omega, by omega⟩ ⟨by omega, by omega⟩ (A := A ++ (accL (Ls l i) [] (placesQ (Bc l i) l) k).map On) (by simp [hA]) (by rw [LA, List.length_map]; omega) f2 f8 f9 f13 u) (fun b hb => hb) ?_
  rintro v h' ⟨rfl, q⟩
  refine .inl ⟨rfl, ?_⟩
  rw [n, show ∀ X : List Job, Ls l (i : Int) X m = X ++ Id (Af l i) m (atI l (m : Int)) (Jl l i m) from fun _ => rfl, g, List.map_append, ← List.append_assoc]
  exact q
 ·rintro v h' (j | hf)
  ·rw [ev, List.length_map, d] at j
   refine ⟨_, j.bL, (fun e => by cases e), fun z t3 => ?_⟩
   have s2 := j.setL bm bv .dead
   obtain ⟨o, hk⟩ := s2.tr bm bv (by simp [hA]) (H := Hb) (Nat.le_refl _) (by omega) (.inr trivial) hv0 t3
   obtain ⟨v, o1, o2, o3⟩ := o
   have c : ∀ y, y < Hb.length → y ≠ h.length + 1 → y ≠ blk v0 → z[y]? = Hb[y]? := fun y h1 h2 h4 => (hk y h1).trans (s2.old y h1 h2 h4)
   have c2 : z[h.length + 2]? = Hb[h.length + 2]? := c _ (by omega) (by omega) (by omega)
   rw [b2] at c2
   have c3 : z[h.length + 3]? = Hb[h.length + 3]? := c _ (by omega) (by omega) (by omega)
   rw [b3] at c3
   refine hq z (fun b o p => ?_) (by have := (GI.1 c3).1; omega) (fun y h1 h2 h4 => c y h2 (by omega) h4) ⟨v, o1, o2, o3⟩
   have a6 := (GI.1 p).1
   rw [c b (by omega) (by omega) (by omega)]; exact hp b o p
  ·exact hf.elim
end Go.L.Try
namespace Go.L.Try
open Go Go.L
variable {E : Env} {G : Nat}
def CritR (m : Nat) (jobs : List Job) (a : Int) (h : Aa) (v : Value) : Prop := ∃ vs, v = .tuple vs.toArray ∧ Each h [fun h v => RdNO m 5 hdJ Job.cuts h v jobs, fun _ v => v = .int .i64 a, fun _ v => v = .int .i64 0] vs
theorem CritR.movable {m : Nat} (jobs : List Job) (a : Int) : Movable m (CritR m jobs a) 2 :=
 Movable.tuples (k := 1) (fun R hR => by
  simp only [List.mem_cons, List.not_mem_nil, or_false] at hR
  rcases hR with rfl | rfl | rfl
  ·exact RdNO.movable (hd := hdJ) (cs := Job.cuts) (sz := 5) (fun _ => rfl) (fun _ => rfl) _
  ·exact Kc rfl
  ·exact Kc rfl) (by simp)
structure A3m (m : Nat) (H : Aa) (v : Value) (LV : List (NV Job)) (jobs : List Job) : Prop where
 own : OwnT m 5 (Ft hdJ) H v LV
 is : LV.map (·.j) = jobs
 cut : ∀ p ∈ LV, Rd 1 H5 H p.v p.j.cuts ∧ (p.v ≠ .slice none 0 0 → m ≤ blk p.v ∧ blk p.v < H.length ∧ blk p.v ≠ blk v)
def Aln : Nat → C → C
 | 0, c => c
 | n + 1, .seq _ b => Aln n b
 | _ + 1, c => c
theorem Arm {l : List Ab} {i : Int} {x : Job} {n : Nat} (h : x ∈ upC l i n) : x.cuts = [] := by
 obtain ⟨a, k, _, _, _, rfl⟩ := Nl h
 rfl
theorem Aqr (hE : Ay E) (hZ : Fd E G) {h : Aa} (ht : Tab G h) {vl v0 : Value} {l : List Ab} (hl : Rd 7 A0 h vl l) (hs : ∀ t ∈ l, t.name.size < 1152921504606846976) {i : Nat} (hv : D5 l) (hi : i < l.length) (few : (A9 l i).length ≤ 4096)
  {H : Aa} (hp : Pre h H) (hm : h.length + 4 ≤ H.length) (b0 : H[h.length]? = some (.cells [vl] false)) (b1 : H[h.length + 1]? = some (.cells [v0] false)) (b2 : H[h.length + 2]? = some (.cells [.func (.func Ah) #[] #[.pointer (some ⟨h.length + 1, 0, none⟩)]] false)) (b3 : H[h.length + 3]? = some (.cells [.int .i64 (Af l i)] false))
  {LV : List (NV Job)} (hO : A3m (h.length + 4) H v0 LV (Bj l i)) {fr : Fr} (g1 : get fr 1 = .int .i64 i) (g2 : get fr 2 = .pointer (some ⟨h.length, 0, none⟩)) (g7 : get fr 7 = .pointer (some ⟨h.length + 1, 0, none⟩)) (g8 : get fr 8 = .pointer (some ⟨h.length + 2, 0, none⟩)) (g9 : get fr 9 = .pointer (some ⟨h.length + 3, 0, none⟩)) :
  WO (fun b => h.length ≤ b) (code (callW E) iterW 132 (Aln 7 c_scene_Critical.body) fr H) (Res [(.t 4), (.t 5), (.t 6)] fun v h' => (∃ ys, h' = h ++ ys) ∧ CritR h.length (A9 l i) (Bj l i).length h' v) := by
 have hb : isP l (i : Int) = true := Wg hv (by omega) (by omega)
 obtain ⟨_, a8, a6⟩ := Bn hv
 have ak := a6 _ (Aj (l := l) (i := (i : Int)) (by omega) (by omega))
 obtain ⟨a9, a4⟩ := ak
 simp only [An, D4] at a9 a4
 have aj := (Jk (i := (i : Int)) a6 ⟨by omega, by omega⟩ l.length (Nat.le_refl _)).1
 have af : Af l i = 1 + mostJ l i l.length := rfl
 have hC : (1 ≤ (atI l (i : Int)).C ∧ (atI l (i : Int)).C ≤ 2147483647) ∧ (1 ≤ (atI l (i : Int)).D ∧ (atI l (i : Int)).D ≤ 2147483647) ∧ (0 ≤ (atI l (i : Int)).J ∧ (atI l (i : Int)).J ≤ 2147483647) ∧ (atI l (i : Int)).J < (atI l (i : Int)).D ∧ (atI l (i : Int)).J < Af l i ∧ Af l i ≤ 2147483648 := by omega
 obtain ⟨hC, hD, hJ, b4, az, b6⟩ := hC
 clear a9 a4 aj af
 have g : LV.length + 1 + (upC l i l.length).length ≤ 4096 := by
  have e1 : LV.length = (Bj l i).length := by rw [← hO.is, List.length_map]
  unfold A9 at few
  rw [LA, List.length_cons] at few
  omega
 have u : LV.length = (Bj l i).length := by rw [← hO.is, List.length_map]
 have ao : blk vl < h.length := by
  refine hl.lt' fun e => ?_
  have := hl.len
  rw [e] at this
  simp [Oz] at this
  omega
 have an : h.length ≤ H.length := hp.le
 have ok := D7 (Bc l (i : Int)) l l.length
 have a1 : (decide (LV.length + 1 ≤ 4096)) = true := decide_eq_true (by omega)
 have rl := hl.pre hp
 have b9 : (i : Int) < l.length := by omega
 have f := Axh hE (hh := H) (b := h.length + 1) (m := h.length + 4) (v := v0) (vc := .slice none 0 0) (A := LV) b1 hO.own (by omega) hm (by omega) (Cz l i) rfl rfl (W := fun b => h.length ≤ b) (by show h.length ≤ h.length + 1; omega) (fun d => by have := hO.own.ge d; show h.length ≤ _; omega)
 rw [a1] at f
 unfold Cz at f
 dsimp only at f
 have ac := Hid.mk f
 have aw := Hid.mk a1
 have HO := Hid.mk hO
 have rO := hO.own.rd
 have oO := rO.one
 have cO := rO.cv
 have HF := Hid.mk (AI few (AI g (AI u b1)))
 clear f a1 hO few g u
 unfold c_scene_Critical
 simp only [Aln]
 (repeat' simp -dsimp (disch := omega) only [↓EA, EB, Nat.reduceEqDiff, ↓reduceIte, eq_self, *, rl.ixs, rl.ld, A0, rO.len])
 refine WX.mono ac.out (fun b hb => hb) fun b8 h2 ae => ?_
 obtain ⟨rfl, v', q1, q2, q3, q4, q5⟩ := ae
 have hO := HO.out
 have a7 : LV ≠ [] → h.length + 4 ≤ blk v0 ∧ blk v0 < H.length := fun d => ⟨hO.own.ge d, hO.own.lt d⟩
 have k2 : ∀ y, y < h.length + 4 → y ≠ h.length + 1 → h2[y]? = H[y]? := fun y h1 h3 => q5 y (by omega) h3 (fun d => by have := a7 d; omega)
 have d0 := (k2 _ (by omega) (by omega)).trans b0
 have d2 := (k2 _ (by omega) (by omega)).trans b2
 have d3 := (k2 _ (by omega) (by omega)).trans b3
 have a2 : Pre h h2 := fun b o ag => by
  have b7 := (GI.1 ag).1
  rw [k2 b (by omega) (by omega)]; exact hp b o ag
 have c : A3m (h.length + 4) h2 v' (LV ++ [⟨Cz l i, .slice none 0 0⟩]) (Bj l i ++ [Cz l i]) := by
  refine ⟨q4, by rw [List.map_append, hO.is]; rfl, fun p hp3 => ?_⟩
  rcases List.mem_append.1 hp3 with hp3 | hp3
  ·obtain ⟨c1, c2⟩ := hO.cut p hp3
   refine ⟨c1.keep fun d => ?_, fun d => ?_⟩
   ·have := c2 d
    exact q5 _ this.2.1 (by omega) fun _ => this.2.2
   ·have := c2 d
    exact ⟨this.1, by omega, by omega⟩
  ·rw [List.mem_singleton.1 hp3]
   exact ⟨Rd.of_nil, fun d => absurd rfl d⟩
 have aq := Hid.mk (AI c (AI q1 q3))
 have as := a2.le
 have n := hl.pre a2
 have q := fun x => Aeo hE (n.app x) (i := (i : Int)) ⟨by omega, by omega⟩ a8
 have aa : ∀ x, (h2 ++ x)[h.length]? = some (.cells [vl] false) := fun x => by rw [GL (by omega)]; exact d0
 have ad : ∀ x, (h2 ++ x)[h.length + 3]? = some (.cells [.int .i64 (Af l i)] false) := fun x => by rw [GL (by omega)]; exact d3
 have ah : (room h2 1)[h.length]? = some (.cells [vl] false) := aa _
 have al : (room h2 1)[h.length + 3]? = some (.cells [.int .i64 (Af l i)] false) := ad _
 have ax : h.length + 4 ≤ h2.length := by omega
 have D2 := Hid.mk d2
 clear q1 q2 q3 q4 q5 hO c k2 a7 b0 b1 b2 b3 rl hm hp an d2 rO oO cO
 (repeat' simp -dsimp (disch := omega) only [↓EA, EB, Nat.reduceEqDiff, ↓reduceIte, eq_self, *])
 refine ⟨by simp [low]; omega, ?_⟩
 (repeat' simp -dsimp (disch := omega) only [↓EA, EB, Nat.reduceEqDiff, ↓reduceIte, eq_self, *])
 refine ⟨by simp [low]; omega, ?_⟩
 (repeat' simp -dsimp (disch := omega) only [↓EA, EB, Nat.reduceEqDiff, ↓reduceIte, eq_self, *, n.ixs])
 refine ⟨by simp [low]; omega, ?_⟩
 (repeat' simp -dsimp (disch := omega) only [↓EA, EB, Nat.reduceEqDiff, ↓reduceIte, eq_self, *, n.ldx, A0])
 refine ⟨by simp [low]; omega, ?_⟩
 (repeat' simp -dsimp (disch := omega) only [↓EA, EB, Nat.reduceEqDiff, ↓reduceIte, eq_self, *, n.ixs])
 refine ⟨by simp [low]; omega, ?_⟩
 (repeat' simp -dsimp (disch := omega) only [↓EA, EB, Nat.reduceEqDiff, ↓reduceIte, Ac, eq_self, *, n.ldx, A0])
 refine J4 (Awc hE _ ok) fun v ys hr a5 => ?_
 obtain ⟨bx, rfl, ap, r⟩ := hr
 rw [LA, List.length_singleton] at ap
 have au := (GI.1 r).1
 obtain ⟨c, b5, z⟩ := aq.out
 have av := (c.own.lt (by simp))
 have a3 := (c.own.ge (by simp))
 have a : ∀ y, y < h2.length → ((h2 ++ [LObj.cells [Value.int IntKind.i64 (Af l ↑i + (atI l ↑i).D - (atI l ↑i).J)] false]) ++ ys)[y]? = h2[y]? := fun y hy => by rw [List.append_assoc, GL hy]
 have ab : ((h2 ++ [LObj.cells [Value.int IntKind.i64 (Af l ↑i + (atI l ↑i).D - (atI l ↑i).J)] false]) ++ ys)[h2.length]? = some (.cells [Value.int IntKind.i64 (Af l ↑i + (atI l ↑i).D - (atI l ↑i).J)] false) := by rw [List.append_assoc, Bm]; rfl
 have ar : h2.length + 1 ≤ ((h2 ++ [LObj.cells [Value.int IntKind.i64 (Af l ↑i + (atI l ↑i).D - (atI l ↑i).J)] false]) ++ ys).length := by simp
 have hp3 : Pre h ((h2 ++ [LObj.cells [Value.int IntKind.i64 (Af l ↑i + (atI l ↑i).D - (atI l ↑i).J)] false]) ++ ys) := (a2.app' _).app' _
 have hB : Ao0 h.length h2.length ((h2 ++ [LObj.cells [Value.int IntKind.i64 (Af l ↑i + (atI l ↑i).D - (atI l ↑i).J)] false]) ++ ys) vl (Af l i) (Af l i + (atI l (i : Int)).D - (atI l (i : Int)).J) v' :=
  ⟨by omega, ⟨by omega, a3⟩, ⟨by omega, by omega, by omega⟩, (a _ (by omega)).trans d0, (a _ (by omega)).trans D2.out, (a _ (by omega)).trans d3, ab⟩
 have a0 := Hid.mk (AI hB (AI hp3 (AI r (AI a (AI c z)))))
 clear hB hp3 r ab c z q d0 d3 aa ad ah al n a a5
 generalize (h2 ++ [LObj.cells [Value.int IntKind.i64 (Af l ↑i + (atI l ↑i).D - (atI l ↑i).J)] false]) ++ ys = H3 at *
 (repeat' simp -dsimp (disch := omega) only [↓EA, EB, Nat.reduceEqDiff, ↓reduceIte, eq_self, *])
 obtain ⟨hB, hp3, r, a, c, z⟩ := a0.out
 obtain ⟨few, g, u, _⟩ := HF.out
 refine Avg hE hZ ht hv hi hl (fun _ => ao) hp3 hB r (by omega) (by omega) (A := LV ++ [⟨Cz l i, .slice none 0 0⟩]) (by simp) ((a _ (by omega)).trans z) (c.own.keep fun _ => a _ (by omega)) (by rw [LA, List.length_singleton]; omega) (fun b hb => hb) rfl rfl rfl rfl rfl fun h4 p4 l4 k4 o4 => ?_
 obtain ⟨w, w1, w2, w3⟩ := o4
 have ow := w2.rd.one
 have cw := w2.rd.cv
 have am := w2.rd.len
 have s : (LV ++ [(⟨Cz l i, .slice none 0 0⟩ : NV Job)] ++ (upC l i l.length).map On).length = (A9 l i).length := by
  unfold A9
  simp only [LA, List.length_map, List.length_cons, List.length_nil]
  omega
 rw [s] at am
 have ay : ¬ (4096 : Int) < ((A9 l i).length : Int) := by omega
 have W4 := Hid.mk (AI w2 (AI w3 (AI k4 (AI c (AI a p4)))))
 clear w2 w3 k4 c a hB r z hp3 a0 s g
 (repeat' simp -dsimp (disch := omega) only [↓EA, EB, Nat.reduceEqDiff, ↓reduceIte, eq_self, *])
 obtain ⟨w2, w3, k4, c, a, p4⟩ := W4.out
 refine ⟨p4.ex, _, rfl, .cons ⟨LV ++ [⟨Cz l i, .slice none 0 0⟩] ++ (upC l i l.length).map On, ?_, (w2.less (by omega)).rdO, fun p ai => ?_⟩ (.cons rfl (.cons rfl .nil))⟩
 ·rw [List.map_append, c.is, List.map_map]
  unfold A9
  rw [List.append_assoc]
  congr 1
  show [Cz l i] ++ (upC l i l.length).map id = _
  rw [List.map_id]; rfl
 ·rcases List.mem_append.1 ai with h6 | h6
  ·obtain ⟨c1, c2⟩ := c.cut p h6
   refine ⟨c1.keep fun d => ?_, fun d => ?_⟩
   ·obtain ⟨e1, e2, e3⟩ := c2 d
    rw [k4 _ e1 (by omega) e3]; exact a _ e2
   ·obtain ⟨e1, e2, e3⟩ := c2 d
    omega
  ·obtain ⟨j, hj, rfl⟩ := List.mem_map.1 h6
   refine ⟨?_, fun d => absurd rfl d⟩
   rw [show (On j).j.cuts = [] from Arm hj]
   exact Rd.of_nil
end Go.L.Try
namespace Go.L.Try
open Go Go.L
variable {E : Env} {G : Nat}
theorem Aqp (hE : Ay E) (hZ : Fd E G) {h : Aa} (ht : Tab G h) {vl : Value} {l : List Ab} (hl : Rd 7 A0 h vl l) (hs : ∀ t ∈ l, t.name.size < 1152921504606846976) {i : Nat} (hv : D5 l) (hi : i < l.length) (few : (A9 l i).length ≤ 4096) :
  ∃ v ys, callW E (.func (.func E3) #[] #[]) [vl, .int .i64 i] h = some (v, h ++ ys, []) ∧ CritR h.length (A9 l i) (Bj l i).length (h ++ ys) v := by
 refine Pw hE.Zv rfl (CritR.movable _ _) (by simp) ?_
 have j : isP l (i : Int) = true := Wg hv (by omega) (by omega)
 obtain ⟨_, a5, f⟩ := Bn hv
 have q1 := fun x => Aen hE (hl.app x) hs (i : Int)
 simp only [j] at q1
 have q2 := fun x => A0c hE hZ (ht.app x) (hl.app x) hs j
 have q3 := fun x => Avx hE hZ (ht.app x) (hl.app x) hs j
 have a3 := (Jk (i := (i : Int)) f ⟨by omega, by omega⟩ l.length (Nat.le_refl _)).1
 have a4 := f _ (Aj (l := l) (i := (i : Int)) (by omega) (by omega))
 obtain ⟨z, u⟩ := a4
 simp only [An, D4] at z u
 have a2 : Af l i = 1 + mostJ l i l.length := rfl
 have s : 1 ≤ Af l i ∧ Af l i ≤ 2147483648 := by omega
 obtain ⟨s, a8⟩ := s
 have n := (V9 (i := (i : Int)) f l.length (Nat.le_refl _)).2
 have c : Bj l i = if (blkN l i l.length).2 = true then [⟨(blkN l i l.length).1, Af l i - 1, Af l i - 1, (atI l (blkN l i l.length).1).Q, [(atI l (blkN l i l.length).1).Q]⟩] else [] := rfl
 have hQ : (blkN l i l.length).2 = true → (1 ≤ (atI l (blkN l i l.length).1).Q ∧ (atI l (blkN l i l.length).1).Q ≤ 2147483647) := fun h2 => by
  have := n h2
  have h3 := (f _ (Aj (l := l) (i := (blkN l i l.length).1) this.1.1 (by omega))).1
  simp only [An] at h3
  omega
 simp only [Ak]
 generalize hR : (C.seq (C.reg [1, 2, 7, 8, 9, 12] _) _) = R
 have a0 : R = Aln 7 c_scene_Critical.body := by rw [← hR]; rfl
 have HR := Hid.mk a0
 have d := Hid.mk (fun {H v0 LV fr} hp hm b0 b1 b2 b3 hO g1 g2 g7 g8 g9 => Aqr (H := H) (v0 := v0) (LV := LV) (fr := fr) hE hZ ht hl hs hv hi few hp hm b0 b1 b2 b3 hO g1 g2 g7 g8 g9)
 have ac := hl.cv
 have af := hl.one
 have a6 : blk vl < h.length := by
  refine hl.lt' fun e => ?_
  have := hl.len
  rw [e] at this
  simp [Oz] at this
  omega
 clear hR a0 a3 z u a2 f few j
 generalize blkN l i l.length = bk at *
 obtain ⟨a, g⟩ := bk
 dsimp only at *
 cases g
 ·rw [if_neg (by decide)] at c
  have r := Hid.mk c
  clear c hQ n
  (repeat' simp -dsimp (disch := omega) only [↓EA, EB, Nat.reduceEqDiff, Nat.reduceAdd, ↓reduceIte, reduceCtorEq, Ac, eq_self, *])
  rw [HR.out]
  refine d.out (v0 := .slice none 0 0) (LV := []) (Pre.app h _) (by simp) (by rw [Bm]; rfl) (by rw [Ke]; rfl) (by rw [Ke]; rfl) (by rw [Ke]; rfl) ⟨OwnT.nil, by rw [r.out]; rfl, by simp⟩ rfl rfl rfl rfl rfl
 ·rw [if_pos rfl] at c
  obtain ⟨ad, ab⟩ := hQ rfl
  obtain ⟨a7, aa⟩ := (n rfl).1
  have r := Hid.mk c
  clear c hQ n
  have rl := fun x => hl.app x
  have ae := hl.app [LObj.cells [vl] false, LObj.cells [.slice none 0 0] false, LObj.cells [.func (.func Ah) #[] #[.pointer (some ⟨h.length + 1, 0, none⟩)]] false, LObj.cells [.int .i64 (Af l i)] false, LObj.dead]
  (repeat' simp -dsimp (disch := omega) only [↓EA, EB, Nat.reduceEqDiff, Nat.reduceAdd, ↓reduceIte, reduceCtorEq, Ac, eq_self, *])
  refine ⟨by first | (simp [low]; done) | (simp [low]; omega), ?_⟩
  (repeat' simp -dsimp (disch := omega) only [↓EA, EB, Nat.reduceEqDiff, Nat.reduceAdd, ↓reduceIte, eq_self, *])
  refine ⟨by first | (simp [low]; done) | (simp [low]; omega), ?_⟩
  (repeat' simp -dsimp (disch := omega) only [↓EA, EB, Nat.reduceEqDiff, Nat.reduceAdd, ↓reduceIte, eq_self, *])
  refine ⟨by first | (simp [low]; done) | (simp [low]; omega), ?_⟩
  (repeat' simp -dsimp (disch := omega) only [↓EA, EB, Nat.reduceEqDiff, Nat.reduceAdd, ↓reduceIte, eq_self, *])
  refine ⟨by first | (simp [low]; done) | (simp [low]; omega), ?_⟩
  (repeat' simp -dsimp (disch := omega) only [↓EA, EB, Nat.reduceEqDiff, Nat.reduceAdd, ↓reduceIte, eq_self, *, hl.ixs])
  refine ⟨by first | (simp [low]; done) | (simp [low]; omega), ?_⟩
  (repeat' simp -dsimp (disch := omega) only [↓EA, EB, Nat.reduceEqDiff, Nat.reduceAdd, Nat.reduceLeDiff, Nat.reduceMul, ↓reduceIte, Ac, Sk, eq_self, *, hl.ixs, hl.ldx, A0])
  have hj : [Value.int IntKind.i64 a, Value.int IntKind.i64 (Af l ↑i - 1), Value.int IntKind.i64 (Af l ↑i - 1), Value.int IntKind.i64 (atI l a).Q, Value.slice (some { block := List.length h + 4, off := 0 }) 1 1] = [Value.int .i64 (⟨a, Af l ↑i - 1, Af l ↑i - 1, (atI l a).Q, [(atI l a).Q]⟩ : Job).task, .int .i64 (⟨a, Af l ↑i - 1, Af l ↑i - 1, (atI l a).Q, [(atI l a).Q]⟩ : Job).arrive, .int .i64 (⟨a, Af l ↑i - 1, Af l ↑i - 1, (atI l a).Q, [(atI l a).Q]⟩ : Job).release, .int .i64 (⟨a, Af l ↑i - 1, Af l ↑i - 1, (atI l a).Q, [(atI l a).Q]⟩ : Job).work, Value.slice (some { block := List.length h + 4, off := 0 }) 1 1] := rfl
  rw [hj]
  have k0 : ∀ x, x < h.length → (h ++ [LObj.cells [vl] false, LObj.cells [Value.slice none 0 0] false, LObj.cells [Value.func (Fn.func Ah) #[] #[Value.pointer (some { block := List.length h + 1, off := 0 })]] false, LObj.cells [Value.int IntKind.i64 (Af l ↑i)] false, LObj.cells [Value.int IntKind.i64 (atI l a).Q] false])[x]? = h[x]? := fun x hx => GL hx
  have e0 : (h ++ [LObj.cells [vl] false, LObj.cells [Value.slice none 0 0] false, LObj.cells [Value.func (Fn.func Ah) #[] #[Value.pointer (some { block := List.length h + 1, off := 0 })]] false, LObj.cells [Value.int IntKind.i64 (Af l ↑i)] false, LObj.cells [Value.int IntKind.i64 (atI l a).Q] false])[h.length]? = some (.cells [vl] false) := by rw [Bm]; rfl
  have e1 : (h ++ [LObj.cells [vl] false, LObj.cells [Value.slice none 0 0] false, LObj.cells [Value.func (Fn.func Ah) #[] #[Value.pointer (some { block := List.length h + 1, off := 0 })]] false, LObj.cells [Value.int IntKind.i64 (Af l ↑i)] false, LObj.cells [Value.int IntKind.i64 (atI l a).Q] false])[h.length + 1]? = some (.cells [.slice none 0 0] false) := by rw [Ke]; rfl
  have e2 : (h ++ [LObj.cells [vl] false, LObj.cells [Value.slice none 0 0] false, LObj.cells [Value.func (Fn.func Ah) #[] #[Value.pointer (some { block := List.length h + 1, off := 0 })]] false, LObj.cells [Value.int IntKind.i64 (Af l ↑i)] false, LObj.cells [Value.int IntKind.i64 (atI l a).Q] false])[h.length + 2]? = some (.cells [.func (.func Ah) #[] #[.pointer (some ⟨h.length + 1, 0, none⟩)]] false) := by rw [Ke]; rfl
  have e3 : (h ++ [LObj.cells [vl] false, LObj.cells [Value.slice none 0 0] false, LObj.cells [Value.func (Fn.func Ah) #[] #[Value.pointer (some { block := List.length h + 1, off := 0 })]] false, LObj.cells [Value.int IntKind.i64 (Af l ↑i)] false, LObj.cells [Value.int IntKind.i64 (atI l a).Q] false])[h.length + 3]? = some (.cells [.int .i64 (Af l i)] false) := by rw [Ke]; rfl
  have e4 : (h ++ [LObj.cells [vl] false, LObj.cells [Value.slice none 0 0] false, LObj.cells [Value.func (Fn.func Ah) #[] #[Value.pointer (some { block := List.length h + 1, off := 0 })]] false, LObj.cells [Value.int IntKind.i64 (Af l ↑i)] false, LObj.cells [Value.int IntKind.i64 (atI l a).Q] false])[h.length + 4]? = some (Ae [(atI l a).Q]) := by rw [Ke]; rfl
  have e5 : (h ++ [LObj.cells [vl] false, LObj.cells [Value.slice none 0 0] false, LObj.cells [Value.func (Fn.func Ah) #[] #[Value.pointer (some { block := List.length h + 1, off := 0 })]] false, LObj.cells [Value.int IntKind.i64 (Af l ↑i)] false, LObj.cells [Value.int IntKind.i64 (atI l a).Q] false]).length = h.length + 5 := by simp
  generalize hH : h ++ [LObj.cells [vl] false, LObj.cells [Value.slice none 0 0] false, LObj.cells [Value.func (Fn.func Ah) #[] #[Value.pointer (some { block := List.length h + 1, off := 0 })]] false, LObj.cells [Value.int IntKind.i64 (Af l ↑i)] false, LObj.cells [Value.int IntKind.i64 (atI l a).Q] false] = HQ at *
  refine WX.mono (Axh hE (A := []) (m := h.length + 4) (v := .slice none 0 0) e1 OwnT.nil (by omega) (by omega) (by simp) (⟨a, Af l ↑i - 1, Af l ↑i - 1, (atI l a).Q, [(atI l a).Q]⟩ : Job) rfl rfl (W := fun b => h.length ≤ b) (by show h.length ≤ h.length + 1; omega) (fun hn => absurd rfl hn)) (fun b j => j) fun a9 h2 a1 => ?_
  obtain ⟨rfl, v', q5, q6, q7, q8, q9⟩ := a1
  have g : ∀ y, y < h.length + 5 → y ≠ h.length + 1 → h2[y]? = HQ[y]? := fun y hy hn => q9 y (by omega) hn (fun hn => absurd rfl hn)
  have R1 := Hid.mk (AI q5 (AI q6 (AI q7 (AI q8 (AI g (AI k0 (AI e0 (AI e2 (AI e3 (AI e4 e5))))))))))
  clear q5 q6 q7 q8 q9 g k0 e0 e1 e2 e3 e4 e5 hH hj
  (repeat' simp -dsimp (disch := omega) only [↓EA, EB, Nat.reduceEqDiff, ↓reduceIte, eq_self, *])
  obtain ⟨q5, q6, q7, q8, g, k0, e0, e2, e3, e4, e5⟩ := R1.out
  rw [HR.out]
  refine d.out (v0 := v') (LV := [⟨⟨a, Af l ↑i - 1, Af l ↑i - 1, (atI l a).Q, [(atI l a).Q]⟩, Value.slice (some { block := List.length h + 4, off := 0 }) 1 1⟩]) (fun b o j => ?_) (by omega) ((g _ (by omega) (by omega)).trans e0) q7 ((g _ (by omega) (by omega)).trans e2) ((g _ (by omega) (by omega)).trans e3) ⟨q8, by rw [r.out]; rfl, fun p hp => ?_⟩ rfl rfl rfl rfl rfl
  ·have := (GI.1 j).1
   rw [g b (by omega) (by omega), k0 b this]; exact j
  ·rw [List.mem_singleton.1 hp]
   refine ⟨Axf (l := [(atI l a).Q]) ((g _ (by omega) (by omega)).trans e4) rfl (by simp) (by simp), fun _ => ?_⟩
   show h.length + 4 ≤ h.length + 4 ∧ h.length + 4 < h2.length ∧ h.length + 4 ≠ blk v'
   omega
end Go.L.Try
