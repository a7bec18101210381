/- WHEN JOBS END: cadencyref11.Ends, trace.Ends. -/
import Derived.Test.YtifnlcajancfdaaPa
import Derived.Test.YtifnlcajancfdaaPj
import Derived.Test.YtifnlcajancfdaaVb
import Derived.Test.YtifnlcajancfdaaPh
set_option linter.unusedVariables false
set_option linter.unusedSimpArgs false
set_option maxRecDepth 100000
set_option maxHeartbeats 2000000
namespace Go.L.Try
open Go Go.L
variable {E : Env}
def Sx (l : List Span) : Prop := ∀ x ∈ l, (0 ≤ x.from' ∧ x.from' ≤ 35184372088832) ∧ 0 ≤ x.to' ∧ x.to' ≤ 35184372088832
def Aw8 (i : Int) (s : Int × Int) (x : Span) : Int × Int :=
 if x.job = i ∧ 0 < x.to' - x.from' ∧ s.2 < 0 then (s.1 - (x.to' - x.from'), if s.1 ≤ x.to' - x.from' then x.from' + s.1 else s.2) else s
def A1y (w i : Int) (l : List Span) : Int × Int := l.foldl (Aw8 i) (w, -1)
def Ayd (jobs : List Job) (l : List Span) : Nat → List Int
 | 0 => []
 | n + 1 => Ayd jobs l n ++ [(A1y (atI jobs (n : Int)).work n l).2]
end Go.L.Try
namespace Go.L.Try
open Go Go.L
variable {E : Env}
def Eh (t : Int) : List Span → Int × List Span
 | [] => (t, [])
 | x :: r => if x.from' = t then Eh x.to' r else (t, x :: r)
theorem N4 : ∀ (l : List Span) (t : Int), (Eh t l).2.length ≤ l.length
 | [], t => by simp [Eh]
 | x :: r, t => by
  unfold Eh; split
  ·have := N4 r x.to'; simp; omega
  ·simp
def yN : Nat → List Span → List (Int × Int)
 | 0, _ => []
 | _ + 1, [] => []
 | n + 1, x :: r => (x.from', (Eh x.to' r).1) :: yN n (Eh x.to' r).2
theorem Ako : ∀ {n m : Nat} {l : List Span}, l.length ≤ n → l.length ≤ m → yN n l = yN m l
 | 0, 0, _, _, _ => rfl
 | 0, m + 1, [], _, _ => rfl
 | 0, m + 1, _ :: _, h, _ => by simp at h
 | n + 1, 0, [], _, _ => rfl
 | n + 1, 0, _ :: _, _, h => by simp at h
 | n + 1, m + 1, [], _, _ => rfl
 | n + 1, m + 1, x :: r, h1, h2 => by
  have := N4 r x.to'
  simp only [List.length_cons] at h1 h2
  simp only [yN]
  rw [Ako (n := n) (m := m) (by omega) (by omega)]
def Dz (l : List Span) : List (Int × Int) := yN l.length l
theorem Ap6 : Dz [] = [] := rfl
theorem Akg (x : Span) (r : List Span) : Dz (x :: r) = (x.from', (Eh x.to' r).1) :: Dz (Eh x.to' r).2 := by
 have := N4 r x.to'
 unfold Dz
 simp only [List.length_cons, yN]
 rw [Ako this (Nat.le_refl _)]
theorem Axe (hE : Ap E) {W : Nat → Prop} {h0 : Aa} {vs : Value} {l : List Span} {bx : Nat} (hb : h0[bx]? = some (.cells [vs] false)) (hl : Rd 3 Ro h0 vs l) {i0 : Nat} (hi0 : i0 ≤ l.length) {to0 : Int} {v0 v4 : Value} {Q : Ex → Fr → Aa → Prop} {fr : Fr}
  (g0 : get fr 0 = v0) (g1 : get fr 1 = .pointer (some ⟨bx, 0, none⟩)) (g3 : get fr 3 = .int .i64 i0) (g4 : get fr 4 = v4) (g5 : get fr 5 = .int .i64 to0)
  (hq : ∀ fr' (i : Nat), i ≤ l.length → i0 ≤ i → l.drop i = (Eh to0 (l.drop i0)).2 → get fr' 0 = v0 → get fr' 1 = .pointer (some ⟨bx, 0, none⟩) → get fr' 3 = .int .i64 i → get fr' 4 = v4 → get fr' 5 = .int .i64 (Eh to0 (l.drop i0)).1 → Q (.exit 2) fr' h0) :
  WO W (iterW (code (callW E) iterW 47 Ih) fr h0) Q := by
 have few := hl.few
 refine WO.loop (fun i fr h' => h' = h0 ∧ i ≤ l.length ∧ i0 ≤ i ∧ get fr 0 = v0 ∧ get fr 1 = .pointer (some ⟨bx, 0, none⟩) ∧ get fr 3 = .int .i64 i ∧ get fr 4 = v4 ∧ ∃ a, get fr 5 = .int .i64 a ∧ Eh to0 (l.drop i0) = Eh a (l.drop i)) (fun i => l.length - i) ?_ i0 ⟨rfl, hi0, Nat.le_refl _, g0, g1, g3, g4, to0, g5, rfl⟩
 rintro i fr h' ⟨rfl, d, c, g0, g1, g3, g4, a, g5, g⟩
 have Hr := Hid.mk g
 clear g
 unfold Ih
 rcases Nat.lt_or_ge i l.length with hlt | hge
 ·have f : l.drop i = atI l (i : Int) :: l.drop (i + 1) := by rw [Ax hlt, List.drop_eq_getElem_cons hlt]
  have Hd := Hid.mk f
  clear f
  have hq := Hid.mk hq
  (repeat' (first | (with_reducible refine A1 (fun _ => ?_) (fun _ => ?_) <;> try (exfalso; omega)) | (with_reducible refine A3 (fun _ => ?_) (fun _ => ?_) <;> try (exfalso; omega)) | simp -dsimp (disch := omega) only [↓EA, EB, Nat.reduceEqDiff, ↓reduceIte, reduceCtorEq, eq_self, *, hl.len, hl.ixs, hl.ld, Ro]))
  ·refine Next.mk (i + 1) ⟨rfl, by omega, by omega, rfl, rfl, rfl, rfl, _, rfl, ?_⟩ (by omega)
   rw [Hr.out, Hd.out, Eh, if_pos (by assumption)]
  ·have e : Eh a (l.drop i) = (a, l.drop i) := by rw [Hd.out, Eh, if_neg (by assumption)]
   refine hq.out _ i d c ?_ rfl rfl rfl rfl ?_
   ·rw [Hr.out, e]
   ·rw [Hr.out, e]; rfl
 ·have j : l.drop i = [] := List.drop_of_length_le (by omega)
  have e : Eh a (l.drop i) = (a, l.drop i) := by rw [j]; rfl
  have hq := Hid.mk hq
  have E0 := Hid.mk e
  clear e j
  (repeat' (first | (with_reducible refine A1 (fun _ => ?_) (fun _ => ?_) <;> try (exfalso; omega)) | simp -dsimp (disch := omega) only [↓EA, EB, Nat.reduceEqDiff, ↓reduceIte, reduceCtorEq, eq_self, *, hl.len]))
  refine hq.out _ i d c ?_ rfl rfl rfl rfl ?_
  ·rw [Hr.out, E0.out]
  ·rw [Hr.out, E0.out]; rfl
theorem Ap5 (hE : Ap E) {h1 : Aa} {L bx : Nat} {vs : Value} {l : List Span} {W : Nat → Prop} {J : Nat → Aa → Prop} {Stop : Aa → Prop} (hJ : ∀ k h, J k h → h.length = h1.length ∧ h[bx]? = some (.cells [vs] false) ∧ Rd 3 Ro h vs l) (h0 : J 0 h1) (hS : ∀ h, Stop h → h.length = h1.length)
  (step : ∀ k h p, (Dz l)[k]? = some p → J k h → WX W (callW E (.func (.yield L) #[] #[]) [.int .i64 p.1, .int .i64 p.2] h) (fun v h' => (v = .bool true ∧ J (k + 1) h') ∨ (v = .bool false ∧ Stop h'))) :
  WX W (callW E (.func (.func D0) #[] #[.pointer (some ⟨bx, 0, none⟩)]) [.func (.yield L) #[] #[]] h1) (fun _ h' => J (Dz l).length h' ∨ Stop h') := by
 refine Azt hE.keep hE.Aa9 rfl (by simp) ?_
 have few := (hJ 0 h1 h0).2.2.few
 simp only [List.cons_append, List.nil_append, Ah]
 (repeat' simp -dsimp (disch := omega) only [↓EA, EB, Nat.reduceEqDiff, ↓reduceIte, reduceCtorEq, eq_self, *])
 refine WO.loop (α := Nat × Nat) (fun s fr h' => s.1 ≤ l.length ∧ J s.2 h' ∧ (Dz l).drop s.2 = Dz (l.drop s.1) ∧ s.2 ≤ (Dz l).length ∧ get fr 0 = .func (.yield L) #[] #[] ∧ get fr 1 = .pointer (some ⟨bx, 0, none⟩) ∧ get fr 3 = .int .i64 s.1) (fun s => l.length - s.1) ?_ (0, 0) ⟨Nat.zero_le _, h0, rfl, Nat.zero_le _, rfl, rfl, rfl⟩
 rintro ⟨i, k⟩ fr h' ⟨hi, g, c, hk, g0, g1, g3⟩
 obtain ⟨o, hb, t⟩ := hJ k h' g
 dsimp only at hi g c hk g3
 unfold Md
 rcases Nat.lt_or_ge i l.length with hlt | hge
 ·have x : l.drop i = atI l (i : Int) :: l.drop (i + 1) := by rw [Ax hlt, List.drop_eq_getElem_cons hlt]
  rw [x, Akg] at c
  have m : k < (Dz l).length := by
   rcases Nat.lt_or_ge k (Dz l).length with h | h
   ·exact h
   ·rw [List.drop_of_length_le h] at c; cases c
  rw [List.drop_eq_getElem_cons m] at c
  have u := (List.cons.inj c).1
  have r := (List.cons.inj c).2
  have j := step k h' _ (by rw [List.getElem?_eq_getElem m, u]) g
  have Hd := Hid.mk r
  replace j := Hid.mk j
  replace hJ := Hid.mk hJ
  replace hS := Hid.mk hS
  clear c u r step x h0
  (repeat' (first | (with_reducible refine A3 (fun _ => ?_) (fun _ => ?_) <;> try (exfalso; omega)) | simp -dsimp (disch := omega) only [↓EA, EB, Nat.reduceEqDiff, ↓reduceIte, reduceCtorEq, eq_self, *, t.len, t.ixs, t.ld, Ro]))
  refine Axe hE hb t (i0 := i + 1) (by omega) rfl rfl rfl rfl rfl fun a0 i' z a1 a q0 q1 q3 q4 q5 => ?_
  have n := Hid.mk a
  clear a
  (repeat' simp -dsimp (disch := omega) only [↓EA, EB, Nat.reduceEqDiff, ↓reduceIte, reduceCtorEq, eq_self, *])
  refine WX.mono j.out (fun b h => h) fun v h2 hr => ?_
  rcases hr with ⟨rfl, f⟩ | ⟨rfl, d⟩
  ·replace f := Hid.mk f
   (repeat' simp -dsimp (disch := omega) only [↓EA, EB, Nat.reduceEqDiff, ↓reduceIte, reduceCtorEq, eq_self, *])
   exact Next.mk (i', k + 1) ⟨z, f.out, by rw [n.out]; exact Hd.out, m, rfl, rfl, rfl⟩ (by simp only []; omega)
  ·replace d := Hid.mk d
   (repeat' simp -dsimp (disch := omega) only [↓EA, EB, Nat.reduceEqDiff, ↓reduceIte, reduceCtorEq, eq_self, *])
   exact ⟨hS.out _ d.out, .inr d.out⟩
 ·have e : l.drop i = [] := List.drop_of_length_le (by omega)
  rw [e] at c
  have y : k = (Dz l).length := by
   have := congrArg List.length c
   rw [List.length_drop] at this; simp [Ap6] at this; omega
  subst y
  replace g := Hid.mk g
  (repeat' (first | (with_reducible refine A3 (fun _ => ?_) (fun _ => ?_) <;> try (exfalso; omega)) | simp -dsimp (disch := omega) only [↓EA, EB, Nat.reduceEqDiff, ↓reduceIte, reduceCtorEq, eq_self, *, t.len]))
  first
   | exact .inl g.out
   | exact ⟨o, .inl g.out⟩
theorem busy (hE : Ap E) {h : Aa} {vs : Value} {l : List Span} (hl : Rd 3 Ro h vs l) :
  ∃ v ys, callW E (.func (.func I1) #[] #[]) [vs] h = some (v, h ++ ys, []) ∧ Clo1 h.length D0 (fun h v => v = vs ∧ Rd 3 Ro h vs l) (h ++ ys) v := by
 refine Ja hE.Aim rfl (Clo1.movable (hl.old_movable At7)) (by simp) ?_
 have c := hl.cv
 have a := hl.one
 simp only [Ah]
 (repeat' simp -dsimp (disch := omega) only [↓EA, EB, Nat.reduceEqDiff, ↓reduceIte, Ab, eq_self, *])
 exact ⟨⟨_, rfl⟩, _, _, rfl, Nat.le_refl _, by rw [Bk]; rfl, rfl, hl.app _⟩
def E5 (l : List Span) : Nat → Int
 | 0 => 0
 | k + 1 => E5 l k + ((Dz l).getD k (0, 0)).2 - ((Dz l).getD k (0, 0)).1
def Am1 (l : List Span) : Int := E5 l (Dz l).length
theorem Ab4 : ∀ (l : List Span) (t : Int), (Eh t l).1 = t ∨ ∃ x ∈ l, (Eh t l).1 = x.to'
 | [], t => .inl rfl
 | x :: r, t => by
  unfold Eh
  split
  ·rcases Ab4 r x.to' with h | ⟨y, a, h⟩
   ·exact .inr ⟨x, by simp, h⟩
   ·exact .inr ⟨y, by simp [a], h⟩
  ·exact .inl rfl
theorem Vx : ∀ (l : List Span) (t : Int), ∀ y ∈ (Eh t l).2, y ∈ l
 | [], t, y, h => by simp [Eh] at h
 | x :: r, t, y, h => by
  unfold Eh at h
  split at h
  ·exact List.mem_cons_of_mem _ (Vx r x.to' y h)
  ·exact h
theorem Aqh : ∀ (n : Nat) (l : List Span), ∀ p ∈ yN n l, (∃ x ∈ l, p.1 = x.from') ∧ ∃ x ∈ l, p.2 = x.to'
 | 0, _, p, h => by simp [yN] at h
 | n + 1, [], p, h => by simp [yN] at h
 | n + 1, x :: r, p, h => by
  simp only [yN, List.mem_cons] at h
  rcases h with rfl | h
  ·refine ⟨⟨x, by simp, rfl⟩, ?_⟩
   rcases Ab4 r x.to' with h | ⟨y, a, h⟩
   ·exact ⟨x, by simp, h⟩
   ·exact ⟨y, by simp [a], h⟩
  ·obtain ⟨⟨y, a, c⟩, ⟨z, d, h2⟩⟩ := Aqh n _ p h
   exact ⟨⟨y, List.mem_cons_of_mem _ (Vx _ _ y a), c⟩, ⟨z, List.mem_cons_of_mem _ (Vx _ _ z d), h2⟩⟩
theorem Aqi : ∀ (n : Nat) (l : List Span), (yN n l).length ≤ l.length
 | 0, _ => by simp [yN]
 | n + 1, [] => by simp [yN]
 | n + 1, x :: r => by
  have := Aqi n (Eh x.to' r).2
  have := N4 r x.to'
  simp only [yN, List.length_cons]; omega
theorem Ah1 {l : List Span} (hok : Sx l) : ∀ p ∈ Dz l, (0 ≤ p.1 ∧ p.1 ≤ 35184372088832) ∧ 0 ≤ p.2 ∧ p.2 ≤ 35184372088832 := by
 intro p e
 obtain ⟨⟨x, a, c⟩, ⟨y, d, h2⟩⟩ := Aqh _ _ p e
 rw [c, h2]; exact ⟨(hok x a).1, (hok y d).2⟩
theorem Ag0 {l : List Span} (hok : Sx l) : ∀ k : Nat, k ≤ (Dz l).length → -(k * 35184372088832 : Int) ≤ E5 l k ∧ E5 l k ≤ k * 35184372088832
 | 0, _ => by simp [E5]
 | k + 1, h => by
  have a := Ag0 hok k (by omega)
  have c := Ah1 hok ((Dz l)[k]) (List.getElem_mem _)
  have e : (Dz l).getD k (0, 0) = (Dz l)[k] := by rw [List.getD_eq_getElem?_getD, List.getElem?_eq_getElem (by omega)]; rfl
  simp only [E5, e]
  constructor <;> (have := a.1; have := a.2; simp only [Int.natCast_add, Int.natCast_one, Int.add_mul]; omega)
theorem A05 (hE : Ap E) {h : Aa} {vs : Value} {l : List Span} (hl : Rd 3 Ro h vs l) (hok : Sx l) (hn : l.length ≤ 65536) :
  callW E (.func (.func I0) #[] #[]) [vs] h = some (.int .i64 (Am1 l), h, []) := by
 refine Ai hE.Ail rfl (by simp) ?_
 obtain ⟨v, a, m, bx, u, rfl, a0, n, t, hu⟩ := busy hE (hl.app [.cells [.int .i64 0] false])
 subst t
 have a7 : (Dz l).length ≤ 65536 := by have := Aqi l.length l; unfold Dz; omega
 have f := Ag0 hok
 simp only [Ah]
 (repeat' simp -dsimp (disch := omega) only [↓EA, EB, Nat.reduceEqDiff, ↓reduceIte, reduceCtorEq, Ab, eq_self, *])
 have j : (h ++ LObj.cells [.int .i64 0] false :: a).length = h.length + a.length + 1 := by simp; omega
 simp only [LA, List.length_cons, List.length_nil] at a0
 have g := (GI.1 n).1
 simp only [List.append_assoc, List.cons_append, List.nil_append] at n g hu
 have r : u ≠ .slice none 0 0 → blk u < h.length := fun hn => hl.lt' hn
 refine Auq hE.keep (W' := fun b => b = h.length ∨ b = (h ++ LObj.cells [.int .i64 0] false :: a).length) rfl (fun x hx a4 => by omega) ?_
 generalize hLr : LObj.loop _ = lo
 have H1 : ∀ k d, d = ((h ++ LObj.cells [.int .i64 0] false :: a) ++ [lo]).set h.length (.cells [.int .i64 (E5 l k)] false) → d.length = ((h ++ LObj.cells [.int .i64 0] false :: a) ++ [lo]).length ∧ d[bx]? = some (.cells [u] false) ∧ Rd 3 Ro d u l := fun k d e => by
  subst e
  refine ⟨by simp, ?_, ?_⟩
  ·rw [Aq (by omega), GL g]; exact n
  ·exact (hu.app _).keep fun hn => Aq (by have := r hn; omega)
 refine WX.mono (Ap5 hE (J := fun k d => d = ((h ++ LObj.cells [.int .i64 0] false :: a) ++ [lo]).set h.length (.cells [.int .i64 (E5 l k)] false)) (Stop := fun _ => False) H1 ?_ (fun _ hf => hf.elim) ?_) (fun b m => m) ?_
 ·exact (D4 (by rw [GL (by omega), Bk]; rfl)).symm
 ·rintro k d p hp rfl
  have hk : k < (Dz l).length := (GI.1 hp).1
  have y : (Dz l).getD k (0, 0) = p := by rw [List.getD_eq_getElem?_getD, hp]; rfl
  have a2 := Ah1 hok p (List.mem_of_getElem? hp)
  have a6 := f k (by omega)
  have o : E5 l (k + 1) = E5 l k + p.2 - p.1 := by simp only [E5, y]
  have a3 : (k : Int) * 35184372088832 ≤ 65536 * 35184372088832 := Int.mul_le_mul_of_nonneg_right (by omega) (by decide)
  have hL : (((h ++ LObj.cells [.int .i64 0] false :: a) ++ [lo]).set h.length (.cells [.int .i64 (E5 l k)] false))[(h ++ LObj.cells [.int .i64 0] false :: a).length]? = some lo := by
   rw [Aq (by omega), Bk]; rfl
  have hN : (((h ++ LObj.cells [.int .i64 0] false :: a) ++ [lo]).set h.length (.cells [.int .i64 (E5 l k)] false))[h.length]? = some (.cells [.int .i64 (E5 l k)] false) := Bx (by simp <;> omega)
  have s : (((h ++ LObj.cells [.int .i64 0] false :: a) ++ [lo]).set h.length (.cells [.int .i64 (E5 l k)] false)).length = h.length + a.length + 2 := by simp; omega
  have c : (((h ++ LObj.cells [.int .i64 0] false :: a) ++ [lo]).set h.length (.cells [.int .i64 (E5 l k)] false)).set h.length (.cells [.int .i64 (E5 l (k + 1))] false) = ((h ++ LObj.cells [.int .i64 0] false :: a) ++ [lo]).set h.length (.cells [.int .i64 (E5 l (k + 1))] false) := List.set_set ..
  generalize (((h ++ LObj.cells [.int .i64 0] false :: a) ++ [lo]).set h.length (.cells [.int .i64 (E5 l k)] false)) = d at *
  generalize (h ++ LObj.cells [.int .i64 0] false :: a).length = L at *
  subst hLr
  have a1 : h.length < L := by omega
  have a5 : L < d.length := by omega
  clear j s
  refine WX.mono (Aep hE.keep (W := fun b => b = h.length) (Rr := fun e h3 => e = .normal ∧ h3 = d.set h.length (.cells [.int .i64 (E5 l (k + 1))] false)) hL rfl rfl rfl rfl (fun b m => by omega) ?_) (fun b m => m) ?_
  ·have H2 := Hid.mk o
   have HL := Hid.mk hL
   clear o hL c H1 f
   unfold P6 at HL ⊢
   (repeat' simp -dsimp (disch := omega) only [↓EA, EB, Nat.reduceEqDiff, ↓reduceIte, eq_self, *])
   unfold P5 at HL ⊢
   (repeat' simp -dsimp (disch := omega) only [↓EA, EB, Nat.reduceEqDiff, ↓reduceIte, eq_self, *])
   refine ⟨fun b m z => ?_, ?_⟩
   ·subst z; rw [Bx (by simp <;> omega)]; rfl
   ·rw [Ae7 HL.out (by omega), List.take_of_length_le (by simp), H2.out]
    congr 3
    rw [show E5 l k + (p.2 - p.1) = E5 l k + p.2 - p.1 by omega]
  ·rintro v h' ⟨e, h3, ⟨rfl, rfl⟩, rfl, rfl⟩
   exact .inl ⟨rfl, c⟩
 ·rintro v h' (rfl | hf)
  ·refine ⟨_, by rw [Aq (by omega), Bk, ← hLr]; rfl, by simp, ?_, ?_⟩
   ·rintro b m (rfl | rfl)
    ·rw [Bx (by simp <;> omega)]; rfl
    ·omega
   ·have e : (((h ++ LObj.cells [.int .i64 0] false :: a) ++ [lo]).set h.length (.cells [.int .i64 (E5 l (Dz l).length)] false)).take (h ++ LObj.cells [.int .i64 0] false :: a).length = h ++ LObj.cells [.int .i64 (E5 l (Dz l).length)] false :: a := by
     rw [List.set_append_left _ _ (by omega), List.take_left' (by simp), Arc]; rfl
    rw [e]
    (repeat' simp -dsimp (disch := omega) only [↓EA, EB, ↓reduceIte, eq_self, *])
    simp [Am1]
  ·exact hf.elim
end Go.L.Try
namespace Go.L.Try
open Go Go.L
theorem span_ext {x y : Span} : x = y ↔ (x.job = y.job ∧ x.from' = y.from' ∧ x.to' = y.to') := by
 cases x; cases y; simp
instance : DecidableEq Span := fun x y => decidable_of_iff _ span_ext.symm
end Go.L.Try
set_option maxHeartbeats 1000000
namespace Go.L.Try
open Go Go.L
def st (l : List Af) (jobs : List Job) : Nat → RS
  | 0 => Dp jobs.length
  | n + 1 => Ep l jobs (st l jobs n)
def who (l : List Af) (jobs : List Job) (n : Nat) : Int := rsRuns l jobs (st l jobs n)
def dn (l : List Af) (jobs : List Job) (i n : Nat) : Int := atI (st l jobs n).done (i : Int)
variable {l : List Af} {jobs : List Job}
structure Aig (jobs : List Job) (s : RS) : Prop where
  dlen : s.done.length = jobs.length
  elen : s.ends.length = jobs.length
  runs : -1 ≤ s.runs ∧ s.runs < jobs.length
  done : ∀ i : Nat, i < jobs.length → 0 ≤ atI s.done (i : Int) ∧ atI s.done (i : Int) ≤ (jb jobs i).work
theorem Akv (S : Script l jobs) {s : RS} (hi : Aig jobs s) : -1 ≤ rsRuns l jobs s ∧ rsRuns l jobs s < jobs.length ∧ (0 ≤ rsRuns l jobs s → atI s.done (rsRuns l jobs s) < (atI jobs (rsRuns l jobs s)).work) := by
  unfold rsRuns
  split
  · have := N6 l jobs s.done s.t jobs.length
    exact ⟨this.1, this.2, fun h => (O6 h).2⟩
  · rename_i e
    have d : 0 ≤ s.runs := by omega
    have c : A7 (atI jobs s.runs).cuts 0 (atI s.done s.runs) = true := by simpa using fun h => e (.inr h)
    refine ⟨by omega, hi.runs.2, fun _ => ?_⟩
    obtain ⟨q, a⟩ := S.ok.cuts _ (Aj d hi.runs.2)
    have := Vn a c; omega
theorem Jv (S : Script l jobs) {s : RS} (hi : Aig jobs s) : (rsRuns l jobs s = -1 ∧ Ep l jobs s = { s with t := s.t + 1, runs := -1 }) ∨ ∃ r : Nat, r < jobs.length ∧ rsRuns l jobs s = r ∧ atI s.done (r : Int) < (jb jobs r).work ∧ Ep l jobs s = Jw jobs s r := by
  obtain ⟨f, h2, c⟩ := Akv S hi
  unfold Ep
  by_cases d : rsRuns l jobs s < 0
  · left
    have e : rsRuns l jobs s = -1 := by omega
    rw [if_pos d, e]; exact ⟨rfl, rfl⟩
  · right
    obtain ⟨r, a⟩ : ∃ r : Nat, rsRuns l jobs s = r := ⟨(rsRuns l jobs s).toNat, by omega⟩
    rw [if_neg d, a]
    rw [a] at h2 c
    exact ⟨r, by omega, rfl, c (by omega), rfl⟩
theorem Abx {s : RS} {r : Nat} (hr : r < s.done.length) (i : Nat) : atI (Jw jobs s r).done (i : Int) = if i = r then atI s.done (r : Int) + 1 else atI s.done (i : Int) := by
  show atI (s.done.set ((r : Int)).toNat (atI s.done (r : Int) + 1)) (i : Int) = _
  rw [Int.toNat_natCast]; exact Sv hr i
theorem Aom {s : RS} {r : Nat} (hr : r < s.ends.length) (i : Nat) : atI (Jw jobs s r).ends (i : Int) = if i = r ∧ atI s.done (r : Int) + 1 = (jb jobs r).work then s.t + 1 else atI s.ends (i : Int) := by
  show atI (if atI s.done (r : Int) + 1 = (atI jobs (r : Int)).work then s.ends.set ((r : Int)).toNat (s.t + 1) else s.ends) (i : Int) = _
  rw [Int.toNat_natCast]
  by_cases h : atI s.done (r : Int) + 1 = (jb jobs r).work
  · have h' : atI s.done (r : Int) + 1 = (atI jobs (r : Int)).work := h
    rw [if_pos h', Sv hr]
    by_cases e : i = r
    · rw [if_pos e, if_pos ⟨e, h⟩]
    · rw [if_neg e, if_neg fun h => e h.1]
  · have h' : ¬ atI s.done (r : Int) + 1 = (atI jobs (r : Int)).work := h
    rw [if_neg h', if_neg fun a => h a.2]
theorem Ait (S : Script l jobs) {s : RS} (hi : Aig jobs s) : Aig jobs (Ep l jobs s) := by
  rcases Jv S hi with ⟨_, h⟩ | ⟨r, c, h2, d, h⟩
  · rw [h]; exact ⟨hi.dlen, hi.elen, ⟨Int.le_refl _, by show (-1 : Int) < _; omega⟩, hi.done⟩
  · rw [h]
    refine ⟨by simp [Jw, hi.dlen], ?_, ⟨by show -1 ≤ (r : Int); omega, by show (r : Int) < _; omega⟩, fun i a => ?_⟩
    · simp only [Jw]; split
      · rw [List.length_set]; exact hi.elen
      · exact hi.elen
    · rw [Abx (by rw [hi.dlen]; exact c)]
      split
      · rename_i e; subst e; have := hi.done i a; omega
      · exact hi.done i a
theorem Ajb {n : Nat} {x : Int} (i : Nat) (hi : i < n) : atI (List.replicate n x) (i : Int) = x := by
  rw [Ax (by simpa using hi)]; simp
theorem Oy (S : Script l jobs) : ∀ n, Aig jobs (st l jobs n)
  | 0 => by
    refine ⟨by simp [st, Dp], by simp [st, Dp], ⟨by simp [st, Dp], by simp [st, Dp]; omega⟩, fun i a => ?_⟩
    show 0 ≤ atI (List.replicate jobs.length (0 : Int)) (i : Int) ∧ atI (List.replicate jobs.length (0 : Int)) (i : Int) ≤ _
    rw [Ajb i a]
    have := (S.ok.work _ (Ey a)).1
    omega
  | n + 1 => Ait S (Oy S n)
theorem Aot (S : Script l jobs) : ∀ n, (st l jobs n).t = n
  | 0 => rfl
  | n + 1 => by
    have c := Aot S n
    show (Ep l jobs (st l jobs n)).t = _
    rcases Jv S (Oy S n) with ⟨_, h⟩ | ⟨r, a, h2, d, h⟩
    · rw [h]; show (st l jobs n).t + 1 = _; omega
    · rw [h]; show (st l jobs n).t + 1 = _; omega
theorem M5 (S : Script l jobs) {i : Nat} (hi : i < jobs.length) (n : Nat) : dn l jobs i (n + 1) = dn l jobs i n + if who l jobs n = i then 1 else 0 := by
  show atI (Ep l jobs (st l jobs n)).done (i : Int) = atI (st l jobs n).done (i : Int) + if rsRuns l jobs (st l jobs n) = i then 1 else 0
  have a := Oy S n
  rcases Jv S a with ⟨d, h⟩ | ⟨r, c, h2, f, h⟩
  · rw [h, d, if_neg (by omega)]; show atI (st l jobs n).done (i : Int) = _; omega
  · rw [h, h2, Abx (by rw [a.dlen]; exact c)]
    by_cases e : i = r
    · rw [if_pos e, if_pos (by omega), e]
    · rw [if_neg e, if_neg (by omega)]; omega
theorem Aeb {i : Nat} (hi : i < jobs.length) : dn l jobs i 0 = 0 := Ajb i hi
theorem Ayf (S : Script l jobs) {i : Nat} (hi : i < jobs.length) (n : Nat) : 0 ≤ dn l jobs i n ∧ dn l jobs i n ≤ (jb jobs i).work := (Oy S n).done i hi
theorem Anj (S : Script l jobs) {i : Nat} (hi : i < jobs.length) {m n : Nat} (h : m ≤ n) : dn l jobs i m ≤ dn l jobs i n := by
  induction n with
  | zero => have : m = 0 := by omega
            subst this; exact Int.le_refl _
  | succ n ih =>
    by_cases e : m = n + 1
    · subst e; exact Int.le_refl _
    · have := ih (by omega)
      rw [M5 S hi n]
      split <;> omega
theorem Aym (S : Script l jobs) {n i : Nat} (h : who l jobs n = i) : i < jobs.length ∧ dn l jobs i n < (jb jobs i).work := by
  have a := Akv S (Oy S n)
  have h2 : rsRuns l jobs (st l jobs n) = i := h
  rw [h2] at a
  exact ⟨by omega, a.2.2 (by omega)⟩
structure A2z (l : List Af) (jobs : List Job) (i n σ : Nat) : Prop where
  lt : σ < n
  run : ∀ k, σ ≤ k → k < n → who l jobs k = i
  best : ∀ k, k < jobs.length → (jb jobs k).release ≤ σ → dn l jobs k σ < (jb jobs k).work → (atI l (jb jobs i).task).P ≤ (atI l (jb jobs k).task).P ∧ ((atI l (jb jobs i).task).P = (atI l (jb jobs k).task).P → i ≤ k)
  sec : ∃ pre c post, (jb jobs i).cuts = pre ++ c :: post ∧ Ju pre = dn l jobs i σ ∧ Ju pre + (n - σ : Nat) = dn l jobs i n ∧ dn l jobs i n < Ju pre + c
end Go.L.Try
namespace Go.L.Try
open Go Go.L
variable {l : List Af} {jobs : List Job}
theorem Sj (n : Nat) : st l jobs (n + 1) = Ep l jobs (st l jobs n) := rfl
structure EndAt (l : List Af) (jobs : List Job) (i e : Nat) : Prop where
 pos : 0 < e
 run : who l jobs (e - 1) = i
 fin : dn l jobs i (e - 1) + 1 = (jb jobs i).work
theorem EndAt.lt (S : Script l jobs) {i e : Nat} (h : EndAt l jobs i e) (hi : i < jobs.length) (n : Nat) : dn l jobs i n = (jb jobs i).work ↔ e ≤ n := by
 have c := M5 S hi (e - 1)
 rw [if_pos h.run, show e - 1 + 1 = e by have := h.pos; omega] at c
 have h2 := h.fin
 constructor
 ·intro a
  rcases Nat.lt_or_ge n e with h3 | h3
  ·have := Anj S hi (show n ≤ e - 1 by omega); omega
  ·exact h3
 ·intro a
  have := Anj S hi a
  have := (Ayf S hi n).2
  omega
theorem Anh (S : Script l jobs) {i : Nat} (hi : i < jobs.length) : ∀ n, (dn l jobs i n < (jb jobs i).work → atI (st l jobs n).ends (i : Int) = -1) ∧ (dn l jobs i n = (jb jobs i).work → ∃ e : Nat, atI (st l jobs n).ends (i : Int) = e ∧ e ≤ n ∧ EndAt l jobs i e)
 | 0 => by
  have g := (S.ok.work _ (Ey hi)).1
  rw [Aeb hi]
  exact ⟨fun _ => Ajb i hi, fun h => by omega⟩
 | n + 1 => by
  obtain ⟨m, h2⟩ := Anh S hi n
  have p := Oy S n
  have f := M5 S hi n
  rcases Jv S p with ⟨v, h⟩ | ⟨r, u, j, t, h⟩
  ·have g : who l jobs n = -1 := v
   rw [g, if_neg (by omega)] at f
   rw [Sj, h]
   rw [Int.add_zero] at f
   rw [f]
   exact ⟨m, fun d => by obtain ⟨e, a, b, c⟩ := h2 d; exact ⟨e, a, by omega, c⟩⟩
  ·have g : who l jobs n = r := j
   rw [Sj, h, Aom (by rw [p.elen]; exact u)]
   by_cases e : i = r
   ·subst e
    rw [g, if_pos rfl] at f
    have s : atI (st l jobs n).done (i : Int) = dn l jobs i n := rfl
    by_cases o : atI (st l jobs n).done (i : Int) + 1 = (jb jobs i).work
    ·rw [if_pos ⟨rfl, o⟩]
     refine ⟨fun d => by omega, fun _ => ⟨n + 1, by rw [Aot S]; omega, Nat.le_refl _, by omega, by rw [Nat.add_sub_cancel]; exact g, by rw [Nat.add_sub_cancel]; omega⟩⟩
    ·rw [if_neg (fun d => o d.2)]
     exact ⟨fun _ => m (by omega), fun d => by omega⟩
   ·rw [if_neg (fun d => e d.1)]
    rw [g, if_neg (by omega), Int.add_zero] at f
    rw [f]
    exact ⟨m, fun d => by obtain ⟨x, a, b, c⟩ := h2 d; exact ⟨x, a, by omega, c⟩⟩
theorem Axj (S : Script l jobs) {e : Int} (he : e < 0) : ∃ T, Bb l jobs e (Dp jobs.length) = st l jobs T ∧ ∀ i, i < jobs.length → dn l jobs i T = (jb jobs i).work := by
 obtain ⟨h1, ⟨T, h2⟩, h3⟩ := Ow (e := e) S.ok (fun s => ∃ n, s = st l jobs n) (fun s _ _ ⟨n, c⟩ => ⟨n + 1, by rw [c]; rfl⟩) (Jx jobs S.ok.work) ⟨0, rfl⟩
 refine ⟨T, h2, fun i a => ?_⟩
 have d : ¬ 0 < (Bb l jobs e (Dp jobs.length)).left := fun h => h3 ⟨h, .inl he⟩
 have f := (Ayf S a T).2
 rcases Int.lt_or_le (dn l jobs i T) (jb jobs i).work with h4 | h4
 ·exfalso
  apply d
  refine Uu h1 a ?_
  rw [h2]; exact h4
 ·omega
theorem Aqs (S : Script l jobs) {e : Int} : ∃ T, Bb l jobs e (Dp jobs.length) = st l jobs T ∧ (¬ Kh e (st l jobs T)) ∧ (0 ≤ e → (T : Int) ≤ e) := by
 obtain ⟨h1, ⟨T, h2, c⟩, h3⟩ := Ow (e := e) S.ok (fun s => ∃ n, s = st l jobs n ∧ (0 ≤ e → (n : Int) ≤ e)) (fun s _ ho ⟨n, a, d⟩ => ⟨n + 1, by rw [a]; rfl, fun f => by have := ho.2; rw [a, Aot S] at this; omega⟩) (Jx jobs S.ok.work) ⟨0, rfl, fun h => h⟩
 exact ⟨T, h2, by rw [← h2]; exact h3, c⟩
def Yv (L : List Span) (k : Int) : Int := L.foldr (fun x a => (if x.job = k then x.to' - x.from' else 0) + a) 0
theorem Vs (k : Int) : Yv [] k = 0 := rfl
theorem Ly (x : Span) (L : List Span) (k : Int) : Yv (x :: L) k = (if x.job = k then x.to' - x.from' else 0) + Yv L k := rfl
theorem Vt (A B : List Span) (k : Int) : Yv (A ++ B) k = Yv A k + Yv B k := by
 induction A with
 | nil => simp [Vs]
 | cons x r ih => rw [List.cons_append, Ly, Ly, ih]; omega
theorem Apl {α : Type} [Inhabited α] {L : List α} (h : 0 < (L.length : Int)) : ∃ A x, L = A ++ [x] ∧ atI L ((L.length : Int) - 1) = x ∧ ∀ y, L.set ((L.length : Int) - 1).toNat y = A ++ [y] := by
 rcases List.eq_nil_or_concat L with e | ⟨A, x, e⟩
 ·rw [e] at h; simp at h
 ·rw [List.concat_eq_append] at e
  subst e
  refine ⟨A, x, rfl, Aa0 A x, fun y => ?_⟩
  rw [LA, List.length_singleton, show (((A.length + 1 : Nat) : Int) - 1).toNat = A.length by omega, List.set_append_right _ _ (Nat.le_refl _), Nat.sub_self]; rfl
theorem Tc (L : List Span) (r t : Int) : (∃ A x, L = A ++ [x] ∧ x.job = r ∧ x.to' = t ∧ Ct L r t = A ++ [{ x with to' := x.to' + 1 }]) ∨ ((∀ A x, L = A ++ [x] → ¬ (x.job = r ∧ x.to' = t)) ∧ Ct L r t = L ++ [⟨r, t, t + 1⟩]) := by
 unfold Ct
 by_cases a : 0 < (L.length : Int) ∧ (atI L ((L.length : Int) - 1)).job = r ∧ (atI L ((L.length : Int) - 1)).to' = t
 ·left
  rw [if_pos a]
  obtain ⟨A, x, c, h2, d⟩ := Apl a.1
  rw [h2] at a ⊢
  exact ⟨A, x, c, a.2.1, a.2.2, d _⟩
 ·right
  rw [if_neg a]
  refine ⟨fun A x h => ?_, rfl⟩
  rintro ⟨c, h2⟩
  apply a
  subst h
  rw [Aa0]
  exact ⟨by simp, c, h2⟩
structure A2a (l : List Af) (jobs : List Job) (n : Nat) (L : List Span) : Prop where
 run : ∀ x ∈ L, ∃ j a b : Nat, x = ⟨j, a, b⟩ ∧ a < b ∧ b ≤ n ∧ ∀ k, a ≤ k → k < b → who l jobs k = j
 sort : L.Pairwise fun x y => x.to' ≤ y.from'
 apart : L.Pairwise fun x y => x.to' = y.from' → x.job ≠ y.job
 all : ∀ k : Nat, k < n → 0 ≤ who l jobs k → ∃ x ∈ L, x.from' ≤ k ∧ (k : Int) < x.to'
 sum : ∀ k : Nat, k < jobs.length → Yv L k = dn l jobs k n
theorem Ae0 (S : Script l jobs) : ∀ n, A2a l jobs n (st l jobs n).L
 | 0 => ⟨(fun x v => by cases v), List.Pairwise.nil, List.Pairwise.nil, (fun k d => by omega), fun k d => by rw [Aeb d]; rfl⟩
 | n + 1 => by
  have c := Ae0 S n
  have hv := Oy S n
  rcases Jv S hv with ⟨h0, h⟩ | ⟨r, hr, a3, a6, h⟩
  ·have s : who l jobs n = -1 := h0
   rw [Sj, h]
   refine ⟨fun x v => ?_, c.sort, c.apart, fun k d f => ?_, fun k d => ?_⟩
   ·obtain ⟨j, a, b, e, u, h2, p⟩ := c.run x v
    exact ⟨j, a, b, e, u, by omega, p⟩
   ·by_cases e : k = n
    ·subst e; omega
    ·exact c.all k (by omega) f
   ·rw [M5 S d, s, if_neg (by omega), Int.add_zero]; exact c.sum k d
  ·have s : who l jobs n = r := a3
   rw [Sj, h]
   have eL : (Jw jobs (st l jobs n) r).L = Ct (st l jobs n).L r n := by show Ct _ _ (st l jobs n).t = _; rw [Aot S]
   rw [eL]
   generalize (st l jobs n).L = L at c ⊢
   have a0 : ∀ x ∈ L, x.to' ≤ n := fun x v => by
    obtain ⟨j, a, b, e, u, h2, p⟩ := c.run x v
    rw [e]; dsimp only; omega
   rcases Tc L r n with ⟨A, x, hL, a4, a5, he⟩ | ⟨a2, he⟩
   ·rw [he]
    subst hL
    obtain ⟨j, a, b, e, u, h2, p⟩ := c.run x (by simp)
    subst e
    dsimp only at a4 a5
    have hb : b = n := by omega
    subst hb
    have hj : j = r := by omega
    subst hj
    have hs := List.pairwise_append.1 c.sort
    have hp := List.pairwise_append.1 c.apart
    refine ⟨fun y hy => ?_, ?_, ?_, fun k d f => ?_, fun k d => ?_⟩
    ·rcases List.mem_append.1 hy with hy | hy
     ·obtain ⟨j', a', b', e', m, a1, g⟩ := c.run y (by simp [hy])
      exact ⟨j', a', b', e', m, by omega, g⟩
     ·rw [List.mem_singleton.1 hy]
      refine ⟨j, a, b + 1, by simp, by omega, Nat.le_refl _, fun k k1 k2 => ?_⟩
      by_cases e : k = b
      ·rw [e]; exact s
      ·exact p k k1 (by omega)
    ·refine List.pairwise_append.2 ⟨hs.1, List.pairwise_singleton _ _, fun y hy z o => ?_⟩
     rw [List.mem_singleton.1 o]
     exact hs.2.2 y hy ⟨j, a, b⟩ (List.mem_singleton.2 rfl)
    ·refine List.pairwise_append.2 ⟨hp.1, List.pairwise_singleton _ _, fun y hy z o => ?_⟩
     rw [List.mem_singleton.1 o]
     exact hp.2.2 y hy ⟨j, a, b⟩ (List.mem_singleton.2 rfl)
    ·by_cases e : k = b
     ·subst e
      exact ⟨_, List.mem_append_right _ (List.mem_singleton.2 rfl), by dsimp only; omega, by dsimp only; omega⟩
     ·obtain ⟨y, hy, q1, q2⟩ := c.all k (by omega) f
      rcases List.mem_append.1 hy with hy | hy
      ·exact ⟨y, List.mem_append_left _ hy, q1, q2⟩
      ·rw [List.mem_singleton.1 hy] at q1 q2
       exact ⟨_, List.mem_append_right _ (List.mem_singleton.2 rfl), q1, by dsimp only at q2 ⊢; omega⟩
    ·rw [M5 S d, ← c.sum k d, Vt, Vt, Ly, Ly, Vs, s]
     dsimp only
     by_cases e : (j : Int) = k
     ·rw [if_pos e, if_pos e, if_pos (by omega)]; omega
     ·rw [if_neg e, if_neg e, if_neg (by omega)]; omega
   ·rw [he]
    refine ⟨fun y hy => ?_, ?_, ?_, fun k d f => ?_, fun k d => ?_⟩
    ·rcases List.mem_append.1 hy with hy | hy
     ·obtain ⟨j', a', b', e', m, a1, g⟩ := c.run y hy
      exact ⟨j', a', b', e', m, by omega, g⟩
     ·rw [List.mem_singleton.1 hy]
      exact ⟨r, n, n + 1, by simp, by omega, Nat.le_refl _, fun k k1 k2 => by rw [show k = n by omega]; exact s⟩
    ·refine List.pairwise_append.2 ⟨c.sort, List.pairwise_singleton _ _, fun y hy z o => ?_⟩
     rw [List.mem_singleton.1 o]
     exact a0 y hy
    ·refine List.pairwise_append.2 ⟨c.apart, List.pairwise_singleton _ _, fun y hy z o => ?_⟩
     rw [List.mem_singleton.1 o]
     dsimp only
     intro u h2
     rcases List.eq_nil_or_concat L with e | ⟨A, x, e⟩
     ·rw [e] at hy; cases hy
     ·rw [List.concat_eq_append] at e
      have hs := c.sort
      rw [e] at hy hs
      rcases List.mem_append.1 hy with hy | hy
      ·have p := (List.pairwise_append.1 hs).2.2 y hy x (List.mem_singleton.2 rfl)
       obtain ⟨j', a', b', e', m, a1, g⟩ := c.run x (by rw [e]; simp)
       have h4 := a0 x (by rw [e]; simp)
       rw [e'] at p h4
       dsimp only at p h4
       omega
      ·rw [List.mem_singleton.1 hy] at u h2
       exact a2 A x e ⟨h2, u⟩
    ·by_cases e : k = n
     ·subst e
      exact ⟨_, List.mem_append_right _ (List.mem_singleton.2 rfl), by dsimp only; omega, by dsimp only; omega⟩
     ·obtain ⟨y, hy, q1, q2⟩ := c.all k (by omega) f
      exact ⟨y, List.mem_append_left _ hy, q1, q2⟩
    ·rw [M5 S d, ← c.sum k d, Vt, Ly, Vs, s]
     dsimp only
     by_cases e : (r : Int) = k
     ·rw [if_pos e, if_pos e]; omega
     ·rw [if_neg e, if_neg e]; omega
structure Aoi (l : List Af) (jobs : List Job) (R : RS) (T : Nat) : Prop where
 is : R = st l jobs T
 done : ∀ i, i < jobs.length → dn l jobs i T = (jb jobs i).work
 sp : A2a l jobs T R.L
 elen : R.ends.length = jobs.length
 ends : ∀ i, i < jobs.length → ∃ e : Nat, atI R.ends (i : Int) = e ∧ e ≤ T ∧ EndAt l jobs i e
theorem Ay1 (S : Script l jobs) {e : Int} (he : e < 0) : ∃ T, Aoi l jobs (Bb l jobs e (Dp jobs.length)) T := by
 obtain ⟨T, c, h2⟩ := Axj S he
 rw [c]
 exact ⟨T, rfl, h2, Ae0 S T, (Oy S T).elen, fun i a => (Anh S a T).2 (h2 i a)⟩
end Go.L.Try
namespace Go.L.Try
open Go Go.L
variable {l : List Af} {jobs : List Job} {R : RS} {T : Nat}
end Go.L.Try
namespace Go.L.Try
open Go Go.L
variable {l l' : List Af} {jobs jobs' : List Job}
theorem A0q (S : Script l jobs) (n : Nat) : (st l jobs (n + 1)).L = if who l jobs n < 0 then (st l jobs n).L else Ct (st l jobs n).L (who l jobs n) n := by
 rcases Jv S (Oy S n) with ⟨e, h⟩ | ⟨r, f, a, d, h⟩
 ·have c : who l jobs n = -1 := e
  rw [Sj, h, c, if_pos (by decide)]
 ·have c : who l jobs n = r := a
  rw [Sj, h, c, if_neg (by omega)]
  show Ct _ _ (st l jobs n).t = _
  rw [Aot S]
def Atr (k : Int) (j : Job) : Job := { j with arrive := j.arrive + k, release := j.release + k }
def Azn (k : Int) (x : Span) : Span := ⟨x.job, x.from' + k, x.to' + k⟩
structure A2l (l : List Af) (jobs : List Job) (k n : Nat) : Prop where
 dn : ∀ i, i < jobs.length → Try.dn l (jobs.map (Atr k)) i (n + k) = Try.dn l jobs i n
 L : (st l (jobs.map (Atr k)) (n + k)).L = ((st l jobs n).L).map (Azn k)
end Go.L.Try
namespace Go.L.Try
open Go Go.L
variable {l l' : List Af} {jobs jobs' : List Job}
def Vr (f : Nat → Int) : Nat → Int
 | 0 => 0
 | n + 1 => Vr f n + f n
theorem Add {f g : Nat → Int} : ∀ {m : Nat}, (∀ i, i < m → f i = g i) → Vr f m = Vr g m
 | 0, _ => rfl
 | m + 1, h => by
  show Vr f m + f m = Vr g m + g m
  rw [Add (m := m) fun i a => h i (by omega), h m (by omega)]
theorem Aex {f g : Nat → Int} {r : Nat} : ∀ {m : Nat}, r < m → (∀ i, i < m → g i = f i + if i = r then 1 else 0) → Vr g m = Vr f m + 1
 | 0, h, _ => by omega
 | m + 1, h, he => by
  show Vr g m + g m = Vr f m + f m + 1
  have a := he m (by omega)
  by_cases e : m = r
  ·subst e
   rw [if_pos rfl] at a
   rw [Add (f := g) (g := f) fun i c => by have := he i (by omega); rw [if_neg (by omega)] at this; omega]
   omega
  ·rw [if_neg e] at a
   rw [Aex (m := m) (by omega) fun i c => he i (by omega)]; omega
def Xb (l : List Af) (jobs : List Job) (n : Nat) : Int := Vr (fun i => dn l jobs i n) jobs.length
def A2w (jobs : List Job) : Int := Vr (fun i => (jb jobs i).work) jobs.length
theorem Aai (S : Script l jobs) (n : Nat) : Xb l jobs (n + 1) = Xb l jobs n + if who l jobs n < 0 then 0 else 1 := by
 unfold Xb
 by_cases h : who l jobs n < 0
 ·rw [if_pos h, Int.add_zero]
  exact Add fun i a => by rw [M5 S a, if_neg (by omega), Int.add_zero]
 ·rw [if_neg h]
  obtain ⟨r, c⟩ : ∃ r : Nat, who l jobs n = r := ⟨(who l jobs n).toNat, by omega⟩
  refine Aex (r := r) (Aym S c).1 fun i a => ?_
  rw [M5 S a, c]
  by_cases e : i = r
  ·rw [if_pos e, if_pos (by omega)]
  ·rw [if_neg e, if_neg (by omega)]
theorem Aah : Xb l jobs 0 = 0 := by
 unfold Xb
 have a : ∀ m, m ≤ jobs.length → Vr (fun i => dn l jobs i 0) m = 0 := by
  intro m
  induction m with
  | zero => intro _; rfl
  | succ m ih =>
   intro c
   show Vr (fun i => dn l jobs i 0) m + dn l jobs m 0 = 0
   rw [ih (by omega), Aeb (by omega)]; rfl
 exact a _ (Nat.le_refl _)
variable {R R' : RS} {T T' : Nat}
end Go.L.Try
namespace Go.L.Try
open Go Go.L
theorem Adm {l : List Af} {jobs : List Job} (hb : legalB l jobs = true) (hs : B9 jobs ≤ 1099511627776) : runU l jobs 9223372036854775807 = Bb l jobs (-1) (Dp jobs.length) := by
 unfold runU
 rw [if_pos hb, Aet (Ut hb).1 hs (Jx jobs (Ut hb).1.work)]
 rfl
theorem Av6 {l : List Af} {jobs : List Job} (hb : legalB l jobs = true) (hs : B9 jobs ≤ 1099511627776) : ∃ T, Aoi l jobs (runU l jobs 9223372036854775807) T := by
 rw [Adm hb hs]; exact Ay1 (Sk hb) (by decide)
theorem Av8 {l : List Af} {jobs : List Job} (hb : legalB l jobs = true) (hs : B9 jobs ≤ 1099511627776) {T : Nat} (r : Aoi l jobs (runU l jobs 9223372036854775807) T) : (T : Int) ≤ 1117105961155840 := by
 have S := Sk hb
 have a := (Ow (e := -1) S.ok (fun _ => True) (fun _ _ _ _ => trivial) (Jx jobs S.ok.work) trivial).1
 rw [← Adm hb hs, r.is] at a
 have h2 := a.t1
 have c := a.sum
 rw [Aot S] at h2
 unfold Dg at h2
 omega
theorem RdJ.open_ {h : Aa} {v : Value} {jobs : List Job} (r : RdJ h v jobs) : ∃ jl : List (NV Job), jobs = jl.map NV.j ∧ Rd 5 (Ci hdJ) h v jl := by
 obtain ⟨jl, a, h2, _⟩ := r.is
 exact ⟨jl, a.symm, h2⟩
end Go.L.Try
namespace Go.L.Try
open Go Go.L
variable {l : List Af} {jobs : List Job} {R R' : RS} {T T' : Nat}
theorem Aiu (S : Script l jobs) {n : Nat} (hn : (n : Int) ≤ 18693845155840) : Sx (st l jobs n).L := fun x hx => by
 obtain ⟨j, a, b, e, h1, h2, _⟩ := (Ae0 S n).run x hx
 rw [e]
 dsimp only
 omega
structure A20 (l : List Af) (jobs : List Job) (e : Int) (R : RS) : Prop where
 ok : Sx R.L
 elen : R.ends.length = jobs.length
 ends : Ayd jobs R.L jobs.length = R.ends
 cut : ∀ {A : RS} {T : Nat}, Aoi l jobs A T → ∀ i : Nat, i < jobs.length → (atI A.ends (i : Int) ≤ e → atI R.ends (i : Int) = atI A.ends (i : Int)) ∧ (e < atI A.ends (i : Int) → atI R.ends (i : Int) = -1)
end Go.L.Try
namespace Go.L.Try
open Go Go.L
variable {l : List Af} {jobs : List Job} {R : RS} {T : Nat}
def sumL : List Span → Int
 | [] => 0
 | x :: r => x.to' - x.from' + sumL r
theorem N2 : ∀ A B : List Span, sumL (A ++ B) = sumL A + sumL B
 | [], B => by simp [sumL]
 | x :: r, B => by rw [List.cons_append, sumL, sumL, N2 r B]; omega
theorem Aoq (L : List Span) (r t : Int) : sumL (Ct L r t) = sumL L + 1 := by
 rcases Tc L r t with ⟨A, x, c, _, _, a⟩ | ⟨_, a⟩
 ·rw [a, c, N2, N2]; simp only [sumL]; omega
 ·rw [a, N2]; simp only [sumL]; omega
theorem Adc (S : Script l jobs) : ∀ n, sumL (st l jobs n).L = Xb l jobs n
 | 0 => by rw [Aah]; rfl
 | n + 1 => by
  rw [A0q S, Aai S]
  split
  ·rw [Adc S n]; omega
  ·rw [Aoq, Adc S n]
def Yt : List (Int × Int) → Int
 | [] => 0
 | p :: r => p.2 - p.1 + Yt r
def A06 (B : List (Int × Int)) : Nat → Int
 | 0 => -1
 | k + 1 => (B.getD k (0, 0)).2
def Axm (B : List (Int × Int)) : Nat → Int
 | 0 => 0
 | k + 1 => Axm B k + ((B.getD k (0, 0)).2 - (B.getD k (0, 0)).1)
structure A2y (jobs : List Job) (B : List (Int × Int)) : Prop where
 row : ∀ {k : Nat} {p : Int × Int}, B[k]? = some p → A06 B k < p.1 ∧ p.1 < p.2 ∧ ∃ j : Nat, j < jobs.length ∧ (jb jobs j).release = p.1
 sum : Axm B B.length = A2w jobs
end Go.L.Try
