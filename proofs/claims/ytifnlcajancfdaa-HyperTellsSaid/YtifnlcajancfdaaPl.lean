/- NUMBERS, AND TICKS, OF A PERIOD: num.Gcd, num.Lcm, load.Period, hyper.ticks. -/
import Derived.Test.YtifnlcajancfdaaPh
import Derived.Test.YtifnlcajancfdaaPc
import Derived.Test.YtifnlcajancfdaaVc
import Derived.Test.YtifnlcajancfdaaPd
set_option linter.unusedVariables false
set_option linter.unusedSimpArgs false
set_option maxRecDepth 100000
set_option maxHeartbeats 2000000
namespace Go.L.Try
open Go Go.L
variable {E : Env}
theorem Azd (hE : Ap E) (h : Aa) {a b : Int} (ha : Bz a) (hb : Bz b) :
  callW E (.func (.func Oa) #[] #[]) [.int .u64 a, .int .u64 b] h = some (.int .u64 (gcdI a b), h, []) := by
 refine Ai hE.Awk rfl (by simp) ?_
 simp only [Ah]
 unfold Bz at ha hb
 (repeat' simp -dsimp (disch := omega) only [↓EA, EB, Nat.reduceEqDiff, ↓reduceIte, reduceCtorEq, eq_self, *])
 refine WO.loop (α := Int × Int) (fun s fr h' => h' = h ∧ get fr 0 = .int .u64 s.1 ∧ get fr 1 = .int .u64 s.2 ∧ 0 ≤ s.1 ∧ 0 ≤ s.2 ∧ gcdI s.1 s.2 = gcdI a b) (fun s => s.2.toNat) ?_ (a, b) ⟨rfl, rfl, rfl, ha.1, hb.1, rfl⟩
 rintro ⟨x, y⟩ fr h' ⟨rfl, g, j, c, e, d⟩
 dsimp only at g j c e d
 unfold Vf
 have Hg := Hid.mk d
 clear d
 have l : x.tmod y = x % y := Int.tmod_eq_emod_of_nonneg c
 (repeat' (first | (with_reducible refine A3 (fun _ => ?_) (fun _ => ?_) <;> try (exfalso; omega)) | simp -dsimp (disch := omega) only [↓EA, EB, Nat.reduceEqDiff, ↓reduceIte, reduceCtorEq, eq_self, *]))
 ·rw [← Hg.out]
  have : y = 0 := by omega
  rw [this, Aaa _ c]
 ·have f := Int.emod_nonneg x (show y ≠ 0 by omega)
  have h2 := Int.emod_lt_of_pos x (show 0 < y by omega)
  exact Next.mk (y, x % y) ⟨rfl, rfl, rfl, e, f, by rw [← Hg.out]; exact Ahg x y c (by omega)⟩ (by simp only []; omega)
theorem Azc (hE : Ap E) (h : Aa) {a b : Int} (ha : Bz a) (hb : Bz b) (ha0 : 0 < a) (hb0 : 0 < b) :
  callW E (.func (.func N9) #[] #[]) [.int .u64 a, .int .u64 b] h = some (if lcmI a b < 18446744073709551616 then .tuple #[.int .u64 (lcmI a b), .bool true] else .tuple #[.int .u64 0, .bool false], h, []) := by
 have l := Am9 a b ha0 hb.1
 have n := Azd hE h ha hb
 have j : 0 ≤ a / gcdI a b := Int.ediv_nonneg ha.1 (by omega)
 have h2 : a / gcdI a b ≤ a := Int.ediv_le_self _ ha.1
 have e := Azb hE h (a := a / gcdI a b) (b := b) ⟨j, by have := ha.2; omega⟩ hb
 rw [Am3 a b ha0 hb0] at e
 have m : a.tdiv (gcdI a b) = a / gcdI a b := Int.tdiv_eq_ediv_of_nonneg ha.1
 unfold Bz at ha hb
 refine Ai hE.Awj rfl (by simp) ?_
 simp only [Ah]
 generalize lcmI a b = c at *
 generalize a / gcdI a b = d at *
 generalize gcdI a b = g at *
 by_cases f : c < 18446744073709551616
 ·rw [if_pos f] at e ⊢
  (repeat' (first | (with_reducible refine A2 (fun _ => ?_) (fun _ => ?_) <;> try (exfalso; omega)) | (with_reducible refine A3 (fun _ => ?_) (fun _ => ?_) <;> try (exfalso; omega)) | simp -dsimp (disch := omega) only [↓EA, EB, Nat.reduceEqDiff, ↓reduceIte, reduceCtorEq, eq_self, *]))
 ·rw [if_neg f] at e ⊢
  (repeat' (first | (with_reducible refine A2 (fun _ => ?_) (fun _ => ?_) <;> try (exfalso; omega)) | (with_reducible refine A3 (fun _ => ?_) (fun _ => ?_) <;> try (exfalso; omega)) | simp -dsimp (disch := omega) only [↓EA, EB, Nat.reduceEqDiff, ↓reduceIte, reduceCtorEq, eq_self, *]))
def Ar1 (o : Option Int) : Value := match o with
 | some p => .tuple #[.int .u64 p, .bool true]
 | none => .tuple #[.int .u64 0, .bool false]
theorem Anb {l : List Af} {n : Nat} (h : n < l.length) (p : Int) : Dv (l.drop n) p = if lcmI p (atI l (n : Int)).T < 18446744073709551616 then Dv (l.drop (n + 1)) (lcmI p (atI l (n : Int)).T) else none := by
 rw [List.drop_eq_getElem_cons h, Dv, Ax h]
theorem Ajr (hE : Ap E) {h : Aa} {vl : Value} {l : List Af} (hl : Rd 7 Az h vl l) (hT : ∀ t ∈ l, t.T ≤ 4611686018427387904) :
  callW E (.func (.func H9) #[] #[]) [vl] h = some (Ar1 (Bo l), h, []) := by
 refine Ai hE.Ag2 rfl (by simp) ?_
 simp only [Ah]
 have few := hl.few
 (repeat' simp -dsimp (disch := omega) only [↓EA, EB, Nat.reduceEqDiff, ↓reduceIte, reduceCtorEq, eq_self, *, hl.len])
 refine WO.loop (fun n fr h' => Pre h h' ∧ n ≤ l.length ∧ get fr 0 = vl ∧ get fr 4 = .int .u64 1 ∧ get fr 5 = .bool ((l.take n).all fun t => decide (1 ≤ t.T)) ∧ get fr 10 = vl ∧ get fr 11 = .int .i64 l.length ∧ get fr 12 = .int .i64 n) (fun n => l.length - n) ?_ 0 ⟨Pre.refl _, Nat.zero_le _, rfl, rfl, rfl, rfl, rfl, rfl⟩
 rintro n fr h' ⟨g, hn, g0, g4, g5, a7, a9, a8⟩
 have d := hl.pre g
 unfold On
 rcases Nat.lt_or_ge n l.length with hlt | hge
 ·have e : (l.take (n + 1)).all (fun t => decide (1 ≤ t.T)) = ((l.take n).all (fun t => decide (1 ≤ t.T)) && decide (1 ≤ (atI l (n : Int)).T)) := by
   rw [take_snoc hlt, List.all_append]; simp
  have He := Hid.mk e
  clear e
  generalize (l.take n).all (fun t => decide (1 ≤ t.T)) = b at *
  cases b
  ·(repeat' (first | (with_reducible refine A3 (fun _ => ?_) (fun _ => ?_) <;> try (exfalso; omega)) | simp -dsimp (disch := omega) only [↓EA, EB, Nat.reduceEqDiff, Nat.reduceAdd, ↓reduceIte, reduceCtorEq, Ab, eq_self, *, d.ixs, d.lda, Az, g.le]))
   exact Next.mk (n + 1) ⟨g.app' _, by omega, rfl, rfl, by rw [He.out]; rfl, rfl, rfl, rfl⟩ (by omega)
  ·(repeat' (first | (with_reducible refine A3 (fun _ => ?_) (fun _ => ?_) <;> try (exfalso; omega)) | simp -dsimp (disch := omega) only [↓EA, EB, Nat.reduceEqDiff, Nat.reduceAdd, ↓reduceIte, reduceCtorEq, Ab, eq_self, *, d.ixs, d.lda, Az, g.le]))
   all_goals exact Next.mk (n + 1) ⟨g.app' _, by omega, rfl, rfl, by rw [He.out, Bool.true_and]; rfl, rfl, rfl, rfl⟩ (by omega)
 ·have e : l.take n = l := List.take_of_length_le (by omega)
  rw [e] at g5
  have v : ∀ b, (l.all fun t => decide (1 ≤ t.T)) = b → (b = true → Bo l = Dv l 1) ∧ (b = false → Bo l = none) := fun b hb => by
   unfold Bo; rw [hb]; cases b <;> simp
  have x : (l.all fun t => decide (1 ≤ t.T)) = true → ∀ t ∈ l, 1 ≤ t.T := fun h t ht => by have := List.all_eq_true.1 h t ht; simpa using this
  generalize (l.all fun t => decide (1 ≤ t.T)) = b at *
  obtain ⟨a3, a1⟩ := v b rfl
  have aa := Hid.mk a3
  have a5 := Hid.mk a1
  have z := Hid.mk x
  have HT := Hid.mk hT
  clear a3 a1 v e x hT
  (repeat' (first | (with_reducible refine A3 (fun _ => ?_) (fun _ => ?_) <;> try (exfalso; omega)) | simp -dsimp (disch := omega) only [↓EA, EB, Nat.reduceEqDiff, ↓reduceIte, reduceCtorEq, eq_self, *, d.len]))
  refine WO.loop (fun n fr h' => Pre h h' ∧ n ≤ l.length ∧ get fr 23 = vl ∧ get fr 24 = .int .i64 l.length ∧ get fr 25 = .int .i64 n ∧ ∃ p y, get fr 4 = .int .u64 p ∧ get fr 5 = .bool y ∧ Bz p ∧ (y = true → 0 < p ∧ b = true ∧ Bo l = Dv (l.drop n) p) ∧ (y = false → Bo l = none)) (fun n => l.length - n) ?_ 0 ⟨g, Nat.zero_le _, rfl, rfl, rfl, 1, b, rfl, rfl, by unfold Bz; omega, fun e => ⟨by decide, e, aa.out e⟩, a5.out⟩
  clear g d hge hn g0 g4 g5 a7 a9 a8
  rintro n fr h' ⟨g, hn, ae, af, ad, p, y, g4, g5, a4, r, o⟩
  have d := hl.pre g
  unfold Om
  have m := Hid.mk r
  have s := Hid.mk o
  clear r o
  rcases Nat.lt_or_ge n l.length with hlt | hge
  ·cases y
   ·(repeat' (first | (with_reducible refine A3 (fun _ => ?_) (fun _ => ?_) <;> try (exfalso; omega)) | simp -dsimp (disch := omega) only [↓EA, EB, Nat.reduceEqDiff, Nat.reduceAdd, ↓reduceIte, Ab, eq_self, *, d.ixs, d.lda, Az, g.le]))
    exact Next.mk (n + 1) ⟨g.app' _, by omega, rfl, rfl, rfl, p, false, rfl, rfl, a4, (fun e => nomatch e), fun _ => s.out rfl⟩ (by omega)
   ·obtain ⟨a0, a2, j⟩ := m.out rfl
    have ab := z.out a2 _ (Aj (l := l) (i := (n : Int)) (by omega) (by omega))
    have ac := HT.out _ (Aj (l := l) (i := (n : Int)) (by omega) (by omega))
    have hq := fun h => Azc hE h (a := p) (b := (atI l (n : Int)).T) a4 ⟨by omega, by omega⟩ a0 (by omega)
    have a6 := lcm_pos p (atI l (n : Int)).T a0 (by omega)
    rw [Anb hlt] at j
    have u := Hid.mk j
    clear j
    generalize hc : lcmI p (atI l (n : Int)).T = c at *
    have Hc := Hid.mk hc
    clear hc
    by_cases f : c < 18446744073709551616
    ·simp only [if_pos f] at hq
     (repeat' (first | (with_reducible refine A3 (fun _ => ?_) (fun _ => ?_) <;> try (exfalso; omega)) | simp -dsimp (disch := omega) only [↓EA, EB, Nat.reduceEqDiff, Nat.reduceAdd, ↓reduceIte, Ab, eq_self, *, d.ixs, d.lda, Az, g.le]))
     refine Next.mk (n + 1) ⟨g.app' _, by omega, rfl, rfl, rfl, c, true, rfl, rfl, ⟨by omega, f⟩, fun _ => ⟨a6, a2, ?_⟩, (fun e => nomatch e)⟩ (by omega)
     rw [u.out, if_pos f]
    ·simp only [if_neg f] at hq
     (repeat' (first | (with_reducible refine A3 (fun _ => ?_) (fun _ => ?_) <;> try (exfalso; omega)) | simp -dsimp (disch := omega) only [↓EA, EB, Nat.reduceEqDiff, Nat.reduceAdd, ↓reduceIte, Ab, eq_self, *, d.ixs, d.lda, Az, g.le]))
     refine Next.mk (n + 1) ⟨g.app' _, by omega, rfl, rfl, rfl, 0, false, rfl, rfl, by unfold Bz; omega, (fun e => nomatch e), fun _ => ?_⟩ (by omega)
     rw [u.out, if_neg f]
  ·have e : n = l.length := by omega
   subst e
   rw [List.drop_length] at m
   cases y
   ·rw [s.out rfl, show Ar1 none = .tuple #[.int .u64 0, .bool false] from rfl]
    (repeat' (first | (with_reducible refine A3 (fun _ => ?_) (fun _ => ?_) <;> try (exfalso; omega)) | simp -dsimp (disch := omega) only [↓EA, EB, Nat.reduceEqDiff, ↓reduceIte, eq_self, *]))
   ·rw [(m.out rfl).2.2, show Ar1 (Dv [] p) = .tuple #[.int .u64 p, .bool true] from rfl]
    (repeat' (first | (with_reducible refine A3 (fun _ => ?_) (fun _ => ?_) <;> try (exfalso; omega)) | simp -dsimp (disch := omega) only [↓EA, EB, Nat.reduceEqDiff, ↓reduceIte, eq_self, *]))
end Go.L.Try
namespace Go.L.Try
open Go Go.L
variable {E : Env}
def A2b (E : Env) (g : Value) (base : Aa → Prop) (vals : List (List Value)) : Prop :=
 ∀ (h1 : Aa) (L : Nat) (W : Nat → Prop) (J : Nat → Aa → Prop) (Stop : Aa → Prop), (∀ k h, J k h → base h) → J 0 h1 → (∀ k h h3, J k h → Tr h1 h h3 → J k h3) → (∀ h h3, Stop h → Tr h1 h h3 → Stop h3) →
  (∀ k h a, vals[k]? = some a → J k h → WX W (callW E (.func (.yield L) #[] #[]) a h) (fun v h' => (v = .bool true ∧ J (k + 1) h') ∨ (v = .bool false ∧ Stop h'))) →
  WX W (callW E g [.func (.yield L) #[] #[]] h1) (fun _ h' => J vals.length h' ∨ Stop h')
def Qv (T p : Int) : List (List Value) := (List.range (manyP T p)).map fun (k : Nat) => [Value.int .i64 ((k : Int) * T)]
theorem Aip (hE : Ap E) {T p : Int} (hT : 1 ≤ T) (hT2 : T ≤ 2147483647) (hp : 0 ≤ p) (hp2 : p ≤ 4611686018427387904) (b1 b2 : Nat) :
  A2b E (.func (.func Dk) #[] #[.pointer (some ⟨b1, 0, none⟩), .pointer (some ⟨b2, 0, none⟩)]) (fun h => h[b1]? = some (.cells [.int .u64 p] false) ∧ h[b2]? = some (.cells [.int .i64 T] false)) (Qv T p) := by
 intro h1 L W J Stop hJ h0 g o step
 refine A1s hE.keep hE.Z8 rfl (by simp) ?_
 simp only [List.cons_append, List.nil_append, Ah]
 have HJ := Hid.mk hJ
 have z := Hid.mk g
 have u := Hid.mk o
 have j := Hid.mk step
 have H0 := Hid.mk h0
 clear hJ g o step h0
 (repeat' simp -dsimp (disch := omega) only [↓EA, EB, Nat.reduceEqDiff, Nat.reduceAdd, ↓reduceIte, reduceCtorEq, eq_self, *])
 refine WO.loop (fun (k : Nat) fr h' => J k h' ∧ k ≤ manyP T p ∧ get fr 0 = .func (.yield L) #[] #[] ∧ get fr 1 = .pointer (some ⟨b1, 0, none⟩) ∧ get fr 2 = .pointer (some ⟨b2, 0, none⟩) ∧ get fr 4 = .int .i64 ((k : Int) * T)) (fun k => manyP T p - k) ?_ 0 ⟨H0.out, Nat.zero_le _, rfl, rfl, rfl, by simp [get]⟩
 rintro k fr h' ⟨n, hk, g0, g1, g2, g4⟩
 obtain ⟨r, l⟩ := HJ.out k h' n
 have s := Sq (T := T) (p := p) hT k
 have a4 : 0 ≤ (k : Int) * T := Int.mul_nonneg (by omega) (by omega)
 have y : (k : Int) * T ≤ 4611686018427387904 + 2147483647 := by
  cases k with
  | zero => simp
  | succ k =>
   have := (Sq (T := T) (p := p) hT k).1 (by omega)
   rw [Int.natCast_add, Int.add_mul]; omega
 have a : ((k + 1 : Nat) : Int) * T = (k : Int) * T + T := by rw [Int.natCast_add, Int.add_mul]; omega
 unfold Lh
 have c : (Qv T p).length = manyP T p := by simp [Qv]
 rcases Nat.lt_or_ge k (manyP T p) with hlt | hge
 ·have a3 := s.1 hlt
  have hv : (Qv T p)[k]? = some [.int .i64 ((k : Int) * T)] := by
   unfold Qv; rw [List.getElem?_map, List.getElem?_range hlt]; rfl
  have f := Hid.mk (j.out k h' _ hv n)
  have x := Hid.mk a
  clear hv j H0 n s a
  generalize (k : Int) * T = t at *
  (repeat' simp -dsimp (disch := omega) only [↓EA, EB, Nat.reduceEqDiff, ↓reduceIte, reduceCtorEq, eq_self, *])
  refine WX.mono f.out (fun b h => h) fun v h2 hx => ?_
  rcases hx with ⟨rfl, d⟩ | ⟨rfl, m⟩
  ·obtain ⟨c1, c2⟩ := HJ.out (k + 1) h2 d
   have a1 := Hid.mk d
   clear d f r l
   (repeat' simp -dsimp (disch := omega) only [↓EA, EB, Nat.reduceEqDiff, ↓reduceIte, reduceCtorEq, eq_self, *])
   exact Next.mk (k + 1) ⟨a1.out, by omega, rfl, rfl, rfl, by rw [x.out]; rfl⟩ (by omega)
  ·have a0 := Hid.mk m
   clear m f r l
   (repeat' simp -dsimp (disch := omega) only [↓EA, EB, Nat.reduceEqDiff, ↓reduceIte, reduceCtorEq, eq_self, *])
   exact fun h3 ht => .inr (u.out _ _ a0.out ht)
 ·have e : k = manyP T p := by omega
  have a2 : ¬ (k : Int) * T < p := fun h => by have := s.2 h; omega
  have Hj := Hid.mk n
  clear n s
  have HL := Hid.mk (e.trans c.symm)
  clear e c
  generalize (k : Int) * T = t at *
  (repeat' simp -dsimp (disch := omega) only [↓EA, EB, Nat.reduceEqDiff, ↓reduceIte, reduceCtorEq, eq_self, *])
  exact fun h3 ht => .inl (by rw [← HL.out]; exact z.out _ _ _ Hj.out ht)
def A19 (m : Nat) (T p : Int) : Aa → Value → Prop := Clo2 m Dk (fun _ v => v = .int .u64 p) (fun _ v => v = .int .i64 T)
theorem Ayp (hE : Ap E) (h : Aa) (T p : Int) :
  ∃ v ys, callW E (.func (.func Ia) #[] #[]) [.int .i64 T, .int .u64 p] h = some (v, h ++ ys, []) ∧ A19 h.length T p (h ++ ys) v := by
 refine Ja hE.Ahe rfl (Clo2.movable (Gd rfl) (Gd rfl)) (by simp) ?_
 simp only [Ah]
 (repeat' simp -dsimp (disch := omega) only [↓EA, EB, Nat.reduceEqDiff, ↓reduceIte, reduceCtorEq, Ab, eq_self, *])
 exact ⟨⟨_, rfl⟩, h.length + 1, h.length, _, _, rfl, ⟨by omega, by omega⟩, ⟨by rw [Og]; rfl, by rw [Bk]; rfl⟩, rfl, rfl⟩
end Go.L.Try
set_option maxHeartbeats 4000000
namespace Go.L.Try
open Go Go.L
variable {E : Env}
def Nm (j : Job) : NV Job := ⟨j, .slice none 0 0⟩
def Out17 (m B L : Nat) (A : List Job) (hh : Aa) : Prop := ∃ v, hh[m]? = some (.cells [v] false) ∧ OwnT (m + 1) 5 (Ci hdJ) hh v (A.map Nm) ∧ (A ≠ [] → blk v < B ∨ L < blk v)
theorem Out17.tr {m B L : Nat} {A : List Job} {H hh h3 : Aa} (o : Out17 m B L A hh) {v0 : Value} (hm : m < H.length) (hB : B ≤ H.length) (hL : H.length ≤ L + 1) (h0 : H[m]? = some (.cells [v0] false)) (hv0 : v0 ≠ .slice none 0 0 → blk v0 < B) (t : Tr H hh h3) : Out17 m B L A h3 ∧ ∀ b, b < H.length → h3[b]? = hh[b]? := by
  rcases t with rfl | ⟨rfl, l⟩
  · exact ⟨o, fun _ _ => rfl⟩
  · have d : ∀ b, b < H.length → (hh.take H.length)[b]? = hh[b]? := fun b j => by rw [List.getElem?_take, if_pos j]
    refine ⟨?_, d⟩
    obtain ⟨v, c, h2, h3⟩ := o
    refine ⟨v, by rw [d m hm]; exact c, ?_, h3⟩
    by_cases f : A = []
    · subst f
      exact h2.keep fun g => absurd rfl g
    · have a : A.map Nm ≠ [] := by simpa using f
      refine h2.keep fun _ => d _ ?_
      rcases l m hm with h4 | h4
      · rw [c, h0] at h4
        cases h4
        have := hv0 (fun e => a (by rw [e] at h2; exact Adt h2))
        omega
      · rw [c] at h4
        exact Ab9 h2 a h4
def Bv (l : List Af) (cap : Int) : List Job × Int × Int :=
  if (A0 l).2 ≠ 0 then ([], 0, 1) else match Bo l with
  | none => ([], 0, 15)
  | some p => if cap < p then ([], 0, 15) else if 4096 < (allH l p l.length).length then ([], 0, 15) else (allH l p l.length, p, 0)
def JobsR (m : Nat) (r : List Job × Int × Int) (h : Aa) (v : Value) : Prop := ∃ vs, v = .tuple vs.toArray ∧ Each h [fun h v => RdNO m 5 hdJ Job.cuts h v r.1, fun _ v => v = .int .u64 r.2.1, fun _ v => v = .int .i64 r.2.2] vs
theorem JobsR.movable {m : Nat} (r : List Job × Int × Int) : Movable m (JobsR m r) 2 :=
  Movable.tuples (k := 1) (fun R hR => by
    simp only [List.mem_cons, List.not_mem_nil, or_false] at hR
    rcases hR with rfl | rfl | rfl
    · exact RdNO.movable (hd := hdJ) (cs := Job.cuts) (sz := 5) (fun _ => rfl) (fun _ => rfl) _
    · exact Gd rfl
    · exact Gd rfl) (by simp)
theorem Wp {l : List Af} {p : Int} {i : Nat} : ∀ {j : Nat}, i ≤ j → (allH l p i).length ≤ (allH l p j).length
  | 0, h => by have : i = 0 := by omega
               subst this; exact Nat.le_refl _
  | j + 1, h => by
    rcases Nat.lt_or_ge i (j + 1) with h1 | h1
    · have := Wp (l := l) (p := p) (i := i) (j := j) (by omega)
      show _ ≤ (allH l p j ++ _).length
      rw [LA]; omega
    · have : i = j + 1 := by omega
      subst this; exact Nat.le_refl _
structure St17 (h0 : Aa) (B L bx by' i : Nat) (t : Af) (p : Int) (lo : LObj) (A : List Job) (hh : Aa) : Prop where
  pre : Pre h0 hh
  len : L < hh.length
  b0 : hh[B]? = some (.cells [.int .i64 (i : Int)] false)
  b1 : hh[B + 1]? = some (.cells (Az t) false)
  b2 : hh[bx]? = some (.cells [.int .u64 p] false)
  b3 : hh[by']? = some (.cells [.int .i64 t.T] false)
  b4 : hh[L]? = some lo
  out : Out17 h0.length B L A hh
section
variable {h0 : Aa} {B L bx by' i : Nat} {t : Af} {p : Int} {lo : LObj} {A : List Job} {hh : Aa}
theorem St17.setL (s : St17 h0 B L bx by' i t p lo A hh) (hm : h0.length < B) (h1 : B + 2 ≤ bx) (h2 : B + 2 ≤ by') (h3 : bx < L) (h4 : by' < L) (lo' : LObj) : St17 h0 B L bx by' i t p lo' A (hh.set L lo') := by
  obtain ⟨a, b, g, e, n, m, r, v, j, l, d⟩ := s
  refine ⟨fun x o c => ?_, by rw [List.length_set]; exact b, by rw [Aq (by omega)]; exact g, by rw [Aq (by omega)]; exact e, by rw [Aq (by omega)]; exact n, by rw [Aq (by omega)]; exact m, Bx b, v, by rw [Aq (by omega)]; exact j, l.keep fun f => Aq (by have := d (by simpa using f); omega), d⟩
  have := (GI.1 c).1
  rw [Aq (by omega)]; exact a x o c
theorem St17.tr (s : St17 h0 B L bx by' i t p lo A hh) (hm : h0.length < B) (h1 : B + 2 ≤ bx) (h2 : B + 2 ≤ by') (h3 : bx < L) (h4 : by' < L) {H h3' : Aa} (hH : H.length = L + 1) {v0 : Value} (hc : H[h0.length]? = some (.cells [v0] false)) (hv0 : v0 ≠ .slice none 0 0 → blk v0 < B) (t' : Tr H hh h3') : St17 h0 B L bx by' i t p lo A h3' := by
  obtain ⟨o, a⟩ := s.out.tr (by omega) (by omega) (by omega) hc hv0 t'
  have d := (a L (by omega)).trans s.b4
  refine ⟨fun x y c => ?_, (GI.1 d).1, (a _ (by omega)).trans s.b0, (a _ (by omega)).trans s.b1, (a _ (by omega)).trans s.b2, (a _ (by omega)).trans s.b3, d, o⟩
  have := (GI.1 c).1
  rw [a x (by omega)]; exact s.pre x y c
end
theorem Avo {α : Type} {m sz : Nat} {enc : α → List Value} {hh h2 h3 : Aa} {v v2 : Value} {c : Nat} {l : List α} (hb : h2[c]? = some (.cells [v2] false)) (ho : OwnT m sz enc h2 v2 l) (hl : l ≠ []) (hf : hh.length ≤ blk v2) (hc : c < hh.length) (hold : hh[c]? = some (.cells [v] false)) (hv : v ≠ .slice none 0 0 → blk v < hh.length) (t : Tr hh h2 h3) : h3 = h2 := by
  rcases t with rfl | ⟨rfl, a⟩
  · rfl
  · exfalso
    rcases a c hc with h4 | h4
    · rw [hb, hold] at h4
      cases h4
      have := hv fun e => hl (by rw [e] at ho; exact Adt ho)
      omega
    · rw [hb] at h4
      have := Ab9 ho hl h4
      omega
theorem Ajv (hE : Ap E) {h0 : Aa} {B L bx by' i : Nat} (hm : h0.length < B) (h1 : B + 2 ≤ bx) (h2 : B + 2 ≤ by') (h3 : bx < L) (h4 : by' < L) {t : Af} {p : Int} {frL : Fr} (g11 : get frL 11 = .pointer (some ⟨h0.length, 0, none⟩)) (g12 : get frL 12 = .pointer (some ⟨B, 0, none⟩)) (g13 : get frL 13 = .pointer (some ⟨B + 1, 0, none⟩)) {A : List Job} {hh : Aa} (hA : A.length ≤ 4097)
    (s : St17 h0 B L bx by' i t p (.loop { state := .ready, pending := none, fr := frL, sz := 64, params := [45], assign := Bu, body := Bt }) A hh) (x : Int) :
    WX (fun b => h0.length ≤ b) (callW E (.func (.yield L) #[] #[]) [.int .i64 x] hh) (fun v h' =>
      (v = .bool true ∧ A.length ≤ 4096 ∧ St17 h0 B L bx by' i t p (.loop { state := .ready, pending := none, fr := frL, sz := 64, params := [45], assign := Bu, body := Bt }) (A ++ [⟨i, x, x, t.C, []⟩]) h') ∨
      (v = .bool false ∧ A.length = 4097 ∧ St17 h0 B L bx by' i t p (.loop { state := .done, pending := some (some 0), fr := frL, sz := 64, params := [45], assign := Bu, body := Bt }) A h')) := by
  generalize hlo : LObj.loop { state := LoopState.ready, pending := none, fr := frL, sz := 64, params := [45], assign := Bu, body := Bt } = lo at *
  refine WX.mono (Aok hE.keep (r := { state := .ready, pending := none, fr := frL, sz := 64, params := [45], assign := Bu, body := Bt }) (W := fun b => h0.length ≤ b ∧ b ≠ L) (Rr := fun e h3 => (A.length ≤ 4096 ∧ e = .normal ∧ St17 h0 B L bx by' i t p lo (A ++ [⟨i, x, x, t.C, []⟩]) h3) ∨ (A.length = 4097 ∧ e = .exit 0 ∧ St17 h0 B L bx by' i t p lo A h3)) (s.b4.trans (congrArg some hlo.symm)) rfl rfl rfl rfl (fun b hb => hb.2) ?_) (fun b hb => by rcases hb with hb | hb; exact hb.1; omega) ?_
  · dsimp only
    have ac := Hid.mk hlo
    rw [hlo]
    generalize LObj.loop { state := LoopState.busy, pending := none, fr := frL, sz := 64, params := [45], assign := Bu, body := Bt } = lb
    clear hlo
    unfold Bu
    (repeat' simp -dsimp (disch := omega) only [↓EA, EB, Nat.reduceEqDiff, ↓reduceIte, eq_self, *])
    have s2 := s.setL hm h1 h2 h3 h4 lb
    have Hs := Hid.mk s
    have f : (hh.set L lb).set L lo = hh := by rw [List.set_set]; exact D4 s.b4
    have m := Hid.mk f
    have u : (hh.set L lb).length = hh.length := List.length_set ..
    obtain ⟨_, a7, _, _, _, _, _, vo, a4, d, a6⟩ := s
    have aa := Hid.mk d
    have j : vo ≠ .slice none 0 0 → blk vo < hh.length := fun hn => d.lt (d.ne hn)
    have z := Hid.mk j
    have a2 := Hid.mk a4
    clear f j d a4 a6
    obtain ⟨p2, a9, b0, b1, b2, b3, b4, v, o1, o2, o3⟩ := s2
    generalize hh.set L lb = G at *
    unfold Bt
    have hr := o2.rd
    have few := hr.few
    unfold Az at b1
    have Hl : (A.map Nm).length = A.length := List.length_map ..
    have a0 := Hid.mk u
    clear u
    have c : A.map Nm ≠ [] → h0.length + 1 ≤ blk v ∧ (blk v < B ∨ L < blk v) := fun hn => ⟨o2.ge hn, o3 (by simpa using hn)⟩
    (repeat' (first | (with_reducible refine A3 (fun _ => ?_) (fun _ => ?_) <;> try (exfalso; omega)) | simp -dsimp (disch := omega) only [↓EA, EB, Nat.reduceEqDiff, Nat.reduceAdd, Nat.reduceLeDiff, Nat.reduceMul, ↓reduceIte, reduceCtorEq, Ab, T9, eq_self, *, hr.len]))
    · intro l ht
      rw [m.out] at ht
      have e : l = hh := by
        rcases ht with rfl | ⟨rfl, _⟩
        · rfl
        · rw [List.take_length]
      exact .inr ⟨by omega, by rw [e]; exact Hs.out⟩
    · refine Sh (sz := 5) (bytes := 56) (o2.app _) (p2.app' _) (Nat.le_succ _) (by simp; omega) (fun hn => by have := c hn; exact ⟨by omega, by omega⟩) (Nm ⟨i, x, x, t.C, []⟩) ?_ rfl (by decide) (by decide) (by omega) ?_
      · simp -dsimp (disch := omega) only [EB, Nat.reduceAdd, Nat.reduceMul, ↓reduceIte]
        rfl
      · intro v2 g k1 k2 k3 k4 k5
        rw [LA, List.length_singleton] at k3 k4 k5
        have n : ∀ b, b < G.length → b ≠ blk v ∨ A = [] → g[b]? = G[b]? := fun b hb hn => by
          rw [k5 b (by omega) (fun a => by rcases hn with hn | hn; exact hn; subst hn; simp at a), GL hb]
        have a : ∀ b, b ≤ h0.length ∨ (B ≤ b ∧ b ≤ L) → b ≠ blk v ∨ A = [] := fun b hb => by
          by_cases a5 : A = []
          · exact .inr a5
          · refine .inl fun e => ?_
            have := c (by simpa using a5)
            omega
        have m1 : g[h0.length]? = some (.cells [v] false) := (n _ (by omega) (a _ (by omega))).trans o1
        have m2 := (n B (by omega) (a _ (by omega))).trans b0
        have m3 := (n (B + 1) (by omega) (a _ (by omega))).trans b1
        have m4 := (n bx (by omega) (a _ (by omega))).trans b2
        have m5 := (n by' (by omega) (a _ (by omega))).trans b3
        have m6 := (n L (by omega) (a _ (by omega))).trans b4
        have d := k1.rd.one
        have ab := k1.rd.cv
        have K1 := Hid.mk k1
        have K3 := Hid.mk k3
        have K2 := Hid.mk k2
        clear k1 k2 k3 k5 n a c o1 o2 o3 b0 b1 b2 b3 b4
        (repeat' simp -dsimp (disch := omega) only [↓EA, EB, Nat.reduceEqDiff, ↓reduceIte, reduceCtorEq, eq_self, *])
        have s3 : St17 h0 B L bx by' i t p lb (A ++ [⟨i, x, x, t.C, []⟩]) (g.set h0.length (.cells [v2] false)) := by
          refine ⟨fun y o hy => ?_, by rw [List.length_set]; omega, by rw [Aq (by omega)]; exact m2, by rw [Aq (by omega)]; exact m3, by rw [Aq (by omega)]; exact m4, by rw [Aq (by omega)]; exact m5, ?_, v2, Bx (by omega), ?_, fun _ => .inr (by have := K3.out; omega)⟩
          · have := (GI.1 hy).1
            rw [Aq (by omega)]; exact K2.out y o hy
          · rw [Aq (by omega)]; exact m6
          · have := K1.out
            rw [show (A ++ [(⟨i, x, x, t.C, []⟩ : Job)]).map Nm = A.map Nm ++ [Nm ⟨i, x, x, t.C, []⟩] by simp]
            exact this.keep fun _ => Aq (by have := K3.out; omega)
        refine ⟨by omega, fun l ht => ?_⟩
        have s4 := s3.setL hm h1 h2 h3 h4 lo
        obtain ⟨w, w1, w2, w3⟩ := s4.out
        have a8 : w = v2 := by
          have e1 : ((g.set h0.length (.cells [v2] false)).set L lo)[h0.length]? = some (.cells [v2] false) := by rw [Aq (by omega), Bx (by omega)]
          rw [w1] at e1
          cases e1; rfl
        subst a8
        have e := Avo w1 w2 (by simp) (by have := K3.out; have := a0.out; omega) (by have := a0.out; omega) a2.out z.out ht
        exact .inl ⟨by omega, by rw [e]; exact s4⟩
  · rintro v h' ⟨e, l, (⟨a1, rfl, a3⟩ | ⟨a1, rfl, a3⟩), rfl, rfl⟩
    · exact .inl ⟨rfl, a1, a3⟩
    · exact .inr ⟨rfl, a1, a3.setL hm h1 h2 h3 h4 _⟩
def A0e (m : Nat) (A : List Job) (hh : Aa) : Prop := ∃ v, hh[m]? = some (.cells [v] false) ∧ OwnT (m + 1) 5 (Ci hdJ) hh v (A.map Nm)
theorem Avp {T p : Int} {k : Nat} {a : List Value} (h : (Qv T p)[k]? = some a) : k < manyP T p ∧ a = [.int .i64 ((k : Int) * T)] := by
  have c := (GI.1 h).1
  rw [show (Qv T p).length = manyP T p by simp [Qv]] at c
  refine ⟨c, ?_⟩
  unfold Qv at h
  rw [List.getElem?_map, List.getElem?_range c] at h
  exact (Option.some.inj h).symm
theorem St17.fin {h0 : Aa} {B L bx by' i : Nat} {t : Af} {p : Int} {lo : LObj} {A : List Job} {hh : Aa} (s : St17 h0 B L bx by' i t p lo A hh) (hm : h0.length < B) (h1 : B + 2 ≤ bx) (h2 : B + 2 ≤ by') (h3 : bx < L) (h4 : by' < L) {H h3' : Aa} (hH : H.length = L) {v0 : Value} (hc : H[h0.length]? = some (.cells [v0] false)) (hv0 : v0 ≠ .slice none 0 0 → blk v0 < B) (t' : Tr H (hh.set L .dead) h3') : Pre h0 h3' ∧ h0.length < h3'.length ∧ A0e h0.length A h3' := by
  have c := s.setL hm h1 h2 h3 h4 .dead
  obtain ⟨o, f⟩ := c.out.tr (by omega) (by omega) (by omega) hc hv0 t'
  obtain ⟨v, d, e, _⟩ := o
  refine ⟨fun x y a => ?_, (GI.1 d).1, v, d, e⟩
  have := (GI.1 a).1
  rw [f x (by omega)]; exact c.pre x y a
theorem Aww (hE : Ap E) {W : Nat → Prop} {h0 : Aa} (hW : ∀ b, h0.length ≤ b → W b) {vl : Value} {l : List Af} (hl : Rd 7 Az h0 vl l) (hoks : ∀ t ∈ l, F6 t) {p : Int} (hp0 : 0 < p) (hp1 : p ≤ 4611686018427387904) {Q : Ex → Fr → Aa → Prop} {fr : Fr}
    (g9 : get fr 9 = .int .u64 p) (g11 : get fr 11 = .pointer (some ⟨h0.length, 0, none⟩)) (g34 : get fr 34 = vl) (g35 : get fr 35 = .int .i64 l.length) (g36 : get fr 36 = .int .i64 0)
    (hq : ∀ fr' h' A, get fr' 9 = .int .u64 p → get fr' 11 = .pointer (some ⟨h0.length, 0, none⟩) → Pre h0 h' → A0e h0.length A h' → ((4096 < A.length ∧ 4096 < (allH l p l.length).length) ∨ A = allH l p l.length) → A.length ≤ 4097 → Q (.exit 0) fr' h') :
    WO W (iterW (code (callW E) iterW 64 Lc) fr (h0 ++ [.cells [.slice none 0 0] false])) Q := by
  have few := hl.few
  refine WO.loop (fun (i : Nat) fr h' => Pre h0 h' ∧ h0.length < h'.length ∧ i ≤ l.length ∧ get fr 9 = .int .u64 p ∧ get fr 11 = .pointer (some ⟨h0.length, 0, none⟩) ∧ get fr 34 = vl ∧ get fr 35 = .int .i64 l.length ∧ get fr 36 = .int .i64 i ∧ A0e h0.length (allH l p i) h' ∧ (allH l p i).length ≤ 4097) (fun i => l.length - i) ?_ 0 ⟨Pre.app h0 _, by simp, Nat.zero_le _, g9, g11, g34, g35, g36, ⟨_, by rw [Bk]; rfl, OwnT.nil⟩, by simp [allH]⟩
  rintro i fr h' ⟨hp, c, hi, g9, g11, g34, g35, g36, ⟨r, hc, ho⟩, hA⟩
  have a4 := hl.pre hp
  unfold Lc
  rcases Nat.lt_or_ge i l.length with hlt | hge
  · have s := Aj (l := l) (i := (i : Int)) (by omega) (by omega)
    have z := hoks _ s
    have g := z.1
    simp only [Bh] at g
    have tC := g.2.2.1
    have tT := g.2.2.2.1
    have Hq := Hid.mk hq
    have ae := Hid.mk z
    clear hq z g s hoks
    have a2 : r ≠ .slice none 0 0 → blk r < h'.length := fun hn => ho.lt (ho.ne hn)
    (repeat' (first | (with_reducible refine A3 (fun _ => ?_) (fun _ => ?_) <;> try (exfalso; omega)) | simp -dsimp (disch := omega) only [↓EA, EB, Nat.reduceEqDiff, Nat.reduceAdd, ↓reduceIte, Ab, eq_self, *, a4.ixs, a4.lda, Az]))
    change WX _ (callW _ _ _ (h' ++ [LObj.cells [.int .i64 (i : Int)] false, LObj.cells (Az (atI l (i : Int))) false])) _
    have P1 := hp.trans (Pre.app h' [LObj.cells [.int .i64 (i : Int)] false, LObj.cells (Az (atI l (i : Int))) false])
    have b0 : (h' ++ [LObj.cells [.int .i64 (i : Int)] false, LObj.cells (Az (atI l (i : Int))) false])[h'.length]? = some (.cells [.int .i64 (i : Int)] false) := by rw [Bk]; rfl
    have b1 : (h' ++ [LObj.cells [.int .i64 (i : Int)] false, LObj.cells (Az (atI l (i : Int))) false])[h'.length + 1]? = some (.cells (Az (atI l (i : Int))) false) := by rw [Og]; rfl
    have bc : (h' ++ [LObj.cells [.int .i64 (i : Int)] false, LObj.cells (Az (atI l (i : Int))) false])[h0.length]? = some (.cells [r] false) := by rw [GL c]; exact hc
    have a7 := ho.app [LObj.cells [.int .i64 (i : Int)] false, LObj.cells (Az (atI l (i : Int))) false]
    have ad : (h' ++ [LObj.cells [.int .i64 (i : Int)] false, LObj.cells (Az (atI l (i : Int))) false]).length = h'.length + 2 := by simp
    generalize (h' ++ [LObj.cells [.int .i64 (i : Int)] false, LObj.cells (Az (atI l (i : Int))) false]) = G at *
    refine Ec (Ayp hE _ (atI l (i : Int)).T p) fun vt ys rt u => ?_
    have P2 := P1.trans u
    have c0 := u _ _ b0
    have c1 := u _ _ b1
    have cc := u _ _ bc
    obtain ⟨bx, by', u1, u2, rfl, ⟨ac, ag⟩, ⟨a3, a1⟩, rfl, rfl⟩ := rt
    have y := a7.pre u
    have aa := u.le
    generalize G ++ ys = H at *
    clear b0 b1 bc u P1 a7
    have d := (GI.1 a3).1
    have f := (GI.1 a1).1
    (repeat' simp -dsimp (disch := omega) only [↓EA, EB, Nat.reduceEqDiff, ↓reduceIte, eq_self, *])
    have n : r ≠ .slice none 0 0 → blk r < h'.length := a2
    have a0 : ∀ x, (H ++ x)[h0.length]? = some (.cells [r] false) := fun x => by rw [GL (by omega)]; exact cc
    refine Axa hE.keep (W' := fun b => h0.length ≤ b) rfl (fun x hx _ => hW x hx) ?_
    generalize hfr : ([(9, Value.int .u64 p), _, _, _, _, _, _, _] : Fr) = frL
    have ab : get frL 11 = .pointer (some ⟨h0.length, 0, none⟩) := by rw [← hfr]; rfl
    have a9 : get frL 12 = .pointer (some ⟨h'.length, 0, none⟩) := by rw [← hfr]; rfl
    have a8 : get frL 13 = .pointer (some ⟨h'.length + 1, 0, none⟩) := by rw [← hfr]; rfl
    have a5 := Hid.mk hfr
    clear hfr
    refine WX.mono (Aip hE tT.1 tT.2 (by omega) hp1 bx by' (H ++ [_]) H.length (fun b => h0.length ≤ b)
      (fun k o => (allH l p i ++ Jy i (atI l (i : Int)) k).length ≤ 4097 ∧ St17 h0 h'.length H.length bx by' i (atI l (i : Int)) p (.loop { state := .ready, pending := none, fr := frL, sz := 64, params := [45], assign := Bu, body := Bt }) (allH l p i ++ Jy i (atI l (i : Int)) k) o)
      (fun o => ∃ k, k < manyP (atI l (i : Int)).T p ∧ (allH l p i ++ Jy i (atI l (i : Int)) k).length = 4097 ∧ St17 h0 h'.length H.length bx by' i (atI l (i : Int)) p (.loop { state := .done, pending := some (some 0), fr := frL, sz := 64, params := [45], assign := Bu, body := Bt }) (allH l p i ++ Jy i (atI l (i : Int)) k) o)
      (fun k o hj => ⟨hj.2.b2, hj.2.b3⟩) ⟨by simpa [Jy] using hA, ?_⟩ (fun k o h3 hj m => ⟨hj.1, hj.2.tr c (by omega) (by omega) d f (by simp) (a0 _) n m⟩) (fun o h3 hs m => ?_) ?_) (fun b hb => hb) ?_
    · have e : allH l p i ++ Jy i (atI l (i : Int)) 0 = allH l p i := by simp [Jy]
      rw [e]
      refine ⟨P2.app' _, by simp, ?_, ?_, ?_, ?_, by rw [Bk]; rfl, r, a0 _, y.app _, fun hn => .inl (a2 fun e => hn (by rw [e] at y; simpa using Adt y))⟩
      all_goals rw [GL (by omega)]
      · exact c0
      · exact c1
      · exact a3
      · exact a1
    · obtain ⟨k, k1, k2, k3⟩ := hs
      exact ⟨k, k1, k2, k3.tr c (by omega) (by omega) d f (by simp) (a0 _) n m⟩
    · rintro k o a ha ⟨j1, j2⟩
      obtain ⟨hk, rfl⟩ := Avp ha
      refine WX.mono (Ajv hE c (by omega) (by omega) d f ab a9 a8 j1 j2 _) (fun b hb => hb) ?_
      rintro v af (⟨rfl, q1, q2⟩ | ⟨rfl, q1, q2⟩)
      · refine .inl ⟨rfl, ?_, ?_⟩
        · rw [Sl, ← List.append_assoc, LA]; simp; simpa using q1
        · rw [Sl, ← List.append_assoc]; exact q2
      · exact .inr ⟨rfl, k, hk, q1, q2⟩
    · rintro v o (⟨j1, j2⟩ | ⟨k, k1, k2, k3⟩)
      · refine ⟨_, j2.b4, (fun e => by cases e), fun h3 m => ?_⟩
        obtain ⟨e1, e2, e3⟩ := j2.fin c (by omega) (by omega) d f rfl cc n m
        rw [show (Qv (atI l (i : Int)).T p).length = manyP (atI l (i : Int)).T p by simp [Qv]] at e3 j1
        have E3 := Hid.mk e3
        have J1 := Hid.mk j1
        clear e3 j1 j2 m
        rw [← a5.out]
        dsimp only
        (repeat' simp -dsimp (disch := omega) only [↓EA, EB, Nat.reduceEqDiff, ↓reduceIte, eq_self, *])
        exact Next.mk (i + 1) ⟨e1, e2, by omega, rfl, rfl, rfl, rfl, rfl, E3.out, J1.out⟩ (by omega)
      · refine ⟨_, k3.b4, (fun e => by cases e), fun h3 m => ?_⟩
        obtain ⟨e1, e2, e3⟩ := k3.fin c (by omega) (by omega) d f rfl cc n m
        have a6 : 4096 < (allH l p l.length).length := by
          have m1 := Wp (l := l) (p := p) (i := i + 1) (j := l.length) (by omega)
          have m2 : (allH l p (i + 1)).length = (allH l p i).length + manyP (atI l (i : Int)).T p := by
            show (allH l p i ++ Jy i _ _).length = _
            rw [LA, Q6]
          rw [LA, Q6] at k2
          omega
        have E3 := Hid.mk e3
        have K2 := Hid.mk k2
        clear e3 k2 k3 m
        rw [← a5.out]
        dsimp only
        (repeat' simp -dsimp (disch := omega) only [↓reduceIte, reduceCtorEq, *])
        exact Hq.out _ _ _ rfl rfl e1 E3.out (.inl ⟨by rw [K2.out]; decide, a6⟩) (by rw [K2.out]; decide)
  · have e : i = l.length := by omega
    subst e
    have Hq := Hid.mk hq
    have Ho := Hid.mk ho
    clear hq ho
    (repeat' (first | (with_reducible refine A3 (fun _ => ?_) (fun _ => ?_) <;> try (exfalso; omega)) | simp -dsimp (disch := omega) only [↓EA, EB, Nat.reduceEqDiff, ↓reduceIte, eq_self, *]))
    exact Hq.out _ _ _ rfl rfl hp ⟨r, hc, Ho.out⟩ (.inr rfl) hA
theorem Ajt (l : List Af) : ∀ (a q : Int), 0 < a → a < 18446744073709551616 → (∀ t ∈ l, 1 ≤ t.T) → Dv l a = some q → (0 < q ∧ q < 18446744073709551616) ∧ a ∣ q ∧ ∀ t ∈ l, t.T ∣ q := by
  induction l with
  | nil =>
    intro a q c e _ h
    rw [Dv, OI] at h
    subst h
    exact ⟨⟨c, e⟩, Int.dvd_refl _, by simp⟩
  | cons t r ih =>
    intro a q c e g h
    have o := g t (by simp)
    rw [Dv] at h
    split at h
    · rename_i n
      have f := Ani (a := a) (b := t.T) c (by omega)
      obtain ⟨m, d, j⟩ := ih _ q (lcm_pos a t.T c (by omega)) n (fun x hx => g x (by simp [hx])) h
      refine ⟨m, Int.dvd_trans f.1 d, fun x hx => ?_⟩
      rcases List.mem_cons.1 hx with rfl | hx
      · exact Int.dvd_trans f.2 d
      · exact j x hx
    · exact absurd h (by simp)
theorem N7 {l : List Af} {p : Int} (h : Bo l = some p) : (0 < p ∧ p < 18446744073709551616) ∧ ∀ t ∈ l, 1 ≤ t.T ∧ t.T ∣ p ∧ t.T ≤ p := by
  unfold Bo at h
  split at h
  · rename_i f
    have c : ∀ t ∈ l, 1 ≤ t.T := fun t a => by have := List.all_eq_true.1 f t a; simpa using this
    obtain ⟨d, g, e⟩ := Ajt l 1 p (by decide) (by decide) c h
    exact ⟨d, fun t a => ⟨c t a, e t a, Int.le_of_dvd d.1 (e t a)⟩⟩
  · cases h
theorem Wq {l : List Af} {p : Int} : ∀ {i : Nat} {x : Job}, x ∈ allH l p i → x.cuts = []
  | 0, x, h => by simp [allH] at h
  | i + 1, x, h => by
    rcases List.mem_append.1 h with h | h
    · exact Wq h
    · obtain ⟨k, _, rfl⟩ := List.mem_map.1 h; rfl
theorem Ats (hE : Ap E) {h : Aa} {vl : Value} {l : List Af} (hl : Rd 7 Az h vl l) (hs : ∀ t ∈ l, t.name.size < 1152921504606846976) {cap : Int} (hcap : Bz cap) (hper : ∀ p, Bo l = some p → p ≤ cap → p ≤ 4611686018427387904) :
    ∃ v ys, callW E (.func (.func Fe) #[] #[]) [vl, .int .u64 cap] h = some (v, h ++ ys, []) ∧ JobsR h.length (Bv l cap) (h ++ ys) v := by
  refine Ja hE.Ajz rfl (JobsR.movable _) (by simp) ?_
  have y := Acy hE hl hs
  have few := hl.few
  unfold Bz at hcap
  have e : ∀ hh, RdNO h.length 5 hdJ Job.cuts hh (.slice none 0 0) [] := fun hh => ⟨[], rfl, OwnT.nil.rdO, by simp⟩
  have a : ∀ (n : Int) ys, (∃ zs, h ++ ys = h ++ zs) ∧ JobsR h.length ([], 0, n) (h ++ ys) (.tuple #[.slice none 0 0, .int .u64 0, .int .i64 n]) := fun n ys => ⟨⟨_, rfl⟩, _, rfl, .cons (e _) (.cons rfl (.cons rfl .nil))⟩
  simp only [Ah]
  by_cases c : (A0 l).2 = 0
  · obtain ⟨a3, a4, d⟩ := Dj c
    have hp := Ajr hE hl (fun t ht => by have := (d t ht).1; simp only [Bh] at this; omega)
    have o : Bv l cap = match Bo l with
      | none => ([], 0, 15)
      | some p => if cap < p then ([], 0, 15) else if 4096 < (allH l p l.length).length then ([], 0, 15) else (allH l p l.length, p, 0) := if_neg (fun h => h c)
    rw [o]
    cases hpp : Bo l with
    | none =>
      rw [hpp, show Ar1 none = .tuple #[.int .u64 0, .bool false] from rfl] at hp
      have Err := Hid.mk a
      clear a
      dsimp only
      (repeat' simp -dsimp (disch := omega) only [↓EA, EB, Nat.reduceEqDiff, ↓reduceIte, reduceCtorEq, eq_self, *])
      exact (by simpa using Err.out 15 [])
    | some p =>
      rw [hpp, show Ar1 (some p) = .tuple #[.int .u64 p, .bool true] from rfl] at hp
      obtain ⟨⟨u, x⟩, _⟩ := N7 hpp
      dsimp only
      by_cases m : cap < p
      · rw [if_pos m]
        have Err := Hid.mk a
        clear a
        (repeat' simp -dsimp (disch := omega) only [↓EA, EB, Nat.reduceEqDiff, ↓reduceIte, reduceCtorEq, eq_self, *])
        exact (by simpa using Err.out 15 [])
      · rw [if_neg m]
        have r := hper p hpp (by omega)
        have Err := Hid.mk a
        clear a hper o hpp x
        (repeat' simp -dsimp (disch := omega) only [↓EA, EB, Nat.reduceEqDiff, ↓reduceIte, reduceCtorEq, Ab, eq_self, *, hl.len])
        refine Aww hE (fun b hb => hb) hl d u r rfl rfl rfl rfl rfl fun fr' h' A q9 q11 qp ⟨v, qc, qo⟩ qA qn => ?_
        have f := qo.rd
        have a1 := f.few
        have a2 : (A.map Nm).length = A.length := List.length_map ..
        have Qp := Hid.mk qp
        have QA := Hid.mk qA
        have Qo := Hid.mk qo
        clear y hp qp qA qo
        by_cases z : 4096 < A.length
        · have g : 4096 < (allH l p l.length).length := by
            rcases QA.out with h1 | h1
            · exact h1.2
            · rw [← h1]; exact z
          rw [if_pos g]
          (repeat' (first | (with_reducible refine A3 (fun _ => ?_) (fun _ => ?_) <;> try (exfalso; omega)) | simp -dsimp (disch := omega) only [↓EA, EB, Nat.reduceEqDiff, ↓reduceIte, eq_self, *, f.len]))
          exact ⟨Qp.out.ex, _, rfl, .cons (e _) (.cons rfl (.cons rfl .nil))⟩
        · have s : A = allH l p l.length := by
            rcases QA.out with h1 | h1
            · exact absurd h1.1 z
            · exact h1
          subst s
          rw [if_neg z]
          (repeat' (first | (with_reducible refine A3 (fun _ => ?_) (fun _ => ?_) <;> try (exfalso; omega)) | simp -dsimp (disch := omega) only [↓EA, EB, Nat.reduceEqDiff, ↓reduceIte, eq_self, *, f.len]))
          refine ⟨Qp.out.ex, _, rfl, .cons ⟨(allH l p l.length).map Nm, ?_, (Qo.out.less (Nat.le_succ _)).rdO, fun q hq => ?_⟩ (.cons rfl (.cons rfl .nil))⟩
          · rw [List.map_map]; exact List.map_id _
          · obtain ⟨j, hj, rfl⟩ := List.mem_map.1 hq
            refine ⟨?_, fun hn => absurd rfl hn⟩
            rw [show (Nm j).j.cuts = [] from Wq hj]
            exact Rd.of_nil
  · have o : Bv l cap = ([], 0, 1) := if_pos c
    rw [o]
    have Err := Hid.mk a
    clear a
    have a0 : (A0 l).2 ≠ 0 := c
    (repeat' simp -dsimp (disch := omega) only [↓EA, EB, Nat.reduceEqDiff, ↓reduceIte, reduceCtorEq, eq_self, *])
    exact (by simpa using Err.out 1 [])
end Go.L.Try
namespace Go.L.Try
open Go Go.L
variable {E : Env}
def c17 (turn : Int) (i : Nat) : Int := if IntKind.i64.wrap (turn + i) % 4 = 0 then 4 else if IntKind.i64.wrap (turn + i) % 4 = 1 then 6 else if IntKind.i64.wrap (turn + i) % 4 = 2 then 8 else 12
theorem A2r (turn : Int) (n : Nat) : Atu 4 1 none (.agg #[.int .i64 4, .int .i64 6, .int .i64 8, .int .i64 12]) (.int .i64 (IntKind.i64.wrap (turn + n) % 4)) = some (.int .i64 (c17 turn n)) := by
 have a := C6 (IntKind.i64.wrap (turn + n)) 4 (by decide)
 unfold c17
 generalize IntKind.i64.wrap (turn + n) % 4 = r at *
 have h : r = 0 ∨ r = 1 ∨ r = 2 ∨ r = 3 := by omega
 rcases h with rfl | rfl | rfl | rfl <;> rfl
theorem Auz (turn : Int) (n : Nat) : c17 turn n = 4 ∨ c17 turn n = 6 ∨ c17 turn n = 8 ∨ c17 turn n = 12 := by
 unfold c17
 split
 ·exact .inl rfl
 ·split
  ·exact .inr (.inl rfl)
  ·split
   ·exact .inr (.inr (.inl rfl))
   ·exact .inr (.inr (.inr rfl))
def L9 (turn : Int) (plain : Bool) (i : Nat) (t : Af) : Af := { t with T := if t.D ≤ c17 turn i then c17 turn i else 24, J := if plain = true then 0 else t.J, Q := if plain = true then 1 else t.Q }
def Iv (turn : Int) (plain : Bool) (k : Nat) (L : List Af) : List Af := L.mapIdx fun i t => if i < k then L9 turn plain i t else t
theorem Afa (turn : Int) (plain : Bool) (L : List Af) : Iv turn plain 0 L = L := by unfold Iv; apply List.ext_getElem <;> simp
theorem Th (turn : Int) (plain : Bool) (k : Nat) (L : List Af) : (Iv turn plain k L).length = L.length := by simp [Iv]
theorem Aoz (turn : Int) (plain : Bool) (k : Nat) (L : List Af) (hk : k < L.length) : atI (Iv turn plain k L) (k : Int) = atI L (k : Int) := by
 rw [Ax (by rw [Th]; exact hk), Ax hk]
 simp [Iv]
theorem Afb (turn : Int) (plain : Bool) (k : Nat) (L : List Af) (hk : k < L.length) : Iv turn plain (k + 1) L = (Iv turn plain k L).set k (L9 turn plain k (atI L (k : Int))) := by
 rw [Ax hk]
 apply List.ext_getElem
 ·simp [Iv]
 ·intro i c h2
  simp only [Iv, List.getElem_mapIdx, List.getElem_set]
  by_cases e : k = i
  ·subst e; simp
  ·rw [if_neg e]
   by_cases a : i < k
   ·rw [if_pos (by omega), if_pos a]
   ·rw [if_neg (by omega), if_neg a]
def set17 (l : List Mw) (turn : Int) (plain : Bool) : List Af := Iv turn plain (setP l 4 turn).length (setP l 4 turn)
theorem Vh {α : Type} [Inhabited α] {S : List α} {n : Nat} (a : α) (h : n < S.length) : atI (S.set n a) (n : Int) = a := by
 rw [Ax (by rw [List.length_set]; exact h), List.getElem_set_self]
theorem Ab8 {h h' h2 : Aa} {v : Value} {S : List Af} (hp : Pre h h') (ho : RdO h.length 7 Az h' v S) (hn : S ≠ []) (hk : ∀ b, b ≠ blk v → h2[b]? = h'[b]?) : Pre h h2 := fun b o hb => by
 have := ho.ge hn
 have := (GI.1 hb).1
 rw [hk b (by omega)]; exact hp b o hb
theorem Awa (hE : Ap E) (h : Aa) (x n : Int) (hn : 0 < n) (hn' : n < 4611686018427387904) : callW E (.func (.func I9) #[] #[]) [.int .i64 x, .int .i64 n] h = some (.int .i64 (x % n), h, []) := by
 have a := Qu x n hn
 refine Ai hE.Aju rfl (by simp) ?_
 simp -dsimp (disch := omega) only [↓EA, EB, Nat.reduceEqDiff, ↓reduceIte, reduceCtorEq, eq_self, Ah, Ak1 x n hn]
theorem Ae8 (hE : Ap E) {h : Aa} {vl : Value} {l : List Mw} (hl : Rd 5 Rn h vl l) {turn : Int} (ht : Lf turn) (plain : Bool) :
  ∃ v ys, callW E (.func (.func Im) #[] #[]) [vl, .int .i64 turn, .bool plain] h = some (v, h ++ ys, []) ∧ RdO h.length 7 Az (h ++ ys) v (set17 l turn plain) := by
 refine Ja hE.Apq rfl (RdO.movable Ayc _) (by simp) ?_
 simp only [Ah]
 (repeat' simp -dsimp (disch := omega) only [↓EA, EB, Nat.reduceEqDiff, Nat.reduceAdd, ↓reduceIte, reduceCtorEq, eq_self, *])
 refine Ec (Are hE hl (most := 4) (by decide) (by decide) ht) fun v1 ys r1 p1 => ?_
 have a7 := Uf l (most := 4) (turn := turn) (by decide)
 have a3 := p1.le
 unfold set17
 generalize setP l 4 turn = L at *
 generalize _ ++ ys = H1 at r1 p1 a3 ⊢
 have o1 := r1.rd.one
 have c1 := r1.rd.cv
 have HP := Hid.mk p1
 clear p1
 (repeat' simp -dsimp (disch := omega) only [↓EA, EB, Nat.reduceEqDiff, ↓reduceIte, reduceCtorEq, eq_self, *])
 refine WO.loop (fun (n : Nat) fr h' => Pre h h' ∧ n ≤ L.length ∧ get fr 1 = .int .i64 turn ∧ get fr 2 = .bool plain ∧ get fr 7 = v1 ∧ get fr 8 = .int .i64 n ∧ RdO h.length 7 Az h' v1 (Iv turn plain n L)) (fun n => L.length - n) ?_ 0 ⟨HP.out, Nat.zero_le _, rfl, rfl, rfl, rfl, by rw [Afa]; exact r1⟩
 rintro n fr h' ⟨hp, hn, g1, g2, g7, g8, x⟩
 have o := x.rd
 have few := o.few
 have ln := Th turn plain n L
 unfold R6
 rcases Nat.lt_or_ge n L.length with hlt | hge
 ·have hb := C6 (IntKind.i64.wrap (turn + n)) 4 (by decide)
  have a4 := Awa hE
  have a0 := Aoz turn plain n L hlt
  have j := Afb turn plain n L hlt
  have a8 := A2r turn n
  unfold L9 at j
  have hc := Auz turn n
  generalize c17 turn n = c at *
  have f := Hid.mk j
  have Hc := Hid.mk hc
  clear j hc
  have u : ∀ b, h.length ≤ b → h.length ≤ b := fun _ h => h
  generalize hS : Iv turn plain n L = S at *
  have m : (0 : Int) ≤ n := by omega
  have y : (n : Int) < S.length := by omega
  rw [← a0] at f
  have a2 : 0 < S.length := by omega
  have a1 : S ≠ [] := List.length_pos_iff.1 a2
  have r : ∀ {a : Af}, S.set n a ≠ [] := fun {a} => List.length_pos_iff.1 (by rw [List.length_set]; exact a2)
  have t := @r
  clear a0
  (repeat' (first | (with_reducible refine A3 (fun _ => ?_) (fun _ => ?_) <;> try (exfalso; omega)) | simp -dsimp (disch := omega) only [↓EA, EB, Nat.reduceEqDiff, Nat.reduceAdd, Nat.reduceLeDiff, ↓reduceIte, eq_self, *, o.len, o.ixs, o.ld, Az]))
  ·have Hx := Hid.mk (show (atI S (n : Int)).D ≤ c by omega)
   refine Te x u (i := (n : Int)) (fo := 2) { atI S (n : Int) with T := c } m y (by decide) rfl rfl fun h2 d k2 g => ?_
   have z := Ab8 hp x a1 g
   rw [Int.toNat_natCast] at d
   have s := d.rd
   have a6 : (S.set n { atI S (n : Int) with T := c }).length = S.length := List.length_set ..
   clear g
   cases plain
   ·have K1 := Hid.mk d
    clear d
    (repeat' simp -dsimp (disch := omega) only [↓EA, EB, Nat.reduceEqDiff, ↓reduceIte, eq_self, *])
    exact Next.mk (n + 1) ⟨z, by omega, rfl, rfl, rfl, rfl, by rw [f.out, if_pos Hx.out]; simpa using K1.out⟩ (by omega)
   ·have K1 := Hid.mk d
    clear d
    (repeat' simp -dsimp (disch := omega) only [↓EA, EB, Nat.reduceEqDiff, ↓reduceIte, eq_self, *, s.ixs])
    refine Te K1.out u (i := (n : Int)) (fo := 4) { atI S (n : Int) with T := c, J := 0 } m (by omega) (by decide) rfl (by rw [Vh _ (by omega)]; rfl) fun h3 d k2 g => ?_
    have p3 := Ab8 z K1.out r g
    rw [Int.toNat_natCast, List.set_set] at d
    have p := d.rd
    have a5 : (S.set n { atI S (n : Int) with T := c, J := 0 }).length = S.length := List.length_set ..
    have K2 := Hid.mk d
    clear d g
    (repeat' simp -dsimp (disch := omega) only [↓EA, EB, Nat.reduceEqDiff, ↓reduceIte, eq_self, *, p.ixs])
    refine Te K2.out u (i := (n : Int)) (fo := 5) { atI S (n : Int) with T := c, J := 0, Q := 1 } m (by omega) (by decide) rfl (by rw [Vh _ (by omega)]; rfl) fun h4 d k2 g => ?_
    have p4 := Ab8 p3 K2.out t g
    rw [Int.toNat_natCast, List.set_set] at d
    have K3 := Hid.mk d
    clear d g
    (repeat' simp -dsimp (disch := omega) only [↓EA, EB, Nat.reduceEqDiff, ↓reduceIte, eq_self, *])
    exact Next.mk (n + 1) ⟨p4, by omega, rfl, rfl, rfl, rfl, by rw [f.out, if_pos Hx.out]; simpa using K3.out⟩ (by omega)
  ·have Hx := Hid.mk (show ¬ (atI S (n : Int)).D ≤ c by omega)
   refine Te x u (i := (n : Int)) (fo := 2) { atI S (n : Int) with T := 24 } m y (by decide) rfl rfl fun h2 d k2 g => ?_
   have z := Ab8 hp x a1 g
   rw [Int.toNat_natCast] at d
   have s := d.rd
   have a6 : (S.set n { atI S (n : Int) with T := 24 }).length = S.length := List.length_set ..
   clear g
   cases plain
   ·have K1 := Hid.mk d
    clear d
    (repeat' simp -dsimp (disch := omega) only [↓EA, EB, Nat.reduceEqDiff, ↓reduceIte, eq_self, *])
    exact Next.mk (n + 1) ⟨z, by omega, rfl, rfl, rfl, rfl, by rw [f.out, if_neg Hx.out]; simpa using K1.out⟩ (by omega)
   ·have K1 := Hid.mk d
    clear d
    (repeat' simp -dsimp (disch := omega) only [↓EA, EB, Nat.reduceEqDiff, ↓reduceIte, eq_self, *, s.ixs])
    refine Te K1.out u (i := (n : Int)) (fo := 4) { atI S (n : Int) with T := 24, J := 0 } m (by omega) (by decide) rfl (by rw [Vh _ (by omega)]; rfl) fun h3 d k2 g => ?_
    have p3 := Ab8 z K1.out r g
    rw [Int.toNat_natCast, List.set_set] at d
    have p := d.rd
    have a5 : (S.set n { atI S (n : Int) with T := 24, J := 0 }).length = S.length := List.length_set ..
    have K2 := Hid.mk d
    clear d g
    (repeat' simp -dsimp (disch := omega) only [↓EA, EB, Nat.reduceEqDiff, ↓reduceIte, eq_self, *, p.ixs])
    refine Te K2.out u (i := (n : Int)) (fo := 5) { atI S (n : Int) with T := 24, J := 0, Q := 1 } m (by omega) (by decide) rfl (by rw [Vh _ (by omega)]; rfl) fun h4 d k2 g => ?_
    have p4 := Ab8 p3 K2.out t g
    rw [Int.toNat_natCast, List.set_set] at d
    have K3 := Hid.mk d
    clear d g
    (repeat' simp -dsimp (disch := omega) only [↓EA, EB, Nat.reduceEqDiff, ↓reduceIte, eq_self, *])
    exact Next.mk (n + 1) ⟨p4, by omega, rfl, rfl, rfl, rfl, by rw [f.out, if_neg Hx.out]; simpa using K3.out⟩ (by omega)
 ·have e : n = L.length := by omega
  subst e
  (repeat' (first | (with_reducible refine A3 (fun _ => ?_) (fun _ => ?_) <;> try (exfalso; omega)) | simp -dsimp (disch := omega) only [↓EA, EB, Nat.reduceEqDiff, ↓reduceIte, eq_self, *, o.len]))
  first
   | exact hp.ex
   | exact ⟨hp.ex, x⟩
end Go.L.Try
namespace Go.L.Try
open Go Go.L
variable {E : Env}
theorem N3 (l : List Mw) (turn : Int) (plain : Bool) : (set17 l turn plain).length = (setP l 4 turn).length := Th _ _ _ _
theorem Vu (l : List Mw) (turn : Int) (plain : Bool) {i : Nat} (hi : i < (setP l 4 turn).length) : atI (set17 l turn plain) (i : Int) = L9 turn plain i (atI (setP l 4 turn) (i : Int)) := by
 rw [Ax (by rw [N3]; exact hi), Ax hi]
 unfold set17 Iv
 rw [List.getElem_mapIdx, if_pos hi]
theorem Awt {turn : Int} {plain : Bool} {i : Nat} {t : Af} (s : Ave t) (hok : F6 t) : F6 (L9 turn plain i t) ∧ 0 < (L9 turn plain i t).T ∧ (L9 turn plain i t).T ∣ 24 := by
 obtain ⟨⟨e, l, r⟩, w4⟩ := hok
 have z := Auz turn i
 have v := s.D
 have o := s.C
 have n := s.Q
 have u := s.J
 have x := s.P
 have j : (L9 turn plain i t).T = 4 ∨ (L9 turn plain i t).T = 6 ∨ (L9 turn plain i t).T = 8 ∨ (L9 turn plain i t).T = 12 ∨ (L9 turn plain i t).T = 24 := by
  have g : (L9 turn plain i t).T = if t.D ≤ c17 turn i then c17 turn i else 24 := rfl
  rw [g]
  split <;> omega
 have f : t.D ≤ (L9 turn plain i t).T := by
  show t.D ≤ (if t.D ≤ c17 turn i then c17 turn i else 24)
  split <;> omega
 have m : 0 ≤ (L9 turn plain i t).J ∧ (L9 turn plain i t).J ≤ t.J := by
  show 0 ≤ (if plain = true then 0 else t.J) ∧ (if plain = true then 0 else t.J) ≤ t.J
  split <;> omega
 have p : 1 ≤ (L9 turn plain i t).Q ∧ (L9 turn plain i t).Q ≤ t.C := by
  show 1 ≤ (if plain = true then 1 else t.Q) ∧ (if plain = true then 1 else t.Q) ≤ t.C
  split <;> omega
 have a : (L9 turn plain i t).C = t.C := rfl
 have c : (L9 turn plain i t).D = t.D := rfl
 have d : (L9 turn plain i t).P = t.P := rfl
 have y : (L9 turn plain i t).name = t.name := rfl
 refine ⟨⟨⟨e, l, ?_⟩, ?_⟩, by omega, ?_⟩
 ·rw [a, c, d]
  refine ⟨?_, ?_, ?_, ?_, ?_, ?_⟩ <;> omega
 ·unfold Jc
  rw [a, c]
  omega
 ·rcases j with h | h | h | h | h <;> rw [h] <;> decide
theorem Wx (l : List Mw) (turn : Int) (plain : Bool) : Qt (set17 l turn plain) ∧ (∀ t ∈ set17 l turn plain, 0 < t.T ∧ t.T ∣ 24) ∧ (∀ t ∈ set17 l turn plain, t.name.size = 2) := by
 have s := Aiz l (most := 4) turn (by decide) (by decide)
 have u := Uf l (most := 4) (turn := turn) (by decide)
 obtain ⟨p, h2, r⟩ := valid_iff.1 s
 have g : ∀ t ∈ set17 l turn plain, ∃ (i : Nat), i < (setP l 4 turn).length ∧ t = L9 turn plain i (atI (setP l 4 turn) (i : Int)) := fun t d => by
  obtain ⟨i, e, rfl⟩ := List.getElem_of_mem d
  rw [N3] at e
  exact ⟨i, e, by rw [← Vu l turn plain e, Ax (by rw [N3]; exact e)]⟩
 have c : ∀ t ∈ set17 l turn plain, F6 t ∧ (0 < t.T ∧ t.T ∣ 24) ∧ t.name.size = 2 := fun t d => by
  obtain ⟨i, e, rfl⟩ := g t d
  have n := Aj (l := setP l 4 turn) (i := (i : Int)) (by omega) (by omega)
  have o := Yy (l := l) (most := 4) (turn := turn) (by decide) (by decide) n
  obtain ⟨a, b⟩ := Awt (turn := turn) (plain := plain) (i := i) o (h2 _ n)
  exact ⟨a, b, o.name⟩
 refine ⟨valid_iff.2 ⟨by rw [N3]; exact p, fun t d => (c t d).1, fun j k f m => ?_⟩, fun t d => (c t d).2.1, fun t d => (c t d).2.2⟩
 rw [N3] at m
 rw [Vu l turn plain (by omega), Vu l turn plain m]
 exact r j k f m
end Go.L.Try