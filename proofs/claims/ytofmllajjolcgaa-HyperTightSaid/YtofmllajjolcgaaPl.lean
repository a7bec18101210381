/- NUMBERS, AND TICKS, OF A PERIOD: num.Gcd, num.Lcm, load.Period, hyper.ticks. -/
import Derived.Test.YtofmllajjolcgaaPh
import Derived.Test.YtofmllajjolcgaaPc
import Derived.Test.YtofmllajjolcgaaVc
import Derived.Test.YtofmllajjolcgaaPd
set_option linter.unusedVariables false
set_option linter.unusedSimpArgs false
set_option maxRecDepth 100000
set_option maxHeartbeats 2000000
namespace Go.L.Try
open Go Go.L
variable {E : Env}
theorem numGcd (hE : Laid E) (h : Heap) {a b : Int} (ha : u64in a) (hb : u64in b) :
  callW E (.func (.func n_num_Gcd) #[] #[]) [.int .u64 a, .int .u64 b] h = some (.int .u64 (gcdI a b), h, []) := by
 refine fn_same hE.num_Gcd rfl (by simp) ?_
 simp only [argsF]
 unfold u64in at ha hb
 (repeat' simp -dsimp (disch := omega) only [↓EA, EB, Nat.reduceEqDiff, ↓reduceIte, reduceCtorEq, eq_self, *])
 refine WO.loop (α := Int × Int) (fun s fr h' => h' = h ∧ get fr 0 = .int .u64 s.1 ∧ get fr 1 = .int .u64 s.2 ∧ 0 ≤ s.1 ∧ 0 ≤ s.2 ∧ gcdI s.1 s.2 = gcdI a b) (fun s => s.2.toNat) ?_ (a, b) ⟨rfl, rfl, rfl, ha.1, hb.1, rfl⟩
 rintro ⟨x, y⟩ fr h' ⟨rfl, g0, g1, hx, hy, hg⟩
 dsimp only at g0 g1 hx hy hg
 unfold c_num_Gcd_l0
 have Hg := Hid.mk hg
 clear hg
 have hm : x.tmod y = x % y := Int.tmod_eq_emod_of_nonneg hx
 (repeat' (first | (with_reducible refine A3 (fun _ => ?_) (fun _ => ?_) <;> try (exfalso; omega)) | simp -dsimp (disch := omega) only [↓EA, EB, Nat.reduceEqDiff, ↓reduceIte, reduceCtorEq, eq_self, *]))
 ·rw [← Hg.out]
  have : y = 0 := by omega
  rw [this, gcd_zero _ hx]
 ·have h1 := Int.emod_nonneg x (show y ≠ 0 by omega)
  have h2 := Int.emod_lt_of_pos x (show 0 < y by omega)
  exact Next.mk (y, x % y) ⟨rfl, rfl, rfl, hy, h1, by rw [← Hg.out]; exact gcd_step x y hx (by omega)⟩ (by simp only []; omega)
theorem numLcm (hE : Laid E) (h : Heap) {a b : Int} (ha : u64in a) (hb : u64in b) (ha0 : 0 < a) (hb0 : 0 < b) :
  callW E (.func (.func n_num_Lcm) #[] #[]) [.int .u64 a, .int .u64 b] h = some (if lcmI a b < 18446744073709551616 then .tuple #[.int .u64 (lcmI a b), .bool true] else .tuple #[.int .u64 0, .bool false], h, []) := by
 have hg := gcd_pos a b ha0 hb.1
 have q1 := numGcd hE h ha hb
 have h1 : 0 ≤ a / gcdI a b := Int.ediv_nonneg ha.1 (by omega)
 have h2 : a / gcdI a b ≤ a := Int.ediv_le_self _ ha.1
 have q2 := numMul hE h (a := a / gcdI a b) (b := b) ⟨h1, by have := ha.2; omega⟩ hb
 rw [lcm_mul a b ha0 hb0] at q2
 have hq : a.tdiv (gcdI a b) = a / gcdI a b := Int.tdiv_eq_ediv_of_nonneg ha.1
 unfold u64in at ha hb
 refine fn_same hE.num_Lcm rfl (by simp) ?_
 simp only [argsF]
 generalize lcmI a b = c at *
 generalize a / gcdI a b = d at *
 generalize gcdI a b = g at *
 by_cases hc : c < 18446744073709551616
 ·rw [if_pos hc] at q2 ⊢
  (repeat' (first | (with_reducible refine A2 (fun _ => ?_) (fun _ => ?_) <;> try (exfalso; omega)) | (with_reducible refine A3 (fun _ => ?_) (fun _ => ?_) <;> try (exfalso; omega)) | simp -dsimp (disch := omega) only [↓EA, EB, Nat.reduceEqDiff, ↓reduceIte, reduceCtorEq, eq_self, *]))
 ·rw [if_neg hc] at q2 ⊢
  (repeat' (first | (with_reducible refine A2 (fun _ => ?_) (fun _ => ?_) <;> try (exfalso; omega)) | (with_reducible refine A3 (fun _ => ?_) (fun _ => ?_) <;> try (exfalso; omega)) | simp -dsimp (disch := omega) only [↓EA, EB, Nat.reduceEqDiff, ↓reduceIte, reduceCtorEq, eq_self, *]))
def perV (o : Option Int) : Value := match o with
 | some p => .tuple #[.int .u64 p, .bool true]
 | none => .tuple #[.int .u64 0, .bool false]
theorem fold_at {l : List Task} {n : Nat} (h : n < l.length) (p : Int) : lcmFold (l.drop n) p = if lcmI p (atI l (n : Int)).T < 18446744073709551616 then lcmFold (l.drop (n + 1)) (lcmI p (atI l (n : Int)).T) else none := by
 rw [List.drop_eq_getElem_cons h, lcmFold, atI_nat h]
theorem loadPeriod (hE : Laid E) {h : Heap} {vl : Value} {l : List Task} (hl : Rd 7 encT h vl l) (hT : ∀ t ∈ l, t.T ≤ 4611686018427387904) :
  callW E (.func (.func n_load_Period) #[] #[]) [vl] h = some (perV (periodP l), h, []) := by
 refine fn_same hE.load_Period rfl (by simp) ?_
 simp only [argsF]
 have few := hl.few
 (repeat' simp -dsimp (disch := omega) only [↓EA, EB, Nat.reduceEqDiff, ↓reduceIte, reduceCtorEq, eq_self, *, hl.len])
 refine WO.loop (fun n fr h' => Pre h h' ∧ n ≤ l.length ∧ get fr 0 = vl ∧ get fr 4 = .int .u64 1 ∧ get fr 5 = .bool ((l.take n).all fun t => decide (1 ≤ t.T)) ∧ get fr 10 = vl ∧ get fr 11 = .int .i64 l.length ∧ get fr 12 = .int .i64 n) (fun n => l.length - n) ?_ 0 ⟨Pre.refl _, Nat.zero_le _, rfl, rfl, rfl, rfl, rfl, rfl⟩
 rintro n fr h' ⟨hp, hn, g0, g4, g5, g10, g11, g12⟩
 have hl' := hl.pre hp
 unfold c_load_Period_l0
 rcases Nat.lt_or_ge n l.length with hlt | hge
 ·have e : (l.take (n + 1)).all (fun t => decide (1 ≤ t.T)) = ((l.take n).all (fun t => decide (1 ≤ t.T)) && decide (1 ≤ (atI l (n : Int)).T)) := by
   rw [take_snoc hlt, List.all_append]; simp
  have He := Hid.mk e
  clear e
  generalize (l.take n).all (fun t => decide (1 ≤ t.T)) = b at *
  cases b
  ·(repeat' (first | (with_reducible refine A3 (fun _ => ?_) (fun _ => ?_) <;> try (exfalso; omega)) | simp -dsimp (disch := omega) only [↓EA, EB, Nat.reduceEqDiff, Nat.reduceAdd, ↓reduceIte, reduceCtorEq, newCells, eq_self, *, hl'.ixs, hl'.lda, encT, hp.le]))
   exact Next.mk (n + 1) ⟨hp.app' _, by omega, rfl, rfl, by rw [He.out]; rfl, rfl, rfl, rfl⟩ (by omega)
  ·(repeat' (first | (with_reducible refine A3 (fun _ => ?_) (fun _ => ?_) <;> try (exfalso; omega)) | simp -dsimp (disch := omega) only [↓EA, EB, Nat.reduceEqDiff, Nat.reduceAdd, ↓reduceIte, reduceCtorEq, newCells, eq_self, *, hl'.ixs, hl'.lda, encT, hp.le]))
   all_goals exact Next.mk (n + 1) ⟨hp.app' _, by omega, rfl, rfl, by rw [He.out, Bool.true_and]; rfl, rfl, rfl, rfl⟩ (by omega)
 ·have e : l.take n = l := List.take_of_length_le (by omega)
  rw [e] at g5
  have hall : ∀ b, (l.all fun t => decide (1 ≤ t.T)) = b → (b = true → periodP l = lcmFold l 1) ∧ (b = false → periodP l = none) := fun b hb => by
   unfold periodP; rw [hb]; cases b <;> simp
  have hpos : (l.all fun t => decide (1 ≤ t.T)) = true → ∀ t ∈ l, 1 ≤ t.T := fun h t ht => by have := List.all_eq_true.1 h t ht; simpa using this
  generalize (l.all fun t => decide (1 ≤ t.T)) = b at *
  obtain ⟨hb1, hb2⟩ := hall b rfl
  have Hb1 := Hid.mk hb1
  have Hb2 := Hid.mk hb2
  have Hpos := Hid.mk hpos
  have HT := Hid.mk hT
  clear hb1 hb2 hall e hpos hT
  (repeat' (first | (with_reducible refine A3 (fun _ => ?_) (fun _ => ?_) <;> try (exfalso; omega)) | simp -dsimp (disch := omega) only [↓EA, EB, Nat.reduceEqDiff, ↓reduceIte, reduceCtorEq, eq_self, *, hl'.len]))
  refine WO.loop (fun n fr h' => Pre h h' ∧ n ≤ l.length ∧ get fr 23 = vl ∧ get fr 24 = .int .i64 l.length ∧ get fr 25 = .int .i64 n ∧ ∃ p ok, get fr 4 = .int .u64 p ∧ get fr 5 = .bool ok ∧ u64in p ∧ (ok = true → 0 < p ∧ b = true ∧ periodP l = lcmFold (l.drop n) p) ∧ (ok = false → periodP l = none)) (fun n => l.length - n) ?_ 0 ⟨hp, Nat.zero_le _, rfl, rfl, rfl, 1, b, rfl, rfl, by unfold u64in; omega, fun e => ⟨by decide, e, Hb1.out e⟩, Hb2.out⟩
  clear hp hl' hge hn g0 g4 g5 g10 g11 g12
  rintro n fr h' ⟨hp, hn, g23, g24, g25, p, ok, g4, g5, hpu, hok1, hok2⟩
  have hl' := hl.pre hp
  unfold c_load_Period_l1
  have Hok1 := Hid.mk hok1
  have Hok2 := Hid.mk hok2
  clear hok1 hok2
  rcases Nat.lt_or_ge n l.length with hlt | hge
  ·cases ok
   ·(repeat' (first | (with_reducible refine A3 (fun _ => ?_) (fun _ => ?_) <;> try (exfalso; omega)) | simp -dsimp (disch := omega) only [↓EA, EB, Nat.reduceEqDiff, Nat.reduceAdd, ↓reduceIte, newCells, eq_self, *, hl'.ixs, hl'.lda, encT, hp.le]))
    exact Next.mk (n + 1) ⟨hp.app' _, by omega, rfl, rfl, rfl, p, false, rfl, rfl, hpu, (fun e => nomatch e), fun _ => Hok2.out rfl⟩ (by omega)
   ·obtain ⟨hp0, hbt, hper⟩ := Hok1.out rfl
    have ht1 := Hpos.out hbt _ (atI_mem (l := l) (i := (n : Int)) (by omega) (by omega))
    have ht2 := HT.out _ (atI_mem (l := l) (i := (n : Int)) (by omega) (by omega))
    have hq := fun h => numLcm hE h (a := p) (b := (atI l (n : Int)).T) hpu ⟨by omega, by omega⟩ hp0 (by omega)
    have hc0 := lcm_pos p (atI l (n : Int)).T hp0 (by omega)
    rw [fold_at hlt] at hper
    have Hper := Hid.mk hper
    clear hper
    generalize hc : lcmI p (atI l (n : Int)).T = c at *
    have Hc := Hid.mk hc
    clear hc
    by_cases hlt2 : c < 18446744073709551616
    ·simp only [if_pos hlt2] at hq
     (repeat' (first | (with_reducible refine A3 (fun _ => ?_) (fun _ => ?_) <;> try (exfalso; omega)) | simp -dsimp (disch := omega) only [↓EA, EB, Nat.reduceEqDiff, Nat.reduceAdd, ↓reduceIte, newCells, eq_self, *, hl'.ixs, hl'.lda, encT, hp.le]))
     refine Next.mk (n + 1) ⟨hp.app' _, by omega, rfl, rfl, rfl, c, true, rfl, rfl, ⟨by omega, hlt2⟩, fun _ => ⟨hc0, hbt, ?_⟩, (fun e => nomatch e)⟩ (by omega)
     rw [Hper.out, if_pos hlt2]
    ·simp only [if_neg hlt2] at hq
     (repeat' (first | (with_reducible refine A3 (fun _ => ?_) (fun _ => ?_) <;> try (exfalso; omega)) | simp -dsimp (disch := omega) only [↓EA, EB, Nat.reduceEqDiff, Nat.reduceAdd, ↓reduceIte, newCells, eq_self, *, hl'.ixs, hl'.lda, encT, hp.le]))
     refine Next.mk (n + 1) ⟨hp.app' _, by omega, rfl, rfl, rfl, 0, false, rfl, rfl, by unfold u64in; omega, (fun e => nomatch e), fun _ => ?_⟩ (by omega)
     rw [Hper.out, if_neg hlt2]
  ·have e : n = l.length := by omega
   subst e
   rw [List.drop_length] at Hok1
   cases ok
   ·rw [Hok2.out rfl, show perV none = .tuple #[.int .u64 0, .bool false] from rfl]
    (repeat' (first | (with_reducible refine A3 (fun _ => ?_) (fun _ => ?_) <;> try (exfalso; omega)) | simp -dsimp (disch := omega) only [↓EA, EB, Nat.reduceEqDiff, ↓reduceIte, eq_self, *]))
   ·rw [(Hok1.out rfl).2.2, show perV (lcmFold [] p) = .tuple #[.int .u64 p, .bool true] from rfl]
    (repeat' (first | (with_reducible refine A3 (fun _ => ?_) (fun _ => ?_) <;> try (exfalso; omega)) | simp -dsimp (disch := omega) only [↓EA, EB, Nat.reduceEqDiff, ↓reduceIte, eq_self, *]))
end Go.L.Try
namespace Go.L.Try
open Go Go.L
variable {E : Env}
def IterT (E : Env) (g : Value) (base : Heap → Prop) (vals : List (List Value)) : Prop :=
 ∀ (h1 : Heap) (L : Nat) (W : Nat → Prop) (J : Nat → Heap → Prop) (Stop : Heap → Prop), (∀ k h, J k h → base h) → J 0 h1 → (∀ k h h3, J k h → Tr h1 h h3 → J k h3) → (∀ h h3, Stop h → Tr h1 h h3 → Stop h3) →
  (∀ k h a, vals[k]? = some a → J k h → WX W (callW E (.func (.yield L) #[] #[]) a h) (fun v h' => (v = .bool true ∧ J (k + 1) h') ∨ (v = .bool false ∧ Stop h'))) →
  WX W (callW E g [.func (.yield L) #[] #[]] h1) (fun _ h' => J vals.length h' ∨ Stop h')
def tickV (T p : Int) : List (List Value) := (List.range (manyP T p)).map fun (k : Nat) => [Value.int .i64 ((k : Int) * T)]
theorem ticks_iter (hE : Laid E) {T p : Int} (hT : 1 ≤ T) (hT2 : T ≤ 2147483647) (hp : 0 ≤ p) (hp2 : p ≤ 4611686018427387904) (b1 b2 : Nat) :
  IterT E (.func (.func n_hyper_ticks_f1) #[] #[.pointer (some ⟨b1, 0, none⟩), .pointer (some ⟨b2, 0, none⟩)]) (fun h => h[b1]? = some (.cells [.int .u64 p] false) ∧ h[b2]? = some (.cells [.int .i64 T] false)) (tickV T p) := by
 intro h1 L W J Stop hJ h0 hJT hST step
 refine fn_tr hE.keep hE.hyper_ticks_f1 rfl (by simp) ?_
 simp only [List.cons_append, List.nil_append, argsF]
 have HJ := Hid.mk hJ
 have HJT := Hid.mk hJT
 have HST := Hid.mk hST
 have Hst := Hid.mk step
 have H0 := Hid.mk h0
 clear hJ hJT hST step h0
 (repeat' simp -dsimp (disch := omega) only [↓EA, EB, Nat.reduceEqDiff, Nat.reduceAdd, ↓reduceIte, reduceCtorEq, eq_self, *])
 refine WO.loop (fun (k : Nat) fr h' => J k h' ∧ k ≤ manyP T p ∧ get fr 0 = .func (.yield L) #[] #[] ∧ get fr 1 = .pointer (some ⟨b1, 0, none⟩) ∧ get fr 2 = .pointer (some ⟨b2, 0, none⟩) ∧ get fr 4 = .int .i64 ((k : Int) * T)) (fun k => manyP T p - k) ?_ 0 ⟨H0.out, Nat.zero_le _, rfl, rfl, rfl, by simp [get]⟩
 rintro k fr h' ⟨hj, hk, g0, g1, g2, g4⟩
 obtain ⟨hb1, hb2⟩ := HJ.out k h' hj
 have hm := many_le (T := T) (p := p) hT k
 have hpos : 0 ≤ (k : Int) * T := Int.mul_nonneg (by omega) (by omega)
 have hprev : (k : Int) * T ≤ 4611686018427387904 + 2147483647 := by
  cases k with
  | zero => simp
  | succ k =>
   have := (many_le (T := T) (p := p) hT k).1 (by omega)
   rw [Int.natCast_add, Int.add_mul]; omega
 have esucc : ((k + 1 : Nat) : Int) * T = (k : Int) * T + T := by rw [Int.natCast_add, Int.add_mul]; omega
 unfold c_hyper_ticks_f1_l0
 have hlen : (tickV T p).length = manyP T p := by simp [tickV]
 rcases Nat.lt_or_ge k (manyP T p) with hlt | hge
 ·have hlt2 := hm.1 hlt
  have hv : (tickV T p)[k]? = some [.int .i64 ((k : Int) * T)] := by
   unfold tickV; rw [List.getElem?_map, List.getElem?_range hlt]; rfl
  have hst := Hid.mk (Hst.out k h' _ hv hj)
  have Hes := Hid.mk esucc
  clear hv Hst H0 hj hm esucc
  generalize (k : Int) * T = t at *
  (repeat' simp -dsimp (disch := omega) only [↓EA, EB, Nat.reduceEqDiff, ↓reduceIte, reduceCtorEq, eq_self, *])
  refine WX.mono hst.out (fun b h => h) fun v h2 hx => ?_
  rcases hx with ⟨rfl, hj2⟩ | ⟨rfl, hs2⟩
  ·obtain ⟨c1, c2⟩ := HJ.out (k + 1) h2 hj2
   have Hj2 := Hid.mk hj2
   clear hj2 hst hb1 hb2
   (repeat' simp -dsimp (disch := omega) only [↓EA, EB, Nat.reduceEqDiff, ↓reduceIte, reduceCtorEq, eq_self, *])
   exact Next.mk (k + 1) ⟨Hj2.out, by omega, rfl, rfl, rfl, by rw [Hes.out]; rfl⟩ (by omega)
  ·have Hs2 := Hid.mk hs2
   clear hs2 hst hb1 hb2
   (repeat' simp -dsimp (disch := omega) only [↓EA, EB, Nat.reduceEqDiff, ↓reduceIte, reduceCtorEq, eq_self, *])
   exact fun h3 ht => .inr (HST.out _ _ Hs2.out ht)
 ·have e : k = manyP T p := by omega
  have hge2 : ¬ (k : Int) * T < p := fun h => by have := hm.2 h; omega
  have Hj := Hid.mk hj
  clear hj hm
  have HL := Hid.mk (e.trans hlen.symm)
  clear e hlen
  generalize (k : Int) * T = t at *
  (repeat' simp -dsimp (disch := omega) only [↓EA, EB, Nat.reduceEqDiff, ↓reduceIte, reduceCtorEq, eq_self, *])
  exact fun h3 ht => .inl (by rw [← HL.out]; exact HJT.out _ _ _ Hj.out ht)
def TickV (m : Nat) (T p : Int) : Heap → Value → Prop := Clo2 m n_hyper_ticks_f1 (fun _ v => v = .int .u64 p) (fun _ v => v = .int .i64 T)
theorem ticksS (hE : Laid E) (h : Heap) (T p : Int) :
  ∃ v ys, callW E (.func (.func n_hyper_ticks) #[] #[]) [.int .i64 T, .int .u64 p] h = some (v, h ++ ys, []) ∧ TickV h.length T p (h ++ ys) v := by
 refine fn_new hE.hyper_ticks rfl (Clo2.movable (movable_eq rfl) (movable_eq rfl)) (by simp) ?_
 simp only [argsF]
 (repeat' simp -dsimp (disch := omega) only [↓EA, EB, Nat.reduceEqDiff, ↓reduceIte, reduceCtorEq, newCells, eq_self, *])
 exact ⟨⟨_, rfl⟩, h.length + 1, h.length, _, _, rfl, ⟨by omega, by omega⟩, ⟨by rw [geta]; rfl, by rw [geta0]; rfl⟩, rfl, rfl⟩
end Go.L.Try
set_option maxHeartbeats 4000000
namespace Go.L.Try
open Go Go.L
variable {E : Env}
def nilJ (j : Job) : NV Job := ⟨j, .slice none 0 0⟩
def Out17 (m B L : Nat) (A : List Job) (hh : Heap) : Prop := ∃ v, hh[m]? = some (.cells [v] false) ∧ OwnT (m + 1) 5 (encN hdJ) hh v (A.map nilJ) ∧ (A ≠ [] → blk v < B ∨ L < blk v)
theorem Out17.tr {m B L : Nat} {A : List Job} {H hh h3 : Heap} (o : Out17 m B L A hh) {v0 : Value} (hm : m < H.length) (hB : B ≤ H.length) (hL : H.length ≤ L + 1) (h0 : H[m]? = some (.cells [v0] false)) (hv0 : v0 ≠ .slice none 0 0 → blk v0 < B) (t : Tr H hh h3) : Out17 m B L A h3 ∧ ∀ b, b < H.length → h3[b]? = hh[b]? := by
 rcases t with rfl | ⟨rfl, hw⟩
 ·exact ⟨o, fun _ _ => rfl⟩
 ·have hk : ∀ b, b < H.length → (hh.take H.length)[b]? = hh[b]? := fun b hb => by rw [List.getElem?_take, if_pos hb]
  refine ⟨?_, hk⟩
  obtain ⟨v, h1, h2, h3⟩ := o
  refine ⟨v, by rw [hk m hm]; exact h1, ?_, h3⟩
  by_cases hA : A = []
  ·subst hA
   exact h2.keep fun hn => absurd rfl hn
  ·have hA' : A.map nilJ ≠ [] := by simpa using hA
   refine h2.keep fun _ => hk _ ?_
   rcases hw m hm with h4 | h4
   ·rw [h1, h0] at h4
    cases h4
    have := hv0 (fun e => hA' (by rw [e] at h2; exact own_nil h2))
    omega
   ·rw [h1] at h4
    exact own_noNew h2 hA' h4
def jobsH (l : List Task) (cap : Int) : List Job × Int × Int :=
 if (checkAllP l).2 ≠ 0 then ([], 0, 1) else match periodP l with
 | none => ([], 0, 15)
 | some p => if cap < p then ([], 0, 15) else if 4096 < (allH l p l.length).length then ([], 0, 15) else (allH l p l.length, p, 0)
def JobsR (m : Nat) (r : List Job × Int × Int) (h : Heap) (v : Value) : Prop := ∃ vs, v = .tuple vs.toArray ∧ Each h [fun h v => RdNO m 5 hdJ Job.cuts h v r.1, fun _ v => v = .int .u64 r.2.1, fun _ v => v = .int .i64 r.2.2] vs
theorem JobsR.movable {m : Nat} (r : List Job × Int × Int) : Movable m (JobsR m r) 2 :=
 Movable.tuples (k := 1) (fun R hR => by
  simp only [List.mem_cons, List.not_mem_nil, or_false] at hR
  rcases hR with rfl | rfl | rfl
  ·exact RdNO.movable (hd := hdJ) (cs := Job.cuts) (sz := 5) (fun _ => rfl) (fun _ => rfl) _
  ·exact movable_eq rfl
  ·exact movable_eq rfl) (by simp)
theorem allH_mono {l : List Task} {p : Int} {i : Nat} : ∀ {j : Nat}, i ≤ j → (allH l p i).length ≤ (allH l p j).length
  | 0, h => by have : i = 0 := by omega
               subst this; exact Nat.le_refl _
  | j + 1, h => by
    rcases Nat.lt_or_ge i (j + 1) with h1 | h1
    · have := allH_mono (l := l) (p := p) (i := i) (j := j) (by omega)
      show _ ≤ (allH l p j ++ _).length
      rw [LA]; omega
    · have : i = j + 1 := by omega
      subst this; exact Nat.le_refl _
structure St17 (h0 : Heap) (B L bx by' i : Nat) (t : Task) (p : Int) (lo : LObj) (A : List Job) (hh : Heap) : Prop where
 pre : Pre h0 hh
 len : L < hh.length
 b0 : hh[B]? = some (.cells [.int .i64 (i : Int)] false)
 b1 : hh[B + 1]? = some (.cells (encT t) false)
 b2 : hh[bx]? = some (.cells [.int .u64 p] false)
 b3 : hh[by']? = some (.cells [.int .i64 t.T] false)
 b4 : hh[L]? = some lo
 out : Out17 h0.length B L A hh
section
variable {h0 : Heap} {B L bx by' i : Nat} {t : Task} {p : Int} {lo : LObj} {A : List Job} {hh : Heap}
theorem St17.setL (s : St17 h0 B L bx by' i t p lo A hh) (hm : h0.length < B) (h1 : B + 2 ≤ bx) (h2 : B + 2 ≤ by') (h3 : bx < L) (h4 : by' < L) (lo' : LObj) : St17 h0 B L bx by' i t p lo' A (hh.set L lo') := by
 obtain ⟨a, b, c0, c1, c2, c3, c4, v, o1, o2, o3⟩ := s
 refine ⟨fun x o hx => ?_, by rw [List.length_set]; exact b, by rw [gets (by omega)]; exact c0, by rw [gets (by omega)]; exact c1, by rw [gets (by omega)]; exact c2, by rw [gets (by omega)]; exact c3, gset b, v, by rw [gets (by omega)]; exact o1, o2.keep fun hn => gets (by have := o3 (by simpa using hn); omega), o3⟩
 have := (GI.1 hx).1
 rw [gets (by omega)]; exact a x o hx
theorem St17.tr (s : St17 h0 B L bx by' i t p lo A hh) (hm : h0.length < B) (h1 : B + 2 ≤ bx) (h2 : B + 2 ≤ by') (h3 : bx < L) (h4 : by' < L) {H h3' : Heap} (hH : H.length = L + 1) {v0 : Value} (hc : H[h0.length]? = some (.cells [v0] false)) (hv0 : v0 ≠ .slice none 0 0 → blk v0 < B) (t' : Tr H hh h3') : St17 h0 B L bx by' i t p lo A h3' := by
 obtain ⟨o, hk⟩ := s.out.tr (by omega) (by omega) (by omega) hc hv0 t'
 have h5 := (hk L (by omega)).trans s.b4
 refine ⟨fun x y hx => ?_, (GI.1 h5).1, (hk _ (by omega)).trans s.b0, (hk _ (by omega)).trans s.b1, (hk _ (by omega)).trans s.b2, (hk _ (by omega)).trans s.b3, h5, o⟩
 have := (GI.1 hx).1
 rw [hk x (by omega)]; exact s.pre x y hx
end
theorem tr_grow {α : Type} {m sz : Nat} {enc : α → List Value} {hh h2 h3 : Heap} {v v2 : Value} {c : Nat} {l : List α} (hb : h2[c]? = some (.cells [v2] false)) (ho : OwnT m sz enc h2 v2 l) (hl : l ≠ []) (hf : hh.length ≤ blk v2) (hc : c < hh.length) (hold : hh[c]? = some (.cells [v] false)) (hv : v ≠ .slice none 0 0 → blk v < hh.length) (t : Tr hh h2 h3) : h3 = h2 := by
 rcases t with rfl | ⟨rfl, hw⟩
 ·rfl
 ·exfalso
  rcases hw c hc with h4 | h4
  ·rw [hb, hold] at h4
   cases h4
   have := hv fun e => hl (by rw [e] at ho; exact own_nil ho)
   omega
  ·rw [hb] at h4
   have := own_noNew ho hl h4
   omega
theorem jobs_round (hE : Laid E) {h0 : Heap} {B L bx by' i : Nat} (hm : h0.length < B) (h1 : B + 2 ≤ bx) (h2 : B + 2 ≤ by') (h3 : bx < L) (h4 : by' < L) {t : Task} {p : Int} {frL : Fr} (g11 : get frL 11 = .pointer (some ⟨h0.length, 0, none⟩)) (g12 : get frL 12 = .pointer (some ⟨B, 0, none⟩)) (g13 : get frL 13 = .pointer (some ⟨B + 1, 0, none⟩)) {A : List Job} {hh : Heap} (hA : A.length ≤ 4097)
  (s : St17 h0 B L bx by' i t p (.loop { state := .ready, pending := none, fr := frL, sz := 64, params := [45], assign := c_hyper_Jobs_l0, body := c_hyper_Jobs_l1 }) A hh) (x : Int) :
  WX (fun b => h0.length ≤ b) (callW E (.func (.yield L) #[] #[]) [.int .i64 x] hh) (fun v h' =>
   (v = .bool true ∧ A.length ≤ 4096 ∧ St17 h0 B L bx by' i t p (.loop { state := .ready, pending := none, fr := frL, sz := 64, params := [45], assign := c_hyper_Jobs_l0, body := c_hyper_Jobs_l1 }) (A ++ [⟨i, x, x, t.C, []⟩]) h') ∨
   (v = .bool false ∧ A.length = 4097 ∧ St17 h0 B L bx by' i t p (.loop { state := .done, pending := some (some 0), fr := frL, sz := 64, params := [45], assign := c_hyper_Jobs_l0, body := c_hyper_Jobs_l1 }) A h')) := by
 generalize hlo : LObj.loop { state := LoopState.ready, pending := none, fr := frL, sz := 64, params := [45], assign := c_hyper_Jobs_l0, body := c_hyper_Jobs_l1 } = lo at *
 refine WX.mono (wx_roundT hE.keep (r := { state := .ready, pending := none, fr := frL, sz := 64, params := [45], assign := c_hyper_Jobs_l0, body := c_hyper_Jobs_l1 }) (W := fun b => h0.length ≤ b ∧ b ≠ L) (Rr := fun e h3 => (A.length ≤ 4096 ∧ e = .normal ∧ St17 h0 B L bx by' i t p lo (A ++ [⟨i, x, x, t.C, []⟩]) h3) ∨ (A.length = 4097 ∧ e = .exit 0 ∧ St17 h0 B L bx by' i t p lo A h3)) (s.b4.trans (congrArg some hlo.symm)) rfl rfl rfl rfl (fun b hb => hb.2) ?_) (fun b hb => by rcases hb with hb | hb; exact hb.1; omega) ?_
 ·dsimp only
  have Hlo := Hid.mk hlo
  rw [hlo]
  generalize LObj.loop { state := LoopState.busy, pending := none, fr := frL, sz := 64, params := [45], assign := c_hyper_Jobs_l0, body := c_hyper_Jobs_l1 } = lb
  clear hlo
  unfold c_hyper_Jobs_l0
  (repeat' simp -dsimp (disch := omega) only [↓EA, EB, Nat.reduceEqDiff, ↓reduceIte, eq_self, *])
  have s2 := s.setL hm h1 h2 h3 h4 lb
  have Hs := Hid.mk s
  have hback : (hh.set L lb).set L lo = hh := by rw [List.set_set]; exact set_same s.b4
  have Hback := Hid.mk hback
  have hGl : (hh.set L lb).length = hh.length := List.length_set ..
  obtain ⟨_, hhlen, _, _, _, _, _, vo, ov1, ov2, ov3⟩ := s
  have Hov2 := Hid.mk ov2
  have hvlt : vo ≠ .slice none 0 0 → blk vo < hh.length := fun hn => ov2.lt (ov2.ne hn)
  have Hvlt := Hid.mk hvlt
  have Hov1 := Hid.mk ov1
  clear hback hvlt ov2 ov1 ov3
  obtain ⟨p2, len2, b0, b1, b2, b3, b4, v, o1, o2, o3⟩ := s2
  generalize hh.set L lb = G at *
  unfold c_hyper_Jobs_l1
  have hr := o2.rd
  have few := hr.few
  unfold encT at b1
  have Hl : (A.map nilJ).length = A.length := List.length_map ..
  have Hgl := Hid.mk hGl
  clear hGl
  have hkey : A.map nilJ ≠ [] → h0.length + 1 ≤ blk v ∧ (blk v < B ∨ L < blk v) := fun hn => ⟨o2.ge hn, o3 (by simpa using hn)⟩
  (repeat' (first | (with_reducible refine A3 (fun _ => ?_) (fun _ => ?_) <;> try (exfalso; omega)) | simp -dsimp (disch := omega) only [↓EA, EB, Nat.reduceEqDiff, Nat.reduceAdd, Nat.reduceLeDiff, Nat.reduceMul, ↓reduceIte, reduceCtorEq, newCells, bslV, eq_self, *, hr.len]))
  ·intro h3' ht
   rw [Hback.out] at ht
   have e : h3' = hh := by
    rcases ht with rfl | ⟨rfl, _⟩
    ·rfl
    ·rw [List.take_length]
   exact .inr ⟨by omega, by rw [e]; exact Hs.out⟩
  ·refine wx_app2 (sz := 5) (bytes := 56) (o2.app _) (p2.app' _) (Nat.le_succ _) (by simp; omega) (fun hn => by have := hkey hn; exact ⟨by omega, by omega⟩) (nilJ ⟨i, x, x, t.C, []⟩) ?_ rfl (by decide) (by decide) (by omega) ?_
   ·simp -dsimp (disch := omega) only [EB, Nat.reduceAdd, Nat.reduceMul, ↓reduceIte]
    rfl
   ·intro v2 h2' k1 k2 k3 k4 k5
    rw [LA, List.length_singleton] at k3 k4 k5
    have hk : ∀ b, b < G.length → b ≠ blk v ∨ A = [] → h2'[b]? = G[b]? := fun b hb hn => by
     rw [k5 b (by omega) (fun hne => by rcases hn with hn | hn; exact hn; subst hn; simp at hne), GL hb]
    have hne : ∀ b, b ≤ h0.length ∨ (B ≤ b ∧ b ≤ L) → b ≠ blk v ∨ A = [] := fun b hb => by
     by_cases hA0 : A = []
     ·exact .inr hA0
     ·refine .inl fun e => ?_
      have := hkey (by simpa using hA0)
      omega
    have m1 : h2'[h0.length]? = some (.cells [v] false) := (hk _ (by omega) (hne _ (by omega))).trans o1
    have m2 := (hk B (by omega) (hne _ (by omega))).trans b0
    have m3 := (hk (B + 1) (by omega) (hne _ (by omega))).trans b1
    have m4 := (hk bx (by omega) (hne _ (by omega))).trans b2
    have m5 := (hk by' (by omega) (hne _ (by omega))).trans b3
    have m6 := (hk L (by omega) (hne _ (by omega))).trans b4
    have ov2 := k1.rd.one
    have cv2 := k1.rd.cv
    have K1 := Hid.mk k1
    have K3 := Hid.mk k3
    have K2 := Hid.mk k2
    clear k1 k2 k3 k5 hk hne hkey o1 o2 o3 b0 b1 b2 b3 b4
    (repeat' simp -dsimp (disch := omega) only [↓EA, EB, Nat.reduceEqDiff, ↓reduceIte, reduceCtorEq, eq_self, *])
    have s3 : St17 h0 B L bx by' i t p lb (A ++ [⟨i, x, x, t.C, []⟩]) (h2'.set h0.length (.cells [v2] false)) := by
     refine ⟨fun y o hy => ?_, by rw [List.length_set]; omega, by rw [gets (by omega)]; exact m2, by rw [gets (by omega)]; exact m3, by rw [gets (by omega)]; exact m4, by rw [gets (by omega)]; exact m5, ?_, v2, gset (by omega), ?_, fun _ => .inr (by have := K3.out; omega)⟩
     ·have := (GI.1 hy).1
      rw [gets (by omega)]; exact K2.out y o hy
     ·rw [gets (by omega)]; exact m6
     ·have := K1.out
      rw [show (A ++ [(⟨i, x, x, t.C, []⟩ : Job)]).map nilJ = A.map nilJ ++ [nilJ ⟨i, x, x, t.C, []⟩] by simp]
      exact this.keep fun _ => gets (by have := K3.out; omega)
    refine ⟨by omega, fun h3' ht => ?_⟩
    have s4 := s3.setL hm h1 h2 h3 h4 lo
    obtain ⟨w, w1, w2, w3⟩ := s4.out
    have hw2 : w = v2 := by
     have e1 : ((h2'.set h0.length (.cells [v2] false)).set L lo)[h0.length]? = some (.cells [v2] false) := by rw [gets (by omega), gset (by omega)]
     rw [w1] at e1
     cases e1; rfl
    subst hw2
    have e := tr_grow w1 w2 (by simp) (by have := K3.out; have := Hgl.out; omega) (by have := Hgl.out; omega) Hov1.out Hvlt.out ht
    exact .inl ⟨by omega, by rw [e]; exact s4⟩
 ·rintro v h' ⟨e, h3', (⟨a1, rfl, a3⟩ | ⟨a1, rfl, a3⟩), rfl, rfl⟩
  ·exact .inl ⟨rfl, a1, a3⟩
  ·exact .inr ⟨rfl, a1, a3.setL hm h1 h2 h3 h4 _⟩
def OutF (m : Nat) (A : List Job) (hh : Heap) : Prop := ∃ v, hh[m]? = some (.cells [v] false) ∧ OwnT (m + 1) 5 (encN hdJ) hh v (A.map nilJ)
theorem tick_at {T p : Int} {k : Nat} {a : List Value} (h : (tickV T p)[k]? = some a) : k < manyP T p ∧ a = [.int .i64 ((k : Int) * T)] := by
 have h1 := (GI.1 h).1
 rw [show (tickV T p).length = manyP T p by simp [tickV]] at h1
 refine ⟨h1, ?_⟩
 unfold tickV at h
 rw [List.getElem?_map, List.getElem?_range h1] at h
 exact (Option.some.inj h).symm
theorem St17.fin {h0 : Heap} {B L bx by' i : Nat} {t : Task} {p : Int} {lo : LObj} {A : List Job} {hh : Heap} (s : St17 h0 B L bx by' i t p lo A hh) (hm : h0.length < B) (h1 : B + 2 ≤ bx) (h2 : B + 2 ≤ by') (h3 : bx < L) (h4 : by' < L) {H h3' : Heap} (hH : H.length = L) {v0 : Value} (hc : H[h0.length]? = some (.cells [v0] false)) (hv0 : v0 ≠ .slice none 0 0 → blk v0 < B) (t' : Tr H (hh.set L .dead) h3') : Pre h0 h3' ∧ h0.length < h3'.length ∧ OutF h0.length A h3' := by
 have s2 := s.setL hm h1 h2 h3 h4 .dead
 obtain ⟨o, hk⟩ := s2.out.tr (by omega) (by omega) (by omega) hc hv0 t'
 obtain ⟨v, o1, o2, _⟩ := o
 refine ⟨fun x y hx => ?_, (GI.1 o1).1, v, o1, o2⟩
 have := (GI.1 hx).1
 rw [hk x (by omega)]; exact s2.pre x y hx
theorem jobs_l2 (hE : Laid E) {W : Nat → Prop} {h0 : Heap} (hW : ∀ b, h0.length ≤ b → W b) {vl : Value} {l : List Task} (hl : Rd 7 encT h0 vl l) (hoks : ∀ t ∈ l, okTask t) {p : Int} (hp0 : 0 < p) (hp1 : p ≤ 4611686018427387904) {Q : Ex → Fr → Heap → Prop} {fr : Fr}
  (g9 : get fr 9 = .int .u64 p) (g11 : get fr 11 = .pointer (some ⟨h0.length, 0, none⟩)) (g34 : get fr 34 = vl) (g35 : get fr 35 = .int .i64 l.length) (g36 : get fr 36 = .int .i64 0)
  (hq : ∀ fr' h' A, get fr' 9 = .int .u64 p → get fr' 11 = .pointer (some ⟨h0.length, 0, none⟩) → Pre h0 h' → OutF h0.length A h' → ((4096 < A.length ∧ 4096 < (allH l p l.length).length) ∨ A = allH l p l.length) → A.length ≤ 4097 → Q (.exit 0) fr' h') :
  WO W (iterW (code (callW E) iterW 64 c_hyper_Jobs_l2) fr (h0 ++ [.cells [.slice none 0 0] false])) Q := by
 have few := hl.few
 refine WO.loop (fun (i : Nat) fr h' => Pre h0 h' ∧ h0.length < h'.length ∧ i ≤ l.length ∧ get fr 9 = .int .u64 p ∧ get fr 11 = .pointer (some ⟨h0.length, 0, none⟩) ∧ get fr 34 = vl ∧ get fr 35 = .int .i64 l.length ∧ get fr 36 = .int .i64 i ∧ OutF h0.length (allH l p i) h' ∧ (allH l p i).length ≤ 4097) (fun i => l.length - i) ?_ 0 ⟨Pre.app h0 _, by simp, Nat.zero_le _, g9, g11, g34, g35, g36, ⟨_, by rw [geta0]; rfl, OwnT.nil⟩, by simp [allH]⟩
 rintro i fr h' ⟨hp, hlen, hi, g9, g11, g34, g35, g36, ⟨v0, hc, ho⟩, hA⟩
 have hl' := hl.pre hp
 unfold c_hyper_Jobs_l2
 rcases Nat.lt_or_ge i l.length with hlt | hge
 ·have hmem := atI_mem (l := l) (i := (i : Int)) (by omega) (by omega)
  have htk := hoks _ hmem
  have hrg := htk.1
  simp only [rangesB] at hrg
  have tC := hrg.2.2.1
  have tT := hrg.2.2.2.1
  have Hq := Hid.mk hq
  have Htk := Hid.mk htk
  clear hq htk hrg hmem hoks
  have hv0 : v0 ≠ .slice none 0 0 → blk v0 < h'.length := fun hn => ho.lt (ho.ne hn)
  (repeat' (first | (with_reducible refine A3 (fun _ => ?_) (fun _ => ?_) <;> try (exfalso; omega)) | simp -dsimp (disch := omega) only [↓EA, EB, Nat.reduceEqDiff, Nat.reduceAdd, ↓reduceIte, newCells, eq_self, *, hl'.ixs, hl'.lda, encT]))
  change WX _ (callW _ _ _ (h' ++ [LObj.cells [.int .i64 (i : Int)] false, LObj.cells (encT (atI l (i : Int))) false])) _
  have P1 := hp.trans (Pre.app h' [LObj.cells [.int .i64 (i : Int)] false, LObj.cells (encT (atI l (i : Int))) false])
  have b0 : (h' ++ [LObj.cells [.int .i64 (i : Int)] false, LObj.cells (encT (atI l (i : Int))) false])[h'.length]? = some (.cells [.int .i64 (i : Int)] false) := by rw [geta0]; rfl
  have b1 : (h' ++ [LObj.cells [.int .i64 (i : Int)] false, LObj.cells (encT (atI l (i : Int))) false])[h'.length + 1]? = some (.cells (encT (atI l (i : Int))) false) := by rw [geta]; rfl
  have bc : (h' ++ [LObj.cells [.int .i64 (i : Int)] false, LObj.cells (encT (atI l (i : Int))) false])[h0.length]? = some (.cells [v0] false) := by rw [GL hlen]; exact hc
  have ho1 := ho.app [LObj.cells [.int .i64 (i : Int)] false, LObj.cells (encT (atI l (i : Int))) false]
  have hGl : (h' ++ [LObj.cells [.int .i64 (i : Int)] false, LObj.cells (encT (atI l (i : Int))) false]).length = h'.length + 2 := by simp
  generalize (h' ++ [LObj.cells [.int .i64 (i : Int)] false, LObj.cells (encT (atI l (i : Int))) false]) = G at *
  refine wx_new (ticksS hE _ (atI l (i : Int)).T p) fun vt ys rt pt => ?_
  have P2 := P1.trans pt
  have c0 := pt _ _ b0
  have c1 := pt _ _ b1
  have cc := pt _ _ bc
  obtain ⟨bx, by', u1, u2, rfl, ⟨hx1, hx2⟩, ⟨hx3, hx4⟩, rfl, rfl⟩ := rt
  have ho2 := ho1.pre pt
  have hHlen := pt.le
  generalize G ++ ys = H at *
  clear b0 b1 bc pt P1 ho1
  have hbx := (GI.1 hx3).1
  have hby := (GI.1 hx4).1
  (repeat' simp -dsimp (disch := omega) only [↓EA, EB, Nat.reduceEqDiff, ↓reduceIte, eq_self, *])
  have hvB : v0 ≠ .slice none 0 0 → blk v0 < h'.length := hv0
  have hcl : ∀ x, (H ++ x)[h0.length]? = some (.cells [v0] false) := fun x => by rw [GL (by omega)]; exact cc
  refine co_rngT hE.keep (W' := fun b => h0.length ≤ b) rfl (fun x hx _ => hW x hx) ?_
  generalize hfr : ([(9, Value.int .u64 p), _, _, _, _, _, _, _] : Fr) = frL
  have f11 : get frL 11 = .pointer (some ⟨h0.length, 0, none⟩) := by rw [← hfr]; rfl
  have f12 : get frL 12 = .pointer (some ⟨h'.length, 0, none⟩) := by rw [← hfr]; rfl
  have f13 : get frL 13 = .pointer (some ⟨h'.length + 1, 0, none⟩) := by rw [← hfr]; rfl
  have Hfr := Hid.mk hfr
  clear hfr
  refine WX.mono (ticks_iter hE tT.1 tT.2 (by omega) hp1 bx by' (H ++ [_]) H.length (fun b => h0.length ≤ b)
   (fun k hh => (allH l p i ++ rowH i (atI l (i : Int)) k).length ≤ 4097 ∧ St17 h0 h'.length H.length bx by' i (atI l (i : Int)) p (.loop { state := .ready, pending := none, fr := frL, sz := 64, params := [45], assign := c_hyper_Jobs_l0, body := c_hyper_Jobs_l1 }) (allH l p i ++ rowH i (atI l (i : Int)) k) hh)
   (fun hh => ∃ k, k < manyP (atI l (i : Int)).T p ∧ (allH l p i ++ rowH i (atI l (i : Int)) k).length = 4097 ∧ St17 h0 h'.length H.length bx by' i (atI l (i : Int)) p (.loop { state := .done, pending := some (some 0), fr := frL, sz := 64, params := [45], assign := c_hyper_Jobs_l0, body := c_hyper_Jobs_l1 }) (allH l p i ++ rowH i (atI l (i : Int)) k) hh)
   (fun k hh hj => ⟨hj.2.b2, hj.2.b3⟩) ⟨by simpa [rowH] using hA, ?_⟩ (fun k hh h3 hj ht => ⟨hj.1, hj.2.tr hlen (by omega) (by omega) hbx hby (by simp) (hcl _) hvB ht⟩) (fun hh h3 hs ht => ?_) ?_) (fun b hb => hb) ?_
  ·have e : allH l p i ++ rowH i (atI l (i : Int)) 0 = allH l p i := by simp [rowH]
   rw [e]
   refine ⟨P2.app' _, by simp, ?_, ?_, ?_, ?_, by rw [geta0]; rfl, v0, hcl _, ho2.app _, fun hn => .inl (hv0 fun e => hn (by rw [e] at ho2; simpa using own_nil ho2))⟩
   all_goals rw [GL (by omega)]
   ·exact c0
   ·exact c1
   ·exact hx3
   ·exact hx4
  ·obtain ⟨k, k1, k2, k3⟩ := hs
   exact ⟨k, k1, k2, k3.tr hlen (by omega) (by omega) hbx hby (by simp) (hcl _) hvB ht⟩
  ·rintro k hh a ha ⟨j1, j2⟩
   obtain ⟨hk, rfl⟩ := tick_at ha
   refine WX.mono (jobs_round hE hlen (by omega) (by omega) hbx hby f11 f12 f13 j1 j2 _) (fun b hb => hb) ?_
   rintro v hh2 (⟨rfl, q1, q2⟩ | ⟨rfl, q1, q2⟩)
   ·refine .inl ⟨rfl, ?_, ?_⟩
    ·rw [rowH_succ, ← List.append_assoc, LA]; simp; simpa using q1
    ·rw [rowH_succ, ← List.append_assoc]; exact q2
   ·exact .inr ⟨rfl, k, hk, q1, q2⟩
  ·rintro v hh (⟨j1, j2⟩ | ⟨k, k1, k2, k3⟩)
   ·refine ⟨_, j2.b4, (fun e => by cases e), fun h3 ht => ?_⟩
    obtain ⟨e1, e2, e3⟩ := j2.fin hlen (by omega) (by omega) hbx hby rfl cc hvB ht
    rw [show (tickV (atI l (i : Int)).T p).length = manyP (atI l (i : Int)).T p by simp [tickV]] at e3 j1
    have E3 := Hid.mk e3
    have J1 := Hid.mk j1
    clear e3 j1 j2 ht
    rw [← Hfr.out]
    dsimp only
    (repeat' simp -dsimp (disch := omega) only [↓EA, EB, Nat.reduceEqDiff, ↓reduceIte, eq_self, *])
    exact Next.mk (i + 1) ⟨e1, e2, by omega, rfl, rfl, rfl, rfl, rfl, E3.out, J1.out⟩ (by omega)
   ·refine ⟨_, k3.b4, (fun e => by cases e), fun h3 ht => ?_⟩
    obtain ⟨e1, e2, e3⟩ := k3.fin hlen (by omega) (by omega) hbx hby rfl cc hvB ht
    have htot : 4096 < (allH l p l.length).length := by
     have m1 := allH_mono (l := l) (p := p) (i := i + 1) (j := l.length) (by omega)
     have m2 : (allH l p (i + 1)).length = (allH l p i).length + manyP (atI l (i : Int)).T p := by
      show (allH l p i ++ rowH i _ _).length = _
      rw [LA, rowH_len]
     rw [LA, rowH_len] at k2
     omega
    have E3 := Hid.mk e3
    have K2 := Hid.mk k2
    clear e3 k2 k3 ht
    rw [← Hfr.out]
    dsimp only
    (repeat' simp -dsimp (disch := omega) only [↓reduceIte, reduceCtorEq, *])
    exact Hq.out _ _ _ rfl rfl e1 E3.out (.inl ⟨by rw [K2.out]; decide, htot⟩) (by rw [K2.out]; decide)
 ·have e : i = l.length := by omega
  subst e
  have Hq := Hid.mk hq
  have Ho := Hid.mk ho
  clear hq ho
  (repeat' (first | (with_reducible refine A3 (fun _ => ?_) (fun _ => ?_) <;> try (exfalso; omega)) | simp -dsimp (disch := omega) only [↓EA, EB, Nat.reduceEqDiff, ↓reduceIte, eq_self, *]))
  exact Hq.out _ _ _ rfl rfl hp ⟨v0, hc, Ho.out⟩ (.inr rfl) hA
theorem lcmFold_in (l : List Task) : ∀ (a q : Int), 0 < a → a < 18446744073709551616 → (∀ t ∈ l, 1 ≤ t.T) → lcmFold l a = some q → (0 < q ∧ q < 18446744073709551616) ∧ a ∣ q ∧ ∀ t ∈ l, t.T ∣ q := by
 induction l with
 | nil =>
  intro a q h0 h1 _ h
  rw [lcmFold, OI] at h
  subst h
  exact ⟨⟨h0, h1⟩, Int.dvd_refl _, by simp⟩
 | cons t r ih =>
  intro a q h0 h1 hT h
  have ht := hT t (by simp)
  rw [lcmFold] at h
  split at h
  ·rename_i hc
   have hd := dvd_lcm (a := a) (b := t.T) h0 (by omega)
   obtain ⟨q1, q3, q4⟩ := ih _ q (lcm_pos a t.T h0 (by omega)) hc (fun x hx => hT x (by simp [hx])) h
   refine ⟨q1, Int.dvd_trans hd.1 q3, fun x hx => ?_⟩
   rcases List.mem_cons.1 hx with rfl | hx
   ·exact Int.dvd_trans hd.2 q3
   ·exact q4 x hx
  ·exact absurd h (by simp)
theorem period_in {l : List Task} {p : Int} (h : periodP l = some p) : (0 < p ∧ p < 18446744073709551616) ∧ ∀ t ∈ l, 1 ≤ t.T ∧ t.T ∣ p ∧ t.T ≤ p := by
 unfold periodP at h
 split at h
 ·rename_i hc
  have hT : ∀ t ∈ l, 1 ≤ t.T := fun t ht => by have := List.all_eq_true.1 hc t ht; simpa using this
  obtain ⟨q1, q3, q4⟩ := lcmFold_in l 1 p (by decide) (by decide) hT h
  exact ⟨q1, fun t ht => ⟨hT t ht, q4 t ht, Int.le_of_dvd q1.1 (q4 t ht)⟩⟩
 ·cases h
theorem allH_cuts {l : List Task} {p : Int} : ∀ {i : Nat} {x : Job}, x ∈ allH l p i → x.cuts = []
 | 0, x, h => by simp [allH] at h
 | i + 1, x, h => by
  rcases List.mem_append.1 h with h | h
  ·exact allH_cuts h
  ·obtain ⟨k, _, rfl⟩ := List.mem_map.1 h; rfl
theorem jobsS (hE : Laid E) {h : Heap} {vl : Value} {l : List Task} (hl : Rd 7 encT h vl l) (hs : ∀ t ∈ l, t.name.size < 1152921504606846976) {cap : Int} (hcap : u64in cap) (hper : ∀ p, periodP l = some p → p ≤ cap → p ≤ 4611686018427387904) :
  ∃ v ys, callW E (.func (.func n_hyper_Jobs) #[] #[]) [vl, .int .u64 cap] h = some (v, h ++ ys, []) ∧ JobsR h.length (jobsH l cap) (h ++ ys) v := by
 refine fn_new hE.hyper_Jobs rfl (JobsR.movable _) (by simp) ?_
 have hca := checkAllS hE hl hs
 have few := hl.few
 unfold u64in at hcap
 have nilR : ∀ hh, RdNO h.length 5 hdJ Job.cuts hh (.slice none 0 0) [] := fun hh => ⟨[], rfl, OwnT.nil.rdO, by simp⟩
 have err : ∀ (n : Int) ys, (∃ zs, h ++ ys = h ++ zs) ∧ JobsR h.length ([], 0, n) (h ++ ys) (.tuple #[.slice none 0 0, .int .u64 0, .int .i64 n]) := fun n ys => ⟨⟨_, rfl⟩, _, rfl, .cons (nilR _) (.cons rfl (.cons rfl .nil))⟩
 simp only [argsF]
 by_cases hok : (checkAllP l).2 = 0
 ·obtain ⟨hl0, hl1, hoks⟩ := checkAll_ok hok
  have hp := loadPeriod hE hl (fun t ht => by have := (hoks t ht).1; simp only [rangesB] at this; omega)
  have hd : jobsH l cap = match periodP l with
   | none => ([], 0, 15)
   | some p => if cap < p then ([], 0, 15) else if 4096 < (allH l p l.length).length then ([], 0, 15) else (allH l p l.length, p, 0) := if_neg (fun h => h hok)
  rw [hd]
  cases hpp : periodP l with
  | none =>
   rw [hpp, show perV none = .tuple #[.int .u64 0, .bool false] from rfl] at hp
   have Err := Hid.mk err
   clear err
   dsimp only
   (repeat' simp -dsimp (disch := omega) only [↓EA, EB, Nat.reduceEqDiff, ↓reduceIte, reduceCtorEq, eq_self, *])
   exact (by simpa using Err.out 15 [])
  | some p =>
   rw [hpp, show perV (some p) = .tuple #[.int .u64 p, .bool true] from rfl] at hp
   obtain ⟨⟨hp0, hp2⟩, _⟩ := period_in hpp
   dsimp only
   by_cases hcp : cap < p
   ·rw [if_pos hcp]
    have Err := Hid.mk err
    clear err
    (repeat' simp -dsimp (disch := omega) only [↓EA, EB, Nat.reduceEqDiff, ↓reduceIte, reduceCtorEq, eq_self, *])
    exact (by simpa using Err.out 15 [])
   ·rw [if_neg hcp]
    have hp1 := hper p hpp (by omega)
    have Err := Hid.mk err
    clear err hper hd hpp hp2
    (repeat' simp -dsimp (disch := omega) only [↓EA, EB, Nat.reduceEqDiff, ↓reduceIte, reduceCtorEq, newCells, eq_self, *, hl.len])
    refine jobs_l2 hE (fun b hb => hb) hl hoks hp0 hp1 rfl rfl rfl rfl rfl fun fr' h' A q9 q11 qp ⟨v, qc, qo⟩ qA qn => ?_
    have hrd := qo.rd
    have fewA := hrd.few
    have hlA : (A.map nilJ).length = A.length := List.length_map ..
    have Qp := Hid.mk qp
    have QA := Hid.mk qA
    have Qo := Hid.mk qo
    clear hca hp qp qA qo
    by_cases hA : 4096 < A.length
    ·have htot : 4096 < (allH l p l.length).length := by
      rcases QA.out with h1 | h1
      ·exact h1.2
      ·rw [← h1]; exact hA
     rw [if_pos htot]
     (repeat' (first | (with_reducible refine A3 (fun _ => ?_) (fun _ => ?_) <;> try (exfalso; omega)) | simp -dsimp (disch := omega) only [↓EA, EB, Nat.reduceEqDiff, ↓reduceIte, eq_self, *, hrd.len]))
     exact ⟨Qp.out.ex, _, rfl, .cons (nilR _) (.cons rfl (.cons rfl .nil))⟩
    ·have hAe : A = allH l p l.length := by
      rcases QA.out with h1 | h1
      ·exact absurd h1.1 hA
      ·exact h1
     subst hAe
     rw [if_neg hA]
     (repeat' (first | (with_reducible refine A3 (fun _ => ?_) (fun _ => ?_) <;> try (exfalso; omega)) | simp -dsimp (disch := omega) only [↓EA, EB, Nat.reduceEqDiff, ↓reduceIte, eq_self, *, hrd.len]))
     refine ⟨Qp.out.ex, _, rfl, .cons ⟨(allH l p l.length).map nilJ, ?_, (Qo.out.less (Nat.le_succ _)).rdO, fun q hq => ?_⟩ (.cons rfl (.cons rfl .nil))⟩
     ·rw [List.map_map]; exact List.map_id _
     ·obtain ⟨j, hj, rfl⟩ := List.mem_map.1 hq
      refine ⟨?_, fun hn => absurd rfl hn⟩
      rw [show (nilJ j).j.cuts = [] from allH_cuts hj]
      exact Rd.of_nil
 ·have hd : jobsH l cap = ([], 0, 1) := if_pos hok
  rw [hd]
  have Err := Hid.mk err
  clear err
  have hok2 : (checkAllP l).2 ≠ 0 := hok
  (repeat' simp -dsimp (disch := omega) only [↓EA, EB, Nat.reduceEqDiff, ↓reduceIte, reduceCtorEq, eq_self, *])
  exact (by simpa using Err.out 1 [])
end Go.L.Try
namespace Go.L.Try
open Go Go.L
variable {E : Env}
def c17 (turn : Int) (i : Nat) : Int := if IntKind.i64.wrap (turn + i) % 4 = 0 then 4 else if IntKind.i64.wrap (turn + i) % 4 = 1 then 6 else if IntKind.i64.wrap (turn + i) % 4 = 2 then 8 else 12
theorem ix17 (turn : Int) (n : Nat) : ixvV 4 1 none (.agg #[.int .i64 4, .int .i64 6, .int .i64 8, .int .i64 12]) (.int .i64 (IntKind.i64.wrap (turn + n) % 4)) = some (.int .i64 (c17 turn n)) := by
 have hb := emod_in (IntKind.i64.wrap (turn + n)) 4 (by decide)
 unfold c17
 generalize IntKind.i64.wrap (turn + n) % 4 = r at *
 have h : r = 0 ∨ r = 1 ∨ r = 2 ∨ r = 3 := by omega
 rcases h with rfl | rfl | rfl | rfl <;> rfl
theorem c17_in (turn : Int) (n : Nat) : c17 turn n = 4 ∨ c17 turn n = 6 ∨ c17 turn n = 8 ∨ c17 turn n = 12 := by
 unfold c17
 split
 ·exact .inl rfl
 ·split
  ·exact .inr (.inl rfl)
  ·split
   ·exact .inr (.inr (.inl rfl))
   ·exact .inr (.inr (.inr rfl))
def mk17 (turn : Int) (plain : Bool) (i : Nat) (t : Task) : Task := { t with T := if t.D ≤ c17 turn i then c17 turn i else 24, J := if plain = true then 0 else t.J, Q := if plain = true then 1 else t.Q }
def set17s (turn : Int) (plain : Bool) (k : Nat) (L : List Task) : List Task := L.mapIdx fun i t => if i < k then mk17 turn plain i t else t
theorem set17s_zero (turn : Int) (plain : Bool) (L : List Task) : set17s turn plain 0 L = L := by unfold set17s; apply List.ext_getElem <;> simp
theorem set17s_len (turn : Int) (plain : Bool) (k : Nat) (L : List Task) : (set17s turn plain k L).length = L.length := by simp [set17s]
theorem set17s_at (turn : Int) (plain : Bool) (k : Nat) (L : List Task) (hk : k < L.length) : atI (set17s turn plain k L) (k : Int) = atI L (k : Int) := by
 rw [atI_nat (by rw [set17s_len]; exact hk), atI_nat hk]
 simp [set17s]
theorem set17s_succ (turn : Int) (plain : Bool) (k : Nat) (L : List Task) (hk : k < L.length) : set17s turn plain (k + 1) L = (set17s turn plain k L).set k (mk17 turn plain k (atI L (k : Int))) := by
 rw [atI_nat hk]
 apply List.ext_getElem
 ·simp [set17s]
 ·intro i h1 h2
  simp only [set17s, List.getElem_mapIdx, List.getElem_set]
  by_cases e : k = i
  ·subst e; simp
  ·rw [if_neg e]
   by_cases hlt : i < k
   ·rw [if_pos (by omega), if_pos hlt]
   ·rw [if_neg (by omega), if_neg hlt]
def set17 (l : List Spec) (turn : Int) (plain : Bool) : List Task := set17s turn plain (setP l 4 turn).length (setP l 4 turn)
theorem at_set17 {α : Type} [Inhabited α] {S : List α} {n : Nat} (a : α) (h : n < S.length) : atI (S.set n a) (n : Int) = a := by
 rw [atI_nat (by rw [List.length_set]; exact h), List.getElem_set_self]
theorem pre17 {h h' h2 : Heap} {v : Value} {S : List Task} (hp : Pre h h') (ho : RdO h.length 7 encT h' v S) (hn : S ≠ []) (hk : ∀ b, b ≠ blk v → h2[b]? = h'[b]?) : Pre h h2 := fun b o hb => by
 have := ho.ge hn
 have := (GI.1 hb).1
 rw [hk b (by omega)]; exact hp b o hb
theorem rest17' (hE : Laid E) (h : Heap) (x n : Int) (hn : 0 < n) (hn' : n < 4611686018427387904) : callW E (.func (.func n_law17_rest) #[] #[]) [.int .i64 x, .int .i64 n] h = some (.int .i64 (x % n), h, []) := by
 have hb := tmod_bounds x n hn
 refine fn_same hE.law17_rest rfl (by simp) ?_
 simp -dsimp (disch := omega) only [↓EA, EB, Nat.reduceEqDiff, ↓reduceIte, reduceCtorEq, eq_self, argsF, rest_eq x n hn]
theorem set_at17 (hE : Laid E) {h : Heap} {vl : Value} {l : List Spec} (hl : Rd 5 encSp h vl l) {turn : Int} (ht : i64in turn) (plain : Bool) :
  ∃ v ys, callW E (.func (.func n_law17_set) #[] #[]) [vl, .int .i64 turn, .bool plain] h = some (v, h ++ ys, []) ∧ RdO h.length 7 encT (h ++ ys) v (set17 l turn plain) := by
 refine fn_new hE.law17_set rfl (RdO.movable flatT _) (by simp) ?_
 simp only [argsF]
 (repeat' simp -dsimp (disch := omega) only [↓EA, EB, Nat.reduceEqDiff, Nat.reduceAdd, ↓reduceIte, reduceCtorEq, eq_self, *])
 refine wx_new (set04O hE hl (most := 4) (by decide) (by decide) ht) fun v1 ys r1 p1 => ?_
 have hlen := setP_len l (most := 4) (turn := turn) (by decide)
 have hml := p1.le
 unfold set17
 generalize setP l 4 turn = L at *
 generalize _ ++ ys = H1 at r1 p1 hml ⊢
 have o1 := r1.rd.one
 have c1 := r1.rd.cv
 have HP := Hid.mk p1
 clear p1
 (repeat' simp -dsimp (disch := omega) only [↓EA, EB, Nat.reduceEqDiff, ↓reduceIte, reduceCtorEq, eq_self, *])
 refine WO.loop (fun (n : Nat) fr h' => Pre h h' ∧ n ≤ L.length ∧ get fr 1 = .int .i64 turn ∧ get fr 2 = .bool plain ∧ get fr 7 = v1 ∧ get fr 8 = .int .i64 n ∧ RdO h.length 7 encT h' v1 (set17s turn plain n L)) (fun n => L.length - n) ?_ 0 ⟨HP.out, Nat.zero_le _, rfl, rfl, rfl, rfl, by rw [set17s_zero]; exact r1⟩
 rintro n fr h' ⟨hp, hn, g1, g2, g7, g8, ho⟩
 have hrd := ho.rd
 have few := hrd.few
 have ln := set17s_len turn plain n L
 unfold c_law17_set_l0
 rcases Nat.lt_or_ge n L.length with hlt | hge
 ·have hb := emod_in (IntKind.i64.wrap (turn + n)) 4 (by decide)
  have hrest := rest17' hE
  have hat := set17s_at turn plain n L hlt
  have hsucc := set17s_succ turn plain n L hlt
  have hix := ix17 turn n
  unfold mk17 at hsucc
  have hc := c17_in turn n
  generalize c17 turn n = c at *
  have Hsucc := Hid.mk hsucc
  have Hc := Hid.mk hc
  clear hsucc hc
  have hW : ∀ b, h.length ≤ b → h.length ≤ b := fun _ h => h
  generalize hS : set17s turn plain n L = S at *
  have hn0 : (0 : Int) ≤ n := by omega
  have hn1 : (n : Int) < S.length := by omega
  rw [← hat] at Hsucc
  have hSn : 0 < S.length := by omega
  have hne : S ≠ [] := List.length_pos_iff.1 hSn
  have hne2 : ∀ {a : Task}, S.set n a ≠ [] := fun {a} => List.length_pos_iff.1 (by rw [List.length_set]; exact hSn)
  have hne3 := @hne2
  clear hat
  (repeat' (first | (with_reducible refine A3 (fun _ => ?_) (fun _ => ?_) <;> try (exfalso; omega)) | simp -dsimp (disch := omega) only [↓EA, EB, Nat.reduceEqDiff, Nat.reduceAdd, Nat.reduceLeDiff, ↓reduceIte, eq_self, *, hrd.len, hrd.ixs, hrd.ld, encT]))
  ·have Hx := Hid.mk (show (atI S (n : Int)).D ≤ c by omega)
   refine wh_rdO ho hW (i := (n : Int)) (fo := 2) { atI S (n : Int) with T := c } hn0 hn1 (by decide) rfl rfl fun h2 k1 k2 kk => ?_
   have p2 := pre17 hp ho hne kk
   rw [Int.toNat_natCast] at k1
   have hrd2 := k1.rd
   have hl2 : (S.set n { atI S (n : Int) with T := c }).length = S.length := List.length_set ..
   clear kk
   cases plain
   ·have K1 := Hid.mk k1
    clear k1
    (repeat' simp -dsimp (disch := omega) only [↓EA, EB, Nat.reduceEqDiff, ↓reduceIte, eq_self, *])
    exact Next.mk (n + 1) ⟨p2, by omega, rfl, rfl, rfl, rfl, by rw [Hsucc.out, if_pos Hx.out]; simpa using K1.out⟩ (by omega)
   ·have K1 := Hid.mk k1
    clear k1
    (repeat' simp -dsimp (disch := omega) only [↓EA, EB, Nat.reduceEqDiff, ↓reduceIte, eq_self, *, hrd2.ixs])
    refine wh_rdO K1.out hW (i := (n : Int)) (fo := 4) { atI S (n : Int) with T := c, J := 0 } hn0 (by omega) (by decide) rfl (by rw [at_set17 _ (by omega)]; rfl) fun h3 k1 k2 kk => ?_
    have p3 := pre17 p2 K1.out hne2 kk
    rw [Int.toNat_natCast, List.set_set] at k1
    have hrd3 := k1.rd
    have hl3 : (S.set n { atI S (n : Int) with T := c, J := 0 }).length = S.length := List.length_set ..
    have K2 := Hid.mk k1
    clear k1 kk
    (repeat' simp -dsimp (disch := omega) only [↓EA, EB, Nat.reduceEqDiff, ↓reduceIte, eq_self, *, hrd3.ixs])
    refine wh_rdO K2.out hW (i := (n : Int)) (fo := 5) { atI S (n : Int) with T := c, J := 0, Q := 1 } hn0 (by omega) (by decide) rfl (by rw [at_set17 _ (by omega)]; rfl) fun h4 k1 k2 kk => ?_
    have p4 := pre17 p3 K2.out hne3 kk
    rw [Int.toNat_natCast, List.set_set] at k1
    have K3 := Hid.mk k1
    clear k1 kk
    (repeat' simp -dsimp (disch := omega) only [↓EA, EB, Nat.reduceEqDiff, ↓reduceIte, eq_self, *])
    exact Next.mk (n + 1) ⟨p4, by omega, rfl, rfl, rfl, rfl, by rw [Hsucc.out, if_pos Hx.out]; simpa using K3.out⟩ (by omega)
  ·have Hx := Hid.mk (show ¬ (atI S (n : Int)).D ≤ c by omega)
   refine wh_rdO ho hW (i := (n : Int)) (fo := 2) { atI S (n : Int) with T := 24 } hn0 hn1 (by decide) rfl rfl fun h2 k1 k2 kk => ?_
   have p2 := pre17 hp ho hne kk
   rw [Int.toNat_natCast] at k1
   have hrd2 := k1.rd
   have hl2 : (S.set n { atI S (n : Int) with T := 24 }).length = S.length := List.length_set ..
   clear kk
   cases plain
   ·have K1 := Hid.mk k1
    clear k1
    (repeat' simp -dsimp (disch := omega) only [↓EA, EB, Nat.reduceEqDiff, ↓reduceIte, eq_self, *])
    exact Next.mk (n + 1) ⟨p2, by omega, rfl, rfl, rfl, rfl, by rw [Hsucc.out, if_neg Hx.out]; simpa using K1.out⟩ (by omega)
   ·have K1 := Hid.mk k1
    clear k1
    (repeat' simp -dsimp (disch := omega) only [↓EA, EB, Nat.reduceEqDiff, ↓reduceIte, eq_self, *, hrd2.ixs])
    refine wh_rdO K1.out hW (i := (n : Int)) (fo := 4) { atI S (n : Int) with T := 24, J := 0 } hn0 (by omega) (by decide) rfl (by rw [at_set17 _ (by omega)]; rfl) fun h3 k1 k2 kk => ?_
    have p3 := pre17 p2 K1.out hne2 kk
    rw [Int.toNat_natCast, List.set_set] at k1
    have hrd3 := k1.rd
    have hl3 : (S.set n { atI S (n : Int) with T := 24, J := 0 }).length = S.length := List.length_set ..
    have K2 := Hid.mk k1
    clear k1 kk
    (repeat' simp -dsimp (disch := omega) only [↓EA, EB, Nat.reduceEqDiff, ↓reduceIte, eq_self, *, hrd3.ixs])
    refine wh_rdO K2.out hW (i := (n : Int)) (fo := 5) { atI S (n : Int) with T := 24, J := 0, Q := 1 } hn0 (by omega) (by decide) rfl (by rw [at_set17 _ (by omega)]; rfl) fun h4 k1 k2 kk => ?_
    have p4 := pre17 p3 K2.out hne3 kk
    rw [Int.toNat_natCast, List.set_set] at k1
    have K3 := Hid.mk k1
    clear k1 kk
    (repeat' simp -dsimp (disch := omega) only [↓EA, EB, Nat.reduceEqDiff, ↓reduceIte, eq_self, *])
    exact Next.mk (n + 1) ⟨p4, by omega, rfl, rfl, rfl, rfl, by rw [Hsucc.out, if_neg Hx.out]; simpa using K3.out⟩ (by omega)
 ·have e : n = L.length := by omega
  subst e
  (repeat' (first | (with_reducible refine A3 (fun _ => ?_) (fun _ => ?_) <;> try (exfalso; omega)) | simp -dsimp (disch := omega) only [↓EA, EB, Nat.reduceEqDiff, ↓reduceIte, eq_self, *, hrd.len]))
  first
   | exact hp.ex
   | exact ⟨hp.ex, ho⟩
end Go.L.Try
namespace Go.L.Try
open Go Go.L
variable {E : Env}
theorem set17_len (l : List Spec) (turn : Int) (plain : Bool) : (set17 l turn plain).length = (setP l 4 turn).length := set17s_len _ _ _ _
theorem set17_get (l : List Spec) (turn : Int) (plain : Bool) {i : Nat} (hi : i < (setP l 4 turn).length) : atI (set17 l turn plain) (i : Int) = mk17 turn plain i (atI (setP l 4 turn) (i : Int)) := by
 rw [atI_nat (by rw [set17_len]; exact hi), atI_nat hi]
 unfold set17 set17s
 rw [List.getElem_mapIdx, if_pos hi]
theorem mk17_ok {turn : Int} {plain : Bool} {i : Nat} {t : Task} (s : SmallT t) (hok : okTask t) : okTask (mk17 turn plain i t) ∧ 0 < (mk17 turn plain i t).T ∧ (mk17 turn plain i t).T ∣ 24 := by
 obtain ⟨⟨w1, w2, w3⟩, w4⟩ := hok
 have hc := c17_in turn i
 have sD := s.D
 have sC := s.C
 have sQ := s.Q
 have sJ := s.J
 have sP := s.P
 have hT : (mk17 turn plain i t).T = 4 ∨ (mk17 turn plain i t).T = 6 ∨ (mk17 turn plain i t).T = 8 ∨ (mk17 turn plain i t).T = 12 ∨ (mk17 turn plain i t).T = 24 := by
  have eT : (mk17 turn plain i t).T = if t.D ≤ c17 turn i then c17 turn i else 24 := rfl
  rw [eT]
  split <;> omega
 have hT2 : t.D ≤ (mk17 turn plain i t).T := by
  show t.D ≤ (if t.D ≤ c17 turn i then c17 turn i else 24)
  split <;> omega
 have hJ : 0 ≤ (mk17 turn plain i t).J ∧ (mk17 turn plain i t).J ≤ t.J := by
  show 0 ≤ (if plain = true then 0 else t.J) ∧ (if plain = true then 0 else t.J) ≤ t.J
  split <;> omega
 have hQ : 1 ≤ (mk17 turn plain i t).Q ∧ (mk17 turn plain i t).Q ≤ t.C := by
  show 1 ≤ (if plain = true then 1 else t.Q) ∧ (if plain = true then 1 else t.Q) ≤ t.C
  split <;> omega
 have e1 : (mk17 turn plain i t).C = t.C := rfl
 have e2 : (mk17 turn plain i t).D = t.D := rfl
 have e3 : (mk17 turn plain i t).P = t.P := rfl
 have e4 : (mk17 turn plain i t).name = t.name := rfl
 refine ⟨⟨⟨w1, w2, ?_⟩, ?_⟩, by omega, ?_⟩
 ·rw [e1, e2, e3]
  refine ⟨?_, ?_, ?_, ?_, ?_, ?_⟩ <;> omega
 ·unfold fitsB
  rw [e1, e2]
  omega
 ·rcases hT with h | h | h | h | h <;> rw [h] <;> decide
theorem set17_valid (l : List Spec) (turn : Int) (plain : Bool) : validP (set17 l turn plain) ∧ (∀ t ∈ set17 l turn plain, 0 < t.T ∧ t.T ∣ 24) ∧ (∀ t ∈ set17 l turn plain, t.name.size = 2) := by
 have hv := setP_valid l (most := 4) turn (by decide) (by decide)
 have hl := setP_len l (most := 4) (turn := turn) (by decide)
 obtain ⟨h1, h2, h3⟩ := valid_iff.1 hv
 have key : ∀ t ∈ set17 l turn plain, ∃ (i : Nat), i < (setP l 4 turn).length ∧ t = mk17 turn plain i (atI (setP l 4 turn) (i : Int)) := fun t ht => by
  obtain ⟨i, hi, rfl⟩ := List.getElem_of_mem ht
  rw [set17_len] at hi
  exact ⟨i, hi, by rw [← set17_get l turn plain hi, atI_nat (by rw [set17_len]; exact hi)]⟩
 have key2 : ∀ t ∈ set17 l turn plain, okTask t ∧ (0 < t.T ∧ t.T ∣ 24) ∧ t.name.size = 2 := fun t ht => by
  obtain ⟨i, hi, rfl⟩ := key t ht
  have hm := atI_mem (l := setP l 4 turn) (i := (i : Int)) (by omega) (by omega)
  have hs := setP_small (l := l) (most := 4) (turn := turn) (by decide) (by decide) hm
  obtain ⟨a, b⟩ := mk17_ok (turn := turn) (plain := plain) (i := i) hs (h2 _ hm)
  exact ⟨a, b, hs.name⟩
 refine ⟨valid_iff.2 ⟨by rw [set17_len]; exact h1, fun t ht => (key2 t ht).1, fun j k hjk hk => ?_⟩, fun t ht => (key2 t ht).2.1, fun t ht => (key2 t ht).2.2⟩
 rw [set17_len] at hk
 rw [set17_get l turn plain (by omega), set17_get l turn plain hk]
 exact h3 j k hjk hk
theorem allH_few {l : List Task} {p : Int} (hp : 0 < p) (hp2 : p ≤ 24) (hT : ∀ t ∈ l, 0 < t.T ∧ t.T ∣ p) : ∀ i, i ≤ l.length → (allH l p i).length ≤ i * 24
 | 0, _ => by simp [allH]
 | i + 1, h => by
  have ih := allH_few hp hp2 hT i (by omega)
  obtain ⟨t0, t1⟩ := hT _ (atI_mem (l := l) (i := (i : Int)) (by omega) (by omega))
  have m := many_dvd t0 hp t1
  have m2 : (manyP (atI l (i : Int)).T p : Int) ≤ 24 := by
   have : (manyP (atI l (i : Int)).T p : Int) * 1 ≤ (manyP (atI l (i : Int)).T p : Int) * (atI l (i : Int)).T := Int.mul_le_mul_of_nonneg_left (by omega) (by omega)
   omega
  show (allH l p i ++ rowH i _ _).length ≤ _
  rw [LA, rowH_len]
  omega
theorem jobs17 {s : List Task} (hv : validP s) {p : Int} (hper : periodP s = some p) (hp : 0 < p) (hp2 : p ≤ 24) (hT : ∀ t ∈ s, 0 < t.T ∧ t.T ∣ p) (hl : s.length ≤ 4) (cap : Int) : jobsH s cap = if cap < p then ([], 0, 15) else (allH s p s.length, p, 0) := by
 have h := allH_few hp hp2 hT s.length (Nat.le_refl _)
 unfold jobsH
 rw [if_neg (fun h => h hv), hper]
 dsimp only
 by_cases hc : cap < p
 ·rw [if_pos hc, if_pos hc]
 ·rw [if_neg hc, if_neg hc, if_neg (by omega)]
end Go.L.Try