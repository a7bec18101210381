/- THE CRITICAL SCENE, PLAYED: what it tells is the Bs (plain). -/
import Derived.Test.YtlmadipiopnfeaaDoorPo
import Derived.Test.YtlmadipiopnfeaaDoorPm
import Derived.Test.YtlmadipiopnfeaaDoorPp
set_option linter.unusedVariables false
set_option linter.unusedSimpArgs false
set_option maxRecDepth 100000
set_option maxHeartbeats 2000000
namespace Go.L.Try
open Go Go.L
variable {l : List Ab} {jobs : List Job} {i : Nat}
theorem An2 (hb : legalB l jobs = true) {e : Int} (he : 0 ≤ e) {k x : Nat} (hk : k < jobs.length) (hx : EndAt l jobs k x) : (Qo l jobs e).ends.length = jobs.length ∧ atI (Qo l jobs e).ends (k : Int) = if (x : Int) ≤ e then (x : Int) else -1 := by
 have S := Mc hb
 have p : Qo l jobs e = Bx l jobs e (Fj jobs.length) := by
  unfold Qo; rw [if_pos hb, show max e 0 = e by omega]
 obtain ⟨T, g, h2, o⟩ := Arn S (e := e)
 rw [p, g]
 refine ⟨(Mg S T).elen, ?_⟩
 have s := o he
 have a := Aeu S hk T
 have t := (Qk S hk T).2
 by_cases d : (x : Int) ≤ e
 ·rw [if_pos d]
  have c : dn l jobs k T = (jb jobs k).work := by
   rcases Int.lt_or_le 0 (st l jobs T).left with hl | hl
   ·have n : ¬ (T : Int) < e := fun h => h2 ⟨hl, .inr (by rw [Abu S]; exact h)⟩
    exact (hx.lt S hk T).2 (by omega)
   ·rcases Int.lt_or_le (dn l jobs k T) (jb jobs k).work with h4 | h4
    ·exfalso
     have f := (Ty (e := e) S.ok (fun _ => True) (fun _ _ _ _ => trivial) (Pq jobs S.ok.work) trivial).1
     rw [g] at f
     have := Rv f hk h4
     omega
    ·omega
  obtain ⟨j, r, _, m⟩ := a.2 c
  have v := (m.lt S hk x).1 ((hx.lt S hk x).2 (Nat.le_refl _))
  have u := (hx.lt S hk j).1 ((m.lt S hk j).2 (Nat.le_refl _))
  rw [r]; omega
 ·rw [if_neg d]
  refine a.1 ?_
  rcases Int.lt_or_le (dn l jobs k T) (jb jobs k).work with h4 | h4
  ·exact h4
  ·exfalso
   have := (hx.lt S hk T).1 (by omega)
   omega
theorem Au8 (hb : legalB l jobs = true) {k : Nat} (hk : k < jobs.length) : ∃ x, EndAt l jobs k x := by
 obtain ⟨T, r⟩ := A0n (Mc hb) (e := -1) (by decide)
 obtain ⟨x, _, _, h⟩ := r.ends k hk
 exact ⟨x, h⟩
theorem An3 : (Bj l (i : Int)).length < (A9 l (i : Int)).length ∧ jb (A9 l (i : Int)) (Bj l (i : Int)).length = Cz l (i : Int) :=
 ⟨by unfold A9; simp, Anp⟩
theorem Aqq (hv : D5 l) (hl : ∀ t ∈ l, Mid t) (hi : i < l.length) {j : Job} (hj : j ∈ A9 l i) : 1 ≤ j.work ∧ j.work ≤ 134217728 := by
 obtain ⟨_, _, a⟩ := Bn hv
 have one : ∀ k : Int, 0 ≤ k → k < l.length → (1 ≤ (atI l k).C ∧ (atI l k).C ≤ 134217728) ∧ 1 ≤ (atI l k).Q ∧ (atI l k).Q ≤ (atI l k).C := fun k g c => by
  have d := Aj g c
  obtain ⟨f, e⟩ := a _ d
  simp only [An, D4] at f e
  exact ⟨(hl _ d).C, by omega, by omega⟩
 rcases Xi hj with ⟨c, rfl⟩ | rfl | ⟨h, k, c, _, _, rfl⟩
 ·have := (V9 (i := (i : Int)) a l.length (Nat.le_refl _)).2 c
  have := one _ this.1.1 this.1.2
  dsimp only; omega
 ·have := one (i : Int) (by omega) (by omega)
  show 1 ≤ (atI l (i : Int)).C ∧ (atI l (i : Int)).C ≤ 134217728; omega
 ·have := one (h : Int) (by omega) (by omega)
  dsimp only; omega
theorem Avf (hv : D5 l) (hl : ∀ t ∈ l, Mid t) (hi : i < l.length) (hf : (A9 l i).length ≤ 4096) : G0 (A9 l i) ≤ 1099511627776 := by
 have := Ajf (jobs := A9 l i) (k := 134217728) fun j a => (Aqq hv hl hi a).2
 omega
theorem Ajs (hv : D5 l) (hl : ∀ t ∈ l, Mid t) (hn : l.length ≤ 6) (hi : i < l.length) (hf : (A9 l i).length ≤ 4096) :
  (Qo l (A9 l i) ((Cz l i).arrive + (atI l (i : Int)).D)).ends.length = (A9 l i).length ∧
  ((boundP l (i : Int)).2 = 0 → 0 ≤ atI (Qo l (A9 l i) ((Cz l i).arrive + (atI l (i : Int)).D)).ends ((Bj l i).length : Int) ∧ atI (Qo l (A9 l i) ((Cz l i).arrive + (atI l (i : Int)).D)).ends ((Bj l i).length : Int) - (Cz l i).arrive = (boundP l (i : Int)).1) ∧
  ((boundP l (i : Int)).2 ≠ 0 → atI (Qo l (A9 l i) ((Cz l i).arrive + (atI l (i : Int)).D)).ends ((Bj l i).length : Int) = -1 ∧ boundP l (i : Int) = (0, 16)) := by
 have sc := Aku hv hl hn hi hf
 have c := Pz hv hi hf
 obtain ⟨e, a⟩ := An3 (l := l) (i := i)
 obtain ⟨x, g⟩ := Au8 c e
 obtain ⟨_, _, f⟩ := Bn hv
 have m := f _ (Aj (l := l) (i := (i : Int)) (by omega) (by omega))
 obtain ⟨n, o⟩ := m
 simp only [An, D4] at n o
 have v := (Jk (i := (i : Int)) f ⟨by omega, by omega⟩ l.length (Nat.le_refl _)).1
 have u : (Cz l i).arrive = Af l i - (atI l (i : Int)).J := rfl
 have p : Af l i = 1 + mostJ l i l.length := rfl
 have he : 0 ≤ (Cz l i).arrive + (atI l (i : Int)).D := by omega
 obtain ⟨y, r⟩ := An2 c he e g
 refine ⟨y, fun d => ?_, fun d => ?_⟩
 ·have j := sc.just g d
  have s := Ya c hl hn e g (by rw [a]; exact d)
  rw [a] at j s
  have : (Cz l i).task = (i : Int) := rfl
  rw [this] at s
  rw [r, if_pos (by omega)]
  exact ⟨by omega, j⟩
 ·have j := sc.late g d
  rw [a] at j
  rw [r, if_neg (by omega)]
  refine ⟨rfl, ?_⟩
  have z := sc.isP
  unfold boundP at d ⊢
  rw [if_pos z] at d ⊢
  cases hls : Lc l (i : Int) with
  | some w => rw [hls] at d; exact absurd rfl d
  | none => rfl
end Go.L.Try
set_option maxHeartbeats 8000000
namespace Go.L.Try
open Go Go.L
variable {E : Env} {G : Nat}
def Vg (l : List Ab) (i : Nat) : RS := Qo l (A9 l i) ((Cz l i).arrive + (atI l (i : Int)).D)
def PlayR (m : Nat) (R : RS) (a arr : Int) (h : Aa) (v : Value) : Prop := ∃ vs, v = .tuple vs.toArray ∧ Each h [fun h v => RdM m 3 Aic h v R.L, fun _ v => v = .int .i64 a, fun _ v => v = .int .i64 arr, fun _ v => v = .int .i64 0] vs
theorem PlayR.movable {m : Nat} (R : RS) (a arr : Int) : Movable m (PlayR m R a arr) 2 :=
 Movable.tuples (k := 1) (fun R hR => by
  simp only [List.mem_cons, List.not_mem_nil, or_false] at hR
  rcases hR with rfl | rfl | rfl | rfl
  ·exact RdM.movable Azs _
  ·exact Kc rfl
  ·exact Kc rfl
  ·exact Kc rfl) (by simp)
theorem A2a (hE : Ay E) (hZ : Fd E G) {h : Aa} (ht : Tab G h) {vl : Value} {l : List Ab} (hl : Rd 7 A0 h vl l) (hs : ∀ t ∈ l, t.name.size < 1152921504606846976) {i : Nat} (hv : D5 l) (hm : ∀ t ∈ l, Mid t) (hi : i < l.length) (few : (A9 l i).length ≤ 4096) :
  ∃ v ys, callW E (.func (.func Mq) #[] #[]) [vl, .int .i64 i] h = some (v, h ++ ys, []) ∧ PlayR h.length (Vg l i) (atI (Vg l i).ends (Bj l i).length) (Cz l i).arrive (h ++ ys) v := by
 refine Pw hE.Ar3 rfl (PlayR.movable _ _ _) (by simp) ?_
 obtain ⟨d, x⟩ := An3 (l := l) (i := i)
 obtain ⟨_, a1, r⟩ := Bn hv
 have a5 := r _ (Aj (l := l) (i := (i : Int)) (by omega) (by omega))
 obtain ⟨a2, a0⟩ := a5
 simp only [An, D4] at a2 a0
 have a6 := (Jk (i := (i : Int)) r ⟨by omega, by omega⟩ l.length (Nat.le_refl _)).1
 have z : (Cz l i).arrive = Af l i - (atI l (i : Int)).J := rfl
 have a4 : Af l i = 1 + mostJ l i l.length := rfl
 have ha : 1 ≤ (Cz l i).arrive ∧ (Cz l i).arrive ≤ 2147483648 := by omega
 have hD : 1 ≤ (atI l (i : Int)).D ∧ (atI l (i : Int)).D ≤ 2147483647 := by omega
 obtain ⟨aa, ae⟩ := ha
 obtain ⟨ab, aj⟩ := hD
 have n := Avf hv hm hi few
 have a := (An2 (Pz hv hi few) (e := (Cz l i).arrive + (atI l (i : Int)).D) (by omega) d (Au8 (Pz hv hi few) d).choose_spec).1
 clear a2 a0 a6 z a4 a1 r
 simp only [Ak]
 have ag := hl.cv
 have ai := hl.one
 have ac : (i : Int) < l.length := by omega
 (repeat' simp -dsimp (disch := omega) only [↓EA, EB, Nat.reduceEqDiff, ↓reduceIte, reduceCtorEq, eq_self, *])
 refine J4 (Aqp hE hZ ht hl hs hv hi few) fun v2 ys r2 p2 => ?_
 obtain ⟨vj, rfl, rj⟩ := (by
  obtain ⟨vs, rfl, hv⟩ := r2
  rcases hv with _ | ⟨f, _ | ⟨s, _ | ⟨rc, _ | _⟩⟩⟩
  subst s; subst rc
  exact ⟨_, rfl, f⟩ : ∃ v1, v2 = .tuple #[v1, .int .i64 ((Bj l i).length : Int), .int .i64 0] ∧ RdNO h.length 5 hdJ Job.cuts (h ++ ys) v1 (A9 l i))
 have m := rj.rd
 obtain ⟨jl, c, g⟩ := RdJ.open_ m
 have y : jl.length = (A9 l i).length := by rw [c, List.length_map]
 have a8 : (atI jl ((Bj l i).length : Int)).j = Cz l i := by
  rw [← x]
  show _ = atI (A9 l i) _
  rw [c, ← Sn NV.j jl _ (by omega) (by rw [y]; omega)]
 have a7 : ((Bj l i).length : Int) < jl.length := by rw [y]; omega
 have rl := hl.pre p2
 have a3 := Az4 hE rl hs m (by omega) n (e := (Cz l i).arrive + (atI l (i : Int)).D) (by unfold Lr; omega)
 have a9 := g.cv
 have ad := g.one
 have ah := Rd.nt g
 have bb := p2.le
 have HU := Hid.mk a3
 have Hh := Hid.mk (AI a (AI d c))
 clear a3 r2 rj m a d c n
 generalize h ++ ys = H1 at *
 generalize (Bj l i).length = at' at *
 generalize hsj : Cz l i = sj at *
 (repeat' simp -dsimp (disch := omega) only [↓EA, EB, Nat.reduceEqDiff, ↓reduceIte, reduceCtorEq, eq_self, *, g.ixs, g.ld, rl.ixs, rl.ld, A0, Ft, hdJ])
 refine J4 HU.out fun v3 o r3 p3 => ?_
 obtain ⟨va, vb, rfl, f, s⟩ := (by
  obtain ⟨vs, rfl, hv⟩ := r3
  rcases hv with _ | ⟨f, _ | ⟨s, _ | _⟩⟩
  exact ⟨_, _, rfl, f, s⟩ : ∃ va vb, v3 = .tuple #[va, vb] ∧ RdM H1.length 3 Aic (H1 ++ o) va (Qo l (A9 l i) (sj.arrive + (atI l (i : Int)).D)).L ∧ RdM H1.length 1 H5 (H1 ++ o) vb (Qo l (A9 l i) (sj.arrive + (atI l (i : Int)).D)).ends)
 have u : Vg l i = Qo l (A9 l i) (sj.arrive + (atI l (i : Int)).D) := by unfold Vg; rw [hsj]
 rw [u]
 have na := Rd.nt f.1
 have nb := Rd.nt s.1
 have oa := f.1.one
 have ca := f.1.cv
 have p := s.1
 obtain ⟨a, d, c⟩ := Hh.out
 rw [← u] at p
 have af : (at' : Int) < (Vg l i).ends.length := by rw [u, a]; omega
 have Ra := Hid.mk (AI f p3)
 clear f s a d r3 HU Hh p3 c
 generalize H1 ++ o = H2 at *
 (repeat' simp -dsimp (disch := omega) only [↓EA, EB, Nat.reduceEqDiff, ↓reduceIte, reduceCtorEq, eq_self, *, p.ixs, p.ld0, H5])
 obtain ⟨f, p3⟩ := Ra.out
 exact ⟨(p2.trans p3).ex, _, rfl, .cons ⟨f.1, fun hn => Nat.le_trans bb (f.2 hn)⟩ (.cons rfl (.cons rfl (.cons rfl .nil)))⟩
theorem Aqv {l : List Ab} {i : Int} (hb : isP l i = true) : 0 ≤ (boundP l i).1 ∧ (boundP l i).1 ≤ (atI l i).D := by
 obtain ⟨c, _, a⟩ := E7 hb
 have d := (a _ (Aj c.1 c.2)).1
 simp only [An] at d
 unfold boundP
 rw [if_pos hb]
 cases hls : Lc l i with
 | none => simp only; omega
 | some w =>
  obtain ⟨⟨f, e⟩, _⟩ := Ahn hb hls
  unfold G9 at e
  simp only; omega
theorem Q9 (hE : Ay E) (hZ : Fd E G) {h : Aa} (ht : Tab G h) {vl : Value} {l : List Ab} (hl : Rd 7 A0 h vl l) (hs : ∀ t ∈ l, t.name.size < 1152921504606846976) (hv : D5 l) (hm : ∀ t ∈ l, Mid t) (hn : l.length ≤ 6) {i : Nat} (hi : i < l.length) (few : (A9 l i).length ≤ 4096) :
  callW E (.func (.func D9) #[] #[]) [vl, .int .i64 i] h = some (.tuple #[.int .i64 (boundP l (i : Int)).1, .int .i64 (boundP l (i : Int)).2], h, []) := by
 refine Am hE.Apg rfl (by simp) ?_
 simp only [Ak]
 (repeat' simp -dsimp (disch := omega) only [↓EA, EB, Nat.reduceEqDiff, ↓reduceIte, reduceCtorEq, eq_self, *])
 refine J4 (A2a hE hZ ht hl hs hv hm hi few) fun v2 ys z p2 => ?_
 obtain ⟨p, rfl, s⟩ := (by
  obtain ⟨vs, rfl, hv⟩ := z
  rcases hv with _ | ⟨s, _ | ⟨rb, _ | ⟨rc, _ | ⟨rd, _ | _⟩⟩⟩⟩
  subst rb; subst rc; subst rd
  exact ⟨_, rfl, s⟩ : ∃ p, v2 = .tuple #[p, .int .i64 (atI (Vg l i).ends (Bj l i).length), .int .i64 (Cz l i).arrive, .int .i64 0] ∧ RdM h.length 3 Aic (h ++ ys) p (Vg l i).L)
 have na := Rd.nt s.1
 obtain ⟨_, u, o⟩ := Ajs hv hm hn hi few
 obtain ⟨_, j, c⟩ := Bn hv
 have x := c _ (Aj (l := l) (i := (i : Int)) (by omega) (by omega))
 obtain ⟨m, g⟩ := x
 simp only [An, D4] at m g
 have y := (Jk (i := (i : Int)) c ⟨by omega, by omega⟩ l.length (Nat.le_refl _)).1
 have f : (Cz l i).arrive = Af l i - (atI l (i : Int)).J := rfl
 have n : Af l i = 1 + mostJ l i l.length := rfl
 have ha : 1 ≤ (Cz l i).arrive ∧ (Cz l i).arrive ≤ 2147483648 := by omega
 have r := Aqv (Wg hv (i := (i : Int)) (by omega) (by omega))
 have hD : (atI l (i : Int)).D ≤ 2147483647 := by omega
 have d : Vg l i = Qo l (A9 l i) ((Cz l i).arrive + (atI l (i : Int)).D) := rfl
 rw [← d] at u o
 have Hr := Hid.mk (AI u o)
 clear u o d z m g y f n c j
 generalize atI (Vg l i).ends (Bj l i).length = e at *
 generalize (Cz l i).arrive = a at *
 generalize boundP l (i : Int) = b at *
 obtain ⟨b1, b2⟩ := b
 dsimp only at Hr r ⊢
 by_cases h0 : b2 = 0
 ·subst h0
  obtain ⟨e1, v⟩ := Hr.out.1 rfl
  have e3 : e - a = b1 := v
  have e4 : ¬ e < 0 := by omega
  have e5 : e ≤ 4294967295 := by omega
  subst e3
  (repeat' simp -dsimp (disch := omega) only [↓EA, EB, Nat.reduceEqDiff, ↓reduceIte, eq_self, *])
 ·obtain ⟨e1, v⟩ := Hr.out.2 h0
  cases v
  subst e1
  (repeat' (first | (with_reducible refine A3 (fun _ => ?_) (fun _ => ?_) <;> try (exfalso; omega)) | simp -dsimp (disch := omega) only [↓EA, EB, Nat.reduceEqDiff, ↓reduceIte, eq_self, *]))
end Go.L.Try
namespace Go.L.Try
open Go Go.L
variable {E : Env} {G : Nat}
def scA (k : Int) (t : Ab) : Ab := ⟨t.name, t.C * k, t.T * k, t.D * k, t.J * k, t.Q * k, t.P⟩
theorem Aju {t : Ab} (h : Ci t) (s : Abp t) {k : Int} (hk : 1 ≤ k ∧ k ≤ 33554432) : Ci (scA k t) ∧ Mid (scA k t) ∧ (k ≤ (scA k t).T ∧ (scA k t).D ≤ 14 * k ∧ 0 ≤ (scA k t).J ∧ (scA k t).J ≤ 13 * k) := by
 obtain ⟨_, f, o, g, m, l, u⟩ := s
 obtain ⟨e, h2⟩ := h
 have c := N8 hk (by decide) f
 have d := N8 (x := t.D) (a := 1) (b := 14) hk (by decide) (by omega)
 have j := N8 (x := t.J) (a := 0) (b := 13) hk (by decide) (by omega)
 have t' := N8 (x := t.T) (a := 1) (b := 20) hk (by decide) (by omega)
 have z := N8 (x := t.Q) (a := 1) (b := 4) hk (by decide) (by omega)
 simp only [An] at e
 have n : (t.C + t.J) * k ≤ t.D * k := Int.mul_le_mul_of_nonneg_right g.2 (by omega)
 have e2 : t.D * k ≤ t.T * k := Int.mul_le_mul_of_nonneg_right l.1 (by omega)
 have y : t.Q * k ≤ t.C * k := Int.mul_le_mul_of_nonneg_right m.2 (by omega)
 have v : 1 * k ≤ t.T * k := Int.mul_le_mul_of_nonneg_right (by omega) (by omega)
 have p : t.D * k ≤ 14 * k := Int.mul_le_mul_of_nonneg_right (by omega) (by omega)
 have r : t.J * k ≤ 13 * k := Int.mul_le_mul_of_nonneg_right (by omega) (by omega)
 rw [Int.add_mul] at n
 refine ⟨⟨⟨e.1, e.2.1, ?_, ?_, ?_, ?_, ?_, e.2.2.2.2.2.2.2⟩, ?_⟩, ⟨?_, ?_, ?_⟩, ?_, ?_, ?_, ?_⟩
 all_goals simp only [scA, D4]
 all_goals omega
theorem Apm {l : List Ab} (hv : D5 l) (hs : ∀ t ∈ l, Abp t) {k : Int} (hk : 1 ≤ k ∧ k ≤ 33554432) : D5 (l.map (scA k)) := by
 obtain ⟨d, h2, f⟩ := valid_iff.1 hv
 refine valid_iff.2 ⟨by simpa using d, fun t g => ?_, fun j m e a => ?_⟩
 ·obtain ⟨u, c, rfl⟩ := List.mem_map.1 g
  exact (Aju (h2 u c) (hs u c) hk).1
 ·rw [List.length_map] at a
  rw [Abk _ (by omega) (by omega : (j : Int) < l.length), Abk _ (by omega) (by omega : (m : Int) < l.length)]
  exact f j m e a
theorem Arj {l : List Ab} {i : Int} {b : Nat} (h : ∀ k : Nat, k < l.length → Jl l i k ≤ b) : ∀ n, n ≤ l.length → (upC l i n).length ≤ n * b
 | 0, _ => by simp [upC]
 | n + 1, hn => by
  have a := Arj h n (by omega)
  have := h n (by omega)
  rw [Nat.add_mul, Nat.one_mul]
  unfold upC
  split
  ·rw [LA]
   simp only [Id, List.length_map, List.length_range]
   omega
  ·omega
theorem Aih {l : List Ab} {i : Nat} {k : Int} (hk : 1 ≤ k) (h : ∀ t ∈ l, k ≤ t.T ∧ t.D ≤ 14 * k ∧ 0 ≤ t.J ∧ t.J ≤ 13 * k) (hn : l.length ≤ 6) (hi : i < l.length) : (A9 l i).length ≤ 4096 := by
 have d : (Bj l i).length ≤ 1 := by unfold Bj; split <;> simp
 have a : ∀ m : Nat, m < l.length → Jl l (i : Int) m ≤ 27 := fun m a => by
  have e := h _ (Aj (l := l) (i := (m : Int)) (by omega) (by omega))
  have h2 := h _ (Aj (l := l) (i := (i : Int)) (by omega) (by omega))
  rcases Nat.lt_or_ge 27 (Jl l (i : Int) m) with h3 | h3
  ·exfalso
   unfold Jl at h3
   have c := (S4 (T := (atI l (m : Int)).T) (p := (atI l (i : Int)).D - (atI l (i : Int)).J + (atI l (m : Int)).J) (by omega) 27).1 h3
   omega
  ·exact h3
 have := Arj a l.length (Nat.le_refl _)
 unfold A9
 rw [LA, List.length_cons]
 omega
theorem Ald {t : Ab} (s : Abp t) : Mid t ∧ (1 ≤ t.T ∧ t.D ≤ 14 * 1 ∧ 0 ≤ t.J ∧ t.J ≤ 13 * 1) := by
 obtain ⟨_, a, c, d, g, f, e⟩ := s
 exact ⟨⟨by omega, by omega, by omega⟩, by omega, by omega, by omega, by omega⟩
def setL : List Ab := [⟨⟨#[97]⟩, 1, 4, 4, 0, 1, 1⟩, ⟨⟨#[98]⟩, 2, 9, 9, 1, 1, 2⟩, ⟨⟨#[99]⟩, 3, 20, 20, 0, 3, 3⟩]
theorem T2 : D5 setL := by unfold D5; decide +kernel
theorem Zs : ∀ t ∈ setL, Mid t := fun t ht => by
 simp only [setL, List.mem_cons, List.not_mem_nil, or_false] at ht
 rcases ht with rfl | rfl | rfl <;> exact ⟨by decide, by decide, by decide⟩
theorem Zt (i : Nat) (hi : i < 3) : (A9 setL i).length ≤ 4096 :=
 match i, hi with
 | 0, _ => by decide +kernel
 | 1, _ => by decide +kernel
 | 2, _ => by decide +kernel
theorem A0k : boundP setL 0 = (3, 0) := by decide +kernel
theorem A0j : boundP setL 1 = (7, 0) := by decide +kernel
theorem A0i : boundP setL 2 = (7, 0) := by decide +kernel
theorem Ayr (hE : Ay E) (hZ : Fd E G) {h : Aa} (ht : Tab G h) :
  callW E (.func (.func Ii) #[] #[]) [] h = some (.bool true, h, []) := by
 refine Am hE.Ahp rfl (by simp) ?_
 simp only [Ak]
 have g : ∀ x, (h ++ [LObj.cells (setL.map A0).flatten false] ++ x)[h.length]? = some (.cells (setL.map A0).flatten false) := fun x => by rw [List.append_assoc, Bm]; rfl
 have a : Rd 7 A0 (h ++ [LObj.cells (setL.map A0).flatten false]) (.slice (some ⟨h.length, 0, none⟩) 3 3) setL := Rd.lit setL (by rw [Bm]; rfl) rfl (fun _ => rfl) (by decide) (by decide) (.inl rfl)
 have d : ∀ t ∈ setL, t.name.size < 1152921504606846976 := fun t ht => by
  simp only [setL, List.mem_cons, List.not_mem_nil, or_false] at ht
  rcases ht with rfl | rfl | rfl <;> decide
 have c := Q9 hE hZ (ht.app _) a d T2 Zs (by decide) (i := 0) (by decide) (Zt 0 (by decide))
 have f := Q9 hE hZ (ht.app _) a d T2 Zs (by decide) (i := 1) (by decide) (Zt 1 (by decide))
 have e := Q9 hE hZ (ht.app _) a d T2 Zs (by decide) (i := 2) (by decide) (Zt 2 (by decide))
 rw [show ((0 : Nat) : Int) = 0 from rfl, A0k] at c
 rw [show ((1 : Nat) : Int) = 1 from rfl, A0j] at f
 rw [show ((2 : Nat) : Int) = 2 from rfl, A0i] at e
 dsimp only at c f e
 simp only [setL, A0, List.map_cons, List.map_nil, List.flatten_cons, List.flatten_nil, List.cons_append, List.nil_append, List.append_nil] at c f e
 clear g a
 (repeat' simp -dsimp (disch := omega) only [↓EA, EB, Nat.reduceEqDiff, Nat.reduceAdd, Nat.reduceLeDiff, Nat.reduceMul, ↓reduceIte, Ac, Sk, eq_self, *])
end Go.L.Try
namespace Go.L.Try
open Go Go.L
variable {E : Env} {G : Nat}
theorem A0p (hE : Ay E) (h : Aa) (x n : Int) (hn : 0 < n) (hn' : n < 4611686018427387904) : callW E (.func (.func Ji) #[] #[]) [.int .i64 x, .int .i64 n] h = some (.int .i64 (x % n), h, []) := by
 have a := Q4 x n hn
 refine Am hE.Akh rfl (by simp) ?_
 simp -dsimp (disch := omega) only [↓EA, EB, Nat.reduceEqDiff, ↓reduceIte, reduceCtorEq, eq_self, Ak, Alm x n hn]
theorem Aqy {q : EqK} {a : Int} : binOp .and q (.int .i64 a) (.int .i64 33554431) = some (.int .i64 (a % 33554432)) := by
 have e : (((BitVec.ofInt 64 a) &&& (BitVec.ofInt 64 33554431)).toNat : Int) = a % 33554432 := by
  have d : BitVec.ofInt 64 33554431 = BitVec.ofNat 64 33554431 := by decide
  rw [d, BitVec.toNat_and, BitVec.toNat_ofInt, BitVec.toNat_ofNat, Nat.mod_eq_of_lt (by decide : 33554431 < 2 ^ 64), show (33554431 : Nat) = 2 ^ 25 - 1 by decide, Nat.and_two_pow_sub_one_eq_mod]
  omega
 have c : binOp .and q (.int .i64 a) (.int .i64 33554431) = some (.int .i64 (IntKind.i64.wrap (((BitVec.ofInt 64 a) &&& (BitVec.ofInt 64 33554431)).toNat : Nat))) := by simp only [binOp, Ee, if_true]; rfl
 rw [c, e, Q1 (by omega) (by omega)]
theorem Ajk (hE : Ay E) {h H : Aa} (hph : Pre h H) {s : List Ab} (hsm : ∀ t ∈ s, Abp t) (hn6 : s.length ≤ 6) {vs : Value} (hs : Rd 7 A0 H vs s) {k : Int} (hk : 1 ≤ k ∧ k ≤ 33554432) {Q : Ex → Fr → Aa → Prop} {fr : Fr} {W : Nat → Prop} (hW : ∀ b, h.length ≤ b → W b) {v7 v9 : Value}
  (g7 : get fr 7 = v7) (g8 : get fr 8 = vs) (g9 : get fr 9 = v9) (g10 : get fr 10 = .int .i64 k) (g11 : get fr 11 = .slice none 0 0) (g12 : get fr 12 = .int .i64 0)
  (hq : ∀ fr' h' vg, Pre H h' → get fr' 7 = v7 → get fr' 8 = vs → get fr' 9 = v9 → get fr' 11 = vg → Rd 7 A0 h' vg (s.map (scA k)) → Q (.exit 0) fr' h') :
  WO W (iterW (code (callW E) iterW 116 Iu) fr H) Q := by
 have z := hph.le
 refine WO.loop (fun (n : Nat) fr h' => n ≤ s.length ∧ Pre H h' ∧ get fr 7 = v7 ∧ get fr 8 = vs ∧ get fr 9 = v9 ∧ get fr 10 = .int .i64 k ∧ get fr 12 = .int .i64 n ∧ OwnT H.length 7 A0 h' (get fr 11) ((s.take n).map (scA k))) (fun n => s.length - n) ?_ 0 ⟨Nat.zero_le _, Pre.refl _, g7, g8, g9, g10, g12, by rw [g11]; exact OwnT.nil⟩
 clear g7 g8 g9 g10 g11 g12
 rintro n fr h' ⟨hn, g, g7, g8, g9, g10, g12, f⟩
 generalize hvg : get fr 11 = vg at f
 have p := hs.pre g
 have a0 := g.le
 unfold Iu
 rcases Nat.lt_or_ge n s.length with hlt | hge
 ·have o := hsm _ (Aj (l := s) (i := (n : Int)) (by omega) (by omega))
  obtain ⟨_, hC, hD, hJ, hQ, hT, hP⟩ := o
  have c := N8 hk (by decide) hC
  have d := N8 (x := (atI s (n : Int)).D) (a := 1) (b := 14) hk (by decide) (by omega)
  have j := N8 (x := (atI s (n : Int)).J) (a := 0) (b := 13) hk (by decide) (by omega)
  have t' := N8 (x := (atI s (n : Int)).T) (a := 1) (b := 20) hk (by decide) (by omega)
  have q' := N8 (x := (atI s (n : Int)).Q) (a := 1) (b := 4) hk (by decide) (by omega)
  have r := Hid.mk (show (s.take (n + 1)).map (scA k) = (s.take n).map (scA k) ++ [scA k (atI s (n : Int))] by
   rw [Go.L.take_snoc (l := s) (n := n) hlt, List.map_append]; rfl)
  have a1 : ((s.take n).map (scA k)).length ≤ 6 := by simp; omega
  have m := hs.len
  have u : (n : Int) < s.length := by omega
  have Hg := Hid.mk f
  have a2 := f.rd.one
  have hgc := f.rd.cv
  clear f
  (repeat' simp -dsimp (disch := omega) only [↓EA, EB, Nat.reduceEqDiff, Nat.reduceAdd, Nat.reduceLeDiff, Nat.reduceMul, ↓reduceIte, Ac, Sk, eq_self, *, p.len, p.ixs, p.lda, A0])
  refine Ak8 (sz := 7) (bytes := 64) (Hg.out.app _) (g.app' _) (Nat.le_refl _) (by simp; omega) (fun b hb => hW b (by omega)) (scA k (atI s (n : Int))) (by simp -dsimp (disch := omega) only [EB, Nat.reduceAdd, Nat.reduceMul, ↓reduceIte]; rfl) rfl (by decide) (by decide) (by omega) ?_
  intro v2 h2 v y j3 j4 j5
  clear j5 j3 j4
  (repeat' simp -dsimp (disch := omega) only [↓EA, EB, Nat.reduceEqDiff, ↓reduceIte, eq_self, *])
  refine Next.mk (n + 1) ⟨by omega, y, rfl, rfl, rfl, rfl, rfl, ?_⟩ (by omega)
  rw [r.out]; exact v
 ·have e : n = s.length := by omega
  subst e
  rw [List.take_length] at f
  have m := hs.len
  have Hq := Hid.mk hq
  clear hq
  (repeat' (first | (with_reducible refine A3 (fun _ => ?_) (fun _ => ?_) <;> try (exfalso; omega)) | simp -dsimp (disch := omega) only [↓EA, EB, Nat.reduceEqDiff, ↓reduceIte, eq_self, *]))
  exact Hq.out _ _ vg g rfl rfl rfl rfl f.rd
theorem Axa (hE : Ay E) (hX : Kp E) (hZ : Fd E G) {h : Aa} (ht : Tab G h) {vl : Value} {l : List Spec} (hl : Rd 5 Vw h vl l) {turn by' : Int} (hturn : Lr turn) (hby : Lr by') :
  callW E (.func (.func Il) #[] #[]) [vl, .int .i64 turn, .int .i64 by'] h = some (.bool true, h, []) := by
 refine Am hE.Ts rfl (by simp) ?_
 simp only [Ak]
 have a5 := Ayr hE hZ ht
 have a4 := Zq l (most := 6) (turn := turn) (by decide)
 have c := fun t ht => Ajp (l := l) (most := 6) (turn := turn) (t := t) (by decide) (by decide) ht
 have hv := Ajo l (most := 6) turn (by decide) (by decide)
 have m : ∀ t ∈ setP l 6 turn, t.name.size < 1152921504606846976 := fun t ht => by have := (c t ht).name; omega
 have hk := Eh by' 33554432 (by decide)
 have z := fun q => Aqy (q := q) (a := by')
 have f : 1 ≤ 1 + by' % 33554432 ∧ 1 + by' % 33554432 ≤ 33554432 := by omega
 (repeat' simp -dsimp (disch := omega) only [↓EA, EB, Nat.reduceEqDiff, Nat.reduceAdd, ↓reduceIte, reduceCtorEq, eq_self, *])
 refine J4 (A0l hE hl (by decide) (by decide) hturn) fun v ys r1 p1 => ?_
 have rs := r1.rd
 generalize setP l 6 turn = s at *
 have e : s.length ≤ 6 := by omega
 have a6 : 0 < s.length := by omega
 have g := fun hh => A0p hE hh turn s.length (by omega) (by omega)
 have x := Eh turn (s.length : Int) (by omega)
 obtain ⟨i, hi⟩ : ∃ i : Nat, turn % (s.length : Int) = i := ⟨(turn % (s.length : Int)).toNat, by omega⟩
 rw [hi] at x
 simp only [hi] at g
 have n : i < s.length := by omega
 generalize h ++ ys = H at *
 have a8 := rs.len
 have os := rs.one
 have cs := rs.cv
 clear a4 r1 hi hturn
 (repeat' simp -dsimp (disch := omega) only [↓EA, EB, Nat.reduceEqDiff, ↓reduceIte, reduceCtorEq, eq_self, *])
 refine Ajk hE p1 c e rs f (fun b hb => hb) rfl rfl rfl rfl rfl rfl fun a9 h2 vg p2 g7 g8 g9 a7 rg => ?_
 have j := (ht.pre p1).pre p2
 clear z
 generalize 1 + by' % 33554432 = k at *
 have a2 := rs.pre p2
 have a1 : ∀ t ∈ s, Mid t := fun t ht => (Ald (c t ht)).1
 have r : (A9 s i).length ≤ 4096 := Aih (k := 1) (by decide) (fun t ht => (Ald (c t ht)).2) e n
 have a0 := Apm hv c f
 obtain ⟨_, d, _⟩ := valid_iff.1 hv
 have a3 : ∀ t ∈ s.map (scA k), Mid t := fun t ht => by obtain ⟨u, o, rfl⟩ := List.mem_map.1 ht; exact (Aju (d u o) (c u o) f).2.1
 have y : (A9 (s.map (scA k)) i).length ≤ 4096 := Aih (k := k) f.1 (fun t ht => by obtain ⟨u, o, rfl⟩ := List.mem_map.1 ht; exact (Aju (d u o) (c u o) f).2.2) (by simpa using e) (by simpa using n)
 have p : ∀ t ∈ s.map (scA k), t.name.size < 1152921504606846976 := fun t ht => by obtain ⟨u, o, rfl⟩ := List.mem_map.1 ht; exact m u o
 have x1 := Q9 hE hZ j a2 m hv a1 e n r
 have x2 := Avw hE hX hZ j a2 m (i : Int)
 have x3 := Q9 hE hZ j rg p a0 a3 (by simpa using e) (i := i) (by simpa using n) y
 have x4 := Avw hE hX hZ j rg p (i : Int)
 have og := rg.one
 have cg := rg.cv
 clear a0 a3 y p a1 r d hv c m a5 g
 generalize boundP s (i : Int) = b1 at *
 generalize boundP (s.map (scA k)) (i : Int) = b2 at *
 obtain ⟨c1, c2⟩ := b1
 obtain ⟨d1, d2⟩ := b2
 dsimp only at x1 x2 x3 x4
 (repeat' simp -dsimp (disch := omega) only [↓EA, EB, Nat.reduceEqDiff, ↓reduceIte, eq_self, *])
end Go.L.Try
