/- A PERIOD's RUN: hyper.Run, hyper.Idle, and the document's Worst, Idle. -/
import Derived.Test.YtifnlcajancfdaaPn
import Derived.Test.YtifnlcajancfdaaPm
import Derived.Test.YtifnlcajancfdaaPk
import Derived.Test.YtifnlcajancfdaaPl
set_option linter.unusedVariables false
set_option linter.unusedSimpArgs false
set_option maxRecDepth 100000
set_option maxHeartbeats 4000000
namespace Go.L.Try
open Go Go.L
variable {E : Env}
theorem JobsR.open {m : Nat} {r : List Job × Int × Int} {h : Aa} {v : Value} (j : JobsR m r h v) : ∃ v1, v = .tuple #[v1, .int .u64 r.2.1, .int .i64 r.2.2] ∧ RdNO m 5 hdJ Job.cuts h v1 r.1 := by
 obtain ⟨e, rfl, a⟩ := j
 rcases a with _ | ⟨c, _ | ⟨rb, _ | ⟨d, _ | _⟩⟩⟩
 subst rb; subst d
 exact ⟨_, rfl, c⟩
theorem Got17.open {m : Nat} {r : List Job × Int × Int} {h : Aa} {v : Value} (j : Got17 m r h v) : ∃ v1, v = .agg #[v1, .int .u64 r.2.1, .int .i64 r.2.2] ∧ RdNO m 5 hdJ Job.cuts h v1 r.1 := by
 obtain ⟨e, rfl, a⟩ := j
 rcases a with _ | ⟨c, _ | ⟨rb, _ | ⟨d, _ | _⟩⟩⟩
 subst rb; subst d
 exact ⟨_, rfl, c⟩
structure JOk (l : List Af) (cap p : Int) : Prop where
 is : Bv l cap = (allH l p l.length, p, 0)
 ok : (A0 l).2 = 0
 per : Bo l = some p
 cap : p ≤ cap
 few : (allH l p l.length).length ≤ 4096
theorem Z4 {l : List Af} {cap : Int} (h : (Bv l cap).2.2 = 0) : ∃ p, JOk l cap p := by
 unfold Bv at h
 split at h
 ·exact absurd h (by simp)
 ·rename_i a
  have a : (A0 l).2 = 0 := Classical.not_not.1 a
  cases c : Bo l with
  | none => rw [c] at h; exact absurd h (by simp)
  | some p =>
   rw [c] at h
   dsimp only at h
   split at h
   ·exact absurd h (by simp)
   ·rename_i h2
    split at h
    ·exact absurd h (by simp)
    ·rename_i d
     refine ⟨p, ?_, a, c, by omega, by omega⟩
     unfold Bv
     rw [if_neg (fun h => h a), c]
     dsimp only
     rw [if_neg h2, if_neg d]
theorem We {l : List Af} {cap : Int} (h : (Bv l cap).2.2 ≠ 0) : (Bv l cap).1 = [] ∧ (Bv l cap).2.1 = 0 := by
 unfold Bv at h ⊢
 split at h
 ·rename_i a; rw [if_pos a]; exact ⟨rfl, rfl⟩
 ·rename_i a
  rw [if_neg a]
  cases hp : Bo l with
  | none => exact ⟨rfl, rfl⟩
  | some p =>
   rw [hp] at h
   dsimp only at h ⊢
   split at h
   ·rename_i h2; rw [if_pos h2]; exact ⟨rfl, rfl⟩
   ·rename_i h2
    rw [if_neg h2]
    split at h
    ·rename_i c; rw [if_pos c]; exact ⟨rfl, rfl⟩
    ·exact absurd rfl h
structure JGood (l : List Af) (jobs : List Job) : Prop where
 legal : legalB l jobs = true
 sum : B9 jobs ≤ 1099511627776
 few : jobs.length ≤ 4096
 small : Ua jobs
theorem JOk.good {l : List Af} {cap p : Int} (J : JOk l cap p) (hp : p ≤ 268435456) : JGood l (allH l p l.length) := by
 obtain ⟨f, c⟩ := N7 J.per
 have d : Qt l := J.ok
 obtain ⟨_, _, a⟩ := Dj J.ok
 refine ⟨Akl d (by omega) J.few, Au9 a c hp J.few, J.few, fun j e => ?_⟩
 have := (Ah9 a c e).2.2.1
 omega
theorem JGood.script {l : List Af} {jobs : List Job} (J : JGood l jobs) : Script l jobs := Sk J.legal
theorem JGood.ends {l : List Af} {jobs : List Job} (J : JGood l jobs) : Aih (runU l jobs 9223372036854775807).ends := by
 obtain ⟨T, R⟩ := Av6 J.legal J.sum
 have f := Av8 J.legal J.sum R
 intro e d
 obtain ⟨i, a, rfl⟩ := List.getElem_of_mem d
 rw [R.elen] at a
 obtain ⟨e, c, h2, _⟩ := R.ends i a
 rw [Ax (by rw [R.elen]; exact a)] at c
 rw [c]; omega
theorem Akt {l : List Af} {jobs : List Job} (S : Script l jobs) : ∀ n, (st l jobs n).L.length ≤ n
 | 0 => Nat.le_refl _
 | n + 1 => by
  have a := Akt S n
  rw [A0q S]
  split
  ·omega
  ·have := Xg (st l jobs n).L (who l jobs n) n; omega
theorem JGood.upto {l : List Af} {jobs : List Job} (J : JGood l jobs) {e : Int} (he : 0 ≤ e ∧ e ≤ 268435456) : ∃ T : Nat, (T : Int) ≤ e ∧ runU l jobs e = st l jobs T ∧ Bb l jobs e (Dp jobs.length) = st l jobs T ∧ Sx (st l jobs T).L ∧ (st l jobs T).L.length ≤ T ∧ (0 ≤ sumL (st l jobs T).L ∧ sumL (st l jobs T).L ≤ T) := by
 have S := J.script
 obtain ⟨T, a, _, d⟩ := Aqs S (e := e)
 have c := d he.1
 have h2 : ∀ n : Nat, 0 ≤ Xb l jobs n ∧ Xb l jobs n ≤ n := by
  intro n
  induction n with
  | zero => rw [Aah]; simp
  | succ n ih => rw [Aai S]; split <;> omega
 refine ⟨T, c, ?_, a, Aiu S (by omega), Akt S T, by rw [Adc S]; exact h2 T⟩
 unfold runU
 rw [if_pos J.legal, show max e 0 = e by omega, a]
def worstL (l : List Af) (jobs : List Job) (ends : List Int) (n : Nat) : List Int := (List.range n).map fun (i : Nat) => (worstN jobs ends (i : Int) jobs.length).1
theorem Wt (l : List Af) (jobs : List Job) (ends : List Int) (n : Nat) : worstL l jobs ends (n + 1) = worstL l jobs ends n ++ [(worstN jobs ends (n : Int) jobs.length).1] := by
 simp [worstL, List.range_succ]
theorem Yg (l : List Af) (jobs : List Job) (ends : List Int) (n : Nat) : (worstL l jobs ends n).length = n := by simp [worstL]
def Ai6 (l : List Af) (cap : Int) : List Int × Int × Int :=
 if (Bv l cap).2.2 ≠ 0 then ([], 0, (Bv l cap).2.2) else (worstL l (Bv l cap).1 (runU l (Bv l cap).1 9223372036854775807).ends l.length, (Bv l cap).2.1, 0)
def RunR (m : Nat) (r : List Int × Int × Int) (h : Aa) (v : Value) : Prop := ∃ vs, v = .tuple vs.toArray ∧ Each h [fun h v => RdM m 1 Cj h v r.1, fun _ v => v = .int .u64 r.2.1, fun _ v => v = .int .i64 r.2.2] vs
theorem RunR.movable {m : Nat} (r : List Int × Int × Int) : Movable m (RunR m r) 2 :=
 Movable.tuples (k := 1) (fun R hR => by
  simp only [List.mem_cons, List.not_mem_nil, or_false] at hR
  rcases hR with rfl | rfl | rfl
  ·exact RdM.movable Xa _
  ·exact Gd rfl
  ·exact Gd rfl) (by simp)
theorem OwnT.rdM {α : Type} {m sz : Nat} {enc : α → List Value} {h : Aa} {v : Value} {l : List α} (o : OwnT m sz enc h v l) : RdM m sz enc h v l := ⟨o.rd, fun hn => o.ge (o.ne hn)⟩
theorem Atz (hE : Ap E) {h : Aa} {vl : Value} {l : List Af} (hl : Rd 7 Az h vl l) (hs : ∀ t ∈ l, t.name.size < 1152921504606846976) {cap : Int} (hcap : Bz cap) (hper : ∀ p, Bo l = some p → p ≤ cap → p ≤ 268435456) :
  ∃ v ys, callW E (.func (.func Io) #[] #[]) [vl, .int .u64 cap] h = some (v, h ++ ys, []) ∧ RunR h.length (Ai6 l cap) (h ++ ys) v := by
 refine Ja hE.Aps rfl (RunR.movable _) (by simp) ?_
 have few := hl.few
 have hj := Ats hE hl hs hcap (fun p u h2 => by have := hper p u h2; omega)
 have ae := hl.one
 simp only [Ah]
 by_cases g : (Bv l cap).2.2 = 0
 ·obtain ⟨p, J⟩ := Z4 g
  have hp := hper p J.per J.cap
  have G := J.good hp
  have s := (Dj J.ok).2.1
  have hr : Ai6 l cap = (worstL l (allH l p l.length) (runU l (allH l p l.length) 9223372036854775807).ends l.length, p, 0) := by
   unfold Ai6
   rw [if_neg (fun h => h g), J.is]
  rw [hr]
  rw [J.is] at hj
  have HJ := Hid.mk (AI J hper)
  clear hr g hper
  generalize allH l p l.length = jobs at *
  (repeat' simp -dsimp (disch := omega) only [↓EA, EB, Nat.reduceEqDiff, ↓reduceIte, reduceCtorEq, eq_self, *])
  refine Ec hj fun v1 ys r1 p1 => ?_
  obtain ⟨vj, rfl, ro⟩ := r1.open
  obtain ⟨y, r, f, hw⟩ := ro.is
  replace r : y.map (·.j) = jobs := r
  have rj : RdJ _ vj jobs := ro.rd
  have s := hl.pre p1
  generalize _ ++ ys = H1 at *
  have oj := f.rd.one
  have cj := f.rd.cv
  have a9 : C3 vj = true := by
   obtain ⟨⟨a, b, c, rfl⟩, _⟩ := f.rd.shape
   rfl
  have x := A2m hE s hs rj (by have := G.few; omega) G.sum
  have HO := Hid.mk (AI f hw)
  have RJ := Hid.mk rj
  have P1 := Hid.mk p1
  clear hj r1 ro f hw rj p1
  (repeat' simp -dsimp (disch := omega) only [↓EA, EB, Nat.reduceEqDiff, ↓reduceIte, reduceCtorEq, eq_self, *])
  refine Ec x fun v2 ys r2 p2 => ?_
  have P2 := P1.out.trans p2
  have ag := s.pre p2
  have a4 := HO.out.1.rd.pre p2
  have a1 := fun q hq => ((HO.out.2 q hq).1.pre p2).one
  generalize _ ++ ys = H2 at *
  obtain ⟨vs, rfl, aa⟩ := r2
  rcases aa with _ | @⟨_, _, va, _, ra, _ | @⟨_, _, vb, _, rb, _ | _⟩⟩
  have na := Rd.nt ra.1
  have nb := Rd.nt rb.1
  have oa := ra.1.one
  have ob := rb.1.one
  have ca := ra.1.cv
  have cb := rb.1.cv
  have a5 := rb.1
  have a2 := G.ends
  have a3 : Ua (y.map (·.j)) := by rw [r]; exact G.small
  generalize (runU l jobs 9223372036854775807).ends = ends at *
  have d : ∀ (t : Int) H, Pre H2 H → callW E (.func (.func Fp) #[] #[]) [vj, vb, .int .i64 t] H = some (.tuple #[.int .i64 (worstN jobs ends t jobs.length).1, .int .i64 (worstN jobs ends t jobs.length).2.1, .bool (worstN jobs ends t jobs.length).2.2], H, []) := fun t H hp => by
   have u := A0l hE (a4.pre hp) a1 (a5.pre hp) a2 a3 t
   rw [show y.length = jobs.length by rw [← r, List.length_map], r] at u
   exact u
  have HW := Hid.mk d
  have z := Hid.mk P2
  clear x p2 d a2 a3 rb a5 ra a1 a4 P2 s
  have a0 : ∀ n : Nat, (worstL l jobs ends n).length = n := Yg l jobs ends
  (repeat' simp -dsimp (disch := omega) only [↓EA, EB, Nat.reduceEqDiff, ↓reduceIte, reduceCtorEq, eq_self, *, hl.len])
  refine WO.loop (fun (q : Nat × Value) fr h' => q.1 ≤ l.length ∧ Pre H2 h' ∧ OwnT H2.length 1 Cj h' q.2 (worstL l jobs ends q.1) ∧ get fr 7 = vj ∧ get fr 8 = .int .u64 p ∧ get fr 11 = vb ∧ get fr 12 = q.2 ∧ get fr 34 = .int .i64 l.length ∧ get fr 35 = .int .i64 q.1) (fun q => l.length - q.1) ?_ (0, .slice none 0 0) ⟨Nat.zero_le _, Pre.refl _, OwnT.nil, rfl, rfl, rfl, rfl, rfl, rfl⟩
  rintro ⟨n, v⟩ fr h' ⟨hn, m, f, g7, g8, aj, ai, am, af⟩
  dsimp only at *
  unfold R9
  have ov := f.rd.one
  have cv := f.rd.cv
  by_cases ac : n < l.length
  ·have d := HW.out n h' m
   have a6 := Wt l jobs ends n
   have ab := Hid.mk a6
   have a7 := a0 n
   have O := Hid.mk f
   have a8 := z.out.le
   clear a6 f
   generalize worstN jobs ends (n : Int) jobs.length = w at *
   obtain ⟨w1, w2, w3⟩ := w
   (repeat' (first | (with_reducible refine A3 (fun _ => ?_) (fun _ => ?_) <;> try (exfalso; omega)) | simp -dsimp (disch := omega) only [↓EA, EB, Nat.reduceEqDiff, Nat.reduceLeDiff, Nat.reduceMul, ↓reduceIte, Ab, T9, eq_self, *]))
   refine Sh (sz := 1) (bytes := 8) (h0 := H2) (O.out.app _) (m.app' _) (Nat.le_refl _) (by have := m.le; simp; omega) (fun hn => by have := O.out.ge hn; omega) w1 ?_ rfl (by decide) (by decide) (by omega) fun v' h2 o2 p3 _ _ _ => ?_
   case' refine_1 => rw [Bl, Bk]; rfl
   have al := o2.rd.one
   have ad := o2.rd.cv
   have O2 := Hid.mk (AI o2 p3)
   clear o2 p3 m
   (repeat' simp -dsimp (disch := omega) only [↓EA, EB, Nat.reduceEqDiff, ↓reduceIte, eq_self, *])
   refine Next.mk (n + 1, v') ⟨by dsimp only; omega, O2.out.2, by rw [ab.out]; exact O2.out.1, rfl, rfl, rfl, rfl, rfl, by simp only [get]; simp⟩ (by dsimp only; omega)
  ·have e : l.length = n := by omega
   have a8 := z.out.le
   have O := Hid.mk (AI f e)
   have ah : ¬ (n : Int) < l.length := by omega
   clear e ac
   (repeat' simp -dsimp (disch := omega) only [↓EA, EB, Nat.reduceEqDiff, ↓reduceIte, eq_self, *])
   obtain ⟨f, e⟩ := O.out
   refine ⟨(z.out.trans m).ex, _, rfl, .cons ⟨?_, fun hn => ?_⟩ (.cons rfl (.cons rfl .nil))⟩
   ·rw [e]; exact f.rd
   ·have := (OwnT.rdM f).2 hn; omega
 ·obtain ⟨u, h2⟩ := We g
  have hr : Ai6 l cap = ([], 0, (Bv l cap).2.2) := if_pos g
  rw [hr]
  have e0 : Bv l cap = ([], 0, (Bv l cap).2.2) := by
   rw [← u, ← h2]
  rw [e0] at hj
  clear u h2 hr e0 hper
  generalize (Bv l cap).2.2 = n at *
  (repeat' simp -dsimp (disch := omega) only [↓EA, EB, Nat.reduceEqDiff, ↓reduceIte, reduceCtorEq, eq_self, *])
  refine Ec hj fun v1 ys r1 p1 => ?_
  obtain ⟨vj, rfl, ro⟩ := r1.open
  obtain ⟨ak, _, o⟩ : ∃ y : List (NV Job), y.length = 0 ∧ Rd 5 (Ci hdJ) _ vj y := by
   obtain ⟨y, u, f, _⟩ := ro.is
   exact ⟨y, by have := congrArg List.length u; simpa using this, f.rd⟩
  have oj := o.one
  have cj := o.cv
  have a9 : C3 vj = true := by
   obtain ⟨⟨a, b, c, rfl⟩, _⟩ := o.shape
   rfl
  have P1 := Hid.mk p1
  clear hj r1 ro p1
  (repeat' simp -dsimp (disch := omega) only [↓EA, EB, Nat.reduceEqDiff, ↓reduceIte, reduceCtorEq, eq_self, *])
  exact ⟨⟨_, rfl⟩, _, rfl, .cons ⟨Rd.of_nil, fun hn => absurd rfl hn⟩ (.cons rfl (.cons rfl .nil))⟩
end Go.L.Try
namespace Go.L.Try
open Go Go.L
variable {E : Env}
def W8 (l : List Af) (cap : Int) : Int × Int :=
 if (Bv l cap).2.2 ≠ 0 then (0, (Bv l cap).2.2) else ((Bv l cap).2.1 - sumL (runU l (Bv l cap).1 (Bv l cap).2.1).L, 0)
theorem Aj2 (hE : Ap E) {h : Aa} {vl : Value} {l : List Af} (hl : Rd 7 Az h vl l) (hs : ∀ t ∈ l, t.name.size < 1152921504606846976) {cap : Int} (hcap : Bz cap) (hper : ∀ p, Bo l = some p → p ≤ cap → p ≤ 65536) :
  callW E (.func (.func Gu) #[] #[]) [vl, .int .u64 cap] h = some (.tuple #[.int .u64 (W8 l cap).1, .int .i64 (W8 l cap).2], h, []) := by
 refine Ai hE.Aj0 rfl (by simp) ?_
 have few := hl.few
 have o := Ats hE hl hs hcap (fun p u h2 => by have := hper p u h2; omega)
 have a4 := hl.one
 simp only [Ah]
 by_cases f : (Bv l cap).2.2 = 0
 ·obtain ⟨p, J⟩ := Z4 f
  have hp := hper p J.per J.cap
  have a5 := (N7 J.per).1.1
  have G := J.good (by omega)
  have z : W8 l cap = (p - sumL (runU l (allH l p l.length) p).L, 0) := by
   unfold W8
   rw [if_neg (fun h => h f), J.is]
  rw [z]
  rw [J.is] at o
  have HJ := Hid.mk (AI J hper)
  clear z f hper
  generalize allH l p l.length = jobs at *
  (repeat' simp -dsimp (disch := omega) only [↓EA, EB, Nat.reduceEqDiff, ↓reduceIte, reduceCtorEq, eq_self, *])
  refine Ec o fun v1 ys r1 s => ?_
  obtain ⟨vj, rfl, y⟩ := r1.open
  obtain ⟨v, a1, r, hw⟩ := y.is
  replace a1 : v.map (·.j) = jobs := a1
  have rj : RdJ _ vj jobs := y.rd
  have a0 := hl.pre s
  generalize _ ++ ys = H1 at *
  have oj := r.rd.one
  have cj := r.rd.cv
  have a2 : C3 vj = true := by
   obtain ⟨⟨a, b, c, rfl⟩, _⟩ := r.rd.shape
   rfl
  have g := Aqv hE a0 hs rj (by have := G.few; omega) G.sum (e := p) ⟨by omega, by omega⟩
  have P1 := Hid.mk s
  clear o r1 y r hw rj s
  (repeat' simp -dsimp (disch := omega) only [↓EA, EB, Nat.reduceEqDiff, ↓reduceIte, reduceCtorEq, eq_self, *])
  refine Ec g fun v2 ys r2 p2 => ?_
  generalize _ ++ ys = H2 at *
  obtain ⟨vs, rfl, a3⟩ := r2
  rcases a3 with _ | @⟨_, _, va, _, ra, _ | @⟨_, _, vb, _, rb, _ | _⟩⟩
  have na := Rd.nt ra.1
  have nb := Rd.nt rb.1
  have oa := ra.1.one
  have ob := rb.1.one
  have ca := ra.1.cv
  have cb := rb.1.cv
  obtain ⟨T, t1, t2, t3, t4, t5, t6, t7⟩ := G.upto (e := p) ⟨by omega, by omega⟩
  rw [t2] at ra ⊢
  have m := A05 hE ra.1 t4 (by omega)
  rw [Ato] at m
  clear g p2 ra rb a0 t2 t3 t4 t5
  generalize sumL (st l jobs T).L = x at *
  (repeat' simp -dsimp (disch := omega) only [↓EA, EB, Nat.reduceEqDiff, ↓reduceIte, reduceCtorEq, eq_self, *])
 ·obtain ⟨u, h2⟩ := We f
  have z : W8 l cap = (0, (Bv l cap).2.2) := if_pos f
  rw [z]
  have e0 : Bv l cap = ([], 0, (Bv l cap).2.2) := by
   rw [← u, ← h2]
  rw [e0] at o
  clear u h2 z e0 hper
  generalize (Bv l cap).2.2 = n at *
  (repeat' simp -dsimp (disch := omega) only [↓EA, EB, Nat.reduceEqDiff, ↓reduceIte, reduceCtorEq, eq_self, *])
  refine Ec o fun v1 ys r1 s => ?_
  obtain ⟨vj, rfl, y⟩ := r1.open
  obtain ⟨a6, _, d⟩ : ∃ v : List (NV Job), v.length = 0 ∧ Rd 5 (Ci hdJ) _ vj v := by
   obtain ⟨v, u, r, _⟩ := y.is
   exact ⟨v, by have := congrArg List.length u; simpa using this, r.rd⟩
  have oj := d.one
  have cj := d.cv
  have a2 : C3 vj = true := by
   obtain ⟨⟨a, b, c, rfl⟩, _⟩ := d.shape
   rfl
  have P1 := Hid.mk s
  clear o r1 y s
  (repeat' simp -dsimp (disch := omega) only [↓EA, EB, Nat.reduceEqDiff, ↓reduceIte, reduceCtorEq, eq_self, *])
theorem Avh (hE : Ap E) {h : Aa} {vl vj : Value} {l : List Af} {jobs : List Job} (hl : Rd 7 Az h vl l) (hl1 : l.length ≤ 1024) (hj : RdJ h vj jobs) (G : JGood l jobs) :
  ∃ v ys, callW E (.func (.func Hy) #[] #[]) [vl, vj] h = some (v, h ++ ys, []) ∧ RdM h.length 1 Cj (h ++ ys) v (worstL l jobs (runU l jobs 9223372036854775807).ends l.length) := by
 refine Ja hE.Afo rfl (RdM.movable Xa _) (by simp) ?_
 have af := hl.one
 have hu := Akq hE hl hj G.script.ok G.sum (-1)
 rw [← Adm G.legal G.sum] at hu
 have z := G.ends
 obtain ⟨lv, s, r, p⟩ := hj.is
 have ah := r.one
 have ag := r.cv
 have a0 : Ua (lv.map (·.j)) := by rw [s]; exact G.small
 generalize runU l jobs 9223372036854775807 = rs at *
 simp only [Ah]
 have Hl := Hid.mk s
 clear s p hj
 (repeat' simp -dsimp (disch := omega) only [↓EA, EB, Nat.reduceEqDiff, ↓reduceIte, reduceCtorEq, eq_self, *])
 refine Ec hu fun v2 ys r2 x => ?_
 have a7 := hl.pre x
 have g := r.pre x
 generalize _ ++ ys = H2 at *
 obtain ⟨vs, rfl, a8⟩ := r2
 rcases a8 with _ | @⟨_, _, va, _, ra, _ | @⟨_, _, vb, _, rb, _ | @⟨_, _, vc, _, rc, _ | _⟩⟩⟩
 have oa := ra.1.one
 have ob := rb.1.one
 have oc := rc.1.one
 have ca := ra.1.cv
 have cb := rb.1.cv
 have cc := rc.1.cv
 have a : ∀ (t : Int) H, Pre H2 H → callW E (.func (.func Fs) #[] #[]) [vj, vb, .int .i64 t] H = some (.agg #[.int .i64 (worstN jobs rs.ends t jobs.length).1, .int .i64 (worstN jobs rs.ends t jobs.length).2.1, .bool (worstN jobs rs.ends t jobs.length).2.2], H, []) := fun t H hp => by
  have h1 := Avi hE (g.pre hp) (rb.1.pre hp) z a0 t
  rw [show lv.length = jobs.length by rw [← Hl.out, List.length_map], Hl.out] at h1
  exact h1
 have HW := Hid.mk a
 have a6 := Hid.mk x
 have m := Yg l jobs rs.ends
 have ad := x.le
 clear hu a z a0 ra rb rc x g
 (repeat' simp -dsimp (disch := omega) only [↓EA, EB, Nat.reduceEqDiff, Nat.reduceAdd, ↓reduceIte, reduceCtorEq, Ab, eq_self, *])
 refine WO.loop (fun (q : Nat × Value) fr h' => q.1 ≤ l.length ∧ Pre (H2 ++ [.cells [va, vb, vc] false]) h' ∧ OwnT (H2.length + 1) 1 Cj h' q.2 (worstL l jobs rs.ends q.1) ∧ get fr 0 = vl ∧ get fr 1 = vj ∧ get fr 5 = .pointer (some ⟨H2.length, 0, none⟩) ∧ get fr 6 = q.2 ∧ get fr 7 = .int .i64 q.1) (fun q => l.length - q.1) ?_ (0, .slice none 0 0) ⟨Nat.zero_le _, Pre.refl _, OwnT.nil, rfl, rfl, rfl, rfl, rfl⟩
 rintro ⟨n, v⟩ fr h' ⟨u, c, f, g0, g1, g5, g6, g7⟩
 dsimp only at *
 unfold Ok
 have ov := f.rd.one
 have cv := f.rd.cv
 have d : Pre H2 h' := (Pre.app H2 _).trans c
 have a2 := a7.pre d
 have ae : H2.length + 1 ≤ h'.length := by have := c.le; simpa using this
 have hb : h'[H2.length]? = some (.cells [va, vb, vc] false) := c _ _ (by rw [Bk]; rfl)
 by_cases aa : n < l.length
 ·have a := HW.out n h' d
  have a4 := Wt l jobs rs.ends n
  have a9 := Hid.mk a4
  have a5 := m n
  have O := Hid.mk f
  have HP := Hid.mk c
  clear a4 f c
  generalize worstN jobs rs.ends (n : Int) jobs.length = w at *
  obtain ⟨w1, w2, w3⟩ := w
  (repeat' (first | (with_reducible refine A3 (fun _ => ?_) (fun _ => ?_) <;> try (exfalso; omega)) | simp -dsimp (disch := omega) only [↓EA, EB, Nat.reduceEqDiff, Nat.reduceLeDiff, Nat.reduceMul, ↓reduceIte, reduceCtorEq, Ab, T9, eq_self, *, a2.len]))
  refine Sh (sz := 1) (bytes := 8) (h0 := H2) (O.out.app _) (d.app' _) (by omega) (by simp; omega) (fun u => by have := O.out.ge u; omega) w1 ?_ rfl (by decide) (by decide) (by omega) fun v' h2 o2 p3 _ ab hk => ?_
  case' refine_1 => rw [Bl, Bk]; rfl
  have aj := o2.rd.one
  have ac := o2.rd.cv
  have a3 : Pre (H2 ++ [.cells [va, vb, vc] false]) h2 := fun b o a1 => by
   have y := (GI.1 a1).1
   simp only [LA, List.length_singleton] at y
   rw [hk b (by simp; omega) (fun u e => by have := O.out.ge (by intro e2; apply u; rw [e2]); omega), GL (by omega)]
   exact HP.out b o a1
  have O2 := Hid.mk (AI o2 a3)
  clear o2 p3 a3 hk
  (repeat' simp -dsimp (disch := omega) only [↓EA, EB, Nat.reduceEqDiff, ↓reduceIte, reduceCtorEq, eq_self, *])
  refine Next.mk (n + 1, v') ⟨by dsimp only; omega, O2.out.2, by rw [a9.out]; exact O2.out.1, rfl, rfl, rfl, rfl, by simp only [get]; simp⟩ (by dsimp only; omega)
 ·have e : l.length = n := by omega
  have O := Hid.mk (AI f e)
  have ai : ¬ (n : Int) < l.length := by omega
  clear e aa
  (repeat' simp -dsimp (disch := omega) only [↓EA, EB, Nat.reduceEqDiff, ↓reduceIte, reduceCtorEq, eq_self, *, a2.len])
  obtain ⟨f, e⟩ := O.out
  refine ⟨(a6.out.trans d).ex, ?_, fun u => ?_⟩
  ·rw [e]; exact f.rd
  ·have := (OwnT.rdM f).2 u; omega
theorem Aor {L : List Span} {n : Nat} (h : n < L.length) : sumL (L.take (n + 1)) = sumL (L.take n) + ((atI L (n : Int)).to' - (atI L (n : Int)).from') := by
 rw [List.take_succ_eq_append_getElem h, N2, Ax h]
 simp [sumL]
theorem Azo (hE : Ap E) {h : Aa} {vl vj : Value} {l : List Af} {jobs : List Job} (hl : Rd 7 Az h vl l) (hj : RdJ h vj jobs) (G : JGood l jobs) {p : Int} (hp : 0 ≤ p ∧ p ≤ 65536) :
  callW E (.func (.func Gs) #[] #[]) [vl, vj, .int .u64 p] h = some (.int .u64 (p - sumL (runU l jobs p).L), h, []) := by
 refine Ai hE.Ajd rfl (by simp) ?_
 have a5 := hl.one
 have hu := Akq hE hl hj G.script.ok G.sum p
 obtain ⟨T, t1, t2, t3, t4, t5, t6⟩ := G.upto (e := p) ⟨by omega, by omega⟩
 rw [t3] at hu
 rw [t2]
 have S := G.script
 obtain ⟨lv, a2, o, m⟩ := hj.is
 have a8 := o.one
 have a6 := o.cv
 have g : ∀ n : Nat, n ≤ (st l jobs T).L.length → 0 ≤ sumL ((st l jobs T).L.take n) ∧ sumL ((st l jobs T).L.take n) ≤ sumL (st l jobs T).L := fun n hn => by
  have v : ∀ L : List Span, (∀ x ∈ L, x.from' ≤ x.to') → 0 ≤ sumL L := by
   intro L
   induction L with
   | nil => intro _; exact Int.le_refl _
   | cons x r ih =>
    intro hL
    have h1 := hL x (by simp)
    have h2 := ih fun y hy => hL y (by simp [hy])
    simp only [sumL]; omega
  have f : ∀ x ∈ (st l jobs T).L, x.from' ≤ x.to' := fun x v => by
   obtain ⟨j, a, b, e, h1, h2, _⟩ := (Ae0 S T).run x v
   rw [e]; dsimp only; omega
  have e := N2 ((st l jobs T).L.take n) ((st l jobs T).L.drop n)
  rw [List.take_append_drop] at e
  have h1 := v ((st l jobs T).L.take n) fun x hh => f x (List.mem_of_mem_take hh)
  have h2 := v ((st l jobs T).L.drop n) fun x hh => f x (List.mem_of_mem_drop hh)
  omega
 have u : ∀ n : Nat, n < (st l jobs T).L.length → ((atI (st l jobs T).L (n : Int)).from' ≤ (atI (st l jobs T).L (n : Int)).to' ∧ 0 ≤ (atI (st l jobs T).L (n : Int)).from' ∧ (atI (st l jobs T).L (n : Int)).to' ≤ 35184372088832) := fun n hn => by
  have hm := Aj (l := (st l jobs T).L) (i := (n : Int)) (by omega) (by omega)
  obtain ⟨j, a, b, e, h1, h2, _⟩ := (Ae0 S T).run _ hm
  have := t4 _ hm
  rw [e] at this ⊢; dsimp only at this ⊢; omega
 have t := fun n h => Aor (L := (st l jobs T).L) (n := n) h
 generalize st l jobs T = rs at *
 have Hh := Hid.mk (AI g (AI u (AI t (AI t2 t3))))
 simp only [Ah]
 have a3 : rs.L.length ≤ 65536 := by omega
 clear a2 m hj g u t t2 t3 t4 t5
 (repeat' simp -dsimp (disch := omega) only [↓EA, EB, Nat.reduceEqDiff, Nat.reduceAdd, ↓reduceIte, reduceCtorEq, eq_self, *])
 refine Ec hu fun v2 ys r2 p2 => ?_
 generalize _ ++ ys = H2 at *
 obtain ⟨vs, rfl, a1⟩ := r2
 rcases a1 with _ | @⟨_, _, va, _, ra, _ | @⟨_, _, vb, _, rb, _ | @⟨_, _, vc, _, rc, _ | _⟩⟩⟩
 have oa := ra.1.one
 have ob := rb.1.one
 have oc := rc.1.one
 have ca := ra.1.cv
 have cb := rb.1.cv
 have cc := rc.1.cv
 have a0 := ra.1
 have a4 := p2.le
 clear hu ra rb rc
 (repeat' simp -dsimp (disch := omega) only [↓EA, EB, Nat.reduceEqDiff, Nat.reduceAdd, ↓reduceIte, reduceCtorEq, Ab, eq_self, *])
 refine WO.loop (fun (n : Nat) fr h' => h' = H2 ++ [.cells [va, vb, vc] false] ∧ n ≤ rs.L.length ∧ get fr 7 = .pointer (some ⟨H2.length, 0, none⟩) ∧ get fr 8 = .int .u64 (p - sumL (rs.L.take n)) ∧ get fr 9 = .int .i64 n) (fun n => rs.L.length - n) ?_ 0 ⟨rfl, Nat.zero_le _, rfl, by simp [get, sumL], rfl⟩
 rintro n fr h' ⟨rfl, hn, g7, g8, g9⟩
 unfold Qa
 have c := a0.app [.cells [va, vb, vc] false]
 by_cases d : n < rs.L.length
 ·have e1 := Hh.out.2.2.1 n d
  obtain ⟨x1, x2, x3⟩ := Hh.out.2.1 n d
  have y1 := Hh.out.1 n hn
  have y2 := Hh.out.1 (n + 1) d
  have E1 := Hid.mk e1
  obtain ⟨y1, aa⟩ := y1
  obtain ⟨y2, z⟩ := y2
  obtain ⟨t6, t7⟩ := t6
  have a7 : (n : Int) < rs.L.length := by omega
  have hz : sumL (rs.L.take n) + ((atI rs.L (n : Int)).to' - (atI rs.L (n : Int)).from') ≤ p := by omega
  clear e1
  generalize sumL (rs.L.take n) = s at *
  clear y2 z
  generalize sumL rs.L = s3 at *
  (repeat' simp -dsimp (disch := omega) only [↓EA, EB, Nat.reduceEqDiff, ↓reduceIte, eq_self, *, c.len, c.ixs, c.ld, Ro])
  refine Next.mk (n + 1) ⟨rfl, d, rfl, ?_, by simp only [get]; simp⟩ (by omega)
  simp only [get]; simp
  have := E1.out
  omega
 ·have e : rs.L.length = n := by omega
  have e2 : rs.L.take n = rs.L := List.take_of_length_le (by omega)
  rw [e2] at g8
  have a9 : ¬ (n : Int) < rs.L.length := by omega
  clear e
  generalize sumL rs.L = s3 at *
  (repeat' simp -dsimp (disch := omega) only [↓EA, EB, Nat.reduceEqDiff, ↓reduceIte, eq_self, *, c.len])
end Go.L.Try
namespace Go.L.Try
open Go Go.L
variable {E : Env}
theorem Ay0 (hE : Ap E) {h : Aa} {va vb : Value} {jobs : List Job} (ha : RdJ h va jobs) (hb : RdJ h vb jobs) :
  callW E (.func (.func I7) #[] #[]) [va, vb] h = some (.bool true, h, []) := by
 refine Ai hE.Ajf rfl (by simp) ?_
 obtain ⟨a, s, g, cv⟩ := ha.is
 obtain ⟨d, m, c, cw⟩ := hb.is
 have few := g.few
 have o : a.length = d.length := by rw [← List.length_map (f := NV.j), s, ← m, List.length_map]
 have x : ∀ n : Nat, n < a.length → (atI d (n : Int)).j = (atI a (n : Int)).j ∧ Rd 1 Cj h (atI a (n : Int)).v (atI a (n : Int)).j.cuts ∧ Rd 1 Cj h (atI d (n : Int)).v (atI a (n : Int)).j.cuts := fun n hn => by
  have e1 := Eb NV.j a (n : Int) (by omega) (by omega)
  have e2 := Eb NV.j d (n : Int) (by omega) (by omega)
  have e : (atI d (n : Int)).j = (atI a (n : Int)).j := by rw [e1, e2, show a.map NV.j = d.map NV.j from s.trans m.symm]
  refine ⟨e, cv _ (Aj (by omega) (by omega)), ?_⟩
  have := cw _ (Aj (l := d) (i := (n : Int)) (by omega) (by omega))
  rwa [e] at this
 have r := c.len
 rw [← o] at r
 have z := Hid.mk x
 simp only [Ah]
 clear x cv cw s m ha hb
 have a0 := Hid.mk o
 clear o
 (repeat' simp -dsimp (disch := omega) only [↓EA, EB, Nat.reduceEqDiff, ↓reduceIte, reduceCtorEq, eq_self, *, g.len])
 refine WO.loop (fun (n : Nat) fr h' => h' = h ∧ n ≤ a.length ∧ get fr 0 = va ∧ get fr 1 = vb ∧ get fr 5 = .int .i64 n) (fun n => a.length - n) ?_ 0 ⟨rfl, Nat.zero_le _, rfl, rfl, rfl⟩
 rintro n fr h' ⟨e0, hn, g0, g1, g5⟩
 subst h'
 unfold Qc
 by_cases u : n < a.length
 ·obtain ⟨e, p, y⟩ := z.out n u
  have a3 : (n : Int) < d.length := by have := a0.out; omega
  have e1 : (atI d (n : Int)).j.task = (atI a (n : Int)).j.task := by rw [e]
  have e2 : (atI d (n : Int)).j.arrive = (atI a (n : Int)).j.arrive := by rw [e]
  have e3 : (atI d (n : Int)).j.release = (atI a (n : Int)).j.release := by rw [e]
  have e4 : (atI d (n : Int)).j.work = (atI a (n : Int)).j.work := by rw [e]
  have o1 := p.one
  have o2 := y.one
  clear e
  have a1 := p.few
  (repeat' (first | (with_reducible refine A3 (fun _ => ?_) (fun _ => ?_) <;> try (exfalso; omega)) | simp -dsimp (disch := omega) only [↓EA, EB, Nat.reduceEqDiff, ↓reduceIte, reduceCtorEq, eq_self, *, g.len, g.ixs, g.ld, g.ld0, c.ixs, c.ld, c.ld0, p.len, y.len, Ci, hdJ]))
  refine WO.loop (fun (k : Nat) fr h' => h' = h ∧ k ≤ (atI a (n : Int)).j.cuts.length ∧ get fr 0 = va ∧ get fr 1 = vb ∧ get fr 5 = .int .i64 n ∧ get fr 6 = .int .i64 k) (fun k => (atI a (n : Int)).j.cuts.length - k) ?_ 0 ⟨rfl, Nat.zero_le _, rfl, rfl, rfl, rfl⟩
  rintro k fr h' ⟨e0, hk, g0, g1, g5, g6⟩
  subst h'
  unfold Qd
  by_cases t : k < (atI a (n : Int)).j.cuts.length
  ·(repeat' (first | (with_reducible refine A3 (fun _ => ?_) (fun _ => ?_) <;> try (exfalso; omega)) | simp -dsimp (disch := omega) only [↓EA, EB, Nat.reduceEqDiff, ↓reduceIte, reduceCtorEq, eq_self, *, g.ixs, g.ld, c.ixs, c.ld, p.len, p.ixs, p.ld0, y.ixs, y.ld0, Ci, hdJ, Cj]))
   exact Next.mk (k + 1) ⟨rfl, t, rfl, rfl, rfl, by simp only [get]; simp⟩ (by omega)
  ·(repeat' (first | (with_reducible refine A3 (fun _ => ?_) (fun _ => ?_) <;> try (exfalso; omega)) | simp -dsimp (disch := omega) only [↓EA, EB, Nat.reduceEqDiff, ↓reduceIte, reduceCtorEq, eq_self, *, g.ixs, g.ld, p.len, Ci, hdJ]))
   exact Next.mk (n + 1) ⟨rfl, u, rfl, rfl, by simp only [get]; simp⟩ (by omega)
 ·have a2 : ¬ (n : Int) < a.length := by omega
  (repeat' simp -dsimp (disch := omega) only [↓EA, EB, Nat.reduceEqDiff, ↓reduceIte, reduceCtorEq, eq_self, *, g.len])
theorem RunR.open {m : Nat} {r : List Int × Int × Int} {h : Aa} {v : Value} (j : RunR m r h v) : ∃ v1, v = .tuple #[v1, .int .u64 r.2.1, .int .i64 r.2.2] ∧ RdM m 1 Cj h v1 r.1 := by
 obtain ⟨e, rfl, a⟩ := j
 rcases a with _ | ⟨c, _ | ⟨rb, _ | ⟨d, _ | _⟩⟩⟩
 subst rb; subst d
 exact ⟨_, rfl, c⟩
theorem RdJ.pre' {h h' : Aa} {v : Value} {l : List Job} (r : RdJ h v l) (p : Pre h h') : RdJ h' v l := r.pre p
theorem Afu {h : Aa} {v : Value} {l : List Job} (r : RdJ h v l) : Ae v = true ∧ Bf v = [v] ∧ C3 v = true := by
 obtain ⟨d, _, rd, _⟩ := r.is
 refine ⟨rd.one, rd.cv, ?_⟩
 obtain ⟨⟨a, b, c, rfl⟩, _⟩ := rd.shape
 rfl
theorem Ub (hE : Ap E) {h : Aa} {vl : Value} {l : List Af} (hl : Rd 7 Az h vl l) (hs : ∀ t ∈ l, t.name.size < 1152921504606846976) {cap : Int} (hcap : Bz cap) (hper : ∀ p, Bo l = some p → p ≤ cap → p ≤ 65536) :
  callW E (.func (.func Cs) #[] #[]) [vl, .int .u64 cap] h = some (.bool true, h, []) := by
 refine Ai hE.Ag7 rfl (by simp) ?_
 have ah := hl.one
 have a4 := Ats hE hl hs hcap (fun p m h2 => by have := hper p m h2; omega)
 simp only [Ah]
 (repeat' simp -dsimp (disch := omega) only [↓EA, EB, Nat.reduceEqDiff, ↓reduceIte, reduceCtorEq, eq_self, *])
 refine Ec a4 fun w1 o r1 p1 => ?_
 obtain ⟨v1, rfl, z⟩ := r1.open
 obtain ⟨o1, c1, n1⟩ := Afu z.rd
 have aa : RdJ _ v1 _ := z.rd
 have a7 := hl.pre p1
 have b1 := p1.le
 generalize _ ++ o = H1 at *
 have a0 := Awx hE a7 hs hcap (fun p m h2 => by have := hper p m h2; omega)
 clear a4 r1 z
 (repeat' simp -dsimp (disch := omega) only [↓EA, EB, Nat.reduceEqDiff, ↓reduceIte, reduceCtorEq, eq_self, *])
 refine Ec a0 fun w2 o r2 p2 => ?_
 obtain ⟨v2, rfl, s⟩ := r2.open
 obtain ⟨o2, c2, n2⟩ := Afu s.rd
 have a5 : RdJ _ v2 _ := s.rd
 have e := aa.pre p2
 have a6 := a7.pre p2
 have b2 := p2.le
 generalize _ ++ o = H2 at *
 clear a0 r2 s aa
 have ag : h.length ≤ H2.length := by omega
 have r := fun y => Ay0 hE (e.pre (Pre.app H2 y)) (a5.pre (Pre.app H2 y))
 have a1 := fun y => Atz hE (a6.pre (Pre.app H2 y)) hs hcap (fun p m h2 => by have := hper p m h2; omega)
 (repeat' simp -dsimp (disch := omega) only [↓EA, EB, Nat.reduceEqDiff, Nat.reduceAdd, ↓reduceIte, reduceCtorEq, Ab, eq_self, *])
 have a3 : ∀ y, (H2 ++ [.cells [v2, .int .u64 (Bv l cap).2.1, .int .i64 (Bv l cap).2.2] false] ++ y)[H2.length]? = some (.cells [v2, .int .u64 (Bv l cap).2.1, .int .i64 (Bv l cap).2.2] false) := fun y => by rw [List.append_assoc, Bk]; rfl
 refine Ec (a1 _) fun w3 o r3 p3 => ?_
 obtain ⟨v3, rfl, d⟩ := r3.open
 have o3 := d.1.one
 have c3 := d.1.cv
 have n3 := Rd.nt d.1
 have a8 := a3 o
 have g := (Pre.app H2 [.cells [v2, .int .u64 (Bv l cap).2.1, .int .i64 (Bv l cap).2.2] false]).trans p3
 have v := a6.pre g
 have f := e.pre g
 have b3 := g.le
 have c := d.1
 generalize _ ++ o = H3 at *
 have a9 := Aj2 hE v hs hcap hper
 clear a1 r r3 d p3 g a3 e a5
 by_cases a : (Bv l cap).2.2 = 0
 ·obtain ⟨p, J⟩ := Z4 a
  have hp := hper p J.per J.cap
  have ai := (N7 J.per).1.1
  have G := J.good (by omega)
  have u : Ai6 l cap = (worstL l (allH l p l.length) (runU l (allH l p l.length) 9223372036854775807).ends l.length, p, 0) := by
   unfold Ai6
   rw [if_neg (fun h => h a), J.is]
  have hi : W8 l cap = (p - sumL (runU l (allH l p l.length) p).L, 0) := by
   unfold W8
   rw [if_neg (fun h => h a), J.is]
  have j := (Dj J.ok).2.1
  rw [J.is] at f a8
  rw [u] at c
  rw [hi] at a9
  rw [u, J.is]
  have hw := Avh hE v j f G
  have a2 : ∀ H, Pre H3 H → callW E (.func (.func Gs) #[] #[]) [vl, v1, .int .u64 p] H = some (.int .u64 (p - sumL (runU l (allH l p l.length) p).L), H, []) := fun H q => Azo hE (v.pre q) (f.pre q) G ⟨by omega, hp⟩
  have Hv := Hid.mk a2
  have HJ := Hid.mk (AI J hper)
  clear a hper J hi u a2 j
  dsimp only at *
  generalize allH l p l.length = jobs at *
  generalize worstL l jobs (runU l jobs 9223372036854775807).ends l.length = ws at *
  generalize p - sumL (runU l jobs p).L = x at *
  (repeat' simp -dsimp (disch := omega) only [↓EA, EB, Nat.reduceEqDiff, ↓reduceIte, reduceCtorEq, eq_self, *])
  refine Ec hw fun v4 o r4 p4 => ?_
  have o4 := r4.1.one
  have c4 := r4.1.cv
  have n4 := Rd.nt r4.1
  have ab := c.pre p4
  have b4 := p4.le
  have af := Hv.out _ p4
  have ac := r4.1
  generalize _ ++ o = H4 at *
  have ad := Afe hE ab ac
  rw [decide_eq_true rfl] at ad
  clear hw r4 p4 c Hv
  (repeat' simp -dsimp (disch := omega) only [↓EA, EB, Nat.reduceEqDiff, ↓reduceIte, reduceCtorEq, eq_self, *])
 ·obtain ⟨m, h2⟩ := We a
  have e0 : Bv l cap = ([], 0, (Bv l cap).2.2) := by
   rw [← m, ← h2]
  have u : Ai6 l cap = ([], 0, (Bv l cap).2.2) := if_pos a
  have hi : W8 l cap = (0, (Bv l cap).2.2) := if_pos a
  rw [u] at c
  rw [hi] at a9
  rw [u]
  rw [h2] at a8 ⊢
  have ae := c.len
  clear m h2 e0 u hi hper f
  generalize (Bv l cap).2.2 = n at *
  (repeat' (first | (with_reducible refine A1 (fun _ => ?_) (fun _ => ?_) <;> try (exfalso; omega)) | simp -dsimp (disch := omega) only [↓EA, EB, Nat.reduceEqDiff, ↓reduceIte, reduceCtorEq, eq_self, *]))
end Go.L.Try
namespace Go.L.Try
open Go Go.L
variable {E : Env}
def Ak2 : Nat → C → C
 | 0, c => c
 | n + 1, .seq _ b => Ak2 n b
 | _ + 1, c => c
theorem Xx (hE : Ap E) {h : Aa} {vl vr : Value} {l : List Mw} {raw : List Af} {turn cap : Int} (hl : Rd 5 Rn h vl l) (hr : Rd 7 Az h vr raw) (hs : ∀ t ∈ raw, t.name.size < 1152921504606846976) (ht : Lf turn) (hc : Bz cap) {b5 : Nat} {fr : Fr} (hb : h[b5]? = some (.cells [.int .i64 turn, .int .u64 cap] false))
  (g0 : get fr 0 = vl) (g1 : get fr 1 = vr) (g5 : get fr 5 = .pointer (some ⟨b5, 0, none⟩)) (g7 : get fr 7 = .bool true) {m : Nat} (hm : m ≤ h.length) :
  WO (fun b => m ≤ b) (code (callW E) iterW 56 (Ak2 3 c_law17_HyperTells.body) fr h) (Res [(.t 6)] fun v _ => Ac m 4 (.bool true) = true ∧ v = .bool true) := by
 simp only [Ak2, c_law17_HyperTells]
 have z := (GI.1 hb).1
 have ol := hl.one
 have cl := hl.cv
 have or := hr.one
 have cr := hr.cv
 have a : ∀ o : Nat, low h.length (.pointer (some ⟨b5, o, none⟩)) = true := fun o => by simp [low]; exact z
 have c1 := C6 cap 2000 (by decide)
 have c2 := C6 cap 40 (by decide)
 have c3 := C6 cap 200 (by decide)
 unfold Bz at hc
 have tm := fun n => Int.tmod_eq_emod_of_nonneg (b := n) hc.1
 have Tm := Hid.mk tm
 clear tm
 (repeat' simp -dsimp (disch := omega) only [↓EA, EB, Nat.reduceEqDiff, ↓reduceIte, reduceCtorEq, eq_self, *])
 refine Ec (Are hE hl (most := 3) (by decide) (by decide) ht) fun v s r x => ?_
 have a4 := x _ _ hb
 have n1 : ∀ t ∈ setP l 3 turn, t.name.size < 1152921504606846976 := fun t ht => by have := (Yy (l := l) (most := 3) (turn := turn) (t := t) (by decide) (by decide) ht).name; omega
 have j := hl.pre x
 have a2 := hr.pre x
 have r := r.rd
 have o1 := r.one
 have a7 := r.cv
 have ab := x.le
 generalize setP l 3 turn = s1 at *
 generalize h ++ s = H1 at *
 have t1 := Ub hE r n1 (cap := cap % 2000) (by unfold Bz; omega) (fun p _ hp => by omega)
 rw [← Tm.out] at t1
 (repeat' simp -dsimp (disch := omega) only [↓EA, EB, Nat.reduceEqDiff, ↓reduceIte, eq_self, *])
 refine ⟨a 1, ?_⟩
 (repeat' simp -dsimp (disch := omega) only [↓EA, EB, Nat.reduceEqDiff, ↓reduceIte, reduceCtorEq, eq_self, *])
 refine Ec (Ae8 hE j ht false) fun v2 s g u => ?_
 have a0 := u _ _ a4
 obtain ⟨_, d, c⟩ := Wx l turn false
 obtain ⟨q, hq, _, a5, _⟩ := Arz d
 have a1 := j.pre u
 have a3 := a2.pre u
 replace g := g.rd
 have o2 := g.one
 have a6 := g.cv
 have a8 := u.le
 generalize set17 l turn false = s2 at *
 generalize H1 ++ s = H2 at *
 have t2 := Ub hE g (fun t ht => by have := c t ht; omega) (cap := cap) hc (fun p e h2 => by rw [hq] at e; cases e; omega)
 clear d c hq t1 n1
 (repeat' simp -dsimp (disch := omega) only [↓EA, EB, Nat.reduceEqDiff, ↓reduceIte, eq_self, *])
 refine ⟨a 1, ?_⟩
 (repeat' simp -dsimp (disch := omega) only [↓EA, EB, Nat.reduceEqDiff, ↓reduceIte, reduceCtorEq, eq_self, *])
 refine Ec (Ae8 hE a1 ht true) fun v3 s f p3 => ?_
 have aa := p3 _ _ a0
 obtain ⟨_, d, c⟩ := Wx l turn true
 have y := a3.pre p3
 replace f := f.rd
 have o3 := f.one
 have ac := f.cv
 have a9 := p3.le
 generalize set17 l turn true = s3 at *
 generalize H2 ++ s = H3 at *
 have t3 := Ub hE f (fun t ht => by have := c t ht; omega) (cap := cap % 40) (by unfold Bz; omega) (fun p e h2 => by omega)
 rw [← Tm.out] at t3
 have t4 := Ub hE y hs (cap := cap % 200) (by unfold Bz; omega) (fun p e h2 => by omega)
 rw [← Tm.out] at t4
 have t5 := Ub hE (Rd.of_nil (h := H3) (sz := 7) (enc := Az)) (by simp) (cap := cap) hc (fun p e h2 => by cases (show some (1 : Int) = some p from e); decide)
 clear d c t2
 (repeat' simp -dsimp (disch := omega) only [↓EA, EB, Nat.reduceEqDiff, ↓reduceIte, eq_self, *])
 refine ⟨a 1, ?_⟩
 (repeat' simp -dsimp (disch := omega) only [↓EA, EB, Nat.reduceEqDiff, ↓reduceIte, eq_self, *])
theorem Aj1 (hE : Ap E) (ha : ∀ h, callW E (.func (.func Cd) #[] #[]) [] h = some (.bool true, h, [])) {h : Aa} {vl vr : Value} {l : List Mw} {raw : List Af} (hl : Rd 5 Rn h vl l) (hr : Rd 7 Az h vr raw) (hs : ∀ t ∈ raw, t.name.size < 1152921504606846976) {turn cap : Int} (ht : Lf turn) (hc : Bz cap) :
  callW E (.func (.func Fd) #[] #[]) [vl, vr, .agg #[.int .i64 turn, .int .u64 cap]] h = some (.bool true, h, []) := by
 refine Ai hE.Of rfl (by simp) ?_
 simp only [Ah]
 have few := hr.few
 have o := hl.one
 have j := hl.cv
 have g := hr.one
 have f := hr.cv
 have a := Hid.mk (fun {h2 vr raw b5 fr} hl hr hs d g0 g1 g5 g7 hm => Xx (h := h2) (vl := vl) (vr := vr) (l := l) (raw := raw) (b5 := b5) (fr := fr) (m := h.length) hE hl hr hs ht hc d g0 g1 g5 g7 hm)
 generalize hR : (C.seq (C.drw [6] _ _) _) = R
 have c : R = Ak2 3 c_law17_HyperTells.body := by rw [← hR]; rfl
 have HR := Hid.mk c
 clear hR c
 have d : (h ++ [.cells [.int .i64 turn, .int .u64 cap] false])[h.length]? = some (.cells [.int .i64 turn, .int .u64 cap] false) := by rw [Bk]; rfl
 by_cases r : 4 < raw.length
 ·obtain ⟨p, v, e, _⟩ := hr.sls_hi (k := .i64) (n := 4) (by decide) (by omega)
  have s := e.one
  have u := e.cv
  (repeat' (first | (with_reducible refine A3 (fun _ => ?_) (fun _ => ?_) <;> try (exfalso; omega)) | simp -dsimp (disch := omega) only [↓EA, EB, Nat.reduceEqDiff, Nat.reduceAdd, ↓reduceIte, reduceCtorEq, Ab, eq_self, *, hr.len]))
  rw [HR.out]
  exact a.out (hl.app _) (e.app _) (fun t ht => hs t (List.mem_of_mem_take ht)) d rfl rfl rfl rfl (by simp)
 ·(repeat' (first | (with_reducible refine A3 (fun _ => ?_) (fun _ => ?_) <;> try (exfalso; omega)) | simp -dsimp (disch := omega) only [↓EA, EB, Nat.reduceEqDiff, Nat.reduceAdd, ↓reduceIte, reduceCtorEq, Ab, eq_self, *, hr.len]))
  rw [HR.out]
  exact a.out (hl.app _) (hr.app _) hs d rfl rfl rfl rfl (by simp)
end Go.L.Try
