/- THE DOCUMENT's PERIOD, AND ITS JOBS: cadencyref01.Gcd, Lcm, cadencyref12.Period, cadencyref17.Jobs. -/
import Derived.Test.YtofmllajjolcgaaPn
import Derived.Test.YtofmllajjolcgaaPc
import Derived.Test.YtofmllajjolcgaaPm
import Derived.Test.YtofmllajjolcgaaPk
import Derived.Test.YtofmllajjolcgaaPl
set_option linter.unusedVariables false
set_option linter.unusedSimpArgs false
set_option maxRecDepth 100000
set_option maxHeartbeats 4000000
namespace Go.L.Try
open Go Go.L
variable {E : Env}
end Go.L.Try
namespace Go.L.Try
open Go Go.L
variable {E : Env}
structure D17 (h0 : Heap) (p : Int) (A : List Job) (v : Value) (hh : Heap) : Prop where
 pre : Pre h0 hh
 len : h0.length + 3 ≤ hh.length
 b0 : hh[h0.length]? = some (.cells [.slice none 0 0, .int .u64 0, .int .i64 0] false)
 b1 : hh[h0.length + 1]? = some (.cells [.int .u64 p, .bool true] false)
 b2 : hh[h0.length + 2]? = some (.cells [v, .int .u64 p, .int .i64 0] false)
 own : OwnT (h0.length + 3) 5 (encN hdJ) hh v (A.map nilJ)
theorem Got17.movable {m : Nat} (r : List Job × Int × Int) : Movable m (fun h v => ∃ vs, v = .agg vs.toArray ∧ Each h [fun h v => RdNO m 5 hdJ Job.cuts h v r.1, fun _ v => v = .int .u64 r.2.1, fun _ v => v = .int .i64 r.2.2] vs) 2 :=
 Movable.aggs (k := 1) (fun R hR => by
  simp only [List.mem_cons, List.not_mem_nil, or_false] at hR
  rcases hR with rfl | rfl | rfl
  ·exact RdNO.movable (hd := hdJ) (cs := Job.cuts) (sz := 5) (fun _ => rfl) (fun _ => rfl) _
  ·exact movable_eq rfl
  ·exact movable_eq rfl) (by simp)
def Got17 (m : Nat) (r : List Job × Int × Int) (h : Heap) (v : Value) : Prop := ∃ vs, v = .agg vs.toArray ∧ Each h [fun h v => RdNO m 5 hdJ Job.cuts h v r.1, fun _ v => v = .int .u64 r.2.1, fun _ v => v = .int .i64 r.2.2] vs
end Go.L.Try
namespace Go.L.Try
open Go Go.L
variable {E : Env}
theorem JobsR.open {m : Nat} {r : List Job × Int × Int} {h : Heap} {v : Value} (j : JobsR m r h v) : ∃ v1, v = .tuple #[v1, .int .u64 r.2.1, .int .i64 r.2.2] ∧ RdNO m 5 hdJ Job.cuts h v1 r.1 := by
 obtain ⟨vs, rfl, hv⟩ := j
 rcases hv with _ | ⟨ra, _ | ⟨rb, _ | ⟨rc, _ | _⟩⟩⟩
 subst rb; subst rc
 exact ⟨_, rfl, ra⟩
theorem Got17.open {m : Nat} {r : List Job × Int × Int} {h : Heap} {v : Value} (j : Got17 m r h v) : ∃ v1, v = .agg #[v1, .int .u64 r.2.1, .int .i64 r.2.2] ∧ RdNO m 5 hdJ Job.cuts h v1 r.1 := by
 obtain ⟨vs, rfl, hv⟩ := j
 rcases hv with _ | ⟨ra, _ | ⟨rb, _ | ⟨rc, _ | _⟩⟩⟩
 subst rb; subst rc
 exact ⟨_, rfl, ra⟩
structure JOk (l : List Task) (cap p : Int) : Prop where
 is : jobsH l cap = (allH l p l.length, p, 0)
 ok : (checkAllP l).2 = 0
 per : periodP l = some p
 cap : p ≤ cap
 few : (allH l p l.length).length ≤ 4096
theorem jobsH_ok {l : List Task} {cap : Int} (h : (jobsH l cap).2.2 = 0) : ∃ p, JOk l cap p := by
 unfold jobsH at h
 split at h
 ·exact absurd h (by simp)
 ·rename_i h1
  have h1 : (checkAllP l).2 = 0 := Classical.not_not.1 h1
  cases hp : periodP l with
  | none => rw [hp] at h; exact absurd h (by simp)
  | some p =>
   rw [hp] at h
   dsimp only at h
   split at h
   ·exact absurd h (by simp)
   ·rename_i h2
    split at h
    ·exact absurd h (by simp)
    ·rename_i h3
     refine ⟨p, ?_, h1, hp, by omega, by omega⟩
     unfold jobsH
     rw [if_neg (fun h => h h1), hp]
     dsimp only
     rw [if_neg h2, if_neg h3]
theorem jobsH_bad {l : List Task} {cap : Int} (h : (jobsH l cap).2.2 ≠ 0) : (jobsH l cap).1 = [] ∧ (jobsH l cap).2.1 = 0 := by
 unfold jobsH at h ⊢
 split at h
 ·rename_i h1; rw [if_pos h1]; exact ⟨rfl, rfl⟩
 ·rename_i h1
  rw [if_neg h1]
  cases hp : periodP l with
  | none => exact ⟨rfl, rfl⟩
  | some p =>
   rw [hp] at h
   dsimp only at h ⊢
   split at h
   ·rename_i h2; rw [if_pos h2]; exact ⟨rfl, rfl⟩
   ·rename_i h2
    rw [if_neg h2]
    split at h
    ·rename_i h3; rw [if_pos h3]; exact ⟨rfl, rfl⟩
    ·exact absurd rfl h
structure JGood (l : List Task) (jobs : List Job) : Prop where
 legal : legalB l jobs = true
 sum : sumWork jobs ≤ 1099511627776
 few : jobs.length ≤ 4096
 small : SmallJ jobs
theorem JOk.good {l : List Task} {cap p : Int} (J : JOk l cap p) (hp : p ≤ 268435456) : JGood l (allH l p l.length) := by
 obtain ⟨h0, hT⟩ := period_in J.per
 have hv : validP l := J.ok
 obtain ⟨_, _, hoks⟩ := checkAll_ok J.ok
 refine ⟨allH_legal hv (by omega) J.few, allH_sum hoks hT hp J.few, J.few, fun j hj => ?_⟩
 have := (allH_job hoks hT hj).2.2.1
 omega
theorem JGood.script {l : List Task} {jobs : List Job} (J : JGood l jobs) : Script l jobs := script_of J.legal
theorem JGood.ends {l : List Task} {jobs : List Job} (J : JGood l jobs) : Small (runU l jobs 9223372036854775807).ends := by
 obtain ⟨T, R⟩ := runU_at J.legal J.sum
 have hT := runAt_T J.legal J.sum R
 intro e he
 obtain ⟨i, hi, rfl⟩ := List.getElem_of_mem he
 rw [R.elen] at hi
 obtain ⟨e, h1, h2, _⟩ := R.ends i hi
 rw [atI_nat (by rw [R.elen]; exact hi)] at h1
 rw [h1]; omega
theorem st_Llen {l : List Task} {jobs : List Job} (S : Script l jobs) : ∀ n, (st l jobs n).L.length ≤ n
 | 0 => Nat.le_refl _
 | n + 1 => by
  have ih := st_Llen S n
  rw [st_L S]
  split
  ·omega
  ·have := addTick_len (st l jobs n).L (who l jobs n) n; omega
theorem JGood.upto {l : List Task} {jobs : List Job} (J : JGood l jobs) {e : Int} (he : 0 ≤ e ∧ e ≤ 268435456) : ∃ T : Nat, (T : Int) ≤ e ∧ runU l jobs e = st l jobs T ∧ untilP l jobs e (rsInit jobs.length) = st l jobs T ∧ SpansOk (st l jobs T).L ∧ (st l jobs T).L.length ≤ T ∧ (0 ≤ sumL (st l jobs T).L ∧ sumL (st l jobs T).L ≤ T) := by
 have S := J.script
 obtain ⟨T, h1, _, h3⟩ := until_st S (e := e)
 have hT := h3 he.1
 have h2 : ∀ n : Nat, 0 ≤ dnAll l jobs n ∧ dnAll l jobs n ≤ n := by
  intro n
  induction n with
  | zero => rw [dnAll_zero]; simp
  | succ n ih => rw [dnAll_succ S]; split <;> omega
 refine ⟨T, hT, ?_, h1, spansOk_st S (by omega), st_Llen S T, by rw [sumL_st S]; exact h2 T⟩
 unfold runU
 rw [if_pos J.legal, show max e 0 = e by omega, h1]
def worstL (l : List Task) (jobs : List Job) (ends : List Int) (n : Nat) : List Int := (List.range n).map fun (i : Nat) => (worstN jobs ends (i : Int) jobs.length).1
theorem worstL_succ (l : List Task) (jobs : List Job) (ends : List Int) (n : Nat) : worstL l jobs ends (n + 1) = worstL l jobs ends n ++ [(worstN jobs ends (n : Int) jobs.length).1] := by
 simp [worstL, List.range_succ]
theorem worstL_len (l : List Task) (jobs : List Job) (ends : List Int) (n : Nat) : (worstL l jobs ends n).length = n := by simp [worstL]
def runH (l : List Task) (cap : Int) : List Int × Int × Int :=
 if (jobsH l cap).2.2 ≠ 0 then ([], 0, (jobsH l cap).2.2) else (worstL l (jobsH l cap).1 (runU l (jobsH l cap).1 9223372036854775807).ends l.length, (jobsH l cap).2.1, 0)
def RunR (m : Nat) (r : List Int × Int × Int) (h : Heap) (v : Value) : Prop := ∃ vs, v = .tuple vs.toArray ∧ Each h [fun h v => RdM m 1 encI h v r.1, fun _ v => v = .int .u64 r.2.1, fun _ v => v = .int .i64 r.2.2] vs
theorem RunR.movable {m : Nat} (r : List Int × Int × Int) : Movable m (RunR m r) 2 :=
 Movable.tuples (k := 1) (fun R hR => by
  simp only [List.mem_cons, List.not_mem_nil, or_false] at hR
  rcases hR with rfl | rfl | rfl
  ·exact RdM.movable flatI _
  ·exact movable_eq rfl
  ·exact movable_eq rfl) (by simp)
theorem OwnT.rdM {α : Type} {m sz : Nat} {enc : α → List Value} {h : Heap} {v : Value} {l : List α} (o : OwnT m sz enc h v l) : RdM m sz enc h v l := ⟨o.rd, fun hn => o.ge (o.ne hn)⟩
theorem hyperRun (hE : Laid E) {h : Heap} {vl : Value} {l : List Task} (hl : Rd 7 encT h vl l) (hs : ∀ t ∈ l, t.name.size < 1152921504606846976) {cap : Int} (hcap : u64in cap) (hper : ∀ p, periodP l = some p → p ≤ cap → p ≤ 268435456) :
  ∃ v ys, callW E (.func (.func n_hyper_Run) #[] #[]) [vl, .int .u64 cap] h = some (v, h ++ ys, []) ∧ RunR h.length (runH l cap) (h ++ ys) v := by
 refine fn_new hE.hyper_Run rfl (RunR.movable _) (by simp) ?_
 have few := hl.few
 have hj := jobsS hE hl hs hcap (fun p h1 h2 => by have := hper p h1 h2; omega)
 have ovl := hl.one
 simp only [argsF]
 by_cases hok : (jobsH l cap).2.2 = 0
 ·obtain ⟨p, J⟩ := jobsH_ok hok
  have hp := hper p J.per J.cap
  have G := J.good hp
  have hl1 := (checkAll_ok J.ok).2.1
  have hr : runH l cap = (worstL l (allH l p l.length) (runU l (allH l p l.length) 9223372036854775807).ends l.length, p, 0) := by
   unfold runH
   rw [if_neg (fun h => h hok), J.is]
  rw [hr]
  rw [J.is] at hj
  have HJ := Hid.mk (AI J hper)
  clear hr hok hper
  generalize allH l p l.length = jobs at *
  (repeat' simp -dsimp (disch := omega) only [↓EA, EB, Nat.reduceEqDiff, ↓reduceIte, reduceCtorEq, eq_self, *])
  refine wx_new hj fun v1 ys r1 p1 => ?_
  obtain ⟨vj, rfl, ro⟩ := r1.open
  obtain ⟨lv, hlv, ho, hw⟩ := ro.is
  replace hlv : lv.map (·.j) = jobs := hlv
  have rj : RdJ _ vj jobs := ro.rd
  have hl1 := hl.pre p1
  generalize _ ++ ys = H1 at *
  have oj := ho.rd.one
  have cj := ho.rd.cv
  have ntj : noTuple vj = true := by
   obtain ⟨⟨a, b, c, rfl⟩, _⟩ := ho.rd.shape
   rfl
  have hrun := runX hE hl1 hs rj (by have := G.few; omega) G.sum
  have HO := Hid.mk (AI ho hw)
  have RJ := Hid.mk rj
  have P1 := Hid.mk p1
  clear hj r1 ro ho hw rj p1
  (repeat' simp -dsimp (disch := omega) only [↓EA, EB, Nat.reduceEqDiff, ↓reduceIte, reduceCtorEq, eq_self, *])
  refine wx_new hrun fun v2 ys r2 p2 => ?_
  have P2 := P1.out.trans p2
  have hl2 := hl1.pre p2
  have rj2 := HO.out.1.rd.pre p2
  have hc2 := fun q hq => ((HO.out.2 q hq).1.pre p2).one
  generalize _ ++ ys = H2 at *
  obtain ⟨vs, rfl, hv2⟩ := r2
  rcases hv2 with _ | @⟨_, _, va, _, ra, _ | @⟨_, _, vb, _, rb, _ | _⟩⟩
  have na := Rd.nt ra.1
  have nb := Rd.nt rb.1
  have oa := ra.1.one
  have ob := rb.1.one
  have ca := ra.1.cv
  have cb := rb.1.cv
  have rb' := rb.1
  have hsm := G.ends
  have hsj : SmallJ (lv.map (·.j)) := by rw [hlv]; exact G.small
  generalize (runU l jobs 9223372036854775807).ends = ends at *
  have hworst : ∀ (t : Int) H, Pre H2 H → callW E (.func (.func n_trace_Worst) #[] #[]) [vj, vb, .int .i64 t] H = some (.tuple #[.int .i64 (worstN jobs ends t jobs.length).1, .int .i64 (worstN jobs ends t jobs.length).2.1, .bool (worstN jobs ends t jobs.length).2.2], H, []) := fun t H hp => by
   have h1 := worst hE (rj2.pre hp) hc2 (rb'.pre hp) hsm hsj t
   rw [show lv.length = jobs.length by rw [← hlv, List.length_map], hlv] at h1
   exact h1
  have HW := Hid.mk hworst
  have HP2 := Hid.mk P2
  clear hrun p2 hworst hsm hsj rb rb' ra hc2 rj2 P2 hl1
  have hlen : ∀ n : Nat, (worstL l jobs ends n).length = n := worstL_len l jobs ends
  (repeat' simp -dsimp (disch := omega) only [↓EA, EB, Nat.reduceEqDiff, ↓reduceIte, reduceCtorEq, eq_self, *, hl.len])
  refine WO.loop (fun (q : Nat × Value) fr h' => q.1 ≤ l.length ∧ Pre H2 h' ∧ OwnT H2.length 1 encI h' q.2 (worstL l jobs ends q.1) ∧ get fr 7 = vj ∧ get fr 8 = .int .u64 p ∧ get fr 11 = vb ∧ get fr 12 = q.2 ∧ get fr 34 = .int .i64 l.length ∧ get fr 35 = .int .i64 q.1) (fun q => l.length - q.1) ?_ (0, .slice none 0 0) ⟨Nat.zero_le _, Pre.refl _, OwnT.nil, rfl, rfl, rfl, rfl, rfl, rfl⟩
  rintro ⟨n, v⟩ fr h' ⟨hn, hp2, ho, g7, g8, g11, g12, g34, g35⟩
  dsimp only at *
  unfold c_hyper_Run_l0
  have ov := ho.rd.one
  have cv := ho.rd.cv
  by_cases hlt : n < l.length
  ·have hworst := HW.out n h' hp2
   have hwl := worstL_succ l jobs ends n
   have Hwl := Hid.mk hwl
   have hlen' := hlen n
   have O := Hid.mk ho
   have hbW := HP2.out.le
   clear hwl ho
   generalize worstN jobs ends (n : Int) jobs.length = w at *
   obtain ⟨w1, w2, w3⟩ := w
   (repeat' (first | (with_reducible refine A3 (fun _ => ?_) (fun _ => ?_) <;> try (exfalso; omega)) | simp -dsimp (disch := omega) only [↓EA, EB, Nat.reduceEqDiff, Nat.reduceLeDiff, Nat.reduceMul, ↓reduceIte, newCells, bslV, eq_self, *]))
   refine wx_app2 (sz := 1) (bytes := 8) (h0 := H2) (O.out.app _) (hp2.app' _) (Nat.le_refl _) (by have := hp2.le; simp; omega) (fun hn => by have := O.out.ge hn; omega) w1 ?_ rfl (by decide) (by decide) (by omega) fun v' h2 o2 p3 _ _ _ => ?_
   case' refine_1 => rw [cellsOf_some, geta0]; rfl
   have ov2 := o2.rd.one
   have cv2 := o2.rd.cv
   have O2 := Hid.mk (AI o2 p3)
   clear o2 p3 hp2
   (repeat' simp -dsimp (disch := omega) only [↓EA, EB, Nat.reduceEqDiff, ↓reduceIte, eq_self, *])
   refine Next.mk (n + 1, v') ⟨by dsimp only; omega, O2.out.2, by rw [Hwl.out]; exact O2.out.1, rfl, rfl, rfl, rfl, rfl, by simp only [get]; simp⟩ (by dsimp only; omega)
  ·have e : l.length = n := by omega
   have hbW := HP2.out.le
   have O := Hid.mk (AI ho e)
   have hnl : ¬ (n : Int) < l.length := by omega
   clear e hlt
   (repeat' simp -dsimp (disch := omega) only [↓EA, EB, Nat.reduceEqDiff, ↓reduceIte, eq_self, *])
   obtain ⟨ho, e⟩ := O.out
   refine ⟨(HP2.out.trans hp2).ex, _, rfl, .cons ⟨?_, fun hn => ?_⟩ (.cons rfl (.cons rfl .nil))⟩
   ·rw [e]; exact ho.rd
   ·have := (OwnT.rdM ho).2 hn; omega
 ·obtain ⟨h1, h2⟩ := jobsH_bad hok
  have hr : runH l cap = ([], 0, (jobsH l cap).2.2) := if_pos hok
  rw [hr]
  have e0 : jobsH l cap = ([], 0, (jobsH l cap).2.2) := by
   rw [← h1, ← h2]
  rw [e0] at hj
  clear h1 h2 hr e0 hper
  generalize (jobsH l cap).2.2 = n at *
  (repeat' simp -dsimp (disch := omega) only [↓EA, EB, Nat.reduceEqDiff, ↓reduceIte, reduceCtorEq, eq_self, *])
  refine wx_new hj fun v1 ys r1 p1 => ?_
  obtain ⟨vj, rfl, ro⟩ := r1.open
  obtain ⟨lv3, _, hrd3⟩ : ∃ lv : List (NV Job), lv.length = 0 ∧ Rd 5 (encN hdJ) _ vj lv := by
   obtain ⟨lv, h1, ho, _⟩ := ro.is
   exact ⟨lv, by have := congrArg List.length h1; simpa using this, ho.rd⟩
  have oj := hrd3.one
  have cj := hrd3.cv
  have ntj : noTuple vj = true := by
   obtain ⟨⟨a, b, c, rfl⟩, _⟩ := hrd3.shape
   rfl
  have P1 := Hid.mk p1
  clear hj r1 ro p1
  (repeat' simp -dsimp (disch := omega) only [↓EA, EB, Nat.reduceEqDiff, ↓reduceIte, reduceCtorEq, eq_self, *])
  exact ⟨⟨_, rfl⟩, _, rfl, .cons ⟨Rd.of_nil, fun hn => absurd rfl hn⟩ (.cons rfl (.cons rfl .nil))⟩
end Go.L.Try
set_option maxHeartbeats 1000000
namespace Go.L.Try
open Go Go.L
theorem worst_ge {jobs : List Job} {ends : List Int} {t : Int} : ∀ n, ∀ i : Nat, i < n → (jb jobs i).task = t → (respP jobs ends (i : Int)).2 = true → (worstN jobs ends t n).2.2 = true ∧ (respP jobs ends (i : Int)).1 ≤ (worstN jobs ends t n).1
 | 0, i, h, _, _ => absurd h (Nat.not_lt_zero _)
 | n + 1, i, h, ht, hr => by
  unfold worstN
  by_cases e : i = n
  ·subst e
   by_cases hc : (respP jobs ends (i : Int)).2 = true ∧ (atI jobs (i : Int)).task = t ∧ ((worstN jobs ends t i).2.2 = false ∨ (worstN jobs ends t i).1 < (respP jobs ends (i : Int)).1)
   ·rw [if_pos hc]; exact ⟨rfl, Int.le_refl _⟩
   ·rw [if_neg hc]
    have h2 : ¬ ((worstN jobs ends t i).2.2 = false ∨ (worstN jobs ends t i).1 < (respP jobs ends (i : Int)).1) := fun h => hc ⟨hr, ht, h⟩
    refine ⟨?_, ?_⟩
    ·cases hb : (worstN jobs ends t i).2.2 with
     | true => rfl
     | false => exact absurd (.inl hb) h2
    ·rcases Int.lt_or_le (worstN jobs ends t i).1 (respP jobs ends (i : Int)).1 with h3 | h3
     ·exact absurd (.inr h3) h2
     ·exact h3
  ·obtain ⟨h1, h2⟩ := worst_ge n i (by omega) ht hr
   split
   ·rename_i hc
    rcases hc.2.2 with h3 | h3
    ·rw [h1] at h3; cases h3
    ·exact ⟨rfl, by dsimp only; omega⟩
   ·exact ⟨h1, h2⟩
theorem worst_le {jobs : List Job} {ends : List Int} {t b : Int} (hb : 0 ≤ b) : ∀ n, (∀ i : Nat, i < n → (jb jobs i).task = t → (respP jobs ends (i : Int)).2 = true → (respP jobs ends (i : Int)).1 ≤ b) → (worstN jobs ends t n).1 ≤ b
 | 0, _ => hb
 | n + 1, h => by
  have ih := worst_le hb n fun i hi => h i (by omega)
  unfold worstN
  split
  ·rename_i hc
   exact h n (by omega) hc.2.1 hc.1
  ·exact ih
theorem resp_end {l : List Task} {jobs : List Job} {R : RS} {T : Nat} (r : RunAt l jobs R T) {i : Nat} (hi : i < jobs.length) : ∃ e : Nat, EndAt l jobs i e ∧ respP jobs R.ends (i : Int) = ((e : Int) - (jb jobs i).arrive, true) := by
 obtain ⟨e, h1, h2, h3⟩ := r.ends i hi
 refine ⟨e, h3, ?_⟩
 unfold respP
 rw [if_pos ⟨by omega, by omega, by rw [r.elen]; omega, by rw [h1]; omega⟩, h1]
theorem scene_worst {l : List Task} {jobs : List Job} {i k s0 B M : Nat} (s : Scene l jobs i k s0 B M) {R : RS} {T : Nat} (r : RunAt l jobs R T) :
  ((boundP l (i : Int)).2 = 0 → (worstN jobs R.ends (i : Int) jobs.length).1 = (boundP l (i : Int)).1) ∧ ((boundP l (i : Int)).2 ≠ 0 → (atI l (i : Int)).D < (worstN jobs R.ends (i : Int) jobs.length).1) := by
 obtain ⟨e, he, hr⟩ := resp_end r s.crit.hk
 have hge := (worst_ge (ends := R.ends) jobs.length k s.crit.hk s.task (by rw [hr])).2
 rw [hr] at hge
 constructor
 ·intro hb
  have h1 := s.just he hb
  have hle : (worstN jobs R.ends (i : Int) jobs.length).1 ≤ (boundP l (i : Int)).1 := by
   refine worst_le ?_ _ fun m hm ht hok => ?_
   ·have h2 := he.late s.crit.script s.crit.hk
    have h3 := (jobOK_of s.legal s.crit.hk).release.1
    have h4 := (jobOK_of s.legal s.crit.hk).work
    omega
   ·obtain ⟨e', he', hr'⟩ := resp_end r hm
    rw [hr']
    have := (bound_sound s.legal s.mid s.six hm he' (by rw [ht]; exact hb)).1
    rw [ht] at this; exact this
  dsimp only at hge
  omega
 ·intro hb
  have h1 := s.late he hb
  dsimp only at hge
  omega
end Go.L.Try
set_option maxHeartbeats 4000000
namespace Go.L.Try
open Go Go.L
variable {E : Env}
end Go.L.Try
namespace Go.L.Try
open Go Go.L
variable {E : Env}
theorem set17_plain (l : List Spec) (turn : Int) : ∀ t ∈ set17 l turn true, (t.J = 0 ∧ t.Q = 1) ∧ Mid t := fun t ht => by
 obtain ⟨i, hi, rfl⟩ := List.getElem_of_mem ht
 rw [set17_len] at hi
 have e : (set17 l turn true)[i] = mk17 turn true i (atI (setP l 4 turn) (i : Int)) := by
  rw [← set17_get l turn true hi, atI_nat]
 rw [e]
 have hm := atI_mem (l := setP l 4 turn) (i := (i : Int)) (by omega) (by omega)
 have hs := setP_small (l := l) (most := 4) (turn := turn) (by decide) (by decide) hm
 have h24 := (set17_valid l turn true).2.1 _ ht
 rw [e] at h24
 have hT : (mk17 turn true i (atI (setP l 4 turn) (i : Int))).T ≤ 24 := Int.le_of_dvd (by decide) h24.2
 refine ⟨⟨rfl, rfl⟩, ⟨?_, ⟨by omega, by omega⟩, ?_⟩⟩
 ·have := hs.C; show 1 ≤ (atI (setP l 4 turn) (i : Int)).C ∧ _ ≤ _; exact ⟨this.1, Int.le_trans this.2 (by decide)⟩
 ·show (0 : Int) ≤ 0 ∧ (0 : Int) ≤ _; decide
def allB (l : List Task) (i : Int) : Nat → Bool
 | 0 => true
 | n + 1 => allB l i n && (decide ((atI l i).P < (atI l (n : Int)).P) || decide ((boundP l (n : Int)).2 = 0))
theorem allB_at {l : List Task} {i : Int} : ∀ {n : Nat}, allB l i n = true → ∀ k : Nat, k < n → (atI l i).P < (atI l (k : Int)).P ∨ (boundP l (k : Int)).2 = 0
 | 0, _, k, hk => absurd hk (Nat.not_lt_zero _)
 | n + 1, h, k, hk => by
  simp only [allB, Bool.and_eq_true, Bool.or_eq_true, decide_eq_true_eq] at h
  by_cases e : k = n
  ·subst e; exact h.2
  ·exact allB_at h.1 k (by omega)
theorem hyperTight (hE : Laid E) (ha : ∀ h, callW E (.func (.func n_law17_awake) #[] #[]) [] h = some (.bool true, h, [])) {h : Heap} {vl : Value} {l : List Spec} {turn : Int} (hl : Rd 5 encSp h vl l) (ht : i64in turn) :
  callW E (.func (.func n_law17_HyperTight) #[] #[]) [vl, .int .i64 turn] h = some (.bool true, h, []) := by
 refine fn_same hE.law17_HyperTight rfl (by simp) ?_
 simp only [argsF]
 (repeat' simp -dsimp (disch := omega) only [↓EA, EB, Nat.reduceEqDiff, ↓reduceIte, reduceCtorEq, eq_self, *])
 refine wx_new (set_at17 hE hl ht true) fun v8 ys r8 p1 => ?_
 obtain ⟨hv, h24, hnm0⟩ := set17_valid l turn true
 have hpl := set17_plain l turn
 have hsl := setP_len l (most := 4) (turn := turn) (by decide)
 rw [← set17_len l turn true] at hsl
 have rs := r8.rd
 clear r8
 generalize set17 l turn true = s at *
 have hnm : ∀ t ∈ s, t.name.size < 1152921504606846976 := fun t ht => by have := hnm0 t ht; omega
 obtain ⟨p, hper, hp0, hp24, hdv⟩ := period24 h24
 have hTp : ∀ t ∈ s, 0 < t.T ∧ t.T ∣ p := fun t ht => ⟨(h24 t ht).1, hdv t ht⟩
 have hT : ∀ t ∈ s, 1 ≤ t.T ∧ t.T ∣ p ∧ t.T ≤ p := fun t ht => ⟨(h24 t ht).1, hdv t ht, Int.le_of_dvd hp0 (hdv t ht)⟩
 have hj := jobs17 hv hper hp0 hp24 hTp (by omega) 24
 rw [if_neg (by omega)] at hj
 have hfew := allH_few hp0 hp24 hTp s.length (Nat.le_refl _)
 have hleg := allH_legal hv (p := p) (by omega) (by omega)
 obtain ⟨_, _, hoks⟩ := checkAll_ok hv
 have hsum := allH_sum hoks hT (by omega) (by omega)
 obtain ⟨T, hR⟩ := runU_at hleg hsum
 have hw : ∀ i : Nat, i < s.length → ((boundP s (i : Int)).2 = 0 → (worstN (allH s p s.length) (runU s (allH s p s.length) 9223372036854775807).ends (i : Int) (allH s p s.length).length).1 = (boundP s (i : Int)).1) ∧ ((boundP s (i : Int)).2 ≠ 0 → (atI s (i : Int)).D < (worstN (allH s p s.length) (runU s (allH s p s.length) 9223372036854775807).ends (i : Int) (allH s p s.length).length).1) := fun i hi =>
  scene_worst (hyper_scene hv (fun t ht => (hpl t ht).2) (by omega) hT hp0 (by omega) (fun t ht => (hpl t ht).1) (by omega) hi) hR
 have hrun : runH s 24 = (worstL s (allH s p s.length) (runU s (allH s p s.length) 9223372036854775807).ends s.length, p, 0) := by
  unfold runH
  rw [hj]
  rw [if_neg (fun h => h rfl)]
 have hat : ∀ i : Nat, i < s.length → atI (worstL s (allH s p s.length) (runU s (allH s p s.length) 9223372036854775807).ends s.length) (i : Int) = (worstN (allH s p s.length) (runU s (allH s p s.length) 9223372036854775807).ends (i : Int) (allH s p s.length).length).1 := fun i hi => by
  rw [atI_nat (by rw [worstL_len]; exact hi)]; simp [worstL]
 have hwl := worstL_len s (allH s p s.length) (runU s (allH s p s.length) 9223372036854775807).ends s.length
 generalize worstL s (allH s p s.length) (runU s (allH s p s.length) 9223372036854775807).ends s.length = ws at *
 have Hw := Hid.mk (fun i hi => ⟨hat i hi, hw i hi⟩ : ∀ i : Nat, i < s.length → _ ∧ _)
 have hrn := hyperRun hE rs hnm (cap := 24) (by unfold u64in; omega) (fun q h1 h2 => by omega)
 rw [hrun] at hrn
 have HR := Hid.mk hwl
 have bb1 := p1.le
 clear hw hat hR hsum hoks hleg hfew hj hTp hdv hper hnm0 h24 hT hrun hwl hpl
 generalize _ ++ ys = H1 at *
 have o8 := rs.one
 have c8 := rs.cv
 (repeat' simp -dsimp (disch := omega) only [↓EA, EB, Nat.reduceEqDiff, ↓reduceIte, reduceCtorEq, eq_self, *])
 refine wx_new hrn fun v2 ys r2 p2 => ?_
 obtain ⟨vr, rfl, rr⟩ := (by
  obtain ⟨vs, rfl, hv⟩ := r2
  rcases hv with _ | ⟨ra, _ | ⟨rb, _ | ⟨rc, _ | _⟩⟩⟩
  subst rb; subst rc
  exact ⟨_, rfl, ra⟩ : ∃ v1, v2 = .tuple #[v1, .int .u64 p, .int .i64 0] ∧ RdM H1.length 1 encI (H1 ++ ys) v1 ws)
 have rs2 := rs.pre p2
 have bb2 := p2.le
 have rw2 := rr.1
 have nr := Rd.nt rr.1
 have or := rr.1.one
 have cr := rr.1.cv
 have hlw := rr.1.len
 rw [HR.out] at hlw
 generalize _ ++ ys = H2 at *
 have hbd := fun x (i : Int) => bound14 hE (rs2.app x) hnm i
 clear hrn r2 rr p2 rs
 (repeat' simp -dsimp (disch := omega) only [↓EA, EB, Nat.reduceEqDiff, ↓reduceIte, eq_self, *, rs2.len])
 refine WO.loop (fun (n : Nat) fr h' => Pre H2 h' ∧ n ≤ s.length ∧ get fr 5 = .bool true ∧ get fr 6 = v8 ∧ get fr 7 = vr ∧ get fr 10 = .int .i64 n) (fun n => s.length - n) ?_ 0 ⟨Pre.refl _, Nat.zero_le _, rfl, rfl, rfl, rfl⟩
 rintro n fr h' ⟨hp2, hn, g5, g6, g7, g10⟩
 unfold c_law17_HyperTight_l1
 have rs3 := rs2.pre hp2
 have rw3 := rw2.pre hp2
 have few3 := rs3.few
 have bb3 : h.length ≤ h'.length := by have := hp2.le; omega
 by_cases hlt : n < s.length
 ·obtain ⟨hat, hwa, hwb⟩ := Hw.out n hlt
  have hlt' : (n : Int) < s.length := by omega
  have hbd := fun x (i : Int) => bound14 hE (rs3.app x) hnm i
  have hbd0 := fun (i : Int) => bound14 hE rs3 hnm i
  have hlw' : (ws.length : Int) = s.length := by rw [HR.out]
  have Hat := Hid.mk (AI hat (AI hwa hwb))
  have Hbd := Hid.mk hbd
  clear hat hwa hwb hbd
  (repeat' simp -dsimp (disch := omega) only [↓EA, EB, Nat.reduceEqDiff, ↓reduceIte, eq_self, *, rs3.len])
  refine WO.loop (fun (k : Nat) fr hh => hh = h' ∧ k ≤ s.length ∧ get fr 5 = .bool true ∧ get fr 6 = v8 ∧ get fr 7 = vr ∧ get fr 10 = .int .i64 n ∧ get fr 11 = .bool (allB s (n : Int) k) ∧ get fr 12 = .int .i64 k) (fun k => s.length - k) ?_ 0 ⟨rfl, Nat.zero_le _, rfl, rfl, rfl, rfl, rfl, rfl⟩
  rintro k fr hh ⟨e0, hk, g5, g6, g7, g10, g11, g12⟩
  subst hh
  unfold c_law17_HyperTight_l0
  by_cases hkl : k < s.length
  ·have hkl' : (k : Int) < s.length := by omega
   have hbk := hbd0 (k : Int)
   have hall : allB s (n : Int) (k + 1) = (allB s (n : Int) k && (decide ((atI s (n : Int)).P < (atI s (k : Int)).P) || decide ((boundP s (k : Int)).2 = 0))) := rfl
   have Hall := Hid.mk hall
   clear hall hbd0
   generalize allB s (n : Int) k = b at *
   generalize boundP s (k : Int) = bk at *
   obtain ⟨bk1, bk2⟩ := bk
   cases b
   ·(repeat' simp -dsimp (disch := omega) only [↓EA, EB, Nat.reduceEqDiff, ↓reduceIte, eq_self, *, rs3.len])
    exact Next.mk (k + 1) ⟨rfl, hkl, rfl, rfl, rfl, rfl, by rw [Hall.out]; rfl, by simp only [get]; simp⟩ (by omega)
   ·by_cases hP : (atI s (n : Int)).P < (atI s (k : Int)).P
    ·(repeat' simp -dsimp (disch := omega) only [↓EA, EB, Nat.reduceEqDiff, ↓reduceIte, eq_self, *, rs3.len, rs3.ixs, rs3.ld, encT])
     exact Next.mk (k + 1) ⟨rfl, hkl, rfl, rfl, rfl, rfl, by rw [Hall.out]; simp [get, hP], by simp only [get]; simp⟩ (by omega)
    ·by_cases hb0 : bk2 = 0
     ·subst hb0
      (repeat' simp -dsimp (disch := omega) only [↓EA, EB, Nat.reduceEqDiff, ↓reduceIte, eq_self, *, rs3.len, rs3.ixs, rs3.ld, encT])
      exact Next.mk (k + 1) ⟨rfl, hkl, rfl, rfl, rfl, rfl, by rw [Hall.out]; simp [get], by simp only [get]; simp⟩ (by omega)
     ·(repeat' simp -dsimp (disch := omega) only [↓EA, EB, Nat.reduceEqDiff, ↓reduceIte, eq_self, *, rs3.len, rs3.ixs, rs3.ld, encT])
      exact Next.mk (k + 1) ⟨rfl, hkl, rfl, rfl, rfl, rfl, by rw [Hall.out]; simp [get, hP, hb0], by simp only [get]; simp⟩ (by omega)
  ·have hkn : k = s.length := by omega
   subst hkn
   have hall := fun hb => (allB_at (l := s) (i := (n : Int)) (n := s.length) hb) n hlt
   have hbn := hbd0 (n : Int)
   obtain ⟨hat, hwa, hwb⟩ := Hat.out
   have hall2 : allB s (n : Int) s.length = true → (boundP s (n : Int)).2 = 0 := fun hb => by
    rcases hall hb with h | h
    ·omega
    ·exact h
   clear hall hbd0
   generalize allB s (n : Int) s.length = b at *
   generalize boundP s (n : Int) = bn at *
   obtain ⟨b1, b2⟩ := bn
   dsimp only at hwa hwb hall2
   rw [← hat] at hwa hwb
   have rs4 := fun x => rs3.app x
   have rw4 := fun x => rw3.app x
   have rs5 := rs3.app [.cells [.int .i64 b1, .int .i64 b2] false]
   have rw5 := rw3.app [.cells [.int .i64 b1, .int .i64 b2] false]
   clear hat
   have Hwa := Hid.mk (AI hwa (AI hwb hall2))
   clear hwa hwb hall2
   by_cases hb0 : b2 = 0
   ·subst hb0
    have hx := Hwa.out.1 rfl
    cases b
    ·(repeat' (first | (with_reducible refine A3 (fun _ => ?_) (fun _ => ?_) <;> try (exfalso; omega)) | simp -dsimp (disch := omega) only [↓EA, EB, Nat.reduceEqDiff, Nat.reduceAdd, ↓reduceIte, newCells, eq_self, *, rs5.len]))
     exact Next.mk (n + 1) ⟨hp2.app' _, hlt, rfl, rfl, rfl, by simp only [get]; simp⟩ (by omega)
    ·(repeat' (first | (with_reducible refine A3 (fun _ => ?_) (fun _ => ?_) <;> try (exfalso; omega)) | simp -dsimp (disch := omega) only [↓EA, EB, Nat.reduceEqDiff, Nat.reduceAdd, ↓reduceIte, newCells, eq_self, *, rs5.len, rw5.ixs, rw5.ld0, encI]))
     exact Next.mk (n + 1) ⟨hp2.app' _, hlt, rfl, rfl, rfl, by simp only [get]; simp⟩ (by omega)
   ·have hx := Hwa.out.2.1 hb0
    cases b
    ·(repeat' (first | (with_reducible refine A3 (fun _ => ?_) (fun _ => ?_) <;> try (exfalso; omega)) | simp -dsimp (disch := omega) only [↓EA, EB, Nat.reduceEqDiff, Nat.reduceAdd, ↓reduceIte, newCells, eq_self, *, rs5.len, rs5.ixs, rs5.ld, rw5.ixs, rw5.ld0, encT, encI]))
     exact Next.mk (n + 1) ⟨hp2.app' _, hlt, rfl, rfl, rfl, by simp only [get]; simp⟩ (by omega)
    ·exact absurd (Hwa.out.2.2 rfl) hb0
 ·have hnl : ¬ (n : Int) < s.length := by omega
  (repeat' simp -dsimp (disch := omega) only [↓EA, EB, Nat.reduceEqDiff, ↓reduceIte, eq_self, *, rs3.len])
end Go.L.Try
