/- LEGAL SCRIPTS: cadencyref08.Legal. -/
import Derived.Test.YtofmllajjolcgaaPb
import Derived.Test.YtofmllajjolcgaaPh
set_option linter.unusedVariables false
set_option linter.unusedSimpArgs false
set_option maxRecDepth 100000
set_option maxHeartbeats 2000000
namespace Go.L.Try
open Go Go.L
variable {E : Env}
end Go.L.Try
namespace Go.L.Try
open Go Go.L
variable {E : Env}
end Go.L.Try
set_option maxHeartbeats 1000000
namespace Go.L.Try
open Go Go.L
variable {E : Env}
structure RsHeap (h h' : Heap) (n : Nat) (s : RS) (vL : Value) : Prop where
 pre : Pre h h'
 len : h.length + 4 ≤ h'.length
 res : h'[h.length]? = some (.cells [.slice none 0 0, .slice none 0 0, .slice none 0 0] false)
 ends : h'[h.length + 1]? = some (icells s.ends)
 done : h'[h.length + 2]? = some (icells s.done)
 got : h'[h.length + 3]? = some (.cells [vL, .slice (some ⟨h.length + 1, 0, none⟩) n n, .slice (some ⟨h.length + 2, 0, none⟩) n n] false)
 L : OwnT (h.length + 4) 3 encS h' vL s.L
def GotR (m : Nat) (s : RS) (h : Heap) (v : Value) : Prop := ∃ vs, v = .agg vs.toArray ∧ Each h [fun h v => RdM m 3 encS h v s.L, fun h v => RdM m 1 encI h v s.ends, fun h v => RdM m 1 encI h v s.done] vs
theorem GotR.movable {m : Nat} (s : RS) : Movable m (GotR m s) 2 :=
 Movable.aggs (k := 1) (fun R hR => by
  simp only [List.mem_cons, List.not_mem_nil, or_false] at hR
  rcases hR with rfl | rfl | rfl
  ·exact RdM.movable flatS _
  ·exact RdM.movable flatI _
  ·exact RdM.movable flatI _) (by simp)
end Go.L.Try
namespace Go.L.Try
open Go Go.L
variable {E : Env}
end Go.L.Try
namespace Go.L.Try
open Go Go.L
variable {E : Env}
def Small (l : List Int) : Prop := ∀ e ∈ l, -1152921504606846976 ≤ e ∧ e ≤ 1152921504606846976
def SmallJ (l : List Job) : Prop := ∀ j ∈ l, -1152921504606846976 ≤ j.arrive ∧ j.arrive ≤ 1152921504606846976
def respP (jobs : List Job) (ends : List Int) (i : Int) : Int × Bool :=
 if 0 ≤ i ∧ i < jobs.length ∧ i < ends.length ∧ 0 ≤ atI ends i then (atI ends i - (atI jobs i).arrive, true) else (0, false)
theorem response (hE : Laid E) {h : Heap} {vj ve : Value} {lv : List (NV Job)} {ends : List Int} (hj : Rd 5 (encN hdJ) h vj lv) (he : Rd 1 encI h ve ends) (hs : Small ends) (hsj : SmallJ (lv.map (·.j))) (i : Int) :
  callW E (.func (.func n_trace_Response) #[] #[]) [vj, ve, .int .i64 i] h = some (.tuple #[.int .i64 (respP (lv.map (·.j)) ends i).1, .bool (respP (lv.map (·.j)) ends i).2], h, []) := by
 refine fn_same hE.trace_Response rfl (by simp) ?_
 have few := hj.few
 have few2 := he.few
 simp only [argsF]
 by_cases hc : 0 ≤ i ∧ i < lv.length ∧ i < ends.length
 ·have h1 := hs _ (atI_mem (l := ends) hc.1 hc.2.2)
  have h2 := hsj _ (List.mem_map_of_mem (atI_mem (l := lv) hc.1 hc.2.1))
  have e3 : atI (lv.map (·.j)) i = (atI lv i).j := (atI_map' (fun p : NV Job => p.j) lv i hc.1 hc.2.1).symm
  have hr : respP (lv.map (·.j)) ends i = if 0 ≤ atI ends i then (atI ends i - (atI lv i).j.arrive, true) else (0, false) := by
   unfold respP; rw [e3, List.length_map]; simp [hc]
  by_cases h0 : 0 ≤ atI ends i
  ·rw [hr, if_pos h0]
   clear hr e3 hs hsj
   (repeat' (first | (with_reducible refine A2 (fun _ => ?_) (fun _ => ?_) <;> try (exfalso; omega)) | (with_reducible refine A3 (fun _ => ?_) (fun _ => ?_) <;> try (exfalso; omega)) | simp -dsimp (disch := omega) only [↓EA, EB, Nat.reduceEqDiff, Nat.reduceAdd, ↓reduceIte, reduceCtorEq, eq_self, *, hj.len, hj.ixs, hj.ld, he.len, he.ixs, he.ld0, encN, hdJ, encI]))
  ·rw [hr, if_neg h0]
   clear hr e3 hs hsj
   (repeat' (first | (with_reducible refine A2 (fun _ => ?_) (fun _ => ?_) <;> try (exfalso; omega)) | (with_reducible refine A3 (fun _ => ?_) (fun _ => ?_) <;> try (exfalso; omega)) | simp -dsimp (disch := omega) only [↓EA, EB, Nat.reduceEqDiff, Nat.reduceAdd, ↓reduceIte, reduceCtorEq, eq_self, *, hj.len, he.len, he.ixs, he.ld0, encI]))
 ·have hr : respP (lv.map (·.j)) ends i = (0, false) := by
   unfold respP; rw [if_neg]; rw [List.length_map]; intro h; exact hc ⟨h.1, h.2.1, h.2.2.1⟩
  rw [hr]
  (repeat' (first | (with_reducible refine A2 (fun _ => ?_) (fun _ => ?_) <;> try (exfalso; omega)) | simp -dsimp (disch := omega) only [↓EA, EB, Nat.reduceEqDiff, Nat.reduceAdd, ↓reduceIte, reduceCtorEq, eq_self, *, hj.len, he.len]))
def worstN (jobs : List Job) (ends : List Int) (task : Int) : Nat → Int × Int × Bool
 | 0 => (0, 0, false)
 | n + 1 => if (respP jobs ends n).2 = true ∧ (atI jobs (n : Int)).task = task ∧ ((worstN jobs ends task n).2.2 = false ∨ (worstN jobs ends task n).1 < (respP jobs ends n).1) then ((respP jobs ends n).1, n, true) else worstN jobs ends task n
theorem worst (hE : Laid E) {h : Heap} {vj ve : Value} {lv : List (NV Job)} {ends : List Int} (hj : Rd 5 (encN hdJ) h vj lv) (hc : ∀ p ∈ lv, oneCell p.v = true) (he : Rd 1 encI h ve ends) (hs : Small ends) (hsj : SmallJ (lv.map (·.j))) (task : Int) :
  callW E (.func (.func n_trace_Worst) #[] #[]) [vj, ve, .int .i64 task] h = some (.tuple #[.int .i64 (worstN (lv.map (·.j)) ends task lv.length).1, .int .i64 (worstN (lv.map (·.j)) ends task lv.length).2.1, .bool (worstN (lv.map (·.j)) ends task lv.length).2.2], h, []) := by
 refine fn_same hE.trace_Worst rfl (by simp) ?_
 have few := hj.few
 simp only [argsF]
 (repeat' simp -dsimp (disch := omega) only [↓EA, EB, Nat.reduceEqDiff, Nat.reduceAdd, ↓reduceIte, reduceCtorEq, eq_self, *, hj.len])
 refine WO.loop (fun n fr h' => Pre h h' ∧ n ≤ lv.length ∧ get fr 0 = vj ∧ get fr 1 = ve ∧ get fr 2 = .int .i64 task ∧ get fr 16 = vj ∧ get fr 17 = .int .i64 lv.length ∧ get fr 18 = .int .i64 n ∧ get fr 9 = .int .i64 (worstN (lv.map (·.j)) ends task n).1 ∧ get fr 10 = .int .i64 (worstN (lv.map (·.j)) ends task n).2.1 ∧ get fr 11 = .bool (worstN (lv.map (·.j)) ends task n).2.2) (fun n => lv.length - n) ?_ 0 ⟨Pre.refl _, Nat.zero_le _, rfl, rfl, rfl, rfl, rfl, rfl, rfl, rfl, rfl⟩
 rintro n fr h' ⟨hp, hn, g0, g1, g2, g16, g17, g18, g9, g10, g11⟩
 unfold c_trace_Worst_l0
 rcases Nat.lt_or_ge n lv.length with hlt | hge
 ·have hj' := hj.pre hp
  have hresp := fun x => response hE (hj'.app x) ((he.pre hp).app x) hs hsj n
  have e3 : atI (lv.map (·.j)) (n : Int) = (atI lv n).j := (atI_map' (fun p : NV Job => p.j) lv n (by omega) (by omega)).symm
  have hone := hc _ (atI_mem (l := lv) (i := n) (by omega) (by omega))
  have hw : worstN (lv.map (·.j)) ends task (n + 1) = if (respP (lv.map (·.j)) ends n).2 = true ∧ (atI lv n).j.task = task ∧ ((worstN (lv.map (·.j)) ends task n).2.2 = false ∨ (worstN (lv.map (·.j)) ends task n).1 < (respP (lv.map (·.j)) ends n).1) then ((respP (lv.map (·.j)) ends n).1, (n : Int), true) else worstN (lv.map (·.j)) ends task n := by
   rw [← e3]; rfl
  generalize respP (lv.map (·.j)) ends n = r at *
  have Hw := Hid.mk hw
  generalize worstN (lv.map (·.j)) ends task n = p at *
  clear hw hs hsj hc e3
  obtain ⟨r1, r2⟩ := r
  obtain ⟨p1, p2, p3⟩ := p
  (repeat' (first | (with_reducible refine A1 (fun _ => ?_) (fun _ => ?_) <;> try (exfalso; omega)) | (with_reducible refine A3 (fun _ => ?_) (fun _ => ?_) <;> try (exfalso; omega)) | refine A5 (fun _ => ?_) (fun _ => ?_) | refine A6 (fun _ => ?_) (fun _ => ?_) | simp -dsimp (disch := omega) only [↓EA, EB, Nat.reduceEqDiff, Nat.reduceAdd, ↓reduceIte, reduceCtorEq, newCells, eq_self, *, hj'.ixs, hj'.lda, encN, hdJ, hp.le]))
  all_goals refine Next.mk (n + 1) ⟨hp.app' _, by omega, rfl, rfl, rfl, rfl, rfl, rfl, ?_, ?_, ?_⟩ (by omega)
  all_goals (rw [Hw.out]; split <;> simp_all [get] <;> omega)
 ·have : n = lv.length := by omega
  subst this
  (repeat' (first | (with_reducible refine A3 (fun _ => ?_) (fun _ => ?_) <;> try (exfalso; omega)) | simp -dsimp (disch := omega) only [↓EA, EB, Nat.reduceEqDiff, ↓reduceIte, reduceCtorEq, eq_self, *]))
def missB (l : List Task) (jobs : List Job) (ends : List Int) (i : Int) : Prop := 0 ≤ (atI jobs i).task ∧ (atI jobs i).task < l.length ∧ ((respP jobs ends i).2 = false ∨ (atI l (atI jobs i).task).D < (respP jobs ends i).1)
instance (l : List Task) (jobs : List Job) (ends : List Int) (i : Int) : Decidable (missB l jobs ends i) := by unfold missB; infer_instance
end Go.L.Try
