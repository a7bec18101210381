/- LEGAL SCRIPTS: cadencyref08.Legal. -/
import Derived.Test.YtifnlcajancfdaaPb
import Derived.Test.YtifnlcajancfdaaPh
set_option linter.unusedVariables false
set_option linter.unusedSimpArgs false
set_option maxRecDepth 100000
set_option maxHeartbeats 2000000
namespace Go.L.Try
open Go Go.L
variable {E : Env}
end Go.L.Try
namespace Go.L.Try
open Go Go.L
variable {E : Env}
theorem Aql (hE : Ap E) {h : Aa} {j : NV Job} (hc : Rd 1 Cj h j.v j.j.cuts) {q w : Int} (hok : Dq q j.j.cuts w = true) (hw : w ≤ 2147483647) (d : Int) :
  callW E (.func (.func Et) #[] #[]) [.agg (Ci hdJ j).toArray, .int .i64 d] h = some (.bool (A7 j.j.cuts 0 d), h, []) := by
 refine Ai hE.Adp rfl (by simp) ?_
 have few := hc.few
 have o := hc.one
 have m := fun x => hc.app x
 simp only [Ah]
 (repeat' simp -dsimp (disch := omega) only [↓EA, EB, Nat.reduceEqDiff, ↓reduceIte, reduceCtorEq, Ab, eq_self, *, Ci, hdJ])
 refine WO.loop (fun c fr h' => h' = h ++ [.cells [.int .i64 j.j.task, .int .i64 j.j.arrive, .int .i64 j.j.release, .int .i64 j.j.work, j.v] false] ∧ c ≤ j.j.cuts.length ∧ get fr 1 = .int .i64 d ∧ get fr 2 = .pointer (some ⟨h.length, 0, none⟩) ∧ get fr 6 = .int .i64 c ∧ ∃ a, get fr 5 = .int .i64 a ∧ 0 ≤ a ∧ Dq q (j.j.cuts.drop c) (w - a) = true ∧ A7 j.j.cuts 0 d = A7 (j.j.cuts.drop c) a d) (fun c => j.j.cuts.length - c) ?_ 0 ⟨rfl, Nat.zero_le _, rfl, rfl, rfl, 0, rfl, Int.le_refl _, by simpa using hok, rfl⟩
 rintro c fr h' ⟨rfl, n, s, r, p, a, u, t, hok, f⟩
 unfold Na
 rcases Nat.lt_or_ge c j.j.cuts.length with hlt | hge
 ·rw [List.drop_eq_getElem_cons hlt, ← Ax hlt] at hok f
  simp only [Dq, Bool.and_eq_true, decide_eq_true_eq] at hok
  simp only [A7] at f
  obtain ⟨l, g⟩ := hok
  have Hw := Hid.mk f
  have H2 := Hid.mk g
  rw [f]
  clear f g
  (repeat' (first | (with_reducible refine A1 (fun _ => ?_) (fun _ => ?_) <;> try (exfalso; omega)) | (with_reducible refine A3 (fun _ => ?_) (fun _ => ?_) <;> try (exfalso; omega)) | simp -dsimp (disch := omega) only [↓EA, EB, Nat.reduceEqDiff, ↓reduceIte, eq_self, *, hc.ixs, hc.ldx0, hc.len, Cj]))
  ·simp
  all_goals
   refine Next.mk (c + 1) ⟨rfl, by omega, rfl, rfl, rfl, _, rfl, by omega, ?_, ?_⟩ (by omega)
   ·have := H2.out
    rw [show w - (a + atI j.j.cuts (c : Int)) = w - a - atI j.j.cuts (c : Int) by omega]; exact this
   ·rw [decide_eq_false (by omega), Bool.false_or]
 ·have e : j.j.cuts.drop c = [] := List.drop_of_length_le (by omega)
  rw [f, e]
  (repeat' (first | (with_reducible refine A3 (fun _ => ?_) (fun _ => ?_) <;> try (exfalso; omega)) | simp -dsimp (disch := omega) only [↓EA, EB, Nat.reduceEqDiff, ↓reduceIte, eq_self, *, hc.len, A7]))
theorem Ay5 (hE : Ap E) {h : Aa} {vl vj vd : Value} {l : List Af} {lv : List (NV Job)} {done : List Int} {t : Int}
  (hl : Rd 7 Az h vl l) (hj : Rd 5 (Ci hdJ) h vj lv) (hd : Rd 1 Cj h vd done) (hlen : done.length = lv.length) (ht : ∀ j ∈ lv, 0 ≤ j.j.task ∧ j.j.task < l.length) :
  callW E (.func (.func Gt) #[] #[]) [vl, vj, vd, .int .i64 t] h = some (.int .i64 (Bp l (lv.map (·.j)) done t lv.length), h, []) := by
 refine Ai hE.Aje rfl (by simp) ?_
 have few := hj.few
 have c : done.length ≤ lv.length := by omega
 have e : lv.length ≤ done.length := by omega
 clear hlen
 simp only [Ah]
 (repeat' simp -dsimp (disch := omega) only [↓EA, EB, Nat.reduceEqDiff, Nat.reduceAdd, ↓reduceIte, reduceCtorEq, eq_self, *])
 refine WO.loop (fun n fr h' => h' = h ∧ n ≤ lv.length ∧ get fr 0 = vl ∧ get fr 1 = vj ∧ get fr 2 = vd ∧ get fr 3 = .int .i64 t ∧ get fr 9 = .int .i64 (Bp l (lv.map (·.j)) done t n) ∧ get fr 10 = .int .i64 n) (fun n => lv.length - n) ?_ 0 ⟨rfl, Nat.zero_le _, rfl, rfl, rfl, rfl, rfl, rfl⟩
 rintro n fr h' ⟨rfl, x, h0, v, h2, z, u, m⟩
 unfold Qb
 rcases Nat.lt_or_ge n lv.length with hlt | hge
 ·have r := ht _ (Aj (l := lv) (i := n) (by omega) (by omega))
  have y := N6 l (lv.map (·.j)) done t n
  have o : 0 ≤ Bp l (lv.map (·.j)) done t n → 0 ≤ (atI lv (Bp l (lv.map (·.j)) done t n)).j.task ∧ (atI lv (Bp l (lv.map (·.j)) done t n)).j.task < l.length := fun a => ht _ (Aj a (by omega))
  have s : atI (lv.map (·.j)) (n : Int) = (atI lv n).j := (Eb (fun p : NV Job => p.j) lv n (by omega) (by omega)).symm
  have f : 0 ≤ Bp l (lv.map (·.j)) done t n → atI (lv.map (·.j)) (Bp l (lv.map (·.j)) done t n) = (atI lv (Bp l (lv.map (·.j)) done t n)).j := fun a => (Eb (fun p : NV Job => p.j) lv _ a (by omega)).symm
  have g : Bp l (lv.map (·.j)) done t (n + 1) = if (atI lv n).j.release ≤ t ∧ atI done n < (atI lv n).j.work ∧ (Bp l (lv.map (·.j)) done t n < 0 ∨ (atI l (atI lv n).j.task).P < (atI l (atI lv (Bp l (lv.map (·.j)) done t n)).j.task).P) then (n : Int) else Bp l (lv.map (·.j)) done t n := by
   simp only [Bp, s]
   by_cases a : 0 ≤ Bp l (lv.map (·.j)) done t n
   ·rw [f a]
   ·have d : Bp l (lv.map (·.j)) done t n < 0 := by omega
    simp only [d, true_or]
  have Hs := Hid.mk g
  clear g ht f
  (repeat' (first | (with_reducible refine A1 (fun _ => ?_) (fun _ => ?_) <;> try (exfalso; omega)) | (with_reducible refine A2 (fun _ => ?_) (fun _ => ?_) <;> try (exfalso; omega)) | (with_reducible refine A3 (fun _ => ?_) (fun _ => ?_) <;> try (exfalso; omega)) | simp -dsimp (disch := omega) only [↓EA, EB, Nat.reduceEqDiff, ↓reduceIte, reduceCtorEq, eq_self, *, hj.len, hj.ixs, hj.ld, hj.ld0, hd.ixs, hd.ld0, hl.ixs, hl.ld, Ci, hdJ, Cj, Az]))
  all_goals refine Next.mk (n + 1) ⟨rfl, by omega, rfl, rfl, rfl, rfl, ?_, rfl⟩ (by omega)
  all_goals rw [Hs.out]
  all_goals first
   | (rw [if_pos (by omega)]; rfl)
   | (rw [if_neg (by omega)]; rfl)
 ·have : n = lv.length := by omega
  subst this
  (repeat' (first | (with_reducible refine A3 (fun _ => ?_) (fun _ => ?_) <;> try (exfalso; omega)) | simp -dsimp (disch := omega) only [↓EA, EB, Nat.reduceEqDiff, ↓reduceIte, reduceCtorEq, eq_self, *, hj.len]))
end Go.L.Try
set_option maxHeartbeats 1000000
namespace Go.L.Try
open Go Go.L
variable {E : Env}
theorem Awb {n k : Nat} (h : k < n) (x y : Int) : (List.replicate k x ++ List.replicate (n - k) y).set k x = List.replicate (k + 1) x ++ List.replicate (n - (k + 1)) y := by
 rw [show n - k = (n - (k + 1)) + 1 by omega, List.replicate_succ, List.set_append_right _ _ (by simp), List.length_replicate, Nat.sub_self, List.set_cons_zero, List.replicate_succ', List.append_assoc]; rfl
theorem Aqu (hE : Ap E) {W : Nat → Prop} {h0 : Aa} {vj : Value} {lv : List (NV Job)} (hj : Rd 5 (Ci hdJ) h0 vj lv) {b bg : Nat} (hne : b ≠ bg) (hjb : vj ≠ .slice none 0 0 → blk vj ≠ b) (hW : W b) {n : Nat} {x0 x2 : Value} (hn : n = lv.length) (hb : h0[b]? = some (Ad (List.replicate n 0))) (hg : h0[bg]? = some (.cells [x0, .slice (some ⟨b, 0, none⟩) n n, x2] false)) {v0 v2 v6 v8 : Value} {Q : Ex → Fr → Aa → Prop} {fr : Fr}
  (g0 : get fr 0 = v0) (g1 : get fr 1 = vj) (g2 : get fr 2 = v2) (g6 : get fr 6 = v6) (g7 : get fr 7 = .pointer (some ⟨bg, 0, none⟩)) (g8 : get fr 8 = v8) (g9 : get fr 9 = .int .i64 0)
  (hq : ∀ fr', get fr' 0 = v0 → get fr' 1 = vj → get fr' 2 = v2 → get fr' 6 = v6 → get fr' 7 = .pointer (some ⟨bg, 0, none⟩) → get fr' 8 = v8 → Q (.exit 0) fr' (h0.set b (Ad (List.replicate n (-1))))) :
  WO W (iterW (code (callW E) iterW 142 Kb) fr h0) Q := by
 have few := hj.few
 have d := (GI.1 hb).1
 have c : ∀ k, k ≤ n → (List.replicate k (-1 : Int) ++ List.replicate (n - k) 0).length = n := fun k m => by simp; omega
 have a : h0 = h0.set b (Ad (List.replicate 0 (-1 : Int) ++ List.replicate (n - 0) 0)) := by
  apply List.ext_getElem?
  intro j
  by_cases e : b = j
  ·subst e; rw [List.getElem?_set_self d]; simpa using hb
  ·rw [Aq e]
 refine WO.loop (fun k fr h' => h' = h0.set b (Ad (List.replicate k (-1 : Int) ++ List.replicate (n - k) 0)) ∧ k ≤ n ∧ get fr 0 = v0 ∧ get fr 1 = vj ∧ get fr 2 = v2 ∧ get fr 6 = v6 ∧ get fr 7 = .pointer (some ⟨bg, 0, none⟩) ∧ get fr 8 = v8 ∧ get fr 9 = .int .i64 k) (fun k => n - k) ?_ 0 ⟨a, Nat.zero_le _, g0, g1, g2, g6, g7, g8, g9⟩
 clear a
 rintro k fr h' ⟨rfl, m, g0, g1, g2, g6, g7, g8, g9⟩
 have s : (h0.set b (Ad (List.replicate k (-1 : Int) ++ List.replicate (n - k) 0)))[b]? = some (Ad (List.replicate k (-1 : Int) ++ List.replicate (n - k) 0)) := List.getElem?_set_self d
 have p : (h0.set b (Ad (List.replicate k (-1 : Int) ++ List.replicate (n - k) 0)))[bg]? = some (.cells [x0, .slice (some ⟨b, 0, none⟩) n n, x2] false) := by rw [Aq hne]; exact hg
 have o : n ≤ lv.length := by omega
 have t : lv.length ≤ n := by omega
 have f := Hid.mk (c k m)
 clear hn c
 unfold Kb
 rcases Nat.lt_or_ge k n with hlt' | hge
 ·have g := f.out
  have r := fun (h : Aa) => Id (h := h) (b := b) (l := List.replicate k (-1 : Int) ++ List.replicate (n - k) 0) (i := k) (x := -1) (by omega) (by omega)
  clear g
  (repeat' (first | (with_reducible refine A3 (fun _ => ?_) (fun _ => ?_) <;> try (exfalso; omega)) | simp -dsimp (disch := omega) only [↓EA, EB, Nat.reduceEqDiff, ↓reduceIte, reduceCtorEq, eq_self, *, hj.len, List.set_set]))
  refine Next.mk (k + 1) ⟨?_, by omega, rfl, rfl, rfl, rfl, rfl, rfl, rfl⟩ (by omega)
  rw [show ((k : Int)).toNat = k by omega, Awb hlt']
 ·have : k = n := by omega
  subst this
  simp only [Nat.sub_self, List.replicate_zero, List.append_nil] at *
  (repeat' (first | (with_reducible refine A3 (fun _ => ?_) (fun _ => ?_) <;> try (exfalso; omega)) | simp -dsimp (disch := omega) only [↓EA, EB, Nat.reduceEqDiff, ↓reduceIte, reduceCtorEq, eq_self, *, hj.len]))
  exact hq _ rfl rfl rfl rfl rfl rfl
structure Aek (h h' : Aa) (n : Nat) (s : RS) (vL : Value) : Prop where
 pre : Pre h h'
 len : h.length + 4 ≤ h'.length
 res : h'[h.length]? = some (.cells [.slice none 0 0, .slice none 0 0, .slice none 0 0] false)
 ends : h'[h.length + 1]? = some (Ad s.ends)
 done : h'[h.length + 2]? = some (Ad s.done)
 got : h'[h.length + 3]? = some (.cells [vL, .slice (some ⟨h.length + 1, 0, none⟩) n n, .slice (some ⟨h.length + 2, 0, none⟩) n n] false)
 L : OwnT (h.length + 4) 3 Ro h' vL s.L
theorem Aqt (hE : Ap E) {h : Aa} {vl vj : Value} {l : List Af} {lv : List (NV Job)} (hl : Rd 7 Az h vl l) (hlv : Rd 5 (Ci hdJ) h vj lv) (hc : ∀ p ∈ lv, Rd 1 Cj h p.v p.j.cuts) (hok : Ke l (lv.map (·.j))) (hsum : B9 (lv.map (·.j)) ≤ 1099511627776) (e : Int) {s0 : RS} {vL0 : Value} {h0 : Aa} (hi0 : RsInv (lv.map (·.j)) s0) (hh0 : Aek h h0 lv.length s0 vL0) {Q : Ex → Fr → Aa → Prop} {fr : Fr}
  (g0 : get fr 0 = vl) (g1 : get fr 1 = vj) (g2 : get fr 2 = .int .i64 e) (g6 : get fr 6 = .pointer (some ⟨h.length, 0, none⟩)) (g7 : get fr 7 = .pointer (some ⟨h.length + 3, 0, none⟩)) (g8 : get fr 8 = .int .i64 s0.left) (g10 : get fr 10 = .int .i64 s0.runs) (g11 : get fr 11 = .int .i64 s0.t)
  (hq : ∀ fr' h' vL, get fr' 6 = .pointer (some ⟨h.length, 0, none⟩) → get fr' 7 = .pointer (some ⟨h.length + 3, 0, none⟩) → Aek h h' lv.length (Bb l (lv.map (·.j)) e s0) vL → Q (.exit 2) fr' h') :
  WO (fun b => h.length ≤ b) (iterW (code (callW E) iterW 142 Ka) fr h0) Q := by
 have few := hlv.few
 refine WO.loop (α := RS) (fun s fr h' => RsInv (lv.map (·.j)) s ∧ Bb l (lv.map (·.j)) e s0 = Bb l (lv.map (·.j)) e s ∧ get fr 0 = vl ∧ get fr 1 = vj ∧ get fr 2 = .int .i64 e ∧ get fr 6 = .pointer (some ⟨h.length, 0, none⟩) ∧ get fr 7 = .pointer (some ⟨h.length + 3, 0, none⟩) ∧ get fr 8 = .int .i64 s.left ∧ get fr 10 = .int .i64 s.runs ∧ get fr 11 = .int .i64 s.t ∧ ∃ vL, Aek h h' lv.length s vL) (fun s => Ed (lv.map (·.j)) s) ?_ s0 ⟨hi0, rfl, g0, g1, g2, g6, g7, g8, g10, g11, vL0, hh0⟩
 clear hh0 g0 g1 g2 g6 g7 g8 g10 g11 hi0
 rintro s fr h' ⟨hi, hu, g0, g1, g2, g6, g7, g8, g10, g11, vL, hh⟩
 have Hu := Hid.mk hu
 clear hu
 have hs := hi.sum
 have ht0 := hi.t0
 have ht1 := hi.t1
 unfold Dg at ht1
 have hruns := hi.runs
 have ht2 : s.t < 70368744177664 := by omega
 have hdl : s.done.length = lv.length := by rw [hi.dlen]; simp
 have hel : s.ends.length = lv.length := by rw [hi.elen]; simp
 have hdl1 : s.done.length ≤ lv.length := by omega
 have hdl2 : lv.length ≤ s.done.length := by omega
 have hel1 : s.ends.length ≤ lv.length := by omega
 have hel2 : lv.length ≤ s.ends.length := by omega
 have hll : (s.L.length : Int) ≤ 1099511627776 := by have := hi.L; omega
 have hlm : ((lv.map (·.j)).length : Int) = lv.length := by simp
 have hrr := Ab5 hok hi
 have hleft := hi.left_le
 have hll2 : s.left ≤ lv.length := by omega
 have Hi := Hid.mk hi
 have Hok := Hid.mk hok
 clear hdl hel hs hok hi
 unfold Ka
 by_cases ho : Kh e s
 ·have hst := Hid.mk (Fo Hok.out Hi.out ho)
  have hus := Hid.mk (My Hok.out Hi.out ho)
  have Ho := Hid.mk ho
  unfold Kh at ho
  clear hq
  refine WO.cut (fun fr' h1 => h1 = h' ∧ get fr' 0 = vl ∧ get fr' 1 = vj ∧ get fr' 2 = .int .i64 e ∧ get fr' 6 = .pointer (some ⟨h.length, 0, none⟩) ∧ get fr' 7 = .pointer (some ⟨h.length + 3, 0, none⟩) ∧ get fr' 8 = .int .i64 s.left ∧ get fr' 10 = .int .i64 s.runs ∧ get fr' 11 = .int .i64 s.t) ?_ ?_
  ·(repeat' (first | (with_reducible refine A2 (fun _ => ?_) (fun _ => ?_) <;> try (exfalso; omega)) | (with_reducible refine A3 (fun _ => ?_) (fun _ => ?_) <;> try (exfalso; omega)) | simp -dsimp (disch := omega) only [↓EA, EB, Nat.reduceEqDiff, ↓reduceIte, reduceCtorEq, eq_self, *]))
  ·rintro fr1 h1 ⟨rfl, g0, g1, g2, g6, g7, g8, g10, g11⟩
   have hl' := hl.pre hh.pre
   have hlv' := hlv.pre hh.pre
   have hdr : Rd 1 Cj h1 (.slice (some ⟨h.length + 2, 0, none⟩) lv.length lv.length) s.done := Ads hh.done (by omega) (by omega) (by omega)
   have hg := hh.got
   have hwi : 0 ≤ s.runs → callW E (.func (.func Et) #[] #[]) [.agg (Ci hdJ (atI lv s.runs)).toArray, .int .i64 (atI s.done s.runs)] h1 = some (.bool (A7 (atI lv s.runs).j.cuts 0 (atI s.done s.runs)), h1, []) := fun h0 => by
    have hm := Aj (l := lv) h0 (by omega)
    obtain ⟨q, hq⟩ := Hok.out.cuts _ (List.mem_map_of_mem hm)
    exact Aql hE ((hc _ hm).pre hh.pre) hq (Hok.out.work _ (List.mem_map_of_mem hm)).2 _
   have hpk : callW E (.func (.func Gt) #[] #[]) [vl, vj, .slice (some ⟨h.length + 2, 0, none⟩) lv.length lv.length, .int .i64 s.t] h1 = some (.int .i64 (Bp l (lv.map (·.j)) s.done s.t lv.length), h1, []) :=
    Ay5 hE hl' hlv' hdr (by omega) fun j hj => Hok.out.task _ (List.mem_map_of_mem hj)
   have e2 : 0 ≤ s.runs → atI (lv.map (·.j)) s.runs = (atI lv s.runs).j := fun h0 => (Eb (fun p : NV Job => p.j) lv s.runs h0 (by omega)).symm
   rw [Aec, Aam]
   refine WO.cut (fun fr' h2 => h2 = h1 ∧ get fr' 0 = vl ∧ get fr' 1 = vj ∧ get fr' 2 = .int .i64 e ∧ get fr' 6 = .pointer (some ⟨h.length, 0, none⟩) ∧ get fr' 7 = .pointer (some ⟨h.length + 3, 0, none⟩) ∧ get fr' 8 = .int .i64 s.left ∧ get fr' 10 = .int .i64 (rsRuns l (lv.map (·.j)) s) ∧ get fr' 11 = .int .i64 s.t) ?_ ?_
   ·clear hrr
    have hlen' : (lv.map (·.j)).length = lv.length := by simp
    have hrl : s.runs < lv.length := by omega
    rcases Int.lt_or_le s.runs 0 with hneg | hpos
    ·have hr : rsRuns l (lv.map (·.j)) s = Bp l (lv.map (·.j)) s.done s.t lv.length := by unfold rsRuns; rw [if_pos (.inl hneg), hlen']
     rw [hr]
     clear hwi e2 hlen' hlm hr
     (repeat' simp -dsimp (disch := omega) only [↓EA, EB, Nat.reduceEqDiff, ↓reduceIte, reduceCtorEq, eq_self, *])
    ·have hwi := hwi hpos
     have e2 := e2 hpos
     simp only [Ci, hdJ, List.cons_append, List.nil_append] at hwi
     cases hwb : A7 (atI lv s.runs).j.cuts 0 (atI s.done s.runs) <;> rw [hwb] at hwi
     ·have hr : rsRuns l (lv.map (·.j)) s = Bp l (lv.map (·.j)) s.done s.t lv.length := by unfold rsRuns; rw [e2, if_pos (.inr hwb), hlen']
      rw [hr]
      clear hlen' hlm hr e2
      (repeat' (first | (with_reducible refine A2 (fun _ => ?_) (fun _ => ?_) <;> try (exfalso; omega)) | simp -dsimp (disch := omega) only [↓EA, EB, Nat.reduceEqDiff, ↓reduceIte, reduceCtorEq, eq_self, *, hdr.ixs, hdr.ld0, hlv'.ixs, hlv'.lda, Ci, hdJ, Cj]))
     ·have hr : rsRuns l (lv.map (·.j)) s = s.runs := by unfold rsRuns; rw [e2, hwb, if_neg (by simp; omega)]
      rw [hr]
      clear hlen' hlm hr e2
      (repeat' (first | (with_reducible refine A2 (fun _ => ?_) (fun _ => ?_) <;> try (exfalso; omega)) | simp -dsimp (disch := omega) only [↓EA, EB, Nat.reduceEqDiff, ↓reduceIte, reduceCtorEq, eq_self, *, hdr.ixs, hdr.ld0, hlv'.ixs, hlv'.lda, Ci, hdJ, Cj]))
   ·rintro fr2 h2 ⟨rfl, g0, g1, g2, g6, g7, g8, g10, g11⟩
    have hrs : Ep l (lv.map (·.j)) s = if rsRuns l (lv.map (·.j)) s < 0 then { s with t := s.t + 1, runs := rsRuns l (lv.map (·.j)) s } else Jw (lv.map (·.j)) s (rsRuns l (lv.map (·.j)) s) := rfl
    generalize rsRuns l (lv.map (·.j)) s = r at *
    have hrl : r < lv.length := by omega
    have hbj : blk vj < h.length ∨ r < 0 := by
     rcases Int.lt_or_le r 0 with h1 | h1
     ·exact .inr h1
     ·exact .inl (Row.lt hlv (by intro e; simp at e; rw [e] at hrl; simp at hrl; omega))
    clear hwi hpk hruns hl hl'
    rcases Int.lt_or_le r 0 with hneg | hpos
    ·rw [if_pos hneg] at hrs
     have Hrs := Hid.mk hrs
     clear hrs hrr e2 hlm
     (repeat' simp -dsimp (disch := omega) only [↓EA, EB, Nat.reduceEqDiff, ↓reduceIte, reduceCtorEq, eq_self, *])
     have hst' := hst.out
     have hus' := Hu.out.trans hus.out
     rw [Hrs.out] at hst' hus'
     refine Next.mk _ ⟨hst'.1, hus', rfl, rfl, rfl, rfl, rfl, rfl, rfl, rfl, vL, ?_⟩ hst'.2
     exact ⟨hh.pre, hh.len, hh.res, hh.ends, hh.done, hh.got, hh.L⟩
    ·rw [if_neg (by omega)] at hrs
     have hrr := hrr.2.2 hpos
     have e3 : atI (lv.map (·.j)) r = (atI lv r).j := (Eb (fun p : NV Job => p.j) lv r hpos hrl).symm
     rw [e3] at hrr
     unfold Jw at hrs
     rw [e3] at hrs
     have Hrs := Hid.mk hrs
     have hdb := (Hi.out.done r.toNat (by omega)).1
     rw [show ((r.toNat : Nat) : Int) = r by omega] at hdb
     have hwb := (Hok.out.work _ (List.mem_map_of_mem (Aj (l := lv) hpos hrl))).2
     clear hrs e2 hlm e3
     refine WO.cut (fun fr' h3 => h3 = h2 ∧ get fr' 0 = vl ∧ get fr' 1 = vj ∧ get fr' 2 = .int .i64 e ∧ get fr' 6 = .pointer (some ⟨h.length, 0, none⟩) ∧ get fr' 7 = .pointer (some ⟨h.length + 3, 0, none⟩) ∧ get fr' 8 = .int .i64 s.left ∧ get fr' 10 = .int .i64 r ∧ get fr' 11 = .int .i64 s.t) ?_ ?_
     ·(repeat' (first | (with_reducible refine A3 (fun _ => ?_) (fun _ => ?_) <;> try (exfalso; omega)) | simp -dsimp (disch := omega) only [↓EA, EB, Nat.reduceEqDiff, ↓reduceIte, reduceCtorEq, eq_self, *]))
     rintro fr3 h3 ⟨rfl, g0, g1, g2, g6, g7, g8, g10, g11⟩
     refine WO.cut (fun fr' h4 => h4 = h3 ∧ get fr' 0 = vl ∧ get fr' 1 = vj ∧ get fr' 2 = .int .i64 e ∧ get fr' 6 = .pointer (some ⟨h.length, 0, none⟩) ∧ get fr' 7 = .pointer (some ⟨h.length + 3, 0, none⟩) ∧ get fr' 8 = .int .i64 s.left ∧ get fr' 10 = .int .i64 r ∧ get fr' 11 = .int .i64 s.t ∧ get fr' 12 = .int .i64 s.L.length) ?_ ?_
     ·(repeat' simp -dsimp (disch := omega) only [↓EA, EB, Nat.reduceEqDiff, ↓reduceIte, reduceCtorEq, eq_self, *, hh.L.rd.len])
     rintro fr4 h4 ⟨rfl, g0, g1, g2, g6, g7, g8, g10, g11, g12⟩
     have hblk : s.L ≠ [] → h.length + 4 ≤ blk vL := fun hn => hh.L.ge hn
     refine WO.cut (fun fr' h5 => get fr' 0 = vl ∧ get fr' 1 = vj ∧ get fr' 2 = .int .i64 e ∧ get fr' 6 = .pointer (some ⟨h.length, 0, none⟩) ∧ get fr' 7 = .pointer (some ⟨h.length + 3, 0, none⟩) ∧ get fr' 8 = .int .i64 s.left ∧ get fr' 10 = .int .i64 r ∧ get fr' 11 = .int .i64 s.t ∧ ∃ vL', Aek h h5 lv.length { s with L := Ct s.L r s.t } vL') ?_ ?_
     ·have hadd : Ct s.L r s.t = if 0 < (s.L.length : Int) ∧ (atI s.L ((s.L.length : Int) - 1)).job = r ∧ (atI s.L ((s.L.length : Int) - 1)).to' = s.t then s.L.set ((s.L.length : Int) - 1).toNat { atI s.L ((s.L.length : Int) - 1) with to' := (atI s.L ((s.L.length : Int) - 1)).to' + 1 } else s.L ++ [⟨r, s.t, s.t + 1⟩] := rfl
      have Hadd := Hid.mk hadd
      clear hadd hdr hc
      (repeat' (first | (with_reducible refine A1 (fun _ => ?_) (fun _ => ?_) <;> try (exfalso; omega)) | (with_reducible refine A3 (fun _ => ?_) (fun _ => ?_) <;> try (exfalso; omega)) | simp -dsimp (disch := omega) only [↓EA, EB, Nat.reduceEqDiff, Nat.reduceAdd, Nat.reduceLeDiff, Nat.reduceMul, ↓reduceIte, reduceCtorEq, Ab, T9, eq_self, *, hh.L.rd.ixs, hh.L.rd.ld, hh.L.rd.ld0, Ro]))
      case' refine_1.refine_1.refine_1 =>
       have hne : s.L ≠ [] := by intro e; have : s.L.length = 0 := (by rw [e]; rfl); omega
       have hb4 := hblk hne
       refine X2 hh.L (fun b hb => by omega) { atI s.L ((s.L.length : Int) - 1) with to' := s.t + 1 } (by omega) (by omega) (by decide) rfl rfl fun h5 k1 k2 k3 => ?_
       have Hadd' : Ct s.L r s.t = s.L.set ((s.L.length : Int) - 1).toNat { atI s.L ((s.L.length : Int) - 1) with to' := s.t + 1 } := by
        rw [Hadd.out, if_pos ⟨by omega, by assumption, by assumption⟩, ‹(atI s.L ((s.L.length : Int) - 1)).to' = s.t›]
       replace Hadd' := Hid.mk Hadd'
       (repeat' simp -dsimp (disch := omega) only [↓EA, EB, Nat.reduceEqDiff, ↓reduceIte, reduceCtorEq, eq_self, *])
       refine ⟨vL, ⟨fun b o hb => ?_, by rw [k2]; exact hh.len, ?_, ?_, ?_, ?_, ?_⟩⟩
       ·rw [k3 b (by have := (GI.1 hb).1; omega)]; exact hh.pre b o hb
       ·rw [k3 _ (by omega)]; exact hh.res
       ·rw [k3 _ (by omega)]; exact hh.ends
       ·rw [k3 _ (by omega)]; exact hh.done
       ·rw [k3 _ (by omega)]; exact hh.got
       ·rw [Hadd'.out]; exact k1
      all_goals
       have hlen4 := hh.len
       refine Akp (sz := 3) (bytes := 24) (hh.L.app _) (hh.pre.app' _) (m := h.length + 4) (by omega) (by simp; omega) (fun b hb => by omega) ⟨r, s.t, s.t + 1⟩ ?_ rfl (by decide) (by decide) (by omega) ?_
       ·simp -dsimp (disch := omega) only [EB, Nat.reduceAdd, Nat.reduceMul, ↓reduceIte]
        rfl
       ·intro v2 h5 k1 k2 k3 k4 k5
        have hat : ∀ b, b < h.length + 4 → h5[b]? = h4[b]? := fun b hb => by
         rw [k5 b (by simp; omega) (fun hn => by have := hblk hn; omega), GL (by omega)]
        have Hadd' : Ct s.L r s.t = s.L ++ [⟨r, s.t, s.t + 1⟩] := by
         rw [Hadd.out, if_neg (by rintro ⟨a, b, c⟩; simp_all)]
        have hg5 : h5[h.length + 3]? = some (.cells [vL, .slice (some ⟨h.length + 1, 0, none⟩) lv.length lv.length, .slice (some ⟨h.length + 2, 0, none⟩) lv.length lv.length] false) := by rw [hat _ (by omega)]; exact hh.got
        have hv := k1.rd.one
        have hv2 := k1.rd.cv
        simp only [LA, List.length_cons, List.length_nil] at k3 k4
        clear k5 hg
        replace Hadd' := Hid.mk Hadd'
        replace hat := Hid.mk hat
        (repeat' simp -dsimp (disch := omega) only [↓EA, EB, Nat.reduceEqDiff, Nat.reduceAdd, Nat.reduceLeDiff, ↓reduceIte, reduceCtorEq, eq_self, *])
        refine ⟨v2, ⟨k2.set (by omega) _, by rw [List.length_set]; omega, ?_, ?_, ?_, ?_, ?_⟩⟩
        ·rw [Aq (by omega), hat.out _ (by omega)]; exact hh.res
        ·rw [Aq (by omega), hat.out _ (by omega)]; exact hh.ends
        ·rw [Aq (by omega), hat.out _ (by omega)]; exact hh.done
        ·exact Bx (by omega)
        ·rw [Hadd'.out]; exact k1.keep fun hn => Aq (by omega)
     ·rintro fr5 h5 ⟨g0, g1, g2, g6, g7, g8, g10, g11, vL', hh'⟩
      have hlen5 := hh'.len
      have hd5 := hh'.done
      have he5 := hh'.ends
      have hg5 := hh'.got
      have hr5 := hh'.res
      have hL5 := hh'.L.rd.one
      simp only at hd5 he5
      have hlv5 := hlv.pre hh'.pre
      clear hg hdr hblk
      have hll3 := Ho.out.1
      (repeat' (first | (with_reducible refine A3 (fun _ => ?_) (fun _ => ?_) <;> try (exfalso; omega)) | simp -dsimp (disch := omega) only [↓EA, EB, Nat.reduceEqDiff, ↓reduceIte, reduceCtorEq, eq_self, *, hlv5.ixs, hlv5.ld, Ci, hdJ]))
      case' refine_1 => simp only [if_pos ‹atI s.done r + 1 = (atI lv r).j.work›] at Hrs
      case' refine_2 => simp only [if_neg ‹¬ atI s.done r + 1 = (atI lv r).j.work›] at Hrs
      all_goals
       have hst' := hst.out
       have hus' := Hu.out.trans hus.out
       rw [Hrs.out] at hst' hus'
       refine Next.mk _ ⟨hst'.1, hus', rfl, rfl, rfl, rfl, rfl, rfl, rfl, rfl, vL', ?_⟩ hst'.2
      ·refine ⟨hh'.pre.set (by omega) _, by simp only [List.length_set]; omega, ?_, ?_, ?_, ?_, ?_⟩
       ·rw [Aq (by omega)]; exact hr5
       ·rw [Aq (by omega)]; exact he5
       ·exact Bx (by omega)
       ·rw [Aq (by omega)]; exact hg5
       ·exact hh'.L.keep fun hn => by have := hh'.L.ge hn; rw [Aq (by omega)]
      ·refine ⟨(hh'.pre.set (by omega) _).set (by omega) _, by simp only [List.length_set]; omega, ?_, ?_, ?_, ?_, ?_⟩
       ·rw [Aq (by omega), Aq (by omega)]; exact hr5
       ·exact Bx (by simp only [List.length_set]; omega)
       ·rw [Aq (by omega), Bx (by omega), ‹atI s.done r + 1 = (atI lv r).j.work›]
       ·rw [Aq (by omega), Aq (by omega)]; exact hg5
       ·exact hh'.L.keep fun hn => by have := hh'.L.ge hn; rw [Aq (by omega), Aq (by omega)]
 ·rw [Ij ho] at Hu
  unfold Kh at ho
  (repeat' (first | (with_reducible refine A1 (fun _ => ?_) (fun _ => ?_) <;> try (exfalso; omega)) | (with_reducible refine A2 (fun _ => ?_) (fun _ => ?_) <;> try (exfalso; omega)) | (with_reducible refine A3 (fun _ => ?_) (fun _ => ?_) <;> try (exfalso; omega)) | simp -dsimp (disch := omega) only [↓EA, EB, Nat.reduceEqDiff, ↓reduceIte, reduceCtorEq, eq_self, *]))
  all_goals exact hq _ _ vL rfl rfl (by rw [Hu.out]; exact hh)
def GotR (m : Nat) (s : RS) (h : Aa) (v : Value) : Prop := ∃ vs, v = .agg vs.toArray ∧ Each h [fun h v => RdM m 3 Ro h v s.L, fun h v => RdM m 1 Cj h v s.ends, fun h v => RdM m 1 Cj h v s.done] vs
theorem GotR.movable {m : Nat} (s : RS) : Movable m (GotR m s) 2 :=
 Movable.aggs (k := 1) (fun R hR => by
  simp only [List.mem_cons, List.not_mem_nil, or_false] at hR
  rcases hR with rfl | rfl | rfl
  ·exact RdM.movable At7 _
  ·exact RdM.movable Xa _
  ·exact RdM.movable Xa _) (by simp)
theorem Akq (hE : Ap E) {h : Aa} {vl vj : Value} {l : List Af} {jobs : List Job} (hl : Rd 7 Az h vl l) (hj : RdJ h vj jobs) (hok : Ke l jobs) (hsum : B9 jobs ≤ 1099511627776) (e : Int) :
  ∃ v ys, callW E (.func (.func Ft) #[] #[]) [vl, vj, .int .i64 e] h = some (v, h ++ ys, []) ∧ GotR h.length (Bb l jobs e (Dp jobs.length)) (h ++ ys) v := by
 refine Ja hE.Afq rfl (GotR.movable _) (by simp) ?_
 obtain ⟨d, rfl, c, hc⟩ := hj.is
 have few := c.few
 have s : (d.length : Int) ≤ 1099511627776 := by
  have h1 : Df (fun _ => 1) (d.map (·.j)).length ≤ B9 (d.map (·.j)) := Ox fun i hi => (hok.work _ (Aj (by omega) (by omega))).1
  rw [Yr, List.length_map] at h1; omega
 have y : ((d.length : Int)).toNat = d.length := by omega
 have f := Jx (d.map (·.j)) hok.work
 simp only [Ah]
 (repeat' simp -dsimp (disch := omega) only [↓EA, EB, Nat.reduceEqDiff, Nat.reduceAdd, Nat.reduceLeDiff, ↓reduceIte, reduceCtorEq, Ab, eq_self, *, c.len])
 refine Aqu hE (c.app _) (b := h.length + 1) (bg := h.length + 3) (by omega) (fun n => by have := c.lt' n; omega) (by omega) rfl (by rw [Og]; rfl) (by rw [Og]; rfl) rfl rfl rfl rfl rfl rfl rfl fun z g0 g1 g2 g6 g7 g8 => ?_
 (repeat' simp -dsimp (disch := omega) only [↓EA, EB, Nat.reduceEqDiff, ↓reduceIte, reduceCtorEq, eq_self, *])
 refine Aqt hE hl c hc hok hsum e f (vL0 := .slice none 0 0) ⟨Pre.app _ _, by simp, by rw [Bk]; rfl, ?_, ?_, by rw [Og]; rfl, OwnT.nil⟩ rfl rfl rfl rfl rfl ?_ rfl rfl fun x h' vL q6 q7 a => ?_
 ·rw [Og]; simp [Dp]
 ·rw [Og]; simp [Dp]
 ·simp [Dp, get]
 ·have t := a.res
  have u := a.got
  have a0 := a.L.rd.one
  have r := a.len
  (repeat' simp -dsimp (disch := omega) only [↓EA, EB, Nat.reduceEqDiff, Nat.reduceAdd, ↓reduceIte, eq_self, *])
  have m := a.pre.set (Nat.le_refl h.length) (.cells [vL, .slice (some ⟨h.length + 1, 0, none⟩) d.length d.length, .slice (some ⟨h.length + 2, 0, none⟩) d.length d.length] false)
  have g := (Ow (e := e) hok (fun _ => True) (fun _ _ _ _ => trivial) f trivial).1
  have o := g.elen
  have p := g.dlen
  simp only [List.length_map] at o p a ⊢
  refine ⟨m.ex, _, rfl, .cons ?_ (.cons ?_ (.cons ?_ .nil))⟩
  ·exact ⟨(a.L.keep fun n => Aq (by have := a.L.ge n; omega)).rd, fun n => by have := a.L.ge (a.L.ne n); omega⟩
  ·exact ⟨Ads (by rw [Aq (by omega)]; exact a.ends) o.symm (by rw [o]; exact few) (by rw [o]; exact Nat.le_refl _), fun _ => Nat.le_add_right _ _⟩
  ·exact ⟨Ads (by rw [Aq (by omega)]; exact a.done) p.symm (by rw [p]; exact few) (by rw [p]; exact Nat.le_refl _), fun _ => Nat.le_add_right _ _⟩
end Go.L.Try
namespace Go.L.Try
open Go Go.L
variable {E : Env}
theorem Afe (hE : Ap E) {h : Aa} {va vb : Value} {a b : List Int} (ha : Rd 1 Cj h va a) (hb : Rd 1 Cj h vb b) :
  callW E (.func (.func D5) #[] #[]) [va, vb] h = some (.bool (decide (a = b)), h, []) := by
 refine Ai hE.Xn rfl (by simp) ?_
 have few := ha.few
 have d := hb.few
 simp only [Ah]
 (repeat' (first | (with_reducible refine A3 (fun _ => ?_) (fun _ => ?_) <;> try (exfalso; omega)) | simp -dsimp (disch := omega) only [↓EA, EB, Nat.reduceEqDiff, ↓reduceIte, reduceCtorEq, eq_self, *, ha.len, hb.len]))
 ·have : a ≠ b := fun e => by subst e; simp_all
  simp [this]
 ·have f : a.length ≤ b.length := by omega
  have g : b.length ≤ a.length := by omega
  refine WO.loop (fun n fr h' => h' = h ∧ n ≤ a.length ∧ get fr 0 = va ∧ get fr 1 = vb ∧ get fr 5 = .int .i64 n ∧ a.take n = b.take n) (fun n => a.length - n) ?_ 0 ⟨rfl, Nat.zero_le _, rfl, rfl, rfl, rfl⟩
  rintro n fr h' ⟨rfl, l, j, m, o, c⟩
  have Ht := Hid.mk c
  clear c
  unfold Kp
  rcases Nat.lt_or_ge n a.length with hlt | hge
  ·(repeat' (first | (with_reducible refine A3 (fun _ => ?_) (fun _ => ?_) <;> try (exfalso; omega)) | simp -dsimp (disch := omega) only [↓EA, EB, Nat.reduceEqDiff, ↓reduceIte, reduceCtorEq, eq_self, *, ha.len, ha.ixs, ha.ld0, hb.ixs, hb.ld0, Cj]))
   ·have : a ≠ b := fun e => by subst e; simp_all
    simp [this]
   ·refine Next.mk (n + 1) ⟨rfl, by omega, rfl, rfl, rfl, ?_⟩ (by omega)
    rw [take_snoc hlt, take_snoc (by omega), Ht.out]
    simp_all
  ·have : a = b := by
    have := Ht.out
    rwa [List.take_of_length_le (by omega), List.take_of_length_le (by omega)] at this
   (repeat' (first | (with_reducible refine A3 (fun _ => ?_) (fun _ => ?_) <;> try (exfalso; omega)) | simp -dsimp (disch := omega) only [↓EA, EB, Nat.reduceEqDiff, ↓reduceIte, reduceCtorEq, eq_self, *, ha.len]))
end Go.L.Try
namespace Go.L.Try
open Go Go.L
variable {E : Env}
def Aih (l : List Int) : Prop := ∀ e ∈ l, -1152921504606846976 ≤ e ∧ e ≤ 1152921504606846976
def Ua (l : List Job) : Prop := ∀ j ∈ l, -1152921504606846976 ≤ j.arrive ∧ j.arrive ≤ 1152921504606846976
def respP (jobs : List Job) (ends : List Int) (i : Int) : Int × Bool :=
 if 0 ≤ i ∧ i < jobs.length ∧ i < ends.length ∧ 0 ≤ atI ends i then (atI ends i - (atI jobs i).arrive, true) else (0, false)
theorem Arn (hE : Ap E) {h : Aa} {vj ve : Value} {lv : List (NV Job)} {ends : List Int} (hj : Rd 5 (Ci hdJ) h vj lv) (he : Rd 1 Cj h ve ends) (hs : Aih ends) (hsj : Ua (lv.map (·.j))) (i : Int) :
  callW E (.func (.func Er) #[] #[]) [vj, ve, .int .i64 i] h = some (.tuple #[.int .i64 (respP (lv.map (·.j)) ends i).1, .bool (respP (lv.map (·.j)) ends i).2], h, []) := by
 refine Ai hE.Yi rfl (by simp) ?_
 have few := hj.few
 have f := he.few
 simp only [Ah]
 by_cases a : 0 ≤ i ∧ i < lv.length ∧ i < ends.length
 ·have g := hs _ (Aj (l := ends) a.1 a.2.2)
  have h2 := hsj _ (List.mem_map_of_mem (Aj (l := lv) a.1 a.2.1))
  have d : atI (lv.map (·.j)) i = (atI lv i).j := (Eb (fun p : NV Job => p.j) lv i a.1 a.2.1).symm
  have c : respP (lv.map (·.j)) ends i = if 0 ≤ atI ends i then (atI ends i - (atI lv i).j.arrive, true) else (0, false) := by
   unfold respP; rw [d, List.length_map]; simp [a]
  by_cases e : 0 ≤ atI ends i
  ·rw [c, if_pos e]
   clear c d hs hsj
   (repeat' (first | (with_reducible refine A2 (fun _ => ?_) (fun _ => ?_) <;> try (exfalso; omega)) | (with_reducible refine A3 (fun _ => ?_) (fun _ => ?_) <;> try (exfalso; omega)) | simp -dsimp (disch := omega) only [↓EA, EB, Nat.reduceEqDiff, Nat.reduceAdd, ↓reduceIte, reduceCtorEq, eq_self, *, hj.len, hj.ixs, hj.ld, he.len, he.ixs, he.ld0, Ci, hdJ, Cj]))
  ·rw [c, if_neg e]
   clear c d hs hsj
   (repeat' (first | (with_reducible refine A2 (fun _ => ?_) (fun _ => ?_) <;> try (exfalso; omega)) | (with_reducible refine A3 (fun _ => ?_) (fun _ => ?_) <;> try (exfalso; omega)) | simp -dsimp (disch := omega) only [↓EA, EB, Nat.reduceEqDiff, Nat.reduceAdd, ↓reduceIte, reduceCtorEq, eq_self, *, hj.len, he.len, he.ixs, he.ld0, Cj]))
 ·have c : respP (lv.map (·.j)) ends i = (0, false) := by
   unfold respP; rw [if_neg]; rw [List.length_map]; intro h; exact a ⟨h.1, h.2.1, h.2.2.1⟩
  rw [c]
  (repeat' (first | (with_reducible refine A2 (fun _ => ?_) (fun _ => ?_) <;> try (exfalso; omega)) | simp -dsimp (disch := omega) only [↓EA, EB, Nat.reduceEqDiff, Nat.reduceAdd, ↓reduceIte, reduceCtorEq, eq_self, *, hj.len, he.len]))
theorem Aja (hE : Ap E) {h : Aa} {vj ve : Value} {lv : List (NV Job)} {ends : List Int} (hj : Rd 5 (Ci hdJ) h vj lv) (he : Rd 1 Cj h ve ends) (hs : Aih ends) (hsj : Ua (lv.map (·.j))) (i : Int) :
  callW E (.func (.func Es) #[] #[]) [vj, ve, .int .i64 i] h = some (.agg #[.int .i64 (respP (lv.map (·.j)) ends i).1, .int .i64 0, .bool (respP (lv.map (·.j)) ends i).2], h, []) := by
 refine Ai hE.Y7 rfl (by simp) ?_
 have few := hj.few
 have f := he.few
 simp only [Ah]
 by_cases a : 0 ≤ i ∧ i < lv.length ∧ i < ends.length
 ·have g := hs _ (Aj (l := ends) a.1 a.2.2)
  have h2 := hsj _ (List.mem_map_of_mem (Aj (l := lv) a.1 a.2.1))
  have d : atI (lv.map (·.j)) i = (atI lv i).j := (Eb (fun p : NV Job => p.j) lv i a.1 a.2.1).symm
  have c : respP (lv.map (·.j)) ends i = if 0 ≤ atI ends i then (atI ends i - (atI lv i).j.arrive, true) else (0, false) := by
   unfold respP; rw [d, List.length_map]; simp [a]
  by_cases e : 0 ≤ atI ends i
  ·rw [c, if_pos e]
   clear c d hs hsj
   (repeat' (first | (with_reducible refine A2 (fun _ => ?_) (fun _ => ?_) <;> try (exfalso; omega)) | (with_reducible refine A3 (fun _ => ?_) (fun _ => ?_) <;> try (exfalso; omega)) | simp -dsimp (disch := omega) only [↓EA, EB, Nat.reduceEqDiff, Nat.reduceAdd, Nat.reduceLeDiff, ↓reduceIte, reduceCtorEq, Ab, eq_self, *, hj.len, hj.ixs, hj.ldx, he.len, he.ixs, he.ldx0, Ci, hdJ, Cj]))
  ·rw [c, if_neg e]
   clear c d hs hsj
   (repeat' (first | (with_reducible refine A2 (fun _ => ?_) (fun _ => ?_) <;> try (exfalso; omega)) | (with_reducible refine A3 (fun _ => ?_) (fun _ => ?_) <;> try (exfalso; omega)) | simp -dsimp (disch := omega) only [↓EA, EB, Nat.reduceEqDiff, Nat.reduceAdd, ↓reduceIte, reduceCtorEq, Ab, eq_self, *, hj.len, he.len, he.ixs, he.ldx0, Cj]))
 ·have c : respP (lv.map (·.j)) ends i = (0, false) := by
   unfold respP; rw [if_neg]; rw [List.length_map]; intro h; exact a ⟨h.1, h.2.1, h.2.2.1⟩
  rw [c]
  (repeat' (first | (with_reducible refine A2 (fun _ => ?_) (fun _ => ?_) <;> try (exfalso; omega)) | simp -dsimp (disch := omega) only [↓EA, EB, Nat.reduceEqDiff, Nat.reduceAdd, ↓reduceIte, reduceCtorEq, Ab, eq_self, *, hj.len, he.len]))
def worstN (jobs : List Job) (ends : List Int) (task : Int) : Nat → Int × Int × Bool
 | 0 => (0, 0, false)
 | n + 1 => if (respP jobs ends n).2 = true ∧ (atI jobs (n : Int)).task = task ∧ ((worstN jobs ends task n).2.2 = false ∨ (worstN jobs ends task n).1 < (respP jobs ends n).1) then ((respP jobs ends n).1, n, true) else worstN jobs ends task n
theorem A0l (hE : Ap E) {h : Aa} {vj ve : Value} {lv : List (NV Job)} {ends : List Int} (hj : Rd 5 (Ci hdJ) h vj lv) (hc : ∀ p ∈ lv, Ae p.v = true) (he : Rd 1 Cj h ve ends) (hs : Aih ends) (hsj : Ua (lv.map (·.j))) (task : Int) :
  callW E (.func (.func Fp) #[] #[]) [vj, ve, .int .i64 task] h = some (.tuple #[.int .i64 (worstN (lv.map (·.j)) ends task lv.length).1, .int .i64 (worstN (lv.map (·.j)) ends task lv.length).2.1, .bool (worstN (lv.map (·.j)) ends task lv.length).2.2], h, []) := by
 refine Ai hE.Aeu rfl (by simp) ?_
 have few := hj.few
 simp only [Ah]
 (repeat' simp -dsimp (disch := omega) only [↓EA, EB, Nat.reduceEqDiff, Nat.reduceAdd, ↓reduceIte, reduceCtorEq, eq_self, *, hj.len])
 refine WO.loop (fun n fr h' => Pre h h' ∧ n ≤ lv.length ∧ get fr 0 = vj ∧ get fr 1 = ve ∧ get fr 2 = .int .i64 task ∧ get fr 16 = vj ∧ get fr 17 = .int .i64 lv.length ∧ get fr 18 = .int .i64 n ∧ get fr 9 = .int .i64 (worstN (lv.map (·.j)) ends task n).1 ∧ get fr 10 = .int .i64 (worstN (lv.map (·.j)) ends task n).2.1 ∧ get fr 11 = .bool (worstN (lv.map (·.j)) ends task n).2.2) (fun n => lv.length - n) ?_ 0 ⟨Pre.refl _, Nat.zero_le _, rfl, rfl, rfl, rfl, rfl, rfl, rfl, rfl, rfl⟩
 rintro n fr h' ⟨c, hn, g0, g1, g2, u, o, m, z, s, t⟩
 unfold Oj
 rcases Nat.lt_or_ge n lv.length with hlt | hge
 ·have a := hj.pre c
  have d := fun x => Arn hE (a.app x) ((he.pre c).app x) hs hsj n
  have g : atI (lv.map (·.j)) (n : Int) = (atI lv n).j := (Eb (fun p : NV Job => p.j) lv n (by omega) (by omega)).symm
  have e := hc _ (Aj (l := lv) (i := n) (by omega) (by omega))
  have f : worstN (lv.map (·.j)) ends task (n + 1) = if (respP (lv.map (·.j)) ends n).2 = true ∧ (atI lv n).j.task = task ∧ ((worstN (lv.map (·.j)) ends task n).2.2 = false ∨ (worstN (lv.map (·.j)) ends task n).1 < (respP (lv.map (·.j)) ends n).1) then ((respP (lv.map (·.j)) ends n).1, (n : Int), true) else worstN (lv.map (·.j)) ends task n := by
   rw [← g]; rfl
  generalize respP (lv.map (·.j)) ends n = r at *
  have Hw := Hid.mk f
  generalize worstN (lv.map (·.j)) ends task n = p at *
  clear f hs hsj hc g
  obtain ⟨r1, r2⟩ := r
  obtain ⟨p1, y, p3⟩ := p
  (repeat' (first | (with_reducible refine A1 (fun _ => ?_) (fun _ => ?_) <;> try (exfalso; omega)) | (with_reducible refine A3 (fun _ => ?_) (fun _ => ?_) <;> try (exfalso; omega)) | refine A5 (fun _ => ?_) (fun _ => ?_) | refine A6 (fun _ => ?_) (fun _ => ?_) | simp -dsimp (disch := omega) only [↓EA, EB, Nat.reduceEqDiff, Nat.reduceAdd, ↓reduceIte, reduceCtorEq, Ab, eq_self, *, a.ixs, a.lda, Ci, hdJ, c.le]))
  all_goals refine Next.mk (n + 1) ⟨c.app' _, by omega, rfl, rfl, rfl, rfl, rfl, rfl, ?_, ?_, ?_⟩ (by omega)
  all_goals (rw [Hw.out]; split <;> simp_all [get] <;> omega)
 ·have : n = lv.length := by omega
  subst this
  (repeat' (first | (with_reducible refine A3 (fun _ => ?_) (fun _ => ?_) <;> try (exfalso; omega)) | simp -dsimp (disch := omega) only [↓EA, EB, Nat.reduceEqDiff, ↓reduceIte, reduceCtorEq, eq_self, *]))
theorem Avi (hE : Ap E) {h : Aa} {vj ve : Value} {lv : List (NV Job)} {ends : List Int} (hj : Rd 5 (Ci hdJ) h vj lv) (he : Rd 1 Cj h ve ends) (hs : Aih ends) (hsj : Ua (lv.map (·.j))) (task : Int) :
  callW E (.func (.func Fs) #[] #[]) [vj, ve, .int .i64 task] h = some (.agg #[.int .i64 (worstN (lv.map (·.j)) ends task lv.length).1, .int .i64 (worstN (lv.map (·.j)) ends task lv.length).2.1, .bool (worstN (lv.map (·.j)) ends task lv.length).2.2], h, []) := by
 refine Ai hE.Afp rfl (by simp) ?_
 have few := hj.few
 simp only [Ah]
 (repeat' simp -dsimp (disch := omega) only [↓EA, EB, Nat.reduceEqDiff, Nat.reduceAdd, ↓reduceIte, reduceCtorEq, Ab, eq_self, *])
 refine WO.loop (fun n fr h' => Pre h h' ∧ h.length + 2 ≤ h'.length ∧ n ≤ lv.length ∧ get fr 0 = vj ∧ get fr 1 = ve ∧ get fr 2 = .int .i64 task ∧ get fr 6 = .pointer (some ⟨h.length, 0, none⟩) ∧ get fr 7 = .pointer (some ⟨h.length + 1, 0, none⟩) ∧ get fr 8 = .int .i64 n ∧ h'[h.length]? = some (.cells [.int .i64 0, .int .i64 0, .bool false] false) ∧ h'[h.length + 1]? = some (.cells [.int .i64 (worstN (lv.map (·.j)) ends task n).1, .int .i64 (worstN (lv.map (·.j)) ends task n).2.1, .bool (worstN (lv.map (·.j)) ends task n).2.2] false)) (fun n => lv.length - n) ?_ 0 ⟨Pre.app _ _, by simp, Nat.zero_le _, rfl, rfl, rfl, rfl, rfl, rfl, by rw [Bk]; rfl, by rw [Og]; rfl⟩
 rintro n fr h' ⟨e, o, x, g0, g1, g2, y, z, g8, c, m⟩
 unfold Ol
 rcases Nat.lt_or_ge n lv.length with hlt | hge
 ·have a := hj.pre e
  have g := Aja hE a (he.pre e) hs hsj n
  have t : atI (lv.map (·.j)) (n : Int) = (atI lv n).j := (Eb (fun p : NV Job => p.j) lv n (by omega) (by omega)).symm
  have s : worstN (lv.map (·.j)) ends task (n + 1) = if (respP (lv.map (·.j)) ends n).2 = true ∧ (atI lv n).j.task = task ∧ ((worstN (lv.map (·.j)) ends task n).2.2 = false ∨ (worstN (lv.map (·.j)) ends task n).1 < (respP (lv.map (·.j)) ends n).1) then ((respP (lv.map (·.j)) ends n).1, (n : Int), true) else worstN (lv.map (·.j)) ends task n := by
   rw [← t]; rfl
  generalize respP (lv.map (·.j)) ends n = r at *
  have Hw := Hid.mk s
  generalize worstN (lv.map (·.j)) ends task n = p at *
  clear s hs hsj t
  obtain ⟨r1, v⟩ := r
  obtain ⟨p1, u, p3⟩ := p
  have d : ∀ l : Aa, (h' ++ l)[h.length]? = h'[h.length]? := fun l => GL (by omega)
  have f : ∀ l : Aa, (h' ++ l)[h.length + 1]? = h'[h.length + 1]? := fun l => GL (by omega)
  (repeat' (first | (with_reducible refine A1 (fun _ => ?_) (fun _ => ?_) <;> try (exfalso; omega)) | (with_reducible refine A3 (fun _ => ?_) (fun _ => ?_) <;> try (exfalso; omega)) | refine A5 (fun _ => ?_) (fun _ => ?_) | refine A6 (fun _ => ?_) (fun _ => ?_) | simp -dsimp (disch := omega) only [↓EA, EB, Nat.reduceEqDiff, Nat.reduceAdd, Nat.reduceLeDiff, ↓reduceIte, reduceCtorEq, Ab, eq_self, *, a.len, a.ixs, a.ldx0, Ci, hdJ, e.le]))
  all_goals refine Next.mk (n + 1) ⟨?_, by simp only [List.length_set, LA]; omega, by omega, rfl, rfl, rfl, rfl, rfl, rfl, ?_, ?_⟩ (by omega)
  all_goals first
   | exact e.app' _
   | exact (e.app' _).set (by omega) _
   | (rw [d]; exact c)
   | (rw [Aq (by omega), d]; exact c)
   | (rw [f, m, Hw.out]; split <;> simp_all <;> omega)
   | (rw [Bx (by simp; omega), Hw.out]; split <;> simp_all <;> omega)
 ·have : n = lv.length := by omega
  subst this
  (repeat' (first | (with_reducible refine A3 (fun _ => ?_) (fun _ => ?_) <;> try (exfalso; omega)) | simp -dsimp (disch := omega) only [↓EA, EB, Nat.reduceEqDiff, Nat.reduceAdd, ↓reduceIte, reduceCtorEq, eq_self, *, hj.len]))
def Ax5 (l : List Af) (jobs : List Job) (ends : List Int) (i : Int) : Prop := 0 ≤ (atI jobs i).task ∧ (atI jobs i).task < l.length ∧ ((respP jobs ends i).2 = false ∨ (atI l (atI jobs i).task).D < (respP jobs ends i).1)
instance (l : List Af) (jobs : List Job) (ends : List Int) (i : Int) : Decidable (Ax5 l jobs ends i) := by unfold Ax5; infer_instance
end Go.L.Try
