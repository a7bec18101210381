/- THE EXECUTIVE's STEPS: exec.executive.work. -/
import Derived.Test.YtlmadipiopnfeaaDoorPh
import Derived.Test.YtlmadipiopnfeaaDoorPf
import Derived.Test.YtlmadipiopnfeaaDoorPg
import Derived.Test.YtlmadipiopnfeaaDoorPc
set_option linter.unusedVariables false
set_option linter.unusedSimpArgs false
set_option maxRecDepth 100000
set_option maxHeartbeats 2000000
namespace Go.L.Try
open Go Go.L
variable {E : Env}
variable {h0 h h' : Aa} {lv : Value} {P : Int → Int} {n : Nat} {l : List Ab} {jobs : List Job} {g : Gh} {s : XS} {r : RS}
theorem XInv.spans0 (k : XInv h0 lv P jobs g h s) {tag' : Nat → Nat} (f : Foot g.tag tag' 3 h h') {L : List Span} (hS : CS tag' h0 h' g.vs L) : XInv h0 lv P jobs { g with tag := tag' } h' { s with spans := L } where
 B := k.B.fr f (by decide)
 H := k.H.fr f (by decide)
 M := k.M.fr f (by decide)
 Q := fun t l h => ⟨(k.Q t l h).1, (k.Q t l h).2.fr f (by omega)⟩
 W := fun t i h => (k.W t i h).fr f (by omega)
 S := hS
 E := k.E.fr f (by decide)
 X := k.X.fr f (by decide)
 jr := k.jr
 cr := k.cr
theorem Au3 (hE : Ay E) (c : Ctx E h0 lv P n l jobs) (k : XInv h0 lv P jobs g h s) (sim : SimC jobs s r) {i : Nat} (hr : s.running = some i) {N : Int} (hN : 0 < N) (hNl : N ≤ s.left i) (hnow : 0 ≤ s.now ∧ s.now + N < 4611686018427387904) (hlf : s.left i ≤ 2147483647) (hsc : 0 ≤ s.sec i ∧ s.sec i ≤ 2147483647) (hsp : (s.spans.length : Int) ≤ 1099511627776) (hel : s.ends.length = jobs.length) {W : Nat → Prop} (hW : ∀ b, h0.length ≤ b → W b) :
  WX W (callW E (.func (.func Ap) #[Aq g.x] #[]) [.int .i64 N] h) (fun _ h' => ∃ g', XInv h0 lv P jobs g' h' (Pe jobs s i N) ∧ g'.x = g.x) := by
 refine E8 hE.Ti rfl (by simp) ?_
 simp only [List.nil_append, List.cons_append, Ak]
 obtain ⟨bn, c0, ah⟩ := Fv sim hr
 have a1 : Dz g s = Aq (g.w i) := by unfold Dz; rw [hr]
 have K := Hid.mk k
 have Sim := Hid.mk sim
 have Hr := Hid.mk hr
 have bg := Hid.mk a1
 have bl := Hid.mk hel
 obtain ⟨vc, w1, w2, w3⟩ := k.W _ i ah
 have hx : h[g.x]? = some (.cells [g.vj, g.vc, Aq g.hb, .map (some g.mb), .int .i64 s.now, g.vs, g.ve, Dz g s] false) := k.X.is
 have rs := k.S.own.rd
 rw [a1] at hx
 have a3 := (GI.1 hx).1
 have av := hW g.x (k.B.ge (by rw [k.X.tag]; decide))
 have aw := hW (g.w i) (k.B.ge (by rw [w3]; omega))
 have W3 := Hid.mk w3
 clear k sim hr a1 w3 hel
 refine WO.cut (fun fr h' => h' = h ∧ get fr 0 = Aq g.x ∧ get fr 1 = .int .i64 N ∧ get fr 4 = Aq (g.w i)) ?_ ?_
 ·(repeat' simp -dsimp (disch := omega) only [↓EA, EB, Nat.reduceEqDiff, ↓reduceIte, reduceCtorEq, eq_self, *])
 rintro fr h1 ⟨rfl, g0, g1, g4⟩
 refine WO.cut (fun fr h' => h' = h1 ∧ get fr 0 = Aq g.x ∧ get fr 1 = .int .i64 N ∧ get fr 4 = Aq (g.w i) ∧ get fr 5 = .int .i64 ((s.spans.length : Int) - 1)) ?_ ?_
 ·(repeat' simp -dsimp (disch := omega) only [↓EA, EB, Nat.reduceEqDiff, ↓reduceIte, reduceCtorEq, eq_self, *, rs.len])
 clear g0 g1 g4
 rintro fr h1 ⟨rfl, g0, g1, g4, g5⟩
 refine WO.cut (fun fr h' => (∃ g', XInv h0 lv P jobs g' h' { s with spans := Dm s.spans i s.now N } ∧ g'.x = g.x ∧ g'.w = g.w ∧ g'.tag (g.w i) = 7 + 2 * i) ∧ get fr 0 = Aq g.x ∧ get fr 1 = .int .i64 N ∧ get fr 4 = Aq (g.w i)) ?_ ?_
 ·have af : ∀ X : Prop, WL h1.length g.vs X = X := fun X => by
   have ho := K.out.S.own
   generalize g.vs = v at ho
   unfold OwnT at ho
   generalize s.spans.map Aic = LL at ho
   cases ho with
   | nil => simp [WL, low]
   | some hm hb _ _ _ => have := (GI.1 hb).1; simp [WL, low, this]
  have HV := Hid.mk af
  clear af
  (repeat' (first | (with_reducible refine A1 (fun _ => ?_) (fun _ => ?_) <;> try (exfalso; omega)) | (with_reducible refine A3 (fun _ => ?_) (fun _ => ?_) <;> try (exfalso; omega)) | simp -dsimp (disch := omega) only [↓EA, EB, Nat.reduceEqDiff, ↓reduceIte, reduceCtorEq, eq_self, *, rs.ixs, rs.ld, rs.ld0, Aic]))
  ·have a8 : (0 : Int) < s.spans.length := by omega
   have a4 : s.spans ≠ [] := fun e => by rw [e] at a8; exact absurd a8 (by decide)
   have e : Dm s.spans i s.now N = s.spans.set ((s.spans.length : Int) - 1).toNat { atI s.spans ((s.spans.length : Int) - 1) with to' := (atI s.spans ((s.spans.length : Int) - 1)).to' + N } := if_pos ⟨a8, by assumption, by assumption⟩
   have bh : (atI s.spans ((s.spans.length : Int) - 1)).to' = s.now := by assumption
   have He := Hid.mk e
   clear e
   refine Ady K.out.S.own hW (fo := 2) { atI s.spans ((s.spans.length : Int) - 1) with to' := (atI s.spans ((s.spans.length : Int) - 1)).to' + N } (by omega) (by omega) (by decide) rfl (by rw [bh]; rfl) fun h' o' c1 ba => ?_
   have f : Foot g.tag g.tag 3 h1 h' := ⟨by omega, fun b hb hn => ba b fun e => hn (by rw [e]; exact K.out.S.tag a4), fun _ _ => rfl⟩
   have z := K.out.spans0 f (L := s.spans.set ((s.spans.length : Int) - 1).toNat { atI s.spans ((s.spans.length : Int) - 1) with to' := (atI s.spans ((s.spans.length : Int) - 1)).to' + N }) ⟨o', fun _ => K.out.S.tag a4⟩
   rw [← He.out] at z
   have K2 := Hid.mk z
   clear z
   (repeat' simp -dsimp (disch := omega) only [↓EA, EB, Nat.reduceEqDiff, ↓reduceIte, reduceCtorEq, eq_self, *])
   exact ⟨_, K2.out, rfl, rfl, W3.out⟩
  all_goals
   have e : Dm s.spans i s.now N = s.spans ++ [⟨i, s.now, s.now + N⟩] := if_neg (by
    rintro ⟨a, b, c⟩
    first
     | exact absurd b (by assumption)
     | exact absurd c (by assumption)
     | omega)
   rw [e]
   have af := HV.out
   have b8 : ∀ y, (h1 ++ y)[g.x]? = some (.cells [g.vj, g.vc, Aq g.hb, .map (some g.mb), .int .i64 s.now, g.vs, g.ve, Aq (g.w i)] false) := fun y => by rw [GL a3]; exact hx
   have bd : ∀ y, (h1 ++ y)[g.w i]? = some (.cells [.int .i64 i, .int .i64 (jb jobs i).task, .int .i64 (s.left i), .int .i64 (s.sec i), vc] false) := fun y => by rw [GL (GI.1 w1).1]; exact w1
   clear e
   (repeat' simp -dsimp (disch := omega) only [↓EA, EB, Nat.reduceEqDiff, Nat.reduceAdd, Nat.reduceLeDiff, Nat.reduceMul, ↓reduceIte, reduceCtorEq, Ac, Sk, eq_self, *, Awg])
   have aj : s.spans ≠ [] → g.x ≠ blk g.vs := fun hn e => by
    have h1 := K.out.S.tag hn
    rw [← e] at h1
    have := K.out.X.tag
    omega
   refine Adv (K.out.S.own.app _) (K.out.B.pre.app' _) (Nat.le_refl _) (by have := K.out.B.pre.le; rw [LA]; omega) (fun hn => hW _ (K.out.S.own.ge hn)) (⟨i, s.now, s.now + N⟩ : Span) (by rw [Ca, Bm]; rfl) rfl (by decide) (by decide) (by omega) fun v' h2 o2 p2 b7 bc ae => ?_
   rw [LA, List.length_singleton] at b7 bc ae
   have f : Foot g.tag (J0 g.tag h1.length 3) 3 h1 h2 := ⟨by omega, fun b hb hn => by
    rw [ae b (by omega) (fun bi e => hn (by rw [e]; exact K.out.S.tag bi)), GL hb], fun b hb => if_pos hb⟩
   have z := K.out.spans f (vs := v') (L := s.spans ++ [⟨i, s.now, s.now + N⟩]) ⟨o2, fun _ => by rw [b7]; unfold J0; rw [if_neg (by omega)]⟩
   have bk : h2[g.x]? = some (.cells [g.vj, g.vc, Aq g.hb, .map (some g.mb), .int .i64 s.now, g.vs, g.ve, Aq (g.w i)] false) := by
    rw [ae g.x (by omega) aj, GL a3]; exact hx
   have ov := o2.rd.one
   have cv := o2.rd.cv
   have bo := (GI.1 bk).1
   have KF : Hid (XInv h0 lv P jobs { g with vs := v', tag := J0 g.tag h1.length 3 } (h2.set g.x (LObj.cells [g.vj, g.vc, Aq g.hb, .map (some g.mb), .int .i64 s.now, v', g.ve, Aq (g.w i)] false)) { s with spans := s.spans ++ [⟨i, s.now, s.now + N⟩] }) := ⟨by
    have e5 : K0 { g with vs := v' } { s with spans := s.spans ++ [⟨i, s.now, s.now + N⟩] } = [g.vj, g.vc, Aq g.hb, .map (some g.mb), .int .i64 s.now, v', g.ve, Dz g s] := rfl
    rw [bg.out] at e5
    rw [← e5]; exact z⟩
   clear z f o2 ae b8 bd aj af
   (repeat' simp -dsimp (disch := omega) only [↓EA, EB, Nat.reduceEqDiff, Nat.reduceAdd, Nat.reduceLeDiff, ↓reduceIte, reduceCtorEq, eq_self, *])
   exact ⟨_, KF.out, rfl, rfl, by
    show J0 g.tag h1.length 3 (g.w i) = _
    rw [Y1 (GI.1 w1).1]; exact W3.out⟩
 clear hx rs a3 av aw w1 g0 g1 g4 g5
 rintro fr h2 ⟨⟨d, z, a5, ai, as⟩, g0, g1, g4⟩
 rw [← a5] at g0 ⊢
 rw [← ai] at g4 as
 obtain ⟨m, hq⟩ := Sim.out.run i Hr.out
 have b4 : s.Q (jb jobs i).task = some (i :: m) := by rw [← hq]; exact Aj7 ah
 obtain ⟨vc, w1, w2, w3⟩ := z.W _ i ah
 have hx : h2[d.x]? = some (.cells [d.vj, d.vc, Aq d.hb, .map (some d.mb), .int .i64 s.now, d.vs, d.ve, Dz d s] false) := z.X.is
 have a1 : Dz d s = Aq (d.w i) := by unfold Dz; rw [Hr.out]
 rw [a1] at hx
 dsimp only at w1 w2 w3
 have a3 := (GI.1 hx).1
 have av := hW d.x (z.B.ge (by rw [z.X.tag]; decide))
 have aw := hW (d.w i) (z.B.ge (by rw [w3]; omega))
 have a4 : d.w i ≠ d.x := by
  intro e
  rw [e] at w3
  have := z.X.tag
  omega
 have k3 := z.setX (vc := d.vc) (now := s.now + N) (running := s.running) (coming := s.coming) z.cr
 obtain ⟨h3, ab⟩ : ∃ h3 : Aa, h3 = List.set h2 d.x (LObj.cells [d.vj, d.vc, Aq d.hb, .map (some d.mb), .int .i64 (s.now + N), d.vs, d.ve, Aq (d.w i)] false) := ⟨_, rfl⟩
 have K3 : Hid (XInv h0 lv P jobs d h3 { s with spans := Dm s.spans i s.now N, now := s.now + N }) := ⟨by
  rw [ab, ← a1]; exact k3⟩
 have a6 : h3[d.x]? = some (LObj.cells [d.vj, d.vc, Aq d.hb, .map (some d.mb), .int .i64 (s.now + N), d.vs, d.ve, Aq (d.w i)] false) := by rw [ab]; exact Cb a3
 have a7 : h3[d.w i]? = some (.cells [.int .i64 i, .int .i64 (jb jobs i).task, .int .i64 (s.left i), .int .i64 (s.sec i), vc] false) := by rw [ab, Bd (Ne.symm a4)]; exact w1
 have bj := Hid.mk ab.symm
 have H3 := Hid.mk (AI a6 a7)
 have bq := Hid.mk a5
 have b5 := Hid.mk a4
 have W2 := Hid.mk w2
 have bu := w2.one
 have bz := w2.cv
 have aq := Hid.mk b4
 have Hq := Hid.mk hq
 clear ab a6 a7 a5 ai a4 z k3 a1 w2 b4 hq
 (repeat' simp -dsimp (disch := omega) only [↓EA, EB, Nat.reduceEqDiff, Nat.reduceAdd, Nat.reduceLeDiff, ↓reduceIte, reduceCtorEq, eq_self, *])
 rw [bj.out]
 clear hx a3 w1
 obtain ⟨a6, a7⟩ := H3.out
 have ar := (GI.1 a7).1
 have k4 := K3.out.setW (t := (jb jobs i).task) (i := i) ah (left := s.left i - N) (sec := max (s.sec i - N) 0) (cuts := s.cuts i) W2.out
 have K4 : Hid (XInv h0 lv P jobs d (h3.set (d.w i) (LObj.cells [.int .i64 i, .int .i64 (jb jobs i).task, .int .i64 (s.left i - N), .int .i64 (max (s.sec i - N) 0), vc] false)) { s with spans := Dm s.spans i s.now N, now := s.now + N, left := at1 s.left i (s.left i - N), sec := at1 s.sec i (max (s.sec i - N) 0) }) := ⟨by
  have e : at1 s.cuts i (s.cuts i) = s.cuts := Abl
  dsimp only at k4
  rw [e] at k4
  exact k4⟩
 obtain ⟨h4, p⟩ : ∃ h4 : Aa, h4 = List.set h3 (d.w i) (LObj.cells [.int .i64 i, .int .i64 (jb jobs i).task, .int .i64 (s.left i - N), .int .i64 (max (s.sec i - N) 0), vc] false) := ⟨_, rfl⟩
 rw [← p] at K4
 have a0 : h4[d.x]? = some (LObj.cells [d.vj, d.vc, Aq d.hb, .map (some d.mb), .int .i64 (s.now + N), d.vs, d.ve, Aq (d.w i)] false) := by rw [p, Bd b5.out]; exact a6
 have u : h4[d.w i]? = some (.cells [.int .i64 i, .int .i64 (jb jobs i).task, .int .i64 (s.left i - N), .int .i64 (max (s.sec i - N) 0), vc] false) := by rw [p]; exact Cb ar
 have ao := fun o : LObj => Cb (h := h3) (b := d.w i) (o := o) ar
 clear k4
 by_cases hz : s.left i - N = 0
 ·have a9 : Pe jobs s i N = { s with now := s.now + N, spans := Dm s.spans i s.now N, left := at1 s.left i 0, sec := at1 s.sec i (max (s.sec i - N) 0), ends := s.ends.set i (s.now + N), running := none, Q := at1 s.Q (jb jobs i).task (some m), ready := if m = [] then s.ready else (jb jobs i).task :: s.ready } := by
   unfold Pe
   rw [if_pos hz, hz, Hq.out]; rfl
  rw [hz] at p K4 u
  have H4 := Hid.mk (AI a0 u)
  have am := Hid.mk p.symm
  have ad := Hid.mk a9
  clear p a0 u a9
  have c2 : (0 : Int) = 0 := rfl
  (repeat' simp -dsimp (disch := omega) only [↓EA, EB, Nat.reduceEqDiff, Nat.reduceAdd, Nat.reduceLeDiff, ↓reduceIte, reduceCtorEq, eq_self, *, List.set_set])
  rw [am.out]
  obtain ⟨a0, u⟩ := H4.out
  clear ao a6 a7 ar
  have ho := K4.out.E.own
  have ax : (i : Int) < s.ends.length := by rw [bl.out]; omega
  have b2 : s.ends ≠ [] := fun e => by rw [e] at ax; simp at ax; omega
  have re := ho.rd
  have al := K4.out.E.tag (RdO.ne ho b2)
  (repeat' simp -dsimp (disch := omega) only [↓EA, EB, Nat.reduceEqDiff, ↓reduceIte, reduceCtorEq, eq_self, *, re.ixs])
  refine Awm ho hW (s.now + N) (i := (i : Int)) (by omega) (by omega) (by decide) rfl rfl fun h5 o5 bv b0 => ?_
  rw [Int.toNat_natCast] at o5
  have f5 : Foot d.tag d.tag 4 h4 h5 := ⟨by omega, fun b hb hn => b0 b fun e => hn (by rw [e]; exact al), fun _ _ => rfl⟩
  have k5 := K4.out.ends f5 (L := s.ends.set i (s.now + N)) ⟨o5, fun _ => al⟩
  have b3 : h5[d.x]? = some (LObj.cells [d.vj, d.vc, Aq d.hb, .map (some d.mb), .int .i64 (s.now + N), d.vs, d.ve, Aq (d.w i)] false) := (f5.get a0 (by rw [K4.out.X.tag]; decide)).1
  have az := (f5.get u (by show d.tag (d.w i) ≠ 4; rw [w3]; omega)).1
  have ak := (GI.1 b3).1
  have k6 := k5.setX (vc := d.vc) (now := s.now + N) (running := none) (coming := s.coming) k5.cr
  obtain ⟨h6, aa⟩ : ∃ h6 : Aa, h6 = List.set h5 d.x (LObj.cells [d.vj, d.vc, Aq d.hb, .map (some d.mb), .int .i64 (s.now + N), d.vs, d.ve, .pointer none] false) := ⟨_, rfl⟩
  have K6 : Hid (XInv h0 lv P jobs d h6 { s with spans := Dm s.spans i s.now N, now := s.now + N, left := at1 s.left i 0, sec := at1 s.sec i (max (s.sec i - N) 0), ends := s.ends.set i (s.now + N), running := none }) := ⟨by rw [aa]; exact k6⟩
  have ag : h6[d.x]? = some (LObj.cells [d.vj, d.vc, Aq d.hb, .map (some d.mb), .int .i64 (s.now + N), d.vs, d.ve, .pointer none] false) := by rw [aa]; exact Cb ak
  have ac : h6[d.w i]? = some (.cells [.int .i64 i, .int .i64 (jb jobs i).task, .int .i64 0, .int .i64 (max (s.sec i - N) 0), vc] false) := by rw [aa, Bd (Ne.symm b5.out)]; exact az
  have H6 := Hid.mk (AI ag ac)
  have bf := Hid.mk aa.symm
  clear k5 k6 aa ag ac az f5 a0 u ho re o5 b0
  (repeat' simp -dsimp (disch := omega) only [↓EA, EB, Nat.reduceEqDiff, Nat.reduceAdd, ↓reduceIte, reduceCtorEq, eq_self, *])
  rw [bf.out]
  obtain ⟨ag, ac⟩ := H6.out
  clear b3 ak
  obtain ⟨es, m1, m2, m3, m4⟩ := K6.out.M
  have lk := Ue m2 (.pointer none) (jb jobs i).task
  rw [m3] at lk
  dsimp only at lk
  rw [aq.out] at lk
  simp only [Option.map_some, Option.getD_some] at lk
  have ay := A30 hE K6.out.B (K6.out.Q (jb jobs i).task (i :: m) aq.out).2 (fun j hj => (K6.out.W (jb jobs i).task j (by show j ∈ s.q _; rw [Hq.out]; exact hj)).lt) hW
  (repeat' simp -dsimp (disch := omega) only [↓EA, EB, Nat.reduceEqDiff, ↓reduceIte, reduceCtorEq, eq_self, *])
  refine WX.mono ay (fun b hb => hb) fun v7 h7 ⟨bp, f7, ap⟩ => ?_
  have k7 := K6.out.queue aq.out f7 ap (fun j hj => K6.out.W (jb jobs i).task j (by show j ∈ s.q _; rw [Hq.out]; exact List.mem_cons_of_mem _ hj))
  have bx : h7[d.x]? = some (LObj.cells [d.vj, d.vc, Aq d.hb, .map (some d.mb), .int .i64 (s.now + N), d.vs, d.ve, .pointer none] false) := k7.X.is
  have bw := (f7.get ac (by show d.tag (d.w i) ≠ _; rw [w3]; omega)).1
  have bm := A00 hE ap
  have b9 : (m.length : Int) ≤ 4096 := by
   have h5 := Ae6 (Sim.out.asc (jb jobs i).task) (fun x hx => ((Sim.out.mem _ x).1 hx).1)
   have h6 := c.few
   rw [Hq.out, List.length_cons] at h5
   omega
  have b1 := Ad8 c Sim.out
  have be := (Fv Sim.out Hr.out).2.1
  have K7 := Hid.mk k7
  clear k7 ag ac m1 m2 m3 m4 lk ay ap f7
  by_cases a2 : m = []
  ·have b6 : (m.length : Int) = 0 := by rw [a2]; rfl
   rw [b6] at bm
   have au := Hid.mk a2
   clear a2 b6
   (repeat' (first | (with_reducible refine A3 (fun _ => ?_) (fun _ => ?_) <;> try (exfalso; omega)) | simp -dsimp (disch := omega) only [↓EA, EB, Nat.reduceEqDiff, ↓reduceIte, reduceCtorEq, eq_self, *]))
   obtain ⟨g', kf, an⟩ : ∃ g', XInv h0 lv P jobs g' h7 (Pe jobs s i N) ∧ g'.x = d.x := by
    refine ⟨?_, ?_, ?_⟩
    rotate_left
    ·rw [ad.out, if_pos au.out]; exact K7.out
    ·rfl
   exact ⟨g', kf, an⟩
  ·have bt := List.length_pos_iff.2 a2
   have bb := Sx hE c K7.out.B K7.out.H b1 (c.task bn) be hW
   have au := Hid.mk a2
   clear a2
   (repeat' (first | (with_reducible refine A3 (fun _ => ?_) (fun _ => ?_) <;> try (exfalso; omega)) | simp -dsimp (disch := omega) only [↓EA, EB, Nat.reduceEqDiff, ↓reduceIte, reduceCtorEq, eq_self, *]))
   refine WX.mono bb (fun b hb => hb) fun v8 h8 ⟨br, f8, H8⟩ => ?_
   have k8 := K7.out.ready f8 H8
   have K8 := Hid.mk k8
   clear k8 f8 H8
   (repeat' simp -dsimp (disch := omega) only [↓EA, EB, *])
   obtain ⟨g', kf, an⟩ : ∃ g', XInv h0 lv P jobs g' h8 (Pe jobs s i N) ∧ g'.x = d.x := by
    refine ⟨?_, ?_, ?_⟩
    rotate_left
    ·rw [ad.out, if_neg au.out]; exact K8.out
    ·rfl
   exact ⟨g', kf, an⟩
 ·have a9 : Pe jobs s i N = { s with spans := Dm s.spans i s.now N, now := s.now + N, left := at1 s.left i (s.left i - N), sec := at1 s.sec i (max (s.sec i - N) 0) } := by
   unfold Pe
   rw [if_neg hz]
  have H4 := Hid.mk (AI a0 u)
  have am := Hid.mk p
  have ad := Hid.mk a9
  clear p a0 u a9
  (repeat' simp -dsimp (disch := omega) only [↓EA, EB, Nat.reduceEqDiff, Nat.reduceAdd, Nat.reduceLeDiff, ↓reduceIte, reduceCtorEq, eq_self, *, List.set_set])
  rw [ad.out, ← am.out]
  exact ⟨d, K4.out, rfl⟩
end Go.L.Try
namespace Go.L.Try
open Go Go.L
variable {E : Env}
variable {h0 h h' : Aa} {lv : Value} {P : Int → Int} {n : Nat} {l : List Ab} {jobs : List Job} {g : Gh} {s : XS} {r : RS} {e : Int}
theorem U6 (S : Script l jobs) (sim : SimC jobs s r) (hi : RsInv jobs r) {t : Int} {i : Nat} (him : i ∈ s.q t) : 0 ≤ s.sec i ∧ s.sec i ≤ s.left i ∧ s.left i ≤ (jb jobs i).work := by
 obtain ⟨d, _, _, _⟩ := (sim.mem _ i).1 him
 have e := sim.cut _ i him
 have o := sim.left _ i him
 obtain ⟨a, p⟩ := S.cuts d
 obtain ⟨pre, m, f, h2⟩ := e.is
 have j := e.nn
 have u := Nm fun c g => a c (show c ∈ (jb jobs i).cuts by rw [m]; exact List.mem_append_left _ g)
 have n : F5 pre ≤ (jb jobs i).work := by
  have : F5 (jb jobs i).cuts = F5 pre + F5 (s.cuts i) := by rw [m, U2]
  have := Nm fun c g => a c (show c ∈ (jb jobs i).cuts by rw [m]; exact List.mem_append_right _ g)
  omega
 refine ⟨j, ?_, ?_⟩
 ·have := ((sim.mem _ i).1 him).2.2.2
  rcases f with f | ⟨_, f, _⟩ <;> omega
 ·have := (hi.done i d).1; omega
theorem Yz (sim : SimC jobs s r) : ∀ k ∈ s.coming, Eo jobs s ≤ (jb jobs k).release := fun k hk => by
 unfold Eo
 cases hc : s.coming with
 | nil => rw [hc] at hk; cases hk
 | cons c rest =>
  have a := sim.sorted
  rw [hc] at hk a
  rw [List.pairwise_cons] at a
  rcases List.mem_cons.1 hk with rfl | hk
  ·exact Int.le_refl _
  ·have := a.1 k hk; unfold ltO at this; dsimp only; omega
theorem Q7 (hE : Ay E) (c : Ctx E h0 lv P n l jobs) (k : XInv h0 lv P jobs g h s) (sim : SimC jobs s r) (hi : RsInv jobs r) (hsum : G0 jobs ≤ 1099511627776) {i : Nat} (hr : s.running = some i) (hp : Bl l jobs r = i) (hmin : s.sec i = 0 → ∀ u, s.q u ≠ [] → (atI l (jb jobs i).task).P ≤ (atI l u).P) {N : Int} (hN : 0 < N)
  (hn : N ≤ s.sec i ∨ (s.sec i = 0 ∧ s.cuts i = [] ∧ N ≤ s.left i ∧ ∀ k ∈ s.coming, s.now + N ≤ (jb jobs k).release)) (he : s.now + N ≤ e) {W : Nat → Prop} (hW : ∀ b, h0.length ≤ b → W b) :
  WX W (callW E (.func (.func Ap) #[Aq g.x] #[]) [.int .i64 N] h) (fun _ h' => ∃ g' s' r', XInv h0 lv P jobs g' h' s' ∧ g'.x = g.x ∧ Sr jobs s' r' ∧ RsInv jobs r' ∧ Bx l jobs e r = Bx l jobs e r' ∧ Ez jobs r' < Ez jobs r) := by
 obtain ⟨j, z, m⟩ := Fv sim hr
 obtain ⟨y, s2, s3⟩ := U6 c.S sim hi m
 have hw := c.S.ok.work _ (Dk j)
 have ht := sim.t
 have h1 := hi.t0
 have h2 := hi.t1
 have h3 := hi.sum
 have d : N ≤ s.left i := by rcases hn with hn | hn <;> omega
 have hL := hi.L
 rw [sim.L] at hL
 have a := hi.elen
 rw [sim.ends] at a
 refine WX.mono (Au3 hE c k sim hr hN d ⟨by omega, by unfold Ev at h2; omega⟩ (by omega) ⟨y, by omega⟩ (by omega) a hW) (fun b o => o) fun _ h' ⟨g', v, f⟩ => ?_
 obtain ⟨M, rfl⟩ : ∃ M : Nat, N = M := ⟨N.toNat, by omega⟩
 obtain ⟨r', p, q2, q3, q4⟩ := Ar0 (e := e) c.S sim hi hr hp hmin (N := M) (by omega) hn (.inr he)
 exact ⟨g', _, r', v, f, p, q2, q3, q4⟩
def A36 (h0 : Aa) (lv : Value) (P : Int → Int) (jobs : List Job) (x : Nat) (R : RS) (h : Aa) : Prop := ∃ g s, XInv h0 lv P jobs g h s ∧ g.x = x ∧ R.L = s.spans ∧ R.ends = s.ends
theorem Ayf (hE : Ay E) (c : Ctx E h0 lv P n l jobs) (k : XInv h0 lv P jobs g h s) (sim : Sr jobs s r) (hri : RsInv jobs r) (hsum : G0 jobs ≤ 1099511627776) (he : Lr e) {W : Nat → Prop} (hW : ∀ b, h0.length ≤ b → W b) :
  WX W (callW E (.func (.func C4) #[] #[]) [Aq g.x, .int .i64 e] h) (fun _ h' => A36 h0 lv P jobs g.x (Bx l jobs (max e 0) r) h') := by
 refine E8 hE.Ul rfl (by simp) ?_
 simp only [List.nil_append, List.cons_append, Ak]
 obtain ⟨e', bu⟩ : ∃ e', e' = max e 0 := ⟨_, rfl⟩
 have bn : 0 ≤ e' := by omega
 have c7 : e ≤ e' ∧ (0 < e → e' = e) ∧ (e ≤ 0 → e' = 0) := by omega
 rw [← bu]
 clear bu
 unfold Lr at he
 have K := Hid.mk (AI k (AI sim hri))
 clear k sim hri
 (repeat' simp -dsimp (disch := omega) only [↓EA, EB, Nat.reduceEqDiff, ↓reduceIte, reduceCtorEq, eq_self, *])
 obtain ⟨R, hR⟩ : ∃ R, R = Bx l jobs e' r := ⟨_, rfl⟩
 rw [← hR]
 have HR := Hid.mk hR
 refine WO.loop (fun (a : Gh × XS × RS) fr h' => XInv h0 lv P jobs a.1 h' a.2.1 ∧ Sr jobs a.2.1 a.2.2 ∧ RsInv jobs a.2.2 ∧ R = Bx l jobs e' a.2.2 ∧ a.1.x = g.x ∧ get fr 0 = Aq a.1.x ∧ get fr 1 = .int .i64 e ∧ get fr 4 = .func (.func Ap) #[Aq a.1.x] #[]) (fun a => Ez jobs a.2.2) ?_ (g, s, r) ⟨K.out.1, K.out.2.1, K.out.2.2, hR, rfl, rfl, rfl, rfl⟩
 clear K HR hR
 rintro ⟨g1, s1, r1⟩ fr h1 ⟨k, sim, hri, a3, b8, g0, ca, g4⟩
 dsimp only at k sim hri a3 b8 g0 g4 ⊢
 rw [← b8]
 have hx : h1[g1.x]? = some (.cells [g1.vj, g1.vc, Aq g1.hb, .map (some g1.mb), .int .i64 s1.now, g1.vs, g1.ve, Dz g1 s1] false) := k.X.is
 have ht := sim.t
 have t0 := hri.t0
 have t1 := hri.t1
 have t2 := hri.sum
 have b5 : 0 ≤ s1.now ∧ s1.now < 4611686018427387904 := by unfold Ev at t1; omega
 have K := Hid.mk (AI k sim)
 replace a3 := Hid.mk a3
 replace hri := Hid.mk hri
 have c4 := Hid.mk b8
 clear k sim ht t0 t1 t2 b8
 unfold I7
 by_cases b2 : s1.now < e
 ·have bb := Ah8 hE c K.out.1 K.out.2 hW
  (repeat' simp -dsimp (disch := omega) only [↓EA, EB, Nat.reduceEqDiff, ↓reduceIte, reduceCtorEq, eq_self, *])
  refine WX.mono bb (fun b hb => hb) fun v2 h2 ⟨g2, d, k2, f, b9, bt, a6⟩ => ?_
  rw [← b9] at g0 g4 ⊢
  have a4 : ∀ i ∈ d.coming, i < jobs.length := fun i hi => (f.coming i hi).1
  have au : h2[g2.x]? = some (.cells [g2.vj, g2.vc, Aq g2.hb, .map (some g2.mb), .int .i64 d.now, g2.vs, g2.ve, Dz g2 d] false) := k2.X.is
  rw [← bt] at b2 b5 a6
  have c9 := Hid.mk b9
  have ba := Hid.mk (b9.trans c4.out)
  clear hx b9 bt bb K
  cases hr2 : d.running with
  | none =>
   have b6 : Dz g2 d = .pointer none := by unfold Dz; rw [hr2]
   rw [b6] at au
   have b7 := Hid.mk hr2
   clear b6 hr2
   (repeat' simp -dsimp (disch := omega) only [↓EA, EB, Nat.reduceEqDiff, ↓reduceIte, reduceCtorEq, eq_self, *, Aiq])
   have ak : ∀ k, d.running = some k → d.sec k = 0 := fun k hk => by rw [b7.out] at hk; cases hk
   have b3 := Hid.mk ak
   clear ak
   have an := Aaz hE c k2 f.toSimC hW
   refine WX.mono an (fun b hb => hb) fun v3 h3 be => ?_
   rcases be with ⟨rfl, hz, m, k3, z⟩ | ⟨rfl, m, t, rd, i, bq, a5, ai, ap, k3, z⟩
   ·have ad : d.running = none := by
     cases hh : d.running with
     | none => rfl
     | some j => unfold back at hz; rw [hh] at hz; simp at hz
    have aj : d.ready = [] := by unfold back at hz; rw [ad] at hz; exact hz
    have c3 := Vt hE k3 a4
    have ae : h3[m.x]? = some (.cells [m.vj, m.vc, Aq m.hb, .map (some m.mb), .int .i64 d.now, m.vs, m.ve, Dz m d] false) := k3.X.is
    have y : Dz m d = .pointer none := by unfold Dz; rw [ad]
    rw [y] at ae
    rw [← z] at g0 g4 ⊢
    have bz := (GI.1 ae).1
    have c1 := hW m.x (k3.B.ge (by rw [k3.X.tag]; decide))
    have Kz := Hid.mk (AI k3 (AI f (AI ad aj)))
    have bd := Hid.mk (z.trans ba.out)
    have ax := Yz f.toSimC
    have bo := Hid.mk ax
    have bw := Hid.mk a4
    have bh := Hid.mk a6
    clear hz k3 ad aj z au ax a4 an a6 y k2 f
    by_cases al : e ≤ Eo jobs d
    ·have af := Hid.mk al
     (repeat' simp -dsimp (disch := omega) only [↓EA, EB, Nat.reduceEqDiff, ↓reduceIte, reduceCtorEq, eq_self, *])
     obtain ⟨q1, q2⟩ := Ale c.S Kz.out.2.1 hri.out Kz.out.2.2.1 Kz.out.2.2.2 (e := e') fun k hk => ⟨bn, by have := bo.out k hk; have := af.out; omega⟩
     rw [a3.out]
     exact ⟨m, d, Kz.out.1, rfl, q1, q2⟩
    ·have af := Hid.mk al
     have k5 := Kz.out.1.setX (vc := m.vc) (now := Eo jobs d) (running := d.running) (coming := d.coming) Kz.out.1.cr
     have K5 := Hid.mk k5
     clear k5
     (repeat' simp -dsimp (disch := omega) only [↓EA, EB, Nat.reduceEqDiff, Nat.reduceAdd, Nat.reduceLeDiff, ↓reduceIte, reduceCtorEq, eq_self, *])
     have b4 : d.coming ≠ [] := by
      intro a9
      have := af.out
      unfold Eo at this
      rw [a9] at this
      dsimp only at this
      omega
     obtain ⟨c0, a7, a9⟩ : ∃ c0 a7, d.coming = c0 :: a7 := by
      cases hh : d.coming with
      | nil => exact absurd hh b4
      | cons a b => exact ⟨a, b, rfl⟩
     have am : Eo jobs d = (jb jobs c0).release := by unfold Eo; rw [a9]
     obtain ⟨r', q1, q2, q3, q4⟩ := Aft (e := e') c.S Kz.out.2.1 hri.out Kz.out.2.2.1 Kz.out.2.2.2 a9 (bh.out c0 (by rw [a9]; simp)) (.inr (by rw [← am]; have := af.out; omega))
     rw [← am] at q1
     refine Next.mk (m, { d with now := Eo jobs d }, r') ⟨?_, q1, q2, a3.out.trans q3, rfl, rfl, rfl, rfl⟩ q4
     have k6 := K5.out
     unfold K0 at k6
     have e6 : Dz { m with vc := m.vc } { d with now := Eo jobs d, running := d.running, coming := d.coming } = .pointer none := by unfold Dz; dsimp only; rw [Kz.out.2.2.1]
     rw [e6] at k6
     exact k6
   ·obtain ⟨o, bm, aa, ar, p, ay, ao, az, b1⟩ := Zo c.S f (fun i hi => a6 i hi) b3.out a5 (fun u hu => by have := ai u hu; rw [c.Pl, c.Pl] at this; exact this)
    have bk : o = i := by rw [ap] at aa; cases aa; rfl
    subst bk
    have hB : (back jobs d).now = d.now ∧ (back jobs d).coming = d.coming := by unfold back; split <;> exact ⟨rfl, rfl⟩
    have hS : (chosen (back jobs d) rd o).now = d.now ∧ (chosen (back jobs d) rd o).coming = d.coming ∧ ∀ u, (chosen (back jobs d) rd o).q u = d.q u := by
     have bc : ∀ u, (back jobs d).q u = d.q u := fun u => by unfold back; split <;> rfl
     refine ⟨?_, ?_, fun u => ?_⟩
     ·unfold chosen; split <;> exact hB.1
     ·unfold chosen; split <;> exact hB.2
     ·rw [← bc u]; unfold chosen; split <;> rfl
    generalize chosen (back jobs d) rd o = s3 at *
    obtain ⟨ag, av, aq⟩ := hS
    have ae : h3[m.x]? = some (.cells [m.vj, m.vc, Aq m.hb, .map (some m.mb), .int .i64 s3.now, m.vs, m.ve, Dz m s3] false) := k3.X.is
    have y : Dz m s3 = Aq (m.w o) := by unfold Dz; rw [ao]
    rw [y] at ae
    have a1 : o ∈ s3.q (jb jobs o).task := by rw [aq, ar, ap]; simp
    obtain ⟨c6, bf, bj, bg⟩ := k3.W _ o a1
    obtain ⟨y1, y2, y3⟩ := U6 c.S p hri.out a1
    have bl := c.S.ok.work _ (Dk ((p.mem _ o).1 a1).1)
    have ac : ∀ k ∈ s3.coming, k < jobs.length := fun k hk => (p.coming k hk).1
    have bx := Vt hE k3 ac
    have ah := Yz p
    have bv : s3.now < Eo jobs s3 := by
     unfold Eo
     cases hc3 : s3.coming with
     | nil => dsimp only; rw [ag]; omega
     | cons a b => dsimp only; rw [ag]; exact a6 a (by rw [← av, hc3]; simp)
    have c5 : Eo jobs s3 ≤ 9223372036854775807 := by
     unfold Eo
     cases hc3 : s3.coming with
     | nil => exact Int.le_refl _
     | cons a b =>
      have := (c.S.ok.rel _ (Dk (ac a (by rw [hc3]; simp)))).2
      unfold Ev at this
      dsimp only; omega
    rw [← z] at g0 g4 ⊢
    rw [← ag] at b2 b5
    have K3 := Hid.mk (AI k3 p)
    have a0 := Hid.mk (AI ao (AI ay b1))
    have b0 : Hid (s3.sec o = 0 → ∀ u, s3.q u ≠ [] → (atI l (jb jobs o).task).P ≤ (atI l u).P) := ⟨fun _ u hu => by rw [ar]; exact az u (by rw [← aq]; exact hu)⟩
    have bi := Hid.mk ah
    have bd := Hid.mk (z.trans ba.out)
    clear au ao ay b1 az ah y k3 p ag av aq hB ap aa a5 ai ar a1 a4 ac an a6 bj bg z k2 f
    by_cases ab : 0 < s3.sec o
    ·(repeat' (first | (with_reducible refine A3 (fun _ => ?_) (fun _ => ?_) <;> try (exfalso; omega)) | simp -dsimp (disch := omega) only [↓EA, EB, Nat.reduceEqDiff, ↓reduceIte, reduceCtorEq, eq_self, *]))
     refine WX.mono (Q7 hE c K3.out.1 K3.out.2 hri.out hsum a0.out.1 a0.out.2.1 b0.out (N := (min (s3.sec o) (e - s3.now))) (e := e') (by omega) (.inl (by omega)) (by omega) hW) (fun b hb => hb) fun v9 h9 ⟨g9, s9, r9, k9, a2, z1, z2, z3, z4⟩ => ?_
     have K9 := Hid.mk (AI k9 (AI z1 (AI z2 z3)))
     have v := Hid.mk a2
     clear k9 z1 z2 z3 a2
     (repeat' simp -dsimp (disch := omega) only [↓EA, EB, Nat.reduceEqDiff, ↓reduceIte, reduceCtorEq, eq_self, *])
     exact Next.mk (g9, s9, r9) ⟨K9.out.1, K9.out.2.1, K9.out.2.2.1, a3.out.trans K9.out.2.2.2, v.out, by show _ = Aq g9.x; rw [v.out]; rfl, rfl, by show _ = Value.func (.func Ap) #[Aq g9.x] #[]; rw [v.out]; rfl⟩ z4
    ·have a8 : s3.sec o = 0 := by omega
     have aw : s3.cuts o = [] := by rcases a0.out.2.2 with h5 | h5; omega; exact h5.2
     have c8 : 0 < s3.left o := by
      have h5 := (K3.out.2.mem (jb jobs o).task o).1 (Fv K3.out.2 a0.out.1).2.2
      have h6 := K3.out.2.left _ o (Fv K3.out.2 a0.out.1).2.2
      omega
     rw [a8] at bf
     have as := Hid.mk (AI a8 aw)
     clear a8 aw ab y1 y2
     (repeat' simp -dsimp (disch := omega) only [↓EA, EB, Nat.reduceEqDiff, ↓reduceIte, reduceCtorEq, eq_self, *])
     refine WX.mono (Q7 hE c K3.out.1 K3.out.2 hri.out hsum a0.out.1 a0.out.2.1 b0.out (N := (min (min (s3.left o) (Eo jobs s3 - s3.now)) (e - s3.now))) (e := e') (by omega) (.inr ⟨as.out.1, as.out.2, by omega, fun k hk => by have := bi.out k hk; omega⟩) (by omega) hW) (fun b hb => hb) fun v9 h9 ⟨g9, s9, r9, k9, a2, z1, z2, z3, z4⟩ => ?_
     have K9 := Hid.mk (AI k9 (AI z1 (AI z2 z3)))
     have v := Hid.mk a2
     clear k9 z1 z2 z3 a2
     (repeat' simp -dsimp (disch := omega) only [↓EA, EB, Nat.reduceEqDiff, ↓reduceIte, reduceCtorEq, eq_self, *])
     exact Next.mk (g9, s9, r9) ⟨K9.out.1, K9.out.2.1, K9.out.2.2.1, a3.out.trans K9.out.2.2.2, v.out, by show _ = Aq g9.x; rw [v.out]; rfl, rfl, by show _ = Value.func (.func Ap) #[Aq g9.x] #[]; rw [v.out]; rfl⟩ z4
  | some i =>
   have b6 : Dz g2 d = Aq (g2.w i) := by unfold Dz; rw [hr2]
   rw [b6] at au
   have a1 := (Fv f.toSimC hr2).2.2
   obtain ⟨vc, w1, w2, w3⟩ := k2.W _ i a1
   obtain ⟨y1, y2, y3⟩ := U6 c.S f.toSimC hri.out a1
   have bl := c.S.ok.work _ (Dk ((f.mem _ i).1 a1).1)
   have b7 := Hid.mk hr2
   clear b6 hr2 w2 w3 a1
   by_cases ab : 0 < d.sec i
   ·have br := Ajj (l := l) f b7.out ab
    have c2 := Hid.mk br
    have bp := Hid.mk ab
    clear br
    (repeat' (first | (with_reducible refine A3 (fun _ => ?_) (fun _ => ?_) <;> try (exfalso; omega)) | simp -dsimp (disch := omega) only [↓EA, EB, Nat.reduceEqDiff, ↓reduceIte, reduceCtorEq, eq_self, *, Abh]))
    refine WX.mono (Q7 hE c k2 f.toSimC hri.out hsum b7.out c2.out (fun h0 => absurd bp.out (by omega)) (N := (min (d.sec i) (e - d.now))) (e := e') (by omega) (.inl (by omega)) (by omega) hW) (fun b hb => hb) fun v9 h9 ⟨g9, s9, r9, k9, a2, z1, z2, z3, z4⟩ => ?_
    have K9 := Hid.mk (AI k9 (AI z1 (AI z2 z3)))
    have v := Hid.mk a2
    clear k9 z1 z2 z3 a2
    (repeat' simp -dsimp (disch := omega) only [↓EA, EB, Nat.reduceEqDiff, ↓reduceIte, reduceCtorEq, eq_self, *])
    exact Next.mk (g9, s9, r9) ⟨K9.out.1, K9.out.2.1, K9.out.2.2.1, a3.out.trans K9.out.2.2.2, v.out, by show _ = Aq g9.x; rw [v.out]; rfl, rfl, by show _ = Value.func (.func Ap) #[Aq g9.x] #[]; rw [v.out]; rfl⟩ z4
   ·have a8 : d.sec i = 0 := by omega
    rw [a8] at w1
    have as := Hid.mk a8
    clear a8 ab y1 y2 y3 bl
    (repeat' (first | (with_reducible refine A1 (fun _ => ?_) (fun _ => ?_) <;> try (exfalso; omega)) | simp -dsimp (disch := omega) only [↓EA, EB, Nat.reduceEqDiff, ↓reduceIte, reduceCtorEq, eq_self, *, Abh]))
    clear w1
    have ak : ∀ k, d.running = some k → d.sec k = 0 := fun k hk => by rw [b7.out] at hk; cases hk; exact as.out
    have b3 := Hid.mk ak
    clear ak
    have an := Aaz hE c k2 f.toSimC hW
    refine WX.mono an (fun b hb => hb) fun v3 h3 be => ?_
    rcases be with ⟨rfl, hz, m, k3, z⟩ | ⟨rfl, m, t, rd, i, bq, a5, ai, ap, k3, z⟩
    ·have ad : d.running = none := by
      cases hh : d.running with
      | none => rfl
      | some j => unfold back at hz; rw [hh] at hz; simp at hz
     have aj : d.ready = [] := by unfold back at hz; rw [ad] at hz; exact hz
     have c3 := Vt hE k3 a4
     have ae : h3[m.x]? = some (.cells [m.vj, m.vc, Aq m.hb, .map (some m.mb), .int .i64 d.now, m.vs, m.ve, Dz m d] false) := k3.X.is
     have y : Dz m d = .pointer none := by unfold Dz; rw [ad]
     rw [y] at ae
     rw [← z] at g0 g4 ⊢
     have bz := (GI.1 ae).1
     have c1 := hW m.x (k3.B.ge (by rw [k3.X.tag]; decide))
     have Kz := Hid.mk (AI k3 (AI f (AI ad aj)))
     have bd := Hid.mk (z.trans ba.out)
     have ax := Yz f.toSimC
     have bo := Hid.mk ax
     have bw := Hid.mk a4
     have bh := Hid.mk a6
     clear hz k3 ad aj z au ax a4 an a6 y k2 f
     by_cases al : e ≤ Eo jobs d
     ·have af := Hid.mk al
      (repeat' simp -dsimp (disch := omega) only [↓EA, EB, Nat.reduceEqDiff, ↓reduceIte, reduceCtorEq, eq_self, *])
      obtain ⟨q1, q2⟩ := Ale c.S Kz.out.2.1 hri.out Kz.out.2.2.1 Kz.out.2.2.2 (e := e') fun k hk => ⟨bn, by have := bo.out k hk; have := af.out; omega⟩
      rw [a3.out]
      exact ⟨m, d, Kz.out.1, rfl, q1, q2⟩
     ·have af := Hid.mk al
      have k5 := Kz.out.1.setX (vc := m.vc) (now := Eo jobs d) (running := d.running) (coming := d.coming) Kz.out.1.cr
      have K5 := Hid.mk k5
      clear k5
      (repeat' simp -dsimp (disch := omega) only [↓EA, EB, Nat.reduceEqDiff, Nat.reduceAdd, Nat.reduceLeDiff, ↓reduceIte, reduceCtorEq, eq_self, *])
      have b4 : d.coming ≠ [] := by
       intro a9
       have := af.out
       unfold Eo at this
       rw [a9] at this
       dsimp only at this
       omega
      obtain ⟨c0, a7, a9⟩ : ∃ c0 a7, d.coming = c0 :: a7 := by
       cases hh : d.coming with
       | nil => exact absurd hh b4
       | cons a b => exact ⟨a, b, rfl⟩
      have am : Eo jobs d = (jb jobs c0).release := by unfold Eo; rw [a9]
      obtain ⟨r', q1, q2, q3, q4⟩ := Aft (e := e') c.S Kz.out.2.1 hri.out Kz.out.2.2.1 Kz.out.2.2.2 a9 (bh.out c0 (by rw [a9]; simp)) (.inr (by rw [← am]; have := af.out; omega))
      rw [← am] at q1
      refine Next.mk (m, { d with now := Eo jobs d }, r') ⟨?_, q1, q2, a3.out.trans q3, rfl, rfl, rfl, rfl⟩ q4
      have k6 := K5.out
      unfold K0 at k6
      have e6 : Dz { m with vc := m.vc } { d with now := Eo jobs d, running := d.running, coming := d.coming } = .pointer none := by unfold Dz; dsimp only; rw [Kz.out.2.2.1]
      rw [e6] at k6
      exact k6
    ·obtain ⟨o, bm, aa, ar, p, ay, ao, az, b1⟩ := Zo c.S f (fun i hi => a6 i hi) b3.out a5 (fun u hu => by have := ai u hu; rw [c.Pl, c.Pl] at this; exact this)
     have bk : o = i := by rw [ap] at aa; cases aa; rfl
     subst bk
     have hB : (back jobs d).now = d.now ∧ (back jobs d).coming = d.coming := by unfold back; split <;> exact ⟨rfl, rfl⟩
     have hS : (chosen (back jobs d) rd o).now = d.now ∧ (chosen (back jobs d) rd o).coming = d.coming ∧ ∀ u, (chosen (back jobs d) rd o).q u = d.q u := by
      have bc : ∀ u, (back jobs d).q u = d.q u := fun u => by unfold back; split <;> rfl
      refine ⟨?_, ?_, fun u => ?_⟩
      ·unfold chosen; split <;> exact hB.1
      ·unfold chosen; split <;> exact hB.2
      ·rw [← bc u]; unfold chosen; split <;> rfl
     generalize chosen (back jobs d) rd o = s3 at *
     obtain ⟨ag, av, aq⟩ := hS
     have ae : h3[m.x]? = some (.cells [m.vj, m.vc, Aq m.hb, .map (some m.mb), .int .i64 s3.now, m.vs, m.ve, Dz m s3] false) := k3.X.is
     have y : Dz m s3 = Aq (m.w o) := by unfold Dz; rw [ao]
     rw [y] at ae
     have a1 : o ∈ s3.q (jb jobs o).task := by rw [aq, ar, ap]; simp
     obtain ⟨c6, bf, bj, bg⟩ := k3.W _ o a1
     obtain ⟨y1, y2, y3⟩ := U6 c.S p hri.out a1
     have bl := c.S.ok.work _ (Dk ((p.mem _ o).1 a1).1)
     have ac : ∀ k ∈ s3.coming, k < jobs.length := fun k hk => (p.coming k hk).1
     have bx := Vt hE k3 ac
     have ah := Yz p
     have bv : s3.now < Eo jobs s3 := by
      unfold Eo
      cases hc3 : s3.coming with
      | nil => dsimp only; rw [ag]; omega
      | cons a b => dsimp only; rw [ag]; exact a6 a (by rw [← av, hc3]; simp)
     have c5 : Eo jobs s3 ≤ 9223372036854775807 := by
      unfold Eo
      cases hc3 : s3.coming with
      | nil => exact Int.le_refl _
      | cons a b =>
       have := (c.S.ok.rel _ (Dk (ac a (by rw [hc3]; simp)))).2
       unfold Ev at this
       dsimp only; omega
     rw [← z] at g0 g4 ⊢
     rw [← ag] at b2 b5
     have K3 := Hid.mk (AI k3 p)
     have a0 := Hid.mk (AI ao (AI ay b1))
     have b0 : Hid (s3.sec o = 0 → ∀ u, s3.q u ≠ [] → (atI l (jb jobs o).task).P ≤ (atI l u).P) := ⟨fun _ u hu => by rw [ar]; exact az u (by rw [← aq]; exact hu)⟩
     have bi := Hid.mk ah
     have bd := Hid.mk (z.trans ba.out)
     clear au ao ay b1 az ah y k3 p ag av aq hB ap aa a5 ai ar a1 a4 ac an a6 bj bg z k2 f
     by_cases ab : 0 < s3.sec o
     ·(repeat' (first | (with_reducible refine A3 (fun _ => ?_) (fun _ => ?_) <;> try (exfalso; omega)) | simp -dsimp (disch := omega) only [↓EA, EB, Nat.reduceEqDiff, ↓reduceIte, reduceCtorEq, eq_self, *]))
      refine WX.mono (Q7 hE c K3.out.1 K3.out.2 hri.out hsum a0.out.1 a0.out.2.1 b0.out (N := (min (s3.sec o) (e - s3.now))) (e := e') (by omega) (.inl (by omega)) (by omega) hW) (fun b hb => hb) fun v9 h9 ⟨g9, s9, r9, k9, a2, z1, z2, z3, z4⟩ => ?_
      have K9 := Hid.mk (AI k9 (AI z1 (AI z2 z3)))
      have v := Hid.mk a2
      clear k9 z1 z2 z3 a2
      (repeat' simp -dsimp (disch := omega) only [↓EA, EB, Nat.reduceEqDiff, ↓reduceIte, reduceCtorEq, eq_self, *])
      exact Next.mk (g9, s9, r9) ⟨K9.out.1, K9.out.2.1, K9.out.2.2.1, a3.out.trans K9.out.2.2.2, v.out, by show _ = Aq g9.x; rw [v.out]; rfl, rfl, by show _ = Value.func (.func Ap) #[Aq g9.x] #[]; rw [v.out]; rfl⟩ z4
     ·have a8 : s3.sec o = 0 := by omega
      have aw : s3.cuts o = [] := by rcases a0.out.2.2 with h5 | h5; omega; exact h5.2
      have c8 : 0 < s3.left o := by
       have h5 := (K3.out.2.mem (jb jobs o).task o).1 (Fv K3.out.2 a0.out.1).2.2
       have h6 := K3.out.2.left _ o (Fv K3.out.2 a0.out.1).2.2
       omega
      rw [a8] at bf
      have as := Hid.mk (AI a8 aw)
      clear a8 aw ab y1 y2
      (repeat' simp -dsimp (disch := omega) only [↓EA, EB, Nat.reduceEqDiff, ↓reduceIte, reduceCtorEq, eq_self, *])
      refine WX.mono (Q7 hE c K3.out.1 K3.out.2 hri.out hsum a0.out.1 a0.out.2.1 b0.out (N := (min (min (s3.left o) (Eo jobs s3 - s3.now)) (e - s3.now))) (e := e') (by omega) (.inr ⟨as.out.1, as.out.2, by omega, fun k hk => by have := bi.out k hk; omega⟩) (by omega) hW) (fun b hb => hb) fun v9 h9 ⟨g9, s9, r9, k9, a2, z1, z2, z3, z4⟩ => ?_
      have K9 := Hid.mk (AI k9 (AI z1 (AI z2 z3)))
      have v := Hid.mk a2
      clear k9 z1 z2 z3 a2
      (repeat' simp -dsimp (disch := omega) only [↓EA, EB, Nat.reduceEqDiff, ↓reduceIte, reduceCtorEq, eq_self, *])
      exact Next.mk (g9, s9, r9) ⟨K9.out.1, K9.out.2.1, K9.out.2.2.1, a3.out.trans K9.out.2.2.2, v.out, by show _ = Aq g9.x; rw [v.out]; rfl, rfl, by show _ = Value.func (.func Ap) #[Aq g9.x] #[]; rw [v.out]; rfl⟩ z4
 ·(repeat' simp -dsimp (disch := omega) only [↓EA, EB, Nat.reduceEqDiff, ↓reduceIte, reduceCtorEq, eq_self, *])
  obtain ⟨q1, q2⟩ := Ar1 K.out.2 bn (by have := c7; omega)
  rw [a3.out]
  exact ⟨g1, s1, K.out.1, rfl, q1, q2⟩
end Go.L.Try
namespace Go.L.Try
open Go Go.L
variable {E : Env}
theorem Rd.nt {α : Type} {sz : Nat} {enc : α → List Value} {h : Aa} {v : Value} {l : List α} (r : Rd sz enc h v l) : Fk v = true := by
 obtain ⟨a, n, c, rfl⟩ := r.shape.1; rfl
def GotX (m : Nat) (s : RS) (h : Aa) (v : Value) : Prop := ∃ vs, v = .tuple vs.toArray ∧ Each h [fun h v => RdM m 3 Aic h v s.L, fun h v => RdM m 1 H5 h v s.ends] vs
theorem GotX.movable {m : Nat} (s : RS) : Movable m (GotX m s) 2 :=
 Movable.tuples (fun R hR => by
  rcases List.mem_cons.1 hR with rfl | hR
  ·exact RdM.movable Azs _
  ·rw [List.mem_singleton.1 hR]; exact RdM.movable Anw _) (by simp)
theorem Ap6 (hE : Ay E) {h : Aa} {bx : Nat} {vl : Value} {l : List Ab} (hb : h[bx]? = some (.cells [vl] false)) (hl : Rd 7 A0 h vl l) {a b : Int} (ha : 0 ≤ a ∧ a < l.length) (hb2 : 0 ≤ b ∧ b < l.length) :
  callW E (.func (.func B9) #[] #[.pointer (some ⟨bx, 0, none⟩)]) [.int .i64 a, .int .i64 b] h = some (.bool (decide ((atI l a).P < (atI l b).P)), h, []) := by
 rw [Abc hE.Tt]
 refine Am hE.Tt rfl (by simp) ?_
 simp only [List.nil_append, List.cons_append, Ak]
 (repeat' simp -dsimp (disch := omega) only [↓EA, EB, Nat.reduceEqDiff, Nat.reduceAdd, ↓reduceIte, reduceCtorEq, eq_self, *, hl.ixs, hl.ld, A0])
theorem Apa (hE : Ay E) {W : Nat → Prop} {hB : Aa} {m x : Nat} {c0 c1 c2 c3 c4 c5 c7 : Value} {k : Nat} (hx : hB[x]? = some (.cells [c0, c1, c2, c3, c4, c5, .slice none 0 0, c7] false)) (hm : m ≤ x) (hW : ∀ b, m ≤ b → W b) (hk : k ≤ 1048576)
  {fr : Fr} {e : Value} (g2 : get fr 2 = e) (g8 : get fr 8 = Aq x) (g25 : get fr 25 = .int .i64 k) (g26 : get fr 26 = .int .i64 0) {Q : Ex → Fr → Aa → Prop}
  (hq : ∀ fr' h' ve, get fr' 2 = e → get fr' 8 = Aq x → OwnT hB.length 1 H5 h' ve (List.replicate k (-1)) → hB.length ≤ h'.length → (∀ b, b < hB.length → b ≠ x → h'[b]? = hB[b]?) → h'[x]? = some (.cells [c0, c1, c2, c3, c4, c5, ve, c7] false) → Q (.exit 0) fr' h') :
  WO W (iterW (code (callW E) iterW 49 Lo) fr hB) Q := by
 have a4 := (GI.1 hx).1
 refine WO.loop (fun (a : Nat × Value) fr h' => OwnT hB.length 1 H5 h' a.2 (List.replicate a.1 (-1)) ∧ a.1 ≤ k ∧ hB.length ≤ h'.length ∧ (∀ b, b < hB.length → b ≠ x → h'[b]? = hB[b]?) ∧ h'[x]? = some (.cells [c0, c1, c2, c3, c4, c5, a.2, c7] false) ∧ get fr 2 = e ∧ get fr 8 = Aq x ∧ get fr 25 = .int .i64 k ∧ get fr 26 = .int .i64 a.1) (fun a => k - a.1) ?_ (0, .slice none 0 0) ⟨OwnT.nil, Nat.zero_le _, Nat.le_refl _, fun b _ _ => rfl, hx, g2, g8, g25, g26⟩
 clear g2 g8 g25 g26 hx
 rintro ⟨i, ve⟩ fr h1 ⟨o, hi, hl, j, hx, g2, g8, g25, g26⟩
 dsimp only at o hi hl j hx g26 ⊢
 have ov := o.rd.one
 have cv := o.rd.cv
 have s := Hid.mk j
 have Hq := Hid.mk hq
 have O := Hid.mk o
 clear j hq o
 unfold Lo
 by_cases a1 : i < k
 ·have a2 := hW x hm
  have z : ∀ y, (h1 ++ y)[x]? = some (.cells [c0, c1, c2, c3, c4, c5, ve, c7] false) := fun y => by rw [GL (by omega)]; exact hx
  have t : x < h1.length := by omega
  (repeat' (first | (with_reducible refine A3 (fun _ => ?_) (fun _ => ?_) <;> try (exfalso; omega)) | simp -dsimp (disch := omega) only [↓EA, EB, Nat.reduceEqDiff, Nat.reduceLeDiff, Nat.reduceMul, ↓reduceIte, Ac, Sk, eq_self, *]))
  refine Adv (α := Int) (h0 := []) (O.out.app _) (fun b o r => by simp at r) (Nat.zero_le _) (by rw [LA]; omega) (fun d => hW _ (by have := O.out.ge d; omega)) (-1 : Int) (by rw [Ca, Bm]; rfl) rfl (by decide) (by decide) (by rw [List.length_replicate]; omega) fun v' h2 n p2 g a0 f => ?_
  rw [LA, List.length_singleton] at g a0 f
  have l : List.replicate i (-1 : Int) ≠ [] → hB.length ≤ blk ve := fun d => O.out.ge d
  have u : h2[x]? = some (.cells [c0, c1, c2, c3, c4, c5, ve, c7] false) := by
   rw [f x (by omega) (fun d e => by have := l d; omega), GL t]; exact hx
  have p := (GI.1 u).1
  have a3 := n.rd.one
  have a5 := n.rd.cv
  have c : ∀ b, b < hB.length → b ≠ x → h2[b]? = hB[b]? := fun b r d => by
   rw [f b (by omega) (fun v e => by have := l v; omega), GL (by omega)]; exact s.out b r d
  have HH := Hid.mk (AI c (AI n g))
  clear c n g f z p2 l hx
  (repeat' simp -dsimp (disch := omega) only [↓EA, EB, Nat.reduceEqDiff, Nat.reduceAdd, Nat.reduceLeDiff, ↓reduceIte, eq_self, *])
  obtain ⟨c, n, g⟩ := HH.out
  refine Next.mk (i + 1, v') ⟨?_, by dsimp only; omega, by rw [List.length_set]; omega, fun b r d => ?_, Cb p, rfl, rfl, rfl, by simp only [get]; simp⟩ (by dsimp only; omega)
  ·dsimp only
   rw [List.replicate_succ']
   exact OwnT.keep n fun _ => Bd (by omega)
  ·rw [Bd (Ne.symm d)]; exact c b r d
 ·have e1 : i = k := by omega
  subst e1
  (repeat' (first | (with_reducible refine A3 (fun _ => ?_) (fun _ => ?_) <;> try (exfalso; omega)) | simp -dsimp (disch := omega) only [↓EA, EB, Nat.reduceEqDiff, ↓reduceIte, eq_self, *]))
  exact Hq.out _ _ ve rfl rfl O.out hl s.out hx
def Zg (m hb k : Nat) (b : Nat) : Nat := if b < m then 5 else if b = m then 2 else if b = m + 1 then 0 else if b = hb then 1 else if k ≤ b then 4 else 5
theorem Awv {m hb k b : Nat} (h : b < m) : Zg m hb k b = 5 := if_pos h
theorem Az7 {m hb k : Nat} : Zg m hb k m = 2 := by unfold Zg; rw [if_neg (Nat.lt_irrefl _), if_pos rfl]
theorem Az6 {m hb k : Nat} : Zg m hb k (m + 1) = 0 := by unfold Zg; rw [if_neg (by omega), if_neg (by omega), if_pos rfl]
theorem Az9 {m hb k : Nat} (h : m + 2 ≤ hb) : Zg m hb k hb = 1 := by unfold Zg; rw [if_neg (by omega), if_neg (by omega), if_neg (by omega), if_pos rfl]
theorem Az8 {m hb k b : Nat} (h : m + 2 ≤ b) (h2 : hb < b) (h3 : k ≤ b) : Zg m hb k b = 4 := by unfold Zg; rw [if_neg (by omega), if_neg (by omega), if_neg (by omega), if_neg (by omega), if_pos h3]
def Qo (l : List Ab) (jobs : List Job) (e : Int) : RS := if legalB l jobs then Bx l jobs (max e 0) (Fj jobs.length) else ⟨0, -1, [], [], 0, []⟩
theorem Az4 (hE : Ay E) {h : Aa} {vl vj : Value} {l : List Ab} {jobs : List Job} (hl : Rd 7 A0 h vl l) (hs : ∀ t ∈ l, t.name.size < 1152921504606846976) (hj : RdJ h vj jobs) (hn : jobs.length ≤ 65536) (hsum : G0 jobs ≤ 1099511627776) {e : Int} (he : Lr e) :
  ∃ v ys, callW E (.func (.func Jj) #[] #[]) [vl, vj, .int .i64 e] h = some (v, h ++ ys, []) ∧ GotX h.length (Qo l jobs e) (h ++ ys) v := by
 refine Pw hE.Akp rfl (GotX.movable _) (by simp) ?_
 have q := fun x => A01 hE (hl.app x) hs (hj.pre (Pre.app h x))
 have ba := hl.one
 have b7 := hl.cv
 simp only [Ak]
 cases hb : legalB l jobs
 ·rw [hb] at q
  have hR : Qo l jobs e = ⟨0, -1, [], [], 0, []⟩ := by simp [Qo, hb]
  rw [hR]
  (repeat' simp -dsimp (disch := omega) only [↓EA, EB, Nat.reduceEqDiff, Nat.reduceAdd, ↓reduceIte, reduceCtorEq, Ac, eq_self, *])
  exact ⟨⟨_, rfl⟩, _, rfl, .cons ⟨Rd.of_nil, fun h => absurd rfl h⟩ (.cons ⟨Rd.of_nil, fun h => absurd rfl h⟩ .nil)⟩
 ·rw [hb] at q
  have hR : Qo l jobs e = Bx l jobs (max e 0) (Fj jobs.length) := by simp [Qo, hb]
  rw [hR]
  have Hb := Hid.mk hb
  clear hb hR
  have am : (h ++ [LObj.cells [vl] false])[h.length]? = some (.cells [vl] false) := by rw [Bm]; rfl
  (repeat' simp -dsimp (disch := omega) only [↓EA, EB, Nat.reduceEqDiff, Nat.reduceAdd, ↓reduceIte, reduceCtorEq, Ac, eq_self, *])
  refine J4 (A0q hE (hj.pre (Pre.app h _)) hn) fun vo ys ⟨o, ho, g, c⟩ p1 => ?_
  have a7 := p1 _ _ am
  have ai := (hl.app _).pre p1
  have a8 := (hj.pre (Pre.app h [LObj.cells [vl] false])).pre p1
  have an := (Pre.app h [LObj.cells [vl] false]).trans p1
  generalize (h ++ [LObj.cells [vl] false]) ++ ys = H1 at ho p1 a7 ai a8 an ⊢
  have b8 := ho.rd.one
  have bb := ho.rd.cv
  obtain ⟨jl, a3, s, _⟩ := a8.is
  have b4 := s.one
  have bd := s.cv
  have be : Oz false vj = some (.int .i64 jobs.length) := by rw [s.len, ← a3, List.length_map]
  have az := (GI.1 a7).1
  have Ho := Hid.mk (AI ho (AI g c))
  have bg := Hid.mk (AI a3 s)
  clear ho g c p1 am q a3 s
  (repeat' simp -dsimp (disch := omega) only [↓EA, EB, Nat.reduceEqDiff, Nat.reduceAdd, Nat.reduceLeDiff, ↓reduceIte, Ac, eq_self, *])
  obtain ⟨H2, p⟩ : ∃ H2 : Aa, H2 = H1 ++ [LObj.map [], LObj.cells [vj, vo, .pointer none, .map (some H1.length), .int .i64 0, .slice none 0 0, .slice none 0 0, .pointer none] false] := ⟨_, rfl⟩
  have aj : H2[H1.length]? = some (.map []) := by rw [p, Bm]; rfl
  have ao : H2[H1.length + 1]? = some (LObj.cells [vj, vo, .pointer none, .map (some H1.length), .int .i64 0, .slice none 0 0, .slice none 0 0, .pointer none] false) := by rw [p, Ke]; rfl
  have af : Pre H1 H2 := by rw [p]; exact Pre.app _ _
  have b6 : H2.length = H1.length + 2 := by rw [p, LA]; rfl
  rw [← p]
  clear p
  refine J4 (Aya hE (h := H2) (f := B9) (bx := h.length) (by omega)) fun vh ys ⟨hb, eh, b3, z⟩ p3 => ?_
  subst eh
  have a5 := p3 _ _ aj
  have a6 := p3 _ _ ao
  have a4 := af.trans p3
  have au := p3.le
  generalize H2 ++ ys = H3 at z p3 a5 a6 a4 au ⊢
  have a1 := (GI.1 a6).1
  have b2 := (GI.1 z).1
  have ar : h.length ≤ H1.length + 1 := by omega
  clear aj ao af p3
  obtain ⟨H4, n⟩ : ∃ H4 : Aa, H4 = List.set H3 (H1.length + 1) (LObj.cells [vj, vo, Aq hb, .map (some H1.length), .int .i64 0, .slice none 0 0, .slice none 0 0, .pointer none] false) := ⟨_, rfl⟩
  have r : H4[H1.length + 1]? = some (LObj.cells [vj, vo, Aq hb, .map (some H1.length), .int .i64 0, .slice none 0 0, .slice none 0 0, .pointer none] false) := by rw [n]; exact Cb a1
  have ab : H4[H1.length]? = some (.map []) := by rw [n, Bd (by omega)]; exact a5
  have ap : H4[hb]? = some (.cells [.func (.func B9) #[] #[Aq h.length], .slice none 0 0, .int .u64 0] false) := by rw [n, Bd (by omega)]; exact z
  have a9 : Pre H1 H4 := by rw [n]; exact a4.set (by omega) _
  have bc : H4.length = H3.length := by rw [n, List.length_set]
  have b1 := Hid.mk n.symm
  have ax := Hid.mk r
  clear n r a5 z a4 a1
  (repeat' simp -dsimp (disch := omega) only [↓EA, EB, Nat.reduceEqDiff, Nat.reduceAdd, Nat.reduceLeDiff, ↓reduceIte, eq_self, *])
  rw [b1.out]
  have r := ax.out
  clear a6
  (repeat' simp -dsimp (disch := omega) only [↓EA, EB, Nat.reduceEqDiff, Nat.reduceAdd, Nat.reduceLeDiff, Nat.reduceMul, ↓reduceIte, reduceCtorEq, Ac, Sk, eq_self, *])
  refine Apa hE (m := h.length) (k := jobs.length) (e := .int .i64 e) r ar (fun b hb => hb) (by omega) rfl rfl rfl rfl fun bf h5 ve g2 g8 o5 b5 y al => ?_
  have ac : Pre H1 h5 := fun b o ad => by
   have b9 := (GI.1 ad).1
   rw [y b (by omega) (by omega)]; exact a9 b o ad
  have d := Mu Hb.out
  have hS := Mc Hb.out
  have ae := Bn d.2.2
  obtain ⟨ho, g, c⟩ := Ho.out
  have a2 : Ctx E H1 (.func (.func B9) #[] #[Aq h.length]) (fun t => (atI l t).P) l.length l jobs := ⟨hS, rfl, ae.2.1, fun _ => rfl, rfl, fun hh hp a b b0 av ah ag => Ap6 hE (hp _ _ a7) (ai.pre hp) ⟨b0, av⟩ ⟨ah, ag⟩, d.2.1⟩
  have aa : ve ≠ .slice none 0 0 → H4.length ≤ blk ve := fun hn => OwnT.ge o5 (OwnT.ne o5 hn)
  have ak : XInv H1 (.func (.func B9) #[] #[Aq h.length]) (fun t => (atI l t).P) jobs ⟨H1.length + 1, hb, H1.length, fun _ => 0, fun _ => 0, Zg H1.length hb H4.length, vj, vo, .slice none 0 0, ve⟩ h5 (Aq7 jobs.length o) :=
   {B := ⟨ac, fun b u => Awv u⟩
    H := ⟨[], fun b => b = hb, .nil (by rw [y hb (by omega) (by omega)]; exact ap), fun b u => by
     subst u
     exact Az9 (by omega), fun i h1 h2 => by simp at h2, List.Perm.refl _⟩
    M := ⟨[], by show h5[H1.length]? = _; rw [y _ (by omega) (by omega)]; exact ab, (fun e he => by cases he), fun t => rfl, Az7⟩
    Q := fun t l h => by cases h
    W := fun t i h => by cases h
    S := ⟨OwnT.nil, fun h => absurd rfl h⟩
    E := ⟨(OwnT.rdO o5).less (by omega), fun hn => by
     have h7 : H4.length ≤ blk ve := aa hn
     show Zg H1.length hb H4.length (blk ve) = 4
     exact Az8 (by omega) (by omega) h7⟩
    X := ⟨al, Az6⟩
    jr := a8
    cr := ho.rd }
  have a0 := Ayf hE a2 ak (Ar4 g c) (Pq jobs hS.ok.work) hsum he (W := fun b => h.length ≤ b) (fun b u => by omega)
  have j := Hid.mk (AI an (AI ac az))
  clear ak a2 hS ae d y o5 ho g c aa r al ap ab a9
  (repeat' simp -dsimp (disch := omega) only [↓EA, EB, Nat.reduceEqDiff, ↓reduceIte, eq_self, *])
  refine WX.mono a0 (fun b hb => hb) fun v6 h6 ⟨gR, sR, kR, as, hL, aq⟩ => ?_
  have ay : h6[gR.x]? = some (.cells [gR.vj, gR.vc, Aq gR.hb, .map (some gR.mb), .int .i64 sR.now, gR.vs, gR.ve, Dz gR sR] false) := kR.X.is
  rw [as] at ay
  have KR := Hid.mk kR
  have HL := Hid.mk (AI hL aq)
  clear kR hL aq a0
  (repeat' simp -dsimp (disch := omega) only [↓EA, EB, Nat.reduceEqDiff, ↓reduceIte, eq_self, *])
  have aw : Pre h h6 := j.out.1.trans KR.out.B.pre
  refine ⟨aw.ex, _, rfl, .cons ?_ (.cons ?_ .nil)⟩
  ·rw [HL.out.1]
   exact ⟨KR.out.S.own.rd, fun hn => by have := OwnT.ge KR.out.S.own (OwnT.ne KR.out.S.own hn); have := j.out.1.le; omega⟩
  ·rw [HL.out.2]
   exact ⟨KR.out.E.own.rd, fun hn => by have := KR.out.B.ge (by rw [KR.out.E.tag hn]; decide); have := j.out.1.le; omega⟩
end Go.L.Try
