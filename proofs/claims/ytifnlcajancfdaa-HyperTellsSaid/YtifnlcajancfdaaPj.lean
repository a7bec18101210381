/- THE EXECUTIVE's STEPS: exec.executive.work. -/
import Derived.Test.YtifnlcajancfdaaPi
import Derived.Test.YtifnlcajancfdaaPg
import Derived.Test.YtifnlcajancfdaaPh
import Derived.Test.YtifnlcajancfdaaPd
set_option linter.unusedVariables false
set_option linter.unusedSimpArgs false
set_option maxRecDepth 100000
set_option maxHeartbeats 2000000
namespace Go.L.Try
open Go Go.L
variable {E : Env}
variable {h0 h h' : Aa} {lv : Value} {P : Int → Int} {n : Nat} {l : List Af} {jobs : List Job} {g : Gh} {s : XS} {r : RS}
theorem XInv.spans0 (k : XInv h0 lv P jobs g h s) {tag' : Nat → Nat} (f : Foot g.tag tag' 3 h h') {L : List Span} (hS : CS tag' h0 h' g.vs L) : XInv h0 lv P jobs { g with tag := tag' } h' { s with spans := L } where
 B := k.B.fr f (by decide)
 H := k.H.fr f (by decide)
 M := k.M.fr f (by decide)
 Q := fun t l h => ⟨(k.Q t l h).1, (k.Q t l h).2.fr f (by omega)⟩
 W := fun t i h => (k.W t i h).fr f (by omega)
 S := hS
 E := k.E.fr f (by decide)
 X := k.X.fr f (by decide)
 jr := k.jr
 cr := k.cr
theorem Aud (hE : Ap E) (c : Ctx E h0 lv P n l jobs) (k : XInv h0 lv P jobs g h s) (sim : SimC jobs s r) {i : Nat} (hr : s.running = some i) {N : Int} (hN : 0 < N) (hNl : N ≤ s.left i) (hnow : 0 ≤ s.now ∧ s.now + N < 4611686018427387904) (hlf : s.left i ≤ 2147483647) (hsc : 0 ≤ s.sec i ∧ s.sec i ≤ 2147483647) (hsp : (s.spans.length : Int) ≤ 1099511627776) (hel : s.ends.length = jobs.length) {W : Nat → Prop} (hW : ∀ b, h0.length ≤ b → W b) :
  WX W (callW E (.func (.func Al) #[Am g.x] #[]) [.int .i64 N] h) (fun _ h' => ∃ g', XInv h0 lv P jobs g' h' (Ou jobs s i N) ∧ g'.x = g.x) := by
 refine Fg hE.S3 rfl (by simp) ?_
 simp only [List.nil_append, List.cons_append, Ah]
 obtain ⟨bf, bz, ah⟩ := Fl sim hr
 have a1 : Dw g s = Am (g.w i) := by unfold Dw; rw [hr]
 have K := Hid.mk k
 have Sim := Hid.mk sim
 have Hr := Hid.mk hr
 have bg := Hid.mk a1
 have bm := Hid.mk hel
 obtain ⟨vc, w1, w2, w3⟩ := k.W _ i ah
 have hx : h[g.x]? = some (.cells [g.vj, g.vc, Am g.hb, .map (some g.mb), .int .i64 s.now, g.vs, g.ve, Dw g s] false) := k.X.is
 have rs := k.S.own.rd
 rw [a1] at hx
 have a3 := (GI.1 hx).1
 have b6 := hW g.x (k.B.ge (by rw [k.X.tag]; decide))
 have b1 := hW (g.w i) (k.B.ge (by rw [w3]; omega))
 have W3 := Hid.mk w3
 clear k sim hr a1 w3 hel
 refine WO.cut (fun fr h' => h' = h ∧ get fr 0 = Am g.x ∧ get fr 1 = .int .i64 N ∧ get fr 4 = Am (g.w i)) ?_ ?_
 ·(repeat' simp -dsimp (disch := omega) only [↓EA, EB, Nat.reduceEqDiff, ↓reduceIte, reduceCtorEq, eq_self, *])
 rintro fr h1 ⟨rfl, g0, g1, g4⟩
 refine WO.cut (fun fr h' => h' = h1 ∧ get fr 0 = Am g.x ∧ get fr 1 = .int .i64 N ∧ get fr 4 = Am (g.w i) ∧ get fr 5 = .int .i64 ((s.spans.length : Int) - 1)) ?_ ?_
 ·(repeat' simp -dsimp (disch := omega) only [↓EA, EB, Nat.reduceEqDiff, ↓reduceIte, reduceCtorEq, eq_self, *, rs.len])
 clear g0 g1 g4
 rintro fr h1 ⟨rfl, g0, g1, g4, g5⟩
 refine WO.cut (fun fr h' => (∃ g', XInv h0 lv P jobs g' h' { s with spans := Dh s.spans i s.now N } ∧ g'.x = g.x ∧ g'.w = g.w ∧ g'.tag (g.w i) = 7 + 2 * i) ∧ get fr 0 = Am g.x ∧ get fr 1 = .int .i64 N ∧ get fr 4 = Am (g.w i)) ?_ ?_
 ·have ag : ∀ X : Prop, WL h1.length g.vs X = X := fun X => by
   have ho := K.out.S.own
   generalize g.vs = v at ho
   unfold OwnT at ho
   generalize s.spans.map Ro = LL at ho
   cases ho with
   | nil => simp [WL, low]
   | some hm hb _ _ _ => have := (GI.1 hb).1; simp [WL, low, this]
  have HV := Hid.mk ag
  clear ag
  (repeat' (first | (with_reducible refine A1 (fun _ => ?_) (fun _ => ?_) <;> try (exfalso; omega)) | (with_reducible refine A3 (fun _ => ?_) (fun _ => ?_) <;> try (exfalso; omega)) | simp -dsimp (disch := omega) only [↓EA, EB, Nat.reduceEqDiff, ↓reduceIte, reduceCtorEq, eq_self, *, rs.ixs, rs.ld, rs.ld0, Ro]))
  ·have a8 : (0 : Int) < s.spans.length := by omega
   have a2 : s.spans ≠ [] := fun e => by rw [e] at a8; exact absurd a8 (by decide)
   have e : Dh s.spans i s.now N = s.spans.set ((s.spans.length : Int) - 1).toNat { atI s.spans ((s.spans.length : Int) - 1) with to' := (atI s.spans ((s.spans.length : Int) - 1)).to' + N } := if_pos ⟨a8, by assumption, by assumption⟩
   have bj : (atI s.spans ((s.spans.length : Int) - 1)).to' = s.now := by assumption
   have He := Hid.mk e
   clear e
   refine X2 K.out.S.own hW (fo := 2) { atI s.spans ((s.spans.length : Int) - 1) with to' := (atI s.spans ((s.spans.length : Int) - 1)).to' + N } (by omega) (by omega) (by decide) rfl (by rw [bj]; rfl) fun h' o' bx bb => ?_
   have f : Foot g.tag g.tag 3 h1 h' := ⟨by omega, fun b hb hn => bb b fun e => hn (by rw [e]; exact K.out.S.tag a2), fun _ _ => rfl⟩
   have z := K.out.spans0 f (L := s.spans.set ((s.spans.length : Int) - 1).toNat { atI s.spans ((s.spans.length : Int) - 1) with to' := (atI s.spans ((s.spans.length : Int) - 1)).to' + N }) ⟨o', fun _ => K.out.S.tag a2⟩
   rw [← He.out] at z
   have K2 := Hid.mk z
   clear z
   (repeat' simp -dsimp (disch := omega) only [↓EA, EB, Nat.reduceEqDiff, ↓reduceIte, reduceCtorEq, eq_self, *])
   exact ⟨_, K2.out, rfl, rfl, W3.out⟩
  all_goals
   have e : Dh s.spans i s.now N = s.spans ++ [⟨i, s.now, s.now + N⟩] := if_neg (by
    rintro ⟨a, b, c⟩
    first
     | exact absurd b (by assumption)
     | exact absurd c (by assumption)
     | omega)
   rw [e]
   have ag := HV.out
   have bl : ∀ y, (h1 ++ y)[g.x]? = some (.cells [g.vj, g.vc, Am g.hb, .map (some g.mb), .int .i64 s.now, g.vs, g.ve, Am (g.w i)] false) := fun y => by rw [GL a3]; exact hx
   have bc : ∀ y, (h1 ++ y)[g.w i]? = some (.cells [.int .i64 i, .int .i64 (jb jobs i).task, .int .i64 (s.left i), .int .i64 (s.sec i), vc] false) := fun y => by rw [GL (GI.1 w1).1]; exact w1
   clear e
   (repeat' simp -dsimp (disch := omega) only [↓EA, EB, Nat.reduceEqDiff, Nat.reduceAdd, Nat.reduceLeDiff, Nat.reduceMul, ↓reduceIte, reduceCtorEq, Ab, T9, eq_self, *, Avb])
   have ai : s.spans ≠ [] → g.x ≠ blk g.vs := fun hn e => by
    have h1 := K.out.S.tag hn
    rw [← e] at h1
    have := K.out.X.tag
    omega
   refine Sh (K.out.S.own.app _) (K.out.B.pre.app' _) (Nat.le_refl _) (by have := K.out.B.pre.le; rw [LA]; omega) (fun hn => hW _ (K.out.S.own.ge hn)) (⟨i, s.now, s.now + N⟩ : Span) (by rw [Bl, Bk]; rfl) rfl (by decide) (by decide) (by omega) fun v' h2 o2 p2 av be af => ?_
   rw [LA, List.length_singleton] at av be af
   have f : Foot g.tag (Jo g.tag h1.length 3) 3 h1 h2 := ⟨by omega, fun b hb hn => by
    rw [af b (by omega) (fun bn e => hn (by rw [e]; exact K.out.S.tag bn)), GL hb], fun b hb => if_pos hb⟩
   have z := K.out.spans f (vs := v') (L := s.spans ++ [⟨i, s.now, s.now + N⟩]) ⟨o2, fun _ => by rw [av]; unfold Jo; rw [if_neg (by omega)]⟩
   have bh : h2[g.x]? = some (.cells [g.vj, g.vc, Am g.hb, .map (some g.mb), .int .i64 s.now, g.vs, g.ve, Am (g.w i)] false) := by
    rw [af g.x (by omega) ai, GL a3]; exact hx
   have ov := o2.rd.one
   have cv := o2.rd.cv
   have br := (GI.1 bh).1
   have KF : Hid (XInv h0 lv P jobs { g with vs := v', tag := Jo g.tag h1.length 3 } (h2.set g.x (LObj.cells [g.vj, g.vc, Am g.hb, .map (some g.mb), .int .i64 s.now, v', g.ve, Am (g.w i)] false)) { s with spans := s.spans ++ [⟨i, s.now, s.now + N⟩] }) := ⟨by
    have e5 : Kr { g with vs := v' } { s with spans := s.spans ++ [⟨i, s.now, s.now + N⟩] } = [g.vj, g.vc, Am g.hb, .map (some g.mb), .int .i64 s.now, v', g.ve, Dw g s] := rfl
    rw [bg.out] at e5
    rw [← e5]; exact z⟩
   clear z f o2 af bl bc ai ag
   (repeat' simp -dsimp (disch := omega) only [↓EA, EB, Nat.reduceEqDiff, Nat.reduceAdd, Nat.reduceLeDiff, ↓reduceIte, reduceCtorEq, eq_self, *])
   exact ⟨_, KF.out, rfl, rfl, by
    show Jo g.tag h1.length 3 (g.w i) = _
    rw [Ya (GI.1 w1).1]; exact W3.out⟩
 clear hx rs a3 b6 b1 w1 g0 g1 g4 g5
 rintro fr h2 ⟨⟨d, z, ac, al, ao⟩, g0, g1, g4⟩
 rw [← ac] at g0 ⊢
 rw [← al] at g4 ao
 obtain ⟨m, hq⟩ := Sim.out.run i Hr.out
 have az : s.Q (jb jobs i).task = some (i :: m) := by rw [← hq]; exact Ajj ah
 obtain ⟨vc, w1, w2, w3⟩ := z.W _ i ah
 have hx : h2[d.x]? = some (.cells [d.vj, d.vc, Am d.hb, .map (some d.mb), .int .i64 s.now, d.vs, d.ve, Dw d s] false) := z.X.is
 have a1 : Dw d s = Am (d.w i) := by unfold Dw; rw [Hr.out]
 rw [a1] at hx
 dsimp only at w1 w2 w3
 have a3 := (GI.1 hx).1
 have b6 := hW d.x (z.B.ge (by rw [z.X.tag]; decide))
 have b1 := hW (d.w i) (z.B.ge (by rw [w3]; omega))
 have a2 : d.w i ≠ d.x := by
  intro e
  rw [e] at w3
  have := z.X.tag
  omega
 have k3 := z.setX (vc := d.vc) (now := s.now + N) (running := s.running) (coming := s.coming) z.cr
 obtain ⟨h3, aa⟩ : ∃ h3 : Aa, h3 = List.set h2 d.x (LObj.cells [d.vj, d.vc, Am d.hb, .map (some d.mb), .int .i64 (s.now + N), d.vs, d.ve, Am (d.w i)] false) := ⟨_, rfl⟩
 have K3 : Hid (XInv h0 lv P jobs d h3 { s with spans := Dh s.spans i s.now N, now := s.now + N }) := ⟨by
  rw [aa, ← a1]; exact k3⟩
 have a9 : h3[d.x]? = some (LObj.cells [d.vj, d.vc, Am d.hb, .map (some d.mb), .int .i64 (s.now + N), d.vs, d.ve, Am (d.w i)] false) := by rw [aa]; exact Bx a3
 have a7 : h3[d.w i]? = some (.cells [.int .i64 i, .int .i64 (jb jobs i).task, .int .i64 (s.left i), .int .i64 (s.sec i), vc] false) := by rw [aa, Aq (Ne.symm a2)]; exact w1
 have bd := Hid.mk aa.symm
 have H3 := Hid.mk (AI a9 a7)
 have bt := Hid.mk ac
 have b2 := Hid.mk a2
 have W2 := Hid.mk w2
 have c2 := w2.one
 have bv := w2.cv
 have ar := Hid.mk az
 have Hq := Hid.mk hq
 clear aa a9 a7 ac al a2 z k3 a1 w2 az hq
 (repeat' simp -dsimp (disch := omega) only [↓EA, EB, Nat.reduceEqDiff, Nat.reduceAdd, Nat.reduceLeDiff, ↓reduceIte, reduceCtorEq, eq_self, *])
 rw [bd.out]
 clear hx a3 w1
 obtain ⟨a9, a7⟩ := H3.out
 have au := (GI.1 a7).1
 have k4 := K3.out.setW (t := (jb jobs i).task) (i := i) ah (left := s.left i - N) (sec := max (s.sec i - N) 0) (cuts := s.cuts i) W2.out
 have K4 : Hid (XInv h0 lv P jobs d (h3.set (d.w i) (LObj.cells [.int .i64 i, .int .i64 (jb jobs i).task, .int .i64 (s.left i - N), .int .i64 (max (s.sec i - N) 0), vc] false)) { s with spans := Dh s.spans i s.now N, now := s.now + N, left := at1 s.left i (s.left i - N), sec := at1 s.sec i (max (s.sec i - N) 0) }) := ⟨by
  have e : at1 s.cuts i (s.cuts i) = s.cuts := Aa1
  dsimp only at k4
  rw [e] at k4
  exact k4⟩
 obtain ⟨h4, u⟩ : ∃ h4 : Aa, h4 = List.set h3 (d.w i) (LObj.cells [.int .i64 i, .int .i64 (jb jobs i).task, .int .i64 (s.left i - N), .int .i64 (max (s.sec i - N) 0), vc] false) := ⟨_, rfl⟩
 rw [← u] at K4
 have a0 : h4[d.x]? = some (LObj.cells [d.vj, d.vc, Am d.hb, .map (some d.mb), .int .i64 (s.now + N), d.vs, d.ve, Am (d.w i)] false) := by rw [u, Aq b2.out]; exact a9
 have p : h4[d.w i]? = some (.cells [.int .i64 i, .int .i64 (jb jobs i).task, .int .i64 (s.left i - N), .int .i64 (max (s.sec i - N) 0), vc] false) := by rw [u]; exact Bx au
 have ap := fun o : LObj => Bx (h := h3) (b := d.w i) (o := o) au
 clear k4
 by_cases hz : s.left i - N = 0
 ·have a6 : Ou jobs s i N = { s with now := s.now + N, spans := Dh s.spans i s.now N, left := at1 s.left i 0, sec := at1 s.sec i (max (s.sec i - N) 0), ends := s.ends.set i (s.now + N), running := none, Q := at1 s.Q (jb jobs i).task (some m), ready := if m = [] then s.ready else (jb jobs i).task :: s.ready } := by
   unfold Ou
   rw [if_pos hz, hz, Hq.out]; rfl
  rw [hz] at u K4 p
  have H4 := Hid.mk (AI a0 p)
  have aq := Hid.mk u.symm
  have ad := Hid.mk a6
  clear u a0 p a6
  have c1 : (0 : Int) = 0 := rfl
  (repeat' simp -dsimp (disch := omega) only [↓EA, EB, Nat.reduceEqDiff, Nat.reduceAdd, Nat.reduceLeDiff, ↓reduceIte, reduceCtorEq, eq_self, *, List.set_set])
  rw [aq.out]
  obtain ⟨a0, p⟩ := H4.out
  clear ap a9 a7 au
  have ho := K4.out.E.own
  have ax : (i : Int) < s.ends.length := by rw [bm.out]; omega
  have b5 : s.ends ≠ [] := fun e => by rw [e] at ax; simp at ax; omega
  have re := ho.rd
  have aj := K4.out.E.tag (RdO.ne ho b5)
  (repeat' simp -dsimp (disch := omega) only [↓EA, EB, Nat.reduceEqDiff, ↓reduceIte, reduceCtorEq, eq_self, *, re.ixs])
  refine Avl ho hW (s.now + N) (i := (i : Int)) (by omega) (by omega) (by decide) rfl rfl fun h5 o5 bw b4 => ?_
  rw [Int.toNat_natCast] at o5
  have f5 : Foot d.tag d.tag 4 h4 h5 := ⟨by omega, fun b hb hn => b4 b fun e => hn (by rw [e]; exact aj), fun _ _ => rfl⟩
  have k5 := K4.out.ends f5 (L := s.ends.set i (s.now + N)) ⟨o5, fun _ => aj⟩
  have ay : h5[d.x]? = some (LObj.cells [d.vj, d.vc, Am d.hb, .map (some d.mb), .int .i64 (s.now + N), d.vs, d.ve, Am (d.w i)] false) := (f5.get a0 (by rw [K4.out.X.tag]; decide)).1
  have b0 := (f5.get p (by show d.tag (d.w i) ≠ 4; rw [w3]; omega)).1
  have ak := (GI.1 ay).1
  have k6 := k5.setX (vc := d.vc) (now := s.now + N) (running := none) (coming := s.coming) k5.cr
  obtain ⟨h6, ab⟩ : ∃ h6 : Aa, h6 = List.set h5 d.x (LObj.cells [d.vj, d.vc, Am d.hb, .map (some d.mb), .int .i64 (s.now + N), d.vs, d.ve, .pointer none] false) := ⟨_, rfl⟩
  have K6 : Hid (XInv h0 lv P jobs d h6 { s with spans := Dh s.spans i s.now N, now := s.now + N, left := at1 s.left i 0, sec := at1 s.sec i (max (s.sec i - N) 0), ends := s.ends.set i (s.now + N), running := none }) := ⟨by rw [ab]; exact k6⟩
  have ae : h6[d.x]? = some (LObj.cells [d.vj, d.vc, Am d.hb, .map (some d.mb), .int .i64 (s.now + N), d.vs, d.ve, .pointer none] false) := by rw [ab]; exact Bx ak
  have a5 : h6[d.w i]? = some (.cells [.int .i64 i, .int .i64 (jb jobs i).task, .int .i64 0, .int .i64 (max (s.sec i - N) 0), vc] false) := by rw [ab, Aq (Ne.symm b2.out)]; exact b0
  have H6 := Hid.mk (AI ae a5)
  have ba := Hid.mk ab.symm
  clear k5 k6 ab ae a5 b0 f5 a0 p ho re o5 b4
  (repeat' simp -dsimp (disch := omega) only [↓EA, EB, Nat.reduceEqDiff, Nat.reduceAdd, ↓reduceIte, reduceCtorEq, eq_self, *])
  rw [ba.out]
  obtain ⟨ae, a5⟩ := H6.out
  clear ay ak
  obtain ⟨es, m1, m2, m3, m4⟩ := K6.out.M
  have lk := Tw m2 (.pointer none) (jb jobs i).task
  rw [m3] at lk
  dsimp only at lk
  rw [ar.out] at lk
  simp only [Option.map_some, Option.getD_some] at lk
  have b7 := A2n hE K6.out.B (K6.out.Q (jb jobs i).task (i :: m) ar.out).2 (fun j hj => (K6.out.W (jb jobs i).task j (by show j ∈ s.q _; rw [Hq.out]; exact hj)).lt) hW
  (repeat' simp -dsimp (disch := omega) only [↓EA, EB, Nat.reduceEqDiff, ↓reduceIte, reduceCtorEq, eq_self, *])
  refine WX.mono b7 (fun b hb => hb) fun v7 h7 ⟨bo, f7, an⟩ => ?_
  have k7 := K6.out.queue ar.out f7 an (fun j hj => K6.out.W (jb jobs i).task j (by show j ∈ s.q _; rw [Hq.out]; exact List.mem_cons_of_mem _ hj))
  have c0 : h7[d.x]? = some (LObj.cells [d.vj, d.vc, Am d.hb, .map (some d.mb), .int .i64 (s.now + N), d.vs, d.ve, .pointer none] false) := k7.X.is
  have bu := (f7.get a5 (by show d.tag (d.w i) ≠ _; rw [w3]; omega)).1
  have b8 := Azk hE an
  have bi : (m.length : Int) ≤ 4096 := by
   have h5 := Aeg (Sim.out.asc (jb jobs i).task) (fun x hx => ((Sim.out.mem _ x).1 hx).1)
   have h6 := c.few
   rw [Hq.out, List.length_cons] at h5
   omega
  have aw := Adr c Sim.out
  have b9 := (Fl Sim.out Hr.out).2.1
  have K7 := Hid.mk k7
  clear k7 ae a5 m1 m2 m3 m4 lk b7 an f7
  by_cases a4 : m = []
  ·have b3 : (m.length : Int) = 0 := by rw [a4]; rfl
   rw [b3] at b8
   have am := Hid.mk a4
   clear a4 b3
   (repeat' (first | (with_reducible refine A3 (fun _ => ?_) (fun _ => ?_) <;> try (exfalso; omega)) | simp -dsimp (disch := omega) only [↓EA, EB, Nat.reduceEqDiff, ↓reduceIte, reduceCtorEq, eq_self, *]))
   obtain ⟨g', kf, as⟩ : ∃ g', XInv h0 lv P jobs g' h7 (Ou jobs s i N) ∧ g'.x = d.x := by
    refine ⟨?_, ?_, ?_⟩
    rotate_left
    ·rw [ad.out, if_pos am.out]; exact K7.out
    ·rfl
   exact ⟨g', kf, as⟩
  ·have bp := List.length_pos_iff.2 a4
   have bk := Sn hE c K7.out.B K7.out.H aw (c.task bf) b9 hW
   have am := Hid.mk a4
   clear a4
   (repeat' (first | (with_reducible refine A3 (fun _ => ?_) (fun _ => ?_) <;> try (exfalso; omega)) | simp -dsimp (disch := omega) only [↓EA, EB, Nat.reduceEqDiff, ↓reduceIte, reduceCtorEq, eq_self, *]))
   refine WX.mono bk (fun b hb => hb) fun v8 h8 ⟨bq, f8, H8⟩ => ?_
   have k8 := K7.out.ready f8 H8
   have K8 := Hid.mk k8
   clear k8 f8 H8
   (repeat' simp -dsimp (disch := omega) only [↓EA, EB, *])
   obtain ⟨g', kf, as⟩ : ∃ g', XInv h0 lv P jobs g' h8 (Ou jobs s i N) ∧ g'.x = d.x := by
    refine ⟨?_, ?_, ?_⟩
    rotate_left
    ·rw [ad.out, if_neg am.out]; exact K8.out
    ·rfl
   exact ⟨g', kf, as⟩
 ·have a6 : Ou jobs s i N = { s with spans := Dh s.spans i s.now N, now := s.now + N, left := at1 s.left i (s.left i - N), sec := at1 s.sec i (max (s.sec i - N) 0) } := by
   unfold Ou
   rw [if_neg hz]
  have H4 := Hid.mk (AI a0 p)
  have aq := Hid.mk u
  have ad := Hid.mk a6
  clear u a0 p a6
  (repeat' simp -dsimp (disch := omega) only [↓EA, EB, Nat.reduceEqDiff, Nat.reduceAdd, Nat.reduceLeDiff, ↓reduceIte, reduceCtorEq, eq_self, *, List.set_set])
  rw [ad.out, ← aq.out]
  exact ⟨d, K4.out, rfl⟩
end Go.L.Try
namespace Go.L.Try
open Go Go.L
variable {E : Env}
variable {h0 h h' : Aa} {lv : Value} {P : Int → Int} {n : Nat} {l : List Af} {jobs : List Job} {g : Gh} {s : XS} {r : RS} {e : Int}
theorem Ug (S : Script l jobs) (sim : SimC jobs s r) (hi : RsInv jobs r) {t : Int} {i : Nat} (him : i ∈ s.q t) : 0 ≤ s.sec i ∧ s.sec i ≤ s.left i ∧ s.left i ≤ (jb jobs i).work := by
 obtain ⟨e, _, _, _⟩ := (sim.mem _ i).1 him
 have d := sim.cut _ i him
 have o := sim.left _ i him
 obtain ⟨a, u⟩ := S.cuts e
 obtain ⟨pre, g, f, h2⟩ := d.is
 have j := d.nn
 have p := Mz fun c m => a c (show c ∈ (jb jobs i).cuts by rw [g]; exact List.mem_append_left _ m)
 have n : Ju pre ≤ (jb jobs i).work := by
  have : Ju (jb jobs i).cuts = Ju pre + Ju (s.cuts i) := by rw [g, Ud]
  have := Mz fun c m => a c (show c ∈ (jb jobs i).cuts by rw [g]; exact List.mem_append_right _ m)
  omega
 refine ⟨j, ?_, ?_⟩
 ·have := ((sim.mem _ i).1 him).2.2.2
  rcases f with f | ⟨_, f, _⟩ <;> omega
 ·have := (hi.done i e).1; omega
theorem X8 (sim : SimC jobs s r) : ∀ k ∈ s.coming, Ei jobs s ≤ (jb jobs k).release := fun k hk => by
 unfold Ei
 cases hc : s.coming with
 | nil => rw [hc] at hk; cases hk
 | cons c rest =>
  have a := sim.sorted
  rw [hc] at hk a
  rw [List.pairwise_cons] at a
  rcases List.mem_cons.1 hk with rfl | hk
  ·exact Int.le_refl _
  ·have := a.1 k hk; unfold ltO at this; dsimp only; omega
theorem Qw (hE : Ap E) (c : Ctx E h0 lv P n l jobs) (k : XInv h0 lv P jobs g h s) (sim : SimC jobs s r) (hi : RsInv jobs r) (hsum : B9 jobs ≤ 1099511627776) {i : Nat} (hr : s.running = some i) (hp : rsRuns l jobs r = i) (hmin : s.sec i = 0 → ∀ u, s.q u ≠ [] → (atI l (jb jobs i).task).P ≤ (atI l u).P) {N : Int} (hN : 0 < N)
  (hn : N ≤ s.sec i ∨ (s.sec i = 0 ∧ s.cuts i = [] ∧ N ≤ s.left i ∧ ∀ k ∈ s.coming, s.now + N ≤ (jb jobs k).release)) (he : s.now + N ≤ e) {W : Nat → Prop} (hW : ∀ b, h0.length ≤ b → W b) :
  WX W (callW E (.func (.func Al) #[Am g.x] #[]) [.int .i64 N] h) (fun _ h' => ∃ g' s' r', XInv h0 lv P jobs g' h' s' ∧ g'.x = g.x ∧ Sf jobs s' r' ∧ RsInv jobs r' ∧ Bb l jobs e r = Bb l jobs e r' ∧ Ed jobs r' < Ed jobs r) := by
 obtain ⟨j, p, m⟩ := Fl sim hr
 obtain ⟨s1, s2, s3⟩ := Ug c.S sim hi m
 have hw := c.S.ok.work _ (Ey j)
 have ht := sim.t
 have h1 := hi.t0
 have h2 := hi.t1
 have h3 := hi.sum
 have d : N ≤ s.left i := by rcases hn with hn | hn <;> omega
 have hL := hi.L
 rw [sim.L] at hL
 have a := hi.elen
 rw [sim.ends] at a
 refine WX.mono (Aud hE c k sim hr hN d ⟨by omega, by unfold Dg at h2; omega⟩ (by omega) ⟨s1, by omega⟩ (by omega) a hW) (fun b v => v) fun _ h' ⟨g', k', f⟩ => ?_
 obtain ⟨M, rfl⟩ : ∃ M : Nat, N = M := ⟨N.toNat, by omega⟩
 obtain ⟨r', y, q2, o, z⟩ := Aq8 (e := e) c.S sim hi hr hp hmin (N := M) (by omega) hn (.inr he)
 exact ⟨g', _, r', k', f, y, q2, o, z⟩
def A2x (h0 : Aa) (lv : Value) (P : Int → Int) (jobs : List Job) (x : Nat) (R : RS) (h : Aa) : Prop := ∃ g s, XInv h0 lv P jobs g h s ∧ g.x = x ∧ R.L = s.spans ∧ R.ends = s.ends
theorem Aw6 (hE : Ap E) (c : Ctx E h0 lv P n l jobs) (k : XInv h0 lv P jobs g h s) (sim : Sf jobs s r) (hri : RsInv jobs r) (hsum : B9 jobs ≤ 1099511627776) (he : Lf e) {W : Nat → Prop} (hW : ∀ b, h0.length ≤ b → W b) :
  WX W (callW E (.func (.func Cw) #[] #[]) [Am g.x, .int .i64 e] h) (fun _ h' => A2x h0 lv P jobs g.x (Bb l jobs (max e 0) r) h') := by
 refine Fg hE.T2 rfl (by simp) ?_
 simp only [List.nil_append, List.cons_append, Ah]
 obtain ⟨e', bu⟩ : ∃ e', e' = max e 0 := ⟨_, rfl⟩
 have bf : 0 ≤ e' := by omega
 have c7 : e ≤ e' ∧ (0 < e → e' = e) ∧ (e ≤ 0 → e' = 0) := by omega
 rw [← bu]
 clear bu
 unfold Lf at he
 have K := Hid.mk (AI k (AI sim hri))
 clear k sim hri
 (repeat' simp -dsimp (disch := omega) only [↓EA, EB, Nat.reduceEqDiff, ↓reduceIte, reduceCtorEq, eq_self, *])
 obtain ⟨R, hR⟩ : ∃ R, R = Bb l jobs e' r := ⟨_, rfl⟩
 rw [← hR]
 have HR := Hid.mk hR
 refine WO.loop (fun (a : Gh × XS × RS) fr h' => XInv h0 lv P jobs a.1 h' a.2.1 ∧ Sf jobs a.2.1 a.2.2 ∧ RsInv jobs a.2.2 ∧ R = Bb l jobs e' a.2.2 ∧ a.1.x = g.x ∧ get fr 0 = Am a.1.x ∧ get fr 1 = .int .i64 e ∧ get fr 4 = .func (.func Al) #[Am a.1.x] #[]) (fun a => Ed jobs a.2.2) ?_ (g, s, r) ⟨K.out.1, K.out.2.1, K.out.2.2, hR, rfl, rfl, rfl, rfl⟩
 clear K HR hR
 rintro ⟨g1, s1, r1⟩ fr h1 ⟨k, sim, hri, a3, ba, g0, ca, g4⟩
 dsimp only at k sim hri a3 ba g0 g4 ⊢
 rw [← ba]
 have hx : h1[g1.x]? = some (.cells [g1.vj, g1.vc, Am g1.hb, .map (some g1.mb), .int .i64 s1.now, g1.vs, g1.ve, Dw g1 s1] false) := k.X.is
 have ht := sim.t
 have t0 := hri.t0
 have t1 := hri.t1
 have t2 := hri.sum
 have b5 : 0 ≤ s1.now ∧ s1.now < 4611686018427387904 := by unfold Dg at t1; omega
 have K := Hid.mk (AI k sim)
 replace a3 := Hid.mk a3
 replace hri := Hid.mk hri
 have c8 := Hid.mk ba
 clear k sim ht t0 t1 t2 ba
 unfold Is
 by_cases az : s1.now < e
 ·have bb := Ahs hE c K.out.1 K.out.2 hW
  (repeat' simp -dsimp (disch := omega) only [↓EA, EB, Nat.reduceEqDiff, ↓reduceIte, reduceCtorEq, eq_self, *])
  refine WX.mono bb (fun b hb => hb) fun v2 h2 ⟨g2, d, k2, f, b8, bv, a8⟩ => ?_
  rw [← b8] at g0 g4 ⊢
  have a4 : ∀ i ∈ d.coming, i < jobs.length := fun i hi => (f.coming i hi).1
  have au : h2[g2.x]? = some (.cells [g2.vj, g2.vc, Am g2.hb, .map (some g2.mb), .int .i64 d.now, g2.vs, g2.ve, Dw g2 d] false) := k2.X.is
  rw [← bv] at az b5 a8
  have c9 := Hid.mk b8
  have b9 := Hid.mk (b8.trans c8.out)
  clear hx b8 bv bb K
  cases hr2 : d.running with
  | none =>
   have b7 : Dw g2 d = .pointer none := by unfold Dw; rw [hr2]
   rw [b7] at au
   have b4 := Hid.mk hr2
   clear b7 hr2
   (repeat' simp -dsimp (disch := omega) only [↓EA, EB, Nat.reduceEqDiff, ↓reduceIte, reduceCtorEq, eq_self, *, Ah2])
   have aj : ∀ k, d.running = some k → d.sec k = 0 := fun k hk => by rw [b4.out] at hk; cases hk
   have b1 := Hid.mk aj
   clear aj
   have ar := Aae hE c k2 f.toSimC hW
   refine WX.mono ar (fun b hb => hb) fun v3 h3 bn => ?_
   rcases bn with ⟨rfl, hz, m, k3, z⟩ | ⟨rfl, m, t, rd, i, bx, a5, ak, as, k3, z⟩
   ·have ae : d.running = none := by
     cases hh : d.running with
     | none => rfl
     | some j => unfold back at hz; rw [hh] at hz; simp at hz
    have ah : d.ready = [] := by unfold back at hz; rw [ae] at hz; exact hz
    have c2 := U3 hE k3 a4
    have ad : h3[m.x]? = some (.cells [m.vj, m.vc, Am m.hb, .map (some m.mb), .int .i64 d.now, m.vs, m.ve, Dw m d] false) := k3.X.is
    have y : Dw m d = .pointer none := by unfold Dw; rw [ae]
    rw [y] at ad
    rw [← z] at g0 g4 ⊢
    have bp := (GI.1 ad).1
    have bw := hW m.x (k3.B.ge (by rw [k3.X.tag]; decide))
    have Kz := Hid.mk (AI k3 (AI f (AI ae ah)))
    have bl := Hid.mk (z.trans b9.out)
    have b0 := X8 f.toSimC
    have bc := Hid.mk b0
    have bz := Hid.mk a4
    have bk := Hid.mk a8
    clear hz k3 ae ah z au b0 a4 ar a8 y k2 f
    by_cases ai : e ≤ Ei jobs d
    ·have ag := Hid.mk ai
     (repeat' simp -dsimp (disch := omega) only [↓EA, EB, Nat.reduceEqDiff, ↓reduceIte, reduceCtorEq, eq_self, *])
     obtain ⟨q1, q2⟩ := Aku c.S Kz.out.2.1 hri.out Kz.out.2.2.1 Kz.out.2.2.2 (e := e') fun k hk => ⟨bf, by have := bc.out k hk; have := ag.out; omega⟩
     rw [a3.out]
     exact ⟨m, d, Kz.out.1, rfl, q1, q2⟩
    ·have ag := Hid.mk ai
     have k5 := Kz.out.1.setX (vc := m.vc) (now := Ei jobs d) (running := d.running) (coming := d.coming) Kz.out.1.cr
     have K5 := Hid.mk k5
     clear k5
     (repeat' simp -dsimp (disch := omega) only [↓EA, EB, Nat.reduceEqDiff, Nat.reduceAdd, Nat.reduceLeDiff, ↓reduceIte, reduceCtorEq, eq_self, *])
     have ay : d.coming ≠ [] := by
      intro a7
      have := ag.out
      unfold Ei at this
      rw [a7] at this
      dsimp only at this
      omega
     obtain ⟨c0, a9, a7⟩ : ∃ c0 a9, d.coming = c0 :: a9 := by
      cases hh : d.coming with
      | nil => exact absurd hh ay
      | cons a b => exact ⟨a, b, rfl⟩
     have am : Ei jobs d = (jb jobs c0).release := by unfold Ei; rw [a7]
     obtain ⟨r', q1, q2, q3, q4⟩ := Ae4 (e := e') c.S Kz.out.2.1 hri.out Kz.out.2.2.1 Kz.out.2.2.2 a7 (bk.out c0 (by rw [a7]; simp)) (.inr (by rw [← am]; have := ag.out; omega))
     rw [← am] at q1
     refine Next.mk (m, { d with now := Ei jobs d }, r') ⟨?_, q1, q2, a3.out.trans q3, rfl, rfl, rfl, rfl⟩ q4
     have k6 := K5.out
     unfold Kr at k6
     have e6 : Dw { m with vc := m.vc } { d with now := Ei jobs d, running := d.running, coming := d.coming } = .pointer none := by unfold Dw; dsimp only; rw [Kz.out.2.2.1]
     rw [e6] at k6
     exact k6
   ·obtain ⟨o, bm, aa, aq, p, b6, ap, b3, av⟩ := Yx c.S f (fun i hi => a8 i hi) b1.out a5 (fun u hu => by have := ak u hu; rw [c.Pl, c.Pl] at this; exact this)
    have be : o = i := by rw [as] at aa; cases aa; rfl
    subst be
    have hB : (back jobs d).now = d.now ∧ (back jobs d).coming = d.coming := by unfold back; split <;> exact ⟨rfl, rfl⟩
    have hS : (chosen (back jobs d) rd o).now = d.now ∧ (chosen (back jobs d) rd o).coming = d.coming ∧ ∀ u, (chosen (back jobs d) rd o).q u = d.q u := by
     have bj : ∀ u, (back jobs d).q u = d.q u := fun u => by unfold back; split <;> rfl
     refine ⟨?_, ?_, fun u => ?_⟩
     ·unfold chosen; split <;> exact hB.1
     ·unfold chosen; split <;> exact hB.2
     ·rw [← bj u]; unfold chosen; split <;> rfl
    generalize chosen (back jobs d) rd o = s3 at *
    obtain ⟨af, ax, ao⟩ := hS
    have ad : h3[m.x]? = some (.cells [m.vj, m.vc, Am m.hb, .map (some m.mb), .int .i64 s3.now, m.vs, m.ve, Dw m s3] false) := k3.X.is
    have y : Dw m s3 = Am (m.w o) := by unfold Dw; rw [ap]
    rw [y] at ad
    have a2 : o ∈ s3.q (jb jobs o).task := by rw [ao, aq, as]; simp
    obtain ⟨c3, bi, bd, bo⟩ := k3.W _ o a2
    obtain ⟨y1, y2, y3⟩ := Ug c.S p hri.out a2
    have bg := c.S.ok.work _ (Ey ((p.mem _ o).1 a2).1)
    have a6 : ∀ k ∈ s3.coming, k < jobs.length := fun k hk => (p.coming k hk).1
    have bq := U3 hE k3 a6
    have al := X8 p
    have br : s3.now < Ei jobs s3 := by
     unfold Ei
     cases hc3 : s3.coming with
     | nil => dsimp only; rw [af]; omega
     | cons a b => dsimp only; rw [af]; exact a8 a (by rw [← ax, hc3]; simp)
    have c6 : Ei jobs s3 ≤ 9223372036854775807 := by
     unfold Ei
     cases hc3 : s3.coming with
     | nil => exact Int.le_refl _
     | cons a b =>
      have := (c.S.ok.rel _ (Ey (a6 a (by rw [hc3]; simp)))).2
      unfold Dg at this
      dsimp only; omega
    rw [← z] at g0 g4 ⊢
    rw [← af] at az b5
    have K3 := Hid.mk (AI k3 p)
    have a0 := Hid.mk (AI ap (AI b6 av))
    have b2 : Hid (s3.sec o = 0 → ∀ u, s3.q u ≠ [] → (atI l (jb jobs o).task).P ≤ (atI l u).P) := ⟨fun _ u hu => by rw [aq]; exact b3 u (by rw [← ao]; exact hu)⟩
    have bh := Hid.mk al
    have bl := Hid.mk (z.trans b9.out)
    clear au ap b6 av b3 al y k3 p af ax ao hB as aa a5 ak aq a2 a4 a6 ar a8 bd bo z k2 f
    by_cases ab : 0 < s3.sec o
    ·(repeat' (first | (with_reducible refine A3 (fun _ => ?_) (fun _ => ?_) <;> try (exfalso; omega)) | simp -dsimp (disch := omega) only [↓EA, EB, Nat.reduceEqDiff, ↓reduceIte, reduceCtorEq, eq_self, *]))
     refine WX.mono (Qw hE c K3.out.1 K3.out.2 hri.out hsum a0.out.1 a0.out.2.1 b2.out (N := (min (s3.sec o) (e - s3.now))) (e := e') (by omega) (.inl (by omega)) (by omega) hW) (fun b hb => hb) fun v9 h9 ⟨g9, s9, r9, k9, a1, z1, z2, z3, z4⟩ => ?_
     have K9 := Hid.mk (AI k9 (AI z1 (AI z2 z3)))
     have v := Hid.mk a1
     clear k9 z1 z2 z3 a1
     (repeat' simp -dsimp (disch := omega) only [↓EA, EB, Nat.reduceEqDiff, ↓reduceIte, reduceCtorEq, eq_self, *])
     exact Next.mk (g9, s9, r9) ⟨K9.out.1, K9.out.2.1, K9.out.2.2.1, a3.out.trans K9.out.2.2.2, v.out, by show _ = Am g9.x; rw [v.out]; rfl, rfl, by show _ = Value.func (.func Al) #[Am g9.x] #[]; rw [v.out]; rfl⟩ z4
    ·have ac : s3.sec o = 0 := by omega
     have aw : s3.cuts o = [] := by rcases a0.out.2.2 with h5 | h5; omega; exact h5.2
     have c5 : 0 < s3.left o := by
      have h5 := (K3.out.2.mem (jb jobs o).task o).1 (Fl K3.out.2 a0.out.1).2.2
      have h6 := K3.out.2.left _ o (Fl K3.out.2 a0.out.1).2.2
      omega
     rw [ac] at bi
     have an := Hid.mk (AI ac aw)
     clear ac aw ab y1 y2
     (repeat' simp -dsimp (disch := omega) only [↓EA, EB, Nat.reduceEqDiff, ↓reduceIte, reduceCtorEq, eq_self, *])
     refine WX.mono (Qw hE c K3.out.1 K3.out.2 hri.out hsum a0.out.1 a0.out.2.1 b2.out (N := (min (min (s3.left o) (Ei jobs s3 - s3.now)) (e - s3.now))) (e := e') (by omega) (.inr ⟨an.out.1, an.out.2, by omega, fun k hk => by have := bh.out k hk; omega⟩) (by omega) hW) (fun b hb => hb) fun v9 h9 ⟨g9, s9, r9, k9, a1, z1, z2, z3, z4⟩ => ?_
     have K9 := Hid.mk (AI k9 (AI z1 (AI z2 z3)))
     have v := Hid.mk a1
     clear k9 z1 z2 z3 a1
     (repeat' simp -dsimp (disch := omega) only [↓EA, EB, Nat.reduceEqDiff, ↓reduceIte, reduceCtorEq, eq_self, *])
     exact Next.mk (g9, s9, r9) ⟨K9.out.1, K9.out.2.1, K9.out.2.2.1, a3.out.trans K9.out.2.2.2, v.out, by show _ = Am g9.x; rw [v.out]; rfl, rfl, by show _ = Value.func (.func Al) #[Am g9.x] #[]; rw [v.out]; rfl⟩ z4
  | some i =>
   have b7 : Dw g2 d = Am (g2.w i) := by unfold Dw; rw [hr2]
   rw [b7] at au
   have a2 := (Fl f.toSimC hr2).2.2
   obtain ⟨vc, w1, w2, w3⟩ := k2.W _ i a2
   obtain ⟨y1, y2, y3⟩ := Ug c.S f.toSimC hri.out a2
   have bg := c.S.ok.work _ (Ey ((f.mem _ i).1 a2).1)
   have b4 := Hid.mk hr2
   clear b7 hr2 w2 w3 a2
   by_cases ab : 0 < d.sec i
   ·have c1 := Aiv (l := l) f b4.out ab
    have c4 := Hid.mk c1
    have bt := Hid.mk ab
    clear c1
    (repeat' (first | (with_reducible refine A3 (fun _ => ?_) (fun _ => ?_) <;> try (exfalso; omega)) | simp -dsimp (disch := omega) only [↓EA, EB, Nat.reduceEqDiff, ↓reduceIte, reduceCtorEq, eq_self, *, Aay]))
    refine WX.mono (Qw hE c k2 f.toSimC hri.out hsum b4.out c4.out (fun h0 => absurd bt.out (by omega)) (N := (min (d.sec i) (e - d.now))) (e := e') (by omega) (.inl (by omega)) (by omega) hW) (fun b hb => hb) fun v9 h9 ⟨g9, s9, r9, k9, a1, z1, z2, z3, z4⟩ => ?_
    have K9 := Hid.mk (AI k9 (AI z1 (AI z2 z3)))
    have v := Hid.mk a1
    clear k9 z1 z2 z3 a1
    (repeat' simp -dsimp (disch := omega) only [↓EA, EB, Nat.reduceEqDiff, ↓reduceIte, reduceCtorEq, eq_self, *])
    exact Next.mk (g9, s9, r9) ⟨K9.out.1, K9.out.2.1, K9.out.2.2.1, a3.out.trans K9.out.2.2.2, v.out, by show _ = Am g9.x; rw [v.out]; rfl, rfl, by show _ = Value.func (.func Al) #[Am g9.x] #[]; rw [v.out]; rfl⟩ z4
   ·have ac : d.sec i = 0 := by omega
    rw [ac] at w1
    have an := Hid.mk ac
    clear ac ab y1 y2 y3 bg
    (repeat' (first | (with_reducible refine A1 (fun _ => ?_) (fun _ => ?_) <;> try (exfalso; omega)) | simp -dsimp (disch := omega) only [↓EA, EB, Nat.reduceEqDiff, ↓reduceIte, reduceCtorEq, eq_self, *, Aay]))
    clear w1
    have aj : ∀ k, d.running = some k → d.sec k = 0 := fun k hk => by rw [b4.out] at hk; cases hk; exact an.out
    have b1 := Hid.mk aj
    clear aj
    have ar := Aae hE c k2 f.toSimC hW
    refine WX.mono ar (fun b hb => hb) fun v3 h3 bn => ?_
    rcases bn with ⟨rfl, hz, m, k3, z⟩ | ⟨rfl, m, t, rd, i, bx, a5, ak, as, k3, z⟩
    ·have ae : d.running = none := by
      cases hh : d.running with
      | none => rfl
      | some j => unfold back at hz; rw [hh] at hz; simp at hz
     have ah : d.ready = [] := by unfold back at hz; rw [ae] at hz; exact hz
     have c2 := U3 hE k3 a4
     have ad : h3[m.x]? = some (.cells [m.vj, m.vc, Am m.hb, .map (some m.mb), .int .i64 d.now, m.vs, m.ve, Dw m d] false) := k3.X.is
     have y : Dw m d = .pointer none := by unfold Dw; rw [ae]
     rw [y] at ad
     rw [← z] at g0 g4 ⊢
     have bp := (GI.1 ad).1
     have bw := hW m.x (k3.B.ge (by rw [k3.X.tag]; decide))
     have Kz := Hid.mk (AI k3 (AI f (AI ae ah)))
     have bl := Hid.mk (z.trans b9.out)
     have b0 := X8 f.toSimC
     have bc := Hid.mk b0
     have bz := Hid.mk a4
     have bk := Hid.mk a8
     clear hz k3 ae ah z au b0 a4 ar a8 y k2 f
     by_cases ai : e ≤ Ei jobs d
     ·have ag := Hid.mk ai
      (repeat' simp -dsimp (disch := omega) only [↓EA, EB, Nat.reduceEqDiff, ↓reduceIte, reduceCtorEq, eq_self, *])
      obtain ⟨q1, q2⟩ := Aku c.S Kz.out.2.1 hri.out Kz.out.2.2.1 Kz.out.2.2.2 (e := e') fun k hk => ⟨bf, by have := bc.out k hk; have := ag.out; omega⟩
      rw [a3.out]
      exact ⟨m, d, Kz.out.1, rfl, q1, q2⟩
     ·have ag := Hid.mk ai
      have k5 := Kz.out.1.setX (vc := m.vc) (now := Ei jobs d) (running := d.running) (coming := d.coming) Kz.out.1.cr
      have K5 := Hid.mk k5
      clear k5
      (repeat' simp -dsimp (disch := omega) only [↓EA, EB, Nat.reduceEqDiff, Nat.reduceAdd, Nat.reduceLeDiff, ↓reduceIte, reduceCtorEq, eq_self, *])
      have ay : d.coming ≠ [] := by
       intro a7
       have := ag.out
       unfold Ei at this
       rw [a7] at this
       dsimp only at this
       omega
      obtain ⟨c0, a9, a7⟩ : ∃ c0 a9, d.coming = c0 :: a9 := by
       cases hh : d.coming with
       | nil => exact absurd hh ay
       | cons a b => exact ⟨a, b, rfl⟩
      have am : Ei jobs d = (jb jobs c0).release := by unfold Ei; rw [a7]
      obtain ⟨r', q1, q2, q3, q4⟩ := Ae4 (e := e') c.S Kz.out.2.1 hri.out Kz.out.2.2.1 Kz.out.2.2.2 a7 (bk.out c0 (by rw [a7]; simp)) (.inr (by rw [← am]; have := ag.out; omega))
      rw [← am] at q1
      refine Next.mk (m, { d with now := Ei jobs d }, r') ⟨?_, q1, q2, a3.out.trans q3, rfl, rfl, rfl, rfl⟩ q4
      have k6 := K5.out
      unfold Kr at k6
      have e6 : Dw { m with vc := m.vc } { d with now := Ei jobs d, running := d.running, coming := d.coming } = .pointer none := by unfold Dw; dsimp only; rw [Kz.out.2.2.1]
      rw [e6] at k6
      exact k6
    ·obtain ⟨o, bm, aa, aq, p, b6, ap, b3, av⟩ := Yx c.S f (fun i hi => a8 i hi) b1.out a5 (fun u hu => by have := ak u hu; rw [c.Pl, c.Pl] at this; exact this)
     have be : o = i := by rw [as] at aa; cases aa; rfl
     subst be
     have hB : (back jobs d).now = d.now ∧ (back jobs d).coming = d.coming := by unfold back; split <;> exact ⟨rfl, rfl⟩
     have hS : (chosen (back jobs d) rd o).now = d.now ∧ (chosen (back jobs d) rd o).coming = d.coming ∧ ∀ u, (chosen (back jobs d) rd o).q u = d.q u := by
      have bj : ∀ u, (back jobs d).q u = d.q u := fun u => by unfold back; split <;> rfl
      refine ⟨?_, ?_, fun u => ?_⟩
      ·unfold chosen; split <;> exact hB.1
      ·unfold chosen; split <;> exact hB.2
      ·rw [← bj u]; unfold chosen; split <;> rfl
     generalize chosen (back jobs d) rd o = s3 at *
     obtain ⟨af, ax, ao⟩ := hS
     have ad : h3[m.x]? = some (.cells [m.vj, m.vc, Am m.hb, .map (some m.mb), .int .i64 s3.now, m.vs, m.ve, Dw m s3] false) := k3.X.is
     have y : Dw m s3 = Am (m.w o) := by unfold Dw; rw [ap]
     rw [y] at ad
     have a2 : o ∈ s3.q (jb jobs o).task := by rw [ao, aq, as]; simp
     obtain ⟨c3, bi, bd, bo⟩ := k3.W _ o a2
     obtain ⟨y1, y2, y3⟩ := Ug c.S p hri.out a2
     have bg := c.S.ok.work _ (Ey ((p.mem _ o).1 a2).1)
     have a6 : ∀ k ∈ s3.coming, k < jobs.length := fun k hk => (p.coming k hk).1
     have bq := U3 hE k3 a6
     have al := X8 p
     have br : s3.now < Ei jobs s3 := by
      unfold Ei
      cases hc3 : s3.coming with
      | nil => dsimp only; rw [af]; omega
      | cons a b => dsimp only; rw [af]; exact a8 a (by rw [← ax, hc3]; simp)
     have c6 : Ei jobs s3 ≤ 9223372036854775807 := by
      unfold Ei
      cases hc3 : s3.coming with
      | nil => exact Int.le_refl _
      | cons a b =>
       have := (c.S.ok.rel _ (Ey (a6 a (by rw [hc3]; simp)))).2
       unfold Dg at this
       dsimp only; omega
     rw [← z] at g0 g4 ⊢
     rw [← af] at az b5
     have K3 := Hid.mk (AI k3 p)
     have a0 := Hid.mk (AI ap (AI b6 av))
     have b2 : Hid (s3.sec o = 0 → ∀ u, s3.q u ≠ [] → (atI l (jb jobs o).task).P ≤ (atI l u).P) := ⟨fun _ u hu => by rw [aq]; exact b3 u (by rw [← ao]; exact hu)⟩
     have bh := Hid.mk al
     have bl := Hid.mk (z.trans b9.out)
     clear au ap b6 av b3 al y k3 p af ax ao hB as aa a5 ak aq a2 a4 a6 ar a8 bd bo z k2 f
     by_cases ab : 0 < s3.sec o
     ·(repeat' (first | (with_reducible refine A3 (fun _ => ?_) (fun _ => ?_) <;> try (exfalso; omega)) | simp -dsimp (disch := omega) only [↓EA, EB, Nat.reduceEqDiff, ↓reduceIte, reduceCtorEq, eq_self, *]))
      refine WX.mono (Qw hE c K3.out.1 K3.out.2 hri.out hsum a0.out.1 a0.out.2.1 b2.out (N := (min (s3.sec o) (e - s3.now))) (e := e') (by omega) (.inl (by omega)) (by omega) hW) (fun b hb => hb) fun v9 h9 ⟨g9, s9, r9, k9, a1, z1, z2, z3, z4⟩ => ?_
      have K9 := Hid.mk (AI k9 (AI z1 (AI z2 z3)))
      have v := Hid.mk a1
      clear k9 z1 z2 z3 a1
      (repeat' simp -dsimp (disch := omega) only [↓EA, EB, Nat.reduceEqDiff, ↓reduceIte, reduceCtorEq, eq_self, *])
      exact Next.mk (g9, s9, r9) ⟨K9.out.1, K9.out.2.1, K9.out.2.2.1, a3.out.trans K9.out.2.2.2, v.out, by show _ = Am g9.x; rw [v.out]; rfl, rfl, by show _ = Value.func (.func Al) #[Am g9.x] #[]; rw [v.out]; rfl⟩ z4
     ·have ac : s3.sec o = 0 := by omega
      have aw : s3.cuts o = [] := by rcases a0.out.2.2 with h5 | h5; omega; exact h5.2
      have c5 : 0 < s3.left o := by
       have h5 := (K3.out.2.mem (jb jobs o).task o).1 (Fl K3.out.2 a0.out.1).2.2
       have h6 := K3.out.2.left _ o (Fl K3.out.2 a0.out.1).2.2
       omega
      rw [ac] at bi
      have an := Hid.mk (AI ac aw)
      clear ac aw ab y1 y2
      (repeat' simp -dsimp (disch := omega) only [↓EA, EB, Nat.reduceEqDiff, ↓reduceIte, reduceCtorEq, eq_self, *])
      refine WX.mono (Qw hE c K3.out.1 K3.out.2 hri.out hsum a0.out.1 a0.out.2.1 b2.out (N := (min (min (s3.left o) (Ei jobs s3 - s3.now)) (e - s3.now))) (e := e') (by omega) (.inr ⟨an.out.1, an.out.2, by omega, fun k hk => by have := bh.out k hk; omega⟩) (by omega) hW) (fun b hb => hb) fun v9 h9 ⟨g9, s9, r9, k9, a1, z1, z2, z3, z4⟩ => ?_
      have K9 := Hid.mk (AI k9 (AI z1 (AI z2 z3)))
      have v := Hid.mk a1
      clear k9 z1 z2 z3 a1
      (repeat' simp -dsimp (disch := omega) only [↓EA, EB, Nat.reduceEqDiff, ↓reduceIte, reduceCtorEq, eq_self, *])
      exact Next.mk (g9, s9, r9) ⟨K9.out.1, K9.out.2.1, K9.out.2.2.1, a3.out.trans K9.out.2.2.2, v.out, by show _ = Am g9.x; rw [v.out]; rfl, rfl, by show _ = Value.func (.func Al) #[Am g9.x] #[]; rw [v.out]; rfl⟩ z4
 ·(repeat' simp -dsimp (disch := omega) only [↓EA, EB, Nat.reduceEqDiff, ↓reduceIte, reduceCtorEq, eq_self, *])
  obtain ⟨q1, q2⟩ := Aq9 K.out.2 bf (by have := c7; omega)
  rw [a3.out]
  exact ⟨g1, s1, K.out.1, rfl, q1, q2⟩
end Go.L.Try
namespace Go.L.Try
open Go Go.L
variable {E : Env}
theorem Rd.nt {α : Type} {sz : Nat} {enc : α → List Value} {h : Aa} {v : Value} {l : List α} (r : Rd sz enc h v l) : C3 v = true := by
 obtain ⟨a, n, c, rfl⟩ := r.shape.1; rfl
def GotX (m : Nat) (s : RS) (h : Aa) (v : Value) : Prop := ∃ vs, v = .tuple vs.toArray ∧ Each h [fun h v => RdM m 3 Ro h v s.L, fun h v => RdM m 1 Cj h v s.ends] vs
theorem GotX.movable {m : Nat} (s : RS) : Movable m (GotX m s) 2 :=
 Movable.tuples (fun R hR => by
  rcases List.mem_cons.1 hR with rfl | hR
  ·exact RdM.movable At7 _
  ·rw [List.mem_singleton.1 hR]; exact RdM.movable Xa _) (by simp)
theorem Apm (hE : Ap E) {h : Aa} {bx : Nat} {vl : Value} {l : List Af} (hb : h[bx]? = some (.cells [vl] false)) (hl : Rd 7 Az h vl l) {a b : Int} (ha : 0 ≤ a ∧ a < l.length) (hb2 : 0 ≤ b ∧ b < l.length) :
  callW E (.func (.func B6) #[] #[.pointer (some ⟨bx, 0, none⟩)]) [.int .i64 a, .int .i64 b] h = some (.bool (decide ((atI l a).P < (atI l b).P)), h, []) := by
 rw [Aau hE.Ta]
 refine Ai hE.Ta rfl (by simp) ?_
 simp only [List.nil_append, List.cons_append, Ah]
 (repeat' simp -dsimp (disch := omega) only [↓EA, EB, Nat.reduceEqDiff, Nat.reduceAdd, ↓reduceIte, reduceCtorEq, eq_self, *, hl.ixs, hl.ld, Az])
theorem Aon (hE : Ap E) {W : Nat → Prop} {hB : Aa} {m x : Nat} {c0 c1 c2 c3 c4 c5 c7 : Value} {k : Nat} (hx : hB[x]? = some (.cells [c0, c1, c2, c3, c4, c5, .slice none 0 0, c7] false)) (hm : m ≤ x) (hW : ∀ b, m ≤ b → W b) (hk : k ≤ 1048576)
  {fr : Fr} {e : Value} (g2 : get fr 2 = e) (g8 : get fr 8 = Am x) (g25 : get fr 25 = .int .i64 k) (g26 : get fr 26 = .int .i64 0) {Q : Ex → Fr → Aa → Prop}
  (hq : ∀ fr' h' ve, get fr' 2 = e → get fr' 8 = Am x → OwnT hB.length 1 Cj h' ve (List.replicate k (-1)) → hB.length ≤ h'.length → (∀ b, b < hB.length → b ≠ x → h'[b]? = hB[b]?) → h'[x]? = some (.cells [c0, c1, c2, c3, c4, c5, ve, c7] false) → Q (.exit 0) fr' h') :
  WO W (iterW (code (callW E) iterW 49 Ld) fr hB) Q := by
 have a2 := (GI.1 hx).1
 refine WO.loop (fun (a : Nat × Value) fr h' => OwnT hB.length 1 Cj h' a.2 (List.replicate a.1 (-1)) ∧ a.1 ≤ k ∧ hB.length ≤ h'.length ∧ (∀ b, b < hB.length → b ≠ x → h'[b]? = hB[b]?) ∧ h'[x]? = some (.cells [c0, c1, c2, c3, c4, c5, a.2, c7] false) ∧ get fr 2 = e ∧ get fr 8 = Am x ∧ get fr 25 = .int .i64 k ∧ get fr 26 = .int .i64 a.1) (fun a => k - a.1) ?_ (0, .slice none 0 0) ⟨OwnT.nil, Nat.zero_le _, Nat.le_refl _, fun b _ _ => rfl, hx, g2, g8, g25, g26⟩
 clear g2 g8 g25 g26 hx
 rintro ⟨i, ve⟩ fr h1 ⟨o, hi, hl, j, hx, g2, g8, g25, g26⟩
 dsimp only at o hi hl j hx g26 ⊢
 have ov := o.rd.one
 have cv := o.rd.cv
 have s := Hid.mk j
 have Hq := Hid.mk hq
 have O := Hid.mk o
 clear j hq o
 unfold Ld
 by_cases a5 : i < k
 ·have a3 := hW x hm
  have v : ∀ y, (h1 ++ y)[x]? = some (.cells [c0, c1, c2, c3, c4, c5, ve, c7] false) := fun y => by rw [GL (by omega)]; exact hx
  have r : x < h1.length := by omega
  (repeat' (first | (with_reducible refine A3 (fun _ => ?_) (fun _ => ?_) <;> try (exfalso; omega)) | simp -dsimp (disch := omega) only [↓EA, EB, Nat.reduceEqDiff, Nat.reduceLeDiff, Nat.reduceMul, ↓reduceIte, Ab, T9, eq_self, *]))
  refine Sh (α := Int) (h0 := []) (O.out.app _) (fun b o p => by simp at p) (Nat.zero_le _) (by rw [LA]; omega) (fun d => hW _ (by have := O.out.ge d; omega)) (-1 : Int) (by rw [Bl, Bk]; rfl) rfl (by decide) (by decide) (by rw [List.length_replicate]; omega) fun v' h2 n p2 g u f => ?_
  rw [LA, List.length_singleton] at g u f
  have l : List.replicate i (-1 : Int) ≠ [] → hB.length ≤ blk ve := fun d => O.out.ge d
  have a0 : h2[x]? = some (.cells [c0, c1, c2, c3, c4, c5, ve, c7] false) := by
   rw [f x (by omega) (fun d e => by have := l d; omega), GL r]; exact hx
  have t := (GI.1 a0).1
  have a4 := n.rd.one
  have a1 := n.rd.cv
  have c : ∀ b, b < hB.length → b ≠ x → h2[b]? = hB[b]? := fun b p d => by
   rw [f b (by omega) (fun z e => by have := l z; omega), GL (by omega)]; exact s.out b p d
  have HH := Hid.mk (AI c (AI n g))
  clear c n g f v p2 l hx
  (repeat' simp -dsimp (disch := omega) only [↓EA, EB, Nat.reduceEqDiff, Nat.reduceAdd, Nat.reduceLeDiff, ↓reduceIte, eq_self, *])
  obtain ⟨c, n, g⟩ := HH.out
  refine Next.mk (i + 1, v') ⟨?_, by dsimp only; omega, by rw [List.length_set]; omega, fun b p d => ?_, Bx t, rfl, rfl, rfl, by simp only [get]; simp⟩ (by dsimp only; omega)
  ·dsimp only
   rw [List.replicate_succ']
   exact OwnT.keep n fun _ => Aq (by omega)
  ·rw [Aq (Ne.symm d)]; exact c b p d
 ·have e1 : i = k := by omega
  subst e1
  (repeat' (first | (with_reducible refine A3 (fun _ => ?_) (fun _ => ?_) <;> try (exfalso; omega)) | simp -dsimp (disch := omega) only [↓EA, EB, Nat.reduceEqDiff, ↓reduceIte, eq_self, *]))
  exact Hq.out _ _ ve rfl rfl O.out hl s.out hx
def Ym (m hb k : Nat) (b : Nat) : Nat := if b < m then 5 else if b = m then 2 else if b = m + 1 then 0 else if b = hb then 1 else if k ≤ b then 4 else 5
theorem Avs {m hb k b : Nat} (h : b < m) : Ym m hb k b = 5 := if_pos h
theorem Ayr {m hb k : Nat} : Ym m hb k m = 2 := by unfold Ym; rw [if_neg (Nat.lt_irrefl _), if_pos rfl]
theorem Ayq {m hb k : Nat} : Ym m hb k (m + 1) = 0 := by unfold Ym; rw [if_neg (by omega), if_neg (by omega), if_pos rfl]
theorem Ayt {m hb k : Nat} (h : m + 2 ≤ hb) : Ym m hb k hb = 1 := by unfold Ym; rw [if_neg (by omega), if_neg (by omega), if_neg (by omega), if_pos rfl]
theorem Ays {m hb k b : Nat} (h : m + 2 ≤ b) (h2 : hb < b) (h3 : k ≤ b) : Ym m hb k b = 4 := by unfold Ym; rw [if_neg (by omega), if_neg (by omega), if_neg (by omega), if_neg (by omega), if_pos h3]
def runU (l : List Af) (jobs : List Job) (e : Int) : RS := if legalB l jobs then Bb l jobs (max e 0) (Dp jobs.length) else ⟨0, -1, [], [], 0, []⟩
theorem Aqv (hE : Ap E) {h : Aa} {vl vj : Value} {l : List Af} {jobs : List Job} (hl : Rd 7 Az h vl l) (hs : ∀ t ∈ l, t.name.size < 1152921504606846976) (hj : RdJ h vj jobs) (hn : jobs.length ≤ 65536) (hsum : B9 jobs ≤ 1099511627776) {e : Int} (he : Lf e) :
  ∃ v ys, callW E (.func (.func Gv) #[] #[]) [vl, vj, .int .i64 e] h = some (v, h ++ ys, []) ∧ GotX h.length (runU l jobs e) (h ++ ys) v := by
 refine Ja hE.Aj6 rfl (GotX.movable _) (by simp) ?_
 have q := fun x => Azl hE (hl.app x) hs (hj.pre (Pre.app h x))
 have b4 := hl.one
 have b7 := hl.cv
 simp only [Ah]
 cases hb : legalB l jobs
 ·rw [hb] at q
  have hR : runU l jobs e = ⟨0, -1, [], [], 0, []⟩ := by simp [runU, hb]
  rw [hR]
  (repeat' simp -dsimp (disch := omega) only [↓EA, EB, Nat.reduceEqDiff, Nat.reduceAdd, ↓reduceIte, reduceCtorEq, Ab, eq_self, *])
  exact ⟨⟨_, rfl⟩, _, rfl, .cons ⟨Rd.of_nil, fun h => absurd rfl h⟩ (.cons ⟨Rd.of_nil, fun h => absurd rfl h⟩ .nil)⟩
 ·rw [hb] at q
  have hR : runU l jobs e = Bb l jobs (max e 0) (Dp jobs.length) := by simp [runU, hb]
  rw [hR]
  have Hb := Hid.mk hb
  clear hb hR
  have ae : (h ++ [LObj.cells [vl] false])[h.length]? = some (.cells [vl] false) := by rw [Bk]; rfl
  (repeat' simp -dsimp (disch := omega) only [↓EA, EB, Nat.reduceEqDiff, Nat.reduceAdd, ↓reduceIte, reduceCtorEq, Ab, eq_self, *])
  refine Ec (Ay6 hE (hj.pre (Pre.app h _)) hn) fun vo ys ⟨o, ho, g, c⟩ p1 => ?_
  have a3 := p1 _ _ ae
  have ao := (hl.app _).pre p1
  have a4 := (hj.pre (Pre.app h [LObj.cells [vl] false])).pre p1
  have ad := (Pre.app h [LObj.cells [vl] false]).trans p1
  generalize (h ++ [LObj.cells [vl] false]) ++ ys = H1 at ho p1 a3 ao a4 ad ⊢
  have b8 := ho.rd.one
  have b6 := ho.rd.cv
  obtain ⟨jl, a6, r, _⟩ := a4.is
  have b5 := r.one
  have bb := r.cv
  have bf : Rf false vj = some (.int .i64 jobs.length) := by rw [r.len, ← a6, List.length_map]
  have ar := (GI.1 a3).1
  have Ho := Hid.mk (AI ho (AI g c))
  have bg := Hid.mk (AI a6 r)
  clear ho g c p1 ae q a6 r
  (repeat' simp -dsimp (disch := omega) only [↓EA, EB, Nat.reduceEqDiff, Nat.reduceAdd, Nat.reduceLeDiff, ↓reduceIte, Ab, eq_self, *])
  obtain ⟨H2, p⟩ : ∃ H2 : Aa, H2 = H1 ++ [LObj.map [], LObj.cells [vj, vo, .pointer none, .map (some H1.length), .int .i64 0, .slice none 0 0, .slice none 0 0, .pointer none] false] := ⟨_, rfl⟩
  have am : H2[H1.length]? = some (.map []) := by rw [p, Bk]; rfl
  have ak : H2[H1.length + 1]? = some (LObj.cells [vj, vo, .pointer none, .map (some H1.length), .int .i64 0, .slice none 0 0, .slice none 0 0, .pointer none] false) := by rw [p, Og]; rfl
  have an : Pre H1 H2 := by rw [p]; exact Pre.app _ _
  have bc : H2.length = H1.length + 2 := by rw [p, LA]; rfl
  rw [← p]
  clear p
  refine Ec (Aw1 hE (h := H2) (f := B6) (bx := h.length) (by omega)) fun vh ys ⟨hb, eh, b3, u⟩ p3 => ?_
  subst eh
  have a7 := p3 _ _ am
  have a5 := p3 _ _ ak
  have a8 := an.trans p3
  have az := p3.le
  generalize H2 ++ ys = H3 at u p3 a7 a5 a8 az ⊢
  have a0 := (GI.1 a5).1
  have b2 := (GI.1 u).1
  have b1 : h.length ≤ H1.length + 1 := by omega
  clear am ak an p3
  obtain ⟨H4, j⟩ : ∃ H4 : Aa, H4 = List.set H3 (H1.length + 1) (LObj.cells [vj, vo, Am hb, .map (some H1.length), .int .i64 0, .slice none 0 0, .slice none 0 0, .pointer none] false) := ⟨_, rfl⟩
  have s : H4[H1.length + 1]? = some (LObj.cells [vj, vo, Am hb, .map (some H1.length), .int .i64 0, .slice none 0 0, .slice none 0 0, .pointer none] false) := by rw [j]; exact Bx a0
  have aa : H4[H1.length]? = some (.map []) := by rw [j, Aq (by omega)]; exact a7
  have ag : H4[hb]? = some (.cells [.func (.func B6) #[] #[Am h.length], .slice none 0 0, .int .u64 0] false) := by rw [j, Aq (by omega)]; exact u
  have a9 : Pre H1 H4 := by rw [j]; exact a8.set (by omega) _
  have be : H4.length = H3.length := by rw [j, List.length_set]
  have b0 := Hid.mk j.symm
  have ax := Hid.mk s
  clear j s a7 u a8 a0
  (repeat' simp -dsimp (disch := omega) only [↓EA, EB, Nat.reduceEqDiff, Nat.reduceAdd, Nat.reduceLeDiff, ↓reduceIte, eq_self, *])
  rw [b0.out]
  have s := ax.out
  clear a5
  (repeat' simp -dsimp (disch := omega) only [↓EA, EB, Nat.reduceEqDiff, Nat.reduceAdd, Nat.reduceLeDiff, Nat.reduceMul, ↓reduceIte, reduceCtorEq, Ab, T9, eq_self, *])
  refine Aon hE (m := h.length) (k := jobs.length) (e := .int .i64 e) s b1 (fun b hb => hb) (by omega) rfl rfl rfl rfl fun b9 h5 ve g2 g8 o5 ba z ab => ?_
  have ah : Pre H1 h5 := fun b o aj => by
   have bd := (GI.1 aj).1
   rw [z b (by omega) (by omega)]; exact a9 b o aj
  have d := Ut Hb.out
  have hS := Sk Hb.out
  have aq := Dj d.2.2
  obtain ⟨ho, g, c⟩ := Ho.out
  have a1 : Ctx E H1 (.func (.func B6) #[] #[Am h.length]) (fun t => (atI l t).P) l.length l jobs := ⟨hS, rfl, aq.2.1, fun _ => rfl, rfl, fun hh hp a b au av af ap => Apm hE (hp _ _ a3) (ao.pre hp) ⟨au, av⟩ ⟨af, ap⟩, d.2.1⟩
  have ai : ve ≠ .slice none 0 0 → H4.length ≤ blk ve := fun hn => OwnT.ge o5 (OwnT.ne o5 hn)
  have al : XInv H1 (.func (.func B6) #[] #[Am h.length]) (fun t => (atI l t).P) jobs ⟨H1.length + 1, hb, H1.length, fun _ => 0, fun _ => 0, Ym H1.length hb H4.length, vj, vo, .slice none 0 0, ve⟩ h5 (Aqj jobs.length o) :=
   {B := ⟨ah, fun b y => Avs y⟩
    H := ⟨[], fun b => b = hb, .nil (by rw [z hb (by omega) (by omega)]; exact ag), fun b y => by
     subst y
     exact Ayt (by omega), fun i h1 h2 => by simp at h2, List.Perm.refl _⟩
    M := ⟨[], by show h5[H1.length]? = _; rw [z _ (by omega) (by omega)]; exact aa, (fun e he => by cases he), fun t => rfl, Ayr⟩
    Q := fun t l h => by cases h
    W := fun t i h => by cases h
    S := ⟨OwnT.nil, fun h => absurd rfl h⟩
    E := ⟨(OwnT.rdO o5).less (by omega), fun hn => by
     have h7 : H4.length ≤ blk ve := ai hn
     show Ym H1.length hb H4.length (blk ve) = 4
     exact Ays (by omega) (by omega) h7⟩
    X := ⟨ab, Ayq⟩
    jr := a4
    cr := ho.rd }
  have a2 := Aw6 hE a1 al (Arb g c) (Jx jobs hS.ok.work) hsum he (W := fun b => h.length ≤ b) (fun b y => by omega)
  have n := Hid.mk (AI ad (AI ah ar))
  clear al a1 hS aq d z o5 ho g c ai s ab ag aa a9
  (repeat' simp -dsimp (disch := omega) only [↓EA, EB, Nat.reduceEqDiff, ↓reduceIte, eq_self, *])
  refine WX.mono a2 (fun b hb => hb) fun v6 h6 ⟨gR, sR, kR, ay, hL, ac⟩ => ?_
  have aw : h6[gR.x]? = some (.cells [gR.vj, gR.vc, Am gR.hb, .map (some gR.mb), .int .i64 sR.now, gR.vs, gR.ve, Dw gR sR] false) := kR.X.is
  rw [ay] at aw
  have KR := Hid.mk kR
  have HL := Hid.mk (AI hL ac)
  clear kR hL ac a2
  (repeat' simp -dsimp (disch := omega) only [↓EA, EB, Nat.reduceEqDiff, ↓reduceIte, eq_self, *])
  have as : Pre h h6 := n.out.1.trans KR.out.B.pre
  refine ⟨as.ex, _, rfl, .cons ?_ (.cons ?_ .nil)⟩
  ·rw [HL.out.1]
   exact ⟨KR.out.S.own.rd, fun hn => by have := OwnT.ge KR.out.S.own (OwnT.ne KR.out.S.own hn); have := n.out.1.le; omega⟩
  ·rw [HL.out.2]
   exact ⟨KR.out.E.own.rd, fun hn => by have := KR.out.B.ge (by rw [KR.out.E.tag hn]; decide); have := n.out.1.le; omega⟩
theorem A2m (hE : Ap E) {h : Aa} {vl vj : Value} {l : List Af} {jobs : List Job} (hl : Rd 7 Az h vl l) (hs : ∀ t ∈ l, t.name.size < 1152921504606846976) (hj : RdJ h vj jobs) (hn : jobs.length ≤ 65536) (hsum : B9 jobs ≤ 1099511627776) :
  ∃ v ys, callW E (.func (.func L8) #[] #[]) [vl, vj] h = some (v, h ++ ys, []) ∧ GotX h.length (runU l jobs 9223372036854775807) (h ++ ys) v := by
 refine Ja hE.Auc rfl (GotX.movable _) (by simp) ?_
 simp only [Ah]
 have d := Aqv hE hl hs hj hn hsum (e := 9223372036854775807) ⟨by decide, by decide⟩
 (repeat' simp -dsimp (disch := omega) only [↓EA, EB, Nat.reduceEqDiff, ↓reduceIte, reduceCtorEq, eq_self, *])
 refine Ec d fun v ys f p => ?_
 obtain ⟨r, rfl, c⟩ := f
 rcases c with _ | ⟨ra, _ | ⟨a, _ | _⟩⟩
 have o := ra.1.one
 have m := a.1.one
 have n := ra.1.cv
 have j := a.1.cv
 have s := Rd.nt ra.1
 have g := Rd.nt a.1
 (repeat' simp -dsimp (disch := omega) only [↓EA, EB, Nat.reduceEqDiff, ↓reduceIte, eq_self, *])
 exact ⟨⟨_, rfl⟩, _, rfl, .cons ra (.cons a .nil)⟩
end Go.L.Try
