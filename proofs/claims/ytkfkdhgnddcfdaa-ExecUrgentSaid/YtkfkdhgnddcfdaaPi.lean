/- ExecUrgent: the most urgent job runs, but for sections. -/
import Derived.Test.YtkfkdhgnddcfdaaPh
set_option linter.unusedVariables false
set_option linter.unusedSimpArgs false
set_option maxRecDepth 100000
set_option maxHeartbeats 2000000
namespace Go.L.Try
open Go Go.L
variable {E : Env}
theorem execUrgent (hE : Laid E) (ha : ∀ h, callW E (.func (.func n_cadencylaw10_awake) #[] #[]) [] h = some (.bool true, h, [])) {h : Heap} {vl vr : Value} {l : List Spec} {raw : List Raw} {turn : Int} (hl : Rd 5 encSp h vl l) (hr : RdR h vr raw) (ht : i64in turn) :
    callW E (.func (.func n_cadencylaw10_ExecUrgent) #[] #[]) [vl, vr, .int .i64 turn] h = some (.bool true, h, []) := by
  refine fn_same hE.cadencylaw10_ExecUrgent rfl (by simp) ?_
  simp only [argsF]
  (repeat' simp -dsimp (disch := omega) only [↓EA, EB, Nat.reduceEqDiff, Nat.reduceAdd, ↓reduceIte, reduceCtorEq, eq_self, *])
  refine wx_new (set04 hE hl (most := 5) (by decide) (by decide) ht) fun v1 ys r1 p1 => ?_
  have P1 := p1
  generalize _ ++ ys = H1 at r1 p1 P1 ⊢
  have hv := setP_valid l (most := 5) turn (by decide) (by decide)
  have hsl := setP_len l (most := 5) (turn := turn) (by decide)
  have hsm := fun t ht => setP_small (l := l) (most := 5) (turn := turn) (t := t) (by decide) (by decide) ht
  generalize setP l 5 turn = s at *
  have hnm : ∀ t ∈ s, t.name.size < 1152921504606846976 := fun t ht => by have := (hsm t ht).name; omega
  have o1 := r1.one
  have c1 := r1.cv
  clear p1
  (repeat' simp -dsimp (disch := omega) only [↓EA, EB, Nat.reduceEqDiff, ↓reduceIte, reduceCtorEq, eq_self, *])
  refine wx_new (few08 hE (hr.pre P1) (most := 10) (by decide) (by decide)) fun v2 ys r2 p2 => ?_
  have P2 := P1.trans p2
  replace r1 := r1.pre p2
  generalize _ ++ ys = H2 at r2 p2 P2 r1 ⊢
  clear p2 P1
  generalize hraw : List.map fewOf (List.take (10 : Int).toNat raw) = rw8 at *
  have hraw8 : rw8.length ≤ 10 := by rw [← hraw, List.length_map, List.length_take]; omega
  clear hraw
  (repeat' simp -dsimp (disch := omega) only [↓EA, EB, Nat.reduceEqDiff, ↓reduceIte, eq_self, *])
  refine wx_new (decode08 hE r1 hnm r2) fun v3 ys r3 p3 => ?_
  have P3 := P2.trans p3
  replace r1 := r1.pre p3
  generalize _ ++ ys = H3 at r3 p3 P3 r1 ⊢
  have sj := decode_small hv hsm rw8 hraw8 (by decide)
  clear p3 P2 r2
  generalize decodeP s rw8 = jobs at *
  have hsum : sumWork jobs ≤ 1099511627776 := by have := sj.sum; omega
  have hjl := sj.len
  have SJ := Hid.mk sj
  clear sj
  have hrun := runX hE r1 hnm r3 (by omega) hsum
  (repeat' simp -dsimp (disch := omega) only [↓EA, EB, Nat.reduceEqDiff, ↓reduceIte, eq_self, *])
  refine wx_new hrun fun v4 ys r4 p4 => ?_
  have P4 := P3.trans p4
  replace r1 := r1.pre p4
  replace r3 := r3.pre p4
  generalize _ ++ ys = H4 at r4 p4 P4 r1 r3 ⊢
  obtain ⟨vs, rfl, hv4⟩ := r4
  rcases hv4 with _ | @⟨_, _, va, _, ra, _ | @⟨_, _, vb, _, rb, _ | _⟩⟩
  have na := Rd.nt ra.1
  have nb := Rd.nt rb.1
  have oa := ra.1.one
  have ob := rb.1.one
  have ca := ra.1.cv
  have cb := rb.1.cv
  clear p4 P3 hrun
  obtain ⟨T, R⟩ := runU_at SJ.out.legal hsum
  have S := script_of SJ.out.legal
  have hT := runAt_T SJ.out.legal hsum R
  generalize runU s jobs 9223372036854775807 = rs at *
  have hsp := fun i hi => works_span S R (i := i) hi
  have htask := fun k hk => S.ok.task _ (jb_mem (jobs := jobs) (i := k) hk)
  have hrel := fun k hk => S.ok.rel _ (jb_mem (jobs := jobs) (i := k) hk)
  have hur := fun i hi k hk => urgent_span S R (q := fun i => (atI s (atI jobs i).task).Q) (fun i hi => cuts_q SJ.out.legal i hi) (fun i hi => (hsm _ (atI_mem (htask i hi).1 (htask i hi).2)).Q.1) (i := i) hi (k := k) hk
  have hel := R.elen
  obtain ⟨jl, rfl, hj⟩ := RdJ.open_ r3
  have fewl := ra.1.few
  have Hs := Hid.mk (And.intro hsp (And.intro hur (And.intro htask hrel)))
  rw [List.length_map] at hel hjl
  have hel' : (rs.ends.length : Int) = jl.length := by omega
  have hlb : lensV false vb = some (.int .i64 jl.length) := by rw [rb.1.len, hel']
  have ra1 := ra.1
  have rb1 := rb.1
  have hW0 := P4.le
  have bm : ∀ i : Int, 0 ≤ i → i < jl.length → (atI (jl.map NV.j) i) = (atI jl i).j := fun i h1 h2 => (atI_map' NV.j jl i h1 h2).symm
  have HB := Hid.mk bm
  clear hsp hur htask hrel S R hel' r3 ra rb SJ bm hsm
  (repeat' simp -dsimp (disch := omega) only [↓EA, EB, Nat.reduceEqDiff, ↓reduceIte, eq_self, *, hj.len])
  refine WO.loop (fun (i : Nat) fr h' => Pre H4 h' ∧ i ≤ rs.L.length ∧ get fr 7 = .bool true ∧ get fr 8 = v1 ∧ get fr 9 = v3 ∧ get fr 10 = va ∧ get fr 11 = vb ∧ get fr 12 = .int .i64 i) (fun i => rs.L.length - i) ?_ 0 ⟨Pre.refl _, Nat.zero_le _, rfl, rfl, rfl, rfl, rfl, rfl⟩
  rintro i fr h' ⟨hp, hi, g7, g8, g9, g10, g11, g12⟩
  have ra2 := ra1.pre hp
  have rb2 := rb1.pre hp
  have hj2 := hj.pre hp
  have r12 := r1.pre hp
  have hlen := hp.le
  have hWn : h.length ≤ h'.length := by omega
  unfold c_cadencylaw10_ExecUrgent_l1
  by_cases hlt : i < rs.L.length
  · obtain ⟨q1, q2, q3, q4, q5, q6, q7⟩ := Hs.out.1 i hlt
    have hu := Hs.out.2.1 i hlt
    rw [List.length_map] at q1 hu
    obtain ⟨j, hjj⟩ : ∃ j : Nat, (atI rs.L (i : Int)).job = j := ⟨(atI rs.L (i : Int)).job.toNat, by omega⟩
    rw [hjj] at q1 hu
    have hjn : j < jl.length := by omega
    have ht1 := Hs.out.2.2.1 j (by rw [List.length_map]; exact hjn)
    rw [show jb (jl.map NV.j) j = (atI jl (j : Int)).j from HB.out _ (by omega) (by omega)] at ht1
    rw [HB.out _ q1.1 q1.2] at hu
    have HU := Hid.mk (And.intro hu hjj)
    clear q7 hu
    have hi2 : (i : Int) < rs.L.length := by omega
    (repeat' (first | (with_reducible refine A2 (fun _ => ?_) (fun _ => ?_) <;> try (exfalso; omega)) | (with_reducible refine A3 (fun _ => ?_) (fun _ => ?_) <;> try (exfalso; omega)) | simp -dsimp (disch := omega) only [↓EA, EB, Nat.reduceEqDiff, Nat.reduceAdd, ↓reduceIte, newCells, eq_self, *, hj2.len, ra2.len, ra2.ixs, ra2.lda, encS]))
    obtain ⟨h2, hh2⟩ : ∃ h2 : Heap, h2 = h' ++ [LObj.cells [.int .i64 j, .int .i64 (atI rs.L (i : Int)).from', .int .i64 (atI rs.L (i : Int)).to'] false] := ⟨_, rfl⟩
    have hp2 : Pre h' h2 := by rw [hh2]; exact Pre.app _ _
    have hc2 : h2[h'.length]? = some (LObj.cells [.int .i64 j, .int .i64 (atI rs.L (i : Int)).from', .int .i64 (atI rs.L (i : Int)).to'] false) := by rw [hh2, geta0]; rfl
    rw [← hh2]
    have hj3 := hj2.pre hp2
    have rb3 := rb2.pre hp2
    have r13 := r12.pre hp2
    have Hp := Hid.mk (hp.trans hp2)
    clear hh2 hp2 hj2 rb2 ra2 r12
    refine WO.loop (fun (k : Nat) fr h'' => h'' = h2 ∧ k ≤ jl.length ∧ get fr 7 = .bool true ∧ get fr 8 = v1 ∧ get fr 9 = v3 ∧ get fr 10 = va ∧ get fr 11 = vb ∧ get fr 12 = .int .i64 i ∧ get fr 13 = .pointer (some ⟨h'.length, 0, none⟩) ∧ get fr 14 = .int .i64 k) (fun k => jl.length - k) ?_ 0 ⟨rfl, Nat.zero_le _, rfl, rfl, rfl, rfl, rfl, rfl, rfl, rfl⟩
    rintro k fr h'' ⟨rfl, hk, g7, g8, g9, g10, g11, g12, g13, g14⟩
    unfold c_cadencylaw10_ExecUrgent_l0
    by_cases hkl : k < jl.length
    · have h7 := HU.out.1 k hkl
      have hr7 := Hs.out.2.2.2 k (by rw [List.length_map]; exact hkl)
      have ht2 := Hs.out.2.2.1 k (by rw [List.length_map]; exact hkl)
      rw [show jb (jl.map NV.j) k = (atI jl (k : Int)).j from HB.out _ (by omega) (by omega)] at h7 hr7 ht2
      unfold lastRel at hr7
      have hk2 : (k : Int) < jl.length ∧ (k : Int) < rs.ends.length := by omega
      (repeat' (first | (with_reducible refine A1 (fun _ => ?_) (fun _ => ?_) <;> try (exfalso; omega)) | (with_reducible refine A2 (fun _ => ?_) (fun _ => ?_) <;> try (exfalso; omega)) | (with_reducible refine A3 (fun _ => ?_) (fun _ => ?_) <;> try (exfalso; omega)) | simp -dsimp (disch := omega) only [↓EA, EB, Nat.reduceEqDiff, ↓reduceIte, eq_self, *, hj3.len, hj3.ixs, hj3.ld, hj3.ld0, rb3.ixs, rb3.ld0, r13.ixs, r13.ld, encN, hdJ, encI, encT]))
      all_goals exact Next.mk (k + 1) ⟨rfl, by omega, rfl, rfl, rfl, rfl, rfl, rfl, rfl, by simp only [get]; simp⟩ (by omega)
    · have hk2 : ¬ (k : Int) < jl.length := by omega
      (repeat' simp -dsimp (disch := omega) only [↓EA, EB, Nat.reduceEqDiff, ↓reduceIte, eq_self, *, hj3.len])
      exact Next.mk (i + 1) ⟨Hp.out, by omega, rfl, rfl, rfl, rfl, rfl, by simp only [get]; simp⟩ (by omega)
  · have hi2 : ¬ (i : Int) < rs.L.length := by omega
    (repeat' simp -dsimp (disch := omega) only [↓EA, EB, Nat.reduceEqDiff, ↓reduceIte, eq_self, *, ra2.len])
end Go.L.Try
