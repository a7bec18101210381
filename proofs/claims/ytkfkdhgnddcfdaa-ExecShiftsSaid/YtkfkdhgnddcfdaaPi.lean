/- ExecShifts: all so much later. -/
import Derived.Test.YtkfkdhgnddcfdaaPh
set_option linter.unusedVariables false
set_option linter.unusedSimpArgs false
set_option maxRecDepth 100000
set_option maxHeartbeats 2000000
namespace Go.L.Try
open Go Go.L
variable {E : Env}
theorem low40 (q : EqK) (a : Int) : ∃ k : Nat, k < 1099511627776 ∧ binOp .and q (.int .i64 a) (.int .i64 1099511627775) = some (.int .i64 k) := by
  have h2 : (BitVec.ofInt 64 a &&& BitVec.ofInt 64 1099511627775).toNat < 1099511627776 := by
    rw [BitVec.toNat_and]
    have e : (BitVec.ofInt 64 1099511627775).toNat = 2 ^ 40 - 1 := by decide
    rw [e, Nat.and_two_pow_sub_one_eq_mod]
    exact Nat.mod_lt _ (by decide)
  refine ⟨(BitVec.ofInt 64 a &&& BitVec.ofInt 64 1099511627775).toNat, h2, ?_⟩
  simp only [binOp, intOp, if_true]
  congr 2
  exact wrap_i64 (by show (-9223372036854775808 : Int) ≤ ((BitVec.ofInt 64 a &&& BitVec.ofInt 64 1099511627775).toNat : Int); omega) (by show ((BitVec.ofInt 64 a &&& BitVec.ofInt 64 1099511627775).toNat : Int) < _; omega)
theorem RdJ.open2 {h : Heap} {v : Value} {jobs : List Job} (r : RdJ h v jobs) : ∃ jl : List (NV Job), jobs = jl.map NV.j ∧ Rd 5 (encN hdJ) h v jl ∧ ∀ p ∈ jl, Rd 1 encI h p.v p.j.cuts := by
  obtain ⟨jl, h1, h2, h3⟩ := r.is
  exact ⟨jl, h1.symm, h2, h3⟩
theorem execShifts (hE : Laid E) (ha : ∀ h, callW E (.func (.func n_cadencylaw10_awake) #[] #[]) [] h = some (.bool true, h, [])) {h : Heap} {vl vr : Value} {l : List Spec} {raw : List Raw} {by' : Int} (hl : Rd 5 encSp h vl l) (hr : RdR h vr raw) (hb : i64in by') :
    callW E (.func (.func n_cadencylaw10_ExecShifts) #[] #[]) [vl, vr, .int .i64 by'] h = some (.bool true, h, []) := by
  refine fn_same hE.cadencylaw10_ExecShifts rfl (by simp) ?_
  have hrl : lensV false vr = some (.int .i64 raw.length) := by
    obtain ⟨lw, rfl, hlw, _⟩ := hr.is
    rw [hlw.len, List.length_map]
  have few := hr.few
  have hti : i64in (raw.length : Int) := by unfold i64in; omega
  obtain ⟨k, hk, hand⟩ := low40 .other by'
  have hkk : (k : Int) < 1099511627776 := by omega
  simp only [argsF]
  (repeat' simp -dsimp (disch := omega) only [↓EA, EB, Nat.reduceEqDiff, Nat.reduceAdd, ↓reduceIte, reduceCtorEq, eq_self, *])
  refine wx_new (set04 hE hl (most := 5) (by decide) (by decide) hti) fun v1 ys r1 p1 => ?_
  have P1 := p1
  generalize _ ++ ys = H1 at r1 p1 P1 ⊢
  have hv := setP_valid l (most := 5) (raw.length : Int) (by decide) (by decide)
  have hsl := setP_len l (most := 5) (turn := (raw.length : Int)) (by decide)
  have hsm := fun t ht => setP_small (l := l) (most := 5) (turn := (raw.length : Int)) (t := t) (by decide) (by decide) ht
  generalize setP l 5 (raw.length : Int) = s at *
  have hnm : ∀ t ∈ s, t.name.size < 1152921504606846976 := fun t ht => by have := (hsm t ht).name; omega
  have o1 := r1.one
  have c1 := r1.cv
  clear p1
  (repeat' simp -dsimp (disch := omega) only [↓EA, EB, Nat.reduceEqDiff, ↓reduceIte, reduceCtorEq, eq_self, *])
  refine wx_new (few08 hE (hr.pre P1) (most := 10) (by decide) (by decide)) fun v2 ys r2 p2 => ?_
  have P2 := P1.trans p2
  replace r1 := r1.pre p2
  generalize _ ++ ys = H2 at r2 p2 P2 r1 ⊢
  clear p2 P1
  generalize hraw : List.map fewOf (List.take (10 : Int).toNat raw) = rw8 at *
  have hraw8 : rw8.length ≤ 10 := by rw [← hraw, List.length_map, List.length_take]; omega
  clear hraw
  (repeat' simp -dsimp (disch := omega) only [↓EA, EB, Nat.reduceEqDiff, ↓reduceIte, eq_self, *])
  refine wx_new (decode08 hE r1 hnm r2) fun v3 ys r3 p3 => ?_
  have P3 := P2.trans p3
  replace r1 := r1.pre p3
  generalize _ ++ ys = H3 at r3 p3 P3 r1 ⊢
  have sj := decode_small hv hsm rw8 hraw8 (by decide)
  clear p3 P2 r2
  generalize decodeP s rw8 = jobs at *
  have hsum : sumWork jobs ≤ 1099511627776 := by have := sj.sum; omega
  have hjl := sj.len
  have SJ := Hid.mk sj
  clear sj
  obtain ⟨jl, hjl2, hj, hcuts⟩ := RdJ.open2 r3
  have hlen : jl.length ≤ 10 := by rw [hjl2, List.length_map] at hjl; exact hjl
  have hW0 := P3.le
  have harr : ∀ i : Nat, i < jl.length → (0 ≤ (atI jl (i : Int)).j.arrive ∧ (atI jl (i : Int)).j.arrive ≤ 42949672960) ∧ (0 ≤ (atI jl (i : Int)).j.release ∧ (atI jl (i : Int)).j.release ≤ 42949672960 + 20) := fun i hi => by
    have hm : (atI jl (i : Int)).j ∈ jobs := by rw [hjl2]; exact List.mem_map_of_mem (atI_mem (by omega) (by omega))
    have h1 := SJ.out.small _ hm
    have h2 := jobOK_mem SJ.out.legal hm
    have h3 := (hsm _ (atI_mem h2.task.1 h2.task.2)).J
    have h4 := (hsm _ (atI_mem h2.task.1 h2.task.2)).D
    have h6 := (hsm _ (atI_mem h2.task.1 h2.task.2)).C
    have h5 := h2.release
    omega
  have Harr := Hid.mk harr
  have Hcuts := Hid.mk hcuts
  have Hjl2 := Hid.mk hjl2
  clear harr hcuts hjl2
  (repeat' simp -dsimp (disch := omega) only [↓EA, EB, Nat.reduceEqDiff, ↓reduceIte, eq_self, *])
  refine WO.loop (fun (a : Nat × Value) fr h' => Pre H3 h' ∧ a.1 ≤ jl.length ∧ OwnT H3.length 5 (encN hdJ) h' a.2 ((jl.take a.1).map fun p => ⟨laterJ k p.j, p.v⟩) ∧ get fr 7 = .bool true ∧ get fr 8 = v1 ∧ get fr 9 = v3 ∧ get fr 10 = .int .i64 k ∧ get fr 11 = a.2 ∧ get fr 12 = .int .i64 a.1) (fun a => jl.length - a.1) ?_ (0, .slice none 0 0) ⟨Pre.refl _, Nat.zero_le _, OwnT.nil, rfl, rfl, rfl, rfl, rfl, rfl⟩
  rintro ⟨i, vo⟩ fr h' ⟨hp, hi, ho, g7, g8, g9, g10, g11, g12⟩
  dsimp only at hp hi ho g11 g12 ⊢
  have hj2 := hj.pre hp
  have oo := ho.rd.one
  have co := ho.rd.cv
  have hlh := hp.le
  unfold c_cadencylaw10_ExecShifts_l0
  by_cases hlt : i < jl.length
  · have h1 := Harr.out i hlt
    have hi2 : (i : Int) < jl.length := by omega
    have hcu := Hcuts.out _ (atI_mem (l := jl) (i := (i : Int)) (by omega) hi2)
    have ocu := hcu.one
    have ccu := hcu.cv
    have HO := Hid.mk ho
    clear ho
    have hWh : h.length ≤ h'.length := by omega
    (repeat' simp -dsimp (disch := omega) only [↓EA, EB, Nat.reduceEqDiff, Nat.reduceAdd, Nat.reduceLeDiff, Nat.reduceMul, ↓reduceIte, newCells, bslV, eq_self, *, hj2.len, hj2.ixs, hj2.lda, encN, hdJ])
    refine wx_app2 (HO.out.app _) (hp.app' _) (Nat.le_refl _) (by rw [List.length_append]; omega) (fun hn => by have := HO.out.ge hn; omega) (⟨laterJ k (atI jl (i : Int)).j, (atI jl (i : Int)).v⟩ : NV Job) (by rw [cellsOf_some, geta]; rfl) rfl (by decide) (by decide) (by rw [List.length_map, List.length_take]; omega) fun v' h2 o2 p2 hb2 hl2 hk2 => ?_
    have O2 := Hid.mk (And.intro o2 p2)
    clear o2 p2 hb2 hl2 hk2
    (repeat' simp -dsimp (disch := omega) only [↓EA, EB, Nat.reduceEqDiff, ↓reduceIte, eq_self, *])
    refine Next.mk (i + 1, v') ⟨O2.out.2, by dsimp only; omega, ?_, rfl, rfl, rfl, rfl, rfl, by simp only [get]; simp⟩ (by dsimp only; omega)
    dsimp only
    have := O2.out.1
    rw [take_snoc hlt, List.map_append]; exact this
  · have hie : i = jl.length := by omega
    subst hie
    rw [List.take_length] at ho
    have hi2 : ¬ ((jl.length : Nat) : Int) < jl.length := by omega
    have rl := ho.rd
    have hcl : ∀ p ∈ jl.map (fun p => (⟨laterJ k p.j, p.v⟩ : NV Job)), Rd 1 encI h' p.v p.j.cuts := fun p hpm => by
      obtain ⟨x, hx, rfl⟩ := List.mem_map.1 hpm
      exact (Hcuts.out x hx).pre hp
    have hjs : (jl.map (fun p => (⟨laterJ k p.j, p.v⟩ : NV Job))).map NV.j = jobs.map (laterJ k) := by
      rw [Hjl2.out, List.map_map, List.map_map]; rfl
    have rJ : RdJ h' vo (jobs.map (laterJ k)) := ⟨_, hjs, rl, hcl⟩
    have hleg : legalB s (jobs.map (laterJ k)) = true := legal_map SJ.out.legal (f := laterJ k) (fun _ => rfl) (k := k) (fun _ => rfl) fun j hj => by
      have h1 := jobOK_mem SJ.out.legal hj
      have h2 := SJ.out.small _ hj
      have h3 := h1.release
      exact ⟨h1.task, by show 0 ≤ j.arrive + k ∧ j.arrive + k ≤ 17592186044416; omega, by show j.arrive + k ≤ j.release + k ∧ j.release + k ≤ j.arrive + k + (atI s j.task).J; omega, h1.work, h1.cuts⟩
    have hll : (jobs.map (laterJ k)).length = jobs.length := List.length_map ..
    have hsum2 : sumWork (jobs.map (laterJ k)) ≤ 1099511627776 := by
      have := sumWork_le (jobs := jobs.map (laterJ k)) (k := 4) fun j hj => by
        obtain ⟨x, hx, rfl⟩ := List.mem_map.1 hj
        exact (SJ.out.work x hx).2
      rw [hll] at this; omega
    have hrun1 := runX hE (r1.pre hp) hnm (r3.pre hp) (by omega) hsum
    have HJ := Hid.mk (And.intro rJ (And.intro hleg hsum2))
    clear ho rl hcl hjs rJ hleg hsum2
    have hP := P3.trans hp
    have r12 := r1.pre hp
    (repeat' simp -dsimp (disch := omega) only [↓EA, EB, Nat.reduceEqDiff, ↓reduceIte, eq_self, *, hj2.len])
    refine wx_new (hrun1) fun v5 ys r5 p5 => ?_
    have P5 := (hP).trans p5
    generalize _ ++ ys = H5 at r5 p5 P5 ⊢
    obtain ⟨vs, rfl, hv5⟩ := r5
    rcases hv5 with _ | @⟨_, _, va5, _, ra5, _ | @⟨_, _, vb5, _, rb5, _ | _⟩⟩
    have na5 := Rd.nt ra5.1
    have nb5 := Rd.nt rb5.1
    have oa5 := ra5.1.one
    have ob5 := rb5.1.one
    have ca5 := ra5.1.cv
    have cb5 := rb5.1.cv
    have rJ5 := HJ.out.1.pre p5
    have r15 := r12.pre p5
    have hrun2 := runX hE r15 hnm rJ5 (by rw [hll]; omega) HJ.out.2.2
    have ra5' := ra5.1
    have rb5' := rb5.1
    clear rJ5 p5 hrun1
    (repeat' simp -dsimp (disch := omega) only [↓EA, EB, Nat.reduceEqDiff, ↓reduceIte, eq_self, *])
    refine wx_new (hrun2) fun v6 ys r6 p6 => ?_
    have P6 := (P5).trans p6
    generalize _ ++ ys = H6 at r6 p6 P6 ⊢
    obtain ⟨vs, rfl, hv6⟩ := r6
    rcases hv6 with _ | @⟨_, _, va6, _, ra6, _ | @⟨_, _, vb6, _, rb6, _ | _⟩⟩
    have na6 := Rd.nt ra6.1
    have nb6 := Rd.nt rb6.1
    have oa6 := ra6.1.one
    have ob6 := rb6.1.one
    have ca6 := ra6.1.cv
    have cb6 := rb6.1.cv
    have ra56 := ra5'.pre p6
    have rb56 := rb5'.pre p6
    have ra6' := ra6.1
    have rb6' := rb6.1
    clear p6 hrun2
    obtain ⟨T, R⟩ := runU_at SJ.out.legal hsum
    obtain ⟨T', R'⟩ := runU_at HJ.out.2.1 HJ.out.2.2
    have S := script_of SJ.out.legal
    have S' := script_of HJ.out.2.1
    have hT := runAt_T SJ.out.legal hsum R
    obtain ⟨hL, hE2⟩ := later_run S S' R R'
    have hel := R.elen
    have hel' := R'.elen
    have hsp := fun i hi => works_span S R (i := i) hi
    have hen := fun i hi => works_end S R (k := i) hi
    rw [hll] at hel'
    generalize runU s jobs 9223372036854775807 = rs at *
    generalize runU s (jobs.map (laterJ k)) 9223372036854775807 = rs' at *
    rw [hL] at ra6'
    have few5 := ra56.few
    have hl1 : lensV false va5 = some (.int .i64 rs.L.length) := ra56.len
    have hl2 : lensV false va6 = some (.int .i64 rs.L.length) := by rw [ra6'.len, List.length_map]
    have hl3 : lensV false vb5 = some (.int .i64 jobs.length) := by rw [rb56.len, hel]
    have hl4 : lensV false vb6 = some (.int .i64 jobs.length) := by rw [rb6'.len, hel']
    have hjlen : (jobs.length : Int) = jl.length := by rw [Hjl2.out, List.length_map]
    have HF := Hid.mk (And.intro hE2 (And.intro hsp (And.intro hen hjlen)))
    have hl5 : lensV false v3 = some (.int .i64 jobs.length) := by rw [hj2.len, hjlen]
    have HEl := Hid.mk (And.intro hel hel')
    clear hE2 hsp hen hjlen hL hel hel' R R' S S' ra5' rb5' ra5 rb5 ra6 rb6
    have hP6 := P6.le
    (repeat' simp -dsimp (disch := omega) only [↓EA, EB, Nat.reduceEqDiff, ↓reduceIte, eq_self, *])
    refine WO.loop (fun (n : Nat) fr h'' => h'' = H6 ∧ n ≤ rs.L.length ∧ get fr 7 = .bool true ∧ get fr 10 = .int .i64 k ∧ get fr 14 = va5 ∧ get fr 15 = vb5 ∧ get fr 16 = va6 ∧ get fr 17 = vb6 ∧ get fr 18 = .int .i64 n) (fun n => rs.L.length - n) ?_ 0 ⟨rfl, Nat.zero_le _, rfl, rfl, rfl, rfl, rfl, rfl, rfl⟩
    rintro n fr h'' ⟨rfl, hn, g7, g10, g14, g15, g16, g17, g18⟩
    unfold c_cadencylaw10_ExecShifts_l1
    by_cases hnl : n < rs.L.length
    · obtain ⟨q1, q2, q3, q4, q5, q6, q7⟩ := HF.out.2.1 n hnl
      have hn2 : (n : Int) < rs.L.length := by omega
      have hlm : (n : Int) < (rs.L.map (laterS k)).length := by rw [List.length_map]; omega
      have em : atI (rs.L.map (laterS k)) (n : Int) = laterS k (atI rs.L (n : Int)) := atI_lmap (by omega) hn2
      clear q7 q1 q4 q5
      have q0 := q6.1
      have ed : ∀ a b c : Int, decide (¬ (a = a ∧ b = b ∧ c = c)) = false := fun a b c => by simp
      (repeat' simp -dsimp (disch := omega) only [↓EA, EB, Nat.reduceEqDiff, Nat.reduceAdd, Nat.reduceLeDiff, ↓reduceIte, eq_self, *, ra56.len, ra56.ixs, ra56.ld, ra56.ld0, ra6'.ixs, ra6'.lda, encS, laterS, bin_flat3])
      exact Next.mk (n + 1) ⟨rfl, by omega, rfl, rfl, rfl, rfl, rfl, rfl, by simp only [get]; simp⟩ (by omega)
    · have hn2 : ¬ (n : Int) < rs.L.length := by omega
      (repeat' simp -dsimp (disch := omega) only [↓EA, EB, Nat.reduceEqDiff, ↓reduceIte, eq_self, *])
      refine WO.loop (fun (n : Nat) fr h3 => h3 = h'' ∧ n ≤ jobs.length ∧ get fr 7 = .bool true ∧ get fr 10 = .int .i64 k ∧ get fr 15 = vb5 ∧ get fr 17 = vb6 ∧ get fr 19 = .int .i64 n) (fun n => jobs.length - n) ?_ 0 ⟨rfl, Nat.zero_le _, rfl, rfl, rfl, rfl, rfl⟩
      rintro n fr h3 ⟨rfl, hn, g7, g10, g15, g17, g19⟩
      unfold c_cadencylaw10_ExecShifts_l2
      by_cases hnj : n < jobs.length
      · have w1 := HF.out.1 n hnj
        have w2 := (HF.out.2.2.1 n hnj).2
        have w3 := (jobOK_of SJ.out.legal hnj)
        have w4 := w3.release
        have w5 := w3.arrive
        have w6 := w3.work
        have hn3 : (n : Int) < rs.ends.length ∧ (n : Int) < rs'.ends.length ∧ (n : Int) < jobs.length := by
          have := HEl.out; omega
        have HW := Hid.mk w1
        have hge : 0 ≤ atI rs.ends (n : Int) ∧ atI rs.ends (n : Int) ≤ 1117105961155840 := by omega
        clear w1 w2 w3 w4 w5 w6
        have ez : decide (¬ (atI rs'.ends (n : Int) = atI rs.ends (n : Int) + k)) = false := by rw [HW.out]; simp
        (repeat' simp -dsimp (disch := omega) only [↓EA, EB, Nat.reduceEqDiff, ↓reduceIte, eq_self, *, rb56.len, rb56.ixs, rb56.ld0, rb6'.ixs, rb6'.ld0, encI])
        exact Next.mk (n + 1) ⟨rfl, by omega, rfl, rfl, rfl, rfl, by simp only [get]; simp⟩ (by omega)
      · have hn3 : ¬ (n : Int) < jobs.length := by omega
        (repeat' simp -dsimp (disch := omega) only [↓EA, EB, Nat.reduceEqDiff, ↓reduceIte, eq_self, *])
end Go.L.Try
