/- ExecWorks: each job runs for just its work. -/
import Derived.Test.YtkfkdhgnddcfdaaPh
set_option linter.unusedVariables false
set_option linter.unusedSimpArgs false
set_option maxRecDepth 100000
set_option maxHeartbeats 2000000
namespace Go.L.Try
open Go Go.L
variable {E : Env}
def worksW (L : List Span) (n i : Nat) : List Int := (List.range n).map fun k : Nat => spanW (L.take i) (k : Int)
theorem worksW_len (L : List Span) (n i : Nat) : (worksW L n i).length = n := by simp [worksW]
theorem worksW_at (L : List Span) {n i k : Nat} (hk : k < n) : atI (worksW L n i) (k : Int) = spanW (L.take i) (k : Int) := by
  rw [atI_nat (by rw [worksW_len]; exact hk)]; simp [worksW]
theorem worksW_set {L : List Span} {n i j : Nat} (hi : i < L.length) (hj : (atI L (i : Int)).job = j) (hjn : j < n) : (worksW L n i).set j (atI (worksW L n i) (j : Int) + (atI L (i : Int)).to' - (atI L (i : Int)).from') = worksW L n (i + 1) := by
  apply List.ext_getElem
  · rw [List.length_set, worksW_len, worksW_len]
  · intro k h1 h2
    rw [worksW_len] at h2
    have e1 : (worksW L n (i + 1))[k] = spanW (L.take (i + 1)) (k : Int) := by simp [worksW]
    have e2 : (worksW L n i)[k]'(by rw [worksW_len]; exact h2) = spanW (L.take i) (k : Int) := by simp [worksW]
    rw [e1, take_snoc hi, spanW_app, spanW_cons, spanW_nil, hj, List.getElem_set]
    by_cases e : j = k
    · subst e
      rw [if_pos rfl, if_pos rfl, worksW_at L hjn]; omega
    · rw [if_neg e, if_neg (by omega), e2]; omega
theorem spanW_nonneg {L : List Span} (h : ∀ x ∈ L, x.from' ≤ x.to') (k : Int) : 0 ≤ spanW L k := by
  induction L with
  | nil => exact Int.le_refl _
  | cons x r ih =>
    have h1 := h x (by simp)
    have h2 := ih fun y hy => h y (by simp [hy])
    rw [spanW_cons]
    split <;> omega
theorem execWorks (hE : Laid E) (ha : ∀ h, callW E (.func (.func n_cadencylaw10_awake) #[] #[]) [] h = some (.bool true, h, [])) {h : Heap} {vl vr : Value} {l : List Spec} {raw : List Raw} {turn : Int} (hl : Rd 5 encSp h vl l) (hr : RdR h vr raw) (ht : i64in turn) :
    callW E (.func (.func n_cadencylaw10_ExecWorks) #[] #[]) [vl, vr, .int .i64 turn] h = some (.bool true, h, []) := by
  refine fn_same hE.cadencylaw10_ExecWorks rfl (by simp) ?_
  simp only [argsF]
  (repeat' simp -dsimp (disch := omega) only [↓EA, EB, Nat.reduceEqDiff, Nat.reduceAdd, ↓reduceIte, reduceCtorEq, eq_self, *])
  refine wx_new (set04 hE hl (most := 5) (by decide) (by decide) ht) fun v1 ys r1 p1 => ?_
  have P1 := p1
  generalize _ ++ ys = H1 at r1 p1 P1 ⊢
  have hv := setP_valid l (most := 5) turn (by decide) (by decide)
  have hsl := setP_len l (most := 5) (turn := turn) (by decide)
  have hsm := fun t ht => setP_small (l := l) (most := 5) (turn := turn) (t := t) (by decide) (by decide) ht
  generalize setP l 5 turn = s at *
  have hnm : ∀ t ∈ s, t.name.size < 1152921504606846976 := fun t ht => by have := (hsm t ht).name; omega
  have o1 := r1.one
  have c1 := r1.cv
  clear p1
  (repeat' simp -dsimp (disch := omega) only [↓EA, EB, Nat.reduceEqDiff, ↓reduceIte, reduceCtorEq, eq_self, *])
  refine wx_new (few08 hE (hr.pre P1) (most := 10) (by decide) (by decide)) fun v2 ys r2 p2 => ?_
  have P2 := P1.trans p2
  replace r1 := r1.pre p2
  generalize _ ++ ys = H2 at r2 p2 P2 r1 ⊢
  clear p2 P1
  generalize hraw : List.map fewOf (List.take (10 : Int).toNat raw) = rw8 at *
  have hraw8 : rw8.length ≤ 10 := by rw [← hraw, List.length_map, List.length_take]; omega
  clear hraw
  (repeat' simp -dsimp (disch := omega) only [↓EA, EB, Nat.reduceEqDiff, ↓reduceIte, eq_self, *])
  refine wx_new (decode08 hE r1 hnm r2) fun v3 ys r3 p3 => ?_
  have P3 := P2.trans p3
  replace r1 := r1.pre p3
  generalize _ ++ ys = H3 at r3 p3 P3 r1 ⊢
  have sj := decode_small hv hsm rw8 hraw8 (by decide)
  clear p3 P2 r2
  generalize decodeP s rw8 = jobs at *
  have hsum : sumWork jobs ≤ 1099511627776 := by have := sj.sum; omega
  have hjl := sj.len
  have SJ := Hid.mk sj
  clear sj
  have hrun := runX hE r1 hnm r3 (by omega) hsum
  (repeat' simp -dsimp (disch := omega) only [↓EA, EB, Nat.reduceEqDiff, ↓reduceIte, eq_self, *])
  refine wx_new hrun fun v4 ys r4 p4 => ?_
  have P4 := P3.trans p4
  replace r1 := r1.pre p4
  replace r3 := r3.pre p4
  generalize _ ++ ys = H4 at r4 p4 P4 r1 r3 ⊢
  obtain ⟨vs, rfl, hv4⟩ := r4
  rcases hv4 with _ | @⟨_, _, va, _, ra, _ | @⟨_, _, vb, _, rb, _ | _⟩⟩
  have na := Rd.nt ra.1
  have nb := Rd.nt rb.1
  have oa := ra.1.one
  have ob := rb.1.one
  have ca := ra.1.cv
  have cb := rb.1.cv
  clear p4 P3 hrun
  obtain ⟨T, R⟩ := runU_at SJ.out.legal hsum
  have S := script_of SJ.out.legal
  have hT := runAt_T SJ.out.legal hsum R
  generalize runU s jobs 9223372036854775807 = rs at *
  have hsp := fun i hi => works_span S R (i := i) hi
  have hen := fun k hk => works_end S R (k := k) hk
  have hn : ∀ x ∈ rs.L, x.from' ≤ x.to' := fun x hx => by
    obtain ⟨j, a, b, e, h1, _⟩ := R.sp.run x hx
    rw [e]; dsimp only; omega
  have hdn : ∀ k, k < jobs.length → spanW rs.L (k : Int) ≤ 2147483647 := fun k hk => by
    rw [(hen k hk).1]; exact (S.ok.work _ (jb_mem hk)).2
  have hel := R.elen
  have hW := fun k hk => R.sp.sum k hk
  obtain ⟨jl, rfl, hj⟩ := RdJ.open_ r3
  have fewl := ra.1.few
  have Hn := Hid.mk hn
  have R0 := Hid.mk hdn
  clear hn hdn
  have Hs := Hid.mk (And.intro hsp (And.intro hen hW))
  have HR := Hid.mk (And.intro S R)
  rw [List.length_map] at hel hjl
  have hel' : (rs.ends.length : Int) = jl.length := by omega
  have hlb : lensV false vb = some (.int .i64 jl.length) := by rw [rb.1.len, hel']
  have ra1 := ra.1
  have rb1 := rb.1
  clear hsp hen hW S R hel' r3 ra rb SJ
  have hrep : List.replicate jl.length (0 : Int) = worksW rs.L jl.length 0 := by
    unfold worksW
    apply List.ext_getElem
    · simp
    · intro k h1 h2; simp [spanW_nil]
  have hW0 := P4.le
  have bm : ∀ i : Int, 0 ≤ i → i < jl.length → (atI (jl.map NV.j) i) = (atI jl i).j := fun i h1 h2 => (atI_map' NV.j jl i h1 h2).symm
  have HB := Hid.mk bm
  clear bm
  (repeat' simp -dsimp (disch := omega) only [↓EA, EB, Nat.reduceEqDiff, ↓reduceIte, eq_self, *, hj.len, Int.toNat_natCast])
  refine WO.loop (fun (i : Nat) fr h' => Pre H4 h' ∧ H4.length < h'.length ∧ h'[H4.length]? = some (icells (worksW rs.L jl.length i)) ∧ i ≤ rs.L.length ∧ get fr 7 = .bool true ∧ get fr 9 = v3 ∧ get fr 10 = va ∧ get fr 11 = vb ∧ get fr 12 = .slice (some ⟨H4.length, 0, none⟩) jl.length jl.length ∧ get fr 13 = .int .i64 (endB rs.L i) ∧ get fr 14 = .int .i64 i) (fun i => rs.L.length - i) ?_ 0 ⟨Pre.app _ _, by simp, by rw [geta0]; rfl, Nat.zero_le _, rfl, rfl, rfl, rfl, rfl, rfl, rfl⟩
  rintro i fr h' ⟨hp, hlen, hb, hi, g7, g9, g10, g11, g12, g13, g14⟩
  have ra2 := ra1.pre hp
  have rb2 := rb1.pre hp
  have hj2 := hj.pre hp
  have Hra := Hid.mk ra1
  have hWn : h.length ≤ h'.length := by omega
  unfold c_cadencylaw10_ExecWorks_l1
  by_cases hlt : i < rs.L.length
  · obtain ⟨q1, q2, q3, q4, q5, q6, q7⟩ := Hs.out.1 i hlt
    rw [List.length_map] at q1 q7
    rw [HB.out _ q1.1 q1.2] at q4
    obtain ⟨j, hjj⟩ : ∃ j : Nat, (atI rs.L (i : Int)).job = j := ⟨(atI rs.L (i : Int)).job.toNat, by omega⟩
    rw [hjj] at q1 q4 q5
    have hjn : j < jl.length := by omega
    have hset := worksW_set hlt hjj hjn
    have hwat := worksW_at rs.L (i := i) hjn
    have e1 : endB rs.L (i + 1) = (atI rs.L (i : Int)).to' := endB_succ rs.L i
    have e0 := (endB_le HR.out.2 (i := i) hlt).1
    have hl3 := worksW_len rs.L jl.length i
    have hb1 : ∀ y, (h' ++ y)[H4.length]? = some (icells (worksW rs.L jl.length i)) := fun y => by rw [List.getElem?_append_left hlen]; exact hb
    have ld := ints_ld (l := worksW rs.L jl.length i) (i := (j : Int)) (by omega) (by omega)
    have hWH : h.length ≤ H4.length := hW0
    have hel2 : (j : Int) < rs.ends.length := by omega
    have hsum2 : 0 ≤ atI (worksW rs.L jl.length i) (j : Int) ∧ atI (worksW rs.L jl.length i) (j : Int) ≤ 4611686018427387904 := by
      rw [hwat]
      have h1 := Hs.out.2.2 j (by rw [List.length_map]; exact hjn)
      have h2 := R0.out j (by rw [List.length_map]; exact hjn)
      have h3 := spanW_app (rs.L.take i) (rs.L.drop i) (j : Int)
      rw [List.take_append_drop] at h3
      have h4 := spanW_nonneg (L := rs.L.take i) (fun x hx => Hn.out x (List.mem_of_mem_take hx)) (j : Int)
      have h5 := spanW_nonneg (L := rs.L.drop i) (fun x hx => Hn.out x (List.mem_of_mem_drop hx)) (j : Int)
      omega
    have sd := ints_st (h := h' ++ [LObj.cells [.int .i64 j, .int .i64 (atI rs.L (i : Int)).from', .int .i64 (atI rs.L (i : Int)).to'] false]) (b := H4.length) (l := worksW rs.L jl.length i) (i := (j : Int)) (x := atI (worksW rs.L jl.length i) (j : Int) + (atI rs.L (i : Int)).to' - (atI rs.L (i : Int)).from') (by omega) (by omega)
    have hset' : (worksW rs.L jl.length i).set ((j : Int)).toNat (atI (worksW rs.L jl.length i) (j : Int) + (atI rs.L (i : Int)).to' - (atI rs.L (i : Int)).from') = worksW rs.L jl.length (i + 1) := by rw [Int.toNat_natCast]; exact hset
    rw [hset'] at sd
    have HQ := Hid.mk (And.intro q7 hjj)
    clear q7 hset hwat hset'
    have hi2 : (i : Int) < rs.L.length := by omega
    (repeat' (first | (with_reducible refine A2 (fun _ => ?_) (fun _ => ?_) <;> try (exfalso; omega)) | (with_reducible refine A3 (fun _ => ?_) (fun _ => ?_) <;> try (exfalso; omega)) | simp -dsimp (disch := omega) only [↓EA, EB, Nat.reduceEqDiff, Nat.reduceAdd, ↓reduceIte, newCells, eq_self, *, hj2.len, hj2.ixs, hj2.ldx, ra2.len, ra2.ixs, ra2.lda, rb2.ixs, rb2.ldx0, encS, encN, hdJ, encI]))
    obtain ⟨h2, hh2⟩ : ∃ h2 : Heap, h2 = h' ++ [LObj.cells [.int .i64 j, .int .i64 (atI rs.L (i : Int)).from', .int .i64 (atI rs.L (i : Int)).to'] false] := ⟨_, rfl⟩
    have hp2 : Pre h' h2 := by rw [hh2]; exact Pre.app _ _
    have hb2 : h2[H4.length]? = some (icells (worksW rs.L jl.length i)) := by rw [hh2]; exact hb1 _
    have hc2 : h2[h'.length]? = some (LObj.cells [.int .i64 j, .int .i64 (atI rs.L (i : Int)).from', .int .i64 (atI rs.L (i : Int)).to'] false) := by rw [hh2, geta0]; rfl
    have hl2 : H4.length < h2.length := by have := hp2.le; omega
    rw [← hh2] at sd ⊢
    have hj3 := hj2.pre hp2
    have rb3 := rb2.pre hp2
    have Hp := Hid.mk (hp.trans hp2)
    clear hh2 hp2 hb hb1 hj2 rb2 ra2
    refine WO.loop (fun (k : Nat) fr h'' => h'' = h2 ∧ k ≤ jl.length ∧ get fr 7 = .bool true ∧ get fr 9 = v3 ∧ get fr 10 = va ∧ get fr 11 = vb ∧ get fr 12 = .slice (some ⟨H4.length, 0, none⟩) jl.length jl.length ∧ get fr 13 = .int .i64 (endB rs.L i) ∧ get fr 14 = .int .i64 i ∧ get fr 15 = .pointer (some ⟨h'.length, 0, none⟩) ∧ get fr 16 = .int .i64 k) (fun k => jl.length - k) ?_ 0 ⟨rfl, Nat.zero_le _, rfl, rfl, rfl, rfl, rfl, rfl, rfl, rfl, rfl⟩
    rintro k fr h'' ⟨rfl, hk, g7, g9, g10, g11, g12, g13, g14, g15, g16⟩
    unfold c_cadencylaw10_ExecWorks_l0
    by_cases hkl : k < jl.length
    · have h7 := HQ.out.1 k hkl
      rw [show jb (jl.map NV.j) k = (atI jl (k : Int)).j from HB.out _ (by omega) (by omega)] at h7
      have hk2 : (k : Int) < jl.length ∧ (k : Int) < rs.ends.length := by omega
      clear ld sd
      (repeat' (first | (with_reducible refine A1 (fun _ => ?_) (fun _ => ?_) <;> try (exfalso; omega)) | (with_reducible refine A3 (fun _ => ?_) (fun _ => ?_) <;> try (exfalso; omega)) | simp -dsimp (disch := omega) only [↓EA, EB, Nat.reduceEqDiff, ↓reduceIte, eq_self, *, hj3.len, hj3.ixs, hj3.ld, rb3.ixs, rb3.ld0, encN, hdJ, encI]))
      all_goals exact Next.mk (k + 1) ⟨rfl, by omega, rfl, rfl, rfl, rfl, rfl, rfl, rfl, rfl, by simp only [get]; simp⟩ (by omega)
    · have hk2 : ¬ (k : Int) < jl.length := by omega
      (repeat' simp -dsimp (disch := omega) only [↓EA, EB, Nat.reduceEqDiff, ↓reduceIte, eq_self, *, hj3.len])
      refine Next.mk (i + 1) ⟨Hp.out.set (Nat.le_refl _) _, by rw [List.length_set]; omega, gset hl2, by omega, rfl, rfl, rfl, rfl, rfl, by rw [e1]; rfl, by simp only [get]; simp⟩ (by omega)
  · have hie : i = rs.L.length := by omega
    subst hie
    have hi2 : ¬ ((rs.L.length : Nat) : Int) < rs.L.length := by omega
    have hWi : ∀ k, k < jl.length → atI (worksW rs.L jl.length rs.L.length) (k : Int) = (jb (jl.map NV.j) k).work := fun k hk => by
      rw [worksW_at rs.L hk, List.take_length]
      exact (Hs.out.2.1 k (by rw [List.length_map]; exact hk)).1
    have HW := Hid.mk hWi
    clear hWi
    (repeat' simp -dsimp (disch := omega) only [↓EA, EB, Nat.reduceEqDiff, ↓reduceIte, eq_self, *, ra2.len])
    refine WO.loop (fun (k : Nat) fr h'' => h'' = h' ∧ k ≤ jl.length ∧ get fr 7 = .bool true ∧ get fr 9 = v3 ∧ get fr 11 = vb ∧ get fr 12 = .slice (some ⟨H4.length, 0, none⟩) jl.length jl.length ∧ get fr 17 = .int .i64 k) (fun k => jl.length - k) ?_ 0 ⟨rfl, Nat.zero_le _, rfl, rfl, rfl, rfl, rfl⟩
    rintro k fr h'' ⟨rfl, hk, g7, g9, g11, g12, g17⟩
    unfold c_cadencylaw10_ExecWorks_l2
    by_cases hkl : k < jl.length
    · have h7 := (Hs.out.2.1 k (by rw [List.length_map]; exact hkl)).2
      have hrel := (HR.out.1.ok.rel _ (jb_mem (jobs := jl.map NV.j) (i := k) (by rw [List.length_map]; exact hkl)))
      have hwk := (HR.out.1.ok.work _ (jb_mem (jobs := jl.map NV.j) (i := k) (by rw [List.length_map]; exact hkl)))
      have hw := HW.out k hkl
      have ld := ints_ld (l := worksW rs.L jl.length rs.L.length) (i := (k : Int)) (by omega) (by rw [worksW_len]; omega)
      rw [hw] at ld
      rw [show jb (jl.map NV.j) k = (atI jl (k : Int)).j from HB.out _ (by omega) (by omega)] at h7 hrel hwk ld
      unfold lastRel at hrel
      have hk2 : (k : Int) < jl.length ∧ (k : Int) < rs.ends.length := by omega
      clear hw
      (repeat' (first | (with_reducible refine A3 (fun _ => ?_) (fun _ => ?_) <;> try (exfalso; omega)) | simp -dsimp (disch := omega) only [↓EA, EB, Nat.reduceEqDiff, ↓reduceIte, eq_self, *, hj2.len, hj2.ixs, hj2.ld, rb2.ixs, rb2.ld0, encN, hdJ, encI]))
      exact Next.mk (k + 1) ⟨rfl, by omega, rfl, rfl, rfl, rfl, by simp only [get]; simp⟩ (by omega)
    · have hk2 : ¬ (k : Int) < jl.length := by omega
      (repeat' simp -dsimp (disch := omega) only [↓EA, EB, Nat.reduceEqDiff, ↓reduceIte, eq_self, *, hj2.len])
end Go.L.Try
