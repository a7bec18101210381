/- BUSY OR IDLE, whoever works (plain). -/
import Derived.Test.YtkfkdhgnddcfdaaPh
set_option linter.unusedVariables false
set_option linter.unusedSimpArgs false
set_option maxRecDepth 100000
set_option maxHeartbeats 1000000
namespace Go.L.Try
open Go Go.L
variable {l l' : List Task} {jobs jobs' : List Job}
def sumF (f : Nat → Int) : Nat → Int
  | 0 => 0
  | n + 1 => sumF f n + f n
theorem sumF_le {f g : Nat → Int} : ∀ {m : Nat}, (∀ i, i < m → f i ≤ g i) → sumF f m ≤ sumF g m
  | 0, _ => Int.le_refl _
  | m + 1, h => by
    have h1 := sumF_le (m := m) fun i hi => h i (by omega)
    have h2 := h m (by omega)
    show sumF f m + f m ≤ sumF g m + g m
    omega
theorem sumF_eq {f g : Nat → Int} : ∀ {m : Nat}, (∀ i, i < m → f i = g i) → sumF f m = sumF g m
  | 0, _ => rfl
  | m + 1, h => by
    show sumF f m + f m = sumF g m + g m
    rw [sumF_eq (m := m) fun i hi => h i (by omega), h m (by omega)]
theorem sumF_all {f g : Nat → Int} : ∀ {m : Nat}, (∀ i, i < m → f i ≤ g i) → sumF f m = sumF g m → ∀ i, i < m → f i = g i
  | 0, _, _ => fun i hi => by omega
  | m + 1, h, he => by
    have h1 := sumF_le (m := m) fun i hi => h i (by omega)
    have h2 := h m (by omega)
    have he' : sumF f m + f m = sumF g m + g m := he
    intro i hi
    by_cases e : i = m
    · subst e; omega
    · exact sumF_all (m := m) (fun i hi => h i (by omega)) (by omega) i (by omega)
theorem sumF_one {f g : Nat → Int} {r : Nat} : ∀ {m : Nat}, r < m → (∀ i, i < m → g i = f i + if i = r then 1 else 0) → sumF g m = sumF f m + 1
  | 0, h, _ => by omega
  | m + 1, h, he => by
    show sumF g m + g m = sumF f m + f m + 1
    have h1 := he m (by omega)
    by_cases e : m = r
    · subst e
      rw [if_pos rfl] at h1
      rw [sumF_eq (f := g) (g := f) fun i hi => by have := he i (by omega); rw [if_neg (by omega)] at this; omega]
      omega
    · rw [if_neg e] at h1
      rw [sumF_one (m := m) (by omega) fun i hi => he i (by omega)]; omega
/-- All that is done by a tick. -/
def dnAll (l : List Task) (jobs : List Job) (n : Nat) : Int := sumF (fun i => dn l jobs i n) jobs.length
/-- All work that is released at a tick. -/
def relW (jobs : List Job) (n : Nat) : Int := sumF (fun i => if (jb jobs i).release ≤ n then (jb jobs i).work else 0) jobs.length
def allW (jobs : List Job) : Int := sumF (fun i => (jb jobs i).work) jobs.length
theorem dn_unrel (S : Script l jobs) {i n : Nat} (hi : i < jobs.length) (h : ¬ (jb jobs i).release ≤ n) : dn l jobs i n = 0 := by
  have h1 := dn_le S hi n
  have h2 := (dn_in S hi n).1
  omega
theorem dn_relW (S : Script l jobs) {i n : Nat} (hi : i < jobs.length) : dn l jobs i n ≤ if (jb jobs i).release ≤ n then (jb jobs i).work else 0 := by
  split
  · exact (dn_in S hi n).2
  · rename_i h; have := dn_unrel S hi h; omega
theorem idle_iff (S : Script l jobs) (n : Nat) : who l jobs n < 0 ↔ dnAll l jobs n = relW jobs n := by
  constructor
  · intro h
    refine sumF_eq fun i hi => ?_
    split
    · rename_i hr; exact who_none S h hi hr
    · rename_i hr; exact dn_unrel S hi hr
  · intro h
    rcases Int.lt_or_le (who l jobs n) 0 with h1 | h1
    · exact h1
    · obtain ⟨r, hr⟩ : ∃ r : Nat, who l jobs n = r := ⟨(who l jobs n).toNat, by omega⟩
      obtain ⟨h2, h3⟩ := who_dn S hr
      have h4 := sumF_all (fun i hi => dn_relW S (n := n) hi) h r h2
      rw [if_pos (who_rel S hr)] at h4
      omega
theorem dnAll_succ (S : Script l jobs) (n : Nat) : dnAll l jobs (n + 1) = dnAll l jobs n + if who l jobs n < 0 then 0 else 1 := by
  unfold dnAll
  by_cases h : who l jobs n < 0
  · rw [if_pos h, Int.add_zero]
    exact sumF_eq fun i hi => by rw [dn_succ S hi, if_neg (by omega), Int.add_zero]
  · rw [if_neg h]
    obtain ⟨r, hr⟩ : ∃ r : Nat, who l jobs n = r := ⟨(who l jobs n).toNat, by omega⟩
    refine sumF_one (r := r) (who_dn S hr).1 fun i hi => ?_
    rw [dn_succ S hi, hr]
    by_cases e : i = r
    · rw [if_pos e, if_pos (by omega)]
    · rw [if_neg e, if_neg (by omega)]
theorem dnAll_zero : dnAll l jobs 0 = 0 := by
  unfold dnAll
  have key : ∀ m, m ≤ jobs.length → sumF (fun i => dn l jobs i 0) m = 0 := by
    intro m
    induction m with
    | zero => intro _; rfl
    | succ m ih =>
      intro hm
      show sumF (fun i => dn l jobs i 0) m + dn l jobs m 0 = 0
      rw [ih (by omega), dn_zero (by omega)]; rfl
  exact key _ (Nat.le_refl _)
theorem all_iff (S : Script l jobs) (n : Nat) : (∀ i, i < jobs.length → dn l jobs i n = (jb jobs i).work) ↔ dnAll l jobs n = allW jobs :=
  ⟨fun h => sumF_eq h, fun h => sumF_all (fun i hi => (dn_in S hi n).2) h⟩
/-- Who works differs: but when somebody does, does not. -/
theorem dnAll_same (S : Script l jobs) (S' : Script l' jobs') (h : ∀ n, relW jobs' n = relW jobs n) : ∀ n, dnAll l' jobs' n = dnAll l jobs n
  | 0 => by rw [dnAll_zero, dnAll_zero]
  | n + 1 => by
    have ih := dnAll_same S S' h n
    rw [dnAll_succ S, dnAll_succ S', ih]
    have h1 := idle_iff S n
    have h2 := idle_iff S' n
    rw [ih, h n, ← h1] at h2
    by_cases hw : who l jobs n < 0
    · rw [if_pos hw, if_pos (h2.2 hw)]
    · rw [if_neg hw, if_neg fun hh => hw (h2.1 hh)]
theorem idle_same (S : Script l jobs) (S' : Script l' jobs') (h : ∀ n, relW jobs' n = relW jobs n) (n : Nat) : who l' jobs' n < 0 ↔ who l jobs n < 0 := by
  rw [idle_iff S, idle_iff S', dnAll_same S S' h, h]
/-! ### The last end -/
def maxF (f : Nat → Int) : Nat → Int
  | 0 => 0
  | n + 1 => max (maxF f n) (f n)
theorem maxF_le {f : Nat → Int} {x : Int} (hx : 0 ≤ x) : ∀ {m : Nat}, maxF f m ≤ x ↔ ∀ i, i < m → f i ≤ x
  | 0 => ⟨fun _ i hi => by omega, fun _ => hx⟩
  | m + 1 => by
    have ih := maxF_le (f := f) hx (m := m)
    show max (maxF f m) (f m) ≤ x ↔ _
    constructor
    · intro h i hi
      by_cases e : i = m
      · subst e; omega
      · exact ih.1 (by omega) i (by omega)
    · intro h
      have h1 := ih.2 fun i hi => h i (by omega)
      have h2 := h m (by omega)
      omega
theorem maxF_ge {f : Nat → Int} {m i : Nat} (hi : i < m) : f i ≤ maxF f m ∧ 0 ≤ maxF f m := by
  have h0 : ∀ m, 0 ≤ maxF f m := fun m => by
    cases m with
    | zero => exact Int.le_refl _
    | succ m => induction m with
      | zero => show 0 ≤ max 0 (f 0); omega
      | succ m ih => show 0 ≤ max _ _; omega
  exact ⟨(maxF_le (h0 m)).1 (Int.le_refl _) i hi, h0 m⟩
theorem maxF_nn {f : Nat → Int} : ∀ m : Nat, 0 ≤ maxF f m
  | 0 => Int.le_refl _
  | m + 1 => by have := maxF_nn (f := f) m; show 0 ≤ max _ _; omega
theorem maxF_is {f : Nat → Int} : ∀ {m : Nat}, 0 < maxF f m → ∃ i, i < m ∧ f i = maxF f m
  | 0, h => by have : (0 : Int) < 0 := h
               omega
  | m + 1, h => by
    have h' : 0 < max (maxF f m) (f m) := h
    show ∃ i, i < m + 1 ∧ f i = max (maxF f m) (f m)
    rcases Int.lt_or_le (maxF f m) (f m) with h1 | h1
    · exact ⟨m, by omega, by omega⟩
    · obtain ⟨i, hi, e⟩ := maxF_is (f := f) (m := m) (by omega)
      exact ⟨i, by omega, by omega⟩
variable {R R' : RS} {T T' : Nat}
theorem lastEnd_iff (S : Script l jobs) (r : RunAt l jobs R T) (n : Nat) : maxF (fun i => atI R.ends (i : Int)) jobs.length ≤ n ↔ dnAll l jobs n = allW jobs := by
  rw [maxF_le (by omega), ← all_iff S]
  constructor
  · intro h i hi
    obtain ⟨e, e1, e2, e3⟩ := r.ends i hi
    have := h i hi
    rw [e1] at this
    exact (e3.lt S hi n).2 (by omega)
  · intro h i hi
    obtain ⟨e, e1, e2, e3⟩ := r.ends i hi
    have := (e3.lt S hi n).1 (h i hi)
    rw [e1]; omega
theorem spans_any (S : Script l jobs) (r : RunAt l jobs R T) : R.L.length = 0 ↔ jobs.length = 0 := by
  constructor
  · intro h
    rcases Nat.eq_zero_or_pos jobs.length with h1 | h1
    · exact h1
    · exfalso
      obtain ⟨e, e1, e2, e3⟩ := r.ends 0 h1
      have h2 := e3.run
      have := e3.pos
      obtain ⟨i, hi, _⟩ := span_all r (k := e - 1) (by omega) (by omega)
      omega
  · intro h
    rcases Nat.eq_zero_or_pos R.L.length with h1 | h1
    · exact h1
    · have := (works_span S r h1).1; omega
theorem last_span (S : Script l jobs) (r : RunAt l jobs R T) (h : 0 < R.L.length) : (atI R.L ((R.L.length : Int) - 1)).to' = maxF (fun i => atI R.ends (i : Int)) jobs.length := by
  have e0 : ((R.L.length : Int) - 1) = ((R.L.length - 1 : Nat) : Int) := by omega
  rw [e0]
  have hl : R.L.length - 1 < R.L.length := by omega
  obtain ⟨q1, _, q3, _, q5, q6, _⟩ := works_span S r hl
  obtain ⟨j, hj⟩ : ∃ j : Nat, (atI R.L ((R.L.length - 1 : Nat) : Int)).job = j := ⟨(atI R.L ((R.L.length - 1 : Nat) : Int)).job.toNat, by omega⟩
  rw [hj] at q5 q1
  have h1 : (atI R.ends (j : Int)) ≤ _ := (maxF_ge (f := fun i => atI R.ends (i : Int)) (m := jobs.length) (i := j) (by omega)).1
  have h2 : 0 < maxF (fun i => atI R.ends (i : Int)) jobs.length := by omega
  obtain ⟨i, hi, he⟩ := maxF_is h2
  obtain ⟨e, e1, e2, e3⟩ := r.ends i hi
  have h3 := e3.run
  have h4 := e3.pos
  obtain ⟨k, hk, k1, k2⟩ := span_all r (k := e - 1) (by omega) (by omega)
  by_cases e4 : k = R.L.length - 1
  · rw [e4] at k2; omega
  · have := span_sort r hl (show k < R.L.length - 1 by omega)
    omega
theorem first_span (S : Script l jobs) (r : RunAt l jobs R T) (h : 0 < R.L.length) : ∃ a : Nat, (atI R.L 0).from' = a ∧ 0 ≤ who l jobs a ∧ ∀ k, k < a → who l jobs k < 0 := by
  obtain ⟨j, a, b, e, h1, h2, h3⟩ := span_at r h
  have hg := fun k => gap_none S r h (k := k)
  have e' : atI R.L 0 = ⟨j, a, b⟩ := e
  refine ⟨a, by rw [e'], ?_, fun k hk => ?_⟩
  · rw [h3 a (Nat.le_refl _) h1]; omega
  · refine hg k (by rw [endB_zero]; omega) ?_
    rw [e]; dsimp only; omega
theorem ends_same (S : Script l jobs) (S' : Script l' jobs') (r : RunAt l jobs R T) (r' : RunAt l' jobs' R' T') (h : ∀ n, relW jobs' n = relW jobs n) (hw : allW jobs' = allW jobs) :
    maxF (fun i => atI R'.ends (i : Int)) jobs'.length = maxF (fun i => atI R.ends (i : Int)) jobs.length ∧
    ((0 < R.L.length) → (0 < R'.L.length) → (atI R'.L 0).from' = (atI R.L 0).from') := by
  refine ⟨?_, fun hl hl' => ?_⟩
  · have h1 := lastEnd_iff S r
    have h2 := lastEnd_iff S' r'
    have n1 := maxF_nn (f := fun i => atI R.ends (i : Int)) jobs.length
    have n2 := maxF_nn (f := fun i => atI R'.ends (i : Int)) jobs'.length
    generalize maxF (fun i => atI R.ends (i : Int)) jobs.length = A at *
    generalize maxF (fun i => atI R'.ends (i : Int)) jobs'.length = B at *
    have hb : ∀ n : Nat, B ≤ n ↔ A ≤ n := fun n => by rw [h1, h2, dnAll_same S S' h, hw]
    have h3 := (hb A.toNat).2 (by omega)
    have h4 := (hb B.toNat).1 (by omega)
    omega
  · obtain ⟨a, a1, a2, a3⟩ := first_span S r hl
    obtain ⟨b, b1, b2, b3⟩ := first_span S' r' hl'
    have hi := idle_same S S' h
    rw [a1, b1]
    rcases Nat.lt_trichotomy a b with h5 | h5 | h5
    · have := (hi a).1 (b3 a h5); omega
    · rw [h5]
    · have := (hi b).2 (a3 b h5); omega
/-! ### Without sections -/
def softJ (j : Job) : Job := { j with cuts := [] }
theorem relW_map {f : Job → Job} (hr : ∀ j, (f j).release = j.release) (hw : ∀ j, (f j).work = j.work) (n : Nat) : relW (jobs.map f) n = relW jobs n := by
  unfold relW
  rw [List.length_map]
  exact sumF_eq fun i hi => by rw [jb_map' hi, hr, hw]
theorem allW_map {f : Job → Job} (hw : ∀ j, (f j).work = j.work) : allW (jobs.map f) = allW jobs := by
  unfold allW
  rw [List.length_map]
  exact sumF_eq fun i hi => by rw [jb_map' hi, hw]
theorem sumW_map {f : Job → Job} (hw : ∀ j, (f j).work = j.work) : sumWork (jobs.map f) = sumWork jobs := by
  unfold sumWork
  rw [List.length_map]
  have key : ∀ m, m ≤ jobs.length → sumN (fun i => (atI (jobs.map f) (i : Int)).work) m = sumN (fun i => (atI jobs (i : Int)).work) m := by
    intro m
    induction m with
    | zero => intro _; rfl
    | succ m ih =>
      intro hm
      have e : (jb (jobs.map f) m).work = (jb jobs m).work := by rw [jb_map' (show m < jobs.length by omega), hw]
      simp only [sumN]
      rw [ih (by omega)]
      congr 1
  exact key _ (Nat.le_refl _)
end Go.L.Try

/- ExecEnds: with sections, or without any. -/
set_option linter.unusedVariables false
set_option linter.unusedSimpArgs false
set_option maxRecDepth 100000
set_option maxHeartbeats 2000000
namespace Go.L.Try
open Go Go.L
variable {E : Env}
theorem RdJ.open2 {h : Heap} {v : Value} {jobs : List Job} (r : RdJ h v jobs) : ∃ jl : List (NV Job), jobs = jl.map NV.j ∧ Rd 5 (encN hdJ) h v jl ∧ ∀ p ∈ jl, Rd 1 encI h p.v p.j.cuts := by
  obtain ⟨jl, h1, h2, h3⟩ := r.is
  exact ⟨jl, h1.symm, h2, h3⟩
theorem execEnds (hE : Laid E) (ha : ∀ h, callW E (.func (.func n_cadencylaw10_awake) #[] #[]) [] h = some (.bool true, h, [])) {h : Heap} {vl vr : Value} {l : List Spec} {raw : List Raw} {turn : Int} (hl : Rd 5 encSp h vl l) (hr : RdR h vr raw) (ht : i64in turn) :
    callW E (.func (.func n_cadencylaw10_ExecEnds) #[] #[]) [vl, vr, .int .i64 turn] h = some (.bool true, h, []) := by
  refine fn_same hE.cadencylaw10_ExecEnds rfl (by simp) ?_
  simp only [argsF]
  (repeat' simp -dsimp (disch := omega) only [↓EA, EB, Nat.reduceEqDiff, Nat.reduceAdd, ↓reduceIte, reduceCtorEq, eq_self, *])
  refine wx_new (set04 hE hl (most := 5) (by decide) (by decide) ht) fun v1 ys r1 p1 => ?_
  have P1 := p1
  generalize _ ++ ys = H1 at r1 p1 P1 ⊢
  have hv := setP_valid l (most := 5) turn (by decide) (by decide)
  have hsl := setP_len l (most := 5) (turn := turn) (by decide)
  have hsm := fun t ht => setP_small (l := l) (most := 5) (turn := turn) (t := t) (by decide) (by decide) ht
  generalize setP l 5 turn = s at *
  have hnm : ∀ t ∈ s, t.name.size < 1152921504606846976 := fun t ht => by have := (hsm t ht).name; omega
  have o1 := r1.one
  have c1 := r1.cv
  clear p1
  (repeat' simp -dsimp (disch := omega) only [↓EA, EB, Nat.reduceEqDiff, ↓reduceIte, reduceCtorEq, eq_self, *])
  refine wx_new (few08 hE (hr.pre P1) (most := 10) (by decide) (by decide)) fun v2 ys r2 p2 => ?_
  have P2 := P1.trans p2
  replace r1 := r1.pre p2
  generalize _ ++ ys = H2 at r2 p2 P2 r1 ⊢
  clear p2 P1
  generalize hraw : List.map fewOf (List.take (10 : Int).toNat raw) = rw8 at *
  have hraw8 : rw8.length ≤ 10 := by rw [← hraw, List.length_map, List.length_take]; omega
  clear hraw
  (repeat' simp -dsimp (disch := omega) only [↓EA, EB, Nat.reduceEqDiff, ↓reduceIte, eq_self, *])
  refine wx_new (decode08 hE r1 hnm r2) fun v3 ys r3 p3 => ?_
  have P3 := P2.trans p3
  replace r1 := r1.pre p3
  generalize _ ++ ys = H3 at r3 p3 P3 r1 ⊢
  have sj := decode_small hv hsm rw8 hraw8 (by decide)
  clear p3 P2 r2
  generalize decodeP s rw8 = jobs at *
  have hsum : sumWork jobs ≤ 1099511627776 := by have := sj.sum; omega
  have hjl := sj.len
  have SJ := Hid.mk sj
  clear sj
  obtain ⟨jl, hjl2, hj, hcuts⟩ := RdJ.open2 r3
  have hlen : jl.length ≤ 10 := by rw [hjl2, List.length_map] at hjl; exact hjl
  have hW0 := P3.le
  have Hcuts := Hid.mk hcuts
  have Hjl2 := Hid.mk hjl2
  clear hcuts hjl2
  (repeat' simp -dsimp (disch := omega) only [↓EA, EB, Nat.reduceEqDiff, ↓reduceIte, eq_self, *])
  refine WO.loop (fun (a : Nat × Value) fr h' => Pre H3 h' ∧ a.1 ≤ jl.length ∧ OwnT H3.length 5 (encN hdJ) h' a.2 ((jl.take a.1).map fun p => ⟨softJ p.j, .slice none 0 0⟩) ∧ get fr 7 = .bool true ∧ get fr 8 = v1 ∧ get fr 9 = v3 ∧ get fr 10 = a.2 ∧ get fr 11 = .int .i64 a.1) (fun a => jl.length - a.1) ?_ (0, .slice none 0 0) ⟨Pre.refl _, Nat.zero_le _, OwnT.nil, rfl, rfl, rfl, rfl, rfl⟩
  rintro ⟨i, vo⟩ fr h' ⟨hp, hi, ho, g7, g8, g9, g10, g11⟩
  dsimp only at hp hi ho g10 g11 ⊢
  have hj2 := hj.pre hp
  have oo := ho.rd.one
  have co := ho.rd.cv
  have hlh := hp.le
  unfold c_cadencylaw10_ExecEnds_l0
  by_cases hlt : i < jl.length
  · have hi2 : (i : Int) < jl.length := by omega
    have hcu := Hcuts.out _ (atI_mem (l := jl) (i := (i : Int)) (by omega) hi2)
    have ocu := hcu.one
    have ccu := hcu.cv
    have HO := Hid.mk ho
    clear ho
    have hWh : h.length ≤ h'.length := by omega
    (repeat' simp -dsimp (disch := omega) only [↓EA, EB, Nat.reduceEqDiff, Nat.reduceAdd, Nat.reduceLeDiff, Nat.reduceMul, ↓reduceIte, newCells, bslV, eq_self, *, hj2.len, hj2.ixs, hj2.lda, encN, hdJ])
    refine wx_app2 (HO.out.app _) (hp.app' _) (Nat.le_refl _) (by rw [List.length_append]; omega) (fun hn => by have := HO.out.ge hn; omega) (⟨softJ (atI jl (i : Int)).j, .slice none 0 0⟩ : NV Job) (by rw [cellsOf_some, geta]; rfl) rfl (by decide) (by decide) (by rw [List.length_map, List.length_take]; omega) fun v' h2 o2 p2 hb2 hl2 hk2 => ?_
    have O2 := Hid.mk (And.intro o2 p2)
    clear o2 p2 hb2 hl2 hk2
    (repeat' simp -dsimp (disch := omega) only [↓EA, EB, Nat.reduceEqDiff, ↓reduceIte, eq_self, *])
    refine Next.mk (i + 1, v') ⟨O2.out.2, by dsimp only; omega, ?_, rfl, rfl, rfl, rfl, by simp only [get]; simp⟩ (by dsimp only; omega)
    dsimp only
    have := O2.out.1
    rw [take_snoc hlt, List.map_append]; exact this
  · have hie : i = jl.length := by omega
    subst hie
    rw [List.take_length] at ho
    have hi2 : ¬ ((jl.length : Nat) : Int) < jl.length := by omega
    have rl := ho.rd
    have hcl : ∀ p ∈ jl.map (fun p => (⟨softJ p.j, .slice none 0 0⟩ : NV Job)), Rd 1 encI h' p.v p.j.cuts := fun p hpm => by
      obtain ⟨x, hx, rfl⟩ := List.mem_map.1 hpm
      exact Rd.of_nil
    have hjs : (jl.map (fun p => (⟨softJ p.j, .slice none 0 0⟩ : NV Job))).map NV.j = jobs.map softJ := by
      rw [Hjl2.out, List.map_map, List.map_map]; rfl
    have rJ : RdJ h' vo (jobs.map softJ) := ⟨_, hjs, rl, hcl⟩
    have hleg : legalB s (jobs.map softJ) = true := legal_map SJ.out.legal (f := softJ) (fun _ => rfl) (k := 0) (fun _ => (Int.add_zero _).symm) fun j hj => by
      have h1 := jobOK_mem SJ.out.legal hj
      exact ⟨h1.task, h1.arrive, h1.release, h1.work, rfl⟩
    have hll : (jobs.map softJ).length = jobs.length := List.length_map ..
    have hsum2 : sumWork (jobs.map softJ) ≤ 1099511627776 := by rw [sumW_map (f := softJ) fun _ => rfl]; exact hsum
    have hrun1 := runX hE (r1.pre hp) hnm (r3.pre hp) (by omega) hsum
    have HJ := Hid.mk (And.intro rJ (And.intro hleg hsum2))
    clear ho rl hcl hjs rJ hleg hsum2
    have hP := P3.trans hp
    have r12 := r1.pre hp
    (repeat' simp -dsimp (disch := omega) only [↓EA, EB, Nat.reduceEqDiff, ↓reduceIte, eq_self, *, hj2.len])
    refine wx_new (hrun1) fun v5 ys r5 p5 => ?_
    have P5 := (hP).trans p5
    generalize _ ++ ys = H5 at r5 p5 P5 ⊢
    obtain ⟨vs, rfl, hv5⟩ := r5
    rcases hv5 with _ | @⟨_, _, va5, _, ra5, _ | @⟨_, _, vb5, _, rb5, _ | _⟩⟩
    have na5 := Rd.nt ra5.1
    have nb5 := Rd.nt rb5.1
    have oa5 := ra5.1.one
    have ob5 := rb5.1.one
    have ca5 := ra5.1.cv
    have cb5 := rb5.1.cv
    have rJ5 := HJ.out.1.pre p5
    have r15 := r12.pre p5
    have hrun2 := runX hE r15 hnm rJ5 (by rw [hll]; omega) HJ.out.2.2
    have ra5' := ra5.1
    have rb5' := rb5.1
    clear rJ5 p5 hrun1
    (repeat' simp -dsimp (disch := omega) only [↓EA, EB, Nat.reduceEqDiff, ↓reduceIte, eq_self, *])
    refine wx_new (hrun2) fun v6 ys r6 p6 => ?_
    have P6 := (P5).trans p6
    generalize _ ++ ys = H6 at r6 p6 P6 ⊢
    obtain ⟨vs, rfl, hv6⟩ := r6
    rcases hv6 with _ | @⟨_, _, va6, _, ra6, _ | @⟨_, _, vb6, _, rb6, _ | _⟩⟩
    have na6 := Rd.nt ra6.1
    have nb6 := Rd.nt rb6.1
    have oa6 := ra6.1.one
    have ob6 := rb6.1.one
    have ca6 := ra6.1.cv
    have cb6 := rb6.1.cv
    have ra56 := ra5'.pre p6
    have rb56 := rb5'.pre p6
    have ra6' := ra6.1
    have rb6' := rb6.1
    clear p6 hrun2
    obtain ⟨T, R⟩ := runU_at SJ.out.legal hsum
    obtain ⟨T', R'⟩ := runU_at HJ.out.2.1 HJ.out.2.2
    have S := script_of SJ.out.legal
    have S' := script_of HJ.out.2.1
    have hT := runAt_T SJ.out.legal hsum R
    have hT' := runAt_T HJ.out.2.1 HJ.out.2.2 R'
    obtain ⟨hM, hF⟩ := ends_same S S' R R' (relW_map (fun _ => rfl) fun _ => rfl) (allW_map fun _ => rfl)
    have hel := R.elen
    have hel' := R'.elen
    have hA1 := spans_any S R
    have hA2 := spans_any S' R'
    have hL1 := last_span S R
    have hL2 := last_span S' R'
    rw [hll] at hel' hA2 hL2 hM
    generalize runU s jobs 9223372036854775807 = rs at *
    generalize runU s (jobs.map softJ) 9223372036854775807 = rs' at *
    have few5 := ra56.few
    have few6 := ra6'.few
    have hl1 : lensV false va5 = some (.int .i64 rs.L.length) := ra56.len
    have hl2 : lensV false va6 = some (.int .i64 rs'.L.length) := ra6'.len
    have hl3 : lensV false vb5 = some (.int .i64 jobs.length) := by rw [rb56.len, hel]
    have hl4 : lensV false vb6 = some (.int .i64 jobs.length) := by rw [rb6'.len, hel']
    have hjlen : (jobs.length : Int) = jl.length := by rw [Hjl2.out, List.length_map]
    have hl5 : lensV false v3 = some (.int .i64 jobs.length) := by rw [hj2.len, hjlen]
    have HF := Hid.mk (And.intro hM (And.intro hF (And.intro hA1 (And.intro hA2 (And.intro hL1 hL2)))))
    have HEl := Hid.mk (And.intro hel hel')
    clear hM hF hA1 hA2 hL1 hL2 hjlen hel hel' R R' S S' ra5' rb5' ra5 rb5 ra6 rb6
    have hP6 := P6.le
    (repeat' simp -dsimp (disch := omega) only [↓EA, EB, Nat.reduceEqDiff, ↓reduceIte, eq_self, *])
    refine WO.loop (fun (n : Nat) fr h'' => h'' = H6 ∧ n ≤ jobs.length ∧ get fr 7 = .bool true ∧ get fr 9 = v3 ∧ get fr 13 = va5 ∧ get fr 14 = vb5 ∧ get fr 15 = va6 ∧ get fr 16 = vb6 ∧ get fr 17 = .int .i64 (maxF (fun i => atI rs.ends (i : Int)) n) ∧ get fr 18 = .int .i64 (maxF (fun i => atI rs'.ends (i : Int)) n) ∧ get fr 19 = .int .i64 n) (fun n => jobs.length - n) ?_ 0 ⟨rfl, Nat.zero_le _, rfl, rfl, rfl, rfl, rfl, rfl, rfl, rfl, rfl⟩
    rintro n fr h'' ⟨rfl, hn, g7, g9, g13, g14, g15, g16, g17, g18, g19⟩
    unfold c_cadencylaw10_ExecEnds_l1
    by_cases hnj : n < jobs.length
    · have hn3 : (n : Int) < rs.ends.length ∧ (n : Int) < rs'.ends.length ∧ (n : Int) < jobs.length := by
        have := HEl.out; omega
      (repeat' simp -dsimp (disch := omega) only [↓EA, EB, Nat.reduceEqDiff, ↓reduceIte, eq_self, *, rb56.ixs, rb56.ld0, rb6'.ixs, rb6'.ld0, encI])
      exact Next.mk (n + 1) ⟨rfl, by omega, rfl, rfl, rfl, rfl, rfl, rfl, rfl, rfl, by simp only [get]; simp⟩ (by omega)
    · have hn3 : ¬ (n : Int) < jobs.length := by omega
      have hne : n = jobs.length := by omega
      subst hne
      obtain ⟨q1, q2, q3, q4, q5, q6⟩ := HF.out
      rw [q1] at g18 q6
      generalize maxF (fun i => atI rs.ends (i : Int)) jobs.length = M at *
      by_cases hz : jobs.length = 0
      · have z1 := q3.2 hz
        have z2 := q4.2 hz
        rw [z1] at hl1
        rw [z2] at hl2
        rw [hz] at hl5 hn3
        (repeat' (first | (with_reducible refine A2 (fun _ => ?_) (fun _ => ?_) <;> try (exfalso; omega)) | simp -dsimp (disch := omega) only [↓EA, EB, Nat.reduceEqDiff, ↓reduceIte, eq_self, *]))
      · have z1 : ¬ rs.L.length = 0 := fun h => hz (q3.1 h)
        have z2 : ¬ rs'.L.length = 0 := fun h => hz (q4.1 h)
        have e1 := q5 (by omega)
        have e2 := q6 (by omega)
        have e3 := q2 (by omega) (by omega)
        have y1 : ¬ ((rs.L.length : Int) = 0) := by omega
        have y2 : ¬ ((rs'.L.length : Int) = 0) := by omega
        have y3 : ¬ ((jobs.length : Int) = 0) := by omega
        have y4 : 0 ≤ (rs.L.length : Int) - 1 ∧ (rs.L.length : Int) - 1 < rs.L.length ∧ (0 : Int) < rs.L.length := by omega
        have y5 : 0 ≤ (rs'.L.length : Int) - 1 ∧ (rs'.L.length : Int) - 1 < rs'.L.length ∧ (0 : Int) < rs'.L.length := by omega
        (repeat' simp -dsimp (disch := omega) only [↓EA, EB, Nat.reduceEqDiff, ↓reduceIte, eq_self, *, ra56.ixs, ra56.ld, ra6'.ixs, ra6'.ld, encS])
end Go.L.Try
