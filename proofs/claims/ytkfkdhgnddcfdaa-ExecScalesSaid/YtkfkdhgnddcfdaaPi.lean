/- ALL TIMES SO MANY TIMES AS GREAT, all work in sections (plain). -/
import Derived.Test.YtkfkdhgnddcfdaaPh
import Derived.Test.YtkfkdhgnddcfdaaPa
set_option linter.unusedVariables false
set_option linter.unusedSimpArgs false
set_option maxRecDepth 100000
set_option maxHeartbeats 1000000
namespace Go.L.Try
open Go Go.L
variable {l : List Task} {jobs : List Job}
def slowT (k : Int) (t : Task) : Task := ⟨t.name, t.C * k, t.T * k, t.D * k, t.J * k, t.Q * k, t.P⟩
def slowC (k : Int) (j : Job) : List Int := j.cuts.map (· * k) ++ List.replicate (j.work - sumI j.cuts).toNat k
def slowJ (k : Int) (j : Job) : Job := ⟨j.task, j.arrive * k, j.release * k, j.work * k, slowC k j⟩
def slowS (k : Int) (x : Span) : Span := ⟨x.job, x.from' * k, x.to' * k⟩
/-! ### Sections -/
theorem sumI_mul (k : Int) : ∀ cs : List Int, sumI (cs.map (· * k)) = sumI cs * k
  | [] => by rw [List.map_nil, sumI_nil, Int.zero_mul]
  | c :: r => by rw [List.map_cons, sumI_cons, sumI_cons, sumI_mul k r, Int.add_mul]
theorem wmap {k : Int} (hk : 0 < k) : ∀ (cs : List Int) (a d : Int), withinP (cs.map (· * k)) (a * k) (d * k) = withinP cs a d
  | [], a, d => rfl
  | c :: r, a, d => by
    simp only [List.map_cons, withinP]
    rw [show a * k + c * k = (a + c) * k by rw [Int.add_mul], wmap hk r (a + c) d]
    congr 1
    rw [decide_eq_decide]
    constructor
    · rintro ⟨h1, h2⟩
      exact ⟨Int.lt_of_mul_lt_mul_right h1 (by omega), Int.lt_of_mul_lt_mul_right h2 (by omega)⟩
    · rintro ⟨h1, h2⟩
      exact ⟨Int.mul_lt_mul_of_pos_right h1 hk, Int.mul_lt_mul_of_pos_right h2 hk⟩
theorem wrep {k : Int} (hk : 0 < k) : ∀ (n : Nat) (a d : Int), withinP (List.replicate n k) (a * k) (d * k) = false
  | 0, a, d => rfl
  | n + 1, a, d => by
    simp only [List.replicate_succ, withinP]
    rw [show a * k + k = (a + 1) * k by rw [Int.add_mul, Int.one_mul], wrep hk n (a + 1) d, Bool.or_false, decide_eq_false_iff_not]
    rintro ⟨h1, h2⟩
    have h3 := Int.lt_of_mul_lt_mul_right h1 (show 0 ≤ k by omega)
    have h4 := Int.lt_of_mul_lt_mul_right h2 (show 0 ≤ k by omega)
    omega
theorem wmap_in {k r : Int} (hr : 0 < r) (hrk : r < k) : ∀ (cs : List Int) (a d : Int), a ≤ d → d < a + sumI cs → withinP (cs.map (· * k)) (a * k) (d * k + r) = true
  | [], a, d, h1, h2 => by rw [sumI_nil] at h2; omega
  | c :: t, a, d, h1, h2 => by
    rw [sumI_cons] at h2
    simp only [List.map_cons, withinP, Bool.or_eq_true, decide_eq_true_eq]
    rw [show a * k + c * k = (a + c) * k by rw [Int.add_mul]]
    by_cases h : d < a + c
    · left
      have h3 : a * k ≤ d * k := Int.mul_le_mul_of_nonneg_right h1 (by omega)
      have h4 : (d + 1) * k ≤ (a + c) * k := Int.mul_le_mul_of_nonneg_right (by omega) (by omega)
      rw [Int.add_mul, Int.one_mul] at h4
      omega
    · right
      exact wmap_in hr hrk t (a + c) d (by omega) (by omega)
theorem wrep_in {k r : Int} (hr : 0 < r) (hrk : r < k) : ∀ (n : Nat) (a d : Int), a ≤ d → d < a + n → withinP (List.replicate n k) (a * k) (d * k + r) = true
  | 0, a, d, h1, h2 => by omega
  | n + 1, a, d, h1, h2 => by
    simp only [List.replicate_succ, withinP, Bool.or_eq_true, decide_eq_true_eq]
    rw [show a * k + k = (a + 1) * k by rw [Int.add_mul, Int.one_mul]]
    by_cases h : d = a
    · left
      rw [h, Int.add_mul, Int.one_mul]; omega
    · right
      exact wrep_in hr hrk n (a + 1) d (by omega) (by omega)
theorem slow_w0 {k : Int} (hk : 0 < k) (j : Job) (d : Int) : withinP (slowC k j) 0 (d * k) = withinP j.cuts 0 d := by
  unfold slowC
  rw [within_app, sumI_mul, Int.zero_add, wrep hk, Bool.or_false]
  have := wmap hk j.cuts 0 d
  rwa [Int.zero_mul] at this
theorem slow_w1 {k r : Int} (hr : 0 < r) (hrk : r < k) (j : Job) {d : Int} (h0 : 0 ≤ d) (h1 : d < j.work) : withinP (slowC k j) 0 (d * k + r) = true := by
  unfold slowC
  rw [within_app, sumI_mul, Int.zero_add]
  by_cases h : d < sumI j.cuts
  · have := wmap_in hr hrk j.cuts 0 d h0 (by omega)
    rw [Int.zero_mul] at this
    rw [this, Bool.true_or]
  · rw [wrep_in hr hrk _ _ d (by omega) (by omega), Bool.or_true]
theorem cutsOk_rep {k q : Int} (hk : 1 ≤ k) (hq : k ≤ q) : ∀ n : Nat, cutsOk q (List.replicate n k) (n * k) = true
  | 0 => rfl
  | n + 1 => by
    simp only [List.replicate_succ, cutsOk, Bool.and_eq_true, decide_eq_true_eq]
    rw [Int.natCast_add, Int.add_mul, Int.natCast_one, Int.one_mul]
    have : 0 ≤ (n : Int) * k := Int.mul_nonneg (by omega) (by omega)
    exact ⟨by omega, by rw [Int.add_sub_cancel]; exact cutsOk_rep hk hq n⟩
theorem slow_cuts {k q : Int} (hk : 1 ≤ k) (hq : 1 ≤ q) : ∀ {cs : List Int} {w : Int}, 0 ≤ w → cutsOk q cs w = true → cutsOk (q * k) (cs.map (· * k) ++ List.replicate (w - sumI cs).toNat k) (w * k) = true
  | [], w, hw, _ => by
    rw [List.map_nil, List.nil_append, sumI_nil, Int.sub_zero]
    have := cutsOk_rep (q := q * k) hk (by have := Int.mul_le_mul_of_nonneg_right hq (show 0 ≤ k by omega); rw [Int.one_mul] at this; exact this) w.toNat
    rwa [Int.toNat_of_nonneg hw] at this
  | c :: r, w, hw, h => by
    simp only [cutsOk, Bool.and_eq_true, decide_eq_true_eq] at h
    simp only [List.map_cons, List.cons_append, cutsOk, Bool.and_eq_true, decide_eq_true_eq]
    have h1 : 1 * k ≤ c * k := Int.mul_le_mul_of_nonneg_right h.1.1 (by omega)
    have h2 : c * k ≤ q * k := Int.mul_le_mul_of_nonneg_right h.1.2.1 (by omega)
    have h3 : c * k ≤ w * k := Int.mul_le_mul_of_nonneg_right h.1.2.2 (by omega)
    rw [Int.one_mul] at h1
    refine ⟨by omega, ?_⟩
    rw [sumI_cons, ← Int.sub_mul, show w - (c + sumI r) = w - c - sumI r by omega]
    exact slow_cuts hk hq (by omega) h.2
/-! ### Slow sets, and slow scripts -/
theorem slowT_valid (hv : validP l) (hs : ∀ t ∈ l, SmallT t) {k : Int} (hk : 1 ≤ k ∧ k ≤ 1048576) : validP (l.map (slowT k)) := by
  obtain ⟨h1, h2, h3⟩ := valid_iff.1 hv
  refine valid_iff.2 ⟨by rw [List.length_map]; exact h1, fun t ht => ?_, fun j m hj hm => ?_⟩
  · obtain ⟨u, hu, rfl⟩ := List.mem_map.1 ht
    obtain ⟨hr, hf⟩ := h2 u hu
    obtain ⟨s1, s2, s3, s4, s5, s6, s7⟩ := hs u hu
    simp only [rangesB, fitsB] at hr hf
    have m1 : ∀ x : Int, 1 ≤ x → x ≤ 20 → 1 ≤ x * k ∧ x * k ≤ 20971520 := fun x a b => by
      have e1 : 1 * k ≤ x * k := Int.mul_le_mul_of_nonneg_right a (by omega)
      have e2 : x * k ≤ 20 * k := Int.mul_le_mul_of_nonneg_right b (by omega)
      omega
    have m0 : ∀ x : Int, 0 ≤ x → x ≤ 20 → 0 ≤ x * k ∧ x * k ≤ 20971520 := fun x a b => by
      have e1 : 0 ≤ x * k := Int.mul_nonneg a (by omega)
      have e2 : x * k ≤ 20 * k := Int.mul_le_mul_of_nonneg_right b (by omega)
      omega
    have mm : ∀ x y : Int, x ≤ y → x * k ≤ y * k := fun x y h => Int.mul_le_mul_of_nonneg_right h (by omega)
    have c1 := m1 u.C (by omega) (by omega)
    have c2 := m1 u.T (by omega) (by omega)
    have c3 := m1 u.D (by omega) (by omega)
    have c4 := m1 u.Q (by omega) (by omega)
    have c5 := m0 u.J (by omega) (by omega)
    refine ⟨⟨hr.1, hr.2.1, ⟨c1.1, by show u.C * k ≤ _; omega⟩, ⟨c2.1, by show u.T * k ≤ _; omega⟩, ⟨c3.1, by show u.D * k ≤ _; omega⟩, ⟨c4.1, by show u.Q * k ≤ _; omega⟩, ⟨c5.1, by show u.J * k ≤ _; omega⟩, hr.2.2.2.2.2.2.2⟩, mm _ _ hf.1, ?_, mm _ _ hf.2.2⟩
    have := mm _ _ hf.2.1
    rwa [Int.add_mul] at this
  · rw [List.length_map] at hm
    rw [atI_lmap (by omega) (by omega : (j : Int) < l.length), atI_lmap (by omega) (by omega : (m : Int) < l.length)]
    exact h3 j m hj hm
theorem slowJ_legal (h : legalB l jobs = true) (hs : ∀ t ∈ l, SmallT t) (ha : ∀ j ∈ jobs, j.arrive ≤ 1024) {k : Int} (hk : 1 ≤ k ∧ k ≤ 1048576) : legalB (l.map (slowT k)) (jobs.map (slowJ k)) = true := by
  obtain ⟨_, h2, h3⟩ := legal_ok h
  have mm : ∀ x y : Int, x ≤ y → x * k ≤ y * k := fun x y h => Int.mul_le_mul_of_nonneg_right h (by omega)
  have at_ : ∀ t : Int, 0 ≤ t ∧ t < l.length → atI (l.map (slowT k)) t = slowT k (atI l t) := fun t ht => atI_lmap ht.1 ht.2
  refine legal_of (slowT_valid h3 hs hk) (by rw [List.length_map]; exact h2) (fun j hm => ?_) fun a b hab hb he => ?_
  · obtain ⟨x, hx, rfl⟩ := List.mem_map.1 hm
    have h1 := jobOK_mem h hx
    have hq := (hs _ (atI_mem h1.task.1 h1.task.2)).Q
    have e := at_ x.task h1.task
    have a1 := ha x hx
    have a2 := mm _ _ a1
    refine ⟨by rw [List.length_map]; exact h1.task, ⟨Int.mul_nonneg h1.arrive.1 (by omega), ?_⟩, ⟨mm _ _ h1.release.1, ?_⟩, ⟨?_, ?_⟩, ?_⟩
    · show x.arrive * k ≤ _; omega
    · show x.release * k ≤ x.arrive * k + (atI (l.map (slowT k)) x.task).J
      rw [e]
      have := mm _ _ h1.release.2
      rwa [Int.add_mul] at this
    · have := mm _ _ h1.work.1
      show 1 ≤ x.work * k; omega
    · show x.work * k ≤ (atI (l.map (slowT k)) x.task).C
      rw [e]; exact mm _ _ h1.work.2
    · show cutsOk (atI (l.map (slowT k)) x.task).Q (slowC k x) (x.work * k) = true
      rw [e]
      exact slow_cuts hk.1 hq.1 (by have := h1.work.1; omega) h1.cuts
  · rw [List.length_map] at hb
    rw [jb_map' (show a < jobs.length by omega), jb_map' hb] at he ⊢
    have h5 := arrive_le h b hab hb he
    have h6 := jobOK_of h hb
    show (jb jobs a).arrive * k + (atI (l.map (slowT k)) (jb jobs b).task).T ≤ (jb jobs b).arrive * k
    rw [at_ _ h6.task]
    have := mm _ _ h5
    rwa [Int.add_mul] at this
theorem jobs_near (hl : 0 < l.length) (hs : ∀ t ∈ l, SmallT t) (raw : List Raw) (hg : ∀ r ∈ raw, 0 ≤ r.gap ∧ r.gap < 12) : ∀ n : Nat, n ≤ raw.length → ∀ j ∈ jobsP l (raw.take n), 0 ≤ j.arrive ∧ j.arrive ≤ n * 32
  | 0, _ => fun j hj => by simp [jobsP] at hj
  | n + 1, hn => by
    have ih := jobs_near hl hs raw hg n (by omega)
    rw [take_snoc (by omega), jobsP_snoc]
    intro j hj
    rcases List.mem_append.1 hj with hj | hj
    · have := ih j hj; omega
    · rw [List.mem_singleton.1 hj]
      have hr := hg _ (atI_mem (l := raw) (i := (n : Int)) (by omega) (by omega))
      generalize atI raw (n : Int) = r at *
      have ht := emod_in r.task l.length (by omega)
      have hT := (hs _ (atI_mem ht.1 ht.2)).T
      have hD := (hs _ (atI_mem ht.1 ht.2)).D
      have hC := (hs _ (atI_mem ht.1 ht.2)).C
      have hgm : r.gap % 1048576 = r.gap := Int.emod_eq_of_lt hr.1 (by omega)
      show 0 ≤ (if 0 ≤ _ then _ else _) ∧ (if 0 ≤ _ then _ else _) ≤ _
      rw [hgm]
      split
      · rename_i h0
        have hlt := lastN_in (jobsP l (raw.take n)) (r.task % l.length) (jobsP l (raw.take n)).length
        have := ih _ (atI_mem h0 hlt.2)
        omega
      · omega
/-! ### Their schedules -/
theorem EndAt.uniq (S : Script l jobs) {i e e' : Nat} (hi : i < jobs.length) (h : EndAt l jobs i e) (h' : EndAt l jobs i e') : e = e' := by
  have h1 := (h'.lt S hi e).1 ((h.lt S hi e).2 (Nat.le_refl _))
  have h2 := (h.lt S hi e').1 ((h'.lt S hi e').2 (Nat.le_refl _))
  omega
theorem addTick_last (A : List Span) (j f t : Int) : addTick (A ++ [⟨j, f, t⟩]) j t = A ++ [⟨j, f, t + 1⟩] := by
  rcases addTick_cases (A ++ [⟨j, f, t⟩]) j t with ⟨B, x, h1, h2, h3, h4⟩ | ⟨h1, _⟩
  · have := List.append_inj' h1 rfl
    obtain ⟨rfl, e⟩ := this
    have e2 : (⟨j, f, t⟩ : Span) = x := by simpa using e
    rw [h4, ← e2]
  · exact absurd ⟨rfl, rfl⟩ (h1 A _ rfl)
structure SlowAt (l : List Task) (jobs : List Job) (k n : Nat) : Prop where
  dn : ∀ i, i < jobs.length → Try.dn (l.map (slowT k)) (jobs.map (slowJ k)) i (n * k) = Try.dn l jobs i n * k
  L : (st (l.map (slowT k)) (jobs.map (slowJ k)) (n * k)).L = (st l jobs n).L.map (slowS k)
variable {k : Nat}
/-- What is worked within a great tick. -/
def SlowMid (l : List Task) (jobs : List Job) (k n r : Nat) : Prop := ∀ i, i < jobs.length → dn (l.map (slowT k)) (jobs.map (slowJ k)) i (n * k + r) = dn l jobs i n * k + if who l jobs n = i then (r : Int) else 0
theorem slow_rel {n r : Nat} (hr : r < k) {x : Int} (h : x * (k : Int) ≤ ((n * k + r : Nat) : Int)) : x ≤ n := by
  rcases Int.lt_or_le (n : Int) x with h1 | h1
  · have h2 : ((n : Int) + 1) * k ≤ x * k := Int.mul_le_mul_of_nonneg_right (by omega) (by omega)
    rw [Int.add_mul, Int.one_mul] at h2
    rw [Int.natCast_add, Int.natCast_mul] at h
    omega
  · exact h1
theorem slow_who (S : Script l jobs) (S' : Script (l.map (slowT k)) (jobs.map (slowJ k))) {n r : Nat} (hr : r < k) (h : SlowMid l jobs k n r) : who (l.map (slowT k)) (jobs.map (slowJ k)) (n * k + r) = who l jobs n := by
  have hk : (0 : Int) < k := by omega
  have hlen : (jobs.map (slowJ (k : Int))).length = jobs.length := List.length_map ..
  have hP : ∀ i, i < jobs.length → (atI (l.map (slowT (k : Int))) (jb jobs i).task).P = (atI l (jb jobs i).task).P := fun i hi => by
    have := S.ok.task _ (jb_mem hi)
    rw [atI_lmap this.1 this.2]; rfl
  -- who does not work is within a section as ahead
  have hin0 : ∀ i, i < jobs.length → (who l jobs n ≠ i ∨ r = 0) → inSec (l.map (slowT k)) (jobs.map (slowJ k)) i (n * k + r) = inSec l jobs i n := fun i hi hne => by
    have e := h i hi
    have e2 : (if who l jobs n = i then (r : Int) else 0) = 0 := by
      split
      · rename_i h1; rcases hne with h2 | h2
        · exact absurd h1 h2
        · rw [h2]; rfl
      · rfl
    rw [e2, Int.add_zero] at e
    unfold inSec
    rw [e, jb_map' hi]
    exact slow_w0 hk _ _
  have hready : ∀ i, i < jobs.length → (jb jobs i).release ≤ n → who l jobs n < 0 → dn l jobs i n = (jb jobs i).work := fun i hi hrel hw => who_none S hw hi hrel
  rcases Int.lt_or_le (who l jobs n) 0 with hw | hw
  · have hno : ∀ i, i < (jobs.map (slowJ (k : Int))).length → inSec (l.map (slowT k)) (jobs.map (slowJ k)) i (n * k + r) = false := fun i hi => by
      rw [hlen] at hi
      rw [hin0 i hi (.inl (by omega))]
      cases hc : inSec l jobs i n with
      | false => rfl
      | true => have := who_in S hi hc; omega
    have h1 := who_no S' hno fun i hi hrel hd => by
      rw [hlen] at hi
      rw [jb_map' hi] at hrel hd
      have h2 := hready i hi (slow_rel hr hrel) hw
      rw [h i hi, if_neg (by omega), h2, Int.add_zero] at hd
      have hd' : (jb jobs i).work * (k : Int) < (jb jobs i).work * (k : Int) := hd
      omega
    have h2 := (who_ok S n).1
    have h3 := (who_ok S' (n * k + r)).1
    omega
  · obtain ⟨m, hm⟩ : ∃ m : Nat, who l jobs n = m := ⟨(who l jobs n).toNat, by omega⟩
    obtain ⟨hmi, hmd⟩ := who_dn S hm
    rw [hm]
    by_cases hr0 : r = 0
    · rcases inSec_cases l jobs n with ⟨i, hi, hs⟩ | hno
      · have := who_in S hi hs
        have hmi2 : i = m := by omega
        subst hmi2
        exact who_in S' (by rw [hlen]; exact hi) (by rw [hin0 i hi (.inr hr0)]; exact hs)
      · have hno' : ∀ i, i < (jobs.map (slowJ (k : Int))).length → inSec (l.map (slowT k)) (jobs.map (slowJ k)) i (n * k + r) = false := fun i hi => by
          rw [hlen] at hi
          rw [hin0 i hi (.inr hr0)]; exact hno i hi
        obtain ⟨b1, b2, b3, b4⟩ := best_of S hno hm
        have hdn : ∀ i, i < jobs.length → dn (l.map (slowT k)) (jobs.map (slowJ k)) i (n * k + r) = dn l jobs i n * k := fun i hi => by
          rw [h i hi, hr0]; split <;> simp
        refine who_best S' hno' ⟨by rw [hlen]; exact b1, ?_, ?_, fun i hi hir hid => ?_⟩
        · rw [jb_map' b1]
          show (jb jobs m).release * (k : Int) ≤ ((n * k + r : Nat) : Int)
          have := Int.mul_le_mul_of_nonneg_right b2 (show (0 : Int) ≤ k by omega)
          rw [Int.natCast_add, Int.natCast_mul]; omega
        · rw [jb_map' b1, hdn m b1]
          exact Int.mul_lt_mul_of_pos_right b3 hk
        · rw [hlen] at hi
          rw [jb_map' hi] at hir hid ⊢
          rw [jb_map' b1]
          rw [hdn i hi] at hid
          have h7 := b4 i hi (slow_rel hr hir) (Int.lt_of_mul_lt_mul_right hid (by omega))
          have p1 := hP m b1
          have p2 := hP i hi
          show (atI (l.map (slowT k)) (jb jobs m).task).P < (atI (l.map (slowT k)) (jb jobs i).task).P ∨ _ ≤ (atI (l.map (slowT k)) (jb jobs i).task).P ∧ _
          rw [p2]
          show (atI (l.map (slowT k)) (jb jobs m).task).P < _ ∨ (atI (l.map (slowT k)) (jb jobs m).task).P ≤ _ ∧ _
          rw [p1]; exact h7
    · refine who_in S' (by rw [hlen]; exact hmi) ?_
      unfold inSec
      rw [h m hmi, if_pos hm, jb_map' hmi]
      exact slow_w1 (by omega) (by omega) _ (dn_in S hmi n).1 hmd
theorem slow_mid (S : Script l jobs) (S' : Script (l.map (slowT k)) (jobs.map (slowJ k))) {n : Nat} (h : ∀ i, i < jobs.length → dn (l.map (slowT k)) (jobs.map (slowJ k)) i (n * k) = dn l jobs i n * k) : ∀ r, r ≤ k → SlowMid l jobs k n r
  | 0, _ => fun i hi => by rw [Nat.add_zero, h i hi]; split <;> simp
  | r + 1, hr => fun i hi => by
    have ih := slow_mid S S' h r (by omega)
    have hw := slow_who S S' (show r < k by omega) ih
    rw [← Nat.add_assoc, dn_succ S' (by rw [List.length_map]; exact hi), hw, ih i hi]
    split <;> omega
theorem slow_no (S : Script l jobs) (S' : Script (l.map (slowT k)) (jobs.map (slowJ k))) {n : Nat} (h : ∀ i, i < jobs.length → dn (l.map (slowT k)) (jobs.map (slowJ k)) i (n * k) = dn l jobs i n * k) (hw : who l jobs n < 0) : ∀ r, r ≤ k → (st (l.map (slowT k)) (jobs.map (slowJ k)) (n * k + r)).L = (st (l.map (slowT k)) (jobs.map (slowJ k)) (n * k)).L
  | 0, _ => rfl
  | r + 1, hr => by
    have h1 := slow_who S S' (show r < k by omega) (slow_mid S S' h r (by omega))
    rw [← Nat.add_assoc, st_L S', h1, if_pos hw]
    exact slow_no S S' h hw r (by omega)
theorem slow_one (S : Script l jobs) (S' : Script (l.map (slowT k)) (jobs.map (slowJ k))) {n : Nat} (h : ∀ i, i < jobs.length → dn (l.map (slowT k)) (jobs.map (slowJ k)) i (n * k) = dn l jobs i n * k) (hw : 0 ≤ who l jobs n) {A : List Span} {f : Int} (h0 : addTick (st (l.map (slowT k)) (jobs.map (slowJ k)) (n * k)).L (who l jobs n) ((n * k : Nat) : Int) = A ++ [⟨who l jobs n, f, ((n * k : Nat) : Int) + 1⟩]) : ∀ r, r + 1 ≤ k → (st (l.map (slowT k)) (jobs.map (slowJ k)) (n * k + (r + 1))).L = A ++ [⟨who l jobs n, f, ((n * k : Nat) : Int) + (r + 1 : Nat)⟩]
  | 0, hr => by
    have h1 := slow_who S S' (show 0 < k by omega) (slow_mid S S' h 0 (by omega))
    rw [Nat.add_zero] at h1
    rw [Nat.zero_add, st_L S', h1, if_neg (by omega), h0]; rfl
  | r + 1, hr => by
    have h1 := slow_who S S' (show r + 1 < k by omega) (slow_mid S S' h (r + 1) (by omega))
    rw [← Nat.add_assoc, st_L S', h1, if_neg (by omega), slow_one S S' h hw h0 r (by omega)]
    have e : ((n * k + (r + 1) : Nat) : Int) = ((n * k : Nat) : Int) + (r + 1 : Nat) := by omega
    rw [e, addTick_last]
    congr 3
theorem slow_at (hk : 0 < k) (S : Script l jobs) (S' : Script (l.map (slowT k)) (jobs.map (slowJ k))) : ∀ n, SlowAt l jobs k n
  | 0 => by
    rw [show (0 : Nat) = 0 * k by rw [Nat.zero_mul]]
    refine ⟨fun i hi => ?_, ?_⟩
    · simp only [Nat.zero_mul]
      rw [dn_zero hi, dn_zero (by rw [List.length_map]; exact hi)]; simp
    · simp only [Nat.zero_mul]; rfl
  | n + 1 => by
    have ih := slow_at hk S S' n
    have hm := slow_mid S S' ih.dn k (Nat.le_refl _)
    have e : (n + 1) * k = n * k + k := Nat.succ_mul n k
    refine ⟨fun i hi => ?_, ?_⟩
    · rw [e, hm i hi, dn_succ S hi, Int.add_mul]
      split <;> simp
    · rw [e, st_L S]
      by_cases hw : who l jobs n < 0
      · rw [if_pos hw, slow_no S S' ih.dn hw k (Nat.le_refl _)]; exact ih.L
      · rw [if_neg hw]
        have hkk : (0 : Int) < k := by omega
        rcases addTick_cases (st l jobs n).L (who l jobs n) n with ⟨A, x, h1, h2, h3, h4⟩ | ⟨h1, h4⟩
        · obtain ⟨xj, xf, xt⟩ := x
          dsimp only at h2 h3 h4
          subst h2 h3
          have h0 : addTick (st (l.map (slowT k)) (jobs.map (slowJ k)) (n * k)).L (who l jobs n) ((n * k : Nat) : Int) = A.map (slowS k) ++ [⟨who l jobs n, xf * k, ((n * k : Nat) : Int) + 1⟩] := by
            rw [ih.L, h1, List.map_append, List.map_cons, List.map_nil]
            show addTick (A.map (slowS k) ++ [⟨who l jobs n, xf * k, (n : Int) * k⟩]) _ _ = _
            rw [Int.natCast_mul]
            exact addTick_last _ _ _ _
          have h5 := slow_one S S' ih.dn (by omega) h0 (k - 1) (by omega)
          rw [show k - 1 + 1 = k by omega] at h5
          rw [h5, h4, List.map_append, List.map_cons, List.map_nil]
          simp only [slowS]
          rw [Int.add_mul, Int.one_mul, Int.natCast_mul]
        · have h0 : addTick (st (l.map (slowT k)) (jobs.map (slowJ k)) (n * k)).L (who l jobs n) ((n * k : Nat) : Int) = ((st l jobs n).L.map (slowS k)) ++ [⟨who l jobs n, ((n * k : Nat) : Int), ((n * k : Nat) : Int) + 1⟩] := by
            rw [ih.L]
            rcases addTick_cases ((st l jobs n).L.map (slowS k)) (who l jobs n) ((n * k : Nat) : Int) with ⟨A, x, g1, g2, g3, g4⟩ | ⟨_, g4⟩
            · exfalso
              rcases List.eq_nil_or_concat (st l jobs n).L with e0 | ⟨B, y, e0⟩
              · rw [e0] at g1; simp at g1
              · rw [List.concat_eq_append] at e0
                rw [e0, List.map_append, List.map_cons, List.map_nil] at g1
                have e2 := List.append_inj' g1 rfl
                have e3 : slowS k y = x := by simpa using e2.2
                subst e3
                refine h1 B y e0 ⟨g2, ?_⟩
                have g3' : y.to' * (k : Int) = ((n * k : Nat) : Int) := g3
                rw [Int.natCast_mul] at g3'
                exact Int.eq_of_mul_eq_mul_right (by omega) g3'
            · exact g4
          have h5 := slow_one S S' ih.dn (by omega) h0 (k - 1) (by omega)
          rw [show k - 1 + 1 = k by omega] at h5
          rw [h5, h4, List.map_append, List.map_cons, List.map_nil]
          simp only [slowS]
          rw [Int.add_mul, Int.one_mul, Int.natCast_mul]
variable {R R' : RS} {T T' : Nat}
theorem slow_run (hk : 0 < k) (S : Script l jobs) (S' : Script (l.map (slowT k)) (jobs.map (slowJ k))) (r : RunAt l jobs R T) (r' : RunAt (l.map (slowT k)) (jobs.map (slowJ k)) R' T') : R'.L = R.L.map (slowS k) ∧ ∀ i, i < jobs.length → atI R'.ends (i : Int) = atI R.ends (i : Int) * k := by
  have hlen : (jobs.map (slowJ (k : Int))).length = jobs.length := List.length_map ..
  refine ⟨?_, fun i hi => ?_⟩
  · rw [r'.is, r.is, done_L S' r'.done (B := T * k) fun i hi => ?_]
    · exact (slow_at hk S S' T).L
    · rw [hlen] at hi
      rw [(slow_at hk S S' T).dn i hi, r.done i hi, jb_map' hi]; rfl
  · have hi' : i < (jobs.map (slowJ (k : Int))).length := by rw [hlen]; exact hi
    obtain ⟨e, e1, e2, e3⟩ := r.ends i hi
    obtain ⟨x, x1, x2, x3⟩ := r'.ends i hi'
    rw [e1, x1]
    have hpos := e3.pos
    have hm := slow_mid S S' (slow_at hk S S' (e - 1)).dn (k - 1) (by omega)
    have ek : (e - 1) * k + (k - 1) = e * k - 1 := by
      have : e * k = (e - 1) * k + k := by rw [← Nat.succ_mul]; congr 1; omega
      omega
    have hp2 : 0 < e * k := Nat.mul_pos hpos hk
    have h2 : EndAt (l.map (slowT k)) (jobs.map (slowJ k)) i (e * k) := by
      refine ⟨hp2, ?_, ?_⟩
      · rw [← ek, slow_who S S' (by omega) hm]; exact e3.run
      · rw [← ek, hm i hi, if_pos e3.run, jb_map' hi]
        show _ = (jb jobs i).work * (k : Int)
        rw [← e3.fin, Int.add_mul, Int.one_mul]; omega
    have := x3.uniq S' hi' h2
    rw [this, Int.natCast_mul]
end Go.L.Try

/- ExecScales: all times so many times as great. -/
set_option linter.unusedVariables false
set_option linter.unusedSimpArgs false
set_option maxRecDepth 100000
set_option maxHeartbeats 2000000
namespace Go.L.Try
open Go Go.L
variable {E : Env}

theorem low20 (q : EqK) (a : Int) : ∃ k : Nat, k < 1048576 ∧ binOp .and q (.int .i64 a) (.int .i64 1048575) = some (.int .i64 k) := by
  have h2 : (BitVec.ofInt 64 a &&& BitVec.ofInt 64 1048575).toNat < 1048576 := by
    rw [BitVec.toNat_and]
    have e : (BitVec.ofInt 64 1048575).toNat = 2 ^ 20 - 1 := by decide
    rw [e, Nat.and_two_pow_sub_one_eq_mod]
    exact Nat.mod_lt _ (by decide)
  refine ⟨(BitVec.ofInt 64 a &&& BitVec.ofInt 64 1048575).toNat, h2, ?_⟩
  simp only [binOp, intOp, if_true]
  congr 2
  exact wrap_i64 (by show (-9223372036854775808 : Int) ≤ ((BitVec.ofInt 64 a &&& BitVec.ofInt 64 1048575).toNat : Int); omega) (by show ((BitVec.ofInt 64 a &&& BitVec.ofInt 64 1048575).toNat : Int) < _; omega)
theorem RdJ.open2 {h : Heap} {v : Value} {jobs : List Job} (r : RdJ h v jobs) : ∃ jl : List (NV Job), jobs = jl.map NV.j ∧ Rd 5 (encN hdJ) h v jl ∧ ∀ p ∈ jl, Rd 1 encI h p.v p.j.cuts := by
  obtain ⟨jl, h1, h2, h3⟩ := r.is
  exact ⟨jl, h1.symm, h2, h3⟩
theorem sumI_take {cs : List Int} (h : ∀ c ∈ cs, 1 ≤ c) (n : Nat) : n ≤ cs.length → (n : Int) ≤ sumI (cs.take n) ∧ sumI (cs.take n) ≤ sumI cs := by
  intro hn
  have h1 : sumI cs = sumI (cs.take n) + sumI (cs.drop n) := by rw [← sumI_app, List.take_append_drop]
  have h2 := sumI_nonneg (l := cs.drop n) fun c hc => h c (List.mem_of_mem_drop hc)
  have key : ∀ l : List Int, (∀ c ∈ l, 1 ≤ c) → (l.length : Int) ≤ sumI l := by
    intro l
    induction l with
    | nil => intro _; exact Int.le_refl _
    | cons x r ih =>
      intro hx
      have := hx x (by simp)
      have := ih fun c hc => hx c (by simp [hc])
      rw [sumI_cons, List.length_cons]; omega
  have h3 := key (cs.take n) fun c hc => h c (List.mem_of_mem_take hc)
  rw [List.length_take] at h3
  omega
/-- The sections of a job, each so many times as long. -/
theorem sc_l1 {W : Nat → Prop} {H : Heap} {c : Nat} {a0 a1 a2 a3 vc v8 v9 v11 v14 : Value} {w k : Int} {i : Nat} {cuts : List Int} (hb : H[c]? = some (.cells [a0, a1, a2, a3, vc] false)) (rc : Rd 1 encI H vc cuts) (hc1 : ∀ x ∈ cuts, 1 ≤ x) (hw : sumI cuts ≤ w) (hw4 : w ≤ 4) (hk : 1 ≤ k ∧ k ≤ 1048576) (hW : ∀ b, H.length ≤ b → W b) {Q : Ex → Fr → Heap → Prop} {fr : Fr}
    (g7 : get fr 7 = .bool true) (g8 : get fr 8 = v8) (g9 : get fr 9 = v9) (g10 : get fr 10 = .int .i64 k) (g11 : get fr 11 = v11) (g14 : get fr 14 = v14) (g15 : get fr 15 = .int .i64 i) (g16 : get fr 16 = .pointer (some ⟨c, 0, none⟩)) (g17 : get fr 17 = .int .i64 w) (g18 : get fr 18 = .slice none 0 0) (g19 : get fr 19 = .int .i64 0)
    (hq : ∀ fr' h' v, get fr' 7 = .bool true → get fr' 8 = v8 → get fr' 9 = v9 → get fr' 10 = .int .i64 k → get fr' 11 = v11 → get fr' 14 = v14 → get fr' 15 = .int .i64 i → get fr' 16 = .pointer (some ⟨c, 0, none⟩) → get fr' 17 = .int .i64 (w - sumI cuts) → get fr' 18 = v → Pre H h' → OwnT H.length 1 encI h' v (cuts.map (· * k)) → Q (.exit 4) fr' h') :
    WO W (iterW (code (callW E) iterW 211 c_cadencylaw10_ExecScales_l1) fr H) Q := by
  have few := rc.few
  have hct : ∀ n : Nat, n < cuts.length → 1 ≤ atI cuts (n : Int) ∧ atI cuts (n : Int) ≤ 4 := fun n hn => by
    have h1 := hc1 _ (atI_mem (l := cuts) (i := (n : Int)) (by omega) (by omega))
    have h2 := sumI_take hc1 (n + 1) (by omega)
    have h3 := sumI_take hc1 n (by omega)
    rw [take_snoc hn, sumI_app, sumI_cons, sumI_nil] at h2
    omega
  refine WO.loop (fun (a : Nat × Value) fr h' => Pre H h' ∧ a.1 ≤ cuts.length ∧ OwnT H.length 1 encI h' a.2 ((cuts.take a.1).map (· * k)) ∧ get fr 7 = .bool true ∧ get fr 8 = v8 ∧ get fr 9 = v9 ∧ get fr 10 = .int .i64 k ∧ get fr 11 = v11 ∧ get fr 14 = v14 ∧ get fr 15 = .int .i64 i ∧ get fr 16 = .pointer (some ⟨c, 0, none⟩) ∧ get fr 17 = .int .i64 (w - sumI (cuts.take a.1)) ∧ get fr 18 = a.2 ∧ get fr 19 = .int .i64 a.1) (fun a => cuts.length - a.1) ?_ (0, .slice none 0 0) ⟨Pre.refl _, Nat.zero_le _, OwnT.nil, g7, g8, g9, g10, g11, g14, g15, g16, by dsimp only; rw [g17, List.take_zero, sumI_nil, Int.sub_zero], g18, g19⟩
  rintro ⟨n, v⟩ fr h' ⟨hp, hn, ho, q7, q8, q9, q10, q11, q14, q15, q16, q17, q18, q19⟩
  dsimp only at hn ho q17 q18 q19 ⊢
  clear g7 g8 g9 g10 g11 g14 g15 g16 g17 g18 g19
  have hb' := hp _ _ hb
  have rc' := rc.pre hp
  have oo := ho.rd.one
  have co := ho.rd.cv
  have oc := rc.one
  have hlh := hp.le
  have hst := sumI_take hc1 n hn
  unfold c_cadencylaw10_ExecScales_l1
  by_cases hlt : n < cuts.length
  · have hn2 : (n : Int) < cuts.length := by omega
    have h1 := hct n hlt
    have m1 : 1 * k ≤ atI cuts (n : Int) * k := Int.mul_le_mul_of_nonneg_right h1.1 (by omega)
    have m2 : atI cuts (n : Int) * k ≤ 4 * k := Int.mul_le_mul_of_nonneg_right h1.2 (by omega)
    have m3 : 0 ≤ atI cuts (n : Int) * k ∧ atI cuts (n : Int) * k ≤ 4194304 := by omega
    have hsnoc : sumI (cuts.take (n + 1)) = sumI (cuts.take n) + atI cuts (n : Int) := by
      rw [take_snoc hlt, sumI_app, sumI_cons, sumI_nil, Int.add_zero]
    have HO := Hid.mk ho
    have HS := Hid.mk hsnoc
    clear ho hsnoc m1 m2
    (repeat' simp -dsimp (disch := omega) only [↓EA, EB, Nat.reduceEqDiff, Nat.reduceLeDiff, Nat.reduceMul, ↓reduceIte, newCells, bslV, eq_self, *, rc'.len, rc'.ixs, rc'.ld0, encI])
    refine wx_app2 (HO.out.app _) (hp.app' _) (Nat.le_refl _) (by rw [List.length_append]; omega) (fun hn => hW _ (by have := HO.out.ge hn; omega)) (atI cuts (n : Int) * k) (by rw [cellsOf_some, geta0]; rfl) rfl (by decide) (by decide) (by rw [List.length_map, List.length_take]; omega) fun v' h2 o2 p2 hb2 hl2 hk2 => ?_
    have O2 := Hid.mk (And.intro o2 p2)
    have hb3 := p2 _ _ hb
    have rc2 := rc.pre p2
    clear o2 p2 hb2 hl2 hk2 hb' rc'
    (repeat' simp -dsimp (disch := omega) only [↓EA, EB, Nat.reduceEqDiff, ↓reduceIte, eq_self, *, rc2.ixs, rc2.ld0, encI])
    refine Next.mk (n + 1, v') ⟨O2.out.2, by dsimp only; omega, ?_, rfl, rfl, rfl, rfl, rfl, rfl, rfl, rfl, by dsimp only; rw [HS.out]; simp only [get]; simp; omega, rfl, by simp only [get]; simp⟩ (by dsimp only; omega)
    dsimp only
    have := O2.out.1
    rw [take_snoc hlt, List.map_append]; exact this
  · have hne : n = cuts.length := by omega
    subst hne
    rw [List.take_length] at ho q17
    have hn2 : ¬ ((cuts.length : Nat) : Int) < cuts.length := by omega
    (repeat' simp -dsimp (disch := omega) only [↓EA, EB, Nat.reduceEqDiff, ↓reduceIte, eq_self, *, rc'.len])
    exact hq _ _ _ rfl rfl rfl rfl rfl rfl rfl rfl rfl rfl hp ho
theorem sc_l2 {W : Nat → Prop} {H : Heap} {v8 v9 v11 v14 v16 : Value} {k : Int} {left i : Nat} {A : List Int} (hl4 : left ≤ 4) (hA : A.length ≤ 4) (hk : 1 ≤ k ∧ k ≤ 1048576) (hW : ∀ b, H.length ≤ b → W b) {Q : Ex → Fr → Heap → Prop} {fr : Fr} {h : Heap} {v : Value} (hp : Pre H h) (ho : OwnT H.length 1 encI h v A) (o16 : oneCell v16 = true)
    (g7 : get fr 7 = .bool true) (g8 : get fr 8 = v8) (g9 : get fr 9 = v9) (g10 : get fr 10 = .int .i64 k) (g11 : get fr 11 = v11) (g14 : get fr 14 = v14) (g15 : get fr 15 = .int .i64 i) (g16 : get fr 16 = v16) (g17 : get fr 17 = .int .i64 left) (g18 : get fr 18 = v)
    (hq : ∀ fr' h' v, get fr' 7 = .bool true → get fr' 8 = v8 → get fr' 9 = v9 → get fr' 10 = .int .i64 k → get fr' 11 = v11 → get fr' 14 = v14 → get fr' 15 = .int .i64 i → get fr' 16 = v16 → get fr' 18 = v → Pre H h' → OwnT H.length 1 encI h' v (A ++ List.replicate left k) → Q (.exit 6) fr' h') :
    WO W (iterW (code (callW E) iterW 211 c_cadencylaw10_ExecScales_l2) fr h) Q := by
  refine WO.loop (fun (a : Nat × Value) fr h' => Pre H h' ∧ a.1 ≤ left ∧ OwnT H.length 1 encI h' a.2 (A ++ List.replicate (left - a.1) k) ∧ get fr 7 = .bool true ∧ get fr 8 = v8 ∧ get fr 9 = v9 ∧ get fr 10 = .int .i64 k ∧ get fr 11 = v11 ∧ get fr 14 = v14 ∧ get fr 15 = .int .i64 i ∧ get fr 16 = v16 ∧ get fr 17 = .int .i64 a.1 ∧ get fr 18 = a.2) (fun a => a.1) ?_ (left, v) ⟨hp, Nat.le_refl _, by dsimp only; rw [Nat.sub_self, List.replicate_zero, List.append_nil]; exact ho, g7, g8, g9, g10, g11, g14, g15, g16, g17, g18⟩
  clear hp ho g7 g8 g9 g10 g11 g14 g15 g16 g17 g18
  rintro ⟨n, v⟩ fr h' ⟨hp, hn, ho, q7, q8, q9, q10, q11, q14, q15, q16, q17, q18⟩
  dsimp only at hn ho q17 q18 ⊢
  have oo := ho.rd.one
  have co := ho.rd.cv
  have hlh := hp.le
  unfold c_cadencylaw10_ExecScales_l2
  by_cases hlt : 0 < n
  · have HO := Hid.mk ho
    clear ho
    (repeat' (first | (with_reducible refine A3 (fun _ => ?_) (fun _ => ?_) <;> try (exfalso; omega)) | simp -dsimp (disch := omega) only [↓EA, EB, Nat.reduceEqDiff, Nat.reduceLeDiff, Nat.reduceMul, ↓reduceIte, newCells, bslV, eq_self, *]))
    refine wx_app2 (HO.out.app _) (hp.app' _) (Nat.le_refl _) (by rw [List.length_append]; omega) (fun hn => hW _ (by have := HO.out.ge hn; omega)) k (by rw [cellsOf_some, geta0]; rfl) rfl (by decide) (by decide) (by rw [List.length_append, List.length_replicate]; omega) fun v' h2 o2 p2 hb2 hl2 hk2 => ?_
    have O2 := Hid.mk (And.intro o2 p2)
    clear o2 p2 hb2 hl2 hk2
    (repeat' simp -dsimp (disch := omega) only [↓EA, EB, Nat.reduceEqDiff, ↓reduceIte, eq_self, *])
    refine Next.mk (n - 1, v') ⟨O2.out.2, by dsimp only; omega, ?_, rfl, rfl, rfl, rfl, rfl, rfl, rfl, rfl, by dsimp only; simp only [get]; simp; omega, rfl⟩ (by dsimp only; omega)
    dsimp only
    have := O2.out.1
    rw [show left - (n - 1) = (left - n) + 1 by omega, List.replicate_succ', ← List.append_assoc]; exact this
  · have hn0 : n = 0 := by omega
    subst hn0
    rw [Nat.sub_zero] at ho
    (repeat' (first | (with_reducible refine A3 (fun _ => ?_) (fun _ => ?_) <;> try (exfalso; omega)) | simp -dsimp (disch := omega) only [↓EA, EB, Nat.reduceEqDiff, ↓reduceIte, eq_self, *]))
    exact hq _ _ _ rfl rfl rfl rfl rfl rfl rfl rfl rfl hp ho
theorem execScales (hE : Laid E) (ha : ∀ h, callW E (.func (.func n_cadencylaw10_awake) #[] #[]) [] h = some (.bool true, h, [])) {h : Heap} {vl vr : Value} {l : List Spec} {raw : List Raw} {by' : Int} (hl : Rd 5 encSp h vl l) (hr : RdR h vr raw) (hb : i64in by') :
    callW E (.func (.func n_cadencylaw10_ExecScales) #[] #[]) [vl, vr, .int .i64 by'] h = some (.bool true, h, []) := by
  refine fn_same hE.cadencylaw10_ExecScales rfl (by simp) ?_
  obtain ⟨q, hq, hand⟩ := low20 .other by'
  obtain ⟨k, hk⟩ : ∃ k : Nat, 1 + (q : Int) = k := ⟨1 + q, by omega⟩
  have hk1 : 1 ≤ (k : Int) ∧ (k : Int) ≤ 1048576 := by omega
  simp only [argsF]
  (repeat' simp -dsimp (disch := omega) only [↓EA, EB, Nat.reduceEqDiff, Nat.reduceAdd, ↓reduceIte, reduceCtorEq, eq_self, *])
  refine wx_new (set04 hE hl (most := 4) (by decide) (by decide) hb) fun v1 ys r1 p1 => ?_
  have P1 := p1
  generalize _ ++ ys = H1 at r1 p1 P1 ⊢
  have hv := setP_valid l (most := 4) by' (by decide) (by decide)
  have hsl := setP_len l (most := 4) (turn := by') (by decide)
  have hsm := fun t ht => setP_small (l := l) (most := 4) (turn := by') (t := t) (by decide) (by decide) ht
  generalize setP l 4 by' = s at *
  have hnm : ∀ t ∈ s, t.name.size < 1152921504606846976 := fun t ht => by have := (hsm t ht).name; omega
  have o1 := r1.one
  have c1 := r1.cv
  clear p1
  obtain ⟨hsl0, hsl1⟩ := hsl
  (repeat' simp -dsimp (disch := omega) only [↓EA, EB, Nat.reduceEqDiff, ↓reduceIte, reduceCtorEq, eq_self, *])
  refine wx_new (few08 hE (hr.pre P1) (most := 8) (by decide) (by decide)) fun v2 ys r2 p2 => ?_
  have P2 := P1.trans p2
  replace r1 := r1.pre p2
  generalize _ ++ ys = H2 at r2 p2 P2 r1 ⊢
  clear p2 P1
  generalize hraw : List.map fewOf (List.take (8 : Int).toNat raw) = rw8 at *
  have hgap : ∀ r ∈ rw8, 0 ≤ r.gap ∧ r.gap < 12 := fun r hr => by
    rw [← hraw] at hr
    obtain ⟨x, _, rfl⟩ := List.mem_map.1 hr
    exact emod_in x.gap 12 (by decide)
  have hraw8 : rw8.length ≤ 8 := by rw [← hraw, List.length_map, List.length_take]; omega
  clear hraw
  (repeat' simp -dsimp (disch := omega) only [↓EA, EB, Nat.reduceEqDiff, ↓reduceIte, eq_self, *])
  refine wx_new (decode08 hE r1 hnm r2) fun v3 ys r3 p3 => ?_
  have P3 := P2.trans p3
  replace r1 := r1.pre p3
  generalize _ ++ ys = H3 at r3 p3 P3 r1 ⊢
  have sj := decode_small hv hsm rw8 hraw8 (by decide)
  have hnear : ∀ j ∈ decodeP s rw8, j.arrive ≤ 1024 := fun j hj => by
    have e : decodeP s rw8 = jobsP s rw8 := by rw [decodeP, if_pos (show (checkAllP s).2 = 0 from hv), List.take_of_length_le (by omega)]
    rw [e] at hj
    have := jobs_near hsl0 hsm rw8 hgap rw8.length (Nat.le_refl _) j (by rw [List.take_length]; exact hj)
    omega
  clear p3 P2 r2 hgap
  generalize decodeP s rw8 = jobs at *
  have hsum : sumWork jobs ≤ 1099511627776 := by have := sj.sum; omega
  have hjl := sj.len
  have SJ := Hid.mk sj
  clear sj
  obtain ⟨jl, hjl2, hj, hcuts⟩ := RdJ.open2 r3
  have hlen : jl.length ≤ 8 := by rw [hjl2, List.length_map] at hjl; exact hjl
  have hW0 := P3.le
  have Hcuts := Hid.mk hcuts
  have Hjl2 := Hid.mk hjl2
  have Hnear := Hid.mk hnear
  have Hr3 := Hid.mk r3
  clear hcuts hjl2 hnear r3
  (repeat' simp -dsimp (disch := omega) only [↓EA, EB, Nat.reduceEqDiff, ↓reduceIte, eq_self, *])
  clear hand hb
  -- the tasks
  refine WO.loop (fun (a : Nat × Value) fr h' => Pre H3 h' ∧ a.1 ≤ s.length ∧ OwnT H3.length 7 encT h' a.2 ((s.take a.1).map (slowT k)) ∧ get fr 7 = .bool true ∧ get fr 8 = v1 ∧ get fr 9 = v3 ∧ get fr 10 = .int .i64 k ∧ get fr 11 = a.2 ∧ get fr 12 = .int .i64 a.1) (fun a => s.length - a.1) ?_ (0, .slice none 0 0) ⟨Pre.refl _, Nat.zero_le _, OwnT.nil, rfl, rfl, rfl, rfl, rfl, rfl⟩
  rintro ⟨i, vo⟩ fr h' ⟨hp, hi, ho, g7, g8, g9, g10, g11, g12⟩
  dsimp only at hi ho g11 g12 ⊢
  have r12 := r1.pre hp
  have oo := ho.rd.one
  have co := ho.rd.cv
  have hlh := hp.le
  unfold c_cadencylaw10_ExecScales_l0
  by_cases hlt : i < s.length
  · have hi2 : (i : Int) < s.length := by omega
    have hsi := hsm _ (atI_mem (l := s) (i := (i : Int)) (by omega) hi2)
    have mm : ∀ x : Int, 0 ≤ x → x ≤ 20 → 0 ≤ x * (k : Int) ∧ x * (k : Int) ≤ 20971520 := fun x a b => by
      have e1 : 0 ≤ x * (k : Int) := Int.mul_nonneg a (by omega)
      have e2 : x * (k : Int) ≤ 20 * k := Int.mul_le_mul_of_nonneg_right b (by omega)
      omega
    obtain ⟨_, s1, s2, s3, s4, s5, s6⟩ := hsi
    have b1 := mm (atI s (i : Int)).C (by omega) (by omega)
    have b2 := mm (atI s (i : Int)).T (by omega) (by omega)
    have b3 := mm (atI s (i : Int)).D (by omega) (by omega)
    have b4 := mm (atI s (i : Int)).J (by omega) (by omega)
    have b5 := mm (atI s (i : Int)).Q (by omega) (by omega)
    have hWh : h.length ≤ h'.length := by omega
    have HO := Hid.mk ho
    clear ho mm s1 s2 s3 s4 s5 s6
    (repeat' simp -dsimp (disch := omega) only [↓EA, EB, Nat.reduceEqDiff, Nat.reduceAdd, Nat.reduceLeDiff, Nat.reduceMul, ↓reduceIte, newCells, bslV, eq_self, *, r12.len, r12.ixs, r12.lda, encT])
    refine wx_app2 (HO.out.app _) (hp.app' _) (Nat.le_refl _) (by rw [List.length_append]; omega) (fun hn => by have := HO.out.ge hn; omega) (slowT k (atI s (i : Int))) (by rw [cellsOf_some, geta]; rfl) rfl (by decide) (by decide) (by rw [List.length_map, List.length_take]; omega) fun v' h2 o2 p2 hb2 hl2 hk2 => ?_
    have O2 := Hid.mk (And.intro o2 p2)
    clear o2 p2 hb2 hl2 hk2
    (repeat' simp -dsimp (disch := omega) only [↓EA, EB, Nat.reduceEqDiff, ↓reduceIte, eq_self, *])
    refine Next.mk (i + 1, v') ⟨O2.out.2, by dsimp only; omega, ?_, rfl, rfl, rfl, rfl, rfl, by simp only [get]; simp⟩ (by dsimp only; omega)
    dsimp only
    have := O2.out.1
    rw [take_snoc hlt, List.map_append]; exact this
  · have hie : i = s.length := by omega
    subst hie
    rw [List.take_length] at ho
    have hi2 : ¬ ((s.length : Nat) : Int) < s.length := by omega
    have rS := ho.rd
    have P4 := P3.trans hp
    (repeat' simp -dsimp (disch := omega) only [↓EA, EB, Nat.reduceEqDiff, ↓reduceIte, eq_self, *, r12.len])
    clear ho g7 g8 g9 g10 g11 g12 r1 hlt
    have hj4 := hj.pre hp
    -- the jobs
    refine WO.loop (fun (a : Nat × Value) fr h2 => Pre h' h2 ∧ a.1 ≤ jl.length ∧ (∃ lw : List (NV Job), lw.map NV.j = ((jl.take a.1).map NV.j).map (slowJ k) ∧ OwnT h'.length 5 (encN hdJ) h2 a.2 lw ∧ ∀ p ∈ lw, Rd 1 encI h2 p.v p.j.cuts ∧ (p.v ≠ .slice none 0 0 → blk p.v ≠ blk a.2)) ∧ get fr 7 = .bool true ∧ get fr 8 = v1 ∧ get fr 9 = v3 ∧ get fr 10 = .int .i64 k ∧ get fr 11 = vo ∧ get fr 14 = a.2 ∧ get fr 15 = .int .i64 a.1) (fun a => jl.length - a.1) ?_ (0, .slice none 0 0) ⟨Pre.refl _, Nat.zero_le _, ⟨[], rfl, OwnT.nil, by simp⟩, rfl, rfl, rfl, rfl, rfl, rfl, rfl⟩
    rintro ⟨i, vj⟩ fr h2 ⟨hp2, hi, ⟨lw, e1, ho, hw⟩, g7, g8, g9, g10, g11, g14, g15⟩
    dsimp only at hi e1 ho hw g14 g15 ⊢
    have hlw : lw.length = i := by have := congrArg List.length e1; simp at this; omega
    have hj5 := hj4.pre hp2
    have oj := ho.rd.one
    have cj := ho.rd.cv
    have hlh2 := hp2.le
    unfold c_cadencylaw10_ExecScales_l3
    by_cases hlt : i < jl.length
    · have hij : (i : Int) < jl.length := by omega
      have hmem := atI_mem (l := jl) (i := (i : Int)) (by omega) hij
      have hcu := (Hcuts.out _ hmem).pre (hp.trans hp2)
      have ocu := hcu.one
      have ccu := hcu.cv
      have hjm : (atI jl (i : Int)).j ∈ jobs := by rw [Hjl2.out]; exact List.mem_map_of_mem hmem
      have hok := jobOK_mem SJ.out.legal hjm
      have hwk := SJ.out.work _ hjm
      have hpos := cutsOk_pos hok.cuts
      have hsu := cutsOk_sum hok.cuts (by omega)
      have hne := Hnear.out _ hjm
      have hJ := hsm _ (atI_mem hok.task.1 hok.task.2)
      have a0 := hok.arrive.1
      have a1 := hok.release
      have a2 := hJ.J
      have a3 := hJ.D
      have a4 := hJ.C
      have mm : ∀ x : Int, 0 ≤ x → x ≤ 2048 → 0 ≤ x * (k : Int) ∧ x * (k : Int) ≤ 2147483648 := fun x a b => by
        have e1 : 0 ≤ x * (k : Int) := Int.mul_nonneg a (by omega)
        have e2 : x * (k : Int) ≤ 2048 * k := Int.mul_le_mul_of_nonneg_right b (by omega)
        omega
      have b1 := mm (atI jl (i : Int)).j.arrive a0 (by omega)
      have b2 := mm (atI jl (i : Int)).j.release (by omega) (by omega)
      have b3 := mm (atI jl (i : Int)).j.work (by omega) (by omega)
      have hWh : h.length ≤ h2.length := by have := P4.le; omega
      have HO := Hid.mk ho
      have HW := Hid.mk hw
      have HJ2 := Hid.mk a2
      clear ho hw hjm hok mm a0 a1 a2 a3 a4 hne hJ
      have hcl : (atI jl (i : Int)).j.cuts.length ≤ 4 := by
        have := (sumI_take hpos _ (Nat.le_refl _)).1
        rw [List.take_length] at this; omega
      (repeat' simp -dsimp (disch := omega) only [↓EA, EB, Nat.reduceEqDiff, Nat.reduceAdd, ↓reduceIte, newCells, eq_self, *, hj5.len, hj5.ixs, hj5.lda, encN, hdJ])
      refine sc_l1 (c := h2.length) (by rw [geta0]; rfl) (hcu.app _) hpos hsu hwk.2 hk1 (fun b hb => by rw [List.length_append] at hb; omega) rfl rfl rfl rfl rfl rfl rfl rfl rfl rfl rfl fun fr2 h3 v4 t7 t8 t9 t10 t11 t14 t15 t16 t17 t18 p5 o5 => ?_
      have hw0 : (atI jl (i : Int)).j.work - sumI (atI jl (i : Int)).j.cuts = (((atI jl (i : Int)).j.work - sumI (atI jl (i : Int)).j.cuts).toNat : Int) := by omega
      have hl4 : ((atI jl (i : Int)).j.work - sumI (atI jl (i : Int)).j.cuts).toNat ≤ 4 := by
        have := sumI_nonneg hpos; omega
      rw [hw0] at t17
      have HC := Hid.mk (And.intro p5 o5)
      have oo4 := o5.rd.one
      have co4 := o5.rd.cv
      clear p5 o5 hw0
      (repeat' simp -dsimp (disch := omega) only [↓EA, ↓reduceIte, eq_self, *])
      refine sc_l2 (v16 := .pointer (some ⟨h2.length, 0, none⟩)) hl4 (by rw [List.length_map]; exact hcl) hk1 (fun b hb => by rw [List.length_append] at hb; omega) HC.out.1 HC.out.2 rfl t7 t8 t9 t10 t11 t14 t15 t16 t17 t18 fun fr3 h4 v5 u7 u8 u9 u10 u11 u14 u15 u16 u18 p6 o6 => ?_
      clear t7 t8 t9 t10 t11 t14 t15 t16 t17 t18
      have hb6 := p6 h2.length _ (by rw [geta0]; rfl)
      have o56 := o6.rd.one
      have c56 := o6.rd.cv
      have HC6 := Hid.mk (And.intro p6 o6)
      have hlh4 := p6.le
      rw [List.length_append] at hlh4
      have hWh4 : h.length ≤ h4.length := by omega
      clear p6 o6 HC
      (repeat' simp -dsimp (disch := omega) only [↓EA, EB, Nat.reduceEqDiff, Nat.reduceAdd, Nat.reduceLeDiff, Nat.reduceMul, ↓reduceIte, newCells, bslV, eq_self, *])
      have px := (Pre.app h2 [LObj.cells [.int .i64 (atI jl (i : Int)).j.task, .int .i64 (atI jl (i : Int)).j.arrive, .int .i64 (atI jl (i : Int)).j.release, .int .i64 (atI jl (i : Int)).j.work, (atI jl (i : Int)).v] false]).trans HC6.out.1
      refine wx_app2 ((HO.out.pre px).app _) ((hp2.trans px).app' _) (Nat.le_refl _) (by rw [List.length_append]; omega) (fun hn => by have := HO.out.ge hn; have := P4.le; omega) (⟨slowJ k (atI jl (i : Int)).j, v5⟩ : NV Job) (by rw [cellsOf_some, geta0]; rfl) rfl (by decide) (by decide) (by omega) fun v' hh o2 p2 hb2 hl2 hk2 => ?_
      have K := Hid.mk (And.intro o2 (And.intro p2 (And.intro hb2 (And.intro hl2 hk2))))
      have PX := Hid.mk px
      clear o2 p2 hb2 hl2 hk2 px
      (repeat' simp -dsimp (disch := omega) only [↓EA, EB, Nat.reduceEqDiff, ↓reduceIte, eq_self, *])
      have hb2 := K.out.2.2.1
      have hl2 := K.out.2.2.2.1
      rw [List.length_append] at hb2 hl2
      refine Next.mk (i + 1, v') ⟨K.out.2.1, by dsimp only; omega, ⟨lw ++ [⟨slowJ k (atI jl (i : Int)).j, v5⟩], ?_, K.out.1, fun p hp => ?_⟩, rfl, rfl, rfl, rfl, rfl, rfl, by simp only [get]; simp⟩ (by dsimp only; omega)
      · dsimp only
        rw [List.map_append, e1, take_snoc hlt, List.map_append, List.map_append]; rfl
      · dsimp only
        rcases List.mem_append.1 hp with hp | hp
        · obtain ⟨w1, w2⟩ := HW.out p hp
          have w3 := w1.pre PX.out
          refine ⟨(w3.app _).keep fun hn => K.out.2.2.2.2 _ (by have := w3.lt' hn; rw [List.length_append]; omega) (fun _ => w2 hn), fun hn => ?_⟩
          have := w3.lt' hn; omega
        · rw [List.mem_singleton.1 hp]
          have w3 := HC6.out.2.rd
          refine ⟨(w3.app _).keep fun hn => K.out.2.2.2.2 _ (by have := w3.lt' hn; rw [List.length_append]; omega) (fun hne => ?_), fun hn => ?_⟩
          · have h1 := HC6.out.2.ge (HC6.out.2.ne hn)
            have h5 := HO.out.lt hne
            rw [List.length_append] at h1
            omega
          · have := w3.lt' hn; dsimp only; omega
    · have hie : i = jl.length := by omega
      subst hie
      rw [List.take_length] at e1
      have hij : ¬ ((jl.length : Nat) : Int) < jl.length := by omega
      rw [← Hjl2.out] at e1
      have rJ : RdJ h2 vj (jobs.map (slowJ k)) := ⟨lw, e1, ho.rd, fun p hp => (hw p hp).1⟩
      have rS2 := rS.pre hp2
      have r13 := r12.pre hp2
      have hleg := slowJ_legal SJ.out.legal hsm Hnear.out hk1
      have hnm2 : ∀ t ∈ s.map (slowT k), t.name.size < 1152921504606846976 := fun t ht => by
        obtain ⟨x, hx, rfl⟩ := List.mem_map.1 ht
        exact hnm x hx
      have hll : (jobs.map (slowJ k)).length = jobs.length := List.length_map ..
      have hsum2 : sumWork (jobs.map (slowJ k)) ≤ 1099511627776 := by
        have := sumWork_le (jobs := jobs.map (slowJ k)) (k := 4194304) fun j hj => by
          obtain ⟨x, hx, rfl⟩ := List.mem_map.1 hj
          have h1 := (SJ.out.work x hx).2
          have h2 : x.work * (k : Int) ≤ 4 * k := Int.mul_le_mul_of_nonneg_right h1 (by omega)
          show x.work * (k : Int) ≤ 4194304
          omega
        rw [hll] at this; omega
      have hrun1 := runX hE r13 hnm (Hr3.out.pre (hp.trans hp2)) (by omega) hsum
      have HJ := Hid.mk (And.intro rJ (And.intro hleg hsum2))
      have HN2 := Hid.mk hnm2
      clear ho hw rJ hleg hsum2 hnm2 e1
      have hP := P4.trans hp2
      (repeat' simp -dsimp (disch := omega) only [↓EA, EB, Nat.reduceEqDiff, ↓reduceIte, eq_self, *, hj5.len])
      refine wx_new (hrun1) fun v5 ys r5 p5 => ?_
      have P5 := (hP).trans p5
      generalize _ ++ ys = H5 at r5 p5 P5 ⊢
      obtain ⟨vs, rfl, hv5⟩ := r5
      rcases hv5 with _ | @⟨_, _, va5, _, ra5, _ | @⟨_, _, vb5, _, rb5, _ | _⟩⟩
      have na5 := Rd.nt ra5.1
      have nb5 := Rd.nt rb5.1
      have oa5 := ra5.1.one
      have ob5 := rb5.1.one
      have ca5 := ra5.1.cv
      have cb5 := rb5.1.cv
      have rJ5 := HJ.out.1.pre p5
      have rS5 := rS2.pre p5
      have hrun2 := runX hE rS5 HN2.out rJ5 (by rw [hll]; omega) HJ.out.2.2
      have ra5' := ra5.1
      have rb5' := rb5.1
      clear rJ5 p5 hrun1
      (repeat' simp -dsimp (disch := omega) only [↓EA, EB, Nat.reduceEqDiff, ↓reduceIte, eq_self, *])
      refine wx_new (hrun2) fun v6 ys r6 p6 => ?_
      have P6 := (P5).trans p6
      generalize _ ++ ys = H6 at r6 p6 P6 ⊢
      obtain ⟨vs, rfl, hv6⟩ := r6
      rcases hv6 with _ | @⟨_, _, va6, _, ra6, _ | @⟨_, _, vb6, _, rb6, _ | _⟩⟩
      have na6 := Rd.nt ra6.1
      have nb6 := Rd.nt rb6.1
      have oa6 := ra6.1.one
      have ob6 := rb6.1.one
      have ca6 := ra6.1.cv
      have cb6 := rb6.1.cv
      have ra56 := ra5'.pre p6
      have rb56 := rb5'.pre p6
      have ra6' := ra6.1
      have rb6' := rb6.1
      clear p6 hrun2
      obtain ⟨T, R⟩ := runU_at SJ.out.legal hsum
      obtain ⟨T', R'⟩ := runU_at HJ.out.2.1 HJ.out.2.2
      have S := script_of SJ.out.legal
      have S' := script_of HJ.out.2.1
      have hT := runAt_T SJ.out.legal hsum R
      have hT' := runAt_T HJ.out.2.1 HJ.out.2.2 R'
      obtain ⟨hL, hE2⟩ := slow_run (k := k) (by omega) S S' R R'
      have hel := R.elen
      have hel' := R'.elen
      have hsp := fun i hi => works_span S R (i := i) hi
      have hsp' := fun i hi => works_span S' R' (i := i) hi
      have hen := fun i hi => works_end S R (k := i) hi
      have hen' := fun i hi => works_end S' R' (k := i) hi
      rw [hll] at hel' hen'
      generalize runU s jobs 9223372036854775807 = rs at *
      generalize runU (s.map (slowT k)) (jobs.map (slowJ k)) 9223372036854775807 = rs' at *
      rw [hL] at ra6' hsp'
      rw [List.length_map] at hsp'
      have few5 := ra56.few
      have hl1 : lensV false va5 = some (.int .i64 rs.L.length) := ra56.len
      have hl2 : lensV false va6 = some (.int .i64 rs.L.length) := by rw [ra6'.len, List.length_map]
      have hl3 : lensV false vb5 = some (.int .i64 jobs.length) := by rw [rb56.len, hel]
      have hl4 : lensV false vb6 = some (.int .i64 jobs.length) := by rw [rb6'.len, hel']
      have HF := Hid.mk (And.intro hE2 (And.intro hsp (And.intro hsp' (And.intro hen hen'))))
      have HEl := Hid.mk (And.intro hel hel')
      clear hE2 hsp hsp' hen hen' hL hel hel' R R' S S' ra5' rb5' ra5 rb5 ra6 rb6
      have hP6 := P6.le
      (repeat' simp -dsimp (disch := omega) only [↓EA, EB, Nat.reduceEqDiff, ↓reduceIte, eq_self, *])
      refine WO.loop (fun (n : Nat) fr h'' => h'' = H6 ∧ n ≤ rs.L.length ∧ get fr 7 = .bool true ∧ get fr 10 = .int .i64 k ∧ get fr 20 = va5 ∧ get fr 21 = vb5 ∧ get fr 22 = va6 ∧ get fr 23 = vb6 ∧ get fr 24 = .int .i64 n) (fun n => rs.L.length - n) ?_ 0 ⟨rfl, Nat.zero_le _, rfl, rfl, rfl, rfl, rfl, rfl, rfl⟩
      clear g7 g8 g9 g10 g11 g14 g15
      rintro n fr h'' ⟨rfl, hn, g7, g10, g20, g21, g22, g23, g24⟩
      unfold c_cadencylaw10_ExecScales_l4
      by_cases hnl : n < rs.L.length
      · have hn2 : (n : Int) < rs.L.length := by omega
        have hlm : (n : Int) < (rs.L.map (slowS k)).length := by rw [List.length_map]; omega
        have em : atI (rs.L.map (slowS k)) (n : Int) = slowS k (atI rs.L (n : Int)) := atI_lmap (by omega) hn2
        obtain ⟨_, _, q3, _, _, q6, _⟩ := HF.out.2.1 n hnl
        obtain ⟨_, _, p3, _, _, p6, _⟩ := HF.out.2.2.1 n hnl
        rw [em] at p3 p6
        have y3 : (atI rs.L (n : Int)).from' * (k : Int) < (atI rs.L (n : Int)).to' * (k : Int) := p3
        have y6 : 0 ≤ (atI rs.L (n : Int)).from' * (k : Int) ∧ (atI rs.L (n : Int)).to' * (k : Int) ≤ T' := p6
        clear p3 p6
        have ed : ∀ a b c : Int, decide (¬ (a = a ∧ b = b ∧ c = c)) = false := fun a b c => by simp
        (repeat' simp -dsimp (disch := omega) only [↓EA, EB, Nat.reduceEqDiff, Nat.reduceAdd, Nat.reduceLeDiff, ↓reduceIte, eq_self, *, ra56.len, ra56.ixs, ra56.ld, ra56.ld0, ra6'.ixs, ra6'.lda, encS, slowS, bin_flat3])
        exact Next.mk (n + 1) ⟨rfl, by omega, rfl, rfl, rfl, rfl, rfl, rfl, by simp only [get]; simp⟩ (by omega)
      · have hn2 : ¬ (n : Int) < rs.L.length := by omega
        (repeat' simp -dsimp (disch := omega) only [↓EA, EB, Nat.reduceEqDiff, ↓reduceIte, eq_self, *])
        refine WO.loop (fun (n : Nat) fr h3 => h3 = h'' ∧ n ≤ jobs.length ∧ get fr 7 = .bool true ∧ get fr 10 = .int .i64 k ∧ get fr 21 = vb5 ∧ get fr 23 = vb6 ∧ get fr 25 = .int .i64 n) (fun n => jobs.length - n) ?_ 0 ⟨rfl, Nat.zero_le _, rfl, rfl, rfl, rfl, rfl⟩
        clear g7 g10 g20 g21 g22 g23 g24
        rintro n fr h3 ⟨rfl, hn, g7, g10, g21, g23, g25⟩
        unfold c_cadencylaw10_ExecScales_l5
        by_cases hnj : n < jobs.length
        · have w1 := HF.out.1 n hnj
          have w2 := (HF.out.2.2.2.1 n hnj)
          have w3 := (HF.out.2.2.2.2 n hnj)
          have w4 := (jobOK_of SJ.out.legal hnj)
          have w5 := (jobOK_of HJ.out.2.1 (show n < (jobs.map (slowJ (k : Int))).length by rw [hll]; exact hnj))
          have w6 := w5.release
          have w7 := w5.arrive
          have w8 := w5.work
          have hn3 : (n : Int) < rs.ends.length ∧ (n : Int) < rs'.ends.length ∧ (n : Int) < jobs.length := by
            have := HEl.out; omega
          have hge : 0 ≤ atI rs.ends (n : Int) * (k : Int) ∧ atI rs.ends (n : Int) * (k : Int) ≤ 1117105961155840 := by rw [← w1]; omega
          have HW := Hid.mk w1
          clear w1 w2 w3 w4 w5 w6 w7 w8
          have ez : decide (¬ (atI rs'.ends (n : Int) = atI rs.ends (n : Int) * (k : Int))) = false := by rw [HW.out]; simp
          (repeat' simp -dsimp (disch := omega) only [↓EA, EB, Nat.reduceEqDiff, ↓reduceIte, eq_self, *, rb56.len, rb56.ixs, rb56.ld0, rb6'.ixs, rb6'.ld0, encI])
          exact Next.mk (n + 1) ⟨rfl, by omega, rfl, rfl, rfl, rfl, by simp only [get]; simp⟩ (by omega)
        · have hn3 : ¬ (n : Int) < jobs.length := by omega
          (repeat' simp -dsimp (disch := omega) only [↓EA, EB, Nat.reduceEqDiff, ↓reduceIte, eq_self, *])
end Go.L.Try
