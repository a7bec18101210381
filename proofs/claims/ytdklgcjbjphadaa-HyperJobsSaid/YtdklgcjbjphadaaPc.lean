/- THE JOBS OF A PERIOD, plain. -/
import Derived.Test.YtdklgcjbjphadaaPb
import Derived.Test.YtdklgcjbjphadaaPa
import Derived.Test.YtdklgcjbjphadaaV8
import Derived.Test.YtdklgcjbjphadaaV11
set_option linter.unusedVariables false
set_option linter.unusedSimpArgs false
set_option maxRecDepth 100000
set_option maxHeartbeats 1000000
namespace Go.L.Try
open Go Go.L
def gcdI (a b : Int) : Int := ((Nat.gcd a.toNat b.toNat : Nat) : Int)
def lcmI (a b : Int) : Int := ((Nat.lcm a.toNat b.toNat : Nat) : Int)
def lcmFold : List Task → Int → Option Int
  | [], p => some p
  | t :: r, p => if lcmI p t.T < 18446744073709551616 then lcmFold r (lcmI p t.T) else none
def periodP (l : List Task) : Option Int := if l.all (fun t => decide (1 ≤ t.T)) = true then lcmFold l 1 else none
/-- So many ticks. -/
def manyP (T p : Int) : Nat := ((p + T - 1) / T).toNat
def jobH (i : Nat) (t : Task) (k : Nat) : Job := ⟨i, k * t.T, k * t.T, t.C, []⟩
def rowH (i : Nat) (t : Task) (n : Nat) : List Job := (List.range n).map (jobH i t)
def allH (l : List Task) (p : Int) : Nat → List Job
  | 0 => []
  | i + 1 => allH l p i ++ rowH i (atI l (i : Int)) (manyP (atI l (i : Int)).T p)
theorem rowH_succ (i : Nat) (t : Task) (n : Nat) : rowH i t (n + 1) = rowH i t n ++ [jobH i t n] := by simp [rowH, List.range_succ]
theorem rowH_len (i : Nat) (t : Task) (n : Nat) : (rowH i t n).length = n := by simp [rowH]
theorem many_le {T p : Int} (hT : 1 ≤ T) (k : Nat) : k < manyP T p ↔ (k : Int) * T < p := by
  unfold manyP
  have h1 : (k : Int) * T < p ↔ (k : Int) + 1 ≤ (p + T - 1) / T := by
    rw [Int.le_ediv_iff_mul_le (by omega)]
    rw [Int.add_mul]
    omega
  omega
/-! ### Legal -/
theorem lastN_app {A B : List Job} {t : Int} {k : Nat} (hk : k ≤ A.length) : lastN (A ++ B) t k = lastN A t k := by
  have h1 := lastN_take (jobs := A ++ B) (task := t) hk
  rw [List.take_left] at h1
  exact h1.symm
theorem atI_app {A B : List Job} {i : Int} (h0 : 0 ≤ i) (h : i < A.length) : atI (A ++ B) i = atI A i := by
  unfold atI
  rw [List.getD_eq_getElem?_getD, List.getD_eq_getElem?_getD, List.getElem?_append_left (by omega)]
theorem jobOkB_app {l : List Task} {A B : List Job} {i : Nat} (hi : i < A.length) : jobOkB l (A ++ B) i = jobOkB l A i := by
  have e1 : atI (A ++ B) (i : Int) = atI A (i : Int) := atI_app (by omega) (by omega)
  have e2 : lastN (A ++ B) (atI A (i : Int)).task i = lastN A (atI A (i : Int)).task i := lastN_app (by omega)
  have e3 : jobNums l (A ++ B) i ↔ jobNums l A i := by
    unfold jobNums
    dsimp only
    rw [e1, e2]
    have h5 := lastN_in A (atI A (i : Int)).task i
    constructor
    · rintro ⟨a, b, c, d⟩
      exact ⟨a, b, fun hk => by have := c hk; rwa [atI_app hk (by omega)] at this, d⟩
    · rintro ⟨a, b, c, d⟩
      exact ⟨a, b, fun hk => by rw [atI_app hk (by omega)]; exact c hk, d⟩
  unfold jobOkB
  rw [e1]
  congr 1
  exact decide_eq_decide.2 e3
theorem allOk_app {l : List Task} {A B : List Job} : ∀ {n : Nat}, n ≤ A.length → allOk l (A ++ B) n = allOk l A n
  | 0, _ => rfl
  | n + 1, h => by
    show (allOk l (A ++ B) n && jobOkB l (A ++ B) n) = (allOk l A n && jobOkB l A n)
    rw [allOk_app (by omega), jobOkB_app (by omega)]
/-- One more job. -/
theorem allOk_snoc {l : List Task} {A : List Job} {j : Job} (hA : allOk l A A.length = true) (h1 : 0 ≤ j.task ∧ j.task < l.length) (h2 : 0 ≤ j.arrive ∧ j.arrive ≤ 17592186044416) (h3 : ∀ x ∈ A, x.task = j.task → x.arrive + (atI l j.task).T ≤ j.arrive) (h4 : j.arrive ≤ j.release) (h5 : j.release ≤ j.arrive + (atI l j.task).J) (h6 : 1 ≤ j.work) (h7 : j.work ≤ (atI l j.task).C) (h8 : cutsOk (atI l j.task).Q j.cuts j.work = true) : allOk l (A ++ [j]) (A ++ [j]).length = true := by
  rw [List.length_append, List.length_singleton]
  show (allOk l (A ++ [j]) A.length && jobOkB l (A ++ [j]) A.length) = true
  rw [allOk_app (Nat.le_refl _), hA, Bool.true_and]
  have e : atI (A ++ [j]) (A.length : Int) = j := by rw [atI_nat (by simp)]; simp
  unfold jobOkB
  rw [e, h8, Bool.and_true, decide_eq_true_eq]
  unfold jobNums
  dsimp only
  rw [e, lastN_app (Nat.le_refl _)]
  have h9 := lastN_in A j.task A.length
  refine ⟨h1, h2, fun hk => ?_, h4, h5, h6, h7⟩
  rw [atI_app hk (by omega)]
  exact h3 _ (atI_mem hk (by omega)) (lastN_task hk)
/-- How many jobs of a task. -/
def ofT (A : List Job) (t : Int) : Nat := A.countP fun j => decide (j.task = t)
theorem ofT_snoc (A : List Job) (j : Job) (t : Int) : ofT (A ++ [j]) t = ofT A t + if j.task = t then 1 else 0 := by
  unfold ofT
  rw [List.countP_append]
  congr 1
  by_cases h : j.task = t <;> simp [h]
theorem allH_task {l : List Task} {p : Int} : ∀ {i : Nat} {x : Job}, x ∈ allH l p i → 0 ≤ x.task ∧ x.task < i
  | 0, x, h => by simp [allH] at h
  | i + 1, x, h => by
    rcases List.mem_append.1 h with h | h
    · have := allH_task h; omega
    · obtain ⟨k, _, rfl⟩ := List.mem_map.1 h; simp only [jobH]; omega
theorem ofT_zero {A : List Job} {t : Int} (h : ∀ x ∈ A, x.task ≠ t) : ofT A t = 0 := by
  unfold ofT
  rw [List.countP_eq_zero]
  intro x hx; simpa using h x hx
/-- What holds of all that is laid so far. -/
structure Laid17 (l : List Task) (A : List Job) : Prop where
  ok : allOk l A A.length = true
  nth : ∀ n : Nat, n < A.length → (atI A (n : Int)).release = (atI A (n : Int)).arrive ∧ (atI A (n : Int)).arrive = ofT (A.take n) (atI A (n : Int)).task * (atI l (atI A (n : Int)).task).T ∧ (atI A (n : Int)).work = (atI l (atI A (n : Int)).task).C ∧ (atI A (n : Int)).cuts = []
theorem Laid17.nil (l : List Task) : Laid17 l [] := ⟨rfl, fun n hn => by simp at hn⟩
theorem Laid17.snoc {l : List Task} {A : List Job} (hA : Laid17 l A) {i : Nat} (hi : i < l.length) (hok : okTask (atI l (i : Int))) {k : Nat} (hk : ofT A i = k) (hx : ∀ x ∈ A, x.task = i → x.arrive + (atI l (i : Int)).T ≤ k * (atI l (i : Int)).T) (hb : (k : Int) * (atI l (i : Int)).T ≤ 17592186044416) : Laid17 l (A ++ [jobH i (atI l (i : Int)) k]) := by
  obtain ⟨⟨_, _, tC, tT, tD, tQ, tJ, tP⟩, tf1, tf2, tf3⟩ := hok
  have hpos : 0 ≤ (k : Int) * (atI l (i : Int)).T := Int.mul_nonneg (by omega) (by omega)
  refine ⟨allOk_snoc hA.ok ⟨by simp [jobH], by simp [jobH]; omega⟩ ⟨hpos, hb⟩ hx (Int.le_refl _) (by simp only [jobH]; omega) (by simp only [jobH]; omega) (by simp only [jobH]; omega) rfl, fun n hn => ?_⟩
  rw [List.length_append, List.length_singleton] at hn
  by_cases h : n < A.length
  · rw [atI_app (by omega) (by omega), List.take_append_of_le_length (by omega)]
    exact hA.nth n h
  · have e : n = A.length := by omega
    subst e
    have e : atI (A ++ [jobH i (atI l (i : Int)) k]) (A.length : Int) = jobH i (atI l (i : Int)) k := by rw [atI_nat (by simp)]; simp
    rw [e, List.take_left]
    exact ⟨rfl, by rw [show (jobH i (atI l (i : Int)) k).task = i from rfl, hk]; rfl, rfl, rfl⟩
theorem row_laid {l : List Task} {p : Int} (hok : ∀ t ∈ l, okTask t) (hp : p ≤ 17592186044416) {i : Nat} (hi : i < l.length) (hA : Laid17 l (allH l p i)) : ∀ k, k ≤ manyP (atI l (i : Int)).T p → Laid17 l (allH l p i ++ rowH i (atI l (i : Int)) k) ∧ ofT (allH l p i ++ rowH i (atI l (i : Int)) k) i = k := by
  have hti := hok _ (atI_mem (l := l) (i := (i : Int)) (by omega) (by omega))
  have hT := hti.1
  simp only [rangesB] at hT
  intro k
  induction k with
  | zero =>
    intro _
    refine ⟨by simpa [rowH] using hA, ?_⟩
    rw [show allH l p i ++ rowH i (atI l (i : Int)) 0 = allH l p i by simp [rowH]]
    exact ofT_zero fun x hx => by have := allH_task hx; omega
  | succ k ih =>
    intro hk
    obtain ⟨h1, h2⟩ := ih (by omega)
    rw [rowH_succ, ← List.append_assoc]
    have hlt := (many_le (T := (atI l (i : Int)).T) (p := p) (by omega) k).1 (by omega)
    refine ⟨h1.snoc hi hti h2 (fun x hx ht => ?_) (by omega), ?_⟩
    · rcases List.mem_append.1 hx with hx | hx
      · have := allH_task hx; omega
      · obtain ⟨m, hm, rfl⟩ := List.mem_map.1 hx
        have hm := List.mem_range.1 hm
        show (m : Int) * (atI l (i : Int)).T + (atI l (i : Int)).T ≤ k * (atI l (i : Int)).T
        have : ((m : Int) + 1) * (atI l (i : Int)).T ≤ k * (atI l (i : Int)).T := Int.mul_le_mul_of_nonneg_right (by omega) (by omega)
        rw [Int.add_mul] at this; omega
    · rw [ofT_snoc, h2]; simp [jobH]
theorem all_laid {l : List Task} {p : Int} (hok : ∀ t ∈ l, okTask t) (hp : p ≤ 17592186044416) : ∀ i, i ≤ l.length → Laid17 l (allH l p i)
  | 0, _ => Laid17.nil l
  | i + 1, h => (row_laid hok hp (by omega) (all_laid hok hp i (by omega)) _ (Nat.le_refl _)).1
theorem allH_of {l : List Task} {p : Int} (hok : ∀ t ∈ l, okTask t) (hp : p ≤ 17592186044416) : ∀ i, i ≤ l.length → ∀ t : Nat, t < i → ofT (allH l p i) t = manyP (atI l (t : Int)).T p
  | 0, _, t, ht => by omega
  | i + 1, h, t, ht => by
    by_cases e : t = i
    · subst e
      exact (row_laid hok hp (by omega) (all_laid hok hp t (by omega)) _ (Nat.le_refl _)).2
    · have h1 := allH_of hok hp i (by omega) t (by omega)
      show ofT (allH l p i ++ rowH i _ _) t = _
      unfold ofT at h1 ⊢
      rw [List.countP_append, h1]
      have : List.countP (fun j => decide (j.task = (t : Int))) (rowH i (atI l (i : Int)) (manyP (atI l (i : Int)).T p)) = 0 := by
        rw [List.countP_eq_zero]
        intro x hx
        obtain ⟨m, _, rfl⟩ := List.mem_map.1 hx
        show ¬ decide ((i : Int) = (t : Int)) = true
        rw [decide_eq_true_eq]; omega
      omega
theorem allH_legal {l : List Task} {p : Int} (hv : validP l) (hp : p ≤ 17592186044416) (hn : (allH l p l.length).length ≤ 4096) : legalB l (allH l p l.length) = true := by
  obtain ⟨_, _, hok⟩ := checkAll_ok hv
  unfold legalB
  rw [(all_laid hok hp l.length (Nat.le_refl _)).ok, decide_eq_true ⟨hv, hn⟩]; rfl
/-! ### The least common multiple -/
theorem gcd_step (a b : Int) (ha : 0 ≤ a) (hb : 0 < b) : gcdI b (a % b) = gcdI a b := by
  unfold gcdI
  have e : (a % b).toNat = a.toNat % b.toNat := by
    obtain ⟨x, rfl⟩ := Int.eq_ofNat_of_zero_le ha
    obtain ⟨y, rfl⟩ := Int.eq_ofNat_of_zero_le (Int.le_of_lt hb)
    rw [← Int.natCast_emod]; rfl
  rw [e, Nat.gcd_comm b.toNat, ← Nat.gcd_rec, Nat.gcd_comm]
theorem gcd_zero (a : Int) (ha : 0 ≤ a) : gcdI a 0 = a := by
  unfold gcdI
  simp; omega
theorem gcd_pos (a b : Int) (ha : 0 < a) (hb : 0 ≤ b) : 0 < gcdI a b ∧ gcdI a b ≤ a := by
  unfold gcdI
  have h1 : 0 < Nat.gcd a.toNat b.toNat := Nat.gcd_pos_of_pos_left _ (by omega)
  have h2 : Nat.gcd a.toNat b.toNat ≤ a.toNat := Nat.gcd_le_left _ (by omega)
  omega
theorem lcm_mul (a b : Int) (ha : 0 < a) (hb : 0 < b) : a / gcdI a b * b = lcmI a b := by
  obtain ⟨x, rfl⟩ := Int.eq_ofNat_of_zero_le (Int.le_of_lt ha)
  obtain ⟨y, rfl⟩ := Int.eq_ofNat_of_zero_le (Int.le_of_lt hb)
  unfold gcdI lcmI
  simp only [Int.toNat_natCast]
  rw [← Int.natCast_ediv, ← Int.natCast_mul]
  congr 1
  unfold Nat.lcm
  rw [Nat.div_mul_right_comm (Nat.gcd_dvd_left x y)]
theorem lcm_pos (a b : Int) (ha : 0 < a) (hb : 0 < b) : 0 < lcmI a b := by
  unfold lcmI
  have : 0 < Nat.lcm a.toNat b.toNat := Nat.lcm_pos (by omega) (by omega)
  omega
theorem lcm_dvd {a b c : Int} (ha : 0 < a) (hb : 0 < b) (hc : 0 < c) (h1 : a ∣ c) (h2 : b ∣ c) : lcmI a b ∣ c := by
  obtain ⟨x, rfl⟩ := Int.eq_ofNat_of_zero_le (Int.le_of_lt ha)
  obtain ⟨y, rfl⟩ := Int.eq_ofNat_of_zero_le (Int.le_of_lt hb)
  obtain ⟨z, rfl⟩ := Int.eq_ofNat_of_zero_le (Int.le_of_lt hc)
  unfold lcmI
  simp only [Int.toNat_natCast]
  rw [Int.natCast_dvd_natCast] at h1 h2 ⊢
  exact Nat.lcm_dvd h1 h2
theorem dvd_lcm {a b : Int} (ha : 0 < a) (hb : 0 < b) : a ∣ lcmI a b ∧ b ∣ lcmI a b := by
  obtain ⟨x, rfl⟩ := Int.eq_ofNat_of_zero_le (Int.le_of_lt ha)
  obtain ⟨y, rfl⟩ := Int.eq_ofNat_of_zero_le (Int.le_of_lt hb)
  unfold lcmI
  simp only [Int.toNat_natCast, Int.natCast_dvd_natCast]
  exact ⟨Nat.dvd_lcm_left x y, Nat.dvd_lcm_right x y⟩
/-- Of ticks that all go into 24. -/
theorem fold24 : ∀ (l : List Task) (p : Int), (∀ t ∈ l, 0 < t.T ∧ t.T ∣ 24) → 0 < p → p ∣ 24 → ∃ q, lcmFold l p = some q ∧ 0 < q ∧ q ∣ 24 ∧ p ∣ q ∧ ∀ t ∈ l, t.T ∣ q
  | [], p, _, h1, h2 => ⟨p, rfl, h1, h2, Int.dvd_refl _, by simp⟩
  | t :: r, p, h, h1, h2 => by
    obtain ⟨t0, t1⟩ := h t (by simp)
    have e1 := lcm_pos p t.T h1 t0
    have e2 := lcm_dvd h1 t0 (by decide : (0 : Int) < 24) h2 t1
    have e3 : lcmI p t.T ≤ 24 := Int.le_of_dvd (by decide) e2
    obtain ⟨q, q1, q2, q3, q4, q5⟩ := fold24 r (lcmI p t.T) (fun t ht => h t (by simp [ht])) e1 e2
    have e4 := dvd_lcm h1 t0
    refine ⟨q, ?_, q2, q3, Int.dvd_trans e4.1 q4, fun x hx => ?_⟩
    · rw [lcmFold, if_pos (by omega)]; exact q1
    · rcases List.mem_cons.1 hx with rfl | hx
      · exact Int.dvd_trans e4.2 q4
      · exact q5 x hx
theorem period24 {l : List Task} (h : ∀ t ∈ l, 0 < t.T ∧ t.T ∣ 24) : ∃ q, periodP l = some q ∧ 0 < q ∧ q ≤ 24 ∧ ∀ t ∈ l, t.T ∣ q := by
  obtain ⟨q, q1, q2, q3, _, q5⟩ := fold24 l 1 h (by decide) (by decide)
  refine ⟨q, ?_, q2, Int.le_of_dvd (by decide) q3, q5⟩
  unfold periodP
  rw [if_pos (List.all_eq_true.2 fun t ht => by have := (h t ht).1; simp; omega)]
  exact q1
theorem many_dvd {T p : Int} (hT : 0 < T) (hp : 0 < p) (hd : T ∣ p) : (manyP T p : Int) * T = p := by
  obtain ⟨c, rfl⟩ := hd
  have hc : 0 < c := by
    rcases Int.lt_or_le 0 c with h | h
    · exact h
    · have := Int.mul_nonpos_of_nonneg_of_nonpos (Int.le_of_lt hT) h; omega
  unfold manyP
  have e : (T * c + T - 1) / T = c := by
    rw [show T * c + T - 1 = (T - 1) + T * c by omega, Int.add_mul_ediv_left _ _ (by omega), Int.ediv_eq_zero_of_lt (by omega) (by omega)]
    omega
  rw [e, Int.mul_comm T c, Int.toNat_of_nonneg (by omega)]
end Go.L.Try

/- NUMBERS, AND TICKS, OF A PERIOD: num.Gcd, num.Lcm, load.Period, hyper.ticks. -/
set_option linter.unusedVariables false
set_option linter.unusedSimpArgs false
set_option maxRecDepth 100000
set_option maxHeartbeats 2000000
namespace Go.L.Try
open Go Go.L
variable {E : Env}
theorem numGcd (hE : Laid E) (h : Heap) {a b : Int} (ha : u64in a) (hb : u64in b) :
    callW E (.func (.func n_num_Gcd) #[] #[]) [.int .u64 a, .int .u64 b] h = some (.int .u64 (gcdI a b), h, []) := by
  refine fn_same hE.num_Gcd rfl (by simp) ?_
  simp only [argsF]
  unfold u64in at ha hb
  (repeat' (first | ((with_reducible refine WG_dec (fun _ => ?_) (fun _ => ?_)) <;> try (exfalso; omega)) | ((with_reducible refine WG_decF (fun _ => ?_) (fun _ => ?_)) <;> try (exfalso; omega)) | ((with_reducible refine WC_dec (fun _ => ?_) (fun _ => ?_)) <;> try (exfalso; omega)) | refine WC_bool (fun _ => ?_) (fun _ => ?_) | refine WG_bool (fun _ => ?_) (fun _ => ?_) | refine WG_boolF (fun _ => ?_) (fun _ => ?_) | simp -dsimp (disch := omega) only [↓run_nil, ↓run_i, ↓co_seq, ↓co_skip, ↓co_reg, ↓co_block, ↓co_loop, ↓op_mov, WF_eq, W1_some, ↓ev_c, ↓upd_at, ↓get_cons, ↓frm_nil, ↓frm_cons, eq_self, Nat.reduceEqDiff, Nat.zero_add, ↓reduceIte, reduceCtorEq, *]))
  refine WO.loop (α := Int × Int) (fun s fr h' => h' = h ∧ get fr 0 = .int .u64 s.1 ∧ get fr 1 = .int .u64 s.2 ∧ 0 ≤ s.1 ∧ 0 ≤ s.2 ∧ gcdI s.1 s.2 = gcdI a b) (fun s => s.2.toNat) ?_ (a, b) ⟨rfl, rfl, rfl, ha.1, hb.1, rfl⟩
  rintro ⟨x, y⟩ fr h' ⟨rfl, g0, g1, hx, hy, hg⟩
  dsimp only at g0 g1 hx hy hg
  unfold c_num_Gcd_l0
  have Hg := Hid.mk hg
  clear hg
  have hm : x.tmod y = x % y := Int.tmod_eq_emod_of_nonneg hx
  (repeat' (first | ((with_reducible refine WG_dec (fun _ => ?_) (fun _ => ?_)) <;> try (exfalso; omega)) | ((with_reducible refine WG_decF (fun _ => ?_) (fun _ => ?_)) <;> try (exfalso; omega)) | ((with_reducible refine WC_dec (fun _ => ?_) (fun _ => ?_)) <;> try (exfalso; omega)) | refine WC_bool (fun _ => ?_) (fun _ => ?_) | refine WG_bool (fun _ => ?_) (fun _ => ?_) | refine WG_boolF (fun _ => ?_) (fun _ => ?_) | simp -dsimp (disch := omega) only [↓run_nil, ↓run_i, ↓rd_nil, ↓rd_i, ↓co_seq, ↓co_skip, ↓co_exit, ↓co_ret, ↓co_reg, ↓co_drw, ↓co_cond, ↓co_block, ↓op_mov, ↓op_bin, ↓opd_mov, ↓opd_bin, Res_ret, resL_nil, resL_t, resV_one, nn4_int, WF_eq, W1_some, ↓ev_t, ↓ev_c, ↓upd_at, ↓get_cons, ↓frm_nil, ↓frm_cons, bin_eql, room0, bin_rem, eq_self, true_and, Option.map_some, Nat.reduceEqDiff, ↓reduceIte, reduceCtorEq, *]))
  · rw [← Hg.out]
    have : y = 0 := by omega
    rw [this, gcd_zero _ hx]
  · have h1 := Int.emod_nonneg x (show y ≠ 0 by omega)
    have h2 := Int.emod_lt_of_pos x (show 0 < y by omega)
    exact Next.mk (y, x % y) ⟨rfl, rfl, rfl, hy, h1, by rw [← Hg.out]; exact gcd_step x y hx (by omega)⟩ (by simp only []; omega)
theorem numLcm (hE : Laid E) (h : Heap) {a b : Int} (ha : u64in a) (hb : u64in b) (ha0 : 0 < a) (hb0 : 0 < b) :
    callW E (.func (.func n_num_Lcm) #[] #[]) [.int .u64 a, .int .u64 b] h = some (if lcmI a b < 18446744073709551616 then .tuple #[.int .u64 (lcmI a b), .bool true] else .tuple #[.int .u64 0, .bool false], h, []) := by
  have hg := gcd_pos a b ha0 hb.1
  have q1 := numGcd hE h ha hb
  have h1 : 0 ≤ a / gcdI a b := Int.ediv_nonneg ha.1 (by omega)
  have h2 : a / gcdI a b ≤ a := Int.ediv_le_self _ ha.1
  have q2 := numMul hE h (a := a / gcdI a b) (b := b) ⟨h1, by have := ha.2; omega⟩ hb
  rw [lcm_mul a b ha0 hb0] at q2
  have hq : a.tdiv (gcdI a b) = a / gcdI a b := Int.tdiv_eq_ediv_of_nonneg ha.1
  unfold u64in at ha hb
  refine fn_same hE.num_Lcm rfl (by simp) ?_
  simp only [argsF]
  generalize lcmI a b = c at *
  generalize a / gcdI a b = d at *
  generalize gcdI a b = g at *
  by_cases hc : c < 18446744073709551616
  · rw [if_pos hc] at q2 ⊢
    (repeat' (first | ((with_reducible refine WG_dec (fun _ => ?_) (fun _ => ?_)) <;> try (exfalso; omega)) | ((with_reducible refine WG_decF (fun _ => ?_) (fun _ => ?_)) <;> try (exfalso; omega)) | ((with_reducible refine WC_dec (fun _ => ?_) (fun _ => ?_)) <;> try (exfalso; omega)) | refine WC_bool (fun _ => ?_) (fun _ => ?_) | refine WG_bool (fun _ => ?_) (fun _ => ?_) | refine WG_boolF (fun _ => ?_) (fun _ => ?_) | simp -dsimp (disch := omega) only [↓run_nil, ↓run_i, ↓run_w, ↓op_call, ↓co_seq, ↓co_skip, ↓co_ret, ↓co_reg, ↓co_cond, ↓op_mov, ↓op_pick, ↓op_bin, ↓op_ext, Res_ret, resL_nil, resL_t, resV_two, nn4_tuple, nn3_int, nn3_bool, WF_eq, W1_some, WX_some, WG_false, ↓ev_t, ↓ev_c, ↓ev_f, ↓upd_at, ↓get_cons, ↓frm_nil, ↓frm_cons, bin_eql, pick_f, ext_tuple, nt_int, nt_bool, wrap_u64, bin_quo, eq_self, List.map_cons, List.map_nil, List.all_cons, List.all_nil, Bool.and_self, true_and, List.getElem?_cons_zero, List.getElem?_cons_succ, Option.map_some, Nat.reduceEqDiff, Nat.zero_add, ↓reduceIte, reduceCtorEq, decide_false, *]))
  · rw [if_neg hc] at q2 ⊢
    (repeat' (first | ((with_reducible refine WG_dec (fun _ => ?_) (fun _ => ?_)) <;> try (exfalso; omega)) | ((with_reducible refine WG_decF (fun _ => ?_) (fun _ => ?_)) <;> try (exfalso; omega)) | ((with_reducible refine WC_dec (fun _ => ?_) (fun _ => ?_)) <;> try (exfalso; omega)) | refine WC_bool (fun _ => ?_) (fun _ => ?_) | refine WG_bool (fun _ => ?_) (fun _ => ?_) | refine WG_boolF (fun _ => ?_) (fun _ => ?_) | simp -dsimp (disch := omega) only [↓run_nil, ↓run_i, ↓run_w, ↓op_call, ↓co_seq, ↓co_skip, ↓co_ret, ↓co_reg, ↓co_cond, ↓op_mov, ↓op_pick, ↓op_bin, ↓op_ext, Res_ret, resL_nil, resL_t, resV_two, nn4_tuple, nn3_int, nn3_bool, WF_eq, W1_some, WX_some, WG_false, ↓ev_t, ↓ev_c, ↓ev_f, ↓upd_at, ↓get_cons, ↓frm_nil, ↓frm_cons, bin_eql, pick_f, ext_tuple, nt_int, nt_bool, wrap_u64, bin_quo, eq_self, List.map_cons, List.map_nil, List.all_cons, List.all_nil, Bool.and_self, true_and, List.getElem?_cons_zero, List.getElem?_cons_succ, Option.map_some, Nat.reduceEqDiff, Nat.zero_add, ↓reduceIte, reduceCtorEq, decide_false, *]))
def perV (o : Option Int) : Value := match o with
  | some p => .tuple #[.int .u64 p, .bool true]
  | none => .tuple #[.int .u64 0, .bool false]
theorem fold_at {l : List Task} {n : Nat} (h : n < l.length) (p : Int) : lcmFold (l.drop n) p = if lcmI p (atI l (n : Int)).T < 18446744073709551616 then lcmFold (l.drop (n + 1)) (lcmI p (atI l (n : Int)).T) else none := by
  rw [List.drop_eq_getElem_cons h, lcmFold, atI_nat h]
theorem loadPeriod (hE : Laid E) {h : Heap} {vl : Value} {l : List Task} (hl : Rd 7 encT h vl l) (hT : ∀ t ∈ l, t.T ≤ 4611686018427387904) :
    callW E (.func (.func n_load_Period) #[] #[]) [vl] h = some (perV (periodP l), h, []) := by
  refine fn_same hE.load_Period rfl (by simp) ?_
  simp only [argsF]
  have few := hl.few
  (repeat' (first | ((with_reducible refine WG_dec (fun _ => ?_) (fun _ => ?_)) <;> try (exfalso; omega)) | ((with_reducible refine WG_decF (fun _ => ?_) (fun _ => ?_)) <;> try (exfalso; omega)) | ((with_reducible refine WC_dec (fun _ => ?_) (fun _ => ?_)) <;> try (exfalso; omega)) | refine WC_bool (fun _ => ?_) (fun _ => ?_) | refine WG_bool (fun _ => ?_) (fun _ => ?_) | refine WG_boolF (fun _ => ?_) (fun _ => ?_) | simp -dsimp (disch := omega) only [↓run_nil, ↓run_i, ↓co_seq, ↓co_reg, ↓co_block, ↓co_loop, ↓op_mov, ↓op_lens, WF_eq, W1_some, ↓ev_t, ↓ev_c, ↓upd_at, ↓get_cons, ↓frm_nil, ↓frm_cons, eq_self, Nat.reduceEqDiff, ↓reduceIte, reduceCtorEq, *, hl.len]))
  refine WO.loop (fun n fr h' => Pre h h' ∧ n ≤ l.length ∧ get fr 0 = vl ∧ get fr 4 = .int .u64 1 ∧ get fr 5 = .bool ((l.take n).all fun t => decide (1 ≤ t.T)) ∧ get fr 10 = vl ∧ get fr 11 = .int .i64 l.length ∧ get fr 12 = .int .i64 n) (fun n => l.length - n) ?_ 0 ⟨Pre.refl _, Nat.zero_le _, rfl, rfl, rfl, rfl, rfl, rfl⟩
  rintro n fr h' ⟨hp, hn, g0, g4, g5, g10, g11, g12⟩
  have hl' := hl.pre hp
  unfold c_load_Period_l0
  rcases Nat.lt_or_ge n l.length with hlt | hge
  · have e : (l.take (n + 1)).all (fun t => decide (1 ≤ t.T)) = ((l.take n).all (fun t => decide (1 ≤ t.T)) && decide (1 ≤ (atI l (n : Int)).T)) := by
      rw [take_snoc hlt, List.all_append]; simp
    have He := Hid.mk e
    clear e
    generalize (l.take n).all (fun t => decide (1 ≤ t.T)) = b at *
    cases b
    · (repeat' (first | ((with_reducible refine WG_dec (fun _ => ?_) (fun _ => ?_)) <;> try (exfalso; omega)) | ((with_reducible refine WG_decF (fun _ => ?_) (fun _ => ?_)) <;> try (exfalso; omega)) | ((with_reducible refine WC_dec (fun _ => ?_) (fun _ => ?_)) <;> try (exfalso; omega)) | refine WC_bool (fun _ => ?_) (fun _ => ?_) | refine WG_bool (fun _ => ?_) (fun _ => ?_) | refine WG_boolF (fun _ => ?_) (fun _ => ?_) | simp -dsimp (disch := omega) only [↓run_nil, ↓run_i, ↓run_k, ↓run_w, ↓op_st, ↓co_seq, ↓co_skip, ↓co_reg, ↓co_cond, ↓co_block, ↓op_mov, ↓op_pick, ↓op_bin, ↓op_ixs, ↓op_ld, ↓op_all, WF_eq, W1_some, WH_some1, WG_ft, ↓ev_t, ↓ev_c, ↓upd_at, ↓get_cons, ↓frm_nil, ↓frm_cons, bin_add, bin_lss, pick_f, cellsV_agg, one_int, one_str, setCells_nil, setCells_cons, load_ptr, store_ptr, stO_cells, geta0, seta0, newCells, wrap_i64, eq_self, List.length_cons, List.length_nil, List.all_cons, List.all_nil, Bool.and_self, true_and, and_self, List.getElem?_cons_zero, List.set_cons_zero, List.set_cons_succ, Nat.reduceEqDiff, Nat.reduceAdd, Nat.zero_add, ↓reduceIte, reduceCtorEq, Nat.le_refl, *, hl'.ixs, hl'.lda, encT, hp.le]))
      exact Next.mk (n + 1) ⟨hp.app' _, by omega, rfl, rfl, by rw [He.out]; rfl, rfl, rfl, rfl⟩ (by omega)
    · (repeat' (first | ((with_reducible refine WG_dec (fun _ => ?_) (fun _ => ?_)) <;> try (exfalso; omega)) | ((with_reducible refine WG_decF (fun _ => ?_) (fun _ => ?_)) <;> try (exfalso; omega)) | ((with_reducible refine WC_dec (fun _ => ?_) (fun _ => ?_)) <;> try (exfalso; omega)) | refine WC_bool (fun _ => ?_) (fun _ => ?_) | refine WG_bool (fun _ => ?_) (fun _ => ?_) | refine WG_boolF (fun _ => ?_) (fun _ => ?_) | simp -dsimp (disch := omega) only [↓run_nil, ↓run_i, ↓run_k, ↓run_w, ↓op_st, ↓co_seq, ↓co_skip, ↓co_reg, ↓co_cond, ↓co_block, ↓op_mov, ↓op_pick, ↓op_bin, ↓op_fld, ↓op_ixs, ↓op_ld, ↓op_all, WF_eq, W1_some, WH_some1, WG_true, ↓ev_t, ↓ev_c, ↓upd_at, ↓get_cons, ↓frm_nil, ↓frm_cons, bin_add, bin_lss, bin_geq, pick_t, cellsV_agg, one_int, one_str, setCells_nil, setCells_cons, load_ptr, ldO_cells, part_none, store_ptr, stO_cells, fld_ptr, geta0, seta0, newCells, wrap_i64, eq_self, List.length_cons, List.length_nil, List.all_cons, List.all_nil, Bool.and_self, true_and, and_self, List.getElem?_cons_zero, List.getElem?_cons_succ, List.set_cons_zero, List.set_cons_succ, Nat.reduceEqDiff, Nat.reduceAdd, Nat.zero_add, ↓reduceIte, reduceCtorEq, Nat.le_refl, *, hl'.ixs, hl'.lda, encT, hp.le]))
      all_goals exact Next.mk (n + 1) ⟨hp.app' _, by omega, rfl, rfl, by rw [He.out, Bool.true_and]; rfl, rfl, rfl, rfl⟩ (by omega)
  · have e : l.take n = l := List.take_of_length_le (by omega)
    rw [e] at g5
    have hall : ∀ b, (l.all fun t => decide (1 ≤ t.T)) = b → (b = true → periodP l = lcmFold l 1) ∧ (b = false → periodP l = none) := fun b hb => by
      unfold periodP; rw [hb]; cases b <;> simp
    have hpos : (l.all fun t => decide (1 ≤ t.T)) = true → ∀ t ∈ l, 1 ≤ t.T := fun h t ht => by have := List.all_eq_true.1 h t ht; simpa using this
    generalize (l.all fun t => decide (1 ≤ t.T)) = b at *
    obtain ⟨hb1, hb2⟩ := hall b rfl
    have Hb1 := Hid.mk hb1
    have Hb2 := Hid.mk hb2
    have Hpos := Hid.mk hpos
    have HT := Hid.mk hT
    clear hb1 hb2 hall e hpos hT
    (repeat' (first | ((with_reducible refine WG_dec (fun _ => ?_) (fun _ => ?_)) <;> try (exfalso; omega)) | ((with_reducible refine WG_decF (fun _ => ?_) (fun _ => ?_)) <;> try (exfalso; omega)) | ((with_reducible refine WC_dec (fun _ => ?_) (fun _ => ?_)) <;> try (exfalso; omega)) | refine WC_bool (fun _ => ?_) (fun _ => ?_) | refine WG_bool (fun _ => ?_) (fun _ => ?_) | refine WG_boolF (fun _ => ?_) (fun _ => ?_) | simp -dsimp (disch := omega) only [↓run_nil, ↓run_i, ↓co_seq, ↓co_exit, ↓co_reg, ↓co_cond, ↓co_block, ↓co_loop, ↓op_mov, ↓op_bin, ↓op_lens, WF_eq, W1_some, ↓ev_t, ↓ev_c, ↓upd_at, ↓get_cons, ↓frm_nil, ↓frm_cons, bin_lss, eq_self, Nat.reduceEqDiff, ↓reduceIte, reduceCtorEq, *, hl'.len]))
    refine WO.loop (fun n fr h' => Pre h h' ∧ n ≤ l.length ∧ get fr 23 = vl ∧ get fr 24 = .int .i64 l.length ∧ get fr 25 = .int .i64 n ∧ ∃ p ok, get fr 4 = .int .u64 p ∧ get fr 5 = .bool ok ∧ u64in p ∧ (ok = true → 0 < p ∧ b = true ∧ periodP l = lcmFold (l.drop n) p) ∧ (ok = false → periodP l = none)) (fun n => l.length - n) ?_ 0 ⟨hp, Nat.zero_le _, rfl, rfl, rfl, 1, b, rfl, rfl, by unfold u64in; omega, fun e => ⟨by decide, e, Hb1.out e⟩, Hb2.out⟩
    clear hp hl' hge hn g0 g4 g5 g10 g11 g12
    rintro n fr h' ⟨hp, hn, g23, g24, g25, p, ok, g4, g5, hpu, hok1, hok2⟩
    have hl' := hl.pre hp
    unfold c_load_Period_l1
    have Hok1 := Hid.mk hok1
    have Hok2 := Hid.mk hok2
    clear hok1 hok2
    rcases Nat.lt_or_ge n l.length with hlt | hge
    · cases ok
      · (repeat' (first | ((with_reducible refine WG_dec (fun _ => ?_) (fun _ => ?_)) <;> try (exfalso; omega)) | ((with_reducible refine WG_decF (fun _ => ?_) (fun _ => ?_)) <;> try (exfalso; omega)) | ((with_reducible refine WC_dec (fun _ => ?_) (fun _ => ?_)) <;> try (exfalso; omega)) | refine WC_bool (fun _ => ?_) (fun _ => ?_) | refine WG_bool (fun _ => ?_) (fun _ => ?_) | refine WG_boolF (fun _ => ?_) (fun _ => ?_) | simp -dsimp (disch := omega) only [↓run_nil, ↓run_i, ↓run_k, ↓op_st, ↓co_seq, ↓co_skip, ↓co_reg, ↓co_cond, ↓co_block, ↓op_mov, ↓op_bin, ↓op_ixs, ↓op_ld, ↓op_all, WF_eq, W1_some, WH_some1, WC_false, ↓ev_t, ↓ev_c, ↓upd_at, ↓get_cons, ↓frm_nil, ↓frm_cons, bin_add, bin_lss, cellsV_agg, one_int, one_str, setCells_nil, setCells_cons, load_ptr, store_ptr, stO_cells, geta0, seta0, newCells, wrap_i64, eq_self, List.length_cons, List.length_nil, List.all_cons, List.all_nil, Bool.and_self, true_and, and_self, List.getElem?_cons_zero, List.set_cons_zero, List.set_cons_succ, Nat.reduceEqDiff, Nat.reduceAdd, Nat.zero_add, ↓reduceIte, Nat.le_refl, *, hl'.ixs, hl'.lda, encT, hp.le]))
        exact Next.mk (n + 1) ⟨hp.app' _, by omega, rfl, rfl, rfl, p, false, rfl, rfl, hpu, (fun e => nomatch e), fun _ => Hok2.out rfl⟩ (by omega)
      · obtain ⟨hp0, hbt, hper⟩ := Hok1.out rfl
        have ht1 := Hpos.out hbt _ (atI_mem (l := l) (i := (n : Int)) (by omega) (by omega))
        have ht2 := HT.out _ (atI_mem (l := l) (i := (n : Int)) (by omega) (by omega))
        have hq := fun h => numLcm hE h (a := p) (b := (atI l (n : Int)).T) hpu ⟨by omega, by omega⟩ hp0 (by omega)
        have hc0 := lcm_pos p (atI l (n : Int)).T hp0 (by omega)
        rw [fold_at hlt] at hper
        have Hper := Hid.mk hper
        clear hper
        generalize hc : lcmI p (atI l (n : Int)).T = c at *
        have Hc := Hid.mk hc
        clear hc
        by_cases hlt2 : c < 18446744073709551616
        · simp only [if_pos hlt2] at hq
          (repeat' (first | ((with_reducible refine WG_dec (fun _ => ?_) (fun _ => ?_)) <;> try (exfalso; omega)) | ((with_reducible refine WG_decF (fun _ => ?_) (fun _ => ?_)) <;> try (exfalso; omega)) | ((with_reducible refine WC_dec (fun _ => ?_) (fun _ => ?_)) <;> try (exfalso; omega)) | refine WC_bool (fun _ => ?_) (fun _ => ?_) | refine WG_bool (fun _ => ?_) (fun _ => ?_) | refine WG_boolF (fun _ => ?_) (fun _ => ?_) | simp -dsimp (disch := omega) only [↓run_nil, ↓run_i, ↓run_k, ↓op_st, ↓op_call, ↓co_seq, ↓co_skip, ↓co_reg, ↓co_cond, ↓co_block, ↓op_mov, ↓op_bin, ↓op_cvi, ↓op_fld, ↓op_ixs, ↓op_ext, ↓op_ld, ↓op_all, WF_eq, W1_some, WX_some, WH_some1, WC_true, ↓ev_t, ↓ev_c, ↓ev_f, ↓upd_at, ↓get_cons, ↓frm_nil, ↓frm_cons, bin_add, bin_lss, cvi_int, cellsV_agg, one_int, one_str, setCells_nil, setCells_cons, load_ptr, ldO_cells, part_none, store_ptr, stO_cells, fld_ptr, ext_tuple, nt_int, nt_bool, geta0, seta0, newCells, wrap_i64, wrap_u64, eq_self, List.map_cons, List.map_nil, List.length_cons, List.length_nil, List.all_cons, List.all_nil, Bool.and_self, true_and, and_self, List.getElem?_cons_zero, List.getElem?_cons_succ, List.set_cons_zero, List.set_cons_succ, Nat.reduceEqDiff, Nat.reduceAdd, Nat.zero_add, ↓reduceIte, Nat.le_refl, *, hl'.ixs, hl'.lda, encT, hp.le]))
          refine Next.mk (n + 1) ⟨hp.app' _, by omega, rfl, rfl, rfl, c, true, rfl, rfl, ⟨by omega, hlt2⟩, fun _ => ⟨hc0, hbt, ?_⟩, (fun e => nomatch e)⟩ (by omega)
          rw [Hper.out, if_pos hlt2]
        · simp only [if_neg hlt2] at hq
          (repeat' (first | ((with_reducible refine WG_dec (fun _ => ?_) (fun _ => ?_)) <;> try (exfalso; omega)) | ((with_reducible refine WG_decF (fun _ => ?_) (fun _ => ?_)) <;> try (exfalso; omega)) | ((with_reducible refine WC_dec (fun _ => ?_) (fun _ => ?_)) <;> try (exfalso; omega)) | refine WC_bool (fun _ => ?_) (fun _ => ?_) | refine WG_bool (fun _ => ?_) (fun _ => ?_) | refine WG_boolF (fun _ => ?_) (fun _ => ?_) | simp -dsimp (disch := omega) only [↓run_nil, ↓run_i, ↓run_k, ↓op_st, ↓op_call, ↓co_seq, ↓co_skip, ↓co_reg, ↓co_cond, ↓co_block, ↓op_mov, ↓op_bin, ↓op_cvi, ↓op_fld, ↓op_ixs, ↓op_ext, ↓op_ld, ↓op_all, WF_eq, W1_some, WX_some, WH_some1, WC_true, ↓ev_t, ↓ev_c, ↓ev_f, ↓upd_at, ↓get_cons, ↓frm_nil, ↓frm_cons, bin_add, bin_lss, cvi_int, cellsV_agg, one_int, one_str, setCells_nil, setCells_cons, load_ptr, ldO_cells, part_none, store_ptr, stO_cells, fld_ptr, ext_tuple, nt_int, nt_bool, geta0, seta0, newCells, wrap_i64, wrap_u64, eq_self, List.map_cons, List.map_nil, List.length_cons, List.length_nil, List.all_cons, List.all_nil, Bool.and_self, true_and, and_self, List.getElem?_cons_zero, List.getElem?_cons_succ, List.set_cons_zero, List.set_cons_succ, Nat.reduceEqDiff, Nat.reduceAdd, Nat.zero_add, ↓reduceIte, Nat.le_refl, *, hl'.ixs, hl'.lda, encT, hp.le]))
          refine Next.mk (n + 1) ⟨hp.app' _, by omega, rfl, rfl, rfl, 0, false, rfl, rfl, by unfold u64in; omega, (fun e => nomatch e), fun _ => ?_⟩ (by omega)
          rw [Hper.out, if_neg hlt2]
    · have e : n = l.length := by omega
      subst e
      rw [List.drop_length] at Hok1
      cases ok
      · rw [Hok2.out rfl, show perV none = .tuple #[.int .u64 0, .bool false] from rfl]
        (repeat' (first | ((with_reducible refine WG_dec (fun _ => ?_) (fun _ => ?_)) <;> try (exfalso; omega)) | ((with_reducible refine WG_decF (fun _ => ?_) (fun _ => ?_)) <;> try (exfalso; omega)) | ((with_reducible refine WC_dec (fun _ => ?_) (fun _ => ?_)) <;> try (exfalso; omega)) | refine WC_bool (fun _ => ?_) (fun _ => ?_) | refine WG_bool (fun _ => ?_) (fun _ => ?_) | refine WG_boolF (fun _ => ?_) (fun _ => ?_) | simp -dsimp (disch := omega) only [↓run_nil, ↓run_i, ↓co_seq, ↓co_exit, ↓co_ret, ↓co_reg, ↓co_cond, ↓op_mov, ↓op_bin, ↓op_un, Res_ret, resL_nil, resL_t, resV_two, nn4_tuple, nn3_int, nn3_bool, WF_eq, W1_some, WC_true, ↓ev_t, ↓ev_c, ↓upd_at, ↓get_cons, ↓frm_nil, ↓frm_cons, bin_lss, un_not, eq_self, Bool.not_false, List.all_cons, List.all_nil, Bool.and_self, true_and, Option.map_some, Nat.reduceEqDiff, ↓reduceIte, *]))
      · rw [(Hok1.out rfl).2.2, show perV (lcmFold [] p) = .tuple #[.int .u64 p, .bool true] from rfl]
        (repeat' (first | ((with_reducible refine WG_dec (fun _ => ?_) (fun _ => ?_)) <;> try (exfalso; omega)) | ((with_reducible refine WG_decF (fun _ => ?_) (fun _ => ?_)) <;> try (exfalso; omega)) | ((with_reducible refine WC_dec (fun _ => ?_) (fun _ => ?_)) <;> try (exfalso; omega)) | refine WC_bool (fun _ => ?_) (fun _ => ?_) | refine WG_bool (fun _ => ?_) (fun _ => ?_) | refine WG_boolF (fun _ => ?_) (fun _ => ?_) | simp -dsimp (disch := omega) only [↓run_nil, ↓run_i, ↓co_seq, ↓co_skip, ↓co_exit, ↓co_ret, ↓co_reg, ↓co_cond, ↓op_mov, ↓op_bin, ↓op_un, Res_ret, resL_nil, resL_t, resV_two, nn4_tuple, nn3_int, nn3_bool, WF_eq, W1_some, WC_false, ↓ev_t, ↓ev_c, ↓upd_at, ↓get_cons, ↓frm_nil, ↓frm_cons, bin_lss, un_not, eq_self, Bool.not_true, List.all_cons, List.all_nil, Bool.and_self, true_and, Option.map_some, Nat.reduceEqDiff, ↓reduceIte, *]))
end Go.L.Try

/- THE TICKS OF A PERIOD: hyper.ticks. -/
set_option linter.unusedVariables false
set_option linter.unusedSimpArgs false
set_option maxRecDepth 100000
set_option maxHeartbeats 2000000
namespace Go.L.Try
open Go Go.L
variable {E : Env}
/-- What a function tells, one after the other, to a loop that may lay what stays. -/
def IterT (E : Env) (g : Value) (base : Heap → Prop) (vals : List (List Value)) : Prop :=
  ∀ (h1 : Heap) (L : Nat) (W : Nat → Prop) (J : Nat → Heap → Prop) (Stop : Heap → Prop), (∀ k h, J k h → base h) → J 0 h1 → (∀ k h h3, J k h → Tr h1 h h3 → J k h3) → (∀ h h3, Stop h → Tr h1 h h3 → Stop h3) →
    (∀ k h a, vals[k]? = some a → J k h → WX W (callW E (.func (.yield L) #[] #[]) a h) (fun v h' => (v = .bool true ∧ J (k + 1) h') ∨ (v = .bool false ∧ Stop h'))) →
    WX W (callW E g [.func (.yield L) #[] #[]] h1) (fun _ h' => J vals.length h' ∨ Stop h')
def tickV (T p : Int) : List (List Value) := (List.range (manyP T p)).map fun (k : Nat) => [Value.int .i64 ((k : Int) * T)]
theorem ticks_iter (hE : Laid E) {T p : Int} (hT : 1 ≤ T) (hT2 : T ≤ 2147483647) (hp : 0 ≤ p) (hp2 : p ≤ 4611686018427387904) (b1 b2 : Nat) :
    IterT E (.func (.func n_hyper_ticks_f1) #[] #[.pointer (some ⟨b1, 0, none⟩), .pointer (some ⟨b2, 0, none⟩)]) (fun h => h[b1]? = some (.cells [.int .u64 p] false) ∧ h[b2]? = some (.cells [.int .i64 T] false)) (tickV T p) := by
  intro h1 L W J Stop hJ h0 hJT hST step
  refine fn_tr hE.keep hE.hyper_ticks_f1 rfl (by simp) ?_
  simp only [List.cons_append, List.nil_append, argsF]
  have HJ := Hid.mk hJ
  have HJT := Hid.mk hJT
  have HST := Hid.mk hST
  have Hst := Hid.mk step
  have H0 := Hid.mk h0
  clear hJ hJT hST step h0
  (repeat' (first | ((with_reducible refine WG_dec (fun _ => ?_) (fun _ => ?_)) <;> try (exfalso; omega)) | ((with_reducible refine WG_decF (fun _ => ?_) (fun _ => ?_)) <;> try (exfalso; omega)) | ((with_reducible refine WC_dec (fun _ => ?_) (fun _ => ?_)) <;> try (exfalso; omega)) | refine WC_bool (fun _ => ?_) (fun _ => ?_) | refine WG_bool (fun _ => ?_) (fun _ => ?_) | refine WG_boolF (fun _ => ?_) (fun _ => ?_) | simp -dsimp (disch := omega) only [↓run_nil, ↓run_i, ↓co_seq, ↓co_reg, ↓co_block, ↓co_loop, ↓op_mov, WF_eq, W1_some, ↓ev_c, ↓upd_at, ↓get_cons, ↓frm_nil, ↓frm_cons, eq_self, Nat.reduceEqDiff, Nat.reduceAdd, Nat.zero_add, ↓reduceIte, reduceCtorEq, *]))
  refine WO.loop (fun (k : Nat) fr h' => J k h' ∧ k ≤ manyP T p ∧ get fr 0 = .func (.yield L) #[] #[] ∧ get fr 1 = .pointer (some ⟨b1, 0, none⟩) ∧ get fr 2 = .pointer (some ⟨b2, 0, none⟩) ∧ get fr 4 = .int .i64 ((k : Int) * T)) (fun k => manyP T p - k) ?_ 0 ⟨H0.out, Nat.zero_le _, rfl, rfl, rfl, by simp [get]⟩
  rintro k fr h' ⟨hj, hk, g0, g1, g2, g4⟩
  obtain ⟨hb1, hb2⟩ := HJ.out k h' hj
  have hm := many_le (T := T) (p := p) hT k
  have hpos : 0 ≤ (k : Int) * T := Int.mul_nonneg (by omega) (by omega)
  have hprev : (k : Int) * T ≤ 4611686018427387904 + 2147483647 := by
    cases k with
    | zero => simp
    | succ k =>
      have := (many_le (T := T) (p := p) hT k).1 (by omega)
      rw [Int.natCast_add, Int.add_mul]; omega
  have esucc : ((k + 1 : Nat) : Int) * T = (k : Int) * T + T := by rw [Int.natCast_add, Int.add_mul]; omega
  unfold c_hyper_ticks_f1_l0
  have hlen : (tickV T p).length = manyP T p := by simp [tickV]
  rcases Nat.lt_or_ge k (manyP T p) with hlt | hge
  · have hlt2 := hm.1 hlt
    have hv : (tickV T p)[k]? = some [.int .i64 ((k : Int) * T)] := by
      unfold tickV; rw [List.getElem?_map, List.getElem?_range hlt]; rfl
    have hst := Hid.mk (Hst.out k h' _ hv hj)
    have Hes := Hid.mk esucc
    clear hv Hst H0 hj hm esucc
    generalize (k : Int) * T = t at *
    (repeat' (first | ((with_reducible refine WG_dec (fun _ => ?_) (fun _ => ?_)) <;> try (exfalso; omega)) | ((with_reducible refine WG_decF (fun _ => ?_) (fun _ => ?_)) <;> try (exfalso; omega)) | ((with_reducible refine WC_dec (fun _ => ?_) (fun _ => ?_)) <;> try (exfalso; omega)) | refine WC_bool (fun _ => ?_) (fun _ => ?_) | refine WG_bool (fun _ => ?_) (fun _ => ?_) | refine WG_boolF (fun _ => ?_) (fun _ => ?_) | simp -dsimp (disch := omega) only [↓run_i, ↓run_w, ↓op_call, ↓co_seq, ↓co_reg, ↓op_mov, ↓op_bin, ↓op_cvi, ↓op_ld, W1_some, WG_true, ↓ev_t, ↓upd_at, bin_lss, cvi_int, load_ptr, ldO_cells, part_none, wrap_u64, eq_self, List.map_cons, List.map_nil, List.getElem?_cons_zero, Nat.reduceEqDiff, ↓reduceIte, reduceCtorEq, decide_true, *]))
    refine WX.mono hst.out (fun b h => h) fun v h2 hx => ?_
    rcases hx with ⟨rfl, hj2⟩ | ⟨rfl, hs2⟩
    · obtain ⟨c1, c2⟩ := HJ.out (k + 1) h2 hj2
      have Hj2 := Hid.mk hj2
      clear hj2 hst hb1 hb2
      (repeat' (first | ((with_reducible refine WG_dec (fun _ => ?_) (fun _ => ?_)) <;> try (exfalso; omega)) | ((with_reducible refine WG_decF (fun _ => ?_) (fun _ => ?_)) <;> try (exfalso; omega)) | ((with_reducible refine WC_dec (fun _ => ?_) (fun _ => ?_)) <;> try (exfalso; omega)) | refine WC_bool (fun _ => ?_) (fun _ => ?_) | refine WG_bool (fun _ => ?_) (fun _ => ?_) | refine WG_boolF (fun _ => ?_) (fun _ => ?_) | simp -dsimp (disch := omega) only [↓run_nil, ↓run_i, ↓co_seq, ↓co_skip, ↓co_exit, ↓co_reg, ↓co_cond, ↓co_block, ↓op_mov, ↓op_pick, ↓op_bin, ↓op_ld, WF_eq, W1_some, WC_true, ↓ev_t, ↓ev_c, ↓upd_at, ↓get_cons, ↓frm_nil, ↓frm_cons, bin_add, pick_t, load_ptr, ldO_cells, part_none, wrap_i64, eq_self, List.getElem?_cons_zero, Nat.reduceEqDiff, ↓reduceIte, reduceCtorEq, *]))
      exact Next.mk (k + 1) ⟨Hj2.out, by omega, rfl, rfl, rfl, by rw [Hes.out]; rfl⟩ (by omega)
    · have Hs2 := Hid.mk hs2
      clear hs2 hst hb1 hb2
      (repeat' (first | ((with_reducible refine WG_dec (fun _ => ?_) (fun _ => ?_)) <;> try (exfalso; omega)) | ((with_reducible refine WG_decF (fun _ => ?_) (fun _ => ?_)) <;> try (exfalso; omega)) | ((with_reducible refine WC_dec (fun _ => ?_) (fun _ => ?_)) <;> try (exfalso; omega)) | refine WC_bool (fun _ => ?_) (fun _ => ?_) | refine WG_bool (fun _ => ?_) (fun _ => ?_) | refine WG_boolF (fun _ => ?_) (fun _ => ?_) | simp -dsimp (disch := omega) only [↓run_nil, ↓run_i, ↓co_exit, ↓co_cond, ↓op_pick, Res_normal, resL_nil, resV_nil, nn4_tuple, WF_eq, W1_some, WC_false, ↓ev_t, ↓ev_c, ↓upd_at, ↓get_cons, ↓frm_nil, ↓frm_cons, pick_t, eq_self, List.all_nil, true_and, Nat.reduceEqDiff, ↓reduceIte, reduceCtorEq, *]))
      exact fun h3 ht => .inr (HST.out _ _ Hs2.out ht)
  · have e : k = manyP T p := by omega
    have hge2 : ¬ (k : Int) * T < p := fun h => by have := hm.2 h; omega
    have Hj := Hid.mk hj
    clear hj hm
    have HL := Hid.mk (e.trans hlen.symm)
    clear e hlen
    generalize (k : Int) * T = t at *
    (repeat' (first | ((with_reducible refine WG_dec (fun _ => ?_) (fun _ => ?_)) <;> try (exfalso; omega)) | ((with_reducible refine WG_decF (fun _ => ?_) (fun _ => ?_)) <;> try (exfalso; omega)) | ((with_reducible refine WC_dec (fun _ => ?_) (fun _ => ?_)) <;> try (exfalso; omega)) | refine WC_bool (fun _ => ?_) (fun _ => ?_) | refine WG_bool (fun _ => ?_) (fun _ => ?_) | refine WG_boolF (fun _ => ?_) (fun _ => ?_) | simp -dsimp (disch := omega) only [↓run_nil, ↓run_i, ↓run_w, ↓co_seq, ↓co_exit, ↓co_reg, ↓co_cond, ↓op_mov, ↓op_pick, ↓op_bin, ↓op_cvi, ↓op_ld, Res_normal, resL_nil, resV_nil, nn4_tuple, WF_eq, W1_some, WC_false, WG_ft, ↓ev_t, ↓ev_c, ↓upd_at, ↓get_cons, ↓frm_nil, ↓frm_cons, bin_lss, cvi_int, pick_f, load_ptr, ldO_cells, part_none, wrap_u64, eq_self, List.all_nil, true_and, List.getElem?_cons_zero, Nat.reduceEqDiff, ↓reduceIte, reduceCtorEq, decide_false, *]))
    exact fun h3 ht => .inl (by rw [← HL.out]; exact HJT.out _ _ _ Hj.out ht)
def TickV (m : Nat) (T p : Int) : Heap → Value → Prop := Clo2 m n_hyper_ticks_f1 (fun _ v => v = .int .u64 p) (fun _ v => v = .int .i64 T)
theorem ticksS (hE : Laid E) (h : Heap) (T p : Int) :
    ∃ v ys, callW E (.func (.func n_hyper_ticks) #[] #[]) [.int .i64 T, .int .u64 p] h = some (v, h ++ ys, []) ∧ TickV h.length T p (h ++ ys) v := by
  refine fn_new hE.hyper_ticks rfl (Clo2.movable (movable_eq rfl) (movable_eq rfl)) (by simp) ?_
  simp only [argsF]
  (repeat' (first | ((with_reducible refine WG_dec (fun _ => ?_) (fun _ => ?_)) <;> try (exfalso; omega)) | ((with_reducible refine WG_decF (fun _ => ?_) (fun _ => ?_)) <;> try (exfalso; omega)) | ((with_reducible refine WC_dec (fun _ => ?_) (fun _ => ?_)) <;> try (exfalso; omega)) | refine WC_bool (fun _ => ?_) (fun _ => ?_) | refine WG_bool (fun _ => ?_) (fun _ => ?_) | refine WG_boolF (fun _ => ?_) (fun _ => ?_) | simp -dsimp (disch := omega) only [↓run_nil, ↓run_i, ↓co_seq, ↓co_ret, ↓co_reg, ↓op_mov, ↓op_mkf, ↓op_box, Res_ret, resL_nil, resL_t, resV_one, WF_eq, W1_some, ↓ev_t, ↓ev_c, ↓upd_at, ↓get_cons, ↓frm_nil, ↓frm_cons, cellsV_int, one_int, newCells, eq_self, List.map_cons, List.map_nil, List.length_append, List.length_cons, List.length_nil, List.all_cons, List.all_nil, Bool.and_self, List.append_assoc, List.cons_append, List.nil_append, Option.map_some, Nat.reduceEqDiff, Nat.zero_add, ↓reduceIte, reduceCtorEq, *]))
  exact ⟨⟨_, rfl⟩, h.length + 1, h.length, _, _, rfl, ⟨by omega, by omega⟩, ⟨by rw [geta]; rfl, by rw [geta0]; rfl⟩, rfl, rfl⟩
end Go.L.Try

/- THE JOBS OF A PERIOD: hyper.Jobs. -/
set_option linter.unusedVariables false
set_option linter.unusedSimpArgs false
set_option maxRecDepth 100000
set_option maxHeartbeats 4000000
namespace Go.L.Try
open Go Go.L
variable {E : Env}
def nilJ (j : Job) : NV Job := ⟨j, .slice none 0 0⟩
/-- The row that grows, and what stays of it at an end. -/
def Out17 (m B L : Nat) (A : List Job) (hh : Heap) : Prop := ∃ v, hh[m]? = some (.cells [v] false) ∧ OwnT (m + 1) 5 (encN hdJ) hh v (A.map nilJ) ∧ (A ≠ [] → blk v < B ∨ L < blk v)
theorem Out17.tr {m B L : Nat} {A : List Job} {H hh h3 : Heap} (o : Out17 m B L A hh) {v0 : Value} (hm : m < H.length) (hB : B ≤ H.length) (hL : H.length ≤ L + 1) (h0 : H[m]? = some (.cells [v0] false)) (hv0 : v0 ≠ .slice none 0 0 → blk v0 < B) (t : Tr H hh h3) : Out17 m B L A h3 ∧ ∀ b, b < H.length → h3[b]? = hh[b]? := by
  rcases t with rfl | ⟨rfl, hw⟩
  · exact ⟨o, fun _ _ => rfl⟩
  · have hk : ∀ b, b < H.length → (hh.take H.length)[b]? = hh[b]? := fun b hb => by rw [List.getElem?_take, if_pos hb]
    refine ⟨?_, hk⟩
    obtain ⟨v, h1, h2, h3⟩ := o
    refine ⟨v, by rw [hk m hm]; exact h1, ?_, h3⟩
    by_cases hA : A = []
    · subst hA
      exact h2.keep fun hn => absurd rfl hn
    · have hA' : A.map nilJ ≠ [] := by simpa using hA
      refine h2.keep fun _ => hk _ ?_
      rcases hw m hm with h4 | h4
      · rw [h1, h0] at h4
        cases h4
        have := hv0 (fun e => hA' (by rw [e] at h2; exact own_nil h2))
        omega
      · rw [h1] at h4
        exact own_noNew h2 hA' h4
/-- What hyper.Jobs tells: jobs, the period, the error. -/
def jobsH (l : List Task) (cap : Int) : List Job × Int × Int :=
  if (checkAllP l).2 ≠ 0 then ([], 0, 1) else match periodP l with
  | none => ([], 0, 15)
  | some p => if cap < p then ([], 0, 15) else if 4096 < (allH l p l.length).length then ([], 0, 15) else (allH l p l.length, p, 0)
def JobsR (m : Nat) (r : List Job × Int × Int) (h : Heap) (v : Value) : Prop := ∃ vs, v = .tuple vs.toArray ∧ Each h [fun h v => RdNO m 5 hdJ Job.cuts h v r.1, fun _ v => v = .int .u64 r.2.1, fun _ v => v = .int .i64 r.2.2] vs
theorem JobsR.movable {m : Nat} (r : List Job × Int × Int) : Movable m (JobsR m r) 2 :=
  Movable.tuples (k := 1) (fun R hR => by
    simp only [List.mem_cons, List.not_mem_nil, or_false] at hR
    rcases hR with rfl | rfl | rfl
    · exact RdNO.movable (hd := hdJ) (cs := Job.cuts) (sz := 5) (fun _ => rfl) (fun _ => rfl) _
    · exact movable_eq rfl
    · exact movable_eq rfl) (by simp)
theorem allH_mono {l : List Task} {p : Int} {i : Nat} : ∀ {j : Nat}, i ≤ j → (allH l p i).length ≤ (allH l p j).length
  | 0, h => by have : i = 0 := by omega
               subst this; exact Nat.le_refl _
  | j + 1, h => by
    rcases Nat.lt_or_ge i (j + 1) with h1 | h1
    · have := allH_mono (l := l) (p := p) (i := i) (j := j) (by omega)
      show _ ≤ (allH l p j ++ _).length
      rw [List.length_append]; omega
    · have : i = j + 1 := by omega
      subst this; exact Nat.le_refl _
/-- The heap between two rounds. -/
structure St17 (h0 : Heap) (B L bx by' i : Nat) (t : Task) (p : Int) (lo : LObj) (A : List Job) (hh : Heap) : Prop where
  pre : Pre h0 hh
  len : L < hh.length
  b0 : hh[B]? = some (.cells [.int .i64 (i : Int)] false)
  b1 : hh[B + 1]? = some (.cells (encT t) false)
  b2 : hh[bx]? = some (.cells [.int .u64 p] false)
  b3 : hh[by']? = some (.cells [.int .i64 t.T] false)
  b4 : hh[L]? = some lo
  out : Out17 h0.length B L A hh
section
variable {h0 : Heap} {B L bx by' i : Nat} {t : Task} {p : Int} {lo : LObj} {A : List Job} {hh : Heap}
theorem St17.setL (s : St17 h0 B L bx by' i t p lo A hh) (hm : h0.length < B) (h1 : B + 2 ≤ bx) (h2 : B + 2 ≤ by') (h3 : bx < L) (h4 : by' < L) (lo' : LObj) : St17 h0 B L bx by' i t p lo' A (hh.set L lo') := by
  obtain ⟨a, b, c0, c1, c2, c3, c4, v, o1, o2, o3⟩ := s
  refine ⟨fun x o hx => ?_, by rw [List.length_set]; exact b, by rw [gets (by omega)]; exact c0, by rw [gets (by omega)]; exact c1, by rw [gets (by omega)]; exact c2, by rw [gets (by omega)]; exact c3, gset b, v, by rw [gets (by omega)]; exact o1, o2.keep fun hn => gets (by have := o3 (by simpa using hn); omega), o3⟩
  have := (List.getElem?_eq_some_iff.1 hx).1
  rw [gets (by omega)]; exact a x o hx
theorem St17.tr (s : St17 h0 B L bx by' i t p lo A hh) (hm : h0.length < B) (h1 : B + 2 ≤ bx) (h2 : B + 2 ≤ by') (h3 : bx < L) (h4 : by' < L) {H h3' : Heap} (hH : H.length = L + 1) {v0 : Value} (hc : H[h0.length]? = some (.cells [v0] false)) (hv0 : v0 ≠ .slice none 0 0 → blk v0 < B) (t' : Tr H hh h3') : St17 h0 B L bx by' i t p lo A h3' := by
  obtain ⟨o, hk⟩ := s.out.tr (by omega) (by omega) (by omega) hc hv0 t'
  have h5 := (hk L (by omega)).trans s.b4
  refine ⟨fun x y hx => ?_, (List.getElem?_eq_some_iff.1 h5).1, (hk _ (by omega)).trans s.b0, (hk _ (by omega)).trans s.b1, (hk _ (by omega)).trans s.b2, (hk _ (by omega)).trans s.b3, h5, o⟩
  have := (List.getElem?_eq_some_iff.1 hx).1
  rw [hk x (by omega)]; exact s.pre x y hx
end
theorem tr_grow {α : Type} {m sz : Nat} {enc : α → List Value} {hh h2 h3 : Heap} {v v2 : Value} {c : Nat} {l : List α} (hb : h2[c]? = some (.cells [v2] false)) (ho : OwnT m sz enc h2 v2 l) (hl : l ≠ []) (hf : hh.length ≤ blk v2) (hc : c < hh.length) (hold : hh[c]? = some (.cells [v] false)) (hv : v ≠ .slice none 0 0 → blk v < hh.length) (t : Tr hh h2 h3) : h3 = h2 := by
  rcases t with rfl | ⟨rfl, hw⟩
  · rfl
  · exfalso
    rcases hw c hc with h4 | h4
    · rw [hb, hold] at h4
      cases h4
      have := hv fun e => hl (by rw [e] at ho; exact own_nil ho)
      omega
    · rw [hb] at h4
      have := own_noNew ho hl h4
      omega
theorem jobs_round (hE : Laid E) {h0 : Heap} {B L bx by' i : Nat} (hm : h0.length < B) (h1 : B + 2 ≤ bx) (h2 : B + 2 ≤ by') (h3 : bx < L) (h4 : by' < L) {t : Task} {p : Int} {frL : Fr} (g11 : get frL 11 = .pointer (some ⟨h0.length, 0, none⟩)) (g12 : get frL 12 = .pointer (some ⟨B, 0, none⟩)) (g13 : get frL 13 = .pointer (some ⟨B + 1, 0, none⟩)) {A : List Job} {hh : Heap} (hA : A.length ≤ 4097)
    (s : St17 h0 B L bx by' i t p (.loop { state := .ready, pending := none, fr := frL, sz := 64, params := [45], assign := c_hyper_Jobs_l0, body := c_hyper_Jobs_l1 }) A hh) (x : Int) :
    WX (fun b => h0.length ≤ b) (callW E (.func (.yield L) #[] #[]) [.int .i64 x] hh) (fun v h' =>
      (v = .bool true ∧ A.length ≤ 4096 ∧ St17 h0 B L bx by' i t p (.loop { state := .ready, pending := none, fr := frL, sz := 64, params := [45], assign := c_hyper_Jobs_l0, body := c_hyper_Jobs_l1 }) (A ++ [⟨i, x, x, t.C, []⟩]) h') ∨
      (v = .bool false ∧ A.length = 4097 ∧ St17 h0 B L bx by' i t p (.loop { state := .done, pending := some (some 0), fr := frL, sz := 64, params := [45], assign := c_hyper_Jobs_l0, body := c_hyper_Jobs_l1 }) A h')) := by
  generalize hlo : LObj.loop { state := LoopState.ready, pending := none, fr := frL, sz := 64, params := [45], assign := c_hyper_Jobs_l0, body := c_hyper_Jobs_l1 } = lo at *
  refine WX.mono (wx_roundT hE.keep (r := { state := .ready, pending := none, fr := frL, sz := 64, params := [45], assign := c_hyper_Jobs_l0, body := c_hyper_Jobs_l1 }) (W := fun b => h0.length ≤ b ∧ b ≠ L) (Rr := fun e h3 => (A.length ≤ 4096 ∧ e = .normal ∧ St17 h0 B L bx by' i t p lo (A ++ [⟨i, x, x, t.C, []⟩]) h3) ∨ (A.length = 4097 ∧ e = .exit 0 ∧ St17 h0 B L bx by' i t p lo A h3)) (s.b4.trans (congrArg some hlo.symm)) rfl rfl rfl rfl (fun b hb => hb.2) ?_) (fun b hb => by rcases hb with hb | hb; exact hb.1; omega) ?_
  · dsimp only
    have Hlo := Hid.mk hlo
    rw [hlo]
    generalize LObj.loop { state := LoopState.busy, pending := none, fr := frL, sz := 64, params := [45], assign := c_hyper_Jobs_l0, body := c_hyper_Jobs_l1 } = lb
    clear hlo
    unfold c_hyper_Jobs_l0
    (repeat' (first | ((with_reducible refine WG_dec (fun _ => ?_) (fun _ => ?_)) <;> try (exfalso; omega)) | ((with_reducible refine WG_decF (fun _ => ?_) (fun _ => ?_)) <;> try (exfalso; omega)) | ((with_reducible refine WC_dec (fun _ => ?_) (fun _ => ?_)) <;> try (exfalso; omega)) | refine WC_bool (fun _ => ?_) (fun _ => ?_) | refine WG_bool (fun _ => ?_) (fun _ => ?_) | refine WG_boolF (fun _ => ?_) (fun _ => ?_) | simp -dsimp (disch := omega) only [↓run_nil, ↓run_i, ↓co_reg, ↓op_mov, WF_eq, W1_some, ↓ev_t, ↓upd_at, ↓get_cons, ↓frm_nil, ↓frm_cons, eq_self, true_and, Nat.reduceEqDiff, ↓reduceIte, *]))
    have s2 := s.setL hm h1 h2 h3 h4 lb
    have Hs := Hid.mk s
    have hback : (hh.set L lb).set L lo = hh := by rw [List.set_set]; exact set_same s.b4
    have Hback := Hid.mk hback
    have hGl : (hh.set L lb).length = hh.length := List.length_set ..
    obtain ⟨_, hhlen, _, _, _, _, _, vo, ov1, ov2, ov3⟩ := s
    have Hov2 := Hid.mk ov2
    have hvlt : vo ≠ .slice none 0 0 → blk vo < hh.length := fun hn => ov2.lt (ov2.ne hn)
    have Hvlt := Hid.mk hvlt
    have Hov1 := Hid.mk ov1
    clear hback hvlt ov2 ov1 ov3
    obtain ⟨p2, len2, b0, b1, b2, b3, b4, v, o1, o2, o3⟩ := s2
    generalize hh.set L lb = G at *
    unfold c_hyper_Jobs_l1
    have hr := o2.rd
    have few := hr.few
    unfold encT at b1
    have Hl : (A.map nilJ).length = A.length := List.length_map ..
    have Hgl := Hid.mk hGl
    clear hGl
    have hkey : A.map nilJ ≠ [] → h0.length + 1 ≤ blk v ∧ (blk v < B ∨ L < blk v) := fun hn => ⟨o2.ge hn, o3 (by simpa using hn)⟩
    (repeat' (first | ((with_reducible refine WG_dec (fun _ => ?_) (fun _ => ?_)) <;> try (exfalso; omega)) | ((with_reducible refine WG_decF (fun _ => ?_) (fun _ => ?_)) <;> try (exfalso; omega)) | ((with_reducible refine WC_dec (fun _ => ?_) (fun _ => ?_)) <;> try (exfalso; omega)) | refine WC_bool (fun _ => ?_) (fun _ => ?_) | refine WG_bool (fun _ => ?_) (fun _ => ?_) | refine WG_boolF (fun _ => ?_) (fun _ => ?_) | simp -dsimp (disch := omega) only [↓run_nil, ↓run_i, ↓co_seq, ↓co_skip, ↓co_exit, ↓co_reg, ↓co_cond, ↓co_block, ↓op_mov, ↓op_bin, ↓op_bld, ↓op_fld, ↓op_lens, ↓op_ld, ↓op_bsl, ↓op_app, WF_eq, W1_some, ↓ev_t, ↓ev_c, ↓upd_at, ↓get_cons, ↓frm_nil, ↓frm_cons, bin_gtr, cellsV_int, cellsV_agg, one_int, one_slice, fillV_nil, fillV_cons, setCells_nil, setCells_cons, load_ptr, ldO_cells, part_none, fld_ptr, newCells, bslV, eq_self, List.map_cons, List.map_nil, List.length_cons, List.length_nil, List.all_cons, List.all_nil, Bool.and_self, true_and, and_self, List.getElem?_cons_zero, List.getElem?_cons_succ, List.set_cons_zero, List.set_cons_succ, List.append_nil, Option.bind_some, Option.map_some, Nat.reduceEqDiff, Nat.reduceAdd, Nat.reduceLeDiff, Nat.reduceMul, Nat.zero_add, ↓reduceIte, reduceCtorEq, decide_false, List.flatten_cons, List.flatten_nil, List.replicate_succ, List.replicate_zero, Nat.le_refl, *, hr.len]))
    · intro h3' ht
      rw [Hback.out] at ht
      have e : h3' = hh := by
        rcases ht with rfl | ⟨rfl, _⟩
        · rfl
        · rw [List.take_length]
      exact .inr ⟨by omega, by rw [e]; exact Hs.out⟩
    · refine wx_app2 (sz := 5) (bytes := 56) (o2.app _) (p2.app' _) (Nat.le_succ _) (by simp; omega) (fun hn => by have := hkey hn; exact ⟨by omega, by omega⟩) (nilJ ⟨i, x, x, t.C, []⟩) ?_ rfl (by decide) (by decide) (by omega) ?_
      · simp -dsimp (disch := omega) only [geta0, cellsOf_some, cellO_cells, List.length_cons, List.length_nil, List.getElem?_cons_zero, List.drop_zero, List.take_succ_cons, List.take_zero, Nat.reduceAdd, Nat.reduceMul, Nat.zero_add, ↓reduceIte, Nat.le_refl]
        rfl
      · intro v2 h2' k1 k2 k3 k4 k5
        rw [List.length_append, List.length_singleton] at k3 k4 k5
        have hk : ∀ b, b < G.length → b ≠ blk v ∨ A = [] → h2'[b]? = G[b]? := fun b hb hn => by
          rw [k5 b (by omega) (fun hne => by rcases hn with hn | hn; exact hn; subst hn; simp at hne), List.getElem?_append_left hb]
        have hne : ∀ b, b ≤ h0.length ∨ (B ≤ b ∧ b ≤ L) → b ≠ blk v ∨ A = [] := fun b hb => by
          by_cases hA0 : A = []
          · exact .inr hA0
          · refine .inl fun e => ?_
            have := hkey (by simpa using hA0)
            omega
        have m1 : h2'[h0.length]? = some (.cells [v] false) := (hk _ (by omega) (hne _ (by omega))).trans o1
        have m2 := (hk B (by omega) (hne _ (by omega))).trans b0
        have m3 := (hk (B + 1) (by omega) (hne _ (by omega))).trans b1
        have m4 := (hk bx (by omega) (hne _ (by omega))).trans b2
        have m5 := (hk by' (by omega) (hne _ (by omega))).trans b3
        have m6 := (hk L (by omega) (hne _ (by omega))).trans b4
        have ov2 := k1.rd.one
        have cv2 := k1.rd.cv
        have K1 := Hid.mk k1
        have K3 := Hid.mk k3
        have K2 := Hid.mk k2
        clear k1 k2 k3 k5 hk hne hkey o1 o2 o3 b0 b1 b2 b3 b4
        (repeat' (first | ((with_reducible refine WG_dec (fun _ => ?_) (fun _ => ?_)) <;> try (exfalso; omega)) | ((with_reducible refine WG_decF (fun _ => ?_) (fun _ => ?_)) <;> try (exfalso; omega)) | ((with_reducible refine WC_dec (fun _ => ?_) (fun _ => ?_)) <;> try (exfalso; omega)) | refine WC_bool (fun _ => ?_) (fun _ => ?_) | refine WG_bool (fun _ => ?_) (fun _ => ?_) | refine WG_boolF (fun _ => ?_) (fun _ => ?_) | simp -dsimp (disch := omega) only [↓run_nil, ↓run_k, ↓op_st, WF_eq, WH_some1, ↓ev_t, ↓upd_at, ↓get_cons, ↓frm_nil, setCells_nil, setCells_cons, store_ptr, stO_cells, eq_self, List.length_cons, List.length_nil, List.all_cons, List.all_nil, Bool.and_self, true_and, and_self, List.set_cons_zero, Nat.reduceEqDiff, Nat.zero_add, ↓reduceIte, reduceCtorEq, Nat.le_refl, *]))
        have s3 : St17 h0 B L bx by' i t p lb (A ++ [⟨i, x, x, t.C, []⟩]) (h2'.set h0.length (.cells [v2] false)) := by
          refine ⟨fun y o hy => ?_, by rw [List.length_set]; omega, by rw [gets (by omega)]; exact m2, by rw [gets (by omega)]; exact m3, by rw [gets (by omega)]; exact m4, by rw [gets (by omega)]; exact m5, ?_, v2, gset (by omega), ?_, fun _ => .inr (by have := K3.out; omega)⟩
          · have := (List.getElem?_eq_some_iff.1 hy).1
            rw [gets (by omega)]; exact K2.out y o hy
          · rw [gets (by omega)]; exact m6
          · have := K1.out
            rw [show (A ++ [(⟨i, x, x, t.C, []⟩ : Job)]).map nilJ = A.map nilJ ++ [nilJ ⟨i, x, x, t.C, []⟩] by simp]
            exact this.keep fun _ => gets (by have := K3.out; omega)
        refine ⟨by omega, fun h3' ht => ?_⟩
        have s4 := s3.setL hm h1 h2 h3 h4 lo
        obtain ⟨w, w1, w2, w3⟩ := s4.out
        have hw2 : w = v2 := by
          have e1 : ((h2'.set h0.length (.cells [v2] false)).set L lo)[h0.length]? = some (.cells [v2] false) := by rw [gets (by omega), gset (by omega)]
          rw [w1] at e1
          cases e1; rfl
        subst hw2
        have e := tr_grow w1 w2 (by simp) (by have := K3.out; have := Hgl.out; omega) (by have := Hgl.out; omega) Hov1.out Hvlt.out ht
        exact .inl ⟨by omega, by rw [e]; exact s4⟩
  · rintro v h' ⟨e, h3', (⟨a1, rfl, a3⟩ | ⟨a1, rfl, a3⟩), rfl, rfl⟩
    · exact .inl ⟨rfl, a1, a3⟩
    · exact .inr ⟨rfl, a1, a3.setL hm h1 h2 h3 h4 _⟩
def OutF (m : Nat) (A : List Job) (hh : Heap) : Prop := ∃ v, hh[m]? = some (.cells [v] false) ∧ OwnT (m + 1) 5 (encN hdJ) hh v (A.map nilJ)
theorem tick_at {T p : Int} {k : Nat} {a : List Value} (h : (tickV T p)[k]? = some a) : k < manyP T p ∧ a = [.int .i64 ((k : Int) * T)] := by
  have h1 := (List.getElem?_eq_some_iff.1 h).1
  rw [show (tickV T p).length = manyP T p by simp [tickV]] at h1
  refine ⟨h1, ?_⟩
  unfold tickV at h
  rw [List.getElem?_map, List.getElem?_range h1] at h
  exact (Option.some.inj h).symm
/-- What is left of the loop's heap. -/
theorem St17.fin {h0 : Heap} {B L bx by' i : Nat} {t : Task} {p : Int} {lo : LObj} {A : List Job} {hh : Heap} (s : St17 h0 B L bx by' i t p lo A hh) (hm : h0.length < B) (h1 : B + 2 ≤ bx) (h2 : B + 2 ≤ by') (h3 : bx < L) (h4 : by' < L) {H h3' : Heap} (hH : H.length = L) {v0 : Value} (hc : H[h0.length]? = some (.cells [v0] false)) (hv0 : v0 ≠ .slice none 0 0 → blk v0 < B) (t' : Tr H (hh.set L .dead) h3') : Pre h0 h3' ∧ h0.length < h3'.length ∧ OutF h0.length A h3' := by
  have s2 := s.setL hm h1 h2 h3 h4 .dead
  obtain ⟨o, hk⟩ := s2.out.tr (by omega) (by omega) (by omega) hc hv0 t'
  obtain ⟨v, o1, o2, _⟩ := o
  refine ⟨fun x y hx => ?_, (List.getElem?_eq_some_iff.1 o1).1, v, o1, o2⟩
  have := (List.getElem?_eq_some_iff.1 hx).1
  rw [hk x (by omega)]; exact s2.pre x y hx
theorem jobs_l2 (hE : Laid E) {W : Nat → Prop} {h0 : Heap} (hW : ∀ b, h0.length ≤ b → W b) {vl : Value} {l : List Task} (hl : Rd 7 encT h0 vl l) (hoks : ∀ t ∈ l, okTask t) {p : Int} (hp0 : 0 < p) (hp1 : p ≤ 4611686018427387904) {Q : Ex → Fr → Heap → Prop} {fr : Fr}
    (g9 : get fr 9 = .int .u64 p) (g11 : get fr 11 = .pointer (some ⟨h0.length, 0, none⟩)) (g34 : get fr 34 = vl) (g35 : get fr 35 = .int .i64 l.length) (g36 : get fr 36 = .int .i64 0)
    (hq : ∀ fr' h' A, get fr' 9 = .int .u64 p → get fr' 11 = .pointer (some ⟨h0.length, 0, none⟩) → Pre h0 h' → OutF h0.length A h' → ((4096 < A.length ∧ 4096 < (allH l p l.length).length) ∨ A = allH l p l.length) → A.length ≤ 4097 → Q (.exit 0) fr' h') :
    WO W (iterW (code (callW E) iterW 64 c_hyper_Jobs_l2) fr (h0 ++ [.cells [.slice none 0 0] false])) Q := by
  have few := hl.few
  refine WO.loop (fun (i : Nat) fr h' => Pre h0 h' ∧ h0.length < h'.length ∧ i ≤ l.length ∧ get fr 9 = .int .u64 p ∧ get fr 11 = .pointer (some ⟨h0.length, 0, none⟩) ∧ get fr 34 = vl ∧ get fr 35 = .int .i64 l.length ∧ get fr 36 = .int .i64 i ∧ OutF h0.length (allH l p i) h' ∧ (allH l p i).length ≤ 4097) (fun i => l.length - i) ?_ 0 ⟨Pre.app h0 _, by simp, Nat.zero_le _, g9, g11, g34, g35, g36, ⟨_, by rw [geta0]; rfl, OwnT.nil⟩, by simp [allH]⟩
  rintro i fr h' ⟨hp, hlen, hi, g9, g11, g34, g35, g36, ⟨v0, hc, ho⟩, hA⟩
  have hl' := hl.pre hp
  unfold c_hyper_Jobs_l2
  rcases Nat.lt_or_ge i l.length with hlt | hge
  · have hmem := atI_mem (l := l) (i := (i : Int)) (by omega) (by omega)
    have htk := hoks _ hmem
    have hrg := htk.1
    simp only [rangesB] at hrg
    have tC := hrg.2.2.1
    have tT := hrg.2.2.2.1
    have Hq := Hid.mk hq
    have Htk := Hid.mk htk
    clear hq htk hrg hmem hoks
    have hv0 : v0 ≠ .slice none 0 0 → blk v0 < h'.length := fun hn => ho.lt (ho.ne hn)
    (repeat' (first | ((with_reducible refine WG_dec (fun _ => ?_) (fun _ => ?_)) <;> try (exfalso; omega)) | ((with_reducible refine WG_decF (fun _ => ?_) (fun _ => ?_)) <;> try (exfalso; omega)) | ((with_reducible refine WC_dec (fun _ => ?_) (fun _ => ?_)) <;> try (exfalso; omega)) | refine WC_bool (fun _ => ?_) (fun _ => ?_) | refine WG_bool (fun _ => ?_) (fun _ => ?_) | refine WG_boolF (fun _ => ?_) (fun _ => ?_) | simp -dsimp (disch := omega) only [↓run_nil, ↓run_i, ↓run_k, ↓op_st, ↓op_call, ↓co_seq, ↓co_skip, ↓co_reg, ↓co_cond, ↓co_block, ↓op_mov, ↓op_bin, ↓op_fld, ↓op_ixs, ↓op_ld, ↓op_all, WF_eq, W1_some, WH_some1, ↓ev_t, ↓ev_f, ↓upd_at, ↓get_cons, ↓frm_nil, ↓frm_cons, bin_lss, cellsV_int, cellsV_agg, one_int, one_str, setCells_nil, setCells_cons, load_ptr, ldO_cells, part_none, store_ptr, stO_cells, fld_ptr, geta, geta0, seta, seta0, newCells, eq_self, List.map_cons, List.map_nil, List.length_append, List.length_cons, List.length_nil, List.all_cons, List.all_nil, Bool.and_self, true_and, and_self, List.getElem?_cons_zero, List.getElem?_cons_succ, List.set_cons_zero, List.set_cons_succ, List.append_assoc, List.cons_append, List.nil_append, Nat.reduceEqDiff, Nat.reduceAdd, Nat.zero_add, ↓reduceIte, Nat.le_refl, *, hl'.ixs, hl'.lda, encT]))
    change WX _ (callW _ _ _ (h' ++ [LObj.cells [.int .i64 (i : Int)] false, LObj.cells (encT (atI l (i : Int))) false])) _
    have P1 := hp.trans (Pre.app h' [LObj.cells [.int .i64 (i : Int)] false, LObj.cells (encT (atI l (i : Int))) false])
    have b0 : (h' ++ [LObj.cells [.int .i64 (i : Int)] false, LObj.cells (encT (atI l (i : Int))) false])[h'.length]? = some (.cells [.int .i64 (i : Int)] false) := by rw [geta0]; rfl
    have b1 : (h' ++ [LObj.cells [.int .i64 (i : Int)] false, LObj.cells (encT (atI l (i : Int))) false])[h'.length + 1]? = some (.cells (encT (atI l (i : Int))) false) := by rw [geta]; rfl
    have bc : (h' ++ [LObj.cells [.int .i64 (i : Int)] false, LObj.cells (encT (atI l (i : Int))) false])[h0.length]? = some (.cells [v0] false) := by rw [List.getElem?_append_left hlen]; exact hc
    have ho1 := ho.app [LObj.cells [.int .i64 (i : Int)] false, LObj.cells (encT (atI l (i : Int))) false]
    have hGl : (h' ++ [LObj.cells [.int .i64 (i : Int)] false, LObj.cells (encT (atI l (i : Int))) false]).length = h'.length + 2 := by simp
    generalize (h' ++ [LObj.cells [.int .i64 (i : Int)] false, LObj.cells (encT (atI l (i : Int))) false]) = G at *
    refine wx_new (ticksS hE _ (atI l (i : Int)).T p) fun vt ys rt pt => ?_
    have P2 := P1.trans pt
    have c0 := pt _ _ b0
    have c1 := pt _ _ b1
    have cc := pt _ _ bc
    obtain ⟨bx, by', u1, u2, rfl, ⟨hx1, hx2⟩, ⟨hx3, hx4⟩, rfl, rfl⟩ := rt
    have ho2 := ho1.pre pt
    have hHlen := pt.le
    generalize G ++ ys = H at *
    clear b0 b1 bc pt P1 ho1
    have hbx := (List.getElem?_eq_some_iff.1 hx3).1
    have hby := (List.getElem?_eq_some_iff.1 hx4).1
    (repeat' (first | ((with_reducible refine WG_dec (fun _ => ?_) (fun _ => ?_)) <;> try (exfalso; omega)) | ((with_reducible refine WG_decF (fun _ => ?_) (fun _ => ?_)) <;> try (exfalso; omega)) | ((with_reducible refine WC_dec (fun _ => ?_) (fun _ => ?_)) <;> try (exfalso; omega)) | refine WC_bool (fun _ => ?_) (fun _ => ?_) | refine WG_bool (fun _ => ?_) (fun _ => ?_) | refine WG_boolF (fun _ => ?_) (fun _ => ?_) | simp -dsimp (disch := omega) only [↓run_nil, ↓co_block, WF_eq, ↓upd_at, ↓get_cons, ↓frm_nil, ↓frm_cons, eq_self, Nat.reduceEqDiff, ↓reduceIte, *]))
    have hvB : v0 ≠ .slice none 0 0 → blk v0 < h'.length := hv0
    have hcl : ∀ x, (H ++ x)[h0.length]? = some (.cells [v0] false) := fun x => by rw [List.getElem?_append_left (by omega)]; exact cc
    refine co_rngT hE.keep (W' := fun b => h0.length ≤ b) rfl (fun x hx _ => hW x hx) ?_
    generalize hfr : ([(9, Value.int .u64 p), _, _, _, _, _, _, _] : Fr) = frL
    have f11 : get frL 11 = .pointer (some ⟨h0.length, 0, none⟩) := by rw [← hfr]; rfl
    have f12 : get frL 12 = .pointer (some ⟨h'.length, 0, none⟩) := by rw [← hfr]; rfl
    have f13 : get frL 13 = .pointer (some ⟨h'.length + 1, 0, none⟩) := by rw [← hfr]; rfl
    have Hfr := Hid.mk hfr
    clear hfr
    refine WX.mono (ticks_iter hE tT.1 tT.2 (by omega) hp1 bx by' (H ++ [_]) H.length (fun b => h0.length ≤ b)
      (fun k hh => (allH l p i ++ rowH i (atI l (i : Int)) k).length ≤ 4097 ∧ St17 h0 h'.length H.length bx by' i (atI l (i : Int)) p (.loop { state := .ready, pending := none, fr := frL, sz := 64, params := [45], assign := c_hyper_Jobs_l0, body := c_hyper_Jobs_l1 }) (allH l p i ++ rowH i (atI l (i : Int)) k) hh)
      (fun hh => ∃ k, k < manyP (atI l (i : Int)).T p ∧ (allH l p i ++ rowH i (atI l (i : Int)) k).length = 4097 ∧ St17 h0 h'.length H.length bx by' i (atI l (i : Int)) p (.loop { state := .done, pending := some (some 0), fr := frL, sz := 64, params := [45], assign := c_hyper_Jobs_l0, body := c_hyper_Jobs_l1 }) (allH l p i ++ rowH i (atI l (i : Int)) k) hh)
      (fun k hh hj => ⟨hj.2.b2, hj.2.b3⟩) ⟨by simpa [rowH] using hA, ?_⟩ (fun k hh h3 hj ht => ⟨hj.1, hj.2.tr hlen (by omega) (by omega) hbx hby (by simp) (hcl _) hvB ht⟩) (fun hh h3 hs ht => ?_) ?_) (fun b hb => hb) ?_
    · have e : allH l p i ++ rowH i (atI l (i : Int)) 0 = allH l p i := by simp [rowH]
      rw [e]
      refine ⟨P2.app' _, by simp, ?_, ?_, ?_, ?_, by rw [geta0]; rfl, v0, hcl _, ho2.app _, fun hn => .inl (hv0 fun e => hn (by rw [e] at ho2; simpa using own_nil ho2))⟩
      all_goals rw [List.getElem?_append_left (by omega)]
      · exact c0
      · exact c1
      · exact hx3
      · exact hx4
    · obtain ⟨k, k1, k2, k3⟩ := hs
      exact ⟨k, k1, k2, k3.tr hlen (by omega) (by omega) hbx hby (by simp) (hcl _) hvB ht⟩
    · rintro k hh a ha ⟨j1, j2⟩
      obtain ⟨hk, rfl⟩ := tick_at ha
      refine WX.mono (jobs_round hE hlen (by omega) (by omega) hbx hby f11 f12 f13 j1 j2 _) (fun b hb => hb) ?_
      rintro v hh2 (⟨rfl, q1, q2⟩ | ⟨rfl, q1, q2⟩)
      · refine .inl ⟨rfl, ?_, ?_⟩
        · rw [rowH_succ, ← List.append_assoc, List.length_append]; simp; simpa using q1
        · rw [rowH_succ, ← List.append_assoc]; exact q2
      · exact .inr ⟨rfl, k, hk, q1, q2⟩
    · rintro v hh (⟨j1, j2⟩ | ⟨k, k1, k2, k3⟩)
      · refine ⟨_, j2.b4, (fun e => by cases e), fun h3 ht => ?_⟩
        obtain ⟨e1, e2, e3⟩ := j2.fin hlen (by omega) (by omega) hbx hby rfl cc hvB ht
        rw [show (tickV (atI l (i : Int)).T p).length = manyP (atI l (i : Int)).T p by simp [tickV]] at e3 j1
        have E3 := Hid.mk e3
        have J1 := Hid.mk j1
        clear e3 j1 j2 ht
        rw [← Hfr.out]
        dsimp only
        (repeat' (first | ((with_reducible refine WG_dec (fun _ => ?_) (fun _ => ?_)) <;> try (exfalso; omega)) | ((with_reducible refine WG_decF (fun _ => ?_) (fun _ => ?_)) <;> try (exfalso; omega)) | ((with_reducible refine WC_dec (fun _ => ?_) (fun _ => ?_)) <;> try (exfalso; omega)) | refine WC_bool (fun _ => ?_) (fun _ => ?_) | refine WG_bool (fun _ => ?_) (fun _ => ?_) | refine WG_boolF (fun _ => ?_) (fun _ => ?_) | simp -dsimp (disch := omega) only [↓run_nil, ↓run_i, ↓co_reg, ↓op_mov, ↓op_bin, WF_eq, W1_some, ↓ev_t, ↓ev_c, ↓upd_at, ↓get_cons, ↓frm_nil, ↓frm_cons, bin_add, wrap_i64, eq_self, Nat.reduceEqDiff, ↓reduceIte, *]))
        exact Next.mk (i + 1) ⟨e1, e2, by omega, rfl, rfl, rfl, rfl, rfl, E3.out, J1.out⟩ (by omega)
      · refine ⟨_, k3.b4, (fun e => by cases e), fun h3 ht => ?_⟩
        obtain ⟨e1, e2, e3⟩ := k3.fin hlen (by omega) (by omega) hbx hby rfl cc hvB ht
        have htot : 4096 < (allH l p l.length).length := by
          have m1 := allH_mono (l := l) (p := p) (i := i + 1) (j := l.length) (by omega)
          have m2 : (allH l p (i + 1)).length = (allH l p i).length + manyP (atI l (i : Int)).T p := by
            show (allH l p i ++ rowH i _ _).length = _
            rw [List.length_append, rowH_len]
          rw [List.length_append, rowH_len] at k2
          omega
        have E3 := Hid.mk e3
        have K2 := Hid.mk k2
        clear e3 k2 k3 ht
        rw [← Hfr.out]
        dsimp only
        (repeat' (first | ((with_reducible refine WG_dec (fun _ => ?_) (fun _ => ?_)) <;> try (exfalso; omega)) | ((with_reducible refine WG_decF (fun _ => ?_) (fun _ => ?_)) <;> try (exfalso; omega)) | ((with_reducible refine WC_dec (fun _ => ?_) (fun _ => ?_)) <;> try (exfalso; omega)) | refine WC_bool (fun _ => ?_) (fun _ => ?_) | refine WG_bool (fun _ => ?_) (fun _ => ?_) | refine WG_boolF (fun _ => ?_) (fun _ => ?_) | simp -dsimp (disch := omega) only [↓reduceIte, reduceCtorEq, *]))
        exact Hq.out _ _ _ rfl rfl e1 E3.out (.inl ⟨by rw [K2.out]; decide, htot⟩) (by rw [K2.out]; decide)
  · have e : i = l.length := by omega
    subst e
    have Hq := Hid.mk hq
    have Ho := Hid.mk ho
    clear hq ho
    (repeat' (first | ((with_reducible refine WG_dec (fun _ => ?_) (fun _ => ?_)) <;> try (exfalso; omega)) | ((with_reducible refine WG_decF (fun _ => ?_) (fun _ => ?_)) <;> try (exfalso; omega)) | ((with_reducible refine WC_dec (fun _ => ?_) (fun _ => ?_)) <;> try (exfalso; omega)) | refine WC_bool (fun _ => ?_) (fun _ => ?_) | refine WG_bool (fun _ => ?_) (fun _ => ?_) | refine WG_boolF (fun _ => ?_) (fun _ => ?_) | simp -dsimp (disch := omega) only [↓run_nil, ↓run_i, ↓co_seq, ↓co_exit, ↓co_reg, ↓co_cond, ↓op_bin, WF_eq, W1_some, ↓ev_t, ↓upd_at, ↓get_cons, ↓frm_nil, ↓frm_cons, bin_lss, eq_self, Nat.reduceEqDiff, ↓reduceIte, decide_false, *]))
    exact Hq.out _ _ _ rfl rfl hp ⟨v0, hc, Ho.out⟩ (.inr rfl) hA
theorem allH_cuts {l : List Task} {p : Int} : ∀ {i : Nat} {x : Job}, x ∈ allH l p i → x.cuts = []
  | 0, x, h => by simp [allH] at h
  | i + 1, x, h => by
    rcases List.mem_append.1 h with h | h
    · exact allH_cuts h
    · obtain ⟨k, _, rfl⟩ := List.mem_map.1 h; rfl
theorem jobsS (hE : Laid E) {h : Heap} {vl : Value} {l : List Task} (hl : Rd 7 encT h vl l) (hs : ∀ t ∈ l, t.name.size < 1152921504606846976) {cap : Int} (hcap : u64in cap) (hper : ∀ p, periodP l = some p → 0 < p ∧ p ≤ 4611686018427387904) :
    ∃ v ys, callW E (.func (.func n_hyper_Jobs) #[] #[]) [vl, .int .u64 cap] h = some (v, h ++ ys, []) ∧ JobsR h.length (jobsH l cap) (h ++ ys) v := by
  refine fn_new hE.hyper_Jobs rfl (JobsR.movable _) (by simp) ?_
  have hca := checkAllS hE hl hs
  have few := hl.few
  unfold u64in at hcap
  have nilR : ∀ hh, RdNO h.length 5 hdJ Job.cuts hh (.slice none 0 0) [] := fun hh => ⟨[], rfl, OwnT.nil.rdO, by simp⟩
  have err : ∀ (n : Int) ys, (∃ zs, h ++ ys = h ++ zs) ∧ JobsR h.length ([], 0, n) (h ++ ys) (.tuple #[.slice none 0 0, .int .u64 0, .int .i64 n]) := fun n ys => ⟨⟨_, rfl⟩, _, rfl, .cons (nilR _) (.cons rfl (.cons rfl .nil))⟩
  simp only [argsF]
  by_cases hok : (checkAllP l).2 = 0
  · obtain ⟨hl0, hl1, hoks⟩ := checkAll_ok hok
    have hp := loadPeriod hE hl (fun t ht => by have := (hoks t ht).1; simp only [rangesB] at this; omega)
    have hd : jobsH l cap = match periodP l with
      | none => ([], 0, 15)
      | some p => if cap < p then ([], 0, 15) else if 4096 < (allH l p l.length).length then ([], 0, 15) else (allH l p l.length, p, 0) := if_neg (fun h => h hok)
    rw [hd]
    cases hpp : periodP l with
    | none =>
      rw [hpp, show perV none = .tuple #[.int .u64 0, .bool false] from rfl] at hp
      have Err := Hid.mk err
      clear err
      dsimp only
      (repeat' (first | ((with_reducible refine WG_dec (fun _ => ?_) (fun _ => ?_)) <;> try (exfalso; omega)) | ((with_reducible refine WG_decF (fun _ => ?_) (fun _ => ?_)) <;> try (exfalso; omega)) | ((with_reducible refine WC_dec (fun _ => ?_) (fun _ => ?_)) <;> try (exfalso; omega)) | refine WC_bool (fun _ => ?_) (fun _ => ?_) | refine WG_bool (fun _ => ?_) (fun _ => ?_) | refine WG_boolF (fun _ => ?_) (fun _ => ?_) | simp -dsimp (disch := omega) only [↓run_nil, ↓run_i, ↓run_w, ↓op_call, ↓co_seq, ↓co_skip, ↓co_ret, ↓co_reg, ↓co_cond, ↓op_mov, ↓op_pick, ↓op_bin, ↓op_un, ↓op_ext, Res_ret, resL_nil, resL_t, resV_two, WF_eq, W1_some, WX_some, WC_true, WC_false, WG_tf, ↓ev_t, ↓ev_c, ↓ev_f, ↓upd_at, ↓get_cons, ↓frm_nil, ↓frm_cons, bin_neq, un_not, pick_t, ext_tuple, nt_int, nt_bool, eq_self, Bool.not_false, List.map_cons, List.map_nil, List.getElem?_cons_zero, List.getElem?_cons_succ, Option.map_some, Nat.reduceEqDiff, Nat.zero_add, ↓reduceIte, reduceCtorEq, decide_false, not_true_eq_false, *]))
      exact (by simpa using Err.out 15 [])
    | some p =>
      rw [hpp, show perV (some p) = .tuple #[.int .u64 p, .bool true] from rfl] at hp
      obtain ⟨hp0, hp1⟩ := hper p hpp
      dsimp only
      by_cases hcp : cap < p
      · rw [if_pos hcp]
        have Err := Hid.mk err
        clear err
        (repeat' (first | ((with_reducible refine WG_dec (fun _ => ?_) (fun _ => ?_)) <;> try (exfalso; omega)) | ((with_reducible refine WG_decF (fun _ => ?_) (fun _ => ?_)) <;> try (exfalso; omega)) | ((with_reducible refine WC_dec (fun _ => ?_) (fun _ => ?_)) <;> try (exfalso; omega)) | refine WC_bool (fun _ => ?_) (fun _ => ?_) | refine WG_bool (fun _ => ?_) (fun _ => ?_) | refine WG_boolF (fun _ => ?_) (fun _ => ?_) | simp -dsimp (disch := omega) only [↓run_nil, ↓run_i, ↓run_w, ↓op_call, ↓co_seq, ↓co_skip, ↓co_ret, ↓co_reg, ↓co_cond, ↓op_mov, ↓op_pick, ↓op_bin, ↓op_un, ↓op_ext, Res_ret, resL_nil, resL_t, resV_two, WF_eq, W1_some, WX_some, WC_true, WC_false, WG_false, ↓ev_t, ↓ev_c, ↓ev_f, ↓upd_at, ↓get_cons, ↓frm_nil, ↓frm_cons, bin_neq, bin_gtr, un_not, pick_f, ext_tuple, nt_int, nt_bool, eq_self, Bool.not_true, List.map_cons, List.map_nil, List.getElem?_cons_zero, List.getElem?_cons_succ, Option.map_some, Nat.reduceEqDiff, Nat.zero_add, ↓reduceIte, reduceCtorEq, decide_true, decide_false, not_true_eq_false, *]))
        exact (by simpa using Err.out 15 [])
      · rw [if_neg hcp]
        have Err := Hid.mk err
        clear err hper hd hpp
        (repeat' (first | ((with_reducible refine WG_dec (fun _ => ?_) (fun _ => ?_)) <;> try (exfalso; omega)) | ((with_reducible refine WG_decF (fun _ => ?_) (fun _ => ?_)) <;> try (exfalso; omega)) | ((with_reducible refine WC_dec (fun _ => ?_) (fun _ => ?_)) <;> try (exfalso; omega)) | refine WC_bool (fun _ => ?_) (fun _ => ?_) | refine WG_bool (fun _ => ?_) (fun _ => ?_) | refine WG_boolF (fun _ => ?_) (fun _ => ?_) | simp -dsimp (disch := omega) only [↓run_nil, ↓run_i, ↓run_w, ↓op_call, ↓co_seq, ↓co_skip, ↓co_reg, ↓co_cond, ↓co_block, ↓co_loop, ↓op_mov, ↓op_pick, ↓op_bin, ↓op_un, ↓op_ext, ↓op_lens, ↓op_all, WF_eq, W1_some, WX_some, WC_false, WG_false, ↓ev_t, ↓ev_c, ↓ev_f, ↓upd_at, ↓get_cons, ↓frm_nil, ↓frm_cons, bin_neq, bin_gtr, un_not, pick_f, one_slice, ext_tuple, nt_int, nt_bool, newCells, eq_self, Bool.not_true, List.map_cons, List.map_nil, List.all_cons, List.all_nil, Bool.and_self, List.getElem?_cons_zero, List.getElem?_cons_succ, Nat.reduceEqDiff, Nat.zero_add, ↓reduceIte, reduceCtorEq, decide_false, not_true_eq_false, *, hl.len]))
        refine jobs_l2 hE (fun b hb => hb) hl hoks hp0 hp1 rfl rfl rfl rfl rfl fun fr' h' A q9 q11 qp ⟨v, qc, qo⟩ qA qn => ?_
        have hrd := qo.rd
        have fewA := hrd.few
        have hlA : (A.map nilJ).length = A.length := List.length_map ..
        have Qp := Hid.mk qp
        have QA := Hid.mk qA
        have Qo := Hid.mk qo
        clear hca hp qp qA qo
        by_cases hA : 4096 < A.length
        · have htot : 4096 < (allH l p l.length).length := by
            rcases QA.out with h1 | h1
            · exact h1.2
            · rw [← h1]; exact hA
          rw [if_pos htot]
          (repeat' (first | ((with_reducible refine WG_dec (fun _ => ?_) (fun _ => ?_)) <;> try (exfalso; omega)) | ((with_reducible refine WG_decF (fun _ => ?_) (fun _ => ?_)) <;> try (exfalso; omega)) | ((with_reducible refine WC_dec (fun _ => ?_) (fun _ => ?_)) <;> try (exfalso; omega)) | refine WC_bool (fun _ => ?_) (fun _ => ?_) | refine WG_bool (fun _ => ?_) (fun _ => ?_) | refine WG_boolF (fun _ => ?_) (fun _ => ?_) | simp -dsimp (disch := omega) only [↓run_nil, ↓run_i, ↓co_seq, ↓co_ret, ↓co_reg, ↓co_cond, ↓op_mov, ↓op_bin, ↓op_lens, ↓op_ld, Res_ret, resL_nil, resL_t, resV_two, WF_eq, W1_some, ↓ev_t, ↓ev_c, ↓upd_at, ↓get_cons, ↓frm_nil, ↓frm_cons, bin_gtr, load_ptr, ldO_cells, part_none, eq_self, List.getElem?_cons_zero, Option.map_some, Nat.reduceEqDiff, ↓reduceIte, *, hrd.len]))
          exact ⟨Qp.out.ex, _, rfl, .cons (nilR _) (.cons rfl (.cons rfl .nil))⟩
        · have hAe : A = allH l p l.length := by
            rcases QA.out with h1 | h1
            · exact absurd h1.1 hA
            · exact h1
          subst hAe
          rw [if_neg hA]
          (repeat' (first | ((with_reducible refine WG_dec (fun _ => ?_) (fun _ => ?_)) <;> try (exfalso; omega)) | ((with_reducible refine WG_decF (fun _ => ?_) (fun _ => ?_)) <;> try (exfalso; omega)) | ((with_reducible refine WC_dec (fun _ => ?_) (fun _ => ?_)) <;> try (exfalso; omega)) | refine WC_bool (fun _ => ?_) (fun _ => ?_) | refine WG_bool (fun _ => ?_) (fun _ => ?_) | refine WG_boolF (fun _ => ?_) (fun _ => ?_) | simp -dsimp (disch := omega) only [↓run_nil, ↓run_i, ↓co_seq, ↓co_skip, ↓co_ret, ↓co_reg, ↓co_cond, ↓op_mov, ↓op_bin, ↓op_lens, ↓op_ld, Res_ret, resL_nil, resL_t, resV_two, WF_eq, W1_some, ↓ev_t, ↓ev_c, ↓upd_at, ↓get_cons, ↓frm_nil, ↓frm_cons, bin_gtr, load_ptr, ldO_cells, part_none, eq_self, List.getElem?_cons_zero, Option.map_some, Nat.reduceEqDiff, ↓reduceIte, *, hrd.len]))
          refine ⟨Qp.out.ex, _, rfl, .cons ⟨(allH l p l.length).map nilJ, ?_, (Qo.out.less (Nat.le_succ _)).rdO, fun q hq => ?_⟩ (.cons rfl (.cons rfl .nil))⟩
          · rw [List.map_map]; exact List.map_id _
          · obtain ⟨j, hj, rfl⟩ := List.mem_map.1 hq
            refine ⟨?_, fun hn => absurd rfl hn⟩
            rw [show (nilJ j).j.cuts = [] from allH_cuts hj]
            exact Rd.of_nil
  · have hd : jobsH l cap = ([], 0, 1) := if_pos hok
    rw [hd]
    have Err := Hid.mk err
    clear err
    have hok2 : (checkAllP l).2 ≠ 0 := hok
    (repeat' (first | ((with_reducible refine WG_dec (fun _ => ?_) (fun _ => ?_)) <;> try (exfalso; omega)) | ((with_reducible refine WG_decF (fun _ => ?_) (fun _ => ?_)) <;> try (exfalso; omega)) | ((with_reducible refine WC_dec (fun _ => ?_) (fun _ => ?_)) <;> try (exfalso; omega)) | refine WC_bool (fun _ => ?_) (fun _ => ?_) | refine WG_bool (fun _ => ?_) (fun _ => ?_) | refine WG_boolF (fun _ => ?_) (fun _ => ?_) | simp -dsimp (disch := omega) only [↓run_nil, ↓run_i, ↓op_call, ↓co_seq, ↓co_ret, ↓co_reg, ↓co_cond, ↓op_mov, ↓op_bin, ↓op_ext, Res_ret, resL_nil, resL_t, resV_two, WF_eq, W1_some, WX_some, WC_true, ↓ev_t, ↓ev_c, ↓ev_f, ↓upd_at, ↓get_cons, ↓frm_nil, ↓frm_cons, bin_neq, ext_tuple, nt_int, eq_self, List.map_cons, List.map_nil, List.getElem?_cons_zero, List.getElem?_cons_succ, Option.map_some, Nat.reduceEqDiff, Nat.zero_add, ↓reduceIte, reduceCtorEq, decide_true, not_false_eq_true, *]))
    exact (by simpa using Err.out 1 [])
end Go.L.Try

/- HyperMany: a period of too many jobs is refused. -/
set_option linter.unusedVariables false
set_option linter.unusedSimpArgs false
set_option maxRecDepth 100000
set_option maxHeartbeats 4000000
namespace Go.L.Try
open Go Go.L
variable {E : Env}
theorem rest17 (hE : Laid E) (h : Heap) (x n : Int) (hn : 0 < n) (hn' : n < 4611686018427387904) : callW E (.func (.func n_cadencylaw17_rest) #[] #[]) [.int .i64 x, .int .i64 n] h = some (.int .i64 (x % n), h, []) := by
  have hb := tmod_bounds x n hn
  refine fn_same hE.cadencylaw17_rest rfl (by simp) ?_
  simp -dsimp (disch := omega) only [↓run_nil, ↓run_i, ↓co_seq, ↓co_ret, ↓co_reg, ↓op_mov, ↓op_bin, Res_ret, resL_nil, resL_t, resV_one, nn4_int, WF_eq, W1_some, ↓ev_t, ↓ev_c, ↓upd_at, ↓get_cons, ↓frm_nil, ↓frm_cons, bin_add, wrap_i64, bin_rem, eq_self, true_and, Option.map_some, Nat.reduceEqDiff, Nat.zero_add, ↓reduceIte, reduceCtorEq, argsF, rest_eq x n hn]
def tA : Task := { name := ⟨#[97]⟩, C := 1, T := 1, D := 1, J := 0, Q := 1, P := 1 }
def tB (n : Int) : Task := { name := ⟨#[98]⟩, C := 1, T := n, D := n, J := 0, Q := 1, P := 2 }
theorem two_valid {n : Int} (h1 : 1 ≤ n) (h2 : n ≤ 5000) : validP [tA, tB n] := by
  rw [valid_iff]
  refine ⟨⟨by simp, by simp⟩, fun t ht => ?_, fun j k hjk hk => ?_⟩
  · simp only [List.mem_cons, List.not_mem_nil, or_false] at ht
    rcases ht with rfl | rfl
    · refine ⟨⟨by decide +kernel, by decide, ?_⟩, ?_⟩
      · simp only [tA]; omega
      · simp only [fitsB, tA]; omega
    · refine ⟨⟨by show wordB ⟨#[98]⟩ = true; decide +kernel, by show (ByteArray.size ⟨#[98]⟩) ≤ 32; decide, ?_⟩, ?_⟩
      · simp only [tB]; omega
      · simp only [fitsB, tB]; omega
  · have hj : j = 0 := by simp at hk; omega
    have hk : k = 1 := by simp at hk; omega
    subst hj hk
    exact ⟨by show bs ⟨#[97]⟩ ≠ bs ⟨#[98]⟩; decide, by show (1 : Int) ≠ 2; decide⟩
theorem two_period {n : Int} (h1 : 1 ≤ n) (h2 : n ≤ 5000) : periodP [tA, tB n] = some n := by
  have e1 : lcmI 1 1 = 1 := by simp [lcmI]
  have e2 : lcmI 1 n = n := by simp [lcmI]; omega
  unfold periodP
  rw [if_pos (by simp [tA, tB, h1])]
  simp only [lcmFold, tA, tB, e1, e2]
  rw [if_pos (by omega), if_pos (by omega)]
theorem two_len {n : Int} (h1 : 1 ≤ n) : ((allH [tA, tB n] n 2).length : Int) = n + 1 := by
  have m1 := many_dvd (T := 1) (p := n) (by decide) (by omega) (Int.one_dvd n)
  have m2 := many_dvd (T := n) (p := n) (by omega) (by omega) (Int.dvd_refl n)
  have m3 : (manyP n n : Int) = 1 := by
    have : (manyP n n : Int) * n = 1 * n := by rw [m2]; omega
    exact Int.eq_of_mul_eq_mul_right (by omega) this
  show (((([] ++ rowH 0 tA (manyP 1 n)) ++ rowH 1 (tB n) (manyP n n)).length : Nat) : Int) = n + 1
  rw [List.length_append, List.length_append, rowH_len, rowH_len]
  simp; omega
theorem two_jobs {n : Int} (h1 : 1 ≤ n) (h2 : n ≤ 5000) (cap : Int) : jobsH [tA, tB n] cap = if cap < n then ([], 0, 15) else if 4096 < n + 1 then ([], 0, 15) else (allH [tA, tB n] n 2, n, 0) := by
  unfold jobsH
  rw [if_neg (fun h => h (two_valid h1 h2)), two_period h1 h2]
  have e := two_len h1
  dsimp only
  by_cases hc : cap < n
  · rw [if_pos hc, if_pos hc]
  · rw [if_neg hc, if_neg hc, show [tA, tB n].length = 2 from rfl]
    by_cases hd : 4096 < n + 1
    · rw [if_pos (show 4096 < (allH [tA, tB n] n 2).length by omega), if_pos hd]
    · rw [if_neg (show ¬ 4096 < (allH [tA, tB n] n 2).length by omega), if_neg hd]
theorem JobsR.open {m : Nat} {r : List Job × Int × Int} {h : Heap} {v : Value} (j : JobsR m r h v) : ∃ v1, v = .tuple #[v1, .int .u64 r.2.1, .int .i64 r.2.2] ∧ RdNO m 5 hdJ Job.cuts h v1 r.1 := by
  obtain ⟨vs, rfl, hv⟩ := j
  rcases hv with _ | ⟨ra, _ | ⟨rb, _ | ⟨rc, _ | _⟩⟩⟩
  subst rb rc
  exact ⟨_, rfl, ra⟩
theorem rowNO {α : Type} {m sz : Nat} {hd : α → List Value} {cs : α → List Int} {h : Heap} {v : Value} {l : List α} (r : RdNO m sz hd cs h v l) : ∃ lv : List (NV α), lv.length = l.length ∧ Rd sz (encN hd) h v lv := by
  obtain ⟨lv, rfl, ho, _⟩ := r.is
  exact ⟨lv, by simp, ho.rd⟩
theorem hyperMany (hE : Laid E) (ha : ∀ h, callW E (.func (.func n_cadencylaw17_awake) #[] #[]) [] h = some (.bool true, h, [])) {h : Heap} {z : Int} (hz : i64in z) :
    callW E (.func (.func n_cadencylaw17_HyperMany) #[] #[]) [.int .i64 z] h = some (.bool true, h, []) := by
  refine fn_same hE.cadencylaw17_HyperMany rfl (by simp) ?_
  simp only [argsF]
  have hb := emod_in z 11 (by decide)
  have hrest := rest17 hE
  obtain ⟨n, hn⟩ : ∃ n, n = 4088 + z % 11 := ⟨_, rfl⟩
  have hr : callW E (.func (.func n_cadencylaw17_rest) #[] #[]) [.int .i64 z, .int .i64 11] h = some (.int .i64 (n - 4088), h, []) := by rw [hrest h z 11 (by decide) (by decide)]; congr 4; omega
  have n1 : 4088 ≤ n := by omega
  have n2 : n ≤ 4098 := by omega
  clear hrest hb hn
  have e0 : 4088 + (n - 4088) = n := by omega
  have e1 := two_period (n := n) (by omega) (by omega)
  have hj1 := two_jobs (n := n) (by omega) (by omega) 1099511627776
  have hj2 := two_jobs (n := n) (by omega) (by omega) (n - 1)
  have hlen := two_len (n := n) (by omega)
  rw [if_neg (by omega)] at hj1
  rw [if_pos (by omega)] at hj2
  have hnm : ∀ t ∈ [tA, tB n], t.name.size < 1152921504606846976 := fun t ht => by
    simp only [List.mem_cons, List.not_mem_nil, or_false] at ht
    rcases ht with rfl | rfl
    · decide
    · show ByteArray.size ⟨#[98]⟩ < 1152921504606846976; decide
  have hl : Rd 7 encT (h ++ [.cells (encT tA ++ encT (tB n)) false]) (.slice (some ⟨h.length, 0, none⟩) 2 2) [tA, tB n] := Rd.lit [tA, tB n] (by rw [geta0]; rfl) (by simp) (fun _ => rfl) (by simp) (by simp) (.inl rfl)
  have hper : ∀ p, periodP [tA, tB n] = some p → 0 < p ∧ p ≤ 4611686018427387904 := fun p hp => by rw [e1] at hp; cases hp; omega
  have E1 := Hid.mk e1
  have Hj1 := Hid.mk hj1
  have Hj2 := Hid.mk hj2
  have Hlen := Hid.mk hlen
  clear e1 hj1 hj2 hlen
  have P0 := Pre.app h [LObj.cells (encT tA ++ encT (tB n)) false]
  (repeat' (first | ((with_reducible refine WG_dec (fun _ => ?_) (fun _ => ?_)) <;> try (exfalso; omega)) | ((with_reducible refine WG_decF (fun _ => ?_) (fun _ => ?_)) <;> try (exfalso; omega)) | ((with_reducible refine WC_dec (fun _ => ?_) (fun _ => ?_)) <;> try (exfalso; omega)) | refine WC_bool (fun _ => ?_) (fun _ => ?_) | refine WG_bool (fun _ => ?_) (fun _ => ?_) | refine WG_boolF (fun _ => ?_) (fun _ => ?_) | simp -dsimp (disch := omega) only [↓run_nil, ↓run_i, ↓op_call, ↓co_seq, ↓co_reg, ↓op_mov, ↓op_bin, ↓op_bld, ↓op_bsl, WF_eq, W1_some, WX_some, ↓ev_t, ↓ev_c, ↓ev_f, ↓upd_at, ↓get_cons, ↓frm_nil, ↓frm_cons, bin_add, cellsV_int, cellsV_str, cellsV_agg, one_int, one_str, fillV_nil, fillV_cons, setCells_nil, setCells_cons, newCells, bslV, wrap_i64, eq_self, List.map_cons, List.map_nil, List.length_cons, List.length_nil, List.all_cons, List.all_nil, Bool.and_self, and_self, List.set_cons_zero, List.set_cons_succ, List.cons_append, List.nil_append, List.append_nil, Option.bind_some, Option.map_some, Nat.reduceEqDiff, Nat.reduceAdd, Nat.reduceLeDiff, Nat.reduceMul, Nat.zero_add, ↓reduceIte, reduceCtorEq, List.flatten_cons, List.flatten_nil, List.replicate_succ, List.replicate_zero, Nat.le_refl, *]))
  change WX _ (callW _ _ _ (h ++ [.cells (encT tA ++ encT (tB n)) false])) _
  generalize (h ++ [LObj.cells (encT tA ++ encT (tB n)) false]) = H at *
  refine wx_new (jobsS hE hl hnm (by unfold u64in; omega) hper) fun v1 ys r1 p1 => ?_
  have P1 := P0.trans p1
  have hl1 := hl.pre p1
  generalize H ++ ys = H1 at *
  rw [Hj1.out] at r1
  obtain ⟨w1, rfl, ro1⟩ := r1.open
  obtain ⟨lv, hlv, hrd⟩ := rowNO ro1
  have o1 := hrd.one
  have c1 := hrd.cv
  have few := hrd.few
  have nt1 : noTuple w1 = true := by
    obtain ⟨⟨a, b, c, rfl⟩, _⟩ := hrd.shape
    rfl
  by_cases hbig : 4096 < n + 1
  · rw [if_pos hbig] at ro1 hlv ⊢
    have hlv0 : lv.length = 0 := hlv
    clear hlv r1 p1 hl ro1
    (repeat' (first | ((with_reducible refine WG_dec (fun _ => ?_) (fun _ => ?_)) <;> try (exfalso; omega)) | ((with_reducible refine WG_decF (fun _ => ?_) (fun _ => ?_)) <;> try (exfalso; omega)) | ((with_reducible refine WC_dec (fun _ => ?_) (fun _ => ?_)) <;> try (exfalso; omega)) | refine WC_bool (fun _ => ?_) (fun _ => ?_) | refine WG_bool (fun _ => ?_) (fun _ => ?_) | refine WG_boolF (fun _ => ?_) (fun _ => ?_) | simp -dsimp (disch := omega) only [↓run_nil, ↓run_i, ↓op_call, ↓co_seq, ↓co_reg, ↓op_mov, ↓op_bin, ↓op_cvi, ↓op_ext, WF_eq, W1_some, ↓ev_t, ↓ev_c, ↓ev_f, ↓upd_at, ↓get_cons, ↓frm_nil, ↓frm_cons, bin_sub, cvi_int, ext_tuple, nt_int, wrap_u64, eq_self, List.map_cons, List.map_nil, List.getElem?_cons_zero, List.getElem?_cons_succ, Nat.reduceEqDiff, ↓reduceIte, *]))
    refine wx_new (jobsS hE hl1 hnm (cap := n - 1) (by unfold u64in; omega) hper) fun v2 ys r2 p2 => ?_
    rw [Hj2.out] at r2
    obtain ⟨w2, rfl, ro2⟩ := r2.open
    obtain ⟨lv2, _, hrd2⟩ := rowNO ro2
    have o2 := hrd2.one
    have c2 := hrd2.cv
    have nt2 : noTuple w2 = true := by
      obtain ⟨⟨a, b, c, rfl⟩, _⟩ := hrd2.shape
      rfl
    generalize _ ++ ys = H2 at *
    have hrd' := hrd.pre p2
    clear r2 p2 hrd ro2
    (repeat' (first | ((with_reducible refine WG_dec (fun _ => ?_) (fun _ => ?_)) <;> try (exfalso; omega)) | ((with_reducible refine WG_decF (fun _ => ?_) (fun _ => ?_)) <;> try (exfalso; omega)) | ((with_reducible refine WC_dec (fun _ => ?_) (fun _ => ?_)) <;> try (exfalso; omega)) | refine WC_bool (fun _ => ?_) (fun _ => ?_) | refine WG_bool (fun _ => ?_) (fun _ => ?_) | refine WG_boolF (fun _ => ?_) (fun _ => ?_) | simp -dsimp (disch := omega) only [↓run_nil, ↓run_i, ↓run_w, ↓co_seq, ↓co_ret, ↓co_reg, ↓co_cond, ↓op_mov, ↓op_pick, ↓op_bin, ↓op_ext, ↓op_lens, Res_ret, resL_nil, resL_t, resV_one, nn4_bool, WF_eq, W1_some, WC_true, WG_true, ↓ev_t, ↓ev_c, ↓upd_at, ↓get_cons, ↓frm_nil, ↓frm_cons, bin_add, bin_eql, bin_gtr, pick_t, ext_tuple, nt_int, wrap_i64, eq_self, true_and, List.getElem?_cons_zero, List.getElem?_cons_succ, Option.map_some, Nat.reduceEqDiff, ↓reduceIte, decide_true, *, hrd'.len]))
    all_goals first | rfl | skip
  · rw [if_neg hbig] at ro1 hlv ⊢
    have hlv0 : (lv.length : Int) = n + 1 := by rw [hlv]; exact Hlen.out
    clear hlv r1 p1 hl ro1
    (repeat' (first | ((with_reducible refine WG_dec (fun _ => ?_) (fun _ => ?_)) <;> try (exfalso; omega)) | ((with_reducible refine WG_decF (fun _ => ?_) (fun _ => ?_)) <;> try (exfalso; omega)) | ((with_reducible refine WC_dec (fun _ => ?_) (fun _ => ?_)) <;> try (exfalso; omega)) | refine WC_bool (fun _ => ?_) (fun _ => ?_) | refine WG_bool (fun _ => ?_) (fun _ => ?_) | refine WG_boolF (fun _ => ?_) (fun _ => ?_) | simp -dsimp (disch := omega) only [↓run_nil, ↓run_i, ↓op_call, ↓co_seq, ↓co_reg, ↓op_mov, ↓op_bin, ↓op_cvi, ↓op_ext, WF_eq, W1_some, ↓ev_t, ↓ev_c, ↓ev_f, ↓upd_at, ↓get_cons, ↓frm_nil, ↓frm_cons, bin_sub, cvi_int, ext_tuple, nt_int, wrap_u64, eq_self, List.map_cons, List.map_nil, List.getElem?_cons_zero, List.getElem?_cons_succ, Nat.reduceEqDiff, ↓reduceIte, *]))
    refine wx_new (jobsS hE hl1 hnm (cap := n - 1) (by unfold u64in; omega) hper) fun v2 ys r2 p2 => ?_
    rw [Hj2.out] at r2
    obtain ⟨w2, rfl, ro2⟩ := r2.open
    obtain ⟨lv2, _, hrd2⟩ := rowNO ro2
    have o2 := hrd2.one
    have c2 := hrd2.cv
    have nt2 : noTuple w2 = true := by
      obtain ⟨⟨a, b, c, rfl⟩, _⟩ := hrd2.shape
      rfl
    generalize _ ++ ys = H2 at *
    have hrd' := hrd.pre p2
    clear r2 p2 hrd ro2
    (repeat' (first | ((with_reducible refine WG_dec (fun _ => ?_) (fun _ => ?_)) <;> try (exfalso; omega)) | ((with_reducible refine WG_decF (fun _ => ?_) (fun _ => ?_)) <;> try (exfalso; omega)) | ((with_reducible refine WC_dec (fun _ => ?_) (fun _ => ?_)) <;> try (exfalso; omega)) | refine WC_bool (fun _ => ?_) (fun _ => ?_) | refine WG_bool (fun _ => ?_) (fun _ => ?_) | refine WG_boolF (fun _ => ?_) (fun _ => ?_) | simp -dsimp (disch := omega) only [↓run_nil, ↓run_i, ↓run_w, ↓co_seq, ↓co_skip, ↓co_ret, ↓co_reg, ↓co_cond, ↓op_mov, ↓op_pick, ↓op_bin, ↓op_cvi, ↓op_ext, ↓op_lens, Res_ret, resL_nil, resL_t, resV_one, nn4_bool, WF_eq, W1_some, WC_false, WG_true, ↓ev_t, ↓ev_c, ↓upd_at, ↓get_cons, ↓frm_nil, ↓frm_cons, bin_add, bin_eql, bin_gtr, cvi_int, pick_t, ext_tuple, nt_int, wrap_i64, wrap_u64, eq_self, true_and, List.getElem?_cons_zero, List.getElem?_cons_succ, Option.map_some, Nat.reduceEqDiff, ↓reduceIte, decide_true, decide_false, *, hrd'.len]))
    all_goals first | rfl | skip
end Go.L.Try
