/- OPA, PLAIN: all orders; an order by which all tasks have bounds; the search finds one just if there is one. -/
import Derived.Test.YtifnlcajancfdaaDoorPf
import Derived.Test.YtifnlcajancfdaaDoorPi
import Derived.Test.YtifnlcajancfdaaDoorVc
set_option linter.unusedVariables false
set_option maxRecDepth 100000
namespace Go.L.Try
open Go Go.L
def applyP (l : List Task) (p : List Nat) : List Task := l.mapIdx fun m t => { t with P := (p.idxOf m : Int) + 1 }
theorem applyP_len (l : List Task) (p : List Nat) : (applyP l p).length = l.length := by simp [applyP]
theorem applyP_at {l : List Task} {p : List Nat} {k : Nat} (hk : k < l.length) : atI (applyP l p) (k : Int) = { atI l (k : Int) with P := (p.idxOf k : Int) + 1 } := by
  rw [atI_nat (by rw [applyP_len]; exact hk), atI_nat hk]
  simp [applyP]
structure PermP (n : Nat) (p : List Nat) : Prop where
  len : p.length = n
  nd : p.Nodup
  lt : ∀ m ∈ p, m < n
theorem idx_ne {p : List Nat} {x a : Nat} (h : x ≠ a) : (x :: p).idxOf a = p.idxOf a + 1 := by rw [List.idxOf_cons, beq_false_of_ne h]; rfl
theorem idxOf_inj {p : List Nat} {a b : Nat} (ha : a ∈ p) (h : p.idxOf a = p.idxOf b) : a = b := by
  induction p with
  | nil => cases ha
  | cons x p ih =>
    by_cases e : x = a
    · subst e
      rw [List.idxOf_cons_self] at h
      by_cases e2 : x = b
      · exact e2
      · rw [idx_ne e2] at h; omega
    · have ha' : a ∈ p := by
        rcases List.mem_cons.1 ha with h1 | h1
        · exact absurd h1.symm e
        · exact h1
      rw [idx_ne e] at h
      by_cases e2 : x = b
      · subst e2; rw [List.idxOf_cons_self] at h; omega
      · rw [idx_ne e2] at h
        exact ih ha' (by omega)
theorem nodup_le : ∀ (p es : List Nat), p.Nodup → (∀ x ∈ p, x ∈ es) → p.length ≤ es.length
  | [], _, _, _ => Nat.zero_le _
  | i :: r, es, hd, hs => by
    have hi := hs i (by simp)
    have hl := List.length_erase_of_mem hi
    have h := nodup_le r (es.erase i) (List.nodup_cons.1 hd).2 fun x hx => (List.mem_erase_of_ne (fun e => (List.nodup_cons.1 hd).1 (by rw [← e]; exact hx))).2 (hs x (by simp [hx]))
    have := List.length_pos_of_mem hi
    simp only [List.length_cons]
    omega
theorem mem_of_perm {n : Nat} {p : List Nat} (h : PermP n p) : ∀ m, m < n → m ∈ p := by
  intro m hm
  refine Classical.byContradiction fun hn => ?_
  have h1 := nodup_le p ((List.range n).erase m) h.nd fun x hx => (List.mem_erase_of_ne (fun e => hn (by rw [← e]; exact hx))).2 (List.mem_range.2 (h.lt x hx))
  rw [List.length_erase_of_mem (List.mem_range.2 hm), List.length_range, h.len] at h1
  omega
theorem idxOf_app {a b : List Nat} {i m : Nat} (hd : (a ++ i :: b).Nodup) : ((a ++ i :: b).idxOf i = a.length) ∧ (m ≠ i → ((a ++ i :: b).idxOf m < a.length ↔ m ∈ a)) ∧ (m ≠ i → (a.length < (a ++ i :: b).idxOf m ↔ m ∉ a)) := by
  have hni : i ∉ a := fun h => by
    have := (List.nodup_append.1 hd).2.2 i h i (by simp)
    exact this rfl
  have h0 : (a ++ i :: b).idxOf i = a.length := by rw [List.idxOf_append, if_neg hni, List.idxOf_cons_self]; omega
  refine ⟨h0, fun hm => ?_, fun hm => ?_⟩
  · rw [List.idxOf_append]
    split
    · rename_i h; exact ⟨fun _ => h, fun _ => List.idxOf_lt_length_of_mem h⟩
    · rename_i h; exact ⟨fun h2 => by omega, fun h2 => absurd h2 h⟩
  · rw [List.idxOf_append]
    split
    · rename_i h
      have := List.idxOf_lt_length_of_mem h
      exact ⟨fun h2 => by omega, fun h2 => absurd h h2⟩
    · rename_i h
      refine ⟨fun _ => h, fun _ => ?_⟩
      rw [idx_ne (Ne.symm hm)]; omega
theorem applyP_valid {l : List Task} {p : List Nat} (hv : validP l) (h : PermP l.length p) : validP (applyP l p) := by
  obtain ⟨h1, h2, h3⟩ := valid_iff.1 hv
  refine valid_iff.2 ⟨by rw [applyP_len]; exact h1, fun t ht => ?_, fun j k hj hk => ?_⟩
  · obtain ⟨k, hk, rfl⟩ := List.getElem_of_mem ht
    rw [applyP_len] at hk
    have := applyP_at (p := p) hk
    rw [atI_nat (by rw [applyP_len]; exact hk)] at this
    rw [this]
    obtain ⟨⟨r1, r2, r3, r4, r5, r6, r7, r8⟩, f⟩ := h2 _ (atI_mem (l := l) (i := (k : Int)) (by omega) (by omega))
    have hx := List.idxOf_lt_length_of_mem (mem_of_perm h k hk)
    rw [h.len] at hx
    exact ⟨⟨r1, r2, r3, r4, r5, r6, r7, by dsimp only; omega⟩, f⟩
  · rw [applyP_len] at hk
    rw [applyP_at (by omega : j < l.length), applyP_at hk]
    refine ⟨(h3 j k hj hk).1, fun e => ?_⟩
    dsimp only at e
    have := idxOf_inj (mem_of_perm h j (by omega)) (by omega : p.idxOf j = p.idxOf k)
    omega
theorem applyP_fits {l : List Task} {a b : List Nat} {i : Nat} (hv : validP l) (h : PermP l.length (a ++ i :: b)) : (boundP (applyP l (a ++ i :: b)) (i : Int)).2 = 0 ↔ fitsP l (i : Int) (inL (a ++ [i])) = true := by
  have hi : i < l.length := h.lt i (by simp)
  have hn := (valid_iff.1 hv).1.2
  have hs := sep_op (i := i) hn hi
  have hva := applyP_valid hv h
  have e : boundP (applyP l (a ++ i :: b)) (i : Int) = boundP (opG 1 (2 * (l.length : Int)) ((l.length : Int) + 1) l i (inL (a ++ [i]))) (i : Int) := by
    refine boundP_cong (valid_isP hva (by omega) (by rw [applyP_len]; omega)) (opG_isP hv hs hi) ⟨by rw [applyP_len, opG_len], fun k hk => ?_, fun k hk => ?_, fun k hk => ?_⟩
    · rw [opG_len] at hk; rw [applyP_at hk, opG_at hk]; exact ⟨rfl, rfl, rfl, rfl, rfl⟩
    all_goals
      rw [opG_len] at hk
      have o := opG_lt (A := inL (a ++ [i])) hs hi hk
      rw [applyP_at hk, applyP_at hi]
      obtain ⟨x0, x1, x2⟩ := idxOf_app (m := k) h.nd
      have hin : k ≠ i → (inL (a ++ [i]) k = true ↔ k ∈ a) := fun hk => by unfold inL; simp [hk]
      dsimp only
      rw [x0]
    · rw [o.1]
      by_cases e : k = i
      · subst e; rw [x0]; exact ⟨fun h => by omega, fun h => absurd rfl h.1⟩
      · rw [hin e, ← x1 e]; exact ⟨fun h => ⟨e, by omega⟩, fun h => by have := h.2; omega⟩
    · rw [o.2]
      by_cases e : k = i
      · subst e; rw [x0]; exact ⟨fun h => by omega, fun h => absurd rfl h.1⟩
      · have h2 := hin e
        have h3 : inL (a ++ [i]) k = false ↔ k ∉ a := by rw [← h2]; simp
        rw [h3, ← x2 e]; exact ⟨fun h => ⟨e, by omega⟩, fun h => by have := h.2; omega⟩
  unfold fitsP
  rw [decide_eq_true_iff, show ((i : Int)).toNat = i by omega, e]
  exact ⟨fun h => ⟨hv, by omega, h⟩, fun h => h.2.2⟩
def allB (l : List Task) : Prop := ∀ k : Nat, k < l.length → (boundP l (k : Int)).2 = 0
theorem applyP_all {l : List Task} {p : List Nat} (hv : validP l) (h : PermP l.length p) : allB (applyP l p) ↔ ∀ (a : List Nat) (i : Nat) (b : List Nat), p = a ++ i :: b → fitsP l (i : Int) (inL (a ++ [i])) = true := by
  constructor
  · intro hb a i b e
    subst e
    exact (applyP_fits hv h).1 (hb i (by rw [applyP_len]; exact h.lt i (by simp)))
  · intro hf k hk
    rw [applyP_len] at hk
    obtain ⟨a, b, e⟩ := List.append_of_mem (mem_of_perm h k hk)
    subst e
    exact (applyP_fits hv h).2 (hf _ _ _ rfl)
theorem can_cong {l : List Task} : ∀ (n : Nat) (S T : Nat → Bool), (∀ k, S k = T k) → (Can l n S ↔ Can l n T) := fun n S T h => by rw [show S = T from funext h]
theorem good_can {l : List Task} : ∀ (n : Nat) (p : List Nat), p.length = n → p.Nodup → (∀ m ∈ p, m < l.length) → (∀ (a : List Nat) (i : Nat) (b : List Nat), p = a ++ i :: b → fitsP l (i : Int) (inL (a ++ [i])) = true) → Can l n (inL p)
  | 0, _, _, _, _, _ => trivial
  | n + 1, p, hn, hd, hlt, hf => by
    have hne : p ≠ [] := fun e => by rw [e] at hn; cases hn
    obtain ⟨q, i, rfl⟩ : ∃ (q : List Nat) (i : Nat), p = q ++ [i] := ⟨_, _, (List.dropLast_concat_getLast hne).symm⟩
    have hni : i ∉ q := fun h => (List.nodup_append.1 hd).2.2 i h i (by simp) rfl
    refine ⟨i, hlt i (by simp), by unfold inL; simp, hf q i [] rfl, ?_⟩
    refine (can_cong n _ (inL q) fun k => ?_).2 (good_can n q (by simpa using hn) (List.nodup_append.1 hd).1 (fun m hm => hlt m (by simp [hm])) fun a j b e => hf a j (b ++ [i]) (by rw [e]; simp))
    unfold inL
    rw [Bool.eq_iff_iff]
    simp only [Bool.and_eq_true, decide_eq_true_eq, List.mem_append, List.mem_singleton]
    exact ⟨fun ⟨h1, h2⟩ => h1.resolve_right h2, fun h => ⟨.inl h, fun e => hni (by rw [← e]; exact h)⟩⟩
theorem assignN_order {l : List Task} : ∀ (n : Nat) (es : List Nat) (o : List Int) (t : Nat), es.Nodup → es.length = n → (assignN l n es o t).2.2.2 = 0 →
    ∃ q : List Nat, (assignN l n es o t).1 = q.map (fun k : Nat => (k : Int)) ++ o ∧ q.Nodup ∧ q.length = n ∧ (∀ m, m ∈ q ↔ m ∈ es) ∧ (∀ (a : List Nat) (i : Nat) (b : List Nat), q = a ++ i :: b → fitsP l (i : Int) (inL (a ++ [i])) = true)
  | 0, es, o, t, _, hn, _ => ⟨[], rfl, List.nodup_nil, rfl, fun m => by rw [List.length_eq_zero_iff.1 hn], fun a i b e => by simp at e⟩
  | n + 1, es, o, t, hd, hn, h => by
    unfold assignN at h ⊢
    split at h
    · exact absurd (show (16 : Int) = 0 from h) (by decide)
    · rename_i i hp
      obtain ⟨h1, h2⟩ := pickL_some hp
      obtain ⟨q, e1, e2, e3, e4, e5⟩ := assignN_order n (es.filter fun k => decide (k ≠ i)) ((i : Int) :: o) (t + (pickL l (inL es) es).2) (hd.filter _) (by have := out_len hd h1; omega) h
      have hni : i ∉ q := fun hq => by have := (e4 i).1 hq; simp at this
      refine ⟨q ++ [i], by rw [e1]; simp, ?_, by simp [e3], fun m => ?_, fun a j b e => ?_⟩
      · rw [List.nodup_append]
        exact ⟨e2, by simp, fun x hx y hy => by rw [List.mem_singleton.1 hy]; exact fun e => hni (by rw [← e]; exact hx)⟩
      · rw [List.mem_append, e4 m, List.mem_singleton, List.mem_filter]
        simp only [decide_eq_true_eq]
        by_cases e : m = i
        · subst e; simp [h1]
        · simp [e]
      · rcases List.eq_nil_or_concat b with hb | ⟨b', x, hb⟩
        · subst hb
          have hl := congrArg List.length e
          obtain ⟨ha, hi⟩ := List.append_inj e (by simpa using hl)
          cases hi
          subst ha
          rw [show inL (q ++ [i]) = inL es from ?_]
          · exact h2
          · funext k
            unfold inL
            rw [Bool.eq_iff_iff, decide_eq_true_iff, decide_eq_true_iff, List.mem_append, e4 k, List.mem_singleton, List.mem_filter]
            simp only [decide_eq_true_eq]
            by_cases e : k = i
            · subst e; simp [h1]
            · simp [e]
        · subst hb
          rw [List.concat_eq_append, ← List.cons_append, ← List.append_assoc] at e
          have hq := (List.append_inj' e rfl).1
          exact e5 a j b' hq
theorem assign_best {l : List Task} (hv : validP l) (hm : ∀ t ∈ l, Mid t) (hl : l.length ≤ 6) :
    ((assignP l).2.2.2 = 0 → ∃ q : List Nat, PermP l.length q ∧ (assignP l).1 = q.map (fun k : Nat => (k : Int)) ∧ allB (applyP l q)) ∧ ((assignP l).2.2.2 ≠ 0 → ∀ p, PermP l.length p → ¬ allB (applyP l p)) := by
  have hi := assign_iff hv hm hl
  constructor
  · intro h
    unfold assignP at h ⊢
    rw [if_pos hv] at h ⊢
    obtain ⟨q, e1, e2, e3, e4, e5⟩ := assignN_order l.length (List.range l.length) [] 0 List.nodup_range List.length_range h
    have hp : PermP l.length q := ⟨e3, e2, fun m hm => List.mem_range.1 ((e4 m).1 hm)⟩
    exact ⟨q, hp, by rw [e1, List.append_nil], (applyP_all hv hp).2 e5⟩
  · intro h p hp hb
    refine h (hi.1.2 ?_)
    refine (can_cong _ _ _ fun k => ?_).1 (good_can l.length p hp.len hp.nd hp.lt ((applyP_all hv hp).1 hb))
    unfold inL
    rw [Bool.eq_iff_iff, decide_eq_true_iff, decide_eq_true_iff, List.mem_range]
    exact ⟨fun h => hp.lt k h, fun h => mem_of_perm hp k h⟩
def permsN (n : Nat) : Nat → List Nat → List (List Nat)
  | 0, a => [a]
  | d + 1, a => (List.range n).flatMap fun i => if i ∈ a then [] else permsN n d (a ++ [i])
theorem permsN_perm {n : Nat} : ∀ (d : Nat) (a : List Nat), a.length + d = n → a.Nodup → (∀ m ∈ a, m < n) → ∀ p ∈ permsN n d a, PermP n p
  | 0, a, hl, hd, hm, p, hp => by
    rw [List.mem_singleton.1 hp]
    exact ⟨hl, hd, hm⟩
  | d + 1, a, hl, hd, hm, p, hp => by
    obtain ⟨i, hi, h⟩ := List.mem_flatMap.1 hp
    split at h
    · cases h
    · rename_i hni
      refine permsN_perm d (a ++ [i]) (by simp; omega) ?_ (fun m h => ?_) p h
      · rw [List.nodup_append]
        exact ⟨hd, by simp, fun x hx y hy => by rw [List.mem_singleton.1 hy]; exact fun e => hni (by rw [← e]; exact hx)⟩
      · rcases List.mem_append.1 h with h | h
        · exact hm m h
        · rw [List.mem_singleton.1 h]; exact List.mem_range.1 hi
theorem permsN_all {n : Nat} : ∀ (d : Nat) (a b : List Nat), b.length = d → PermP n (a ++ b) → a ++ b ∈ permsN n d a
  | 0, a, b, hb, h => by rw [List.length_eq_zero_iff.1 hb]; simp [permsN]
  | d + 1, a, b, hb, h => by
    match b, hb with
    | i :: b, hb =>
      have hni : i ∉ a := fun h2 => (List.nodup_append.1 h.nd).2.2 i h2 i (by simp) rfl
      refine List.mem_flatMap.2 ⟨i, List.mem_range.2 (h.lt i (by simp)), ?_⟩
      rw [if_neg hni]
      have := permsN_all d (a ++ [i]) b (by simpa using hb) (by simpa using h)
      simpa using this
end Go.L.Try
set_option linter.unusedSimpArgs false
set_option maxHeartbeats 2000000
namespace Go.L.Try
open Go Go.L
variable {E : Env} {G : Nat}
def ofN (p : List Nat) : List Int := p.map fun k : Nat => (k : Int)
theorem ofN_len (p : List Nat) : (ofN p).length = p.length := by simp [ofN]
theorem ofN_at {p : List Nat} {k : Nat} (h : k < p.length) : atI (ofN p) (k : Int) = (p[k] : Int) := by
  rw [atI_nat (by rw [ofN_len]; exact h)]; simp [ofN]
theorem mslB {n : Nat} (h2 : n ≤ 1048576) : mslV [.bool false] 1 (.int .i64 (n : Int)) (.int .i64 (n : Int)) = some (.cells (List.replicate n (.bool false)) false, fun b => .slice (some ⟨b, 0, none⟩) n n) := by
  have e : (List.replicate n [Value.bool false]).flatten = List.replicate n (.bool false) := by
    induction n with
    | zero => rfl
    | succ k ih => rw [List.replicate_succ, List.flatten_cons, ih (by omega)]; rfl
  have ho : (List.replicate n (Value.bool false)).all oneCell = true := by
    rw [List.all_eq_true]; intro v hv; rw [List.eq_of_mem_replicate hv]; rfl
  simp only [mslV]
  rw [if_pos (by omega), Int.toNat_natCast, e, newCells, if_pos ho]
def seenB (n : Nat) (p : List Nat) (k : Nat) : List Value := (List.range n).map fun m => .bool (decide (m ∈ p.take k))
theorem seenB_zero (n : Nat) (p : List Nat) : seenB n p 0 = List.replicate n (.bool false) := by
  apply List.ext_getElem <;> simp [seenB]
theorem seenB_len (n : Nat) (p : List Nat) (k : Nat) : (seenB n p k).length = n := by simp [seenB]
theorem seenB_at {n : Nat} {p : List Nat} {k m : Nat} (h : m < n) : (seenB n p k)[m]? = some (.bool (decide (m ∈ p.take k))) := by
  unfold seenB
  rw [List.getElem?_map, List.getElem?_range h]; rfl
theorem seenB_succ {n : Nat} {p : List Nat} {k : Nat} (h : k < p.length) : (seenB n p k).set p[k] (.bool true) = seenB n p (k + 1) := by
  apply List.ext_getElem?
  intro j
  rw [List.getElem?_set]
  have e := Go.L.take_snoc h
  rw [atI_nat h] at e
  by_cases hj : j < n
  · rw [seenB_at hj, seenB_at hj, seenB_len]
    have e4 : j ∈ p.take (k + 1) ↔ j ∈ p.take k ∨ j = p[k] := by rw [e, List.mem_append, List.mem_singleton]
    by_cases e2 : p[k] = j
    · rw [if_pos e2, if_pos (by omega), decide_eq_true (e4.2 (.inr e2.symm))]
    · rw [if_neg e2]
      have e5 : decide (j ∈ p.take (k + 1)) = decide (j ∈ p.take k) := by
        rw [Bool.eq_iff_iff, decide_eq_true_iff, decide_eq_true_iff, e4]
        exact ⟨fun h => h.resolve_right fun h => e2 h.symm, .inl⟩
      rw [e5]
  · rw [List.getElem?_eq_none (by rw [seenB_len]; omega), List.getElem?_eq_none (by rw [seenB_len]; omega)]
    split
    · rw [seenB_len]; rename_i h2; rw [if_neg (by omega)]
    · rfl
theorem validS (hE : Laid E) {n : Nat} {p : List Nat} (hp : PermP n p) (hn : n ≤ 1024) {h : Heap} {v : Value} (hr : Rd 1 encI h v (ofN p)) :
    callW E (.func (.func n_order_Valid) #[] #[]) [v] h = some (.bool true, h, []) := by
  refine fn_same hE.order_Valid rfl (by simp) ?_
  have hlen := hr.len
  rw [ofN_len, hp.len] at hlen
  have hms := mslB (n := n) (by omega)
  have hpl := hp.len
  simp only [argsF]
  (repeat' (first | (with_reducible refine A1 (fun _ => ?_) (fun _ => ?_) <;> try (exfalso; omega)) | (with_reducible refine A2 (fun _ => ?_) (fun _ => ?_) <;> try (exfalso; omega)) | (with_reducible refine A3 (fun _ => ?_) (fun _ => ?_) <;> try (exfalso; omega)) | refine A4 (fun _ => ?_) (fun _ => ?_) | refine A5 (fun _ => ?_) (fun _ => ?_) | refine A6 (fun _ => ?_) (fun _ => ?_) | simp -dsimp (disch := omega) only [↓EA, EB, Nat.reduceEqDiff, Nat.reduceAdd, Nat.reduceLeDiff, Nat.reduceMul, ↓reduceIte, reduceCtorEq, newCells, bslV, eq_self, *]))
  rw [← seenB_zero n p]
  clear hms
  refine WO.loop (fun (k : Nat) fr h' => k ≤ n ∧ h' = h ++ [LObj.cells (seenB n p k) false] ∧ get fr 0 = v ∧ get fr 3 = .slice (some ⟨h.length, 0, none⟩) n n ∧ get fr 9 = v ∧ get fr 10 = .int .i64 n ∧ get fr 11 = .int .i64 k) (fun k => n - k) ?_ 0 ⟨Nat.zero_le _, rfl, rfl, rfl, rfl, rfl, rfl⟩
  rintro k fr h' ⟨hk, rfl, g0, g3, g9, g10, g11⟩
  have hr2 := hr.app [LObj.cells (seenB n p k) false]
  unfold c_order_Valid_l0
  rcases Nat.lt_or_ge k n with hlt | hge
  · have hkp : k < p.length := by omega
    have hpk := hp.lt _ (List.getElem_mem hkp)
    have hat := ofN_at hkp
    have hni : p[k] ∉ p.take k := fun h => by
      have h2 := hp.nd
      rw [← List.take_append_drop k p, List.drop_eq_getElem_cons hkp, List.nodup_append] at h2
      exact h2.2.2 _ h _ List.mem_cons_self rfl
    have hs1 := seenB_at (p := p) (k := k) hpk
    rw [decide_eq_false hni] at hs1
    have hs2 := seenB_succ (n := n) hkp
    have hl2 : (ofN p).length = n := by rw [ofN_len]; exact hpl
    have sl := seenB_len n p k
    have so : (seenB n p (k + 1)).all oneCell = true := by unfold seenB; rw [List.all_map, List.all_eq_true]; intro x _; rfl
    generalize p[k] = q at *
    generalize seenB n p k = s1 at *
    generalize hsd : seenB n p (k + 1) = s2 at *
    have Hsd := Hid.mk hsd
    clear hsd
    have hix : ixsV 1 (.slice (some ⟨h.length, 0, none⟩) n n) (.int .i64 (q : Int)) = some (.pointer (some ⟨h.length, q, none⟩)) := by
      simp only [ixsV, addrOf]
      rw [if_pos (by omega)]
      simp
    have hlt2 : (k : Int) < (ofN p).length := by omega
    have hq2 : ¬ ((ofN p).length : Int) ≤ q := by omega
    have hlen2 := hr2.len
    rw [hl2] at hlen2
    clear hl2
    have hq3 : ¬ (n : Int) ≤ q := by omega
    have hq4 : q + 1 ≤ n := by omega
    (repeat' (first | (with_reducible refine A1 (fun _ => ?_) (fun _ => ?_) <;> try (exfalso; omega)) | (with_reducible refine A2 (fun _ => ?_) (fun _ => ?_) <;> try (exfalso; omega)) | (with_reducible refine A3 (fun _ => ?_) (fun _ => ?_) <;> try (exfalso; omega)) | refine A4 (fun _ => ?_) (fun _ => ?_) | refine A5 (fun _ => ?_) (fun _ => ?_) | refine A6 (fun _ => ?_) (fun _ => ?_) | simp -dsimp (disch := omega) only [↓EA, EB, Nat.reduceEqDiff, Nat.reduceAdd, Nat.reduceLeDiff, Nat.reduceMul, ↓reduceIte, reduceCtorEq, newCells, bslV, eq_self, *, hr2.len, hr2.ixs, hr2.ld, hr2.ld0, hr2.lda, hr2.ldx, hr2.ldx0, hr2.ldxa, encI, hat, hix, hlen2]))
    exact Next.mk (k + 1) ⟨by omega, by rw [Hsd.out], rfl, rfl, rfl, rfl, rfl⟩ (by omega)
  · have e : k = n := by omega
    subst e
    (repeat' (first | (with_reducible refine A1 (fun _ => ?_) (fun _ => ?_) <;> try (exfalso; omega)) | (with_reducible refine A2 (fun _ => ?_) (fun _ => ?_) <;> try (exfalso; omega)) | (with_reducible refine A3 (fun _ => ?_) (fun _ => ?_) <;> try (exfalso; omega)) | refine A4 (fun _ => ?_) (fun _ => ?_) | refine A5 (fun _ => ?_) (fun _ => ?_) | refine A6 (fun _ => ?_) (fun _ => ?_) | simp -dsimp (disch := omega) only [↓EA, EB, Nat.reduceEqDiff, Nat.reduceAdd, Nat.reduceLeDiff, Nat.reduceMul, ↓reduceIte, reduceCtorEq, newCells, bslV, eq_self, *]))
theorem cloneI (hE : Laid E) {h : Heap} {vl : Value} {l : List Int} (hl : Rd 1 encI h vl l) (hn : l ≠ []) (hlen : l.length ≤ 1024) :
    ∃ v ys, callW E (.func (.func n_slices_Clone_int_int) #[] #[]) [vl] h = some (v, h ++ ys, []) ∧ RdO h.length 1 encI (h ++ ys) v l := by
  refine fn_new hE.slices_Clone_int_int rfl (RdO.movable flatI l) (by simp) ?_
  have hnn := Rd.nnil hl hn 0 0
  simp only [argsF]
  (repeat' (first | (with_reducible refine A1 (fun _ => ?_) (fun _ => ?_) <;> try (exfalso; omega)) | (with_reducible refine A2 (fun _ => ?_) (fun _ => ?_) <;> try (exfalso; omega)) | (with_reducible refine A3 (fun _ => ?_) (fun _ => ?_) <;> try (exfalso; omega)) | refine A4 (fun _ => ?_) (fun _ => ?_) | refine A5 (fun _ => ?_) (fun _ => ?_) | refine A6 (fun _ => ?_) (fun _ => ?_) | simp -dsimp (disch := omega) only [↓EA, EB, Nat.reduceEqDiff, Nat.reduceAdd, Nat.reduceLeDiff, Nat.reduceMul, ↓reduceIte, reduceCtorEq, newCells, bslV, eq_self, *]))
  refine wx_copy (sz := 1) (enc := encI) (c := []) (ro := false) (off := 0) (l := l) (by rw [geta0]; rfl) (Nat.zero_le _) (hl.app _) hn (fun _ => rfl) (by decide) (by decide) (by omega) fun rx => ?_
  (repeat' (first | (with_reducible refine A1 (fun _ => ?_) (fun _ => ?_) <;> try (exfalso; omega)) | (with_reducible refine A2 (fun _ => ?_) (fun _ => ?_) <;> try (exfalso; omega)) | (with_reducible refine A3 (fun _ => ?_) (fun _ => ?_) <;> try (exfalso; omega)) | refine A4 (fun _ => ?_) (fun _ => ?_) | refine A5 (fun _ => ?_) (fun _ => ?_) | refine A6 (fun _ => ?_) (fun _ => ?_) | simp -dsimp (disch := omega) only [↓EA, EB, Nat.reduceEqDiff, Nat.reduceAdd, Nat.reduceLeDiff, Nat.reduceMul, ↓reduceIte, reduceCtorEq, newCells, bslV, eq_self, *]))
  have rx2 := rx.rdO.less (m' := h.length) (by simp)
  simp only [List.append_assoc, List.cons_append, List.nil_append, List.length_append, List.length_cons, List.length_nil, Nat.zero_add] at rx2
  exact ⟨⟨_, rfl⟩, rx2⟩
def apN (l : List Task) (p : List Nat) (k : Nat) : List Task := l.mapIdx fun m t => if m ∈ p.take k then { t with P := (p.idxOf m : Int) + 1 } else t
theorem apN_len (l : List Task) (p : List Nat) (k : Nat) : (apN l p k).length = l.length := by simp [apN]
theorem apN_zero (l : List Task) (p : List Nat) : apN l p 0 = l := by
  apply List.ext_getElem?
  intro k
  simp [apN]
theorem apN_succ {l : List Task} {p : List Nat} (hp : PermP l.length p) {k : Nat} (hk : k < p.length) : apN l p (k + 1) = (apN l p k).set p[k] { atI (apN l p k) (p[k] : Int) with P := (k : Int) + 1 } := by
  have hlt := hp.lt _ (List.getElem_mem hk)
  have hdec : p = p.take k ++ p[k] :: p.drop (k + 1) := by rw [← List.drop_eq_getElem_cons hk, List.take_append_drop]
  have hnd := hp.nd
  rw [hdec] at hnd
  have hni : p[k] ∉ p.take k := fun h => (List.nodup_append.1 hnd).2.2 _ h _ List.mem_cons_self rfl
  have hix : p.idxOf p[k] = k := by
    have := (idxOf_app (m := 0) hnd).1
    rw [← hdec, List.length_take] at this
    omega
  have e := Go.L.take_snoc hk
  rw [atI_nat hk] at e
  apply List.ext_getElem?
  intro m
  rw [List.getElem?_set]
  by_cases e2 : p[k] = m
  · rw [if_pos e2, if_pos (by rw [apN_len]; omega), atI_nat (by rw [apN_len]; exact hlt)]
    unfold apN
    rw [List.getElem?_mapIdx, ← e2, List.getElem?_eq_getElem hlt, Option.map_some, if_pos (by rw [e]; exact List.mem_append_right _ (List.mem_singleton.2 rfl)), List.getElem_mapIdx, if_neg hni, hix]
  · rw [if_neg e2]
    unfold apN
    rw [List.getElem?_mapIdx, List.getElem?_mapIdx]
    have e4 : m ∈ p.take (k + 1) ↔ m ∈ p.take k := by
      rw [e, List.mem_append, List.mem_singleton]
      exact ⟨fun h => h.resolve_right fun h => e2 h.symm, .inl⟩
    simp only [e4]
theorem apN_all {l : List Task} {p : List Nat} (hp : PermP l.length p) : apN l p p.length = applyP l p := by
  unfold apN applyP
  rw [List.take_length]
  apply List.ext_getElem?
  intro m
  rw [List.getElem?_mapIdx, List.getElem?_mapIdx]
  rcases Nat.lt_or_ge m l.length with h | h
  · rw [List.getElem?_eq_getElem h, Option.map_some, Option.map_some, if_pos (mem_of_perm hp m h)]
  · rw [List.getElem?_eq_none h]; rfl
def ApR (m : Nat) (l : List Task) (h : Heap) (v : Value) : Prop := ∃ vs, v = .tuple vs.toArray ∧ Each h [fun h v => RdO m 7 encT h v l, fun _ v => v = .int .i64 0] vs
theorem ApR.movable (m : Nat) (l : List Task) : Movable m (ApR m l) 2 := by
  refine Movable.tuples (k := 1) (fun R hR => ?_) (by simp)
  simp only [List.mem_cons, List.not_mem_nil, or_false] at hR
  rcases hR with rfl | rfl
  · exact RdO.movable flatT l
  · exact movable_eq rfl
theorem applyS (hE : Laid E) {h : Heap} {vl vp : Value} {l : List Task} {p : List Nat} (hl : Rd 7 encT h vl l) (hn : 1 ≤ l.length ∧ l.length ≤ 1024) (hp : PermP l.length p) (hr : Rd 1 encI h vp (ofN p)) :
    ∃ v ys, callW E (.func (.func n_order_Apply) #[] #[]) [vl, vp] h = some (v, h ++ ys, []) ∧ ApR h.length (applyP l p) (h ++ ys) v := by
  refine fn_new hE.order_Apply rfl (ApR.movable _ _) (by simp) ?_
  have hva := validS hE hp hn.2 hr
  have hll := hl.len
  have hrl := hr.len
  rw [ofN_len, hp.len] at hrl
  have hne : l ≠ [] := fun e => by rw [e] at hn; simp at hn
  have hrc := hr.cv
  have hro := hr.one
  simp only [argsF]
  (repeat' (first | (with_reducible refine A1 (fun _ => ?_) (fun _ => ?_) <;> try (exfalso; omega)) | (with_reducible refine A2 (fun _ => ?_) (fun _ => ?_) <;> try (exfalso; omega)) | (with_reducible refine A3 (fun _ => ?_) (fun _ => ?_) <;> try (exfalso; omega)) | refine A4 (fun _ => ?_) (fun _ => ?_) | refine A5 (fun _ => ?_) (fun _ => ?_) | refine A6 (fun _ => ?_) (fun _ => ?_) | simp -dsimp (disch := omega) only [↓EA, EB, Nat.reduceEqDiff, Nat.reduceAdd, Nat.reduceLeDiff, Nat.reduceMul, ↓reduceIte, reduceCtorEq, newCells, bslV, eq_self, *]))
  refine wx_new (cloneS hE hl hne hn.2) fun v ys r0 p0 => ?_
  have hr0 := hr.pre p0
  have hHl := p0.le
  have hv0 := r0.rd.cv
  have hv1 := r0.rd.one
  generalize h ++ ys = H at *
  (repeat' (first | (with_reducible refine A1 (fun _ => ?_) (fun _ => ?_) <;> try (exfalso; omega)) | (with_reducible refine A2 (fun _ => ?_) (fun _ => ?_) <;> try (exfalso; omega)) | (with_reducible refine A3 (fun _ => ?_) (fun _ => ?_) <;> try (exfalso; omega)) | refine A4 (fun _ => ?_) (fun _ => ?_) | refine A5 (fun _ => ?_) (fun _ => ?_) | refine A6 (fun _ => ?_) (fun _ => ?_) | simp -dsimp (disch := omega) only [↓EA, EB, Nat.reduceEqDiff, Nat.reduceAdd, Nat.reduceLeDiff, Nat.reduceMul, ↓reduceIte, reduceCtorEq, newCells, bslV, eq_self, *]))
  refine WO.loop (fun (k : Nat) fr h' => k ≤ l.length ∧ Pre h h' ∧ Rd 1 encI h' vp (ofN p) ∧ RdO h.length 7 encT h' v (apN l p k) ∧ get fr 6 = v ∧ get fr 21 = vp ∧ get fr 22 = .int .i64 l.length ∧ get fr 23 = .int .i64 k) (fun k => l.length - k) ?_ 0 ⟨Nat.zero_le _, p0, hr0, by rw [apN_zero]; exact r0, rfl, rfl, rfl, rfl⟩
  clear hr0 r0 p0 hHl hva hll hrl
  rintro k fr h' ⟨hk, hp', hr', hx, g6, g21, g22, g23⟩
  unfold c_order_Apply_l0
  have hrd := hx.rd
  have hxl := apN_len l p k
  have hpl := hp.len
  have hpln := ofN_len p
  have hne2 : apN l p k ≠ [] := fun e => by rw [e] at hxl; exact hne (List.length_eq_zero_iff.1 hxl.symm)
  rcases Nat.lt_or_ge k l.length with hlt | hge
  · have hkp : k < p.length := by omega
    have hpk := hp.lt _ (List.getElem_mem hkp)
    have hat := ofN_at hkp
    have Hs := Hid.mk (apN_succ hp hkp)
    have hge := hx.ge hne2
    have hltx := hx.rd.lt' (fun e => by have := hrd.len; rw [e] at this; simp [lensV] at this; omega)
    have hk1 : (k : Int) < (ofN p).length := by omega
    generalize p[k] = q at *
    have Hp := Hid.mk hp'
    have Hx := Hid.mk hx
    clear hp' hx hpln hpl
    generalize apN l p k = ax at *
    have hq1 : (q : Int) < ax.length := by omega
    have Hxl := Hid.mk hxl
    clear hxl
    (repeat' (first | (with_reducible refine A1 (fun _ => ?_) (fun _ => ?_) <;> try (exfalso; omega)) | (with_reducible refine A2 (fun _ => ?_) (fun _ => ?_) <;> try (exfalso; omega)) | (with_reducible refine A3 (fun _ => ?_) (fun _ => ?_) <;> try (exfalso; omega)) | refine A4 (fun _ => ?_) (fun _ => ?_) | refine A5 (fun _ => ?_) (fun _ => ?_) | refine A6 (fun _ => ?_) (fun _ => ?_) | simp -dsimp (disch := omega) only [↓EA, EB, Nat.reduceEqDiff, Nat.reduceAdd, Nat.reduceLeDiff, Nat.reduceMul, ↓reduceIte, reduceCtorEq, newCells, bslV, eq_self, *, hr'.len, hr'.ixs, hr'.ld, hr'.ld0, hr'.lda, hr'.ldx, hr'.ldx0, hr'.ldxa, hrd.len, hrd.ixs, hrd.ld, hrd.ld0, hrd.lda, hrd.ldx, hrd.ldx0, hrd.ldxa, encI, encT, hat]))
    refine wh_rdO Hx.out (fun b hb => by omega) { atI ax (q : Int) with P := (k : Int) + 1 } (by omega) (by omega) (by decide) rfl (by rfl) fun h5 k1 k2 k3 => ?_
    rw [show ((q : Int)).toNat = q by omega, ← Hs.out] at k1
    have hp5 : Pre h h5 := fun b o hb => by
      have := (List.getElem?_eq_some_iff.1 hb).1
      rw [k3 b (by omega)]; exact Hp.out b o hb
    have hr5 : Rd 1 encI h5 vp (ofN p) := hr.pre hp5
    clear k3
    (repeat' (first | (with_reducible refine A1 (fun _ => ?_) (fun _ => ?_) <;> try (exfalso; omega)) | (with_reducible refine A2 (fun _ => ?_) (fun _ => ?_) <;> try (exfalso; omega)) | (with_reducible refine A3 (fun _ => ?_) (fun _ => ?_) <;> try (exfalso; omega)) | refine A4 (fun _ => ?_) (fun _ => ?_) | refine A5 (fun _ => ?_) (fun _ => ?_) | refine A6 (fun _ => ?_) (fun _ => ?_) | simp -dsimp (disch := omega) only [↓EA, EB, Nat.reduceEqDiff, Nat.reduceAdd, Nat.reduceLeDiff, Nat.reduceMul, ↓reduceIte, reduceCtorEq, newCells, bslV, eq_self, *]))
    exact Next.mk (k + 1) ⟨by omega, hp5, hr5, k1, rfl, rfl, rfl, rfl⟩ (by omega)
  · have e : k = l.length := by omega
    subst e
    rw [← hpl, apN_all hp] at hx
    have hx1 := hx.rd.one
    have Hx := Hid.mk hx
    have Hp := Hid.mk hp'
    clear hx hp' hrd
    (repeat' (first | (with_reducible refine A1 (fun _ => ?_) (fun _ => ?_) <;> try (exfalso; omega)) | (with_reducible refine A2 (fun _ => ?_) (fun _ => ?_) <;> try (exfalso; omega)) | (with_reducible refine A3 (fun _ => ?_) (fun _ => ?_) <;> try (exfalso; omega)) | refine A4 (fun _ => ?_) (fun _ => ?_) | refine A5 (fun _ => ?_) (fun _ => ?_) | refine A6 (fun _ => ?_) (fun _ => ?_) | simp -dsimp (disch := omega) only [↓EA, EB, Nat.reduceEqDiff, Nat.reduceAdd, Nat.reduceLeDiff, Nat.reduceMul, ↓reduceIte, reduceCtorEq, newCells, bslV, eq_self, *]))
    exact ⟨Hp.out.ex, _, rfl, .cons Hx.out (.cons rfl .nil)⟩
end Go.L.Try
set_option maxHeartbeats 4000000
namespace Go.L.Try
open Go Go.L
variable {E : Env} {G : Nat}
theorem cut_app {h : Heap} {v : Value} {a : List Int} (hr : Rd 1 encI h v a) (hn : a.length ≤ 1024) : ∃ s, slsV 1 v none (some (.int .i64 (a.length : Int))) (some (.int .i64 (a.length : Int))) = some s ∧ oneCell s = true ∧ cellsV s = [s] ∧
    ∀ (h' : Heap) (x : Value) (i : Int), (∀ (b : Nat) (o : LObj), h[b]? = some o → o ≠ .dead → h'[b]? = some o) → cellsOf 1 x h' = some (1, [.int .i64 i]) →
      appendV 1 8 s x h' = some (.slice (some ⟨h'.length, 0, some 1⟩) (a.length + 1) (a.length + 1), h' ++ [.cells ((a ++ [i]).map encI).flatten false], []) := by
  have hf : ∀ l : List Int, (l.map encI).flatten.length = l.length := fun l => by
    induction l with
    | nil => rfl
    | cons x l ih => rw [List.map_cons, List.flatten_cons, List.length_append, ih]; simp [encI]; omega
  rcases hr.is with ⟨rfl, e⟩ | ⟨b, off, sp, cap, c, ro, e, hb, hl, hc, hcap, hsp⟩
  · have e : a = [] := List.map_eq_nil_iff.1 e
    subst e
    refine ⟨.slice none 0 0, by simp [slsV, boundV], rfl, rfl, fun h' x i _ hx => ?_⟩
    have h0 : cellsOf 1 (.slice none 0 0) h' = some (0, []) := rfl
    simp only [appendV, hx, h0]
    rfl
  · rw [List.length_map] at e hl hc hcap
    subst e
    refine ⟨.slice (some ⟨b, off, none⟩) a.length a.length, ?_, rfl, rfl, fun h' x i hk hx => ?_⟩
    · simp only [slsV, boundV]
      rw [if_pos (by omega), Option.bind_some, if_pos (by omega), Option.bind_some, Option.bind_some, Int.toNat_natCast]
      simp
    · have hb' := hk b _ hb (by simp)
      have h0 : cellsOf 1 (.slice (some ⟨b, off, none⟩) a.length a.length) h' = some (a.length, (a.map encI).flatten) := by
        rw [cellsOf_some, hb', cellO_cells, if_pos hl, hc]
      have h1 : ¬ a.length + 1 ≤ a.length := by omega
      simp only [appendV, hx, h0]
      rw [if_neg (by decide), if_pos (by omega), if_neg h1, List.map_append, List.flatten_append]
      rfl
def maskV (a : List Nat) : List Value := (List.range 8).map fun m => .bool (decide (m ∈ a))
theorem maskV_len (a : List Nat) : (maskV a).length = 8 := rfl
theorem maskV_at {a : List Nat} {m : Nat} (h : m < 8) : (maskV a)[m]? = some (.bool (decide (m ∈ a))) := by
  unfold maskV
  rw [List.getElem?_map, List.getElem?_range h]; rfl
theorem maskV_set (a : List Nat) {i : Nat} (h : i < 8) : (maskV a).set i (.bool true) = maskV (a ++ [i]) := by
  apply List.ext_getElem?
  intro j
  rw [List.getElem?_set]
  by_cases hj : j < 8
  · rw [maskV_at hj, maskV_at hj, maskV_len]
    have e4 : j ∈ a ++ [i] ↔ j ∈ a ∨ j = i := by rw [List.mem_append, List.mem_singleton]
    by_cases e2 : i = j
    · rw [if_pos e2, if_pos (by omega), decide_eq_true (e4.2 (.inr e2.symm))]
    · rw [if_neg e2]
      have e5 : decide (j ∈ a ++ [i]) = decide (j ∈ a) := by
        rw [Bool.eq_iff_iff, decide_eq_true_iff, decide_eq_true_iff, e4]
        exact ⟨fun h => h.resolve_right fun h => e2 h.symm, .inl⟩
      rw [e5]
  · rw [List.getElem?_eq_none (by rw [maskV_len]; omega), List.getElem?_eq_none (by rw [maskV_len]; omega)]
    split
    · rw [maskV_len]; rename_i h2; rw [if_neg (by omega)]
    · rfl
theorem maskV_one (a : List Nat) : (maskV a).all oneCell = true := by unfold maskV; rw [List.all_map, List.all_eq_true]; intro x _; rfl
def Loc (N : Nat) (h h' : Heap) : Prop := h.length ≤ h'.length ∧ ∀ b, N ≤ b → b < h.length → h'[b]? = h[b]?
theorem Loc.refl (N : Nat) (h : Heap) : Loc N h h := ⟨Nat.le_refl _, fun _ _ _ => rfl⟩
theorem Loc.trans {N : Nat} {a b c : Heap} (h : Loc N a b) (k : Loc N b c) : Loc N a c := ⟨Nat.le_trans h.1 k.1, fun x h1 h2 => (k.2 x h1 (by have := h.1; omega)).trans (h.2 x h1 h2)⟩
theorem Loc.app {N : Nat} {h h' : Heap} (k : Loc N h h') (x : Heap) : Loc N h (h' ++ x) := ⟨by have := k.1; simp; omega, fun b h1 h2 => by rw [List.getElem?_append_left (by have := k.1; omega)]; exact k.2 b h1 h2⟩
theorem Loc.tr {N : Nat} {h h' h3 : Heap} (k : Loc N h h') (t : Tr h h' h3) : Loc N h h3 := by
  rcases t with rfl | ⟨rfl, _⟩
  · exact k
  · refine ⟨by rw [List.length_take]; have := k.1; omega, fun b h1 h2 => ?_⟩
    rw [List.getElem?_take, if_pos h2]; exact k.2 b h1 h2
structure AheadJ (N : Nat) (J : Nat → Heap → Prop) : Prop where
  of : ∀ {k : Nat} {h h' : Heap}, J k h → (∀ b, b < N → h'[b]? = h[b]?) → J k h'
theorem AheadJ.tr {N : Nat} {J : Nat → Heap → Prop} (s : AheadJ N J) {k : Nat} {h h' h3 : Heap} (j : J k h') (hN : N ≤ h.length) (t : Tr h h' h3) : J k h3 := by
  rcases t with rfl | ⟨rfl, _⟩
  · exact j
  · exact s.of j fun b hb => by rw [List.getElem?_take, if_pos (by omega)]
def Told (E : Env) (L N : Nat) (W : Nat → Prop) (J : Nat → Heap → Prop) (k : Nat) (ps : List (List Nat)) : Prop :=
  ∀ (j : Nat) (p : List Nat) (h : Heap) (v : Value), ps[j]? = some p → N ≤ h.length → J (k + j) h → Rd 1 encI h v (ofN p) → WX W (callW E (.func (.yield L) #[] #[]) [v] h) (fun r h' => r = .bool true ∧ J (k + j + 1) h' ∧ Loc N h h')
theorem Told.left {L N : Nat} {W : Nat → Prop} {J : Nat → Heap → Prop} {k : Nat} {ps qs : List (List Nat)} (t : Told E L N W J k (ps ++ qs)) : Told E L N W J k ps := fun j p h v hp => t j p h v (by rw [List.getElem?_append_left (List.getElem?_eq_some_iff.1 hp).1]; exact hp)
theorem Told.right {L N : Nat} {W : Nat → Prop} {J : Nat → Heap → Prop} {k : Nat} {ps qs : List (List Nat)} (t : Told E L N W J k (ps ++ qs)) : Told E L N W J (k + ps.length) qs := fun j p h v hp hN hj hr => by
  have := t (ps.length + j) p h v (by rw [List.getElem?_append_right (by omega), show ps.length + j - ps.length = j by omega]; exact hp) hN (by rw [← Nat.add_assoc]; exact hj) hr
  rw [← Nat.add_assoc] at this
  exact this
def permsI (n d : Nat) (a : List Nat) (i : Nat) : List (List Nat) := if i ∈ a then [] else permsN n d (a ++ [i])
theorem permsN_split {n d : Nat} {a : List Nat} {i : Nat} (hi : i < n) : permsN n (d + 1) a = (List.range i).flatMap (permsI n d a) ++ (permsI n d a i ++ ((List.range (n - i - 1)).map (fun x => i + 1 + x)).flatMap (permsI n d a)) := by
  have e : List.range n = List.range i ++ (i :: (List.range (n - i - 1)).map fun x => i + 1 + x) := by
    apply List.ext_getElem
    · simp; omega
    · intro m h1 h2
      rw [List.getElem_range]
      rcases Nat.lt_or_ge m i with h | h
      · rw [List.getElem_append_left (by simpa using h), List.getElem_range]
      · rw [List.getElem_append_right (by simpa using h)]
        rcases Nat.eq_or_lt_of_le h with h3 | h3
        · subst h3; simp
        · obtain ⟨q, rfl⟩ : ∃ q, m = i + 1 + q := ⟨m - i - 1, by omega⟩
          have : i + 1 + q - (List.range i).length = q + 1 := by simp; omega
          simp only [this, List.getElem_cons_succ, List.getElem_map, List.getElem_range]
  show (List.range n).flatMap _ = _
  rw [e, List.flatMap_append, List.flatMap_cons]
  rfl
theorem range_flat {n d : Nat} {a : List Nat} {i : Nat} : (List.range (i + 1)).flatMap (permsI n d a) = (List.range i).flatMap (permsI n d a) ++ permsI n d a i := by
  rw [List.range_succ, List.flatMap_append]; simp
theorem fromS (hE : Laid E) {n : Nat} (hn : 1 ≤ n ∧ n ≤ 8) {L N : Nat} {W : Nat → Prop} (hW : ∀ b, N ≤ b → W b) {J : Nat → Heap → Prop} (s : AheadJ N J) : ∀ (d : Nat) (a : List Nat) (k : Nat) (h : Heap) (va : Value), a.length + d = n → N ≤ h.length → J k h → Rd 1 encI h va (ofN a) → (va ≠ .slice none 0 0 → N ≤ blk va) → Told E L N W J k (permsN n d a) →
    WX W (callW E (.func (.func n_order_from) #[] #[]) [va, .agg (maskV a).toArray, .int .i64 n, .func (.yield L) #[] #[]] h) (fun r h' => r = .bool true ∧ J (k + (permsN n d a).length) h' ∧ Loc N h h')
  | 0, a, k, h, va, ha, hN, hj, hr, hb, ht => by
    refine fn_tr hE.keep hE.order_from rfl (by simp) ?_
    have hl := hr.len
    rw [ofN_len, show a.length = n by omega] at hl
    have hne : ofN a ≠ [] := fun e => by have := ofN_len a; rw [e] at this; simp at this; omega
    have mo := maskV_one a
    have ml := maskV_len a
    have hc := hr.cv
    have ho := hr.one
    have ha1 := ofN_len a
    generalize maskV a = mv at *
    simp only [List.cons_append, List.nil_append, argsF]
    (repeat' (first | (with_reducible refine A1 (fun _ => ?_) (fun _ => ?_) <;> try (exfalso; omega)) | (with_reducible refine A2 (fun _ => ?_) (fun _ => ?_) <;> try (exfalso; omega)) | (with_reducible refine A3 (fun _ => ?_) (fun _ => ?_) <;> try (exfalso; omega)) | refine A4 (fun _ => ?_) (fun _ => ?_) | refine A5 (fun _ => ?_) (fun _ => ?_) | refine A6 (fun _ => ?_) (fun _ => ?_) | simp -dsimp (disch := omega) only [↓EA, EB, Nat.reduceEqDiff, Nat.reduceAdd, Nat.reduceLeDiff, Nat.reduceMul, ↓reduceIte, reduceCtorEq, newCells, bslV, eq_self, *]))
    refine wx_new (cloneI hE (hr.app _) hne (by omega)) fun v ys r0 p0 => ?_
    have hr0 := r0.rd
    have hc0 := hr0.cv
    have ho0 := hr0.one
    have hlen := p0.le
    have hj0 : J k (h ++ [LObj.cells mv false] ++ ys) := s.of hj fun b hb => by rw [List.append_assoc, List.getElem?_append_left (by omega)]
    have hloc : Loc N h (h ++ [LObj.cells mv false] ++ ys) := ((Loc.refl N h).app _).app _
    have hy := ht 0 a (h ++ [LObj.cells mv false] ++ ys) v rfl (by simp; omega) hj0 hr0
    have hpl : (permsN n 0 a).length = 1 := rfl
    rw [hpl]
    clear r0 p0 ht
    generalize h ++ [LObj.cells mv false] ++ ys = H at *
    (repeat' (first | (with_reducible refine A1 (fun _ => ?_) (fun _ => ?_) <;> try (exfalso; omega)) | (with_reducible refine A2 (fun _ => ?_) (fun _ => ?_) <;> try (exfalso; omega)) | (with_reducible refine A3 (fun _ => ?_) (fun _ => ?_) <;> try (exfalso; omega)) | refine A4 (fun _ => ?_) (fun _ => ?_) | refine A5 (fun _ => ?_) (fun _ => ?_) | refine A6 (fun _ => ?_) (fun _ => ?_) | simp -dsimp (disch := omega) only [↓EA, EB, Nat.reduceEqDiff, Nat.reduceAdd, Nat.reduceLeDiff, Nat.reduceMul, ↓reduceIte, reduceCtorEq, newCells, bslV, eq_self, *]))
    refine WX.mono hy (fun b h => h) fun r h' ⟨e, j, l⟩ => ?_
    subst e
    have hq : ∀ h3, Tr h h' h3 → J (k + 1) h3 ∧ Loc N h h3 := fun h3 t => ⟨s.tr j hN t, (hloc.trans l).tr t⟩
    have Hq := Hid.mk hq
    clear hq j l
    (repeat' (first | (with_reducible refine A1 (fun _ => ?_) (fun _ => ?_) <;> try (exfalso; omega)) | (with_reducible refine A2 (fun _ => ?_) (fun _ => ?_) <;> try (exfalso; omega)) | (with_reducible refine A3 (fun _ => ?_) (fun _ => ?_) <;> try (exfalso; omega)) | refine A4 (fun _ => ?_) (fun _ => ?_) | refine A5 (fun _ => ?_) (fun _ => ?_) | refine A6 (fun _ => ?_) (fun _ => ?_) | simp -dsimp (disch := omega) only [↓EA, EB, Nat.reduceEqDiff, Nat.reduceAdd, Nat.reduceLeDiff, Nat.reduceMul, ↓reduceIte, reduceCtorEq, newCells, bslV, eq_self, *]))
    exact Hq.out
  | d + 1, a, k, h, va, ha, hN, hj, hr, hb, ht => by
    refine fn_tr hE.keep hE.order_from rfl (by simp) ?_
    have hl := hr.len
    rw [ofN_len] at hl
    have mo := maskV_one a
    have ml := maskV_len a
    have hc := hr.cv
    have ho := hr.one
    have ha1 := ofN_len a
    have Ht := Hid.mk ht
    have Hb := Hid.mk hb
    have hj0 : J k (h ++ [LObj.cells (maskV a) false]) := s.of hj fun b hb => by rw [List.getElem?_append_left (by omega)]
    have hr0 := hr.app [LObj.cells (maskV a) false]
    have hb5 : (h ++ [LObj.cells (maskV a) false])[h.length]? = some (.cells (maskV a) false) := by rw [geta0]; rfl
    have hne : ¬ ((a.length : Int) = (n : Int)) := by omega
    have Hloc := Hid.mk ((Loc.refl N h).app [LObj.cells (maskV a) false])
    have hH : (h ++ [LObj.cells (maskV a) false]).length = h.length + 1 := by simp
    simp only [List.cons_append, List.nil_append, argsF]
    clear ht hb hj hr
    (repeat' (first | (with_reducible refine A1 (fun _ => ?_) (fun _ => ?_) <;> try (exfalso; omega)) | (with_reducible refine A2 (fun _ => ?_) (fun _ => ?_) <;> try (exfalso; omega)) | (with_reducible refine A3 (fun _ => ?_) (fun _ => ?_) <;> try (exfalso; omega)) | refine A4 (fun _ => ?_) (fun _ => ?_) | refine A5 (fun _ => ?_) (fun _ => ?_) | refine A6 (fun _ => ?_) (fun _ => ?_) | simp -dsimp (disch := omega) only [↓EA, EB, Nat.reduceEqDiff, Nat.reduceAdd, Nat.reduceLeDiff, Nat.reduceMul, ↓reduceIte, reduceCtorEq, newCells, bslV, eq_self, *]))
    generalize h ++ [LObj.cells (maskV a) false] = H at *
    refine WO.loop (fun (i : Nat) fr h' => i ≤ n ∧ J (k + ((List.range i).flatMap (permsI n d a)).length) h' ∧ Loc N H h' ∧ get fr 0 = va ∧ get fr 2 = .int .i64 n ∧ get fr 3 = .func (.yield L) #[] #[] ∧ get fr 5 = .pointer (some ⟨h.length, 0, none⟩) ∧ get fr 19 = .int .i64 n ∧ get fr 20 = .int .i64 i) (fun i => n - i) ?_ 0 ⟨Nat.zero_le _, hj0, Loc.refl N H, rfl, rfl, rfl, rfl, rfl, rfl⟩
    clear hj0
    rintro i fr h' ⟨hi, hj, hloc, g0, g2, g3, g5, g19, g20⟩
    unfold c_order_from_l0
    have hb5' : h'[h.length]? = some (.cells (maskV a) false) := by rw [hloc.2 _ hN (by omega)]; exact hb5
    have hr' : Rd 1 encI h' va (ofN a) := hr0.keep fun hnn => hloc.2 _ (Hb.out hnn) (by have := hr0.lt' hnn; exact this)
    rcases Nat.lt_or_ge i n with hlt | hge
    · have hi8 : i < 8 := by omega
      have hm := maskV_at (a := a) hi8
      have Hsp := Hid.mk (permsN_split (d := d) (a := a) hlt)
      have Hrf := Hid.mk (range_flat (n := n) (d := d) (a := a) (i := i))
      have hixa : ixaV 8 1 (.pointer (some ⟨h.length, 0, none⟩)) (.int .i64 (i : Int)) = some (.pointer (some ⟨h.length, i, none⟩)) := by
        simp only [ixaV, addrOf]
        rw [if_pos (by omega)]
        simp
      by_cases hia : i ∈ a
      · rw [decide_eq_true hia] at hm
        have hp0 : permsI n d a i = [] := if_pos hia
        have Hp0 := Hid.mk hp0
        clear hp0
        generalize maskV a = mv at *
        (repeat' (first | (with_reducible refine A1 (fun _ => ?_) (fun _ => ?_) <;> try (exfalso; omega)) | (with_reducible refine A2 (fun _ => ?_) (fun _ => ?_) <;> try (exfalso; omega)) | (with_reducible refine A3 (fun _ => ?_) (fun _ => ?_) <;> try (exfalso; omega)) | refine A4 (fun _ => ?_) (fun _ => ?_) | refine A5 (fun _ => ?_) (fun _ => ?_) | refine A6 (fun _ => ?_) (fun _ => ?_) | simp -dsimp (disch := omega) only [↓EA, EB, Nat.reduceEqDiff, Nat.reduceAdd, Nat.reduceLeDiff, Nat.reduceMul, ↓reduceIte, reduceCtorEq, newCells, bslV, eq_self, *, hixa]))
        refine Next.mk (i + 1) ⟨by omega, by rw [Hrf.out, Hp0.out, List.append_nil]; exact hj, hloc, rfl, rfl, rfl, rfl, rfl, rfl⟩ (by omega)
      · rw [decide_eq_false hia] at hm
        have hms := maskV_set a hi8
        have mo2 := maskV_one (a ++ [i])
        have ml2 := maskV_len (a ++ [i])
        obtain ⟨sl, e1, e2, e3, e4⟩ := cut_app hr' (by omega)
        generalize maskV a = mv at *
        have htk : List.take 8 mv = mv := List.take_of_length_le (by omega)
        have hst0 : setCells [Value.bool false, Value.bool false, Value.bool false, Value.bool false, Value.bool false, Value.bool false, Value.bool false, Value.bool false] 0 mv = mv := by
          match mv, ml with
          | [a0, a1, a2, a3, a4, a5, a6, a7], _ => rfl
        have ml1 : (mv.set i (.bool true)).length = 8 := by rw [List.length_set]; exact ml
        have hi81 : i + 1 ≤ 8 := hi8
        rw [ha1] at e1
        have hixb : ixaV 8 1 (.pointer (some ⟨h'.length, 0, none⟩)) (.int .i64 (i : Int)) = some (.pointer (some ⟨h'.length, i, none⟩)) := by
          simp only [ixaV, addrOf]
          rw [if_pos (by omega)]
          simp
        (repeat' (first | (with_reducible refine A1 (fun _ => ?_) (fun _ => ?_) <;> try (exfalso; omega)) | (with_reducible refine A2 (fun _ => ?_) (fun _ => ?_) <;> try (exfalso; omega)) | (with_reducible refine A3 (fun _ => ?_) (fun _ => ?_) <;> try (exfalso; omega)) | refine A4 (fun _ => ?_) (fun _ => ?_) | refine A5 (fun _ => ?_) (fun _ => ?_) | refine A6 (fun _ => ?_) (fun _ => ?_) | simp -dsimp (disch := omega) only [↓EA, EB, Nat.reduceEqDiff, Nat.reduceAdd, Nat.reduceLeDiff, Nat.reduceMul, ↓reduceIte, reduceCtorEq, newCells, bslV, eq_self, *, hixa, hixb, htk, hst0]))
        have hNh : N ≤ h'.length := by have := hloc.1; omega
        have hap := e4 (h' ++ [LObj.cells (maskV (a ++ [i])) false, LObj.cells [.int .i64 (i : Int)] false]) (.slice (some ⟨h'.length + 1, 0, none⟩) 1 1) (i : Int) (fun b o hb _ => by rw [List.getElem?_append_left (List.getElem?_eq_some_iff.1 hb).1]; exact hb) (by rw [cellsOf_some, geta]; rfl)
        refine ⟨hW _ hNh, hW _ hNh, ?_⟩
        rw [hap]
        have hof : ofN a ++ [(i : Int)] = ofN (a ++ [i]) := by simp [ofN]
        rw [hof] at hap ⊢
        have hr2 : Rd 1 encI (h' ++ [LObj.cells (maskV (a ++ [i])) false, LObj.cells [.int .i64 (i : Int)] false] ++ [LObj.cells ((ofN (a ++ [i])).map encI).flatten false]) (.slice (some ⟨(h' ++ [LObj.cells (maskV (a ++ [i])) false, LObj.cells [.int .i64 (i : Int)] false]).length, 0, some 1⟩) ((ofN a).length + 1) ((ofN a).length + 1)) (ofN (a ++ [i])) := by
          have := Rd.lit (sz := 1) (enc := encI) (h := h' ++ [LObj.cells (maskV (a ++ [i])) false, LObj.cells [.int .i64 (i : Int)] false] ++ [LObj.cells ((ofN (a ++ [i])).map encI).flatten false]) (b := (h' ++ [LObj.cells (maskV (a ++ [i])) false, LObj.cells [.int .i64 (i : Int)] false]).length) (sp := some 1) (cap := (ofN a).length + 1) (ro := false) (ofN (a ++ [i])) (by rw [geta0]; rfl) rfl (fun _ => rfl) (by rw [ofN_len]; simp; omega) (by rw [← hof]; simp) (.inr rfl)
          rw [show (ofN (a ++ [i])).length = (ofN a).length + 1 by rw [← hof]; simp] at this
          exact this
        have htk2 : List.take 8 (maskV (a ++ [i])) = maskV (a ++ [i]) := List.take_of_length_le (by omega)
        have hm2 : (h' ++ [LObj.cells (maskV (a ++ [i])) false, LObj.cells [.int .i64 (i : Int)] false] ++ [LObj.cells ((ofN (a ++ [i])).map encI).flatten false])[h'.length]? = some (.cells (maskV (a ++ [i])) false) := by rw [List.append_assoc, geta0]; rfl
        have hj2 : J (k + ((List.range i).flatMap (permsI n d a)).length) (h' ++ [LObj.cells (maskV (a ++ [i])) false, LObj.cells [.int .i64 (i : Int)] false] ++ [LObj.cells ((ofN (a ++ [i])).map encI).flatten false]) := s.of hj fun b hb => by rw [List.append_assoc, List.getElem?_append_left (by omega)]
        have hl2 : Loc N h' (h' ++ [LObj.cells (maskV (a ++ [i])) false, LObj.cells [.int .i64 (i : Int)] false] ++ [LObj.cells ((ofN (a ++ [i])).map encI).flatten false]) := ((Loc.refl N h').app _).app _
        have hle2 : N ≤ (h' ++ [LObj.cells (maskV (a ++ [i])) false, LObj.cells [.int .i64 (i : Int)] false]).length := by simp; omega
        have hb2 : h'.length < (h' ++ [LObj.cells (maskV (a ++ [i])) false]).length := by simp
        have hp0 : permsI n d a i = permsN n d (a ++ [i]) := if_neg hia
        have ht2 : Told E L N W J (k + ((List.range i).flatMap (permsI n d a)).length) (permsN n d (a ++ [i])) := by
          have := Ht.out
          rw [Hsp.out, hp0] at this
          exact this.right.left
        have ih := fromS hE hn hW s d (a ++ [i]) (k + ((List.range i).flatMap (permsI n d a)).length) _ _ (by simp; omega) (by simp; omega) hj2 hr2 (fun _ => hle2) ht2
        generalize (h' ++ [LObj.cells (maskV (a ++ [i])) false]).length = m at *
        have Hp0 := Hid.mk hp0
        clear hap e4 ht2 hr2 hp0 hj2 hst0 htk hixb hixa hms hm hb5' hb5 hr' hr0 ml1 hi81 mo ml
        generalize Value.slice (some ⟨(h' ++ [LObj.cells (maskV (a ++ [i])) false, LObj.cells [.int .i64 (i : Int)] false]).length, 0, some 1⟩) ((ofN a).length + 1) ((ofN a).length + 1) = va2 at *
        generalize h' ++ [LObj.cells (maskV (a ++ [i])) false, LObj.cells [.int .i64 (i : Int)] false] ++ [LObj.cells ((ofN (a ++ [i])).map encI).flatten false] = H2 at *
        generalize maskV (a ++ [i]) = mv2 at *
        (repeat' (first | (with_reducible refine A1 (fun _ => ?_) (fun _ => ?_) <;> try (exfalso; omega)) | (with_reducible refine A2 (fun _ => ?_) (fun _ => ?_) <;> try (exfalso; omega)) | (with_reducible refine A3 (fun _ => ?_) (fun _ => ?_) <;> try (exfalso; omega)) | refine A4 (fun _ => ?_) (fun _ => ?_) | refine A5 (fun _ => ?_) (fun _ => ?_) | refine A6 (fun _ => ?_) (fun _ => ?_) | simp -dsimp (disch := omega) only [↓EA, EB, Nat.reduceEqDiff, Nat.reduceAdd, Nat.reduceLeDiff, Nat.reduceMul, ↓reduceIte, reduceCtorEq, newCells, bslV, eq_self, *]))
        refine ⟨by simp [low]; exact hb2, ?_⟩
        (repeat' (first | (with_reducible refine A1 (fun _ => ?_) (fun _ => ?_) <;> try (exfalso; omega)) | (with_reducible refine A2 (fun _ => ?_) (fun _ => ?_) <;> try (exfalso; omega)) | (with_reducible refine A3 (fun _ => ?_) (fun _ => ?_) <;> try (exfalso; omega)) | refine A4 (fun _ => ?_) (fun _ => ?_) | refine A5 (fun _ => ?_) (fun _ => ?_) | refine A6 (fun _ => ?_) (fun _ => ?_) | simp -dsimp (disch := omega) only [↓EA, EB, Nat.reduceEqDiff, Nat.reduceAdd, Nat.reduceLeDiff, Nat.reduceMul, ↓reduceIte, reduceCtorEq, newCells, bslV, eq_self, *, htk2]))
        refine WX.mono ih (fun b h => h) fun r h4 ⟨e, j, l⟩ => ?_
        subst e
        have Hj := Hid.mk j
        have Hl := Hid.mk l
        clear j l
        (repeat' (first | (with_reducible refine A1 (fun _ => ?_) (fun _ => ?_) <;> try (exfalso; omega)) | (with_reducible refine A2 (fun _ => ?_) (fun _ => ?_) <;> try (exfalso; omega)) | (with_reducible refine A3 (fun _ => ?_) (fun _ => ?_) <;> try (exfalso; omega)) | refine A4 (fun _ => ?_) (fun _ => ?_) | refine A5 (fun _ => ?_) (fun _ => ?_) | refine A6 (fun _ => ?_) (fun _ => ?_) | simp -dsimp (disch := omega) only [↓EA, EB, Nat.reduceEqDiff, Nat.reduceAdd, Nat.reduceLeDiff, Nat.reduceMul, ↓reduceIte, reduceCtorEq, newCells, bslV, eq_self, *]))
        refine Next.mk (i + 1) ⟨by omega, ?_, (hloc.trans hl2).trans Hl.out, rfl, rfl, rfl, rfl, rfl, rfl⟩ (by omega)
        rw [Hrf.out, Hp0.out, List.length_append, ← Nat.add_assoc]
        exact Hj.out
    · have e : i = n := by omega
      subst e
      have hq : ∀ h3, Tr h h' h3 → J (k + (permsN i (d + 1) a).length) h3 ∧ Loc N h h3 := fun h3 t => ⟨s.tr hj hN t, (Hloc.out.trans hloc).tr t⟩
      have Hq := Hid.mk hq
      clear hq hj
      (repeat' (first | (with_reducible refine A1 (fun _ => ?_) (fun _ => ?_) <;> try (exfalso; omega)) | (with_reducible refine A2 (fun _ => ?_) (fun _ => ?_) <;> try (exfalso; omega)) | (with_reducible refine A3 (fun _ => ?_) (fun _ => ?_) <;> try (exfalso; omega)) | refine A4 (fun _ => ?_) (fun _ => ?_) | refine A5 (fun _ => ?_) (fun _ => ?_) | refine A6 (fun _ => ?_) (fun _ => ?_) | simp -dsimp (disch := omega) only [↓EA, EB, Nat.reduceEqDiff, Nat.reduceAdd, Nat.reduceLeDiff, Nat.reduceMul, ↓reduceIte, reduceCtorEq, newCells, bslV, eq_self, *]))
      exact Hq.out
end Go.L.Try
namespace Go.L.Try
open Go Go.L
variable {E : Env} {G : Nat}
theorem allF (hE : Laid E) {n : Nat} (hn : 1 ≤ n ∧ n ≤ 8) {L N bx : Nat} {W : Nat → Prop} (hW : ∀ b, N ≤ b → W b) {J : Nat → Heap → Prop} (s : AheadJ N J) {h : Heap} (hN : N ≤ h.length) (hj : J 0 h) (hb : h[bx]? = some (.cells [.int .i64 (n : Int)] false)) (ht : Told E L N W J 0 (permsN n n [])) :
    WX W (callW E (.func (.func n_order_All_f1) #[] #[.pointer (some ⟨bx, 0, none⟩)]) [.func (.yield L) #[] #[]] h) (fun _ h' => J (permsN n n []).length h' ∧ Loc N h h') := by
  refine fn_tr hE.keep hE.order_All_f1 rfl (by simp) ?_
  have hf := fromS hE hn hW s n [] 0 h (.slice none 0 0) (by simp) hN hj (Rd.of_nil) (fun e => absurd rfl e) ht
  rw [Nat.zero_add] at hf
  have hm : (maskV []).toArray = #[.bool false, .bool false, .bool false, .bool false, .bool false, .bool false, .bool false, .bool false] := rfl
  rw [hm] at hf
  have h1 : (0 : Int) ≤ n := by omega
  have h2 : (n : Int) ≤ 8 := by omega
  simp only [List.cons_append, List.nil_append, argsF]
  (repeat' (first | (with_reducible refine A1 (fun _ => ?_) (fun _ => ?_) <;> try (exfalso; omega)) | (with_reducible refine A2 (fun _ => ?_) (fun _ => ?_) <;> try (exfalso; omega)) | (with_reducible refine A3 (fun _ => ?_) (fun _ => ?_) <;> try (exfalso; omega)) | refine A4 (fun _ => ?_) (fun _ => ?_) | refine A5 (fun _ => ?_) (fun _ => ?_) | refine A6 (fun _ => ?_) (fun _ => ?_) | simp -dsimp (disch := omega) only [↓EA, EB, Nat.reduceEqDiff, Nat.reduceAdd, Nat.reduceLeDiff, Nat.reduceMul, ↓reduceIte, reduceCtorEq, newCells, bslV, eq_self, *]))
  refine WX.mono hf (fun b h => h) fun r h' ⟨e, j, l⟩ => ?_
  subst e
  have hq : ∀ h3, Tr h h' h3 → J (permsN n n []).length h3 ∧ Loc N h h3 := fun h3 t => ⟨s.tr j hN t, l.tr t⟩
  have Hq := Hid.mk hq
  clear hq j l
  (repeat' (first | (with_reducible refine A1 (fun _ => ?_) (fun _ => ?_) <;> try (exfalso; omega)) | (with_reducible refine A2 (fun _ => ?_) (fun _ => ?_) <;> try (exfalso; omega)) | (with_reducible refine A3 (fun _ => ?_) (fun _ => ?_) <;> try (exfalso; omega)) | refine A4 (fun _ => ?_) (fun _ => ?_) | refine A5 (fun _ => ?_) (fun _ => ?_) | refine A6 (fun _ => ?_) (fun _ => ?_) | simp -dsimp (disch := omega) only [↓EA, EB, Nat.reduceEqDiff, Nat.reduceAdd, Nat.reduceLeDiff, Nat.reduceMul, ↓reduceIte, reduceCtorEq, newCells, bslV, eq_self, *]))
  exact Hq.out
theorem allO (hE : Laid E) (h : Heap) (n : Nat) : ∃ v ys, callW E (.func (.func n_order_All) #[] #[]) [.int .i64 (n : Int)] h = some (v, h ++ ys, []) ∧ Clo1 h.length n_order_All_f1 (fun _ v => v = .int .i64 (n : Int)) (h ++ ys) v := by
  refine fn_new hE.order_All rfl (Clo1.movable (movable_eq rfl)) (by simp) ?_
  simp only [argsF]
  (repeat' (first | (with_reducible refine A1 (fun _ => ?_) (fun _ => ?_) <;> try (exfalso; omega)) | (with_reducible refine A2 (fun _ => ?_) (fun _ => ?_) <;> try (exfalso; omega)) | (with_reducible refine A3 (fun _ => ?_) (fun _ => ?_) <;> try (exfalso; omega)) | refine A4 (fun _ => ?_) (fun _ => ?_) | refine A5 (fun _ => ?_) (fun _ => ?_) | refine A6 (fun _ => ?_) (fun _ => ?_) | simp -dsimp (disch := omega) only [↓EA, EB, Nat.reduceEqDiff, Nat.reduceAdd, Nat.reduceLeDiff, Nat.reduceMul, ↓reduceIte, reduceCtorEq, newCells, bslV, eq_self, *]))
  exact ⟨⟨_, rfl⟩, _, _, rfl, Nat.le_refl _, by rw [geta0]; rfl, rfl⟩
theorem co_told (hK : KeepE E) {sz : Nat} {fr : Fr} {H : Heap} {g : X} {ps : List Nat} {assign body : C} {W : Nat → Prop} {Q : Ex → Fr → Heap → Prop} {f : FuncId} {ca cb : Array Value} {vals : List (List Nat)} (hg : ev (get fr) g = .func (.func f) ca cb)
    {c : Nat} (hcl : c < H.length) (hWc : W c) (acc : Nat → Value) (hs : ∀ k, scal (acc k) = true) (h0 : H[c]? = some (.cells [acc 0] false)) (hps : ps.all (fun p => decide (p < sz)) = true)
    (hcall : ∀ (h1 : Heap) (W' : Nat → Prop) (J : Nat → Heap → Prop), (∀ b, H.length + 1 ≤ b → W' b) → AheadJ (H.length + 1) J → h1.length = H.length + 1 → J 0 h1 → (∀ b, b < H.length → b ≠ c → h1[b]? = H[b]?) → Told E H.length (H.length + 1) W' J 0 vals →
      WX W' (callW E (.func (.func f) ca cb) [.func (.yield H.length) #[] #[]] h1) (fun _ h' => J vals.length h' ∧ Loc (H.length + 1) h1 h'))
    (hstep : ∀ k p v, vals[k]? = some p → ∃ fr0, Go.L.setPs ps [v] fr = some fr0 ∧ ∀ hh : Heap, H.length < hh.length → Rd 1 encI hh v (ofN p) → hh[c]? = some (.cells [acc k] false) → (∀ b, b < H.length → b ≠ c → hh[b]? = H[b]?) →
      WO (fun b => b = c ∨ hh.length ≤ b) (code (callW E) iterW sz assign fr0 hh) (fun e fr1 h1 => e = .normal ∧ h1 = hh ∧ ∀ hh2 : Heap, hh2.length = hh.length → (∀ b, b ≠ H.length → hh2[b]? = hh[b]?) → Rd 1 encI hh2 v (ofN p) →
        WO (fun b => b = c ∨ hh.length ≤ b) (code (callW E) iterW sz body fr1 hh2) (fun e2 _ h2 => e2 = .normal ∧ ∃ ys, h2 = hh2.set c (.cells [acc (k + 1)] false) ++ ys)))
    (hend : Q .normal fr (H.set c (.cells [acc vals.length] false))) :
    WO W (code (callW E) iterW sz (.rng g ps assign body) fr H) Q := by
  refine co_rng hK (W' := fun b => b = c ∨ H.length ≤ b) hg (fun x hx hlt => by rcases hx with rfl | hx; exact hWc; omega) ?_
  generalize hLr : LObj.loop _ = lo
  have hS : AheadJ (H.length + 1) (fun k (h' : Heap) => h'[H.length]? = some lo ∧ h'[c]? = some (.cells [acc k] false) ∧ ∀ b, b < H.length → b ≠ c → h'[b]? = H[b]?) :=
    ⟨fun {k h h'} ⟨a, b, d⟩ he => ⟨by rw [he _ (by omega)]; exact a, by rw [he _ (by omega)]; exact b, fun x hx hne => by rw [he x (by omega)]; exact d x hx hne⟩⟩
  refine WX.mono (hcall (H ++ [lo]) (fun b => b = c ∨ H.length ≤ b) _ (fun b hb => .inr (by omega)) hS (by simp) ⟨by rw [geta0]; rfl, by rw [List.getElem?_append_left hcl]; exact h0, fun b hb _ => List.getElem?_append_left hb⟩ (fun b hb _ => List.getElem?_append_left hb) ?_) (fun b hb => hb) ?_
  · rintro k p hh v hp hN ⟨hL, hc, hall⟩ hr
    rw [Nat.zero_add] at hc ⊢
    obtain ⟨fr0, hset, hst⟩ := hstep k p v hp
    have hA := hst hh (by omega) hr hc hall
    subst hLr
    refine WX.mono (wx_round hK (W := fun b => b = c ∨ hh.length ≤ b) (Rr := fun e h3 => e = .normal ∧ h3 = hh.set c (.cells [acc (k + 1)] false)) hL rfl rfl hps hset (fun b hb => by omega) ?_) (fun b hb => by omega) ?_
    · refine hA.mono (fun b hb => hb) ?_
      rintro e fr1 h1 ⟨rfl, rfl, hB⟩
      refine ⟨rfl, ?_⟩
      have hvl : v ≠ .slice none 0 0 → blk v ≠ H.length := fun hn e => by
        rcases Row.is hr with ⟨e2, _⟩ | ⟨b, off, sp, cap, cc, ro, e2, hb, _⟩
        · exact hn e2
        · rw [e2] at e
          simp only [blk] at e
          rw [e] at hb
          rw [hL] at hb
          cases hb
      refine (hB (h1.set H.length _) (by rw [List.length_set]) (fun b hne => by rw [gets (Ne.symm hne)]) (hr.keep fun hn => by rw [gets (Ne.symm (hvl hn))])).mono (fun b hb => hb) ?_
      rintro e2 fr2 h2 ⟨rfl, ys, rfl⟩
      refine ⟨fun b hb hw => ?_, rfl, ?_⟩
      · rcases hw with rfl | hw
        · rw [List.getElem?_append_left (by simp; omega), gset (by simp; omega)]
          exact noNewO_scal (hs _)
        · omega
      · rw [List.set_append_left _ _ (by simp; omega), set_back hL (by omega), List.take_left' (by simp)]
    · rintro r h' ⟨e, h3, ⟨rfl, rfl⟩, rfl, rfl⟩
      refine ⟨rfl, ⟨?_, ?_, fun b hb hne => ?_⟩, ?_, fun b h1 h2 => ?_⟩
      · show (hh.set c _)[H.length]? = _
        rw [gets (by omega)]; exact hL
      · show (hh.set c _)[c]? = _
        rw [gset (by omega)]
      · show (hh.set c _)[b]? = _
        rw [gets (Ne.symm hne)]; exact hall b hb hne
      · show hh.length ≤ (hh.set c _).length
        rw [List.length_set]; exact Nat.le_refl _
      · show (hh.set c _)[b]? = _
        rw [gets (by omega)]
  · rintro v h' ⟨⟨hL, hc, hall⟩, hlen, _⟩
    simp only [List.length_append, List.length_cons, List.length_nil] at hlen
    refine ⟨_, by rw [hL, ← hLr], by simp, ?_, ?_⟩
    · rintro b hb (rfl | hw)
      · rw [hc]; exact noNewO_scal (hs _)
      · omega
    · have e : h'.take H.length = H.set c (.cells [acc vals.length] false) := by
        apply List.ext_getElem?
        intro b
        rw [List.getElem?_take]
        rcases Nat.lt_or_ge b H.length with hb | hb
        · rw [if_pos hb]
          by_cases hbc : b = c
          · subst hbc; rw [hc, gset hcl]
          · rw [hall b hb hbc, gets (Ne.symm hbc)]
        · rw [if_neg (by omega), List.getElem?_eq_none (by rw [List.length_set]; exact hb)]
      rw [e]; exact hend
end Go.L.Try
set_option maxHeartbeats 8000000
namespace Go.L.Try
open Go Go.L
variable {E : Env} {G : Nat}
theorem assignN_ends {l : List Task} : ∀ (n : Nat) (es : List Nat) (o : List Int) (t : Nat), ((assignN l n es o t).2.2.2 = 0 → (assignN l n es o t).2.1 = 0) ∧ ((assignN l n es o t).2.2.2 ≠ 0 → (assignN l n es o t).1 = [] ∧ 1 ≤ (assignN l n es o t).2.1 ∧ (assignN l n es o t).2.1 ≤ n ∧ (assignN l n es o t).2.2.2 = 16)
  | 0, es, o, t => ⟨fun _ => rfl, fun h => absurd rfl h⟩
  | n + 1, es, o, t => by
    unfold assignN
    split
    · exact ⟨fun h => absurd (show (16 : Int) = 0 from h) (by decide), fun _ => ⟨rfl, Nat.le_add_left 1 n, Nat.le_refl _, rfl⟩⟩
    · rename_i i _
      obtain ⟨a, b⟩ := assignN_ends (l := l) n (es.filter fun k => decide (k ≠ i)) ((i : Int) :: o) (t + (pickL l (inL es) es).2)
      exact ⟨a, fun h => ⟨(b h).1, (b h).2.1, by have := (b h).2.2.1; omega, (b h).2.2.2⟩⟩
def tstO (s : List Task) (p : List Nat) : Bool := decide (allE (applyP s p) = 0)
theorem tstO_iff {s : List Task} {p : List Nat} (hv : validP s) (hp : PermP s.length p) : tstO s p = true ↔ allB (applyP s p) := by
  unfold tstO
  rw [decide_eq_true_iff, allE_zero]
  exact ⟨fun h => h.2, fun h => ⟨applyP_valid hv hp, h⟩⟩
def someO (s : List Task) (k : Nat) : Bool := ((permsN s.length s.length []).take k).any (tstO s)
theorem someO_succ {s : List Task} {k : Nat} {p : List Nat} (h : (permsN s.length s.length [])[k]? = some p) : someO s (k + 1) = (someO s k || tstO s p) := by
  obtain ⟨hk, e⟩ := List.getElem?_eq_some_iff.1 h
  unfold someO
  rw [Go.L.take_snoc hk, List.any_append, atI_nat hk, e]; simp
theorem permsO {n : Nat} : ∀ p ∈ permsN n n [], PermP n p := permsN_perm n [] (by simp) List.nodup_nil (fun m hm => by cases hm)
theorem someO_all {s : List Task} (hv : validP s) (hm : ∀ t ∈ s, Mid t) (hl : s.length ≤ 6) : someO s (permsN s.length s.length []).length = decide ((assignP s).2.2.2 = 0) := by
  obtain ⟨b1, b2⟩ := assign_best hv hm hl
  rw [Bool.eq_iff_iff, decide_eq_true_iff]
  unfold someO
  rw [List.take_length, List.any_eq_true]
  constructor
  · rintro ⟨p, hp, h⟩
    have hpp := permsO p hp
    exact Classical.byContradiction fun hn => b2 hn p hpp ((tstO_iff hv hpp).1 h)
  · intro h
    obtain ⟨q, hq, _, hb⟩ := b1 h
    exact ⟨q, permsN_all s.length [] q hq.len (by simpa using hq), (tstO_iff hv hq).2 hb⟩
theorem applyP_names {s : List Task} {p : List Nat} (h : ∀ t ∈ s, t.name.size < 1152921504606846976) : ∀ t ∈ applyP s p, t.name.size < 1152921504606846976 := by
  intro t ht
  obtain ⟨k, hk, rfl⟩ := List.getElem_of_mem ht
  rw [applyP_len] at hk
  have := applyP_at (p := p) hk
  rw [atI_nat (by rw [applyP_len]; exact hk)] at this
  rw [this]
  exact h (atI s (k : Int)) (atI_mem (l := s) (i := (k : Int)) (by omega) (by omega))
theorem ap_open {m : Nat} {l : List Task} {h : Heap} {v : Value} (a : ApR m l h v) : ∃ w, v = .tuple #[w, .int .i64 0] ∧ RdO m 7 encT h w l := by
  obtain ⟨vs, rfl, hv⟩ := a
  obtain ⟨x, y, rfl, hx, rfl⟩ := each2 hv
  exact ⟨x, rfl, hx⟩
theorem opaBest (hE : Laid E) (hX : LaidAdd E) (hZ : LaidTz E G) (hI : LaidIns E) {h : Heap} (ht : Tab G h) {vl : Value} {l : List Spec} (hl : Rd 5 encSp h vl l) {turn : Int} (hturn : i64in turn) :
    callW E (.func (.func n_law19_OpaBest) #[] #[]) [vl, .int .i64 turn] h = some (.bool true, h, []) := by
  refine fn_same hE.law19_OpaBest rfl (by simp) ?_
  simp only [argsF]
  have aw0 := awake19 hE hX hZ hI ht
  have hset := setP_len l (most := 4) (turn := turn) (by decide)
  have hsm := fun t ht => setP_small (l := l) (most := 4) (turn := turn) (t := t) (by decide) (by decide) ht
  have hv := setP_valid l (most := 4) turn (by decide) (by decide)
  have hnm : ∀ t ∈ setP l 4 turn, t.name.size < 1152921504606846976 := fun t ht => by have := (hsm t ht).name; omega
  have hm1 : ∀ t ∈ setP l 4 turn, Mid t := fun t ht => small_mid (hsm t ht)
  (repeat' (first | (with_reducible refine A1 (fun _ => ?_) (fun _ => ?_) <;> try (exfalso; omega)) | (with_reducible refine A2 (fun _ => ?_) (fun _ => ?_) <;> try (exfalso; omega)) | (with_reducible refine A3 (fun _ => ?_) (fun _ => ?_) <;> try (exfalso; omega)) | refine A4 (fun _ => ?_) (fun _ => ?_) | refine A5 (fun _ => ?_) (fun _ => ?_) | refine A6 (fun _ => ?_) (fun _ => ?_) | simp -dsimp (disch := omega) only [↓EA, EB, Nat.reduceEqDiff, Nat.reduceAdd, Nat.reduceLeDiff, Nat.reduceMul, ↓reduceIte, reduceCtorEq, newCells, bslV, eq_self, *]))
  refine wx_new (set04O hE hl (by decide) (by decide) hturn) fun v ys r1 p1 => ?_
  have rs := r1.rd
  generalize setP l 4 turn = s at *
  have hn6 : s.length ≤ 6 := by omega
  have hn1 : 1 ≤ s.length := by omega
  have hn8 : s.length ≤ 8 := by omega
  have hn1024 : s.length ≤ 1024 := by omega
  have htH := ht.pre p1
  have hle1 := p1.le
  generalize h ++ ys = H at *
  have hls := rs.len
  have os := rs.one
  have cs := rs.cv
  have hne : v ≠ .slice none 0 0 := fun e => by rw [e] at hls; simp [lensV] at hls; omega
  have hbv := rs.lt' hne
  clear hset r1 hturn hsm aw0
  (repeat' (first | (with_reducible refine A1 (fun _ => ?_) (fun _ => ?_) <;> try (exfalso; omega)) | (with_reducible refine A2 (fun _ => ?_) (fun _ => ?_) <;> try (exfalso; omega)) | (with_reducible refine A3 (fun _ => ?_) (fun _ => ?_) <;> try (exfalso; omega)) | refine A4 (fun _ => ?_) (fun _ => ?_) | refine A5 (fun _ => ?_) (fun _ => ?_) | refine A6 (fun _ => ?_) (fun _ => ?_) | simp -dsimp (disch := omega) only [↓EA, EB, Nat.reduceEqDiff, Nat.reduceAdd, Nat.reduceLeDiff, Nat.reduceMul, ↓reduceIte, reduceCtorEq, newCells, bslV, eq_self, *]))
  refine wx_new (assignS hE hX hZ hI (htH.app _) (rs.app _) hnm) fun w ys r2 p2 => ?_
  obtain ⟨vo, rfl, ro⟩ := found_open r2
  have b6 : (H ++ [LObj.cells [v] false] ++ ys)[H.length]? = some (.cells [v] false) := p2 _ _ (by rw [geta0]; rfl)
  have pH : Pre H (H ++ [LObj.cells [v] false] ++ ys) := (Pre.app H _).trans p2
  have hle2 := p2.le
  simp only [List.length_append, List.length_cons, List.length_nil] at hle2
  clear r2 p2
  have hE1 : ((assignP s).2.2.2 = 0 → (assignP s).2.1 = 0 ∧ ∃ q : List Nat, PermP s.length q ∧ (assignP s).1 = ofN q ∧ allB (applyP s q)) ∧ ((assignP s).2.2.2 ≠ 0 → (assignP s).1 = [] ∧ 1 ≤ (assignP s).2.1 ∧ (assignP s).2.1 ≤ s.length ∧ (assignP s).2.2.2 = 16) := by
    have e : assignP s = assignN s s.length (List.range s.length) [] 0 := if_pos hv
    obtain ⟨a, b⟩ := assignN_ends (l := s) s.length (List.range s.length) [] 0
    rw [← e] at a b
    exact ⟨fun h => ⟨a h, (assign_best hv hm1 hn6).1 h⟩, b⟩
  have HE1 := Hid.mk hE1
  have HS := Hid.mk (someO_all hv hm1 hn6)
  have Hv := Hid.mk hv
  clear hE1 hm1 hv
  generalize (assignP s).1 = od at *
  generalize (assignP s).2.1 = lv at *
  generalize (assignP s).2.2.1 = te at *
  generalize (assignP s).2.2.2 = er at *
  have rs2 := rs.pre pH
  have ht2 := htH.pre pH
  have hHl : H.length < (H ++ [LObj.cells [v] false] ++ ys).length := by simp
  generalize H ++ [LObj.cells [v] false] ++ ys = H2 at *
  have oo := ro.one
  have co := ro.cv
  have b6x : ∀ x, (H2 ++ x)[H.length]? = some (.cells [v] false) := fun x => Pre.app H2 x _ _ b6
  have hh2 : h.length ≤ H2.length := by omega
  (repeat' (first | (with_reducible refine A1 (fun _ => ?_) (fun _ => ?_) <;> try (exfalso; omega)) | (with_reducible refine A2 (fun _ => ?_) (fun _ => ?_) <;> try (exfalso; omega)) | (with_reducible refine A3 (fun _ => ?_) (fun _ => ?_) <;> try (exfalso; omega)) | refine A4 (fun _ => ?_) (fun _ => ?_) | refine A5 (fun _ => ?_) (fun _ => ?_) | refine A6 (fun _ => ?_) (fun _ => ?_) | simp -dsimp (disch := omega) only [↓EA, EB, Nat.reduceEqDiff, Nat.reduceAdd, Nat.reduceLeDiff, Nat.reduceMul, ↓reduceIte, reduceCtorEq, newCells, bslV, eq_self, *, b6x]))
  refine wx_new (allO hE _ s.length) fun w ys r3 p3 => ?_
  obtain ⟨bx, u, rfl, hbx, hx, rfl⟩ := r3
  have p3' : Pre H2 (H2 ++ [LObj.cells [vo, .int .i64 (lv : Int), .int .i64 (te : Int)] false] ++ ys) := (Pre.app H2 _).trans p3
  have b7 : (H2 ++ [LObj.cells [vo, .int .i64 (lv : Int), .int .i64 (te : Int)] false] ++ ys)[H2.length]? = some (.cells [vo, .int .i64 (lv : Int), .int .i64 (te : Int)] false) := p3 _ _ (by rw [geta0]; rfl)
  have b6' := p3' _ _ b6
  have rs3 := rs2.pre p3'
  have ro3 := ro.pre p3'
  have ht3 := ht2.pre p3'
  have hle3 := p3'.le
  have hxl := (List.getElem?_eq_some_iff.1 hx).1
  have h7l := (List.getElem?_eq_some_iff.1 b7).1
  simp only [List.length_append, List.length_cons, List.length_nil] at hbx
  have hh3 : h.length ≤ H2.length + 1 + ys.length := by omega
  clear p3 p3' b6 rs2 ro rs b6x
  generalize H2 ++ [LObj.cells [vo, .int .i64 (lv : Int), .int .i64 (te : Int)] false] ++ ys = H3 at *
  (repeat' (first | (with_reducible refine A1 (fun _ => ?_) (fun _ => ?_) <;> try (exfalso; omega)) | (with_reducible refine A2 (fun _ => ?_) (fun _ => ?_) <;> try (exfalso; omega)) | (with_reducible refine A3 (fun _ => ?_) (fun _ => ?_) <;> try (exfalso; omega)) | refine A4 (fun _ => ?_) (fun _ => ?_) | refine A5 (fun _ => ?_) (fun _ => ?_) | refine A6 (fun _ => ?_) (fun _ => ?_) | simp -dsimp (disch := omega) only [↓EA, EB, Nat.reduceEqDiff, Nat.reduceAdd, Nat.reduceLeDiff, Nat.reduceMul, ↓reduceIte, reduceCtorEq, newCells, bslV, eq_self, *]))
  refine ⟨by omega, ?_⟩
  refine co_told hE.keep (H := H3 ++ [LObj.cells [.bool false] false]) (c := H3.length) (vals := permsN s.length s.length []) rfl (by simp) (by omega) (fun k => .bool (someO s k)) (fun k => rfl) (by rw [geta0]; rfl) rfl ?_ ?_ ?_
  · intro h1 W' J hW hS hl1 hj hsame ht
    exact allF hE ⟨hn1, hn8⟩ hW hS (by omega) hj (by rw [hsame _ (by simp; omega) (by omega), List.getElem?_append_left hxl]; exact hx) ht
  · intro k p vp hp
    have hpp := permsO p (List.mem_of_getElem? hp)
    have hsu := Hid.mk (someO_succ hp)
    refine ⟨_, rfl, fun hh hlen hrp hc hsame => ?_⟩
    unfold c_law19_OpaBest_l0
    have orp := hrp.one
    have crp := hrp.cv
    simp only [List.length_append, List.length_cons, List.length_nil] at hlen
    (repeat' (first | (with_reducible refine A1 (fun _ => ?_) (fun _ => ?_) <;> try (exfalso; omega)) | (with_reducible refine A2 (fun _ => ?_) (fun _ => ?_) <;> try (exfalso; omega)) | (with_reducible refine A3 (fun _ => ?_) (fun _ => ?_) <;> try (exfalso; omega)) | refine A4 (fun _ => ?_) (fun _ => ?_) | refine A5 (fun _ => ?_) (fun _ => ?_) | refine A6 (fun _ => ?_) (fun _ => ?_) | simp -dsimp (disch := omega) only [↓EA, EB, Nat.reduceEqDiff, Nat.reduceAdd, Nat.reduceLeDiff, Nat.reduceMul, ↓reduceIte, reduceCtorEq, newCells, bslV, eq_self, *]))
    intro hh2 hl2 hs2 hrp2
    unfold c_law19_OpaBest_l1
    have hc2 : hh2[H3.length]? = some (.cells [.bool (someO s k)] false) := by rw [hs2 _ (by omega)]; exact hc
    have hb2 : ∀ b, b < H3.length → hh2[b]? = H3[b]? := fun b hb => by rw [hs2 b (by omega), hsame b (by simp; omega) (by omega), List.getElem?_append_left hb]
    have b62 : hh2[H.length]? = some (.cells [v] false) := by rw [hb2 _ (by omega)]; exact b6'
    have rs4 : Rd 7 encT hh2 v s := rs3.keep fun _ => hb2 _ (by omega)
    clear hs2 hsame hc
    have hlh : H3.length < hh2.length := by omega
    generalize someO s k = sk at *
    (repeat' (first | (with_reducible refine A1 (fun _ => ?_) (fun _ => ?_) <;> try (exfalso; omega)) | (with_reducible refine A2 (fun _ => ?_) (fun _ => ?_) <;> try (exfalso; omega)) | (with_reducible refine A3 (fun _ => ?_) (fun _ => ?_) <;> try (exfalso; omega)) | refine A4 (fun _ => ?_) (fun _ => ?_) | refine A5 (fun _ => ?_) (fun _ => ?_) | refine A6 (fun _ => ?_) (fun _ => ?_) | simp -dsimp (disch := omega) only [↓EA, EB, Nat.reduceEqDiff, Nat.reduceAdd, Nat.reduceLeDiff, Nat.reduceMul, ↓reduceIte, reduceCtorEq, newCells, bslV, eq_self, *]))
    refine wx_new (applyS hE rs4 ⟨hn1, hn1024⟩ hpp hrp2) fun w ys r5 p5 => ?_
    obtain ⟨x, rfl, rx⟩ := ap_open r5
    have xo := rx.rd.one
    have xc := rx.rd.cv
    have xl := rx.rd.len
    rw [applyP_len] at xl
    have tx := tests14 hE rx.rd (applyP_names hnm)
    have hc3 := p5 _ _ hc2
    have b63 := p5 _ _ b62
    have hst : tstO s p = decide (allE (applyP s p) = 0) := rfl
    rw [← hst] at tx
    have xn := Rd.nt rx.rd
    clear r5 rx hst
    have hsl : ∀ o, (hh2 ++ ys).set H3.length o = hh2.set H3.length o ++ ys := fun o => List.set_append_left _ _ (by omega)
    have Hsl := Hid.mk hsl
    have hl3 : H3.length < (hh2 ++ ys).length := by simp; omega
    clear hsl p5 rs4 hrp2 hrp hc2 b62 hb2
    generalize tstO s p = tb at *
    generalize hh2 ++ ys = K at *
    cases sk <;> cases tb <;> (
      (repeat' (first | (with_reducible refine A1 (fun _ => ?_) (fun _ => ?_) <;> try (exfalso; omega)) | (with_reducible refine A2 (fun _ => ?_) (fun _ => ?_) <;> try (exfalso; omega)) | (with_reducible refine A3 (fun _ => ?_) (fun _ => ?_) <;> try (exfalso; omega)) | refine A4 (fun _ => ?_) (fun _ => ?_) | refine A5 (fun _ => ?_) (fun _ => ?_) | refine A6 (fun _ => ?_) (fun _ => ?_) | simp -dsimp (disch := omega) only [↓EA, EB, Nat.reduceEqDiff, Nat.reduceAdd, Nat.reduceLeDiff, Nat.reduceMul, ↓reduceIte, reduceCtorEq, newCells, bslV, eq_self, *]))
      exact ⟨.inl trivial, ys, by rw [Hsl.out, hsu.out]; rfl⟩)
  · have e7 : (H3 ++ [LObj.cells [.bool false] false]).set H3.length (.cells [.bool (decide (er = 0))] false) = H3 ++ [.cells [.bool (decide (er = 0))] false] := by rw [seta0]; rfl
    rw [HS.out, e7]
    have rs4 := rs3
    clear e7 hx htH ht2 rs3
    have b6x : ∀ x, (H3 ++ x)[H.length]? = some (.cells [v] false) := fun x => Pre.app H3 x _ _ b6'
    have b7x : ∀ x, (H3 ++ x)[H2.length]? = some (.cells [vo, .int .i64 (lv : Int), .int .i64 (te : Int)] false) := fun x => Pre.app H3 x _ _ b7
    have rox := fun x => ro3.app x
    by_cases he : er = 0
    · obtain ⟨elv, q, hq, eod, hb⟩ := HE1.out.1 he
      have htt := (tstO_iff Hv.out hq).2 hb
      unfold tstO at htt
      subst he; subst elv
      rw [decide_eq_true rfl]
      clear HE1 HS hb
      rw [eod] at rox
      have ap := applyS hE (rs4.app [LObj.cells [.bool true] false]) ⟨hn1, hn1024⟩ hq (rox [LObj.cells [.bool true] false])
      (repeat' (first | (with_reducible refine A1 (fun _ => ?_) (fun _ => ?_) <;> try (exfalso; omega)) | (with_reducible refine A2 (fun _ => ?_) (fun _ => ?_) <;> try (exfalso; omega)) | (with_reducible refine A3 (fun _ => ?_) (fun _ => ?_) <;> try (exfalso; omega)) | refine A4 (fun _ => ?_) (fun _ => ?_) | refine A5 (fun _ => ?_) (fun _ => ?_) | refine A6 (fun _ => ?_) (fun _ => ?_) | simp -dsimp (disch := omega) only [↓EA, EB, Nat.reduceEqDiff, Nat.reduceAdd, Nat.reduceLeDiff, Nat.reduceMul, ↓reduceIte, reduceCtorEq, newCells, bslV, eq_self, *, b6x, b7x]))
      refine wx_new ap fun w ys r5 p5 => ?_
      obtain ⟨x, rfl, rx⟩ := ap_open r5
      have xo := rx.rd.one
      have xc := rx.rd.cv
      have tx := tests14 hE rx.rd (applyP_names hnm)
      rw [htt] at tx
      have xn := Rd.nt rx.rd
      have hc3 : (H3 ++ [LObj.cells [.bool true] false] ++ ys)[H3.length]? = some (.cells [.bool true] false) := by rw [List.append_assoc, geta0]; rfl
      have b73 := p5 _ _ (b7x _)
      clear r5 rx p5 ap
      generalize H3 ++ [LObj.cells [.bool true] false] ++ ys = H4 at *
      (repeat' (first | (with_reducible refine A1 (fun _ => ?_) (fun _ => ?_) <;> try (exfalso; omega)) | (with_reducible refine A2 (fun _ => ?_) (fun _ => ?_) <;> try (exfalso; omega)) | (with_reducible refine A3 (fun _ => ?_) (fun _ => ?_) <;> try (exfalso; omega)) | refine A4 (fun _ => ?_) (fun _ => ?_) | refine A5 (fun _ => ?_) (fun _ => ?_) | refine A6 (fun _ => ?_) (fun _ => ?_) | simp -dsimp (disch := omega) only [↓EA, EB, Nat.reduceEqDiff, Nat.reduceAdd, Nat.reduceLeDiff, Nat.reduceMul, ↓reduceIte, reduceCtorEq, newCells, bslV, eq_self, *]))
      rfl
    · obtain ⟨eod, l1, l2, e16⟩ := HE1.out.2 he
      rw [decide_eq_false he]
      subst e16
      rw [eod] at ro3
      have lo := ro3.len
      clear HE1 HS rox ro3
      (repeat' (first | (with_reducible refine A1 (fun _ => ?_) (fun _ => ?_) <;> try (exfalso; omega)) | (with_reducible refine A2 (fun _ => ?_) (fun _ => ?_) <;> try (exfalso; omega)) | (with_reducible refine A3 (fun _ => ?_) (fun _ => ?_) <;> try (exfalso; omega)) | refine A4 (fun _ => ?_) (fun _ => ?_) | refine A5 (fun _ => ?_) (fun _ => ?_) | refine A6 (fun _ => ?_) (fun _ => ?_) | simp -dsimp (disch := omega) only [↓EA, EB, Nat.reduceEqDiff, Nat.reduceAdd, Nat.reduceLeDiff, Nat.reduceMul, ↓reduceIte, reduceCtorEq, newCells, bslV, eq_self, *, b6x, b7x]))
      rfl
end Go.L.Try
