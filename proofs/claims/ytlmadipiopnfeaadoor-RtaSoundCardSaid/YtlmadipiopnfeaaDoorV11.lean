/- ROUNDS, AND CALLS, THAT LAY WHAT STAYS. -/
import Derived.Test.YtlmadipiopnfeaaDoorV10
set_option linter.unusedVariables false
set_option linter.unusedSimpArgs false
namespace Go.L
variable {E : Env}
open Go
namespace Own
variable {m sz : Nat} {h h' : Heap} {v : Value} {L : List (List Value)}
theorem append' (o : Own m sz h v L) (hmh : m ≤ h.length) {bytes : Nat} {x : Value} {X : List (List Value)} (hx : cellsOf sz x h = Option.some (X.length, X.flatten)) (hX : X ≠ []) (hs : ∀ e ∈ X, e.length = sz) (hsz : sz ≠ 0) (hby : bytes ≠ 0)
    (hb : (L.length + X.length) * bytes ≤ 140737488355328) : ∃ h' ws v', appendV sz bytes v x h = .some (v', h', ws) ∧ (∀ b ∈ ws, L ≠ [] ∧ b = blk v) ∧ Own m sz h' v' (L ++ X) ∧ blk v' = h.length ∧ h'.length = h.length + 1 ∧ ∀ b, b < h.length → (L ≠ [] → b ≠ blk v) → h'[b]? = h[b]? := by
  have hle : L.length + X.length ≤ (L.length + X.length) * bytes := Nat.le_mul_of_pos_right _ (by omega)
  have hXn : X.length ≠ 0 := by intro e; exact hX (List.length_eq_zero_iff.1 e)
  have hsLX : ∀ e ∈ L ++ X, e.length = sz := by
    intro e he
    rcases List.mem_append.1 he with he | he
    · exact o.row.size e he
    · exact hs e he
  have hcond : (L.length + X.length) * bytes ≤ 140737488355328 ∧ L.length + X.length < 4611686018427387904 ∧ sz ≠ 0 ∧ bytes ≠ 0 := ⟨hb, by omega, hsz, hby⟩
  cases o with
  | nil =>
    refine ⟨h ++ [.cells X.flatten false], [], .slice (.some ⟨h.length, 0, .some sz⟩) X.length X.length, ?_, (fun b hb => nomatch hb), ?_, rfl, by simp, fun b hlt _ => List.getElem?_append_left hlt⟩
    · simp only [List.length_nil, Nat.zero_add] at hcond
      have hc : cellsOf sz (.slice none 0 0) h = Option.some (0, []) := rfl
      simp only [appendV, hx, hc, if_true, hXn, if_false, Nat.zero_add, hcond, and_self, ne_eq, not_false_eq_true, List.nil_append]
    · simp only [List.nil_append]
      exact .some hmh (by rw [geta0]; rfl) hs (by simp at hb hle; omega) hX
  | some hm hb' hsL hf hn =>
    rename_i b
    have hlt := (List.getElem?_eq_some_iff.1 hb').1
    refine ⟨h.set b .dead ++ [.cells (L.flatten ++ X.flatten) false], [b], .slice (.some ⟨h.length, 0, .some sz⟩) (L.length + X.length) (L.length + X.length), ?_, fun x hx => ⟨hn, List.mem_singleton.1 hx⟩, ?_, rfl, by simp, fun x hlt' hne => ?_⟩
    · have hc : cellsOf sz (.slice (.some ⟨b, 0, .some sz⟩) L.length L.length) h = .some (L.length, L.flatten) := by
        rw [cellsOf_some, hb', cellO_cells, flat_len hsL, if_pos (by show 0 + _ ≤ _; omega), List.drop_zero, ← flat_len hsL, List.take_length]
      simp only [appendV, hx, hc, hXn, if_false, hcond, and_self, if_true, hb', ne_eq, not_false_eq_true]
    · rw [← List.length_append]
      refine .some hmh ?_ hsLX (by rw [List.length_append]; omega) (by simp [hX])
      rw [List.getElem?_append_right (by simp), List.length_set, Nat.sub_self, List.flatten_append]; rfl
    · have := hne hn
      simp only [blk] at this
      rw [List.getElem?_append_left (by simpa using hlt'), gets (Ne.symm this)]
end Own
theorem wx_app2 {α : Type} {W : Nat → Prop} {m sz : Nat} {enc : α → List Value} {h0 h : Heap} {v : Value} {l : List α} (o : OwnT m sz enc h v l) (hp : Pre h0 h) (hm : h0.length ≤ m) (hmh : m ≤ h.length) (hW : l ≠ [] → W (blk v)) {bytes : Nat} {x : Value} (a : α) {Q : Value → Heap → Prop}
    (hx : cellsOf sz x h = some (1, enc a)) (hs : (enc a).length = sz) (hsz : sz ≠ 0) (hby : bytes ≠ 0) (hb : (l.length + 1) * bytes ≤ 140737488355328)
    (hq : ∀ v' h', OwnT m sz enc h' v' (l ++ [a]) → Pre h0 h' → blk v' = h.length → h'.length = h.length + 1 → (∀ b, b < h.length → (l ≠ [] → b ≠ blk v) → h'[b]? = h[b]?) → Q v' h') : WX W (appendV sz bytes v x h) Q := by
  obtain ⟨h', ws, v', h1, h2, h3, h4, h5, h6⟩ := Own.append' o hmh (X := [enc a]) (by simpa using hx) (by simp) (by simpa using hs) hsz hby (by simpa using hb)
  refine ⟨v', h', ws, h1, fun b hb => ?_, hq v' h' (by unfold OwnT; simpa using h3) (hp.of_keep hm o h6) h4 h5 fun b hb hn => h6 b hb fun hl => hn fun e => hl (by simp [e])⟩
  obtain ⟨hl, rfl⟩ := h2 b hb
  exact hW fun e => hl (by simp [e])
end Go.L
