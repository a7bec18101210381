/- POINTERS; SLICES OF KNOWN ROOM; WHAT A STRUCTURE OWNS. -/
import Derived.Test.YtafbiejbnbocoaaDoorV9
set_option linter.unusedVariables false
set_option linter.unusedSimpArgs false
namespace Go.L
open Go
theorem bin_psn {a : Addr} : binOp .eql .ptr (.pointer (some a)) (.pointer none) = some (.bool false) := rfl
theorem bin_pnn : binOp .eql .ptr (.pointer none) (.pointer none) = some (.bool true) := rfl
theorem bin_psn' {a : Addr} : binOp .neq .ptr (.pointer (some a)) (.pointer none) = some (.bool true) := rfl
theorem bin_pnn' : binOp .neq .ptr (.pointer none) (.pointer none) = some (.bool false) := rfl
theorem sls_lo {b o n cap : Nat} {k : IntKind} {x : Int} (h1 : 0 ≤ x) (h2 : x ≤ n) (h3 : n ≤ cap) : slsV 1 (.slice (some ⟨b, o, none⟩) n cap) (some (.int k x)) none none = some (.slice (some ⟨b, o + x.toNat, none⟩) (n - x.toNat) (cap - x.toNat)) := by
  simp [slsV, boundV, h1, h2, h3]
theorem sls_hi0 {b o n cap : Nat} {k : IntKind} {x : Int} (h1 : 0 ≤ x) (h2 : x ≤ cap) : slsV 1 (.slice (some ⟨b, o, none⟩) n cap) none (some (.int k x)) none = some (.slice (some ⟨b, o, none⟩) x.toNat cap) := by
  have : x.toNat ≤ cap := by omega
  simp [slsV, boundV, h1, h2, this]
theorem sls_lohi {b o n cap : Nat} {k k' : IntKind} {x y : Int} (h1 : 0 ≤ x) (h2 : x ≤ y) (h3 : y ≤ cap) : slsV 1 (.slice (some ⟨b, o, none⟩) n cap) (some (.int k x)) (some (.int k' y)) none = some (.slice (some ⟨b, o + x.toNat, none⟩) (y.toNat - x.toNat) (cap - x.toNat)) := by
  have h4 : y.toNat ≤ cap := by omega
  have h5 : x ≤ (y.toNat : Int) := by omega
  simp [slsV, boundV, h1, h3, h4, h5, show 0 ≤ y by omega, show x ≤ max y 0 by omega]
theorem sls_hm {b o n cap : Nat} {k k' : IntKind} {x y : Int} (h1 : 0 ≤ x) (h2 : x ≤ y) (h3 : y ≤ cap) : slsV 1 (.slice (some ⟨b, o, none⟩) n cap) none (some (.int k x)) (some (.int k' y)) = some (.slice (some ⟨b, o, none⟩) x.toNat y.toNat) := by
  have h5 : x ≤ (y.toNat : Int) := by omega
  simp [slsV, boundV, h1, h3, h5, show 0 ≤ y by omega, show x ≤ max y 0 by omega]
theorem sls_nlo {k : IntKind} : slsV 1 (.slice none 0 0) (some (.int k 0)) none none = some (.slice none 0 0) := rfl
theorem sls_nhi {k : IntKind} : slsV 1 (.slice none 0 0) none (some (.int k 0)) none = some (.slice none 0 0) := rfl
theorem setCells_eq : ∀ (cs c : List Value) (o : Nat), o + cs.length ≤ c.length → setCells c o cs = c.take o ++ cs ++ c.drop (o + cs.length)
  | [], c, o, h => by simp [setCells_nil]
  | v :: r, c, o, h => by
    simp only [List.length_cons] at h
    rw [setCells_cons, setCells_eq r (c.set o v) (o + 1) (by rw [List.length_set]; omega)]
    have e1 : (c.set o v).take (o + 1) = c.take o ++ [v] := by
      apply List.ext_getElem?
      intro i
      rw [List.getElem?_take]
      by_cases hi : i < o
      · rw [if_pos (by omega), List.getElem?_set_ne (by omega), List.getElem?_append_left (by simp; omega), List.getElem?_take, if_pos hi]
      · by_cases e : i = o
        · subst e
          rw [if_pos (by omega), List.getElem?_set_self (by omega), List.getElem?_append_right (by simp; omega)]
          simp [Nat.min_eq_left (show i ≤ c.length by omega)]
        · rw [if_neg (by omega), List.getElem?_eq_none (by simp; omega)]
    have e2 : (c.set o v).drop (o + 1 + r.length) = c.drop (o + (r.length + 1)) := by
      rw [List.drop_set_of_lt (by omega)]
      congr 1; omega
    rw [e1, e2]
    simp
theorem wx_room {W : Nat → Prop} {h : Heap} {b n cap : Nat} {c new : List Value} {x : Value} {Q : Value → Heap → Prop} (hb : h[b]? = some (.cells c false)) (hlen : cap ≤ c.length) (hn : n + new.length ≤ cap) (hcap : cap ≤ 1073741824) (hx : cellsOf 1 x h = some (new.length, new)) (hW : W b)
    (hq : Q (.slice (some ⟨b, 0, none⟩) (n + new.length) cap) (h.set b (.cells (c.take n ++ new ++ c.drop (n + new.length)) false))) :
    WX W (appendV 1 8 (.slice (some ⟨b, 0, none⟩) n cap) x h) Q := by
  have hs : cellsOf 1 (.slice (some ⟨b, 0, none⟩) n cap) h = some (n, (c.drop 0).take (n * 1)) := by
    rw [cellsOf_some, hb, cellO_cells, if_pos (by show 0 + n * 1 ≤ c.length; omega)]
  by_cases h0 : new.length = 0
  · have e : new = [] := List.length_eq_zero_iff.1 h0
    subst e
    simp only [List.length_nil, Nat.add_zero, List.append_nil, List.take_append_drop] at hq
    rw [set_same hb] at hq
    refine ⟨.slice (some ⟨b, 0, none⟩) n cap, h, [], ?_, (fun b hb => nomatch hb), hq⟩
    have hf : fits n (.slice (some ⟨b, 0, none⟩) n cap) = true := by simp only [fits]; simp only [List.length_nil] at hn; simp; omega
    simp only [appendV, hx, hs, List.length_nil, if_true, hf]
  · have hcond : (n + new.length) * 8 ≤ 140737488355328 ∧ n + new.length < 4611686018427387904 ∧ (1 : Nat) ≠ 0 ∧ (8 : Nat) ≠ 0 := ⟨by omega, by omega, by decide, by decide⟩
    have hc2 : 0 + (n + new.length) * 1 ≤ c.length := by omega
    have e3 : setCells c (0 + n * 1) new = c.take n ++ new ++ c.drop (n + new.length) := by
      rw [setCells_eq new c (0 + n * 1) (by omega)]; simp
    refine ⟨_, _, [b], ?_, fun y hy => by rw [List.mem_singleton.1 hy]; exact hW, hq⟩
    simp only [appendV, hx, hs, h0, if_false, hcond, and_self, if_true, hn, hb, hc2, e3, ne_eq, not_false_eq_true]
structure Stp (F F' : Nat → Prop) (h h' : Heap) : Prop where
  len : h.length ≤ h'.length
  own : ∀ b, F' b → F b ∨ h.length ≤ b
  lt : ∀ b, F' b → b < h'.length
  keep : ∀ b, b < h.length → ¬ F b → h'[b]? = h[b]?
theorem Stp.trans {F F' F'' : Nat → Prop} {h h' h'' : Heap} (a : Stp F F' h h') (b : Stp F' F'' h' h'') : Stp F F'' h h'' := by
  refine ⟨Nat.le_trans a.len b.len, fun x hx => ?_, b.lt, fun x hx hn => ?_⟩
  · rcases b.own x hx with h1 | h1
    · exact a.own x h1
    · exact .inr (Nat.le_trans a.len h1)
  · rw [b.keep x (Nat.lt_of_lt_of_le hx a.len) (fun h1 => by rcases a.own x h1 with h2 | h2; exact hn h2; omega), a.keep x hx hn]
end Go.L
