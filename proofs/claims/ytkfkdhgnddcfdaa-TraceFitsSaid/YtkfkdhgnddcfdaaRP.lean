/- THE SEAT'S TYPES, as rows want them. -/
import Derived.Test.YtkfkdhgnddcfdaaEnv
import Derived.Test.YtkfkdhgnddcfdaaR1
import Derived.Test.YtkfkdhgnddcfdaaRows
import Derived.OpenShut
set_option maxRecDepth 100000
set_option maxHeartbeats 2000000
set_option linter.unusedVariables false
namespace Go.Proofs.Ytkfkdhgnddcfdaa
open Go.ChangeShapes Go.WideShapes Go.ChangeAt Go.RowKit Go.L
theorem Try.own : ownKnob Try.prog.godebug = none := by kernel_rfl
theorem Try.laidOut : laidOutB Try.prog = true := by kernel_rfl
theorem Try.cellsSpec : Try.prog.cellsOf 63 = 5 := by kernel_rfl
theorem Try.cellsRaw : Try.prog.cellsOf 71 = 5 := by kernel_rfl
theorem Try.cells2 : Try.prog.cellsOf 2 = 1 := by kernel_rfl
theorem Try.cells3 : Try.prog.cellsOf 3 = 1 := by kernel_rfl
theorem Try.underlyingInts : Try.prog.underlying 55 = some (.slice 3) := Try.underlying55
theorem Try.cellsInts : Try.prog.cellsOf 55 = 1 := by kernel_rfl
theorem Try.bytesSpec : 0 < Try.prog.bytesOf 63 := by
  have : Try.prog.bytesOf 63 = 40 := by kernel_rfl
  omega
theorem Try.bytesRaw : 0 < Try.prog.bytesOf 71 := by
  have : Try.prog.bytesOf 71 = 56 := by kernel_rfl
  omega
theorem Try.bytes3 : 0 < Try.prog.bytesOf 3 := by
  have : Try.prog.bytesOf 3 = 8 := by kernel_rfl
  omega
section
variable {W : World} {ι : Inj} {h : Heap} {H : Type} {enc : TypeId × Value → H} {base : Nat} {held : Bool}
theorem len5 {l : List Value} (h : l.length = 5) : ∃ a b c d e, l = [a, b, c, d, e] := by
  match l, h with
  | [a, b, c, d, e], _ => exact ⟨a, b, c, d, e, rfl⟩
theorem spec_elem (n : Nat) (cs : List Value) (y : DataW H × List MemPlace) (hy : DataW.trod enc Try.prog W base (fun _ => true) held n 63 cs = some y) : ∃ a, cs = encSp a := by
  have hl : cs.length = 5 := by
    obtain ⟨_, _, _, _, h1, _, _⟩ := DataW.trod_struct Try.underlying63 hy
    rw [h1]; exact Try.cellsSpec
  obtain ⟨a, ea⟩ := ints_of_struct Try.underlying63 (i := 0) rfl rfl Try.cells3 Try.underlying3 (by rw [Try.cellsSpec]; decide) hy
  obtain ⟨b, eb⟩ := ints_of_struct Try.underlying63 (i := 1) rfl rfl Try.cells3 Try.underlying3 (by rw [Try.cellsSpec]; decide) hy
  obtain ⟨c, ec⟩ := ints_of_struct Try.underlying63 (i := 2) rfl rfl Try.cells3 Try.underlying3 (by rw [Try.cellsSpec]; decide) hy
  obtain ⟨d, ed⟩ := ints_of_struct Try.underlying63 (i := 3) rfl rfl Try.cells3 Try.underlying3 (by rw [Try.cellsSpec]; decide) hy
  obtain ⟨e, ee⟩ := ints_of_struct Try.underlying63 (i := 4) rfl rfl Try.cells3 Try.underlying3 (by rw [Try.cellsSpec]; decide) hy
  obtain ⟨x0, x1, x2, x3, x4, rfl⟩ := len5 hl
  cases ea; cases eb; cases ec; cases ed; cases ee
  exact ⟨⟨a, b, c, d, e⟩, rfl⟩
theorem raw_elem (n : Nat) (cs : List Value) (y : DataW H × List MemPlace) (hy : DataW.trod enc Try.prog W base (fun _ => true) held n 71 cs = some y) :
    ∃ a v n' y', cs = hdR a ++ [v] ∧ DataW.trod enc Try.prog W base (fun _ => true) held n' 55 [v] = some y' ∧ (Few Try.prog 71 y.1 → Few Try.prog 55 y'.1) := by
  obtain ⟨xs, n', _, hyx, h1, h2, h3⟩ := DataW.trod_struct Try.underlying71 hy
  have hl : cs.length = 5 := by rw [h1]; exact Try.cellsRaw
  obtain ⟨a, ea⟩ := ints_of_struct Try.underlying71 (i := 0) rfl rfl Try.cells3 Try.underlying3 (by rw [Try.cellsRaw]; decide) hy
  obtain ⟨b, eb⟩ := ints_of_struct Try.underlying71 (i := 1) rfl rfl Try.cells3 Try.underlying3 (by rw [Try.cellsRaw]; decide) hy
  obtain ⟨c, ec⟩ := ints_of_struct Try.underlying71 (i := 2) rfl rfl Try.cells3 Try.underlying3 (by rw [Try.cellsRaw]; decide) hy
  obtain ⟨d, ed⟩ := ints_of_struct Try.underlying71 (i := 3) rfl rfl Try.cells3 Try.underlying3 (by rw [Try.cellsRaw]; decide) hy
  obtain ⟨x0, x1, x2, x3, x4, rfl⟩ := len5 hl
  cases ea; cases eb; cases ec; cases ed
  have h4 : DataW.trod enc Try.prog W base (fun _ => true) held n' 55 (([.int .i64 a, .int .i64 b, .int .i64 c, .int .i64 d, x4] : List Value).drop 4 |>.take (Try.prog.cellsOf 55)) = xs[4]? := h3 4 _ rfl
  rw [Try.cellsInts] at h4
  have hx4 : 4 < xs.length := by rw [h2]; decide
  rw [List.getElem?_eq_getElem hx4] at h4
  refine ⟨⟨a, b, c, d, []⟩, x4, n', xs[4], rfl, h4, fun hf => ?_⟩
  rw [hyx] at hf
  exact hf.part Try.underlying71 (j := 4) rfl (by rw [List.getElem?_map, List.getElem?_eq_getElem hx4]; rfl)
end
theorem any_of_slice {W : World} {base : Nat} {t e : TypeId} {v : Value} (ht : Try.prog.underlying t = some (.slice e)) (h : Value.okWide Try.prog W .any base t v) : ∀ a n c, [v] = [.slice (some a) n c] → AnyCells W := by
  intro a n c hv
  cases hv
  unfold Value.okWide at h
  rw [ht] at h
  exact any_of_cell h
theorem shape_of_slice {W : World} {base : Nat} {t e : TypeId} {v : Value} (ht : Try.prog.underlying t = some (.slice e)) (h : Value.okWide Try.prog W .any base t v) : ∃ a n c, v = .slice a n c := by
  unfold Value.okWide at h
  rw [ht] at h
  simp only at h
  unfold Cell.okWide at h
  rw [ht] at h
  cases v with
  | slice a n c => exact ⟨a, n, c, rfl⟩
  | _ => simp only [Cell.ok, ht] at h
theorem five (ι : Inj) (a : Go.L.Spec) : VRs ι (encSp a) (encSp a) := .cons (.int _ _) (.cons (.int _ _) (.cons (.int _ _) (.cons (.int _ _) (.cons (.int _ _) .nil))))
theorem four (ι : Inj) (a : Raw) : VRs ι (hdR a) (hdR a) := .cons (.int _ _) (.cons (.int _ _) (.cons (.int _ _) (.cons (.int _ _) .nil)))
theorem wf_i64 {z : Int} (h : (Lit.int .i64 z).wf = true) : i64in z := by
  simp only [Lit.wf, Bool.and_eq_true, decide_eq_true_eq] at h
  have h1 : IntKind.min .i64 = -9223372036854775808 := by decide
  have h2 : IntKind.max .i64 = 9223372036854775807 := by decide
  unfold i64in
  omega
theorem arr2 {cs : Array Value} (h : cs.size = 2) : ∃ x0 x1, cs = #[x0, x1] := by
  obtain ⟨l⟩ := cs
  match l, h with
  | [x0, x1], _ => exact ⟨x0, x1, rfl⟩
theorem Try.cellsPair : Try.prog.cellsOf 24 = 2 := by kernel_rfl
theorem open_pair {W : World} {H : Type} {enc : TypeId × Value → H} {base : Nat} {v : Value} {d : DataW H} {p : List MemPlace} (k : Value.okWide Try.prog W .any base 24 v) (h : DataW.Trod enc Try.prog W 0 (fun _ => true) true 24 v d p) :
    ∃ z u : Int, v = .agg #[.int .i64 z, .int .i64 u] ∧ (Lit.int .i64 z).wf = true ∧ (Lit.int .i64 u).wf = true := by
  unfold Value.okWide at k
  rw [Try.underlying24] at k
  obtain ⟨cs, rfl, hcs, _⟩ := k
  obtain ⟨n, h⟩ := h
  rw [Try.cellsPair] at hcs
  obtain ⟨x0, x1, rfl⟩ := arr2 hcs
  obtain ⟨xs, m, rfl, hx, hl, hn, hel⟩ := DataW.trod_array Try.underlying24 h
  rw [Try.cells3] at hel
  have e0 := hel 0 (by decide)
  have e1 := hel 1 (by decide)
  rw [List.getElem?_eq_getElem (by omega)] at e0 e1
  obtain ⟨z, c0, _, w0⟩ := DataW.trod_int Try.underlying3 e0
  obtain ⟨u, c1, _, w1⟩ := DataW.trod_int Try.underlying3 e1
  have f0 : x0 = .int .i64 z := by
    have : ([x0] : List Value) = [.int .i64 z] := c0
    simpa using this
  have f1 : x1 = .int .i64 u := by
    have : ([x1] : List Value) = [.int .i64 u] := c1
    simpa using this
  exact ⟨z, u, by rw [f0, f1], w0, w1⟩
end Go.Proofs.Ytkfkdhgnddcfdaa
