/- THE SEAT'S TYPES, as rows want them. -/
import Derived.Test.YtakbaliigmnkjaaEnv
import Derived.Test.YtakbaliigmnkjaaR1
import Derived.Test.YtakbaliigmnkjaaRows
import Derived.OpenShut
set_option maxRecDepth 100000
set_option maxHeartbeats 2000000
set_option linter.unusedVariables false
namespace Go.Proofs.Ytakbaliigmnkjaa
open Go.ChangeShapes Go.WideShapes Go.ChangeAt Go.RowKit Go.L
theorem Try.own : ownKnob Try.prog.godebug = none := by kernel_rfl
theorem Try.laidOut : laidOutB Try.prog = true := by kernel_rfl
theorem Try.cellsSpec : Try.prog.cellsOf 54 = 5 := by kernel_rfl
theorem Try.cellsRaw : Try.prog.cellsOf 65 = 5 := by kernel_rfl
theorem Try.cells2 : Try.prog.cellsOf 2 = 1 := by kernel_rfl
theorem Try.cells3 : Try.prog.cellsOf 3 = 1 := by kernel_rfl
theorem Try.underlyingInts : Try.prog.underlying 63 = some (.slice 3) := Try.underlying63
theorem Try.cellsInts : Try.prog.cellsOf 63 = 1 := by kernel_rfl
theorem Try.bytesSpec : 0 < Try.prog.bytesOf 54 := by
  have : Try.prog.bytesOf 54 = 40 := by kernel_rfl
  omega
theorem Try.bytesRaw : 0 < Try.prog.bytesOf 65 := by
  have : Try.prog.bytesOf 65 = 56 := by kernel_rfl
  omega
theorem Try.bytes3 : 0 < Try.prog.bytesOf 3 := by
  have : Try.prog.bytesOf 3 = 8 := by kernel_rfl
  omega
section
variable {W : World} {ι : Inj} {h : Heap} {H : Type} {enc : TypeId × Value → H} {base : Nat} {held : Bool}
theorem len5 {l : List Value} (h : l.length = 5) : ∃ a b c d e, l = [a, b, c, d, e] := by
  match l, h with
  | [a, b, c, d, e], _ => exact ⟨a, b, c, d, e, rfl⟩
theorem spec_elem (n : Nat) (cs : List Value) (y : DataW H × List MemPlace) (hy : DataW.trod enc Try.prog W base (fun _ => true) held n 54 cs = some y) : ∃ a, cs = encSp a := by
  have hl : cs.length = 5 := by
    obtain ⟨_, _, _, _, h1, _, _⟩ := DataW.trod_struct Try.underlying54 hy
    rw [h1]; exact Try.cellsSpec
  obtain ⟨a, ea⟩ := ints_of_struct Try.underlying54 (i := 0) rfl rfl Try.cells3 Try.underlying3 (by rw [Try.cellsSpec]; decide) hy
  obtain ⟨b, eb⟩ := ints_of_struct Try.underlying54 (i := 1) rfl rfl Try.cells3 Try.underlying3 (by rw [Try.cellsSpec]; decide) hy
  obtain ⟨c, ec⟩ := ints_of_struct Try.underlying54 (i := 2) rfl rfl Try.cells3 Try.underlying3 (by rw [Try.cellsSpec]; decide) hy
  obtain ⟨d, ed⟩ := ints_of_struct Try.underlying54 (i := 3) rfl rfl Try.cells3 Try.underlying3 (by rw [Try.cellsSpec]; decide) hy
  obtain ⟨e, ee⟩ := ints_of_struct Try.underlying54 (i := 4) rfl rfl Try.cells3 Try.underlying3 (by rw [Try.cellsSpec]; decide) hy
  obtain ⟨x0, x1, x2, x3, x4, rfl⟩ := len5 hl
  cases ea; cases eb; cases ec; cases ed; cases ee
  exact ⟨⟨a, b, c, d, e⟩, rfl⟩
theorem raw_elem (n : Nat) (cs : List Value) (y : DataW H × List MemPlace) (hy : DataW.trod enc Try.prog W base (fun _ => true) held n 65 cs = some y) :
    ∃ a v n' y', cs = hdR a ++ [v] ∧ DataW.trod enc Try.prog W base (fun _ => true) held n' 63 [v] = some y' ∧ (Few Try.prog 65 y.1 → Few Try.prog 63 y'.1) := by
  obtain ⟨xs, n', _, hyx, h1, h2, h3⟩ := DataW.trod_struct Try.underlying65 hy
  have hl : cs.length = 5 := by rw [h1]; exact Try.cellsRaw
  obtain ⟨a, ea⟩ := ints_of_struct Try.underlying65 (i := 0) rfl rfl Try.cells3 Try.underlying3 (by rw [Try.cellsRaw]; decide) hy
  obtain ⟨b, eb⟩ := ints_of_struct Try.underlying65 (i := 1) rfl rfl Try.cells3 Try.underlying3 (by rw [Try.cellsRaw]; decide) hy
  obtain ⟨c, ec⟩ := ints_of_struct Try.underlying65 (i := 2) rfl rfl Try.cells3 Try.underlying3 (by rw [Try.cellsRaw]; decide) hy
  obtain ⟨d, ed⟩ := ints_of_struct Try.underlying65 (i := 3) rfl rfl Try.cells3 Try.underlying3 (by rw [Try.cellsRaw]; decide) hy
  obtain ⟨x0, x1, x2, x3, x4, rfl⟩ := len5 hl
  cases ea; cases eb; cases ec; cases ed
  have h4 : DataW.trod enc Try.prog W base (fun _ => true) held n' 63 (([.int .i64 a, .int .i64 b, .int .i64 c, .int .i64 d, x4] : List Value).drop 4 |>.take (Try.prog.cellsOf 63)) = xs[4]? := h3 4 _ rfl
  rw [Try.cellsInts] at h4
  have hx4 : 4 < xs.length := by rw [h2]; decide
  rw [List.getElem?_eq_getElem hx4] at h4
  refine ⟨⟨a, b, c, d, []⟩, x4, n', xs[4], rfl, h4, fun hf => ?_⟩
  rw [hyx] at hf
  exact hf.part Try.underlying65 (j := 4) rfl (by rw [List.getElem?_map, List.getElem?_eq_getElem hx4]; rfl)
end
theorem any_of_slice {W : World} {base : Nat} {t e : TypeId} {v : Value} (ht : Try.prog.underlying t = some (.slice e)) (h : Value.okWide Try.prog W .any base t v) : ∀ a n c, [v] = [.slice (some a) n c] → AnyCells W := by
  intro a n c hv
  cases hv
  unfold Value.okWide at h
  rw [ht] at h
  exact any_of_cell h
theorem shape_of_slice {W : World} {base : Nat} {t e : TypeId} {v : Value} (ht : Try.prog.underlying t = some (.slice e)) (h : Value.okWide Try.prog W .any base t v) : ∃ a n c, v = .slice a n c := by
  unfold Value.okWide at h
  rw [ht] at h
  simp only at h
  unfold Cell.okWide at h
  rw [ht] at h
  cases v with
  | slice a n c => exact ⟨a, n, c, rfl⟩
  | _ => simp only [Cell.ok, ht] at h
theorem five (ι : Inj) (a : Go.L.Spec) : VRs ι (encSp a) (encSp a) := .cons (.int _ _) (.cons (.int _ _) (.cons (.int _ _) (.cons (.int _ _) (.cons (.int _ _) .nil))))
theorem four (ι : Inj) (a : Raw) : VRs ι (hdR a) (hdR a) := .cons (.int _ _) (.cons (.int _ _) (.cons (.int _ _) (.cons (.int _ _) .nil)))
theorem wf_i64 {z : Int} (h : (Lit.int .i64 z).wf = true) : i64in z := by
  simp only [Lit.wf, Bool.and_eq_true, decide_eq_true_eq] at h
  have h1 : IntKind.min .i64 = -9223372036854775808 := by decide
  have h2 : IntKind.max .i64 = 9223372036854775807 := by decide
  unfold i64in
  omega
theorem arr2 {cs : Array Value} (h : cs.size = 2) : ∃ x0 x1, cs = #[x0, x1] := by
  obtain ⟨l⟩ := cs
  match l, h with
  | [x0, x1], _ => exact ⟨x0, x1, rfl⟩
end Go.Proofs.Ytakbaliigmnkjaa
