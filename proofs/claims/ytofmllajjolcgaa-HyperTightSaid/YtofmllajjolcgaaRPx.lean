/- THE SEAT'S TYPES, as rows want them. -/
import Derived.Test.YtofmllajjolcgaaEnv
import Derived.Test.YtofmllajjolcgaaR1
import Derived.Test.YtofmllajjolcgaaRows
import Derived.OpenShut
set_option maxRecDepth 100000
set_option maxHeartbeats 2000000
set_option linter.unusedVariables false
namespace Go.Proofs.Ytofmllajjolcgaa
open Go.ChangeShapes Go.WideShapes Go.ChangeAt Go.RowKit Go.L
theorem Try.own : ownKnob Try.prog.godebug = none := by kernel_rfl
theorem Try.laidOut : laidOutB Try.prog = true := by kernel_rfl
theorem Try.cellsSpec : Try.prog.cellsOf 55 = 5 := by kernel_rfl
theorem Try.cells3 : Try.prog.cellsOf 3 = 1 := by kernel_rfl
theorem Try.bytesSpec : 0 < Try.prog.bytesOf 55 := by
 have : Try.prog.bytesOf 55 = 40 := by kernel_rfl
 omega
section
variable {W : World} {ι : Inj} {h : Heap} {H : Type} {enc : TypeId × Value → H} {base : Nat} {held : Bool}
theorem len5 {l : List Value} (h : l.length = 5) : ∃ a b c d e, l = [a, b, c, d, e] := by
 match l, h with
 | [a, b, c, d, e], _ => exact ⟨a, b, c, d, e, rfl⟩
theorem spec_elem (n : Nat) (cs : List Value) (y : DataW H × List MemPlace) (hy : DataW.trod enc Try.prog W base (fun _ => true) held n 55 cs = some y) : ∃ a, cs = encSp a := by
 have hl : cs.length = 5 := by
  obtain ⟨_, _, _, _, h1, _, _⟩ := DataW.trod_struct Try.underlying55 hy
  rw [h1]; exact Try.cellsSpec
 obtain ⟨a, ea⟩ := ints_of_struct Try.underlying55 (i := 0) rfl rfl Try.cells3 Try.underlying3 (by rw [Try.cellsSpec]; decide) hy
 obtain ⟨b, eb⟩ := ints_of_struct Try.underlying55 (i := 1) rfl rfl Try.cells3 Try.underlying3 (by rw [Try.cellsSpec]; decide) hy
 obtain ⟨c, ec⟩ := ints_of_struct Try.underlying55 (i := 2) rfl rfl Try.cells3 Try.underlying3 (by rw [Try.cellsSpec]; decide) hy
 obtain ⟨d, ed⟩ := ints_of_struct Try.underlying55 (i := 3) rfl rfl Try.cells3 Try.underlying3 (by rw [Try.cellsSpec]; decide) hy
 obtain ⟨e, ee⟩ := ints_of_struct Try.underlying55 (i := 4) rfl rfl Try.cells3 Try.underlying3 (by rw [Try.cellsSpec]; decide) hy
 obtain ⟨x0, x1, x2, x3, x4, rfl⟩ := len5 hl
 cases ea; cases eb; cases ec; cases ed; cases ee
 exact ⟨⟨a, b, c, d, e⟩, rfl⟩
end
theorem any_of_slice {W : World} {base : Nat} {t e : TypeId} {v : Value} (ht : Try.prog.underlying t = some (.slice e)) (h : Value.okWide Try.prog W .any base t v) : ∀ a n c, [v] = [.slice (some a) n c] → AnyCells W := by
 intro a n c hv
 cases hv
 unfold Value.okWide at h
 rw [ht] at h
 exact any_of_cell h
theorem shape_of_slice {W : World} {base : Nat} {t e : TypeId} {v : Value} (ht : Try.prog.underlying t = some (.slice e)) (h : Value.okWide Try.prog W .any base t v) : ∃ a n c, v = .slice a n c := by
 unfold Value.okWide at h
 rw [ht] at h
 simp only at h
 unfold Cell.okWide at h
 rw [ht] at h
 cases v with
 | slice a n c => exact ⟨a, n, c, rfl⟩
 | _ => simp only [Cell.ok, ht] at h
theorem five (ι : Inj) (a : Go.L.Spec) : VRs ι (encSp a) (encSp a) := .cons (.int _ _) (.cons (.int _ _) (.cons (.int _ _) (.cons (.int _ _) (.cons (.int _ _) .nil))))
theorem wf_i64 {z : Int} (h : (Lit.int .i64 z).wf = true) : i64in z := by
 simp only [Lit.wf, Bool.and_eq_true, decide_eq_true_eq] at h
 have h1 : IntKind.min .i64 = -9223372036854775808 := by decide
 have h2 : IntKind.max .i64 = 9223372036854775807 := by decide
 unfold i64in
 omega
theorem arr2 {cs : Array Value} (h : cs.size = 2) : ∃ x0 x1, cs = #[x0, x1] := by
 obtain ⟨l⟩ := cs
 match l, h with
 | [x0, x1], _ => exact ⟨x0, x1, rfl⟩
end Go.Proofs.Ytofmllajjolcgaa
