/- TraceTells: ends, responses, the worst ones, misses, and busy rows are told as the document says; of every input: no condition. -/
import Derived.Test.YtakbaliigmnkjaaPd
import Derived.Test.YtakbaliigmnkjaaEnv
import Derived.Test.YtakbaliigmnkjaaR1
import Derived.Test.YtakbaliigmnkjaaRows
set_option maxRecDepth 100000
set_option maxHeartbeats 2000000
namespace Go.Proofs.Ytakbaliigmnkjaa
open Go.ChangeShapes Go.WideShapes Go.ChangeAt Go.RowKit Go.L
theorem Try.own : ownKnob Try.prog.godebug = none := by kernel_rfl
theorem Try.laidOut : laidOutB Try.prog = true := by kernel_rfl
theorem Try.cells54 : Try.prog.cellsOf 54 = 5 := by kernel_rfl
theorem Try.cells65 : Try.prog.cellsOf 65 = 5 := by kernel_rfl
theorem Try.cells52 : Try.prog.cellsOf 52 = 3 := by kernel_rfl
theorem Try.cells2 : Try.prog.cellsOf 2 = 1 := by kernel_rfl
theorem Try.cells3 : Try.prog.cellsOf 3 = 1 := by kernel_rfl
theorem Try.cells24 : Try.prog.cellsOf 24 = 1 := by kernel_rfl
theorem Try.cells25 : Try.prog.cellsOf 25 = 1 := by kernel_rfl
theorem Try.cells63 : Try.prog.cellsOf 63 = 1 := by kernel_rfl
theorem Try.cells27 : Try.prog.cellsOf 27 = 2 := by kernel_rfl
theorem Try.bytes54 : 0 < Try.prog.bytesOf 54 := by have : Try.prog.bytesOf 54 = 40 := by kernel_rfl
                                                    omega
theorem Try.bytes65 : 0 < Try.prog.bytesOf 65 := by have : Try.prog.bytesOf 65 = 56 := by kernel_rfl
                                                    omega
theorem Try.bytes52 : 0 < Try.prog.bytesOf 52 := by have : Try.prog.bytesOf 52 = 24 := by kernel_rfl
                                                    omega
theorem Try.bytes2 : 0 < Try.prog.bytesOf 2 := by have : Try.prog.bytesOf 2 = 8 := by kernel_rfl
                                                  omega
theorem Try.bytes3 : 0 < Try.prog.bytesOf 3 := by have : Try.prog.bytesOf 3 = 8 := by kernel_rfl
                                                  omega
section
variable {W : World} {ι : Inj} {h : Heap} {H : Type} {enc : TypeId × Value → H} {base : Nat} {held : Bool}
theorem len1 {l : List Value} (h : l.length = 5) : ∃ a b c d e, l = [a, b, c, d, e] := by
  match l, h with
  | [a, b, c, d, e], _ => exact ⟨a, b, c, d, e, rfl⟩
theorem spec_elem (n : Nat) (cs : List Value) (y : DataW H × List MemPlace) (hy : DataW.trod enc Try.prog W base (fun _ => true) held n 54 cs = some y) : ∃ a, cs = encSp a := by
  have hl : cs.length = 5 := by
    obtain ⟨_, _, _, _, h1, _, _⟩ := DataW.trod_struct Try.underlying54 hy
    rw [h1]; exact Try.cells54
  obtain ⟨a, ea⟩ := ints_of_struct Try.underlying54 (i := 0) rfl rfl Try.cells3 Try.underlying3 (by rw [Try.cells54]; decide) hy
  obtain ⟨b, eb⟩ := ints_of_struct Try.underlying54 (i := 1) rfl rfl Try.cells3 Try.underlying3 (by rw [Try.cells54]; decide) hy
  obtain ⟨c, ec⟩ := ints_of_struct Try.underlying54 (i := 2) rfl rfl Try.cells3 Try.underlying3 (by rw [Try.cells54]; decide) hy
  obtain ⟨d, ed⟩ := ints_of_struct Try.underlying54 (i := 3) rfl rfl Try.cells3 Try.underlying3 (by rw [Try.cells54]; decide) hy
  obtain ⟨e, ee⟩ := ints_of_struct Try.underlying54 (i := 4) rfl rfl Try.cells3 Try.underlying3 (by rw [Try.cells54]; decide) hy
  obtain ⟨x0, x1, x2, x3, x4, rfl⟩ := len1 hl
  cases ea; cases eb; cases ec; cases ed; cases ee
  exact ⟨⟨a, b, c, d, e⟩, rfl⟩
theorem span_elem (n : Nat) (cs : List Value) (y : DataW H × List MemPlace) (hy : DataW.trod enc Try.prog W base (fun _ => true) held n 52 cs = some y) : ∃ a, cs = encS a := by
  have hl : cs.length = 3 := by
    obtain ⟨_, _, _, _, h1, _, _⟩ := DataW.trod_struct Try.underlying52 hy
    rw [h1]; exact Try.cells52
  obtain ⟨a, ea⟩ := ints_of_struct Try.underlying52 (i := 0) rfl rfl Try.cells3 Try.underlying3 (by rw [Try.cells52]; decide) hy
  obtain ⟨b, eb⟩ := ints_of_struct Try.underlying52 (i := 1) rfl rfl Try.cells2 Try.underlying2 (by rw [Try.cells52]; decide) hy
  obtain ⟨c, ec⟩ := ints_of_struct Try.underlying52 (i := 2) rfl rfl Try.cells2 Try.underlying2 (by rw [Try.cells52]; decide) hy
  match cs, hl with
  | [x0, x1, x2], _ =>
    cases ea; cases eb; cases ec
    exact ⟨⟨a, b, c⟩, rfl⟩
theorem raw_elem (n : Nat) (cs : List Value) (y : DataW H × List MemPlace) (hy : DataW.trod enc Try.prog W base (fun _ => true) held n 65 cs = some y) :
    ∃ a v n' y', cs = hdR a ++ [v] ∧ DataW.trod enc Try.prog W base (fun _ => true) held n' 63 [v] = some y' ∧ (Few Try.prog 65 y.1 → Few Try.prog 63 y'.1) := by
  obtain ⟨xs, n', _, hyx, h1, h2, h3⟩ := DataW.trod_struct Try.underlying65 hy
  have hl : cs.length = 5 := by rw [h1]; exact Try.cells65
  obtain ⟨a, ea⟩ := ints_of_struct Try.underlying65 (i := 0) rfl rfl Try.cells3 Try.underlying3 (by rw [Try.cells65]; decide) hy
  obtain ⟨b, eb⟩ := ints_of_struct Try.underlying65 (i := 1) rfl rfl Try.cells3 Try.underlying3 (by rw [Try.cells65]; decide) hy
  obtain ⟨c, ec⟩ := ints_of_struct Try.underlying65 (i := 2) rfl rfl Try.cells3 Try.underlying3 (by rw [Try.cells65]; decide) hy
  obtain ⟨d, ed⟩ := ints_of_struct Try.underlying65 (i := 3) rfl rfl Try.cells3 Try.underlying3 (by rw [Try.cells65]; decide) hy
  obtain ⟨x0, x1, x2, x3, x4, rfl⟩ := len1 hl
  cases ea; cases eb; cases ec; cases ed
  have h4 : DataW.trod enc Try.prog W base (fun _ => true) held n' 63 (([.int .i64 a, .int .i64 b, .int .i64 c, .int .i64 d, x4] : List Value).drop 4 |>.take (Try.prog.cellsOf 63)) = xs[4]? := h3 4 _ rfl
  rw [Try.cells63] at h4
  have hx4 : 4 < xs.length := by rw [h2]; decide
  rw [List.getElem?_eq_getElem hx4] at h4
  refine ⟨⟨a, b, c, d, []⟩, x4, n', xs[4], rfl, h4, fun hf => ?_⟩
  rw [hyx] at hf
  exact hf.part Try.underlying65 (j := 4) rfl (by rw [List.getElem?_map, List.getElem?_eq_getElem hx4]; rfl)
theorem int_elem (n : Nat) (cs : List Value) (y : DataW H × List MemPlace) (hy : DataW.trod enc Try.prog W base (fun _ => true) held n 2 cs = some y) : ∃ a, cs = encI a := by
  obtain ⟨z, rfl, _⟩ := DataW.trod_int Try.underlying2 hy
  exact ⟨z, rfl⟩
end
theorem any_of_slice {W : World} {base : Nat} {t e : TypeId} {v : Value} (ht : Try.prog.underlying t = some (.slice e)) (h : Value.okWide Try.prog W .any base t v) : ∀ a n c, [v] = [.slice (some a) n c] → AnyCells W := by
  intro a n c hv
  cases hv
  unfold Value.okWide at h
  rw [ht] at h
  exact any_of_cell h
theorem shape_of_slice {W : World} {base : Nat} {t e : TypeId} {v : Value} (ht : Try.prog.underlying t = some (.slice e)) (h : Value.okWide Try.prog W .any base t v) : ∃ a n c, v = .slice a n c := by
  unfold Value.okWide at h
  rw [ht] at h
  simp only at h
  unfold Cell.okWide at h
  rw [ht] at h
  cases v with
  | slice a n c => exact ⟨a, n, c, rfl⟩
  | _ => simp only [Cell.ok, ht] at h
theorem three (ι : Inj) (a : Span) : VRs ι (encS a) (encS a) := .cons (.int _ _) (.cons (.int _ _) (.cons (.int _ _) .nil))
theorem five (ι : Inj) (a : Go.L.Spec) : VRs ι (encSp a) (encSp a) := .cons (.int _ _) (.cons (.int _ _) (.cons (.int _ _) (.cons (.int _ _) (.cons (.int _ _) .nil))))
theorem four (ι : Inj) (a : Raw) : VRs ι (hdR a) (hdR a) := .cons (.int _ _) (.cons (.int _ _) (.cons (.int _ _) (.cons (.int _ _) .nil)))
theorem arr2 {cs : Array Value} (h : cs.size = 2) : ∃ x0 x1, cs = #[x0, x1] := by
  obtain ⟨l⟩ := cs
  match l, h with
  | [x0, x1], _ => exact ⟨x0, x1, rfl⟩
theorem traceTells_lifted (os : Os) (started : os.Started) (H : Type) (enc : TypeId × Value → H) :
    ReturnsInHanded {} Try.checked os 3 .any (Rows.traceTellsSpec.pre6 enc Try.prog Try.f3 Rows.traceTellsRow.domain false) (Rows.traceTellsSpec.post enc Try.prog Try.f3 false true false false) := by
  refine returnsInHanded_of_change_sized (C := Try.checked) Try.own started (by kernel_rfl) Try.func3
    (ChangeSpec.witness6 (enc := enc) (C := Try.checked) false ⟨#[], #[.slice none 0 0, .slice none 0 0, .agg #[.slice none 0 0, .slice none 0 0]], []⟩ 8 (by kernel_rfl) (by kernel_rfl) (by kernel_rfl) (by kernel_rfl)) ?_
  intro W base args ds gs before hval0 hW _ hsz0 _
  have hval : ∀ (j : Nat) t v, Try.f3.params[j]? = some t → args[j]? = some v → Value.okWide Try.prog W .any base t v := hval0
  have hsz : (DataW.weightsEach Try.prog (Try.f3.params.toList ++ Rows.traceTellsSpec.plain.varTypes Try.prog) (ds ++ gs)).all (· ≤ reachBytes) = true := hsz0
  have hW' := hW
  obtain ⟨p, q, hA0, hV, rfl, hfz, hnd⟩ := hW
  have hA : DataW.TrodAll enc Try.prog W 0 (fun _ => true) true Try.f3.params.toList args.toList ds p := hA0
  rw [Try.params3] at hA hval
  obtain ⟨v0, v1, v2, d0, d1, d2, p0, p1, p2, rfl, rfl, rfl, ⟨n0, h0⟩, ⟨n1, h1⟩, ⟨n2, h2⟩⟩ := trodAll_three hA
  obtain ⟨rfl, rfl⟩ := trodVars_none hV
  clear hA0 hval0 hsz0
  rw [Try.params3] at hsz
  have f0 := few_each hsz (j := 0) (t := 22) (d := d0) rfl rfl
  have f1 := few_each hsz (j := 1) (t := 23) (d := d1) rfl rfl
  have f2 := few_each hsz (j := 2) (t := 27) (d := d2) rfl rfl
  have k0 := hval 0 22 v0 rfl rfl
  have k1 := hval 1 23 v1 rfl rfl
  have k2 := hval 2 27 v2 rfl rfl
  obtain ⟨a0, m0, c0, rfl⟩ := shape_of_slice Try.underlying22 k0
  obtain ⟨a1, m1, c1, rfl⟩ := shape_of_slice Try.underlying23 k1
  obtain ⟨ι1, H1, w0, w0', l0, e0, s0, L1, P1, r0, rd0⟩ := lay_flat (en := encSp) (lay_globs Try.prog W) (fun _ => rfl) (fun _ => rfl) five Try.underlying22 Try.cells54 (by decide) Try.bytes54 spec_elem h0 f0 (any_of_slice Try.underlying22 k0)
  obtain rfl := (List.cons.inj e0).1
  obtain ⟨ι2, H2, w1, w1', l1, e1, s1, L2, P2, r1, rd1⟩ := lay_nested (hd := hdR) (csf := Raw.cuts) (put := fun r l => { r with cuts := l }) (fun _ _ => ⟨rfl, rfl⟩) L1 (sz := 5) (fun _ => rfl) (fun _ => rfl) four Try.underlying23 Try.cells65 Try.bytes65 Try.underlying63 Try.underlying3 Try.cells3 Try.bytes3 raw_elem h1 f1 (any_of_slice Try.underlying23 k1)
  obtain rfl := (List.cons.inj e1).1
  unfold Value.okWide at k2
  rw [Try.underlying27] at k2
  obtain ⟨cs, rfl, hcs, ts, _, _, hcell⟩ := k2
  rw [Try.cells27] at hcs
  obtain ⟨y0, y1, n3, hx, _, t0, t1⟩ := trod_struct2 Try.underlying27 h2
  obtain ⟨x0, x1, rfl⟩ := arr2 hcs
  have t0' : DataW.trod enc Try.prog W 0 (fun _ => true) true n3 24 (([x0, x1] : List Value).drop 0 |>.take (Try.prog.cellsOf 24)) = some y0 := t0
  have t1' : DataW.trod enc Try.prog W 0 (fun _ => true) true n3 25 (([x0, x1] : List Value).drop 1 |>.take (Try.prog.cellsOf 25)) = some y1 := t1
  rw [Try.cells24] at t0'
  rw [Try.cells25] at t1'
  have hd2 := congrArg Prod.fst hx
  subst hd2
  have g0 := f2.part Try.underlying27 (j := 0) (u := 24) (d := y0.1) rfl rfl
  have g1 := f2.part Try.underlying27 (j := 1) (u := 25) (d := y1.1) rfl rfl
  obtain ⟨ι3, H3, w2, w2', l2, e2, s2, L3, P3, r2, rd2⟩ := lay_flat (en := encS) L2 (fun _ => rfl) (fun _ => rfl) three Try.underlying24 Try.cells52 (by decide) Try.bytes52 span_elem t0' g0 (fun a n c e => by
    obtain ⟨u, _, hu⟩ := hcell 0 x0 rfl
    cases e; exact any_of_cell hu)
  obtain rfl := (List.cons.inj e2).1
  obtain ⟨ι4, H4, w3, w3', l3, e3, s3, L4, P4, r3, rd3⟩ := lay_flat (en := encI) L3 (fun _ => rfl) (fun _ => rfl) (fun _ _ => .cons (.int _ _) .nil) Try.underlying25 Try.cells2 (by decide) Try.bytes2 int_elem t1' g1 (fun a n c e => by
    obtain ⟨u, _, hu⟩ := hcell 1 x1 rfl
    cases e; exact any_of_cell hu)
  obtain rfl := (List.cons.inj e3).1
  have hlaw := Go.L.Try.traceTells Go.L.Try.laid (((rd0.pre P2).pre P3).pre P4) ((rd1.pre P3).pre P4) (rd2.pre P4) rd3
  exact law_row Go.L.Try.env_ok Go.L.Try.laid.cadencylaw11_TraceTells Try.laidOut (fn := Try.f3) (s := Rows.traceTellsSpec) rfl (rb := 4) (by kernel_rfl) Try.underlying4 (by rw [Try.params3]; intro t ht; simp at ht; rcases ht with rfl | rfl | rfl <;> exact ⟨by kernel_rfl, of_decide_eq_true (by kernel_rfl)⟩) rfl rfl rfl hW' L4
    (.cons (((r0.mono s1).mono s2).mono s3) (.cons ((r1.mono s2).mono s3) (.cons (.agg (.cons (r2.mono s3) (.cons r3 .nil))) .nil))) hlaw
theorem traceTells_holds : Rows.TraceTellsSaid :=
  OpenClaim.holds_of_wide 3 Try.f3 rfl rfl rfl rfl rfl rfl rfl ⟨rfl, rfl, rfl, rfl, rfl⟩ rfl rfl rfl rfl rfl (by kernel_rfl) Try.func3 (by kernel_rfl)
    (of_decide_eq_true (by kernel_rfl)) (by unfold Func.isWrapper; first | (rw [if_pos (by decide +kernel)]; kernel_rfl) | (rw [if_neg (by decide +kernel)]; exact ⟨rfl, rfl⟩))
    (fun os started H enc _ => traceTells_lifted os started H enc)
end Go.Proofs.Ytakbaliigmnkjaa
#print axioms Go.Proofs.Ytakbaliigmnkjaa.traceTells_holds
