/- MORE THAT IS LAID: rows of elements of which something more is known; a table among the program's variables. -/
import Derived.Test.YtifnlcajancfdaaR1
import Derived.Test.YtifnlcajancfdaaEnv
import Derived.Test.YtifnlcajancfdaaRows
import Derived.OpenShut
set_option linter.unusedVariables false
set_option linter.unusedSimpArgs false
namespace Go.L
open Go
variable {P : Program} {w : World} {ι : Inj} {h : Aa}
theorem Apo {α : Type} [Inhabited α] {sz : Nat} {en : α → List Value} {good : α → Prop} (hl : Jk P w ι h) (hsz : ∀ a, (en a).length = sz) (hone : ∀ a, (en a).all Ae = true) (hself : ∀ (ι : Inj) a, VRs ι (en a) (en a))
  {H : Type} {enc : TypeId × Value → H} {base : Nat} {held : Bool} {t e : TypeId} {fuel : Nat} {cs : List Value} {x : DataW H × List MemPlace} (ht : P.underlying t = some (.slice e)) (hc : P.cellsOf e = sz) (hz : 0 < sz) (hb : 0 < P.bytesOf e)
  (helem : ∀ n cs y, DataW.trod enc P w base (fun _ => true) held n e cs = some y → ∃ a, cs = en a ∧ (Few P e y.1 → good a))
  (htr : DataW.trod enc P w base (fun _ => true) held fuel t cs = some x) (hf : Few P t x.1) (hany : ∀ a n c, cs = [.slice (some a) n c] → Ot w) :
  ∃ ι' h' v v' l, cs = [v'] ∧ Sub ι ι' ∧ Jk P w ι' h' ∧ Pre h h' ∧ VR ι' v v' ∧ Rd sz en h' v l ∧ ∀ a ∈ l, good a := by
 rcases Tn ht hb htr hf with rfl | ⟨a, len, m, R, rfl, s, a0, o⟩
 ·exact ⟨ι, h, .slice none 0 0, _, [], rfl, Sub.refl ι, hl, Pre.refl h, .nils 0 0, Rd.of_nil, by simp⟩
 ·rw [hc] at o
  rcases Nat.eq_zero_or_pos m with e0 | hpos
  ·obtain rfl : len = 0 := by omega
   subst e0
   obtain ⟨ι', j, h2, u, r⟩ := Wc (sz := sz) hl (hany a 0 0 rfl) a
   exact ⟨ι', _, _, _, [], rfl, j, h2, Pre.app h _, u, r, by simp⟩
  ·obtain ⟨A, hA⟩ := Go.Deep.choose_lt (α := α) (n := m) (p := fun i a => R i = en a ∧ (i < len → good a)) fun i d => by
    obtain ⟨_, n, y, hy, z⟩ := o i d
    obtain ⟨a, j, h2⟩ := helem n _ y hy
    exact ⟨a, j, fun g => h2 (z g)⟩
   have f : (((List.range len).map A).map en).length = len := by simp
   obtain ⟨ι', j, h2, u, r⟩ := Z0 (L := ((List.range len).map A).map en) hl hz hpos s f (by omega) (fun i d => (o i d).1) (fun i l d => by
    have g := (GI.1 d).1
    rw [f] at g
    rw [List.getElem?_map, List.getElem?_map, List.getElem?_range g] at d
    simp only [Option.map_some, OI] at d
    subst d
    rw [(hA i (by omega)).1]; exact hself _ _) (fun l hm => by
    obtain ⟨b, _, rfl⟩ := List.mem_map.1 hm
    exact hone b)
   refine ⟨ι', _, _, _, (List.range len).map A, rfl, j, h2, Pre.app h _, u, r, fun a ha => ?_⟩
   obtain ⟨i, d, rfl⟩ := List.mem_map.1 ha
   rw [List.mem_range] at d
   exact (hA i (by omega)).2 d
def Am7 (P : Program) (g n : Nat) : Inj := fun b => if b < P.globals.size then some ⟨b, 0, if b = g then n else 0⟩ else none
theorem A2i {g : Nat} (hg : g < P.globals.size) {arr : Array Value} {t : TypeId} {fz : Nat × Nat} (hw : w.heap[g]? = some (.cells arr t fz)) {c : List Value} (hlen : c.length ≤ arr.size)
  (hc : ∀ (i : Nat) v, c[i]? = some v → arr[i]? = some v ∧ ∃ k n, v = .int k n) : Jk P w (Am7 P g arr.size) ((List.replicate P.globals.size .dead).set g (.cells c true)) := by
 have d : ∀ (b : Nat) (o : LObj), ((List.replicate P.globals.size LObj.dead).set g (.cells c true))[b]? = some o → (b = g ∧ o = .cells c true) ∨ o = .dead := by
  intro b o a
  by_cases e : g = b
  ·subst e
   rw [List.getElem?_set_self (by simpa using hg)] at a
   exact .inl ⟨rfl, (Option.some.inj a).symm⟩
  ·rw [List.getElem?_set_ne e] at a
   exact .inr (List.eq_of_mem_replicate (List.mem_of_getElem? a))
 refine ⟨⟨fun b a => ?_, fun b o a r => ?_, fun x j => ⟨if x = g then arr.size else 0, by unfold Am7; rw [if_pos j]⟩, fun x y u o2 z m2 j _ f => ?_⟩, ?_⟩
 ·unfold Am7
  rw [if_neg (by simpa using a)]
 ·rcases d b o a with ⟨rfl, rfl⟩ | rfl
  ·refine ⟨⟨b, 0, arr.size⟩, by unfold Am7; rw [if_pos hg, if_pos rfl], .cells hw rfl (by simpa using hlen) (fun i v l => ?_) (fun h => by cases h) ?_⟩
   ·obtain ⟨m, k, n, rfl⟩ := hc i v l
    exact ⟨_, by rw [Nat.zero_add]; exact m, VR.int k n⟩
   ·rw [List.all_eq_true]
    intro v l
    obtain ⟨i, p⟩ := List.getElem?_of_mem l
    obtain ⟨_, k, n, rfl⟩ := hc i v p
    rfl
  ·exact absurd rfl r
 ·rcases d x u j with ⟨rfl, rfl⟩ | rfl
  ·simp [LObj.wr] at f
  ·simp [LObj.wr] at f
 ·rw [List.all_eq_true]
  intro o s
  obtain ⟨b, a⟩ := List.getElem?_of_mem s
  rcases d b o a with ⟨_, rfl⟩ | rfl <;> rfl
end Go.L
set_option maxRecDepth 100000
set_option maxHeartbeats 2000000
namespace Go.Proofs.Ytifnlcajancfdaa
open Go.ChangeShapes Go.WideShapes Go.ChangeAt Go.RowKit Go.L
theorem Try.own : ownKnob Try.prog.godebug = none := by kernel_rfl
theorem Try.laidOut : laidOutB Try.prog = true := by kernel_rfl
theorem Try.cellsSpec : Try.prog.cellsOf 51 = 5 := by kernel_rfl
theorem Try.cells2 : Try.prog.cellsOf 2 = 1 := by kernel_rfl
theorem Try.cells3 : Try.prog.cellsOf 3 = 1 := by kernel_rfl
theorem Try.bytesSpec : 0 < Try.prog.bytesOf 51 := by
 have : Try.prog.bytesOf 51 = 40 := by kernel_rfl
 omega
theorem Try.bytes3 : 0 < Try.prog.bytesOf 3 := by
 have : Try.prog.bytesOf 3 = 8 := by kernel_rfl
 omega
theorem Try.cellsTask : Try.prog.cellsOf 33 = 7 := by kernel_rfl
theorem Try.cells9 : Try.prog.cellsOf 9 = 1 := by kernel_rfl
theorem Try.cells24 : Try.prog.cellsOf 24 = 1 := by kernel_rfl
theorem Try.cells26 : Try.prog.cellsOf 26 = 2 := by kernel_rfl
theorem Try.bytesTask : 0 < Try.prog.bytesOf 33 := by
 have : Try.prog.bytesOf 33 = 64 := by kernel_rfl
 omega
section
variable {W : World} {ι : Inj} {h : Aa} {H : Type} {enc : TypeId × Value → H} {base : Nat} {held : Bool}
theorem A2q {l : List Value} (h : l.length = 5) : ∃ a b c d e, l = [a, b, c, d, e] := by
 match l, h with
 | [a, b, c, d, e], _ => exact ⟨a, b, c, d, e, rfl⟩
theorem Aou (n : Nat) (cs : List Value) (y : DataW H × List MemPlace) (hy : DataW.trod enc Try.prog W base (fun _ => true) held n 51 cs = some y) : ∃ a, cs = Rn a := by
 have m : cs.length = 5 := by
  obtain ⟨_, _, _, _, f, _, _⟩ := DataW.trod_struct Try.underlying51 hy
  rw [f]; exact Try.cellsSpec
 obtain ⟨a, o⟩ := Bs Try.underlying51 (i := 0) rfl rfl Try.cells3 Try.underlying3 (by rw [Try.cellsSpec]; decide) hy
 obtain ⟨b, l⟩ := Bs Try.underlying51 (i := 1) rfl rfl Try.cells3 Try.underlying3 (by rw [Try.cellsSpec]; decide) hy
 obtain ⟨c, j⟩ := Bs Try.underlying51 (i := 2) rfl rfl Try.cells3 Try.underlying3 (by rw [Try.cellsSpec]; decide) hy
 obtain ⟨d, p⟩ := Bs Try.underlying51 (i := 3) rfl rfl Try.cells3 Try.underlying3 (by rw [Try.cellsSpec]; decide) hy
 obtain ⟨e, g⟩ := Bs Try.underlying51 (i := 4) rfl rfl Try.cells3 Try.underlying3 (by rw [Try.cellsSpec]; decide) hy
 obtain ⟨v, t, s, u, r, rfl⟩ := A2q m
 cases o; cases l; cases j; cases p; cases g
 exact ⟨⟨a, b, c, d, e⟩, rfl⟩
theorem A2p {l : List Value} (h : l.length = 7) : ∃ a b c d e f g, l = [a, b, c, d, e, f, g] := by
 match l, h with
 | [a, b, c, d, e, f, g], _ => exact ⟨a, b, c, d, e, f, g, rfl⟩
theorem Aop (n : Nat) (cs : List Value) (y : DataW H × List MemPlace) (hy : DataW.trod enc Try.prog W base (fun _ => true) held n 33 cs = some y) : ∃ a, cs = Az a ∧ (Few Try.prog 33 y.1 → a.name.size < 1152921504606846976) := by
 obtain ⟨xs, z, _, o, h1, h2, h3⟩ := DataW.trod_struct Try.underlying33 hy
 have hl : cs.length = 7 := by rw [h1]; exact Try.cellsTask
 obtain ⟨b, eb⟩ := Bs Try.underlying33 (i := 1) rfl rfl Try.cells2 Try.underlying2 (by rw [Try.cellsTask]; decide) hy
 obtain ⟨c, ec⟩ := Bs Try.underlying33 (i := 2) rfl rfl Try.cells2 Try.underlying2 (by rw [Try.cellsTask]; decide) hy
 obtain ⟨d, ed⟩ := Bs Try.underlying33 (i := 3) rfl rfl Try.cells2 Try.underlying2 (by rw [Try.cellsTask]; decide) hy
 obtain ⟨e, x⟩ := Bs Try.underlying33 (i := 4) rfl rfl Try.cells2 Try.underlying2 (by rw [Try.cellsTask]; decide) hy
 obtain ⟨f, ef⟩ := Bs Try.underlying33 (i := 5) rfl rfl Try.cells2 Try.underlying2 (by rw [Try.cellsTask]; decide) hy
 obtain ⟨g, eg⟩ := Bs Try.underlying33 (i := 6) rfl rfl Try.cells3 Try.underlying3 (by rw [Try.cellsTask]; decide) hy
 obtain ⟨p, x1, x2, x3, v, x5, x6, rfl⟩ := A2p hl
 have m : DataW.trod enc Try.prog W base (fun _ => true) held z 9 (([p, x1, x2, x3, v, x5, x6] : List Value).drop 0 |>.take (Try.prog.cellsOf 9)) = xs[0]? := h3 0 _ rfl
 rw [Try.cells9] at m
 have l : 0 < xs.length := by rw [h2]; decide
 rw [List.getElem?_eq_getElem l] at m
 obtain ⟨s, e1, e2, _⟩ := DataW.trod_string Try.underlying9 m
 have e3 : p = .string s := by simpa using e1
 subst e3
 cases eb; cases ec; cases ed; cases x; cases ef; cases eg
 refine ⟨⟨s, b, c, d, e, f, g⟩, rfl, fun r => ?_⟩
 rw [o] at r
 have t := r.part Try.underlying33 (j := 0) (u := 9) (d := xs[0].1) rfl (by rw [List.getElem?_map, List.getElem?_eq_getElem l]; rfl)
 rw [e2] at t
 have := t s.data.toList.length (by simp [DataW.weights])
 have h5 := reachBytes_lt
 have h6 : s.data.toList.length = s.size := Array.length_toList
 show s.size < _
 omega
end
theorem Vj {W : World} {base : Nat} {t e : TypeId} {v : Value} (ht : Try.prog.underlying t = some (.slice e)) (h : Value.okWide Try.prog W .any base t v) : ∀ a n c, [v] = [.slice (some a) n c] → Ot W := by
 intro a n c d
 cases d
 unfold Value.okWide at h
 rw [ht] at h
 exact Ah6 h
theorem Qy {W : World} {base : Nat} {t e : TypeId} {v : Value} (ht : Try.prog.underlying t = some (.slice e)) (h : Value.okWide Try.prog W .any base t v) : ∃ a n c, v = .slice a n c := by
 unfold Value.okWide at h
 rw [ht] at h
 simp only at h
 unfold Cell.okWide at h
 rw [ht] at h
 cases v with
 | slice a n c => exact ⟨a, n, c, rfl⟩
 | _ => simp only [Cell.ok, ht] at h
theorem A2v (ι : Inj) (a : Go.L.Mw) : VRs ι (Rn a) (Rn a) := .cons (.int _ _) (.cons (.int _ _) (.cons (.int _ _) (.cons (.int _ _) (.cons (.int _ _) .nil))))
theorem A21 (ι : Inj) (a : Raw) : VRs ι (hdR a) (hdR a) := .cons (.int _ _) (.cons (.int _ _) (.cons (.int _ _) (.cons (.int _ _) .nil)))
theorem Ayo {z : Int} (h : (Lit.int .i64 z).wf = true) : Lf z := by
 simp only [Lit.wf, Bool.and_eq_true, decide_eq_true_eq] at h
 have a : IntKind.min .i64 = -9223372036854775808 := by decide
 have h2 : IntKind.max .i64 = 9223372036854775807 := by decide
 unfold Lf
 omega
theorem arr2 {cs : Array Value} (h : cs.size = 2) : ∃ x0 x1, cs = #[x0, x1] := by
 obtain ⟨l⟩ := cs
 match l, h with
 | [x0, x1], _ => exact ⟨x0, x1, rfl⟩
theorem A0r (ι : Inj) (a : Go.L.Af) : VRs ι (Az a) (Az a) := .cons (.string _) (.cons (.int _ _) (.cons (.int _ _) (.cons (.int _ _) (.cons (.int _ _) (.cons (.int _ _) (.cons (.int _ _) .nil))))))
theorem Ar2 {W : World} {H : Type} {enc : TypeId × Value → H} {base : Nat} {v : Value} {d : DataW H} {p : List MemPlace} (k : Value.okWide Try.prog W .any base 26 v) (h : DataW.Trod enc Try.prog W 0 (fun _ => true) true 26 v d p) :
  ∃ z u : Int, v = .agg #[.int .i64 z, .int .u64 u] ∧ (Lit.int .i64 z).wf = true ∧ (Lit.int .u64 u).wf = true := by
 unfold Value.okWide at k
 rw [Try.underlying26] at k
 obtain ⟨cs, rfl, e, _⟩ := k
 obtain ⟨n, h⟩ := h
 rw [Try.cells26] at e
 obtain ⟨g, f, rfl⟩ := arr2 e
 obtain ⟨xs, m, _, _, _, x, a⟩ := DataW.trod_struct Try.underlying26 h
 have l := a 0 _ rfl
 have j := a 1 _ rfl
 rw [List.getElem?_eq_getElem (by rw [x]; decide)] at l j
 obtain ⟨z, y, _, r⟩ := DataW.trod_int Try.underlying3 l
 obtain ⟨u, t, _, o⟩ := DataW.trod_int Try.underlying24 j
 have f0 : g = .int .i64 z := by
  have c : (([g, f] : List Value).drop 0 |>.take (Try.prog.cellsOf 3)) = [.int .i64 z] := y
  rw [Try.cells3] at c
  simpa using c
 have s : f = .int .u64 u := by
  have c : (([g, f] : List Value).drop 1 |>.take (Try.prog.cellsOf 24)) = [.int .u64 u] := t
  rw [Try.cells24] at c
  simpa using c
 exact ⟨z, u, by rw [f0, s], r, o⟩
end Go.Proofs.Ytifnlcajancfdaa
