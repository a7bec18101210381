/- THE LOGICAL MACHINE AND THE MODEL: a call from outside, on what may only be read. -/
import Derived.Test.YtdklgcjbjphadaaS25
set_option linter.unusedVariables false
set_option linter.unusedSimpArgs false
namespace Go.L
open Go
variable {P : Program}
/-- Blocks that may only be read. -/
def LObj.readOnly : LObj → Bool
  | .cells _ true => true
  | .dead => true
  | _ => false
theorem no_wr {ι : Inj} {h : Heap} (hr : h.all LObj.readOnly = true) (rb : Nat) : ¬ Wr ι h rb := by
  rintro ⟨b, o, m, hb, hw, _, _⟩
  have := List.all_eq_true.1 hr o (List.mem_of_getElem? hb)
  cases o with
  | cells c ro => cases ro <;> simp [LObj.readOnly, LObj.wr] at this hw
  | map es => simp [LObj.readOnly] at this
  | loop r => simp [LObj.readOnly] at this
  | dead => simp [LObj.wr] at hw
/-- What a law's call leaves: it returns the value; of all that there was nothing has turned. -/
structure Left_ (w w' : World) : Prop where
  size : w.heap.size ≤ w'.heap.size
  keep : ∀ k, k < w.heap.size → w'.heap[k]? = w.heap[k]?
  os : w'.os = w.os
  tape : w'.tape = w.tape
  output : w'.output = w.output
/-- A CALL OF A FUNCTION OF THE TABLE, FROM OUTSIDE: where the logical machine tells a Boolean of arguments that may only be read, the model's call returns it, and nothing that was there turns. -/
theorem law_calls {E : Env} (hE : EnvOK P E) {f : FuncId} {c : FnC} (hf : E f = .text c) {h h' : Heap} {args args' : List Value} {b : Bool} {ws : List Nat} {ι : Inj} {w : World} (hro : h.all LObj.readOnly = true)
    (hv : callW E (.func (.func f) #[] #[]) args h = some (.bool b, h', ws)) (hs : Sim P ι h w) (ha : VRs ι args args') : Calls P f args'.toArray w fun e w' => e = .returned (.bool b) ∧ Left_ w w' := by
  obtain ⟨d, hd, hinv⟩ := callW_ok hE _ _ _ _ _ _ hv Fence.wide 0 ⟨fun _ => trivial, rfl, rfl⟩ ι w (.func (.func f) #[] #[]) args' hs (VR.func f (a := []) (b := []) .nil .nil) ha
  have hd' : d = { target := .fn (.func f) #[], args := #[] ++ args'.toArray } := by
    have : (Deferred.ofValue (.func (.func f) #[] #[]) args'.toArray).run P w = .ok { target := .fn (.func f) #[], args := #[] ++ args'.toArray } w := rfl
    rw [this] at hd; simpa using hd.symm
  subst hd'
  rcases hinv with (⟨fe, as, h1, h2⟩ | ⟨⟨_, _, _, hy⟩, _⟩) | ⟨_, vr, wr, h1, _⟩
  · have he : (callFunc f (#[] ++ args'.toArray ++ #[])).run P w = .ok (.enter fe as) w := h1
    rw [of_enters (hE.text f c hf)] at he
    simp only [Result.ok.injEq, Next.enter.injEq, and_true] at he
    obtain ⟨rfl, rfl⟩ := he
    have h3 := callsIn_wide.1 h2
    have e2 : #[] ++ args'.toArray ++ #[] = args'.toArray := by simp
    rw [e2] at h3
    refine h3.mono fun e w' hr => ?_
    obtain ⟨ι', v', rfl, st, _, hvr⟩ := hr
    rw [hvr.bool_inv]
    exact ⟨rfl, st.size, fun k hk => st.keep k hk (no_wr hro k), st.os, st.tape, st.output⟩
  · cases hy
  · have he : (callFunc f (#[] ++ args'.toArray ++ #[])).run P w = .ok (.value vr) wr := h1
    rw [of_enters (hE.text f c hf)] at he
    cases he
/-- The package-level variables' blocks, of which nothing is known. -/
def globI (P : Program) : Inj := fun b => if b < P.globals.size then some ⟨b, 0, 0⟩ else none
theorem sim_globs (w : World) : Sim P (globI P) (List.replicate P.globals.size .dead) w :=
  ⟨fun b hb => by simp at hb; simp [globI]; omega, fun b o hb hd => absurd (List.eq_of_mem_replicate (List.mem_of_getElem? hb)) hd, fun g hg => ⟨0, by simp [globI, hg]⟩,
   fun b b' o o' m m' hb _ hw => by rw [List.eq_of_mem_replicate (List.mem_of_getElem? hb)] at hw; simp [LObj.wr] at hw⟩
/-- One more row of cells that may only be read, wherever it lies, shared with others or not. -/
theorem sim_ro {ι : Inj} {h : Heap} {w : World} (hs : Sim P ι h w) (hro : h.all LObj.readOnly = true) {c : List Value} {m : Img} {arr : Array Value} {t : TypeId} {fz : Nat × Nat} (hw : w.heap[m.rb]? = some (.cells arr t fz)) (hsz : arr.size = m.size)
    (hl : m.off + c.length ≤ m.size) (hc : ∀ i v, c[i]? = some v → ∃ r, arr[m.off + i]? = some r ∧ VR ι v r) (ho : c.all oneCell = true) : Sim P (ι.put h.length m) (h ++ [.cells c true]) w := by
  have hsub := Inj.put_sub (hs.dom h.length (Nat.le_refl _)) m
  have old : ∀ (x : Nat) (o : LObj), (h ++ [LObj.cells c true])[x]? = some o → (x < h.length ∧ h[x]? = some o) ∨ (x = h.length ∧ o = .cells c true) := by
    intro x o hx
    rcases Nat.lt_or_ge x h.length with hl | hl
    · rw [List.getElem?_append_left hl] at hx; exact .inl ⟨hl, hx⟩
    · rw [List.getElem?_append_right hl] at hx
      by_cases e : x = h.length
      · subst e; simp at hx; exact .inr ⟨rfl, hx.symm⟩
      · rw [List.getElem?_eq_none (by simp; omega)] at hx; cases hx
  refine ⟨fun b hb => ?_, fun b o hb hd => ?_, fun g hg => let ⟨s, h⟩ := hs.glob g hg; ⟨s, hsub _ _ h⟩, ?_⟩
  · simp at hb; rw [Inj.put_ne m (by omega)]; exact hs.dom b (by omega)
  · rcases old b o hb with ⟨hl', hb'⟩ | ⟨rfl, rfl⟩
    · obtain ⟨m', hm', hobj⟩ := hs.obj b o hb' hd
      exact ⟨m', hsub _ _ hm', hobj.sub hsub⟩
    · exact ⟨m, Inj.put_same _ _ _, .cells hw hsz hl (fun i v hv => let ⟨r, h1, h2⟩ := hc i v hv; ⟨r, h1, h2.mono hsub⟩) (fun h => by cases h) ho⟩
  · intro x y o1 o2 m1 m2 hx hy hw1 _ _ _ _
    rcases old x o1 hx with ⟨_, hx'⟩ | ⟨_, rfl⟩
    · have := List.all_eq_true.1 hro o1 (List.mem_of_getElem? hx')
      cases o1 with
      | cells c ro => cases ro <;> simp [LObj.readOnly, LObj.wr] at this hw1
      | map es => simp [LObj.readOnly] at this
      | loop r => simp [LObj.readOnly] at this
      | dead => simp [LObj.wr] at hw1
    · simp [LObj.wr] at hw1
theorem ro_push {h : Heap} (hro : h.all LObj.readOnly = true) (c : List Value) : (h ++ [LObj.cells c true]).all LObj.readOnly = true := by
  rw [List.all_append, hro]; rfl
end Go.L
