/- THE LOGICAL MACHINE AND THE MODEL: a call without arguments, run once and for all. -/
import Derived.Test.YtdklgcjbjphadaaS26
set_option linter.unusedVariables false
set_option linter.unusedSimpArgs false
namespace Go.L
open Go
variable {P : Program}
/-- Where nothing that was there turns, nothing turns for any logical heap. -/
theorem St.of_left {ι : Inj} {h : Heap} {w w' : World} (hs : Sim P ι h w) (hl : Left_ w w') : St P ι h w ι h w' :=
  ⟨Sub.refl _, ⟨hs.dom, fun b o hb hd => let ⟨m, hm, hr⟩ := hs.obj b o hb hd; ⟨m, hm, hr.world (hl.keep _ hr.lt)⟩, hs.glob, hs.inj⟩, hl.size, hl.os, hl.tape, hl.output, fun rb hlt _ => hl.keep rb hlt, fun _ h _ => h⟩
/-- A heap begins with what is laid. -/
def Begins (G h : Heap) : Prop := ∀ (g : Nat) (o : LObj), G[g]? = some o → o ≠ .dead → h[g]? = some o
open Classical in
/-- The contract that a value makes of a call without arguments: where the package-level variables lie as they did when it was run. -/
noncomputable def constE (G : Heap) (b : Value) : List Value → Heap → Option (Value × Heap × List Nat) := fun args h => match args with
  | [] => if Begins G h then some (b, h, []) else none
  | _ :: _ => none
theorem constE_at {G h : Heap} {b : Value} (hb : Begins G h) : constE G b [] h = some (b, h, []) := by simp [constE, hb]
theorem constE_inv {G h h' : Heap} {b v : Value} {args : List Value} {ws : List Nat} (hv : constE G b args h = some (v, h', ws)) : args = [] ∧ Begins G h ∧ v = b ∧ h' = h ∧ ws = [] := by
  cases args with
  | cons x r => cases hv
  | nil =>
    simp only [constE] at hv
    split at hv
    · rename_i hb
      simp only [Option.some.injEq, Prod.mk.injEq] at hv
      exact ⟨rfl, hb, hv.1.symm, hv.2.1.symm, hv.2.2.symm⟩
    · cases hv
theorem constE_keep (G : Heap) (b : Value) : ∀ args h v h' ws, constE G b args h = some (v, h', ws) → Keeps h.length h h' ws := by
  intro args h v h' ws hv
  obtain ⟨_, _, _, rfl, rfl⟩ := constE_inv hv
  exact Keeps.refl _ _ _
theorem closed_ext {E : Env} (hE : EnvOK P E) {f : FuncId} {c : FnC} (hf : E f = .text c) {n : Nat} {b : Value} {G G' : Heap} {ws : List Nat} (hb : noNew 0 4 b = true) (hlen : G.length = P.globals.size) (hro : G.all LObj.readOnly = true) (hG : G.all (fun o => noNewO 0 (some o)) = true)
    (hv : callv E n (.func (.func f) #[] #[]) [] G = some (b, G', ws)) : ExtOK P f (constE G b) := by
  intro args h v h' ws' hc F nn hW ι w args' hs ha
  obtain ⟨rfl, hbeg, rfl, rfl, rfl⟩ := constE_inv hc
  cases ha
  have hs0 : Sim P (fun x => if x < P.globals.size then ι x else none) G w := by
    refine ⟨fun x hx => if_neg (by omega), fun x o hx hd => ?_, fun g hg => ?_, fun x y o o' m m' hx _ hw => ?_⟩
    · have hl : x < P.globals.size := by have := (List.getElem?_eq_some_iff.1 hx).1; omega
      obtain ⟨m, hm, hobj⟩ := hs.obj x o (hbeg x o hx hd) hd
      exact ⟨m, by simp [hl, hm], ObjR.low (n := 0) (fun b hb => absurd hb (Nat.not_lt_zero _)) (List.all_eq_true.1 hG o (List.mem_of_getElem? hx)) hd hobj⟩
    · obtain ⟨s, h1⟩ := hs.glob g hg
      exact ⟨s, by simp [hg, h1]⟩
    · have := List.all_eq_true.1 hro o (List.mem_of_getElem? hx)
      cases o with
      | cells c ro => cases ro <;> simp [LObj.readOnly, LObj.wr] at this hw
      | map es => simp [LObj.readOnly] at this
      | loop r => simp [LObj.readOnly] at this
      | dead => simp [LObj.wr] at hw
  obtain ⟨d, hd, hinv⟩ := callv_ok hE n _ _ _ _ _ _ hv F nn hW _ w (.func (.func f) #[] #[]) [] hs0 (VR.func f (a := []) (b := []) .nil .nil) .nil
  have hd' : d = { target := .fn (.func f) #[], args := #[] ++ #[] } := by
    have : (Deferred.ofValue (.func (.func f) #[] #[]) ([] : List Value).toArray).run P w = .ok { target := .fn (.func f) #[], args := #[] ++ #[] } w := rfl
    rw [this] at hd; simpa using hd.symm
  subst hd'
  rcases hinv with (⟨fe, as, h1, h2⟩ | ⟨⟨_, _, _, hy⟩, _⟩) | ⟨_, vr, wr, h1, _⟩
  · have he : (callFunc f (#[] ++ #[] ++ #[])).run P w = .ok (.enter fe as) w := h1
    rw [of_enters (hE.text f c hf)] at he
    simp only [Result.ok.injEq, Next.enter.injEq, and_true] at he
    obtain ⟨rfl, rfl⟩ := he
    refine CallsIn.mono (R := Ret P (fun x => if x < P.globals.size then ι x else none) G w v G') (by simpa using h2) fun e w' hr => ?_
    obtain ⟨ι', v', rfl, st, _, hvr⟩ := hr
    have hl : Left_ w w' := ⟨st.size, fun k hk => st.keep k hk (no_wr hro k), st.os, st.tape, st.output⟩
    exact ⟨ι, v', rfl, St.of_left hs hl, Old.refl _ _, VR.low (m := 0) (fun b hb => absurd hb (Nat.not_lt_zero _)) 4 hb hvr⟩
  · cases hy
  · have he : (callFunc f (#[] ++ #[] ++ #[])).run P w = .ok (.value vr) wr := h1
    rw [of_enters (hE.text f c hf)] at he
    cases he
end Go.L
