/- THE LOGICAL MACHINE AND THE MODEL: a statement whose order is open. -/
import Derived.Test.YtdklgcjbjphadaaS17
import Derived.Test.YtdklgcjbjphadaaD
set_option linter.unusedVariables false
set_option linter.unusedSimpArgs false
namespace Go.L
open Go
variable {P : Program} {ι : Inj} {h : Heap} {w : World}
section
variable {sz : Nat} {f f' : FF} {a : Act} {o : Oper} {q : O} {v : Value} {h' : Heap} {ws : List Nat} {F : Fence} {n : Nat} {cf : CallT} {next : Act → World → Prop} {Q : Exit → Act → World → Prop} {ops : Array Oper}
theorem opD_opN {m : Nat} {i : Ins} {r : Value × Heap × List Nat} (hc : cls i.o ≠ .A) (hv : opD cf m f h i = some r) : opN cf f h i.o = some r := by
  unfold opD at hv
  unfold opN
  cases hcl : cls i.o with
  | A => exact absurd hcl hc
  | P => rw [hcl] at hv; exact hv
  | M =>
    simp only [hcl] at hv ⊢
    split at hv
    · cases hv
    · exact hv
  | S =>
    simp only [hcl] at hv ⊢
    split at hv
    · split at hv
      · cases hv
      · exact hv
    · cases hv
  | C =>
    simp only [hcl] at hv ⊢
    split at hv
    · split at hv
      · rename_i h1
        split at hv
        · cases hv
        · rw [h1]; exact hv
      · cases hv
    · cases hv
  | E => rw [hcl] at hv; exact hv
theorem opD_ok (hW : Wide F) (hcf : CallOK P cf) {m : Nat} {i : Ins} (hs : Sim P ι h w) (hf : FFR ι sz f a.tmps) (ho : cO P o.op = some i.o) (hv : opD cf m f h i = some (v, h', ws))
    (hroom : cls i.o = .A → m + i.rank < h.length ∧ ι (m + i.rank) = none)
    (hn : ∀ ι' w' v', St P ι h w ι' h' w' → (∀ b, b < h.length → (cls i.o = .A → b ≠ m + i.rank) → ι' b = ι b) → VR ι' v v' → next (a.put o.dst v') w') : o.wpIn F n P a w next Q := by
  by_cases hc : cls i.o = .A
  · refine ⟨fun f _ => hW.fn f, ?_⟩
    rw [Oper.semAt_plain F _ _ (cO_noDefer ho)]
    unfold opD at hv
    simp only [hc] at hv
    cases hp : newV f i.o with
    | none => rw [hp] at hv; cases hv
    | some nw =>
      rw [hp] at hv; simp only [Option.some.injEq, Prod.mk.injEq] at hv; obtain ⟨rfl, rfl, rfl⟩ := hv
      obtain ⟨wd, O, mi, v', h1, h2, h3, h4⟩ := new_op (w := w) hf ho hc hp
      obtain ⟨hlt, hnone⟩ := hroom hc
      rw [h2]
      obtain ⟨h5, h6⟩ := h4 _ hnone
      have st1 := St.quiet hs h1
      have st2 := St.place (P := P) (h' := h.set (m + i.rank) nw.1) st1.sim (o := nw.1) (O := O) (m := mi) (by rw [h3, h1.heap]) hnone (by simp) (by simpa using hlt) (List.getElem?_set_self hlt)
        (fun x o' hx hx' _ => by rwa [List.getElem?_set_ne (Ne.symm hx)] at hx') (fun _ => h5)
      exact hn _ _ v' (st1.trans st2) (fun b _ hb => Inj.put_ne mi (hb hc)) h6
  · exact op_ok hW hcf hs hf ho (opD_opN hc hv) fun ι' w' v' st old hvr => hn ι' w' v' st (fun b hb _ => old b hb) hvr
/-! ### Which ones are ahead -/
theorem before_bit (ops : Array Oper) : ∀ i j : Nat, ((Region.before ops).getD i 0).testBit j = true → ∃ o e, ops[i]? = some o ∧ e ∈ o.after ∧ Region.binds .any e = true ∧ (j = e.on ∨ ((Region.before ops).getD e.on 0).testBit j = true) := by
  have inner : ∀ (acc : Array Nat) (l : List Edge) (s : Nat) (j : Nat), (l.foldl (fun s e => if Region.binds .any e then s ||| 2 ^ e.on ||| acc.getD e.on 0 else s) s).testBit j = true →
      s.testBit j = true ∨ ∃ e ∈ l, Region.binds .any e = true ∧ (j = e.on ∨ (acc.getD e.on 0).testBit j = true) := by
    intro acc l
    induction l with
    | nil => intro s j h; exact .inl h
    | cons e l ih =>
      intro s j h
      rw [List.foldl_cons] at h
      rcases ih _ j h with h1 | ⟨e', he', h2⟩
      · split at h1
        · rename_i hb
          rw [Nat.testBit_or, Nat.testBit_or, Bool.or_eq_true, Bool.or_eq_true] at h1
          rcases h1 with (h1 | h1) | h1
          · exact .inl h1
          · rw [Nat.testBit_two_pow] at h1
            exact .inr ⟨e, by simp, hb, .inl (by simpa using Eq.symm (by simpa using h1))⟩
          · exact .inr ⟨e, by simp, hb, .inr h1⟩
        · exact .inl h1
      · exact .inr ⟨e', by simp [he'], h2⟩
  have outer : ∀ (l done : List Oper) (acc : Array Nat), acc.size = done.length →
      (∀ i j : Nat, (acc.getD i 0).testBit j = true → ∃ o e, done[i]? = some o ∧ e ∈ o.after ∧ Region.binds .any e = true ∧ (j = e.on ∨ (acc.getD e.on 0).testBit j = true)) →
      ∀ i j : Nat, ((l.foldl (fun acc (o : Oper) => acc.push (o.after.foldl (fun s e => if Region.binds .any e then s ||| 2 ^ e.on ||| acc.getD e.on 0 else s) 0)) acc).getD i 0).testBit j = true →
        ∃ o e, (done ++ l)[i]? = some o ∧ e ∈ o.after ∧ Region.binds .any e = true ∧ (j = e.on ∨ ((l.foldl (fun acc (o : Oper) => acc.push (o.after.foldl (fun s e => if Region.binds .any e then s ||| 2 ^ e.on ||| acc.getD e.on 0 else s) 0)) acc).getD e.on 0).testBit j = true) := by
    intro l
    induction l with
    | nil => intro done acc _ hacc i j h; simpa using hacc i j h
    | cons o l ih =>
      intro done acc hsz hacc i j h
      rw [List.foldl_cons] at h ⊢
      have := ih (done ++ [o]) _ (by simp [hsz]) ?_ i j h
      · simpa using this
      · intro i j h
        have old : ∀ k, (acc.getD k 0).testBit j = true → ((acc.push (o.after.foldl (fun s e => if Region.binds .any e then s ||| 2 ^ e.on ||| acc.getD e.on 0 else s) 0)).getD k 0).testBit j = true := by
          intro k hk
          rcases Nat.lt_or_ge k acc.size with hl | hl
          · simp only [Array.getD_eq_getD_getElem?] at hk ⊢
            rw [Array.getElem?_push_lt hl]
            simpa [hl] using hk
          · rw [Array.getD_eq_getD_getElem?, Array.getElem?_eq_none hl] at hk; simp at hk
        rcases Nat.lt_trichotomy i acc.size with hl | he | hg
        · have h' : (acc.getD i 0).testBit j = true := by
            simp only [Array.getD_eq_getD_getElem?] at h ⊢
            rw [Array.getElem?_push_lt hl] at h
            simpa [hl] using h
          obtain ⟨o', e, h1, h2, h3, h4⟩ := hacc i j h'
          refine ⟨o', e, ?_, h2, h3, h4.imp id (old e.on)⟩
          rw [List.getElem?_append_left (by omega)]; exact h1
        · subst he
          have h' : (o.after.foldl (fun s e => if Region.binds .any e then s ||| 2 ^ e.on ||| acc.getD e.on 0 else s) 0).testBit j = true := by
            simpa [Array.getD_eq_getD_getElem?] using h
          rw [← Array.foldl_toList] at h'
          rcases inner acc _ _ j h' with h1 | ⟨e, he, h2, h3⟩
          · simp at h1
          · refine ⟨o, e, ?_, by simpa using he, h2, h3.imp id (old e.on)⟩
            rw [List.getElem?_append_right (by omega)]; simp [hsz]
        · rw [Array.getD_eq_getD_getElem?, Array.getElem?_eq_none (by simp; omega)] at h; simp at h
  intro i j h
  have hb : Region.before ops = ops.toList.foldl (fun acc (o : Oper) => acc.push (o.after.foldl (fun s e => if Region.binds .any e then s ||| 2 ^ e.on ||| acc.getD e.on 0 else s) 0)) #[] := by
    unfold Region.before
    rw [← Array.foldl_toList]
  rw [hb] at h ⊢
  have := outer ops.toList [] #[] rfl (by intro i j h; simp at h) i j h
  simpa using this
end
end Go.L
