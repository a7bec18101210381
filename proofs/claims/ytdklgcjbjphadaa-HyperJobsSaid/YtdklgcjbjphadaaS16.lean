/- THE LOGICAL MACHINE AND THE MODEL: one instruction of a walk; a statement in order. -/
import Derived.Test.YtdklgcjbjphadaaS15
import Derived.OwnWalkIn
set_option linter.unusedVariables false
set_option linter.unusedSimpArgs false
namespace Go.L
open Go
variable {P : Program} {ι : Inj} {h : Heap} {w : World}
/-- A fence that lets everything in. -/
structure Wide (F : Fence) : Prop where
  fn : ∀ f, F.fn f
  depth : F.depth = none
  alive : F.alive = false
theorem Wide.inRound {F : Fence} (h : Wide F) (l : Nat) : Wide (F.inRound l) := ⟨h.fn, h.depth, h.alive⟩
/-- How a call ends. -/
def Ret (P : Program) (ι : Inj) (h : Heap) (w : World) (v : Value) (h' : Heap) (e : Ending) (w' : World) : Prop := ∃ ι' v', e = .returned v' ∧ St P ι h w ι' h' w' ∧ Old ι h ι' ∧ VR ι' v v'
def CallOK (P : Program) (cf : CallT) : Prop := ∀ g args h v h' ws, cf g args h = some (v, h', ws) → ∀ (F : Fence) (n : Nat), Wide F → ∀ (ι : Inj) (w : World) (g' : Value) (args' : List Value), Sim P ι h w → VR ι g g' → VRs ι args args' →
  ∃ d, (Deferred.ofValue g' args'.toArray).run P w = .ok d w ∧
    (((∃ f as, (invoke d.target d.args).run P w = .ok (.enter f as) w ∧ CallsIn F n P f as w (Ret P ι h w v h')) ∨
     (∃ l0 a0 b0, g = .func (.yield l0) a0 b0) ∧ ∃ l f tmps assign body, (invoke d.target d.args).run P w = .ok (.round l f tmps assign body) w ∧ RoundIn F n P l f tmps assign body w (Ret P ι h w v h')) ∨
     (∀ l0 a0 b0, Value.func (.yield l0) a0 b0 ∉ args) ∧ ∃ v' w', (invoke d.target d.args).run P w = .ok (.value v') w' ∧ Ret P ι h w v h' (.returned v') w')
section
variable {sz : Nat} {f : FF} {a : Act} {o : Oper} {q : O} {v : Value} {h' : Heap} {ws : List Nat} {F : Fence} {n : Nat} {cf : CallT} {next : Act → World → Prop} {Q : Exit → Act → World → Prop}
theorem cO_call {g : X} {args : List X} (ho : cO P o.op = some (.call g args)) : ∃ c g0, o.op = .call c ∧ c.callee = .value g0 ∧ cX g0 = some g ∧ cXs c.args.toList = some args := by
  cases hop : o.op with
  | call c =>
    rw [hop] at ho; simp only [cO] at ho
    split at ho
    · rename_i g0 hcal
      simp only [Option.map_eq_some_iff, Option.bind_eq_some_iff, O.call.injEq] at ho
      obtain ⟨g', hg, as, has, rfl, rfl⟩ := ho
      exact ⟨c, g0, rfl, hcal, hg, has⟩
    · cases ho
    · exfalso
      (repeat' split at ho) <;> first | (cases ho; done) | (simp [Option.bind_eq_some_iff, Option.map_eq_some_iff] at ho; done)
  | _ =>
    exfalso
    rw [hop] at ho
    simp only [cO] at ho
    first | (cases ho; done) | skip
    all_goals
      (repeat' split at ho) <;> first | (cases ho; done) | skip
    all_goals first | contradiction | (simp [Option.bind_eq_some_iff, Option.map_eq_some_iff] at ho; done) | skip
theorem cO_noDefer (ho : cO P o.op = some q) : ∀ c, o.op ≠ .defer c := by
  intro c e; rw [e] at ho; simp [cO] at ho
/-- One instruction that is carried out. -/
theorem op_ok (hW : Wide F) (hcf : CallOK P cf) (hs : Sim P ι h w) (hf : FFR ι sz f a.tmps) (ho : cO P o.op = some q) (hv : opN cf f h q = some (v, h', ws))
    (hn : ∀ ι' w' v', St P ι h w ι' h' w' → Old ι h ι' → VR ι' v v' → next (a.put o.dst v') w') : o.wpIn F n P a w next Q := by
  refine ⟨fun f _ => hW.fn f, ?_⟩
  rw [Oper.semAt_plain F _ _ (cO_noDefer ho)]
  unfold opN at hv
  cases hc : cls q with
  | P =>
    rw [hc] at hv
    cases hp : pureV f q with
    | none => rw [hp] at hv; cases hv
    | some v0 =>
      rw [hp] at hv; simp only [Option.some.injEq, Prod.mk.injEq] at hv; obtain ⟨rfl, rfl, rfl⟩ := hv
      obtain ⟨v', h1, h2⟩ := pure_op (ι := ι) (w := w) hf ho hc hp
      rw [h1]; exact hn ι w v' (St.refl hs) (Old.refl _ _) h2
  | M =>
    rw [hc] at hv
    cases hp : memV f h q with
    | none => rw [hp] at hv; cases hv
    | some v0 =>
      rw [hp] at hv; simp only [Option.some.injEq, Prod.mk.injEq] at hv; obtain ⟨rfl, rfl, rfl⟩ := hv
      obtain ⟨v', h1, h2⟩ := mem_op hs hf ho hc hp
      rw [h1]; exact hn ι w v' (St.refl hs) (Old.refl _ _) h2
  | A =>
    rw [hc] at hv
    cases hp : newV f q with
    | none => rw [hp] at hv; cases hv
    | some nw =>
      rw [hp] at hv; simp only [Option.some.injEq, Prod.mk.injEq] at hv; obtain ⟨rfl, rfl, rfl⟩ := hv
      obtain ⟨wd, O, m, v', h1, h2, h3, h4⟩ := new_op (w := w) hf ho hc hp
      rw [h2]
      obtain ⟨h5, h6⟩ := h4 h.length (hs.dom _ (Nat.le_refl _))
      have st1 := St.quiet hs h1
      have st2 := St.push (P := P) st1.sim (o := nw.1) (O := O) (m := m) (by rw [h3, h1.heap]) (fun _ => h5)
      exact hn _ _ v' (st1.trans st2) (Old.put _ _ _) h6
  | S =>
    rw [hc] at hv
    cases q <;> first | (simp [cls] at hc; done) | skip
    simp only at hv
    split at hv
    · rename_i hr
      simp only [Option.some.injEq, Prod.mk.injEq] at hv; obtain ⟨rfl, rfl, rfl⟩ := hv
      obtain ⟨w', h1, h2⟩ := store_op hs hf ho hr
      rw [h1]; exact hn ι w' undef h2 (Old.refl _ _) VR.undef
    · cases hv
  | C =>
    rw [hc] at hv
    cases q <;> first | (simp [cls] at hc; done) | skip
    rename_i g args
    simp only at hv
    obtain ⟨c, g0, hop, hcal, hg, has⟩ := cO_call ho
    obtain ⟨d, hd, hinv⟩ := hcf _ _ _ _ _ _ hv F (n - 1) hW ι w (a.eval g0) (c.args.toList.map a.eval) hs (ev_rel hf hg) (evs_rel hf has)
    have hres : (resolve a.eval c o.type).run P w = .ok d w := by
      simp only [resolve, hcal]
      have : (c.args.toList.map a.eval).toArray = c.args.map a.eval := by apply Array.ext'; simp
      rw [this] at hd; exact hd
    have hex : (execOp a.eval o).run P w = (invoke d.target d.args).run P w := by
      simp only [execOp, hop, Sem.run_bind, hres, Result.andThen_ok]
    rw [hex]
    rcases hinv with (⟨fn, as, h1, h2⟩ | ⟨_, l, fn, tmps, assign, body, h1, h2⟩) | ⟨_, vr, wr, h1, h2⟩
    · rw [h1, Oper.uponIn_enter]
      refine ⟨(fun hh => by rw [hW.depth] at hh; cases hh), h2.mono fun e w' hr => ?_⟩
      obtain ⟨ι', v', rfl, k1, k2, k3⟩ := hr
      exact hn ι' w' v' k1 k2 k3
    · rw [h1, Oper.uponIn_round]
      refine ⟨(fun hh => by rw [hW.depth] at hh; cases hh), h2.mono fun e w' hr => ?_⟩
      obtain ⟨ι', v', rfl, k1, k2, k3⟩ := hr
      exact hn ι' w' v' k1 k2 k3
    · rw [h1, Oper.uponIn_value]
      obtain ⟨ι', v', e, k1, k2, k3⟩ := h2
      cases e
      exact hn ι' wr vr k1 k2 k3
  | E =>
    rw [hc] at hv
    obtain ⟨ι', w', nx, h1, h2, h3, h4⟩ := eff_op hs hf ho hc hv
    rw [h1]
    rcases h4 with ⟨rfl, rfl⟩ | ⟨v', rfl, h5⟩
    · exact hn ι' w' undef h2 h3 VR.undef
    · exact hn ι' w' v' h2 h3 h5
end
end Go.L
