/- THE LOGICAL MACHINE AND THE MODEL: a statement in order. -/
import Derived.Test.YtdklgcjbjphadaaS16
import Derived.Test.YtdklgcjbjphadaaK
set_option linter.unusedVariables false
set_option linter.unusedSimpArgs false
namespace Go.L
open Go
variable {P : Program} {ι : Inj} {h : Heap} {w : World}
section
variable {sz : Nat} {f f' : FF} {a : Act} {o : Oper} {q : O} {v : Value} {h' : Heap} {ws : List Nat} {F : Fence} {n : Nat} {cf : CallT} {next : Act → World → Prop} {Q : Exit → Act → World → Prop} {ops : Array Oper}
theorem cI_inv {i : Ins} (h : cI P sz ops o = some i) : (∀ d, o.dst = some d → d < sz) ∧ i.d = o.dst ∧ cG ops o.guard = some i.g ∧ cO P o.op = some i.o := by
  have hd : ∀ d, o.dst = some d → d < sz := by
    intro d hd
    unfold cI at h
    rw [hd] at h
    simp only [decide_eq_true_eq] at h
    split at h
    · assumption
    · cases h
  unfold cI at h
  rw [if_pos (by cases e : o.dst with | none => rfl | some d => simpa using hd d e)] at h
  simp only [Option.bind_eq_some_iff, Option.map_eq_some_iff] at h
  obtain ⟨g, hg, o', ho, rfl⟩ := h
  exact ⟨hd, rfl, hg, ho⟩
theorem put_rel {ι' : Inj} {d : Option Nat} {v' : Value} (hf : FFR ι' sz f a.tmps) (hd : ∀ x, d = some x → x < sz) (hv : VR ι' v v') : FFR ι' sz (putD f d v) (a.put d v').tmps := by
  cases d with
  | none => exact hf
  | some d => exact hf.put (hd d rfl) hv
theorem wanted_rel {g : Option (Nat × Bool)} (hf : FFR ι sz f a.tmps) (hg : cG ops o.guard = some g) {b : Bool} (hw : wanted f g = some b) : Region.wanted o (yielded ops a.tmps) = b := by
  unfold cG at hg
  unfold Region.wanted
  split at hg
  · rename_i e
    simp only [Option.some.injEq] at hg; subst hg
    simp only [wanted, Option.some.injEq] at hw; subst hw
    rw [e]
  · rename_i j want e
    rw [e]
    simp only [Option.map_eq_some_iff] at hg
    obtain ⟨d, hd, rfl⟩ := hg
    simp only [wanted] at hw
    have hv := hf.at_ d
    simp only [yielded, hd, Option.bind_some]
    split at hw
    · rename_i c ec
      rw [ec] at hv
      have hb := hv.bool_inv
      have : a.tmps[d]? = some (.bool c) := by
        rw [Array.getD_eq_getD_getElem?] at hb
        cases ht : a.tmps[d]? with
        | none => rw [ht] at hb; cases hb
        | some x => rw [ht] at hb; simp at hb; rw [hb]
      rw [this]
      simp only [Option.some.injEq] at hw; subst hw
      simp
    · rename_i vs ec
      rw [ec] at hv
      split at hw
      · rename_i hemp
        simp only [Option.some.injEq] at hw; subst hw
        obtain ⟨cs', hr, _⟩ := hv.tuple_inv (by intro e; simp only [forgot, Value.tuple.injEq] at e; subst e; simp at hemp)
        have : ∀ c, a.tmps[d]? ≠ some (.bool c) := by
          intro c hc
          rw [Array.getD_eq_getD_getElem?, hc] at hr
          cases hr
        cases ht : a.tmps[d]? with
        | none => simp
        | some x =>
          cases x <;> first | (exact absurd ht (this _)) | simp
      · cases hw
    · cases hw
/-- What the instructions of a row of operations are. -/
def Ops (P : Program) (sz : Nat) (ops : Array Oper) : List Nat → List Ins → Prop := All2 fun i ins => ∃ o, ops[i]? = some o ∧ cI P sz ops o = some ins
theorem runN_ok (hW : Wide F) (hcf : CallOK P cf) (hk : KeepC cf) {l : List Nat} {ins : List Ins} (hl : Ops P sz ops l ins) : ∀ {ι : Inj} {h : Heap} {w : World} {f : FF} {a : Act}, Sim P ι h w → FFR ι sz f a.tmps → ∀ {f' h' ws}, runN cf ins f h = some (f', h', ws) →
    (∀ ι' a' w', St P ι h w ι' h' w' → Old ι h ι' → FFR ι' sz f' a'.tmps → a'.defers = a.defers → Q .normal a' w') → wpOpsIn F n P ops Q l a w := by
  induction hl with
  | nil =>
    intro ι h w f a hs hf f' h' ws hv hq
    simp only [runN, Option.some.injEq, Prod.mk.injEq] at hv
    obtain ⟨rfl, rfl, rfl⟩ := hv
    exact hq ι a w (St.refl hs) (Old.refl _ _) hf rfl
  | @cons i ins l inss hi hl ih =>
    intro ι h w f a hs hf f' h' ws hv hq
    obtain ⟨o, ho, hc⟩ := hi
    obtain ⟨hd, ed, hg, hop⟩ := cI_inv hc
    simp only [runN] at hv
    simp only [wpOpsIn, ho]
    cases hw : wanted f ins.g with
    | none => rw [hw] at hv; cases hv
    | some b =>
      rw [hw] at hv
      have hreal := wanted_rel (o := o) (ops := ops) hf hg hw
      cases b with
      | true =>
        rw [if_pos hreal]
        simp only at hv
        cases hv1 : opN cf f h ins.o with
        | none => rw [hv1] at hv; cases hv
        | some r =>
          obtain ⟨v, h1, ws1⟩ := r
          rw [hv1] at hv
          simp only [addw] at hv
          split at hv
          · rename_i f2 h2 ws2 hr
            simp only [Option.some.injEq, Prod.mk.injEq] at hv
            obtain ⟨rfl, rfl, rfl⟩ := hv
            refine op_ok hW hcf hs hf hop hv1 fun ι' w' v' st old hv' => ?_
            refine ih st.sim (put_rel (a := a) (hf.mono st.sub) hd hv') (by rw [← ed]; exact hr) fun ι2 a2 w2 st2 old2 hf2 hd2 => ?_
            have hlen : h.length ≤ h1.length := (opN_keep hk hv1).len
            refine hq ι2 a2 w2 (st.trans st2) (fun b hb => (old2 b (Nat.lt_of_lt_of_le hb hlen)).trans (old b hb)) hf2 (hd2.trans ?_)
            cases o.dst <;> rfl
          · cases hv
      | false =>
        rw [if_neg (by rw [hreal]; simp)]
        refine ⟨fun f _ => hW.fn f, ?_⟩
        simp only at hv
        refine ih hs (put_rel (a := a) hf hd VR.undef) (by rw [← ed]; exact hv) fun ι2 a2 w2 st2 old2 hf2 hd2 => hq ι2 a2 w2 st2 old2 hf2 (hd2.trans ?_)
        cases o.dst <;> rfl
end
end Go.L
