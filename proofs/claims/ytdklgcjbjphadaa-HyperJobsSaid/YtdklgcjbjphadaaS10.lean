/- THE LOGICAL MACHINE AND THE MODEL: one operation that reads the heap, whichever it is; operations that lay a block. -/
import Derived.Test.YtdklgcjbjphadaaS9
set_option linter.unusedVariables false
set_option linter.unusedSimpArgs false
namespace Go.L
open Go
variable {P : Program} {ι : Inj} {h : Heap} {w : World}
section
variable {sz : Nat} {f : FF} {a : Act} {o : Oper} {q : O} {v : Value}
theorem mem_op (hs : Sim P ι h w) (hf : FFR ι sz f a.tmps) (ho : cO P o.op = some q) (hc : cls q = .M) (hv : memV f h q = some v) : Gives P ι a o v w := by
  cases hop : o.op with
  | load t x => rw [hop] at ho; simp only [cO, Option.map_eq_some_iff, Option.bind_eq_some_iff] at ho; obtain ⟨g, hg, x', hx, rfl⟩ := ho; exact m_ld hs hg hf hop hx hv
  | lookup t m k ok =>
    rw [hop] at ho; simp only [cO] at ho
    split at ho
    · rename_i kt e hu
      simp only [Option.bind_eq_some_iff] at ho; obtain ⟨q', hq, z, hz, ho⟩ := ho
      split at ho
      · rename_i hzn
        simp only [Option.map_eq_some_iff, Option.bind_eq_some_iff] at ho; obtain ⟨m', hm, k', hk, rfl⟩ := ho
        exact m_look hs hu hq (by simpa only [Option.bind_eq_some_iff] using hz) hzn hf hop hm hk hv
      · cases ho
    · cases ho
  | convert src dst x =>
    rw [hop] at ho; simp only [cO] at ho
    split at ho
    · simp only [Option.map_eq_some_iff] at ho; obtain ⟨x', hx, rfl⟩ := ho; simp [cls] at hc
    · simp only [Option.map_eq_some_iff] at ho; obtain ⟨x', hx, rfl⟩ := ho; simp [cls] at hc
    · rename_i e hs' hd
      split at ho
      · rename_i he
        simp only [Option.map_eq_some_iff] at ho; obtain ⟨x', hx, rfl⟩ := ho; exact m_b2s hs hs' hd he hf hop hx hv
      · cases ho
    · split at ho
      · simp only [Option.map_eq_some_iff] at ho; obtain ⟨x', hx, rfl⟩ := ho; simp [cls] at hc
      · cases ho
    · cases ho
  | call c =>
    rw [hop] at ho; simp only [cO] at ho
    split at ho
    · simp only [Option.map_eq_some_iff, Option.bind_eq_some_iff] at ho; obtain ⟨_, _, _, _, rfl⟩ := ho; simp [cls] at hc
    · cases ho
    · rename_i b hcal
      split at ho
      · rename_i x t ha ht
        have hce := builtin_one hcal ha ht
        rw [hce] at hop
        split at ho
        · simp only [Option.map_eq_some_iff] at ho; obtain ⟨x', hx, rfl⟩ := ho; simp [cls] at hc
        · simp only [Option.map_eq_some_iff] at ho; obtain ⟨x', hx, rfl⟩ := ho; simp [cls] at hc
        · simp only [Option.some.injEq] at ho; subst ho; simp [cls] at hc
        · rename_i hu; simp only [Option.map_eq_some_iff] at ho; obtain ⟨x', hx, rfl⟩ := ho; exact m_lenm hs hu hf hop hx hv
        · cases ho
      · simp only [Option.map_eq_some_iff, Option.bind_eq_some_iff] at ho; obtain ⟨x', hx, r', hr, rfl⟩ := ho; simp [cls] at hc
      · simp only [Option.map_eq_some_iff, Option.bind_eq_some_iff] at ho; obtain ⟨x', hx, r', hr, rfl⟩ := ho; simp [cls] at hc
      · split at ho <;> try (cases ho; done)
        all_goals (simp only [Option.map_eq_some_iff, Option.bind_eq_some_iff] at ho; obtain ⟨_, _, _, _, _, _, _, _, rfl⟩ := ho; simp [cls] at hc)
      · simp only [Option.map_eq_some_iff, Option.bind_eq_some_iff] at ho; obtain ⟨_, _, _, _, _, _, rfl⟩ := ho; simp [cls] at hc
      · simp only [Option.bind_eq_some_iff] at ho; obtain ⟨_, _, _, _, ho⟩ := ho
        split at ho
        · cases ho
        · simp only [Option.map_eq_some_iff] at ho; obtain ⟨_, _, rfl⟩ := ho; simp [cls] at hc
      · split at ho
        · simp only [Option.map_eq_some_iff, Option.bind_eq_some_iff] at ho; obtain ⟨_, _, _, _, _, _, rfl⟩ := ho; simp [cls] at hc
        · cases ho
      · cases ho
  | _ =>
    exfalso
    rw [hop] at ho
    simp only [cO] at ho
    first | (cases ho; done) | skip
    all_goals
      (repeat' split at ho) <;> first | (cases ho; done) | skip
    all_goals
      cases q <;> first | (simp [cls] at hc; done) | skip
    all_goals first | contradiction | (simp [Option.bind_eq_some_iff, Option.map_eq_some_iff] at ho; done) | skip
end
end Go.L
