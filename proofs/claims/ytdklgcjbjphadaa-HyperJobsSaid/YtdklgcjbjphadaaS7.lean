/- THE LOGICAL MACHINE AND THE MODEL: one operation that looks at no heap, whichever it is; operations that read the heap. -/
import Derived.Test.YtdklgcjbjphadaaS6
set_option linter.unusedVariables false
set_option linter.unusedSimpArgs false
namespace Go.L
open Go
variable {P : Program} {ι : Inj} {h : Heap} {w : World}
section
variable {sz : Nat} {f : FF} {a : Act} {o : Oper} {q : O} {v : Value}
theorem arr1 {α : Type} {xs : Array α} {x : α} (h : xs.toList = [x]) : xs = #[x] := by
  cases xs; simp at h; subst h; rfl
theorem builtin_one {b : Builtin} {c : Go.Call} {x : Operand} {t : TypeId} (hc : c.callee = .builtin b) (ha : c.args.toList = [x]) (ht : c.argTypes.toList = [t]) : c = { callee := .builtin b, args := #[x], argTypes := #[t] } := by
  obtain ⟨ca, ar, at_⟩ := c
  simp only at hc ha ht
  rw [hc, arr1 ha, arr1 ht]
theorem builtin_eta {b : Builtin} {c : Go.Call} (hc : c.callee = .builtin b) : c = { callee := .builtin b, args := c.args, argTypes := c.argTypes } := by
  obtain ⟨ca, ar, at_⟩ := c
  simp only at hc
  rw [hc]
theorem pure_op (hf : FFR ι sz f a.tmps) (ho : cO P o.op = some q) (hc : cls q = .P) (hv : pureV f q = some v) : Gives P ι a o v w := by
  cases hop : o.op with
  | move x => rw [hop] at ho; simp only [cO, Option.map_eq_some_iff] at ho; obtain ⟨x', hx, rfl⟩ := ho; exact g_mov hf (.inl hop) hx hv
  | assign x => rw [hop] at ho; simp only [cO, Option.map_eq_some_iff] at ho; obtain ⟨x', hx, rfl⟩ := ho; exact g_mov hf (.inr hop) hx hv
  | pick c x y => rw [hop] at ho; simp only [cO, Option.map_eq_some_iff, Option.bind_eq_some_iff] at ho; obtain ⟨c', hcc, x', hx, y', hy, rfl⟩ := ho; exact g_pick hf hop hcc hx hy hv
  | binOp op t x y yt => rw [hop] at ho; simp only [cO, Option.map_eq_some_iff, Option.bind_eq_some_iff] at ho; obtain ⟨x', hx, y', hy, rfl⟩ := ho; exact g_bin hf hop hx hy hv
  | unOp op t x => rw [hop] at ho; simp only [cO, Option.map_eq_some_iff] at ho; obtain ⟨x', hx, rfl⟩ := ho; exact g_un hf hop hx hv
  | convert src dst x =>
    rw [hop] at ho; simp only [cO] at ho
    split at ho
    · rename_i k0 k hs hd; simp only [Option.map_eq_some_iff] at ho; obtain ⟨x', hx, rfl⟩ := ho; exact g_cvi hs hd hf hop hx hv
    · rename_i hs hd; simp only [Option.map_eq_some_iff] at ho; obtain ⟨x', hx, rfl⟩ := ho; exact g_cvs hs hd hf hop hx hv
    · split at ho
      · simp only [Option.map_eq_some_iff] at ho; obtain ⟨x', hx, rfl⟩ := ho; simp [cls] at hc
      · cases ho
    · split at ho
      · simp only [Option.map_eq_some_iff] at ho; obtain ⟨x', hx, rfl⟩ := ho; simp [cls] at hc
      · cases ho
    · cases ho
  | build t ps =>
    rw [hop] at ho; simp only [cO] at ho
    split at ho
    · rename_i fs hu; simp only [Option.bind_eq_some_iff] at ho; obtain ⟨z, hz, ho⟩ := ho
      split at ho
      · rename_i hzn; simp only [Option.bind_eq_some_iff, Option.map_eq_some_iff] at ho; obtain ⟨pl, hp, qs, hq, rfl⟩ := ho; exact g_bld_struct hu hz hzn hp hq hf hop hv
      · cases ho
    · rename_i k e hu; simp only [Option.bind_eq_some_iff] at ho; obtain ⟨z, hz, ho⟩ := ho
      split at ho
      · rename_i hzn; simp only [Option.bind_eq_some_iff, Option.map_eq_some_iff] at ho; obtain ⟨n, hn, qs, hq, rfl⟩ := ho; exact g_bld_arr hu hz hzn hn hq hf hop hv
      · cases ho
    · cases ho
  | fieldAddr t x i =>
    rw [hop] at ho; simp only [cO] at ho
    split at ho
    · rename_i fs hu; simp only [Option.bind_eq_some_iff] at ho; obtain ⟨fd, hfd, n, hn, ho⟩ := ho
      split at ho
      · cases ho
      · rename_i hn0; simp only [Option.map_eq_some_iff] at ho; obtain ⟨x', hx, rfl⟩ := ho; exact g_fld hu hfd hn hn0 hf hop hx hv
    · cases ho
  | field t x i =>
    rw [hop] at ho; simp only [cO] at ho
    split at ho
    · rename_i fs hu; simp only [Option.bind_eq_some_iff, Option.map_eq_some_iff] at ho; obtain ⟨fd, hfd, g, hg, x', hx, rfl⟩ := ho; exact g_fof hu hfd hg hf hop hx hv
    · cases ho
  | indexAddr t x i =>
    rw [hop] at ho; simp only [cO] at ho
    split at ho
    · rename_i k e hu; simp only [Option.bind_eq_some_iff, Option.map_eq_some_iff] at ho; obtain ⟨n, hn, x', hx, i', hi, rfl⟩ := ho; exact g_ixa hu hn hf hop hx hi hv
    · rename_i e hu; simp only [Option.bind_eq_some_iff, Option.map_eq_some_iff] at ho; obtain ⟨n, hn, x', hx, i', hi, rfl⟩ := ho; exact g_ixs hu hn hf hop hx hi hv
    · cases ho
  | index t x i =>
    rw [hop] at ho; simp only [cO] at ho
    split at ho
    · rename_i k e hu; simp only [Option.bind_eq_some_iff, Option.map_eq_some_iff] at ho; obtain ⟨n, hn, g, hg, x', hx, i', hi, rfl⟩ := ho; exact g_ixv hu hn hg hf hop hx hi hv
    · rename_i hu; simp only [Option.bind_eq_some_iff, Option.map_eq_some_iff] at ho; obtain ⟨x', hx, i', hi, rfl⟩ := ho; exact g_ixt hu hf hop hx hi hv
    · cases ho
  | slice t x lo hi mx =>
    rw [hop] at ho; simp only [cO] at ho
    split at ho
    · rename_i hu
      cases mx with
      | some m => simp at ho
      | none => simp only [Option.isSome_none, Bool.false_eq_true, if_false, Option.bind_eq_some_iff, Option.map_eq_some_iff] at ho; obtain ⟨x', hx, lo', hlo, hi', hhi, rfl⟩ := ho; exact g_slt hu hf hop hx hlo hhi hv
    · rename_i e hu; simp only [Option.bind_eq_some_iff, Option.map_eq_some_iff] at ho; obtain ⟨n, hn, x', hx, lo', hlo, hi', hhi, mx', hmx, rfl⟩ := ho; exact g_sls hu hn hf hop hx hlo hhi hmx hv
    · rename_i k e hu
      cases mx with
      | some m => simp at ho
      | none => simp only [Option.isSome_none, Bool.false_eq_true, if_false, Option.bind_eq_some_iff, Option.map_eq_some_iff] at ho; obtain ⟨n, hn, x', hx, lo', hlo, hi', hhi, rfl⟩ := ho; exact g_sla hu hn hf hop hx hlo hhi hv
    · cases ho
  | nilCheck x => rw [hop] at ho; simp only [cO, Option.map_eq_some_iff] at ho; obtain ⟨x', hx, rfl⟩ := ho; exact g_nil hf hop hx hv
  | extract x i => rw [hop] at ho; simp only [cO, Option.map_eq_some_iff] at ho; obtain ⟨x', hx, rfl⟩ := ho; exact g_ext hf hop hx hv
  | makeFunc fn first cap =>
    rw [hop] at ho
    cases fn <;> simp only [cO] at ho <;> try (cases ho; done)
    simp only [Option.bind_eq_some_iff, Option.map_eq_some_iff] at ho; obtain ⟨l, hl, c, hcc, rfl⟩ := ho; exact g_mkf hf hop hl hcc hv
  | makeInterface t x =>
    rw [hop] at ho; simp only [cO] at ho
    split at ho
    · cases ho
    · cases ho
    · rename_i hu1 hu2
      simp only [Option.map_eq_some_iff] at ho; obtain ⟨x', hx, rfl⟩ := ho
      cases hu : P.underlying t with
      | none => exact absurd hu hu2
      | some d => exact g_mki hu (fun ms e => hu1 ms (by rw [hu, e])) hf hop hx hv
  | load t x => rw [hop] at ho; simp only [cO, Option.map_eq_some_iff, Option.bind_eq_some_iff] at ho; obtain ⟨_, _, _, _, rfl⟩ := ho; simp [cls] at hc
  | lookup t m k ok =>
    rw [hop] at ho; simp only [cO] at ho
    split at ho
    · simp only [Option.bind_eq_some_iff] at ho; obtain ⟨_, _, _, _, ho⟩ := ho
      split at ho
      · simp only [Option.map_eq_some_iff, Option.bind_eq_some_iff] at ho; obtain ⟨_, _, _, _, rfl⟩ := ho; simp [cls] at hc
      · cases ho
    · cases ho
  | alloc t => rw [hop] at ho; simp only [cO, Option.map_eq_some_iff, Option.bind_eq_some_iff] at ho; obtain ⟨_, _, _, _, rfl⟩ := ho; simp [cls] at hc
  | box t x => rw [hop] at ho; simp only [cO, Option.map_eq_some_iff] at ho; obtain ⟨_, _, rfl⟩ := ho; simp [cls] at hc
  | buildSlice t n ps => rw [hop] at ho; simp only [cO, Option.map_eq_some_iff, Option.bind_eq_some_iff] at ho; obtain ⟨_, _, _, _, _, _, rfl⟩ := ho; simp [cls] at hc
  | makeSlice t n c => rw [hop] at ho; simp only [cO, Option.map_eq_some_iff, Option.bind_eq_some_iff] at ho; obtain ⟨_, _, _, _, _, _, _, _, rfl⟩ := ho; simp [cls] at hc
  | makeMap t r =>
    rw [hop] at ho
    cases r <;> simp only [cO] at ho
    · simp only [Option.some.injEq] at ho; subst ho; simp [cls] at hc
    · cases ho
  | store t x y => rw [hop] at ho; simp only [cO, Option.map_eq_some_iff, Option.bind_eq_some_iff] at ho; obtain ⟨_, _, _, _, _, _, rfl⟩ := ho; simp [cls] at hc
  | mapUpdate t m k x =>
    rw [hop] at ho; simp only [cO] at ho
    split at ho
    · simp only [Option.map_eq_some_iff, Option.bind_eq_some_iff] at ho; obtain ⟨_, _, _, _, _, _, _, _, rfl⟩ := ho; simp [cls] at hc
    · cases ho
  | call c =>
    rw [hop] at ho; simp only [cO] at ho
    split at ho
    · simp only [Option.map_eq_some_iff, Option.bind_eq_some_iff] at ho; obtain ⟨_, _, _, _, rfl⟩ := ho; simp [cls] at hc
    · cases ho
    · rename_i b hcal
      split at ho
      · rename_i x t ha ht
        have hce := builtin_one hcal ha ht
        rw [hce] at hop
        split at ho
        · rename_i hu; simp only [Option.map_eq_some_iff] at ho; obtain ⟨x', hx, rfl⟩ := ho; exact g_lens_str (ty := 0) hu hf hop hx hv
        · rename_i e hu; simp only [Option.map_eq_some_iff] at ho; obtain ⟨x', hx, rfl⟩ := ho; exact g_lens_sl hu hf hop hx hv
        · rename_i n e hu; simp only [Option.some.injEq] at ho; subst ho; exact g_lena hu hop hv
        · simp only [Option.map_eq_some_iff] at ho; obtain ⟨_, _, rfl⟩ := ho; simp [cls] at hc
        · cases ho
      · rename_i x r _ ha
        rw [builtin_eta hcal] at hop
        simp only [Option.map_eq_some_iff, Option.bind_eq_some_iff] at ho; obtain ⟨x', hx, r', hr, rfl⟩ := ho
        exact g_min (ty := 0) ha hf hop hx hr hv
      · rename_i x r _ ha
        rw [builtin_eta hcal] at hop
        simp only [Option.map_eq_some_iff, Option.bind_eq_some_iff] at ho; obtain ⟨x', hx, r', hr, rfl⟩ := ho
        exact g_max (ty := 0) ha hf hop hx hr hv
      · split at ho <;> try (cases ho; done)
        all_goals (simp only [Option.map_eq_some_iff, Option.bind_eq_some_iff] at ho; obtain ⟨_, _, _, _, _, _, _, _, rfl⟩ := ho; simp [cls] at hc)
      · simp only [Option.map_eq_some_iff, Option.bind_eq_some_iff] at ho; obtain ⟨_, _, _, _, _, _, rfl⟩ := ho; simp [cls] at hc
      · simp only [Option.bind_eq_some_iff] at ho; obtain ⟨_, _, _, _, ho⟩ := ho
        split at ho
        · cases ho
        · simp only [Option.map_eq_some_iff] at ho; obtain ⟨_, _, rfl⟩ := ho; simp [cls] at hc
      · split at ho
        · simp only [Option.map_eq_some_iff, Option.bind_eq_some_iff] at ho; obtain ⟨_, _, _, _, _, _, rfl⟩ := ho; simp [cls] at hc
        · cases ho
      · cases ho
  | _ => rw [hop] at ho; simp [cO] at ho
end
end Go.L
