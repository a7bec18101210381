/- THE LOGICAL MACHINE AND THE MODEL: operations that look at no heap (3). -/
import Derived.Test.YtdklgcjbjphadaaS4
set_option linter.unusedVariables false
set_option linter.unusedSimpArgs false
namespace Go.L
open Go
variable {P : Program} {ι : Inj} {w : World}
section
variable {sz : Nat} {f : FF} {a : Act} {o : Oper} {q : O} {v : Value}
theorem g_un {op : UnOp} {t : TypeId} {x : Operand} (hf : FFR ι sz f a.tmps) (ho : o.op = .unOp op t x) {x' : X} (hx : cX x = some x') (hv : pureV f (.un op x') = some v) : Gives P ι a o v w := by
  have rx := ev_rel hf hx
  simp only [pureV] at hv
  unfold unOp at hv
  split at hv
  · rename_i k n e
    rw [e] at rx
    simp only [Option.some.injEq] at hv; subst hv
    exact ⟨_, by simp only [execOp, ho, rx.int_inv]; exact run_v _ rfl, .int _ _⟩
  · rename_i b e
    rw [e] at rx
    simp only [Option.some.injEq] at hv; subst hv
    exact ⟨_, by simp only [execOp, ho, rx.bool_inv]; exact run_v _ rfl, .bool _⟩
  · cases hv
theorem g_cvi {src dst : TypeId} {k0 k : IntKind} {x : Operand} (hs : P.underlying src = some (.int k0)) (hd : P.underlying dst = some (.int k)) (hf : FFR ι sz f a.tmps) (ho : o.op = .convert src dst x) {x' : X} (hx : cX x = some x') (hv : pureV f (.cvi k x') = some v) : Gives P ι a o v w := by
  have rx := ev_rel hf hx
  simp only [pureV] at hv
  split at hv
  · rename_i k' n e
    rw [e] at rx
    simp only [Option.some.injEq] at hv; subst hv
    refine ⟨.int k (k.wrap n), ?_, .int _ _⟩
    simp only [execOp, ho, rx.int_inv]
    refine run_v _ ?_
    simp only [Go.convert, Sem.run_bind, run_underlying hs, run_underlying hd, Result.andThen]; rfl
  · cases hv
theorem g_cvs {src dst : TypeId} {x : Operand} (hs : P.underlying src = some .string) (hd : P.underlying dst = some .string) (hf : FFR ι sz f a.tmps) (ho : o.op = .convert src dst x) {x' : X} (hx : cX x = some x') (hv : pureV f (.cvs x') = some v) : Gives P ι a o v w := by
  have rx := ev_rel hf hx
  simp only [pureV] at hv
  split at hv
  · rename_i s e
    rw [e] at rx
    simp only [Option.some.injEq] at hv; subst hv
    refine ⟨.string s, ?_, .string _⟩
    simp only [execOp, ho, rx.string_inv]
    refine run_v _ ?_
    simp only [Go.convert, Sem.run_bind, run_underlying hs, run_underlying hd, Result.andThen]; rfl
  · cases hv
theorem run_mapM_sem {α β : Type} (g : α → Sem β) (k : α → Option β) (w : World) : ∀ (l : List α) (m : List β), l.mapM k = some m → (∀ x y, k x = some y → (g x).run P w = .ok y w) → (l.mapM g).run P w = .ok m w
  | [], m, h, _ => by simp at h; subst h; rfl
  | x :: l, m, h, hg => by
    simp only [List.mapM_cons, Option.bind_eq_bind, Option.bind_eq_some_iff, Option.pure_def, Option.some.injEq] at h
    obtain ⟨y, hy, r, hr, rfl⟩ := h
    simp only [List.mapM_cons, Sem.run_bind, hg x y hy, Result.andThen, run_mapM_sem g k w l r hr hg]; rfl
theorem zeroOf_run {t : TypeId} {z : List Value} (h : zeroOf P t = some z) (w : World) : ∃ zv, (zeroValue t).run P w = .ok zv w ∧ cellsV zv = z := by
  unfold zeroOf at h
  simp only [Option.map_eq_some_iff, Option.bind_eq_some_iff] at h
  obtain ⟨zv, ⟨i, hi, hz⟩, rfl⟩ := h
  exact ⟨zv, by simp [zeroValue, Sem.run_bind, run_typeInfo w hi, Result.andThen, hz], rfl⟩
theorem cellsV_cells (v : Value) : v.cells.toList = cellsV v := by cases v <;> rfl
theorem VRs.self {l : List Value} (h : l.all (noNew 0 4) = true) : VRs ι l l := by
  induction l with
  | nil => exact .nil
  | cons x l ih => simp at h; exact .cons (VR.self 4 x h.1) (ih (by simpa using h.2))
theorem g_bld_struct {t : TypeId} {ps : Array (Nat × Operand)} {fs : Array Field} {z : List Value} {pl : List (Nat × Nat)} {qs : List (Nat × Nat × X)} (hu : P.underlying t = some (.struct fs)) (hz : zeroOf P t = some z) (hzn : z.all (noNew 0 4) = true)
    (hp : places P fs.toList = some pl) (hq : cParts (fun i => pl[i]?) ps.toList = some qs) (hf : FFR ι sz f a.tmps) (ho : o.op = .build t ps) (hv : pureV f (.bld z qs) = some v) : Gives P ι a o v w := by
  simp only [pureV, Option.map_eq_some_iff] at hv
  obtain ⟨c, hc, rfl⟩ := hv
  obtain ⟨zv, hzr, hzc⟩ := zeroOf_run hz w
  obtain ⟨r', hfill, hr⟩ := fill_rel hf hq (VRs.self (ι := ι) hzn) hc
  refine ⟨.agg r'.toArray, ?_, .agg hr⟩
  simp only [execOp, ho]
  refine run_v _ ?_
  have hpl : (fs.mapM (m := Sem) fun f => do pure (f.offset, ← sizeOf f.type)).run P w = .ok pl.toArray w := by
    rw [Array.mapM_eq_mapM_toList]
    have := run_mapM_sem (P := P) (fun f : Field => (do pure (f.offset, ← sizeOf f.type) : Sem (Nat × Nat))) (fun f => (szO P f.type).map fun n => (f.offset, n)) w fs.toList pl hp (fun x y hxy => by
      simp only [Option.map_eq_some_iff] at hxy
      obtain ⟨n, hn, rfl⟩ := hxy
      simp [Sem.run_bind, run_szO hn, Result.andThen])
    have map_run : ∀ {α β : Type} (g : α → β) (x : Sem α) (y : α) (w' : World), x.run P w = .ok y w' → (g <$> x).run P w = .ok (g y) w' := by
      intro α β g x y w' hx
      rw [map_eq_pure_bind]
      simp only [Sem.run_bind, hx, Result.andThen]; rfl
    exact map_run _ _ _ _ this
  have e1 : zv.cells = z.toArray := by rw [← hzc, ← cellsV_cells]
  have e2 : (ps.map fun x => (x.1, a.eval x.2)).toList = ps.toList.map fun p => (p.1, a.eval p.2) := by simp
  simp only [Instr.build, Sem.run_bind, hzr, Result.andThen, run_underlying hu, hpl, e1]
  have e3 : (fun i : Nat => pl.toArray[i]?) = fun i : Nat => pl[i]? := by funext i; simp
  rw [e2, e3, hfill]; rfl
theorem g_bld_arr {t e : TypeId} {k n : Nat} {ps : Array (Nat × Operand)} {z : List Value} {qs : List (Nat × Nat × X)} (hu : P.underlying t = some (.array k e)) (hz : zeroOf P t = some z) (hzn : z.all (noNew 0 4) = true)
    (hp : szO P e = some n) (hq : cParts (fun i => some (i * n, n)) ps.toList = some qs) (hf : FFR ι sz f a.tmps) (ho : o.op = .build t ps) (hv : pureV f (.bld z qs) = some v) : Gives P ι a o v w := by
  simp only [pureV, Option.map_eq_some_iff] at hv
  obtain ⟨c, hc, rfl⟩ := hv
  obtain ⟨zv, hzr, hzc⟩ := zeroOf_run hz w
  obtain ⟨r', hfill, hr⟩ := fill_rel hf hq (VRs.self (ι := ι) hzn) hc
  refine ⟨.agg r'.toArray, ?_, .agg hr⟩
  simp only [execOp, ho]
  refine run_v _ ?_
  have e1 : zv.cells = z.toArray := by rw [← hzc, ← cellsV_cells]
  have e2 : (ps.map fun x => (x.1, a.eval x.2)).toList = ps.toList.map fun p => (p.1, a.eval p.2) := by simp
  simp only [Instr.build, Sem.run_bind, hzr, Result.andThen, run_underlying hu, run_szO hp, e1]
  rw [e2, hfill]; rfl
theorem g_fld {t : TypeId} {i n : Nat} {fs : Array Field} {fd : Field} {x : Operand} (hu : P.underlying t = some (.struct fs)) (hfd : fs[i]? = some fd) (hn : szO P fd.type = some n) (hn0 : n ≠ 0) (hf : FFR ι sz f a.tmps) (ho : o.op = .fieldAddr t x i)
    {x' : X} (hx : cX x = some x') (hv : pureV f (.fld fd.offset x') = some v) : Gives P ι a o v w := by
  have rx := ev_rel hf hx
  simp only [pureV] at hv
  split at hv
  · rename_i ad e
    rw [e] at rx
    obtain ⟨m, hm, _, hr⟩ := rx.ptr_inv
    simp only [Option.some.injEq] at hv; subst hv
    have := VR.ptr (ι := ι) (ad.off + fd.offset) hm
    refine ⟨_, ?_, this⟩
    simp only [execOp, ho, hr]
    refine run_v _ ?_
    simp only [Instr.fieldAt, Sem.run_bind, run_underlying hu, Result.andThen, hfd, Instr.sureAddr, fieldPlace, run_szO hn, hn0]
    simp only [Addr.add, if_false]
    by_cases h0 : fd.offset = 0
    · simp [h0, Sem.run_bind, Result.andThen]
    · simp [h0, Sem.run_bind, Result.andThen, Nat.add_assoc]
  · cases hv
theorem g_fof {t : TypeId} {i : Nat} {g : Option Nat} {fs : Array Field} {fd : Field} {x : Operand} (hu : P.underlying t = some (.struct fs)) (hfd : fs[i]? = some fd) (hg : aggO P fd.type = some g) (hf : FFR ι sz f a.tmps) (ho : o.op = .field t x i)
    {x' : X} (hx : cX x = some x') (hv : pureV f (.fof fd.offset g x') = some v) : Gives P ι a o v w := by
  have rx := ev_rel hf hx
  simp only [pureV] at hv
  split at hv
  · rename_i cs e
    rw [e] at rx
    obtain ⟨cs', hr, hcs⟩ := rx.agg_inv
    obtain ⟨v', h1, h2⟩ := run_part hg hcs hv w
    refine ⟨v', ?_, h2⟩
    simp only [execOp, ho, hr]
    refine run_v _ ?_
    simp only [Instr.field, Sem.run_bind, run_underlying hu, Result.andThen, hfd, asAgg, Sem.run_pure]
    exact h1
  · cases hv
theorem addr_eq (m : Img) (off k : Nat) : (⟨m.rb, m.off + off, none⟩ : Addr).add k = ⟨m.rb, m.off + (off + k), none⟩ := by
  unfold Addr.add
  split
  · rename_i h; subst h; rfl
  · simp [Nat.add_assoc]
theorem g_ixa {t e : TypeId} {k n : Nat} {x i : Operand} (hu : P.underlying t = some (.array k e)) (hn : szO P e = some n) (hf : FFR ι sz f a.tmps) (ho : o.op = .indexAddr t x i)
    {x' i' : X} (hx : cX x = some x') (hi : cX i = some i') (hv : pureV f (.ixa k n x' i') = some v) : Gives P ι a o v w := by
  have rx := ev_rel hf hx
  have ri := ev_rel hf hi
  simp only [pureV] at hv
  split at hv
  · rename_i ad e1
    rw [e1] at rx
    obtain ⟨m, hm, _, hr⟩ := rx.ptr_inv
    unfold addrOf at hv
    split at hv
    · rename_i kk j e2
      rw [e2] at ri
      split at hv
      · rename_i hb
        simp only [Option.some.injEq] at hv; subst hv
        refine ⟨_, ?_, VR.ptr (ι := ι) (ad.off + j.toNat * n) hm⟩
        simp only [execOp, ho, hr, ri.int_inv]
        refine run_v _ ?_
        simp only [Instr.indexAt, Sem.run_bind, asIntOf, Sem.run_pure, run_underlying hu, Result.andThen, Instr.sureAddr, hb, and_self, if_true, run_szO hn, addr_eq]
      · cases hv
    · cases hv
  · cases hv
theorem g_ixs {t e : TypeId} {n : Nat} {x i : Operand} (hu : P.underlying t = some (.slice e)) (hn : szO P e = some n) (hf : FFR ι sz f a.tmps) (ho : o.op = .indexAddr t x i)
    {x' i' : X} (hx : cX x = some x') (hi : cX i = some i') (hv : pureV f (.ixs n x' i') = some v) : Gives P ι a o v w := by
  have rx := ev_rel hf hx
  have ri := ev_rel hf hi
  simp only [pureV] at hv
  split at hv
  · rename_i ad len cap e1
    rw [e1] at rx
    unfold addrOf at hv
    split at hv
    · rename_i kk j e2
      rw [e2] at ri
      split at hv
      · rename_i hb
        simp only [Option.some.injEq] at hv; subst hv
        have key : ∀ {m : Img} (off cap' : Nat), ι ad.block = some m → ad.off = off → a.eval x = .slice (some ⟨m.rb, m.off + off, none⟩) len cap' → Gives P ι a o (.pointer (some ⟨ad.block, ad.off + j.toNat * n, none⟩)) w := by
          intro m off cap' hm hoff hr
          refine ⟨_, ?_, VR.ptr (ι := ι) (ad.off + j.toNat * n) hm⟩
          simp only [execOp, ho, hr, ri.int_inv]
          refine run_v _ ?_
          simp only [Instr.indexAt, Sem.run_bind, asIntOf, Sem.run_pure, run_underlying hu, Result.andThen, hb, and_self, if_true, run_szO hn, addr_eq, hoff]
        cases rx' : a.eval x <;> rw [rx'] at rx <;> cases rx
        · exact key _ _ ‹_› rfl rx'
        · omega
        · exact key _ _ ‹_› rfl rx'
        · omega
      · cases hv
    · cases hv
  · cases hv
theorem g_ixv {t e : TypeId} {k n : Nat} {g : Option Nat} {x i : Operand} (hu : P.underlying t = some (.array k e)) (hn : szO P e = some n) (hg : aggO P e = some g) (hf : FFR ι sz f a.tmps) (ho : o.op = .index t x i)
    {x' i' : X} (hx : cX x = some x') (hi : cX i = some i') (hv : pureV f (.ixv k n g x' i') = some v) : Gives P ι a o v w := by
  have rx := ev_rel hf hx
  have ri := ev_rel hf hi
  simp only [pureV] at hv
  split at hv
  · rename_i cs kk j e1 e2
    rw [e1] at rx; rw [e2] at ri
    split at hv
    · rename_i hb
      obtain ⟨cs', hr, hcs⟩ := rx.agg_inv
      obtain ⟨v', h1, h2⟩ := run_part hg hcs hv w
      refine ⟨v', ?_, h2⟩
      simp only [execOp, ho, hr, ri.int_inv]
      refine run_v _ ?_
      simp only [Instr.index, Sem.run_bind, asIntOf, Sem.run_pure, run_underlying hu, Result.andThen, hb, and_self, if_true, run_szO hn]
      exact h1
    · cases hv
  · cases hv
theorem g_ixt {t : TypeId} {x i : Operand} (hu : P.underlying t = some .string) (hf : FFR ι sz f a.tmps) (ho : o.op = .index t x i)
    {x' i' : X} (hx : cX x = some x') (hi : cX i = some i') (hv : pureV f (.ixt x' i') = some v) : Gives P ι a o v w := by
  have rx := ev_rel hf hx
  have ri := ev_rel hf hi
  simp only [pureV] at hv
  split at hv
  · rename_i s kk j e1 e2
    rw [e1] at rx; rw [e2] at ri
    split at hv
    · rename_i hb
      simp only [Option.map_eq_some_iff] at hv
      obtain ⟨c, hc, rfl⟩ := hv
      refine ⟨.int .u8 c.toNat, ?_, .int _ _⟩
      simp only [execOp, ho, rx.string_inv, ri.int_inv]
      refine run_v _ ?_
      simp only [Instr.index, Sem.run_bind, asIntOf, Sem.run_pure, run_underlying hu, Result.andThen, hb, if_true, hc]
    · cases hv
  · cases hv
end
end Go.L
