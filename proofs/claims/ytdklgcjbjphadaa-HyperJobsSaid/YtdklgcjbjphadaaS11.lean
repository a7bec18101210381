/- THE LOGICAL MACHINE AND THE MODEL: operations that lay a block. -/
import Derived.Test.YtdklgcjbjphadaaS10
set_option linter.unusedVariables false
set_option linter.unusedSimpArgs false
namespace Go.L
open Go
variable {P : Program} {ι : Inj} {h : Heap} {w : World}
structure Quiet (w w' : World) : Prop where
  heap : w'.heap = w.heap
  os : w'.os = w.os
  tape : w'.tape = w.tape
  output : w'.output = w.output
theorem Quiet.refl (w : World) : Quiet w w := ⟨rfl, rfl, rfl, rfl⟩
theorem Quiet.drew (w : World) : Quiet w w.drew := ⟨rfl, rfl, rfl, rfl⟩
/-- The operation lays an object, and names it. -/
def Lays (P : Program) (ι : Inj) (a : Act) (o : Oper) (ob : LObj) (vf : Nat → Value) (w : World) : Prop :=
  ∃ wd O m v', Quiet w wd ∧ (execOp a.eval o).run P w = .ok (.value v') (wd.alloc O) ∧ m.rb = w.heap.size ∧ ∀ b, ι b = none → ObjR P (ι.put b m) (wd.alloc O) m ob ∧ VR (ι.put b m) (vf b) v'
theorem objr_new {ι' : Inj} {wd : World} {c c' rest : List Value} (hc : VRs ι' c c') (ho : c.all oneCell = true) (t : TypeId) : ObjR P ι' (wd.alloc (.cells (c' ++ rest).toArray t)) ⟨wd.heap.size, 0, c'.length + rest.length⟩ (.cells c false) := by
  have hl := hc.length
  refine .cells (arr := (c' ++ rest).toArray) (t := t) (fz := (0, 0)) ?_ (by simp) (by simp; omega) ?_ ?_ ho
  · exact push_new
  · intro i v hv
    obtain ⟨r, hr, hvr⟩ := hc.at_ hv
    have hi : i < c'.length := by rcases Nat.lt_or_ge i c'.length with h | h; exact h; rw [List.getElem?_eq_none h] at hr; cases hr
    exact ⟨r, by simp [List.getElem?_append_left hi, hr], hvr⟩
  · intro _ i _ _ h; simp at h
theorem lays_cells {a : Act} {o : Oper} {wd : World} {c c' rest : List Value} {t : TypeId} {vf : Nat → Value} {v' : Value} (hq : Quiet w wd) (hc : VRs ι c c') (ho : c.all oneCell = true)
    (hr : (execOp a.eval o).run P w = .ok (.value v') (wd.alloc (.cells (c' ++ rest).toArray t))) (hv : ∀ b (ι' : Inj), ι' b = some ⟨w.heap.size, 0, c'.length + rest.length⟩ → VR ι' (vf b) v') : Lays P ι a o (.cells c false) vf w := by
  refine ⟨wd, _, ⟨w.heap.size, 0, c'.length + rest.length⟩, v', hq, hr, rfl, fun b hb => ⟨?_, hv b _ (Inj.put_same _ _ _)⟩⟩
  have := objr_new (P := P) (wd := wd) (rest := rest) (VRs.mono (Inj.put_sub hb ⟨w.heap.size, 0, c'.length + rest.length⟩) hc) ho t
  rw [hq.heap] at this
  exact this
section
variable {sz : Nat} {f : FF} {a : Act} {o : Oper} {q : O} {nw : New}
theorem newCells_inv {c : List Value} {vf : Nat → Value} (h : newCells c vf = some nw) : c.all oneCell = true ∧ nw = (.cells c false, vf) := by
  unfold newCells at h
  split at h
  · rename_i e; simp only [Option.some.injEq] at h; exact ⟨e, h.symm⟩
  · cases h
theorem made_flat (z : List Value) (n : Nat) : ((Array.range (n * z.length)).map fun i => z.toArray[i % z.length]!) = (List.replicate n z).flatten.toArray := by
  apply Array.ext'
  simp only [Array.toList_map, Array.toList_range]
  induction n with
  | zero => simp
  | succ n ih =>
    rw [List.replicate_succ', List.flatten_append, Nat.succ_mul, List.range_add, List.map_append, ih]
    congr 1
    apply List.ext_getElem?
    intro i
    simp only [List.map_map, List.flatten_cons, List.flatten_nil, List.append_nil, List.getElem?_map]
    rcases Nat.lt_or_ge i z.length with hi | hi
    · simp [hi, Nat.mod_eq_of_lt hi, Nat.mul_add_mod']
    · simp [List.getElem?_eq_none hi, hi]
theorem zerosO_run {t n : Nat} {z : List Value} (h : zerosO P t n = some z) : z.length = n ∧ z.all (noNew 0 4) = true ∧ ∃ zv, (∀ w, (zeroValue t).run P w = .ok zv w) ∧ zv.cells = z.toArray ∧ ∃ i, P.info? t = some i ∧ i.zero = some zv := by
  unfold zerosO at h
  simp only [Option.bind_eq_some_iff] at h
  obtain ⟨z0, hz0, h⟩ := h
  split at h
  · rename_i hh
    simp only [Option.some.injEq] at h; subst h
    unfold zeroOf at hz0
    simp only [Option.map_eq_some_iff, Option.bind_eq_some_iff] at hz0
    obtain ⟨zv, ⟨i, hi, hz⟩, rfl⟩ := hz0
    exact ⟨hh.1, hh.2, zv, fun w => by simp [zeroValue, Sem.run_bind, run_typeInfo w hi, Result.andThen, hz], by rw [← cellsV_cells], i, hi, hz⟩
  · cases h
theorem new_all {t n : Nat} {z : List Value} (hz : zerosO P t n = some z) (ho : o.op = .alloc t) (hv : newV f (.all z) = some nw) : Lays P ι a o nw.1 nw.2 w := by
  simp only [newV] at hv
  obtain ⟨hone, rfl⟩ := newCells_inv hv
  obtain ⟨_, hzn, zv, hzr, hzc, _⟩ := zerosO_run hz
  refine lays_cells (rest := []) (t := t) (Quiet.refl w) (VRs.self (ι := ι) hzn) hone (v' := .pointer (some ⟨w.heap.size, 0, none⟩)) ?_ fun b ι' hb => ?_
  · simp only [execOp, ho]
    simp [Instr.alloc, newVar, newRow, Sem.run_bind, hzr, Result.andThen, hzc]
  · exact VR.ptr (m := ⟨w.heap.size, 0, _⟩) 0 hb
theorem new_box {t : Nat} {x : Operand} (hf : FFR ι sz f a.tmps) (ho : o.op = .box t x) {x' : X} (hx : cX x = some x') (hv : newV f (.box x') = some nw) : Lays P ι a o nw.1 nw.2 w := by
  simp only [newV] at hv
  obtain ⟨hone, rfl⟩ := newCells_inv hv
  have hc := cellsV_rel (ev_rel hf hx) (oneCell_all hone)
  refine lays_cells (rest := []) (t := t) (Quiet.refl w) hc hone (v' := .pointer (some ⟨w.heap.size, 0, none⟩)) ?_ fun b ι' hb => ?_
  · simp only [execOp, ho]
    simp [Instr.box, newVar, newRow, Sem.run_bind, Result.andThen]
  · exact VR.ptr (m := ⟨w.heap.size, 0, _⟩) 0 hb
theorem new_bsl {t e size n : Nat} {ps : Array (Nat × Operand)} {qs : List (Nat × Nat × X)} {z : List Value} (he : elemO P t = some (e, size)) (hz : zerosO P e size = some z) (hq : cParts (fun i => some (i * size, size)) ps.toList = some qs)
    (hf : FFR ι sz f a.tmps) (ho : o.op = .buildSlice t n ps) (hv : newV f (.bsl size z n qs) = some nw) : Lays P ι a o nw.1 nw.2 w := by
  simp only [newV] at hv
  split at hv
  · rename_i hle
    simp only [Option.bind_eq_some_iff] at hv
    obtain ⟨c, hc, hv⟩ := hv
    obtain ⟨hone, rfl⟩ := newCells_inv hv
    obtain ⟨hzl, hzn, zv, hzr, hzc, _⟩ := zerosO_run hz
    unfold elemO at he
    split at he
    · rename_i e0 hu
      simp only [Option.map_eq_some_iff, Prod.mk.injEq] at he
      obtain ⟨s0, hs0, rfl, rfl⟩ := he
      have hzz : VRs ι (List.replicate n z).flatten (List.replicate n z).flatten := (All2.replicate n (VRs.self (ι := ι) hzn)).flatten
      obtain ⟨r', hfill, hr⟩ := fill_rel hf hq hzz hc
      refine lays_cells (rest := []) (t := e0) (Quiet.refl w) hr hone (v' := .slice (some ⟨w.heap.size, 0, none⟩) n n) ?_ fun b ι' hb => ?_
      · simp only [execOp, ho]
        refine run_v _ ?_
        have e2 : (ps.map fun x => (x.1, a.eval x.2)).toList = ps.toList.map fun p => (p.1, a.eval p.2) := by simp
        have hlt : ¬ (n * s0 > 2 ^ 24) := by omega
        simp only [Instr.buildSlice, Sem.run_bind, run_underlying hu, Result.andThen_ok, run_szO hs0, hlt, if_false]
        by_cases h0 : n * s0 = 0
        · have hnil : (List.replicate n z).flatten = [] := by
            apply List.eq_nil_of_length_eq_zero; simp [hzl, h0]
          rw [hnil] at hfill
          simp only [h0, if_true, Sem.run_bind, Sem.run_pure, Result.andThen_ok, Array.range_zero', Array.map_empty, e2, hfill]
          simp [newRow, Sem.run_bind, Result.andThen]
        · have hm := made_flat z n
          simp only [h0, if_false, Sem.run_bind, hzr, Sem.run_pure, Result.andThen_ok, hzc, e2, List.size_toArray]
          rw [hzl] at hm
          rw [hzl, hm, hfill]
          simp [newRow, Sem.run_bind, Result.andThen]
      · exact VR.slice (m := ⟨w.heap.size, 0, _⟩) 0 n n hb
    · cases he
  · cases hv
theorem new_msl {t e size : Nat} {n c : Operand} {z : List Value} (he : elemO P t = some (e, size)) (hz : zerosO P e size = some z)
    (hf : FFR ι sz f a.tmps) (ho : o.op = .makeSlice t n c) {n' c' : X} (hn : cX n = some n') (hc : cX c = some c') (hv : newV f (.msl z (P.bytesOf e) n' c') = some nw) : Lays P ι a o nw.1 nw.2 w := by
  simp only [newV] at hv
  split at hv
  · rename_i ni ci en ec
    have rn := ev_rel hf hn
    have rc := ev_rel hf hc
    rw [en] at rn; rw [ec] at rc
    split at hv
    · rename_i hb
      obtain ⟨hone, rfl⟩ := newCells_inv hv
      obtain ⟨hzl, hzn, zv, hzr, hzc, i, hi, hiz⟩ := zerosO_run hz
      unfold elemO at he
      split at he
      · rename_i e0 hu
        simp only [Option.map_eq_some_iff, Prod.mk.injEq] at he
        obtain ⟨s0, hs0, rfl, rfl⟩ := he
        obtain ⟨i', hi', hs'⟩ := szO_info hs0
        rw [hi] at hi'; cases hi'
        have hzz : VRs ι (List.replicate ci.toNat z).flatten (List.replicate ci.toNat z).flatten := (All2.replicate _ (VRs.self (ι := ι) hzn)).flatten
        have hby : P.bytesOf e0 = i.bytes := by simp [Program.bytesOf, hi]
        have hrun := run_make (P := P) w t e0 i zv hu hi hiz .i64 .i64 ni ci hb.1 hb.2.1 (by rw [hby] at hb; omega) (by omega)
        have hmade : madeCells zv.cells (ci.toNat * i.size) = (List.replicate ci.toNat z).flatten.toArray := by
          rw [← made_flat z ci.toNat, hzl, hs', madeCells, hzc]
          simp [hzl]
        rw [hmade] at hrun
        refine lays_cells (rest := []) (t := e0) (Quiet.refl w) hzz hone (v' := .slice (some ⟨w.heap.size, 0, none⟩) ni.toNat ci.toNat) ?_ fun b ι' hb => ?_
        · simp only [execOp, ho, rn.int_inv, rc.int_inv]
          refine run_v _ ?_
          simpa using hrun
        · exact VR.slice (m := ⟨w.heap.size, 0, _⟩) 0 _ _ hb
      · cases he
    · cases hv
  · cases hv
theorem new_mkm {t : Nat} (ho : o.op = .makeMap t none) (hv : newV f .mkm = some nw) : Lays P ι a o nw.1 nw.2 w := by
  simp only [newV, Option.some.injEq] at hv; subst hv
  refine ⟨w, .map #[] 0, ⟨w.heap.size, 0, 0⟩, .map (some w.heap.size), Quiet.refl w, ?_, rfl, fun b hb => ⟨?_, ?_⟩⟩
  · simp only [execOp, ho]
    simp [Instr.makeMap, Sem.run_bind, Result.andThen]
  · exact .map (es' := #[]) (clock := 0) push_new .nil
  · exact VR.map (m := ⟨w.heap.size, 0, 0⟩) (Inj.put_same _ _ _)
theorem alloc_freeze (w : World) (arr : Array Value) (t : TypeId) : (w.alloc (.cells arr t)).freeze { block := w.heap.size, off := arr.size } 1 = w.alloc (.cells arr t (arr.size, arr.size + 1)) := by
  have : (w.heap.push (.cells arr t (0, 0))).modify w.heap.size (fun
      | .cells c elem (lo, hi) => .cells c elem (if lo == hi then (arr.size, arr.size + 1) else (min lo arr.size, max hi (arr.size + 1)))
      | o => o) = w.heap.push (.cells arr t (arr.size, arr.size + 1)) := by
    apply Array.ext_getElem?
    intro i
    rw [Array.getElem?_modify, Array.getElem?_push, Array.getElem?_push]
    by_cases e : i = w.heap.size
    · subst e; simp
    · rw [if_neg (Ne.symm e), if_neg e, if_neg e]
  simp only [World.freeze, World.alloc]
  rw [if_neg (by omega)]
  exact congrArg (fun h => ({ w with heap := h } : World)) this
theorem new_s2b {s e : Nat} {t : Nat} {x : Operand} (hu : P.underlying t = some .string) (hd : P.underlying s = some (.slice e)) (he : P.underlying e = some (.int .u8)) (hf : FFR ι sz f a.tmps) (ho : o.op = .convert t s x)
    {x' : X} (hx : cX x = some x') (hv : newV f (.s2b x') = some nw) : Lays P ι a o nw.1 nw.2 w := by
  have rx := ev_rel hf hx
  simp only [newV] at hv
  split at hv
  · rename_i str es
    rw [es] at rx
    simp only [Option.some.injEq] at hv; subst hv
    have hge := grownCap_ge w str.size 0 e
    have hcs : VRs ι (str.data.toList.map fun b => Value.int .u8 (b.toNat : Int)) (str.data.toList.map fun b => Value.int .u8 (b.toNat : Int)) := VRs.self (by rw [List.all_eq_true]; intro v hv; simp at hv; obtain ⟨b, _, rfl⟩ := hv; rfl)
    obtain ⟨arr, harr⟩ : ∃ arr : Array Value, arr = (str.data.map fun b => Value.int .u8 (b.toNat : Int)) ++ Array.replicate (grownCap w str.size 0 e - str.size) (.int .u8 0) := ⟨_, rfl⟩
    have hsd : str.data.size = str.size := rfl
    have hsz : arr.size = grownCap w str.size 0 e := by
      simp [harr, hsd]; omega
    refine ⟨w.drew, .cells arr e (arr.size, arr.size + 1), ⟨w.heap.size, 0, arr.size⟩, .slice (some ⟨w.heap.size, 0, none⟩) str.size (grownCap w str.size 0 e), Quiet.drew w, ?_, rfl, fun b hb => ⟨?_, ?_⟩⟩
    · simp only [execOp, ho, rx.string_inv]
      refine run_v _ ?_
      have h2 : (Question.appendCap str.size 0 e).forced = false := rfl
      have hsh : (w.drew.alloc (.cells arr e)).shape? w.drew.heap.size = some (e, arr.size) := by
        unfold World.shape?
        rw [push_new]
      have hfr := alloc_freeze w.drew arr e
      have h3 : (Conv.stringToBytes e str).run P w = .ok (.slice (some ⟨w.heap.size, 0, none⟩) str.size (grownCap w str.size 0 e)) (w.drew.alloc (.cells arr e (arr.size, arr.size + 1))) := by
        simp only [Conv.stringToBytes, Sem.run_bind, run_choose_drew, h2, Bool.false_eq_true, if_false, Result.andThen_ok, newRow, run_newObj_alloc, Sem.run_pure, markStringish, run_shape]
        have harr' : (Array.map (fun b => Value.int IntKind.u8 (b.toNat : Int)) str.data ++ Array.replicate ((Question.appendCap str.size 0 e).cut (w.tape w.drawn (Question.appendCap str.size 0 e)) - str.size) (Value.int IntKind.u8 0)) = arr := harr.symm
        rw [harr', hsh]
        simp only [run_freeze, Result.andThen_ok, hfr]
        rfl
      simp only [convert, Sem.run_bind, run_underlying hu, run_underlying hd, run_underlying he, Result.andThen_ok]
      exact h3
    · refine .cells (arr := arr) (t := e) (fz := (arr.size, arr.size + 1)) push_new rfl (by simp [hsz, hsd]; omega) ?_ ?_ (by rw [List.all_eq_true]; intro v hv; simp at hv; obtain ⟨b, _, rfl⟩ := hv; rfl)
      · intro i v hv
        obtain ⟨r, hr, hvr⟩ := (VRs.mono (Inj.put_sub hb ⟨w.heap.size, 0, arr.size⟩) hcs).at_ hv
        refine ⟨r, ?_, hvr⟩
        have hi : i < str.data.size := by
          have := (List.getElem?_eq_some_iff.1 hr).1; simpa using this
        rw [harr, Nat.zero_add, Array.getElem?_append_left (by simpa using hi)]
        rw [← hr]; simp
      · intro _ i _ h1 h2
        simp at h1 h2; omega
    · exact VR.loose (m := ⟨w.heap.size, 0, arr.size⟩) 0 1 _ _ (Inj.put_same _ _ _) hge (by simp [hsz])
  · cases hv
theorem new_op (hf : FFR ι sz f a.tmps) (ho : cO P o.op = some q) (hc : cls q = .A) (hv : newV f q = some nw) : Lays P ι a o nw.1 nw.2 w := by
  cases hop : o.op with
  | alloc t => rw [hop] at ho; simp only [cO, Option.map_eq_some_iff, Option.bind_eq_some_iff] at ho; obtain ⟨n, hn, z, hz, rfl⟩ := ho; exact new_all hz hop hv
  | box t x => rw [hop] at ho; simp only [cO, Option.map_eq_some_iff] at ho; obtain ⟨x', hx, rfl⟩ := ho; exact new_box hf hop hx hv
  | buildSlice t n ps => rw [hop] at ho; simp only [cO, Option.map_eq_some_iff, Option.bind_eq_some_iff] at ho; obtain ⟨⟨e, size⟩, he, z, hz, qs, hq, rfl⟩ := ho; exact new_bsl he hz hq hf hop hv
  | makeSlice t n c => rw [hop] at ho; simp only [cO, Option.map_eq_some_iff, Option.bind_eq_some_iff] at ho; obtain ⟨⟨e, size⟩, he, z, hz, n', hn, c', hcc, rfl⟩ := ho; exact new_msl he hz hf hop hn hcc hv
  | makeMap t r =>
    rw [hop] at ho
    cases r <;> simp only [cO] at ho
    · simp only [Option.some.injEq] at ho; subst ho; exact new_mkm hop hv
    · cases ho
  | convert src dst x =>
    rw [hop] at ho; simp only [cO] at ho
    split at ho
    · simp only [Option.map_eq_some_iff] at ho; obtain ⟨x', hx, rfl⟩ := ho; simp [cls] at hc
    · simp only [Option.map_eq_some_iff] at ho; obtain ⟨x', hx, rfl⟩ := ho; simp [cls] at hc
    · split at ho
      · simp only [Option.map_eq_some_iff] at ho; obtain ⟨x', hx, rfl⟩ := ho; simp [cls] at hc
      · cases ho
    · rename_i hu hd
      split at ho
      · rename_i he
        simp only [Option.map_eq_some_iff] at ho; obtain ⟨x', hx, rfl⟩ := ho; exact new_s2b hu hd he hf hop hx hv
      · cases ho
    · cases ho
  | _ =>
    exfalso
    rw [hop] at ho
    simp only [cO] at ho
    first | (cases ho; done) | skip
    all_goals
      (repeat' split at ho) <;> first | (cases ho; done) | skip
    all_goals
      cases q <;> first | (simp [cls] at hc; done) | skip
    all_goals first | contradiction | (simp [Option.bind_eq_some_iff, Option.map_eq_some_iff] at ho; done) | skip
end
end Go.L
