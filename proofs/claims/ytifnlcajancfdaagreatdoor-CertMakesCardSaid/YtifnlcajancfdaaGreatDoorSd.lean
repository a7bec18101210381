/- THE LOGICAL MACHINE AND THE MODEL: operations that lay a block. -/
import Derived.Test.YtifnlcajancfdaaGreatDoorSc
import Derived.Laws.IdiomCopy
import Derived.Laws.AppendOwn
set_option linter.unusedVariables false
set_option linter.unusedSimpArgs false
namespace Go.L
open Go
variable {P : Program} {ι : Inj} {h : Heap} {w : World}
structure Quiet (w w' : World) : Prop where
  heap : w'.heap = w.heap
  os : w'.os = w.os
  tape : w'.tape = w.tape
  output : w'.output = w.output
theorem Quiet.refl (w : World) : Quiet w w := ⟨rfl, rfl, rfl, rfl⟩
theorem Quiet.drew (w : World) : Quiet w w.drew := ⟨rfl, rfl, rfl, rfl⟩
def Lays (P : Program) (ι : Inj) (a : Act) (o : Oper) (ob : LObj) (vf : Nat → Value) (w : World) : Prop :=
  ∃ wd O m v', Quiet w wd ∧ (execOp a.eval o).run P w = .ok (.value v') (wd.alloc O) ∧ m.rb = w.heap.size ∧ ∀ b, ι b = none → ObjR P (ι.put b m) (wd.alloc O) m ob ∧ VR (ι.put b m) (vf b) v'
theorem objr_new {ι' : Inj} {wd : World} {c c' rest : List Value} (hc : VRs ι' c c') (ho : c.all oneCell = true) (t : TypeId) : ObjR P ι' (wd.alloc (.cells (c' ++ rest).toArray t)) ⟨wd.heap.size, 0, c'.length + rest.length⟩ (.cells c false) := by
  have hl := hc.length
  refine .cells (arr := (c' ++ rest).toArray) (t := t) (fz := (0, 0)) ?_ (by simp) (by simp; omega) ?_ ?_ ho
  · exact push_new
  · intro i v hv
    obtain ⟨r, hr, hvr⟩ := hc.at_ hv
    have hi : i < c'.length := by rcases Nat.lt_or_ge i c'.length with h | h; exact h; rw [List.getElem?_eq_none h] at hr; cases hr
    exact ⟨r, by simp [List.getElem?_append_left hi, hr], hvr⟩
  · intro _ i _ _ h; simp at h
theorem lays_cells {a : Act} {o : Oper} {wd : World} {c c' rest : List Value} {t : TypeId} {vf : Nat → Value} {v' : Value} (hq : Quiet w wd) (hc : VRs ι c c') (ho : c.all oneCell = true)
    (hr : (execOp a.eval o).run P w = .ok (.value v') (wd.alloc (.cells (c' ++ rest).toArray t))) (hv : ∀ b (ι' : Inj), ι' b = some ⟨w.heap.size, 0, c'.length + rest.length⟩ → VR ι' (vf b) v') : Lays P ι a o (.cells c false) vf w := by
  refine ⟨wd, _, ⟨w.heap.size, 0, c'.length + rest.length⟩, v', hq, hr, rfl, fun b hb => ⟨?_, hv b _ (Inj.put_same _ _ _)⟩⟩
  have := objr_new (P := P) (wd := wd) (rest := rest) (VRs.mono (Inj.put_sub hb ⟨w.heap.size, 0, c'.length + rest.length⟩) hc) ho t
  rw [hq.heap] at this
  exact this
section
variable {sz : Nat} {f : FF} {a : Act} {o : Oper} {q : O} {nw : New}
theorem newCells_inv {c : List Value} {vf : Nat → Value} (h : newCells c vf = some nw) : c.all oneCell = true ∧ nw = (.cells c false, vf) := by
  unfold newCells at h
  split at h
  · rename_i e; simp only [Option.some.injEq] at h; exact ⟨e, h.symm⟩
  · cases h
theorem made_flat (z : List Value) (n : Nat) : ((Array.range (n * z.length)).map fun i => z.toArray[i % z.length]!) = (List.replicate n z).flatten.toArray := by
  apply Array.ext'
  simp only [Array.toList_map, Array.toList_range]
  induction n with
  | zero => simp
  | succ n ih =>
    rw [List.replicate_succ', List.flatten_append, Nat.succ_mul, List.range_add, List.map_append, ih]
    congr 1
    apply List.ext_getElem?
    intro i
    simp only [List.map_map, List.flatten_cons, List.flatten_nil, List.append_nil, List.getElem?_map]
    rcases Nat.lt_or_ge i z.length with hi | hi
    · simp [hi, Nat.mod_eq_of_lt hi, Nat.mul_add_mod']
    · simp [List.getElem?_eq_none hi, hi]
theorem zerosO_run {t n : Nat} {z : List Value} (h : zerosO P t n = some z) : z.length = n ∧ z.all (noNew 0 4) = true ∧ ∃ zv, (∀ w, (zeroValue t).run P w = .ok zv w) ∧ zv.cells = z.toArray ∧ ∃ i, P.info? t = some i ∧ i.zero = some zv := by
  unfold zerosO at h
  simp only [Option.bind_eq_some_iff] at h
  obtain ⟨z0, hz0, h⟩ := h
  split at h
  · rename_i hh
    simp only [Option.some.injEq] at h; subst h
    unfold zeroOf at hz0
    simp only [Option.map_eq_some_iff, Option.bind_eq_some_iff] at hz0
    obtain ⟨zv, ⟨i, hi, hz⟩, rfl⟩ := hz0
    exact ⟨hh.1, hh.2, zv, fun w => by simp [zeroValue, Sem.run_bind, run_typeInfo w hi, Result.andThen, hz], by rw [← cellsV_cells], i, hi, hz⟩
  · cases h
theorem new_all {t n : Nat} {z : List Value} (hz : zerosO P t n = some z) (ho : o.op = .alloc t) (hv : newV f (.all z) = some nw) : Lays P ι a o nw.1 nw.2 w := by
  simp only [newV] at hv
  obtain ⟨hone, rfl⟩ := newCells_inv hv
  obtain ⟨_, hzn, zv, hzr, hzc, _⟩ := zerosO_run hz
  refine lays_cells (rest := []) (t := t) (Quiet.refl w) (VRs.self (ι := ι) hzn) hone (v' := .pointer (some ⟨w.heap.size, 0, none⟩)) ?_ fun b ι' hb => ?_
  · simp only [execOp, ho]
    simp [Instr.alloc, newVar, newRow, Sem.run_bind, hzr, Result.andThen, hzc]
  · exact VR.ptr (m := ⟨w.heap.size, 0, _⟩) 0 hb
theorem new_alb {t : Nat} (hT : bldT P = some t) (hz : zerosO P t 2 = some [.pointer none, .slice none 0 0]) (ho : o.op = .alloc t) (hv : newV f .alb = some nw) : Lays P ι a o nw.1 nw.2 w := by
  simp only [newV, Option.some.injEq] at hv
  subst hv
  obtain ⟨_, hzn, zv, hzr, hzc, _⟩ := zerosO_run hz
  refine ⟨w, .cells #[.pointer none, .slice none 0 0] t (0, 0), ⟨w.heap.size, 0, 2⟩, .pointer (some ⟨w.heap.size, 0, none⟩), Quiet.refl w, ?_, rfl, fun b hb => ⟨.bld push_new hT rfl (.inl rfl) rfl, VR.ptr (m := ⟨w.heap.size, 0, _⟩) 0 (Inj.put_same _ _ _)⟩⟩
  simp only [execOp, ho]
  simp [Instr.alloc, newVar, newRow, Sem.run_bind, hzr, Result.andThen, hzc]
theorem new_box {t : Nat} {x : Operand} (hf : FFR ι sz f a.tmps) (ho : o.op = .box t x) {x' : X} (hx : cX x = some x') (hv : newV f (.box x') = some nw) : Lays P ι a o nw.1 nw.2 w := by
  simp only [newV] at hv
  obtain ⟨hone, rfl⟩ := newCells_inv hv
  have hc := cellsV_rel (ev_rel hf hx) (oneCell_all hone)
  refine lays_cells (rest := []) (t := t) (Quiet.refl w) hc hone (v' := .pointer (some ⟨w.heap.size, 0, none⟩)) ?_ fun b ι' hb => ?_
  · simp only [execOp, ho]
    simp [Instr.box, newVar, newRow, Sem.run_bind, Result.andThen]
  · exact VR.ptr (m := ⟨w.heap.size, 0, _⟩) 0 hb
theorem new_bsl {t e size n : Nat} {ps : Array (Nat × Operand)} {qs : List (Nat × Nat × X)} {z : List Value} (he : elemO P t = some (e, size)) (hz : zerosO P e size = some z) (hq : cParts (fun i => some (i * size, size)) ps.toList = some qs)
    (hf : FFR ι sz f a.tmps) (ho : o.op = .buildSlice t n ps) (hv : newV f (.bsl size z n qs) = some nw) : Lays P ι a o nw.1 nw.2 w := by
  simp only [newV] at hv
  split at hv
  · rename_i hle
    simp only [Option.bind_eq_some_iff] at hv
    obtain ⟨c, hc, hv⟩ := hv
    obtain ⟨hone, rfl⟩ := newCells_inv hv
    obtain ⟨hzl, hzn, zv, hzr, hzc, _⟩ := zerosO_run hz
    unfold elemO at he
    split at he
    · rename_i e0 hu
      simp only [Option.map_eq_some_iff, Prod.mk.injEq] at he
      obtain ⟨s0, hs0, rfl, rfl⟩ := he
      have hzz : VRs ι (List.replicate n z).flatten (List.replicate n z).flatten := (All2.replicate n (VRs.self (ι := ι) hzn)).flatten
      obtain ⟨r', hfill, hr⟩ := fill_rel hf hq hzz hc
      refine lays_cells (rest := []) (t := e0) (Quiet.refl w) hr hone (v' := .slice (some ⟨w.heap.size, 0, none⟩) n n) ?_ fun b ι' hb => ?_
      · simp only [execOp, ho]
        refine run_v _ ?_
        have e2 : (ps.map fun x => (x.1, a.eval x.2)).toList = ps.toList.map fun p => (p.1, a.eval p.2) := by simp
        have hlt : ¬ (n * s0 > 2 ^ 24) := by omega
        simp only [Instr.buildSlice, Sem.run_bind, run_underlying hu, Result.andThen_ok, run_szO hs0, hlt, if_false]
        by_cases h0 : n * s0 = 0
        · have hnil : (List.replicate n z).flatten = [] := by
            apply List.eq_nil_of_length_eq_zero; simp [hzl, h0]
          rw [hnil] at hfill
          simp only [h0, if_true, Sem.run_bind, Sem.run_pure, Result.andThen_ok, Array.range_zero', Array.map_empty, e2, hfill]
          simp [newRow, Sem.run_bind, Result.andThen]
        · have hm := made_flat z n
          simp only [h0, if_false, Sem.run_bind, hzr, Sem.run_pure, Result.andThen_ok, hzc, e2, List.size_toArray]
          rw [hzl] at hm
          rw [hzl, hm, hfill]
          simp [newRow, Sem.run_bind, Result.andThen]
      · exact VR.slice (m := ⟨w.heap.size, 0, _⟩) 0 n n hb
    · cases he
  · cases hv
theorem new_msl {t e size : Nat} {n c : Operand} {z : List Value} (he : elemO P t = some (e, size)) (hz : zerosO P e size = some z)
    (hf : FFR ι sz f a.tmps) (ho : o.op = .makeSlice t n c) {n' c' : X} (hn : cX n = some n') (hc : cX c = some c') (hv : newV f (.msl z (P.bytesOf e) n' c') = some nw) : Lays P ι a o nw.1 nw.2 w := by
  simp only [newV] at hv
  split at hv
  · rename_i ni ci en ec
    have rn := ev_rel hf hn
    have rc := ev_rel hf hc
    rw [en] at rn; rw [ec] at rc
    split at hv
    · rename_i hb
      obtain ⟨hone, rfl⟩ := newCells_inv hv
      obtain ⟨hzl, hzn, zv, hzr, hzc, i, hi, hiz⟩ := zerosO_run hz
      unfold elemO at he
      split at he
      · rename_i e0 hu
        simp only [Option.map_eq_some_iff, Prod.mk.injEq] at he
        obtain ⟨s0, hs0, rfl, rfl⟩ := he
        obtain ⟨i', hi', hs'⟩ := szO_info hs0
        rw [hi] at hi'; cases hi'
        have hzz : VRs ι (List.replicate ci.toNat z).flatten (List.replicate ci.toNat z).flatten := (All2.replicate _ (VRs.self (ι := ι) hzn)).flatten
        have hby : P.bytesOf e0 = i.bytes := by simp [Program.bytesOf, hi]
        have hrun := run_make (P := P) w t e0 i zv hu hi hiz .i64 .i64 ni ci hb.1 hb.2.1 (by rw [hby] at hb; omega) (by omega)
        have hmade : madeCells zv.cells (ci.toNat * i.size) = (List.replicate ci.toNat z).flatten.toArray := by
          rw [← made_flat z ci.toNat, hzl, hs', madeCells, hzc]
          simp [hzl]
        rw [hmade] at hrun
        refine lays_cells (rest := []) (t := e0) (Quiet.refl w) hzz hone (v' := .slice (some ⟨w.heap.size, 0, none⟩) ni.toNat ci.toNat) ?_ fun b ι' hb => ?_
        · simp only [execOp, ho, rn.int_inv, rc.int_inv]
          refine run_v _ ?_
          simpa using hrun
        · exact VR.slice (m := ⟨w.heap.size, 0, _⟩) 0 _ _ hb
      · cases he
    · cases hv
  · cases hv
theorem new_mkm {t : Nat} (ho : o.op = .makeMap t none) (hv : newV f .mkm = some nw) : Lays P ι a o nw.1 nw.2 w := by
  simp only [newV, Option.some.injEq] at hv; subst hv
  refine ⟨w, .map #[] 0, ⟨w.heap.size, 0, 0⟩, .map (some w.heap.size), Quiet.refl w, ?_, rfl, fun b hb => ⟨?_, ?_⟩⟩
  · simp only [execOp, ho]
    simp [Instr.makeMap, Sem.run_bind, Result.andThen]
  · exact .map (es' := #[]) (clock := 0) push_new .nil
  · exact VR.map (m := ⟨w.heap.size, 0, 0⟩) (Inj.put_same _ _ _)
theorem alloc_freeze (w : World) (arr : Array Value) (t : TypeId) : (w.alloc (.cells arr t)).freeze { block := w.heap.size, off := arr.size } 1 = w.alloc (.cells arr t (arr.size, arr.size + 1)) := by
  have : (w.heap.push (.cells arr t (0, 0))).modify w.heap.size (fun
      | .cells c elem (lo, hi) => .cells c elem (if lo == hi then (arr.size, arr.size + 1) else (min lo arr.size, max hi (arr.size + 1)))
      | o => o) = w.heap.push (.cells arr t (arr.size, arr.size + 1)) := by
    apply Array.ext_getElem?
    intro i
    rw [Array.getElem?_modify, Array.getElem?_push, Array.getElem?_push]
    by_cases e : i = w.heap.size
    · subst e; simp
    · rw [if_neg (Ne.symm e), if_neg e, if_neg e]
  simp only [World.freeze, World.alloc]
  rw [if_neg (by omega)]
  exact congrArg (fun h => ({ w with heap := h } : World)) this
theorem new_s2b {s e : Nat} {t : Nat} {x : Operand} (hu : P.underlying t = some .string) (hd : P.underlying s = some (.slice e)) (he : P.underlying e = some (.int .u8)) (hf : FFR ι sz f a.tmps) (ho : o.op = .convert t s x)
    {x' : X} (hx : cX x = some x') (hv : newV f (.s2b x') = some nw) : Lays P ι a o nw.1 nw.2 w := by
  have rx := ev_rel hf hx
  simp only [newV] at hv
  split at hv
  · rename_i str es
    rw [es] at rx
    split at hv <;> try (cases hv; done)
    rename_i hss
    simp only [Option.some.injEq] at hv; subst hv
    have hge := grownCap_ge w str.size 0 e
    have hmx : grownCap w str.size 0 e ≤ 9223372036854775807 := by have := grownCap_le_maxLen w str.size 0 e (by unfold maxLen; omega); unfold maxLen at this; omega
    have hcs : VRs ι (str.data.toList.map fun b => Value.int .u8 (b.toNat : Int)) (str.data.toList.map fun b => Value.int .u8 (b.toNat : Int)) := VRs.self (by rw [List.all_eq_true]; intro v hv; simp at hv; obtain ⟨b, _, rfl⟩ := hv; rfl)
    obtain ⟨arr, harr⟩ : ∃ arr : Array Value, arr = (str.data.map fun b => Value.int .u8 (b.toNat : Int)) ++ Array.replicate (grownCap w str.size 0 e - str.size) (.int .u8 0) := ⟨_, rfl⟩
    have hsd : str.data.size = str.size := rfl
    have hsz : arr.size = grownCap w str.size 0 e := by
      simp [harr, hsd]; omega
    refine ⟨w.drew, .cells arr e (arr.size, arr.size + 1), ⟨w.heap.size, 0, arr.size⟩, .slice (some ⟨w.heap.size, 0, none⟩) str.size (grownCap w str.size 0 e), Quiet.drew w, ?_, rfl, fun b hb => ⟨?_, ?_⟩⟩
    · simp only [execOp, ho, rx.string_inv]
      refine run_v _ ?_
      have h2 : (Question.appendCap str.size 0 e).forced = false := rfl
      have hsh : (w.drew.alloc (.cells arr e)).shape? w.drew.heap.size = some (e, arr.size) := by
        unfold World.shape?
        rw [push_new]
      have hfr := alloc_freeze w.drew arr e
      have h3 : (Conv.stringToBytes e str).run P w = .ok (.slice (some ⟨w.heap.size, 0, none⟩) str.size (grownCap w str.size 0 e)) (w.drew.alloc (.cells arr e (arr.size, arr.size + 1))) := by
        simp only [Conv.stringToBytes, Sem.run_bind, run_choose_drew, h2, Bool.false_eq_true, if_false, Result.andThen_ok, newRow, run_newObj_alloc, Sem.run_pure, markStringish, run_shape]
        have harr' : (Array.map (fun b => Value.int IntKind.u8 (b.toNat : Int)) str.data ++ Array.replicate ((Question.appendCap str.size 0 e).cut (w.tape w.drawn (Question.appendCap str.size 0 e)) - str.size) (Value.int IntKind.u8 0)) = arr := harr.symm
        rw [harr', hsh]
        simp only [run_freeze, Result.andThen_ok, hfr]
        rfl
      simp only [convert, Sem.run_bind, run_underlying hu, run_underlying hd, run_underlying he, Result.andThen_ok]
      exact h3
    · refine .cells (arr := arr) (t := e) (fz := (arr.size, arr.size + 1)) push_new rfl (by simp [hsz, hsd]; omega) ?_ ?_ (by rw [List.all_eq_true]; intro v hv; simp at hv; obtain ⟨b, _, rfl⟩ := hv; rfl)
      · intro i v hv
        obtain ⟨r, hr, hvr⟩ := (VRs.mono (Inj.put_sub hb ⟨w.heap.size, 0, arr.size⟩) hcs).at_ hv
        refine ⟨r, ?_, hvr⟩
        have hi : i < str.data.size := by
          have := (List.getElem?_eq_some_iff.1 hr).1; simpa using this
        rw [harr, Nat.zero_add, Array.getElem?_append_left (by simpa using hi)]
        rw [← hr]; simp
      · intro h0; cases h0
    · exact VR.loose (m := ⟨w.heap.size, 0, arr.size⟩) 0 1 _ _ (Inj.put_same _ _ _) ⟨hge, hmx⟩ (by simp [hsz])
  · cases hv
theorem new_op (hf : FFR ι sz f a.tmps) (ho : cO P o.op = some q) (hc : cls q = .A) (hv : newV f q = some nw) : Lays P ι a o nw.1 nw.2 w := by
  cases hop : o.op with
  | alloc t =>
    rw [hop] at ho; simp only [cO] at ho
    split at ho
    · rename_i hT
      split at ho
      · rename_i hz
        simp only [Option.some.injEq] at ho; subst ho; exact new_alb hT hz hop hv
      · cases ho
    · simp only [Option.map_eq_some_iff, Option.bind_eq_some_iff] at ho; obtain ⟨n, hn, z, hz, rfl⟩ := ho; exact new_all hz hop hv
  | box t x => rw [hop] at ho; simp only [cO, Option.map_eq_some_iff] at ho; obtain ⟨x', hx, rfl⟩ := ho; exact new_box hf hop hx hv
  | buildSlice t n ps => rw [hop] at ho; simp only [cO, Option.map_eq_some_iff, Option.bind_eq_some_iff] at ho; obtain ⟨⟨e, size⟩, he, z, hz, qs, hq, rfl⟩ := ho; exact new_bsl he hz hq hf hop hv
  | makeSlice t n c => rw [hop] at ho; simp only [cO, Option.map_eq_some_iff, Option.bind_eq_some_iff] at ho; obtain ⟨⟨e, size⟩, he, z, hz, n', hn, c', hcc, rfl⟩ := ho; exact new_msl he hz hf hop hn hcc hv
  | makeMap t r =>
    rw [hop] at ho
    cases r <;> simp only [cO] at ho
    · simp only [Option.some.injEq] at ho; subst ho; exact new_mkm hop hv
    · cases ho
  | convert src dst x =>
    rw [hop] at ho; simp only [cO] at ho
    split at ho
    · simp only [Option.map_eq_some_iff] at ho; obtain ⟨x', hx, rfl⟩ := ho; simp [cls] at hc
    · simp only [Option.map_eq_some_iff] at ho; obtain ⟨x', hx, rfl⟩ := ho; simp [cls] at hc
    · split at ho
      · simp only [Option.map_eq_some_iff] at ho; obtain ⟨x', hx, rfl⟩ := ho; simp [cls] at hc
      · cases ho
    · rename_i hu hd
      split at ho
      · rename_i he
        simp only [Option.map_eq_some_iff] at ho; obtain ⟨x', hx, rfl⟩ := ho; exact new_s2b hu hd he hf hop hx hv
      · cases ho
    · cases ho
  | _ =>
    exfalso
    rw [hop] at ho
    simp only [cO] at ho
    first | (cases ho; done) | skip
    all_goals
      (repeat' split at ho) <;> first | (cases ho; done) | skip
    all_goals
      cases q <;> first | (simp [cls] at hc; done) | skip
    all_goals first | contradiction | (simp [Option.bind_eq_some_iff, Option.map_eq_some_iff] at ho; done) | skip
end
end Go.L
namespace Go.L
open Go
variable {P : Program} {ι : Inj} {h : Heap} {w : World}
theorem setCells_get (vs : List Value) : ∀ (c : List Value) (off i : Nat), (setCells c off vs)[i]? = if off ≤ i ∧ i < off + vs.length ∧ i < c.length then vs[i - off]? else c[i]? := by
  induction vs with
  | nil => intro c off i; simp [setCells]; omega
  | cons v r ih =>
    intro c off i
    simp only [setCells, ih, List.length_set, List.length_cons]
    by_cases e : i = off
    · subst e
      rw [if_neg (by omega)]
      by_cases hl : i < c.length
      · rw [if_pos (by omega), List.getElem?_set_self hl]; simp
      · rw [if_neg (by omega), List.getElem?_eq_none (by simp; omega), List.getElem?_eq_none (by omega)]
    · rw [List.getElem?_set_ne (Ne.symm e)]
      by_cases h1 : off + 1 ≤ i ∧ i < off + 1 + r.length ∧ i < c.length
      · rw [if_pos h1, if_pos (by omega)]
        have : i - off = (i - (off + 1)) + 1 := by omega
        rw [this]; rfl
      · rw [if_neg h1, if_neg (by omega)]
theorem setCell_at {rb : Nat} {arr : Array Value} {t : TypeId} {fz : Nat × Nat} (hw : w.heap[rb]? = some (.cells arr t fz)) (o : Nat) (v : Value) :
    (w.setCell ⟨rb, o, none⟩ v).heap[rb]? = some (.cells (arr.toList.set o v).toArray t fz) := by
  have hl := (Array.getElem?_eq_some_iff.1 hw).1
  simp only [World.setCell]
  rw [Array.getElem?_modify]
  simp [hw]
  apply Array.ext'
  simp
theorem setCell_other {rb : Nat} (o : Nat) (v : Value) {x : Nat} (hx : x ≠ rb) : (w.setCell ⟨rb, o, none⟩ v).heap[x]? = w.heap[x]? := by
  simp only [World.setCell]
  rw [Array.getElem?_modify, if_neg (Ne.symm hx)]
theorem setCells_world {rb : Nat} {t : TypeId} {fz : Nat × Nat} (vs : List Value) : ∀ {arr : Array Value} {w : World} (hw : w.heap[rb]? = some (.cells arr t fz)) (o : Nat),
    (w.setCells rb o vs).heap[rb]? = some (.cells (setCells arr.toList o vs).toArray t fz) ∧ (w.setCells rb o vs).heap.size = w.heap.size ∧ (∀ x, x ≠ rb → (w.setCells rb o vs).heap[x]? = w.heap[x]?) ∧
    (w.setCells rb o vs).os = w.os ∧ (w.setCells rb o vs).tape = w.tape ∧ (w.setCells rb o vs).output = w.output := by
  induction vs with
  | nil => intro arr w hw o; exact ⟨by simpa [World.setCells, setCells] using hw, rfl, fun _ _ => rfl, rfl, rfl, rfl⟩
  | cons v r ih =>
    intro arr w hw o
    have h1 := setCell_at hw o v
    obtain ⟨i1, i2, i3, i4, i5, i6⟩ := ih h1 (o + 1)
    refine ⟨by simpa [World.setCells, setCells] using i1, i2.trans (by simp [World.setCell]), fun x hx => (i3 x hx).trans (setCell_other o v hx), i4, i5, i6⟩
theorem oneCell' {v : Value} (h : oneCell v = true) : v.oneCell' = true := by cases v <;> first | rfl | (simp [oneCell] at h; done)
theorem ones_rel {l m : List Value} (h : VRs ι l m) (hl : l.all oneCell = true) : ∀ v ∈ m, v.oneCell' = true := by
  induction h with
  | nil => simp
  | cons h1 _ ih =>
    simp only [List.all_cons, Bool.and_eq_true] at hl
    intro v hv
    rcases List.mem_cons.1 hv with rfl | hv
    · exact oneCell' (oneCell_rel h1 hl.1)
    · exact ih hl.2 v hv
theorem setCells_one {vs : List Value} : ∀ {c : List Value}, c.all oneCell = true → vs.all oneCell = true → ∀ off, (setCells c off vs).all oneCell = true := by
  induction vs with
  | nil => intro c hc _ off; exact hc
  | cons v r ih =>
    intro c hc hv off
    simp only [List.all_cons, Bool.and_eq_true] at hv
    refine ih ?_ hv.2 (off + 1)
    rw [List.all_eq_true] at hc ⊢
    intro x hx
    rcases List.mem_or_eq_of_mem_set hx with h | rfl
    · exact hc x h
    · exact hv.1
theorem run_store_raw {rb : Nat} {arr : Array Value} {t : TypeId} {fz : Nat × Nat} (hw : w.heap[rb]? = some (.cells arr t fz)) {o : Nat} {vs : List Value} (hle : o + vs.length ≤ arr.size) (hf : ∀ i, o ≤ i → i < o + vs.length → ¬ (fz.1 ≤ i ∧ i < fz.2))
    (h1 : ∀ v ∈ vs, v.oneCell' = true) : (storeCells ⟨rb, o, none⟩ vs).run P w = .ok () (w.setCells rb o vs) := by
  have := run_storeCells_cells (P := P) rb o vs 0 w (fun j hj => ?_) (fun j hj => ?_) h1
  · simpa using this
  · simp only [World.cell?, hw]
    simp; omega
  · have := hf (o + j) (by omega) (by omega)
    obtain ⟨f1, f2⟩ := fz
    simp only [World.frozen?, hw, Nat.add_zero]
    simp only [Bool.and_eq_false_iff, decide_eq_false_iff_not]
    simp only at this
    omega
theorem objr_write {m : Img} {c : List Value} (hr : ObjR P ι w m (.cells c false)) {off : Nat} {vs vs' : List Value} (hle : off + vs.length ≤ c.length) (hv : VRs ι vs vs') (h1 : vs.all oneCell = true) :
    ∃ w', (storeCells ⟨m.rb, m.off + off, none⟩ vs').run P w = .ok () w' ∧ w'.heap.size = w.heap.size ∧ (∀ x, x ≠ m.rb → w'.heap[x]? = w.heap[x]?) ∧ w'.os = w.os ∧ w'.tape = w.tape ∧ w'.output = w.output ∧
      ObjR P ι w' m (.cells (setCells c off vs) false) := by
  cases hr with
  | cells hw hs hl hc hf ho =>
    rename_i arr t fz
    have hlen := hv.length
    obtain ⟨k1, k2, k3, k4, k5, k6⟩ := setCells_world vs' hw (m.off + off)
    refine ⟨_, run_store_raw hw (by omega) (fun i hi1 hi2 => hf rfl i (by omega) (by omega)) (ones_rel hv h1), k2, k3, k4, k5, k6, .cells k1 (by simp [setCells_length, hs]) (by rw [setCells_length]; exact hl) ?_ hf (setCells_one ho h1 off)⟩
    intro i v hi
    rw [setCells_get] at hi
    simp only [List.getElem?_toArray, setCells_get]
    split at hi
    · rename_i hc1
      obtain ⟨r, hr, hvr⟩ := hv.at_ hi
      refine ⟨r, ?_, hvr⟩
      rw [if_pos (by simp; omega), show m.off + i - (m.off + off) = i - off by omega]
      exact hr
    · rename_i hc1
      obtain ⟨r, hr, hvr⟩ := hc i v hi
      refine ⟨r, ?_, hvr⟩
      have hil : i < c.length := (List.getElem?_eq_some_iff.1 hi).1
      rw [if_neg (by omega)]
      simpa using hr
theorem write_cells (hs : Sim P ι h w) {b : Nat} {c : List Value} {m : Img} (hb : h[b]? = some (.cells c false)) (hm : ι b = some m) {off : Nat} {vs vs' : List Value} (hle : off + vs.length ≤ c.length) (hv : VRs ι vs vs') (h1 : vs.all oneCell = true) :
    ∃ w', (storeCells ⟨m.rb, m.off + off, none⟩ vs').run P w = .ok () w' ∧ St P ι h w ι (h.set b (.cells (setCells c off vs) false)) w' := by
  obtain ⟨m', hm', hr⟩ := hs.obj _ _ hb (by simp)
  rw [hm] at hm'; cases hm'
  obtain ⟨w', k1, k2, k3, k4, k5, k6, k7⟩ := objr_write hr hle hv h1
  exact ⟨w', k1, St.write hs hb rfl hm k2 k3 k4 k5 k6 (fun _ => k7) (.inl rfl)⟩
section
variable {sz : Nat} {f : FF} {a : Act} {o : Oper} {q : O} {v : Value}
theorem run_u (s : Sem Unit) {w w' : World} (h : s.run P w = .ok () w') : (do s; pure Next.skip : Sem Next).run P w = .ok .skip w' := by
  simp [Sem.run_bind, h, Result.andThen]
theorem store_op (hs : Sim P ι h w) (hf : FFR ι sz f a.tmps) {n : Nat} {xa xv : X} (ho : cO P o.op = some (.st n xa xv)) {h' : Heap} {ws : List Nat} (hv : storeV n (ev f xa) (ev f xv) h = some (h', ws)) :
    ∃ w', (execOp a.eval o).run P w = .ok .skip w' ∧ St P ι h w ι h' w' := by
  cases hop : o.op with
  | store t x y =>
    rw [hop] at ho; simp only [cO, Option.map_eq_some_iff, Option.bind_eq_some_iff, O.st.injEq] at ho
    obtain ⟨n', hn, x', hx, y', hy, rfl, rfl, rfl⟩ := ho
    have rx := ev_rel hf hx
    have ry := ev_rel hf hy
    unfold storeV at hv
    split at hv
    · rename_i ad e
      rw [e] at rx
      obtain ⟨m, hm, _, hr⟩ := rx.ptr_inv
      split at hv
      · rename_i c hb
        split at hv
        · rename_i hc
          simp only [Option.some.injEq, Prod.mk.injEq] at hv
          obtain ⟨rfl, rfl⟩ := hv
          have hcv := cellsV_rel ry (oneCell_all hc.2.2)
          obtain ⟨w', k1, k2⟩ := write_cells hs hb hm (by rw [hc.1]; exact hc.2.1) hcv hc.2.2
          refine ⟨w', ?_, k2⟩
          simp only [execOp, hop, hr]
          refine run_u _ ?_
          have hl : (a.eval y).cells.size = n' := by
            have := hcv.length; simp at this; rw [← this]; exact hc.1
          simp only [Instr.storeAt, Instr.sureAddr, Sem.run_bind, Sem.run_pure, Result.andThen_ok, storeVar, run_szO hn, hl, ne_eq, not_true_eq_false, if_false]
          exact k1
        · cases hv
      · cases hv
    · cases hv
  | _ =>
    exfalso
    rw [hop] at ho
    simp only [cO] at ho
    first | (cases ho; done) | skip
    all_goals
      (repeat' split at ho) <;> first | (cases ho; done) | skip
    all_goals first | contradiction | (simp [Option.bind_eq_some_iff, Option.map_eq_some_iff] at ho; done) | skip
end
end Go.L
namespace Go.L
open Go
variable {P : Program} {ι : Inj} {h : Heap} {w : World}
theorem St.kill (hs : Sim P ι h w) (b : Nat) : St P ι h w ι (h.set b .dead) w := by
  have old : ∀ (x : Nat) (o : LObj), (h.set b LObj.dead)[x]? = some o → o ≠ LObj.dead → h[x]? = some o := by
    intro x o hx hn
    by_cases e : x = b
    · subst e
      rcases Nat.lt_or_ge x h.length with hl | hl
      · rw [List.getElem?_set_self hl] at hx; cases hx; exact absurd rfl hn
      · rw [List.getElem?_eq_none (by simpa using hl)] at hx; cases hx
    · rwa [List.getElem?_set_ne (Ne.symm e)] at hx
  refine ⟨Sub.refl _, ⟨fun x hx => hs.dom x (by simpa using hx), fun x o hx hn => hs.obj x o (old x o hx hn) hn, hs.glob, ?_⟩, Nat.le_refl _, rfl, rfl, rfl, fun _ _ _ => rfl, ?_⟩
  · intro x y o1 o2 m1 m2 hx hy hw1 hl2 h1 h2 hne
    exact hs.inj x y o1 o2 m1 m2 (old x o1 hx (LObj.live_of_wr hw1)) (old y o2 hy hl2) hw1 hl2 h1 h2 hne
  · rintro rb ⟨x, o, m, hx, hw, hm, rfl⟩ _
    exact ⟨x, o, m, old x o hx (LObj.live_of_wr hw), hw, hm, rfl⟩
def Old (ι : Inj) (h : Heap) (ι' : Inj) : Prop := ∀ b, b < h.length → ι' b = ι b
theorem Old.refl (ι : Inj) (h : Heap) : Old ι h ι := fun _ _ => rfl
theorem Old.put (ι : Inj) (h : Heap) (m : Img) : Old ι h (ι.put h.length m) := fun b hb => Inj.put_ne m (Nat.ne_of_lt hb)
def Does (P : Program) (ι : Inj) (h : Heap) (a : Act) (o : Oper) (v : Value) (h' : Heap) (w : World) : Prop :=
  ∃ ι' w' nx, (execOp a.eval o).run P w = .ok nx w' ∧ St P ι h w ι' h' w' ∧ Old ι h ι' ∧ (nx = .skip ∧ v = undef ∨ ∃ v', nx = .value v' ∧ VR ι' v v')
theorem All2.modify {α β : Type} {R : α → β → Prop} {l : List α} {m : List β} (h : All2 R l m) (j : Nat) {a : α} {g : β → β} (hr : ∀ b, m[j]? = some b → R a (g b)) : All2 R (l.set j a) (m.modify j g) := by
  refine All2.of_at (by simp [h.length]) fun i x y hx hy => ?_
  rw [List.getElem?_modify] at hy
  by_cases e : j = i
  · subst e
    have hl : j < l.length := by have := (List.getElem?_eq_some_iff.1 hx).1; simpa using this
    rw [List.getElem?_set_self hl] at hx; cases hx
    simp only [if_true, Option.map_eq_map, Option.map_eq_some_iff] at hy
    obtain ⟨b, hb, rfl⟩ := hy
    exact hr b hb
  · rw [List.getElem?_set_ne e] at hx
    simp [e] at hy
    obtain ⟨b, hb, hR⟩ := h.at_ hx
    rw [hy] at hb; cases hb; exact hR
theorem All2.eraseIdx {α β : Type} {R : α → β → Prop} {l : List α} {m : List β} (h : All2 R l m) : ∀ (j : Nat), All2 R (l.eraseIdx j) (m.eraseIdx j) := by
  induction h with
  | nil => intro j; simpa using All2.nil
  | cons h1 t ih =>
    intro j
    cases j with
    | zero => simpa using t
    | succ j => simpa using All2.cons h1 (ih j)
def scalar : Value → Bool
  | .int _ _ | .string _ | .bool _ => true
  | _ => false
theorem sameS_scalar {k : SK} {x y : Value} {b : Bool} (h : sameS k x y = some b) : scalar x = true := by
  unfold sameS at h
  split at h <;> first | (cases h; done) | rfl
theorem sameA_scalar {k : SK} : ∀ {n : Nat} {xs ys : List Value} {b : Bool}, sameA k n xs ys = some b → xs.all scalar = true
  | 0, xs, ys, b, h => by unfold sameA at h; split at h <;> first | (cases h; done) | contradiction | rfl
  | n + 1, [], ys, b, h => by simp [sameA] at h
  | n + 1, x :: xs, [], b, h => by simp [sameA] at h
  | n + 1, x :: xs, y :: ys, b, h => by
    simp only [sameA, Option.bind_eq_some_iff, Option.map_eq_some_iff] at h
    obtain ⟨c, hc, d, hd, _⟩ := h
    simp [sameS_scalar hc, sameA_scalar hd]
theorem sameF_scalar : ∀ {l : List FK} {xs ys : List Value} {b : Bool}, sameF l xs ys = some b → xs.all scalar = true
  | [], xs, ys, b, h => by unfold sameF at h; split at h <;> first | (cases h; done) | contradiction | rfl
  | .one k :: r, [], ys, b, h => by simp [sameF] at h
  | .one k :: r, x :: xs, [], b, h => by simp [sameF] at h
  | .one k :: r, x :: xs, y :: ys, b, h => by
    simp only [sameF, Option.bind_eq_some_iff, Option.map_eq_some_iff] at h
    obtain ⟨c, hc, d, hd, _⟩ := h
    simp [sameS_scalar hc, sameF_scalar hd]
  | .arr n k :: r, xs, ys, b, h => by
    simp only [sameF, Option.bind_eq_some_iff, Option.map_eq_some_iff] at h
    obtain ⟨c, hc, d, hd, _⟩ := h
    have h1 := sameA_scalar hc
    have h2 := sameF_scalar hd
    rw [← List.take_append_drop n xs, List.all_append, h1, h2]; rfl
theorem ba_eq {a b : ByteArray} : (a == b) = true ↔ a = b := by
  obtain ⟨a⟩ := a
  obtain ⟨b⟩ := b
  have : ((⟨a⟩ : ByteArray) == ⟨b⟩) = (a == b) := rfl
  rw [this, beq_iff_eq]
  exact ⟨fun h => by rw [h], fun h => by cases h; rfl⟩
theorem sameS_true {k : SK} {x y : Value} (h : sameS k x y = some true) : x = y := by
  unfold sameS at h
  split at h <;> first | (cases h; done) | skip
  · split at h
    · rename_i e; simp only [Option.some.injEq, beq_iff_eq] at h; rw [e, h]
    · cases h
  · simp only [Option.some.injEq] at h; rw [ba_eq.1 h]
  · simp only [Option.some.injEq, beq_iff_eq] at h; rw [h]
theorem sameA_true {k : SK} : ∀ {n : Nat} {xs ys : List Value}, sameA k n xs ys = some true → xs = ys
  | 0, xs, ys, h => by unfold sameA at h; split at h <;> first | (cases h; done) | contradiction | rfl
  | n + 1, [], ys, h => by simp [sameA] at h
  | n + 1, x :: xs, [], h => by simp [sameA] at h
  | n + 1, x :: xs, y :: ys, h => by
    simp only [sameA, Option.bind_eq_some_iff, Option.map_eq_some_iff, Bool.and_eq_true] at h
    obtain ⟨c, hc, d, hd, rfl, rfl⟩ := h
    rw [sameS_true hc, sameA_true hd]
theorem sameF_true : ∀ {l : List FK} {xs ys : List Value}, sameF l xs ys = some true → xs = ys
  | [], xs, ys, h => by unfold sameF at h; split at h <;> first | (cases h; done) | contradiction | rfl
  | .one k :: r, [], ys, h => by simp [sameF] at h
  | .one k :: r, x :: xs, [], h => by simp [sameF] at h
  | .one k :: r, x :: xs, y :: ys, h => by
    simp only [sameF, Option.bind_eq_some_iff, Option.map_eq_some_iff, Bool.and_eq_true] at h
    obtain ⟨c, hc, d, hd, rfl, rfl⟩ := h
    rw [sameS_true hc, sameF_true hd]
  | .arr n k :: r, xs, ys, h => by
    simp only [sameF, Option.bind_eq_some_iff, Option.map_eq_some_iff, Bool.and_eq_true] at h
    obtain ⟨c, hc, d, hd, rfl, rfl⟩ := h
    rw [← List.take_append_drop n xs, ← List.take_append_drop n ys, sameA_true hc, sameF_true hd]
theorem sameKey_true {q : EqK} {k x : Value} (h : sameKey q k x = some true) : x = k ∧ Instr.sameBits 10000 k k = true := by
  have sc : ∀ (n : Nat) v, scalar v = true → Instr.sameBits n v v = true := by
    intro n v hv
    cases v <;> first | (simp [scalar] at hv; done) | (cases n <;> simp [Instr.sameBits, ba_eq])
  unfold sameKey at h
  split at h
  · exact ⟨(sameS_true h).symm, sc _ _ (sameS_scalar h)⟩
  · exact ⟨(sameS_true h).symm, sc _ _ (sameS_scalar h)⟩
  · rename_i xs ys
    have e := sameF_true h
    have e2 : xs = ys := Array.ext' e
    subst e2
    refine ⟨rfl, ?_⟩
    have hall := sameF_scalar h
    have : Instr.sameBits (9999 + 1) (.agg xs) (.agg xs) = (xs.size == xs.size && (xs.toList.zip xs.toList).all fun (x, y) => Instr.sameBits 9999 x y) := rfl
    rw [this]
    simp only [beq_self_eq_true, Bool.true_and]
    rw [List.all_eq_true] at hall ⊢
    rintro ⟨u, v⟩ huv
    have : u = v ∧ u ∈ xs.toList := by
      have hz : ∀ l : List Value, (u, v) ∈ l.zip l → u = v ∧ u ∈ l := by
        intro l
        induction l with
        | nil => simp
        | cons y l ih =>
          intro hm
          simp only [List.zip_cons_cons, List.mem_cons, Prod.mk.injEq] at hm
          rcases hm with ⟨rfl, rfl⟩ | hm
          · exact ⟨rfl, by simp⟩
          · exact ⟨(ih hm).1, by simp [(ih hm).2]⟩
      exact hz _ huv
    obtain ⟨rfl, hu⟩ := this
    exact sc _ _ (hall u hu)
  · cases h
theorem run_setObj {rb : Nat} {o o' : Obj} (hw : w.heap[rb]? = some o) (ho : ∀ c t f, o ≠ .cells c t f) : (setObj rb o').run P w = .ok () { w with heap := w.heap.setIfInBounds rb o' } := by
  cases o with
  | cells c t f => exact absurd rfl (ho c t f)
  | _ => simp only [setObj, Sem.run, hw]
theorem write_map (hs : Sim P ι h w) {b : Nat} {es es2 : List (Value × Value)} {m : Img} (hb : h[b]? = some (.map es)) (hm : ι b = some m) {es2' : Array MapEntry} {clock : Nat}
    (he : All2 (fun e (e' : MapEntry) => e.1 = e'.key ∧ VR ι e.2 e'.val) es2 es2'.toList) : ∃ w', (setObj m.rb (.map es2' clock)).run P w = .ok () w' ∧ St P ι h w ι (h.set b (.map es2)) w' := by
  obtain ⟨m', hm', hr⟩ := hs.obj _ _ hb (by simp)
  rw [hm] at hm'; cases hm'
  cases hr with
  | map hw he' =>
    have hl := (Array.getElem?_eq_some_iff.1 hw).1
    refine ⟨_, run_setObj hw (by simp), St.write hs hb rfl hm (by simp) (fun rb hn => ?_) rfl rfl rfl (fun _ => .map (es' := es2') (clock := clock) ?_ he) (.inl rfl)⟩
    · simp only [Array.getElem?_setIfInBounds_ne (Ne.symm hn)]
    · simp [hl]
section
variable {sz : Nat} {f : FF} {a : Act} {o : Oper} {q : O} {v : Value} {h' : Heap} {ws : List Nat}
theorem e_mup {t kt e : TypeId} {m k x : Operand} {qk : EqK} (hs : Sim P ι h w) (hu : P.underlying t = some (.map kt e)) (hq : keyK P kt = some qk) (hf : FFR ι sz f a.tmps) (ho : o.op = .mapUpdate t m k x)
    {m' k' x' : X} (hm : cX m = some m') (hk : cX k = some k') (hx : cX x = some x') (hv : effV f h (.mup qk m' k' x') = some (v, h', ws)) : Does P ι h a o v h' w := by
  have rm := ev_rel hf hm
  have rk := ev_rel hf hk
  have rx := ev_rel hf hx
  simp only [effV] at hv
  split at hv
  · rename_i rb e1
    rw [e1] at rm
    obtain ⟨mi, hmi, hrm⟩ := rm.map_inv
    split at hv
    · rename_i es hb
      split at hv
      · rename_i hkey
        simp only [Option.map_eq_some_iff, Prod.mk.injEq] at hv
        obtain ⟨es2, hput, rfl, rfl, rfl⟩ := hv
        have ek := key_same hkey rk
        obtain ⟨m2, hm2, hobj⟩ := hs.obj _ _ hb (by simp)
        rw [hmi] at hm2; cases hm2
        cases hobj with
        | map hw he =>
          rename_i es' clock
          have hget : (getObj mi.rb).run P w = .ok (.map es' clock) w := by simp [getObj, Sem.run, hw]
          have hck := run_checkKey hq hkey false w
          have hf2 : ∃ r, find qk (ev f k') es = some r := by
            have : ∀ (l : List (Value × Value)) l2 u, putE qk (ev f k') u l = some l2 → ∃ r, find qk (ev f k') l = some r := by
              intro l
              induction l with
              | nil => intro l2 u _; exact ⟨none, rfl⟩
              | cons p l ih =>
                intro l2 u hp
                simp only [putE, Option.bind_eq_some_iff] at hp
                obtain ⟨b, hb, hp⟩ := hp
                cases b with
                | true => exact ⟨some p.2, by simp [find, hb]⟩
                | false =>
                  simp only [Bool.false_eq_true, if_false, Option.map_eq_some_iff] at hp
                  obtain ⟨l3, h3, _⟩ := hp
                  obtain ⟨r, hr⟩ := ih l3 u h3
                  exact ⟨r, by simp [find, hb, hr]⟩
            exact this es es2 _ hput
          obtain ⟨r, hr⟩ := hf2
          rcases run_findKey hq hkey he hr w with ⟨rfl, h1, h2, _⟩ | ⟨v0, j, v', rfl, h1, h2, h3, h4, _, e0, h5, h6⟩
          · rw [h2] at hput
            simp only [Option.some.injEq] at hput
            obtain ⟨w', s1, s2⟩ := write_map hs hb hmi (es2 := es2) (es2' := es'.push { key := ev f k', val := a.eval x, born := clock }) (clock := clock + 1) (by
              rw [← hput, Array.toList_push]; exact he.append (.cons ⟨rfl, rx⟩ .nil))
            refine ⟨ι, w', .skip, ?_, s2, Old.refl _ _, .inl ⟨rfl, rfl⟩⟩
            simp only [execOp, ho, hrm, ek]
            refine run_u _ ?_
            simp only [Instr.mapUpdate, Sem.run_bind, run_underlying hu, Result.andThen_ok, hget, hck, h1, s1]
          · rw [h4] at hput
            simp only [Option.some.injEq] at hput
            obtain ⟨e5, e6⟩ := sameKey_true h6
            obtain ⟨w', s1, s2⟩ := write_map hs hb hmi (es2 := es2) (es2' := es'.modify j fun e => { e with key := ev f k', val := a.eval x }) (clock := clock) (by
              rw [← hput, Array.toList_modify]; exact he.modify j fun b hb => ⟨rfl, rx⟩)
            refine ⟨ι, w', .skip, ?_, s2, Old.refl _ _, .inl ⟨rfl, rfl⟩⟩
            have hold : ((es'[j]?).map (·.key)).getD (ev f k') = ev f k' := by
              have : es'[j]? = some e0 := by rw [← h5]; simp
              rw [this]; exact e5
            simp only [execOp, ho, hrm, ek]
            refine run_u _ ?_
            simp only [Instr.mapUpdate, Sem.run_bind, run_underlying hu, Result.andThen_ok, hget, hck, h1, hold, Instr.keyThatStays, e6, if_true, Sem.run_pure, s1]
      · cases hv
    · cases hv
  · cases hv
end
end Go.L
