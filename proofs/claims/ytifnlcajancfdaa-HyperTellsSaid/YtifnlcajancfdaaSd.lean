/- THE LOGICAL MACHINE AND THE MODEL: operations that lay a block. -/
import Derived.Test.YtifnlcajancfdaaSc
import Derived.Laws.IdiomCopy
import Derived.Laws.AppendOwn
set_option linter.unusedVariables false
set_option linter.unusedSimpArgs false
namespace Go.L
open Go
variable {P : Program} {ι : Inj} {h : Aa} {w : World}
structure Quiet (w w' : World) : Prop where
 heap : w'.heap = w.heap
 os : w'.os = w.os
 tape : w'.tape = w.tape
 output : w'.output = w.output
theorem Quiet.refl (w : World) : Quiet w w := ⟨rfl, rfl, rfl, rfl⟩
theorem Quiet.drew (w : World) : Quiet w w.drew := ⟨rfl, rfl, rfl, rfl⟩
def Aem (P : Program) (ι : Inj) (a : Act) (o : Oper) (ob : LObj) (vf : Nat → Value) (w : World) : Prop :=
 ∃ wd O m v', Quiet w wd ∧ (execOp a.eval o).run P w = .ok (.value v') (wd.alloc O) ∧ m.rb = w.heap.size ∧ ∀ b, ι b = none → ObjR P (ι.put b m) (wd.alloc O) m ob ∧ VR (ι.put b m) (vf b) v'
theorem Agi {ι' : Inj} {wd : World} {c c' rest : List Value} (hc : VRs ι' c c') (ho : c.all Ae = true) (t : TypeId) : ObjR P ι' (wd.alloc (.cells (c' ++ rest).toArray t)) ⟨wd.heap.size, 0, c'.length + rest.length⟩ (.cells c false) := by
 have g := hc.length
 refine .cells (arr := (c' ++ rest).toArray) (t := t) (fz := (0, 0)) ?_ (by simp) (by simp; omega) ?_ ?_ ho
 ·exact L7
 ·intro i v f
  obtain ⟨r, a, d⟩ := hc.at_ f
  have e : i < c'.length := by rcases Nat.lt_or_ge i c'.length with h | h; exact h; rw [List.getElem?_eq_none h] at a; cases a
  exact ⟨r, by simp [GL e, a], d⟩
 ·intro _ i _ _ h; simp at h
theorem Pa {a : Act} {o : Oper} {wd : World} {c c' rest : List Value} {t : TypeId} {vf : Nat → Value} {v' : Value} (hq : Quiet w wd) (hc : VRs ι c c') (ho : c.all Ae = true)
  (hr : (execOp a.eval o).run P w = .ok (.value v') (wd.alloc (.cells (c' ++ rest).toArray t))) (hv : ∀ b (ι' : Inj), ι' b = some ⟨w.heap.size, 0, c'.length + rest.length⟩ → VR ι' (vf b) v') : Aem P ι a o (.cells c false) vf w := by
 refine ⟨wd, _, ⟨w.heap.size, 0, c'.length + rest.length⟩, v', hq, hr, rfl, fun b d => ⟨?_, hv b _ (Inj.put_same _ _ _)⟩⟩
 have := Agi (P := P) (wd := wd) (rest := rest) (VRs.mono (Inj.put_sub d ⟨w.heap.size, 0, c'.length + rest.length⟩) hc) ho t
 rw [hq.heap] at this
 exact this
section
variable {sz : Nat} {f : FF} {a : Act} {o : Oper} {q : O} {nw : New}
theorem Lp {c : List Value} {vf : Nat → Value} (h : Ab c vf = some nw) : c.all Ae = true ∧ nw = (.cells c false, vf) := by
 unfold Ab at h
 split at h
 ·rename_i e; simp only [OI] at h; exact ⟨e, h.symm⟩
 ·cases h
theorem V9 (z : List Value) (n : Nat) : ((Array.range (n * z.length)).map fun i => z.toArray[i % z.length]!) = (List.replicate n z).flatten.toArray := by
 apply Array.ext'
 simp only [Array.toList_map, Array.toList_range]
 induction n with
 | zero => simp
 | succ n ih =>
  rw [List.replicate_succ', List.flatten_append, Nat.succ_mul, List.range_add, List.map_append, ih]
  congr 1
  apply List.ext_getElem?
  intro i
  simp only [List.map_map, List.flatten_cons, List.flatten_nil, List.append_nil, List.getElem?_map]
  rcases Nat.lt_or_ge i z.length with hi | hi
  ·simp [hi, Nat.mod_eq_of_lt hi, Nat.mul_add_mod']
  ·simp [List.getElem?_eq_none hi, hi]
theorem Jt {t n : Nat} {z : List Value} (h : Gz P t n = some z) : z.length = n ∧ z.all (Ac 0 4) = true ∧ ∃ zv, (∀ w, (zeroValue t).run P w = .ok zv w) ∧ zv.cells = z.toArray ∧ ∃ i, P.info? t = some i ∧ i.zero = some zv := by
 unfold Gz at h
 simp only [OB] at h
 obtain ⟨f, a, h⟩ := h
 split at h
 ·rename_i e
  simp only [OI] at h; subst h
  unfold Qr at a
  simp only [OM, OB] at a
  obtain ⟨zv, ⟨i, c, d⟩, rfl⟩ := a
  exact ⟨e.1, e.2, zv, fun w => by simp [zeroValue, Sem.run_bind, run_typeInfo w c, Result.andThen, d], by rw [← Pe], i, c, d⟩
 ·cases h
theorem Awr {t n : Nat} {z : List Value} (hz : Gz P t n = some z) (ho : o.op = .alloc t) (hv : Iz f (.all z) = some nw) : Aem P ι a o nw.1 nw.2 w := by
 simp only [Iz] at hv
 obtain ⟨c, rfl⟩ := Lp hv
 obtain ⟨_, g, j, e, d, _⟩ := Jt hz
 refine Pa (rest := []) (t := t) (Quiet.refl w) (VRs.self (ι := ι) g) c (v' := .pointer (some ⟨w.heap.size, 0, none⟩)) ?_ fun b ι' hb => ?_
 ·simp only [execOp, ho]
  simp [Instr.alloc, newVar, newRow, Sem.run_bind, e, Result.andThen, d]
 ·exact VR.ptr (m := ⟨w.heap.size, 0, _⟩) 0 hb
theorem Aws {t : Nat} (hT : Az9 P = some t) (hz : Gz P t 2 = some [.pointer none, .slice none 0 0]) (ho : o.op = .alloc t) (hv : Iz f .alb = some nw) : Aem P ι a o nw.1 nw.2 w := by
 simp only [Iz, OI] at hv
 subst hv
 obtain ⟨_, e, j, d, c, _⟩ := Jt hz
 refine ⟨w, .cells #[.pointer none, .slice none 0 0] t (0, 0), ⟨w.heap.size, 0, 2⟩, .pointer (some ⟨w.heap.size, 0, none⟩), Quiet.refl w, ?_, rfl, fun b g => ⟨.bld L7 hT rfl (.inl rfl) rfl, VR.ptr (m := ⟨w.heap.size, 0, _⟩) 0 (Inj.put_same _ _ _)⟩⟩
 simp only [execOp, ho]
 simp [Instr.alloc, newVar, newRow, Sem.run_bind, d, Result.andThen, c]
theorem Awq {t : Nat} {x : Operand} (hf : FFR ι sz f a.tmps) (ho : o.op = .box t x) {x' : X} (hx : cX x = some x') (hv : Iz f (.box x') = some nw) : Aem P ι a o nw.1 nw.2 w := by
 simp only [Iz] at hv
 obtain ⟨c, rfl⟩ := Lp hv
 have d := T4 (Ar hf hx) (Q8 c)
 refine Pa (rest := []) (t := t) (Quiet.refl w) d c (v' := .pointer (some ⟨w.heap.size, 0, none⟩)) ?_ fun b ι' hb => ?_
 ·simp only [execOp, ho]
  simp [Instr.box, newVar, newRow, Sem.run_bind, Result.andThen]
 ·exact VR.ptr (m := ⟨w.heap.size, 0, _⟩) 0 hb
theorem Awp {t e size n : Nat} {ps : Array (Nat × Operand)} {qs : List (Nat × Nat × X)} {z : List Value} (he : Mc P t = some (e, size)) (hz : Gz P e size = some z) (hq : N0 (fun i => some (i * size, size)) ps.toList = some qs)
  (hf : FFR ι sz f a.tmps) (ho : o.op = .buildSlice t n ps) (hv : Iz f (.bsl size z n qs) = some nw) : Aem P ι a o nw.1 nw.2 w := by
 simp only [Iz] at hv
 split at hv
 ·rename_i a2
  simp only [OB] at hv
  obtain ⟨c, hc, hv⟩ := hv
  obtain ⟨j, rfl⟩ := Lp hv
  obtain ⟨g, y, zv, v, s, _⟩ := Jt hz
  unfold Mc at he
  split at he
  ·rename_i e0 hu
   simp only [OM, Prod.mk.injEq] at he
   obtain ⟨s0, a0, rfl, rfl⟩ := he
   have r : VRs ι (List.replicate n z).flatten (List.replicate n z).flatten := (All2.replicate n (VRs.self (ι := ι) y)).flatten
   obtain ⟨r', d, hr⟩ := U0 hf hq r hc
   refine Pa (rest := []) (t := e0) (Quiet.refl w) hr j (v' := .slice (some ⟨w.heap.size, 0, none⟩) n n) ?_ fun b ι' hb => ?_
   ·simp only [execOp, ho]
    refine Dy _ ?_
    have e2 : (ps.map fun x => (x.1, a.eval x.2)).toList = ps.toList.map fun p => (p.1, a.eval p.2) := by simp
    have a1 : ¬ (n * s0 > 2 ^ 24) := by omega
    simp only [Instr.buildSlice, Sem.run_bind, run_underlying hu, Result.andThen_ok, Du a0, a1, if_false]
    by_cases u : n * s0 = 0
    ·have l : (List.replicate n z).flatten = [] := by
      apply List.eq_nil_of_length_eq_zero; simp [g, u]
     rw [l] at d
     simp only [u, if_true, Sem.run_bind, Sem.run_pure, Result.andThen_ok, Array.range_zero', Array.map_empty, e2, d]
     simp [newRow, Sem.run_bind, Result.andThen]
    ·have hm := V9 z n
     simp only [u, if_false, Sem.run_bind, v, Sem.run_pure, Result.andThen_ok, s, e2, List.size_toArray]
     rw [g] at hm
     rw [g, hm, d]
     simp [newRow, Sem.run_bind, Result.andThen]
   ·exact VR.slice (m := ⟨w.heap.size, 0, _⟩) 0 n n hb
  ·cases he
 ·cases hv
theorem Awn {t e size : Nat} {n c : Operand} {z : List Value} (he : Mc P t = some (e, size)) (hz : Gz P e size = some z)
  (hf : FFR ι sz f a.tmps) (ho : o.op = .makeSlice t n c) {n' c' : X} (hn : cX n = some n') (hc : cX c = some c') (hv : Iz f (.msl z (P.bytesOf e) n' c') = some nw) : Aem P ι a o nw.1 nw.2 w := by
 simp only [Iz] at hv
 split at hv
 ·rename_i ni g en ec
  have rn := Ar hf hn
  have rc := Ar hf hc
  rw [en] at rn; rw [ec] at rc
  split at hv
  ·rename_i p
   obtain ⟨l, rfl⟩ := Lp hv
   obtain ⟨s, a2, zv, a4, y, i, hi, x⟩ := Jt hz
   unfold Mc at he
   split at he
   ·rename_i u hu
    simp only [OM, Prod.mk.injEq] at he
    obtain ⟨s0, a3, rfl, rfl⟩ := he
    obtain ⟨i', r, a0⟩ := Lx a3
    rw [hi] at r; cases r
    have v : VRs ι (List.replicate g.toNat z).flatten (List.replicate g.toNat z).flatten := (All2.replicate _ (VRs.self (ι := ι) a2)).flatten
    have a1 : P.bytesOf u = i.bytes := by simp [Program.bytesOf, hi]
    have d := run_make (P := P) w t u i zv hu hi x .i64 .i64 ni g p.1 p.2.1 (by rw [a1] at p; omega) (by omega)
    have j : madeCells zv.cells (g.toNat * i.size) = (List.replicate g.toNat z).flatten.toArray := by
     rw [← V9 z g.toNat, s, a0, madeCells, y]
     simp [s]
    rw [j] at d
    refine Pa (rest := []) (t := u) (Quiet.refl w) v l (v' := .slice (some ⟨w.heap.size, 0, none⟩) ni.toNat g.toNat) ?_ fun b ι' p => ?_
    ·simp only [execOp, ho, rn.int_inv, rc.int_inv]
     refine Dy _ ?_
     simpa using d
    ·exact VR.slice (m := ⟨w.heap.size, 0, _⟩) 0 _ _ p
   ·cases he
  ·cases hv
 ·cases hv
theorem Awo {t : Nat} (ho : o.op = .makeMap t none) (hv : Iz f .mkm = some nw) : Aem P ι a o nw.1 nw.2 w := by
 simp only [Iz, OI] at hv; subst hv
 refine ⟨w, .map #[] 0, ⟨w.heap.size, 0, 0⟩, .map (some w.heap.size), Quiet.refl w, ?_, rfl, fun b c => ⟨?_, ?_⟩⟩
 ·simp only [execOp, ho]
  simp [Instr.makeMap, Sem.run_bind, Result.andThen]
 ·exact .map (es' := #[]) (clock := 0) L7 .nil
 ·exact VR.map (m := ⟨w.heap.size, 0, 0⟩) (Inj.put_same _ _ _)
theorem Aeh (w : World) (arr : Array Value) (t : TypeId) : (w.alloc (.cells arr t)).freeze { block := w.heap.size, off := arr.size } 1 = w.alloc (.cells arr t (arr.size, arr.size + 1)) := by
 have : (w.heap.push (.cells arr t (0, 0))).modify w.heap.size (fun
   | .cells c elem (lo, hi) => .cells c elem (if lo == hi then (arr.size, arr.size + 1) else (min lo arr.size, max hi (arr.size + 1)))
   | o => o) = w.heap.push (.cells arr t (arr.size, arr.size + 1)) := by
  apply Array.ext_getElem?
  intro i
  rw [Array.getElem?_modify, Array.getElem?_push, Array.getElem?_push]
  by_cases e : i = w.heap.size
  ·subst e; simp
  ·rw [if_neg (Ne.symm e), if_neg e, if_neg e]
 simp only [World.freeze, World.alloc]
 rw [if_neg (by omega)]
 exact congrArg (fun h => ({ w with heap := h } : World)) this
theorem Awm {s e : Nat} {t : Nat} {x : Operand} (hu : P.underlying t = some .string) (hd : P.underlying s = some (.slice e)) (he : P.underlying e = some (.int .u8)) (hf : FFR ι sz f a.tmps) (ho : o.op = .convert t s x)
  {x' : X} (hx : cX x = some x') (hv : Iz f (.s2b x') = some nw) : Aem P ι a o nw.1 nw.2 w := by
 have rx := Ar hf hx
 simp only [Iz] at hv
 split at hv
 ·rename_i c es
  rw [es] at rx
  split at hv <;> try (cases hv; done)
  rename_i a1
  simp only [OI] at hv; subst hv
  have a0 := grownCap_ge w c.size 0 e
  have y : grownCap w c.size 0 e ≤ 9223372036854775807 := by have := grownCap_le_maxLen w c.size 0 e (by unfold maxLen; omega); unfold maxLen at this; omega
  have z : VRs ι (c.data.toList.map fun b => Value.int .u8 (b.toNat : Int)) (c.data.toList.map fun b => Value.int .u8 (b.toNat : Int)) := VRs.self (by rw [List.all_eq_true]; intro v hv; simp at hv; obtain ⟨b, _, rfl⟩ := hv; rfl)
  obtain ⟨arr, d⟩ : ∃ arr : Array Value, arr = (c.data.map fun b => Value.int .u8 (b.toNat : Int)) ++ Array.replicate (grownCap w c.size 0 e - c.size) (.int .u8 0) := ⟨_, rfl⟩
  have l : c.data.size = c.size := rfl
  have j : arr.size = grownCap w c.size 0 e := by
   simp [d, l]; omega
  refine ⟨w.drew, .cells arr e (arr.size, arr.size + 1), ⟨w.heap.size, 0, arr.size⟩, .slice (some ⟨w.heap.size, 0, none⟩) c.size (grownCap w c.size 0 e), Quiet.drew w, ?_, rfl, fun b hb => ⟨?_, ?_⟩⟩
  ·simp only [execOp, ho, rx.string_inv]
   refine Dy _ ?_
   have h2 : (Question.appendCap c.size 0 e).forced = false := rfl
   have u : (w.drew.alloc (.cells arr e)).shape? w.drew.heap.size = some (e, arr.size) := by
    unfold World.shape?
    rw [L7]
   have p := Aeh w.drew arr e
   have h3 : (Conv.stringToBytes e c).run P w = .ok (.slice (some ⟨w.heap.size, 0, none⟩) c.size (grownCap w c.size 0 e)) (w.drew.alloc (.cells arr e (arr.size, arr.size + 1))) := by
    simp only [Conv.stringToBytes, Sem.run_bind, run_choose_drew, h2, Bool.false_eq_true, if_false, Result.andThen_ok, newRow, run_newObj_alloc, Sem.run_pure, markStringish, run_shape]
    have g : (Array.map (fun b => Value.int IntKind.u8 (b.toNat : Int)) c.data ++ Array.replicate ((Question.appendCap c.size 0 e).cut (w.tape w.drawn (Question.appendCap c.size 0 e)) - c.size) (Value.int IntKind.u8 0)) = arr := d.symm
    rw [g, u]
    simp only [run_freeze, Result.andThen_ok, p]
    rfl
   simp only [convert, Sem.run_bind, run_underlying hu, run_underlying hd, run_underlying he, Result.andThen_ok]
   exact h3
  ·refine .cells (arr := arr) (t := e) (fz := (arr.size, arr.size + 1)) L7 rfl (by simp [j, l]; omega) ?_ ?_ (by rw [List.all_eq_true]; intro v hv; simp at hv; obtain ⟨b, _, rfl⟩ := hv; rfl)
   ·intro i v hv
    obtain ⟨r, hr, n⟩ := (VRs.mono (Inj.put_sub hb ⟨w.heap.size, 0, arr.size⟩) z).at_ hv
    refine ⟨r, ?_, n⟩
    have hi : i < c.data.size := by
     have := (GI.1 hr).1; simpa using this
    rw [d, Nat.zero_add, Array.getElem?_append_left (by simpa using hi)]
    rw [← hr]; simp
   ·intro h0; cases h0
  ·exact VR.loose (m := ⟨w.heap.size, 0, arr.size⟩) 0 1 _ _ (Inj.put_same _ _ _) ⟨a0, y⟩ (by simp [j])
 ·cases hv
theorem Atj (hf : FFR ι sz f a.tmps) (ho : cO P o.op = some q) (hc : cls q = .A) (hv : Iz f q = some nw) : Aem P ι a o nw.1 nw.2 w := by
 cases hop : o.op with
 | alloc t =>
  rw [hop] at ho; simp only [cO] at ho
  split at ho
  ·rename_i v
   split at ho
   ·rename_i d
    simp only [OI] at ho; subst ho; exact Aws v d hop hv
   ·cases ho
  ·simp only [OM, OB] at ho; obtain ⟨n, p, z, d, rfl⟩ := ho; exact Awr d hop hv
 | box t x => rw [hop] at ho; simp only [cO, OM] at ho; obtain ⟨m, g, rfl⟩ := ho; exact Awq hf hop g hv
 | buildSlice t n ps => rw [hop] at ho; simp only [cO, OM, OB] at ho; obtain ⟨⟨e, j⟩, l, z, d, qs, hq, rfl⟩ := ho; exact Awp l d hq hf hop hv
 | makeSlice t n c => rw [hop] at ho; simp only [cO, OM, OB] at ho; obtain ⟨⟨e, j⟩, l, z, d, n', p, c', hcc, rfl⟩ := ho; exact Awn l d hf hop p hcc hv
 | makeMap t r =>
  rw [hop] at ho
  cases r <;> simp only [cO] at ho
  ·simp only [OI] at ho; subst ho; exact Awo hop hv
  ·cases ho
 | convert src dst x =>
  rw [hop] at ho; simp only [cO] at ho
  split at ho
  ·simp only [OM] at ho; obtain ⟨m, g, rfl⟩ := ho; simp [cls] at hc
  ·simp only [OM] at ho; obtain ⟨m, g, rfl⟩ := ho; simp [cls] at hc
  ·split at ho
   ·simp only [OM] at ho; obtain ⟨m, g, rfl⟩ := ho; simp [cls] at hc
   ·cases ho
  ·rename_i u s
   split at ho
   ·rename_i l
    simp only [OM] at ho; obtain ⟨m, g, rfl⟩ := ho; exact Awm u s l hf hop g hv
   ·cases ho
  ·cases ho
 | _ =>
  exfalso
  rw [hop] at ho
  simp only [cO] at ho
  first | (cases ho; done) | skip
  all_goals
   (repeat' split at ho) <;> first | (cases ho; done) | skip
  all_goals
   cases q <;> first | (simp [cls] at hc; done) | skip
  all_goals first | contradiction | (simp [OB, OM] at ho; done) | skip
end
end Go.L
namespace Go.L
open Go
variable {P : Program} {ι : Inj} {h : Aa} {w : World}
theorem Oz (vs : List Value) : ∀ (c : List Value) (off i : Nat), (setCells c off vs)[i]? = if off ≤ i ∧ i < off + vs.length ∧ i < c.length then vs[i - off]? else c[i]? := by
 induction vs with
 | nil => intro c off i; simp [setCells]; omega
 | cons v r ih =>
  intro c off i
  simp only [setCells, ih, List.length_set, List.length_cons]
  by_cases e : i = off
  ·subst e
   rw [if_neg (by omega)]
   by_cases d : i < c.length
   ·rw [if_pos (by omega), List.getElem?_set_self d]; simp
   ·rw [if_neg (by omega), List.getElem?_eq_none (by simp; omega), List.getElem?_eq_none (by omega)]
  ·rw [List.getElem?_set_ne (Ne.symm e)]
   by_cases a : off + 1 ≤ i ∧ i < off + 1 + r.length ∧ i < c.length
   ·rw [if_pos a, if_pos (by omega)]
    have : i - off = (i - (off + 1)) + 1 := by omega
    rw [this]; rfl
   ·rw [if_neg a, if_neg (by omega)]
theorem Ai0 {rb : Nat} {arr : Array Value} {t : TypeId} {fz : Nat × Nat} (hw : w.heap[rb]? = some (.cells arr t fz)) (o : Nat) (v : Value) :
  (w.setCell ⟨rb, o, none⟩ v).heap[rb]? = some (.cells (arr.toList.set o v).toArray t fz) := by
 have a := (Array.getElem?_eq_some_iff.1 hw).1
 simp only [World.setCell]
 rw [Array.getElem?_modify]
 simp [hw]
 apply Array.ext'
 simp
theorem Abc {rb : Nat} (o : Nat) (v : Value) {x : Nat} (hx : x ≠ rb) : (w.setCell ⟨rb, o, none⟩ v).heap[x]? = w.heap[x]? := by
 simp only [World.setCell]
 rw [Array.getElem?_modify, if_neg (Ne.symm hx)]
theorem Qz {rb : Nat} {t : TypeId} {fz : Nat × Nat} (vs : List Value) : ∀ {arr : Array Value} {w : World} (hw : w.heap[rb]? = some (.cells arr t fz)) (o : Nat),
  (w.setCells rb o vs).heap[rb]? = some (.cells (setCells arr.toList o vs).toArray t fz) ∧ (w.setCells rb o vs).heap.size = w.heap.size ∧ (∀ x, x ≠ rb → (w.setCells rb o vs).heap[x]? = w.heap[x]?) ∧
  (w.setCells rb o vs).os = w.os ∧ (w.setCells rb o vs).tape = w.tape ∧ (w.setCells rb o vs).output = w.output := by
 induction vs with
 | nil => intro arr w hw o; exact ⟨by simpa [World.setCells, setCells] using hw, rfl, fun _ _ => rfl, rfl, rfl, rfl⟩
 | cons v r ih =>
  intro arr w hw o
  have e := Ai0 hw o v
  obtain ⟨l, d, c, g, f, j⟩ := ih e (o + 1)
  refine ⟨by simpa [World.setCells, setCells] using l, d.trans (by simp [World.setCell]), fun x a => (c x a).trans (Abc o v a), g, f, j⟩
theorem oneCell' {v : Value} (h : Ae v = true) : v.oneCell' = true := by cases v <;> first | rfl | (simp [Ae] at h; done)
theorem Agc {l m : List Value} (h : VRs ι l m) (hl : l.all Ae = true) : ∀ v ∈ m, v.oneCell' = true := by
 induction h with
 | nil => simp
 | cons h1 _ ih =>
  simp only [List.all_cons, Bool.and_eq_true] at hl
  intro v hv
  rcases List.mem_cons.1 hv with rfl | hv
  ·exact oneCell' (W5 h1 hl.1)
  ·exact ih hl.2 v hv
theorem Adh {vs : List Value} : ∀ {c : List Value}, c.all Ae = true → vs.all Ae = true → ∀ off, (setCells c off vs).all Ae = true := by
 induction vs with
 | nil => intro c a _ off; exact a
 | cons v r ih =>
  intro c a d off
  simp only [List.all_cons, Bool.and_eq_true] at d
  refine ih ?_ d.2 (off + 1)
  rw [List.all_eq_true] at a ⊢
  intro x e
  rcases List.mem_or_eq_of_mem_set e with h | rfl
  ·exact a x h
  ·exact d.1
theorem S8 {rb : Nat} {arr : Array Value} {t : TypeId} {fz : Nat × Nat} (hw : w.heap[rb]? = some (.cells arr t fz)) {o : Nat} {vs : List Value} (hle : o + vs.length ≤ arr.size) (hf : ∀ i, o ≤ i → i < o + vs.length → ¬ (fz.1 ≤ i ∧ i < fz.2))
  (h1 : ∀ v ∈ vs, v.oneCell' = true) : (storeCells ⟨rb, o, none⟩ vs).run P w = .ok () (w.setCells rb o vs) := by
 have := run_storeCells_cells (P := P) rb o vs 0 w (fun j a => ?_) (fun j a => ?_) h1
 ·simpa using this
 ·simp only [World.cell?, hw]
  simp; omega
 ·have := hf (o + j) (by omega) (by omega)
  obtain ⟨d, c⟩ := fz
  simp only [World.frozen?, hw, Nat.add_zero]
  simp only [Bool.and_eq_false_iff, decide_eq_false_iff_not]
  simp only at this
  omega
theorem Ajp {m : Img} {c : List Value} (hr : ObjR P ι w m (.cells c false)) {off : Nat} {vs vs' : List Value} (hle : off + vs.length ≤ c.length) (hv : VRs ι vs vs') (h1 : vs.all Ae = true) :
  ∃ w', (storeCells ⟨m.rb, m.off + off, none⟩ vs').run P w = .ok () w' ∧ w'.heap.size = w.heap.size ∧ (∀ x, x ≠ m.rb → w'.heap[x]? = w.heap[x]?) ∧ w'.os = w.os ∧ w'.tape = w.tape ∧ w'.output = w.output ∧
   ObjR P ι w' m (.cells (setCells c off vs) false) := by
 cases hr with
 | cells hw hs hl hc hf ho =>
  rename_i l t fz
  have f := hv.length
  obtain ⟨s, y, n, p, g, u⟩ := Qz vs' hw (m.off + off)
  refine ⟨_, S8 hw (by omega) (fun i o j => hf rfl i (by omega) (by omega)) (Agc hv h1), y, n, p, g, u, .cells s (by simp [Ks, hs]) (by rw [Ks]; exact hl) ?_ hf (Adh ho h1 off)⟩
  intro i v d
  rw [Oz] at d
  simp only [List.getElem?_toArray, Oz]
  split at d
  ·rename_i e
   obtain ⟨r, hr, a⟩ := hv.at_ d
   refine ⟨r, ?_, a⟩
   rw [if_pos (by simp; omega), show m.off + i - (m.off + off) = i - off by omega]
   exact hr
  ·rename_i e
   obtain ⟨r, hr, a⟩ := hc i v d
   refine ⟨r, ?_, a⟩
   have z : i < c.length := (GI.1 d).1
   rw [if_neg (by omega)]
   simpa using hr
theorem Mx (hs : Sim P ι h w) {b : Nat} {c : List Value} {m : Img} (hb : h[b]? = some (.cells c false)) (hm : ι b = some m) {off : Nat} {vs vs' : List Value} (hle : off + vs.length ≤ c.length) (hv : VRs ι vs vs') (h1 : vs.all Ae = true) :
  ∃ w', (storeCells ⟨m.rb, m.off + off, none⟩ vs').run P w = .ok () w' ∧ St P ι h w ι (h.set b (.cells (setCells c off vs) false)) w' := by
 obtain ⟨p, a, g⟩ := hs.obj _ _ hb (by simp)
 rw [hm] at a; cases a
 obtain ⟨w', j, n, e, f, d, l, o⟩ := Ajp g hle hv h1
 exact ⟨w', j, St.write hs hb rfl hm n e f d l (fun _ => o) (.inl rfl)⟩
section
variable {sz : Nat} {f : FF} {a : Act} {o : Oper} {q : O} {v : Value}
theorem Arh (s : Sem Unit) {w w' : World} (h : s.run P w = .ok () w') : (do s; pure Next.skip : Sem Next).run P w = .ok .skip w' := by
 simp [Sem.run_bind, h, Result.andThen]
theorem Aq4 (hs : Sim P ι h w) (hf : FFR ι sz f a.tmps) {n : Nat} {xa xv : X} (ho : cO P o.op = some (.st n xa xv)) {h' : Aa} {ws : List Nat} (hv : G0 n (ev f xa) (ev f xv) h = some (h', ws)) :
  ∃ w', (execOp a.eval o).run P w = .ok .skip w' ∧ St P ι h w ι h' w' := by
 cases hop : o.op with
 | store t x y =>
  rw [hop] at ho; simp only [cO, OM, OB, O.st.injEq] at ho
  obtain ⟨p, s, x', r, y', v, rfl, rfl, rfl⟩ := ho
  have j := Ar hf r
  have ry := Ar hf v
  unfold G0 at hv
  split at hv
  ·rename_i ad e
   rw [e] at j
   obtain ⟨m, l, _, z⟩ := j.ptr_inv
   split at hv
   ·rename_i c hb
    split at hv
    ·rename_i g
     simp only [OI, Prod.mk.injEq] at hv
     obtain ⟨rfl, rfl⟩ := hv
     have d := T4 ry (Q8 g.2.2)
     obtain ⟨w', k1, k2⟩ := Mx hs hb l (by rw [g.1]; exact g.2.1) d g.2.2
     refine ⟨w', ?_, k2⟩
     simp only [execOp, hop, z]
     refine Arh _ ?_
     have u : (a.eval y).cells.size = p := by
      have := d.length; simp at this; rw [← this]; exact g.1
     simp only [Instr.storeAt, Instr.sureAddr, Sem.run_bind, Sem.run_pure, Result.andThen_ok, storeVar, Du s, u, ne_eq, not_true_eq_false, if_false]
     exact k1
    ·cases hv
   ·cases hv
  ·cases hv
 | _ =>
  exfalso
  rw [hop] at ho
  simp only [cO] at ho
  first | (cases ho; done) | skip
  all_goals
   (repeat' split at ho) <;> first | (cases ho; done) | skip
  all_goals first | contradiction | (simp [OB, OM] at ho; done) | skip
end
end Go.L
namespace Go.L
open Go
variable {P : Program} {ι : Inj} {h : Aa} {w : World}
theorem St.kill (hs : Sim P ι h w) (b : Nat) : St P ι h w ι (h.set b .dead) w := by
 have c : ∀ (x : Nat) (o : LObj), (h.set b LObj.dead)[x]? = some o → o ≠ LObj.dead → h[x]? = some o := by
  intro x o a g
  by_cases e : x = b
  ·subst e
   rcases Nat.lt_or_ge x h.length with hl | hl
   ·rw [List.getElem?_set_self hl] at a; cases a; exact absurd rfl g
   ·rw [List.getElem?_eq_none (by simpa using hl)] at a; cases a
  ·rwa [List.getElem?_set_ne (Ne.symm e)] at a
 refine ⟨Sub.refl _, ⟨fun x a => hs.dom x (by simpa using a), fun x o a g => hs.obj x o (c x o a g) g, hs.glob, ?_⟩, Nat.le_refl _, rfl, rfl, rfl, fun _ _ _ => rfl, ?_⟩
 ·intro x y l n t v a u d f r h2 j
  exact hs.inj x y l n t v (c x l a (LObj.live_of_wr d)) (c y n u f) d f r h2 j
 ·rintro z ⟨x, o, m, a, p, s, rfl⟩ _
  exact ⟨x, o, m, c x o a (LObj.live_of_wr p), p, s, rfl⟩
def Old (ι : Inj) (h : Aa) (ι' : Inj) : Prop := ∀ b, b < h.length → ι' b = ι b
theorem Old.refl (ι : Inj) (h : Aa) : Old ι h ι := fun _ _ => rfl
theorem Old.put (ι : Inj) (h : Aa) (m : Img) : Old ι h (ι.put h.length m) := fun b hb => Inj.put_ne m (Nat.ne_of_lt hb)
def Aeo (P : Program) (ι : Inj) (h : Aa) (a : Act) (o : Oper) (v : Value) (h' : Aa) (w : World) : Prop :=
 ∃ ι' w' nx, (execOp a.eval o).run P w = .ok nx w' ∧ St P ι h w ι' h' w' ∧ Old ι h ι' ∧ (nx = .skip ∧ v = undef ∨ ∃ v', nx = .value v' ∧ VR ι' v v')
theorem All2.modify {α β : Type} {R : α → β → Prop} {l : List α} {m : List β} (h : All2 R l m) (j : Nat) {a : α} {g : β → β} (hr : ∀ b, m[j]? = some b → R a (g b)) : All2 R (l.set j a) (m.modify j g) := by
 refine All2.of_at (by simp [h.length]) fun i x y c d => ?_
 rw [List.getElem?_modify] at d
 by_cases e : j = i
 ·subst e
  have o : j < l.length := by have := (GI.1 c).1; simpa using this
  rw [List.getElem?_set_self o] at c; cases c
  simp only [if_true, Option.map_eq_map, OM] at d
  obtain ⟨b, f, rfl⟩ := d
  exact hr b f
 ·rw [List.getElem?_set_ne e] at c
  simp [e] at d
  obtain ⟨b, f, n⟩ := h.at_ c
  rw [d] at f; cases f; exact n
theorem All2.eraseIdx {α β : Type} {R : α → β → Prop} {l : List α} {m : List β} (h : All2 R l m) : ∀ (j : Nat), All2 R (l.eraseIdx j) (m.eraseIdx j) := by
 induction h with
 | nil => intro j; simpa using All2.nil
 | cons h1 t ih =>
  intro j
  cases j with
  | zero => simpa using t
  | succ j => simpa using All2.cons h1 (ih j)
def Y0 : Value → Bool
 | .int _ _ | .string _ | .bool _ => true
 | _ => false
theorem Ll {k : SK} {x y : Value} {b : Bool} (h : Gy k x y = some b) : Y0 x = true := by
 unfold Gy at h
 split at h <;> first | (cases h; done) | rfl
theorem Uk {k : SK} : ∀ {n : Nat} {xs ys : List Value} {b : Bool}, C9 k n xs ys = some b → xs.all Y0 = true
 | 0, xs, ys, b, h => by unfold C9 at h; split at h <;> first | (cases h; done) | contradiction | rfl
 | n + 1, [], ys, b, h => by simp [C9] at h
 | n + 1, x :: xs, [], b, h => by simp [C9] at h
 | n + 1, x :: xs, y :: ys, b, h => by
  simp only [C9, OB, OM] at h
  obtain ⟨c, e, d, a, _⟩ := h
  simp [Ll e, Uk a]
theorem O1 : ∀ {l : List FK} {xs ys : List Value} {b : Bool}, Cc l xs ys = some b → xs.all Y0 = true
 | [], xs, ys, b, h => by unfold Cc at h; split at h <;> first | (cases h; done) | contradiction | rfl
 | .one k :: r, [], ys, b, h => by simp [Cc] at h
 | .one k :: r, x :: xs, [], b, h => by simp [Cc] at h
 | .one k :: r, x :: xs, y :: ys, b, h => by
  simp only [Cc, OB, OM] at h
  obtain ⟨c, e, d, a, _⟩ := h
  simp [Ll e, O1 a]
 | .arr n k :: r, xs, ys, b, h => by
  simp only [Cc, OB, OM] at h
  obtain ⟨c, e, d, a, _⟩ := h
  have f := Uk e
  have h2 := O1 a
  rw [← List.take_append_drop n xs, List.all_append, f, h2]; rfl
theorem ba_eq {a b : ByteArray} : (a == b) = true ↔ a = b := by
 obtain ⟨a⟩ := a
 obtain ⟨b⟩ := b
 have : ((⟨a⟩ : ByteArray) == ⟨b⟩) = (a == b) := rfl
 rw [this, beq_iff_eq]
 exact ⟨fun h => by rw [h], fun h => by cases h; rfl⟩
theorem O0 {k : SK} {x y : Value} (h : Gy k x y = some true) : x = y := by
 unfold Gy at h
 split at h <;> first | (cases h; done) | skip
 ·split at h
  ·rename_i e; simp only [OI, beq_iff_eq] at h; rw [e, h]
  ·cases h
 ·simp only [OI] at h; rw [ba_eq.1 h]
 ·simp only [OI, beq_iff_eq] at h; rw [h]
theorem Y3 {k : SK} : ∀ {n : Nat} {xs ys : List Value}, C9 k n xs ys = some true → xs = ys
 | 0, xs, ys, h => by unfold C9 at h; split at h <;> first | (cases h; done) | contradiction | rfl
 | n + 1, [], ys, h => by simp [C9] at h
 | n + 1, x :: xs, [], h => by simp [C9] at h
 | n + 1, x :: xs, y :: ys, h => by
  simp only [C9, OB, OM, Bool.and_eq_true] at h
  obtain ⟨c, e, d, a, rfl, rfl⟩ := h
  rw [O0 e, Y3 a]
theorem Ti : ∀ {l : List FK} {xs ys : List Value}, Cc l xs ys = some true → xs = ys
 | [], xs, ys, h => by unfold Cc at h; split at h <;> first | (cases h; done) | contradiction | rfl
 | .one k :: r, [], ys, h => by simp [Cc] at h
 | .one k :: r, x :: xs, [], h => by simp [Cc] at h
 | .one k :: r, x :: xs, y :: ys, h => by
  simp only [Cc, OB, OM, Bool.and_eq_true] at h
  obtain ⟨c, e, d, a, rfl, rfl⟩ := h
  rw [O0 e, Ti a]
 | .arr n k :: r, xs, ys, h => by
  simp only [Cc, OB, OM, Bool.and_eq_true] at h
  obtain ⟨c, e, d, a, rfl, rfl⟩ := h
  rw [← List.take_append_drop n xs, ← List.take_append_drop n ys, Y3 e, Ti a]
theorem Adk {q : EqK} {k x : Value} (h : B0 q k x = some true) : x = k ∧ Instr.sameBits 10000 k k = true := by
 have c : ∀ (n : Nat) v, Y0 v = true → Instr.sameBits n v v = true := by
  intro n v o
  cases v <;> first | (simp [Y0] at o; done) | (cases n <;> simp [Instr.sameBits, ba_eq])
 unfold B0 at h
 split at h
 ·exact ⟨(O0 h).symm, c _ _ (Ll h)⟩
 ·exact ⟨(O0 h).symm, c _ _ (Ll h)⟩
 ·rename_i xs f
  have e := Ti h
  have m : xs = f := Array.ext' e
  subst m
  refine ⟨rfl, ?_⟩
  have a := O1 h
  have : Instr.sameBits (9999 + 1) (.agg xs) (.agg xs) = (xs.size == xs.size && (xs.toList.zip xs.toList).all fun (x, y) => Instr.sameBits 9999 x y) := rfl
  rw [this]
  simp only [beq_self_eq_true, Bool.true_and]
  rw [List.all_eq_true] at a ⊢
  rintro ⟨u, v⟩ d
  have : u = v ∧ u ∈ xs.toList := by
   have j : ∀ l : List Value, (u, v) ∈ l.zip l → u = v ∧ u ∈ l := by
    intro l
    induction l with
    | nil => simp
    | cons y l ih =>
     intro hm
     simp only [List.zip_cons_cons, List.mem_cons, Prod.mk.injEq] at hm
     rcases hm with ⟨rfl, rfl⟩ | hm
     ·exact ⟨rfl, by simp⟩
     ·exact ⟨(ih hm).1, by simp [(ih hm).2]⟩
   exact j _ d
  obtain ⟨rfl, g⟩ := this
  exact c _ _ (a u g)
 ·cases h
theorem Ai3 {rb : Nat} {o o' : Obj} (hw : w.heap[rb]? = some o) (ho : ∀ c t f, o ≠ .cells c t f) : (setObj rb o').run P w = .ok () { w with heap := w.heap.setIfInBounds rb o' } := by
 cases o with
 | cells c t f => exact absurd rfl (ho c t f)
 | _ => simp only [setObj, Sem.run, hw]
theorem Vm (hs : Sim P ι h w) {b : Nat} {es es2 : List (Value × Value)} {m : Img} (hb : h[b]? = some (.map es)) (hm : ι b = some m) {es2' : Array MapEntry} {clock : Nat}
  (he : All2 (fun e (e' : MapEntry) => e.1 = e'.key ∧ VR ι e.2 e'.val) es2 es2'.toList) : ∃ w', (setObj m.rb (.map es2' clock)).run P w = .ok () w' ∧ St P ι h w ι (h.set b (.map es2)) w' := by
 obtain ⟨g, a, f⟩ := hs.obj _ _ hb (by simp)
 rw [hm] at a; cases a
 cases f with
 | map hw he' =>
  have d := (Array.getElem?_eq_some_iff.1 hw).1
  refine ⟨_, Ai3 hw (by simp), St.write hs hb rfl hm (by simp) (fun rb c => ?_) rfl rfl rfl (fun _ => .map (es' := es2') (clock := clock) ?_ he) (.inl rfl)⟩
  ·simp only [Array.getElem?_setIfInBounds_ne (Ne.symm c)]
  ·simp [d]
section
variable {sz : Nat} {f : FF} {a : Act} {o : Oper} {q : O} {v : Value} {h' : Aa} {ws : List Nat}
theorem A1z {t kt e : TypeId} {m k x : Operand} {qk : EqK} (hs : Sim P ι h w) (hu : P.underlying t = some (.map kt e)) (hq : Abv P kt = some qk) (hf : FFR ι sz f a.tmps) (ho : o.op = .mapUpdate t m k x)
  {m' k' x' : X} (hm : cX m = some m') (hk : cX k = some k') (hx : cX x = some x') (hv : Nn f h (.mup qk m' k' x') = some (v, h', ws)) : Aeo P ι h a o v h' w := by
 have rm := Ar hf hm
 have rk := Ar hf hk
 have rx := Ar hf hx
 simp only [Nn] at hv
 split at hv
 ·rename_i rb e1
  rw [e1] at rm
  obtain ⟨mi, y, a1⟩ := rm.map_inv
  split at hv
  ·rename_i es s
   split at hv
   ·rename_i g
    simp only [OM, Prod.mk.injEq] at hv
    obtain ⟨es2, c, rfl, rfl, rfl⟩ := hv
    have ek := Z2 g rk
    obtain ⟨m2, z, a0⟩ := hs.obj _ _ s (by simp)
    rw [y] at z; cases z
    cases a0 with
    | map hw he =>
     rename_i d clock
     have n : (getObj mi.rb).run P w = .ok (.map d clock) w := by simp [getObj, Sem.run, hw]
     have a3 := O4 hq g false w
     have a4 : ∃ r, find qk (ev f k') es = some r := by
      have : ∀ (l : List (Value × Value)) l2 u, Nj qk (ev f k') u l = some l2 → ∃ r, find qk (ev f k') l = some r := by
       intro l
       induction l with
       | nil => intro l2 u _; exact ⟨none, rfl⟩
       | cons p l ih =>
        intro l2 u hp
        simp only [Nj, OB] at hp
        obtain ⟨b, s, hp⟩ := hp
        cases b with
        | true => exact ⟨some p.2, by simp [find, s]⟩
        | false =>
         simp only [Bool.false_eq_true, if_false, OM] at hp
         obtain ⟨l3, h3, _⟩ := hp
         obtain ⟨r, hr⟩ := ih l3 u h3
         exact ⟨r, by simp [find, s, hr]⟩
      exact this es es2 _ c
     obtain ⟨r, hr⟩ := a4
     rcases M0 hq g he hr w with ⟨rfl, h1, h2, _⟩ | ⟨v0, j, v', rfl, h1, h2, h3, h4, _, e0, h5, h6⟩
     ·rw [h2] at c
      simp only [OI] at c
      obtain ⟨w', s1, s2⟩ := Vm hs s y (es2 := es2) (es2' := d.push { key := ev f k', val := a.eval x, born := clock }) (clock := clock + 1) (by
       rw [← c, Array.toList_push]; exact he.append (.cons ⟨rfl, rx⟩ .nil))
      refine ⟨ι, w', .skip, ?_, s2, Old.refl _ _, .inl ⟨rfl, rfl⟩⟩
      simp only [execOp, ho, a1, ek]
      refine Arh _ ?_
      simp only [Instr.mapUpdate, Sem.run_bind, run_underlying hu, Result.andThen_ok, n, a3, h1, s1]
     ·rw [h4] at c
      simp only [OI] at c
      obtain ⟨e5, e6⟩ := Adk h6
      obtain ⟨w', s1, s2⟩ := Vm hs s y (es2 := es2) (es2' := d.modify j fun e => { e with key := ev f k', val := a.eval x }) (clock := clock) (by
       rw [← c, Array.toList_modify]; exact he.modify j fun b s => ⟨rfl, rx⟩)
      refine ⟨ι, w', .skip, ?_, s2, Old.refl _ _, .inl ⟨rfl, rfl⟩⟩
      have a2 : ((d[j]?).map (·.key)).getD (ev f k') = ev f k' := by
       have : d[j]? = some e0 := by rw [← h5]; simp
       rw [this]; exact e5
      simp only [execOp, ho, a1, ek]
      refine Arh _ ?_
      simp only [Instr.mapUpdate, Sem.run_bind, run_underlying hu, Result.andThen_ok, n, a3, h1, a2, Instr.keyThatStays, e6, if_true, Sem.run_pure, s1]
   ·cases hv
  ·cases hv
 ·cases hv
end
end Go.L
