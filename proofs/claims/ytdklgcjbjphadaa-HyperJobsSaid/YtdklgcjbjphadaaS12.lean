/- THE LOGICAL MACHINE AND THE MODEL: stores; 'copy', 'clear'; maps that change. -/
import Derived.Test.YtdklgcjbjphadaaS11
import Derived.Laws.IdiomCopy
import Derived.Laws.AppendOwn
set_option linter.unusedVariables false
set_option linter.unusedSimpArgs false
namespace Go.L
open Go
variable {P : Program} {ι : Inj} {h : Heap} {w : World}
theorem setCells_get (vs : List Value) : ∀ (c : List Value) (off i : Nat), (setCells c off vs)[i]? = if off ≤ i ∧ i < off + vs.length ∧ i < c.length then vs[i - off]? else c[i]? := by
  induction vs with
  | nil => intro c off i; simp [setCells]; omega
  | cons v r ih =>
    intro c off i
    simp only [setCells, ih, List.length_set, List.length_cons]
    by_cases e : i = off
    · subst e
      rw [if_neg (by omega)]
      by_cases hl : i < c.length
      · rw [if_pos (by omega), List.getElem?_set_self hl]; simp
      · rw [if_neg (by omega), List.getElem?_eq_none (by simp; omega), List.getElem?_eq_none (by omega)]
    · rw [List.getElem?_set_ne (Ne.symm e)]
      by_cases h1 : off + 1 ≤ i ∧ i < off + 1 + r.length ∧ i < c.length
      · rw [if_pos h1, if_pos (by omega)]
        have : i - off = (i - (off + 1)) + 1 := by omega
        rw [this]; rfl
      · rw [if_neg h1, if_neg (by omega)]
theorem setCell_at {rb : Nat} {arr : Array Value} {t : TypeId} {fz : Nat × Nat} (hw : w.heap[rb]? = some (.cells arr t fz)) (o : Nat) (v : Value) :
    (w.setCell ⟨rb, o, none⟩ v).heap[rb]? = some (.cells (arr.toList.set o v).toArray t fz) := by
  have hl := (Array.getElem?_eq_some_iff.1 hw).1
  simp only [World.setCell]
  rw [Array.getElem?_modify]
  simp [hw]
  apply Array.ext'
  simp
theorem setCell_other {rb : Nat} (o : Nat) (v : Value) {x : Nat} (hx : x ≠ rb) : (w.setCell ⟨rb, o, none⟩ v).heap[x]? = w.heap[x]? := by
  simp only [World.setCell]
  rw [Array.getElem?_modify, if_neg (Ne.symm hx)]
theorem setCells_world {rb : Nat} {t : TypeId} {fz : Nat × Nat} (vs : List Value) : ∀ {arr : Array Value} {w : World} (hw : w.heap[rb]? = some (.cells arr t fz)) (o : Nat),
    (w.setCells rb o vs).heap[rb]? = some (.cells (setCells arr.toList o vs).toArray t fz) ∧ (w.setCells rb o vs).heap.size = w.heap.size ∧ (∀ x, x ≠ rb → (w.setCells rb o vs).heap[x]? = w.heap[x]?) ∧
    (w.setCells rb o vs).os = w.os ∧ (w.setCells rb o vs).tape = w.tape ∧ (w.setCells rb o vs).output = w.output := by
  induction vs with
  | nil => intro arr w hw o; exact ⟨by simpa [World.setCells, setCells] using hw, rfl, fun _ _ => rfl, rfl, rfl, rfl⟩
  | cons v r ih =>
    intro arr w hw o
    have h1 := setCell_at hw o v
    obtain ⟨i1, i2, i3, i4, i5, i6⟩ := ih h1 (o + 1)
    refine ⟨by simpa [World.setCells, setCells] using i1, i2.trans (by simp [World.setCell]), fun x hx => (i3 x hx).trans (setCell_other o v hx), i4, i5, i6⟩
theorem oneCell' {v : Value} (h : oneCell v = true) : v.oneCell' = true := by cases v <;> first | rfl | (simp [oneCell] at h; done)
theorem ones_rel {l m : List Value} (h : VRs ι l m) (hl : l.all oneCell = true) : ∀ v ∈ m, v.oneCell' = true := by
  induction h with
  | nil => simp
  | cons h1 _ ih =>
    simp only [List.all_cons, Bool.and_eq_true] at hl
    intro v hv
    rcases List.mem_cons.1 hv with rfl | hv
    · exact oneCell' (oneCell_rel h1 hl.1)
    · exact ih hl.2 v hv
theorem setCells_one {vs : List Value} : ∀ {c : List Value}, c.all oneCell = true → vs.all oneCell = true → ∀ off, (setCells c off vs).all oneCell = true := by
  induction vs with
  | nil => intro c hc _ off; exact hc
  | cons v r ih =>
    intro c hc hv off
    simp only [List.all_cons, Bool.and_eq_true] at hv
    refine ih ?_ hv.2 (off + 1)
    rw [List.all_eq_true] at hc ⊢
    intro x hx
    rcases List.mem_or_eq_of_mem_set hx with h | rfl
    · exact hc x h
    · exact hv.1
/-- Cells are written into a block. -/
theorem run_store_raw {rb : Nat} {arr : Array Value} {t : TypeId} {fz : Nat × Nat} (hw : w.heap[rb]? = some (.cells arr t fz)) {o : Nat} {vs : List Value} (hle : o + vs.length ≤ arr.size) (hf : ∀ i, o ≤ i → i < o + vs.length → ¬ (fz.1 ≤ i ∧ i < fz.2))
    (h1 : ∀ v ∈ vs, v.oneCell' = true) : (storeCells ⟨rb, o, none⟩ vs).run P w = .ok () (w.setCells rb o vs) := by
  have := run_storeCells_cells (P := P) rb o vs 0 w (fun j hj => ?_) (fun j hj => ?_) h1
  · simpa using this
  · simp only [World.cell?, hw]
    simp; omega
  · have := hf (o + j) (by omega) (by omega)
    obtain ⟨f1, f2⟩ := fz
    simp only [World.frozen?, hw, Nat.add_zero]
    simp only [Bool.and_eq_false_iff, decide_eq_false_iff_not]
    simp only at this
    omega
/-- A block with cells written into, seen from the logical heap. -/
theorem objr_write {m : Img} {c : List Value} (hr : ObjR P ι w m (.cells c false)) {off : Nat} {vs vs' : List Value} (hle : off + vs.length ≤ c.length) (hv : VRs ι vs vs') (h1 : vs.all oneCell = true) :
    ∃ w', (storeCells ⟨m.rb, m.off + off, none⟩ vs').run P w = .ok () w' ∧ w'.heap.size = w.heap.size ∧ (∀ x, x ≠ m.rb → w'.heap[x]? = w.heap[x]?) ∧ w'.os = w.os ∧ w'.tape = w.tape ∧ w'.output = w.output ∧
      ObjR P ι w' m (.cells (setCells c off vs) false) := by
  cases hr with
  | cells hw hs hl hc hf ho =>
    rename_i arr t fz
    have hlen := hv.length
    obtain ⟨k1, k2, k3, k4, k5, k6⟩ := setCells_world vs' hw (m.off + off)
    refine ⟨_, run_store_raw hw (by omega) (fun i hi1 hi2 => hf rfl i (by omega) (by omega)) (ones_rel hv h1), k2, k3, k4, k5, k6, .cells k1 (by simp [setCells_length, hs]) (by rw [setCells_length]; exact hl) ?_ hf (setCells_one ho h1 off)⟩
    intro i v hi
    rw [setCells_get] at hi
    simp only [List.getElem?_toArray, setCells_get]
    split at hi
    · rename_i hc1
      obtain ⟨r, hr, hvr⟩ := hv.at_ hi
      refine ⟨r, ?_, hvr⟩
      rw [if_pos (by simp; omega), show m.off + i - (m.off + off) = i - off by omega]
      exact hr
    · rename_i hc1
      obtain ⟨r, hr, hvr⟩ := hc i v hi
      refine ⟨r, ?_, hvr⟩
      have hil : i < c.length := (List.getElem?_eq_some_iff.1 hi).1
      rw [if_neg (by omega)]
      simpa using hr
theorem write_cells (hs : Sim P ι h w) {b : Nat} {c : List Value} {m : Img} (hb : h[b]? = some (.cells c false)) (hm : ι b = some m) {off : Nat} {vs vs' : List Value} (hle : off + vs.length ≤ c.length) (hv : VRs ι vs vs') (h1 : vs.all oneCell = true) :
    ∃ w', (storeCells ⟨m.rb, m.off + off, none⟩ vs').run P w = .ok () w' ∧ St P ι h w ι (h.set b (.cells (setCells c off vs) false)) w' := by
  obtain ⟨m', hm', hr⟩ := hs.obj _ _ hb (by simp)
  rw [hm] at hm'; cases hm'
  obtain ⟨w', k1, k2, k3, k4, k5, k6, k7⟩ := objr_write hr hle hv h1
  exact ⟨w', k1, St.write hs hb rfl hm k2 k3 k4 k5 k6 (fun _ => k7) (.inl rfl)⟩
section
variable {sz : Nat} {f : FF} {a : Act} {o : Oper} {q : O} {v : Value}
theorem run_u (s : Sem Unit) {w w' : World} (h : s.run P w = .ok () w') : (do s; pure Next.skip : Sem Next).run P w = .ok .skip w' := by
  simp [Sem.run_bind, h, Result.andThen]
theorem store_op (hs : Sim P ι h w) (hf : FFR ι sz f a.tmps) {n : Nat} {xa xv : X} (ho : cO P o.op = some (.st n xa xv)) {h' : Heap} {ws : List Nat} (hv : storeV n (ev f xa) (ev f xv) h = some (h', ws)) :
    ∃ w', (execOp a.eval o).run P w = .ok .skip w' ∧ St P ι h w ι h' w' := by
  cases hop : o.op with
  | store t x y =>
    rw [hop] at ho; simp only [cO, Option.map_eq_some_iff, Option.bind_eq_some_iff, O.st.injEq] at ho
    obtain ⟨n', hn, x', hx, y', hy, rfl, rfl, rfl⟩ := ho
    have rx := ev_rel hf hx
    have ry := ev_rel hf hy
    unfold storeV at hv
    split at hv
    · rename_i ad e
      rw [e] at rx
      obtain ⟨m, hm, _, hr⟩ := rx.ptr_inv
      split at hv
      · rename_i c hb
        split at hv
        · rename_i hc
          simp only [Option.some.injEq, Prod.mk.injEq] at hv
          obtain ⟨rfl, rfl⟩ := hv
          have hcv := cellsV_rel ry (oneCell_all hc.2.2)
          obtain ⟨w', k1, k2⟩ := write_cells hs hb hm (by rw [hc.1]; exact hc.2.1) hcv hc.2.2
          refine ⟨w', ?_, k2⟩
          simp only [execOp, hop, hr]
          refine run_u _ ?_
          have hl : (a.eval y).cells.size = n' := by
            have := hcv.length; simp at this; rw [← this]; exact hc.1
          simp only [Instr.storeAt, Instr.sureAddr, Sem.run_bind, Sem.run_pure, Result.andThen_ok, storeVar, run_szO hn, hl, ne_eq, not_true_eq_false, if_false]
          exact k1
        · cases hv
      · cases hv
    · cases hv
  | _ =>
    exfalso
    rw [hop] at ho
    simp only [cO] at ho
    first | (cases ho; done) | skip
    all_goals
      (repeat' split at ho) <;> first | (cases ho; done) | skip
    all_goals first | contradiction | (simp [Option.bind_eq_some_iff, Option.map_eq_some_iff] at ho; done) | skip
end
end Go.L
