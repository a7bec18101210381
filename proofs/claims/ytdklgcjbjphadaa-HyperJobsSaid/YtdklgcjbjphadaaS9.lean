/- THE LOGICAL MACHINE AND THE MODEL: operations that lay a block. -/
import Derived.Test.YtdklgcjbjphadaaS8
import Derived.Laws.MakeOwn
import Derived.Laws.BytesString
set_option linter.unusedVariables false
set_option linter.unusedSimpArgs false
namespace Go.L
open Go
variable {P : Program} {ι : Inj} {h : Heap} {w : World}
section
variable {sz : Nat} {f : FF} {a : Act} {o : Oper} {q : O} {v : Value}
/-! ### Bytes to a text -/
theorem bytesOf_ints : ∀ {c : List Value} {bs : List UInt8}, bytesOf c = some bs → ∃ ns : List Int, c = ns.map (Value.int .u8) ∧ bs = ns.map fun n => UInt8.ofNat n.toNat
  | [], bs, h => by simp [bytesOf] at h; subst h; exact ⟨[], rfl, rfl⟩
  | v :: c, bs, h => by
    have : ∃ n, v = .int .u8 n := by
      cases v <;> first | (simp [bytesOf] at h; done) | skip
      rename_i k n
      cases k <;> first | (simp [bytesOf] at h; done) | exact ⟨_, rfl⟩
    obtain ⟨n, rfl⟩ := this
    simp only [bytesOf, Option.map_eq_some_iff] at h
    obtain ⟨bs', h', rfl⟩ := h
    obtain ⟨ns, rfl, rfl⟩ := bytesOf_ints h'
    exact ⟨n :: ns, rfl, rfl⟩
theorem ints_rel {ns : List Int} {cs : List Value} (h : VRs ι (ns.map (Value.int .u8)) cs) : cs = ns.map (Value.int .u8) := by
  induction ns generalizing cs with
  | nil => cases h; rfl
  | cons n ns ih =>
    cases h with
    | cons h1 h2 => rw [h1.int_inv, ih h2]; rfl
theorem foldl_push_bytes (ns : List Int) (s : ByteArray) : ns.foldl (fun r n => r.push (UInt8.ofNat n.toNat)) s = ⟨s.data ++ (ns.map fun n => UInt8.ofNat n.toNat).toArray⟩ := by
  induction ns generalizing s with
  | nil => cases s; simp
  | cons n ns ih =>
    simp only [List.foldl_cons, ih, List.map_cons]
    congr 1
    simp [ByteArray.push]
theorem ObjR.one {m : Img} {c : List Value} {ro : Bool} (hr : ObjR P ι w m (.cells c ro)) : c.all oneCell = true := by
  cases hr with
  | cells _ _ _ _ _ ho => exact ho
/-- The cells of a slice, or of a text's bytes, as the model loads them: all, or the first ones. -/
theorem run_cells_k (hs : Sim P ι h w) {size : Nat} {x x' : Value} (hx : VR ι x x') {n : Nat} {c : List Value} (hc : cellsOf size x h = some (n, c)) (w' : World) (hw : w'.heap = w.heap) :
    (Builtin.lenOf x').run P w' = .ok n w' ∧ c.length = n * size ∧ c.all oneCell = true ∧ ∃ c', VRs ι c c' ∧ ∀ k, k ≤ n → (Builtin.firstCells size k x').run P w' = .ok (c'.take (k * size)).toArray w' := by
  unfold cellsOf at hc
  split at hc
  · split at hc
    · simp only [Option.some.injEq, Prod.mk.injEq] at hc
      obtain ⟨rfl, rfl⟩ := hc
      rename_i e; subst e
      cases hx
      exact ⟨rfl, by simp, rfl, [], .nil, fun k _ => by simp [Builtin.firstCells]⟩
    · cases hc
  · rename_i ad k cap
    split at hc
    · rename_i cells ro hb
      split at hc
      · rename_i hle
        simp only [Option.some.injEq, Prod.mk.injEq] at hc
        obtain ⟨rfl, rfl⟩ := hc
        have hlen : ((cells.drop ad.off).take (k * size)).length = k * size := by simp; omega
        have hone : ((cells.drop ad.off).take (k * size)).all oneCell = true := by
          obtain ⟨_, _, hr⟩ := hs.obj _ _ hb (by simp)
          have := hr.one
          rw [List.all_eq_true] at this ⊢
          exact fun v hv => this v (List.mem_of_mem_drop (List.mem_of_mem_take hv))
        have key : ∀ (m : Img) (cap' : Nat), ι ad.block = some m → (Builtin.lenOf (.slice (some ⟨m.rb, m.off + ad.off, none⟩) k cap')).run P w' = .ok k w' ∧ ((cells.drop ad.off).take (k * size)).length = k * size ∧ ((cells.drop ad.off).take (k * size)).all oneCell = true ∧
            ∃ c', VRs ι ((cells.drop ad.off).take (k * size)) c' ∧ ∀ j, j ≤ k → (Builtin.firstCells size j (.slice (some ⟨m.rb, m.off + ad.off, none⟩) k cap')).run P w' = .ok (c'.take (j * size)).toArray w' := by
          intro m cap' hm
          obtain ⟨m', hm', hr⟩ := hs.obj _ _ hb (by simp)
          rw [hm] at hm'; cases hm'
          obtain ⟨cs', h1, h2⟩ := cells_at (hr.world (by rw [hw])) hle
          have hcl : cs'.length = k * size := by rw [← h1.length, hlen]
          refine ⟨rfl, hlen, hone, cs', h1, fun j hj => ?_⟩
          have hjk : j * size ≤ k * size := Nat.mul_le_mul_right _ hj
          exact run_firstCells_some (P := P) w' size j _ _ _ (cs'.take (j * size)) (by simp; omega) fun i u hi => by
            rw [addr_add _ rfl]
            have hlt : i < j * size := by
              rcases Nat.lt_or_ge i (j * size) with h | h
              · exact h
              · rw [List.getElem?_eq_none (by simp; omega)] at hi; cases hi
            rw [List.getElem?_take_of_lt hlt] at hi
            simpa [Nat.add_assoc] using h2 i u hi
        have zero : ∀ (a' : Addr) (j : Nat), j ≤ 0 → (Builtin.firstCells size j (.slice (some a') 0 0)).run P w' = .ok (([] : List Value).take (j * size)).toArray w' := by
          intro a' j hj
          have : j = 0 := Nat.le_zero.1 hj
          subst this
          simp [Builtin.firstCells, loadCells, loadCellsFrom]
        cases hx with
        | slice off n c hm => exact key _ _ hm
        | slice0 off a' h0 => exact ⟨rfl, by simp, hone, [], by simpa using All2.nil, zero _⟩
        | loose off s n c hm hn hcc => exact key _ _ hm
        | loose0 off s a' h0 => exact ⟨rfl, by simp, hone, [], by simpa using All2.nil, zero _⟩
      · cases hc
    · cases hc
  · rename_i s
    split at hc
    · rename_i e; subst e
      simp only [Option.some.injEq, Prod.mk.injEq] at hc
      obtain ⟨rfl, rfl⟩ := hc
      have := hx.string_inv; subst this
      refine ⟨rfl, by simp, by rw [List.all_eq_true]; intro v hv; simp at hv; obtain ⟨b, _, rfl⟩ := hv; rfl, _, VRs.self (by rw [List.all_eq_true]; intro v hv; simp at hv; obtain ⟨b, _, rfl⟩ := hv; rfl), fun k hk => ?_⟩
      simp only [Builtin.firstCells, Sem.run_pure, Nat.mul_one]
      congr 1
      apply Array.ext'
      rw [ByteArray.data_extract]
      simp [List.extract_eq_take_drop, List.map_take]
    · cases hc
  · cases hc
theorem run_cells (hs : Sim P ι h w) {size : Nat} {x x' : Value} (hx : VR ι x x') {n : Nat} {c : List Value} (hc : cellsOf size x h = some (n, c)) (w' : World) (hw : w'.heap = w.heap) :
    (Builtin.lenOf x').run P w' = .ok n w' ∧ c.length = n * size ∧ ∃ c', (Builtin.firstCells size n x').run P w' = .ok c'.toArray w' ∧ VRs ι c c' := by
  obtain ⟨h1, h2, _, c', h3, h4⟩ := run_cells_k hs hx hc w' hw
  refine ⟨h1, h2, c', ?_, h3⟩
  rw [h4 n (Nat.le_refl _), List.take_of_length_le (by rw [← h3.length, h2]; exact Nat.le_refl _)]
theorem m_b2s {t d e : TypeId} {x : Operand} (hs : Sim P ι h w) (hu : P.underlying t = some (.slice e)) (hd : P.underlying d = some .string) (he : P.underlying e = some (.int .u8)) (hf : FFR ι sz f a.tmps) (ho : o.op = .convert t d x)
    {x' : X} (hx : cX x = some x') (hv : memV f h (.b2s x') = some v) : Gives P ι a o v w := by
  have rx := ev_rel hf hx
  simp only [memV] at hv
  split at hv
  · rename_i b n cap e1
    split at hv
    · rename_i k c hc
      simp only [Option.map_eq_some_iff] at hv
      obtain ⟨bs, hbs, rfl⟩ := hv
      obtain ⟨ns, rfl, rfl⟩ := bytesOf_ints hbs
      obtain ⟨h1, h2, c', h3, h4⟩ := run_cells hs rx hc w rfl
      have h5 := ints_rel h4
      subst h5
      refine ⟨.string ⟨(ns.map fun n => UInt8.ofNat n.toNat).toArray⟩, ?_, .string _⟩
      rw [e1] at rx
      have conv : (Conv.bytesToString (a.eval x)).run P w = .ok (.string ⟨(ns.map fun n => UInt8.ofNat n.toNat).toArray⟩) w := by
        generalize a.eval x = r at rx h1 h3
        cases rx with
        | nils n c =>
          simp only [Builtin.firstCells, Sem.run_pure, Result.ok.injEq, and_true] at h3
          have : ns = [] := by
            have := congrArg Array.size h3; simp at this; cases ns <;> simp at this ⊢
          subst this
          rfl
        | _ =>
          simp only [Builtin.lenOf, Sem.run_pure, Result.ok.injEq, and_true] at h1
          subst h1
          rw [run_bytesToString w _ _ _ ns (by simpa [Builtin.firstCells] using h3), foldl_push_bytes]
          simp
      simp only [execOp, ho]
      refine run_v _ ?_
      generalize a.eval x = r at rx conv
      simp only [convert, Sem.run_bind, run_underlying hu, run_underlying hd, Result.andThen_ok]
      cases rx <;> simp only [Sem.run_bind, run_underlying he, Result.andThen_ok, conv]
    · cases hv
  · cases hv
end
end Go.L
