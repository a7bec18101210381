/- THE LOGICAL MACHINE AND THE MODEL: maps that change; 'copy', 'clear', 'append'. -/
import Derived.Test.YtdklgcjbjphadaaS12
set_option linter.unusedVariables false
set_option linter.unusedSimpArgs false
namespace Go.L
open Go
variable {P : Program} {ι : Inj} {h : Heap} {w : World}
/-- A block dies: nothing is asked of it any more. -/
theorem St.kill (hs : Sim P ι h w) (b : Nat) : St P ι h w ι (h.set b .dead) w := by
  have old : ∀ (x : Nat) (o : LObj), (h.set b LObj.dead)[x]? = some o → o ≠ LObj.dead → h[x]? = some o := by
    intro x o hx hn
    by_cases e : x = b
    · subst e
      rcases Nat.lt_or_ge x h.length with hl | hl
      · rw [List.getElem?_set_self hl] at hx; cases hx; exact absurd rfl hn
      · rw [List.getElem?_eq_none (by simpa using hl)] at hx; cases hx
    · rwa [List.getElem?_set_ne (Ne.symm e)] at hx
  refine ⟨Sub.refl _, ⟨fun x hx => hs.dom x (by simpa using hx), fun x o hx hn => hs.obj x o (old x o hx hn) hn, hs.glob, ?_⟩, Nat.le_refl _, rfl, rfl, rfl, fun _ _ _ => rfl, ?_⟩
  · intro x y o1 o2 m1 m2 hx hy hw1 hl2 h1 h2 hne
    exact hs.inj x y o1 o2 m1 m2 (old x o1 hx (LObj.live_of_wr hw1)) (old y o2 hy hl2) hw1 hl2 h1 h2 hne
  · rintro rb ⟨x, o, m, hx, hw, hm, rfl⟩ _
    exact ⟨x, o, m, old x o hx (LObj.live_of_wr hw), hw, hm, rfl⟩
/-- Of the blocks that there were none stands anywhere else. -/
def Old (ι : Inj) (h : Heap) (ι' : Inj) : Prop := ∀ b, b < h.length → ι' b = ι b
theorem Old.refl (ι : Inj) (h : Heap) : Old ι h ι := fun _ _ => rfl
theorem Old.put (ι : Inj) (h : Heap) (m : Img) : Old ι h (ι.put h.length m) := fun b hb => Inj.put_ne m (Nat.ne_of_lt hb)
def Does (P : Program) (ι : Inj) (h : Heap) (a : Act) (o : Oper) (v : Value) (h' : Heap) (w : World) : Prop :=
  ∃ ι' w' nx, (execOp a.eval o).run P w = .ok nx w' ∧ St P ι h w ι' h' w' ∧ Old ι h ι' ∧ (nx = .skip ∧ v = undef ∨ ∃ v', nx = .value v' ∧ VR ι' v v')
theorem All2.modify {α β : Type} {R : α → β → Prop} {l : List α} {m : List β} (h : All2 R l m) (j : Nat) {a : α} {g : β → β} (hr : ∀ b, m[j]? = some b → R a (g b)) : All2 R (l.set j a) (m.modify j g) := by
  refine All2.of_at (by simp [h.length]) fun i x y hx hy => ?_
  rw [List.getElem?_modify] at hy
  by_cases e : j = i
  · subst e
    have hl : j < l.length := by have := (List.getElem?_eq_some_iff.1 hx).1; simpa using this
    rw [List.getElem?_set_self hl] at hx; cases hx
    simp only [if_true, Option.map_eq_map, Option.map_eq_some_iff] at hy
    obtain ⟨b, hb, rfl⟩ := hy
    exact hr b hb
  · rw [List.getElem?_set_ne e] at hx
    simp [e] at hy
    obtain ⟨b, hb, hR⟩ := h.at_ hx
    rw [hy] at hb; cases hb; exact hR
theorem All2.eraseIdx {α β : Type} {R : α → β → Prop} {l : List α} {m : List β} (h : All2 R l m) : ∀ (j : Nat), All2 R (l.eraseIdx j) (m.eraseIdx j) := by
  induction h with
  | nil => intro j; simpa using All2.nil
  | cons h1 t ih =>
    intro j
    cases j with
    | zero => simpa using t
    | succ j => simpa using All2.cons h1 (ih j)
/-! ### Maps -/
def scalar : Value → Bool
  | .int _ _ | .string _ | .bool _ => true
  | _ => false
theorem sameS_scalar {k : SK} {x y : Value} {b : Bool} (h : sameS k x y = some b) : scalar x = true := by
  unfold sameS at h
  split at h <;> first | (cases h; done) | rfl
theorem sameA_scalar {k : SK} : ∀ {n : Nat} {xs ys : List Value} {b : Bool}, sameA k n xs ys = some b → xs.all scalar = true
  | 0, xs, ys, b, h => by unfold sameA at h; split at h <;> first | (cases h; done) | contradiction | rfl
  | n + 1, [], ys, b, h => by simp [sameA] at h
  | n + 1, x :: xs, [], b, h => by simp [sameA] at h
  | n + 1, x :: xs, y :: ys, b, h => by
    simp only [sameA, Option.bind_eq_some_iff, Option.map_eq_some_iff] at h
    obtain ⟨c, hc, d, hd, _⟩ := h
    simp [sameS_scalar hc, sameA_scalar hd]
theorem sameF_scalar : ∀ {l : List FK} {xs ys : List Value} {b : Bool}, sameF l xs ys = some b → xs.all scalar = true
  | [], xs, ys, b, h => by unfold sameF at h; split at h <;> first | (cases h; done) | contradiction | rfl
  | .one k :: r, [], ys, b, h => by simp [sameF] at h
  | .one k :: r, x :: xs, [], b, h => by simp [sameF] at h
  | .one k :: r, x :: xs, y :: ys, b, h => by
    simp only [sameF, Option.bind_eq_some_iff, Option.map_eq_some_iff] at h
    obtain ⟨c, hc, d, hd, _⟩ := h
    simp [sameS_scalar hc, sameF_scalar hd]
  | .arr n k :: r, xs, ys, b, h => by
    simp only [sameF, Option.bind_eq_some_iff, Option.map_eq_some_iff] at h
    obtain ⟨c, hc, d, hd, _⟩ := h
    have h1 := sameA_scalar hc
    have h2 := sameF_scalar hd
    rw [← List.take_append_drop n xs, List.all_append, h1, h2]; rfl
theorem ba_eq {a b : ByteArray} : (a == b) = true ↔ a = b := by
  obtain ⟨a⟩ := a
  obtain ⟨b⟩ := b
  have : ((⟨a⟩ : ByteArray) == ⟨b⟩) = (a == b) := rfl
  rw [this, beq_iff_eq]
  exact ⟨fun h => by rw [h], fun h => by cases h; rfl⟩
theorem sameS_true {k : SK} {x y : Value} (h : sameS k x y = some true) : x = y := by
  unfold sameS at h
  split at h <;> first | (cases h; done) | skip
  · split at h
    · rename_i e; simp only [Option.some.injEq, beq_iff_eq] at h; rw [e, h]
    · cases h
  · simp only [Option.some.injEq] at h; rw [ba_eq.1 h]
  · simp only [Option.some.injEq, beq_iff_eq] at h; rw [h]
theorem sameA_true {k : SK} : ∀ {n : Nat} {xs ys : List Value}, sameA k n xs ys = some true → xs = ys
  | 0, xs, ys, h => by unfold sameA at h; split at h <;> first | (cases h; done) | contradiction | rfl
  | n + 1, [], ys, h => by simp [sameA] at h
  | n + 1, x :: xs, [], h => by simp [sameA] at h
  | n + 1, x :: xs, y :: ys, h => by
    simp only [sameA, Option.bind_eq_some_iff, Option.map_eq_some_iff, Bool.and_eq_true] at h
    obtain ⟨c, hc, d, hd, rfl, rfl⟩ := h
    rw [sameS_true hc, sameA_true hd]
theorem sameF_true : ∀ {l : List FK} {xs ys : List Value}, sameF l xs ys = some true → xs = ys
  | [], xs, ys, h => by unfold sameF at h; split at h <;> first | (cases h; done) | contradiction | rfl
  | .one k :: r, [], ys, h => by simp [sameF] at h
  | .one k :: r, x :: xs, [], h => by simp [sameF] at h
  | .one k :: r, x :: xs, y :: ys, h => by
    simp only [sameF, Option.bind_eq_some_iff, Option.map_eq_some_iff, Bool.and_eq_true] at h
    obtain ⟨c, hc, d, hd, rfl, rfl⟩ := h
    rw [sameS_true hc, sameF_true hd]
  | .arr n k :: r, xs, ys, h => by
    simp only [sameF, Option.bind_eq_some_iff, Option.map_eq_some_iff, Bool.and_eq_true] at h
    obtain ⟨c, hc, d, hd, rfl, rfl⟩ := h
    rw [← List.take_append_drop n xs, ← List.take_append_drop n ys, sameA_true hc, sameF_true hd]
theorem sameKey_true {q : EqK} {k x : Value} (h : sameKey q k x = some true) : x = k ∧ Instr.sameBits 10000 k k = true := by
  have sc : ∀ (n : Nat) v, scalar v = true → Instr.sameBits n v v = true := by
    intro n v hv
    cases v <;> first | (simp [scalar] at hv; done) | (cases n <;> simp [Instr.sameBits, ba_eq])
  unfold sameKey at h
  split at h
  · exact ⟨(sameS_true h).symm, sc _ _ (sameS_scalar h)⟩
  · exact ⟨(sameS_true h).symm, sc _ _ (sameS_scalar h)⟩
  · rename_i xs ys
    have e := sameF_true h
    have e2 : xs = ys := Array.ext' e
    subst e2
    refine ⟨rfl, ?_⟩
    have hall := sameF_scalar h
    have : Instr.sameBits (9999 + 1) (.agg xs) (.agg xs) = (xs.size == xs.size && (xs.toList.zip xs.toList).all fun (x, y) => Instr.sameBits 9999 x y) := rfl
    rw [this]
    simp only [beq_self_eq_true, Bool.true_and]
    rw [List.all_eq_true] at hall ⊢
    rintro ⟨u, v⟩ huv
    have : u = v ∧ u ∈ xs.toList := by
      have hz : ∀ l : List Value, (u, v) ∈ l.zip l → u = v ∧ u ∈ l := by
        intro l
        induction l with
        | nil => simp
        | cons y l ih =>
          intro hm
          simp only [List.zip_cons_cons, List.mem_cons, Prod.mk.injEq] at hm
          rcases hm with ⟨rfl, rfl⟩ | hm
          · exact ⟨rfl, by simp⟩
          · exact ⟨(ih hm).1, by simp [(ih hm).2]⟩
      exact hz _ huv
    obtain ⟨rfl, hu⟩ := this
    exact sc _ _ (hall u hu)
  · cases h
theorem run_setObj {rb : Nat} {o o' : Obj} (hw : w.heap[rb]? = some o) (ho : ∀ c t f, o ≠ .cells c t f) : (setObj rb o').run P w = .ok () { w with heap := w.heap.setIfInBounds rb o' } := by
  cases o with
  | cells c t f => exact absurd rfl (ho c t f)
  | _ => simp only [setObj, Sem.run, hw]
theorem write_map (hs : Sim P ι h w) {b : Nat} {es es2 : List (Value × Value)} {m : Img} (hb : h[b]? = some (.map es)) (hm : ι b = some m) {es2' : Array MapEntry} {clock : Nat}
    (he : All2 (fun e (e' : MapEntry) => e.1 = e'.key ∧ VR ι e.2 e'.val) es2 es2'.toList) : ∃ w', (setObj m.rb (.map es2' clock)).run P w = .ok () w' ∧ St P ι h w ι (h.set b (.map es2)) w' := by
  obtain ⟨m', hm', hr⟩ := hs.obj _ _ hb (by simp)
  rw [hm] at hm'; cases hm'
  cases hr with
  | map hw he' =>
    have hl := (Array.getElem?_eq_some_iff.1 hw).1
    refine ⟨_, run_setObj hw (by simp), St.write hs hb rfl hm (by simp) (fun rb hn => ?_) rfl rfl rfl (fun _ => .map (es' := es2') (clock := clock) ?_ he) (.inl rfl)⟩
    · simp only [Array.getElem?_setIfInBounds_ne (Ne.symm hn)]
    · simp [hl]
section
variable {sz : Nat} {f : FF} {a : Act} {o : Oper} {q : O} {v : Value} {h' : Heap} {ws : List Nat}
theorem e_mup {t kt e : TypeId} {m k x : Operand} {qk : EqK} (hs : Sim P ι h w) (hu : P.underlying t = some (.map kt e)) (hq : keyK P kt = some qk) (hf : FFR ι sz f a.tmps) (ho : o.op = .mapUpdate t m k x)
    {m' k' x' : X} (hm : cX m = some m') (hk : cX k = some k') (hx : cX x = some x') (hv : effV f h (.mup qk m' k' x') = some (v, h', ws)) : Does P ι h a o v h' w := by
  have rm := ev_rel hf hm
  have rk := ev_rel hf hk
  have rx := ev_rel hf hx
  simp only [effV] at hv
  split at hv
  · rename_i rb e1
    rw [e1] at rm
    obtain ⟨mi, hmi, hrm⟩ := rm.map_inv
    split at hv
    · rename_i es hb
      split at hv
      · rename_i hkey
        simp only [Option.map_eq_some_iff, Prod.mk.injEq] at hv
        obtain ⟨es2, hput, rfl, rfl, rfl⟩ := hv
        have ek := key_same hkey rk
        obtain ⟨m2, hm2, hobj⟩ := hs.obj _ _ hb (by simp)
        rw [hmi] at hm2; cases hm2
        cases hobj with
        | map hw he =>
          rename_i es' clock
          have hget : (getObj mi.rb).run P w = .ok (.map es' clock) w := by simp [getObj, Sem.run, hw]
          have hck := run_checkKey hq hkey false w
          have hf2 : ∃ r, find qk (ev f k') es = some r := by
            have : ∀ (l : List (Value × Value)) l2 u, putE qk (ev f k') u l = some l2 → ∃ r, find qk (ev f k') l = some r := by
              intro l
              induction l with
              | nil => intro l2 u _; exact ⟨none, rfl⟩
              | cons p l ih =>
                intro l2 u hp
                simp only [putE, Option.bind_eq_some_iff] at hp
                obtain ⟨b, hb, hp⟩ := hp
                cases b with
                | true => exact ⟨some p.2, by simp [find, hb]⟩
                | false =>
                  simp only [Bool.false_eq_true, if_false, Option.map_eq_some_iff] at hp
                  obtain ⟨l3, h3, _⟩ := hp
                  obtain ⟨r, hr⟩ := ih l3 u h3
                  exact ⟨r, by simp [find, hb, hr]⟩
            exact this es es2 _ hput
          obtain ⟨r, hr⟩ := hf2
          rcases run_findKey hq hkey he hr w with ⟨rfl, h1, h2, _⟩ | ⟨v0, j, v', rfl, h1, h2, h3, h4, _, e0, h5, h6⟩
          · rw [h2] at hput
            simp only [Option.some.injEq] at hput
            obtain ⟨w', s1, s2⟩ := write_map hs hb hmi (es2 := es2) (es2' := es'.push { key := ev f k', val := a.eval x, born := clock }) (clock := clock + 1) (by
              rw [← hput, Array.toList_push]; exact he.append (.cons ⟨rfl, rx⟩ .nil))
            refine ⟨ι, w', .skip, ?_, s2, Old.refl _ _, .inl ⟨rfl, rfl⟩⟩
            simp only [execOp, ho, hrm, ek]
            refine run_u _ ?_
            simp only [Instr.mapUpdate, Sem.run_bind, run_underlying hu, Result.andThen_ok, hget, hck, h1, s1]
          · rw [h4] at hput
            simp only [Option.some.injEq] at hput
            obtain ⟨e5, e6⟩ := sameKey_true h6
            obtain ⟨w', s1, s2⟩ := write_map hs hb hmi (es2 := es2) (es2' := es'.modify j fun e => { e with key := ev f k', val := a.eval x }) (clock := clock) (by
              rw [← hput, Array.toList_modify]; exact he.modify j fun b hb => ⟨rfl, rx⟩)
            refine ⟨ι, w', .skip, ?_, s2, Old.refl _ _, .inl ⟨rfl, rfl⟩⟩
            have hold : ((es'[j]?).map (·.key)).getD (ev f k') = ev f k' := by
              have : es'[j]? = some e0 := by rw [← h5]; simp
              rw [this]; exact e5
            simp only [execOp, ho, hrm, ek]
            refine run_u _ ?_
            simp only [Instr.mapUpdate, Sem.run_bind, run_underlying hu, Result.andThen_ok, hget, hck, h1, hold, Instr.keyThatStays, e6, if_true, Sem.run_pure, s1]
      · cases hv
    · cases hv
  · cases hv
end
end Go.L
