/- HEAPS THAT GROW; SLICES OF ONE's OWN: append, stores; maps keyed by whole numbers. -/
import Derived.Test.YtafbiejbnbocoaaDoorV4
set_option linter.unusedVariables false
set_option linter.unusedSimpArgs false
namespace Go.L
open Go
def Pre (h h' : Heap) : Prop := ∀ (b : Nat) (o : LObj), h[b]? = some o → h'[b]? = some o
theorem Pre.refl (h : Heap) : Pre h h := fun _ _ h => h
theorem Pre.trans {a b c : Heap} (h : Pre a b) (k : Pre b c) : Pre a c := fun x o e => k x o (h x o e)
theorem Pre.app (h l : Heap) : Pre h (h ++ l) := fun b o hb => by rw [List.getElem?_append_left (List.getElem?_eq_some_iff.1 hb).1]; exact hb
theorem Pre.app' {h h' : Heap} (p : Pre h h') (l : Heap) : Pre h (h' ++ l) := p.trans (Pre.app h' l)
theorem Pre.set {h h' : Heap} (p : Pre h h') {b : Nat} (hb : h.length ≤ b) (o : LObj) : Pre h (h'.set b o) := fun x y e => by
  have := (List.getElem?_eq_some_iff.1 e).1
  rw [gets (by omega)]; exact p x y e
theorem Pre.le {h h' : Heap} (p : Pre h h') : h.length ≤ h'.length := by
  rcases Nat.lt_or_ge h'.length h.length with hl | hl
  · have := p h'.length h[h'.length] (List.getElem?_eq_getElem hl)
    rw [List.getElem?_eq_none (Nat.le_refl _)] at this; cases this
  · exact hl
theorem Pre.ex {h h' : Heap} (p : Pre h h') : ∃ ys, h' = h ++ ys := by
  refine ⟨h'.drop h.length, ?_⟩
  apply List.ext_getElem?
  intro i
  rcases Nat.lt_or_ge i h.length with hi | hi
  · rw [List.getElem?_append_left hi, List.getElem?_eq_getElem hi]; exact p _ _ (List.getElem?_eq_getElem hi)
  · rw [List.getElem?_append_right hi, List.getElem?_drop]; congr 1; omega
theorem Row.pre {sz : Nat} {h h' : Heap} {v : Value} {L : List (List Value)} (r : Row sz h v L) (p : Pre h h') : Row sz h' v L := r.ext fun b o hb _ => p b o hb
namespace Rd
variable {α : Type} {sz : Nat} {enc : α → List Value} {h h' : Heap} {v : Value} {l : List α}
theorem pre (r : Rd sz enc h v l) (p : Pre h h') : Rd sz enc h' v l := Row.pre r p
theorem ldx [Inhabited α] (r : Rd sz enc h v l) (x : Heap) (i : Int) (fo : Nat) (h1 : 0 ≤ i) (h2 : i < l.length) (hf : fo < sz) : ldO (h ++ x)[blk v]? (ofs v + i.toNat * sz + fo) none = some ((enc (atI l i)).getD fo undef) := (r.app x).ld i fo h1 h2 hf
theorem ldx0 [Inhabited α] (r : Rd sz enc h v l) (x : Heap) (i : Int) (h1 : 0 ≤ i) (h2 : i < l.length) (hf : 0 < sz) : ldO (h ++ x)[blk v]? (ofs v + i.toNat * sz) none = some ((enc (atI l i)).getD 0 undef) := (r.app x).ld0 i h1 h2 hf
theorem ldxa [Inhabited α] (r : Rd sz enc h v l) (x : Heap) (i : Int) (h1 : 0 ≤ i) (h2 : i < l.length) (hf : 0 < sz) : ldO (h ++ x)[blk v]? (ofs v + i.toNat * sz) (some sz) = some (.agg (enc (atI l i)).toArray) := (r.app x).lda i h1 h2 hf
theorem sls_hi (r : Rd sz enc h v l) {k : IntKind} {n : Int} (h1 : 0 ≤ n) (h2 : n ≤ l.length) : ∃ v', slsV sz v none (some (.int k n)) none = some v' ∧ Rd sz enc h v' (l.take n.toNat) ∧ blk v' = blk v ∧ (v = .slice none 0 0 → v' = .slice none 0 0) := by
  obtain ⟨v', e1, e2, e3⟩ := Row.sls_hi r (k := k) h1 (by simpa using h2)
  exact ⟨v', e1, by unfold Rd; rw [List.map_take]; exact e2, e3⟩
theorem cells (r : Rd sz enc h v l) : cellsOf sz v h = some (l.length, (l.map enc).flatten) := by rw [Row.cells r]; simp
end Rd
def cellO (sz off n : Nat) : Option LObj → Option (Nat × List Value)
  | some (.cells c _) => if off + n * sz ≤ c.length then some (n, (c.drop off).take (n * sz)) else none
  | _ => none
theorem cellsOf_some {sz n c : Nat} {a : Addr} {h : Heap} : cellsOf sz (.slice (some a) n c) h = cellO sz a.off n h[a.block]? := by
  simp only [cellsOf]; cases h[a.block]? with
  | none => rfl
  | some o => cases o <;> rfl
theorem cellO_cells {sz off n : Nat} {c : List Value} {ro : Bool} : cellO sz off n (some (.cells c ro)) = if off + n * sz ≤ c.length then some (n, (c.drop off).take (n * sz)) else none := rfl
inductive Own (m : Nat) (sz : Nat) (h : Heap) : Value → List (List Value) → Prop
  | nil : Own m sz h (.slice none 0 0) []
  | some {b : Nat} {L : List (List Value)} (hm : m ≤ b) (hb : h[b]? = some (.cells L.flatten false)) (hs : ∀ e ∈ L, e.length = sz) (hf : L.length < 1152921504606846976) (hn : L ≠ []) : Own m sz h (.slice (some ⟨b, 0, some sz⟩) L.length L.length) L
theorem flat_len {sz : Nat} : ∀ {L : List (List Value)}, (∀ e ∈ L, e.length = sz) → L.flatten.length = L.length * sz
  | [], _ => by simp
  | x :: r, h => by
    rw [List.flatten_cons, List.length_append, flat_len (fun e he => h e (by simp [he])), h x (by simp), List.length_cons, Nat.succ_mul]; omega
namespace Own
variable {m sz : Nat} {h h' : Heap} {v : Value} {L : List (List Value)}
theorem row (o : Own m sz h v L) : Row sz h v L := by
  cases o with
  | nil => exact ⟨by simp, by simp, .inl ⟨rfl, rfl⟩⟩
  | some hm hb hs hf => exact ⟨hs, hf, .inr ⟨_, 0, _, _, _, _, rfl, hb, by rw [flat_len hs]; omega, by rw [List.drop_zero, ← flat_len hs, List.take_length], Nat.le_refl _, .inr rfl⟩⟩
theorem pre (o : Own m sz h v L) (p : Pre h h') : Own m sz h' v L := by
  cases o with
  | nil => exact .nil
  | some hm hb hs hf hn => exact .some hm (p _ _ hb) hs hf hn
theorem app (o : Own m sz h v L) (l : Heap) : Own m sz (h ++ l) v L := o.pre (Pre.app h l)
theorem keep (o : Own m sz h v L) (hk : L ≠ [] → h'[blk v]? = h[blk v]?) : Own m sz h' v L := by
  cases o with
  | nil => exact .nil
  | some hm hb hs hf hn => exact .some hm (by have := hk hn; simp only [blk] at this; rw [this]; exact hb) hs hf hn
theorem set (o : Own m sz h v L) {b : Nat} {x : LObj} (hb : L ≠ [] → b ≠ blk v) : Own m sz (h.set b x) v L :=
  o.keep fun hn => gets (hb hn)
theorem ge (o : Own m sz h v L) (hn : L ≠ []) : m ≤ blk v := by
  cases o with
  | nil => exact absurd rfl hn
  | some hm => exact hm
theorem lt (o : Own m sz h v L) (hn : L ≠ []) : blk v < h.length := by
  cases o with
  | nil => exact absurd rfl hn
  | some hm hb => exact (List.getElem?_eq_some_iff.1 hb).1
theorem append (o : Own m sz h v L) (hmh : m ≤ h.length) {bytes : Nat} {x : Value} {X : List (List Value)} (hx : cellsOf sz x h = Option.some (X.length, X.flatten)) (hX : X ≠ []) (hs : ∀ e ∈ X, e.length = sz) (hsz : sz ≠ 0) (hby : bytes ≠ 0)
    (hb : (L.length + X.length) * bytes ≤ 140737488355328) : ∃ h' ws v', appendV sz bytes v x h = .some (v', h', ws) ∧ (∀ b ∈ ws, m ≤ b) ∧ Own m sz h' v' (L ++ X) ∧ blk v' = h.length ∧ h'.length = h.length + 1 ∧ ∀ b, b < h.length → (L ≠ [] → b ≠ blk v) → h'[b]? = h[b]? := by
  have hle : L.length + X.length ≤ (L.length + X.length) * bytes := Nat.le_mul_of_pos_right _ (by omega)
  have hXn : X.length ≠ 0 := by intro e; exact hX (List.length_eq_zero_iff.1 e)
  have hsLX : ∀ e ∈ L ++ X, e.length = sz := by
    intro e he
    rcases List.mem_append.1 he with he | he
    · exact o.row.size e he
    · exact hs e he
  have hcond : (L.length + X.length) * bytes ≤ 140737488355328 ∧ L.length + X.length < 4611686018427387904 ∧ sz ≠ 0 ∧ bytes ≠ 0 := ⟨hb, by omega, hsz, hby⟩
  cases o with
  | nil =>
    refine ⟨h ++ [.cells X.flatten false], [], .slice (.some ⟨h.length, 0, .some sz⟩) X.length X.length, ?_, (fun b hb => nomatch hb), ?_, rfl, by simp, fun b hlt _ => List.getElem?_append_left hlt⟩
    · simp only [List.length_nil, Nat.zero_add] at hcond
      have hc : cellsOf sz (.slice none 0 0) h = Option.some (0, []) := rfl
      simp only [appendV, hx, hc, if_true, hXn, if_false, Nat.zero_add, hcond, and_self, ne_eq, not_false_eq_true, List.nil_append]
    · simp only [List.nil_append]
      exact .some hmh (by rw [geta0]; rfl) hs (by simp at hb hle; omega) hX
  | some hm hb' hsL hf hn =>
    rename_i b
    have hlt := (List.getElem?_eq_some_iff.1 hb').1
    refine ⟨h.set b .dead ++ [.cells (L.flatten ++ X.flatten) false], [b], .slice (.some ⟨h.length, 0, .some sz⟩) (L.length + X.length) (L.length + X.length), ?_, fun x hx => by rw [List.mem_singleton.1 hx]; exact hm, ?_, rfl, by simp, fun x hlt' hne => ?_⟩
    · have hc : cellsOf sz (.slice (.some ⟨b, 0, .some sz⟩) L.length L.length) h = .some (L.length, L.flatten) := by
        rw [cellsOf_some, hb', cellO_cells, flat_len hsL, if_pos (by show 0 + _ ≤ _; omega), List.drop_zero, ← flat_len hsL, List.take_length]
      simp only [appendV, hx, hc, hXn, if_false, hcond, and_self, if_true, hb', ne_eq, not_false_eq_true]
    · rw [← List.length_append]
      refine .some hmh ?_ hsLX (by rw [List.length_append]; omega) (by simp [hX])
      rw [List.getElem?_append_right (by simp), List.length_set, Nat.sub_self, List.flatten_append]; rfl
    · have := hne hn
      simp only [blk] at this
      rw [List.getElem?_append_left (by simpa using hlt'), gets (Ne.symm this)]
end Own
theorem wx_append {W : Nat → Prop} {m sz : Nat} {h : Heap} {v : Value} {L : List (List Value)} (o : Own m sz h v L) (hmh : m ≤ h.length) (hW : ∀ b, m ≤ b → W b) {bytes : Nat} {x : Value} (X : List (List Value)) {Q : Value → Heap → Prop}
    (hx : cellsOf sz x h = some (X.length, X.flatten)) (hX : X ≠ []) (hs : ∀ e ∈ X, e.length = sz) (hsz : sz ≠ 0) (hby : bytes ≠ 0) (hb : (L.length + X.length) * bytes ≤ 140737488355328)
    (hq : ∀ v' h', Own m sz h' v' (L ++ X) → blk v' = h.length → h'.length = h.length + 1 → (∀ b, b < h.length → (L ≠ [] → b ≠ blk v) → h'[b]? = h[b]?) → Q v' h') : WX W (appendV sz bytes v x h) Q := by
  obtain ⟨h', ws, v', h1, h2, h3, h4, h5, h6⟩ := o.append hmh hx hX hs hsz hby hb
  exact ⟨v', h', ws, h1, fun b hb => hW b (h2 b hb), hq v' h' h3 h4 h5 h6⟩
theorem Pre.of_keep {m : Nat} {h0 h h' : Heap} {v : Value} {L : List (List Value)} {sz : Nat} (p : Pre h0 h) (hl : h0.length ≤ m) (o : Own m sz h v L) (hk : ∀ b, b < h.length → (L ≠ [] → b ≠ blk v) → h'[b]? = h[b]?) : Pre h0 h' := fun b x hb => by
  have h1 := (List.getElem?_eq_some_iff.1 hb).1
  have h2 := p b x hb
  rw [hk b (by have := p.le; omega) fun hn => by have := o.ge hn; omega]; exact h2
theorem setCells1 {c : List Value} {o : Nat} {v : Value} : setCells c o [v] = c.set o v := rfl
theorem flat_set {sz : Nat} : ∀ {L : List (List Value)} (hs : ∀ e ∈ L, e.length = sz) (i fo : Nat) (v : Value), i < L.length → fo < sz → L.flatten.set (i * sz + fo) v = (L.set i ((L.getD i []).set fo v)).flatten
  | [], _, i, _, _, hi, _ => by simp at hi
  | x :: r, hs, i, fo, v, hi, hf => by
    have hx : x.length = sz := hs x (by simp)
    cases i with
    | zero =>
      simp only [Nat.zero_mul, Nat.zero_add, List.flatten_cons, List.getD_cons_zero, List.set_cons_zero]
      rw [List.set_append_left _ _ (by omega)]
    | succ i =>
      have e : (i + 1) * sz + fo = x.length + (i * sz + fo) := by rw [hx, Nat.succ_mul]; omega
      rw [List.flatten_cons, e, List.set_append_right _ _ (by omega), Nat.add_sub_cancel_left, List.getD_cons_succ, List.set_cons_succ, List.flatten_cons, flat_set (fun e he => hs e (by simp [he])) i fo v (by simpa using hi) hf]
def IKeys (k : IntKind) (es : List (Value × Value)) : Prop := ∀ e ∈ es, ∃ n, e.1 = .int k n
def mapI (k : IntKind) : List (Value × Value) → Int → Option Value
  | [], _ => none
  | (.int _ a, v) :: r, n => if n = a then some v else mapI k r n
  | _ :: r, n => mapI k r n
theorem find_int {k : IntKind} : ∀ {es : List (Value × Value)}, IKeys k es → ∀ n, find .int (.int k n) es = some (mapI k es n)
  | [], _, _ => rfl
  | (x, v) :: r, hk, n => by
    obtain ⟨a, rfl⟩ := hk (x, v) (by simp)
    have ih := find_int (es := r) (fun e he => hk e (by simp [he])) n
    simp only [find, sameKey, sameS, if_true, Option.bind_some, mapI]
    by_cases h : n = a
    · simp [h]
    · have : (n == a) = false := by simpa using h
      simp [h, this, ih]
theorem put_int {k : IntKind} (v : Value) : ∀ {es : List (Value × Value)}, IKeys k es → ∀ n, ∃ es', putE .int (.int k n) v es = some es' ∧ IKeys k es' ∧ ∀ j, mapI k es' j = if j = n then some v else mapI k es j
  | [], _, n => ⟨_, rfl, fun e he => by rw [List.mem_singleton.1 he]; exact ⟨n, rfl⟩, fun j => rfl⟩
  | (x, u) :: r, hk, n => by
    obtain ⟨a, rfl⟩ := hk (x, u) (by simp)
    obtain ⟨es', h1, h2, h3⟩ := put_int v (es := r) (fun e he => hk e (by simp [he])) n
    by_cases h : n = a
    · subst h
      refine ⟨(.int k n, v) :: r, by simp [putE, sameKey, sameS], fun e he => ?_, fun j => ?_⟩
      · rcases List.mem_cons.1 he with rfl | he
        · exact ⟨n, rfl⟩
        · exact hk e (by simp [he])
      · simp only [mapI]; split <;> rfl
    · have hb : (n == a) = false := by simpa using h
      refine ⟨(.int k a, u) :: es', by simp [putE, sameKey, sameS, hb, h1], fun e he => ?_, fun j => ?_⟩
      · rcases List.mem_cons.1 he with rfl | he
        · exact ⟨a, rfl⟩
        · exact h2 e he
      · simp only [mapI, h3]
        by_cases hj : j = a
        · subst hj; rw [if_pos rfl, if_pos rfl, if_neg (by omega)]
        · rw [if_neg hj, if_neg hj]
theorem key_int {k : IntKind} {n : Int} : keyV .int (.int k n) = true := by simp [keyV, sameKey, sameS]
end Go.L
