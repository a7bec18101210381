/- THE LOGICAL MACHINE: a statement whose order is open: instructions that may come either way round. -/
import Derived.Test.YtdklgcjbjphadaaK
set_option linter.unusedVariables false
set_option linter.unusedSimpArgs false
namespace Go.L
open Go
/-! ### What an instruction looks at -/
theorem xSlots_mem {s : Nat} : ∀ {l : List X}, X.t s ∈ l → s ∈ xSlots l
  | [], h => by cases h
  | x :: l, h => by
    rcases List.mem_cons.1 h with e | h2
    · subst e; simp [xSlots]
    · have ih : s ∈ xSlots l := xSlots_mem h2
      cases x with
      | t k => simp only [xSlots]; exact List.mem_cons_of_mem _ ih
      | c v => exact ih
      | f g => exact ih
theorem ev_congr {f f' : FF} {l : List X} (h : ∀ s ∈ xSlots l, f s = f' s) : ∀ x ∈ l, ev f x = ev f' x := by
  intro x hx
  cases x with
  | t s => exact h s (xSlots_mem hx)
  | c v => rfl
  | f g => rfl
theorem map_ev {f f' : FF} {l : List X} (h : ∀ x ∈ l, ev f x = ev f' x) : l.map (ev f) = l.map (ev f') := List.map_congr_left h
theorem fillC_congr {f f' : FF} : ∀ {ps : List (Nat × Nat × X)} (h : ∀ x ∈ ps.map (fun p => p.2.2), ev f x = ev f' x) (c : List Value), fillC f ps c = fillC f' ps c
  | [], h, c => rfl
  | (o, n, x) :: ps, h, c => by
    have h1 : ev f x = ev f' x := h x (by simp)
    simp only [fillC, h1]
    rw [fillC_congr (fun y hy => h y (by simp at hy ⊢; exact .inr hy))]
theorem bound_congr {f f' : FF} {x : Option X} (h : ∀ y ∈ oX x, ev f y = ev f' y) (d k : Nat) : bound f x d k = bound f' x d k := by
  cases x with
  | none => rfl
  | some x => simp only [bound, h x (by simp [oX])]
theorem pure_congr {f f' : FF} {o : O} (h : ∀ x ∈ o.xs, ev f x = ev f' x) : pureV f o = pureV f' o := by
  cases o <;> simp only [O.xs, List.mem_cons, List.mem_append, List.not_mem_nil, or_false, forall_eq_or_imp, forall_eq] at h <;> simp only [pureV]
  case bld z ps => rw [fillC_congr h]
  case slt x lo hi =>
    simp only [h.1, bound_congr (x := lo) (fun y hy => h.2 y (.inl hy)), bound_congr (x := hi) (fun y hy => h.2 y (.inr hy))]
  case sla n s x lo hi =>
    simp only [h.1, bound_congr (x := lo) (fun y hy => h.2 y (.inl hy)), bound_congr (x := hi) (fun y hy => h.2 y (.inr hy))]
  case sls s x lo hi mx =>
    have e1 : ∀ d k, bound f lo d k = bound f' lo d k := bound_congr (fun y hy => h.2 y (.inl (.inl hy)))
    have e2 : ∀ d k, bound f hi d k = bound f' hi d k := bound_congr (fun y hy => h.2 y (.inl (.inr hy)))
    have e3 : ∀ d k, bound f mx d k = bound f' mx d k := bound_congr (fun y hy => h.2 y (.inr hy))
    simp only [h.1, sliceS, e1, e2, e3]
  case mkf fn a b => rw [map_ev (fun x hx => h x (.inl hx)), map_ev (fun x hx => h x (.inr hx))]
  case min x r => rw [h.1, map_ev h.2]
  case max x r => rw [h.1, map_ev h.2]
  all_goals simp only [h]
theorem mem_congr {f f' : FF} {o : O} {hp : Heap} (h : ∀ x ∈ o.xs, ev f x = ev f' x) : memV f hp o = memV f' hp o ∧ memX f o = memX f' o := by
  cases o <;> simp only [O.xs, List.mem_cons, List.mem_append, List.not_mem_nil, or_false, forall_eq_or_imp, forall_eq] at h <;> simp only [memV, memX] <;> simp only [h, and_self]
theorem new_congr {f f' : FF} {o : O} (h : ∀ x ∈ o.xs, ev f x = ev f' x) : newV f o = newV f' o := by
  cases o <;> simp only [O.xs, List.mem_cons, List.mem_append, List.not_mem_nil, or_false, forall_eq_or_imp, forall_eq] at h <;> simp only [newV]
  case bsl s z n ps => rw [fillC_congr h]
  all_goals simp only [h]
theorem eff_congr {f f' : FF} {o : O} {hp : Heap} (h : ∀ x ∈ o.xs, ev f x = ev f' x) : effV f hp o = effV f' hp o := by
  cases o <;> simp only [O.xs, List.mem_cons, List.mem_append, List.not_mem_nil, or_false, forall_eq_or_imp, forall_eq] at h <;> simp only [effV] <;> simp only [h]
theorem opD_congr {cf : CallT} {m : Nat} {f f' : FF} {hp : Heap} {i : Ins} (h : ∀ s ∈ i.slots, f s = f' s) : opD cf m f hp i = opD cf m f' hp i ∧ wanted f i.g = wanted f' i.g := by
  have hx : ∀ x ∈ i.o.xs, ev f x = ev f' x := ev_congr fun s hs => h s (List.mem_append_right _ hs)
  constructor
  · unfold opD
    rw [pure_congr hx, (mem_congr (hp := hp) hx).1, (mem_congr (hp := hp) hx).2, new_congr hx, eff_congr hx]
    obtain ⟨d, g, o, fl, rk⟩ := i
    cases o <;> first | rfl | skip
    case st n a v =>
      simp only [O.xs, List.mem_cons, List.not_mem_nil, or_false, forall_eq_or_imp, forall_eq] at hx
      simp only [hx]
    case call g args =>
      simp only [O.xs, List.mem_cons, forall_eq_or_imp] at hx
      simp only [hx.1, map_ev hx.2]
  · cases hg : i.g with
    | none => rfl
    | some p =>
      obtain ⟨d, want⟩ := p
      have : f d = f' d := h d (by simp [Ins.slots, hg])
      simp only [wanted, this]
/-! ### One step -/
def stepD (cf : CallT) (m : Nat) (i : Ins) (f : FF) (h : Heap) : Option (FF × Heap × List Nat) :=
  match wanted f i.g with
  | some true => match opD cf m f h i with
    | some (v, h', ws) => some (putD f i.d v, h', ws)
    | none => none
  | some false => some (putD f i.d undef, h, [])
  | none => none
theorem addw_nil' {α : Type} (x : Option (α × Heap × List Nat)) : addw [] x = x := by
  cases x with
  | none => rfl
  | some r => rfl
theorem runD_cons (cf : CallT) (m : Nat) (i : Ins) (r : List Ins) (f : FF) (h : Heap) :
    runD cf m (i :: r) f h = match stepD cf m i f h with | some (f', h', ws) => addw ws (runD cf m r f' h') | none => none := by
  simp only [runD, stepD]
  cases wanted f i.g with
  | none => rfl
  | some b =>
    cases b with
    | true =>
      simp only
      cases opD cf m f h i with
      | none => rfl
      | some r => rfl
    | false => simp only [addw_nil']
theorem putD_comm {f : FF} {d d' : Option Nat} {v v' : Value} (h : ∀ x, d = some x → d' ≠ some x) : putD (putD f d v) d' v' = putD (putD f d' v') d v := by
  cases d with
  | none => rfl
  | some x =>
    cases d' with
    | none => rfl
    | some y =>
      have hne : x ≠ y := fun e => h x rfl (by rw [e])
      funext s
      simp only [putD, upd]
      by_cases h1 : s = y
      · by_cases h2 : s = x
        · exact absurd (h2.symm.trans h1) hne
        · simp [h1, Ne.symm hne]
      · simp [h1]
theorem putD_slots {f : FF} {d : Option Nat} {v : Value} {l : List Nat} (h : ∀ x, d = some x → x ∉ l) : ∀ s ∈ l, putD f d v s = f s := by
  intro s hs
  cases d with
  | none => rfl
  | some x =>
    have : s ≠ x := fun e => h x rfl (e ▸ hs)
    simp [putD, upd, this]
theorem mem_agree {f : FF} {o : O} {h h' : Heap} {m : Nat} (hl : low m (memX f o) = true) (hh : ∀ b, b < m → h'[b]? = h[b]?) : memV f h' o = memV f h o := by
  cases o <;> simp only [memV] <;> simp only [memX] at hl
  case ld g x =>
    unfold loadV
    split
    · rename_i a e; rw [e] at hl; rw [hh _ (by simpa [low] using hl)]
    · rfl
  case look q z x k ok =>
    unfold lookV
    generalize ev f x = vx at hl ⊢
    cases vx <;> first | rfl | skip
    rename_i r
    cases r with
    | none => rfl
    | some r => simp only; rw [hh _ (by simpa [low] using hl)]
  case lenm x =>
    split
    · rfl
    · rename_i r e; rw [e] at hl; rw [hh _ (by simpa [low] using hl)]
    · rfl
  case b2s x =>
    split
    · rename_i b n c e
      rw [e] at hl ⊢
      cases b with
      | none => rfl
      | some a => simp only [cellsOf]; rw [hh _ (by simpa [low] using hl)]
    · rfl
/-- What an operation does to the heap alone. -/
theorem opD_P {cf : CallT} {m : Nat} {f : FF} {i : Ins} {h : Heap} {r : Value × Heap × List Nat} (hc : cls i.o = .P) (hv : opD cf m f h i = some r) : ∃ v, r = (v, h, []) ∧ ∀ k, opD cf m f k i = some (v, k, []) := by
  unfold opD at hv ⊢
  rw [hc] at hv
  simp only [hc] at hv ⊢
  cases hp : pureV f i.o with
  | none => rw [hp] at hv; cases hv
  | some v => rw [hp] at hv; simp only [Option.some.injEq] at hv; exact ⟨v, hv.symm, fun k => rfl⟩
theorem opD_M {cf : CallT} {m : Nat} {f : FF} {i : Ins} {h : Heap} {r : Value × Heap × List Nat} (hc : cls i.o = .M) (hv : opD cf m f h i = some r) :
    ∃ v, r = (v, h, []) ∧ (i.flag = true → low m (memX f i.o) = true) ∧ ∀ k, memV f k i.o = memV f h i.o → opD cf m f k i = some (v, k, []) := by
  unfold opD at hv ⊢
  simp only [hc] at hv ⊢
  split at hv
  · cases hv
  · rename_i hfl
    cases hp : memV f h i.o with
    | none => rw [hp] at hv; cases hv
    | some v =>
      rw [hp] at hv; simp only [Option.some.injEq] at hv
      refine ⟨v, hv.symm, fun hh => ?_, fun k hk => ?_⟩
      · cases hlow : low m (memX f i.o) with
        | true => rfl
        | false => exact absurd ⟨hh, hlow⟩ hfl
      · rw [if_neg hfl, hk]
theorem opD_A {cf : CallT} {m : Nat} {f : FF} {i : Ins} {h : Heap} {r : Value × Heap × List Nat} (hc : cls i.o = .A) (hv : opD cf m f h i = some r) : ∃ v o, r = (v, h.set (m + i.rank) o, []) ∧ ∀ k, opD cf m f k i = some (v, k.set (m + i.rank) o, []) := by
  unfold opD at hv ⊢
  simp only [hc] at hv ⊢
  cases hp : newV f i.o with
  | none => rw [hp] at hv; cases hv
  | some n => rw [hp] at hv; simp only [Option.some.injEq] at hv; exact ⟨_, _, hv.symm, fun k => rfl⟩
theorem opD_S {cf : CallT} {m : Nat} {f : FF} {i : Ins} {h : Heap} {r : Value × Heap × List Nat} (hc : cls i.o = .S) (hv : opD cf m f h i = some r) (hfl : i.flag = true) :
    ∃ v ws h', r = (v, h', ws) ∧ ∀ b, b < m → h'[b]? = h[b]? := by
  unfold opD at hv
  simp only [hc] at hv
  obtain ⟨d, g, o, fl, rk⟩ := i
  cases o <;> first | (simp [cls] at hc; done) | skip
  rename_i n a x
  simp only at hv hfl
  split at hv
  · cases hv
  · rename_i hfl2
    have hhigh : high m (ev f a) = true := by
      cases hh : high m (ev f a) with
      | true => rfl
      | false => exact absurd ⟨hfl, hh⟩ hfl2
    cases hs : storeV n (ev f a) (ev f x) h with
    | none => rw [hs] at hv; cases hv
    | some p =>
      rw [hs] at hv; simp only [Option.some.injEq] at hv
      refine ⟨_, _, _, hv.symm, fun b hb => ?_⟩
      unfold storeV at hs
      split at hs <;> try (cases hs; done)
      rename_i ad e
      split at hs <;> try (cases hs; done)
      split at hs <;> try (cases hs; done)
      simp only [Option.some.injEq] at hs
      rw [← hs]
      rw [e] at hhigh
      simp only [high, decide_eq_true_eq] at hhigh
      exact List.getElem?_set_ne (by omega)
theorem opD_C {cf : CallT} (hk : KeepC cf) {m : Nat} {f : FF} {i : Ins} {h : Heap} {r : Value × Heap × List Nat} (hc : cls i.o = .C) (hv : opD cf m f h i = some r) (hfl : i.flag = true) : ∃ v, r = (v, h, []) := by
  unfold opD at hv
  simp only [hc] at hv
  obtain ⟨d, g, o, fl, rk⟩ := i
  cases o <;> first | (simp [cls] at hc; done) | skip
  rename_i gx args
  simp only at hv hfl
  split at hv
  · rename_i v h' ws he
    split at hv
    · cases hv
    · rename_i hn
      simp only [Option.some.injEq] at hv
      have h2 : h'.length = h.length ∧ ws = [] := by
        by_cases hh : h'.length = h.length ∧ ws = []
        · exact hh
        · exact absurd ⟨hfl, hh⟩ hn
      have kk := hk _ _ _ _ _ _ he
      have : h' = h := by
        apply List.ext_getElem?
        intro b
        rcases Nat.lt_or_ge b h.length with hb | hb
        · exact kk.at_ b hb (by rw [h2.2]; simp)
        · rw [List.getElem?_eq_none hb, List.getElem?_eq_none (by rw [h2.1]; exact hb)]
      rw [← hv, this, h2.2]; exact ⟨v, rfl⟩
  · cases hv
/-- The heap's side of two operations that may come either way round. -/
theorem opD_comm {cf : CallT} (hk : KeepC cf) {m : Nat} {f : FF} {x y : Ins} {h h1 h2 : Heap} {vx vy : Value} {wx wy : List Nat} (hx : opD cf m f h x = some (vx, h1, wx)) (hy : opD cf m f h1 y = some (vy, h2, wy))
    (hc : (match cls x.o, cls y.o with
    | .P, _ | _, .P | .M, .M => true
    | .M, .A | .C, .M => x.flag
    | .A, .M | .M, .C => y.flag
    | .A, .A => x.rank != y.rank
    | .M, .S | .S, .M => x.flag && y.flag
    | _, _ => false) = true) : ∃ k1 uy ux, opD cf m f h y = some (vy, k1, uy) ∧ opD cf m f k1 x = some (vx, h2, ux) ∧ uy ++ ux = wx ++ wy := by
  by_cases px : cls x.o = .P
  · obtain ⟨v, e, hall⟩ := opD_P px hx
    cases e
    exact ⟨h2, wy, [], hy, hall h2, by simp⟩
  by_cases py : cls y.o = .P
  · obtain ⟨v, e, hall⟩ := opD_P py hy
    cases e
    exact ⟨h, [], wx, hall h, hx, by simp⟩
  cases cx : cls x.o with
  | P => exact absurd cx px
  | E => rw [cx] at hc; cases cy : cls y.o <;> rw [cy] at hc <;> first | (exact absurd cy py) | (simp at hc; done)
  | M =>
    obtain ⟨v, e, hlow, hall⟩ := opD_M cx hx
    cases e
    cases cy : cls y.o with
    | P => exact absurd cy py
    | E => rw [cx, cy] at hc; simp at hc
    | M =>
      obtain ⟨v', e', _, _⟩ := opD_M cy hy
      cases e'
      exact ⟨h, [], [], hy, hx, rfl⟩
    | A =>
      rw [cx, cy] at hc; simp only at hc
      obtain ⟨v', o, e', ha⟩ := opD_A cy hy
      cases e'
      exact ⟨_, [], [], hy, hall _ (mem_agree (hlow hc) fun b hb => List.getElem?_set_ne (by omega)), rfl⟩
    | S =>
      rw [cx, cy] at hc; simp only [Bool.and_eq_true] at hc
      obtain ⟨v', ws, h', e', ha⟩ := opD_S cy hy hc.2
      cases e'
      exact ⟨_, wy, [], hy, hall _ (mem_agree (hlow hc.1) ha), by simp⟩
    | C =>
      rw [cx, cy] at hc; simp only at hc
      obtain ⟨v', e'⟩ := opD_C hk cy hy hc
      cases e'
      exact ⟨h, [], [], hy, hx, rfl⟩
  | A =>
    obtain ⟨v, o, e, hall⟩ := opD_A cx hx
    cases e
    cases cy : cls y.o with
    | P => exact absurd cy py
    | E => rw [cx, cy] at hc; simp at hc
    | S => rw [cx, cy] at hc; simp at hc
    | C => rw [cx, cy] at hc; simp at hc
    | M =>
      rw [cx, cy] at hc; simp only at hc
      obtain ⟨v', e', hlow, hall'⟩ := opD_M cy hy
      cases e'
      have ag : memV f h y.o = memV f (h.set (m + x.rank) o) y.o := (mem_agree (hlow hc) fun b hb => List.getElem?_set_ne (by omega)).symm
      exact ⟨h, [], [], hall' h ag, hall h, rfl⟩
    | A =>
      rw [cx, cy] at hc; simp only [bne_iff_ne, ne_eq] at hc
      obtain ⟨v', o', e', hall'⟩ := opD_A cy hy
      cases e'
      refine ⟨_, [], [], hall' h, ?_, rfl⟩
      rw [hall, List.set_comm _ _ (by omega)]
  | S =>
    cases cy : cls y.o with
    | P => exact absurd cy py
    | M =>
      rw [cx, cy] at hc; simp only [Bool.and_eq_true] at hc
      obtain ⟨v, ws, h', e, ha⟩ := opD_S cx hx hc.1
      cases e
      obtain ⟨v', e', hlow, hall'⟩ := opD_M cy hy
      cases e'
      have ag : memV f h y.o = memV f h1 y.o := (mem_agree (hlow hc.2) ha).symm
      exact ⟨h, [], wx, hall' h ag, hx, by simp⟩
    | _ => rw [cx, cy] at hc; simp at hc
  | C =>
    cases cy : cls y.o with
    | P => exact absurd cy py
    | M =>
      rw [cx, cy] at hc; simp only at hc
      obtain ⟨v, e⟩ := opD_C hk cx hx hc
      cases e
      obtain ⟨v', e', hlow, hall'⟩ := opD_M cy hy
      cases e'
      exact ⟨h, [], [], hy, hx, rfl⟩
    | _ => rw [cx, cy] at hc; simp at hc
theorem comm_inv {x y : Ins} (hc : comm x y = true) : (match cls x.o, cls y.o with
    | .P, _ | _, .P | .M, .M => true
    | .M, .A | .C, .M => x.flag
    | .A, .M | .M, .C => y.flag
    | .A, .A => x.rank != y.rank
    | .M, .S | .S, .M => x.flag && y.flag
    | _, _ => false) = true ∧ (∀ d, x.d = some d → d ∉ y.slots) ∧ (∀ d, x.d = some d → y.d ≠ some d) ∧ (∀ d, y.d = some d → d ∉ x.slots) := by
  unfold comm at hc
  simp only [Bool.and_eq_true] at hc
  refine ⟨hc.1.1, fun d hd => ?_, fun d hd => ?_, fun d hd => ?_⟩
  · have := hc.1.2; rw [hd] at this; simp at this; exact this.1
  · have := hc.1.2; rw [hd] at this; simp at this; exact this.2
  · have := hc.2; rw [hd] at this; simp at this; exact this
theorem stepD_comm {cf : CallT} (hk : KeepC cf) {m : Nat} {x y : Ins} (hc : comm x y = true) {f f1 f2 : FF} {h h1 h2 : Heap} {wx wy : List Nat} (hx : stepD cf m x f h = some (f1, h1, wx)) (hy : stepD cf m y f1 h1 = some (f2, h2, wy)) :
    ∃ g1 k1 uy ux, stepD cf m y f h = some (g1, k1, uy) ∧ stepD cf m x g1 k1 = some (f2, h2, ux) ∧ uy ++ ux = wx ++ wy := by
  obtain ⟨hcl, d1, d2, d3⟩ := comm_inv hc
  unfold stepD at hx
  -- whatever is put into the slots, the other one sees nothing of it
  have cy : ∀ v hp, opD cf m (putD f x.d v) hp y = opD cf m f hp y ∧ wanted (putD f x.d v) y.g = wanted f y.g := fun v hp => opD_congr (putD_slots d1)
  have cx : ∀ v hp, opD cf m (putD f y.d v) hp x = opD cf m f hp x ∧ wanted (putD f y.d v) x.g = wanted f x.g := fun v hp => opD_congr (putD_slots d3)
  cases wx' : wanted f x.g with
  | none => rw [wx'] at hx; cases hx
  | some bx =>
    rw [wx'] at hx
    cases bx with
    | true =>
      simp only at hx
      cases ox : opD cf m f h x with
      | none => rw [ox] at hx; cases hx
      | some r =>
        obtain ⟨vx, hh, ww⟩ := r
        rw [ox] at hx
        simp only [Option.some.injEq, Prod.mk.injEq] at hx
        obtain ⟨rfl, rfl, rfl⟩ := hx
        unfold stepD at hy
        rw [(cy vx hh).2, (cy vx hh).1] at hy
        cases wy' : wanted f y.g with
        | none => rw [wy'] at hy; cases hy
        | some by_ =>
          rw [wy'] at hy
          cases by_ with
          | true =>
            simp only at hy
            cases oy : opD cf m f hh y with
            | none => rw [oy] at hy; cases hy
            | some r =>
              obtain ⟨vy, h3, w3⟩ := r
              rw [oy] at hy
              simp only [Option.some.injEq, Prod.mk.injEq] at hy
              obtain ⟨rfl, rfl, rfl⟩ := hy
              obtain ⟨k1, uy, ux, e1, e2, e3⟩ := opD_comm hk ox oy hcl
              refine ⟨putD f y.d vy, k1, uy, ux, by simp only [stepD, wy', e1], ?_, e3⟩
              simp only [stepD, (cx vy k1).2, (cx vy k1).1, wx', e2, putD_comm d2]
          | false =>
            simp only [Option.some.injEq, Prod.mk.injEq] at hy
            obtain ⟨rfl, rfl, rfl⟩ := hy
            refine ⟨putD f y.d undef, h, [], ww, by simp only [stepD, wy'], ?_, by simp⟩
            simp only [stepD, (cx undef h).2, (cx undef h).1, wx', ox, putD_comm d2]
    | false =>
      simp only [Option.some.injEq, Prod.mk.injEq] at hx
      obtain ⟨rfl, rfl, rfl⟩ := hx
      unfold stepD at hy
      rw [(cy undef h).2, (cy undef h).1] at hy
      cases wy' : wanted f y.g with
      | none => rw [wy'] at hy; cases hy
      | some by_ =>
        rw [wy'] at hy
        cases by_ with
        | true =>
          simp only at hy
          cases oy : opD cf m f h y with
          | none => rw [oy] at hy; cases hy
          | some r =>
            obtain ⟨vy, h3, w3⟩ := r
            rw [oy] at hy
            simp only [Option.some.injEq, Prod.mk.injEq] at hy
            obtain ⟨rfl, rfl, rfl⟩ := hy
            refine ⟨putD f y.d vy, h3, w3, [], by simp only [stepD, wy', oy], ?_, by simp⟩
            simp only [stepD, (cx vy h3).2, wx', putD_comm d2]
        | false =>
          simp only [Option.some.injEq, Prod.mk.injEq] at hy
          obtain ⟨rfl, rfl, rfl⟩ := hy
          refine ⟨putD f y.d undef, h, [], [], by simp only [stepD, wy'], ?_, rfl⟩
          simp only [stepD, (cx undef h).2, wx', putD_comm d2]
/-- One instruction, taken ahead of all that it may be taken ahead of. -/
theorem runD_front {cf : CallT} (hk : KeepC cf) {m : Nat} {i : Ins} {c2 : List Ins} : ∀ {c1 : List Ins} {f : FF} {h : Heap} {r : FF × Heap × List Nat}, (∀ j ∈ c1, comm j i = true) → runD cf m (c1 ++ i :: c2) f h = some r → runD cf m (i :: (c1 ++ c2)) f h = some r
  | [], f, h, r, _, hr => hr
  | j :: c1, f, h, r, hc, hr => by
    rw [List.cons_append, runD_cons] at hr
    cases hj : stepD cf m j f h with
    | none => rw [hj] at hr; cases hr
    | some s =>
      obtain ⟨f1, h1, w1⟩ := s
      rw [hj] at hr
      simp only at hr
      cases hr1 : runD cf m (c1 ++ i :: c2) f1 h1 with
      | none => rw [hr1] at hr; cases hr
      | some r1 =>
        rw [hr1] at hr
        have ih := runD_front hk (fun k hk => hc k (List.mem_cons_of_mem _ hk)) hr1
        rw [runD_cons] at ih
        cases hi : stepD cf m i f1 h1 with
        | none => rw [hi] at ih; cases ih
        | some s2 =>
          obtain ⟨f2, h2, w2⟩ := s2
          rw [hi] at ih
          simp only at ih
          obtain ⟨g1, k1, uy, ux, e1, e2, e3⟩ := stepD_comm hk (hc j List.mem_cons_self) hj hi
          rw [List.cons_append, runD_cons, e1]
          simp only
          rw [runD_cons, e2]
          simp only
          rw [← hr, ← ih]
          cases runD cf m (c1 ++ c2) f2 h2 with
          | none => rfl
          | some r3 =>
            obtain ⟨f3, h3, w3⟩ := r3
            simp only [addw, ← List.append_assoc, e3]
end Go.L
