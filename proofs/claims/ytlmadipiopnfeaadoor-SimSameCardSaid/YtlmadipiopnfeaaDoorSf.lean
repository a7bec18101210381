/- THE LOGICAL MACHINE AND THE MODEL: a statement in order. -/
import Derived.Test.YtlmadipiopnfeaaDoorSe
import Derived.Test.YtlmadipiopnfeaaDoorK
set_option linter.unusedVariables false
set_option linter.unusedSimpArgs false
namespace Go.L
open Go
variable {P : Program} {ι : Inj} {h : Aa} {w : World}
section
variable {sz : Nat} {f f' : FF} {a : Act} {o : Oper} {q : O} {v : Value} {h' : Aa} {ws : List Nat} {F : Fence} {n : Nat} {cf : Bk} {next : Act → World → Prop} {Q : Exit → Act → World → Prop} {ops : Array Oper}
theorem Avu {i : Ins} (h : cI P sz ops o = some i) : (∀ d, o.dst = some d → d < sz) ∧ i.d = o.dst ∧ cG ops o.guard = some i.g ∧ cO P o.op = some i.o := by
 have a : ∀ d, o.dst = some d → d < sz := by
  intro d a
  unfold cI at h
  rw [a] at h
  simp only [decide_eq_true_eq] at h
  split at h
  ·assumption
  ·cases h
 unfold cI at h
 rw [if_pos (by cases e : o.dst with | none => rfl | some d => simpa using a d e)] at h
 simp only [OB, OM] at h
 obtain ⟨g, f, j, c, rfl⟩ := h
 exact ⟨a, rfl, f, c⟩
theorem Yx {ι' : Inj} {d : Option Nat} {v' : Value} (hf : FFR ι' sz f a.tmps) (hd : ∀ x, d = some x → x < sz) (hv : VR ι' v v') : FFR ι' sz (G4 f d v) (a.put d v').tmps := by
 cases d with
 | none => exact hf
 | some d => exact hf.put (hd d rfl) hv
theorem Za {g : Option (Nat × Bool)} (hf : FFR ι sz f a.tmps) (hg : cG ops o.guard = some g) {b : Bool} (hw : wanted f g = some b) : Region.wanted o (yielded ops a.tmps) = b := by
 unfold cG at hg
 unfold Region.wanted
 split at hg
 ·rename_i e
  simp only [OI] at hg; subst hg
  simp only [wanted, OI] at hw; subst hw
  rw [e]
 ·rename_i j s e
  rw [e]
  simp only [OM] at hg
  obtain ⟨d, t, rfl⟩ := hg
  simp only [wanted] at hw
  have n := hf.at_ d
  simp only [yielded, t, Option.bind_some]
  split at hw
  ·rename_i c p
   rw [p] at n
   have l := n.bool_inv
   have : a.tmps[d]? = some (.bool c) := by
    rw [Array.getD_eq_getD_getElem?] at l
    cases ht : a.tmps[d]? with
    | none => rw [ht] at l; cases l
    | some x => rw [ht] at l; simp at l; rw [l]
   rw [this]
   simp only [OI] at hw; subst hw
   simp
  ·rename_i y p
   rw [p] at n
   split at hw
   ·rename_i m
    simp only [OI] at hw; subst hw
    obtain ⟨v, r, _⟩ := n.tuple_inv (by intro e; simp only [Kf, Value.tuple.injEq] at e; subst e; simp at m)
    have : ∀ c, a.tmps[d]? ≠ some (.bool c) := by
     intro c u
     rw [Array.getD_eq_getD_getElem?, u] at r
     cases r
    cases ht : a.tmps[d]? with
    | none => simp
    | some x =>
     cases x <;> first | (exact absurd ht (this _)) | simp
   ·cases hw
  ·cases hw
def Ops (P : Program) (sz : Nat) (ops : Array Oper) : List Nat → List Ins → Prop := All2 fun i ins => ∃ o, ops[i]? = some o ∧ cI P sz ops o = some ins
theorem Axb (hW : Wide F) (hcf : Kn P cf) (hk : Ge cf) {l : List Nat} {ins : List Ins} (hl : Ops P sz ops l ins) : ∀ {ι : Inj} {h : Aa} {w : World} {f : FF} {a : Act}, Sim P ι h w → FFR ι sz f a.tmps → ∀ {f' h' ws}, Fl cf ins f h = some (f', h', ws) →
  (∀ ι' a' w', St P ι h w ι' h' w' → Old ι h ι' → FFR ι' sz f' a'.tmps → a'.defers = a.defers → Q .normal a' w') → wpOpsIn F n P ops Q l a w := by
 induction hl with
 | nil =>
  intro ι h w f a hs hf f' h' ws hv hq
  simp only [Fl, OI, Prod.mk.injEq] at hv
  obtain ⟨rfl, rfl, rfl⟩ := hv
  exact hq ι a w (St.refl hs) (Old.refl _ _) hf rfl
 | @cons i ins l inss hi hl ih =>
  intro ι h w f a hs hf f' h' ws hv hq
  obtain ⟨o, u, y⟩ := hi
  obtain ⟨j, p, s, e⟩ := Avu y
  simp only [Fl] at hv
  simp only [wpOpsIn, u]
  cases hw : wanted f ins.g with
  | none => rw [hw] at hv; cases hv
  | some b =>
   rw [hw] at hv
   have c := Za (o := o) (ops := ops) hf s hw
   cases b with
   | true =>
    rw [if_pos c]
    simp only at hv
    cases hv1 : opN cf f h ins.o with
    | none => rw [hv1] at hv; cases hv
    | some r =>
     obtain ⟨v, t, z⟩ := r
     rw [hv1] at hv
     simp only [Qy] at hv
     split at hv
     ·rename_i f2 h2 x hr
      simp only [OI, Prod.mk.injEq] at hv
      obtain ⟨rfl, rfl, rfl⟩ := hv
      refine Azc hW hcf hs hf e hv1 fun ι' w' v' st old hv' => ?_
      refine ih st.sim (Yx (a := a) (hf.mono st.sub) j hv') (by rw [← p]; exact hr) fun ι2 a2 w2 st2 old2 hf2 hd2 => ?_
      have d : h.length ≤ t.length := (Agp hk hv1).len
      refine hq ι2 a2 w2 (st.trans st2) (fun b m => (old2 b (Nat.lt_of_lt_of_le m d)).trans (old b m)) hf2 (hd2.trans ?_)
      cases o.dst <;> rfl
     ·cases hv
   | false =>
    rw [if_neg (by rw [c]; simp)]
    refine ⟨fun f _ => hW.fn f, ?_⟩
    simp only at hv
    refine ih hs (Yx (a := a) hf j VR.undef) (by rw [← p]; exact hv) fun ι2 a2 w2 st2 old2 hf2 hd2 => hq ι2 a2 w2 st2 old2 hf2 (hd2.trans ?_)
    cases o.dst <;> rfl
end
end Go.L
namespace Go.L
open Go
theorem Y6 {s : Nat} : ∀ {l : List X}, X.t s ∈ l → s ∈ Q0 l
 | [], h => by cases h
 | x :: l, h => by
  rcases List.mem_cons.1 h with e | h2
  ·subst e; simp [Q0]
  ·have a : s ∈ Q0 l := Y6 h2
   cases x with
   | t k => simp only [Q0]; exact List.mem_cons_of_mem _ a
   | c v => exact a
   | f g => exact a
theorem Au5 {f f' : FF} {l : List X} (h : ∀ s ∈ Q0 l, f s = f' s) : ∀ x ∈ l, ev f x = ev f' x := by
 intro x a
 cases x with
 | t s => exact h s (Y6 a)
 | c v => rfl
 | f g => rfl
theorem Aah {f f' : FF} {l : List X} (h : ∀ x ∈ l, ev f x = ev f' x) : l.map (ev f) = l.map (ev f') := List.map_congr_left h
theorem R0 {f f' : FF} : ∀ {ps : List (Nat × Nat × X)} (h : ∀ x ∈ ps.map (fun p => p.2.2), ev f x = ev f' x) (c : List Value), R5 f ps c = R5 f' ps c
 | [], h, c => rfl
 | (o, n, x) :: ps, h, c => by
  have d : ev f x = ev f' x := h x (by simp)
  simp only [R5, d]
  rw [R0 (fun y a => h y (by simp at a ⊢; exact .inr a))]
theorem Gz {f f' : FF} {x : Option X} (h : ∀ y ∈ oX x, ev f y = ev f' y) (d k : Nat) : Bs f x d k = Bs f' x d k := by
 cases x with
 | none => rfl
 | some x => simp only [Bs, h x (by simp [oX])]
theorem Aj8 {f f' : FF} {o : O} (h : ∀ x ∈ o.xs, ev f x = ev f' x) : Aw f o = Aw f' o := by
 cases o <;> simp only [O.xs, List.mem_cons, List.mem_append, List.not_mem_nil, or_false, forall_eq_or_imp, forall_eq] at h <;> simp only [Aw]
 case bld z ps => rw [R0 h]
 case slt x lo hi =>
  simp only [h.1, Gz (x := lo) (fun y c => h.2 y (.inl c)), Gz (x := hi) (fun y c => h.2 y (.inr c))]
 case sla n s x lo hi =>
  simp only [h.1, Gz (x := lo) (fun y c => h.2 y (.inl c)), Gz (x := hi) (fun y c => h.2 y (.inr c))]
 case sls s x lo hi mx =>
  have l : ∀ d k, Bs f lo d k = Bs f' lo d k := Gz (fun y c => h.2 y (.inl (.inl c)))
  have j : ∀ d k, Bs f hi d k = Bs f' hi d k := Gz (fun y c => h.2 y (.inl (.inr c)))
  have g : ∀ d k, Bs f mx d k = Bs f' mx d k := Gz (fun y c => h.2 y (.inr c))
  simp only [h.1, Zn, l, j, g]
 case mkf fn a b => rw [Aah (fun x e => h x (.inl e)), Aah (fun x e => h x (.inr e))]
 case min x r => rw [h.1, Aah h.2]
 case max x r => rw [h.1, Aah h.2]
 all_goals simp only [h]
theorem Ac5 {f f' : FF} {o : O} {hp : Aa} (h : ∀ x ∈ o.xs, ev f x = ev f' x) : Ir f hp o = Ir f' hp o ∧ Ab6 f o = Ab6 f' o := by
 cases o <;> simp only [O.xs, List.mem_cons, List.mem_append, List.not_mem_nil, or_false, forall_eq_or_imp, forall_eq] at h <;> simp only [Ir, Ab6] <;> simp only [h, and_self]
theorem Ap2 {f f' : FF} {o : O} (h : ∀ x ∈ o.xs, ev f x = ev f' x) : Ka f o = Ka f' o := by
 cases o <;> simp only [O.xs, List.mem_cons, List.mem_append, List.not_mem_nil, or_false, forall_eq_or_imp, forall_eq] at h <;> simp only [Ka]
 case bsl s z n ps => rw [R0 h]
 all_goals simp only [h]
theorem Aqk {f f' : FF} {o : O} {hp : Aa} (h : ∀ x ∈ o.xs, ev f x = ev f' x) : Py f hp o = Py f' hp o := by
 cases o <;> simp only [O.xs, List.mem_cons, List.mem_append, List.not_mem_nil, or_false, forall_eq_or_imp, forall_eq] at h <;> simp only [Py] <;> simp only [h]
theorem Acu {cf : Bk} {m : Nat} {f f' : FF} {hp : Aa} {i : Ins} (h : ∀ s ∈ i.slots, f s = f' s) : opD cf m f hp i = opD cf m f' hp i ∧ wanted f i.g = wanted f' i.g := by
 have c : ∀ x ∈ i.o.xs, ev f x = ev f' x := Au5 fun s j => h s (List.mem_append_right _ j)
 constructor
 ·unfold opD
  rw [Aj8 c, (Ac5 (hp := hp) c).1, (Ac5 (hp := hp) c).2, Ap2 c, Aqk c]
  obtain ⟨d, g, o, r, l⟩ := i
  cases o <;> first | rfl | skip
  case st n a v =>
   simp only [O.xs, List.mem_cons, List.not_mem_nil, or_false, forall_eq_or_imp, forall_eq] at c
   simp only [c]
  case call g args =>
   simp only [O.xs, List.mem_cons, forall_eq_or_imp] at c
   simp only [c.1, Aah c.2]
 ·cases hg : i.g with
  | none => rfl
  | some p =>
   obtain ⟨d, e⟩ := p
   have : f d = f' d := h d (by simp [Ins.slots, hg])
   simp only [wanted, this]
def Iz (cf : Bk) (m : Nat) (i : Ins) (f : FF) (h : Aa) : Option (FF × Aa × List Nat) :=
 match wanted f i.g with
 | some true => match opD cf m f h i with
  | some (v, h', ws) => some (G4 f i.d v, h', ws)
  | none => none
 | some false => some (G4 f i.d undef, h, [])
 | none => none
theorem Aq5 {α : Type} (x : Option (α × Aa × List Nat)) : Qy [] x = x := by
 cases x with
 | none => rfl
 | some r => rfl
theorem Ok (cf : Bk) (m : Nat) (i : Ins) (r : List Ins) (f : FF) (h : Aa) :
  Dt cf m (i :: r) f h = match Iz cf m i f h with | some (f', h', ws) => Qy ws (Dt cf m r f' h') | none => none := by
 simp only [Dt, Iz]
 cases wanted f i.g with
 | none => rfl
 | some b =>
  cases b with
  | true =>
   simp only
   cases opD cf m f h i with
   | none => rfl
   | some r => rfl
  | false => simp only [Aq5]
theorem Sw {f : FF} {d d' : Option Nat} {v v' : Value} (h : ∀ x, d = some x → d' ≠ some x) : G4 (G4 f d v) d' v' = G4 (G4 f d' v') d v := by
 cases d with
 | none => rfl
 | some x =>
  cases d' with
  | none => rfl
  | some y =>
   have a : x ≠ y := fun e => h x rfl (by rw [e])
   funext s
   simp only [G4, upd]
   by_cases c : s = y
   ·by_cases h2 : s = x
    ·exact absurd (h2.symm.trans c) a
    ·simp [c, Ne.symm a]
   ·simp [c]
theorem Z1 {f : FF} {d : Option Nat} {v : Value} {l : List Nat} (h : ∀ x, d = some x → x ∉ l) : ∀ s ∈ l, G4 f d v s = f s := by
 intro s a
 cases d with
 | none => rfl
 | some x =>
  have : s ≠ x := fun e => h x rfl (e ▸ a)
  simp [G4, upd, this]
theorem S0 {f : FF} {o : O} {h h' : Aa} {m : Nat} (hl : low m (Ab6 f o) = true) (hh : ∀ b, b < m → h'[b]? = h[b]?) : Ir f h' o = Ir f h o := by
 cases o <;> simp only [Ir] <;> simp only [Ab6] at hl
 case ld g x =>
  unfold Ru
  split
  ·rename_i a e; rw [e] at hl; rw [hh _ (by simpa [low] using hl)]
  ·rfl
 case look q z x k ok =>
  unfold X1
  generalize ev f x = vx at hl ⊢
  cases vx <;> first | rfl | skip
  rename_i r
  cases r with
  | none => rfl
  | some r => simp only; rw [hh _ (by simpa [low] using hl)]
 case lenm x =>
  split
  ·rfl
  ·rename_i r e; rw [e] at hl; rw [hh _ (by simpa [low] using hl)]
  ·rfl
 case b2s x =>
  split
  ·rename_i b n c e
   rw [e] at hl ⊢
   cases b with
   | none => rfl
   | some a => simp only [cellsOf]; rw [hh _ (by simpa [low] using hl)]
  ·rfl
theorem Azf {cf : Bk} {m : Nat} {f : FF} {i : Ins} {h : Aa} {r : Value × Aa × List Nat} (hc : cls i.o = .P) (hv : opD cf m f h i = some r) : ∃ v, r = (v, h, []) ∧ ∀ k, opD cf m f k i = some (v, k, []) := by
 unfold opD at hv ⊢
 rw [hc] at hv
 simp only [hc] at hv ⊢
 cases hp : Aw f i.o with
 | none => rw [hp] at hv; cases hv
 | some v => rw [hp] at hv; simp only [OI] at hv; exact ⟨v, hv.symm, fun k => rfl⟩
theorem Agr {cf : Bk} {m : Nat} {f : FF} {i : Ins} {h : Aa} {r : Value × Aa × List Nat} (hc : cls i.o = .M) (hv : opD cf m f h i = some r) :
  ∃ v, r = (v, h, []) ∧ (i.flag = true → low m (Ab6 f i.o) = true) ∧ ∀ k, Ir f k i.o = Ir f h i.o → opD cf m f k i = some (v, k, []) := by
 unfold opD at hv ⊢
 simp only [hc] at hv ⊢
 split at hv
 ·cases hv
 ·rename_i c
  cases hp : Ir f h i.o with
  | none => rw [hp] at hv; cases hv
  | some v =>
   rw [hp] at hv; simp only [OI] at hv
   refine ⟨v, hv.symm, fun d => ?_, fun k e => ?_⟩
   ·cases a : low m (Ab6 f i.o) with
    | true => rfl
    | false => exact absurd ⟨d, a⟩ c
   ·rw [if_neg c, e]
theorem Atv {cf : Bk} {m : Nat} {f : FF} {i : Ins} {h : Aa} {r : Value × Aa × List Nat} (hc : cls i.o = .A) (hv : opD cf m f h i = some r) : ∃ v o, r = (v, h.set (m + i.rank) o, []) ∧ ∀ k, opD cf m f k i = some (v, k.set (m + i.rank) o, []) := by
 unfold opD at hv ⊢
 simp only [hc] at hv ⊢
 cases hp : Ka f i.o with
 | none => rw [hp] at hv; cases hv
 | some n => rw [hp] at hv; simp only [OI] at hv; exact ⟨_, _, hv.symm, fun k => rfl⟩
theorem Aze {cf : Bk} {m : Nat} {f : FF} {i : Ins} {h : Aa} {r : Value × Aa × List Nat} (hc : cls i.o = .S) (hv : opD cf m f h i = some r) (hfl : i.flag = true) :
  ∃ v ws h', r = (v, h', ws) ∧ ∀ b, b < m → h'[b]? = h[b]? := by
 unfold opD at hv
 simp only [hc] at hv
 obtain ⟨d, g, o, t, s⟩ := i
 cases o <;> first | (simp [cls] at hc; done) | skip
 rename_i n a x
 simp only at hv hfl
 split at hv
 ·cases hv
 ·rename_i j
  have c : high m (ev f a) = true := by
   cases l : high m (ev f a) with
   | true => rfl
   | false => exact absurd ⟨hfl, l⟩ j
  cases hs : Hw n (ev f a) (ev f x) h with
  | none => rw [hs] at hv; cases hv
  | some p =>
   rw [hs] at hv; simp only [OI] at hv
   refine ⟨_, _, _, hv.symm, fun b y => ?_⟩
   unfold Hw at hs
   split at hs <;> try (cases hs; done)
   rename_i u e
   split at hs <;> try (cases hs; done)
   split at hs <;> try (cases hs; done)
   simp only [OI] at hs
   rw [← hs]
   rw [e] at c
   simp only [high, decide_eq_true_eq] at c
   exact List.getElem?_set_ne (by omega)
theorem Azg {cf : Bk} (hk : Ge cf) {m : Nat} {f : FF} {i : Ins} {h : Aa} {r : Value × Aa × List Nat} (hc : cls i.o = .C) (hv : opD cf m f h i = some r) (hfl : i.flag = true) : ∃ v, r = (v, h, []) := by
 unfold opD at hv
 simp only [hc] at hv
 obtain ⟨d, g, o, s, p⟩ := i
 cases o <;> first | (simp [cls] at hc; done) | skip
 rename_i t e
 simp only at hv hfl
 split at hv
 ·rename_i v h' c n
  split at hv
  ·cases hv
  ·rename_i l
   simp only [OI] at hv
   have h2 : h'.length = h.length ∧ c = [] := by
    by_cases a : h'.length = h.length ∧ c = []
    ·exact a
    ·exact absurd ⟨hfl, a⟩ l
   have j := hk _ _ _ _ _ _ n
   have : h' = h := by
    apply List.ext_getElem?
    intro b
    rcases Nat.lt_or_ge b h.length with hb | hb
    ·exact j.at_ b hb (by rw [h2.2]; simp)
    ·rw [List.getElem?_eq_none hb, List.getElem?_eq_none (by rw [h2.1]; exact hb)]
   rw [← hv, this, h2.2]; exact ⟨v, rfl⟩
 ·cases hv
theorem Atu {cf : Bk} (hk : Ge cf) {m : Nat} {f : FF} {x y : Ins} {h h1 h2 : Aa} {vx vy : Value} {wx wy : List Nat} (hx : opD cf m f h x = some (vx, h1, wx)) (hy : opD cf m f h1 y = some (vy, h2, wy))
  (hc : (match cls x.o, cls y.o with
  | .P, _ | _, .P | .M, .M => true
  | .M, .A | .C, .M => x.flag
  | .A, .M | .M, .C => y.flag
  | .A, .A => x.rank != y.rank
  | .M, .S | .S, .M => x.flag && y.flag
  | _, _ => false) = true) : ∃ k1 uy ux, opD cf m f h y = some (vy, k1, uy) ∧ opD cf m f k1 x = some (vx, h2, ux) ∧ uy ++ ux = wx ++ wy := by
 by_cases r : cls x.o = .P
 ·obtain ⟨v, e, a⟩ := Azf r hx
  cases e
  exact ⟨h2, wy, [], hy, a h2, by simp⟩
 by_cases l : cls y.o = .P
 ·obtain ⟨v, e, a⟩ := Azf l hy
  cases e
  exact ⟨h, [], wx, a h, hx, by simp⟩
 cases cx : cls x.o with
 | P => exact absurd cx r
 | E => rw [cx] at hc; cases cy : cls y.o <;> rw [cy] at hc <;> first | (exact absurd cy l) | (simp at hc; done)
 | M =>
  obtain ⟨v, e, d, a⟩ := Agr cx hx
  cases e
  cases cy : cls y.o with
  | P => exact absurd cy l
  | E => rw [cx, cy] at hc; simp at hc
  | M =>
   obtain ⟨j, g, _, _⟩ := Agr cy hy
   cases g
   exact ⟨h, [], [], hy, hx, rfl⟩
  | A =>
   rw [cx, cy] at hc; simp only at hc
   obtain ⟨j, o, g, n⟩ := Atv cy hy
   cases g
   exact ⟨_, [], [], hy, a _ (S0 (d hc) fun b t => List.getElem?_set_ne (by omega)), rfl⟩
  | S =>
   rw [cx, cy] at hc; simp only [Bool.and_eq_true] at hc
   obtain ⟨j, s, h', g, n⟩ := Aze cy hy hc.2
   cases g
   exact ⟨_, wy, [], hy, a _ (S0 (d hc.1) n), by simp⟩
  | C =>
   rw [cx, cy] at hc; simp only at hc
   obtain ⟨j, g⟩ := Azg hk cy hy hc
   cases g
   exact ⟨h, [], [], hy, hx, rfl⟩
 | A =>
  obtain ⟨v, o, e, a⟩ := Atv cx hx
  cases e
  cases cy : cls y.o with
  | P => exact absurd cy l
  | E => rw [cx, cy] at hc; simp at hc
  | S => rw [cx, cy] at hc; simp at hc
  | C => rw [cx, cy] at hc; simp at hc
  | M =>
   rw [cx, cy] at hc; simp only at hc
   obtain ⟨j, g, d, c⟩ := Agr cy hy
   cases g
   have p : Ir f h y.o = Ir f (h.set (m + x.rank) o) y.o := (S0 (d hc) fun b t => List.getElem?_set_ne (by omega)).symm
   exact ⟨h, [], [], c h p, a h, rfl⟩
  | A =>
   rw [cx, cy] at hc; simp only [bne_iff_ne, ne_eq] at hc
   obtain ⟨j, u, g, c⟩ := Atv cy hy
   cases g
   refine ⟨_, [], [], c h, ?_, rfl⟩
   rw [a, List.set_comm _ _ (by omega)]
 | S =>
  cases cy : cls y.o with
  | P => exact absurd cy l
  | M =>
   rw [cx, cy] at hc; simp only [Bool.and_eq_true] at hc
   obtain ⟨v, s, h', e, n⟩ := Aze cx hx hc.1
   cases e
   obtain ⟨j, g, d, c⟩ := Agr cy hy
   cases g
   have p : Ir f h y.o = Ir f h1 y.o := (S0 (d hc.2) n).symm
   exact ⟨h, [], wx, c h p, hx, by simp⟩
  | _ => rw [cx, cy] at hc; simp at hc
 | C =>
  cases cy : cls y.o with
  | P => exact absurd cy l
  | M =>
   rw [cx, cy] at hc; simp only at hc
   obtain ⟨v, e⟩ := Azg hk cx hx hc
   cases e
   obtain ⟨j, g, d, c⟩ := Agr cy hy
   cases g
   exact ⟨h, [], [], hy, hx, rfl⟩
  | _ => rw [cx, cy] at hc; simp at hc
theorem Avl {x y : Ins} (hc : comm x y = true) : (match cls x.o, cls y.o with
  | .P, _ | _, .P | .M, .M => true
  | .M, .A | .C, .M => x.flag
  | .A, .M | .M, .C => y.flag
  | .A, .A => x.rank != y.rank
  | .M, .S | .S, .M => x.flag && y.flag
  | _, _ => false) = true ∧ (∀ d, x.d = some d → d ∉ y.slots) ∧ (∀ d, x.d = some d → y.d ≠ some d) ∧ (∀ d, y.d = some d → d ∉ x.slots) := by
 unfold comm at hc
 simp only [Bool.and_eq_true] at hc
 refine ⟨hc.1.1, fun d a => ?_, fun d a => ?_, fun d a => ?_⟩
 ·have := hc.1.2; rw [a] at this; simp at this; exact this.1
 ·have := hc.1.2; rw [a] at this; simp at this; exact this.2
 ·have := hc.2; rw [a] at this; simp at this; exact this
theorem Ajg {cf : Bk} (hk : Ge cf) {m : Nat} {x y : Ins} (hc : comm x y = true) {f f1 f2 : FF} {h h1 h2 : Aa} {wx wy : List Nat} (hx : Iz cf m x f h = some (f1, h1, wx)) (hy : Iz cf m y f1 h1 = some (f2, h2, wy)) :
  ∃ g1 k1 uy ux, Iz cf m y f h = some (g1, k1, uy) ∧ Iz cf m x g1 k1 = some (f2, h2, ux) ∧ uy ++ ux = wx ++ wy := by
 obtain ⟨o, z, l, d3⟩ := Avl hc
 unfold Iz at hx
 have n : ∀ v c, opD cf m (G4 f x.d v) c y = opD cf m f c y ∧ wanted (G4 f x.d v) y.g = wanted f y.g := fun v c => Acu (Z1 z)
 have j : ∀ v c, opD cf m (G4 f y.d v) c x = opD cf m f c x ∧ wanted (G4 f y.d v) x.g = wanted f x.g := fun v c => Acu (Z1 d3)
 cases wx' : wanted f x.g with
 | none => rw [wx'] at hx; cases hx
 | some bx =>
  rw [wx'] at hx
  cases bx with
  | true =>
   simp only at hx
   cases ox : opD cf m f h x with
   | none => rw [ox] at hx; cases hx
   | some r =>
    obtain ⟨t, p, ww⟩ := r
    rw [ox] at hx
    simp only [OI, Prod.mk.injEq] at hx
    obtain ⟨rfl, rfl, rfl⟩ := hx
    unfold Iz at hy
    rw [(n t p).2, (n t p).1] at hy
    cases a : wanted f y.g with
    | none => rw [a] at hy; cases hy
    | some by_ =>
     rw [a] at hy
     cases by_ with
     | true =>
      simp only at hy
      cases oy : opD cf m f p y with
      | none => rw [oy] at hy; cases hy
      | some r =>
       obtain ⟨e, s, u⟩ := r
       rw [oy] at hy
       simp only [OI, Prod.mk.injEq] at hy
       obtain ⟨rfl, rfl, rfl⟩ := hy
       obtain ⟨k1, uy, ux, e1, e2, e3⟩ := Atu hk ox oy o
       refine ⟨G4 f y.d e, k1, uy, ux, by simp only [Iz, a, e1], ?_, e3⟩
       simp only [Iz, (j e k1).2, (j e k1).1, wx', e2, Sw l]
     | false =>
      simp only [OI, Prod.mk.injEq] at hy
      obtain ⟨rfl, rfl, rfl⟩ := hy
      refine ⟨G4 f y.d undef, h, [], ww, by simp only [Iz, a], ?_, by simp⟩
      simp only [Iz, (j undef h).2, (j undef h).1, wx', ox, Sw l]
  | false =>
   simp only [OI, Prod.mk.injEq] at hx
   obtain ⟨rfl, rfl, rfl⟩ := hx
   unfold Iz at hy
   rw [(n undef h).2, (n undef h).1] at hy
   cases a : wanted f y.g with
   | none => rw [a] at hy; cases hy
   | some by_ =>
    rw [a] at hy
    cases by_ with
    | true =>
     simp only at hy
     cases oy : opD cf m f h y with
     | none => rw [oy] at hy; cases hy
     | some r =>
      obtain ⟨e, s, u⟩ := r
      rw [oy] at hy
      simp only [OI, Prod.mk.injEq] at hy
      obtain ⟨rfl, rfl, rfl⟩ := hy
      refine ⟨G4 f y.d e, s, u, [], by simp only [Iz, a, oy], ?_, by simp⟩
      simp only [Iz, (j e s).2, wx', Sw l]
    | false =>
     simp only [OI, Prod.mk.injEq] at hy
     obtain ⟨rfl, rfl, rfl⟩ := hy
     refine ⟨G4 f y.d undef, h, [], [], by simp only [Iz, a], ?_, rfl⟩
     simp only [Iz, (j undef h).2, wx', Sw l]
theorem Zy {cf : Bk} (hk : Ge cf) {m : Nat} {i : Ins} {c2 : List Ins} : ∀ {c1 : List Ins} {f : FF} {h : Aa} {r : FF × Aa × List Nat}, (∀ j ∈ c1, comm j i = true) → Dt cf m (c1 ++ i :: c2) f h = some r → Dt cf m (i :: (c1 ++ c2)) f h = some r
 | [], f, h, r, _, hr => hr
 | j :: c1, f, h, r, hc, hr => by
  rw [List.cons_append, Ok] at hr
  cases hj : Iz cf m j f h with
  | none => rw [hj] at hr; cases hr
  | some s =>
   obtain ⟨c, d, o⟩ := s
   rw [hj] at hr
   simp only at hr
   cases hr1 : Dt cf m (c1 ++ i :: c2) c d with
   | none => rw [hr1] at hr; cases hr
   | some r1 =>
    rw [hr1] at hr
    have a := Zy hk (fun k hk => hc k (List.mem_cons_of_mem _ hk)) hr1
    rw [Ok] at a
    cases hi : Iz cf m i c d with
    | none => rw [hi] at a; cases a
    | some s2 =>
     obtain ⟨l, h2, z⟩ := s2
     rw [hi] at a
     simp only at a
     obtain ⟨p, k1, v, t, n, e, g⟩ := Ajg hk (hc j List.mem_cons_self) hj hi
     rw [List.cons_append, Ok, n]
     simp only
     rw [Ok, e]
     simp only
     rw [← hr, ← a]
     cases Dt cf m (c1 ++ c2) l h2 with
     | none => rfl
     | some r3 =>
      obtain ⟨u, x, y⟩ := r3
      simp only [Qy, ← List.append_assoc, g]
end Go.L
namespace Go.L
open Go
variable {P : Program} {ι : Inj} {h : Aa} {w : World}
section
variable {sz : Nat} {f f' : FF} {a : Act} {o : Oper} {q : O} {v : Value} {h' : Aa} {ws : List Nat} {F : Fence} {n : Nat} {cf : Bk} {next : Act → World → Prop} {Q : Exit → Act → World → Prop} {ops : Array Oper}
theorem Axn {m : Nat} {i : Ins} {r : Value × Aa × List Nat} (hc : cls i.o ≠ .A) (hv : opD cf m f h i = some r) : opN cf f h i.o = some r := by
 unfold opD at hv
 unfold opN
 cases hcl : cls i.o with
 | A => exact absurd hcl hc
 | P => rw [hcl] at hv; exact hv
 | M =>
  simp only [hcl] at hv ⊢
  split at hv
  ·cases hv
  ·exact hv
 | S =>
  simp only [hcl] at hv ⊢
  split at hv
  ·split at hv
   ·cases hv
   ·exact hv
  ·cases hv
 | C =>
  simp only [hcl] at hv ⊢
  split at hv
  ·split at hv
   ·rename_i a
    split at hv
    ·cases hv
    ·rw [a]; exact hv
   ·cases hv
  ·cases hv
 | E => rw [hcl] at hv; exact hv
theorem A0r (hW : Wide F) (hcf : Kn P cf) {m : Nat} {i : Ins} (hs : Sim P ι h w) (hf : FFR ι sz f a.tmps) (ho : cO P o.op = some i.o) (hv : opD cf m f h i = some (v, h', ws))
  (hroom : cls i.o = .A → m + i.rank < h.length ∧ ι (m + i.rank) = none)
  (hn : ∀ ι' w' v', St P ι h w ι' h' w' → (∀ b, b < h.length → (cls i.o = .A → b ≠ m + i.rank) → ι' b = ι b) → VR ι' v v' → next (a.put o.dst v') w') : o.wpIn F n P a w next Q := by
 by_cases e : cls i.o = .A
 ·refine ⟨fun f _ => hW.fn f, ?_⟩
  rw [Oper.semAt_plain F _ _ (Abe ho)]
  unfold opD at hv
  simp only [e] at hv
  cases hp : Ka f i.o with
  | none => rw [hp] at hv; cases hv
  | some nw =>
   rw [hp] at hv; simp only [OI, Prod.mk.injEq] at hv; obtain ⟨rfl, rfl, rfl⟩ := hv
   obtain ⟨wd, O, s, v', r, h2, z, y⟩ := At9 (w := w) hf ho e hp
   obtain ⟨d, c⟩ := hroom e
   rw [h2]
   obtain ⟨t, h6⟩ := y _ c
   have g := St.quiet hs r
   have j := St.place (P := P) (h' := h.set (m + i.rank) nw.1) g.sim (o := nw.1) (O := O) (m := s) (by rw [z, r.heap]) c (by simp) (by simpa using d) (List.getElem?_set_self d)
    (fun x o' u l _ => by rwa [List.getElem?_set_ne (Ne.symm u)] at l) (fun _ => t)
   exact hn _ _ v' (g.trans j) (fun b _ p => Inj.put_ne s (p e)) h6
 ·exact Azc hW hcf hs hf ho (Axn e hv) fun ι' w' v' st old hvr => hn ι' w' v' st (fun b p _ => old b p) hvr
theorem Ak2 (ops : Array Oper) : ∀ i j : Nat, ((Region.before ops).getD i 0).testBit j = true → ∃ o e, ops[i]? = some o ∧ e ∈ o.after ∧ Region.binds .any e = true ∧ (j = e.on ∨ ((Region.before ops).getD e.on 0).testBit j = true) := by
 have f : ∀ (acc : Array Nat) (l : List Edge) (s : Nat) (j : Nat), (l.foldl (fun s e => if Region.binds .any e then s ||| 2 ^ e.on ||| acc.getD e.on 0 else s) s).testBit j = true →
   s.testBit j = true ∨ ∃ e ∈ l, Region.binds .any e = true ∧ (j = e.on ∨ (acc.getD e.on 0).testBit j = true) := by
  intro acc l
  induction l with
  | nil => intro s j h; exact .inl h
  | cons e l ih =>
   intro s j h
   rw [List.foldl_cons] at h
   rcases ih _ j h with h1 | ⟨v, t, h2⟩
   ·split at h1
    ·rename_i n
     rw [Nat.testBit_or, Nat.testBit_or, Bool.or_eq_true, Bool.or_eq_true] at h1
     rcases h1 with (h1 | h1) | h1
     ·exact .inl h1
     ·rw [Nat.testBit_two_pow] at h1
      exact .inr ⟨e, by simp, n, .inl (by simpa using Eq.symm (by simpa using h1))⟩
     ·exact .inr ⟨e, by simp, n, .inr h1⟩
    ·exact .inl h1
   ·exact .inr ⟨v, by simp [t], h2⟩
 have d : ∀ (l a : List Oper) (acc : Array Nat), acc.size = a.length →
   (∀ i j : Nat, (acc.getD i 0).testBit j = true → ∃ o e, a[i]? = some o ∧ e ∈ o.after ∧ Region.binds .any e = true ∧ (j = e.on ∨ (acc.getD e.on 0).testBit j = true)) →
   ∀ i j : Nat, ((l.foldl (fun acc (o : Oper) => acc.push (o.after.foldl (fun s e => if Region.binds .any e then s ||| 2 ^ e.on ||| acc.getD e.on 0 else s) 0)) acc).getD i 0).testBit j = true →
    ∃ o e, (a ++ l)[i]? = some o ∧ e ∈ o.after ∧ Region.binds .any e = true ∧ (j = e.on ∨ ((l.foldl (fun acc (o : Oper) => acc.push (o.after.foldl (fun s e => if Region.binds .any e then s ||| 2 ^ e.on ||| acc.getD e.on 0 else s) 0)) acc).getD e.on 0).testBit j = true) := by
  intro l
  induction l with
  | nil => intro a acc _ c i j h; simpa using c i j h
  | cons o l ih =>
   intro a acc m c i j h
   rw [List.foldl_cons] at h ⊢
   have := ih (a ++ [o]) _ (by simp [m]) ?_ i j h
   ·simpa using this
   ·intro i j h
    have g : ∀ k, (acc.getD k 0).testBit j = true → ((acc.push (o.after.foldl (fun s e => if Region.binds .any e then s ||| 2 ^ e.on ||| acc.getD e.on 0 else s) 0)).getD k 0).testBit j = true := by
     intro k p
     rcases Nat.lt_or_ge k acc.size with hl | hl
     ·simp only [Array.getD_eq_getD_getElem?] at p ⊢
      rw [Array.getElem?_push_lt hl]
      simpa [hl] using p
     ·rw [Array.getD_eq_getD_getElem?, Array.getElem?_eq_none hl] at p; simp at p
    rcases Nat.lt_trichotomy i acc.size with hl | he | hg
    ·have h' : (acc.getD i 0).testBit j = true := by
      simp only [Array.getD_eq_getD_getElem?] at h ⊢
      rw [Array.getElem?_push_lt hl] at h
      simpa [hl] using h
     obtain ⟨u, e, h1, h2, r, x⟩ := c i j h'
     refine ⟨u, e, ?_, h2, r, x.imp id (g e.on)⟩
     rw [GL (by omega)]; exact h1
    ·subst he
     have h' : (o.after.foldl (fun s e => if Region.binds .any e then s ||| 2 ^ e.on ||| acc.getD e.on 0 else s) 0).testBit j = true := by
      simpa [Array.getD_eq_getD_getElem?] using h
     rw [← Array.foldl_toList] at h'
     rcases f acc _ _ j h' with h1 | ⟨e, he, h2, r⟩
     ·simp at h1
     ·refine ⟨o, e, ?_, by simpa using he, h2, r.imp id (g e.on)⟩
      rw [List.getElem?_append_right (by omega)]; simp [m]
    ·rw [Array.getD_eq_getD_getElem?, Array.getElem?_eq_none (by simp; omega)] at h; simp at h
 intro i j h
 have n : Region.before ops = ops.toList.foldl (fun acc (o : Oper) => acc.push (o.after.foldl (fun s e => if Region.binds .any e then s ||| 2 ^ e.on ||| acc.getD e.on 0 else s) 0)) #[] := by
  unfold Region.before
  rw [← Array.foldl_toList]
 rw [n] at h ⊢
 have := d ops.toList [] #[] rfl (by intro i j h; simp at h) i j h
 simpa using this
end
end Go.L
namespace Go.L
open Go
variable {P : Program} {ι : Inj} {h : Aa} {w : World}
def dfl : Ins := { d := none, g := none, o := .lena 0 }
structure A3p (P : Program) (sz : Nat) (ops : Array Oper) (r : List Ins) (n : Nat) : Prop where
 ins : ∀ i, i < ops.size → ∃ o i0, ops[i]? = some o ∧ cI P sz ops o = some i0 ∧ (r.getD i dfl).d = i0.d ∧ (r.getD i dfl).g = i0.g ∧ (r.getD i dfl).o = i0.o
 comm : ∀ i j, i < j → j < ops.size → ((Region.before ops).getD j 0).testBit i = false → comm (r.getD i dfl) (r.getD j dfl) = true
 back : ∀ (i : Nat) o, ops[i]? = some o → ∀ e ∈ o.after, Region.binds .any e = true → e.on < i
 rank : ∀ i, i < ops.size → cls (r.getD i dfl).o = .A → (r.getD i dfl).rank < n
 ranks : ∀ i j, i < ops.size → j < ops.size → i ≠ j → cls (r.getD i dfl).o = .A → cls (r.getD j dfl).o = .A → (r.getD i dfl).rank ≠ (r.getD j dfl).rank
section
variable {sz : Nat} {a : Act} {h' : Aa} {ws : List Nat} {F : Fence} {n nn : Nat} {cf : Bk} {Q : Exit → Act → World → Prop} {ops : Array Oper}
theorem A1o (hW : Wide F) (hcf : Kn P cf) (hk : Ge cf) {r : List Ins} (hr : A3p P sz ops r nn) {m : Nat} : ∀ (fuel : Nat) (listed : Array Bool) (c : List Nat) {ι : Inj} {h : Aa} {w : World} {f : FF} {a : Act}, fuel = c.length → listed.size = ops.size →
  (∀ j : Nat, j ∈ c ↔ j < ops.size ∧ listed.getD j true = false) → c.Pairwise (· < ·) → (∀ k : Nat, k < ops.size → listed.getD k true = true → ∀ j : Nat, ((Region.before ops).getD k 0).testBit j = true → listed.getD j false = true) →
  Sim P ι h w → FFR ι sz f a.tmps → m ≤ h.length → (∀ j ∈ c, cls (r.getD j dfl).o = .A → m + (r.getD j dfl).rank < h.length ∧ ι (m + (r.getD j dfl).rank) = none) →
  ∀ {f' h' ws}, Dt cf m (c.map fun j => r.getD j dfl) f h = some (f', h', ws) →
  (∀ ι' a' w', St P ι h w ι' h' w' → (∀ b, b < m → ι' b = ι b) → FFR ι' sz f' a'.tmps → a'.defers = a.defers → Q .normal a' w') → wpAnyIn F n P .any ops Q fuel listed a w := by
 intro fuel
 induction fuel with
 | zero =>
  intro listed c ι h w f a hfuel hsz hc hsort hclo hs hf hm hroom f' h' ws hv hq
  have an : c = [] := List.eq_nil_of_length_eq_zero hfuel.symm
  subst an
  simp only [List.map_nil, Dt, OI, Prod.mk.injEq] at hv
  obtain ⟨rfl, rfl, rfl⟩ := hv
  refine ⟨?_, hq ι a w (St.refl hs) (fun _ _ => rfl) hf rfl⟩
  cases hrd : Region.ready .any ops listed with
  | nil => rfl
  | cons i l =>
   have hi : i ∈ Region.ready .any ops listed := by rw [hrd]; simp
   obtain ⟨h1, o, h2, _⟩ := mem_ready.1 hi
   have := (hc i).2 ⟨(Array.getElem?_eq_some_iff.1 h2).1, h1⟩
   cases this
 | succ fuel ih =>
  intro listed c ι h w f a hfuel hsz hc hsort hclo hs hf hm hroom f' h' ws hv hq
  refine ⟨fun ab => ?_, fun i hi => ?_⟩
  ·exfalso
   cases c with
   | nil => simp at hfuel
   | cons i c =>
    obtain ⟨a6, a9⟩ := (hc i).1 (by simp)
    have : i ∈ Region.ready .any ops listed := by
     refine mem_ready.2 ⟨a9, ops[i], by simp [a6], fun e he hb => ?_⟩
     have ap := hr.back i ops[i] (by simp [a6]) e he hb
     have t : e.on < listed.size := by omega
     cases hl : listed.getD e.on true with
     | true => rw [Array.getD_eq_getD_getElem?] at hl ⊢; simpa [t] using hl
     | false =>
      have ai := (hc e.on).2 ⟨by omega, hl⟩
      rcases List.mem_cons.1 ai with e1 | h1
      ·omega
      ·have := (List.pairwise_cons.1 hsort).1 _ h1; omega
    rw [ab] at this; cases this
  ·obtain ⟨a9, o, ho, a7⟩ := mem_ready.1 hi
   have a5 : i < ops.size := (Array.getElem?_eq_some_iff.1 ho).1
   have ag := (hc i).2 ⟨a5, a9⟩
   obtain ⟨c1, c2, rfl⟩ := List.append_of_mem ag
   have hp := List.pairwise_append.1 hsort
   have a3 : ∀ j : Nat, ((Region.before ops).getD i 0).testBit j = true → listed.getD j false = true := by
    intro j hj
    obtain ⟨o', e, h1, h2, h3, h4⟩ := Ak2 ops i j hj
    rw [ho] at h1; cases h1
    have hl := a7 e h2 h3
    rcases h4 with rfl | h4
    ·exact hl
    ·have a6 := hr.back i o ho e h2 h3
     have t : e.on < listed.size := by omega
     exact hclo e.on (by omega) (by rw [Array.getD_eq_getD_getElem?] at hl ⊢; simpa [t] using hl) j h4
   have aa : ∀ x ∈ c1.map (fun j => r.getD j dfl), comm x (r.getD i dfl) = true := by
    intro x hx
    obtain ⟨j, hj, rfl⟩ := List.mem_map.1 hx
    have am : j < i := hp.2.2 j hj i (by simp)
    refine hr.comm j i am a5 ?_
    cases hb : ((Region.before ops).getD i 0).testBit j with
    | false => rfl
    | true =>
     have h1 := a3 j hb
     have h2 := ((hc j).1 (by simp [hj])).2
     have t : j < listed.size := by omega
     rw [Array.getD_eq_getD_getElem?] at h1 h2
     simp [t] at h1 h2
     rw [h1] at h2; cases h2
   rw [List.map_append, List.map_cons] at hv
   have s := Zy hk aa hv
   rw [← List.map_append, Ok] at s
   obtain ⟨o2, i0, af, ak, ed, eg, eo⟩ := hr.ins i a5
   rw [ho] at af; cases af
   obtain ⟨hd, aj, hg, ad⟩ := Avu ak
   rw [← eg] at hg
   rw [← eo] at ad
   rw [aj] at ed
   have a4 : ∀ {ι1 : Inj} {h1 : Aa} {w1 : World} {f1 : FF} {a1 : Act} {a8 : List Nat}, St P ι h w ι1 h1 w1 → h.length ≤ h1.length → (∀ b, b < h.length → (cls (r.getD i dfl).o = .A → b ≠ m + (r.getD i dfl).rank) → ι1 b = ι b) →
     (∀ b, b < m → ι1 b = ι b) → FFR ι1 sz f1 a1.tmps → a1.defers = a.defers → Qy a8 (Dt cf m ((c1 ++ c2).map fun j => r.getD j dfl) f1 h1) = some (f', h', ws) → wpAnyIn F n P .any ops Q fuel (listed.setIfInBounds i true) a1 w1 := by
    intro ι1 h1 w1 f1 a1 a8 st hlen hold hlow hf1 hdef hadd
    cases hr2 : Dt cf m ((c1 ++ c2).map fun j => r.getD j dfl) f1 h1 with
    | none => rw [hr2] at hadd; cases hadd
    | some p =>
     obtain ⟨f2, h2, aq⟩ := p
     rw [hr2] at hadd
     simp only [Qy, OI, Prod.mk.injEq] at hadd
     obtain ⟨rfl, rfl, _⟩ := hadd
     have ac : ∀ j, j ∈ c1 ++ c2 → j ≠ i := by
      intro j hj
      rcases List.mem_append.1 hj with hj | hj
      ·have := hp.2.2 j hj i (by simp); omega
      ·have := (List.pairwise_cons.1 hp.2.1).1 j hj; omega
     have z : ∀ (j : Nat) (d : Bool), j ≠ i → (listed.setIfInBounds i true).getD j d = listed.getD j d := by
      intro j d hj
      rw [Array.getD_eq_getD_getElem?, Array.getD_eq_getD_getElem?, Array.getElem?_setIfInBounds_ne (Ne.symm hj)]
     have u : ∀ d : Bool, (listed.setIfInBounds i true).getD i d = true := by
      intro d
      rw [Array.getD_eq_getD_getElem?]; simp [hsz, a5]
     refine ih (listed.setIfInBounds i true) (c1 ++ c2) (by simp at hfuel ⊢; omega) (by simpa using hsz) (fun j => ?_) ?_ (fun k al ah j hj => ?_) st.sim hf1 (by omega) (fun j hj hA => ?_) hr2 fun ι2 a2 w2 st2 old2 hf2 hd2 => hq ι2 a2 w2 (st.trans st2) (fun b hb => (old2 b hb).trans (hlow b hb)) hf2 (hd2.trans hdef)
     ·by_cases e : j = i
      ·subst e
       rw [u]
       exact ⟨fun hm => absurd rfl (ac j hm), fun hm => by simp at hm⟩
      ·rw [z j true e, ← hc j]
       simp [e]
     ·exact List.pairwise_append.2 ⟨hp.1, (List.pairwise_cons.1 hp.2.1).2, fun x hx y hy => hp.2.2 x hx y (by simp [hy])⟩
     ·by_cases e : k = i
      ·subst e
       have := a3 j hj
       by_cases e2 : j = k
       ·rw [e2]; exact u _
       ·rw [z j false e2]; exact this
      ·rw [z k true e] at ah
       have := hclo k al ah j hj
       by_cases e2 : j = i
       ·rw [e2]; exact u _
       ·rw [z j false e2]; exact this
     ·have ae : j ∈ c1 ++ i :: c2 := by simp at hj ⊢; rcases hj with h | h; exact .inl h; exact .inr (.inr h)
      obtain ⟨k1, k2⟩ := hroom j ae hA
      refine ⟨by omega, (hold _ k1 fun ao => ?_).trans k2⟩
      have := hr.ranks j i ((hc j).1 ae).1 a5 (ac j hj) hA ao
      omega
   unfold wpOpIn
   simp only [ho]
   unfold Iz at s
   cases hw : wanted f (r.getD i dfl).g with
   | none => rw [hw] at s; cases s
   | some b =>
    rw [hw] at s
    have a0 := Za (o := o) (ops := ops) hf hg hw
    cases b with
    | true =>
     rw [if_pos a0]
     simp only at s
     cases hv1 : opD cf m f h (r.getD i dfl) with
     | none => rw [hv1] at s; cases s
     | some p =>
      obtain ⟨v, h1, a8⟩ := p
      rw [hv1] at s
      simp only at s
      refine A0r hW hcf hs hf ad hv1 (fun hA => hroom i ag hA) fun ι' w' v' st old hvr => ?_
      refine a4 st (Agq hk hm hv1).len old (fun b hb => old b (by omega) fun hA => by omega) (f1 := G4 f (r.getD i dfl).d v) (by rw [ed]; exact Yx (a := a) (hf.mono st.sub) hd hvr) ?_ s
      cases o.dst <;> rfl
    | false =>
     rw [if_neg (by rw [a0]; simp)]
     refine ⟨fun f _ => hW.fn f, ?_⟩
     simp only at s
     refine a4 (St.refl hs) (Nat.le_refl _) (fun _ _ _ => rfl) (fun _ _ => rfl) (f1 := G4 f (r.getD i dfl).d undef) (by rw [ed]; exact Yx (a := a) hf hd VR.undef) ?_ s
     cases o.dst <;> rfl
end
end Go.L
