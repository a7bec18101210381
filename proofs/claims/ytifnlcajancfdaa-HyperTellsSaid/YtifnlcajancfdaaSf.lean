/- THE LOGICAL MACHINE AND THE MODEL: a statement in order. -/
import Derived.Test.YtifnlcajancfdaaSe
import Derived.Test.YtifnlcajancfdaaK
set_option linter.unusedVariables false
set_option linter.unusedSimpArgs false
namespace Go.L
open Go
variable {P : Program} {ι : Inj} {h : Aa} {w : World}
section
variable {sz : Nat} {f f' : FF} {a : Act} {o : Oper} {q : O} {v : Value} {h' : Aa} {ws : List Nat} {F : Fence} {n : Nat} {cf : Ba} {next : Act → World → Prop} {Q : Exit → Act → World → Prop} {ops : Array Oper}
theorem Auy {i : Ins} (h : cI P sz ops o = some i) : (∀ d, o.dst = some d → d < sz) ∧ i.d = o.dst ∧ cG ops o.guard = some i.g ∧ cO P o.op = some i.o := by
 have a : ∀ d, o.dst = some d → d < sz := by
  intro d a
  unfold cI at h
  rw [a] at h
  simp only [decide_eq_true_eq] at h
  split at h
  ·assumption
  ·cases h
 unfold cI at h
 rw [if_pos (by cases e : o.dst with | none => rfl | some d => simpa using a d e)] at h
 simp only [OB, OM] at h
 obtain ⟨g, f, j, c, rfl⟩ := h
 exact ⟨a, rfl, f, c⟩
theorem X6 {ι' : Inj} {d : Option Nat} {v' : Value} (hf : FFR ι' sz f a.tmps) (hd : ∀ x, d = some x → x < sz) (hv : VR ι' v v') : FFR ι' sz (Gr f d v) (a.put d v').tmps := by
 cases d with
 | none => exact hf
 | some d => exact hf.put (hd d rfl) hv
theorem Yh {g : Option (Nat × Bool)} (hf : FFR ι sz f a.tmps) (hg : cG ops o.guard = some g) {b : Bool} (hw : wanted f g = some b) : Region.wanted o (yielded ops a.tmps) = b := by
 unfold cG at hg
 unfold Region.wanted
 split at hg
 ·rename_i e
  simp only [OI] at hg; subst hg
  simp only [wanted, OI] at hw; subst hw
  rw [e]
 ·rename_i j s e
  rw [e]
  simp only [OM] at hg
  obtain ⟨d, u, rfl⟩ := hg
  simp only [wanted] at hw
  have n := hf.at_ d
  simp only [yielded, u, Option.bind_some]
  split at hw
  ·rename_i c p
   rw [p] at n
   have l := n.bool_inv
   have : a.tmps[d]? = some (.bool c) := by
    rw [Array.getD_eq_getD_getElem?] at l
    cases ht : a.tmps[d]? with
    | none => rw [ht] at l; cases l
    | some x => rw [ht] at l; simp at l; rw [l]
   rw [this]
   simp only [OI] at hw; subst hw
   simp
  ·rename_i y p
   rw [p] at n
   split at hw
   ·rename_i m
    simp only [OI] at hw; subst hw
    obtain ⟨t, r, _⟩ := n.tuple_inv (by intro e; simp only [J4, Value.tuple.injEq] at e; subst e; simp at m)
    have : ∀ c, a.tmps[d]? ≠ some (.bool c) := by
     intro c v
     rw [Array.getD_eq_getD_getElem?, v] at r
     cases r
    cases ht : a.tmps[d]? with
    | none => simp
    | some x =>
     cases x <;> first | (exact absurd ht (this _)) | simp
   ·cases hw
  ·cases hw
def Ops (P : Program) (sz : Nat) (ops : Array Oper) : List Nat → List Ins → Prop := All2 fun i ins => ∃ o, ops[i]? = some o ∧ cI P sz ops o = some ins
theorem Av7 (hW : Wide F) (hcf : Kf P cf) (hk : Fa cf) {l : List Nat} {ins : List Ins} (hl : Ops P sz ops l ins) : ∀ {ι : Inj} {h : Aa} {w : World} {f : FF} {a : Act}, Sim P ι h w → FFR ι sz f a.tmps → ∀ {f' h' ws}, Fh cf ins f h = some (f', h', ws) →
  (∀ ι' a' w', St P ι h w ι' h' w' → Old ι h ι' → FFR ι' sz f' a'.tmps → a'.defers = a.defers → Q .normal a' w') → wpOpsIn F n P ops Q l a w := by
 induction hl with
 | nil =>
  intro ι h w f a hs hf f' h' ws hv hq
  simp only [Fh, OI, Prod.mk.injEq] at hv
  obtain ⟨rfl, rfl, rfl⟩ := hv
  exact hq ι a w (St.refl hs) (Old.refl _ _) hf rfl
 | @cons i ins l inss hi hl ih =>
  intro ι h w f a hs hf f' h' ws hv hq
  obtain ⟨o, u, hc⟩ := hi
  obtain ⟨j, p, x, e⟩ := Auy hc
  simp only [Fh] at hv
  simp only [wpOpsIn, u]
  cases hw : wanted f ins.g with
  | none => rw [hw] at hv; cases hv
  | some b =>
   rw [hw] at hv
   have c := Yh (o := o) (ops := ops) hf x hw
   cases b with
   | true =>
    rw [if_pos c]
    simp only at hv
    cases hv1 : opN cf f h ins.o with
    | none => rw [hv1] at hv; cases hv
    | some r =>
     obtain ⟨v, s, z⟩ := r
     rw [hv1] at hv
     simp only [Qq] at hv
     split at hv
     ·rename_i f2 h2 t y
      simp only [OI, Prod.mk.injEq] at hv
      obtain ⟨rfl, rfl, rfl⟩ := hv
      refine Axz hW hcf hs hf e hv1 fun ι' w' v' st old hv' => ?_
      refine ih st.sim (X6 (a := a) (hf.mono st.sub) j hv') (by rw [← p]; exact y) fun ι2 a2 w2 st2 old2 hf2 hd2 => ?_
      have d : h.length ≤ s.length := (Agb hk hv1).len
      refine hq ι2 a2 w2 (st.trans st2) (fun b m => (old2 b (Nat.lt_of_lt_of_le m d)).trans (old b m)) hf2 (hd2.trans ?_)
      cases o.dst <;> rfl
     ·cases hv
   | false =>
    rw [if_neg (by rw [c]; simp)]
    refine ⟨fun f _ => hW.fn f, ?_⟩
    simp only at hv
    refine ih hs (X6 (a := a) hf j VR.undef) (by rw [← p]; exact hv) fun ι2 a2 w2 st2 old2 hf2 hd2 => hq ι2 a2 w2 st2 old2 hf2 (hd2.trans ?_)
    cases o.dst <;> rfl
end
end Go.L
namespace Go.L
open Go
theorem Ye {s : Nat} : ∀ {l : List X}, X.t s ∈ l → s ∈ Qs l
 | [], h => by cases h
 | x :: l, h => by
  rcases List.mem_cons.1 h with e | h2
  ·subst e; simp [Qs]
  ·have a : s ∈ Qs l := Ye h2
   cases x with
   | t k => simp only [Qs]; exact List.mem_cons_of_mem _ a
   | c v => exact a
   | f g => exact a
theorem Auf {f f' : FF} {l : List X} (h : ∀ s ∈ Qs l, f s = f' s) : ∀ x ∈ l, ev f x = ev f' x := by
 intro x a
 cases x with
 | t s => exact h s (Ye a)
 | c v => rfl
 | f g => rfl
theorem Zu {f f' : FF} {l : List X} (h : ∀ x ∈ l, ev f x = ev f' x) : l.map (ev f) = l.map (ev f') := List.map_congr_left h
theorem Rl {f f' : FF} : ∀ {ps : List (Nat × Nat × X)} (h : ∀ x ∈ ps.map (fun p => p.2.2), ev f x = ev f' x) (c : List Value), Rm f ps c = Rm f' ps c
 | [], h, c => rfl
 | (o, n, x) :: ps, h, c => by
  have d : ev f x = ev f' x := h x (by simp)
  simp only [Rm, d]
  rw [Rl (fun y a => h y (by simp at a ⊢; exact .inr a))]
theorem Gp {f f' : FF} {x : Option X} (h : ∀ y ∈ oX x, ev f y = ev f' y) (d k : Nat) : Bn f x d k = Bn f' x d k := by
 cases x with
 | none => rfl
 | some x => simp only [Bn, h x (by simp [oX])]
theorem Ajk {f f' : FF} {o : O} (h : ∀ x ∈ o.xs, ev f x = ev f' x) : At f o = At f' o := by
 cases o <;> simp only [O.xs, List.mem_cons, List.mem_append, List.not_mem_nil, or_false, forall_eq_or_imp, forall_eq] at h <;> simp only [At]
 case bld z ps => rw [Rl h]
 case slt x lo hi =>
  simp only [h.1, Gp (x := lo) (fun y c => h.2 y (.inl c)), Gp (x := hi) (fun y c => h.2 y (.inr c))]
 case sla n s x lo hi =>
  simp only [h.1, Gp (x := lo) (fun y c => h.2 y (.inl c)), Gp (x := hi) (fun y c => h.2 y (.inr c))]
 case sls s x lo hi mx =>
  have j : ∀ d k, Bn f lo d k = Bn f' lo d k := Gp (fun y c => h.2 y (.inl (.inl c)))
  have l : ∀ d k, Bn f hi d k = Bn f' hi d k := Gp (fun y c => h.2 y (.inl (.inr c)))
  have g : ∀ d k, Bn f mx d k = Bn f' mx d k := Gp (fun y c => h.2 y (.inr c))
  simp only [h.1, Yw, j, l, g]
 case mkf fn a b => rw [Zu (fun x e => h x (.inl e)), Zu (fun x e => h x (.inr e))]
 case min x r => rw [h.1, Zu h.2]
 case max x r => rw [h.1, Zu h.2]
 all_goals simp only [h]
theorem Acn {f f' : FF} {o : O} {hp : Aa} (h : ∀ x ∈ o.xs, ev f x = ev f' x) : Ge f hp o = Ge f' hp o ∧ Abu f o = Abu f' o := by
 cases o <;> simp only [O.xs, List.mem_cons, List.mem_append, List.not_mem_nil, or_false, forall_eq_or_imp, forall_eq] at h <;> simp only [Ge, Abu] <;> simp only [h, and_self]
theorem Apj {f f' : FF} {o : O} (h : ∀ x ∈ o.xs, ev f x = ev f' x) : Iz f o = Iz f' o := by
 cases o <;> simp only [O.xs, List.mem_cons, List.mem_append, List.not_mem_nil, or_false, forall_eq_or_imp, forall_eq] at h <;> simp only [Iz]
 case bsl s z n ps => rw [Rl h]
 all_goals simp only [h]
theorem Apz {f f' : FF} {o : O} {hp : Aa} (h : ∀ x ∈ o.xs, ev f x = ev f' x) : Nn f hp o = Nn f' hp o := by
 cases o <;> simp only [O.xs, List.mem_cons, List.mem_append, List.not_mem_nil, or_false, forall_eq_or_imp, forall_eq] at h <;> simp only [Nn] <;> simp only [h]
theorem Ace {cf : Ba} {m : Nat} {f f' : FF} {hp : Aa} {i : Ins} (h : ∀ s ∈ i.slots, f s = f' s) : opD cf m f hp i = opD cf m f' hp i ∧ wanted f i.g = wanted f' i.g := by
 have c : ∀ x ∈ i.o.xs, ev f x = ev f' x := Auf fun s j => h s (List.mem_append_right _ j)
 constructor
 ·unfold opD
  rw [Ajk c, (Acn (hp := hp) c).1, (Acn (hp := hp) c).2, Apj c, Apz c]
  obtain ⟨d, g, o, l, t, r⟩ := i
  cases o <;> first | rfl | skip
  case st n a v =>
   simp only [O.xs, List.mem_cons, List.not_mem_nil, or_false, forall_eq_or_imp, forall_eq] at c
   simp only [c]
  case call g args =>
   simp only [O.xs, List.mem_cons, forall_eq_or_imp] at c
   simp only [c.1, Zu c.2]
 ·cases hg : i.g with
  | none => rfl
  | some p =>
   obtain ⟨d, e⟩ := p
   have : f d = f' d := h d (by simp [Ins.slots, hg])
   simp only [wanted, this]
def Gx (cf : Ba) (m : Nat) (i : Ins) (f : FF) (h : Aa) : Option (FF × Aa × List Nat) :=
 match wanted f i.g with
 | some true => match opD cf m f h i with
  | some (v, h', ws) => some (Gr f i.d v, h', ws)
  | none => none
 | some false => some (Gr f i.d undef, h, [])
 | none => none
theorem Aqg {α : Type} (x : Option (α × Aa × List Nat)) : Qq [] x = x := by
 cases x with
 | none => rfl
 | some r => rfl
theorem N5 (cf : Ba) (m : Nat) (i : Ins) (r : List Ins) (f : FF) (h : Aa) :
  Dm cf m (i :: r) f h = match Gx cf m i f h with | some (f', h', ws) => Qq ws (Dm cf m r f' h') | none => none := by
 simp only [Dm, Gx]
 cases wanted f i.g with
 | none => rfl
 | some b =>
  cases b with
  | true =>
   simp only
   cases opD cf m f h i with
   | none => rfl
   | some r => rfl
  | false => simp only [Aqg]
theorem Sm {f : FF} {d d' : Option Nat} {v v' : Value} (h : ∀ x, d = some x → d' ≠ some x) : Gr (Gr f d v) d' v' = Gr (Gr f d' v') d v := by
 cases d with
 | none => rfl
 | some x =>
  cases d' with
  | none => rfl
  | some y =>
   have a : x ≠ y := fun e => h x rfl (by rw [e])
   funext s
   simp only [Gr, upd]
   by_cases c : s = y
   ·by_cases h2 : s = x
    ·exact absurd (h2.symm.trans c) a
    ·simp [c, Ne.symm a]
   ·simp [c]
theorem Za {f : FF} {d : Option Nat} {v : Value} {l : List Nat} (h : ∀ x, d = some x → x ∉ l) : ∀ s ∈ l, Gr f d v s = f s := by
 intro s a
 cases d with
 | none => rfl
 | some x =>
  have : s ≠ x := fun e => h x rfl (e ▸ a)
  simp [Gr, upd, this]
theorem Ip {f : FF} {o : O} {h h' : Aa} {m : Nat} (hl : low m (Abu f o) = true) (hh : ∀ b, b < m → h'[b]? = h[b]?) : Ge f h' o = Ge f h o := by
 cases o <;> simp only [Ge] <;> simp only [Abu] at hl
 case ld g x =>
  unfold Re
  split
  ·rename_i a e; rw [e] at hl; rw [hh _ (by simpa [low] using hl)]
  ·rfl
 case look q z x k ok =>
  unfold W7
  generalize ev f x = vx at hl ⊢
  cases vx <;> first | rfl | skip
  rename_i r
  cases r with
  | none => rfl
  | some r => simp only; rw [hh _ (by simpa [low] using hl)]
 case lenm x =>
  split
  ·rfl
  ·rename_i r e; rw [e] at hl; rw [hh _ (by simpa [low] using hl)]
  ·rfl
 case b2s x =>
  split
  ·rename_i b n c e
   rw [e] at hl ⊢
   cases b with
   | none => rfl
   | some a => simp only [cellsOf]; rw [hh _ (by simpa [low] using hl)]
  ·rfl
theorem Ax2 {cf : Ba} {m : Nat} {f : FF} {i : Ins} {h : Aa} {r : Value × Aa × List Nat} (hc : cls i.o = .P) (hv : opD cf m f h i = some r) : ∃ v, r = (v, h, []) ∧ ∀ k, opD cf m f k i = some (v, k, []) := by
 unfold opD at hv ⊢
 rw [hc] at hv
 simp only [hc] at hv ⊢
 cases hp : At f i.o with
 | none => rw [hp] at hv; cases hv
 | some v => rw [hp] at hv; simp only [OI] at hv; exact ⟨v, hv.symm, fun k => rfl⟩
theorem Zg {cf : Ba} {m : Nat} {f : FF} {i : Ins} {h : Aa} {r : Value × Aa × List Nat} (hc : cls i.o = .M) (hv : opD cf m f h i = some r) :
  ∃ v, r = (v, h, []) ∧ (i.flag = true → low m (Abu f i.o) = true) ∧ ∀ k, Ge f k i.o = Ge f h i.o → opD cf m f k i = some (v, k, []) := by
 unfold opD at hv ⊢
 simp only [hc] at hv ⊢
 split at hv
 ·cases hv
 ·rename_i c
  cases hp : Ge f h i.o with
  | none => rw [hp] at hv; cases hv
  | some v =>
   rw [hp] at hv; simp only [OI] at hv
   refine ⟨v, hv.symm, fun e => ?_, fun k d => ?_⟩
   ·cases a : low m (Abu f i.o) with
    | true => rfl
    | false => exact absurd ⟨e, a⟩ c
   ·rw [if_neg c, d]
theorem As7 {cf : Ba} {m : Nat} {f : FF} {i : Ins} {h : Aa} {r : Value × Aa × List Nat} (hc : cls i.o = .A) (hv : opD cf m f h i = some r) : ∃ v o, r = (v, h.set (m + i.rank) o, []) ∧ ∀ k, opD cf m f k i = some (v, k.set (m + i.rank) o, []) := by
 unfold opD at hv ⊢
 simp only [hc] at hv ⊢
 cases hp : Iz f i.o with
 | none => rw [hp] at hv; cases hv
 | some n => rw [hp] at hv; simp only [OI] at hv; exact ⟨_, _, hv.symm, fun k => rfl⟩
theorem Ax1 {cf : Ba} {m : Nat} {f : FF} {i : Ins} {h : Aa} {r : Value × Aa × List Nat} (hc : cls i.o = .S) (hv : opD cf m f h i = some r) (hfl : i.flag = true) :
  ∃ v ws h', r = (v, h', ws) ∧ ∀ b, b < m → h'[b]? = h[b]? := by
 unfold opD at hv
 simp only [hc] at hv
 obtain ⟨d, g, o, s, u, z⟩ := i
 cases o <;> first | (simp [cls] at hc; done) | skip
 rename_i n a x
 simp only at hv hfl
 split at hv
 ·cases hv
 ·rename_i j
  have c : high m (ev f a) = true := by
   cases l : high m (ev f a) with
   | true => rfl
   | false => exact absurd ⟨hfl, l⟩ j
  cases hs : G0 n (ev f a) (ev f x) h with
  | none => rw [hs] at hv; cases hv
  | some p =>
   rw [hs] at hv; simp only [OI] at hv
   refine ⟨_, _, _, hv.symm, fun b y => ?_⟩
   unfold G0 at hs
   split at hs <;> try (cases hs; done)
   rename_i t e
   split at hs <;> try (cases hs; done)
   split at hs <;> try (cases hs; done)
   simp only [OI] at hs
   rw [← hs]
   rw [e] at c
   simp only [high, decide_eq_true_eq] at c
   exact List.getElem?_set_ne (by omega)
theorem Ax3 {cf : Ba} (hk : Fa cf) {m : Nat} {f : FF} {i : Ins} {h : Aa} {r : Value × Aa × List Nat} (hc : cls i.o = .C) (hv : opD cf m f h i = some r) (hfl : i.flag = true) : ∃ v, r = (v, h, []) := by
 unfold opD at hv
 simp only [hc] at hv
 obtain ⟨d, g, o, p, t, u⟩ := i
 cases o <;> first | (simp [cls] at hc; done) | skip
 rename_i s c
 simp only at hv hfl
 split at hv
 ·rename_i v h' a l
  split at hv
  ·cases hv
  ·rename_i j
   simp only [OI] at hv
   have h2 : h'.length = h.length ∧ a = [] := by
    by_cases e : h'.length = h.length ∧ a = []
    ·exact e
    ·exact absurd (.inl ⟨hfl, e⟩) j
   have n := hk _ _ _ _ _ _ l
   have : h' = h := by
    apply List.ext_getElem?
    intro b
    rcases Nat.lt_or_ge b h.length with hb | hb
    ·exact n.at_ b hb (by rw [h2.2]; simp)
    ·rw [List.getElem?_eq_none hb, List.getElem?_eq_none (by rw [h2.1]; exact hb)]
   rw [← hv, this, h2.2]; exact ⟨v, rfl⟩
 ·cases hv
theorem Un {cf0 : Ba} (hk : Fa cf0) {m : Nat} {f : FF} {i : Ins} {h : Aa} {v : Value} {h' : Aa} {ws : List Nat} (hc : cls i.o = .C ∨ cls i.o = .E) (hv : opD cf0 m f h i = some (v, h', ws)) (hl : i.loose = true) : ws = [] ∧ ∀ b, b < h.length → h'[b]? = h[b]? := by
 unfold opD at hv
 rcases hc with hc | hc
 ·simp only [hc] at hv
  obtain ⟨d, g, o, t, x, y⟩ := i
  cases o <;> first | (simp [cls] at hc; done) | skip
  rename_i u n
  simp only at hv hl
  split at hv
  ·rename_i s p c e
   split at hv
   ·cases hv
   ·rename_i j
    simp only [OI, Prod.mk.injEq] at hv
    obtain ⟨rfl, rfl, rfl⟩ := hv
    have h2 : c = [] := by
     cases c with
     | nil => rfl
     | cons a r => exact absurd (.inr ⟨hl, by simp⟩) j
    subst h2
    exact ⟨rfl, fun b l => (hk _ _ _ _ _ _ e).at_ b l (by simp)⟩
  ·cases hv
 ·simp only [hc] at hv
  split at hv
  ·rename_i s p c e
   split at hv
   ·cases hv
   ·rename_i j
    simp only [OI, Prod.mk.injEq] at hv
    obtain ⟨rfl, rfl, rfl⟩ := hv
    have h2 : c = [] := by
     cases c with
     | nil => rfl
     | cons a r => exact absurd ⟨hl, by simp⟩ j
    subst h2
    exact ⟨rfl, fun b l => (Aag (Nat.le_refl _) e).at_ b l (by simp)⟩
  ·cases hv
theorem As6 {cf : Ba} (hk : Fa cf) {m : Nat} {f : FF} {x y : Ins} {h h1 h2 : Aa} {vx vy : Value} {wx wy : List Nat} (hm : m ≤ h.length) (hx : opD cf m f h x = some (vx, h1, wx)) (hy : opD cf m f h1 y = some (vy, h2, wy))
  (hc : Ann x y = true) : ∃ k1 uy ux, opD cf m f h y = some (vy, k1, uy) ∧ opD cf m f k1 x = some (vx, h2, ux) ∧ uy ++ ux = wx ++ wy := by
 unfold Ann at hc
 by_cases t : cls x.o = .P
 ·obtain ⟨v, e, d⟩ := Ax2 t hx
  cases e
  exact ⟨h2, wy, [], hy, d h2, by simp⟩
 by_cases p : cls y.o = .P
 ·obtain ⟨v, e, d⟩ := Ax2 p hy
  cases e
  exact ⟨h, [], wx, d h, hx, by simp⟩
 cases cx : cls x.o with
 | P => exact absurd cx t
 | E =>
  cases cy : cls y.o with
  | P => exact absurd cy p
  | M =>
   rw [cx, cy] at hc; simp only [Bool.and_eq_true] at hc
   obtain ⟨e, l⟩ := Un hk (.inr cx) hx hc.1
   subst e
   obtain ⟨j, g, c, a⟩ := Zg cy hy
   cases g
   have n : Ge f h y.o = Ge f h1 y.o := (Ip (c hc.2) fun b r => l b (by omega)).symm
   exact ⟨h, [], [], a h n, hx, rfl⟩
  | _ => rw [cx, cy] at hc; simp at hc
 | M =>
  obtain ⟨v, e, c, d⟩ := Zg cx hx
  cases e
  cases cy : cls y.o with
  | P => exact absurd cy p
  | E =>
   rw [cx, cy] at hc; simp only [Bool.and_eq_true] at hc
   obtain ⟨g, l⟩ := Un hk (.inr cy) hy hc.1
   subst g
   exact ⟨_, [], [], hy, d _ (Ip (c hc.2) fun b r => l b (by omega)), rfl⟩
  | M =>
   obtain ⟨j, g, _, _⟩ := Zg cy hy
   cases g
   exact ⟨h, [], [], hy, hx, rfl⟩
  | A =>
   rw [cx, cy] at hc; simp only at hc
   obtain ⟨j, o, g, s⟩ := As7 cy hy
   cases g
   exact ⟨_, [], [], hy, d _ (Ip (c hc) fun b r => List.getElem?_set_ne (by omega)), rfl⟩
  | S =>
   rw [cx, cy] at hc; simp only [Bool.and_eq_true] at hc
   obtain ⟨j, u, h', g, s⟩ := Ax1 cy hy hc.2
   cases g
   exact ⟨_, wy, [], hy, d _ (Ip (c hc.1) s), by simp⟩
  | C =>
   rw [cx, cy] at hc; simp only [Bool.or_eq_true, Bool.and_eq_true] at hc
   rcases hc with hc | hc
   ·obtain ⟨j, g⟩ := Ax3 hk cy hy hc
    cases g
    exact ⟨h, [], [], hy, hx, rfl⟩
   ·obtain ⟨g, l⟩ := Un hk (.inl cy) hy hc.1
    subst g
    exact ⟨_, [], [], hy, d _ (Ip (c hc.2) fun b r => l b (by omega)), rfl⟩
 | A =>
  obtain ⟨v, o, e, d⟩ := As7 cx hx
  cases e
  cases cy : cls y.o with
  | P => exact absurd cy p
  | E => rw [cx, cy] at hc; simp at hc
  | S => rw [cx, cy] at hc; simp at hc
  | C => rw [cx, cy] at hc; simp at hc
  | M =>
   rw [cx, cy] at hc; simp only at hc
   obtain ⟨j, g, c, a⟩ := Zg cy hy
   cases g
   have n : Ge f h y.o = Ge f (h.set (m + x.rank) o) y.o := (Ip (c hc) fun b r => List.getElem?_set_ne (by omega)).symm
   exact ⟨h, [], [], a h n, d h, rfl⟩
  | A =>
   rw [cx, cy] at hc; simp only [bne_iff_ne, ne_eq] at hc
   obtain ⟨j, z, g, a⟩ := As7 cy hy
   cases g
   refine ⟨_, [], [], a h, ?_, rfl⟩
   rw [d, List.set_comm _ _ (by omega)]
 | S =>
  cases cy : cls y.o with
  | P => exact absurd cy p
  | M =>
   rw [cx, cy] at hc; simp only [Bool.and_eq_true] at hc
   obtain ⟨v, u, h', e, s⟩ := Ax1 cx hx hc.1
   cases e
   obtain ⟨j, g, c, a⟩ := Zg cy hy
   cases g
   have n : Ge f h y.o = Ge f h1 y.o := (Ip (c hc.2) s).symm
   exact ⟨h, [], wx, a h n, hx, by simp⟩
  | _ => rw [cx, cy] at hc; simp at hc
 | C =>
  cases cy : cls y.o with
  | P => exact absurd cy p
  | M =>
   rw [cx, cy] at hc; simp only [Bool.or_eq_true, Bool.and_eq_true] at hc
   rcases hc with hc | hc
   ·obtain ⟨v, e⟩ := Ax3 hk cx hx hc
    cases e
    obtain ⟨j, g, c, a⟩ := Zg cy hy
    cases g
    exact ⟨h, [], [], hy, hx, rfl⟩
   ·obtain ⟨e, l⟩ := Un hk (.inl cx) hx hc.1
    subst e
    obtain ⟨j, g, c, a⟩ := Zg cy hy
    cases g
    have n : Ge f h y.o = Ge f h1 y.o := (Ip (c hc.2) fun b r => l b (by omega)).symm
    exact ⟨h, [], [], a h n, hx, rfl⟩
  | _ => rw [cx, cy] at hc; simp at hc
theorem Aup {x y : Ins} (hc : comm x y = true) : Ann x y = true ∧ (∀ d, x.d = some d → d ∉ y.slots) ∧ (∀ d, x.d = some d → y.d ≠ some d) ∧ (∀ d, y.d = some d → d ∉ x.slots) := by
 unfold comm at hc
 simp only [Bool.and_eq_true] at hc
 refine ⟨hc.1.1, fun d a => ?_, fun d a => ?_, fun d a => ?_⟩
 ·have := hc.1.2; rw [a] at this; simp at this; exact this.1
 ·have := hc.1.2; rw [a] at this; simp at this; exact this.2
 ·have := hc.2; rw [a] at this; simp at this; exact this
theorem Ais {cf : Ba} (hk : Fa cf) {m : Nat} {x y : Ins} (hc : comm x y = true) {f f1 f2 : FF} {h h1 h2 : Aa} {wx wy : List Nat} (hm : m ≤ h.length) (hx : Gx cf m x f h = some (f1, h1, wx)) (hy : Gx cf m y f1 h1 = some (f2, h2, wy)) :
  ∃ g1 k1 uy ux, Gx cf m y f h = some (g1, k1, uy) ∧ Gx cf m x g1 k1 = some (f2, h2, ux) ∧ uy ++ ux = wx ++ wy := by
 obtain ⟨o, d1, l, d3⟩ := Aup hc
 unfold Gx at hx
 have n : ∀ v c, opD cf m (Gr f x.d v) c y = opD cf m f c y ∧ wanted (Gr f x.d v) y.g = wanted f y.g := fun v c => Ace (Za d1)
 have e : ∀ v c, opD cf m (Gr f y.d v) c x = opD cf m f c x ∧ wanted (Gr f y.d v) x.g = wanted f x.g := fun v c => Ace (Za d3)
 cases wx' : wanted f x.g with
 | none => rw [wx'] at hx; cases hx
 | some bx =>
  rw [wx'] at hx
  cases bx with
  | true =>
   simp only at hx
   cases ox : opD cf m f h x with
   | none => rw [ox] at hx; cases hx
   | some r =>
    obtain ⟨u, s, ww⟩ := r
    rw [ox] at hx
    simp only [OI, Prod.mk.injEq] at hx
    obtain ⟨rfl, rfl, rfl⟩ := hx
    unfold Gx at hy
    rw [(n u s).2, (n u s).1] at hy
    cases a : wanted f y.g with
    | none => rw [a] at hy; cases hy
    | some by_ =>
     rw [a] at hy
     cases by_ with
     | true =>
      simp only at hy
      cases oy : opD cf m f s y with
      | none => rw [oy] at hy; cases hy
      | some r =>
       obtain ⟨j, p, t⟩ := r
       rw [oy] at hy
       simp only [OI, Prod.mk.injEq] at hy
       obtain ⟨rfl, rfl, rfl⟩ := hy
       obtain ⟨k1, uy, ux, e1, e2, z⟩ := As6 hk hm ox oy o
       refine ⟨Gr f y.d j, k1, uy, ux, by simp only [Gx, a, e1], ?_, z⟩
       simp only [Gx, (e j k1).2, (e j k1).1, wx', e2, Sm l]
     | false =>
      simp only [OI, Prod.mk.injEq] at hy
      obtain ⟨rfl, rfl, rfl⟩ := hy
      refine ⟨Gr f y.d undef, h, [], ww, by simp only [Gx, a], ?_, by simp⟩
      simp only [Gx, (e undef h).2, (e undef h).1, wx', ox, Sm l]
  | false =>
   simp only [OI, Prod.mk.injEq] at hx
   obtain ⟨rfl, rfl, rfl⟩ := hx
   unfold Gx at hy
   rw [(n undef h).2, (n undef h).1] at hy
   cases a : wanted f y.g with
   | none => rw [a] at hy; cases hy
   | some by_ =>
    rw [a] at hy
    cases by_ with
    | true =>
     simp only at hy
     cases oy : opD cf m f h y with
     | none => rw [oy] at hy; cases hy
     | some r =>
      obtain ⟨j, p, t⟩ := r
      rw [oy] at hy
      simp only [OI, Prod.mk.injEq] at hy
      obtain ⟨rfl, rfl, rfl⟩ := hy
      refine ⟨Gr f y.d j, p, t, [], by simp only [Gx, a, oy], ?_, by simp⟩
      simp only [Gx, (e j p).2, wx', Sm l]
    | false =>
     simp only [OI, Prod.mk.injEq] at hy
     obtain ⟨rfl, rfl, rfl⟩ := hy
     refine ⟨Gr f y.d undef, h, [], [], by simp only [Gx, a], ?_, rfl⟩
     simp only [Gx, (e undef h).2, wx', Sm l]
theorem Aos {cf : Ba} (hk : Fa cf) {m : Nat} {x : Ins} {f f1 : FF} {h h1 : Aa} {wx : List Nat} (hm : m ≤ h.length) (hx : Gx cf m x f h = some (f1, h1, wx)) : m ≤ h1.length := by
 unfold Gx at hx
 split at hx
 ·cases ox : opD cf m f h x with
  | none => rw [ox] at hx; cases hx
  | some r =>
   obtain ⟨c, d, a⟩ := r
   rw [ox] at hx
   simp only [OI, Prod.mk.injEq] at hx
   obtain ⟨rfl, rfl, rfl⟩ := hx
   have := (Zf hk hm ox).len
   omega
 ·simp only [OI, Prod.mk.injEq] at hx
  obtain ⟨rfl, rfl, rfl⟩ := hx
  exact hm
 ·cases hx
theorem Y4 {cf : Ba} (hk : Fa cf) {m : Nat} {i : Ins} {c2 : List Ins} : ∀ {c1 : List Ins} {f : FF} {h : Aa} {r : FF × Aa × List Nat}, m ≤ h.length → (∀ j ∈ c1, comm j i = true) → Dm cf m (c1 ++ i :: c2) f h = some r → Dm cf m (i :: (c1 ++ c2)) f h = some r
 | [], f, h, r, _, _, hr => hr
 | j :: c1, f, h, r, hm, hc, hr => by
  rw [List.cons_append, N5] at hr
  cases hj : Gx cf m j f h with
  | none => rw [hj] at hr; cases hr
  | some s =>
   obtain ⟨d, c, o⟩ := s
   rw [hj] at hr
   simp only at hr
   cases hr1 : Dm cf m (c1 ++ i :: c2) d c with
   | none => rw [hr1] at hr; cases hr
   | some r1 =>
    rw [hr1] at hr
    have a := Y4 hk (Aos hk hm hj) (fun k hk => hc k (List.mem_cons_of_mem _ hk)) hr1
    rw [N5] at a
    cases hi : Gx cf m i d c with
    | none => rw [hi] at a; cases a
    | some s2 =>
     obtain ⟨g, h2, w2⟩ := s2
     rw [hi] at a
     simp only at a
     obtain ⟨z, v, x, p, l, n, e⟩ := Ais hk (hc j List.mem_cons_self) hm hj hi
     rw [List.cons_append, N5, l]
     simp only
     rw [N5, n]
     simp only
     rw [← hr, ← a]
     cases Dm cf m (c1 ++ c2) g h2 with
     | none => rfl
     | some r3 =>
      obtain ⟨u, y, t⟩ := r3
      simp only [Qq, ← List.append_assoc, e]
end Go.L
namespace Go.L
open Go
variable {P : Program} {ι : Inj} {h : Aa} {w : World}
section
variable {sz : Nat} {f f' : FF} {a : Act} {o : Oper} {q : O} {v : Value} {h' : Aa} {ws : List Nat} {F : Fence} {n : Nat} {cf : Ba} {next : Act → World → Prop} {Q : Exit → Act → World → Prop} {ops : Array Oper}
theorem Awh {m : Nat} {i : Ins} {r : Value × Aa × List Nat} (hc : cls i.o ≠ .A) (hv : opD cf m f h i = some r) : opN cf f h i.o = some r := by
 unfold opD at hv
 unfold opN
 cases hcl : cls i.o with
 | A => exact absurd hcl hc
 | P => rw [hcl] at hv; exact hv
 | M =>
  simp only [hcl] at hv ⊢
  split at hv
  ·cases hv
  ·exact hv
 | S =>
  simp only [hcl] at hv ⊢
  split at hv
  ·split at hv
   ·cases hv
   ·exact hv
  ·cases hv
 | C =>
  simp only [hcl] at hv ⊢
  split at hv
  ·split at hv
   ·rename_i a
    split at hv
    ·cases hv
    ·rw [a]; exact hv
   ·cases hv
  ·cases hv
 | E =>
  simp only [hcl] at hv ⊢
  split at hv
  ·rename_i a
   split at hv
   ·cases hv
   ·rw [a]; exact hv
  ·cases hv
theorem Ay7 (hW : Wide F) (hcf : Kf P cf) {m : Nat} {i : Ins} (hs : Sim P ι h w) (hf : FFR ι sz f a.tmps) (ho : cO P o.op = some i.o) (hv : opD cf m f h i = some (v, h', ws))
  (hroom : cls i.o = .A → m + i.rank < h.length ∧ ι (m + i.rank) = none)
  (hn : ∀ ι' w' v', St P ι h w ι' h' w' → (∀ b, b < h.length → (cls i.o = .A → b ≠ m + i.rank) → ι' b = ι b) → VR ι' v v' → next (a.put o.dst v') w') : o.wpIn F n P a w next Q := by
 by_cases g : cls i.o = .A
 ·refine ⟨fun f _ => hW.fn f, ?_⟩
  rw [Oper.semAt_plain F _ _ (Aav ho)]
  unfold opD at hv
  simp only [g] at hv
  cases hp : Iz f i.o with
  | none => rw [hp] at hv; cases hv
  | some nw =>
   rw [hp] at hv; simp only [OI, Prod.mk.injEq] at hv; obtain ⟨rfl, rfl, rfl⟩ := hv
   obtain ⟨wd, O, s, v', r, h2, z, t⟩ := Atj (w := w) hf ho g hp
   obtain ⟨e, c⟩ := hroom g
   rw [h2]
   obtain ⟨y, h6⟩ := t _ c
   have d := St.quiet hs r
   have j := St.place (P := P) (h' := h.set (m + i.rank) nw.1) d.sim (o := nw.1) (O := O) (m := s) (by rw [z, r.heap]) c (by simp) (by simpa using e) (List.getElem?_set_self e)
    (fun x o' u p _ => by rwa [List.getElem?_set_ne (Ne.symm u)] at p) (fun _ => y)
   exact hn _ _ v' (d.trans j) (fun b _ l => Inj.put_ne s (l g)) h6
 ·exact Axz hW hcf hs hf ho (Awh g hv) fun ι' w' v' st old hvr => hn ι' w' v' st (fun b l _ => old b l) hvr
theorem Akh (ops : Array Oper) : ∀ i j : Nat, ((Region.before ops).getD i 0).testBit j = true → ∃ o e, ops[i]? = some o ∧ e ∈ o.after ∧ Region.binds .any e = true ∧ (j = e.on ∨ ((Region.before ops).getD e.on 0).testBit j = true) := by
 have f : ∀ (acc : Array Nat) (l : List Edge) (s : Nat) (j : Nat), (l.foldl (fun s e => if Region.binds .any e then s ||| 2 ^ e.on ||| acc.getD e.on 0 else s) s).testBit j = true →
   s.testBit j = true ∨ ∃ e ∈ l, Region.binds .any e = true ∧ (j = e.on ∨ (acc.getD e.on 0).testBit j = true) := by
  intro acc l
  induction l with
  | nil => intro s j h; exact .inl h
  | cons e l ih =>
   intro s j h
   rw [List.foldl_cons] at h
   rcases ih _ j h with h1 | ⟨u, r, h2⟩
   ·split at h1
    ·rename_i n
     rw [Nat.testBit_or, Nat.testBit_or, Bool.or_eq_true, Bool.or_eq_true] at h1
     rcases h1 with (h1 | h1) | h1
     ·exact .inl h1
     ·rw [Nat.testBit_two_pow] at h1
      exact .inr ⟨e, by simp, n, .inl (by simpa using Eq.symm (by simpa using h1))⟩
     ·exact .inr ⟨e, by simp, n, .inr h1⟩
    ·exact .inl h1
   ·exact .inr ⟨u, by simp [r], h2⟩
 have d : ∀ (l a : List Oper) (acc : Array Nat), acc.size = a.length →
   (∀ i j : Nat, (acc.getD i 0).testBit j = true → ∃ o e, a[i]? = some o ∧ e ∈ o.after ∧ Region.binds .any e = true ∧ (j = e.on ∨ (acc.getD e.on 0).testBit j = true)) →
   ∀ i j : Nat, ((l.foldl (fun acc (o : Oper) => acc.push (o.after.foldl (fun s e => if Region.binds .any e then s ||| 2 ^ e.on ||| acc.getD e.on 0 else s) 0)) acc).getD i 0).testBit j = true →
    ∃ o e, (a ++ l)[i]? = some o ∧ e ∈ o.after ∧ Region.binds .any e = true ∧ (j = e.on ∨ ((l.foldl (fun acc (o : Oper) => acc.push (o.after.foldl (fun s e => if Region.binds .any e then s ||| 2 ^ e.on ||| acc.getD e.on 0 else s) 0)) acc).getD e.on 0).testBit j = true) := by
  intro l
  induction l with
  | nil => intro a acc _ c i j h; simpa using c i j h
  | cons o l ih =>
   intro a acc m c i j h
   rw [List.foldl_cons] at h ⊢
   have := ih (a ++ [o]) _ (by simp [m]) ?_ i j h
   ·simpa using this
   ·intro i j h
    have g : ∀ k, (acc.getD k 0).testBit j = true → ((acc.push (o.after.foldl (fun s e => if Region.binds .any e then s ||| 2 ^ e.on ||| acc.getD e.on 0 else s) 0)).getD k 0).testBit j = true := by
     intro k p
     rcases Nat.lt_or_ge k acc.size with hl | hl
     ·simp only [Array.getD_eq_getD_getElem?] at p ⊢
      rw [Array.getElem?_push_lt hl]
      simpa [hl] using p
     ·rw [Array.getD_eq_getD_getElem?, Array.getElem?_eq_none hl] at p; simp at p
    rcases Nat.lt_trichotomy i acc.size with hl | he | hg
    ·have h' : (acc.getD i 0).testBit j = true := by
      simp only [Array.getD_eq_getD_getElem?] at h ⊢
      rw [Array.getElem?_push_lt hl] at h
      simpa [hl] using h
     obtain ⟨x, e, h1, h2, t, v⟩ := c i j h'
     refine ⟨x, e, ?_, h2, t, v.imp id (g e.on)⟩
     rw [GL (by omega)]; exact h1
    ·subst he
     have h' : (o.after.foldl (fun s e => if Region.binds .any e then s ||| 2 ^ e.on ||| acc.getD e.on 0 else s) 0).testBit j = true := by
      simpa [Array.getD_eq_getD_getElem?] using h
     rw [← Array.foldl_toList] at h'
     rcases f acc _ _ j h' with h1 | ⟨e, he, h2, t⟩
     ·simp at h1
     ·refine ⟨o, e, ?_, by simpa using he, h2, t.imp id (g e.on)⟩
      rw [List.getElem?_append_right (by omega)]; simp [m]
    ·rw [Array.getD_eq_getD_getElem?, Array.getElem?_eq_none (by simp; omega)] at h; simp at h
 intro i j h
 have n : Region.before ops = ops.toList.foldl (fun acc (o : Oper) => acc.push (o.after.foldl (fun s e => if Region.binds .any e then s ||| 2 ^ e.on ||| acc.getD e.on 0 else s) 0)) #[] := by
  unfold Region.before
  rw [← Array.foldl_toList]
 rw [n] at h ⊢
 have := d ops.toList [] #[] rfl (by intro i j h; simp at h) i j h
 simpa using this
end
end Go.L
namespace Go.L
open Go
variable {P : Program} {ι : Inj} {h : Aa} {w : World}
def dfl : Ins := { d := none, g := none, o := .lena 0 }
structure A0g (P : Program) (sz : Nat) (ops : Array Oper) (r : List Ins) (n : Nat) : Prop where
 ins : ∀ i, i < ops.size → ∃ o i0, ops[i]? = some o ∧ cI P sz ops o = some i0 ∧ (r.getD i dfl).d = i0.d ∧ (r.getD i dfl).g = i0.g ∧ (r.getD i dfl).o = i0.o
 comm : ∀ i j, i < j → j < ops.size → ((Region.before ops).getD j 0).testBit i = false → comm (r.getD i dfl) (r.getD j dfl) = true
 back : ∀ (i : Nat) o, ops[i]? = some o → ∀ e ∈ o.after, Region.binds .any e = true → e.on < i
 rank : ∀ i, i < ops.size → cls (r.getD i dfl).o = .A → (r.getD i dfl).rank < n
 ranks : ∀ i j, i < ops.size → j < ops.size → i ≠ j → cls (r.getD i dfl).o = .A → cls (r.getD j dfl).o = .A → (r.getD i dfl).rank ≠ (r.getD j dfl).rank
section
variable {sz : Nat} {a : Act} {h' : Aa} {ws : List Nat} {F : Fence} {n nn : Nat} {cf : Ba} {Q : Exit → Act → World → Prop} {ops : Array Oper}
theorem A0b (hW : Wide F) (hcf : Kf P cf) (hk : Fa cf) {r : List Ins} (hr : A0g P sz ops r nn) {m : Nat} : ∀ (fuel : Nat) (listed : Array Bool) (c : List Nat) {ι : Inj} {h : Aa} {w : World} {f : FF} {a : Act}, fuel = c.length → listed.size = ops.size →
  (∀ j : Nat, j ∈ c ↔ j < ops.size ∧ listed.getD j true = false) → c.Pairwise (· < ·) → (∀ k : Nat, k < ops.size → listed.getD k true = true → ∀ j : Nat, ((Region.before ops).getD k 0).testBit j = true → listed.getD j false = true) →
  Sim P ι h w → FFR ι sz f a.tmps → m ≤ h.length → (∀ j ∈ c, cls (r.getD j dfl).o = .A → m + (r.getD j dfl).rank < h.length ∧ ι (m + (r.getD j dfl).rank) = none) →
  ∀ {f' h' ws}, Dm cf m (c.map fun j => r.getD j dfl) f h = some (f', h', ws) →
  (∀ ι' a' w', St P ι h w ι' h' w' → (∀ b, b < m → ι' b = ι b) → FFR ι' sz f' a'.tmps → a'.defers = a.defers → Q .normal a' w') → wpAnyIn F n P .any ops Q fuel listed a w := by
 intro fuel
 induction fuel with
 | zero =>
  intro listed c ι h w f a hfuel hsz hc hsort hclo hs hf hm hroom f' h' ws hv hq
  have am : c = [] := List.eq_nil_of_length_eq_zero hfuel.symm
  subst am
  simp only [List.map_nil, Dm, OI, Prod.mk.injEq] at hv
  obtain ⟨rfl, rfl, rfl⟩ := hv
  refine ⟨?_, hq ι a w (St.refl hs) (fun _ _ => rfl) hf rfl⟩
  cases hrd : Region.ready .any ops listed with
  | nil => rfl
  | cons i l =>
   have hi : i ∈ Region.ready .any ops listed := by rw [hrd]; simp
   obtain ⟨h1, o, h2, _⟩ := mem_ready.1 hi
   have := (hc i).2 ⟨(Array.getElem?_eq_some_iff.1 h2).1, h1⟩
   cases this
 | succ fuel ih =>
  intro listed c ι h w f a hfuel hsz hc hsort hclo hs hf hm hroom f' h' ws hv hq
  refine ⟨fun a6 => ?_, fun i hi => ?_⟩
  ·exfalso
   cases c with
   | nil => simp at hfuel
   | cons i c =>
    obtain ⟨ab, a7⟩ := (hc i).1 (by simp)
    have : i ∈ Region.ready .any ops listed := by
     refine mem_ready.2 ⟨a7, ops[i], by simp [ab], fun e he hb => ?_⟩
     have ap := hr.back i ops[i] (by simp [ab]) e he hb
     have t : e.on < listed.size := by omega
     cases hl : listed.getD e.on true with
     | true => rw [Array.getD_eq_getD_getElem?] at hl ⊢; simpa [t] using hl
     | false =>
      have ai := (hc e.on).2 ⟨by omega, hl⟩
      rcases List.mem_cons.1 ai with e1 | h1
      ·omega
      ·have := (List.pairwise_cons.1 hsort).1 _ h1; omega
    rw [a6] at this; cases this
  ·obtain ⟨a7, o, ho, a9⟩ := mem_ready.1 hi
   have a5 : i < ops.size := (Array.getElem?_eq_some_iff.1 ho).1
   have ac := (hc i).2 ⟨a5, a7⟩
   obtain ⟨c1, c2, rfl⟩ := List.append_of_mem ac
   have hp := List.pairwise_append.1 hsort
   have a3 : ∀ j : Nat, ((Region.before ops).getD i 0).testBit j = true → listed.getD j false = true := by
    intro j hj
    obtain ⟨o', e, h1, h2, h3, h4⟩ := Akh ops i j hj
    rw [ho] at h1; cases h1
    have hl := a9 e h2 h3
    rcases h4 with rfl | h4
    ·exact hl
    ·have ab := hr.back i o ho e h2 h3
     have t : e.on < listed.size := by omega
     exact hclo e.on (by omega) (by rw [Array.getD_eq_getD_getElem?] at hl ⊢; simpa [t] using hl) j h4
   have aa : ∀ x ∈ c1.map (fun j => r.getD j dfl), comm x (r.getD i dfl) = true := by
    intro x hx
    obtain ⟨j, hj, rfl⟩ := List.mem_map.1 hx
    have al : j < i := hp.2.2 j hj i (by simp)
    refine hr.comm j i al a5 ?_
    cases hb : ((Region.before ops).getD i 0).testBit j with
    | false => rfl
    | true =>
     have h1 := a3 j hb
     have h2 := ((hc j).1 (by simp [hj])).2
     have t : j < listed.size := by omega
     rw [Array.getD_eq_getD_getElem?] at h1 h2
     simp [t] at h1 h2
     rw [h1] at h2; cases h2
   rw [List.map_append, List.map_cons] at hv
   have s := Y4 hk hm aa hv
   rw [← List.map_append, N5] at s
   obtain ⟨o2, i0, ag, ao, ed, eg, eo⟩ := hr.ins i a5
   rw [ho] at ag; cases ag
   obtain ⟨hd, ak, hg, ah⟩ := Auy ao
   rw [← eg] at hg
   rw [← eo] at ah
   rw [ak] at ed
   have a4 : ∀ {ι1 : Inj} {h1 : Aa} {w1 : World} {f1 : FF} {a1 : Act} {a8 : List Nat}, St P ι h w ι1 h1 w1 → h.length ≤ h1.length → (∀ b, b < h.length → (cls (r.getD i dfl).o = .A → b ≠ m + (r.getD i dfl).rank) → ι1 b = ι b) →
     (∀ b, b < m → ι1 b = ι b) → FFR ι1 sz f1 a1.tmps → a1.defers = a.defers → Qq a8 (Dm cf m ((c1 ++ c2).map fun j => r.getD j dfl) f1 h1) = some (f', h', ws) → wpAnyIn F n P .any ops Q fuel (listed.setIfInBounds i true) a1 w1 := by
    intro ι1 h1 w1 f1 a1 a8 st hlen hold hlow hf1 hdef hadd
    cases hr2 : Dm cf m ((c1 ++ c2).map fun j => r.getD j dfl) f1 h1 with
    | none => rw [hr2] at hadd; cases hadd
    | some p =>
     obtain ⟨f2, h2, aq⟩ := p
     rw [hr2] at hadd
     simp only [Qq, OI, Prod.mk.injEq] at hadd
     obtain ⟨rfl, rfl, _⟩ := hadd
     have ae : ∀ j, j ∈ c1 ++ c2 → j ≠ i := by
      intro j hj
      rcases List.mem_append.1 hj with hj | hj
      ·have := hp.2.2 j hj i (by simp); omega
      ·have := (List.pairwise_cons.1 hp.2.1).1 j hj; omega
     have z : ∀ (j : Nat) (d : Bool), j ≠ i → (listed.setIfInBounds i true).getD j d = listed.getD j d := by
      intro j d hj
      rw [Array.getD_eq_getD_getElem?, Array.getD_eq_getD_getElem?, Array.getElem?_setIfInBounds_ne (Ne.symm hj)]
     have u : ∀ d : Bool, (listed.setIfInBounds i true).getD i d = true := by
      intro d
      rw [Array.getD_eq_getD_getElem?]; simp [hsz, a5]
     refine ih (listed.setIfInBounds i true) (c1 ++ c2) (by simp at hfuel ⊢; omega) (by simpa using hsz) (fun j => ?_) ?_ (fun k an ad j hj => ?_) st.sim hf1 (by omega) (fun j hj hA => ?_) hr2 fun ι2 a2 w2 st2 old2 hf2 hd2 => hq ι2 a2 w2 (st.trans st2) (fun b hb => (old2 b hb).trans (hlow b hb)) hf2 (hd2.trans hdef)
     ·by_cases e : j = i
      ·subst e
       rw [u]
       exact ⟨fun hm => absurd rfl (ae j hm), fun hm => by simp at hm⟩
      ·rw [z j true e, ← hc j]
       simp [e]
     ·exact List.pairwise_append.2 ⟨hp.1, (List.pairwise_cons.1 hp.2.1).2, fun x hx y hy => hp.2.2 x hx y (by simp [hy])⟩
     ·by_cases e : k = i
      ·subst e
       have := a3 j hj
       by_cases e2 : j = k
       ·rw [e2]; exact u _
       ·rw [z j false e2]; exact this
      ·rw [z k true e] at ad
       have := hclo k an ad j hj
       by_cases e2 : j = i
       ·rw [e2]; exact u _
       ·rw [z j false e2]; exact this
     ·have af : j ∈ c1 ++ i :: c2 := by simp at hj ⊢; rcases hj with h | h; exact .inl h; exact .inr (.inr h)
      obtain ⟨k1, k2⟩ := hroom j af hA
      refine ⟨by omega, (hold _ k1 fun aj => ?_).trans k2⟩
      have := hr.ranks j i ((hc j).1 af).1 a5 (ae j hj) hA aj
      omega
   unfold wpOpIn
   simp only [ho]
   unfold Gx at s
   cases hw : wanted f (r.getD i dfl).g with
   | none => rw [hw] at s; cases s
   | some b =>
    rw [hw] at s
    have a0 := Yh (o := o) (ops := ops) hf hg hw
    cases b with
    | true =>
     rw [if_pos a0]
     simp only at s
     cases hv1 : opD cf m f h (r.getD i dfl) with
     | none => rw [hv1] at s; cases s
     | some p =>
      obtain ⟨v, h1, a8⟩ := p
      rw [hv1] at s
      simp only at s
      refine Ay7 hW hcf hs hf ah hv1 (fun hA => hroom i ac hA) fun ι' w' v' st old hvr => ?_
      refine a4 st (Zf hk hm hv1).len old (fun b hb => old b (by omega) fun hA => by omega) (f1 := Gr f (r.getD i dfl).d v) (by rw [ed]; exact X6 (a := a) (hf.mono st.sub) hd hvr) ?_ s
      cases o.dst <;> rfl
    | false =>
     rw [if_neg (by rw [a0]; simp)]
     refine ⟨fun f _ => hW.fn f, ?_⟩
     simp only at s
     refine a4 (St.refl hs) (Nat.le_refl _) (fun _ _ _ => rfl) (fun _ _ => rfl) (f1 := Gr f (r.getD i dfl).d undef) (by rw [ed]; exact X6 (a := a) hf hd VR.undef) ?_ s
     cases o.dst <;> rfl
end
end Go.L
