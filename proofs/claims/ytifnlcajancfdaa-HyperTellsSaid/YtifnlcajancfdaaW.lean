/- THE LOGICAL MACHINE WITHOUT A COUNT OF ROUNDS: what some count comes to. The equations by which it is reckoned. -/
import Derived.Test.YtifnlcajancfdaaComp
namespace Go.L
open Go
def LeO {α : Type} (a b : Option α) : Prop := ∀ r, a = some r → b = some r
theorem LeO.refl {α : Type} (a : Option α) : LeO a a := fun _ h => h
theorem LeO.none {α : Type} (b : Option α) : LeO none b := fun _ h => by cases h
def LeC (a b : Ba) : Prop := ∀ g x h, LeO (a g x h) (b g x h)
def LeF (a b : Fr → Aa → Out) : Prop := ∀ fr h, LeO (a fr h) (b fr h)
def LeI (a b : It) : Prop := ∀ F G, LeF F G → LeF (a F) (b G)
theorem Aoa {α : Type} {ws : List Nat} {a b : Option (α × Aa × List Nat)} (h : LeO a b) : LeO (Qq ws a) (Qq ws b) := by
 intro r c
 cases a with
 | none => simp [Qq] at c
 | some x => rw [h x rfl]; exact c
theorem Yk {a b : Out} {k l : Fr → Aa → Out} (h : LeO a b) (hk : LeF k l) : LeO (F4 a k) (F4 b l) := by
 intro r c
 cases a with
 | none => simp [F4] at c
 | some x =>
  rw [h x rfl]
  obtain ⟨e, fr, d, f⟩ := x
  cases e with
  | normal =>
   simp only [F4] at c ⊢
   cases hkk : k fr d with
   | none => simp [hkk] at c
   | some y => rw [hk fr d y hkk]; rw [hkk] at c; exact c
  | exit id => exact c
  | ret => exact c
theorem Sr {F G : Fr → Aa → Out} (h : LeF F G) : ∀ n m, n ≤ m → LeF (G4 n F) (G4 m G) := by
 intro n
 induction n with
 | zero => intro m _ fr a r c; simp [G4] at c
 | succ n ih =>
  intro m d
  obtain ⟨m, rfl⟩ : ∃ k, m = k + 1 := ⟨m - 1, by omega⟩
  intro fr a
  exact Yk (h fr a) (ih m (by omega))
theorem As4 {a b : Ba} (h : LeC a b) (f : FF) (hp : Aa) (o : O) : LeO (opN a f hp o) (opN b f hp o) := by
 unfold opN
 split <;> try exact LeO.refl _
 split <;> first | exact h _ _ _ | exact LeO.refl _
theorem Akx {a b : Ba} (h : LeC a b) : ∀ (l : List Ins) (f : FF) (hp : Aa), LeO (Fh a l f hp) (Fh b l f hp) := by
 intro l
 induction l with
 | nil => intro f hp; exact LeO.refl _
 | cons x l ih =>
  intro f hp r c
  simp only [Fh] at c ⊢
  split at c
  ·rename_i g
   split at c
   ·rename_i v h' e d
    rw [As4 h f hp _ _ d]
    exact Aoa (ih _ _) r c
   ·cases c
  ·exact ih _ _ r c
  ·cases c
theorem As5 {a b : Ba} (h : LeC a b) (m : Nat) (f : FF) (hp : Aa) (x : Ins) : LeO (opD a m f hp x) (opD b m f hp x) := by
 unfold opD
 split <;> try exact LeO.refl _
 split
 ·rename_i g c _
  intro r d
  cases hc : a (ev f g) (c.map (ev f)) hp with
  | none => simp [hc] at d
  | some y => rw [hc] at d; rw [h _ _ _ y hc]; exact d
 ·exact LeO.refl _
theorem Aky {a b : Ba} (h : LeC a b) (m : Nat) : ∀ (l : List Ins) (f : FF) (hp : Aa), LeO (Dm a m l f hp) (Dm b m l f hp) := by
 intro l
 induction l with
 | nil => intro f hp; exact LeO.refl _
 | cons x l ih =>
  intro f hp r c
  simp only [Dm] at c ⊢
  split at c
  ·split at c
   ·rename_i v h' e d
    rw [As5 h m f hp _ _ d]
    exact Aoa (ih _ _) r c
   ·cases c
  ·exact ih _ _ r c
  ·cases c
theorem Ak3 {live : List Nat} {a b : Option (FF × Aa × List Nat)} (h : LeO a b) : LeO (Tl live a) (Tl live b) := by
 intro r c
 cases a with
 | none => simp [Tl] at c
 | some x => rw [h x rfl]; exact c
theorem Auo {v : Value} {a b c d : Out} (h : LeO a b) (k : LeO c d) : LeO (U9 v a c) (U9 v b d) := by
 unfold U9
 split
 ·split
  ·exact h
  ·exact k
 ·exact LeO.refl _
theorem Ajy {id : Nat} {a b : Out} (h : LeO a b) : LeO (inBlock id a) (inBlock id b) := by
 intro r c
 cases a with
 | none => simp [inBlock] at c
 | some x => rw [h x rfl]; exact c
theorem Afv {h0 : Aa} {fr : Fr} {a b : Option (Value × Aa × List Nat)} (h : LeO a b) : LeO (Fi h0 fr a) (Fi h0 fr b) := by
 intro r c
 cases a with
 | none => simp [Fi] at c
 | some x => rw [h x rfl]; exact c
theorem Apw {a b : Ba} (h : LeC a b) : LeC (Jb a) (Jb b) := by
 intro g x c
 unfold Jb
 split
 ·exact h _ _ _
 ·exact LeO.refl _
theorem Vb {a b : Ba} {i j : It} (h : LeC a b) (hi : LeI i j) (sz : Nat) : ∀ c, LeF (code a i sz c) (code b j sz c) := by
 intro c
 induction c with
 | skip => intro fr d; exact LeO.refl _
 | reg live ins => intro fr d; exact Ak3 (Akx h _ _ _)
 | drw live n ins => intro fr d; exact Ak3 (Aky h _ _ _ _)
 | seq x y hx hy => intro fr d; exact Yk (hx fr d) hy
 | cond v x y hx hy => intro fr d; exact Auo (hx fr d) (hy fr d)
 | block id x hx => intro fr d; exact Ajy (hx fr d)
 | loop x hx => intro fr d; exact hi _ _ hx fr d
 | exit id => intro fr d; exact LeO.refl _
 | ret => intro fr d; exact LeO.refl _
 | rng g ps x y _ _ => intro fr d; exact Afv (Apw h _ _ _)
theorem Azw {res : List R} {h0 : Aa} {a b : Out} (h : LeO a b) : LeO (fin res h0 a) (fin res h0 b) := by
 intro r c
 cases a with
 | none => simp [fin] at c
 | some x => rw [h x rfl]; exact c
theorem Aw3 {res : List R} {a b : Out} (h : LeO a b) : LeO (Xy res a) (Xy res b) := by
 intro r c
 cases a with
 | none => simp [Xy] at c
 | some x => rw [h x rfl]; exact c
theorem Aux {a b : Ba} {i j : It} (h : LeC a b) (hi : LeI i j) (d : Def) (args : List Value) (hp : Aa) : LeO (F0 a i d args hp) (F0 b j d args hp) := by
 cases d with
 | ext e => exact LeO.refl _
 | none => exact LeO.refl _
 | text c =>
  simp only [F0]
  split
  ·exact Azw (Vb h hi _ _ _ _)
  ·exact LeO.refl _
 | textK c =>
  simp only [F0]
  split
  ·exact Aw3 (Vb h hi _ _ _ _)
  ·exact LeO.refl _
theorem Ao7 {a b : Ba} {i j : It} (h : LeC a b) (hi : LeI i j) (l : Nat) (args : List Value) (hp : Aa) : LeO (Ie a i l args hp) (Ie b j l args hp) := by
 unfold Ie
 split <;> try exact LeO.refl _
 split <;> try exact LeO.refl _
 split <;> try exact LeO.refl _
 split <;> try exact LeO.refl _
 rename_i r _ _ _ _ fr _
 intro s c
 split at c
 ·rename_i f p o m
  rw [Vb h hi _ _ _ _ _ m]
  simp only []
  split at c
  ·rename_i e n h2 g d
   rw [Vb h hi _ _ _ _ _ d]
   exact c
  ·cases c
 ·cases c
theorem Ah0 (E : Env) {a b : Ba} {i j : It} (h : LeC a b) (hi : LeI i j) : LeC (Js E a i) (Js E b j) := by
 intro g c d
 unfold Js
 split
 ·exact Aux h hi _ _ _
 ·split
  ·exact Ao7 h hi _ _ _
  ·exact LeO.refl _
 ·exact LeO.refl _
theorem Ahb {n m : Nat} (h : n ≤ m) : LeI (G4 n) (G4 m) := fun _ _ hF => Sr hF n m h
theorem Aas (E : Env) : ∀ n, LeC (Dr E n) (Dr E (n + 1)) := by
 intro n
 induction n with
 | zero => intro g x h r a; simp [Dr] at a
 | succ n ih => exact Ah0 E ih (Ahb (Nat.le_succ n))
theorem Rq (E : Env) {n m : Nat} (h : n ≤ m) : LeC (Dr E n) (Dr E m) := by
 induction h with
 | refl => exact fun _ _ _ => LeO.refl _
 | step _ ih => exact fun g x h r a => Aas E _ g x h r (ih g x h r a)
open Classical in
noncomputable def lim {α : Type} (a : Nat → Option α) : Option α := if h : ∃ r n, a n = some r then some h.choose else none
theorem Ag3 {α : Type} {a : Nat → Option α} (hm : ∀ n, LeO (a n) (a (n + 1))) {r : α} : lim a = some r ↔ ∃ n, a n = some r := by
 have up : ∀ n m, n ≤ m → LeO (a n) (a m) := by
  intro n m h
  induction h with
  | refl => exact LeO.refl _
  | step _ ih => exact fun r f => hm _ r (ih r f)
 unfold lim
 split
 ·rename_i h
  constructor
  ·intro e; obtain ⟨n, c⟩ := h.choose_spec; cases e; exact ⟨n, c⟩
  ·rintro ⟨n, c⟩
   obtain ⟨m, d⟩ := h.choose_spec
   have g := up n (max n m) (by omega) r c
   have h2 := up m (max n m) (by omega) _ d
   rw [g] at h2
   exact h2.symm
 ·rename_i h
  exact ⟨fun e => by (cases e), fun ⟨n, c⟩ => absurd ⟨r, n, c⟩ h⟩
noncomputable def callW (E : Env) : Ba := fun g args h => lim fun n => Dr E n g args h
noncomputable def iterW : It := fun F fr h => lim fun n => G4 n F fr h
theorem callW_some {E : Env} {g : Value} {args : List Value} {h : Aa} {r : Value × Aa × List Nat} : callW E g args h = some r ↔ ∃ n, Dr E n g args h = some r :=
 Ag3 fun n => Aas E n g args h
theorem iterW_some {F : Fr → Aa → Out} {fr : Fr} {h : Aa} {r : Ex × Fr × Aa × List Nat} : iterW F fr h = some r ↔ ∃ n, G4 n F fr h = some r :=
 Ag3 fun n => Sr (fun _ _ => LeO.refl _) n (n + 1) (Nat.le_succ n) fr h
theorem Ap4 (E : Env) (n : Nat) : LeC (Dr E n) (callW E) := fun _ _ _ _ hr => callW_some.2 ⟨n, hr⟩
theorem Aha (n : Nat) : LeI (G4 n) iterW := fun F G hF fr h r hr => iterW_some.2 ⟨n, Sr hF n n (Nat.le_refl n) fr h r hr⟩
def Fin (E : Env) (x : Out) (y : Nat → Out) : Prop := ∀ r, x = some r → ∃ n, y n = some r
section
variable (E : Env)
def Up {α : Type} (y : Nat → Option α) : Prop := ∀ n m, n ≤ m → LeO (y n) (y m)
def Cont {α : Type} (x : Option α) (y : Nat → Option α) : Prop := ∀ r, x = some r → ∃ n, y n = some r
theorem Cont.refl {α : Type} (x : Option α) : Cont x fun _ => x := fun _ h => ⟨0, h⟩
theorem Wj (g : Value) (x : List Value) (h : Aa) : Cont (callW E g x h) fun n => Dr E n g x h := fun _ hr => callW_some.1 hr
theorem Aum (f : FF) (hp : Aa) (o : O) : Cont (opN (callW E) f hp o) fun n => opN (Dr E n) f hp o := by
 unfold opN
 cases cls o <;> try exact Cont.refl _
 cases o <;> first | exact Wj E _ _ _ | exact Cont.refl _
theorem Ap1 : ∀ (l : List Ins) (f : FF) (hp : Aa), Cont (Fh (callW E) l f hp) fun n => Fh (Dr E n) l f hp := by
 intro l
 induction l with
 | nil => intro f hp; exact Cont.refl _
 | cons x l ih =>
  intro f hp r a
  simp only [Fh] at a ⊢
  split at a
  ·split at a
   ·rename_i v h' j g
    obtain ⟨n, e⟩ := Aum E f hp x.o _ g; (try dsimp only at e)
    cases hrun : Fh (callW E) l (Gr f x.d v) h' with
    | none => simp [hrun, Qq] at a
    | some y =>
     obtain ⟨m, c⟩ := ih _ _ _ hrun; (try dsimp only at c)
     refine ⟨max n m, ?_⟩; (try dsimp only)
     rw [As4 (Rq E (Nat.le_max_left n m)) f hp x.o _ e]
     simp only []
     rw [Akx (Rq E (Nat.le_max_right n m)) l _ _ _ c]
     rw [hrun] at a; exact a
   ·cases a
  ·exact ih _ _ r a
  ·cases a
theorem Aun (m : Nat) (f : FF) (hp : Aa) (x : Ins) : Cont (opD (callW E) m f hp x) fun n => opD (Dr E n) m f hp x := by
 unfold opD
 cases cls x.o <;> try exact Cont.refl _
 cases ho : x.o <;> try exact Cont.refl _
 rename_i g a
 intro r c
 simp only [] at c ⊢
 cases hc : callW E (ev f g) (a.map (ev f)) hp with
 | none => simp [hc] at c
 | some y =>
  obtain ⟨n, d⟩ := Wj E _ _ _ _ hc; (try dsimp only at d)
  exact ⟨n, by (try dsimp only); rw [d]; rw [hc] at c; exact c⟩
theorem Ap2 (m : Nat) : ∀ (l : List Ins) (f : FF) (hp : Aa), Cont (Dm (callW E) m l f hp) fun n => Dm (Dr E n) m l f hp := by
 intro l
 induction l with
 | nil => intro f hp; exact Cont.refl _
 | cons x l ih =>
  intro f hp r a
  simp only [Dm] at a ⊢
  split at a
  ·split at a
   ·rename_i v h' j g
    obtain ⟨n, c⟩ := Aun E m f hp x _ g; (try dsimp only at c)
    cases hrun : Dm (callW E) m l (Gr f x.d v) h' with
    | none => simp [hrun, Qq] at a
    | some y =>
     obtain ⟨k, e⟩ := ih _ _ _ hrun; (try dsimp only at e)
     refine ⟨max n k, ?_⟩; (try dsimp only)
     rw [As5 (Rq E (Nat.le_max_left n k)) m f hp x _ c]
     simp only []
     rw [Aky (Rq E (Nat.le_max_right n k)) m l _ _ _ e]
     rw [hrun] at a; exact a
   ·cases a
  ·exact ih _ _ r a
  ·cases a
theorem Pd (sz : Nat) (c : C) {n m : Nat} (h : n ≤ m) : LeF (code (Dr E n) (G4 n) sz c) (code (Dr E m) (G4 m) sz c) := Vb (Rq E h) (Ahb h) sz c
theorem T3 {x : Out} {k : Fr → Aa → Out} {y : Nat → Out} {l : Nat → Fr → Aa → Out} (h : Cont x y) (hu : ∀ n m, n ≤ m → LeO (y n) (y m))
  (hk : ∀ fr hp, Cont (k fr hp) fun n => l n fr hp) (hv : ∀ n m, n ≤ m → LeF (l n) (l m)) : Cont (F4 x k) fun n => F4 (y n) (l n) := by
 intro r a
 cases x with
 | none => simp [F4] at a
 | some z =>
  obtain ⟨n, c⟩ := h z rfl; (try dsimp only at c)
  obtain ⟨e, fr, hp, f⟩ := z
  cases e with
  | normal =>
   simp only [F4] at a
   cases hkk : k fr hp with
   | none => simp [hkk] at a
   | some q =>
    obtain ⟨m, d⟩ := hk fr hp q hkk; (try dsimp only at d)
    refine ⟨max n m, ?_⟩; (try dsimp only)
    rw [hu n (max n m) (by omega) _ c]
    simp only [F4]
    rw [hv m (max n m) (by omega) fr hp _ d]
    rw [hkk] at a; exact a
  | exit id => exact ⟨n, by (try dsimp only); rw [c]; exact a⟩
  | ret => exact ⟨n, by (try dsimp only); rw [c]; exact a⟩
theorem Su (sz : Nat) : ∀ c fr hp, Cont (code (callW E) iterW sz c fr hp) fun n => code (Dr E n) (G4 n) sz c fr hp := by
 intro c
 induction c with
 | skip => intro fr hp; exact Cont.refl _
 | reg live ins =>
  intro fr hp r a
  simp only [code, Tl] at a ⊢
  cases hx : Fh (callW E) ins (get fr) hp with
  | none => simp [hx] at a
  | some y => obtain ⟨n, d⟩ := Ap1 E _ _ _ _ hx; (try dsimp only at d); exact ⟨n, by (try dsimp only); rw [d]; rw [hx] at a; exact a⟩
 | drw live k ins =>
  intro fr hp r a
  simp only [code, Tl] at a ⊢
  cases hx : Dm (callW E) hp.length ins (get fr) (room hp k) with
  | none => simp [hx] at a
  | some y => obtain ⟨n, d⟩ := Ap2 E _ _ _ _ _ hx; (try dsimp only at d); exact ⟨n, by (try dsimp only); rw [d]; rw [hx] at a; exact a⟩
 | seq x y hx hy =>
  intro fr hp
  exact T3 (hx fr hp) (fun n m h => Pd E sz x h fr hp) hy (fun n m h => Pd E sz y h)
 | cond v x y hx hy =>
  intro fr hp r a
  simp only [code, U9] at a ⊢
  split at a
  ·split at a
   ·obtain ⟨n, d⟩ := hx _ _ r a; (try dsimp only at d); exact ⟨n, by simp [*]⟩
   ·obtain ⟨n, d⟩ := hy _ _ r a; (try dsimp only at d); exact ⟨n, by simp [*]⟩
  ·cases a
 | block id x hx =>
  intro fr hp r a
  simp only [code] at a ⊢
  cases hxx : code (callW E) iterW sz x fr hp with
  | none => simp [hxx, inBlock] at a
  | some y => obtain ⟨n, d⟩ := hx _ _ _ hxx; (try dsimp only at d); exact ⟨n, by (try dsimp only); rw [d]; rw [hxx] at a; exact a⟩
 | loop x hx =>
  intro fr hp r a
  simp only [code] at a ⊢
  obtain ⟨m, o⟩ := iterW_some.1 a
  have f : ∀ m fr hp r, G4 m (code (callW E) iterW sz x) fr hp = some r → ∃ n, G4 m (code (Dr E n) (G4 n) sz x) fr hp = some r := by
   intro m
   induction m with
   | zero => intro fr hp r a; simp [G4] at a
   | succ m ih =>
    intro fr hp
    exact T3 (hx fr hp) (fun n k h => Pd E sz x h fr hp) (fun fr hp r a => ih fr hp r a) (fun n k h => Sr (Pd E sz x h) m m (Nat.le_refl m))
  obtain ⟨n, d⟩ := f m fr hp r o; (try dsimp only at d)
  exact ⟨max n m, Sr (Pd E sz x (Nat.le_max_left n m)) m (max n m) (by omega) fr hp r d⟩
 | exit id => intro fr hp; exact Cont.refl _
 | ret => intro fr hp; exact Cont.refl _
 | rng g ps x y _ _ =>
  intro fr hp r a
  simp only [code, Fi] at a ⊢
  split at a
  ·rename_i v h' l e
   have j : ∃ n, Jb (Dr E n) (ev (get fr) g) [.func (.yield hp.length) #[] #[]] (hp ++ [.loop { state := .ready, pending := none, fr, sz, params := ps, assign := x, body := y }]) = some (v, h', l) := by
    unfold Jb at e ⊢
    split at e
    ·obtain ⟨n, d⟩ := Wj E _ _ _ _ e; (try dsimp only at d)
     exact ⟨n, d⟩
    ·cases e
   obtain ⟨n, d⟩ := j
   exact ⟨n, by (try dsimp only); rw [d]; exact a⟩
  ·cases a
theorem Aj9 (d : Def) (args : List Value) (hp : Aa) : Cont (F0 (callW E) iterW d args hp) fun n => F0 (Dr E n) (G4 n) d args hp := by
 cases d with
 | ext e => exact Cont.refl _
 | none => exact Cont.refl _
 | text c =>
  intro r a
  simp only [F0] at a ⊢
  split at a
  ·rename_i f
   cases hx : code (callW E) iterW c.sz c.body (Ah args 0) hp with
   | none => simp [hx, fin] at a
   | some y => obtain ⟨n, g⟩ := Su E _ _ _ _ _ hx; (try dsimp only at g); exact ⟨n, by simp only [f, if_true]; rw [g]; rw [hx] at a; exact a⟩
  ·cases a
 | textK c =>
  intro r a
  simp only [F0] at a ⊢
  split at a
  ·rename_i f
   cases hx : code (callW E) iterW c.sz c.body (Ah args 0) hp with
   | none => simp [hx, Xy] at a
   | some y => obtain ⟨n, g⟩ := Su E _ _ _ _ _ hx; (try dsimp only at g); exact ⟨n, by simp only [f, if_true]; rw [g]; rw [hx] at a; exact a⟩
  ·cases a
theorem Ahw (l : Nat) (args : List Value) (hp : Aa) : Cont (Ie (callW E) iterW l args hp) fun n => Ie (Dr E n) (G4 n) l args hp := by
 intro r a
 unfold Ie at a ⊢
 split at a <;> try (cases a; done)
 split at a <;> try (cases a; done)
 split at a <;> try (cases a; done)
 split at a <;> try (cases a; done)
 split at a <;> try (cases a; done)
 rename_i r z _ _ s d j _ fr v _ o y x t
 split at a <;> try (cases a; done)
 rename_i e u h2 p c
 rw [d] at c
 obtain ⟨n, g⟩ := Su E _ _ _ _ _ t; (try dsimp only at g)
 obtain ⟨m, f⟩ := Su E _ _ _ _ _ c; (try dsimp only at f)
 refine ⟨max n m, ?_⟩; (try dsimp only)
 simp only [*]
 rw [Pd E _ _ (Nat.le_max_left n m) _ _ _ g]
 simp only []
 rw [Pd E _ _ (Nat.le_max_right n m) _ _ _ f]
 exact a
theorem Oi (g : Value) (args : List Value) (h : Aa) : callW E g args h = Js E (callW E) iterW g args h := by
 have e : LeO (callW E g args h) (Js E (callW E) iterW g args h) := by
  intro r a
  obtain ⟨n, c⟩ := callW_some.1 a
  cases n with
  | zero => simp [Dr] at c
  | succ n => exact Ah0 E (Ap4 E n) (Aha n) g args h r c
 have h2 : LeO (Js E (callW E) iterW g args h) (callW E g args h) := by
  intro r a
  have : ∃ n, Js E (Dr E n) (G4 n) g args h = some r := by
   unfold Js at a ⊢
   split at a
   ·exact Aj9 E _ _ _ r a
   ·split at a
    ·rename_i d
     obtain ⟨n, c⟩ := Ahw E _ _ _ r a; (try dsimp only at c)
     exact ⟨n, by simp only [d, if_true]; exact c⟩
    ·cases a
   ·cases a
  obtain ⟨n, c⟩ := this
  exact callW_some.2 ⟨n + 1, c⟩
 cases d : callW E g args h with
 | some r => exact (e r d).symm
 | none =>
  cases hd : Js E (callW E) iterW g args h with
  | none => rfl
  | some r => rw [h2 r hd] at d; cases d
end
theorem Ahc (F : Fr → Aa → Out) (fr : Fr) (h : Aa) : iterW F fr h = F4 (F fr h) (iterW F) := by
 have d : LeO (iterW F fr h) (F4 (F fr h) (iterW F)) := by
  intro r a
  obtain ⟨n, c⟩ := iterW_some.1 a
  cases n with
  | zero => simp [G4] at c
  | succ n => exact Yk (LeO.refl _) (fun fr h => Aha n F F (fun _ _ => LeO.refl _) fr h) r c
 have h2 : LeO (F4 (F fr h) (iterW F)) (iterW F fr h) := by
  intro r a
  obtain ⟨n, c⟩ := T3 (x := F fr h) (y := fun _ => F fr h) (l := fun n => G4 n F) (Cont.refl _) (fun _ _ _ => LeO.refl _)
   (fun fr e r a => iterW_some.1 a) (fun n m h => Sr (fun _ _ => LeO.refl _) n m h) r a
  exact iterW_some.2 ⟨n + 1, c⟩
 cases hc : iterW F fr h with
 | some r => exact (d r hc).symm
 | none =>
  cases hd : F4 (F fr h) (iterW F) with
  | none => rfl
  | some r => rw [h2 r hd] at hc; cases hc
end Go.L
