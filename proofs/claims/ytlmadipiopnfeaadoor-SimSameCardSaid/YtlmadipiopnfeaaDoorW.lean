/- THE LOGICAL MACHINE WITHOUT A COUNT OF ROUNDS: what some count comes to. The equations by which it is reckoned. -/
import Derived.Test.YtlmadipiopnfeaaDoorComp
namespace Go.L
open Go
def LeO {α : Type} (a b : Option α) : Prop := ∀ r, a = some r → b = some r
theorem LeO.refl {α : Type} (a : Option α) : LeO a a := fun _ h => h
theorem LeO.none {α : Type} (b : Option α) : LeO none b := fun _ h => by cases h
def LeC (a b : Bk) : Prop := ∀ g x h, LeO (a g x h) (b g x h)
def LeF (a b : Fr → Aa → Out) : Prop := ∀ fr h, LeO (a fr h) (b fr h)
def LeI (a b : It) : Prop := ∀ F G, LeF F G → LeF (a F) (b G)
theorem Aos {α : Type} {ws : List Nat} {a b : Option (α × Aa × List Nat)} (h : LeO a b) : LeO (Qy ws a) (Qy ws b) := by
 intro r c
 cases a with
 | none => simp [Qy] at c
 | some x => rw [h x rfl]; exact c
theorem Ze {a b : Out} {k l : Fr → Aa → Out} (h : LeO a b) (hk : LeF k l) : LeO (Gf a k) (Gf b l) := by
 intro r c
 cases a with
 | none => simp [Gf] at c
 | some x =>
  rw [h x rfl]
  obtain ⟨e, fr, d, f⟩ := x
  cases e with
  | normal =>
   simp only [Gf] at c ⊢
   cases hkk : k fr d with
   | none => simp [hkk] at c
   | some y => rw [hk fr d y hkk]; rw [hkk] at c; exact c
  | exit id => exact c
  | ret => exact c
theorem S5 {F G : Fr → Aa → Out} (h : LeF F G) : ∀ n m, n ≤ m → LeF (Hy n F) (Hy m G) := by
 intro n
 induction n with
 | zero => intro m _ fr a r c; simp [Hy] at c
 | succ n ih =>
  intro m d
  obtain ⟨m, rfl⟩ : ∃ k, m = k + 1 := ⟨m - 1, by omega⟩
  intro fr a
  exact Ze (h fr a) (ih m (by omega))
theorem Ats {a b : Bk} (h : LeC a b) (f : FF) (hp : Aa) (o : O) : LeO (opN a f hp o) (opN b f hp o) := by
 unfold opN
 split <;> try exact LeO.refl _
 split <;> first | exact h _ _ _ | exact LeO.refl _
theorem Ali {a b : Bk} (h : LeC a b) : ∀ (l : List Ins) (f : FF) (hp : Aa), LeO (Fl a l f hp) (Fl b l f hp) := by
 intro l
 induction l with
 | nil => intro f hp; exact LeO.refl _
 | cons x l ih =>
  intro f hp r c
  simp only [Fl] at c ⊢
  split at c
  ·rename_i g
   split at c
   ·rename_i v h' e d
    rw [Ats h f hp _ _ d]
    exact Aos (ih _ _) r c
   ·cases c
  ·exact ih _ _ r c
  ·cases c
theorem Att {a b : Bk} (h : LeC a b) (m : Nat) (f : FF) (hp : Aa) (x : Ins) : LeO (opD a m f hp x) (opD b m f hp x) := by
 unfold opD
 split <;> try exact LeO.refl _
 split
 ·rename_i g c _
  intro r d
  cases hc : a (ev f g) (c.map (ev f)) hp with
  | none => simp [hc] at d
  | some y => rw [hc] at d; rw [h _ _ _ y hc]; exact d
 ·exact LeO.refl _
theorem Alj {a b : Bk} (h : LeC a b) (m : Nat) : ∀ (l : List Ins) (f : FF) (hp : Aa), LeO (Dt a m l f hp) (Dt b m l f hp) := by
 intro l
 induction l with
 | nil => intro f hp; exact LeO.refl _
 | cons x l ih =>
  intro f hp r c
  simp only [Dt] at c ⊢
  split at c
  ·split at c
   ·rename_i v h' e d
    rw [Att h m f hp _ _ d]
    exact Aos (ih _ _) r c
   ·cases c
  ·exact ih _ _ r c
  ·cases c
theorem Alo {live : List Nat} {a b : Option (FF × Aa × List Nat)} (h : LeO a b) : LeO (T5 live a) (T5 live b) := by
 intro r c
 cases a with
 | none => simp [T5] at c
 | some x => rw [h x rfl]; exact c
theorem Avk {v : Value} {a b c d : Out} (h : LeO a b) (k : LeO c d) : LeO (Vz v a c) (Vz v b d) := by
 unfold Vz
 split
 ·split
  ·exact h
  ·exact k
 ·exact LeO.refl _
theorem Akl {id : Nat} {a b : Out} (h : LeO a b) : LeO (inBlock id a) (inBlock id b) := by
 intro r c
 cases a with
 | none => simp [inBlock] at c
 | some x => rw [h x rfl]; exact c
theorem Age {h0 : Aa} {fr : Fr} {a b : Option (Value × Aa × List Nat)} (h : LeO a b) : LeO (Fm h0 fr a) (Fm h0 fr b) := by
 intro r c
 cases a with
 | none => simp [Fm] at c
 | some x => rw [h x rfl]; exact c
theorem Aqf {a b : Bk} (h : LeC a b) : LeC (Jo a) (Jo b) := by
 intro g x c
 unfold Jo
 split
 ·exact h _ _ _
 ·exact LeO.refl _
theorem V1 {a b : Bk} {i j : It} (h : LeC a b) (hi : LeI i j) (sz : Nat) : ∀ c, LeF (code a i sz c) (code b j sz c) := by
 intro c
 induction c with
 | skip => intro fr d; exact LeO.refl _
 | reg live ins => intro fr d; exact Alo (Ali h _ _ _)
 | drw live n ins => intro fr d; exact Alo (Alj h _ _ _ _)
 | seq x y hx hy => intro fr d; exact Ze (hx fr d) hy
 | cond v x y hx hy => intro fr d; exact Avk (hx fr d) (hy fr d)
 | block id x hx => intro fr d; exact Akl (hx fr d)
 | loop x hx => intro fr d; exact hi _ _ hx fr d
 | exit id => intro fr d; exact LeO.refl _
 | ret => intro fr d; exact LeO.refl _
 | rng g ps x y _ _ => intro fr d; exact Age (Aqf h _ _ _)
theorem A1c {res : List R} {h0 : Aa} {a b : Out} (h : LeO a b) : LeO (fin res h0 a) (fin res h0 b) := by
 intro r c
 cases a with
 | none => simp [fin] at c
 | some x => rw [h x rfl]; exact c
theorem Ayc {res : List R} {a b : Out} (h : LeO a b) : LeO (Yq res a) (Yq res b) := by
 intro r c
 cases a with
 | none => simp [Yq] at c
 | some x => rw [h x rfl]; exact c
theorem Avt {a b : Bk} {i j : It} (h : LeC a b) (hi : LeI i j) (d : Def) (args : List Value) (hp : Aa) : LeO (Gb a i d args hp) (Gb b j d args hp) := by
 cases d with
 | ext e => exact LeO.refl _
 | none => exact LeO.refl _
 | text c =>
  simp only [Gb]
  split
  ·exact A1c (V1 h hi _ _ _ _)
  ·exact LeO.refl _
 | textK c =>
  simp only [Gb]
  split
  ·exact Ayc (V1 h hi _ _ _ _)
  ·exact LeO.refl _
theorem Aps {a b : Bk} {i j : It} (h : LeC a b) (hi : LeI i j) (l : Nat) (args : List Value) (hp : Aa) : LeO (Im a i l args hp) (Im b j l args hp) := by
 unfold Im
 split <;> try exact LeO.refl _
 split <;> try exact LeO.refl _
 split <;> try exact LeO.refl _
 split <;> try exact LeO.refl _
 rename_i r _ _ _ _ fr _
 intro s c
 split at c
 ·rename_i m p g o
  rw [V1 h hi _ _ _ _ _ o]
  simp only []
  split at c
  ·rename_i e n h2 f d
   rw [V1 h hi _ _ _ _ _ d]
   exact c
  ·cases c
 ·cases c
theorem Aio (E : Env) {a b : Bk} {i j : It} (h : LeC a b) (hi : LeI i j) : LeC (J3 E a i) (J3 E b j) := by
 intro g c d
 unfold J3
 split
 ·exact Avt h hi _ _ _
 ·split
  ·exact Aps h hi _ _ _
  ·exact LeO.refl _
 ·exact LeO.refl _
theorem Aht {n m : Nat} (h : n ≤ m) : LeI (Hy n) (Hy m) := fun _ _ hF => S5 hF n m h
theorem Abb (E : Env) : ∀ n, LeC (Ej E n) (Ej E (n + 1)) := by
 intro n
 induction n with
 | zero => intro g x h r a; simp [Ej] at a
 | succ n ih => exact Aio E ih (Aht (Nat.le_succ n))
theorem R6 (E : Env) {n m : Nat} (h : n ≤ m) : LeC (Ej E n) (Ej E m) := by
 induction h with
 | refl => exact fun _ _ _ => LeO.refl _
 | step _ ih => exact fun g x h r a => Abb E _ g x h r (ih g x h r a)
open Classical in
noncomputable def lim {α : Type} (a : Nat → Option α) : Option α := if h : ∃ r n, a n = some r then some h.choose else none
theorem Ahk {α : Type} {a : Nat → Option α} (hm : ∀ n, LeO (a n) (a (n + 1))) {r : α} : lim a = some r ↔ ∃ n, a n = some r := by
 have up : ∀ n m, n ≤ m → LeO (a n) (a m) := by
  intro n m h
  induction h with
  | refl => exact LeO.refl _
  | step _ ih => exact fun r f => hm _ r (ih r f)
 unfold lim
 split
 ·rename_i h
  constructor
  ·intro e; obtain ⟨n, c⟩ := h.choose_spec; cases e; exact ⟨n, c⟩
  ·rintro ⟨n, c⟩
   obtain ⟨m, d⟩ := h.choose_spec
   have g := up n (max n m) (by omega) r c
   have h2 := up m (max n m) (by omega) _ d
   rw [g] at h2
   exact h2.symm
 ·rename_i h
  exact ⟨fun e => by (cases e), fun ⟨n, c⟩ => absurd ⟨r, n, c⟩ h⟩
noncomputable def callW (E : Env) : Bk := fun g args h => lim fun n => Ej E n g args h
noncomputable def iterW : It := fun F fr h => lim fun n => Hy n F fr h
theorem callW_some {E : Env} {g : Value} {args : List Value} {h : Aa} {r : Value × Aa × List Nat} : callW E g args h = some r ↔ ∃ n, Ej E n g args h = some r :=
 Ahk fun n => Abb E n g args h
theorem iterW_some {F : Fr → Aa → Out} {fr : Fr} {h : Aa} {r : Ex × Fr × Aa × List Nat} : iterW F fr h = some r ↔ ∃ n, Hy n F fr h = some r :=
 Ahk fun n => S5 (fun _ _ => LeO.refl _) n (n + 1) (Nat.le_succ n) fr h
theorem Aqu (E : Env) (n : Nat) : LeC (Ej E n) (callW E) := fun _ _ _ _ hr => callW_some.2 ⟨n, hr⟩
theorem Ahs (n : Nat) : LeI (Hy n) iterW := fun F G hF fr h r hr => iterW_some.2 ⟨n, S5 hF n n (Nat.le_refl n) fr h r hr⟩
def Fin (E : Env) (x : Out) (y : Nat → Out) : Prop := ∀ r, x = some r → ∃ n, y n = some r
section
variable (E : Env)
def Up {α : Type} (y : Nat → Option α) : Prop := ∀ n m, n ≤ m → LeO (y n) (y m)
def Cont {α : Type} (x : Option α) (y : Nat → Option α) : Prop := ∀ r, x = some r → ∃ n, y n = some r
theorem Cont.refl {α : Type} (x : Option α) : Cont x fun _ => x := fun _ h => ⟨0, h⟩
theorem Xj (g : Value) (x : List Value) (h : Aa) : Cont (callW E g x h) fun n => Ej E n g x h := fun _ hr => callW_some.1 hr
theorem Avi (f : FF) (hp : Aa) (o : O) : Cont (opN (callW E) f hp o) fun n => opN (Ej E n) f hp o := by
 unfold opN
 cases cls o <;> try exact Cont.refl _
 cases o <;> first | exact Xj E _ _ _ | exact Cont.refl _
theorem Aqs : ∀ (l : List Ins) (f : FF) (hp : Aa), Cont (Fl (callW E) l f hp) fun n => Fl (Ej E n) l f hp := by
 intro l
 induction l with
 | nil => intro f hp; exact Cont.refl _
 | cons x l ih =>
  intro f hp r a
  simp only [Fl] at a ⊢
  split at a
  ·split at a
   ·rename_i v h' j g
    obtain ⟨n, c⟩ := Avi E f hp x.o _ g; (try dsimp only at c)
    cases hrun : Fl (callW E) l (G4 f x.d v) h' with
    | none => simp [hrun, Qy] at a
    | some y =>
     obtain ⟨m, e⟩ := ih _ _ _ hrun; (try dsimp only at e)
     refine ⟨max n m, ?_⟩; (try dsimp only)
     rw [Ats (R6 E (Nat.le_max_left n m)) f hp x.o _ c]
     simp only []
     rw [Ali (R6 E (Nat.le_max_right n m)) l _ _ _ e]
     rw [hrun] at a; exact a
   ·cases a
  ·exact ih _ _ r a
  ·cases a
theorem Avj (m : Nat) (f : FF) (hp : Aa) (x : Ins) : Cont (opD (callW E) m f hp x) fun n => opD (Ej E n) m f hp x := by
 unfold opD
 cases cls x.o <;> try exact Cont.refl _
 cases ho : x.o <;> try exact Cont.refl _
 rename_i g a
 intro r c
 simp only [] at c ⊢
 cases hc : callW E (ev f g) (a.map (ev f)) hp with
 | none => simp [hc] at c
 | some y =>
  obtain ⟨n, d⟩ := Xj E _ _ _ _ hc; (try dsimp only at d)
  exact ⟨n, by (try dsimp only); rw [d]; rw [hc] at c; exact c⟩
theorem Aqt (m : Nat) : ∀ (l : List Ins) (f : FF) (hp : Aa), Cont (Dt (callW E) m l f hp) fun n => Dt (Ej E n) m l f hp := by
 intro l
 induction l with
 | nil => intro f hp; exact Cont.refl _
 | cons x l ih =>
  intro f hp r a
  simp only [Dt] at a ⊢
  split at a
  ·split at a
   ·rename_i v h' j g
    obtain ⟨n, c⟩ := Avj E m f hp x _ g; (try dsimp only at c)
    cases hrun : Dt (callW E) m l (G4 f x.d v) h' with
    | none => simp [hrun, Qy] at a
    | some y =>
     obtain ⟨k, e⟩ := ih _ _ _ hrun; (try dsimp only at e)
     refine ⟨max n k, ?_⟩; (try dsimp only)
     rw [Att (R6 E (Nat.le_max_left n k)) m f hp x _ c]
     simp only []
     rw [Alj (R6 E (Nat.le_max_right n k)) m l _ _ _ e]
     rw [hrun] at a; exact a
   ·cases a
  ·exact ih _ _ r a
  ·cases a
theorem P0 (sz : Nat) (c : C) {n m : Nat} (h : n ≤ m) : LeF (code (Ej E n) (Hy n) sz c) (code (Ej E m) (Hy m) sz c) := V1 (R6 E h) (Aht h) sz c
theorem Uo {x : Out} {k : Fr → Aa → Out} {y : Nat → Out} {l : Nat → Fr → Aa → Out} (h : Cont x y) (hu : ∀ n m, n ≤ m → LeO (y n) (y m))
  (hk : ∀ fr hp, Cont (k fr hp) fun n => l n fr hp) (hv : ∀ n m, n ≤ m → LeF (l n) (l m)) : Cont (Gf x k) fun n => Gf (y n) (l n) := by
 intro r a
 cases x with
 | none => simp [Gf] at a
 | some z =>
  obtain ⟨n, c⟩ := h z rfl; (try dsimp only at c)
  obtain ⟨e, fr, hp, f⟩ := z
  cases e with
  | normal =>
   simp only [Gf] at a
   cases hkk : k fr hp with
   | none => simp [hkk] at a
   | some q =>
    obtain ⟨m, d⟩ := hk fr hp q hkk; (try dsimp only at d)
    refine ⟨max n m, ?_⟩; (try dsimp only)
    rw [hu n (max n m) (by omega) _ c]
    simp only [Gf]
    rw [hv m (max n m) (by omega) fr hp _ d]
    rw [hkk] at a; exact a
  | exit id => exact ⟨n, by (try dsimp only); rw [c]; exact a⟩
  | ret => exact ⟨n, by (try dsimp only); rw [c]; exact a⟩
theorem S8 (sz : Nat) : ∀ c fr hp, Cont (code (callW E) iterW sz c fr hp) fun n => code (Ej E n) (Hy n) sz c fr hp := by
 intro c
 induction c with
 | skip => intro fr hp; exact Cont.refl _
 | reg live ins =>
  intro fr hp r a
  simp only [code, T5] at a ⊢
  cases hx : Fl (callW E) ins (get fr) hp with
  | none => simp [hx] at a
  | some y => obtain ⟨n, d⟩ := Aqs E _ _ _ _ hx; (try dsimp only at d); exact ⟨n, by (try dsimp only); rw [d]; rw [hx] at a; exact a⟩
 | drw live k ins =>
  intro fr hp r a
  simp only [code, T5] at a ⊢
  cases hx : Dt (callW E) hp.length ins (get fr) (room hp k) with
  | none => simp [hx] at a
  | some y => obtain ⟨n, d⟩ := Aqt E _ _ _ _ _ hx; (try dsimp only at d); exact ⟨n, by (try dsimp only); rw [d]; rw [hx] at a; exact a⟩
 | seq x y hx hy =>
  intro fr hp
  exact Uo (hx fr hp) (fun n m h => P0 E sz x h fr hp) hy (fun n m h => P0 E sz y h)
 | cond v x y hx hy =>
  intro fr hp r a
  simp only [code, Vz] at a ⊢
  split at a
  ·split at a
   ·obtain ⟨n, d⟩ := hx _ _ r a; (try dsimp only at d); exact ⟨n, by simp [*]⟩
   ·obtain ⟨n, d⟩ := hy _ _ r a; (try dsimp only at d); exact ⟨n, by simp [*]⟩
  ·cases a
 | block id x hx =>
  intro fr hp r a
  simp only [code] at a ⊢
  cases hxx : code (callW E) iterW sz x fr hp with
  | none => simp [hxx, inBlock] at a
  | some y => obtain ⟨n, d⟩ := hx _ _ _ hxx; (try dsimp only at d); exact ⟨n, by (try dsimp only); rw [d]; rw [hxx] at a; exact a⟩
 | loop x hx =>
  intro fr hp r a
  simp only [code] at a ⊢
  obtain ⟨m, o⟩ := iterW_some.1 a
  have j : ∀ m fr hp r, Hy m (code (callW E) iterW sz x) fr hp = some r → ∃ n, Hy m (code (Ej E n) (Hy n) sz x) fr hp = some r := by
   intro m
   induction m with
   | zero => intro fr hp r a; simp [Hy] at a
   | succ m ih =>
    intro fr hp
    exact Uo (hx fr hp) (fun n k h => P0 E sz x h fr hp) (fun fr hp r a => ih fr hp r a) (fun n k h => S5 (P0 E sz x h) m m (Nat.le_refl m))
  obtain ⟨n, d⟩ := j m fr hp r o; (try dsimp only at d)
  exact ⟨max n m, S5 (P0 E sz x (Nat.le_max_left n m)) m (max n m) (by omega) fr hp r d⟩
 | exit id => intro fr hp; exact Cont.refl _
 | ret => intro fr hp; exact Cont.refl _
 | rng g ps x y _ _ =>
  intro fr hp r a
  simp only [code, Fm] at a ⊢
  split at a
  ·rename_i v h' l e
   have f : ∃ n, Jo (Ej E n) (ev (get fr) g) [.func (.yield hp.length) #[] #[]] (hp ++ [.loop { state := .ready, pending := none, fr, sz, params := ps, assign := x, body := y }]) = some (v, h', l) := by
    unfold Jo at e ⊢
    split at e
    ·obtain ⟨n, d⟩ := Xj E _ _ _ _ e; (try dsimp only at d)
     exact ⟨n, d⟩
    ·cases e
   obtain ⟨n, d⟩ := f
   exact ⟨n, by (try dsimp only); rw [d]; exact a⟩
  ·cases a
theorem Akw (d : Def) (args : List Value) (hp : Aa) : Cont (Gb (callW E) iterW d args hp) fun n => Gb (Ej E n) (Hy n) d args hp := by
 cases d with
 | ext e => exact Cont.refl _
 | none => exact Cont.refl _
 | text c =>
  intro r a
  simp only [Gb] at a ⊢
  split at a
  ·rename_i f
   cases hx : code (callW E) iterW c.sz c.body (Ak args 0) hp with
   | none => simp [hx, fin] at a
   | some y => obtain ⟨n, g⟩ := S8 E _ _ _ _ _ hx; (try dsimp only at g); exact ⟨n, by simp only [f, if_true]; rw [g]; rw [hx] at a; exact a⟩
  ·cases a
 | textK c =>
  intro r a
  simp only [Gb] at a ⊢
  split at a
  ·rename_i f
   cases hx : code (callW E) iterW c.sz c.body (Ak args 0) hp with
   | none => simp [hx, Yq] at a
   | some y => obtain ⟨n, g⟩ := S8 E _ _ _ _ _ hx; (try dsimp only at g); exact ⟨n, by simp only [f, if_true]; rw [g]; rw [hx] at a; exact a⟩
  ·cases a
theorem Aij (l : Nat) (args : List Value) (hp : Aa) : Cont (Im (callW E) iterW l args hp) fun n => Im (Ej E n) (Hy n) l args hp := by
 intro r a
 unfold Im at a ⊢
 split at a <;> try (cases a; done)
 split at a <;> try (cases a; done)
 split at a <;> try (cases a; done)
 split at a <;> try (cases a; done)
 split at a <;> try (cases a; done)
 rename_i r z _ _ o d g _ fr p _ u y t x
 split at a <;> try (cases a; done)
 rename_i e v h2 s c
 rw [d] at c
 obtain ⟨n, f⟩ := S8 E _ _ _ _ _ x; (try dsimp only at f)
 obtain ⟨m, j⟩ := S8 E _ _ _ _ _ c; (try dsimp only at j)
 refine ⟨max n m, ?_⟩; (try dsimp only)
 simp only [*]
 rw [P0 E _ _ (Nat.le_max_left n m) _ _ _ f]
 simp only []
 rw [P0 E _ _ (Nat.le_max_right n m) _ _ _ j]
 exact a
theorem O6 (g : Value) (args : List Value) (h : Aa) : callW E g args h = J3 E (callW E) iterW g args h := by
 have e : LeO (callW E g args h) (J3 E (callW E) iterW g args h) := by
  intro r a
  obtain ⟨n, c⟩ := callW_some.1 a
  cases n with
  | zero => simp [Ej] at c
  | succ n => exact Aio E (Aqu E n) (Ahs n) g args h r c
 have h2 : LeO (J3 E (callW E) iterW g args h) (callW E g args h) := by
  intro r a
  have : ∃ n, J3 E (Ej E n) (Hy n) g args h = some r := by
   unfold J3 at a ⊢
   split at a
   ·exact Akw E _ _ _ r a
   ·split at a
    ·rename_i d
     obtain ⟨n, c⟩ := Aij E _ _ _ r a; (try dsimp only at c)
     exact ⟨n, by simp only [d, if_true]; exact c⟩
    ·cases a
   ·cases a
  obtain ⟨n, c⟩ := this
  exact callW_some.2 ⟨n + 1, c⟩
 cases d : callW E g args h with
 | some r => exact (e r d).symm
 | none =>
  cases hd : J3 E (callW E) iterW g args h with
  | none => rfl
  | some r => rw [h2 r hd] at d; cases d
end
theorem Ahu (F : Fr → Aa → Out) (fr : Fr) (h : Aa) : iterW F fr h = Gf (F fr h) (iterW F) := by
 have d : LeO (iterW F fr h) (Gf (F fr h) (iterW F)) := by
  intro r a
  obtain ⟨n, c⟩ := iterW_some.1 a
  cases n with
  | zero => simp [Hy] at c
  | succ n => exact Ze (LeO.refl _) (fun fr h => Ahs n F F (fun _ _ => LeO.refl _) fr h) r c
 have h2 : LeO (Gf (F fr h) (iterW F)) (iterW F fr h) := by
  intro r a
  obtain ⟨n, c⟩ := Uo (x := F fr h) (y := fun _ => F fr h) (l := fun n => Hy n F) (Cont.refl _) (fun _ _ _ => LeO.refl _)
   (fun fr e r a => iterW_some.1 a) (fun n m h => S5 (fun _ _ => LeO.refl _) n m h) r a
  exact iterW_some.2 ⟨n + 1, c⟩
 cases hc : iterW F fr h with
 | some r => exact (d r hc).symm
 | none =>
  cases hd : Gf (F fr h) (iterW F) with
  | none => rfl
  | some r => rw [h2 r hd] at hc; cases hc
end Go.L
