/- THE LOGICAL MACHINE WITHOUT A COUNT OF ROUNDS: what some count comes to. The equations by which it is reckoned. -/
import Derived.Test.YtifnlcajancfdaaGreatDoorComp
namespace Go.L
open Go
def LeO {α : Type} (a b : Option α) : Prop := ∀ r, a = some r → b = some r
theorem LeO.refl {α : Type} (a : Option α) : LeO a a := fun _ h => h
theorem LeO.none {α : Type} (b : Option α) : LeO none b := fun _ h => by cases h
def LeC (a b : CallT) : Prop := ∀ g x h, LeO (a g x h) (b g x h)
def LeF (a b : Fr → Heap → Out) : Prop := ∀ fr h, LeO (a fr h) (b fr h)
def LeI (a b : It) : Prop := ∀ F G, LeF F G → LeF (a F) (b G)
theorem addw_le {α : Type} {ws : List Nat} {a b : Option (α × Heap × List Nat)} (h : LeO a b) : LeO (addw ws a) (addw ws b) := by
  intro r hr
  cases a with
  | none => simp [addw] at hr
  | some x => rw [h x rfl]; exact hr
theorem thenN_le {a b : Out} {k l : Fr → Heap → Out} (h : LeO a b) (hk : LeF k l) : LeO (thenN a k) (thenN b l) := by
  intro r hr
  cases a with
  | none => simp [thenN] at hr
  | some x =>
    rw [h x rfl]
    obtain ⟨e, fr, hp, ws⟩ := x
    cases e with
    | normal =>
      simp only [thenN] at hr ⊢
      cases hkk : k fr hp with
      | none => simp [hkk] at hr
      | some y => rw [hk fr hp y hkk]; rw [hkk] at hr; exact hr
    | exit id => exact hr
    | ret => exact hr
theorem iter_le {F G : Fr → Heap → Out} (h : LeF F G) : ∀ n m, n ≤ m → LeF (iter n F) (iter m G) := by
  intro n
  induction n with
  | zero => intro m _ fr hp r hr; simp [iter] at hr
  | succ n ih =>
    intro m hm
    obtain ⟨m, rfl⟩ : ∃ k, m = k + 1 := ⟨m - 1, by omega⟩
    intro fr hp
    exact thenN_le (h fr hp) (ih m (by omega))
theorem opN_le {a b : CallT} (h : LeC a b) (f : FF) (hp : Heap) (o : O) : LeO (opN a f hp o) (opN b f hp o) := by
  unfold opN
  split <;> try exact LeO.refl _
  split <;> first | exact h _ _ _ | exact LeO.refl _
theorem runN_le {a b : CallT} (h : LeC a b) : ∀ (l : List Ins) (f : FF) (hp : Heap), LeO (runN a l f hp) (runN b l f hp) := by
  intro l
  induction l with
  | nil => intro f hp; exact LeO.refl _
  | cons x l ih =>
    intro f hp r hr
    simp only [runN] at hr ⊢
    split at hr
    · rename_i hw
      split at hr
      · rename_i v h' ws ho
        rw [opN_le h f hp _ _ ho]
        exact addw_le (ih _ _) r hr
      · cases hr
    · exact ih _ _ r hr
    · cases hr
theorem opD_le {a b : CallT} (h : LeC a b) (m : Nat) (f : FF) (hp : Heap) (x : Ins) : LeO (opD a m f hp x) (opD b m f hp x) := by
  unfold opD
  split <;> try exact LeO.refl _
  split
  · rename_i g args _
    intro r hr
    cases hc : a (ev f g) (args.map (ev f)) hp with
    | none => simp [hc] at hr
    | some y => rw [hc] at hr; rw [h _ _ _ y hc]; exact hr
  · exact LeO.refl _
theorem runD_le {a b : CallT} (h : LeC a b) (m : Nat) : ∀ (l : List Ins) (f : FF) (hp : Heap), LeO (runD a m l f hp) (runD b m l f hp) := by
  intro l
  induction l with
  | nil => intro f hp; exact LeO.refl _
  | cons x l ih =>
    intro f hp r hr
    simp only [runD] at hr ⊢
    split at hr
    · split at hr
      · rename_i v h' ws ho
        rw [opD_le h m f hp _ _ ho]
        exact addw_le (ih _ _) r hr
      · cases hr
    · exact ih _ _ r hr
    · cases hr
theorem regO_le {live : List Nat} {a b : Option (FF × Heap × List Nat)} (h : LeO a b) : LeO (regO live a) (regO live b) := by
  intro r hr
  cases a with
  | none => simp [regO] at hr
  | some x => rw [h x rfl]; exact hr
theorem condO_le {v : Value} {a b c d : Out} (h : LeO a b) (k : LeO c d) : LeO (condO v a c) (condO v b d) := by
  unfold condO
  split
  · split
    · exact h
    · exact k
  · exact LeO.refl _
theorem inBlock_le {id : Nat} {a b : Out} (h : LeO a b) : LeO (inBlock id a) (inBlock id b) := by
  intro r hr
  cases a with
  | none => simp [inBlock] at hr
  | some x => rw [h x rfl]; exact hr
theorem rangeEnd_le {h0 : Heap} {fr : Fr} {a b : Option (Value × Heap × List Nat)} (h : LeO a b) : LeO (rangeEnd h0 fr a) (rangeEnd h0 fr b) := by
  intro r hr
  cases a with
  | none => simp [rangeEnd] at hr
  | some x => rw [h x rfl]; exact hr
theorem fnCall_le {a b : CallT} (h : LeC a b) : LeC (fnCall a) (fnCall b) := by
  intro g x hp
  unfold fnCall
  split
  · exact h _ _ _
  · exact LeO.refl _
theorem code_le {a b : CallT} {i j : It} (h : LeC a b) (hi : LeI i j) (sz : Nat) : ∀ c, LeF (code a i sz c) (code b j sz c) := by
  intro c
  induction c with
  | skip => intro fr hp; exact LeO.refl _
  | reg live ins => intro fr hp; exact regO_le (runN_le h _ _ _)
  | drw live n ins => intro fr hp; exact regO_le (runD_le h _ _ _ _)
  | seq x y hx hy => intro fr hp; exact thenN_le (hx fr hp) hy
  | cond v x y hx hy => intro fr hp; exact condO_le (hx fr hp) (hy fr hp)
  | block id x hx => intro fr hp; exact inBlock_le (hx fr hp)
  | loop x hx => intro fr hp; exact hi _ _ hx fr hp
  | exit id => intro fr hp; exact LeO.refl _
  | ret => intro fr hp; exact LeO.refl _
  | rng g ps x y _ _ => intro fr hp; exact rangeEnd_le (fnCall_le h _ _ _)
theorem fin_le {res : List R} {h0 : Heap} {a b : Out} (h : LeO a b) : LeO (fin res h0 a) (fin res h0 b) := by
  intro r hr
  cases a with
  | none => simp [fin] at hr
  | some x => rw [h x rfl]; exact hr
theorem finK_le {res : List R} {a b : Out} (h : LeO a b) : LeO (finK res a) (finK res b) := by
  intro r hr
  cases a with
  | none => simp [finK] at hr
  | some x => rw [h x rfl]; exact hr
theorem callF_le {a b : CallT} {i j : It} (h : LeC a b) (hi : LeI i j) (d : Def) (args : List Value) (hp : Heap) : LeO (callF a i d args hp) (callF b j d args hp) := by
  cases d with
  | ext e => exact LeO.refl _
  | none => exact LeO.refl _
  | text c =>
    simp only [callF]
    split
    · exact fin_le (code_le h hi _ _ _ _)
    · exact LeO.refl _
  | textK c =>
    simp only [callF]
    split
    · exact finK_le (code_le h hi _ _ _ _)
    · exact LeO.refl _
theorem roundV_le {a b : CallT} {i j : It} (h : LeC a b) (hi : LeI i j) (l : Nat) (args : List Value) (hp : Heap) : LeO (roundV a i l args hp) (roundV b j l args hp) := by
  unfold roundV
  split <;> try exact LeO.refl _
  split <;> try exact LeO.refl _
  split <;> try exact LeO.refl _
  split <;> try exact LeO.refl _
  rename_i r _ _ _ _ fr _
  intro s hs
  split at hs
  · rename_i fr1 h1 ws1 he
    rw [code_le h hi _ _ _ _ _ he]
    simp only []
    split at hs
    · rename_i e fr2 h2 ws2 he2
      rw [code_le h hi _ _ _ _ _ he2]
      exact hs
    · cases hs
  · cases hs
theorem callG_le (E : Env) {a b : CallT} {i j : It} (h : LeC a b) (hi : LeI i j) : LeC (callG E a i) (callG E b j) := by
  intro g args hp
  unfold callG
  split
  · exact callF_le h hi _ _ _
  · split
    · exact roundV_le h hi _ _ _
    · exact LeO.refl _
  · exact LeO.refl _
theorem iter_leI {n m : Nat} (h : n ≤ m) : LeI (iter n) (iter m) := fun _ _ hF => iter_le hF n m h
theorem callv_succ (E : Env) : ∀ n, LeC (callv E n) (callv E (n + 1)) := by
  intro n
  induction n with
  | zero => intro g x h r hr; simp [callv] at hr
  | succ n ih => exact callG_le E ih (iter_leI (Nat.le_succ n))
theorem callv_le (E : Env) {n m : Nat} (h : n ≤ m) : LeC (callv E n) (callv E m) := by
  induction h with
  | refl => exact fun _ _ _ => LeO.refl _
  | step _ ih => exact fun g x h r hr => callv_succ E _ g x h r (ih g x h r hr)
open Classical in
noncomputable def lim {α : Type} (a : Nat → Option α) : Option α := if h : ∃ r n, a n = some r then some h.choose else none
theorem lim_some {α : Type} {a : Nat → Option α} (hm : ∀ n, LeO (a n) (a (n + 1))) {r : α} : lim a = some r ↔ ∃ n, a n = some r := by
  have up : ∀ n m, n ≤ m → LeO (a n) (a m) := by
    intro n m h
    induction h with
    | refl => exact LeO.refl _
    | step _ ih => exact fun r hr => hm _ r (ih r hr)
  unfold lim
  split
  · rename_i h
    constructor
    · intro e; obtain ⟨n, hn⟩ := h.choose_spec; cases e; exact ⟨n, hn⟩
    · rintro ⟨n, hn⟩
      obtain ⟨m, hm'⟩ := h.choose_spec
      have h1 := up n (max n m) (by omega) r hn
      have h2 := up m (max n m) (by omega) _ hm'
      rw [h1] at h2
      exact h2.symm
  · rename_i h
    exact ⟨fun e => by (cases e), fun ⟨n, hn⟩ => absurd ⟨r, n, hn⟩ h⟩
noncomputable def callW (E : Env) : CallT := fun g args h => lim fun n => callv E n g args h
noncomputable def iterW : It := fun F fr h => lim fun n => iter n F fr h
theorem callW_some {E : Env} {g : Value} {args : List Value} {h : Heap} {r : Value × Heap × List Nat} : callW E g args h = some r ↔ ∃ n, callv E n g args h = some r :=
  lim_some fun n => callv_succ E n g args h
theorem iterW_some {F : Fr → Heap → Out} {fr : Fr} {h : Heap} {r : Ex × Fr × Heap × List Nat} : iterW F fr h = some r ↔ ∃ n, iter n F fr h = some r :=
  lim_some fun n => iter_le (fun _ _ => LeO.refl _) n (n + 1) (Nat.le_succ n) fr h
theorem callv_leW (E : Env) (n : Nat) : LeC (callv E n) (callW E) := fun _ _ _ _ hr => callW_some.2 ⟨n, hr⟩
theorem iter_leW (n : Nat) : LeI (iter n) iterW := fun F G hF fr h r hr => iterW_some.2 ⟨n, iter_le hF n n (Nat.le_refl n) fr h r hr⟩
def Fin (E : Env) (x : Out) (y : Nat → Out) : Prop := ∀ r, x = some r → ∃ n, y n = some r
section
variable (E : Env)
def Up {α : Type} (y : Nat → Option α) : Prop := ∀ n m, n ≤ m → LeO (y n) (y m)
def Cont {α : Type} (x : Option α) (y : Nat → Option α) : Prop := ∀ r, x = some r → ∃ n, y n = some r
theorem Cont.refl {α : Type} (x : Option α) : Cont x fun _ => x := fun _ h => ⟨0, h⟩
theorem cont_call (g : Value) (x : List Value) (h : Heap) : Cont (callW E g x h) fun n => callv E n g x h := fun _ hr => callW_some.1 hr
theorem cont_opN (f : FF) (hp : Heap) (o : O) : Cont (opN (callW E) f hp o) fun n => opN (callv E n) f hp o := by
  unfold opN
  cases cls o <;> try exact Cont.refl _
  cases o <;> first | exact cont_call E _ _ _ | exact Cont.refl _
theorem cont_runN : ∀ (l : List Ins) (f : FF) (hp : Heap), Cont (runN (callW E) l f hp) fun n => runN (callv E n) l f hp := by
  intro l
  induction l with
  | nil => intro f hp; exact Cont.refl _
  | cons x l ih =>
    intro f hp r hr
    simp only [runN] at hr ⊢
    split at hr
    · split at hr
      · rename_i v h' ws ho
        obtain ⟨n, hn⟩ := cont_opN E f hp x.o _ ho; (try dsimp only at hn)
        cases hrun : runN (callW E) l (putD f x.d v) h' with
        | none => simp [hrun, addw] at hr
        | some y =>
          obtain ⟨m, hm⟩ := ih _ _ _ hrun; (try dsimp only at hm)
          refine ⟨max n m, ?_⟩; (try dsimp only)
          rw [opN_le (callv_le E (Nat.le_max_left n m)) f hp x.o _ hn]
          simp only []
          rw [runN_le (callv_le E (Nat.le_max_right n m)) l _ _ _ hm]
          rw [hrun] at hr; exact hr
      · cases hr
    · exact ih _ _ r hr
    · cases hr
theorem cont_opD (m : Nat) (f : FF) (hp : Heap) (x : Ins) : Cont (opD (callW E) m f hp x) fun n => opD (callv E n) m f hp x := by
  unfold opD
  cases cls x.o <;> try exact Cont.refl _
  cases ho : x.o <;> try exact Cont.refl _
  rename_i g args
  intro r hr
  simp only [] at hr ⊢
  cases hc : callW E (ev f g) (args.map (ev f)) hp with
  | none => simp [hc] at hr
  | some y =>
    obtain ⟨n, hn⟩ := cont_call E _ _ _ _ hc; (try dsimp only at hn)
    exact ⟨n, by (try dsimp only); rw [hn]; rw [hc] at hr; exact hr⟩
theorem cont_runD (m : Nat) : ∀ (l : List Ins) (f : FF) (hp : Heap), Cont (runD (callW E) m l f hp) fun n => runD (callv E n) m l f hp := by
  intro l
  induction l with
  | nil => intro f hp; exact Cont.refl _
  | cons x l ih =>
    intro f hp r hr
    simp only [runD] at hr ⊢
    split at hr
    · split at hr
      · rename_i v h' ws ho
        obtain ⟨n, hn⟩ := cont_opD E m f hp x _ ho; (try dsimp only at hn)
        cases hrun : runD (callW E) m l (putD f x.d v) h' with
        | none => simp [hrun, addw] at hr
        | some y =>
          obtain ⟨k, hk⟩ := ih _ _ _ hrun; (try dsimp only at hk)
          refine ⟨max n k, ?_⟩; (try dsimp only)
          rw [opD_le (callv_le E (Nat.le_max_left n k)) m f hp x _ hn]
          simp only []
          rw [runD_le (callv_le E (Nat.le_max_right n k)) m l _ _ _ hk]
          rw [hrun] at hr; exact hr
      · cases hr
    · exact ih _ _ r hr
    · cases hr
theorem code_up (sz : Nat) (c : C) {n m : Nat} (h : n ≤ m) : LeF (code (callv E n) (iter n) sz c) (code (callv E m) (iter m) sz c) := code_le (callv_le E h) (iter_leI h) sz c
theorem cont_thenN {x : Out} {k : Fr → Heap → Out} {y : Nat → Out} {l : Nat → Fr → Heap → Out} (h : Cont x y) (hu : ∀ n m, n ≤ m → LeO (y n) (y m))
    (hk : ∀ fr hp, Cont (k fr hp) fun n => l n fr hp) (hv : ∀ n m, n ≤ m → LeF (l n) (l m)) : Cont (thenN x k) fun n => thenN (y n) (l n) := by
  intro r hr
  cases x with
  | none => simp [thenN] at hr
  | some z =>
    obtain ⟨n, hn⟩ := h z rfl; (try dsimp only at hn)
    obtain ⟨e, fr, hp, ws⟩ := z
    cases e with
    | normal =>
      simp only [thenN] at hr
      cases hkk : k fr hp with
      | none => simp [hkk] at hr
      | some q =>
        obtain ⟨m, hm⟩ := hk fr hp q hkk; (try dsimp only at hm)
        refine ⟨max n m, ?_⟩; (try dsimp only)
        rw [hu n (max n m) (by omega) _ hn]
        simp only [thenN]
        rw [hv m (max n m) (by omega) fr hp _ hm]
        rw [hkk] at hr; exact hr
    | exit id => exact ⟨n, by (try dsimp only); rw [hn]; exact hr⟩
    | ret => exact ⟨n, by (try dsimp only); rw [hn]; exact hr⟩
theorem cont_code (sz : Nat) : ∀ c fr hp, Cont (code (callW E) iterW sz c fr hp) fun n => code (callv E n) (iter n) sz c fr hp := by
  intro c
  induction c with
  | skip => intro fr hp; exact Cont.refl _
  | reg live ins =>
    intro fr hp r hr
    simp only [code, regO] at hr ⊢
    cases hx : runN (callW E) ins (get fr) hp with
    | none => simp [hx] at hr
    | some y => obtain ⟨n, hn⟩ := cont_runN E _ _ _ _ hx; (try dsimp only at hn); exact ⟨n, by (try dsimp only); rw [hn]; rw [hx] at hr; exact hr⟩
  | drw live k ins =>
    intro fr hp r hr
    simp only [code, regO] at hr ⊢
    cases hx : runD (callW E) hp.length ins (get fr) (room hp k) with
    | none => simp [hx] at hr
    | some y => obtain ⟨n, hn⟩ := cont_runD E _ _ _ _ _ hx; (try dsimp only at hn); exact ⟨n, by (try dsimp only); rw [hn]; rw [hx] at hr; exact hr⟩
  | seq x y hx hy =>
    intro fr hp
    exact cont_thenN (hx fr hp) (fun n m h => code_up E sz x h fr hp) hy (fun n m h => code_up E sz y h)
  | cond v x y hx hy =>
    intro fr hp r hr
    simp only [code, condO] at hr ⊢
    split at hr
    · split at hr
      · obtain ⟨n, hn⟩ := hx _ _ r hr; (try dsimp only at hn); exact ⟨n, by simp [*]⟩
      · obtain ⟨n, hn⟩ := hy _ _ r hr; (try dsimp only at hn); exact ⟨n, by simp [*]⟩
    · cases hr
  | block id x hx =>
    intro fr hp r hr
    simp only [code] at hr ⊢
    cases hxx : code (callW E) iterW sz x fr hp with
    | none => simp [hxx, inBlock] at hr
    | some y => obtain ⟨n, hn⟩ := hx _ _ _ hxx; (try dsimp only at hn); exact ⟨n, by (try dsimp only); rw [hn]; rw [hxx] at hr; exact hr⟩
  | loop x hx =>
    intro fr hp r hr
    simp only [code] at hr ⊢
    obtain ⟨m, hm⟩ := iterW_some.1 hr
    have key : ∀ m fr hp r, iter m (code (callW E) iterW sz x) fr hp = some r → ∃ n, iter m (code (callv E n) (iter n) sz x) fr hp = some r := by
      intro m
      induction m with
      | zero => intro fr hp r hr; simp [iter] at hr
      | succ m ih =>
        intro fr hp
        exact cont_thenN (hx fr hp) (fun n k h => code_up E sz x h fr hp) (fun fr hp r hr => ih fr hp r hr) (fun n k h => iter_le (code_up E sz x h) m m (Nat.le_refl m))
    obtain ⟨n, hn⟩ := key m fr hp r hm; (try dsimp only at hn)
    exact ⟨max n m, iter_le (code_up E sz x (Nat.le_max_left n m)) m (max n m) (by omega) fr hp r hn⟩
  | exit id => intro fr hp; exact Cont.refl _
  | ret => intro fr hp; exact Cont.refl _
  | rng g ps x y _ _ =>
    intro fr hp r hr
    simp only [code, rangeEnd] at hr ⊢
    split at hr
    · rename_i v h' ws hc
      have hc' : ∃ n, fnCall (callv E n) (ev (get fr) g) [.func (.yield hp.length) #[] #[]] (hp ++ [.loop { state := .ready, pending := none, fr, sz, params := ps, assign := x, body := y }]) = some (v, h', ws) := by
        unfold fnCall at hc ⊢
        split at hc
        · obtain ⟨n, hn⟩ := cont_call E _ _ _ _ hc; (try dsimp only at hn)
          exact ⟨n, hn⟩
        · cases hc
      obtain ⟨n, hn⟩ := hc'
      exact ⟨n, by (try dsimp only); rw [hn]; exact hr⟩
    · cases hr
theorem cont_callF (d : Def) (args : List Value) (hp : Heap) : Cont (callF (callW E) iterW d args hp) fun n => callF (callv E n) (iter n) d args hp := by
  cases d with
  | ext e => exact Cont.refl _
  | none => exact Cont.refl _
  | text c =>
    intro r hr
    simp only [callF] at hr ⊢
    split at hr
    · rename_i hle
      cases hx : code (callW E) iterW c.sz c.body (argsF args 0) hp with
      | none => simp [hx, fin] at hr
      | some y => obtain ⟨n, hn⟩ := cont_code E _ _ _ _ _ hx; (try dsimp only at hn); exact ⟨n, by simp only [hle, if_true]; rw [hn]; rw [hx] at hr; exact hr⟩
    · cases hr
  | textK c =>
    intro r hr
    simp only [callF] at hr ⊢
    split at hr
    · rename_i hle
      cases hx : code (callW E) iterW c.sz c.body (argsF args 0) hp with
      | none => simp [hx, finK] at hr
      | some y => obtain ⟨n, hn⟩ := cont_code E _ _ _ _ _ hx; (try dsimp only at hn); exact ⟨n, by simp only [hle, if_true]; rw [hn]; rw [hx] at hr; exact hr⟩
    · cases hr
theorem cont_roundV (l : Nat) (args : List Value) (hp : Heap) : Cont (roundV (callW E) iterW l args hp) fun n => roundV (callv E n) (iter n) l args hp := by
  intro r hr
  unfold roundV at hr ⊢
  split at hr <;> try (cases hr; done)
  split at hr <;> try (cases hr; done)
  split at hr <;> try (cases hr; done)
  split at hr <;> try (cases hr; done)
  split at hr <;> try (cases hr; done)
  rename_i r hl _ _ hst hpd hall _ fr hfr _ fr1 h1 ws1 he
  split at hr <;> try (cases hr; done)
  rename_i e fr2 h2 ws2 he2
  rw [hpd] at he2
  obtain ⟨n, hn⟩ := cont_code E _ _ _ _ _ he; (try dsimp only at hn)
  obtain ⟨m, hm⟩ := cont_code E _ _ _ _ _ he2; (try dsimp only at hm)
  refine ⟨max n m, ?_⟩; (try dsimp only)
  simp only [*]
  rw [code_up E _ _ (Nat.le_max_left n m) _ _ _ hn]
  simp only []
  rw [code_up E _ _ (Nat.le_max_right n m) _ _ _ hm]
  exact hr
theorem callW_eq (g : Value) (args : List Value) (h : Heap) : callW E g args h = callG E (callW E) iterW g args h := by
  have h1 : LeO (callW E g args h) (callG E (callW E) iterW g args h) := by
    intro r hr
    obtain ⟨n, hn⟩ := callW_some.1 hr
    cases n with
    | zero => simp [callv] at hn
    | succ n => exact callG_le E (callv_leW E n) (iter_leW n) g args h r hn
  have h2 : LeO (callG E (callW E) iterW g args h) (callW E g args h) := by
    intro r hr
    have : ∃ n, callG E (callv E n) (iter n) g args h = some r := by
      unfold callG at hr ⊢
      split at hr
      · exact cont_callF E _ _ _ r hr
      · split at hr
        · rename_i hc
          obtain ⟨n, hn⟩ := cont_roundV E _ _ _ r hr; (try dsimp only at hn)
          exact ⟨n, by simp only [hc, if_true]; exact hn⟩
        · cases hr
      · cases hr
    obtain ⟨n, hn⟩ := this
    exact callW_some.2 ⟨n + 1, hn⟩
  cases hc : callW E g args h with
  | some r => exact (h1 r hc).symm
  | none =>
    cases hd : callG E (callW E) iterW g args h with
    | none => rfl
    | some r => rw [h2 r hd] at hc; cases hc
end
theorem iterW_eq (F : Fr → Heap → Out) (fr : Fr) (h : Heap) : iterW F fr h = thenN (F fr h) (iterW F) := by
  have h1 : LeO (iterW F fr h) (thenN (F fr h) (iterW F)) := by
    intro r hr
    obtain ⟨n, hn⟩ := iterW_some.1 hr
    cases n with
    | zero => simp [iter] at hn
    | succ n => exact thenN_le (LeO.refl _) (fun fr h => iter_leW n F F (fun _ _ => LeO.refl _) fr h) r hn
  have h2 : LeO (thenN (F fr h) (iterW F)) (iterW F fr h) := by
    intro r hr
    obtain ⟨n, hn⟩ := cont_thenN (x := F fr h) (y := fun _ => F fr h) (l := fun n => iter n F) (Cont.refl _) (fun _ _ _ => LeO.refl _)
      (fun fr hp r hr => iterW_some.1 hr) (fun n m h => iter_le (fun _ _ => LeO.refl _) n m h) r hr
    exact iterW_some.2 ⟨n + 1, hn⟩
  cases hc : iterW F fr h with
  | some r => exact (h1 r hc).symm
  | none =>
    cases hd : thenN (F fr h) (iterW F) with
    | none => rfl
    | some r => rw [h2 r hd] at hc; cases hc
end Go.L
