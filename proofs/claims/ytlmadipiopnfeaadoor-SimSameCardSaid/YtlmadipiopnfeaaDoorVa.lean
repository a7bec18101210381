/- A LOGIC OVER THE LOGICAL MACHINE: answers with a postcondition, and the rules by which a function's instructions are run within 'simp'. -/
import Derived.Test.YtlmadipiopnfeaaDoorK
set_option linter.unusedVariables false
set_option linter.unusedSimpArgs false
namespace Go.L
open Go
inductive Mk {β : Type} (b : β) : Type | mk
inductive Mk2 (A B : Prop) : Type | mk
def WX {α : Type} (W : Nat → Prop) (x : Option (α × Aa × List Nat)) (Q : α → Aa → Prop) (t : Mk Q := .mk) : Prop := ∃ a h ws, x = some (a, h, ws) ∧ (∀ b ∈ ws, W b) ∧ Q a h
def W1 {α : Type} (x : Option α) (Q : α → Prop) (t : Mk Q := .mk) : Prop := ∃ v, x = some v ∧ Q v
def WO (W : Nat → Prop) (x : Out) (Q : Ex → Fr → Aa → Prop) (t : Mk Q := .mk) : Prop := ∃ e fr h ws, x = some (e, fr, h, ws) ∧ (∀ b ∈ ws, W b) ∧ Q e fr h
def WH (W : Nat → Prop) (x : Option (Aa × List Nat)) (Q : Aa → Prop) (t : Mk Q := .mk) : Prop := ∃ h ws, x = some (h, ws) ∧ (∀ b ∈ ws, W b) ∧ Q h
def WF {α : Type} (x : α) (Q : α → Prop) (t : Mk Q := .mk) : Prop := Q x
theorem Azx {α : Type} {x : α} {Q : α → Prop} : WF x Q = Q x := id rfl
def WC (v : Value) (A B : Prop) (t : Mk2 A B := .mk) : Prop := ∃ b, v = .bool b ∧ (b = true → A) ∧ (b = false → B)
def WG (v : Value) (want : Bool) (A B : Prop) (t : Mk2 A B := .mk) : Prop := match v with
 | .bool b => if b = want then A else B
 | .tuple vs => vs.isEmpty = true ∧ B
 | _ => False
theorem Afb {α : Type} {v : α} {Q : α → Prop} : W1 (some v) Q = Q v := by simp [W1]
theorem WX_some {α : Type} {W : Nat → Prop} {a : α} {h : Aa} {Q : α → Aa → Prop} : WX W (some (a, h, [])) Q = Q a h :=
 propext ⟨fun ⟨_, _, _, e, _, hq⟩ => by cases e; exact hq, fun hq => ⟨_, _, _, rfl, ⟨(fun x hb => nomatch hb), hq⟩⟩⟩
theorem Aiz {α : Type} {W : Nat → Prop} {a : α} {h : Aa} {b : Nat} {Q : α → Aa → Prop} : WX W (some (a, h, [b])) Q = (W b ∧ Q a h) :=
 propext ⟨fun ⟨_, _, _, e, hw, hq⟩ => by cases e; exact ⟨hw _ (List.mem_singleton.2 rfl), hq⟩, fun hq => ⟨_, _, _, rfl, fun x hb => by rw [List.mem_singleton.1 hb]; exact hq.1, hq.2⟩⟩
theorem Abo {W : Nat → Prop} {h : Aa} {b : Nat} {Q : Aa → Prop} : WH W (some (h, [b])) Q = (W b ∧ Q h) :=
 propext ⟨fun ⟨_, _, e, hw, hq⟩ => by cases e; exact ⟨hw _ (List.mem_singleton.2 rfl), hq⟩, fun hq => ⟨_, _, rfl, fun x hb => by rw [List.mem_singleton.1 hb]; exact hq.1, hq.2⟩⟩
theorem Wd {W : Nat → Prop} {e : Ex} {fr : Fr} {h : Aa} {Q : Ex → Fr → Aa → Prop} : WO W (some (e, fr, h, [])) Q = Q e fr h :=
 propext ⟨fun ⟨_, _, _, _, e, _, hq⟩ => by cases e; exact hq, fun hq => ⟨_, _, _, _, rfl, ⟨(fun x hb => nomatch hb), hq⟩⟩⟩
theorem Aox {A B : Prop} : WC (.bool true) A B = A := by simp [WC]
theorem Ai3 {A B : Prop} : WC (.bool false) A B = B := by simp [WC]
theorem Awi {p : Prop} [Decidable p] {A B : Prop} (ha : p → A) (hb : ¬ p → B) : WC (.bool (decide p)) A B := by
 refine ⟨_, rfl, fun h => ha (by simpa using h), fun h => hb (by simpa using h)⟩
theorem Aoy {b : Bool} {A B : Prop} (ha : b = true → A) (hb : b = false → B) : WC (.bool b) A B := ⟨_, rfl, ha, hb⟩
theorem Aou {A B : Prop} : WG (.bool true) true A B = A := by simp [WG]
theorem Ai1 {A B : Prop} : WG (.bool false) false A B = A := by simp [WG]
theorem Azv {A B : Prop} : WG (.bool true) false A B = B := by simp [WG]
theorem Azw {A B : Prop} : WG (.bool false) true A B = B := by simp [WG]
theorem Ai0 {A B : Prop} {b : Bool} : WG undef b A B = B := by simp [WG, undef]
theorem Awh {p : Prop} [Decidable p] {A B : Prop} (ha : p → A) (hb : ¬ p → B) : WG (.bool (decide p)) true A B := by
 by_cases h : p <;> simp [WG, h, ha, hb]
theorem Aov {p : Prop} [Decidable p] {A B : Prop} (ha : p → B) (hb : ¬ p → A) : WG (.bool (decide p)) false A B := by
 by_cases h : p <;> simp [WG, h, ha, hb]
theorem Aow {b : Bool} {A B : Prop} (ha : b = true → A) (hb : b = false → B) : WG (.bool b) true A B := by
 cases b <;> simp [WG, ha, hb]
theorem Ai2 {b : Bool} {A B : Prop} (ha : b = true → B) (hb : b = false → A) : WG (.bool b) false A B := by
 cases b <;> simp [WG, ha, hb]
theorem WX.mono {α : Type} {W W' : Nat → Prop} {x : Option (α × Aa × List Nat)} {Q Q' : α → Aa → Prop} (h : WX W x Q) (hw : ∀ b, W b → W' b) (hq : ∀ a h, Q a h → Q' a h) : WX W' x Q' := by
 obtain ⟨a, h, e, rfl, d, h2⟩ := h; exact ⟨a, h, e, rfl, fun b c => hw b (d b c), hq _ _ h2⟩
theorem WO.mono {W W' : Nat → Prop} {x : Out} {Q Q' : Ex → Fr → Aa → Prop} (h : WO W x Q) (hw : ∀ b, W b → W' b) (hq : ∀ e f h, Q e f h → Q' e f h) : WO W' x Q' := by
 obtain ⟨a, f, h, g, rfl, d, h2⟩ := h; exact ⟨a, f, h, g, rfl, fun b c => hw b (d b c), hq _ _ _ h2⟩
theorem W1.mono {α : Type} {x : Option α} {Q Q' : α → Prop} (h : W1 x Q) (hq : ∀ a, Q a → Q' a) : W1 x Q' := by
 obtain ⟨a, rfl, h2⟩ := h; exact ⟨a, rfl, hq _ h2⟩
@[reducible] def i (d : Nat) (o : O) : Ins := ⟨some d, none, o, false, 0⟩
@[reducible] def k (o : O) : Ins := ⟨none, none, o, false, 0⟩
@[reducible] def w (d g : Nat) (b : Bool) (o : O) : Ins := ⟨some d, some (g, b), o, false, 0⟩
variable {W : Nat → Prop} {cf : Bk} {f : FF} {h : Aa} {r : List Ins}
def Avy {α β : Type} (x : Option (α × Aa × List Nat)) (k : α → Aa → Option (β × Aa × List Nat)) : Option (β × Aa × List Nat) := match x with
 | some (v, h', ws) => Qy ws (k v h')
 | none => none
theorem Ny {α β : Type} {x : Option (α × Aa × List Nat)} {k : α → Aa → Option (β × Aa × List Nat)} {Q : β → Aa → Prop} :
  WX W (Avy x k) Q = WX W x (fun v h' => WX W (k v h') Q) := by
 apply propext
 constructor
 ·rintro ⟨a, h, n, e, f, g⟩
  unfold Avy at e
  split at e
  ·rename_i v h' j
   cases d : k v h' with
   | none => rw [d] at e; simp [Qy] at e
   | some t =>
    obtain ⟨m, h2, c⟩ := t
    rw [d] at e
    simp only [Qy, OI, Prod.mk.injEq] at e
    obtain ⟨rfl, rfl, rfl⟩ := e
    exact ⟨v, h', j, rfl, fun b hb => f b (by simp [hb]), _, _, c, d, fun b hb => f b (by simp [hb]), g⟩
  ·cases e
 ·rintro ⟨a, h, n, rfl, f, m, h2, c, d, l, g⟩
  refine ⟨m, h2, n ++ c, ?_, fun b hb => ?_, g⟩
  ·simp only [Avy, d]; rfl
  ·rcases List.mem_append.1 hb with hb | hb
   ·exact f b hb
   ·exact l b hb
theorem Alh {Q : FF → Aa → Prop} : WX W (Fl cf [] f h) Q = Q f h := WX_some
theorem Ay2 {d : Nat} {o : O} {Q : FF → Aa → Prop} : WX W (Fl cf (⟨some d, none, o, false, 0⟩ :: r) f h) Q = WX W (opN cf f h o) (fun v h' => WX W (Fl cf r (upd f d v) h') Q) := by
 simp only [Fl, wanted, G4]; rw [← Ny (k := fun v h' => Fl cf r (upd f d v) h')]; congr 1; cases opN cf f h o <;> rfl
theorem Ay1 {o : O} {Q : FF → Aa → Prop} : WX W (Fl cf (⟨none, none, o, false, 0⟩ :: r) f h) Q = WX W (opN cf f h o) (fun _ h' => WX W (Fl cf r f h') Q) := by
 simp only [Fl, wanted, G4]; rw [← Ny (k := fun _ h' => Fl cf r f h')]; congr 1; cases opN cf f h o <;> rfl
theorem Ay0 {d g : Nat} {b : Bool} {o : O} {Q : FF → Aa → Prop} : WX W (Fl cf (⟨some d, some (g, b), o, false, 0⟩ :: r) f h) Q = WG (f g) b (WX W (opN cf f h o) (fun v h' => WX W (Fl cf r (upd f d v) h') Q)) (WX W (Fl cf r (upd f d undef) h) Q) := by
 simp only [Fl, wanted, G4]
 unfold WG
 cases hg : f g <;> simp only [] <;> try (apply propext; constructor <;> (first | (rintro ⟨_, _, _, e, _⟩; cases e) | (intro h; exact h.elim)))
 ·rename_i c
  by_cases a : c = b
  ·subst a; simp only [beq_self_eq_true, if_true]; rw [← Ny (k := fun v h' => Fl cf r (upd f d v) h')]; congr 1; cases opN cf f h o <;> rfl
  ·have : (c == b) = false := by simpa using a
   simp [this, a]
 ·rename_i j
  cases hv : j.isEmpty
  ·simp only [Bool.false_eq_true, false_and]
   apply propext
   constructor
   ·rintro ⟨_, _, _, e, _⟩; cases e
   ·intro h; exact h.elim
  ·simp
theorem Ar9 {g : Nat} {b : Bool} {o : O} {Q : FF → Aa → Prop} : WX W (Fl cf (⟨none, some (g, b), o, false, 0⟩ :: r) f h) Q = WG (f g) b (WX W (opN cf f h o) (fun v h' => WX W (Fl cf r f h') Q)) (WX W (Fl cf r f h) Q) := by
 simp only [Fl, wanted, G4]
 unfold WG
 cases hg : f g <;> simp only [] <;> try (apply propext; constructor <;> (first | (rintro ⟨_, _, _, e, _⟩; cases e) | (intro h; exact h.elim)))
 ·rename_i c
  by_cases a : c = b
  ·subst a; simp only [beq_self_eq_true, if_true]; rw [← Ny (k := fun _ h' => Fl cf r f h')]; congr 1; cases opN cf f h o <;> rfl
  ·have : (c == b) = false := by simpa using a
   simp [this, a]
 ·rename_i d
  cases hv : d.isEmpty
  ·simp only [Bool.false_eq_true, false_and]
   apply propext
   constructor
   ·rintro ⟨_, _, _, e, _⟩; cases e
   ·intro h; exact h.elim
  ·simp
theorem Ng {α : Type} {v : α} {p : Prop} {Q : α → Prop} (h : p = Q v) : p = W1 (some v) Q := by rw [Afb, h]
theorem Ly {o : O} {Q : Value → Aa → Prop} (hc : cls o = .P) : WX W (opN cf f h o) Q = W1 (Aw f o) (fun v => Q v h) := by
 unfold opN; rw [hc]; dsimp only
 cases Aw f o with
 | none => apply propext; constructor <;> rintro ⟨_, h⟩ <;> simp at h
 | some v => exact WX_some.trans (Ng rfl)
theorem Axm {o : O} {Q : Value → Aa → Prop} (hc : cls o = .M) : WX W (opN cf f h o) Q = W1 (Ir f h o) (fun v => Q v h) := by
 unfold opN; rw [hc]; dsimp only
 cases Ir f h o with
 | none => apply propext; constructor <;> rintro ⟨_, h⟩ <;> simp at h
 | some v => exact WX_some.trans (Ng rfl)
theorem Apy {o : O} {Q : Value → Aa → Prop} (hc : cls o = .A) : WX W (opN cf f h o) Q = W1 (Ka f o) (fun n => WF (n.2 h.length) (fun v => WF (h ++ [n.1]) (fun h' => Q v h'))) := by
 unfold opN; rw [hc]; dsimp only
 cases Ka f o with
 | none => apply propext; constructor <;> rintro ⟨_, h⟩ <;> simp at h
 | some v => exact WX_some.trans (Ng rfl)
theorem Atr {o : O} {Q : Value → Aa → Prop} (hc : cls o = .E) : WX W (opN cf f h o) Q = WX W (Py f h o) Q := by
 unfold opN; rw [hc]
theorem Azb {n : Nat} {a v : X} {Q : Value → Aa → Prop} : WX W (opN cf f h (.st n a v)) Q = WH W (Hw n (ev f a) (ev f v) h) (fun h' => Q undef h') := by
 unfold opN; simp only [cls]
 cases Hw n (ev f a) (ev f v) h with
 | none => apply propext; constructor <;> rintro ⟨_, _, h⟩ <;> simp at h
 | some v => obtain ⟨h', g⟩ := v; exact propext ⟨fun ⟨_, _, _, e, c, d⟩ => by cases e; exact ⟨_, _, rfl, c, d⟩, fun ⟨_, _, e, c, d⟩ => by cases e; exact ⟨_, _, _, rfl, c, d⟩⟩
theorem Amw {g : X} {args : List X} {Q : Value → Aa → Prop} : WX W (opN cf f h (.call g args)) Q = WX W (cf (ev f g) (args.map (ev f)) h) Q := rfl
variable {it : It} {sz : Nat} {fr : Fr}
theorem Abn {x : Out} {k : Fr → Aa → Out} {Q : Ex → Fr → Aa → Prop} : WO W (Gf x k) Q = WO W x (fun e fr' h' => match e with | .normal => WO W (k fr' h') Q | e => Q e fr' h') := by
 apply propext
 constructor
 ·rintro ⟨e, fr', h', m, c, d, a⟩
  simp only [Gf] at c
  split at c
  ·rename_i r s o
   split at c
   ·rename_i n f h2 g l
    simp only [OI, Prod.mk.injEq] at c
    obtain ⟨rfl, rfl, rfl, rfl⟩ := c
    exact ⟨_, _, _, _, rfl, fun b hb => d b (by simp [hb]), _, _, _, _, l, fun b hb => d b (by simp [hb]), a⟩
   ·cases c
  ·rename_i p
   subst c
   refine ⟨_, _, _, _, rfl, d, ?_⟩
   cases e with
   | normal => exact absurd rfl (p _ _ _)
   | exit _ => exact a
   | ret => exact a
 ·rintro ⟨e, fr', h', m, rfl, d, a⟩
  cases e with
  | normal =>
   obtain ⟨n, f, h2, g, l, j, a⟩ := a
   refine ⟨n, f, h2, m ++ g, by simp only [Gf, l], fun b hb => ?_, a⟩
   rcases List.mem_append.1 hb with hb | hb
   ·exact d b hb
   ·exact j b hb
  | exit _ => exact ⟨_, _, _, _, rfl, d, a⟩
  | ret => exact ⟨_, _, _, _, rfl, d, a⟩
theorem Akx {a b : C} {Q : Ex → Fr → Aa → Prop} : WO W (code cf it sz (.seq a b) fr h) Q = WO W (code cf it sz a fr h) (fun e fr' h' => match e with | .normal => WO W (code cf it sz b fr' h') Q | e => Q e fr' h') := Abn
theorem An5 {Q : Ex → Fr → Aa → Prop} : WO W (code cf it sz .skip fr h) Q = Q .normal fr h := Wd
theorem An6 {id : Nat} {Q : Ex → Fr → Aa → Prop} : WO W (code cf it sz (.exit id) fr h) Q = Q (.exit id) fr h := Wd
theorem Avn {Q : Ex → Fr → Aa → Prop} : WO W (code cf it sz .ret fr h) Q = Q .ret fr h := Wd
def frm (live : List Nat) (f : FF) : Fr := live.map fun s => (s, f s)
theorem Ant {f : FF} : frm [] f = [] := id rfl
theorem Ahz {s : Nat} {l : List Nat} {f : FF} : frm (s :: l) f = (s, f s) :: frm l f := id rfl
theorem Awf {live : List Nat} {x : Option (FF × Aa × List Nat)} {Q : Ex → Fr → Aa → Prop} : WO W (T5 live x) Q = WX W x (fun f h' => WF (frm live f) (fun fr' => Q .normal fr' h')) := by
 cases x with
 | none => apply propext; constructor <;> rintro ⟨_, _, _, h⟩ <;> simp [T5] at h
 | some v => obtain ⟨f, h, d⟩ := v; exact propext ⟨fun ⟨_, _, _, _, e, a, c⟩ => by cases e; exact ⟨_, _, _, rfl, a, c⟩, fun ⟨_, _, _, e, a, c⟩ => by cases e; exact ⟨_, _, _, _, rfl, a, c⟩⟩
theorem Avo {live : List Nat} {ins : List Ins} {Q : Ex → Fr → Aa → Prop} : WO W (code cf it sz (.reg live ins) fr h) Q = WX W (Fl cf ins (get fr) h) (fun f h' => WF (frm live f) (fun fr' => Q .normal fr' h')) := Awf
theorem Avq {live : List Nat} {n : Nat} {ins : List Ins} {Q : Ex → Fr → Aa → Prop} : WO W (code cf it sz (.drw live n ins) fr h) Q = WX W (Dt cf h.length ins (get fr) (room h n)) (fun f h' => WF (frm live f) (fun fr' => Q .normal fr' h')) := Awf
theorem An7 {x : X} {a b : C} {Q : Ex → Fr → Aa → Prop} : WO W (code cf it sz (.cond x a b) fr h) Q = WC (ev (get fr) x) (WO W (code cf it sz a fr h) Q) (WO W (code cf it sz b fr h) Q) := by
 have e : code cf it sz (.cond x a b) fr h = Vz (ev (get fr) x) (code cf it sz a fr h) (code cf it sz b fr h) := rfl
 rw [e]
 apply propext
 unfold Vz WC
 constructor
 ·intro c
  split at c
  ·rename_i t d
   refine ⟨_, d, ?_, ?_⟩
   ·intro e; simpa [e] using c
   ·intro e; simpa [e] using c
  ·obtain ⟨_, _, _, _, e, _⟩ := c; cases e
 ·rintro ⟨t, d, f, h2⟩
  rw [d]
  cases t
  ·exact h2 rfl
  ·exact f rfl
theorem Ak6 {id : Nat} {x : Out} {Q : Ex → Fr → Aa → Prop} : WO W (inBlock id x) Q = WO W x (fun e fr' h' => match e with | .exit j => if j = id then Q .normal fr' h' else Q (.exit j) fr' h' | e => Q e fr' h') := by
 apply propext
 cases x with
 | none => constructor <;> rintro ⟨_, _, _, _, h, _⟩ <;> simp [inBlock] at h
 | some t =>
  obtain ⟨e, fr, h, f⟩ := t
  cases e with
  | exit j =>
   by_cases d : j = id
   ·simp only [inBlock, d, if_true]
    exact ⟨fun ⟨_, _, _, _, e, a, c⟩ => by cases e; exact ⟨_, _, _, _, rfl, a, by simpa [d] using c⟩, fun ⟨_, _, _, _, e, a, c⟩ => by cases e; exact ⟨_, _, _, _, rfl, a, by simpa [d] using c⟩⟩
   ·simp only [inBlock, d, if_false]
    exact ⟨fun ⟨_, _, _, _, e, a, c⟩ => by cases e; exact ⟨_, _, _, _, rfl, a, by simpa [d] using c⟩, fun ⟨_, _, _, _, e, a, c⟩ => by cases e; exact ⟨_, _, _, _, rfl, a, by simpa [d] using c⟩⟩
  | normal => exact ⟨fun ⟨_, _, _, _, e, a, c⟩ => by cases e; exact ⟨_, _, _, _, rfl, a, c⟩, fun ⟨_, _, _, _, e, a, c⟩ => by cases e; exact ⟨_, _, _, _, rfl, a, c⟩⟩
  | ret => exact ⟨fun ⟨_, _, _, _, e, a, c⟩ => by cases e; exact ⟨_, _, _, _, rfl, a, c⟩, fun ⟨_, _, _, _, e, a, c⟩ => by cases e; exact ⟨_, _, _, _, rfl, a, c⟩⟩
theorem O5 {id : Nat} {b : C} {Q : Ex → Fr → Aa → Prop} : WO W (code cf it sz (.block id b) fr h) Q = WO W (code cf it sz b fr h) (fun e fr' h' => match e with | .exit j => if j = id then Q .normal fr' h' else Q (.exit j) fr' h' | e => Q e fr' h') := Ak6
theorem S9 {b : C} {Q : Ex → Fr → Aa → Prop} : WO W (code cf it sz (.loop b) fr h) Q = WO W (it (code cf it sz b) fr h) Q := rfl
def Next {α : Type} (I : α → Fr → Aa → Prop) (μ : α → Nat) (a : α) (fr : Fr) (h : Aa) (t : Mk (I, μ, a) := .mk) : Prop := ∃ a', I a' fr h ∧ μ a' < μ a
theorem Next.mk {α : Type} {I : α → Fr → Aa → Prop} {μ : α → Nat} {a : α} {fr : Fr} {h : Aa} (a' : α) (hi : I a' fr h) (hm : μ a' < μ a) : Next I μ a fr h := ⟨a', hi, hm⟩
theorem WO.loop {α : Type} (I : α → Fr → Aa → Prop) (μ : α → Nat) {F : Fr → Aa → Out} {Q : Ex → Fr → Aa → Prop}
  (step : ∀ a fr h, I a fr h → WO W (F fr h) (fun e fr' h' => match e with | .normal => Next I μ a fr' h' | e => Q e fr' h')) :
  ∀ (a : α) {fr : Fr} {h : Aa}, I a fr h → WO W (iterW F fr h) Q := by
 have j : ∀ n a fr h, μ a ≤ n → I a fr h → WO W (iterW F fr h) Q := by
  intro n
  induction n with
  | zero =>
   intro a fr h o d
   rw [Ahu, Abn]
   refine (step a fr h d).mono (fun _ h => h) fun e f h c => ?_
   cases e with
   | normal => obtain ⟨l, _, m⟩ := c; omega
   | exit _ => exact c
   | ret => exact c
  | succ n ih =>
   intro a fr h o d
   rw [Ahu, Abn]
   refine (step a fr h d).mono (fun _ h => h) fun e f h c => ?_
   cases e with
   | normal => obtain ⟨l, g, m⟩ := c; exact ih l f h (by omega) g
   | exit _ => exact c
   | ret => exact c
 intro a fr h d
 exact j (μ a) a fr h (Nat.le_refl _) d
theorem P6 {E : Env} {g : FuncId} {c : FnC} (hf : E g = .text c) (args : List Value) (h : Aa) : callW E (.func (.func g) #[] #[]) args h = Gb (callW E) iterW (.text c) args h := by
 rw [O6]; simp [J3, hf]
theorem P7 {E : Env} {g : FuncId} {c : FnC} (hf : E g = .text c) (a b : Array Value) (args : List Value) (h : Aa) : callW E (.func (.func g) a b) args h = Gb (callW E) iterW (.text c) (a.toList ++ args ++ b.toList) h := by
 rw [O6]; simp [J3, hf]
def Res (res : List R) (Q : Value → Aa → Prop) (e : Ex) (fr : Fr) (h : Aa) : Prop := match e with
 | .exit _ => False
 | _ => W1 (Mm fr h res) fun vs => Q (Qp vs) h
theorem Aoz {res : List R} {Q : Value → Aa → Prop} {fr : Fr} {h : Aa} : Res res Q .ret fr h = W1 (Mm fr h res) fun vs => Q (Qp vs) h := rfl
theorem Abq {res : List R} {Q : Value → Aa → Prop} {fr : Fr} {h : Aa} : Res res Q .normal fr h = W1 (Mm fr h res) fun vs => Q (Qp vs) h := rfl
theorem Rz {ws : List Nat} {m : Nat} (h : ∀ b ∈ ws, m ≤ b) : ws.filter (fun b => decide (b < m)) = [] := by
 rw [List.filter_eq_nil_iff]; intro b a; have := h b a; simp; omega
theorem Am {E : Env} {g : FuncId} {c : FnC} (hE : E g = .text c) {sz : Nat} {res : List R} {body : C} (hc : c = ⟨sz, res, body⟩) {args : List Value} {h : Aa} {v : Value} (hl : args.length ≤ sz)
  (hb : WO (fun b => h.length ≤ b) (code (callW E) iterW sz body (Ak args 0) h) (Res res fun v' _ => Ad h.length 4 v = true ∧ v' = v)) :
  callW E (.func (.func g) #[] #[]) args h = some (v, h, []) := by
 subst hc
 rw [P6 hE]
 obtain ⟨e, fr, h', o, p, l, n⟩ := hb
 have a : ∀ d, Res res (fun v' _ => Ad h.length 4 v = true ∧ v' = v) d fr h' → fin res h (some (d, fr, h', o)) = some (v, h, []) := by
  intro d j
  cases d with
  | exit _ => exact j.elim
  | normal => obtain ⟨m, f, h2, rfl⟩ := j; simp [fin, f, gc, Rz l, h2]
  | ret => obtain ⟨m, f, h2, rfl⟩ := j; simp [fin, f, gc, Rz l, h2]
 simp only [Gb, hl, if_true]
 rw [p]
 exact a e n
theorem Ain {E : Env} {g : FuncId} {c : FnC} (hf : E g = .textK c) (a b : Array Value) (args : List Value) (h : Aa) : callW E (.func (.func g) a b) args h = Gb (callW E) iterW (.textK c) (a.toList ++ args ++ b.toList) h := by
 rw [O6]; simp [J3, hf]
theorem E8 {E : Env} {g : FuncId} {c : FnC} (hE : E g = .textK c) {sz : Nat} {res : List R} {body : C} (hc : c = ⟨sz, res, body⟩) {a b : Array Value} {args : List Value} {h : Aa} {W : Nat → Prop} {Q : Value → Aa → Prop} (hl : (a.toList ++ args ++ b.toList).length ≤ sz)
  (hb : WO W (code (callW E) iterW sz body (Ak (a.toList ++ args ++ b.toList) 0) h) (Res res Q)) : WX W (callW E (.func (.func g) a b) args h) Q := by
 subst hc
 rw [Ain hE]
 obtain ⟨e, fr, h', n, m, j, d⟩ := hb
 simp only [Gb, hl, if_true]
 rw [m]
 cases e with
 | exit _ => exact d.elim
 | normal => obtain ⟨l, f, h2⟩ := d; exact ⟨_, _, _, by simp [Yq, f], j, h2⟩
 | ret => obtain ⟨l, f, h2⟩ := d; exact ⟨_, _, _, by simp [Yq, f], j, h2⟩
end Go.L
namespace Go.L
open Go
def Alr (c a b : Value) : Option Value := match c with | .bool t => some (if t then a else b) | _ => none
def A1i (k : IntKind) (x : Value) : Option Value := match x with | .int _ n => some (.int k (k.wrap n)) | _ => none
def A1h (x : Value) : Option Value := match x with | .string s => some (.string s) | _ => none
def A1a (off : Nat) (x : Value) : Option Value := match x with | .pointer (some a) => some (.pointer (some ⟨a.block, a.off + off, none⟩)) | _ => none
def A09 (off : Nat) (agg : Option Nat) (x : Value) : Option Value := match x with | .agg cs => part cs.toList off agg | _ => none
def Ax6 (n size : Nat) (x i : Value) : Option Value := match x with | .pointer (some a) => Sp size n a i | _ => none
def Aqa (size : Nat) (x i : Value) : Option Value := match x with | .slice (some a) n _ => Sp size n a i | _ => none
def Ax5 (n size : Nat) (agg : Option Nat) (x i : Value) : Option Value := match x, i with
    | .agg cs, .int _ j => if 0 ≤ j ∧ j < n then part cs.toList (j.toNat * size) agg else none
    | _, _ => none
def Akj (x i : Value) : Option Value := match x, i with
    | .string s, .int _ j => if 0 ≤ j then (s[j.toNat]?).map fun b => .int .u8 b.toNat else none
    | _, _ => none
def Cr (x : Option Value) (dflt high : Nat) : Option Nat := match x with
  | none => some dflt
  | some (.int _ i) => if 0 ≤ i ∧ i ≤ high then some i.toNat else none
  | some _ => none
theorem Sm (f : FF) (x : Option X) (d h : Nat) : Bs f x d h = Cr (x.map (ev f)) d h := by
  cases x with
  | none => rfl
  | some x =>
    show (match ev f x with | .int _ i => if 0 ≤ i ∧ i ≤ h then some i.toNat else none | _ => none) = Cr (some (ev f x)) d h
    unfold Cr
    cases ev f x <;> rfl
def Apd (x : Value) (lo hi : Option Value) : Option Value := match x with
    | .string s => (Cr hi s.size s.size).bind fun h => (Cr lo 0 h).bind fun l => some (.string (s.extract l h))
    | _ => none
def Lv (size : Nat) (x : Value) (lo hi mx : Option Value) : Option Value :=
  match x with
  | .slice none 0 0 => if mx.isSome ∧ hi.isNone then none else
    (Cr mx 0 0).bind fun m => (Cr hi 0 m).bind fun h => (Cr lo 0 h).bind fun _ => some (.slice none 0 0)
  | .slice (some a) n cap =>
    match mx with
    | some _ => match hi with
      | none => none
      | some _ => (Cr mx 0 cap).bind fun m => (Cr hi 0 m).bind fun h => (Cr lo 0 h).bind fun l =>
        some (.slice (some ⟨a.block, a.off + l * size, none⟩) (h - l) (m - l))
    | none => match a.spot with
      | none => (Cr hi n cap).bind fun h => (Cr lo 0 h).bind fun l =>
          if h ≤ cap then some (.slice (some ⟨a.block, a.off + l * size, none⟩) (h - l) (cap - l)) else none
      | some s => if s = size then (Cr hi n n).bind fun h => (Cr lo 0 h).bind fun l =>
          some (.slice (some ⟨a.block, a.off + l * size, some s⟩) (h - l) (h - l)) else none
  | _ => none
def Aw8 (n size : Nat) (x : Value) (lo hi : Option Value) : Option Value := match x with
    | .pointer (some a) => (Cr hi n n).bind fun h => (Cr lo 0 h).bind fun l => some (.slice (some ⟨a.block, a.off + l * size, none⟩) (h - l) (n - l))
    | _ => none
def Axu (x : Value) : Option Value := match x with
    | .pointer (some a) => some (.pointer (some a))
    | .func (.func g) a b => some (.func (.func g) a b)
    | _ => none
def A1d (x : Value) (i : Nat) : Option Value := match x with
    | .tuple vs => match vs.toList[i]? with
      | some v => if Fk v then some v else none
      | none => none
    | _ => none
def Oz (text : Bool) (x : Value) : Option Value := match text, x with
    | true, .string s => some (.int .i64 s.size)
    | false, .slice _ n _ => some (.int .i64 n)
    | _, _ => none
def Vs : List (Nat × Nat × Value) → List Value → Option (List Value)
  | [], c => some c
  | (off, n, x) :: r, c => if (Bp x).length = n ∧ off + n ≤ c.length ∧ (Bp x).all Ag then Vs r (setCells c off (Bp x)) else none
theorem Vr (f : FF) : ∀ (l : List (Nat × Nat × X)) (c : List Value), R5 f l c = Vs (l.map fun p => (p.1, p.2.1, ev f p.2.2)) c
  | [], c => rfl
  | (off, n, x) :: r, c => by simp only [R5, Vs, List.map_cons, Vr f r]
theorem Arz (f : FF) (size : Nat) (x : Value) (lo hi mx : Option X) : Zn f size x lo hi mx = Lv size x (lo.map (ev f)) (hi.map (ev f)) (mx.map (ev f)) := by
  unfold Zn Lv
  simp only [Sm, Option.isSome_map, Option.isNone_map]
  cases mx <;> cases hi <;> rfl
def Aue (x : Value) (h : Aa) : Option Value := match x with
    | .map none => some (.int .i64 0)
    | .map (some r) => match h[r]? with
      | some (.map es) => some (.int .i64 es.length)
      | _ => none
    | _ => none
def Av9 (x : Value) (h : Aa) : Option Value := match x with
    | .slice _ _ _ => match cellsOf 1 x h with
      | some (_, c) => (bytesOf c).map fun b => .string ⟨b.toArray⟩
      | none => none
    | _ => none
def Sk (size : Nat) (zero : List Value) (n : Nat) (ps : List (Nat × Nat × Value)) : Option New :=
  if n * size ≤ 16777216 then (Vs ps (List.replicate n zero).flatten).bind fun c => Ac c fun b => .slice (some ⟨b, 0, none⟩) n n else none
def Ap3 (zero : List Value) (bytes : Nat) (n c : Value) : Option New := match n, c with
    | .int .i64 n, .int .i64 c =>
      if 0 ≤ n ∧ n ≤ c ∧ bytes * c ≤ 140737488355328 ∧ c < 9223372036854775808 then
        Ac (List.replicate c.toNat zero).flatten fun b => .slice (some ⟨b, 0, none⟩) n.toNat c.toNat
      else none
    | _, _ => none
def A14 (x : Value) : Option New := match x with
    | .string s => if s.size < 4611686018427387904 then some (.cells (s.data.toList.map fun b => .int .u8 b.toNat) true, fun b => .slice (some ⟨b, 0, some 1⟩) s.size s.size) else none
    | _ => none
def Ax1 (q : EqK) (m k v : Value) (h : Aa) : Option (Value × Aa × List Nat) := match m with
    | .map (some r) => match h[r]? with
      | some (.map es) => if Rw q k then (N5 q k v es).map fun es' => (undef, h.set r (.map es'), [r]) else none
      | _ => none
    | _ => none
def A3i (q : EqK) (m k : Value) (h : Aa) : Option (Value × Aa × List Nat) := match m with
    | .map (some r) => match h[r]? with
      | some (.map es) => if Rw q k then (Yr q k es).map fun es' => (.tuple #[], h.set r (.map es'), [r]) else none
      | _ => none
    | _ => none
section
variable {W : Nat → Prop} {cf : Bk} {f : FF} {h : Aa} {r : List Ins} {m d rk : Nat} {g : Option (Nat × Bool)} {fl : Bool} {dd : Option Nat}
theorem Asm {Q : FF → Aa → Prop} : WX W (Dt cf m [] f h) Q = Q f h := WX_some
theorem A18 {o : O} {Q : FF → Aa → Prop} : WX W (Dt cf m (⟨some d, none, o, fl, rk⟩ :: r) f h) Q = WX W (opD cf m f h ⟨some d, none, o, fl, rk⟩) (fun v h' => WX W (Dt cf m r (upd f d v) h') Q) := by
  simp only [Dt, wanted, G4]; rw [← Ny (k := fun v h' => Dt cf m r (upd f d v) h')]; congr 1; cases opD cf m f h ⟨some d, none, o, fl, rk⟩ <;> rfl
theorem A17 {o : O} {Q : FF → Aa → Prop} : WX W (Dt cf m (⟨none, none, o, fl, rk⟩ :: r) f h) Q = WX W (opD cf m f h ⟨none, none, o, fl, rk⟩) (fun _ h' => WX W (Dt cf m r f h') Q) := by
  simp only [Dt, wanted, G4]; rw [← Ny (k := fun _ h' => Dt cf m r f h')]; congr 1; cases opD cf m f h ⟨none, none, o, fl, rk⟩ <;> rfl
theorem A16 {g : Nat} {b : Bool} {o : O} {Q : FF → Aa → Prop} : WX W (Dt cf m (⟨some d, some (g, b), o, fl, rk⟩ :: r) f h) Q = WG (f g) b (WX W (opD cf m f h ⟨some d, some (g, b), o, fl, rk⟩) (fun v h' => WX W (Dt cf m r (upd f d v) h') Q)) (WX W (Dt cf m r (upd f d undef) h) Q) := by
  simp only [Dt, wanted, G4]
  unfold WG
  cases hg : f g <;> simp only [] <;> try (apply propext; constructor <;> (first | (rintro ⟨_, _, _, e, _⟩; cases e) | (intro h; exact h.elim)))
  · rename_i a
    by_cases c : a = b
    · subst c; simp only [beq_self_eq_true, if_true]; rw [← Ny (k := fun v h' => Dt cf m r (upd f d v) h')]; congr 1; cases opD cf m f h ⟨some d, some (g, a), o, fl, rk⟩ <;> rfl
    · have : (a == b) = false := by simpa using c
      simp [this, c]
  · rename_i j
    cases hv : j.isEmpty
    · simp only [Bool.false_eq_true, false_and]
      apply propext
      constructor
      · rintro ⟨_, _, _, e, _⟩; cases e
      · intro h; exact h.elim
    · simp
theorem Ay8 {g : Nat} {b : Bool} {o : O} {Q : FF → Aa → Prop} : WX W (Dt cf m (⟨none, some (g, b), o, fl, rk⟩ :: r) f h) Q = WG (f g) b (WX W (opD cf m f h ⟨none, some (g, b), o, fl, rk⟩) (fun _ h' => WX W (Dt cf m r f h') Q)) (WX W (Dt cf m r f h) Q) := by
  simp only [Dt, wanted, G4]
  unfold WG
  cases hg : f g <;> simp only [] <;> try (apply propext; constructor <;> (first | (rintro ⟨_, _, _, e, _⟩; cases e) | (intro h; exact h.elim)))
  · rename_i a
    by_cases c : a = b
    · subst c; simp only [beq_self_eq_true, if_true]; rw [← Ny (k := fun _ h' => Dt cf m r f h')]; congr 1; cases opD cf m f h ⟨none, some (g, a), o, fl, rk⟩ <;> rfl
    · have : (a == b) = false := by simpa using c
      simp [this, c]
  · rename_i d
    cases hv : d.isEmpty
    · simp only [Bool.false_eq_true, false_and]
      apply propext
      constructor
      · rintro ⟨_, _, _, e, _⟩; cases e
      · intro h; exact h.elim
    · simp
theorem Ga {o : O} {Q : Value → Aa → Prop} (hc : cls o = .P) : WX W (opD cf m f h ⟨dd, g, o, fl, rk⟩) Q = W1 (Aw f o) (fun v => Q v h) := by
  unfold opD; dsimp only; rw [hc]; dsimp only
  cases Aw f o with
  | none => apply propext; constructor <;> rintro ⟨_, h⟩ <;> simp at h
  | some v => exact WX_some.trans (Ng rfl)
theorem Amq {o : O} {Q : Value → Aa → Prop} (hc : cls o = .M) : WX W (opD cf m f h ⟨dd, g, o, false, rk⟩) Q = W1 (Ir f h o) (fun v => Q v h) := by
  unfold opD; dsimp only; rw [hc]; simp only [Bool.false_eq_true, false_and, if_false]
  cases Ir f h o with
  | none => apply propext; constructor <;> rintro ⟨_, h⟩ <;> simp at h
  | some v => exact WX_some.trans (Ng rfl)
def WL (m : Nat) (v : Value) (A : Prop) (t : Mk2 A A := .mk) : Prop := low m v = true ∧ A
theorem Aea {o : O} {Q : Value → Aa → Prop} (hc : cls o = .M) : WX W (opD cf m f h ⟨dd, g, o, true, rk⟩) Q = WL m (Ab6 f o) (W1 (Ir f h o) (fun v => Q v h)) := by
  unfold opD WL; dsimp only; rw [hc]; simp only [true_and]
  cases hl : low m (Ab6 f o)
  · simp only [if_true]
    apply propext; constructor
    · rintro ⟨_, _, _, e, _⟩; cases e
    · rintro ⟨e, _⟩; cases e
  · simp only [Bool.true_eq_false, if_false, true_and]
    cases Ir f h o with
    | none => apply propext; constructor <;> rintro ⟨_, h⟩ <;> simp at h
    | some v => exact WX_some.trans (Ng rfl)
theorem Acs {o : O} {Q : Value → Aa → Prop} (hc : cls o = .A) : WX W (opD cf m f h ⟨dd, g, o, fl, rk⟩) Q = W1 (Ka f o) (fun n => WF (n.2 (m + rk)) (fun v => WF (h.set (m + rk) n.1) (fun h' => Q v h'))) := by
  unfold opD; dsimp only; rw [hc]; dsimp only
  cases Ka f o with
  | none => apply propext; constructor <;> rintro ⟨_, h⟩ <;> simp at h
  | some v => exact WX_some.trans (Ng rfl)
theorem Ago {o : O} {Q : Value → Aa → Prop} (hc : cls o = .E) : WX W (opD cf m f h ⟨dd, g, o, fl, rk⟩) Q = WX W (Py f h o) Q := by
  unfold opD; dsimp only; rw [hc]
theorem Ast {n : Nat} {a v : X} {Q : Value → Aa → Prop} : WX W (opD cf m f h ⟨dd, g, .st n a v, false, rk⟩) Q = WH W (Hw n (ev f a) (ev f v) h) (fun h' => Q undef h') := by
  unfold opD; simp only [cls, Bool.false_eq_true, false_and, if_false]
  cases Hw n (ev f a) (ev f v) h with
  | none => apply propext; constructor <;> rintro ⟨_, _, h⟩ <;> simp at h
  | some v => obtain ⟨h', j⟩ := v; exact propext ⟨fun ⟨_, _, _, e, c, d⟩ => by cases e; exact ⟨_, _, rfl, c, d⟩, fun ⟨_, _, e, c, d⟩ => by cases e; exact ⟨_, _, _, rfl, c, d⟩⟩
def WHi (m : Nat) (v : Value) (A : Prop) (t : Mk2 A A := .mk) : Prop := high m v = true ∧ A
theorem Als {n : Nat} {a v : X} {Q : Value → Aa → Prop} : WX W (opD cf m f h ⟨dd, g, .st n a v, true, rk⟩) Q = WHi m (ev f a) (WH W (Hw n (ev f a) (ev f v) h) (fun h' => Q undef h')) := by
  unfold opD WHi; simp only [cls, true_and]
  cases hl : high m (ev f a)
  · simp only [if_true]
    apply propext; constructor
    · rintro ⟨_, _, _, e, _⟩; cases e
    · rintro ⟨e, _⟩; cases e
  · simp only [Bool.true_eq_false, if_false, true_and]
    cases Hw n (ev f a) (ev f v) h with
    | none => apply propext; constructor <;> rintro ⟨_, _, h⟩ <;> simp at h
    | some v => obtain ⟨h', j⟩ := v; exact propext ⟨fun ⟨_, _, _, e, c, d⟩ => by cases e; exact ⟨_, _, rfl, c, d⟩, fun ⟨_, _, e, c, d⟩ => by cases e; exact ⟨_, _, _, rfl, c, d⟩⟩
theorem Agm {x : X} {args : List X} {Q : Value → Aa → Prop} : WX W (opD cf m f h ⟨dd, g, .call x args, false, rk⟩) Q = WX W (cf (ev f x) (args.map (ev f)) h) Q := by
  unfold opD; simp only [cls, Bool.false_eq_true, false_and, if_false]
  congr 1
  cases cf (ev f x) (args.map (ev f)) h <;> rfl
def WQ (h : Aa) (x : Option (Value × Aa × List Nat)) (Q : Value → Aa → Prop) (t : Mk Q := .mk) : Prop := ∃ v h', x = some (v, h', []) ∧ h'.length = h.length ∧ Q v h'
theorem Ayw {v : Value} {h h' : Aa} {Q : Value → Aa → Prop} : WQ h (some (v, h', [])) Q = (h'.length = h.length ∧ Q v h') :=
  propext ⟨fun ⟨_, _, e, hl, hq⟩ => by cases e; exact ⟨hl, hq⟩, fun ⟨hl, hq⟩ => ⟨_, _, rfl, hl, hq⟩⟩
theorem Aot {v : Value} {h : Aa} {Q : Value → Aa → Prop} : WQ h (some (v, h, [])) Q = Q v h := by rw [Ayw]; simp
theorem Acr {x : X} {args : List X} {Q : Value → Aa → Prop} : WX W (opD cf m f h ⟨dd, g, .call x args, true, rk⟩) Q = WQ h (cf (ev f x) (args.map (ev f)) h) Q := by
  unfold opD WQ; simp only [cls, true_and]
  cases cf (ev f x) (args.map (ev f)) h with
  | none => apply propext; constructor
            · rintro ⟨_, _, _, e, _⟩; cases e
            · rintro ⟨_, _, e, _⟩; cases e
  | some t =>
    obtain ⟨v, h', l⟩ := t
    dsimp only
    by_cases c : h'.length = h.length ∧ l = []
    · obtain ⟨d, rfl⟩ := c
      simp only [d, and_self, not_true, if_false]
      exact propext ⟨fun ⟨_, _, _, e, o, a⟩ => by cases e; exact ⟨_, _, rfl, d, a⟩, fun ⟨_, _, e, j, a⟩ => by cases e; exact ⟨_, _, _, rfl, (fun b n => nomatch n), a⟩⟩
    · rw [if_pos c]
      apply propext; constructor
      · rintro ⟨_, _, _, e, _⟩; cases e
      · rintro ⟨_, _, e, j, _⟩
        cases e
        exact absurd ⟨j, rfl⟩ c
theorem As2 {x : X} {Q : Value → Aa → Prop} : WX W (opN cf f h (.mov x)) Q = W1 (some (ev f x)) (fun v => Q v h) := by rw [Ly rfl]; rfl
theorem Al0 {x : X} {Q : Value → Aa → Prop} : WX W (opD cf m f h ⟨dd, g, (.mov x), fl, rk⟩) Q = W1 (some (ev f x)) (fun v => Q v h) := by rw [Ga rfl]; rfl
theorem Amr {c a b : X} {Q : Value → Aa → Prop} : WX W (opN cf f h (.pick c a b)) Q = W1 (Alr (ev f c) (ev f a) (ev f b)) (fun v => Q v h) := by rw [Ly rfl]; rfl
theorem Agh {c a b : X} {Q : Value → Aa → Prop} : WX W (opD cf m f h ⟨dd, g, (.pick c a b), fl, rk⟩) Q = W1 (Alr (ev f c) (ev f a) (ev f b)) (fun v => Q v h) := by rw [Ga rfl]; rfl
theorem Atn {op : BinOp} {q : EqK} {x y : X} {Q : Value → Aa → Prop} : WX W (opN cf f h (.bin op q x y)) Q = W1 (binOp op q (ev f x) (ev f y)) (fun v => Q v h) := by rw [Ly rfl]; rfl
theorem Amm {op : BinOp} {q : EqK} {x y : X} {Q : Value → Aa → Prop} : WX W (opD cf m f h ⟨dd, g, (.bin op q x y), fl, rk⟩) Q = W1 (binOp op q (ev f x) (ev f y)) (fun v => Q v h) := by rw [Ga rfl]; rfl
theorem Aza {op : UnOp} {x : X} {Q : Value → Aa → Prop} : WX W (opN cf f h (.un op x)) Q = W1 (unOp op (ev f x)) (fun v => Q v h) := by rw [Ly rfl]; rfl
theorem Ass {op : UnOp} {x : X} {Q : Value → Aa → Prop} : WX W (opD cf m f h ⟨dd, g, (.un op x), fl, rk⟩) Q = W1 (unOp op (ev f x)) (fun v => Q v h) := by rw [Ga rfl]; rfl
theorem Ath {k : IntKind} {x : X} {Q : Value → Aa → Prop} : WX W (opN cf f h (.cvi k x)) Q = W1 (A1i k (ev f x)) (fun v => Q v h) := by rw [Ly rfl]; rfl
theorem Amg {k : IntKind} {x : X} {Q : Value → Aa → Prop} : WX W (opD cf m f h ⟨dd, g, (.cvi k x), fl, rk⟩) Q = W1 (A1i k (ev f x)) (fun v => Q v h) := by rw [Ga rfl]; rfl
theorem Atg {x : X} {Q : Value → Aa → Prop} : WX W (opN cf f h (.cvs x)) Q = W1 (A1h (ev f x)) (fun v => Q v h) := by rw [Ly rfl]; rfl
theorem Amf {x : X} {Q : Value → Aa → Prop} : WX W (opD cf m f h ⟨dd, g, (.cvs x), fl, rk⟩) Q = W1 (A1h (ev f x)) (fun v => Q v h) := by rw [Ga rfl]; rfl
theorem Atm {z : List Value} {p : List (Nat × Nat × X)} {Q : Value → Aa → Prop} : WX W (opN cf f h (.bld z p)) Q = W1 ((Vs (p.map fun p => (p.1, p.2.1, ev f p.2.2)) z).map fun c => .agg c.toArray) (fun v => Q v h) := by rw [Ly rfl]; simp only [Aw, Vr]
theorem Aml {z : List Value} {p : List (Nat × Nat × X)} {Q : Value → Aa → Prop} : WX W (opD cf m f h ⟨dd, g, (.bld z p), fl, rk⟩) Q = W1 ((Vs (p.map fun p => (p.1, p.2.1, ev f p.2.2)) z).map fun c => .agg c.toArray) (fun v => Q v h) := by rw [Ga rfl]; simp only [Aw, Vr]
theorem Atd {off : Nat} {x : X} {Q : Value → Aa → Prop} : WX W (opN cf f h (.fld off x)) Q = W1 (A1a off (ev f x)) (fun v => Q v h) := by rw [Ly rfl]; rfl
theorem Amc {off : Nat} {x : X} {Q : Value → Aa → Prop} : WX W (opD cf m f h ⟨dd, g, (.fld off x), fl, rk⟩) Q = W1 (A1a off (ev f x)) (fun v => Q v h) := by rw [Ga rfl]; rfl
theorem Atc {off : Nat} {agg : Option Nat} {x : X} {Q : Value → Aa → Prop} : WX W (opN cf f h (.fof off agg x)) Q = W1 (A09 off agg (ev f x)) (fun v => Q v h) := by rw [Ly rfl]; rfl
theorem Amb {off : Nat} {agg : Option Nat} {x : X} {Q : Value → Aa → Prop} : WX W (opD cf m f h ⟨dd, g, (.fof off agg x), fl, rk⟩) Q = W1 (A09 off agg (ev f x)) (fun v => Q v h) := by rw [Ga rfl]; rfl
theorem Atb {n size : Nat} {x y : X} {Q : Value → Aa → Prop} : WX W (opN cf f h (.ixa n size x y)) Q = W1 (Ax6 n size (ev f x) (ev f y)) (fun v => Q v h) := by rw [Ly rfl]; rfl
theorem Ama {n size : Nat} {x y : X} {Q : Value → Aa → Prop} : WX W (opD cf m f h ⟨dd, g, (.ixa n size x y), fl, rk⟩) Q = W1 (Ax6 n size (ev f x) (ev f y)) (fun v => Q v h) := by rw [Ga rfl]; rfl
theorem Ata {size : Nat} {x y : X} {Q : Value → Aa → Prop} : WX W (opN cf f h (.ixs size x y)) Q = W1 (Aqa size (ev f x) (ev f y)) (fun v => Q v h) := by rw [Ly rfl]; rfl
theorem Al9 {size : Nat} {x y : X} {Q : Value → Aa → Prop} : WX W (opD cf m f h ⟨dd, g, (.ixs size x y), fl, rk⟩) Q = W1 (Aqa size (ev f x) (ev f y)) (fun v => Q v h) := by rw [Ga rfl]; rfl
theorem As8 {n size : Nat} {agg : Option Nat} {x y : X} {Q : Value → Aa → Prop} : WX W (opN cf f h (.ixv n size agg x y)) Q = W1 (Ax5 n size agg (ev f x) (ev f y)) (fun v => Q v h) := by rw [Ly rfl]; rfl
theorem Al7 {n size : Nat} {agg : Option Nat} {x y : X} {Q : Value → Aa → Prop} : WX W (opD cf m f h ⟨dd, g, (.ixv n size agg x y), fl, rk⟩) Q = W1 (Ax5 n size agg (ev f x) (ev f y)) (fun v => Q v h) := by rw [Ga rfl]; rfl
theorem As9 {x y : X} {Q : Value → Aa → Prop} : WX W (opN cf f h (.ixt x y)) Q = W1 (Akj (ev f x) (ev f y)) (fun v => Q v h) := by rw [Ly rfl]; rfl
theorem Al8 {x y : X} {Q : Value → Aa → Prop} : WX W (opD cf m f h ⟨dd, g, (.ixt x y), fl, rk⟩) Q = W1 (Akj (ev f x) (ev f y)) (fun v => Q v h) := by rw [Ga rfl]; rfl
theorem Asv {x : X} {lo hi : Option X} {Q : Value → Aa → Prop} : WX W (opN cf f h (.slt x lo hi)) Q = W1 (Apd (ev f x) (lo.map (ev f)) (hi.map (ev f))) (fun v => Q v h) := by rw [Ly rfl]; simp only [Aw, Sm, Apd]; congr 1
theorem Alt {x : X} {lo hi : Option X} {Q : Value → Aa → Prop} : WX W (opD cf m f h ⟨dd, g, (.slt x lo hi), fl, rk⟩) Q = W1 (Apd (ev f x) (lo.map (ev f)) (hi.map (ev f))) (fun v => Q v h) := by rw [Ga rfl]; simp only [Aw, Sm, Apd]; congr 1
theorem Asw {size : Nat} {x : X} {lo hi mx : Option X} {Q : Value → Aa → Prop} : WX W (opN cf f h (.sls size x lo hi mx)) Q = W1 (Lv size (ev f x) (lo.map (ev f)) (hi.map (ev f)) (mx.map (ev f))) (fun v => Q v h) := by rw [Ly rfl]; simp only [Aw, Arz]
theorem Alu {size : Nat} {x : X} {lo hi mx : Option X} {Q : Value → Aa → Prop} : WX W (opD cf m f h ⟨dd, g, (.sls size x lo hi mx), fl, rk⟩) Q = W1 (Lv size (ev f x) (lo.map (ev f)) (hi.map (ev f)) (mx.map (ev f))) (fun v => Q v h) := by rw [Ga rfl]; simp only [Aw, Arz]
theorem Asx {n size : Nat} {x : X} {lo hi : Option X} {Q : Value → Aa → Prop} : WX W (opN cf f h (.sla n size x lo hi)) Q = W1 (Aw8 n size (ev f x) (lo.map (ev f)) (hi.map (ev f))) (fun v => Q v h) := by rw [Ly rfl]; simp only [Aw, Sm, Aw8]; congr 1
theorem Alv {n size : Nat} {x : X} {lo hi : Option X} {Q : Value → Aa → Prop} : WX W (opD cf m f h ⟨dd, g, (.sla n size x lo hi), fl, rk⟩) Q = W1 (Aw8 n size (ev f x) (lo.map (ev f)) (hi.map (ev f))) (fun v => Q v h) := by rw [Ga rfl]; simp only [Aw, Sm, Aw8]; congr 1
theorem Asz {x : X} {Q : Value → Aa → Prop} : WX W (opN cf f h (.nil x)) Q = W1 (Axu (ev f x)) (fun v => Q v h) := by rw [Ly rfl]; rfl
theorem Alx {x : X} {Q : Value → Aa → Prop} : WX W (opD cf m f h ⟨dd, g, (.nil x), fl, rk⟩) Q = W1 (Axu (ev f x)) (fun v => Q v h) := by rw [Ga rfl]; rfl
theorem Ate {x : X} {j : Nat} {Q : Value → Aa → Prop} : WX W (opN cf f h (.ext x j)) Q = W1 (A1d (ev f x) j) (fun v => Q v h) := by rw [Ly rfl]; rfl
theorem Amd {x : X} {j : Nat} {Q : Value → Aa → Prop} : WX W (opD cf m f h ⟨dd, g, (.ext x j), fl, rk⟩) Q = W1 (A1d (ev f x) j) (fun v => Q v h) := by rw [Ga rfl]; rfl
theorem As5 {fn : Fn} {a b : List X} {Q : Value → Aa → Prop} : WX W (opN cf f h (.mkf fn a b)) Q = W1 (some (.func fn (a.map (ev f)).toArray (b.map (ev f)).toArray)) (fun v => Q v h) := by rw [Ly rfl]; rfl
theorem Al3 {fn : Fn} {a b : List X} {Q : Value → Aa → Prop} : WX W (opD cf m f h ⟨dd, g, (.mkf fn a b), fl, rk⟩) Q = W1 (some (.func fn (a.map (ev f)).toArray (b.map (ev f)).toArray)) (fun v => Q v h) := by rw [Ga rfl]; rfl
theorem As4 {t : TypeId} {x : X} {Q : Value → Aa → Prop} : WX W (opN cf f h (.mki t x)) Q = W1 (some (.iface t (ev f x))) (fun v => Q v h) := by rw [Ly rfl]; rfl
theorem Al2 {t : TypeId} {x : X} {Q : Value → Aa → Prop} : WX W (opD cf m f h ⟨dd, g, (.mki t x), fl, rk⟩) Q = W1 (some (.iface t (ev f x))) (fun v => Q v h) := by rw [Ga rfl]; rfl
theorem Amt {t : Bool} {x : X} {Q : Value → Aa → Prop} : WX W (opN cf f h (.lens t x)) Q = W1 (Oz t (ev f x)) (fun v => Q v h) := by rw [Ly rfl]; rfl
theorem Agj {t : Bool} {x : X} {Q : Value → Aa → Prop} : WX W (opD cf m f h ⟨dd, g, (.lens t x), fl, rk⟩) Q = W1 (Oz t (ev f x)) (fun v => Q v h) := by rw [Ga rfl]; rfl
theorem Amv {n : Nat} {Q : Value → Aa → Prop} : WX W (opN cf f h (.lena n)) Q = W1 (some (.int .i64 n)) (fun v => Q v h) := by rw [Ly rfl]; rfl
theorem Agl {n : Nat} {Q : Value → Aa → Prop} : WX W (opD cf m f h ⟨dd, g, (.lena n), fl, rk⟩) Q = W1 (some (.int .i64 n)) (fun v => Q v h) := by rw [Ga rfl]; rfl
theorem As6 {x : X} {l : List X} {Q : Value → Aa → Prop} : WX W (opN cf f h (.min x l)) Q = W1 (J2 min2 (ev f x) (l.map (ev f))) (fun v => Q v h) := by rw [Ly rfl]; rfl
theorem Al4 {x : X} {l : List X} {Q : Value → Aa → Prop} : WX W (opD cf m f h ⟨dd, g, (.min x l), fl, rk⟩) Q = W1 (J2 min2 (ev f x) (l.map (ev f))) (fun v => Q v h) := by rw [Ga rfl]; rfl
theorem As7 {x : X} {l : List X} {Q : Value → Aa → Prop} : WX W (opN cf f h (.max x l)) Q = W1 (J2 max2 (ev f x) (l.map (ev f))) (fun v => Q v h) := by rw [Ly rfl]; rfl
theorem Al5 {x : X} {l : List X} {Q : Value → Aa → Prop} : WX W (opD cf m f h ⟨dd, g, (.max x l), fl, rk⟩) Q = W1 (J2 max2 (ev f x) (l.map (ev f))) (fun v => Q v h) := by rw [Ga rfl]; rfl
theorem Azd {a : Option Nat} {x : X} {Q : Value → Aa → Prop} : WX W (opN cf f h (.ld a x)) Q = W1 (Ru a (ev f x) h) (fun v => Q v h) := by rw [Axm rfl]; rfl
theorem Asu {a : Option Nat} {x : X} {Q : Value → Aa → Prop} : WX W (opD cf m f h ⟨dd, g, (.ld a x), false, rk⟩) Q = W1 (Ru a (ev f x) h) (fun v => Q v h) := by rw [Amq rfl]; rfl
theorem Al6 {a : Option Nat} {x : X} {Q : Value → Aa → Prop} : WX W (opD cf m f h ⟨dd, g, (.ld a x), true, rk⟩) Q = WL m (ev f x) (W1 (Ru a (ev f x) h) (fun v => Q v h)) := by rw [Aea rfl]; rfl
theorem Ams {q : EqK} {z : Value} {m1 k1 : X} {ok : Bool} {Q : Value → Aa → Prop} : WX W (opN cf f h (.look q z m1 k1 ok)) Q = W1 (X1 q z (ev f m1) (ev f k1) ok h) (fun v => Q v h) := by rw [Axm rfl]; rfl
theorem Agi {q : EqK} {z : Value} {m1 k1 : X} {ok : Bool} {Q : Value → Aa → Prop} : WX W (opD cf m f h ⟨dd, g, (.look q z m1 k1 ok), false, rk⟩) Q = W1 (X1 q z (ev f m1) (ev f k1) ok h) (fun v => Q v h) := by rw [Amq rfl]; rfl
theorem Acp {q : EqK} {z : Value} {m1 k1 : X} {ok : Bool} {Q : Value → Aa → Prop} : WX W (opD cf m f h ⟨dd, g, (.look q z m1 k1 ok), true, rk⟩) Q = WL m (ev f m1) (W1 (X1 q z (ev f m1) (ev f k1) ok h) (fun v => Q v h)) := by rw [Aea rfl]; rfl
theorem Amu {x : X} {Q : Value → Aa → Prop} : WX W (opN cf f h (.lenm x)) Q = W1 (Aue (ev f x) h) (fun v => Q v h) := by rw [Axm rfl]; rfl
theorem Agk {x : X} {Q : Value → Aa → Prop} : WX W (opD cf m f h ⟨dd, g, (.lenm x), false, rk⟩) Q = W1 (Aue (ev f x) h) (fun v => Q v h) := by rw [Amq rfl]; rfl
theorem Acq {x : X} {Q : Value → Aa → Prop} : WX W (opD cf m f h ⟨dd, g, (.lenm x), true, rk⟩) Q = WL m (ev f x) (W1 (Aue (ev f x) h) (fun v => Q v h)) := by rw [Aea rfl]; rfl
theorem Ato {x : X} {Q : Value → Aa → Prop} : WX W (opN cf f h (.b2s x)) Q = W1 (Av9 (ev f x) h) (fun v => Q v h) := by rw [Axm rfl]; rfl
theorem Amn {x : X} {Q : Value → Aa → Prop} : WX W (opD cf m f h ⟨dd, g, (.b2s x), false, rk⟩) Q = W1 (Av9 (ev f x) h) (fun v => Q v h) := by rw [Amq rfl]; rfl
theorem Agn {x : X} {Q : Value → Aa → Prop} : WX W (opD cf m f h ⟨dd, g, (.b2s x), true, rk⟩) Q = WL m (ev f x) (W1 (Av9 (ev f x) h) (fun v => Q v h)) := by rw [Aea rfl]; rfl
theorem Atq {z : List Value} {Q : Value → Aa → Prop} : WX W (opN cf f h (.all z)) Q = W1 (Ac z fun b => .pointer (some ⟨b, 0, none⟩)) (fun n => WF (n.2 h.length) (fun v => WF (h ++ [n.1]) (fun hh => Q v hh))) := by rw [Apy rfl]; rfl
theorem Amp {z : List Value} {Q : Value → Aa → Prop} : WX W (opD cf m f h ⟨dd, g, (.all z), fl, rk⟩) Q = W1 (Ac z fun b => .pointer (some ⟨b, 0, none⟩)) (fun n => WF (n.2 (m + rk)) (fun v => WF (h.set (m + rk) n.1) (fun hh => Q v hh))) := by rw [Acs rfl]; rfl
theorem Atl {x : X} {Q : Value → Aa → Prop} : WX W (opN cf f h (.box x)) Q = W1 (Ac (Bp (ev f x)) fun b => .pointer (some ⟨b, 0, none⟩)) (fun n => WF (n.2 h.length) (fun v => WF (h ++ [n.1]) (fun hh => Q v hh))) := by rw [Apy rfl]; rfl
theorem Amk {x : X} {Q : Value → Aa → Prop} : WX W (opD cf m f h ⟨dd, g, (.box x), fl, rk⟩) Q = W1 (Ac (Bp (ev f x)) fun b => .pointer (some ⟨b, 0, none⟩)) (fun n => WF (n.2 (m + rk)) (fun v => WF (h.set (m + rk) n.1) (fun hh => Q v hh))) := by rw [Acs rfl]; rfl
theorem Atk {size : Nat} {z : List Value} {n : Nat} {p : List (Nat × Nat × X)} {Q : Value → Aa → Prop} : WX W (opN cf f h (.bsl size z n p)) Q = W1 (Sk size z n (p.map fun p => (p.1, p.2.1, ev f p.2.2))) (fun n => WF (n.2 h.length) (fun v => WF (h ++ [n.1]) (fun hh => Q v hh))) := by rw [Apy rfl]; simp only [Ka, Sk, Vr]
theorem Amj {size : Nat} {z : List Value} {n : Nat} {p : List (Nat × Nat × X)} {Q : Value → Aa → Prop} : WX W (opD cf m f h ⟨dd, g, (.bsl size z n p), fl, rk⟩) Q = W1 (Sk size z n (p.map fun p => (p.1, p.2.1, ev f p.2.2))) (fun n => WF (n.2 (m + rk)) (fun v => WF (h.set (m + rk) n.1) (fun hh => Q v hh))) := by rw [Acs rfl]; simp only [Ka, Sk, Vr]
theorem As1 {z : List Value} {bytes : Nat} {x y : X} {Q : Value → Aa → Prop} : WX W (opN cf f h (.msl z bytes x y)) Q = W1 (Ap3 z bytes (ev f x) (ev f y)) (fun n => WF (n.2 h.length) (fun v => WF (h ++ [n.1]) (fun hh => Q v hh))) := by rw [Apy rfl]; rfl
theorem Alz {z : List Value} {bytes : Nat} {x y : X} {Q : Value → Aa → Prop} : WX W (opD cf m f h ⟨dd, g, (.msl z bytes x y), fl, rk⟩) Q = W1 (Ap3 z bytes (ev f x) (ev f y)) (fun n => WF (n.2 (m + rk)) (fun v => WF (h.set (m + rk) n.1) (fun hh => Q v hh))) := by rw [Acs rfl]; rfl
theorem As3 {Q : Value → Aa → Prop} : WX W (opN cf f h .mkm) Q = W1 (some (.map [], fun b => .map (some b))) (fun n => WF (n.2 h.length) (fun v => WF (h ++ [n.1]) (fun hh => Q v hh))) := by rw [Apy rfl]; rfl
theorem Al1 {Q : Value → Aa → Prop} : WX W (opD cf m f h ⟨dd, g, .mkm, fl, rk⟩) Q = W1 (some (.map [], fun b => .map (some b))) (fun n => WF (n.2 (m + rk)) (fun v => WF (h.set (m + rk) n.1) (fun hh => Q v hh))) := by rw [Acs rfl]; rfl
theorem Asy {x : X} {Q : Value → Aa → Prop} : WX W (opN cf f h (.s2b x)) Q = W1 (A14 (ev f x)) (fun n => WF (n.2 h.length) (fun v => WF (h ++ [n.1]) (fun hh => Q v hh))) := by rw [Apy rfl]; rfl
theorem Alw {x : X} {Q : Value → Aa → Prop} : WX W (opD cf m f h ⟨dd, g, (.s2b x), fl, rk⟩) Q = W1 (A14 (ev f x)) (fun n => WF (n.2 (m + rk)) (fun v => WF (h.set (m + rk) n.1) (fun hh => Q v hh))) := by rw [Acs rfl]; rfl
theorem As0 {q : EqK} {m1 k1 v1 : X} {Q : Value → Aa → Prop} : WX W (opN cf f h (.mup q m1 k1 v1)) Q = WX W (Ax1 q (ev f m1) (ev f k1) (ev f v1) h) Q := by rw [Atr rfl]; rfl
theorem Aly {q : EqK} {m1 k1 v1 : X} {Q : Value → Aa → Prop} : WX W (opD cf m f h ⟨dd, g, (.mup q m1 k1 v1), fl, rk⟩) Q = WX W (Ax1 q (ev f m1) (ev f k1) (ev f v1) h) Q := by rw [Ago rfl]; rfl
theorem Atp {size bytes : Nat} {x y : X} {Q : Value → Aa → Prop} : WX W (opN cf f h (.app size bytes x y)) Q = WX W (Cl size bytes (ev f x) (ev f y) h) Q := by rw [Atr rfl]; rfl
theorem Amo {size bytes : Nat} {x y : X} {Q : Value → Aa → Prop} : WX W (opD cf m f h ⟨dd, g, (.app size bytes x y), fl, rk⟩) Q = WX W (Cl size bytes (ev f x) (ev f y) h) Q := by rw [Ago rfl]; rfl
theorem Ati {size : Nat} {x y : X} {Q : Value → Aa → Prop} : WX W (opN cf f h (.cpy size x y)) Q = WX W (Aii size (ev f x) (ev f y) h) Q := by rw [Atr rfl]; rfl
theorem Amh {size : Nat} {x y : X} {Q : Value → Aa → Prop} : WX W (opD cf m f h ⟨dd, g, (.cpy size x y), fl, rk⟩) Q = WX W (Aii size (ev f x) (ev f y) h) Q := by rw [Ago rfl]; rfl
theorem Atj {z : List Value} {x : X} {Q : Value → Aa → Prop} : WX W (opN cf f h (.clr z x)) Q = WX W (Uq z (ev f x) h) Q := by rw [Atr rfl]; rfl
theorem Ami {z : List Value} {x : X} {Q : Value → Aa → Prop} : WX W (opD cf m f h ⟨dd, g, (.clr z x), fl, rk⟩) Q = WX W (Uq z (ev f x) h) Q := by rw [Ago rfl]; rfl
theorem Atf {q : EqK} {m1 k1 : X} {Q : Value → Aa → Prop} : WX W (opN cf f h (.del q m1 k1)) Q = WX W (A3i q (ev f m1) (ev f k1) h) Q := by rw [Atr rfl]; rfl
theorem Ame {q : EqK} {m1 k1 : X} {Q : Value → Aa → Prop} : WX W (opD cf m f h ⟨dd, g, (.del q m1 k1), fl, rk⟩) Q = WX W (A3i q (ev f m1) (ev f k1) h) Q := by rw [Ago rfl]; rfl
end
end Go.L
namespace Go.L
open Go
theorem A29 {f : FF} {s : Nat} : ev f (.t s) = f s := rfl
theorem A3b {f : FF} {v : Value} : ev f (.c v) = v := rfl
theorem A3a {f : FF} {g : Nat} : ev f (.f g) = .func (.func g) #[] #[] := rfl
theorem Arh {f : FF} {d s : Nat} {v : Value} : upd f d v s = if s = d then v else f s := rfl
theorem Ahx {k s : Nat} {v : Value} {r : Fr} : get ((k, v) :: r) s = if s = k then v else get r s := rfl
section
variable {q : EqK} {k k' : IntKind} {a b : Int}
theorem Aop : binOp .add q (.int k a) (.int k b) = some (.int k (k.wrap (a + b))) := by simp [binOp, Ee]
theorem Aob : binOp .sub q (.int k a) (.int k b) = some (.int k (k.wrap (a - b))) := by simp [binOp, Ee]
theorem Aoh : binOp .mul q (.int k a) (.int k b) = some (.int k (k.wrap (a * b))) := by simp [binOp, Ee]
theorem Aof (h : b ≠ 0) : binOp .quo q (.int k a) (.int k b) = some (.int k (k.wrap (a.tdiv b))) := by simp [binOp, Ee, h]
theorem Aoe (h : b ≠ 0) : binOp .rem q (.int k a) (.int k b) = some (.int k (a.tmod b)) := by simp [binOp, Ee, h]
theorem Aom : binOp .eql q (.int k a) (.int k b) = some (.bool (decide (a = b))) := by simp [binOp, Ee]; rfl
theorem Aog : binOp .neq q (.int k a) (.int k b) = some (.bool (decide (¬ a = b))) := by
 simp only [binOp, Ee, if_true]; congr 2; by_cases h : a = b <;> simp [h]
theorem Aoi : binOp .lss q (.int k a) (.int k b) = some (.bool (decide (a < b))) := by simp [binOp, Ee]
theorem Aoj : binOp .leq q (.int k a) (.int k b) = some (.bool (decide (a ≤ b))) := by simp [binOp, Ee]
theorem Aok : binOp .gtr q (.int k a) (.int k b) = some (.bool (decide (b < a))) := by simp [binOp, Ee]
theorem Aol : binOp .geq q (.int k a) (.int k b) = some (.bool (decide (b ≤ a))) := by simp [binOp, Ee]
theorem A3y (h : 0 ≤ b) : binOp .shl q (.int k a) (.int k' b) = some (.int k (k.wrap (a * 2 ^ (min b.toNat k.bits)))) := by simp [binOp, Ee]; omega
theorem A3x (h : 0 ≤ b) : binOp .shr q (.int k a) (.int k' b) = some (.int k (a.fdiv (2 ^ (min b.toNat k.bits)))) := by simp [binOp, Ee]; omega
theorem Arp : unOp .neg (.int k a) = some (.int k (k.wrap (0 - a))) := rfl
theorem Aro {t : Bool} : unOp .not (.bool t) = some (.bool (!t)) := rfl
theorem Aoo {x y : Bool} : binOp .eql .bool (.bool x) (.bool y) = some (.bool (x == y)) := rfl
theorem Aon {x y : Bool} : binOp .neq .bool (.bool x) (.bool y) = some (.bool (!(x == y))) := rfl
theorem Aod {x y : ByteArray} : binOp .eql q (.string x) (.string y) = some (.bool (x.toList == y.toList)) := rfl
theorem Aoc {x y : ByteArray} : binOp .neq q (.string x) (.string y) = some (.bool (!(x.toList == y.toList))) := rfl
end
theorem Q1 {x : Int} (h1 : -9223372036854775808 ≤ x) (h2 : x < 9223372036854775808) : IntKind.i64.wrap x = x := by
 simp [IntKind.wrap, IntKind.bits, IntKind.signed]; omega
theorem Oj {x : Int} (h1 : 0 ≤ x) (h2 : x < 18446744073709551616) : IntKind.u64.wrap x = x := by
 simp [IntKind.wrap, IntKind.bits, IntKind.signed]; omega
theorem Adw {x : Int} (h1 : 0 ≤ x) (h2 : x < 256) : IntKind.u8.wrap x = x := by
 simp [IntKind.wrap, IntKind.bits, IntKind.signed]; omega
theorem An1 {k k' : IntKind} {n : Int} : A1i k (.int k' n) = some (.int k (k.wrap n)) := rfl
theorem An0 {s : ByteArray} : A1h (.string s) = some (.string s) := rfl
theorem Asq {a b : Value} : Alr (.bool true) a b = some a := rfl
theorem Asr {a b : Value} : Alr (.bool false) a b = some b := rfl
theorem Aa9 {k : IntKind} {n : Int} : Bp (.int k n) = [.int k n] := rfl
theorem X7 {b : Bool} : Bp (.bool b) = [.bool b] := rfl
theorem Aa5 {b : ByteArray} : Bp (.string b) = [.string b] := rfl
theorem Aa6 {b : Option Addr} : Bp (.pointer b) = [.pointer b] := rfl
theorem V6 {b : Option Addr} {n c : Nat} : Bp (.slice b n c) = [.slice b n c] := rfl
theorem Aa8 {b : Option Nat} : Bp (.map b) = [.map b] := rfl
theorem X6 {g : Fn} {a b : Array Value} : Bp (.func g a b) = [.func g a b] := rfl
theorem Us {a : Array Value} : Bp (.agg a) = a.toList := rfl
theorem Aeb {k : IntKind} {n : Int} : Ag (.int k n) = true := rfl
theorem Agv {b : Bool} : Ag (.bool b) = true := rfl
theorem Amx {b : ByteArray} : Ag (.string b) = true := rfl
theorem Amy {b : Option Addr} : Ag (.pointer b) = true := rfl
theorem Acv {b : Option Addr} {n c : Nat} : Ag (.slice b n c) = true := rfl
theorem Amz {b : Option Nat} : Ag (.map b) = true := rfl
theorem Agu {g : Fn} {a b : Array Value} : Ag (.func g a b) = true := rfl
theorem Agt : Ag .nilFunc = true := rfl
theorem X5 : Bp .nilFunc = [.nilFunc] := rfl
theorem Aa7 {v : Value} (h : Ag v = true) : Bp v = [v] := by cases v <;> first | rfl | cases h
theorem Adc {c : List Value} : Vs [] c = some c := rfl
theorem Aay {o n : Nat} {x : Value} {r : List (Nat × Nat × Value)} {c : List Value} : Vs ((o, n, x) :: r) c = if (Bp x).length = n ∧ o + n ≤ c.length ∧ (Bp x).all Ag then Vs r (setCells c o (Bp x)) else none := rfl
theorem I9 {c : List Value} {o : Nat} : setCells c o [] = c := rfl
theorem Fw {c : List Value} {o : Nat} {v : Value} {r : List Value} : setCells c o (v :: r) = setCells (c.set o v) (o + 1) r := rfl
def ldO : Option LObj → Nat → Option Nat → Option Value
 | some (.cells c _), off, agg => part c off agg
 | _, _, _ => none
theorem Ahj {b off : Nat} {sp : Option Nat} {agg : Option Nat} {h : Aa} : Ru agg (.pointer (some ⟨b, off, sp⟩)) h = ldO h[b]? off agg := by
 simp only [Ru]; cases h[b]? with
 | none => rfl
 | some o => cases o <;> rfl
theorem O1 {c : List Value} {ro : Bool} {off : Nat} {agg : Option Nat} : ldO (some (.cells c ro)) off agg = part c off agg := rfl
theorem Sy {c : List Value} {off : Nat} : part c off none = c[off]? := rfl
theorem Wt {c : List Value} {off n : Nat} : part c off (some n) = if off + n ≤ c.length then some (.agg ((c.drop off).take n).toArray) else none := rfl
def stO (n : Nat) (h : Aa) (b off : Nat) (cs : List Value) : Option LObj → Option (Aa × List Nat)
 | some (.cells c false) => if cs.length = n ∧ off + n ≤ c.length ∧ cs.all Ag then some (h.set b (.cells (setCells c off cs) false), [b]) else none
 | _ => none
theorem Acj {n b off : Nat} {sp : Option Nat} {v : Value} {h : Aa} : Hw n (.pointer (some ⟨b, off, sp⟩)) v h = stO n h b off (Bp v) h[b]? := by
 simp only [Hw]; cases h[b]? with
 | none => rfl
 | some o => cases o with
  | cells c ro => cases ro <;> rfl
  | map _ => rfl
  | loop _ => rfl
  | dead => rfl
theorem Mb {n b off : Nat} {h : Aa} {cs c : List Value} : stO n h b off cs (some (.cells c false)) = if cs.length = n ∧ off + n ≤ c.length ∧ cs.all Ag then some (h.set b (.cells (setCells c off cs) false), [b]) else none := rfl
theorem Anv {off b o : Nat} {sp : Option Nat} : A1a off (.pointer (some ⟨b, o, sp⟩)) = some (.pointer (some ⟨b, o + off, none⟩)) := rfl
theorem Anu {off : Nat} {agg : Option Nat} {cs : Array Value} : A09 off agg (.agg cs) = part cs.toList off agg := rfl
theorem Ane {a : Addr} : Axu (.pointer (some a)) = some (.pointer (some a)) := rfl
theorem Ahf {g : FuncId} {a b : Array Value} : Axu (.func (.func g) a b) = some (.func (.func g) a b) := rfl
theorem Uf {a : Option Addr} {n c : Nat} : Oz false (.slice a n c) = some (.int .i64 n) := rfl
theorem Ahm {s : ByteArray} : Oz true (.string s) = some (.int .i64 s.size) := rfl
theorem Add {vs : Array Value} {j : Nat} : A1d (.tuple vs) j = match vs.toList[j]? with | some v => if Fk v then some v else none | none => none := rfl
theorem At2 {k : IntKind} {n : Int} : Fk (.int k n) = true := rfl
theorem Am1 {b : Bool} : Fk (.bool b) = true := rfl
theorem Atz {b : ByteArray} : Fk (.string b) = true := rfl
theorem Ag2 {b : Option Addr} {n c : Nat} : Fk (.slice b n c) = true := rfl
theorem At0 {b : Option Addr} : Fk (.pointer b) = true := rfl
theorem At3 {b : Array Value} : Fk (.agg b) = true := rfl
theorem At1 {b : Option Nat} : Fk (.map b) = true := rfl
theorem Am0 {g : Fn} {a b : Array Value} : Fk (.func g a b) = true := rfl
theorem Cs {size n c b o : Nat} {sp : Option Nat} {k : IntKind} {j : Int} (h1 : 0 ≤ j) (h2 : j < n) : Aqa size (.slice (some ⟨b, o, sp⟩) n c) (.int k j) = some (.pointer (some ⟨b, o + j.toNat * size, none⟩)) := by
 simp [Aqa, Sp, h1, h2]
theorem Ahr {size n b o : Nat} {sp : Option Nat} {k : IntKind} {j : Int} (h1 : 0 ≤ j) (h2 : j < n) : Ax6 n size (.pointer (some ⟨b, o, sp⟩)) (.int k j) = some (.pointer (some ⟨b, o + j.toNat * size, none⟩)) := by
 simp [Ax6, Sp, h1, h2]
theorem Auk {s : ByteArray} {k : IntKind} {j : Int} (h1 : 0 ≤ j) : Akj (.string s) (.int k j) = (s[j.toNat]?).map fun b => .int .u8 b.toNat := by simp [Akj, h1]
theorem Azl {x : Value} : J2 min2 x [] = some x := rfl
theorem Azk {k : IntKind} {a b : Int} {r : List Value} : J2 min2 (.int k a) (.int k b :: r) = J2 min2 (.int k (min a b)) r := by
 simp only [J2, min2, Option.bind_some]; congr 2; omega
theorem Azn {x : Value} : J2 max2 x [] = some x := rfl
theorem Azm {k : IntKind} {a b : Int} {r : List Value} : J2 max2 (.int k a) (.int k b :: r) = J2 max2 (.int k (max a b)) r := by
 simp only [J2, max2, Option.bind_some]; congr 2; omega
theorem Agb {fr : Fr} {h : Aa} : Mm fr h [] = some [] := rfl
theorem Asj {fr : Fr} {h : Aa} {s : Nat} {r : List R} : Mm fr h (.t s :: r) = (Mm fr h r).map (get fr s :: ·) := rfl
theorem Asi {fr : Fr} {h : Aa} {s : Nat} {agg : Option Nat} {r : List R} : Mm fr h (.v agg s :: r) = (Ru agg (get fr s) h).bind fun v => (Mm fr h r).map (v :: ·) := rfl
theorem Af9 {v : Value} : Qp [v] = v := rfl
theorem Af8 {v w : Value} {r : List Value} : Qp (v :: w :: r) = .tuple (v :: w :: r).toArray := rfl
theorem Aga : Qp [] = .tuple #[] := rfl
theorem Am4 {m : Nat} {k : IntKind} {n : Int} : Ad m 4 (.int k n) = true := rfl
theorem Ag6 {m : Nat} {b : Bool} : Ad m 4 (.bool b) = true := rfl
theorem Am2 {m : Nat} {b : ByteArray} : Ad m 4 (.string b) = true := rfl
theorem Acz {m n c : Nat} {a : Addr} : Ad m 4 (.slice (some a) n c) = decide (a.block < m) := rfl
theorem Ag3 {m n c : Nat} : Ad m 4 (.slice none n c) = true := rfl
theorem Am3 {m : Nat} {a : Addr} : Ad m 4 (.pointer (some a)) = decide (a.block < m) := rfl
theorem Ag4 {m : Nat} : Ad m 4 (.pointer none) = true := rfl
theorem Am5 {m : Nat} {vs : Array Value} : Ad m 4 (.agg vs) = vs.toList.all (Ad m 3) := rfl
theorem Acy {m : Nat} {vs : Array Value} : Ad m 4 (.tuple vs) = vs.toList.all (Ad m 3) := rfl
theorem Ag5 {m : Nat} {g : FuncId} {a b : Array Value} : Ad m 4 (.func (.func g) a b) = (a.toList.all (Ad m 3) && b.toList.all (Ad m 3)) := by simp [Ad]
theorem Am8 {m : Nat} {k : IntKind} {n : Int} : Ad m 3 (.int k n) = true := rfl
theorem Aha {m : Nat} {b : Bool} : Ad m 3 (.bool b) = true := rfl
theorem Am6 {m : Nat} {b : ByteArray} : Ad m 3 (.string b) = true := rfl
theorem Ac1 {m n c : Nat} {a : Addr} : Ad m 3 (.slice (some a) n c) = decide (a.block < m) := rfl
theorem Ag7 {m n c : Nat} : Ad m 3 (.slice none n c) = true := rfl
theorem Am7 {m : Nat} {a : Addr} : Ad m 3 (.pointer (some a)) = decide (a.block < m) := rfl
theorem Ag8 {m : Nat} : Ad m 3 (.pointer none) = true := rfl
theorem Am9 {m : Nat} {vs : Array Value} : Ad m 3 (.agg vs) = vs.toList.all (Ad m 2) := rfl
theorem Ac0 {m : Nat} {vs : Array Value} : Ad m 3 (.tuple vs) = vs.toList.all (Ad m 2) := rfl
theorem Ag9 {m : Nat} {g : FuncId} {a b : Array Value} : Ad m 3 (.func (.func g) a b) = (a.toList.all (Ad m 2) && b.toList.all (Ad m 2)) := by simp [Ad]
theorem Anc {m : Nat} {k : IntKind} {n : Int} : Ad m 2 (.int k n) = true := rfl
theorem Ahe {m : Nat} {b : Bool} : Ad m 2 (.bool b) = true := rfl
theorem Ana {m : Nat} {b : ByteArray} : Ad m 2 (.string b) = true := rfl
theorem Ac3 {m n c : Nat} {a : Addr} : Ad m 2 (.slice (some a) n c) = decide (a.block < m) := rfl
theorem Ahb {m n c : Nat} : Ad m 2 (.slice none n c) = true := rfl
theorem Anb {m : Nat} {a : Addr} : Ad m 2 (.pointer (some a)) = decide (a.block < m) := rfl
theorem Ahc {m : Nat} : Ad m 2 (.pointer none) = true := rfl
theorem And {m : Nat} {vs : Array Value} : Ad m 2 (.agg vs) = vs.toList.all (Ad m 1) := rfl
theorem Ac2 {m : Nat} {vs : Array Value} : Ad m 2 (.tuple vs) = vs.toList.all (Ad m 1) := rfl
theorem Ahd {m : Nat} {g : FuncId} {a b : Array Value} : Ad m 2 (.func (.func g) a b) = (a.toList.all (Ad m 1) && b.toList.all (Ad m 1)) := by simp [Ad]
theorem A3v {m : Nat} {k : IntKind} {n : Int} : Ad m 1 (.int k n) = true := rfl
theorem A2f {m : Nat} {b : Bool} : Ad m 1 (.bool b) = true := rfl
theorem A3t {m : Nat} {b : ByteArray} : Ad m 1 (.string b) = true := rfl
theorem A1u {m n c : Nat} {a : Addr} : Ad m 1 (.slice (some a) n c) = decide (a.block < m) := rfl
theorem A2c {m n c : Nat} : Ad m 1 (.slice none n c) = true := rfl
theorem A3u {m : Nat} {a : Addr} : Ad m 1 (.pointer (some a)) = decide (a.block < m) := rfl
theorem A2d {m : Nat} : Ad m 1 (.pointer none) = true := rfl
theorem A3w {m : Nat} {vs : Array Value} : Ad m 1 (.agg vs) = vs.toList.all (Ad m 0) := rfl
theorem A1t {m : Nat} {vs : Array Value} : Ad m 1 (.tuple vs) = vs.toList.all (Ad m 0) := rfl
theorem A2e {m : Nat} {g : FuncId} {a b : Array Value} : Ad m 1 (.func (.func g) a b) = (a.toList.all (Ad m 0) && b.toList.all (Ad m 0)) := by simp [Ad]
section
variable {h l : Aa} {o : LObj}
theorem Ke {n : Nat} : (h ++ l)[h.length + n]? = l[n]? := by rw [List.getElem?_append_right (by omega)]; congr 1; omega
theorem Bm : (h ++ l)[h.length]? = l[0]? := by rw [List.getElem?_append_right (by omega)]; congr 1; omega
theorem A0f {n : Nat} : (h ++ l).set (h.length + n) o = h ++ l.set n o := by rw [List.set_append_right _ _ (by omega)]; congr 2; omega
theorem Ayz : (h ++ l).set h.length o = h ++ l.set 0 o := by rw [List.set_append_right _ _ (by omega)]; congr 2; omega
theorem Bd {b c : Nat} (hb : b ≠ c) : (h.set b o)[c]? = h[c]? := List.getElem?_set_ne hb
theorem Ay7 : room h 0 = h := rfl
theorem Ay6 : room h 1 = h ++ [.dead] := rfl
theorem Ay5 : room h 2 = h ++ [.dead, .dead] := rfl
theorem Ay4 : room h 3 = h ++ [.dead, .dead, .dead] := rfl
theorem Ay3 : room h 4 = h ++ [.dead, .dead, .dead, .dead] := rfl
end
def blk : Value → Nat
 | .slice (some a) _ _ => a.block
 | _ => 0
def ofs : Value → Nat
 | .slice (some a) _ _ => a.off
 | _ => 0
structure Row (sz : Nat) (h : Aa) (v : Value) (L : List (List Value)) : Prop where
 size : ∀ e ∈ L, e.length = sz
 few : L.length < 1152921504606846976
 is : (v = .slice none 0 0 ∧ L = []) ∨ ∃ b off sp cap c ro, v = .slice (some ⟨b, off, sp⟩) L.length cap ∧ h[b]? = some (.cells c ro) ∧ off + L.length * sz ≤ c.length ∧ (c.drop off).take (L.length * sz) = L.flatten ∧ L.length ≤ cap ∧ (sp = none ∨ sp = some sz)
namespace Row
variable {sz : Nat} {h : Aa} {v : Value} {L : List (List Value)}
theorem len (r : Row sz h v L) : Oz false v = some (.int .i64 L.length) := by
 rcases r.is with ⟨rfl, rfl⟩ | ⟨b, d, f, a, c, e, rfl, _⟩ <;> rfl
theorem ixs (r : Row sz h v L) (k : IntKind) (i : Int) (h1 : 0 ≤ i) (h2 : i < L.length) : Aqa sz v (.int k i) = some (.pointer (some ⟨blk v, ofs v + i.toNat * sz, none⟩)) := by
 rcases r.is with ⟨rfl, rfl⟩ | ⟨b, d, f, a, c, e, rfl, _⟩
 ·simp at h2; omega
 ·exact Cs h1 h2
theorem flat_get : ∀ {L : List (List Value)} (hs : ∀ e ∈ L, e.length = sz) (i fo : Nat) (hi : i < L.length) (hf : fo < sz), L.flatten[i * sz + fo]? = some ((L.getD i []).getD fo undef) := by
 intro L
 induction L with
 | nil => intro hs i fo hi; simp at hi
 | cons x r ih =>
  intro hs i fo hi hf
  have a : x.length = sz := hs x (by simp)
  cases i with
  | zero =>
   simp only [Nat.zero_mul, Nat.zero_add, List.flatten_cons, List.getD_cons_zero]
   rw [GL (by omega), List.getD_eq_getElem?_getD, List.getElem?_eq_getElem (by omega)]; rfl
  | succ i =>
   have e : (i + 1) * sz + fo = x.length + (i * sz + fo) := by rw [a, Nat.succ_mul]; omega
   rw [List.flatten_cons, e, List.getElem?_append_right (by omega), Nat.add_sub_cancel_left, List.getD_cons_succ]
   exact ih (fun e c => hs e (by simp [c])) i fo (by simpa using hi) hf
theorem at_ (r : Row sz h v L) (i fo : Nat) (hi : i < L.length) (hf : fo < sz) : ∃ c ro, h[blk v]? = some (.cells c ro) ∧ ofs v + i * sz + fo < c.length ∧ c[ofs v + i * sz + fo]? = some ((L.getD i []).getD fo undef) := by
 rcases r.is with ⟨rfl, rfl⟩ | ⟨b, j, m, g, c, ro, rfl, f, l, e, d⟩
 ·simp at hi
 ·have a : i * sz + fo < L.length * sz := by
   have := Nat.mul_le_mul_right sz (show i + 1 ≤ L.length by omega)
   rw [Nat.succ_mul] at this; omega
  refine ⟨c, ro, f, ?_, ?_⟩
  ·simp only [ofs]; omega
  ·simp only [ofs]
   rw [← flat_get r.size i fo hi hf, ← e, List.getElem?_take, if_pos a, List.getElem?_drop, Nat.add_assoc]
theorem ld (r : Row sz h v L) (i : Int) (fo : Nat) (h1 : 0 ≤ i) (h2 : i < L.length) (hf : fo < sz) : ldO h[blk v]? (ofs v + i.toNat * sz + fo) none = some ((L.getD i.toNat []).getD fo undef) := by
 obtain ⟨c, e, d, _, a⟩ := r.at_ i.toNat fo (by omega) hf
 rw [d, O1, Sy, a]
theorem ld0 (r : Row sz h v L) (i : Int) (h1 : 0 ≤ i) (h2 : i < L.length) (hf : 0 < sz) : ldO h[blk v]? (ofs v + i.toNat * sz) none = some ((L.getD i.toNat []).getD 0 undef) := r.ld i 0 h1 h2 hf
theorem getD_mem {L : List (List Value)} {i : Nat} (hi : i < L.length) : L.getD i [] ∈ L := by
 rw [List.getD_eq_getElem?_getD, List.getElem?_eq_getElem hi]; exact List.getElem_mem hi
theorem lda (r : Row sz h v L) (i : Int) (h1 : 0 ≤ i) (h2 : i < L.length) (hz : 0 < sz) : ldO h[blk v]? (ofs v + i.toNat * sz) (some sz) = some (.agg (L.getD i.toNat []).toArray) := by
 have d : i.toNat < L.length := by omega
 have e : (L.getD i.toNat []).length = sz := r.size _ (getD_mem d)
 obtain ⟨c, p, g, m, _⟩ := r.at_ i.toNat (sz - 1) d (by omega)
 rw [g, O1, Wt, if_pos (by omega)]
 congr 3
 apply List.ext_getElem?
 intro j
 by_cases f : j < sz
 ·obtain ⟨s, o, a, _, n⟩ := r.at_ i.toNat j d f
  rw [g] at a; cases a
  rw [List.getElem?_take, if_pos f, List.getElem?_drop, n, List.getD_eq_getElem?_getD (l := L.getD i.toNat []), List.getElem?_eq_getElem (by omega)]; rfl
 ·rw [List.getElem?_eq_none (by simp; omega), List.getElem?_eq_none (by omega)]
theorem ext (r : Row sz h v L) {h' : Aa} (hx : ∀ (b : Nat) (o : LObj), h[b]? = some o → o ≠ LObj.dead → h'[b]? = some o) : Row sz h' v L :=
 ⟨r.size, r.few, r.is.imp id fun ⟨b, off, sp, cap, c, ro, h1, h2, h3⟩ => ⟨b, off, sp, cap, c, ro, h1, hx _ _ h2 (by intro h; cases h), h3⟩⟩
theorem app (r : Row sz h v L) (l : Aa) : Row sz (h ++ l) v L := r.ext fun b o hb _ => by
 rw [GL (GI.1 hb).1]; exact hb
theorem set (r : Row sz h v L) {b : Nat} {o : LObj} (hb : b ≠ blk v) : Row sz (h.set b o) v L :=
 ⟨r.size, r.few, r.is.imp id fun ⟨b', off, sp, cap, c, ro, h1, h2, h3⟩ => ⟨b', off, sp, cap, c, ro, h1, by rw [Bd (by rw [h1] at hb; exact hb)]; exact h2, h3⟩⟩
theorem sls_hi (r : Row sz h v L) {k : IntKind} {n : Int} (h1 : 0 ≤ n) (h2 : n ≤ L.length) : ∃ v', Lv sz v none (some (.int k n)) none = some v' ∧ Row sz h v' (L.take n.toNat) ∧ blk v' = blk v ∧ (v = .slice none 0 0 → v' = .slice none 0 0) := by
 have g : ∀ e ∈ L.take n.toNat, e.length = sz := fun e p => r.size e (List.mem_of_mem_take p)
 have f : (L.take n.toNat).length < 1152921504606846976 := by have := r.few; rw [List.length_take]; omega
 have a : (L.take n.toNat).length = n.toNat := by rw [List.length_take]; omega
 rcases r.is with ⟨rfl, rfl⟩ | ⟨b, d, sp, o, c, t, rfl, u, hl, y, l⟩
 ·have : n = 0 := by simp at h2; omega
  subst this
  exact ⟨.slice none 0 0, by simp [Lv, Cr], ⟨g, f, .inl ⟨rfl, by simp⟩⟩, rfl, fun _ => rfl⟩
 ·have m : n.toNat * sz ≤ L.length * sz := Nat.mul_le_mul_right sz (by omega)
  have j : (c.drop d).take (n.toNat * sz) = (L.take n.toNat).flatten := by
   have e : L.flatten = (L.take n.toNat).flatten ++ (L.drop n.toNat).flatten := by rw [← List.flatten_append, List.take_append_drop]
   have e3 : (L.take n.toNat).flatten.length = n.toNat * sz := by
    have : ∀ {M : List (List Value)}, (∀ e ∈ M, e.length = sz) → M.flatten.length = M.length * sz := by
     intro M
     induction M with
     | nil => intro _; simp
     | cons x r ih => intro s; rw [List.flatten_cons, LA, ih (fun e p => s e (by simp [p])), s x (by simp), List.length_cons, Nat.succ_mul]; omega
    rw [this g, a]
   have z : (c.drop d).take (n.toNat * sz) = ((c.drop d).take (L.length * sz)).take (n.toNat * sz) := by rw [List.take_take, Nat.min_eq_left m]
   rw [z, y, e, ← e3, List.take_left']
   rfl
  obtain ⟨l, rfl | rfl⟩ := l
  ·refine ⟨.slice (some ⟨b, d, none⟩) n.toNat o, ?_, ⟨g, f, .inr ⟨b, d, none, o, c, t, by rw [a], u, by rw [a]; omega, by rw [a]; exact j, by rw [a]; omega, .inl rfl⟩⟩, rfl, fun e => by cases e⟩
   simp only [Lv, Cr]
   rw [if_pos (by omega), Option.bind_some, Option.bind_some, if_pos (by omega)]
   simp
  ·refine ⟨.slice (some ⟨b, d, some sz⟩) n.toNat n.toNat, ?_, ⟨g, f, .inr ⟨b, d, some sz, n.toNat, c, t, by rw [a], u, by rw [a]; omega, by rw [a]; exact j, by rw [a]; exact Nat.le_refl _, .inr rfl⟩⟩, rfl, fun e => by cases e⟩
   simp only [Lv, Cr, if_true]
   rw [if_pos (by omega), Option.bind_some, Option.bind_some]
   simp
theorem lt (r : Row sz h v L) (hl : L ≠ []) : blk v < h.length := by
 rcases r.is with ⟨_, rfl⟩ | ⟨b, e, g, d, c, f, rfl, a, _⟩
 ·exact absurd rfl hl
 ·exact (GI.1 a).1
theorem cells (r : Row sz h v L) : cellsOf sz v h = some (L.length, L.flatten) := by
 rcases r.is with ⟨rfl, rfl⟩ | ⟨b, j, m, g, c, l, rfl, f, e, d, a⟩
 ·rfl
 ·simp [cellsOf, f, e, d]
end Row
def atI {α : Type} [Inhabited α] (l : List α) (i : Int) : α := l.getD i.toNat default
theorem Y4 {α : Type} [Inhabited α] (enc : α → List Value) (l : List α) (i : Int) (h1 : 0 ≤ i) (h2 : i < l.length) : (l.map enc).getD i.toNat [] = enc (atI l i) := by
 unfold atI
 rw [List.getD_eq_getElem?_getD, List.getD_eq_getElem?_getD, List.getElem?_map, List.getElem?_eq_getElem (by omega)]; rfl
def Rd {α : Type} (sz : Nat) (enc : α → List Value) (h : Aa) (v : Value) (l : List α) : Prop := Row sz h v (l.map enc)
namespace Rd
variable {α : Type} {sz : Nat} {enc : α → List Value} {h : Aa} {v : Value} {l : List α}
theorem few (r : Rd sz enc h v l) : l.length < 1152921504606846976 := by have := Row.few r; simpa using this
theorem len (r : Rd sz enc h v l) : Oz false v = some (.int .i64 l.length) := by rw [Row.len r]; simp
theorem ixs (r : Rd sz enc h v l) (k : IntKind) (i : Int) (h1 : 0 ≤ i) (h2 : i < l.length) : Aqa sz v (.int k i) = some (.pointer (some ⟨blk v, ofs v + i.toNat * sz, none⟩)) := Row.ixs r k i h1 (by simpa using h2)
theorem ld [Inhabited α] (r : Rd sz enc h v l) (i : Int) (fo : Nat) (h1 : 0 ≤ i) (h2 : i < l.length) (hf : fo < sz) : ldO h[blk v]? (ofs v + i.toNat * sz + fo) none = some ((enc (atI l i)).getD fo undef) := by
 rw [Row.ld r i fo h1 (by simpa using h2) hf, Y4 _ _ _ h1 h2]
theorem ld0 [Inhabited α] (r : Rd sz enc h v l) (i : Int) (h1 : 0 ≤ i) (h2 : i < l.length) (hf : 0 < sz) : ldO h[blk v]? (ofs v + i.toNat * sz) none = some ((enc (atI l i)).getD 0 undef) := r.ld i 0 h1 h2 hf
theorem lda [Inhabited α] (r : Rd sz enc h v l) (i : Int) (h1 : 0 ≤ i) (h2 : i < l.length) (hf : 0 < sz) : ldO h[blk v]? (ofs v + i.toNat * sz) (some sz) = some (.agg (enc (atI l i)).toArray) := by
 rw [Row.lda r i h1 (by simpa using h2) hf, Y4 _ _ _ h1 h2]
theorem app (r : Rd sz enc h v l) (x : Aa) : Rd sz enc (h ++ x) v l := Row.app r x
theorem ext (r : Rd sz enc h v l) {h' : Aa} (hx : ∀ (b : Nat) (o : LObj), h[b]? = some o → o ≠ LObj.dead → h'[b]? = some o) : Rd sz enc h' v l := Row.ext r hx
theorem set (r : Rd sz enc h v l) {b : Nat} {o : LObj} (hb : b ≠ blk v) : Rd sz enc (h.set b o) v l := Row.set r hb
end Rd
end Go.L
