/- A LOGIC OVER THE LOGICAL MACHINE: answers with a postcondition, and the rules by which a function's instructions are run within 'simp'. -/
import Derived.Test.YtifnlcajancfdaaK
set_option linter.unusedVariables false
set_option linter.unusedSimpArgs false
namespace Go.L
open Go
inductive Mk {β : Type} (b : β) : Type | mk
inductive Mk2 (A B : Prop) : Type | mk
def WX {α : Type} (W : Nat → Prop) (x : Option (α × Aa × List Nat)) (Q : α → Aa → Prop) (t : Mk Q := .mk) : Prop := ∃ a h ws, x = some (a, h, ws) ∧ (∀ b ∈ ws, W b) ∧ Q a h
def W1 {α : Type} (x : Option α) (Q : α → Prop) (t : Mk Q := .mk) : Prop := ∃ v, x = some v ∧ Q v
def WO (W : Nat → Prop) (x : Out) (Q : Ex → Fr → Aa → Prop) (t : Mk Q := .mk) : Prop := ∃ e fr h ws, x = some (e, fr, h, ws) ∧ (∀ b ∈ ws, W b) ∧ Q e fr h
def WH (W : Nat → Prop) (x : Option (Aa × List Nat)) (Q : Aa → Prop) (t : Mk Q := .mk) : Prop := ∃ h ws, x = some (h, ws) ∧ (∀ b ∈ ws, W b) ∧ Q h
def WF {α : Type} (x : α) (Q : α → Prop) (t : Mk Q := .mk) : Prop := Q x
theorem Ayj {α : Type} {x : α} {Q : α → Prop} : WF x Q = Q x := id rfl
def WC (v : Value) (A B : Prop) (t : Mk2 A B := .mk) : Prop := ∃ b, v = .bool b ∧ (b = true → A) ∧ (b = false → B)
def WG (v : Value) (want : Bool) (A B : Prop) (t : Mk2 A B := .mk) : Prop := match v with
 | .bool b => if b = want then A else B
 | .tuple vs => vs.isEmpty = true ∧ B
 | _ => False
theorem Aej {α : Type} {v : α} {Q : α → Prop} : W1 (some v) Q = Q v := by simp [W1]
theorem WX_some {α : Type} {W : Nat → Prop} {a : α} {h : Aa} {Q : α → Aa → Prop} : WX W (some (a, h, [])) Q = Q a h :=
 propext ⟨fun ⟨_, _, _, e, _, hq⟩ => by cases e; exact hq, fun hq => ⟨_, _, _, rfl, ⟨(fun x hb => nomatch hb), hq⟩⟩⟩
theorem Aib {α : Type} {W : Nat → Prop} {a : α} {h : Aa} {b : Nat} {Q : α → Aa → Prop} : WX W (some (a, h, [b])) Q = (W b ∧ Q a h) :=
 propext ⟨fun ⟨_, _, _, e, hw, hq⟩ => by cases e; exact ⟨hw _ (List.mem_singleton.2 rfl), hq⟩, fun hq => ⟨_, _, _, rfl, fun x hb => by rw [List.mem_singleton.1 hb]; exact hq.1, hq.2⟩⟩
theorem Aa5 {W : Nat → Prop} {h : Aa} {b : Nat} {Q : Aa → Prop} : WH W (some (h, [b])) Q = (W b ∧ Q h) :=
 propext ⟨fun ⟨_, _, e, hw, hq⟩ => by cases e; exact ⟨hw _ (List.mem_singleton.2 rfl), hq⟩, fun hq => ⟨_, _, rfl, fun x hb => by rw [List.mem_singleton.1 hb]; exact hq.1, hq.2⟩⟩
theorem Vl {W : Nat → Prop} {e : Ex} {fr : Fr} {h : Aa} {Q : Ex → Fr → Aa → Prop} : WO W (some (e, fr, h, [])) Q = Q e fr h :=
 propext ⟨fun ⟨_, _, _, _, e, _, hq⟩ => by cases e; exact hq, fun hq => ⟨_, _, _, _, rfl, ⟨(fun x hb => nomatch hb), hq⟩⟩⟩
theorem Aog {A B : Prop} : WC (.bool true) A B = A := by simp [WC]
theorem Aif {A B : Prop} : WC (.bool false) A B = B := by simp [WC]
theorem Avd {p : Prop} [Decidable p] {A B : Prop} (ha : p → A) (hb : ¬ p → B) : WC (.bool (decide p)) A B := by
 refine ⟨_, rfl, fun h => ha (by simpa using h), fun h => hb (by simpa using h)⟩
theorem Aoh {b : Bool} {A B : Prop} (ha : b = true → A) (hb : b = false → B) : WC (.bool b) A B := ⟨_, rfl, ha, hb⟩
theorem Aod {A B : Prop} : WG (.bool true) true A B = A := by simp [WG]
theorem Aid {A B : Prop} : WG (.bool false) false A B = A := by simp [WG]
theorem Ayh {A B : Prop} : WG (.bool true) false A B = B := by simp [WG]
theorem Ayi {A B : Prop} : WG (.bool false) true A B = B := by simp [WG]
theorem Aic {A B : Prop} {b : Bool} : WG undef b A B = B := by simp [WG, undef]
theorem Avc {p : Prop} [Decidable p] {A B : Prop} (ha : p → A) (hb : ¬ p → B) : WG (.bool (decide p)) true A B := by
 by_cases h : p <;> simp [WG, h, ha, hb]
theorem Aoe {p : Prop} [Decidable p] {A B : Prop} (ha : p → B) (hb : ¬ p → A) : WG (.bool (decide p)) false A B := by
 by_cases h : p <;> simp [WG, h, ha, hb]
theorem Aof {b : Bool} {A B : Prop} (ha : b = true → A) (hb : b = false → B) : WG (.bool b) true A B := by
 cases b <;> simp [WG, ha, hb]
theorem Aie {b : Bool} {A B : Prop} (ha : b = true → B) (hb : b = false → A) : WG (.bool b) false A B := by
 cases b <;> simp [WG, ha, hb]
theorem WX.mono {α : Type} {W W' : Nat → Prop} {x : Option (α × Aa × List Nat)} {Q Q' : α → Aa → Prop} (h : WX W x Q) (hw : ∀ b, W b → W' b) (hq : ∀ a h, Q a h → Q' a h) : WX W' x Q' := by
 obtain ⟨a, h, c, rfl, e, h2⟩ := h; exact ⟨a, h, c, rfl, fun b d => hw b (e b d), hq _ _ h2⟩
theorem WO.mono {W W' : Nat → Prop} {x : Out} {Q Q' : Ex → Fr → Aa → Prop} (h : WO W x Q) (hw : ∀ b, W b → W' b) (hq : ∀ e f h, Q e f h → Q' e f h) : WO W' x Q' := by
 obtain ⟨a, f, h, c, rfl, g, h2⟩ := h; exact ⟨a, f, h, c, rfl, fun b d => hw b (g b d), hq _ _ _ h2⟩
theorem W1.mono {α : Type} {x : Option α} {Q Q' : α → Prop} (h : W1 x Q) (hq : ∀ a, Q a → Q' a) : W1 x Q' := by
 obtain ⟨a, rfl, h2⟩ := h; exact ⟨a, rfl, hq _ h2⟩
@[reducible] def i (d : Nat) (o : O) : Ins := ⟨some d, none, o, false, 0, false⟩
@[reducible] def k (o : O) : Ins := ⟨none, none, o, false, 0, false⟩
@[reducible] def w (d g : Nat) (b : Bool) (o : O) : Ins := ⟨some d, some (g, b), o, false, 0, false⟩
variable {W : Nat → Prop} {cf : Ba} {f : FF} {h : Aa} {r : List Ins}
def Au0 {α β : Type} (x : Option (α × Aa × List Nat)) (k : α → Aa → Option (β × Aa × List Nat)) : Option (β × Aa × List Nat) := match x with
 | some (v, h', ws) => Qq ws (k v h')
 | none => none
theorem Nd {α β : Type} {x : Option (α × Aa × List Nat)} {k : α → Aa → Option (β × Aa × List Nat)} {Q : β → Aa → Prop} :
  WX W (Au0 x k) Q = WX W x (fun v h' => WX W (k v h') Q) := by
 apply propext
 constructor
 ·rintro ⟨a, h, m, e, f, g⟩
  unfold Au0 at e
  split at e
  ·rename_i v h' l
   cases d : k v h' with
   | none => rw [d] at e; simp [Qq] at e
   | some t =>
    obtain ⟨n, h2, c⟩ := t
    rw [d] at e
    simp only [Qq, OI, Prod.mk.injEq] at e
    obtain ⟨rfl, rfl, rfl⟩ := e
    exact ⟨v, h', l, rfl, fun b hb => f b (by simp [hb]), _, _, c, d, fun b hb => f b (by simp [hb]), g⟩
  ·cases e
 ·rintro ⟨a, h, m, rfl, f, n, h2, c, d, j, g⟩
  refine ⟨n, h2, m ++ c, ?_, fun b hb => ?_, g⟩
  ·simp only [Au0, d]; rfl
  ·rcases List.mem_append.1 hb with hb | hb
   ·exact f b hb
   ·exact j b hb
theorem Akw {Q : FF → Aa → Prop} : WX W (Fh cf [] f h) Q = Q f h := WX_some
theorem Axp {d : Nat} {o : O} {Q : FF → Aa → Prop} : WX W (Fh cf (⟨some d, none, o, false, 0, false⟩ :: r) f h) Q = WX W (opN cf f h o) (fun v h' => WX W (Fh cf r (upd f d v) h') Q) := by
 simp only [Fh, wanted, Gr]; rw [← Nd (k := fun v h' => Fh cf r (upd f d v) h')]; congr 1; cases opN cf f h o <;> rfl
theorem Axo {o : O} {Q : FF → Aa → Prop} : WX W (Fh cf (⟨none, none, o, false, 0, false⟩ :: r) f h) Q = WX W (opN cf f h o) (fun _ h' => WX W (Fh cf r f h') Q) := by
 simp only [Fh, wanted, Gr]; rw [← Nd (k := fun _ h' => Fh cf r f h')]; congr 1; cases opN cf f h o <;> rfl
theorem Axn {d g : Nat} {b : Bool} {o : O} {Q : FF → Aa → Prop} : WX W (Fh cf (⟨some d, some (g, b), o, false, 0, false⟩ :: r) f h) Q = WG (f g) b (WX W (opN cf f h o) (fun v h' => WX W (Fh cf r (upd f d v) h') Q)) (WX W (Fh cf r (upd f d undef) h) Q) := by
 simp only [Fh, wanted, Gr]
 unfold WG
 cases hg : f g <;> simp only [] <;> try (apply propext; constructor <;> (first | (rintro ⟨_, _, _, e, _⟩; cases e) | (intro h; exact h.elim)))
 ·rename_i c
  by_cases a : c = b
  ·subst a; simp only [beq_self_eq_true, if_true]; rw [← Nd (k := fun v h' => Fh cf r (upd f d v) h')]; congr 1; cases opN cf f h o <;> rfl
  ·have : (c == b) = false := by simpa using a
   simp [this, a]
 ·rename_i j
  cases hv : j.isEmpty
  ·simp only [Bool.false_eq_true, false_and]
   apply propext
   constructor
   ·rintro ⟨_, _, _, e, _⟩; cases e
   ·intro h; exact h.elim
  ·simp
theorem Arg {g : Nat} {b : Bool} {o : O} {Q : FF → Aa → Prop} : WX W (Fh cf (⟨none, some (g, b), o, false, 0, false⟩ :: r) f h) Q = WG (f g) b (WX W (opN cf f h o) (fun v h' => WX W (Fh cf r f h') Q)) (WX W (Fh cf r f h) Q) := by
 simp only [Fh, wanted, Gr]
 unfold WG
 cases hg : f g <;> simp only [] <;> try (apply propext; constructor <;> (first | (rintro ⟨_, _, _, e, _⟩; cases e) | (intro h; exact h.elim)))
 ·rename_i c
  by_cases a : c = b
  ·subst a; simp only [beq_self_eq_true, if_true]; rw [← Nd (k := fun _ h' => Fh cf r f h')]; congr 1; cases opN cf f h o <;> rfl
  ·have : (c == b) = false := by simpa using a
   simp [this, a]
 ·rename_i d
  cases hv : d.isEmpty
  ·simp only [Bool.false_eq_true, false_and]
   apply propext
   constructor
   ·rintro ⟨_, _, _, e, _⟩; cases e
   ·intro h; exact h.elim
  ·simp
theorem Ms {α : Type} {v : α} {p : Prop} {Q : α → Prop} (h : p = Q v) : p = W1 (some v) Q := by rw [Aej, h]
theorem Lm {o : O} {Q : Value → Aa → Prop} (hc : cls o = .P) : WX W (opN cf f h o) Q = W1 (At f o) (fun v => Q v h) := by
 unfold opN; rw [hc]; dsimp only
 cases At f o with
 | none => apply propext; constructor <;> rintro ⟨_, h⟩ <;> simp at h
 | some v => exact WX_some.trans (Ms rfl)
theorem Awg {o : O} {Q : Value → Aa → Prop} (hc : cls o = .M) : WX W (opN cf f h o) Q = W1 (Ge f h o) (fun v => Q v h) := by
 unfold opN; rw [hc]; dsimp only
 cases Ge f h o with
 | none => apply propext; constructor <;> rintro ⟨_, h⟩ <;> simp at h
 | some v => exact WX_some.trans (Ms rfl)
theorem Ajl {o : O} {Q : Value → Aa → Prop} (hc : cls o = .A) : WX W (opN cf f h o) Q = W1 (Iz f o) (fun n => WF (n.2 h.length) (fun v => WF (h ++ [n.1]) (fun h' => Q v h'))) := by
 unfold opN; rw [hc]; dsimp only
 cases Iz f o with
 | none => apply propext; constructor <;> rintro ⟨_, h⟩ <;> simp at h
 | some v => exact WX_some.trans (Ms rfl)
theorem As3 {o : O} {Q : Value → Aa → Prop} (hc : cls o = .E) : WX W (opN cf f h o) Q = WX W (Nn f h o) Q := by
 unfold opN; rw [hc]
theorem Axy {n : Nat} {a v : X} {Q : Value → Aa → Prop} : WX W (opN cf f h (.st n a v)) Q = WH W (G0 n (ev f a) (ev f v) h) (fun h' => Q undef h') := by
 unfold opN; simp only [cls]
 cases G0 n (ev f a) (ev f v) h with
 | none => apply propext; constructor <;> rintro ⟨_, _, h⟩ <;> simp at h
 | some v => obtain ⟨h', g⟩ := v; exact propext ⟨fun ⟨_, _, _, e, d, c⟩ => by cases e; exact ⟨_, _, rfl, d, c⟩, fun ⟨_, _, e, d, c⟩ => by cases e; exact ⟨_, _, _, rfl, d, c⟩⟩
theorem Amc {g : X} {args : List X} {Q : Value → Aa → Prop} : WX W (opN cf f h (.call g args)) Q = WX W (cf (ev f g) (args.map (ev f)) h) Q := rfl
variable {it : It} {sz : Nat} {fr : Fr}
theorem Aa4 {x : Out} {k : Fr → Aa → Out} {Q : Ex → Fr → Aa → Prop} : WO W (F4 x k) Q = WO W x (fun e fr' h' => match e with | .normal => WO W (k fr' h') Q | e => Q e fr' h') := by
 apply propext
 constructor
 ·rintro ⟨e, fr', h', m, c, d, a⟩
  simp only [F4] at c
  split at c
  ·rename_i o s r
   split at c
   ·rename_i n g h2 f l
    simp only [OI, Prod.mk.injEq] at c
    obtain ⟨rfl, rfl, rfl, rfl⟩ := c
    exact ⟨_, _, _, _, rfl, fun b hb => d b (by simp [hb]), _, _, _, _, l, fun b hb => d b (by simp [hb]), a⟩
   ·cases c
  ·rename_i p
   subst c
   refine ⟨_, _, _, _, rfl, d, ?_⟩
   cases e with
   | normal => exact absurd rfl (p _ _ _)
   | exit _ => exact a
   | ret => exact a
 ·rintro ⟨e, fr', h', m, rfl, d, a⟩
  cases e with
  | normal =>
   obtain ⟨n, g, h2, f, l, j, a⟩ := a
   refine ⟨n, g, h2, m ++ f, by simp only [F4, l], fun b hb => ?_, a⟩
   rcases List.mem_append.1 hb with hb | hb
   ·exact d b hb
   ·exact j b hb
  | exit _ => exact ⟨_, _, _, _, rfl, d, a⟩
  | ret => exact ⟨_, _, _, _, rfl, d, a⟩
theorem Aec {a b : C} {Q : Ex → Fr → Aa → Prop} : WO W (code cf it sz (.seq a b) fr h) Q = WO W (code cf it sz a fr h) (fun e fr' h' => match e with | .normal => WO W (code cf it sz b fr' h') Q | e => Q e fr' h') := Aa4
theorem Ano {Q : Ex → Fr → Aa → Prop} : WO W (code cf it sz .skip fr h) Q = Q .normal fr h := Vl
theorem Anq {id : Nat} {Q : Ex → Fr → Aa → Prop} : WO W (code cf it sz (.exit id) fr h) Q = Q (.exit id) fr h := Vl
theorem Aur {Q : Ex → Fr → Aa → Prop} : WO W (code cf it sz .ret fr h) Q = Q .ret fr h := Vl
def frm (live : List Nat) (f : FF) : Fr := live.map fun s => (s, f s)
theorem Ana {f : FF} : frm [] f = [] := id rfl
theorem Ahi {s : Nat} {l : List Nat} {f : FF} : frm (s :: l) f = (s, f s) :: frm l f := id rfl
theorem Ava {live : List Nat} {x : Option (FF × Aa × List Nat)} {Q : Ex → Fr → Aa → Prop} : WO W (Tl live x) Q = WX W x (fun f h' => WF (frm live f) (fun fr' => Q .normal fr' h')) := by
 cases x with
 | none => apply propext; constructor <;> rintro ⟨_, _, _, h⟩ <;> simp [Tl] at h
 | some v => obtain ⟨f, h, d⟩ := v; exact propext ⟨fun ⟨_, _, _, _, e, c, a⟩ => by cases e; exact ⟨_, _, _, rfl, c, a⟩, fun ⟨_, _, _, e, c, a⟩ => by cases e; exact ⟨_, _, _, _, rfl, c, a⟩⟩
theorem Aus {live : List Nat} {ins : List Ins} {Q : Ex → Fr → Aa → Prop} : WO W (code cf it sz (.reg live ins) fr h) Q = WX W (Fh cf ins (get fr) h) (fun f h' => WF (frm live f) (fun fr' => Q .normal fr' h')) := Ava
theorem Aut {live : List Nat} {n : Nat} {ins : List Ins} {Q : Ex → Fr → Aa → Prop} : WO W (code cf it sz (.drw live n ins) fr h) Q = WX W (Dm cf h.length ins (get fr) (room h n)) (fun f h' => WF (frm live f) (fun fr' => Q .normal fr' h')) := Ava
theorem Anr {x : X} {a b : C} {Q : Ex → Fr → Aa → Prop} : WO W (code cf it sz (.cond x a b) fr h) Q = WC (ev (get fr) x) (WO W (code cf it sz a fr h) Q) (WO W (code cf it sz b fr h) Q) := by
 have e : code cf it sz (.cond x a b) fr h = U9 (ev (get fr) x) (code cf it sz a fr h) (code cf it sz b fr h) := rfl
 rw [e]
 apply propext
 unfold U9 WC
 constructor
 ·intro c
  split at c
  ·rename_i t d
   refine ⟨_, d, ?_, ?_⟩
   ·intro e; simpa [e] using c
   ·intro e; simpa [e] using c
  ·obtain ⟨_, _, _, _, e, _⟩ := c; cases e
 ·rintro ⟨t, d, f, h2⟩
  rw [d]
  cases t
  ·exact h2 rfl
  ·exact f rfl
theorem Akm {id : Nat} {x : Out} {Q : Ex → Fr → Aa → Prop} : WO W (inBlock id x) Q = WO W x (fun e fr' h' => match e with | .exit j => if j = id then Q .normal fr' h' else Q (.exit j) fr' h' | e => Q e fr' h') := by
 apply propext
 cases x with
 | none => constructor <;> rintro ⟨_, _, _, _, h, _⟩ <;> simp [inBlock] at h
 | some t =>
  obtain ⟨e, fr, h, f⟩ := t
  cases e with
  | exit j =>
   by_cases d : j = id
   ·simp only [inBlock, d, if_true]
    exact ⟨fun ⟨_, _, _, _, e, c, a⟩ => by cases e; exact ⟨_, _, _, _, rfl, c, by simpa [d] using a⟩, fun ⟨_, _, _, _, e, c, a⟩ => by cases e; exact ⟨_, _, _, _, rfl, c, by simpa [d] using a⟩⟩
   ·simp only [inBlock, d, if_false]
    exact ⟨fun ⟨_, _, _, _, e, c, a⟩ => by cases e; exact ⟨_, _, _, _, rfl, c, by simpa [d] using a⟩, fun ⟨_, _, _, _, e, c, a⟩ => by cases e; exact ⟨_, _, _, _, rfl, c, by simpa [d] using a⟩⟩
  | normal => exact ⟨fun ⟨_, _, _, _, e, c, a⟩ => by cases e; exact ⟨_, _, _, _, rfl, c, a⟩, fun ⟨_, _, _, _, e, c, a⟩ => by cases e; exact ⟨_, _, _, _, rfl, c, a⟩⟩
  | ret => exact ⟨fun ⟨_, _, _, _, e, c, a⟩ => by cases e; exact ⟨_, _, _, _, rfl, c, a⟩, fun ⟨_, _, _, _, e, c, a⟩ => by cases e; exact ⟨_, _, _, _, rfl, c, a⟩⟩
theorem Aam {id : Nat} {b : C} {Q : Ex → Fr → Aa → Prop} : WO W (code cf it sz (.block id b) fr h) Q = WO W (code cf it sz b fr h) (fun e fr' h' => match e with | .exit j => if j = id then Q .normal fr' h' else Q (.exit j) fr' h' | e => Q e fr' h') := Akm
theorem Anp {b : C} {Q : Ex → Fr → Aa → Prop} : WO W (code cf it sz (.loop b) fr h) Q = WO W (it (code cf it sz b) fr h) Q := rfl
def Next {α : Type} (I : α → Fr → Aa → Prop) (μ : α → Nat) (a : α) (fr : Fr) (h : Aa) (t : Mk (I, μ, a) := .mk) : Prop := ∃ a', I a' fr h ∧ μ a' < μ a
theorem Next.mk {α : Type} {I : α → Fr → Aa → Prop} {μ : α → Nat} {a : α} {fr : Fr} {h : Aa} (a' : α) (hi : I a' fr h) (hm : μ a' < μ a) : Next I μ a fr h := ⟨a', hi, hm⟩
theorem WO.loop {α : Type} (I : α → Fr → Aa → Prop) (μ : α → Nat) {F : Fr → Aa → Out} {Q : Ex → Fr → Aa → Prop}
  (step : ∀ a fr h, I a fr h → WO W (F fr h) (fun e fr' h' => match e with | .normal => Next I μ a fr' h' | e => Q e fr' h')) :
  ∀ (a : α) {fr : Fr} {h : Aa}, I a fr h → WO W (iterW F fr h) Q := by
 have j : ∀ n a fr h, μ a ≤ n → I a fr h → WO W (iterW F fr h) Q := by
  intro n
  induction n with
  | zero =>
   intro a fr h m d
   rw [Ahc, Aa4]
   refine (step a fr h d).mono (fun _ h => h) fun e f h c => ?_
   cases e with
   | normal => obtain ⟨l, _, o⟩ := c; omega
   | exit _ => exact c
   | ret => exact c
  | succ n ih =>
   intro a fr h m d
   rw [Ahc, Aa4]
   refine (step a fr h d).mono (fun _ h => h) fun e f h c => ?_
   cases e with
   | normal => obtain ⟨l, g, o⟩ := c; exact ih l f h (by omega) g
   | exit _ => exact c
   | ret => exact c
 intro a fr h d
 exact j (μ a) a fr h (Nat.le_refl _) d
theorem Pg {E : Env} {g : FuncId} {c : FnC} (hf : E g = .text c) (args : List Value) (h : Aa) : callW E (.func (.func g) #[] #[]) args h = F0 (callW E) iterW (.text c) args h := by
 rw [Oi]; simp [Js, hf]
theorem Ph {E : Env} {g : FuncId} {c : FnC} (hf : E g = .text c) (a b : Array Value) (args : List Value) (h : Aa) : callW E (.func (.func g) a b) args h = F0 (callW E) iterW (.text c) (a.toList ++ args ++ b.toList) h := by
 rw [Oi]; simp [Js, hf]
def Res (res : List R) (Q : Value → Aa → Prop) (e : Ex) (fr : Fr) (h : Aa) : Prop := match e with
 | .exit _ => False
 | _ => W1 (L6 fr h res) fun vs => Q (Qf vs) h
theorem Aoj {res : List R} {Q : Value → Aa → Prop} {fr : Fr} {h : Aa} : Res res Q .ret fr h = W1 (L6 fr h res) fun vs => Q (Qf vs) h := rfl
theorem Aa6 {res : List R} {Q : Value → Aa → Prop} {fr : Fr} {h : Aa} : Res res Q .normal fr h = W1 (L6 fr h res) fun vs => Q (Qf vs) h := rfl
theorem Rk {ws : List Nat} {m : Nat} (h : ∀ b ∈ ws, m ≤ b) : ws.filter (fun b => decide (b < m)) = [] := by
 rw [List.filter_eq_nil_iff]; intro b a; have := h b a; simp; omega
theorem Ai {E : Env} {g : FuncId} {c : FnC} (hE : E g = .text c) {sz : Nat} {res : List R} {body : C} (hc : c = ⟨sz, res, body⟩) {args : List Value} {h : Aa} {v : Value} (hl : args.length ≤ sz)
  (hb : WO (fun b => h.length ≤ b) (code (callW E) iterW sz body (Ah args 0) h) (Res res fun v' _ => Ac h.length 4 v = true ∧ v' = v)) :
  callW E (.func (.func g) #[] #[]) args h = some (v, h, []) := by
 subst hc
 rw [Pg hE]
 obtain ⟨e, fr, h', m, n, l, o⟩ := hb
 have a : ∀ d, Res res (fun v' _ => Ac h.length 4 v = true ∧ v' = v) d fr h' → fin res h (some (d, fr, h', m)) = some (v, h, []) := by
  intro d j
  cases d with
  | exit _ => exact j.elim
  | normal => obtain ⟨p, f, h2, rfl⟩ := j; simp [fin, f, gc, Rk l, h2]
  | ret => obtain ⟨p, f, h2, rfl⟩ := j; simp [fin, f, gc, Rk l, h2]
 simp only [F0, hl, if_true]
 rw [n]
 exact a e o
theorem Ahz {E : Env} {g : FuncId} {c : FnC} (hf : E g = .textK c) (a b : Array Value) (args : List Value) (h : Aa) : callW E (.func (.func g) a b) args h = F0 (callW E) iterW (.textK c) (a.toList ++ args ++ b.toList) h := by
 rw [Oi]; simp [Js, hf]
theorem Fg {E : Env} {g : FuncId} {c : FnC} (hE : E g = .textK c) {sz : Nat} {res : List R} {body : C} (hc : c = ⟨sz, res, body⟩) {a b : Array Value} {args : List Value} {h : Aa} {W : Nat → Prop} {Q : Value → Aa → Prop} (hl : (a.toList ++ args ++ b.toList).length ≤ sz)
  (hb : WO W (code (callW E) iterW sz body (Ah (a.toList ++ args ++ b.toList) 0) h) (Res res Q)) : WX W (callW E (.func (.func g) a b) args h) Q := by
 subst hc
 rw [Ahz hE]
 obtain ⟨e, fr, h', n, l, j, f⟩ := hb
 simp only [F0, hl, if_true]
 rw [l]
 cases e with
 | exit _ => exact f.elim
 | normal => obtain ⟨m, d, h2⟩ := f; exact ⟨_, _, _, by simp [Xy, d], j, h2⟩
 | ret => obtain ⟨m, d, h2⟩ := f; exact ⟨_, _, _, by simp [Xy, d], j, h2⟩
end Go.L
namespace Go.L
open Go
def Ak6 (c a b : Value) : Option Value := match c with | .bool t => some (if t then a else b) | _ => none
def Az4 (k : IntKind) (x : Value) : Option Value := match x with | .int _ n => some (.int k (k.wrap n)) | _ => none
def Az3 (x : Value) : Option Value := match x with | .string s => some (.string s) | _ => none
def Azu (off : Nat) (x : Value) : Option Value := match x with | .pointer (some a) => some (.pointer (some ⟨a.block, a.off + off, none⟩)) | _ => none
def Azs (off : Nat) (agg : Option Nat) (x : Value) : Option Value := match x with | .agg cs => part cs.toList off agg | _ => none
def Awy (n size : Nat) (x i : Value) : Option Value := match x with | .pointer (some a) => Se size n a i | _ => none
def Apr (size : Nat) (x i : Value) : Option Value := match x with | .slice (some a) n _ => Se size n a i | _ => none
def Atu (n size : Nat) (agg : Option Nat) (x i : Value) : Option Value := match x, i with
    | .agg cs, .int _ j => if 0 ≤ j ∧ j < n then part cs.toList (j.toNat * size) agg else none
    | _, _ => none
def Z5 (x i : Value) : Option Value := match x, i with
    | .string s, .int _ j => if 0 ≤ j then (s[j.toNat]?).map fun b => .int .u8 b.toNat else none
    | _, _ => none
def Cm (x : Option Value) (dflt high : Nat) : Option Nat := match x with
  | none => some dflt
  | some (.int _ i) => if 0 ≤ i ∧ i ≤ high then some i.toNat else none
  | some _ => none
theorem Sc (f : FF) (x : Option X) (d h : Nat) : Bn f x d h = Cm (x.map (ev f)) d h := by
  cases x with
  | none => rfl
  | some x =>
    show (match ev f x with | .int _ i => if 0 ≤ i ∧ i ≤ h then some i.toNat else none | _ => none) = Cm (some (ev f x)) d h
    unfold Cm
    cases ev f x <;> rfl
def Aov (x : Value) (lo hi : Option Value) : Option Value := match x with
    | .string s => (Cm hi s.size s.size).bind fun h => (Cm lo 0 h).bind fun l => some (.string (s.extract l h))
    | _ => none
def Li (size : Nat) (x : Value) (lo hi mx : Option Value) : Option Value :=
  match x with
  | .slice none 0 0 => if mx.isSome ∧ hi.isNone then none else
    (Cm mx 0 0).bind fun m => (Cm hi 0 m).bind fun h => (Cm lo 0 h).bind fun _ => some (.slice none 0 0)
  | .slice (some a) n cap =>
    match mx with
    | some _ => match hi with
      | none => none
      | some _ => (Cm mx 0 cap).bind fun m => (Cm hi 0 m).bind fun h => (Cm lo 0 h).bind fun l =>
        some (.slice (some ⟨a.block, a.off + l * size, none⟩) (h - l) (m - l))
    | none => match a.spot with
      | none => (Cm hi n cap).bind fun h => (Cm lo 0 h).bind fun l =>
          if h ≤ cap then some (.slice (some ⟨a.block, a.off + l * size, none⟩) (h - l) (cap - l)) else none
      | some s => if s = size then (Cm hi n n).bind fun h => (Cm lo 0 h).bind fun l =>
          some (.slice (some ⟨a.block, a.off + l * size, some s⟩) (h - l) (h - l)) else none
  | _ => none
def Av4 (n size : Nat) (x : Value) (lo hi : Option Value) : Option Value := match x with
    | .pointer (some a) => (Cm hi n n).bind fun h => (Cm lo 0 h).bind fun l => some (.slice (some ⟨a.block, a.off + l * size, none⟩) (h - l) (n - l))
    | _ => none
def Awl (x : Value) : Option Value := match x with
    | .pointer (some a) => some (.pointer (some a))
    | .func (.func g) a b => some (.func (.func g) a b)
    | _ => none
def Azx (x : Value) (i : Nat) : Option Value := match x with
    | .tuple vs => match vs.toList[i]? with
      | some v => if C3 v then some v else none
      | none => none
    | _ => none
def Rf (text : Bool) (x : Value) : Option Value := match text, x with
    | true, .string s => some (.int .i64 s.size)
    | false, .slice _ n _ => some (.int .i64 n)
    | _, _ => none
def U2 : List (Nat × Nat × Value) → List Value → Option (List Value)
  | [], c => some c
  | (off, n, x) :: r, c => if (Bf x).length = n ∧ off + n ≤ c.length ∧ (Bf x).all Ae then U2 r (setCells c off (Bf x)) else none
theorem U1 (f : FF) : ∀ (l : List (Nat × Nat × X)) (c : List Value), Rm f l c = U2 (l.map fun p => (p.1, p.2.1, ev f p.2.2)) c
  | [], c => rfl
  | (off, n, x) :: r, c => by simp only [Rm, U2, List.map_cons, U1 f r]
theorem Aq7 (f : FF) (size : Nat) (x : Value) (lo hi mx : Option X) : Yw f size x lo hi mx = Li size x (lo.map (ev f)) (hi.map (ev f)) (mx.map (ev f)) := by
  unfold Yw Li
  simp only [Sc, Option.isSome_map, Option.isNone_map]
  cases mx <;> cases hi <;> rfl
def Atp (x : Value) (h : Aa) : Option Value := match x with
    | .map none => some (.int .i64 0)
    | .map (some r) => match h[r]? with
      | some (.map es) => some (.int .i64 es.length)
      | _ => none
    | _ => none
def Au6 (x : Value) (h : Aa) : Option Value := match x with
    | .slice _ _ _ => match cellsOf 1 x h with
      | some (_, c) => (bytesOf c).map fun b => .string ⟨b.toArray⟩
      | none => none
    | _ => none
def T9 (size : Nat) (zero : List Value) (n : Nat) (ps : List (Nat × Nat × Value)) : Option New :=
  if n * size ≤ 16777216 then (U2 ps (List.replicate n zero).flatten).bind fun c => Ab c fun b => .slice (some ⟨b, 0, none⟩) n n else none
def Apk (zero : List Value) (bytes : Nat) (n c : Value) : Option New := match n, c with
    | .int .i64 n, .int .i64 c =>
      if 0 ≤ n ∧ n ≤ c ∧ bytes * c ≤ 140737488355328 ∧ c < 9223372036854775808 then
        Ab (List.replicate c.toNat zero).flatten fun b => .slice (some ⟨b, 0, none⟩) n.toNat c.toNat
      else none
    | _, _ => none
def A0s (x : Value) : Option New := match x with
    | .string s => if s.size < 4611686018427387904 then some (.cells (s.data.toList.map fun b => .int .u8 b.toNat) true, fun b => .slice (some ⟨b, 0, some 1⟩) s.size s.size) else none
    | _ => none
def Atk (q : EqK) (m k v : Value) (h : Aa) : Option (Value × Aa × List Nat) := match m with
    | .map (some r) => match h[r]? with
      | some (.map es) => if Rh q k then (Nj q k v es).map fun es' => (undef, h.set r (.map es'), [r]) else none
      | _ => none
    | _ => none
def Az1 (q : EqK) (m k : Value) (h : Aa) : Option (Value × Aa × List Nat) := match m with
    | .map (some r) => match h[r]? with
      | some (.map es) => if Rh q k then (Xz q k es).map fun es' => (.tuple #[], h.set r (.map es'), [r]) else none
      | _ => none
    | _ => none
section
variable {W : Nat → Prop} {cf : Ba} {f : FF} {h : Aa} {r : List Ins} {m d rk : Nat} {g : Option (Nat × Bool)} {fl lz : Bool} {dd : Option Nat}
theorem Art {Q : FF → Aa → Prop} : WX W (Dm cf m [] f h) Q = Q f h := WX_some
theorem A0v {o : O} {Q : FF → Aa → Prop} : WX W (Dm cf m (⟨some d, none, o, fl, rk, lz⟩ :: r) f h) Q = WX W (opD cf m f h ⟨some d, none, o, fl, rk, lz⟩) (fun v h' => WX W (Dm cf m r (upd f d v) h') Q) := by
  simp only [Dm, wanted, Gr]; rw [← Nd (k := fun v h' => Dm cf m r (upd f d v) h')]; congr 1; cases opD cf m f h ⟨some d, none, o, fl, rk, lz⟩ <;> rfl
theorem A0u {o : O} {Q : FF → Aa → Prop} : WX W (Dm cf m (⟨none, none, o, fl, rk, lz⟩ :: r) f h) Q = WX W (opD cf m f h ⟨none, none, o, fl, rk, lz⟩) (fun _ h' => WX W (Dm cf m r f h') Q) := by
  simp only [Dm, wanted, Gr]; rw [← Nd (k := fun _ h' => Dm cf m r f h')]; congr 1; cases opD cf m f h ⟨none, none, o, fl, rk, lz⟩ <;> rfl
theorem A0t {g : Nat} {b : Bool} {o : O} {Q : FF → Aa → Prop} : WX W (Dm cf m (⟨some d, some (g, b), o, fl, rk, lz⟩ :: r) f h) Q = WG (f g) b (WX W (opD cf m f h ⟨some d, some (g, b), o, fl, rk, lz⟩) (fun v h' => WX W (Dm cf m r (upd f d v) h') Q)) (WX W (Dm cf m r (upd f d undef) h) Q) := by
  simp only [Dm, wanted, Gr]
  unfold WG
  cases hg : f g <;> simp only [] <;> try (apply propext; constructor <;> (first | (rintro ⟨_, _, _, e, _⟩; cases e) | (intro h; exact h.elim)))
  · rename_i c
    by_cases a : c = b
    · subst a; simp only [beq_self_eq_true, if_true]; rw [← Nd (k := fun v h' => Dm cf m r (upd f d v) h')]; congr 1; cases opD cf m f h ⟨some d, some (g, c), o, fl, rk, lz⟩ <;> rfl
    · have : (c == b) = false := by simpa using a
      simp [this, a]
  · rename_i j
    cases hv : j.isEmpty
    · simp only [Bool.false_eq_true, false_and]
      apply propext
      constructor
      · rintro ⟨_, _, _, e, _⟩; cases e
      · intro h; exact h.elim
    · simp
theorem Axv {g : Nat} {b : Bool} {o : O} {Q : FF → Aa → Prop} : WX W (Dm cf m (⟨none, some (g, b), o, fl, rk, lz⟩ :: r) f h) Q = WG (f g) b (WX W (opD cf m f h ⟨none, some (g, b), o, fl, rk, lz⟩) (fun _ h' => WX W (Dm cf m r f h') Q)) (WX W (Dm cf m r f h) Q) := by
  simp only [Dm, wanted, Gr]
  unfold WG
  cases hg : f g <;> simp only [] <;> try (apply propext; constructor <;> (first | (rintro ⟨_, _, _, e, _⟩; cases e) | (intro h; exact h.elim)))
  · rename_i c
    by_cases a : c = b
    · subst a; simp only [beq_self_eq_true, if_true]; rw [← Nd (k := fun _ h' => Dm cf m r f h')]; congr 1; cases opD cf m f h ⟨none, some (g, c), o, fl, rk, lz⟩ <;> rfl
    · have : (c == b) = false := by simpa using a
      simp [this, a]
  · rename_i d
    cases hv : d.isEmpty
    · simp only [Bool.false_eq_true, false_and]
      apply propext
      constructor
      · rintro ⟨_, _, _, e, _⟩; cases e
      · intro h; exact h.elim
    · simp
theorem Fz {o : O} {Q : Value → Aa → Prop} (hc : cls o = .P) : WX W (opD cf m f h ⟨dd, g, o, fl, rk, lz⟩) Q = W1 (At f o) (fun v => Q v h) := by
  unfold opD; dsimp only; rw [hc]; dsimp only
  cases At f o with
  | none => apply propext; constructor <;> rintro ⟨_, h⟩ <;> simp at h
  | some v => exact WX_some.trans (Ms rfl)
theorem Al6 {o : O} {Q : Value → Aa → Prop} (hc : cls o = .M) : WX W (opD cf m f h ⟨dd, g, o, false, rk, lz⟩) Q = W1 (Ge f h o) (fun v => Q v h) := by
  unfold opD; dsimp only; rw [hc]; simp only [Bool.false_eq_true, false_and, if_false]
  cases Ge f h o with
  | none => apply propext; constructor <;> rintro ⟨_, h⟩ <;> simp at h
  | some v => exact WX_some.trans (Ms rfl)
def WL (m : Nat) (v : Value) (A : Prop) (t : Mk2 A A := .mk) : Prop := low m v = true ∧ A
theorem Adu {o : O} {Q : Value → Aa → Prop} (hc : cls o = .M) : WX W (opD cf m f h ⟨dd, g, o, true, rk, lz⟩) Q = WL m (Abu f o) (W1 (Ge f h o) (fun v => Q v h)) := by
  unfold opD WL; dsimp only; rw [hc]; simp only [true_and]
  cases hl : low m (Abu f o)
  · simp only [if_true]
    apply propext; constructor
    · rintro ⟨_, _, _, e, _⟩; cases e
    · rintro ⟨e, _⟩; cases e
  · simp only [Bool.true_eq_false, if_false, true_and]
    cases Ge f h o with
    | none => apply propext; constructor <;> rintro ⟨_, h⟩ <;> simp at h
    | some v => exact WX_some.trans (Ms rfl)
theorem Ze {o : O} {Q : Value → Aa → Prop} (hc : cls o = .A) : WX W (opD cf m f h ⟨dd, g, o, fl, rk, lz⟩) Q = W1 (Iz f o) (fun n => WF (n.2 (m + rk)) (fun v => WF (h.set (m + rk) n.1) (fun h' => Q v h'))) := by
  unfold opD; dsimp only; rw [hc]; dsimp only
  cases Iz f o with
  | none => apply propext; constructor <;> rintro ⟨_, h⟩ <;> simp at h
  | some v => exact WX_some.trans (Ms rfl)
theorem Aob {x : Option (Value × Aa × List Nat)} {Q : Value → Aa → Prop} : WX W (match x with | some (v, h', ws) => if ws ≠ [] then none else some (v, h', ws) | none => none) Q = WX (fun _ => False) x Q := by
  cases x with
  | none => apply propext; constructor <;> (rintro ⟨_, _, _, e, _⟩; cases e)
  | some t =>
    obtain ⟨v, h', ws⟩ := t
    dsimp only
    cases ws with
    | nil => simp only [ne_eq, not_true, if_false]; exact propext ⟨fun ⟨_, _, _, e, _, c⟩ => by cases e; exact ⟨_, _, _, rfl, (fun b d => nomatch d), c⟩, fun ⟨_, _, _, e, _, c⟩ => by cases e; exact ⟨_, _, _, rfl, (fun b d => nomatch d), c⟩⟩
    | cons a r =>
      rw [if_pos (by simp)]
      apply propext; constructor
      · rintro ⟨_, _, _, e, _⟩; cases e
      · rintro ⟨_, _, _, e, f, _⟩
        cases e
        exact (f a (by simp)).elim
theorem Aga {o : O} {Q : Value → Aa → Prop} (hc : cls o = .E) : WX W (opD cf m f h ⟨dd, g, o, fl, rk, false⟩) Q = WX W (Nn f h o) Q := by
  unfold opD; dsimp only; rw [hc]; simp only [Bool.false_eq_true, false_and, if_false]
  congr 1
  cases Nn f h o <;> rfl
theorem Zd {o : O} {Q : Value → Aa → Prop} (hc : cls o = .E) : WX W (opD cf m f h ⟨dd, g, o, fl, rk, true⟩) Q = WX (fun _ => False) (Nn f h o) Q := by
  unfold opD; dsimp only; rw [hc]; simp only [true_and]
  exact Aob
theorem Ar4 {n : Nat} {a v : X} {Q : Value → Aa → Prop} : WX W (opD cf m f h ⟨dd, g, .st n a v, false, rk, lz⟩) Q = WH W (G0 n (ev f a) (ev f v) h) (fun h' => Q undef h') := by
  unfold opD; simp only [cls, Bool.false_eq_true, false_and, if_false]
  cases G0 n (ev f a) (ev f v) h with
  | none => apply propext; constructor <;> rintro ⟨_, _, h⟩ <;> simp at h
  | some v => obtain ⟨h', j⟩ := v; exact propext ⟨fun ⟨_, _, _, e, d, c⟩ => by cases e; exact ⟨_, _, rfl, d, c⟩, fun ⟨_, _, e, d, c⟩ => by cases e; exact ⟨_, _, _, rfl, d, c⟩⟩
def WHi (m : Nat) (v : Value) (A : Prop) (t : Mk2 A A := .mk) : Prop := high m v = true ∧ A
theorem Ak7 {n : Nat} {a v : X} {Q : Value → Aa → Prop} : WX W (opD cf m f h ⟨dd, g, .st n a v, true, rk, lz⟩) Q = WHi m (ev f a) (WH W (G0 n (ev f a) (ev f v) h) (fun h' => Q undef h')) := by
  unfold opD WHi; simp only [cls, true_and]
  cases hl : high m (ev f a)
  · simp only [if_true]
    apply propext; constructor
    · rintro ⟨_, _, _, e, _⟩; cases e
    · rintro ⟨e, _⟩; cases e
  · simp only [Bool.true_eq_false, if_false, true_and]
    cases G0 n (ev f a) (ev f v) h with
    | none => apply propext; constructor <;> rintro ⟨_, _, h⟩ <;> simp at h
    | some v => obtain ⟨h', j⟩ := v; exact propext ⟨fun ⟨_, _, _, e, d, c⟩ => by cases e; exact ⟨_, _, rfl, d, c⟩, fun ⟨_, _, e, d, c⟩ => by cases e; exact ⟨_, _, _, rfl, d, c⟩⟩
theorem Af7 {x : X} {args : List X} {Q : Value → Aa → Prop} : WX W (opD cf m f h ⟨dd, g, .call x args, false, rk, false⟩) Q = WX W (cf (ev f x) (args.map (ev f)) h) Q := by
  unfold opD; simp only [cls, Bool.false_eq_true, false_and, or_self, if_false]
  congr 1
  cases cf (ev f x) (args.map (ev f)) h <;> rfl
theorem Acd {x : X} {args : List X} {Q : Value → Aa → Prop} : WX W (opD cf m f h ⟨dd, g, .call x args, false, rk, true⟩) Q = WX (fun _ => False) (cf (ev f x) (args.map (ev f)) h) Q := by
  unfold opD; simp only [cls, Bool.false_eq_true, false_and, false_or, true_and]
  exact Aob
def WQ (h : Aa) (x : Option (Value × Aa × List Nat)) (Q : Value → Aa → Prop) (t : Mk Q := .mk) : Prop := ∃ v h', x = some (v, h', []) ∧ h'.length = h.length ∧ Q v h'
theorem Axk {v : Value} {h h' : Aa} {Q : Value → Aa → Prop} : WQ h (some (v, h', [])) Q = (h'.length = h.length ∧ Q v h') :=
  propext ⟨fun ⟨_, _, e, hl, hq⟩ => by cases e; exact ⟨hl, hq⟩, fun ⟨hl, hq⟩ => ⟨_, _, rfl, hl, hq⟩⟩
theorem Aoc {v : Value} {h : Aa} {Q : Value → Aa → Prop} : WQ h (some (v, h, [])) Q = Q v h := by rw [Axk]; simp
theorem Acc {x : X} {args : List X} {Q : Value → Aa → Prop} : WX W (opD cf m f h ⟨dd, g, .call x args, true, rk, false⟩) Q = WQ h (cf (ev f x) (args.map (ev f)) h) Q := by
  unfold opD WQ; simp only [cls, true_and, Bool.false_eq_true, false_and, or_false]
  cases cf (ev f x) (args.map (ev f)) h with
  | none => apply propext; constructor
            · rintro ⟨_, _, _, e, _⟩; cases e
            · rintro ⟨_, _, e, _⟩; cases e
  | some t =>
    obtain ⟨v, h', l⟩ := t
    dsimp only
    by_cases c : h'.length = h.length ∧ l = []
    · obtain ⟨d, rfl⟩ := c
      simp only [d, and_self, not_true, if_false]
      exact propext ⟨fun ⟨_, _, _, e, o, a⟩ => by cases e; exact ⟨_, _, rfl, d, a⟩, fun ⟨_, _, e, j, a⟩ => by cases e; exact ⟨_, _, _, rfl, (fun b n => nomatch n), a⟩⟩
    · rw [if_pos c]
      apply propext; constructor
      · rintro ⟨_, _, _, e, _⟩; cases e
      · rintro ⟨_, _, e, j, _⟩
        cases e
        exact absurd ⟨j, rfl⟩ c
theorem Asd {x : X} {Q : Value → Aa → Prop} : WX W (opN cf f h (.mov x)) Q = W1 (some (ev f x)) (fun v => Q v h) := by rw [Lm rfl]; rfl
theorem Alf {x : X} {Q : Value → Aa → Prop} : WX W (opD cf m f h ⟨dd, g, (.mov x), fl, rk, lz⟩) Q = W1 (some (ev f x)) (fun v => Q v h) := by rw [Fz rfl]; rfl
theorem Al7 {c a b : X} {Q : Value → Aa → Prop} : WX W (opN cf f h (.pick c a b)) Q = W1 (Ak6 (ev f c) (ev f a) (ev f b)) (fun v => Q v h) := by rw [Lm rfl]; rfl
theorem Afy {c a b : X} {Q : Value → Aa → Prop} : WX W (opD cf m f h ⟨dd, g, (.pick c a b), fl, rk, lz⟩) Q = W1 (Ak6 (ev f c) (ev f a) (ev f b)) (fun v => Q v h) := by rw [Fz rfl]; rfl
theorem Asy {op : BinOp} {q : EqK} {x y : X} {Q : Value → Aa → Prop} : WX W (opN cf f h (.bin op q x y)) Q = W1 (binOp op q (ev f x) (ev f y)) (fun v => Q v h) := by rw [Lm rfl]; rfl
theorem Al1 {op : BinOp} {q : EqK} {x y : X} {Q : Value → Aa → Prop} : WX W (opD cf m f h ⟨dd, g, (.bin op q x y), fl, rk, lz⟩) Q = W1 (binOp op q (ev f x) (ev f y)) (fun v => Q v h) := by rw [Fz rfl]; rfl
theorem Axx {op : UnOp} {x : X} {Q : Value → Aa → Prop} : WX W (opN cf f h (.un op x)) Q = W1 (unOp op (ev f x)) (fun v => Q v h) := by rw [Lm rfl]; rfl
theorem Ar3 {op : UnOp} {x : X} {Q : Value → Aa → Prop} : WX W (opD cf m f h ⟨dd, g, (.un op x), fl, rk, lz⟩) Q = W1 (unOp op (ev f x)) (fun v => Q v h) := by rw [Fz rfl]; rfl
theorem Ass {k : IntKind} {x : X} {Q : Value → Aa → Prop} : WX W (opN cf f h (.cvi k x)) Q = W1 (Az4 k (ev f x)) (fun v => Q v h) := by rw [Lm rfl]; rfl
theorem Alv {k : IntKind} {x : X} {Q : Value → Aa → Prop} : WX W (opD cf m f h ⟨dd, g, (.cvi k x), fl, rk, lz⟩) Q = W1 (Az4 k (ev f x)) (fun v => Q v h) := by rw [Fz rfl]; rfl
theorem Asr {x : X} {Q : Value → Aa → Prop} : WX W (opN cf f h (.cvs x)) Q = W1 (Az3 (ev f x)) (fun v => Q v h) := by rw [Lm rfl]; rfl
theorem Alu {x : X} {Q : Value → Aa → Prop} : WX W (opD cf m f h ⟨dd, g, (.cvs x), fl, rk, lz⟩) Q = W1 (Az3 (ev f x)) (fun v => Q v h) := by rw [Fz rfl]; rfl
theorem Asx {z : List Value} {p : List (Nat × Nat × X)} {Q : Value → Aa → Prop} : WX W (opN cf f h (.bld z p)) Q = W1 ((U2 (p.map fun p => (p.1, p.2.1, ev f p.2.2)) z).map fun c => .agg c.toArray) (fun v => Q v h) := by rw [Lm rfl]; simp only [At, U1]
theorem Al0 {z : List Value} {p : List (Nat × Nat × X)} {Q : Value → Aa → Prop} : WX W (opD cf m f h ⟨dd, g, (.bld z p), fl, rk, lz⟩) Q = W1 ((U2 (p.map fun p => (p.1, p.2.1, ev f p.2.2)) z).map fun c => .agg c.toArray) (fun v => Q v h) := by rw [Fz rfl]; simp only [At, U1]
theorem Aso {off : Nat} {x : X} {Q : Value → Aa → Prop} : WX W (opN cf f h (.fld off x)) Q = W1 (Azu off (ev f x)) (fun v => Q v h) := by rw [Lm rfl]; rfl
theorem Alr {off : Nat} {x : X} {Q : Value → Aa → Prop} : WX W (opD cf m f h ⟨dd, g, (.fld off x), fl, rk, lz⟩) Q = W1 (Azu off (ev f x)) (fun v => Q v h) := by rw [Fz rfl]; rfl
theorem Asn {off : Nat} {agg : Option Nat} {x : X} {Q : Value → Aa → Prop} : WX W (opN cf f h (.fof off agg x)) Q = W1 (Azs off agg (ev f x)) (fun v => Q v h) := by rw [Lm rfl]; rfl
theorem Alq {off : Nat} {agg : Option Nat} {x : X} {Q : Value → Aa → Prop} : WX W (opD cf m f h ⟨dd, g, (.fof off agg x), fl, rk, lz⟩) Q = W1 (Azs off agg (ev f x)) (fun v => Q v h) := by rw [Fz rfl]; rfl
theorem Asm {n size : Nat} {x y : X} {Q : Value → Aa → Prop} : WX W (opN cf f h (.ixa n size x y)) Q = W1 (Awy n size (ev f x) (ev f y)) (fun v => Q v h) := by rw [Lm rfl]; rfl
theorem Alp {n size : Nat} {x y : X} {Q : Value → Aa → Prop} : WX W (opD cf m f h ⟨dd, g, (.ixa n size x y), fl, rk, lz⟩) Q = W1 (Awy n size (ev f x) (ev f y)) (fun v => Q v h) := by rw [Fz rfl]; rfl
theorem Asl {size : Nat} {x y : X} {Q : Value → Aa → Prop} : WX W (opN cf f h (.ixs size x y)) Q = W1 (Apr size (ev f x) (ev f y)) (fun v => Q v h) := by rw [Lm rfl]; rfl
theorem Alo {size : Nat} {x y : X} {Q : Value → Aa → Prop} : WX W (opD cf m f h ⟨dd, g, (.ixs size x y), fl, rk, lz⟩) Q = W1 (Apr size (ev f x) (ev f y)) (fun v => Q v h) := by rw [Fz rfl]; rfl
theorem Asj {n size : Nat} {agg : Option Nat} {x y : X} {Q : Value → Aa → Prop} : WX W (opN cf f h (.ixv n size agg x y)) Q = W1 (Atu n size agg (ev f x) (ev f y)) (fun v => Q v h) := by rw [Lm rfl]; rfl
theorem Alm {n size : Nat} {agg : Option Nat} {x y : X} {Q : Value → Aa → Prop} : WX W (opD cf m f h ⟨dd, g, (.ixv n size agg x y), fl, rk, lz⟩) Q = W1 (Atu n size agg (ev f x) (ev f y)) (fun v => Q v h) := by rw [Fz rfl]; rfl
theorem Ask {x y : X} {Q : Value → Aa → Prop} : WX W (opN cf f h (.ixt x y)) Q = W1 (Z5 (ev f x) (ev f y)) (fun v => Q v h) := by rw [Lm rfl]; rfl
theorem Aln {x y : X} {Q : Value → Aa → Prop} : WX W (opD cf m f h ⟨dd, g, (.ixt x y), fl, rk, lz⟩) Q = W1 (Z5 (ev f x) (ev f y)) (fun v => Q v h) := by rw [Fz rfl]; rfl
theorem Ar6 {x : X} {lo hi : Option X} {Q : Value → Aa → Prop} : WX W (opN cf f h (.slt x lo hi)) Q = W1 (Aov (ev f x) (lo.map (ev f)) (hi.map (ev f))) (fun v => Q v h) := by rw [Lm rfl]; simp only [At, Sc, Aov]; congr 1
theorem Ak8 {x : X} {lo hi : Option X} {Q : Value → Aa → Prop} : WX W (opD cf m f h ⟨dd, g, (.slt x lo hi), fl, rk, lz⟩) Q = W1 (Aov (ev f x) (lo.map (ev f)) (hi.map (ev f))) (fun v => Q v h) := by rw [Fz rfl]; simp only [At, Sc, Aov]; congr 1
theorem Ar7 {size : Nat} {x : X} {lo hi mx : Option X} {Q : Value → Aa → Prop} : WX W (opN cf f h (.sls size x lo hi mx)) Q = W1 (Li size (ev f x) (lo.map (ev f)) (hi.map (ev f)) (mx.map (ev f))) (fun v => Q v h) := by rw [Lm rfl]; simp only [At, Aq7]
theorem Ak9 {size : Nat} {x : X} {lo hi mx : Option X} {Q : Value → Aa → Prop} : WX W (opD cf m f h ⟨dd, g, (.sls size x lo hi mx), fl, rk, lz⟩) Q = W1 (Li size (ev f x) (lo.map (ev f)) (hi.map (ev f)) (mx.map (ev f))) (fun v => Q v h) := by rw [Fz rfl]; simp only [At, Aq7]
theorem Ar8 {n size : Nat} {x : X} {lo hi : Option X} {Q : Value → Aa → Prop} : WX W (opN cf f h (.sla n size x lo hi)) Q = W1 (Av4 n size (ev f x) (lo.map (ev f)) (hi.map (ev f))) (fun v => Q v h) := by rw [Lm rfl]; simp only [At, Sc, Av4]; congr 1
theorem Ala {n size : Nat} {x : X} {lo hi : Option X} {Q : Value → Aa → Prop} : WX W (opD cf m f h ⟨dd, g, (.sla n size x lo hi), fl, rk, lz⟩) Q = W1 (Av4 n size (ev f x) (lo.map (ev f)) (hi.map (ev f))) (fun v => Q v h) := by rw [Fz rfl]; simp only [At, Sc, Av4]; congr 1
theorem Asa {x : X} {Q : Value → Aa → Prop} : WX W (opN cf f h (.nil x)) Q = W1 (Awl (ev f x)) (fun v => Q v h) := by rw [Lm rfl]; rfl
theorem Alc {x : X} {Q : Value → Aa → Prop} : WX W (opD cf m f h ⟨dd, g, (.nil x), fl, rk, lz⟩) Q = W1 (Awl (ev f x)) (fun v => Q v h) := by rw [Fz rfl]; rfl
theorem Asp {x : X} {j : Nat} {Q : Value → Aa → Prop} : WX W (opN cf f h (.ext x j)) Q = W1 (Azx (ev f x) j) (fun v => Q v h) := by rw [Lm rfl]; rfl
theorem Als {x : X} {j : Nat} {Q : Value → Aa → Prop} : WX W (opD cf m f h ⟨dd, g, (.ext x j), fl, rk, lz⟩) Q = W1 (Azx (ev f x) j) (fun v => Q v h) := by rw [Fz rfl]; rfl
theorem Asg {fn : Fn} {a b : List X} {Q : Value → Aa → Prop} : WX W (opN cf f h (.mkf fn a b)) Q = W1 (some (.func fn (a.map (ev f)).toArray (b.map (ev f)).toArray)) (fun v => Q v h) := by rw [Lm rfl]; rfl
theorem Ali {fn : Fn} {a b : List X} {Q : Value → Aa → Prop} : WX W (opD cf m f h ⟨dd, g, (.mkf fn a b), fl, rk, lz⟩) Q = W1 (some (.func fn (a.map (ev f)).toArray (b.map (ev f)).toArray)) (fun v => Q v h) := by rw [Fz rfl]; rfl
theorem Asf {t : TypeId} {x : X} {Q : Value → Aa → Prop} : WX W (opN cf f h (.mki t x)) Q = W1 (some (.iface t (ev f x))) (fun v => Q v h) := by rw [Lm rfl]; rfl
theorem Alh {t : TypeId} {x : X} {Q : Value → Aa → Prop} : WX W (opD cf m f h ⟨dd, g, (.mki t x), fl, rk, lz⟩) Q = W1 (some (.iface t (ev f x))) (fun v => Q v h) := by rw [Fz rfl]; rfl
theorem Al9 {t : Bool} {x : X} {Q : Value → Aa → Prop} : WX W (opN cf f h (.lens t x)) Q = W1 (Rf t (ev f x)) (fun v => Q v h) := by rw [Lm rfl]; rfl
theorem Af1 {t : Bool} {x : X} {Q : Value → Aa → Prop} : WX W (opD cf m f h ⟨dd, g, (.lens t x), fl, rk, lz⟩) Q = W1 (Rf t (ev f x)) (fun v => Q v h) := by rw [Fz rfl]; rfl
theorem Amb {n : Nat} {Q : Value → Aa → Prop} : WX W (opN cf f h (.lena n)) Q = W1 (some (.int .i64 n)) (fun v => Q v h) := by rw [Lm rfl]; rfl
theorem Af3 {n : Nat} {Q : Value → Aa → Prop} : WX W (opD cf m f h ⟨dd, g, (.lena n), fl, rk, lz⟩) Q = W1 (some (.int .i64 n)) (fun v => Q v h) := by rw [Fz rfl]; rfl
theorem Ash {x : X} {l : List X} {Q : Value → Aa → Prop} : WX W (opN cf f h (.min x l)) Q = W1 (Jq min2 (ev f x) (l.map (ev f))) (fun v => Q v h) := by rw [Lm rfl]; rfl
theorem Alj {x : X} {l : List X} {Q : Value → Aa → Prop} : WX W (opD cf m f h ⟨dd, g, (.min x l), fl, rk, lz⟩) Q = W1 (Jq min2 (ev f x) (l.map (ev f))) (fun v => Q v h) := by rw [Fz rfl]; rfl
theorem Asi {x : X} {l : List X} {Q : Value → Aa → Prop} : WX W (opN cf f h (.max x l)) Q = W1 (Jq max2 (ev f x) (l.map (ev f))) (fun v => Q v h) := by rw [Lm rfl]; rfl
theorem Alk {x : X} {l : List X} {Q : Value → Aa → Prop} : WX W (opD cf m f h ⟨dd, g, (.max x l), fl, rk, lz⟩) Q = W1 (Jq max2 (ev f x) (l.map (ev f))) (fun v => Q v h) := by rw [Fz rfl]; rfl
theorem Ax0 {a : Option Nat} {x : X} {Q : Value → Aa → Prop} : WX W (opN cf f h (.ld a x)) Q = W1 (Re a (ev f x) h) (fun v => Q v h) := by rw [Awg rfl]; rfl
theorem Ar5 {a : Option Nat} {x : X} {Q : Value → Aa → Prop} : WX W (opD cf m f h ⟨dd, g, (.ld a x), false, rk, lz⟩) Q = W1 (Re a (ev f x) h) (fun v => Q v h) := by rw [Al6 rfl]; rfl
theorem All {a : Option Nat} {x : X} {Q : Value → Aa → Prop} : WX W (opD cf m f h ⟨dd, g, (.ld a x), true, rk, lz⟩) Q = WL m (ev f x) (W1 (Re a (ev f x) h) (fun v => Q v h)) := by rw [Adu rfl]; rfl
theorem Al8 {q : EqK} {z : Value} {m1 k1 : X} {ok : Bool} {Q : Value → Aa → Prop} : WX W (opN cf f h (.look q z m1 k1 ok)) Q = W1 (W7 q z (ev f m1) (ev f k1) ok h) (fun v => Q v h) := by rw [Awg rfl]; rfl
theorem Af0 {q : EqK} {z : Value} {m1 k1 : X} {ok : Bool} {Q : Value → Aa → Prop} : WX W (opD cf m f h ⟨dd, g, (.look q z m1 k1 ok), false, rk, lz⟩) Q = W1 (W7 q z (ev f m1) (ev f k1) ok h) (fun v => Q v h) := by rw [Al6 rfl]; rfl
theorem Aca {q : EqK} {z : Value} {m1 k1 : X} {ok : Bool} {Q : Value → Aa → Prop} : WX W (opD cf m f h ⟨dd, g, (.look q z m1 k1 ok), true, rk, lz⟩) Q = WL m (ev f m1) (W1 (W7 q z (ev f m1) (ev f k1) ok h) (fun v => Q v h)) := by rw [Adu rfl]; rfl
theorem Ama {x : X} {Q : Value → Aa → Prop} : WX W (opN cf f h (.lenm x)) Q = W1 (Atp (ev f x) h) (fun v => Q v h) := by rw [Awg rfl]; rfl
theorem Af2 {x : X} {Q : Value → Aa → Prop} : WX W (opD cf m f h ⟨dd, g, (.lenm x), false, rk, lz⟩) Q = W1 (Atp (ev f x) h) (fun v => Q v h) := by rw [Al6 rfl]; rfl
theorem Acb {x : X} {Q : Value → Aa → Prop} : WX W (opD cf m f h ⟨dd, g, (.lenm x), true, rk, lz⟩) Q = WL m (ev f x) (W1 (Atp (ev f x) h) (fun v => Q v h)) := by rw [Adu rfl]; rfl
theorem Asz {x : X} {Q : Value → Aa → Prop} : WX W (opN cf f h (.b2s x)) Q = W1 (Au6 (ev f x) h) (fun v => Q v h) := by rw [Awg rfl]; rfl
theorem Al2 {x : X} {Q : Value → Aa → Prop} : WX W (opD cf m f h ⟨dd, g, (.b2s x), false, rk, lz⟩) Q = W1 (Au6 (ev f x) h) (fun v => Q v h) := by rw [Al6 rfl]; rfl
theorem Af8 {x : X} {Q : Value → Aa → Prop} : WX W (opD cf m f h ⟨dd, g, (.b2s x), true, rk, lz⟩) Q = WL m (ev f x) (W1 (Au6 (ev f x) h) (fun v => Q v h)) := by rw [Adu rfl]; rfl
theorem As1 {z : List Value} {Q : Value → Aa → Prop} : WX W (opN cf f h (.all z)) Q = W1 (Ab z fun b => .pointer (some ⟨b, 0, none⟩)) (fun n => WF (n.2 h.length) (fun v => WF (h ++ [n.1]) (fun hh => Q v hh))) := by rw [Ajl rfl]; rfl
theorem Al4 {z : List Value} {Q : Value → Aa → Prop} : WX W (opD cf m f h ⟨dd, g, (.all z), fl, rk, lz⟩) Q = W1 (Ab z fun b => .pointer (some ⟨b, 0, none⟩)) (fun n => WF (n.2 (m + rk)) (fun v => WF (h.set (m + rk) n.1) (fun hh => Q v hh))) := by rw [Ze rfl]; rfl
theorem Asw {x : X} {Q : Value → Aa → Prop} : WX W (opN cf f h (.box x)) Q = W1 (Ab (Bf (ev f x)) fun b => .pointer (some ⟨b, 0, none⟩)) (fun n => WF (n.2 h.length) (fun v => WF (h ++ [n.1]) (fun hh => Q v hh))) := by rw [Ajl rfl]; rfl
theorem Alz {x : X} {Q : Value → Aa → Prop} : WX W (opD cf m f h ⟨dd, g, (.box x), fl, rk, lz⟩) Q = W1 (Ab (Bf (ev f x)) fun b => .pointer (some ⟨b, 0, none⟩)) (fun n => WF (n.2 (m + rk)) (fun v => WF (h.set (m + rk) n.1) (fun hh => Q v hh))) := by rw [Ze rfl]; rfl
theorem Asv {size : Nat} {z : List Value} {n : Nat} {p : List (Nat × Nat × X)} {Q : Value → Aa → Prop} : WX W (opN cf f h (.bsl size z n p)) Q = W1 (T9 size z n (p.map fun p => (p.1, p.2.1, ev f p.2.2))) (fun n => WF (n.2 h.length) (fun v => WF (h ++ [n.1]) (fun hh => Q v hh))) := by rw [Ajl rfl]; simp only [Iz, T9, U1]
theorem Aly {size : Nat} {z : List Value} {n : Nat} {p : List (Nat × Nat × X)} {Q : Value → Aa → Prop} : WX W (opD cf m f h ⟨dd, g, (.bsl size z n p), fl, rk, lz⟩) Q = W1 (T9 size z n (p.map fun p => (p.1, p.2.1, ev f p.2.2))) (fun n => WF (n.2 (m + rk)) (fun v => WF (h.set (m + rk) n.1) (fun hh => Q v hh))) := by rw [Ze rfl]; simp only [Iz, T9, U1]
theorem Asc {z : List Value} {bytes : Nat} {x y : X} {Q : Value → Aa → Prop} : WX W (opN cf f h (.msl z bytes x y)) Q = W1 (Apk z bytes (ev f x) (ev f y)) (fun n => WF (n.2 h.length) (fun v => WF (h ++ [n.1]) (fun hh => Q v hh))) := by rw [Ajl rfl]; rfl
theorem Ale {z : List Value} {bytes : Nat} {x y : X} {Q : Value → Aa → Prop} : WX W (opD cf m f h ⟨dd, g, (.msl z bytes x y), fl, rk, lz⟩) Q = W1 (Apk z bytes (ev f x) (ev f y)) (fun n => WF (n.2 (m + rk)) (fun v => WF (h.set (m + rk) n.1) (fun hh => Q v hh))) := by rw [Ze rfl]; rfl
theorem Ase {Q : Value → Aa → Prop} : WX W (opN cf f h .mkm) Q = W1 (some (.map [], fun b => .map (some b))) (fun n => WF (n.2 h.length) (fun v => WF (h ++ [n.1]) (fun hh => Q v hh))) := by rw [Ajl rfl]; rfl
theorem Alg {Q : Value → Aa → Prop} : WX W (opD cf m f h ⟨dd, g, .mkm, fl, rk, lz⟩) Q = W1 (some (.map [], fun b => .map (some b))) (fun n => WF (n.2 (m + rk)) (fun v => WF (h.set (m + rk) n.1) (fun hh => Q v hh))) := by rw [Ze rfl]; rfl
theorem As2 {Q : Value → Aa → Prop} : WX W (opN cf f h .alb) Q = W1 (some (.bld none, fun b => .pointer (some ⟨b, 0, none⟩))) (fun n => WF (n.2 h.length) (fun v => WF (h ++ [n.1]) (fun hh => Q v hh))) := by rw [Ajl rfl]; rfl
theorem Al5 {Q : Value → Aa → Prop} : WX W (opD cf m f h ⟨dd, g, .alb, fl, rk, lz⟩) Q = W1 (some (.bld none, fun b => .pointer (some ⟨b, 0, none⟩))) (fun n => WF (n.2 (m + rk)) (fun v => WF (h.set (m + rk) n.1) (fun hh => Q v hh))) := by rw [Ze rfl]; rfl
theorem Ar9 {x : X} {Q : Value → Aa → Prop} : WX W (opN cf f h (.s2b x)) Q = W1 (A0s (ev f x)) (fun n => WF (n.2 h.length) (fun v => WF (h ++ [n.1]) (fun hh => Q v hh))) := by rw [Ajl rfl]; rfl
theorem Alb {x : X} {Q : Value → Aa → Prop} : WX W (opD cf m f h ⟨dd, g, (.s2b x), fl, rk, lz⟩) Q = W1 (A0s (ev f x)) (fun n => WF (n.2 (m + rk)) (fun v => WF (h.set (m + rk) n.1) (fun hh => Q v hh))) := by rw [Ze rfl]; rfl
theorem Asb {q : EqK} {m1 k1 v1 : X} {Q : Value → Aa → Prop} : WX W (opN cf f h (.mup q m1 k1 v1)) Q = WX W (Atk q (ev f m1) (ev f k1) (ev f v1) h) Q := by rw [As3 rfl]; rfl
theorem Ald {q : EqK} {m1 k1 v1 : X} {Q : Value → Aa → Prop} : WX W (opD cf m f h ⟨dd, g, (.mup q m1 k1 v1), fl, rk, false⟩) Q = WX W (Atk q (ev f m1) (ev f k1) (ev f v1) h) Q := by rw [Aga rfl]; rfl
theorem Afz {q : EqK} {m1 k1 v1 : X} {Q : Value → Aa → Prop} : WX W (opD cf m f h ⟨dd, g, (.mup q m1 k1 v1), fl, rk, true⟩) Q = WX (fun _ => False) (Atk q (ev f m1) (ev f k1) (ev f v1) h) Q := by rw [Zd rfl]; rfl
theorem As0 {size bytes : Nat} {x y : X} {Q : Value → Aa → Prop} : WX W (opN cf f h (.app size bytes x y)) Q = WX W (Ca size bytes (ev f x) (ev f y) h) Q := by rw [As3 rfl]; rfl
theorem Al3 {size bytes : Nat} {x y : X} {Q : Value → Aa → Prop} : WX W (opD cf m f h ⟨dd, g, (.app size bytes x y), fl, rk, false⟩) Q = WX W (Ca size bytes (ev f x) (ev f y) h) Q := by rw [Aga rfl]; rfl
theorem Af9 {size bytes : Nat} {x y : X} {Q : Value → Aa → Prop} : WX W (opD cf m f h ⟨dd, g, (.app size bytes x y), fl, rk, true⟩) Q = WX (fun _ => False) (Ca size bytes (ev f x) (ev f y) h) Q := by rw [Zd rfl]; rfl
theorem Ast {size : Nat} {x y : X} {Q : Value → Aa → Prop} : WX W (opN cf f h (.cpy size x y)) Q = WX W (Acw size (ev f x) (ev f y) h) Q := by rw [As3 rfl]; rfl
theorem Alw {size : Nat} {x y : X} {Q : Value → Aa → Prop} : WX W (opD cf m f h ⟨dd, g, (.cpy size x y), fl, rk, false⟩) Q = WX W (Acw size (ev f x) (ev f y) h) Q := by rw [Aga rfl]; rfl
theorem Af5 {size : Nat} {x y : X} {Q : Value → Aa → Prop} : WX W (opD cf m f h ⟨dd, g, (.cpy size x y), fl, rk, true⟩) Q = WX (fun _ => False) (Acw size (ev f x) (ev f y) h) Q := by rw [Zd rfl]; rfl
theorem Asu {z : List Value} {x : X} {Q : Value → Aa → Prop} : WX W (opN cf f h (.clr z x)) Q = WX W (Rp z (ev f x) h) Q := by rw [As3 rfl]; rfl
theorem Alx {z : List Value} {x : X} {Q : Value → Aa → Prop} : WX W (opD cf m f h ⟨dd, g, (.clr z x), fl, rk, false⟩) Q = WX W (Rp z (ev f x) h) Q := by rw [Aga rfl]; rfl
theorem Af6 {z : List Value} {x : X} {Q : Value → Aa → Prop} : WX W (opD cf m f h ⟨dd, g, (.clr z x), fl, rk, true⟩) Q = WX (fun _ => False) (Rp z (ev f x) h) Q := by rw [Zd rfl]; rfl
theorem Asq {q : EqK} {m1 k1 : X} {Q : Value → Aa → Prop} : WX W (opN cf f h (.del q m1 k1)) Q = WX W (Az1 q (ev f m1) (ev f k1) h) Q := by rw [As3 rfl]; rfl
theorem Alt {q : EqK} {m1 k1 : X} {Q : Value → Aa → Prop} : WX W (opD cf m f h ⟨dd, g, (.del q m1 k1), fl, rk, false⟩) Q = WX W (Az1 q (ev f m1) (ev f k1) h) Q := by rw [Aga rfl]; rfl
theorem Af4 {q : EqK} {m1 k1 : X} {Q : Value → Aa → Prop} : WX W (opD cf m f h ⟨dd, g, (.del q m1 k1), fl, rk, true⟩) Q = WX (fun _ => False) (Az1 q (ev f m1) (ev f k1) h) Q := by rw [Zd rfl]; rfl
end
end Go.L
namespace Go.L
open Go
theorem A1u {f : FF} {s : Nat} : ev f (.t s) = f s := rfl
theorem A1w {f : FF} {v : Value} : ev f (.c v) = v := rfl
theorem A1v {f : FF} {g : Nat} : ev f (.f g) = .func (.func g) #[] #[] := rfl
theorem Aqp {f : FF} {d s : Nat} {v : Value} : upd f d v s = if s = d then v else f s := rfl
theorem Ahf {k s : Nat} {v : Value} {r : Fr} : get ((k, v) :: r) s = if s = k then v else get r s := rfl
section
variable {q : EqK} {k k' : IntKind} {a b : Int}
theorem An7 : binOp .add q (.int k a) (.int k b) = some (.int k (k.wrap (a + b))) := by simp [binOp, Ib]
theorem Ant : binOp .sub q (.int k a) (.int k b) = some (.int k (k.wrap (a - b))) := by simp [binOp, Ib]
theorem Anz : binOp .mul q (.int k a) (.int k b) = some (.int k (k.wrap (a * b))) := by simp [binOp, Ib]
theorem Anx (h : b ≠ 0) : binOp .quo q (.int k a) (.int k b) = some (.int k (k.wrap (a.tdiv b))) := by simp [binOp, Ib, h]
theorem Anw (h : b ≠ 0) : binOp .rem q (.int k a) (.int k b) = some (.int k (a.tmod b)) := by simp [binOp, Ib, h]
theorem An4 : binOp .eql q (.int k a) (.int k b) = some (.bool (decide (a = b))) := by simp [binOp, Ib]; rfl
theorem Any : binOp .neq q (.int k a) (.int k b) = some (.bool (decide (¬ a = b))) := by
 simp only [binOp, Ib, if_true]; congr 2; by_cases h : a = b <;> simp [h]
theorem An0 : binOp .lss q (.int k a) (.int k b) = some (.bool (decide (a < b))) := by simp [binOp, Ib]
theorem An1 : binOp .leq q (.int k a) (.int k b) = some (.bool (decide (a ≤ b))) := by simp [binOp, Ib]
theorem An2 : binOp .gtr q (.int k a) (.int k b) = some (.bool (decide (b < a))) := by simp [binOp, Ib]
theorem An3 : binOp .geq q (.int k a) (.int k b) = some (.bool (decide (b ≤ a))) := by simp [binOp, Ib]
theorem A2k (h : 0 ≤ b) : binOp .shl q (.int k a) (.int k' b) = some (.int k (k.wrap (a * 2 ^ (min b.toNat k.bits)))) := by simp [binOp, Ib]; omega
theorem A2j (h : 0 ≤ b) : binOp .shr q (.int k a) (.int k' b) = some (.int k (a.fdiv (2 ^ (min b.toNat k.bits)))) := by simp [binOp, Ib]; omega
theorem Aqx : unOp .neg (.int k a) = some (.int k (k.wrap (0 - a))) := rfl
theorem Aqw {t : Bool} : unOp .not (.bool t) = some (.bool (!t)) := rfl
theorem An6 {x y : Bool} : binOp .eql .bool (.bool x) (.bool y) = some (.bool (x == y)) := rfl
theorem An5 {x y : Bool} : binOp .neq .bool (.bool x) (.bool y) = some (.bool (!(x == y))) := rfl
theorem Anv {x y : ByteArray} : binOp .eql q (.string x) (.string y) = some (.bool (x.toList == y.toList)) := rfl
theorem Anu {x y : ByteArray} : binOp .neq q (.string x) (.string y) = some (.bool (!(x.toList == y.toList))) := rfl
end
theorem Aer {x : Int} (h1 : -9223372036854775808 ≤ x) (h2 : x < 9223372036854775808) : IntKind.i64.wrap x = x := by
 simp [IntKind.wrap, IntKind.bits, IntKind.signed]; omega
theorem Yf {x : Int} (h1 : 0 ≤ x) (h2 : x < 18446744073709551616) : IntKind.u64.wrap x = x := by
 simp [IntKind.wrap, IntKind.bits, IntKind.signed]; omega
theorem Ada {x : Int} (h1 : 0 ≤ x) (h2 : x < 256) : IntKind.u8.wrap x = x := by
 simp [IntKind.wrap, IntKind.bits, IntKind.signed]; omega
theorem Anl {k k' : IntKind} {n : Int} : Az4 k (.int k' n) = some (.int k (k.wrap n)) := rfl
theorem Ank {s : ByteArray} : Az3 (.string s) = some (.string s) := rfl
theorem Arx {a b : Value} : Ak6 (.bool true) a b = some a := rfl
theorem Ary {a b : Value} : Ak6 (.bool false) a b = some b := rfl
theorem Aar {k : IntKind} {n : Int} : Bf (.int k n) = [.int k n] := rfl
theorem Xe {b : Bool} : Bf (.bool b) = [.bool b] := rfl
theorem Aan {b : ByteArray} : Bf (.string b) = [.string b] := rfl
theorem Aao {b : Option Addr} : Bf (.pointer b) = [.pointer b] := rfl
theorem Ve {b : Option Addr} {n c : Nat} : Bf (.slice b n c) = [.slice b n c] := rfl
theorem Aaq {b : Option Nat} : Bf (.map b) = [.map b] := rfl
theorem Xd {g : Fn} {a b : Array Value} : Bf (.func g a b) = [.func g a b] := rfl
theorem T5 {a : Array Value} : Bf (.agg a) = a.toList := rfl
theorem Adv {k : IntKind} {n : Int} : Ae (.int k n) = true := rfl
theorem Agf {b : Bool} : Ae (.bool b) = true := rfl
theorem Amd {b : ByteArray} : Ae (.string b) = true := rfl
theorem Ame {b : Option Addr} : Ae (.pointer b) = true := rfl
theorem Acf {b : Option Addr} {n c : Nat} : Ae (.slice b n c) = true := rfl
theorem Amf {b : Option Nat} : Ae (.map b) = true := rfl
theorem Age {g : Fn} {a b : Array Value} : Ae (.func g a b) = true := rfl
theorem Agd : Ae .nilFunc = true := rfl
theorem Xc : Bf .nilFunc = [.nilFunc] := rfl
theorem Aap {v : Value} (h : Ae v = true) : Bf v = [v] := by cases v <;> first | rfl | cases h
theorem Acu {c : List Value} : U2 [] c = some c := rfl
theorem Aad {o n : Nat} {x : Value} {r : List (Nat × Nat × Value)} {c : List Value} : U2 ((o, n, x) :: r) c = if (Bf x).length = n ∧ o + n ≤ c.length ∧ (Bf x).all Ae then U2 r (setCells c o (Bf x)) else none := rfl
theorem Lk {c : List Value} {o : Nat} : setCells c o [] = c := rfl
theorem Ha {c : List Value} {o : Nat} {v : Value} {r : List Value} : setCells c o (v :: r) = setCells (c.set o v) (o + 1) r := rfl
def ldO : Option LObj → Nat → Option Nat → Option Value
 | some (.cells c _), off, agg => part c off agg
 | _, _, _ => none
theorem Ag1 {b off : Nat} {sp : Option Nat} {agg : Option Nat} {h : Aa} : Re agg (.pointer (some ⟨b, off, sp⟩)) h = ldO h[b]? off agg := by
 simp only [Re]; cases h[b]? with
 | none => rfl
 | some o => cases o <;> rfl
theorem Oe {c : List Value} {ro : Bool} {off : Nat} {agg : Option Nat} : ldO (some (.cells c ro)) off agg = part c off agg := rfl
theorem So {c : List Value} {off : Nat} : part c off none = c[off]? := rfl
theorem V2 {c : List Value} {off n : Nat} : part c off (some n) = if off + n ≤ c.length then some (.agg ((c.drop off).take n).toArray) else none := rfl
def stO (n : Nat) (h : Aa) (b off : Nat) (cs : List Value) : Option LObj → Option (Aa × List Nat)
 | some (.cells c false) => if cs.length = n ∧ off + n ≤ c.length ∧ cs.all Ae then some (h.set b (.cells (setCells c off cs) false), [b]) else none
 | _ => none
theorem Abz {n b off : Nat} {sp : Option Nat} {v : Value} {h : Aa} : G0 n (.pointer (some ⟨b, off, sp⟩)) v h = stO n h b off (Bf v) h[b]? := by
 simp only [G0]; cases h[b]? with
 | none => rfl
 | some o => cases o with
  | cells c ro => cases ro <;> rfl
  | map _ => rfl
  | loop _ => rfl
  | dead => rfl
  | bld _ => rfl
  | bytes _ => rfl
theorem Lv {n b off : Nat} {h : Aa} {cs c : List Value} : stO n h b off cs (some (.cells c false)) = if cs.length = n ∧ off + n ≤ c.length ∧ cs.all Ae then some (h.set b (.cells (setCells c off cs) false), [b]) else none := rfl
theorem And {off b o : Nat} {sp : Option Nat} : Azu off (.pointer (some ⟨b, o, sp⟩)) = some (.pointer (some ⟨b, o + off, none⟩)) := rfl
theorem Anc {off : Nat} {agg : Option Nat} {cs : Array Value} : Azs off agg (.agg cs) = part cs.toList off agg := rfl
theorem Amv {a : Addr} : Awl (.pointer (some a)) = some (.pointer (some a)) := rfl
theorem Agw {g : FuncId} {a b : Array Value} : Awl (.func (.func g) a b) = some (.func (.func g) a b) := rfl
theorem Zz {a : Option Addr} {n c : Nat} : Rf false (.slice a n c) = some (.int .i64 n) := rfl
theorem Ag5 {s : ByteArray} : Rf true (.string s) = some (.int .i64 s.size) := rfl
theorem Acv {vs : Array Value} {j : Nat} : Azx (.tuple vs) j = match vs.toList[j]? with | some v => if C3 v then some v else none | none => none := rfl
theorem Atd {k : IntKind} {n : Int} : C3 (.int k n) = true := rfl
theorem Ami {b : Bool} : C3 (.bool b) = true := rfl
theorem Ata {b : ByteArray} : C3 (.string b) = true := rfl
theorem Agj {b : Option Addr} {n c : Nat} : C3 (.slice b n c) = true := rfl
theorem Atb {b : Option Addr} : C3 (.pointer b) = true := rfl
theorem Ate {b : Array Value} : C3 (.agg b) = true := rfl
theorem Atc {b : Option Nat} : C3 (.map b) = true := rfl
theorem Amh {g : Fn} {a b : Array Value} : C3 (.func g a b) = true := rfl
theorem Cn {size n c b o : Nat} {sp : Option Nat} {k : IntKind} {j : Int} (h1 : 0 ≤ j) (h2 : j < n) : Apr size (.slice (some ⟨b, o, sp⟩) n c) (.int k j) = some (.pointer (some ⟨b, o + j.toNat * size, none⟩)) := by
 simp [Apr, Se, h1, h2]
theorem Ag9 {size n b o : Nat} {sp : Option Nat} {k : IntKind} {j : Int} (h1 : 0 ≤ j) (h2 : j < n) : Awy n size (.pointer (some ⟨b, o, sp⟩)) (.int k j) = some (.pointer (some ⟨b, o + j.toNat * size, none⟩)) := by
 simp [Awy, Se, h1, h2]
theorem Atv {s : ByteArray} {k : IntKind} {j : Int} (h1 : 0 ≤ j) : Z5 (.string s) (.int k j) = (s[j.toNat]?).map fun b => .int .u8 b.toNat := by simp [Z5, h1]
theorem Ax7 {x : Value} : Jq min2 x [] = some x := rfl
theorem Ax6 {k : IntKind} {a b : Int} {r : List Value} : Jq min2 (.int k a) (.int k b :: r) = Jq min2 (.int k (min a b)) r := by
 simp only [Jq, min2, Option.bind_some]; congr 2; omega
theorem Ax9 {x : Value} : Jq max2 x [] = some x := rfl
theorem Ax8 {k : IntKind} {a b : Int} {r : List Value} : Jq max2 (.int k a) (.int k b :: r) = Jq max2 (.int k (max a b)) r := by
 simp only [Jq, max2, Option.bind_some]; congr 2; omega
theorem Afm {fr : Fr} {h : Aa} : L6 fr h [] = some [] := rfl
theorem Arq {fr : Fr} {h : Aa} {s : Nat} {r : List R} : L6 fr h (.t s :: r) = (L6 fr h r).map (get fr s :: ·) := rfl
theorem Arp {fr : Fr} {h : Aa} {s : Nat} {agg : Option Nat} {r : List R} : L6 fr h (.v agg s :: r) = (Re agg (get fr s) h).bind fun v => (L6 fr h r).map (v :: ·) := rfl
theorem Afk {v : Value} : Qf [v] = v := rfl
theorem Afj {v w : Value} {r : List Value} : Qf (v :: w :: r) = .tuple (v :: w :: r).toArray := rfl
theorem Afl : Qf [] = .tuple #[] := rfl
theorem Aml {m : Nat} {k : IntKind} {n : Int} : Ac m 4 (.int k n) = true := rfl
theorem Agn {m : Nat} {b : Bool} : Ac m 4 (.bool b) = true := rfl
theorem Amj {m : Nat} {b : ByteArray} : Ac m 4 (.string b) = true := rfl
theorem Aci {m n c : Nat} {a : Addr} : Ac m 4 (.slice (some a) n c) = decide (a.block < m) := rfl
theorem Agk {m n c : Nat} : Ac m 4 (.slice none n c) = true := rfl
theorem Amk {m : Nat} {a : Addr} : Ac m 4 (.pointer (some a)) = decide (a.block < m) := rfl
theorem Agl {m : Nat} : Ac m 4 (.pointer none) = true := rfl
theorem Amm {m : Nat} {vs : Array Value} : Ac m 4 (.agg vs) = vs.toList.all (Ac m 3) := rfl
theorem Ach {m : Nat} {vs : Array Value} : Ac m 4 (.tuple vs) = vs.toList.all (Ac m 3) := rfl
theorem Agm {m : Nat} {g : FuncId} {a b : Array Value} : Ac m 4 (.func (.func g) a b) = (a.toList.all (Ac m 3) && b.toList.all (Ac m 3)) := by simp [Ac]
theorem Amp {m : Nat} {k : IntKind} {n : Int} : Ac m 3 (.int k n) = true := rfl
theorem Agr {m : Nat} {b : Bool} : Ac m 3 (.bool b) = true := rfl
theorem Amn {m : Nat} {b : ByteArray} : Ac m 3 (.string b) = true := rfl
theorem Ack {m n c : Nat} {a : Addr} : Ac m 3 (.slice (some a) n c) = decide (a.block < m) := rfl
theorem Ago {m n c : Nat} : Ac m 3 (.slice none n c) = true := rfl
theorem Amo {m : Nat} {a : Addr} : Ac m 3 (.pointer (some a)) = decide (a.block < m) := rfl
theorem Agp {m : Nat} : Ac m 3 (.pointer none) = true := rfl
theorem Amq {m : Nat} {vs : Array Value} : Ac m 3 (.agg vs) = vs.toList.all (Ac m 2) := rfl
theorem Acj {m : Nat} {vs : Array Value} : Ac m 3 (.tuple vs) = vs.toList.all (Ac m 2) := rfl
theorem Agq {m : Nat} {g : FuncId} {a b : Array Value} : Ac m 3 (.func (.func g) a b) = (a.toList.all (Ac m 2) && b.toList.all (Ac m 2)) := by simp [Ac]
theorem Amt {m : Nat} {k : IntKind} {n : Int} : Ac m 2 (.int k n) = true := rfl
theorem Agv {m : Nat} {b : Bool} : Ac m 2 (.bool b) = true := rfl
theorem Amr {m : Nat} {b : ByteArray} : Ac m 2 (.string b) = true := rfl
theorem Acm {m n c : Nat} {a : Addr} : Ac m 2 (.slice (some a) n c) = decide (a.block < m) := rfl
theorem Ags {m n c : Nat} : Ac m 2 (.slice none n c) = true := rfl
theorem Ams {m : Nat} {a : Addr} : Ac m 2 (.pointer (some a)) = decide (a.block < m) := rfl
theorem Agt {m : Nat} : Ac m 2 (.pointer none) = true := rfl
theorem Amu {m : Nat} {vs : Array Value} : Ac m 2 (.agg vs) = vs.toList.all (Ac m 1) := rfl
theorem Acl {m : Nat} {vs : Array Value} : Ac m 2 (.tuple vs) = vs.toList.all (Ac m 1) := rfl
theorem Agu {m : Nat} {g : FuncId} {a b : Array Value} : Ac m 2 (.func (.func g) a b) = (a.toList.all (Ac m 1) && b.toList.all (Ac m 1)) := by simp [Ac]
theorem A2g {m : Nat} {k : IntKind} {n : Int} : Ac m 1 (.int k n) = true := rfl
theorem A00 {m : Nat} {b : Bool} : Ac m 1 (.bool b) = true := rfl
theorem A2e {m : Nat} {b : ByteArray} : Ac m 1 (.string b) = true := rfl
theorem A0j {m n c : Nat} {a : Addr} : Ac m 1 (.slice (some a) n c) = decide (a.block < m) := rfl
theorem A0x {m n c : Nat} : Ac m 1 (.slice none n c) = true := rfl
theorem A2f {m : Nat} {a : Addr} : Ac m 1 (.pointer (some a)) = decide (a.block < m) := rfl
theorem A0y {m : Nat} : Ac m 1 (.pointer none) = true := rfl
theorem A2h {m : Nat} {vs : Array Value} : Ac m 1 (.agg vs) = vs.toList.all (Ac m 0) := rfl
theorem A0i {m : Nat} {vs : Array Value} : Ac m 1 (.tuple vs) = vs.toList.all (Ac m 0) := rfl
theorem A0z {m : Nat} {g : FuncId} {a b : Array Value} : Ac m 1 (.func (.func g) a b) = (a.toList.all (Ac m 0) && b.toList.all (Ac m 0)) := by simp [Ac]
section
variable {h l : Aa} {o : LObj}
theorem Og {n : Nat} : (h ++ l)[h.length + n]? = l[n]? := by rw [List.getElem?_append_right (by omega)]; congr 1; omega
theorem Bk : (h ++ l)[h.length]? = l[0]? := by rw [List.getElem?_append_right (by omega)]; congr 1; omega
theorem Ayx {n : Nat} : (h ++ l).set (h.length + n) o = h ++ l.set n o := by rw [List.set_append_right _ _ (by omega)]; congr 2; omega
theorem Arc : (h ++ l).set h.length o = h ++ l.set 0 o := by rw [List.set_append_right _ _ (by omega)]; congr 2; omega
theorem Aq {b c : Nat} (hb : b ≠ c) : (h.set b o)[c]? = h[c]? := List.getElem?_set_ne hb
theorem Axu : room h 0 = h := rfl
theorem Axt : room h 1 = h ++ [.dead] := rfl
theorem Axs : room h 2 = h ++ [.dead, .dead] := rfl
theorem Axr : room h 3 = h ++ [.dead, .dead, .dead] := rfl
theorem Axq : room h 4 = h ++ [.dead, .dead, .dead, .dead] := rfl
end
def blk : Value → Nat
 | .slice (some a) _ _ => a.block
 | _ => 0
def ofs : Value → Nat
 | .slice (some a) _ _ => a.off
 | _ => 0
structure Row (sz : Nat) (h : Aa) (v : Value) (L : List (List Value)) : Prop where
 size : ∀ e ∈ L, e.length = sz
 few : L.length < 1152921504606846976
 is : (v = .slice none 0 0 ∧ L = []) ∨ ∃ b off sp cap c ro, v = .slice (some ⟨b, off, sp⟩) L.length cap ∧ h[b]? = some (.cells c ro) ∧ off + L.length * sz ≤ c.length ∧ (c.drop off).take (L.length * sz) = L.flatten ∧ L.length ≤ cap ∧ (sp = none ∨ sp = some sz)
namespace Row
variable {sz : Nat} {h : Aa} {v : Value} {L : List (List Value)}
theorem len (r : Row sz h v L) : Rf false v = some (.int .i64 L.length) := by
 rcases r.is with ⟨rfl, rfl⟩ | ⟨b, d, e, a, c, f, rfl, _⟩ <;> rfl
theorem ixs (r : Row sz h v L) (k : IntKind) (i : Int) (h1 : 0 ≤ i) (h2 : i < L.length) : Apr sz v (.int k i) = some (.pointer (some ⟨blk v, ofs v + i.toNat * sz, none⟩)) := by
 rcases r.is with ⟨rfl, rfl⟩ | ⟨b, d, e, a, c, f, rfl, _⟩
 ·simp at h2; omega
 ·exact Cn h1 h2
theorem flat_get : ∀ {L : List (List Value)} (hs : ∀ e ∈ L, e.length = sz) (i fo : Nat) (hi : i < L.length) (hf : fo < sz), L.flatten[i * sz + fo]? = some ((L.getD i []).getD fo undef) := by
 intro L
 induction L with
 | nil => intro hs i fo hi; simp at hi
 | cons x r ih =>
  intro hs i fo hi hf
  have a : x.length = sz := hs x (by simp)
  cases i with
  | zero =>
   simp only [Nat.zero_mul, Nat.zero_add, List.flatten_cons, List.getD_cons_zero]
   rw [GL (by omega), List.getD_eq_getElem?_getD, List.getElem?_eq_getElem (by omega)]; rfl
  | succ i =>
   have e : (i + 1) * sz + fo = x.length + (i * sz + fo) := by rw [a, Nat.succ_mul]; omega
   rw [List.flatten_cons, e, List.getElem?_append_right (by omega), Nat.add_sub_cancel_left, List.getD_cons_succ]
   exact ih (fun e c => hs e (by simp [c])) i fo (by simpa using hi) hf
theorem at_ (r : Row sz h v L) (i fo : Nat) (hi : i < L.length) (hf : fo < sz) : ∃ c ro, h[blk v]? = some (.cells c ro) ∧ ofs v + i * sz + fo < c.length ∧ c[ofs v + i * sz + fo]? = some ((L.getD i []).getD fo undef) := by
 rcases r.is with ⟨rfl, rfl⟩ | ⟨b, e, m, f, c, ro, rfl, g, l, j, d⟩
 ·simp at hi
 ·have a : i * sz + fo < L.length * sz := by
   have := Nat.mul_le_mul_right sz (show i + 1 ≤ L.length by omega)
   rw [Nat.succ_mul] at this; omega
  refine ⟨c, ro, g, ?_, ?_⟩
  ·simp only [ofs]; omega
  ·simp only [ofs]
   rw [← flat_get r.size i fo hi hf, ← j, List.getElem?_take, if_pos a, List.getElem?_drop, Nat.add_assoc]
theorem ld (r : Row sz h v L) (i : Int) (fo : Nat) (h1 : 0 ≤ i) (h2 : i < L.length) (hf : fo < sz) : ldO h[blk v]? (ofs v + i.toNat * sz + fo) none = some ((L.getD i.toNat []).getD fo undef) := by
 obtain ⟨c, e, a, _, d⟩ := r.at_ i.toNat fo (by omega) hf
 rw [a, Oe, So, d]
theorem ld0 (r : Row sz h v L) (i : Int) (h1 : 0 ≤ i) (h2 : i < L.length) (hf : 0 < sz) : ldO h[blk v]? (ofs v + i.toNat * sz) none = some ((L.getD i.toNat []).getD 0 undef) := r.ld i 0 h1 h2 hf
theorem getD_mem {L : List (List Value)} {i : Nat} (hi : i < L.length) : L.getD i [] ∈ L := by
 rw [List.getD_eq_getElem?_getD, List.getElem?_eq_getElem hi]; exact List.getElem_mem hi
theorem lda (r : Row sz h v L) (i : Int) (h1 : 0 ≤ i) (h2 : i < L.length) (hz : 0 < sz) : ldO h[blk v]? (ofs v + i.toNat * sz) (some sz) = some (.agg (L.getD i.toNat []).toArray) := by
 have d : i.toNat < L.length := by omega
 have e : (L.getD i.toNat []).length = sz := r.size _ (getD_mem d)
 obtain ⟨c, s, f, n, _⟩ := r.at_ i.toNat (sz - 1) d (by omega)
 rw [f, Oe, V2, if_pos (by omega)]
 congr 3
 apply List.ext_getElem?
 intro j
 by_cases g : j < sz
 ·obtain ⟨p, m, a, _, o⟩ := r.at_ i.toNat j d g
  rw [f] at a; cases a
  rw [List.getElem?_take, if_pos g, List.getElem?_drop, o, List.getD_eq_getElem?_getD (l := L.getD i.toNat []), List.getElem?_eq_getElem (by omega)]; rfl
 ·rw [List.getElem?_eq_none (by simp; omega), List.getElem?_eq_none (by omega)]
theorem ext (r : Row sz h v L) {h' : Aa} (hx : ∀ (b : Nat) (o : LObj), h[b]? = some o → o ≠ LObj.dead → h'[b]? = some o) : Row sz h' v L :=
 ⟨r.size, r.few, r.is.imp id fun ⟨b, off, sp, cap, c, ro, h1, h2, h3⟩ => ⟨b, off, sp, cap, c, ro, h1, hx _ _ h2 (by intro h; cases h), h3⟩⟩
theorem app (r : Row sz h v L) (l : Aa) : Row sz (h ++ l) v L := r.ext fun b o hb _ => by
 rw [GL (GI.1 hb).1]; exact hb
theorem set (r : Row sz h v L) {b : Nat} {o : LObj} (hb : b ≠ blk v) : Row sz (h.set b o) v L :=
 ⟨r.size, r.few, r.is.imp id fun ⟨b', off, sp, cap, c, ro, h1, h2, h3⟩ => ⟨b', off, sp, cap, c, ro, h1, by rw [Aq (by rw [h1] at hb; exact hb)]; exact h2, h3⟩⟩
theorem sls_hi (r : Row sz h v L) {k : IntKind} {n : Int} (h1 : 0 ≤ n) (h2 : n ≤ L.length) : ∃ v', Li sz v none (some (.int k n)) none = some v' ∧ Row sz h v' (L.take n.toNat) ∧ blk v' = blk v ∧ (v = .slice none 0 0 → v' = .slice none 0 0) := by
 have g : ∀ e ∈ L.take n.toNat, e.length = sz := fun e p => r.size e (List.mem_of_mem_take p)
 have f : (L.take n.toNat).length < 1152921504606846976 := by have := r.few; rw [List.length_take]; omega
 have a : (L.take n.toNat).length = n.toNat := by rw [List.length_take]; omega
 rcases r.is with ⟨rfl, rfl⟩ | ⟨b, d, sp, m, c, u, rfl, t, hl, hc, j⟩
 ·have : n = 0 := by simp at h2; omega
  subst this
  exact ⟨.slice none 0 0, by simp [Li, Cm], ⟨g, f, .inl ⟨rfl, by simp⟩⟩, rfl, fun _ => rfl⟩
 ·have o : n.toNat * sz ≤ L.length * sz := Nat.mul_le_mul_right sz (by omega)
  have l : (c.drop d).take (n.toNat * sz) = (L.take n.toNat).flatten := by
   have e : L.flatten = (L.take n.toNat).flatten ++ (L.drop n.toNat).flatten := by rw [← List.flatten_append, List.take_append_drop]
   have y : (L.take n.toNat).flatten.length = n.toNat * sz := by
    have : ∀ {M : List (List Value)}, (∀ e ∈ M, e.length = sz) → M.flatten.length = M.length * sz := by
     intro M
     induction M with
     | nil => intro _; simp
     | cons x r ih => intro s; rw [List.flatten_cons, LA, ih (fun e p => s e (by simp [p])), s x (by simp), List.length_cons, Nat.succ_mul]; omega
    rw [this g, a]
   have z : (c.drop d).take (n.toNat * sz) = ((c.drop d).take (L.length * sz)).take (n.toNat * sz) := by rw [List.take_take, Nat.min_eq_left o]
   rw [z, hc, e, ← y, List.take_left']
   rfl
  obtain ⟨j, rfl | rfl⟩ := j
  ·refine ⟨.slice (some ⟨b, d, none⟩) n.toNat m, ?_, ⟨g, f, .inr ⟨b, d, none, m, c, u, by rw [a], t, by rw [a]; omega, by rw [a]; exact l, by rw [a]; omega, .inl rfl⟩⟩, rfl, fun e => by cases e⟩
   simp only [Li, Cm]
   rw [if_pos (by omega), Option.bind_some, Option.bind_some, if_pos (by omega)]
   simp
  ·refine ⟨.slice (some ⟨b, d, some sz⟩) n.toNat n.toNat, ?_, ⟨g, f, .inr ⟨b, d, some sz, n.toNat, c, u, by rw [a], t, by rw [a]; omega, by rw [a]; exact l, by rw [a]; exact Nat.le_refl _, .inr rfl⟩⟩, rfl, fun e => by cases e⟩
   simp only [Li, Cm, if_true]
   rw [if_pos (by omega), Option.bind_some, Option.bind_some]
   simp
theorem lt (r : Row sz h v L) (hl : L ≠ []) : blk v < h.length := by
 rcases r.is with ⟨_, rfl⟩ | ⟨b, a, f, d, c, g, rfl, e, _⟩
 ·exact absurd rfl hl
 ·exact (GI.1 e).1
theorem cells (r : Row sz h v L) : cellsOf sz v h = some (L.length, L.flatten) := by
 rcases r.is with ⟨rfl, rfl⟩ | ⟨b, d, l, f, c, m, rfl, g, e, j, a⟩
 ·rfl
 ·simp [cellsOf, g, e, j]
end Row
def atI {α : Type} [Inhabited α] (l : List α) (i : Int) : α := l.getD i.toNat default
theorem Yc {α : Type} [Inhabited α] (enc : α → List Value) (l : List α) (i : Int) (h1 : 0 ≤ i) (h2 : i < l.length) : (l.map enc).getD i.toNat [] = enc (atI l i) := by
 unfold atI
 rw [List.getD_eq_getElem?_getD, List.getD_eq_getElem?_getD, List.getElem?_map, List.getElem?_eq_getElem (by omega)]; rfl
def Rd {α : Type} (sz : Nat) (enc : α → List Value) (h : Aa) (v : Value) (l : List α) : Prop := Row sz h v (l.map enc)
namespace Rd
variable {α : Type} {sz : Nat} {enc : α → List Value} {h : Aa} {v : Value} {l : List α}
theorem few (r : Rd sz enc h v l) : l.length < 1152921504606846976 := by have := Row.few r; simpa using this
theorem len (r : Rd sz enc h v l) : Rf false v = some (.int .i64 l.length) := by rw [Row.len r]; simp
theorem ixs (r : Rd sz enc h v l) (k : IntKind) (i : Int) (h1 : 0 ≤ i) (h2 : i < l.length) : Apr sz v (.int k i) = some (.pointer (some ⟨blk v, ofs v + i.toNat * sz, none⟩)) := Row.ixs r k i h1 (by simpa using h2)
theorem ld [Inhabited α] (r : Rd sz enc h v l) (i : Int) (fo : Nat) (h1 : 0 ≤ i) (h2 : i < l.length) (hf : fo < sz) : ldO h[blk v]? (ofs v + i.toNat * sz + fo) none = some ((enc (atI l i)).getD fo undef) := by
 rw [Row.ld r i fo h1 (by simpa using h2) hf, Yc _ _ _ h1 h2]
theorem ld0 [Inhabited α] (r : Rd sz enc h v l) (i : Int) (h1 : 0 ≤ i) (h2 : i < l.length) (hf : 0 < sz) : ldO h[blk v]? (ofs v + i.toNat * sz) none = some ((enc (atI l i)).getD 0 undef) := r.ld i 0 h1 h2 hf
theorem lda [Inhabited α] (r : Rd sz enc h v l) (i : Int) (h1 : 0 ≤ i) (h2 : i < l.length) (hf : 0 < sz) : ldO h[blk v]? (ofs v + i.toNat * sz) (some sz) = some (.agg (enc (atI l i)).toArray) := by
 rw [Row.lda r i h1 (by simpa using h2) hf, Yc _ _ _ h1 h2]
theorem app (r : Rd sz enc h v l) (x : Aa) : Rd sz enc (h ++ x) v l := Row.app r x
theorem ext (r : Rd sz enc h v l) {h' : Aa} (hx : ∀ (b : Nat) (o : LObj), h[b]? = some o → o ≠ LObj.dead → h'[b]? = some o) : Rd sz enc h' v l := Row.ext r hx
theorem set (r : Rd sz enc h v l) {b : Nat} {o : LObj} (hb : b ≠ blk v) : Rd sz enc (h.set b o) v l := Row.set r hb
end Rd
end Go.L
