/- A LOGIC OVER THE LOGICAL MACHINE: answers with a postcondition, and the rules by which a function's instructions are run within 'simp'. -/
import Derived.Test.YtifnlcajancfdaaGreatDoorK
set_option linter.unusedVariables false
set_option linter.unusedSimpArgs false
namespace Go.L
open Go
inductive Mk {β : Type} (b : β) : Type | mk
inductive Mk2 (A B : Prop) : Type | mk
def WX {α : Type} (W : Nat → Prop) (x : Option (α × Heap × List Nat)) (Q : α → Heap → Prop) (t : Mk Q := .mk) : Prop := ∃ a h ws, x = some (a, h, ws) ∧ (∀ b ∈ ws, W b) ∧ Q a h
def W1 {α : Type} (x : Option α) (Q : α → Prop) (t : Mk Q := .mk) : Prop := ∃ v, x = some v ∧ Q v
def WO (W : Nat → Prop) (x : Out) (Q : Ex → Fr → Heap → Prop) (t : Mk Q := .mk) : Prop := ∃ e fr h ws, x = some (e, fr, h, ws) ∧ (∀ b ∈ ws, W b) ∧ Q e fr h
def WH (W : Nat → Prop) (x : Option (Heap × List Nat)) (Q : Heap → Prop) (t : Mk Q := .mk) : Prop := ∃ h ws, x = some (h, ws) ∧ (∀ b ∈ ws, W b) ∧ Q h
def WF {α : Type} (x : α) (Q : α → Prop) (t : Mk Q := .mk) : Prop := Q x
theorem WF_eq {α : Type} {x : α} {Q : α → Prop} : WF x Q = Q x := id rfl
def WC (v : Value) (A B : Prop) (t : Mk2 A B := .mk) : Prop := ∃ b, v = .bool b ∧ (b = true → A) ∧ (b = false → B)
def WG (v : Value) (want : Bool) (A B : Prop) (t : Mk2 A B := .mk) : Prop := match v with
  | .bool b => if b = want then A else B
  | .tuple vs => vs.isEmpty = true ∧ B
  | _ => False
theorem W1_some {α : Type} {v : α} {Q : α → Prop} : W1 (some v) Q = Q v := by simp [W1]
theorem WX_some {α : Type} {W : Nat → Prop} {a : α} {h : Heap} {Q : α → Heap → Prop} : WX W (some (a, h, [])) Q = Q a h :=
  propext ⟨fun ⟨_, _, _, e, _, hq⟩ => by cases e; exact hq, fun hq => ⟨_, _, _, rfl, ⟨(fun x hb => nomatch hb), hq⟩⟩⟩
theorem WX_some1 {α : Type} {W : Nat → Prop} {a : α} {h : Heap} {b : Nat} {Q : α → Heap → Prop} : WX W (some (a, h, [b])) Q = (W b ∧ Q a h) :=
  propext ⟨fun ⟨_, _, _, e, hw, hq⟩ => by cases e; exact ⟨hw _ (List.mem_singleton.2 rfl), hq⟩, fun hq => ⟨_, _, _, rfl, fun x hb => by rw [List.mem_singleton.1 hb]; exact hq.1, hq.2⟩⟩
theorem WH_some1 {W : Nat → Prop} {h : Heap} {b : Nat} {Q : Heap → Prop} : WH W (some (h, [b])) Q = (W b ∧ Q h) :=
  propext ⟨fun ⟨_, _, e, hw, hq⟩ => by cases e; exact ⟨hw _ (List.mem_singleton.2 rfl), hq⟩, fun hq => ⟨_, _, rfl, fun x hb => by rw [List.mem_singleton.1 hb]; exact hq.1, hq.2⟩⟩
theorem WO_some {W : Nat → Prop} {e : Ex} {fr : Fr} {h : Heap} {Q : Ex → Fr → Heap → Prop} : WO W (some (e, fr, h, [])) Q = Q e fr h :=
  propext ⟨fun ⟨_, _, _, _, e, _, hq⟩ => by cases e; exact hq, fun hq => ⟨_, _, _, _, rfl, ⟨(fun x hb => nomatch hb), hq⟩⟩⟩
theorem WC_true {A B : Prop} : WC (.bool true) A B = A := by simp [WC]
theorem WC_false {A B : Prop} : WC (.bool false) A B = B := by simp [WC]
theorem WC_dec {p : Prop} [Decidable p] {A B : Prop} (ha : p → A) (hb : ¬ p → B) : WC (.bool (decide p)) A B := by
  refine ⟨_, rfl, fun h => ha (by simpa using h), fun h => hb (by simpa using h)⟩
theorem WC_bool {b : Bool} {A B : Prop} (ha : b = true → A) (hb : b = false → B) : WC (.bool b) A B := ⟨_, rfl, ha, hb⟩
theorem WG_true {A B : Prop} : WG (.bool true) true A B = A := by simp [WG]
theorem WG_false {A B : Prop} : WG (.bool false) false A B = A := by simp [WG]
theorem WG_tf {A B : Prop} : WG (.bool true) false A B = B := by simp [WG]
theorem WG_ft {A B : Prop} : WG (.bool false) true A B = B := by simp [WG]
theorem WG_undef {A B : Prop} {b : Bool} : WG undef b A B = B := by simp [WG, undef]
theorem WG_dec {p : Prop} [Decidable p] {A B : Prop} (ha : p → A) (hb : ¬ p → B) : WG (.bool (decide p)) true A B := by
  by_cases h : p <;> simp [WG, h, ha, hb]
theorem WG_decF {p : Prop} [Decidable p] {A B : Prop} (ha : p → B) (hb : ¬ p → A) : WG (.bool (decide p)) false A B := by
  by_cases h : p <;> simp [WG, h, ha, hb]
theorem WG_bool {b : Bool} {A B : Prop} (ha : b = true → A) (hb : b = false → B) : WG (.bool b) true A B := by
  cases b <;> simp [WG, ha, hb]
theorem WG_boolF {b : Bool} {A B : Prop} (ha : b = true → B) (hb : b = false → A) : WG (.bool b) false A B := by
  cases b <;> simp [WG, ha, hb]
theorem WX.mono {α : Type} {W W' : Nat → Prop} {x : Option (α × Heap × List Nat)} {Q Q' : α → Heap → Prop} (h : WX W x Q) (hw : ∀ b, W b → W' b) (hq : ∀ a h, Q a h → Q' a h) : WX W' x Q' := by
  obtain ⟨a, h, ws, rfl, h1, h2⟩ := h; exact ⟨a, h, ws, rfl, fun b hb => hw b (h1 b hb), hq _ _ h2⟩
theorem WO.mono {W W' : Nat → Prop} {x : Out} {Q Q' : Ex → Fr → Heap → Prop} (h : WO W x Q) (hw : ∀ b, W b → W' b) (hq : ∀ e f h, Q e f h → Q' e f h) : WO W' x Q' := by
  obtain ⟨a, f, h, ws, rfl, h1, h2⟩ := h; exact ⟨a, f, h, ws, rfl, fun b hb => hw b (h1 b hb), hq _ _ _ h2⟩
theorem W1.mono {α : Type} {x : Option α} {Q Q' : α → Prop} (h : W1 x Q) (hq : ∀ a, Q a → Q' a) : W1 x Q' := by
  obtain ⟨a, rfl, h2⟩ := h; exact ⟨a, rfl, hq _ h2⟩
@[reducible] def i (d : Nat) (o : O) : Ins := ⟨some d, none, o, false, 0, false⟩
@[reducible] def k (o : O) : Ins := ⟨none, none, o, false, 0, false⟩
@[reducible] def w (d g : Nat) (b : Bool) (o : O) : Ins := ⟨some d, some (g, b), o, false, 0, false⟩
variable {W : Nat → Prop} {cf : CallT} {f : FF} {h : Heap} {r : List Ins}
def bindX {α β : Type} (x : Option (α × Heap × List Nat)) (k : α → Heap → Option (β × Heap × List Nat)) : Option (β × Heap × List Nat) := match x with
  | some (v, h', ws) => addw ws (k v h')
  | none => none
theorem WX_bind {α β : Type} {x : Option (α × Heap × List Nat)} {k : α → Heap → Option (β × Heap × List Nat)} {Q : β → Heap → Prop} :
    WX W (bindX x k) Q = WX W x (fun v h' => WX W (k v h') Q) := by
  apply propext
  constructor
  · rintro ⟨a, h, ws, e, hw, hq⟩
    unfold bindX at e
    split at e
    · rename_i v h' ws1
      cases hk : k v h' with
      | none => rw [hk] at e; simp [addw] at e
      | some t =>
        obtain ⟨a2, h2, ws2⟩ := t
        rw [hk] at e
        simp only [addw, Option.some.injEq, Prod.mk.injEq] at e
        obtain ⟨rfl, rfl, rfl⟩ := e
        exact ⟨v, h', ws1, rfl, fun b hb => hw b (by simp [hb]), _, _, ws2, hk, fun b hb => hw b (by simp [hb]), hq⟩
    · cases e
  · rintro ⟨a, h, ws, rfl, hw, a2, h2, ws2, hk, hw2, hq⟩
    refine ⟨a2, h2, ws ++ ws2, ?_, fun b hb => ?_, hq⟩
    · simp only [bindX, hk]; rfl
    · rcases List.mem_append.1 hb with hb | hb
      · exact hw b hb
      · exact hw2 b hb
theorem run_nil {Q : FF → Heap → Prop} : WX W (runN cf [] f h) Q = Q f h := WX_some
theorem run_i {d : Nat} {o : O} {Q : FF → Heap → Prop} : WX W (runN cf (⟨some d, none, o, false, 0, false⟩ :: r) f h) Q = WX W (opN cf f h o) (fun v h' => WX W (runN cf r (upd f d v) h') Q) := by
  simp only [runN, wanted, putD]; rw [← WX_bind (k := fun v h' => runN cf r (upd f d v) h')]; congr 1; cases opN cf f h o <;> rfl
theorem run_k {o : O} {Q : FF → Heap → Prop} : WX W (runN cf (⟨none, none, o, false, 0, false⟩ :: r) f h) Q = WX W (opN cf f h o) (fun _ h' => WX W (runN cf r f h') Q) := by
  simp only [runN, wanted, putD]; rw [← WX_bind (k := fun _ h' => runN cf r f h')]; congr 1; cases opN cf f h o <;> rfl
theorem run_w {d g : Nat} {b : Bool} {o : O} {Q : FF → Heap → Prop} : WX W (runN cf (⟨some d, some (g, b), o, false, 0, false⟩ :: r) f h) Q = WG (f g) b (WX W (opN cf f h o) (fun v h' => WX W (runN cf r (upd f d v) h') Q)) (WX W (runN cf r (upd f d undef) h) Q) := by
  simp only [runN, wanted, putD]
  unfold WG
  cases hg : f g <;> simp only [] <;> try (apply propext; constructor <;> (first | (rintro ⟨_, _, _, e, _⟩; cases e) | (intro h; exact h.elim)))
  · rename_i b'
    by_cases hb : b' = b
    · subst hb; simp only [beq_self_eq_true, if_true]; rw [← WX_bind (k := fun v h' => runN cf r (upd f d v) h')]; congr 1; cases opN cf f h o <;> rfl
    · have : (b' == b) = false := by simpa using hb
      simp [this, hb]
  · rename_i vs
    cases hv : vs.isEmpty
    · simp only [Bool.false_eq_true, false_and]
      apply propext
      constructor
      · rintro ⟨_, _, _, e, _⟩; cases e
      · intro h; exact h.elim
    · simp
theorem run_wk {g : Nat} {b : Bool} {o : O} {Q : FF → Heap → Prop} : WX W (runN cf (⟨none, some (g, b), o, false, 0, false⟩ :: r) f h) Q = WG (f g) b (WX W (opN cf f h o) (fun v h' => WX W (runN cf r f h') Q)) (WX W (runN cf r f h) Q) := by
  simp only [runN, wanted, putD]
  unfold WG
  cases hg : f g <;> simp only [] <;> try (apply propext; constructor <;> (first | (rintro ⟨_, _, _, e, _⟩; cases e) | (intro h; exact h.elim)))
  · rename_i b'
    by_cases hb : b' = b
    · subst hb; simp only [beq_self_eq_true, if_true]; rw [← WX_bind (k := fun _ h' => runN cf r f h')]; congr 1; cases opN cf f h o <;> rfl
    · have : (b' == b) = false := by simpa using hb
      simp [this, hb]
  · rename_i vs
    cases hv : vs.isEmpty
    · simp only [Bool.false_eq_true, false_and]
      apply propext
      constructor
      · rintro ⟨_, _, _, e, _⟩; cases e
      · intro h; exact h.elim
    · simp
theorem W1_some' {α : Type} {v : α} {p : Prop} {Q : α → Prop} (h : p = Q v) : p = W1 (some v) Q := by rw [W1_some, h]
theorem op_P {o : O} {Q : Value → Heap → Prop} (hc : cls o = .P) : WX W (opN cf f h o) Q = W1 (pureV f o) (fun v => Q v h) := by
  unfold opN; rw [hc]; dsimp only
  cases pureV f o with
  | none => apply propext; constructor <;> rintro ⟨_, h⟩ <;> simp at h
  | some v => exact WX_some.trans (W1_some' rfl)
theorem op_M {o : O} {Q : Value → Heap → Prop} (hc : cls o = .M) : WX W (opN cf f h o) Q = W1 (memV f h o) (fun v => Q v h) := by
  unfold opN; rw [hc]; dsimp only
  cases memV f h o with
  | none => apply propext; constructor <;> rintro ⟨_, h⟩ <;> simp at h
  | some v => exact WX_some.trans (W1_some' rfl)
theorem op_A {o : O} {Q : Value → Heap → Prop} (hc : cls o = .A) : WX W (opN cf f h o) Q = W1 (newV f o) (fun n => WF (n.2 h.length) (fun v => WF (h ++ [n.1]) (fun h' => Q v h'))) := by
  unfold opN; rw [hc]; dsimp only
  cases newV f o with
  | none => apply propext; constructor <;> rintro ⟨_, h⟩ <;> simp at h
  | some v => exact WX_some.trans (W1_some' rfl)
theorem op_E {o : O} {Q : Value → Heap → Prop} (hc : cls o = .E) : WX W (opN cf f h o) Q = WX W (effV f h o) Q := by
  unfold opN; rw [hc]
theorem op_st {n : Nat} {a v : X} {Q : Value → Heap → Prop} : WX W (opN cf f h (.st n a v)) Q = WH W (storeV n (ev f a) (ev f v) h) (fun h' => Q undef h') := by
  unfold opN; simp only [cls]
  cases storeV n (ev f a) (ev f v) h with
  | none => apply propext; constructor <;> rintro ⟨_, _, h⟩ <;> simp at h
  | some v => obtain ⟨h', ws⟩ := v; exact propext ⟨fun ⟨_, _, _, e, hw, hq⟩ => by cases e; exact ⟨_, _, rfl, hw, hq⟩, fun ⟨_, _, e, hw, hq⟩ => by cases e; exact ⟨_, _, _, rfl, hw, hq⟩⟩
theorem op_call {g : X} {args : List X} {Q : Value → Heap → Prop} : WX W (opN cf f h (.call g args)) Q = WX W (cf (ev f g) (args.map (ev f)) h) Q := rfl
variable {it : It} {sz : Nat} {fr : Fr}
theorem WO_thenN {x : Out} {k : Fr → Heap → Out} {Q : Ex → Fr → Heap → Prop} : WO W (thenN x k) Q = WO W x (fun e fr' h' => match e with | .normal => WO W (k fr' h') Q | e => Q e fr' h') := by
  apply propext
  constructor
  · rintro ⟨e, fr', h', ws, hx, hw, hq⟩
    simp only [thenN] at hx
    split at hx
    · rename_i fr1 h1 ws1
      split at hx
      · rename_i e2 fr2 h2 ws2 hk
        simp only [Option.some.injEq, Prod.mk.injEq] at hx
        obtain ⟨rfl, rfl, rfl, rfl⟩ := hx
        exact ⟨_, _, _, _, rfl, fun b hb => hw b (by simp [hb]), _, _, _, _, hk, fun b hb => hw b (by simp [hb]), hq⟩
      · cases hx
    · rename_i hn
      subst hx
      refine ⟨_, _, _, _, rfl, hw, ?_⟩
      cases e with
      | normal => exact absurd rfl (hn _ _ _)
      | exit _ => exact hq
      | ret => exact hq
  · rintro ⟨e, fr', h', ws, rfl, hw, hq⟩
    cases e with
    | normal =>
      obtain ⟨e2, fr2, h2, ws2, hk, hw2, hq⟩ := hq
      refine ⟨e2, fr2, h2, ws ++ ws2, by simp only [thenN, hk], fun b hb => ?_, hq⟩
      rcases List.mem_append.1 hb with hb | hb
      · exact hw b hb
      · exact hw2 b hb
    | exit _ => exact ⟨_, _, _, _, rfl, hw, hq⟩
    | ret => exact ⟨_, _, _, _, rfl, hw, hq⟩
theorem co_seq {a b : C} {Q : Ex → Fr → Heap → Prop} : WO W (code cf it sz (.seq a b) fr h) Q = WO W (code cf it sz a fr h) (fun e fr' h' => match e with | .normal => WO W (code cf it sz b fr' h') Q | e => Q e fr' h') := WO_thenN
theorem co_skip {Q : Ex → Fr → Heap → Prop} : WO W (code cf it sz .skip fr h) Q = Q .normal fr h := WO_some
theorem co_exit {id : Nat} {Q : Ex → Fr → Heap → Prop} : WO W (code cf it sz (.exit id) fr h) Q = Q (.exit id) fr h := WO_some
theorem co_ret {Q : Ex → Fr → Heap → Prop} : WO W (code cf it sz .ret fr h) Q = Q .ret fr h := WO_some
def frm (live : List Nat) (f : FF) : Fr := live.map fun s => (s, f s)
theorem frm_nil {f : FF} : frm [] f = [] := id rfl
theorem frm_cons {s : Nat} {l : List Nat} {f : FF} : frm (s :: l) f = (s, f s) :: frm l f := id rfl
theorem WO_reg {live : List Nat} {x : Option (FF × Heap × List Nat)} {Q : Ex → Fr → Heap → Prop} : WO W (regO live x) Q = WX W x (fun f h' => WF (frm live f) (fun fr' => Q .normal fr' h')) := by
  cases x with
  | none => apply propext; constructor <;> rintro ⟨_, _, _, h⟩ <;> simp [regO] at h
  | some v => obtain ⟨f, h, ws⟩ := v; exact propext ⟨fun ⟨_, _, _, _, e, hw, hq⟩ => by cases e; exact ⟨_, _, _, rfl, hw, hq⟩, fun ⟨_, _, _, e, hw, hq⟩ => by cases e; exact ⟨_, _, _, _, rfl, hw, hq⟩⟩
theorem co_reg {live : List Nat} {ins : List Ins} {Q : Ex → Fr → Heap → Prop} : WO W (code cf it sz (.reg live ins) fr h) Q = WX W (runN cf ins (get fr) h) (fun f h' => WF (frm live f) (fun fr' => Q .normal fr' h')) := WO_reg
theorem co_drw {live : List Nat} {n : Nat} {ins : List Ins} {Q : Ex → Fr → Heap → Prop} : WO W (code cf it sz (.drw live n ins) fr h) Q = WX W (runD cf h.length ins (get fr) (room h n)) (fun f h' => WF (frm live f) (fun fr' => Q .normal fr' h')) := WO_reg
theorem co_cond {x : X} {a b : C} {Q : Ex → Fr → Heap → Prop} : WO W (code cf it sz (.cond x a b) fr h) Q = WC (ev (get fr) x) (WO W (code cf it sz a fr h) Q) (WO W (code cf it sz b fr h) Q) := by
  have e : code cf it sz (.cond x a b) fr h = condO (ev (get fr) x) (code cf it sz a fr h) (code cf it sz b fr h) := rfl
  rw [e]
  apply propext
  unfold condO WC
  constructor
  · intro hq
    split at hq
    · rename_i t ht
      refine ⟨_, ht, ?_, ?_⟩
      · intro e; simpa [e] using hq
      · intro e; simpa [e] using hq
    · obtain ⟨_, _, _, _, e, _⟩ := hq; cases e
  · rintro ⟨t, ht, h1, h2⟩
    rw [ht]
    cases t
    · exact h2 rfl
    · exact h1 rfl
theorem WO_inBlock {id : Nat} {x : Out} {Q : Ex → Fr → Heap → Prop} : WO W (inBlock id x) Q = WO W x (fun e fr' h' => match e with | .exit j => if j = id then Q .normal fr' h' else Q (.exit j) fr' h' | e => Q e fr' h') := by
  apply propext
  cases x with
  | none => constructor <;> rintro ⟨_, _, _, _, h, _⟩ <;> simp [inBlock] at h
  | some t =>
    obtain ⟨e, fr, h, ws⟩ := t
    cases e with
    | exit j =>
      by_cases hj : j = id
      · simp only [inBlock, hj, if_true]
        exact ⟨fun ⟨_, _, _, _, e, hw, hq⟩ => by cases e; exact ⟨_, _, _, _, rfl, hw, by simpa [hj] using hq⟩, fun ⟨_, _, _, _, e, hw, hq⟩ => by cases e; exact ⟨_, _, _, _, rfl, hw, by simpa [hj] using hq⟩⟩
      · simp only [inBlock, hj, if_false]
        exact ⟨fun ⟨_, _, _, _, e, hw, hq⟩ => by cases e; exact ⟨_, _, _, _, rfl, hw, by simpa [hj] using hq⟩, fun ⟨_, _, _, _, e, hw, hq⟩ => by cases e; exact ⟨_, _, _, _, rfl, hw, by simpa [hj] using hq⟩⟩
    | normal => exact ⟨fun ⟨_, _, _, _, e, hw, hq⟩ => by cases e; exact ⟨_, _, _, _, rfl, hw, hq⟩, fun ⟨_, _, _, _, e, hw, hq⟩ => by cases e; exact ⟨_, _, _, _, rfl, hw, hq⟩⟩
    | ret => exact ⟨fun ⟨_, _, _, _, e, hw, hq⟩ => by cases e; exact ⟨_, _, _, _, rfl, hw, hq⟩, fun ⟨_, _, _, _, e, hw, hq⟩ => by cases e; exact ⟨_, _, _, _, rfl, hw, hq⟩⟩
theorem co_block {id : Nat} {b : C} {Q : Ex → Fr → Heap → Prop} : WO W (code cf it sz (.block id b) fr h) Q = WO W (code cf it sz b fr h) (fun e fr' h' => match e with | .exit j => if j = id then Q .normal fr' h' else Q (.exit j) fr' h' | e => Q e fr' h') := WO_inBlock
theorem co_loop {b : C} {Q : Ex → Fr → Heap → Prop} : WO W (code cf it sz (.loop b) fr h) Q = WO W (it (code cf it sz b) fr h) Q := rfl
def Next {α : Type} (I : α → Fr → Heap → Prop) (μ : α → Nat) (a : α) (fr : Fr) (h : Heap) (t : Mk (I, μ, a) := .mk) : Prop := ∃ a', I a' fr h ∧ μ a' < μ a
theorem Next.mk {α : Type} {I : α → Fr → Heap → Prop} {μ : α → Nat} {a : α} {fr : Fr} {h : Heap} (a' : α) (hi : I a' fr h) (hm : μ a' < μ a) : Next I μ a fr h := ⟨a', hi, hm⟩
theorem WO.loop {α : Type} (I : α → Fr → Heap → Prop) (μ : α → Nat) {F : Fr → Heap → Out} {Q : Ex → Fr → Heap → Prop}
    (step : ∀ a fr h, I a fr h → WO W (F fr h) (fun e fr' h' => match e with | .normal => Next I μ a fr' h' | e => Q e fr' h')) :
    ∀ (a : α) {fr : Fr} {h : Heap}, I a fr h → WO W (iterW F fr h) Q := by
  have key : ∀ n a fr h, μ a ≤ n → I a fr h → WO W (iterW F fr h) Q := by
    intro n
    induction n with
    | zero =>
      intro a fr h hm hi
      rw [iterW_eq, WO_thenN]
      refine (step a fr h hi).mono (fun _ h => h) fun e f h hq => ?_
      cases e with
      | normal => obtain ⟨a', _, hl⟩ := hq; omega
      | exit _ => exact hq
      | ret => exact hq
    | succ n ih =>
      intro a fr h hm hi
      rw [iterW_eq, WO_thenN]
      refine (step a fr h hi).mono (fun _ h => h) fun e f h hq => ?_
      cases e with
      | normal => obtain ⟨a', hi', hl⟩ := hq; exact ih a' f h (by omega) hi'
      | exit _ => exact hq
      | ret => exact hq
  intro a fr h hi
  exact key (μ a) a fr h (Nat.le_refl _) hi
theorem callW_text {E : Env} {g : FuncId} {c : FnC} (hf : E g = .text c) (args : List Value) (h : Heap) : callW E (.func (.func g) #[] #[]) args h = callF (callW E) iterW (.text c) args h := by
  rw [callW_eq]; simp [callG, hf]
theorem callW_func {E : Env} {g : FuncId} {c : FnC} (hf : E g = .text c) (a b : Array Value) (args : List Value) (h : Heap) : callW E (.func (.func g) a b) args h = callF (callW E) iterW (.text c) (a.toList ++ args ++ b.toList) h := by
  rw [callW_eq]; simp [callG, hf]
def Res (res : List R) (Q : Value → Heap → Prop) (e : Ex) (fr : Fr) (h : Heap) : Prop := match e with
  | .exit _ => False
  | _ => W1 (resL fr h res) fun vs => Q (resV vs) h
theorem Res_ret {res : List R} {Q : Value → Heap → Prop} {fr : Fr} {h : Heap} : Res res Q .ret fr h = W1 (resL fr h res) fun vs => Q (resV vs) h := rfl
theorem Res_normal {res : List R} {Q : Value → Heap → Prop} {fr : Fr} {h : Heap} : Res res Q .normal fr h = W1 (resL fr h res) fun vs => Q (resV vs) h := rfl
theorem filter_none {ws : List Nat} {m : Nat} (h : ∀ b ∈ ws, m ≤ b) : ws.filter (fun b => decide (b < m)) = [] := by
  rw [List.filter_eq_nil_iff]; intro b hb; have := h b hb; simp; omega
theorem fn_same {E : Env} {g : FuncId} {c : FnC} (hE : E g = .text c) {sz : Nat} {res : List R} {body : C} (hc : c = ⟨sz, res, body⟩) {args : List Value} {h : Heap} {v : Value} (hl : args.length ≤ sz)
    (hb : WO (fun b => h.length ≤ b) (code (callW E) iterW sz body (argsF args 0) h) (Res res fun v' _ => noNew h.length 4 v = true ∧ v' = v)) :
    callW E (.func (.func g) #[] #[]) args h = some (v, h, []) := by
  subst hc
  rw [callW_text hE]
  obtain ⟨e, fr, h', ws, he, hw, hq⟩ := hb
  have hfin : ∀ e', Res res (fun v' _ => noNew h.length 4 v = true ∧ v' = v) e' fr h' → fin res h (some (e', fr, h', ws)) = some (v, h, []) := by
    intro e' hr
    cases e' with
    | exit _ => exact hr.elim
    | normal => obtain ⟨vs, h1, h2, rfl⟩ := hr; simp [fin, h1, gc, filter_none hw, h2]
    | ret => obtain ⟨vs, h1, h2, rfl⟩ := hr; simp [fin, h1, gc, filter_none hw, h2]
  simp only [callF, hl, if_true]
  rw [he]
  exact hfin e hq
theorem callW_textK {E : Env} {g : FuncId} {c : FnC} (hf : E g = .textK c) (a b : Array Value) (args : List Value) (h : Heap) : callW E (.func (.func g) a b) args h = callF (callW E) iterW (.textK c) (a.toList ++ args ++ b.toList) h := by
  rw [callW_eq]; simp [callG, hf]
theorem fn_all {E : Env} {g : FuncId} {c : FnC} (hE : E g = .textK c) {sz : Nat} {res : List R} {body : C} (hc : c = ⟨sz, res, body⟩) {a b : Array Value} {args : List Value} {h : Heap} {W : Nat → Prop} {Q : Value → Heap → Prop} (hl : (a.toList ++ args ++ b.toList).length ≤ sz)
    (hb : WO W (code (callW E) iterW sz body (argsF (a.toList ++ args ++ b.toList) 0) h) (Res res Q)) : WX W (callW E (.func (.func g) a b) args h) Q := by
  subst hc
  rw [callW_textK hE]
  obtain ⟨e, fr, h', ws, he, hw, hq⟩ := hb
  simp only [callF, hl, if_true]
  rw [he]
  cases e with
  | exit _ => exact hq.elim
  | normal => obtain ⟨vs, h1, h2⟩ := hq; exact ⟨_, _, _, by simp [finK, h1], hw, h2⟩
  | ret => obtain ⟨vs, h1, h2⟩ := hq; exact ⟨_, _, _, by simp [finK, h1], hw, h2⟩
end Go.L
namespace Go.L
open Go
def pickV (c a b : Value) : Option Value := match c with | .bool t => some (if t then a else b) | _ => none
def cviV (k : IntKind) (x : Value) : Option Value := match x with | .int _ n => some (.int k (k.wrap n)) | _ => none
def cvsV (x : Value) : Option Value := match x with | .string s => some (.string s) | _ => none
def fldV (off : Nat) (x : Value) : Option Value := match x with | .pointer (some a) => some (.pointer (some ⟨a.block, a.off + off, none⟩)) | _ => none
def fofV (off : Nat) (agg : Option Nat) (x : Value) : Option Value := match x with | .agg cs => part cs.toList off agg | _ => none
def ixaV (n size : Nat) (x i : Value) : Option Value := match x with | .pointer (some a) => addrOf size n a i | _ => none
def ixsV (size : Nat) (x i : Value) : Option Value := match x with | .slice (some a) n _ => addrOf size n a i | _ => none
def ixvV (n size : Nat) (agg : Option Nat) (x i : Value) : Option Value := match x, i with
    | .agg cs, .int _ j => if 0 ≤ j ∧ j < n then part cs.toList (j.toNat * size) agg else none
    | _, _ => none
def ixtV (x i : Value) : Option Value := match x, i with
    | .string s, .int _ j => if 0 ≤ j then (s[j.toNat]?).map fun b => .int .u8 b.toNat else none
    | _, _ => none
def boundV (x : Option Value) (dflt high : Nat) : Option Nat := match x with
  | none => some dflt
  | some (.int _ i) => if 0 ≤ i ∧ i ≤ high then some i.toNat else none
  | some _ => none
theorem bound_eq (f : FF) (x : Option X) (d h : Nat) : bound f x d h = boundV (x.map (ev f)) d h := by
  cases x with
  | none => rfl
  | some x =>
    show (match ev f x with | .int _ i => if 0 ≤ i ∧ i ≤ h then some i.toNat else none | _ => none) = boundV (some (ev f x)) d h
    unfold boundV
    cases ev f x <;> rfl
def sltV (x : Value) (lo hi : Option Value) : Option Value := match x with
    | .string s => (boundV hi s.size s.size).bind fun h => (boundV lo 0 h).bind fun l => some (.string (s.extract l h))
    | _ => none
def slsV (size : Nat) (x : Value) (lo hi mx : Option Value) : Option Value :=
  match x with
  | .slice none 0 0 => if mx.isSome ∧ hi.isNone then none else
    (boundV mx 0 0).bind fun m => (boundV hi 0 m).bind fun h => (boundV lo 0 h).bind fun _ => some (.slice none 0 0)
  | .slice (some a) n cap =>
    match mx with
    | some _ => match hi with
      | none => none
      | some _ => (boundV mx 0 cap).bind fun m => (boundV hi 0 m).bind fun h => (boundV lo 0 h).bind fun l =>
        some (.slice (some ⟨a.block, a.off + l * size, none⟩) (h - l) (m - l))
    | none => match a.spot with
      | none => (boundV hi n cap).bind fun h => (boundV lo 0 h).bind fun l =>
          if h ≤ cap then some (.slice (some ⟨a.block, a.off + l * size, none⟩) (h - l) (cap - l)) else none
      | some s => if s = size then (boundV hi n n).bind fun h => (boundV lo 0 h).bind fun l =>
          some (.slice (some ⟨a.block, a.off + l * size, some s⟩) (h - l) (h - l)) else none
  | _ => none
def slaV (n size : Nat) (x : Value) (lo hi : Option Value) : Option Value := match x with
    | .pointer (some a) => (boundV hi n n).bind fun h => (boundV lo 0 h).bind fun l => some (.slice (some ⟨a.block, a.off + l * size, none⟩) (h - l) (n - l))
    | _ => none
def nilV (x : Value) : Option Value := match x with
    | .pointer (some a) => some (.pointer (some a))
    | .func (.func g) a b => some (.func (.func g) a b)
    | _ => none
def extV (x : Value) (i : Nat) : Option Value := match x with
    | .tuple vs => match vs.toList[i]? with
      | some v => if noTuple v then some v else none
      | none => none
    | _ => none
def lensV (text : Bool) (x : Value) : Option Value := match text, x with
    | true, .string s => some (.int .i64 s.size)
    | false, .slice _ n _ => some (.int .i64 n)
    | _, _ => none
def fillV : List (Nat × Nat × Value) → List Value → Option (List Value)
  | [], c => some c
  | (off, n, x) :: r, c => if (cellsV x).length = n ∧ off + n ≤ c.length ∧ (cellsV x).all oneCell then fillV r (setCells c off (cellsV x)) else none
theorem fill_eq (f : FF) : ∀ (l : List (Nat × Nat × X)) (c : List Value), fillC f l c = fillV (l.map fun p => (p.1, p.2.1, ev f p.2.2)) c
  | [], c => rfl
  | (off, n, x) :: r, c => by simp only [fillC, fillV, List.map_cons, fill_eq f r]
theorem sls_eq (f : FF) (size : Nat) (x : Value) (lo hi mx : Option X) : sliceS f size x lo hi mx = slsV size x (lo.map (ev f)) (hi.map (ev f)) (mx.map (ev f)) := by
  unfold sliceS slsV
  simp only [bound_eq, Option.isSome_map, Option.isNone_map]
  cases mx <;> cases hi <;> rfl
def lenmV (x : Value) (h : Heap) : Option Value := match x with
    | .map none => some (.int .i64 0)
    | .map (some r) => match h[r]? with
      | some (.map es) => some (.int .i64 es.length)
      | _ => none
    | _ => none
def b2sV (x : Value) (h : Heap) : Option Value := match x with
    | .slice _ _ _ => match cellsOf 1 x h with
      | some (_, c) => (bytesOf c).map fun b => .string ⟨b.toArray⟩
      | none => none
    | _ => none
def bslV (size : Nat) (zero : List Value) (n : Nat) (ps : List (Nat × Nat × Value)) : Option New :=
  if n * size ≤ 16777216 then (fillV ps (List.replicate n zero).flatten).bind fun c => newCells c fun b => .slice (some ⟨b, 0, none⟩) n n else none
def mslV (zero : List Value) (bytes : Nat) (n c : Value) : Option New := match n, c with
    | .int .i64 n, .int .i64 c =>
      if 0 ≤ n ∧ n ≤ c ∧ bytes * c ≤ 140737488355328 ∧ c < 9223372036854775808 then
        newCells (List.replicate c.toNat zero).flatten fun b => .slice (some ⟨b, 0, none⟩) n.toNat c.toNat
      else none
    | _, _ => none
def s2bV (x : Value) : Option New := match x with
    | .string s => if s.size < 4611686018427387904 then some (.cells (s.data.toList.map fun b => .int .u8 b.toNat) true, fun b => .slice (some ⟨b, 0, some 1⟩) s.size s.size) else none
    | _ => none
def mupV (q : EqK) (m k v : Value) (h : Heap) : Option (Value × Heap × List Nat) := match m with
    | .map (some r) => match h[r]? with
      | some (.map es) => if keyV q k then (putE q k v es).map fun es' => (undef, h.set r (.map es'), [r]) else none
      | _ => none
    | _ => none
def delV (q : EqK) (m k : Value) (h : Heap) : Option (Value × Heap × List Nat) := match m with
    | .map (some r) => match h[r]? with
      | some (.map es) => if keyV q k then (delE q k es).map fun es' => (.tuple #[], h.set r (.map es'), [r]) else none
      | _ => none
    | _ => none
section
variable {W : Nat → Prop} {cf : CallT} {f : FF} {h : Heap} {r : List Ins} {m d rk : Nat} {g : Option (Nat × Bool)} {fl lz : Bool} {dd : Option Nat}
theorem rd_nil {Q : FF → Heap → Prop} : WX W (runD cf m [] f h) Q = Q f h := WX_some
theorem rd_i {o : O} {Q : FF → Heap → Prop} : WX W (runD cf m (⟨some d, none, o, fl, rk, lz⟩ :: r) f h) Q = WX W (opD cf m f h ⟨some d, none, o, fl, rk, lz⟩) (fun v h' => WX W (runD cf m r (upd f d v) h') Q) := by
  simp only [runD, wanted, putD]; rw [← WX_bind (k := fun v h' => runD cf m r (upd f d v) h')]; congr 1; cases opD cf m f h ⟨some d, none, o, fl, rk, lz⟩ <;> rfl
theorem rd_k {o : O} {Q : FF → Heap → Prop} : WX W (runD cf m (⟨none, none, o, fl, rk, lz⟩ :: r) f h) Q = WX W (opD cf m f h ⟨none, none, o, fl, rk, lz⟩) (fun _ h' => WX W (runD cf m r f h') Q) := by
  simp only [runD, wanted, putD]; rw [← WX_bind (k := fun _ h' => runD cf m r f h')]; congr 1; cases opD cf m f h ⟨none, none, o, fl, rk, lz⟩ <;> rfl
theorem rd_w {g : Nat} {b : Bool} {o : O} {Q : FF → Heap → Prop} : WX W (runD cf m (⟨some d, some (g, b), o, fl, rk, lz⟩ :: r) f h) Q = WG (f g) b (WX W (opD cf m f h ⟨some d, some (g, b), o, fl, rk, lz⟩) (fun v h' => WX W (runD cf m r (upd f d v) h') Q)) (WX W (runD cf m r (upd f d undef) h) Q) := by
  simp only [runD, wanted, putD]
  unfold WG
  cases hg : f g <;> simp only [] <;> try (apply propext; constructor <;> (first | (rintro ⟨_, _, _, e, _⟩; cases e) | (intro h; exact h.elim)))
  · rename_i b'
    by_cases hb : b' = b
    · subst hb; simp only [beq_self_eq_true, if_true]; rw [← WX_bind (k := fun v h' => runD cf m r (upd f d v) h')]; congr 1; cases opD cf m f h ⟨some d, some (g, b'), o, fl, rk, lz⟩ <;> rfl
    · have : (b' == b) = false := by simpa using hb
      simp [this, hb]
  · rename_i vs
    cases hv : vs.isEmpty
    · simp only [Bool.false_eq_true, false_and]
      apply propext
      constructor
      · rintro ⟨_, _, _, e, _⟩; cases e
      · intro h; exact h.elim
    · simp
theorem rd_wk {g : Nat} {b : Bool} {o : O} {Q : FF → Heap → Prop} : WX W (runD cf m (⟨none, some (g, b), o, fl, rk, lz⟩ :: r) f h) Q = WG (f g) b (WX W (opD cf m f h ⟨none, some (g, b), o, fl, rk, lz⟩) (fun _ h' => WX W (runD cf m r f h') Q)) (WX W (runD cf m r f h) Q) := by
  simp only [runD, wanted, putD]
  unfold WG
  cases hg : f g <;> simp only [] <;> try (apply propext; constructor <;> (first | (rintro ⟨_, _, _, e, _⟩; cases e) | (intro h; exact h.elim)))
  · rename_i b'
    by_cases hb : b' = b
    · subst hb; simp only [beq_self_eq_true, if_true]; rw [← WX_bind (k := fun _ h' => runD cf m r f h')]; congr 1; cases opD cf m f h ⟨none, some (g, b'), o, fl, rk, lz⟩ <;> rfl
    · have : (b' == b) = false := by simpa using hb
      simp [this, hb]
  · rename_i vs
    cases hv : vs.isEmpty
    · simp only [Bool.false_eq_true, false_and]
      apply propext
      constructor
      · rintro ⟨_, _, _, e, _⟩; cases e
      · intro h; exact h.elim
    · simp
theorem opd_P {o : O} {Q : Value → Heap → Prop} (hc : cls o = .P) : WX W (opD cf m f h ⟨dd, g, o, fl, rk, lz⟩) Q = W1 (pureV f o) (fun v => Q v h) := by
  unfold opD; dsimp only; rw [hc]; dsimp only
  cases pureV f o with
  | none => apply propext; constructor <;> rintro ⟨_, h⟩ <;> simp at h
  | some v => exact WX_some.trans (W1_some' rfl)
theorem opd_M {o : O} {Q : Value → Heap → Prop} (hc : cls o = .M) : WX W (opD cf m f h ⟨dd, g, o, false, rk, lz⟩) Q = W1 (memV f h o) (fun v => Q v h) := by
  unfold opD; dsimp only; rw [hc]; simp only [Bool.false_eq_true, false_and, if_false]
  cases memV f h o with
  | none => apply propext; constructor <;> rintro ⟨_, h⟩ <;> simp at h
  | some v => exact WX_some.trans (W1_some' rfl)
def WL (m : Nat) (v : Value) (A : Prop) (t : Mk2 A A := .mk) : Prop := low m v = true ∧ A
theorem opd_Mt {o : O} {Q : Value → Heap → Prop} (hc : cls o = .M) : WX W (opD cf m f h ⟨dd, g, o, true, rk, lz⟩) Q = WL m (memX f o) (W1 (memV f h o) (fun v => Q v h)) := by
  unfold opD WL; dsimp only; rw [hc]; simp only [true_and]
  cases hl : low m (memX f o)
  · simp only [if_true]
    apply propext; constructor
    · rintro ⟨_, _, _, e, _⟩; cases e
    · rintro ⟨e, _⟩; cases e
  · simp only [Bool.true_eq_false, if_false, true_and]
    cases memV f h o with
    | none => apply propext; constructor <;> rintro ⟨_, h⟩ <;> simp at h
    | some v => exact WX_some.trans (W1_some' rfl)
theorem opd_A {o : O} {Q : Value → Heap → Prop} (hc : cls o = .A) : WX W (opD cf m f h ⟨dd, g, o, fl, rk, lz⟩) Q = W1 (newV f o) (fun n => WF (n.2 (m + rk)) (fun v => WF (h.set (m + rk) n.1) (fun h' => Q v h'))) := by
  unfold opD; dsimp only; rw [hc]; dsimp only
  cases newV f o with
  | none => apply propext; constructor <;> rintro ⟨_, h⟩ <;> simp at h
  | some v => exact WX_some.trans (W1_some' rfl)
theorem WX_lays {x : Option (Value × Heap × List Nat)} {Q : Value → Heap → Prop} : WX W (match x with | some (v, h', ws) => if ws ≠ [] then none else some (v, h', ws) | none => none) Q = WX (fun _ => False) x Q := by
  cases x with
  | none => apply propext; constructor <;> (rintro ⟨_, _, _, e, _⟩; cases e)
  | some t =>
    obtain ⟨v, h', ws⟩ := t
    dsimp only
    cases ws with
    | nil => simp only [ne_eq, not_true, if_false]; exact propext ⟨fun ⟨_, _, _, e, _, hq⟩ => by cases e; exact ⟨_, _, _, rfl, (fun b hb => nomatch hb), hq⟩, fun ⟨_, _, _, e, _, hq⟩ => by cases e; exact ⟨_, _, _, rfl, (fun b hb => nomatch hb), hq⟩⟩
    | cons a r =>
      rw [if_pos (by simp)]
      apply propext; constructor
      · rintro ⟨_, _, _, e, _⟩; cases e
      · rintro ⟨_, _, _, e, hw, _⟩
        cases e
        exact (hw a (by simp)).elim
theorem opd_E {o : O} {Q : Value → Heap → Prop} (hc : cls o = .E) : WX W (opD cf m f h ⟨dd, g, o, fl, rk, false⟩) Q = WX W (effV f h o) Q := by
  unfold opD; dsimp only; rw [hc]; simp only [Bool.false_eq_true, false_and, if_false]
  congr 1
  cases effV f h o <;> rfl
theorem opd_EL {o : O} {Q : Value → Heap → Prop} (hc : cls o = .E) : WX W (opD cf m f h ⟨dd, g, o, fl, rk, true⟩) Q = WX (fun _ => False) (effV f h o) Q := by
  unfold opD; dsimp only; rw [hc]; simp only [true_and]
  exact WX_lays
theorem opd_st {n : Nat} {a v : X} {Q : Value → Heap → Prop} : WX W (opD cf m f h ⟨dd, g, .st n a v, false, rk, lz⟩) Q = WH W (storeV n (ev f a) (ev f v) h) (fun h' => Q undef h') := by
  unfold opD; simp only [cls, Bool.false_eq_true, false_and, if_false]
  cases storeV n (ev f a) (ev f v) h with
  | none => apply propext; constructor <;> rintro ⟨_, _, h⟩ <;> simp at h
  | some v => obtain ⟨h', ws⟩ := v; exact propext ⟨fun ⟨_, _, _, e, hw, hq⟩ => by cases e; exact ⟨_, _, rfl, hw, hq⟩, fun ⟨_, _, e, hw, hq⟩ => by cases e; exact ⟨_, _, _, rfl, hw, hq⟩⟩
def WHi (m : Nat) (v : Value) (A : Prop) (t : Mk2 A A := .mk) : Prop := high m v = true ∧ A
theorem opd_stt {n : Nat} {a v : X} {Q : Value → Heap → Prop} : WX W (opD cf m f h ⟨dd, g, .st n a v, true, rk, lz⟩) Q = WHi m (ev f a) (WH W (storeV n (ev f a) (ev f v) h) (fun h' => Q undef h')) := by
  unfold opD WHi; simp only [cls, true_and]
  cases hl : high m (ev f a)
  · simp only [if_true]
    apply propext; constructor
    · rintro ⟨_, _, _, e, _⟩; cases e
    · rintro ⟨e, _⟩; cases e
  · simp only [Bool.true_eq_false, if_false, true_and]
    cases storeV n (ev f a) (ev f v) h with
    | none => apply propext; constructor <;> rintro ⟨_, _, h⟩ <;> simp at h
    | some v => obtain ⟨h', ws⟩ := v; exact propext ⟨fun ⟨_, _, _, e, hw, hq⟩ => by cases e; exact ⟨_, _, rfl, hw, hq⟩, fun ⟨_, _, e, hw, hq⟩ => by cases e; exact ⟨_, _, _, rfl, hw, hq⟩⟩
theorem opd_call {x : X} {args : List X} {Q : Value → Heap → Prop} : WX W (opD cf m f h ⟨dd, g, .call x args, false, rk, false⟩) Q = WX W (cf (ev f x) (args.map (ev f)) h) Q := by
  unfold opD; simp only [cls, Bool.false_eq_true, false_and, or_self, if_false]
  congr 1
  cases cf (ev f x) (args.map (ev f)) h <;> rfl
theorem opd_callL {x : X} {args : List X} {Q : Value → Heap → Prop} : WX W (opD cf m f h ⟨dd, g, .call x args, false, rk, true⟩) Q = WX (fun _ => False) (cf (ev f x) (args.map (ev f)) h) Q := by
  unfold opD; simp only [cls, Bool.false_eq_true, false_and, false_or, true_and]
  exact WX_lays
def WQ (h : Heap) (x : Option (Value × Heap × List Nat)) (Q : Value → Heap → Prop) (t : Mk Q := .mk) : Prop := ∃ v h', x = some (v, h', []) ∧ h'.length = h.length ∧ Q v h'
theorem WQ_some {v : Value} {h h' : Heap} {Q : Value → Heap → Prop} : WQ h (some (v, h', [])) Q = (h'.length = h.length ∧ Q v h') :=
  propext ⟨fun ⟨_, _, e, hl, hq⟩ => by cases e; exact ⟨hl, hq⟩, fun ⟨hl, hq⟩ => ⟨_, _, rfl, hl, hq⟩⟩
theorem WQ_same {v : Value} {h : Heap} {Q : Value → Heap → Prop} : WQ h (some (v, h, [])) Q = Q v h := by rw [WQ_some]; simp
theorem opd_callt {x : X} {args : List X} {Q : Value → Heap → Prop} : WX W (opD cf m f h ⟨dd, g, .call x args, true, rk, false⟩) Q = WQ h (cf (ev f x) (args.map (ev f)) h) Q := by
  unfold opD WQ; simp only [cls, true_and, Bool.false_eq_true, false_and, or_false]
  cases cf (ev f x) (args.map (ev f)) h with
  | none => apply propext; constructor
            · rintro ⟨_, _, _, e, _⟩; cases e
            · rintro ⟨_, _, e, _⟩; cases e
  | some t =>
    obtain ⟨v, h', ws⟩ := t
    dsimp only
    by_cases hc : h'.length = h.length ∧ ws = []
    · obtain ⟨h1, rfl⟩ := hc
      simp only [h1, and_self, not_true, if_false]
      exact propext ⟨fun ⟨_, _, _, e, hw, hq⟩ => by cases e; exact ⟨_, _, rfl, h1, hq⟩, fun ⟨_, _, e, hl, hq⟩ => by cases e; exact ⟨_, _, _, rfl, (fun b hb => nomatch hb), hq⟩⟩
    · rw [if_pos hc]
      apply propext; constructor
      · rintro ⟨_, _, _, e, _⟩; cases e
      · rintro ⟨_, _, e, hl, _⟩
        cases e
        exact absurd ⟨hl, rfl⟩ hc
theorem op_mov {x : X} {Q : Value → Heap → Prop} : WX W (opN cf f h (.mov x)) Q = W1 (some (ev f x)) (fun v => Q v h) := by rw [op_P rfl]; rfl
theorem opd_mov {x : X} {Q : Value → Heap → Prop} : WX W (opD cf m f h ⟨dd, g, (.mov x), fl, rk, lz⟩) Q = W1 (some (ev f x)) (fun v => Q v h) := by rw [opd_P rfl]; rfl
theorem op_pick {c a b : X} {Q : Value → Heap → Prop} : WX W (opN cf f h (.pick c a b)) Q = W1 (pickV (ev f c) (ev f a) (ev f b)) (fun v => Q v h) := by rw [op_P rfl]; rfl
theorem opd_pick {c a b : X} {Q : Value → Heap → Prop} : WX W (opD cf m f h ⟨dd, g, (.pick c a b), fl, rk, lz⟩) Q = W1 (pickV (ev f c) (ev f a) (ev f b)) (fun v => Q v h) := by rw [opd_P rfl]; rfl
theorem op_bin {op : BinOp} {q : EqK} {x y : X} {Q : Value → Heap → Prop} : WX W (opN cf f h (.bin op q x y)) Q = W1 (binOp op q (ev f x) (ev f y)) (fun v => Q v h) := by rw [op_P rfl]; rfl
theorem opd_bin {op : BinOp} {q : EqK} {x y : X} {Q : Value → Heap → Prop} : WX W (opD cf m f h ⟨dd, g, (.bin op q x y), fl, rk, lz⟩) Q = W1 (binOp op q (ev f x) (ev f y)) (fun v => Q v h) := by rw [opd_P rfl]; rfl
theorem op_un {op : UnOp} {x : X} {Q : Value → Heap → Prop} : WX W (opN cf f h (.un op x)) Q = W1 (unOp op (ev f x)) (fun v => Q v h) := by rw [op_P rfl]; rfl
theorem opd_un {op : UnOp} {x : X} {Q : Value → Heap → Prop} : WX W (opD cf m f h ⟨dd, g, (.un op x), fl, rk, lz⟩) Q = W1 (unOp op (ev f x)) (fun v => Q v h) := by rw [opd_P rfl]; rfl
theorem op_cvi {k : IntKind} {x : X} {Q : Value → Heap → Prop} : WX W (opN cf f h (.cvi k x)) Q = W1 (cviV k (ev f x)) (fun v => Q v h) := by rw [op_P rfl]; rfl
theorem opd_cvi {k : IntKind} {x : X} {Q : Value → Heap → Prop} : WX W (opD cf m f h ⟨dd, g, (.cvi k x), fl, rk, lz⟩) Q = W1 (cviV k (ev f x)) (fun v => Q v h) := by rw [opd_P rfl]; rfl
theorem op_cvs {x : X} {Q : Value → Heap → Prop} : WX W (opN cf f h (.cvs x)) Q = W1 (cvsV (ev f x)) (fun v => Q v h) := by rw [op_P rfl]; rfl
theorem opd_cvs {x : X} {Q : Value → Heap → Prop} : WX W (opD cf m f h ⟨dd, g, (.cvs x), fl, rk, lz⟩) Q = W1 (cvsV (ev f x)) (fun v => Q v h) := by rw [opd_P rfl]; rfl
theorem op_bld {z : List Value} {p : List (Nat × Nat × X)} {Q : Value → Heap → Prop} : WX W (opN cf f h (.bld z p)) Q = W1 ((fillV (p.map fun p => (p.1, p.2.1, ev f p.2.2)) z).map fun c => .agg c.toArray) (fun v => Q v h) := by rw [op_P rfl]; simp only [pureV, fill_eq]
theorem opd_bld {z : List Value} {p : List (Nat × Nat × X)} {Q : Value → Heap → Prop} : WX W (opD cf m f h ⟨dd, g, (.bld z p), fl, rk, lz⟩) Q = W1 ((fillV (p.map fun p => (p.1, p.2.1, ev f p.2.2)) z).map fun c => .agg c.toArray) (fun v => Q v h) := by rw [opd_P rfl]; simp only [pureV, fill_eq]
theorem op_fld {off : Nat} {x : X} {Q : Value → Heap → Prop} : WX W (opN cf f h (.fld off x)) Q = W1 (fldV off (ev f x)) (fun v => Q v h) := by rw [op_P rfl]; rfl
theorem opd_fld {off : Nat} {x : X} {Q : Value → Heap → Prop} : WX W (opD cf m f h ⟨dd, g, (.fld off x), fl, rk, lz⟩) Q = W1 (fldV off (ev f x)) (fun v => Q v h) := by rw [opd_P rfl]; rfl
theorem op_fof {off : Nat} {agg : Option Nat} {x : X} {Q : Value → Heap → Prop} : WX W (opN cf f h (.fof off agg x)) Q = W1 (fofV off agg (ev f x)) (fun v => Q v h) := by rw [op_P rfl]; rfl
theorem opd_fof {off : Nat} {agg : Option Nat} {x : X} {Q : Value → Heap → Prop} : WX W (opD cf m f h ⟨dd, g, (.fof off agg x), fl, rk, lz⟩) Q = W1 (fofV off agg (ev f x)) (fun v => Q v h) := by rw [opd_P rfl]; rfl
theorem op_ixa {n size : Nat} {x y : X} {Q : Value → Heap → Prop} : WX W (opN cf f h (.ixa n size x y)) Q = W1 (ixaV n size (ev f x) (ev f y)) (fun v => Q v h) := by rw [op_P rfl]; rfl
theorem opd_ixa {n size : Nat} {x y : X} {Q : Value → Heap → Prop} : WX W (opD cf m f h ⟨dd, g, (.ixa n size x y), fl, rk, lz⟩) Q = W1 (ixaV n size (ev f x) (ev f y)) (fun v => Q v h) := by rw [opd_P rfl]; rfl
theorem op_ixs {size : Nat} {x y : X} {Q : Value → Heap → Prop} : WX W (opN cf f h (.ixs size x y)) Q = W1 (ixsV size (ev f x) (ev f y)) (fun v => Q v h) := by rw [op_P rfl]; rfl
theorem opd_ixs {size : Nat} {x y : X} {Q : Value → Heap → Prop} : WX W (opD cf m f h ⟨dd, g, (.ixs size x y), fl, rk, lz⟩) Q = W1 (ixsV size (ev f x) (ev f y)) (fun v => Q v h) := by rw [opd_P rfl]; rfl
theorem op_ixv {n size : Nat} {agg : Option Nat} {x y : X} {Q : Value → Heap → Prop} : WX W (opN cf f h (.ixv n size agg x y)) Q = W1 (ixvV n size agg (ev f x) (ev f y)) (fun v => Q v h) := by rw [op_P rfl]; rfl
theorem opd_ixv {n size : Nat} {agg : Option Nat} {x y : X} {Q : Value → Heap → Prop} : WX W (opD cf m f h ⟨dd, g, (.ixv n size agg x y), fl, rk, lz⟩) Q = W1 (ixvV n size agg (ev f x) (ev f y)) (fun v => Q v h) := by rw [opd_P rfl]; rfl
theorem op_ixt {x y : X} {Q : Value → Heap → Prop} : WX W (opN cf f h (.ixt x y)) Q = W1 (ixtV (ev f x) (ev f y)) (fun v => Q v h) := by rw [op_P rfl]; rfl
theorem opd_ixt {x y : X} {Q : Value → Heap → Prop} : WX W (opD cf m f h ⟨dd, g, (.ixt x y), fl, rk, lz⟩) Q = W1 (ixtV (ev f x) (ev f y)) (fun v => Q v h) := by rw [opd_P rfl]; rfl
theorem op_slt {x : X} {lo hi : Option X} {Q : Value → Heap → Prop} : WX W (opN cf f h (.slt x lo hi)) Q = W1 (sltV (ev f x) (lo.map (ev f)) (hi.map (ev f))) (fun v => Q v h) := by rw [op_P rfl]; simp only [pureV, bound_eq, sltV]; congr 1
theorem opd_slt {x : X} {lo hi : Option X} {Q : Value → Heap → Prop} : WX W (opD cf m f h ⟨dd, g, (.slt x lo hi), fl, rk, lz⟩) Q = W1 (sltV (ev f x) (lo.map (ev f)) (hi.map (ev f))) (fun v => Q v h) := by rw [opd_P rfl]; simp only [pureV, bound_eq, sltV]; congr 1
theorem op_sls {size : Nat} {x : X} {lo hi mx : Option X} {Q : Value → Heap → Prop} : WX W (opN cf f h (.sls size x lo hi mx)) Q = W1 (slsV size (ev f x) (lo.map (ev f)) (hi.map (ev f)) (mx.map (ev f))) (fun v => Q v h) := by rw [op_P rfl]; simp only [pureV, sls_eq]
theorem opd_sls {size : Nat} {x : X} {lo hi mx : Option X} {Q : Value → Heap → Prop} : WX W (opD cf m f h ⟨dd, g, (.sls size x lo hi mx), fl, rk, lz⟩) Q = W1 (slsV size (ev f x) (lo.map (ev f)) (hi.map (ev f)) (mx.map (ev f))) (fun v => Q v h) := by rw [opd_P rfl]; simp only [pureV, sls_eq]
theorem op_sla {n size : Nat} {x : X} {lo hi : Option X} {Q : Value → Heap → Prop} : WX W (opN cf f h (.sla n size x lo hi)) Q = W1 (slaV n size (ev f x) (lo.map (ev f)) (hi.map (ev f))) (fun v => Q v h) := by rw [op_P rfl]; simp only [pureV, bound_eq, slaV]; congr 1
theorem opd_sla {n size : Nat} {x : X} {lo hi : Option X} {Q : Value → Heap → Prop} : WX W (opD cf m f h ⟨dd, g, (.sla n size x lo hi), fl, rk, lz⟩) Q = W1 (slaV n size (ev f x) (lo.map (ev f)) (hi.map (ev f))) (fun v => Q v h) := by rw [opd_P rfl]; simp only [pureV, bound_eq, slaV]; congr 1
theorem op_nil {x : X} {Q : Value → Heap → Prop} : WX W (opN cf f h (.nil x)) Q = W1 (nilV (ev f x)) (fun v => Q v h) := by rw [op_P rfl]; rfl
theorem opd_nil {x : X} {Q : Value → Heap → Prop} : WX W (opD cf m f h ⟨dd, g, (.nil x), fl, rk, lz⟩) Q = W1 (nilV (ev f x)) (fun v => Q v h) := by rw [opd_P rfl]; rfl
theorem op_ext {x : X} {j : Nat} {Q : Value → Heap → Prop} : WX W (opN cf f h (.ext x j)) Q = W1 (extV (ev f x) j) (fun v => Q v h) := by rw [op_P rfl]; rfl
theorem opd_ext {x : X} {j : Nat} {Q : Value → Heap → Prop} : WX W (opD cf m f h ⟨dd, g, (.ext x j), fl, rk, lz⟩) Q = W1 (extV (ev f x) j) (fun v => Q v h) := by rw [opd_P rfl]; rfl
theorem op_mkf {fn : Fn} {a b : List X} {Q : Value → Heap → Prop} : WX W (opN cf f h (.mkf fn a b)) Q = W1 (some (.func fn (a.map (ev f)).toArray (b.map (ev f)).toArray)) (fun v => Q v h) := by rw [op_P rfl]; rfl
theorem opd_mkf {fn : Fn} {a b : List X} {Q : Value → Heap → Prop} : WX W (opD cf m f h ⟨dd, g, (.mkf fn a b), fl, rk, lz⟩) Q = W1 (some (.func fn (a.map (ev f)).toArray (b.map (ev f)).toArray)) (fun v => Q v h) := by rw [opd_P rfl]; rfl
theorem op_mki {t : TypeId} {x : X} {Q : Value → Heap → Prop} : WX W (opN cf f h (.mki t x)) Q = W1 (some (.iface t (ev f x))) (fun v => Q v h) := by rw [op_P rfl]; rfl
theorem opd_mki {t : TypeId} {x : X} {Q : Value → Heap → Prop} : WX W (opD cf m f h ⟨dd, g, (.mki t x), fl, rk, lz⟩) Q = W1 (some (.iface t (ev f x))) (fun v => Q v h) := by rw [opd_P rfl]; rfl
theorem op_lens {t : Bool} {x : X} {Q : Value → Heap → Prop} : WX W (opN cf f h (.lens t x)) Q = W1 (lensV t (ev f x)) (fun v => Q v h) := by rw [op_P rfl]; rfl
theorem opd_lens {t : Bool} {x : X} {Q : Value → Heap → Prop} : WX W (opD cf m f h ⟨dd, g, (.lens t x), fl, rk, lz⟩) Q = W1 (lensV t (ev f x)) (fun v => Q v h) := by rw [opd_P rfl]; rfl
theorem op_lena {n : Nat} {Q : Value → Heap → Prop} : WX W (opN cf f h (.lena n)) Q = W1 (some (.int .i64 n)) (fun v => Q v h) := by rw [op_P rfl]; rfl
theorem opd_lena {n : Nat} {Q : Value → Heap → Prop} : WX W (opD cf m f h ⟨dd, g, (.lena n), fl, rk, lz⟩) Q = W1 (some (.int .i64 n)) (fun v => Q v h) := by rw [opd_P rfl]; rfl
theorem op_min {x : X} {l : List X} {Q : Value → Heap → Prop} : WX W (opN cf f h (.min x l)) Q = W1 (foldO min2 (ev f x) (l.map (ev f))) (fun v => Q v h) := by rw [op_P rfl]; rfl
theorem opd_min {x : X} {l : List X} {Q : Value → Heap → Prop} : WX W (opD cf m f h ⟨dd, g, (.min x l), fl, rk, lz⟩) Q = W1 (foldO min2 (ev f x) (l.map (ev f))) (fun v => Q v h) := by rw [opd_P rfl]; rfl
theorem op_max {x : X} {l : List X} {Q : Value → Heap → Prop} : WX W (opN cf f h (.max x l)) Q = W1 (foldO max2 (ev f x) (l.map (ev f))) (fun v => Q v h) := by rw [op_P rfl]; rfl
theorem opd_max {x : X} {l : List X} {Q : Value → Heap → Prop} : WX W (opD cf m f h ⟨dd, g, (.max x l), fl, rk, lz⟩) Q = W1 (foldO max2 (ev f x) (l.map (ev f))) (fun v => Q v h) := by rw [opd_P rfl]; rfl
theorem op_ld {a : Option Nat} {x : X} {Q : Value → Heap → Prop} : WX W (opN cf f h (.ld a x)) Q = W1 (loadV a (ev f x) h) (fun v => Q v h) := by rw [op_M rfl]; rfl
theorem opd_ld {a : Option Nat} {x : X} {Q : Value → Heap → Prop} : WX W (opD cf m f h ⟨dd, g, (.ld a x), false, rk, lz⟩) Q = W1 (loadV a (ev f x) h) (fun v => Q v h) := by rw [opd_M rfl]; rfl
theorem opd_ldt {a : Option Nat} {x : X} {Q : Value → Heap → Prop} : WX W (opD cf m f h ⟨dd, g, (.ld a x), true, rk, lz⟩) Q = WL m (ev f x) (W1 (loadV a (ev f x) h) (fun v => Q v h)) := by rw [opd_Mt rfl]; rfl
theorem op_look {q : EqK} {z : Value} {m1 k1 : X} {ok : Bool} {Q : Value → Heap → Prop} : WX W (opN cf f h (.look q z m1 k1 ok)) Q = W1 (lookV q z (ev f m1) (ev f k1) ok h) (fun v => Q v h) := by rw [op_M rfl]; rfl
theorem opd_look {q : EqK} {z : Value} {m1 k1 : X} {ok : Bool} {Q : Value → Heap → Prop} : WX W (opD cf m f h ⟨dd, g, (.look q z m1 k1 ok), false, rk, lz⟩) Q = W1 (lookV q z (ev f m1) (ev f k1) ok h) (fun v => Q v h) := by rw [opd_M rfl]; rfl
theorem opd_lookt {q : EqK} {z : Value} {m1 k1 : X} {ok : Bool} {Q : Value → Heap → Prop} : WX W (opD cf m f h ⟨dd, g, (.look q z m1 k1 ok), true, rk, lz⟩) Q = WL m (ev f m1) (W1 (lookV q z (ev f m1) (ev f k1) ok h) (fun v => Q v h)) := by rw [opd_Mt rfl]; rfl
theorem op_lenm {x : X} {Q : Value → Heap → Prop} : WX W (opN cf f h (.lenm x)) Q = W1 (lenmV (ev f x) h) (fun v => Q v h) := by rw [op_M rfl]; rfl
theorem opd_lenm {x : X} {Q : Value → Heap → Prop} : WX W (opD cf m f h ⟨dd, g, (.lenm x), false, rk, lz⟩) Q = W1 (lenmV (ev f x) h) (fun v => Q v h) := by rw [opd_M rfl]; rfl
theorem opd_lenmt {x : X} {Q : Value → Heap → Prop} : WX W (opD cf m f h ⟨dd, g, (.lenm x), true, rk, lz⟩) Q = WL m (ev f x) (W1 (lenmV (ev f x) h) (fun v => Q v h)) := by rw [opd_Mt rfl]; rfl
theorem op_b2s {x : X} {Q : Value → Heap → Prop} : WX W (opN cf f h (.b2s x)) Q = W1 (b2sV (ev f x) h) (fun v => Q v h) := by rw [op_M rfl]; rfl
theorem opd_b2s {x : X} {Q : Value → Heap → Prop} : WX W (opD cf m f h ⟨dd, g, (.b2s x), false, rk, lz⟩) Q = W1 (b2sV (ev f x) h) (fun v => Q v h) := by rw [opd_M rfl]; rfl
theorem opd_b2st {x : X} {Q : Value → Heap → Prop} : WX W (opD cf m f h ⟨dd, g, (.b2s x), true, rk, lz⟩) Q = WL m (ev f x) (W1 (b2sV (ev f x) h) (fun v => Q v h)) := by rw [opd_Mt rfl]; rfl
theorem op_all {z : List Value} {Q : Value → Heap → Prop} : WX W (opN cf f h (.all z)) Q = W1 (newCells z fun b => .pointer (some ⟨b, 0, none⟩)) (fun n => WF (n.2 h.length) (fun v => WF (h ++ [n.1]) (fun hh => Q v hh))) := by rw [op_A rfl]; rfl
theorem opd_all {z : List Value} {Q : Value → Heap → Prop} : WX W (opD cf m f h ⟨dd, g, (.all z), fl, rk, lz⟩) Q = W1 (newCells z fun b => .pointer (some ⟨b, 0, none⟩)) (fun n => WF (n.2 (m + rk)) (fun v => WF (h.set (m + rk) n.1) (fun hh => Q v hh))) := by rw [opd_A rfl]; rfl
theorem op_box {x : X} {Q : Value → Heap → Prop} : WX W (opN cf f h (.box x)) Q = W1 (newCells (cellsV (ev f x)) fun b => .pointer (some ⟨b, 0, none⟩)) (fun n => WF (n.2 h.length) (fun v => WF (h ++ [n.1]) (fun hh => Q v hh))) := by rw [op_A rfl]; rfl
theorem opd_box {x : X} {Q : Value → Heap → Prop} : WX W (opD cf m f h ⟨dd, g, (.box x), fl, rk, lz⟩) Q = W1 (newCells (cellsV (ev f x)) fun b => .pointer (some ⟨b, 0, none⟩)) (fun n => WF (n.2 (m + rk)) (fun v => WF (h.set (m + rk) n.1) (fun hh => Q v hh))) := by rw [opd_A rfl]; rfl
theorem op_bsl {size : Nat} {z : List Value} {n : Nat} {p : List (Nat × Nat × X)} {Q : Value → Heap → Prop} : WX W (opN cf f h (.bsl size z n p)) Q = W1 (bslV size z n (p.map fun p => (p.1, p.2.1, ev f p.2.2))) (fun n => WF (n.2 h.length) (fun v => WF (h ++ [n.1]) (fun hh => Q v hh))) := by rw [op_A rfl]; simp only [newV, bslV, fill_eq]
theorem opd_bsl {size : Nat} {z : List Value} {n : Nat} {p : List (Nat × Nat × X)} {Q : Value → Heap → Prop} : WX W (opD cf m f h ⟨dd, g, (.bsl size z n p), fl, rk, lz⟩) Q = W1 (bslV size z n (p.map fun p => (p.1, p.2.1, ev f p.2.2))) (fun n => WF (n.2 (m + rk)) (fun v => WF (h.set (m + rk) n.1) (fun hh => Q v hh))) := by rw [opd_A rfl]; simp only [newV, bslV, fill_eq]
theorem op_msl {z : List Value} {bytes : Nat} {x y : X} {Q : Value → Heap → Prop} : WX W (opN cf f h (.msl z bytes x y)) Q = W1 (mslV z bytes (ev f x) (ev f y)) (fun n => WF (n.2 h.length) (fun v => WF (h ++ [n.1]) (fun hh => Q v hh))) := by rw [op_A rfl]; rfl
theorem opd_msl {z : List Value} {bytes : Nat} {x y : X} {Q : Value → Heap → Prop} : WX W (opD cf m f h ⟨dd, g, (.msl z bytes x y), fl, rk, lz⟩) Q = W1 (mslV z bytes (ev f x) (ev f y)) (fun n => WF (n.2 (m + rk)) (fun v => WF (h.set (m + rk) n.1) (fun hh => Q v hh))) := by rw [opd_A rfl]; rfl
theorem op_mkm {Q : Value → Heap → Prop} : WX W (opN cf f h .mkm) Q = W1 (some (.map [], fun b => .map (some b))) (fun n => WF (n.2 h.length) (fun v => WF (h ++ [n.1]) (fun hh => Q v hh))) := by rw [op_A rfl]; rfl
theorem opd_mkm {Q : Value → Heap → Prop} : WX W (opD cf m f h ⟨dd, g, .mkm, fl, rk, lz⟩) Q = W1 (some (.map [], fun b => .map (some b))) (fun n => WF (n.2 (m + rk)) (fun v => WF (h.set (m + rk) n.1) (fun hh => Q v hh))) := by rw [opd_A rfl]; rfl
theorem op_alb {Q : Value → Heap → Prop} : WX W (opN cf f h .alb) Q = W1 (some (.bld none, fun b => .pointer (some ⟨b, 0, none⟩))) (fun n => WF (n.2 h.length) (fun v => WF (h ++ [n.1]) (fun hh => Q v hh))) := by rw [op_A rfl]; rfl
theorem opd_alb {Q : Value → Heap → Prop} : WX W (opD cf m f h ⟨dd, g, .alb, fl, rk, lz⟩) Q = W1 (some (.bld none, fun b => .pointer (some ⟨b, 0, none⟩))) (fun n => WF (n.2 (m + rk)) (fun v => WF (h.set (m + rk) n.1) (fun hh => Q v hh))) := by rw [opd_A rfl]; rfl
theorem op_s2b {x : X} {Q : Value → Heap → Prop} : WX W (opN cf f h (.s2b x)) Q = W1 (s2bV (ev f x)) (fun n => WF (n.2 h.length) (fun v => WF (h ++ [n.1]) (fun hh => Q v hh))) := by rw [op_A rfl]; rfl
theorem opd_s2b {x : X} {Q : Value → Heap → Prop} : WX W (opD cf m f h ⟨dd, g, (.s2b x), fl, rk, lz⟩) Q = W1 (s2bV (ev f x)) (fun n => WF (n.2 (m + rk)) (fun v => WF (h.set (m + rk) n.1) (fun hh => Q v hh))) := by rw [opd_A rfl]; rfl
theorem op_mup {q : EqK} {m1 k1 v1 : X} {Q : Value → Heap → Prop} : WX W (opN cf f h (.mup q m1 k1 v1)) Q = WX W (mupV q (ev f m1) (ev f k1) (ev f v1) h) Q := by rw [op_E rfl]; rfl
theorem opd_mup {q : EqK} {m1 k1 v1 : X} {Q : Value → Heap → Prop} : WX W (opD cf m f h ⟨dd, g, (.mup q m1 k1 v1), fl, rk, false⟩) Q = WX W (mupV q (ev f m1) (ev f k1) (ev f v1) h) Q := by rw [opd_E rfl]; rfl
theorem opd_mupL {q : EqK} {m1 k1 v1 : X} {Q : Value → Heap → Prop} : WX W (opD cf m f h ⟨dd, g, (.mup q m1 k1 v1), fl, rk, true⟩) Q = WX (fun _ => False) (mupV q (ev f m1) (ev f k1) (ev f v1) h) Q := by rw [opd_EL rfl]; rfl
theorem op_app {size bytes : Nat} {x y : X} {Q : Value → Heap → Prop} : WX W (opN cf f h (.app size bytes x y)) Q = WX W (appendV size bytes (ev f x) (ev f y) h) Q := by rw [op_E rfl]; rfl
theorem opd_app {size bytes : Nat} {x y : X} {Q : Value → Heap → Prop} : WX W (opD cf m f h ⟨dd, g, (.app size bytes x y), fl, rk, false⟩) Q = WX W (appendV size bytes (ev f x) (ev f y) h) Q := by rw [opd_E rfl]; rfl
theorem opd_appL {size bytes : Nat} {x y : X} {Q : Value → Heap → Prop} : WX W (opD cf m f h ⟨dd, g, (.app size bytes x y), fl, rk, true⟩) Q = WX (fun _ => False) (appendV size bytes (ev f x) (ev f y) h) Q := by rw [opd_EL rfl]; rfl
theorem op_cpy {size : Nat} {x y : X} {Q : Value → Heap → Prop} : WX W (opN cf f h (.cpy size x y)) Q = WX W (copyV size (ev f x) (ev f y) h) Q := by rw [op_E rfl]; rfl
theorem opd_cpy {size : Nat} {x y : X} {Q : Value → Heap → Prop} : WX W (opD cf m f h ⟨dd, g, (.cpy size x y), fl, rk, false⟩) Q = WX W (copyV size (ev f x) (ev f y) h) Q := by rw [opd_E rfl]; rfl
theorem opd_cpyL {size : Nat} {x y : X} {Q : Value → Heap → Prop} : WX W (opD cf m f h ⟨dd, g, (.cpy size x y), fl, rk, true⟩) Q = WX (fun _ => False) (copyV size (ev f x) (ev f y) h) Q := by rw [opd_EL rfl]; rfl
theorem op_clr {z : List Value} {x : X} {Q : Value → Heap → Prop} : WX W (opN cf f h (.clr z x)) Q = WX W (clearV z (ev f x) h) Q := by rw [op_E rfl]; rfl
theorem opd_clr {z : List Value} {x : X} {Q : Value → Heap → Prop} : WX W (opD cf m f h ⟨dd, g, (.clr z x), fl, rk, false⟩) Q = WX W (clearV z (ev f x) h) Q := by rw [opd_E rfl]; rfl
theorem opd_clrL {z : List Value} {x : X} {Q : Value → Heap → Prop} : WX W (opD cf m f h ⟨dd, g, (.clr z x), fl, rk, true⟩) Q = WX (fun _ => False) (clearV z (ev f x) h) Q := by rw [opd_EL rfl]; rfl
theorem op_del {q : EqK} {m1 k1 : X} {Q : Value → Heap → Prop} : WX W (opN cf f h (.del q m1 k1)) Q = WX W (delV q (ev f m1) (ev f k1) h) Q := by rw [op_E rfl]; rfl
theorem opd_del {q : EqK} {m1 k1 : X} {Q : Value → Heap → Prop} : WX W (opD cf m f h ⟨dd, g, (.del q m1 k1), fl, rk, false⟩) Q = WX W (delV q (ev f m1) (ev f k1) h) Q := by rw [opd_E rfl]; rfl
theorem opd_delL {q : EqK} {m1 k1 : X} {Q : Value → Heap → Prop} : WX W (opD cf m f h ⟨dd, g, (.del q m1 k1), fl, rk, true⟩) Q = WX (fun _ => False) (delV q (ev f m1) (ev f k1) h) Q := by rw [opd_EL rfl]; rfl
end
end Go.L
namespace Go.L
open Go
theorem ev_t {f : FF} {s : Nat} : ev f (.t s) = f s := rfl
theorem ev_c {f : FF} {v : Value} : ev f (.c v) = v := rfl
theorem ev_f {f : FF} {g : Nat} : ev f (.f g) = .func (.func g) #[] #[] := rfl
theorem upd_at {f : FF} {d s : Nat} {v : Value} : upd f d v s = if s = d then v else f s := rfl
theorem get_cons {k s : Nat} {v : Value} {r : Fr} : get ((k, v) :: r) s = if s = k then v else get r s := rfl
section
variable {q : EqK} {k k' : IntKind} {a b : Int}
theorem bin_add : binOp .add q (.int k a) (.int k b) = some (.int k (k.wrap (a + b))) := by simp [binOp, intOp]
theorem bin_sub : binOp .sub q (.int k a) (.int k b) = some (.int k (k.wrap (a - b))) := by simp [binOp, intOp]
theorem bin_mul : binOp .mul q (.int k a) (.int k b) = some (.int k (k.wrap (a * b))) := by simp [binOp, intOp]
theorem bin_quo (h : b ≠ 0) : binOp .quo q (.int k a) (.int k b) = some (.int k (k.wrap (a.tdiv b))) := by simp [binOp, intOp, h]
theorem bin_rem (h : b ≠ 0) : binOp .rem q (.int k a) (.int k b) = some (.int k (a.tmod b)) := by simp [binOp, intOp, h]
theorem bin_eql : binOp .eql q (.int k a) (.int k b) = some (.bool (decide (a = b))) := by simp [binOp, intOp]; rfl
theorem bin_neq : binOp .neq q (.int k a) (.int k b) = some (.bool (decide (¬ a = b))) := by
  simp only [binOp, intOp, if_true]; congr 2; by_cases h : a = b <;> simp [h]
theorem bin_lss : binOp .lss q (.int k a) (.int k b) = some (.bool (decide (a < b))) := by simp [binOp, intOp]
theorem bin_leq : binOp .leq q (.int k a) (.int k b) = some (.bool (decide (a ≤ b))) := by simp [binOp, intOp]
theorem bin_gtr : binOp .gtr q (.int k a) (.int k b) = some (.bool (decide (b < a))) := by simp [binOp, intOp]
theorem bin_geq : binOp .geq q (.int k a) (.int k b) = some (.bool (decide (b ≤ a))) := by simp [binOp, intOp]
theorem bin_shl (h : 0 ≤ b) : binOp .shl q (.int k a) (.int k' b) = some (.int k (k.wrap (a * 2 ^ (min b.toNat k.bits)))) := by simp [binOp, intOp]; omega
theorem bin_shr (h : 0 ≤ b) : binOp .shr q (.int k a) (.int k' b) = some (.int k (a.fdiv (2 ^ (min b.toNat k.bits)))) := by simp [binOp, intOp]; omega
theorem un_neg : unOp .neg (.int k a) = some (.int k (k.wrap (0 - a))) := rfl
theorem un_not {t : Bool} : unOp .not (.bool t) = some (.bool (!t)) := rfl
theorem bin_beq {x y : Bool} : binOp .eql .bool (.bool x) (.bool y) = some (.bool (x == y)) := rfl
theorem bin_bne {x y : Bool} : binOp .neq .bool (.bool x) (.bool y) = some (.bool (!(x == y))) := rfl
theorem bin_seq {x y : ByteArray} : binOp .eql q (.string x) (.string y) = some (.bool (x.toList == y.toList)) := rfl
theorem bin_sne {x y : ByteArray} : binOp .neq q (.string x) (.string y) = some (.bool (!(x.toList == y.toList))) := rfl
end
theorem wrap_i64 {x : Int} (h1 : -9223372036854775808 ≤ x) (h2 : x < 9223372036854775808) : IntKind.i64.wrap x = x := by
  simp [IntKind.wrap, IntKind.bits, IntKind.signed]; omega
theorem wrap_u64 {x : Int} (h1 : 0 ≤ x) (h2 : x < 18446744073709551616) : IntKind.u64.wrap x = x := by
  simp [IntKind.wrap, IntKind.bits, IntKind.signed]; omega
theorem wrap_u8 {x : Int} (h1 : 0 ≤ x) (h2 : x < 256) : IntKind.u8.wrap x = x := by
  simp [IntKind.wrap, IntKind.bits, IntKind.signed]; omega
theorem cvi_int {k k' : IntKind} {n : Int} : cviV k (.int k' n) = some (.int k (k.wrap n)) := rfl
theorem cvs_str {s : ByteArray} : cvsV (.string s) = some (.string s) := rfl
theorem pick_t {a b : Value} : pickV (.bool true) a b = some a := rfl
theorem pick_f {a b : Value} : pickV (.bool false) a b = some b := rfl
theorem cellsV_int {k : IntKind} {n : Int} : cellsV (.int k n) = [.int k n] := rfl
theorem cellsV_bool {b : Bool} : cellsV (.bool b) = [.bool b] := rfl
theorem cellsV_str {b : ByteArray} : cellsV (.string b) = [.string b] := rfl
theorem cellsV_ptr {b : Option Addr} : cellsV (.pointer b) = [.pointer b] := rfl
theorem cellsV_slice {b : Option Addr} {n c : Nat} : cellsV (.slice b n c) = [.slice b n c] := rfl
theorem cellsV_map {b : Option Nat} : cellsV (.map b) = [.map b] := rfl
theorem cellsV_func {g : Fn} {a b : Array Value} : cellsV (.func g a b) = [.func g a b] := rfl
theorem cellsV_agg {a : Array Value} : cellsV (.agg a) = a.toList := rfl
theorem one_int {k : IntKind} {n : Int} : oneCell (.int k n) = true := rfl
theorem one_bool {b : Bool} : oneCell (.bool b) = true := rfl
theorem one_str {b : ByteArray} : oneCell (.string b) = true := rfl
theorem one_ptr {b : Option Addr} : oneCell (.pointer b) = true := rfl
theorem one_slice {b : Option Addr} {n c : Nat} : oneCell (.slice b n c) = true := rfl
theorem one_map {b : Option Nat} : oneCell (.map b) = true := rfl
theorem one_func {g : Fn} {a b : Array Value} : oneCell (.func g a b) = true := rfl
theorem one_nilf : oneCell .nilFunc = true := rfl
theorem cellsV_nilf : cellsV .nilFunc = [.nilFunc] := rfl
theorem cellsV_one {v : Value} (h : oneCell v = true) : cellsV v = [v] := by cases v <;> first | rfl | cases h
theorem fillV_nil {c : List Value} : fillV [] c = some c := rfl
theorem fillV_cons {o n : Nat} {x : Value} {r : List (Nat × Nat × Value)} {c : List Value} : fillV ((o, n, x) :: r) c = if (cellsV x).length = n ∧ o + n ≤ c.length ∧ (cellsV x).all oneCell then fillV r (setCells c o (cellsV x)) else none := rfl
theorem setCells_nil {c : List Value} {o : Nat} : setCells c o [] = c := rfl
theorem setCells_cons {c : List Value} {o : Nat} {v : Value} {r : List Value} : setCells c o (v :: r) = setCells (c.set o v) (o + 1) r := rfl
def ldO : Option LObj → Nat → Option Nat → Option Value
  | some (.cells c _), off, agg => part c off agg
  | _, _, _ => none
theorem load_ptr {b off : Nat} {sp : Option Nat} {agg : Option Nat} {h : Heap} : loadV agg (.pointer (some ⟨b, off, sp⟩)) h = ldO h[b]? off agg := by
  simp only [loadV]; cases h[b]? with
  | none => rfl
  | some o => cases o <;> rfl
theorem ldO_cells {c : List Value} {ro : Bool} {off : Nat} {agg : Option Nat} : ldO (some (.cells c ro)) off agg = part c off agg := rfl
theorem part_none {c : List Value} {off : Nat} : part c off none = c[off]? := rfl
theorem part_some {c : List Value} {off n : Nat} : part c off (some n) = if off + n ≤ c.length then some (.agg ((c.drop off).take n).toArray) else none := rfl
def stO (n : Nat) (h : Heap) (b off : Nat) (cs : List Value) : Option LObj → Option (Heap × List Nat)
  | some (.cells c false) => if cs.length = n ∧ off + n ≤ c.length ∧ cs.all oneCell then some (h.set b (.cells (setCells c off cs) false), [b]) else none
  | _ => none
theorem store_ptr {n b off : Nat} {sp : Option Nat} {v : Value} {h : Heap} : storeV n (.pointer (some ⟨b, off, sp⟩)) v h = stO n h b off (cellsV v) h[b]? := by
  simp only [storeV]; cases h[b]? with
  | none => rfl
  | some o => cases o with
    | cells c ro => cases ro <;> rfl
    | map _ => rfl
    | loop _ => rfl
    | dead => rfl
    | bld _ => rfl
    | bytes _ => rfl
theorem stO_cells {n b off : Nat} {h : Heap} {cs c : List Value} : stO n h b off cs (some (.cells c false)) = if cs.length = n ∧ off + n ≤ c.length ∧ cs.all oneCell then some (h.set b (.cells (setCells c off cs) false), [b]) else none := rfl
theorem fld_ptr {off b o : Nat} {sp : Option Nat} : fldV off (.pointer (some ⟨b, o, sp⟩)) = some (.pointer (some ⟨b, o + off, none⟩)) := rfl
theorem fof_agg {off : Nat} {agg : Option Nat} {cs : Array Value} : fofV off agg (.agg cs) = part cs.toList off agg := rfl
theorem nil_ptr {a : Addr} : nilV (.pointer (some a)) = some (.pointer (some a)) := rfl
theorem nil_func {g : FuncId} {a b : Array Value} : nilV (.func (.func g) a b) = some (.func (.func g) a b) := rfl
theorem lens_slice {a : Option Addr} {n c : Nat} : lensV false (.slice a n c) = some (.int .i64 n) := rfl
theorem lens_str {s : ByteArray} : lensV true (.string s) = some (.int .i64 s.size) := rfl
theorem ext_tuple {vs : Array Value} {j : Nat} : extV (.tuple vs) j = match vs.toList[j]? with | some v => if noTuple v then some v else none | none => none := rfl
theorem nt_int {k : IntKind} {n : Int} : noTuple (.int k n) = true := rfl
theorem nt_bool {b : Bool} : noTuple (.bool b) = true := rfl
theorem nt_str {b : ByteArray} : noTuple (.string b) = true := rfl
theorem nt_slice {b : Option Addr} {n c : Nat} : noTuple (.slice b n c) = true := rfl
theorem nt_ptr {b : Option Addr} : noTuple (.pointer b) = true := rfl
theorem nt_agg {b : Array Value} : noTuple (.agg b) = true := rfl
theorem nt_map {b : Option Nat} : noTuple (.map b) = true := rfl
theorem nt_func {g : Fn} {a b : Array Value} : noTuple (.func g a b) = true := rfl
theorem ixs_some {size n c b o : Nat} {sp : Option Nat} {k : IntKind} {j : Int} (h1 : 0 ≤ j) (h2 : j < n) : ixsV size (.slice (some ⟨b, o, sp⟩) n c) (.int k j) = some (.pointer (some ⟨b, o + j.toNat * size, none⟩)) := by
  simp [ixsV, addrOf, h1, h2]
theorem ixa_some {size n b o : Nat} {sp : Option Nat} {k : IntKind} {j : Int} (h1 : 0 ≤ j) (h2 : j < n) : ixaV n size (.pointer (some ⟨b, o, sp⟩)) (.int k j) = some (.pointer (some ⟨b, o + j.toNat * size, none⟩)) := by
  simp [ixaV, addrOf, h1, h2]
theorem ixt_some {s : ByteArray} {k : IntKind} {j : Int} (h1 : 0 ≤ j) : ixtV (.string s) (.int k j) = (s[j.toNat]?).map fun b => .int .u8 b.toNat := by simp [ixtV, h1]
theorem min_1 {x : Value} : foldO min2 x [] = some x := rfl
theorem min_2 {k : IntKind} {a b : Int} {r : List Value} : foldO min2 (.int k a) (.int k b :: r) = foldO min2 (.int k (min a b)) r := by
  simp only [foldO, min2, Option.bind_some]; congr 2; omega
theorem max_1 {x : Value} : foldO max2 x [] = some x := rfl
theorem max_2 {k : IntKind} {a b : Int} {r : List Value} : foldO max2 (.int k a) (.int k b :: r) = foldO max2 (.int k (max a b)) r := by
  simp only [foldO, max2, Option.bind_some]; congr 2; omega
theorem resL_nil {fr : Fr} {h : Heap} : resL fr h [] = some [] := rfl
theorem resL_t {fr : Fr} {h : Heap} {s : Nat} {r : List R} : resL fr h (.t s :: r) = (resL fr h r).map (get fr s :: ·) := rfl
theorem resL_v {fr : Fr} {h : Heap} {s : Nat} {agg : Option Nat} {r : List R} : resL fr h (.v agg s :: r) = (loadV agg (get fr s) h).bind fun v => (resL fr h r).map (v :: ·) := rfl
theorem resV_one {v : Value} : resV [v] = v := rfl
theorem resV_two {v w : Value} {r : List Value} : resV (v :: w :: r) = .tuple (v :: w :: r).toArray := rfl
theorem resV_nil : resV [] = .tuple #[] := rfl
theorem nn4_int {m : Nat} {k : IntKind} {n : Int} : noNew m 4 (.int k n) = true := rfl
theorem nn4_bool {m : Nat} {b : Bool} : noNew m 4 (.bool b) = true := rfl
theorem nn4_str {m : Nat} {b : ByteArray} : noNew m 4 (.string b) = true := rfl
theorem nn4_slice {m n c : Nat} {a : Addr} : noNew m 4 (.slice (some a) n c) = decide (a.block < m) := rfl
theorem nn4_nils {m n c : Nat} : noNew m 4 (.slice none n c) = true := rfl
theorem nn4_ptr {m : Nat} {a : Addr} : noNew m 4 (.pointer (some a)) = decide (a.block < m) := rfl
theorem nn4_nilp {m : Nat} : noNew m 4 (.pointer none) = true := rfl
theorem nn4_agg {m : Nat} {vs : Array Value} : noNew m 4 (.agg vs) = vs.toList.all (noNew m 3) := rfl
theorem nn4_tuple {m : Nat} {vs : Array Value} : noNew m 4 (.tuple vs) = vs.toList.all (noNew m 3) := rfl
theorem nn4_func {m : Nat} {g : FuncId} {a b : Array Value} : noNew m 4 (.func (.func g) a b) = (a.toList.all (noNew m 3) && b.toList.all (noNew m 3)) := by simp [noNew]
theorem nn3_int {m : Nat} {k : IntKind} {n : Int} : noNew m 3 (.int k n) = true := rfl
theorem nn3_bool {m : Nat} {b : Bool} : noNew m 3 (.bool b) = true := rfl
theorem nn3_str {m : Nat} {b : ByteArray} : noNew m 3 (.string b) = true := rfl
theorem nn3_slice {m n c : Nat} {a : Addr} : noNew m 3 (.slice (some a) n c) = decide (a.block < m) := rfl
theorem nn3_nils {m n c : Nat} : noNew m 3 (.slice none n c) = true := rfl
theorem nn3_ptr {m : Nat} {a : Addr} : noNew m 3 (.pointer (some a)) = decide (a.block < m) := rfl
theorem nn3_nilp {m : Nat} : noNew m 3 (.pointer none) = true := rfl
theorem nn3_agg {m : Nat} {vs : Array Value} : noNew m 3 (.agg vs) = vs.toList.all (noNew m 2) := rfl
theorem nn3_tuple {m : Nat} {vs : Array Value} : noNew m 3 (.tuple vs) = vs.toList.all (noNew m 2) := rfl
theorem nn3_func {m : Nat} {g : FuncId} {a b : Array Value} : noNew m 3 (.func (.func g) a b) = (a.toList.all (noNew m 2) && b.toList.all (noNew m 2)) := by simp [noNew]
theorem nn2_int {m : Nat} {k : IntKind} {n : Int} : noNew m 2 (.int k n) = true := rfl
theorem nn2_bool {m : Nat} {b : Bool} : noNew m 2 (.bool b) = true := rfl
theorem nn2_str {m : Nat} {b : ByteArray} : noNew m 2 (.string b) = true := rfl
theorem nn2_slice {m n c : Nat} {a : Addr} : noNew m 2 (.slice (some a) n c) = decide (a.block < m) := rfl
theorem nn2_nils {m n c : Nat} : noNew m 2 (.slice none n c) = true := rfl
theorem nn2_ptr {m : Nat} {a : Addr} : noNew m 2 (.pointer (some a)) = decide (a.block < m) := rfl
theorem nn2_nilp {m : Nat} : noNew m 2 (.pointer none) = true := rfl
theorem nn2_agg {m : Nat} {vs : Array Value} : noNew m 2 (.agg vs) = vs.toList.all (noNew m 1) := rfl
theorem nn2_tuple {m : Nat} {vs : Array Value} : noNew m 2 (.tuple vs) = vs.toList.all (noNew m 1) := rfl
theorem nn2_func {m : Nat} {g : FuncId} {a b : Array Value} : noNew m 2 (.func (.func g) a b) = (a.toList.all (noNew m 1) && b.toList.all (noNew m 1)) := by simp [noNew]
theorem nn1_int {m : Nat} {k : IntKind} {n : Int} : noNew m 1 (.int k n) = true := rfl
theorem nn1_bool {m : Nat} {b : Bool} : noNew m 1 (.bool b) = true := rfl
theorem nn1_str {m : Nat} {b : ByteArray} : noNew m 1 (.string b) = true := rfl
theorem nn1_slice {m n c : Nat} {a : Addr} : noNew m 1 (.slice (some a) n c) = decide (a.block < m) := rfl
theorem nn1_nils {m n c : Nat} : noNew m 1 (.slice none n c) = true := rfl
theorem nn1_ptr {m : Nat} {a : Addr} : noNew m 1 (.pointer (some a)) = decide (a.block < m) := rfl
theorem nn1_nilp {m : Nat} : noNew m 1 (.pointer none) = true := rfl
theorem nn1_agg {m : Nat} {vs : Array Value} : noNew m 1 (.agg vs) = vs.toList.all (noNew m 0) := rfl
theorem nn1_tuple {m : Nat} {vs : Array Value} : noNew m 1 (.tuple vs) = vs.toList.all (noNew m 0) := rfl
theorem nn1_func {m : Nat} {g : FuncId} {a b : Array Value} : noNew m 1 (.func (.func g) a b) = (a.toList.all (noNew m 0) && b.toList.all (noNew m 0)) := by simp [noNew]
section
variable {h l : Heap} {o : LObj}
theorem geta {n : Nat} : (h ++ l)[h.length + n]? = l[n]? := by rw [List.getElem?_append_right (by omega)]; congr 1; omega
theorem geta0 : (h ++ l)[h.length]? = l[0]? := by rw [List.getElem?_append_right (by omega)]; congr 1; omega
theorem seta {n : Nat} : (h ++ l).set (h.length + n) o = h ++ l.set n o := by rw [List.set_append_right _ _ (by omega)]; congr 2; omega
theorem seta0 : (h ++ l).set h.length o = h ++ l.set 0 o := by rw [List.set_append_right _ _ (by omega)]; congr 2; omega
theorem gets {b c : Nat} (hb : b ≠ c) : (h.set b o)[c]? = h[c]? := List.getElem?_set_ne hb
theorem room0 : room h 0 = h := rfl
theorem room1 : room h 1 = h ++ [.dead] := rfl
theorem room2 : room h 2 = h ++ [.dead, .dead] := rfl
theorem room3 : room h 3 = h ++ [.dead, .dead, .dead] := rfl
theorem room4 : room h 4 = h ++ [.dead, .dead, .dead, .dead] := rfl
end
def blk : Value → Nat
  | .slice (some a) _ _ => a.block
  | _ => 0
def ofs : Value → Nat
  | .slice (some a) _ _ => a.off
  | _ => 0
structure Row (sz : Nat) (h : Heap) (v : Value) (L : List (List Value)) : Prop where
  size : ∀ e ∈ L, e.length = sz
  few : L.length < 1152921504606846976
  is : (v = .slice none 0 0 ∧ L = []) ∨ ∃ b off sp cap c ro, v = .slice (some ⟨b, off, sp⟩) L.length cap ∧ h[b]? = some (.cells c ro) ∧ off + L.length * sz ≤ c.length ∧ (c.drop off).take (L.length * sz) = L.flatten ∧ L.length ≤ cap ∧ (sp = none ∨ sp = some sz)
namespace Row
variable {sz : Nat} {h : Heap} {v : Value} {L : List (List Value)}
theorem len (r : Row sz h v L) : lensV false v = some (.int .i64 L.length) := by
  rcases r.is with ⟨rfl, rfl⟩ | ⟨b, off, sp, cap, c, ro, rfl, _⟩ <;> rfl
theorem ixs (r : Row sz h v L) (k : IntKind) (i : Int) (h1 : 0 ≤ i) (h2 : i < L.length) : ixsV sz v (.int k i) = some (.pointer (some ⟨blk v, ofs v + i.toNat * sz, none⟩)) := by
  rcases r.is with ⟨rfl, rfl⟩ | ⟨b, off, sp, cap, c, ro, rfl, _⟩
  · simp at h2; omega
  · exact ixs_some h1 h2
theorem flat_get : ∀ {L : List (List Value)} (hs : ∀ e ∈ L, e.length = sz) (i fo : Nat) (hi : i < L.length) (hf : fo < sz), L.flatten[i * sz + fo]? = some ((L.getD i []).getD fo undef) := by
  intro L
  induction L with
  | nil => intro hs i fo hi; simp at hi
  | cons x r ih =>
    intro hs i fo hi hf
    have hx : x.length = sz := hs x (by simp)
    cases i with
    | zero =>
      simp only [Nat.zero_mul, Nat.zero_add, List.flatten_cons, List.getD_cons_zero]
      rw [List.getElem?_append_left (by omega), List.getD_eq_getElem?_getD, List.getElem?_eq_getElem (by omega)]; rfl
    | succ i =>
      have e : (i + 1) * sz + fo = x.length + (i * sz + fo) := by rw [hx, Nat.succ_mul]; omega
      rw [List.flatten_cons, e, List.getElem?_append_right (by omega), Nat.add_sub_cancel_left, List.getD_cons_succ]
      exact ih (fun e he => hs e (by simp [he])) i fo (by simpa using hi) hf
theorem at_ (r : Row sz h v L) (i fo : Nat) (hi : i < L.length) (hf : fo < sz) : ∃ c ro, h[blk v]? = some (.cells c ro) ∧ ofs v + i * sz + fo < c.length ∧ c[ofs v + i * sz + fo]? = some ((L.getD i []).getD fo undef) := by
  rcases r.is with ⟨rfl, rfl⟩ | ⟨b, off, sp, cap, c, ro, rfl, hb, hl, hc, hcap⟩
  · simp at hi
  · have hlt : i * sz + fo < L.length * sz := by
      have := Nat.mul_le_mul_right sz (show i + 1 ≤ L.length by omega)
      rw [Nat.succ_mul] at this; omega
    refine ⟨c, ro, hb, ?_, ?_⟩
    · simp only [ofs]; omega
    · simp only [ofs]
      rw [← flat_get r.size i fo hi hf, ← hc, List.getElem?_take, if_pos hlt, List.getElem?_drop, Nat.add_assoc]
theorem ld (r : Row sz h v L) (i : Int) (fo : Nat) (h1 : 0 ≤ i) (h2 : i < L.length) (hf : fo < sz) : ldO h[blk v]? (ofs v + i.toNat * sz + fo) none = some ((L.getD i.toNat []).getD fo undef) := by
  obtain ⟨c, ro, hb, _, hc⟩ := r.at_ i.toNat fo (by omega) hf
  rw [hb, ldO_cells, part_none, hc]
theorem ld0 (r : Row sz h v L) (i : Int) (h1 : 0 ≤ i) (h2 : i < L.length) (hf : 0 < sz) : ldO h[blk v]? (ofs v + i.toNat * sz) none = some ((L.getD i.toNat []).getD 0 undef) := r.ld i 0 h1 h2 hf
theorem getD_mem {L : List (List Value)} {i : Nat} (hi : i < L.length) : L.getD i [] ∈ L := by
  rw [List.getD_eq_getElem?_getD, List.getElem?_eq_getElem hi]; exact List.getElem_mem hi
theorem lda (r : Row sz h v L) (i : Int) (h1 : 0 ≤ i) (h2 : i < L.length) (hz : 0 < sz) : ldO h[blk v]? (ofs v + i.toNat * sz) (some sz) = some (.agg (L.getD i.toNat []).toArray) := by
  have hi : i.toNat < L.length := by omega
  have hlen : (L.getD i.toNat []).length = sz := r.size _ (getD_mem hi)
  obtain ⟨c, ro, hb, hlt, _⟩ := r.at_ i.toNat (sz - 1) hi (by omega)
  rw [hb, ldO_cells, part_some, if_pos (by omega)]
  congr 3
  apply List.ext_getElem?
  intro j
  by_cases hj : j < sz
  · obtain ⟨c', ro', hb', _, hc⟩ := r.at_ i.toNat j hi hj
    rw [hb] at hb'; cases hb'
    rw [List.getElem?_take, if_pos hj, List.getElem?_drop, hc, List.getD_eq_getElem?_getD (l := L.getD i.toNat []), List.getElem?_eq_getElem (by omega)]; rfl
  · rw [List.getElem?_eq_none (by simp; omega), List.getElem?_eq_none (by omega)]
theorem ext (r : Row sz h v L) {h' : Heap} (hx : ∀ (b : Nat) (o : LObj), h[b]? = some o → o ≠ LObj.dead → h'[b]? = some o) : Row sz h' v L :=
  ⟨r.size, r.few, r.is.imp id fun ⟨b, off, sp, cap, c, ro, h1, h2, h3⟩ => ⟨b, off, sp, cap, c, ro, h1, hx _ _ h2 (by intro h; cases h), h3⟩⟩
theorem app (r : Row sz h v L) (l : Heap) : Row sz (h ++ l) v L := r.ext fun b o hb _ => by
  rw [List.getElem?_append_left (List.getElem?_eq_some_iff.1 hb).1]; exact hb
theorem set (r : Row sz h v L) {b : Nat} {o : LObj} (hb : b ≠ blk v) : Row sz (h.set b o) v L :=
  ⟨r.size, r.few, r.is.imp id fun ⟨b', off, sp, cap, c, ro, h1, h2, h3⟩ => ⟨b', off, sp, cap, c, ro, h1, by rw [gets (by rw [h1] at hb; exact hb)]; exact h2, h3⟩⟩
theorem sls_hi (r : Row sz h v L) {k : IntKind} {n : Int} (h1 : 0 ≤ n) (h2 : n ≤ L.length) : ∃ v', slsV sz v none (some (.int k n)) none = some v' ∧ Row sz h v' (L.take n.toNat) ∧ blk v' = blk v ∧ (v = .slice none 0 0 → v' = .slice none 0 0) := by
  have hsz : ∀ e ∈ L.take n.toNat, e.length = sz := fun e he => r.size e (List.mem_of_mem_take he)
  have few' : (L.take n.toNat).length < 1152921504606846976 := by have := r.few; rw [List.length_take]; omega
  have hlen : (L.take n.toNat).length = n.toNat := by rw [List.length_take]; omega
  rcases r.is with ⟨rfl, rfl⟩ | ⟨b, off, sp, cap, c, ro, rfl, hb, hl, hc, hcap⟩
  · have : n = 0 := by simp at h2; omega
    subst this
    exact ⟨.slice none 0 0, by simp [slsV, boundV], ⟨hsz, few', .inl ⟨rfl, by simp⟩⟩, rfl, fun _ => rfl⟩
  · have hmul : n.toNat * sz ≤ L.length * sz := Nat.mul_le_mul_right sz (by omega)
    have hcut : (c.drop off).take (n.toNat * sz) = (L.take n.toNat).flatten := by
      have e : L.flatten = (L.take n.toNat).flatten ++ (L.drop n.toNat).flatten := by rw [← List.flatten_append, List.take_append_drop]
      have e3 : (L.take n.toNat).flatten.length = n.toNat * sz := by
        have : ∀ {M : List (List Value)}, (∀ e ∈ M, e.length = sz) → M.flatten.length = M.length * sz := by
          intro M
          induction M with
          | nil => intro _; simp
          | cons x r ih => intro hs; rw [List.flatten_cons, List.length_append, ih (fun e he => hs e (by simp [he])), hs x (by simp), List.length_cons, Nat.succ_mul]; omega
        rw [this hsz, hlen]
      have e2 : (c.drop off).take (n.toNat * sz) = ((c.drop off).take (L.length * sz)).take (n.toNat * sz) := by rw [List.take_take, Nat.min_eq_left hmul]
      rw [e2, hc, e, ← e3, List.take_left']
      rfl
    obtain ⟨hcap, rfl | rfl⟩ := hcap
    · refine ⟨.slice (some ⟨b, off, none⟩) n.toNat cap, ?_, ⟨hsz, few', .inr ⟨b, off, none, cap, c, ro, by rw [hlen], hb, by rw [hlen]; omega, by rw [hlen]; exact hcut, by rw [hlen]; omega, .inl rfl⟩⟩, rfl, fun e => by cases e⟩
      simp only [slsV, boundV]
      rw [if_pos (by omega), Option.bind_some, Option.bind_some, if_pos (by omega)]
      simp
    · refine ⟨.slice (some ⟨b, off, some sz⟩) n.toNat n.toNat, ?_, ⟨hsz, few', .inr ⟨b, off, some sz, n.toNat, c, ro, by rw [hlen], hb, by rw [hlen]; omega, by rw [hlen]; exact hcut, by rw [hlen]; exact Nat.le_refl _, .inr rfl⟩⟩, rfl, fun e => by cases e⟩
      simp only [slsV, boundV, if_true]
      rw [if_pos (by omega), Option.bind_some, Option.bind_some]
      simp
theorem lt (r : Row sz h v L) (hl : L ≠ []) : blk v < h.length := by
  rcases r.is with ⟨_, rfl⟩ | ⟨b, off, sp, cap, c, ro, rfl, hb, _⟩
  · exact absurd rfl hl
  · exact (List.getElem?_eq_some_iff.1 hb).1
theorem cells (r : Row sz h v L) : cellsOf sz v h = some (L.length, L.flatten) := by
  rcases r.is with ⟨rfl, rfl⟩ | ⟨b, off, sp, cap, c, ro, rfl, hb, hl, hc, hcap⟩
  · rfl
  · simp [cellsOf, hb, hl, hc]
end Row
def atI {α : Type} [Inhabited α] (l : List α) (i : Int) : α := l.getD i.toNat default
theorem atI_map {α : Type} [Inhabited α] (enc : α → List Value) (l : List α) (i : Int) (h1 : 0 ≤ i) (h2 : i < l.length) : (l.map enc).getD i.toNat [] = enc (atI l i) := by
  unfold atI
  rw [List.getD_eq_getElem?_getD, List.getD_eq_getElem?_getD, List.getElem?_map, List.getElem?_eq_getElem (by omega)]; rfl
def Rd {α : Type} (sz : Nat) (enc : α → List Value) (h : Heap) (v : Value) (l : List α) : Prop := Row sz h v (l.map enc)
namespace Rd
variable {α : Type} {sz : Nat} {enc : α → List Value} {h : Heap} {v : Value} {l : List α}
theorem few (r : Rd sz enc h v l) : l.length < 1152921504606846976 := by have := Row.few r; simpa using this
theorem len (r : Rd sz enc h v l) : lensV false v = some (.int .i64 l.length) := by rw [Row.len r]; simp
theorem ixs (r : Rd sz enc h v l) (k : IntKind) (i : Int) (h1 : 0 ≤ i) (h2 : i < l.length) : ixsV sz v (.int k i) = some (.pointer (some ⟨blk v, ofs v + i.toNat * sz, none⟩)) := Row.ixs r k i h1 (by simpa using h2)
theorem ld [Inhabited α] (r : Rd sz enc h v l) (i : Int) (fo : Nat) (h1 : 0 ≤ i) (h2 : i < l.length) (hf : fo < sz) : ldO h[blk v]? (ofs v + i.toNat * sz + fo) none = some ((enc (atI l i)).getD fo undef) := by
  rw [Row.ld r i fo h1 (by simpa using h2) hf, atI_map _ _ _ h1 h2]
theorem ld0 [Inhabited α] (r : Rd sz enc h v l) (i : Int) (h1 : 0 ≤ i) (h2 : i < l.length) (hf : 0 < sz) : ldO h[blk v]? (ofs v + i.toNat * sz) none = some ((enc (atI l i)).getD 0 undef) := r.ld i 0 h1 h2 hf
theorem lda [Inhabited α] (r : Rd sz enc h v l) (i : Int) (h1 : 0 ≤ i) (h2 : i < l.length) (hf : 0 < sz) : ldO h[blk v]? (ofs v + i.toNat * sz) (some sz) = some (.agg (enc (atI l i)).toArray) := by
  rw [Row.lda r i h1 (by simpa using h2) hf, atI_map _ _ _ h1 h2]
theorem app (r : Rd sz enc h v l) (x : Heap) : Rd sz enc (h ++ x) v l := Row.app r x
theorem ext (r : Rd sz enc h v l) {h' : Heap} (hx : ∀ (b : Nat) (o : LObj), h[b]? = some o → o ≠ LObj.dead → h'[b]? = some o) : Rd sz enc h' v l := Row.ext r hx
theorem set (r : Rd sz enc h v l) {b : Nat} {o : LObj} (hb : b ≠ blk v) : Rd sz enc (h.set b o) v l := Row.set r hb
end Rd
end Go.L
