/- A LOGIC OVER THE LOGICAL MACHINE: answers with a postcondition, and the rules by which a function's instructions are run within 'simp'. -/
import Derived.Test.YtafbiejbnbocoaaDoorK
set_option linter.unusedVariables false
set_option linter.unusedSimpArgs false
namespace Go.L
open Go
inductive Mk {β : Type} (b : β) : Type | mk
inductive Mk2 (A B : Prop) : Type | mk
def WX {α : Type} (W : Nat → Prop) (x : Option (α × Heap × List Nat)) (Q : α → Heap → Prop) (t : Mk Q := .mk) : Prop := ∃ a h ws, x = some (a, h, ws) ∧ (∀ b ∈ ws, W b) ∧ Q a h
def W1 {α : Type} (x : Option α) (Q : α → Prop) (t : Mk Q := .mk) : Prop := ∃ v, x = some v ∧ Q v
def WO (W : Nat → Prop) (x : Out) (Q : Ex → Fr → Heap → Prop) (t : Mk Q := .mk) : Prop := ∃ e fr h ws, x = some (e, fr, h, ws) ∧ (∀ b ∈ ws, W b) ∧ Q e fr h
def WH (W : Nat → Prop) (x : Option (Heap × List Nat)) (Q : Heap → Prop) (t : Mk Q := .mk) : Prop := ∃ h ws, x = some (h, ws) ∧ (∀ b ∈ ws, W b) ∧ Q h
def WF {α : Type} (x : α) (Q : α → Prop) (t : Mk Q := .mk) : Prop := Q x
theorem WF_eq {α : Type} {x : α} {Q : α → Prop} : WF x Q = Q x := id rfl
def WC (v : Value) (A B : Prop) (t : Mk2 A B := .mk) : Prop := ∃ b, v = .bool b ∧ (b = true → A) ∧ (b = false → B)
def WG (v : Value) (want : Bool) (A B : Prop) (t : Mk2 A B := .mk) : Prop := match v with
  | .bool b => if b = want then A else B
  | .tuple vs => vs.isEmpty = true ∧ B
  | _ => False
theorem W1_some {α : Type} {v : α} {Q : α → Prop} : W1 (some v) Q = Q v := by simp [W1]
theorem WX_some {α : Type} {W : Nat → Prop} {a : α} {h : Heap} {Q : α → Heap → Prop} : WX W (some (a, h, [])) Q = Q a h :=
  propext ⟨fun ⟨_, _, _, e, _, hq⟩ => by cases e; exact hq, fun hq => ⟨_, _, _, rfl, ⟨(fun x hb => nomatch hb), hq⟩⟩⟩
theorem WX_some1 {α : Type} {W : Nat → Prop} {a : α} {h : Heap} {b : Nat} {Q : α → Heap → Prop} : WX W (some (a, h, [b])) Q = (W b ∧ Q a h) :=
  propext ⟨fun ⟨_, _, _, e, hw, hq⟩ => by cases e; exact ⟨hw _ (List.mem_singleton.2 rfl), hq⟩, fun hq => ⟨_, _, _, rfl, fun x hb => by rw [List.mem_singleton.1 hb]; exact hq.1, hq.2⟩⟩
theorem WH_some1 {W : Nat → Prop} {h : Heap} {b : Nat} {Q : Heap → Prop} : WH W (some (h, [b])) Q = (W b ∧ Q h) :=
  propext ⟨fun ⟨_, _, e, hw, hq⟩ => by cases e; exact ⟨hw _ (List.mem_singleton.2 rfl), hq⟩, fun hq => ⟨_, _, rfl, fun x hb => by rw [List.mem_singleton.1 hb]; exact hq.1, hq.2⟩⟩
theorem WO_some {W : Nat → Prop} {e : Ex} {fr : Fr} {h : Heap} {Q : Ex → Fr → Heap → Prop} : WO W (some (e, fr, h, [])) Q = Q e fr h :=
  propext ⟨fun ⟨_, _, _, _, e, _, hq⟩ => by cases e; exact hq, fun hq => ⟨_, _, _, _, rfl, ⟨(fun x hb => nomatch hb), hq⟩⟩⟩
theorem WC_true {A B : Prop} : WC (.bool true) A B = A := by simp [WC]
theorem WC_false {A B : Prop} : WC (.bool false) A B = B := by simp [WC]
theorem WC_dec {p : Prop} [Decidable p] {A B : Prop} (ha : p → A) (hb : ¬ p → B) : WC (.bool (decide p)) A B := by
  refine ⟨_, rfl, fun h => ha (by simpa using h), fun h => hb (by simpa using h)⟩
theorem WC_bool {b : Bool} {A B : Prop} (ha : b = true → A) (hb : b = false → B) : WC (.bool b) A B := ⟨_, rfl, ha, hb⟩
theorem WG_true {A B : Prop} : WG (.bool true) true A B = A := by simp [WG]
theorem WG_false {A B : Prop} : WG (.bool false) false A B = A := by simp [WG]
theorem WG_tf {A B : Prop} : WG (.bool true) false A B = B := by simp [WG]
theorem WG_ft {A B : Prop} : WG (.bool false) true A B = B := by simp [WG]
theorem WG_undef {A B : Prop} {b : Bool} : WG undef b A B = B := by simp [WG, undef]
theorem WG_dec {p : Prop} [Decidable p] {A B : Prop} (ha : p → A) (hb : ¬ p → B) : WG (.bool (decide p)) true A B := by
  by_cases h : p <;> simp [WG, h, ha, hb]
theorem WG_decF {p : Prop} [Decidable p] {A B : Prop} (ha : p → B) (hb : ¬ p → A) : WG (.bool (decide p)) false A B := by
  by_cases h : p <;> simp [WG, h, ha, hb]
theorem WG_bool {b : Bool} {A B : Prop} (ha : b = true → A) (hb : b = false → B) : WG (.bool b) true A B := by
  cases b <;> simp [WG, ha, hb]
theorem WG_boolF {b : Bool} {A B : Prop} (ha : b = true → B) (hb : b = false → A) : WG (.bool b) false A B := by
  cases b <;> simp [WG, ha, hb]
theorem WX.mono {α : Type} {W W' : Nat → Prop} {x : Option (α × Heap × List Nat)} {Q Q' : α → Heap → Prop} (h : WX W x Q) (hw : ∀ b, W b → W' b) (hq : ∀ a h, Q a h → Q' a h) : WX W' x Q' := by
  obtain ⟨a, h, ws, rfl, h1, h2⟩ := h; exact ⟨a, h, ws, rfl, fun b hb => hw b (h1 b hb), hq _ _ h2⟩
theorem WO.mono {W W' : Nat → Prop} {x : Out} {Q Q' : Ex → Fr → Heap → Prop} (h : WO W x Q) (hw : ∀ b, W b → W' b) (hq : ∀ e f h, Q e f h → Q' e f h) : WO W' x Q' := by
  obtain ⟨a, f, h, ws, rfl, h1, h2⟩ := h; exact ⟨a, f, h, ws, rfl, fun b hb => hw b (h1 b hb), hq _ _ _ h2⟩
theorem W1.mono {α : Type} {x : Option α} {Q Q' : α → Prop} (h : W1 x Q) (hq : ∀ a, Q a → Q' a) : W1 x Q' := by
  obtain ⟨a, rfl, h2⟩ := h; exact ⟨a, rfl, hq _ h2⟩
@[reducible] def i (d : Nat) (o : O) : Ins := ⟨some d, none, o, false, 0⟩
@[reducible] def k (o : O) : Ins := ⟨none, none, o, false, 0⟩
@[reducible] def w (d g : Nat) (b : Bool) (o : O) : Ins := ⟨some d, some (g, b), o, false, 0⟩
variable {W : Nat → Prop} {cf : CallT} {f : FF} {h : Heap} {r : List Ins}
def bindX {α β : Type} (x : Option (α × Heap × List Nat)) (k : α → Heap → Option (β × Heap × List Nat)) : Option (β × Heap × List Nat) := match x with
  | some (v, h', ws) => addw ws (k v h')
  | none => none
theorem WX_bind {α β : Type} {x : Option (α × Heap × List Nat)} {k : α → Heap → Option (β × Heap × List Nat)} {Q : β → Heap → Prop} :
    WX W (bindX x k) Q = WX W x (fun v h' => WX W (k v h') Q) := by
  apply propext
  constructor
  · rintro ⟨a, h, ws, e, hw, hq⟩
    unfold bindX at e
    split at e
    · rename_i v h' ws1
      cases hk : k v h' with
      | none => rw [hk] at e; simp [addw] at e
      | some t =>
        obtain ⟨a2, h2, ws2⟩ := t
        rw [hk] at e
        simp only [addw, Option.some.injEq, Prod.mk.injEq] at e
        obtain ⟨rfl, rfl, rfl⟩ := e
        exact ⟨v, h', ws1, rfl, fun b hb => hw b (by simp [hb]), _, _, ws2, hk, fun b hb => hw b (by simp [hb]), hq⟩
    · cases e
  · rintro ⟨a, h, ws, rfl, hw, a2, h2, ws2, hk, hw2, hq⟩
    refine ⟨a2, h2, ws ++ ws2, ?_, fun b hb => ?_, hq⟩
    · simp only [bindX, hk]; rfl
    · rcases List.mem_append.1 hb with hb | hb
      · exact hw b hb
      · exact hw2 b hb
theorem run_nil {Q : FF → Heap → Prop} : WX W (runN cf [] f h) Q = Q f h := WX_some
theorem run_i {d : Nat} {o : O} {Q : FF → Heap → Prop} : WX W (runN cf (⟨some d, none, o, false, 0⟩ :: r) f h) Q = WX W (opN cf f h o) (fun v h' => WX W (runN cf r (upd f d v) h') Q) := by
  simp only [runN, wanted, putD]; rw [← WX_bind (k := fun v h' => runN cf r (upd f d v) h')]; congr 1; cases opN cf f h o <;> rfl
theorem run_k {o : O} {Q : FF → Heap → Prop} : WX W (runN cf (⟨none, none, o, false, 0⟩ :: r) f h) Q = WX W (opN cf f h o) (fun _ h' => WX W (runN cf r f h') Q) := by
  simp only [runN, wanted, putD]; rw [← WX_bind (k := fun _ h' => runN cf r f h')]; congr 1; cases opN cf f h o <;> rfl
theorem run_w {d g : Nat} {b : Bool} {o : O} {Q : FF → Heap → Prop} : WX W (runN cf (⟨some d, some (g, b), o, false, 0⟩ :: r) f h) Q = WG (f g) b (WX W (opN cf f h o) (fun v h' => WX W (runN cf r (upd f d v) h') Q)) (WX W (runN cf r (upd f d undef) h) Q) := by
  simp only [runN, wanted, putD]
  unfold WG
  cases hg : f g <;> simp only [] <;> try (apply propext; constructor <;> (first | (rintro ⟨_, _, _, e, _⟩; cases e) | (intro h; exact h.elim)))
  · rename_i b'
    by_cases hb : b' = b
    · subst hb; simp only [beq_self_eq_true, if_true]; rw [← WX_bind (k := fun v h' => runN cf r (upd f d v) h')]; congr 1; cases opN cf f h o <;> rfl
    · have : (b' == b) = false := by simpa using hb
      simp [this, hb]
  · rename_i vs
    cases hv : vs.isEmpty
    · simp only [Bool.false_eq_true, false_and]
      apply propext
      constructor
      · rintro ⟨_, _, _, e, _⟩; cases e
      · intro h; exact h.elim
    · simp
theorem run_wk {g : Nat} {b : Bool} {o : O} {Q : FF → Heap → Prop} : WX W (runN cf (⟨none, some (g, b), o, false, 0⟩ :: r) f h) Q = WG (f g) b (WX W (opN cf f h o) (fun v h' => WX W (runN cf r f h') Q)) (WX W (runN cf r f h) Q) := by
  simp only [runN, wanted, putD]
  unfold WG
  cases hg : f g <;> simp only [] <;> try (apply propext; constructor <;> (first | (rintro ⟨_, _, _, e, _⟩; cases e) | (intro h; exact h.elim)))
  · rename_i b'
    by_cases hb : b' = b
    · subst hb; simp only [beq_self_eq_true, if_true]; rw [← WX_bind (k := fun _ h' => runN cf r f h')]; congr 1; cases opN cf f h o <;> rfl
    · have : (b' == b) = false := by simpa using hb
      simp [this, hb]
  · rename_i vs
    cases hv : vs.isEmpty
    · simp only [Bool.false_eq_true, false_and]
      apply propext
      constructor
      · rintro ⟨_, _, _, e, _⟩; cases e
      · intro h; exact h.elim
    · simp
theorem W1_some' {α : Type} {v : α} {p : Prop} {Q : α → Prop} (h : p = Q v) : p = W1 (some v) Q := by rw [W1_some, h]
theorem op_P {o : O} {Q : Value → Heap → Prop} (hc : cls o = .P) : WX W (opN cf f h o) Q = W1 (pureV f o) (fun v => Q v h) := by
  unfold opN; rw [hc]; dsimp only
  cases pureV f o with
  | none => apply propext; constructor <;> rintro ⟨_, h⟩ <;> simp at h
  | some v => exact WX_some.trans (W1_some' rfl)
theorem op_M {o : O} {Q : Value → Heap → Prop} (hc : cls o = .M) : WX W (opN cf f h o) Q = W1 (memV f h o) (fun v => Q v h) := by
  unfold opN; rw [hc]; dsimp only
  cases memV f h o with
  | none => apply propext; constructor <;> rintro ⟨_, h⟩ <;> simp at h
  | some v => exact WX_some.trans (W1_some' rfl)
theorem op_A {o : O} {Q : Value → Heap → Prop} (hc : cls o = .A) : WX W (opN cf f h o) Q = W1 (newV f o) (fun n => WF (n.2 h.length) (fun v => WF (h ++ [n.1]) (fun h' => Q v h'))) := by
  unfold opN; rw [hc]; dsimp only
  cases newV f o with
  | none => apply propext; constructor <;> rintro ⟨_, h⟩ <;> simp at h
  | some v => exact WX_some.trans (W1_some' rfl)
theorem op_E {o : O} {Q : Value → Heap → Prop} (hc : cls o = .E) : WX W (opN cf f h o) Q = WX W (effV f h o) Q := by
  unfold opN; rw [hc]
theorem op_st {n : Nat} {a v : X} {Q : Value → Heap → Prop} : WX W (opN cf f h (.st n a v)) Q = WH W (storeV n (ev f a) (ev f v) h) (fun h' => Q undef h') := by
  unfold opN; simp only [cls]
  cases storeV n (ev f a) (ev f v) h with
  | none => apply propext; constructor <;> rintro ⟨_, _, h⟩ <;> simp at h
  | some v => obtain ⟨h', ws⟩ := v; exact propext ⟨fun ⟨_, _, _, e, hw, hq⟩ => by cases e; exact ⟨_, _, rfl, hw, hq⟩, fun ⟨_, _, e, hw, hq⟩ => by cases e; exact ⟨_, _, _, rfl, hw, hq⟩⟩
theorem op_call {g : X} {args : List X} {Q : Value → Heap → Prop} : WX W (opN cf f h (.call g args)) Q = WX W (cf (ev f g) (args.map (ev f)) h) Q := rfl
variable {it : It} {sz : Nat} {fr : Fr}
theorem WO_thenN {x : Out} {k : Fr → Heap → Out} {Q : Ex → Fr → Heap → Prop} : WO W (thenN x k) Q = WO W x (fun e fr' h' => match e with | .normal => WO W (k fr' h') Q | e => Q e fr' h') := by
  apply propext
  constructor
  · rintro ⟨e, fr', h', ws, hx, hw, hq⟩
    simp only [thenN] at hx
    split at hx
    · rename_i fr1 h1 ws1
      split at hx
      · rename_i e2 fr2 h2 ws2 hk
        simp only [Option.some.injEq, Prod.mk.injEq] at hx
        obtain ⟨rfl, rfl, rfl, rfl⟩ := hx
        exact ⟨_, _, _, _, rfl, fun b hb => hw b (by simp [hb]), _, _, _, _, hk, fun b hb => hw b (by simp [hb]), hq⟩
      · cases hx
    · rename_i hn
      subst hx
      refine ⟨_, _, _, _, rfl, hw, ?_⟩
      cases e with
      | normal => exact absurd rfl (hn _ _ _)
      | exit _ => exact hq
      | ret => exact hq
  · rintro ⟨e, fr', h', ws, rfl, hw, hq⟩
    cases e with
    | normal =>
      obtain ⟨e2, fr2, h2, ws2, hk, hw2, hq⟩ := hq
      refine ⟨e2, fr2, h2, ws ++ ws2, by simp only [thenN, hk], fun b hb => ?_, hq⟩
      rcases List.mem_append.1 hb with hb | hb
      · exact hw b hb
      · exact hw2 b hb
    | exit _ => exact ⟨_, _, _, _, rfl, hw, hq⟩
    | ret => exact ⟨_, _, _, _, rfl, hw, hq⟩
theorem co_seq {a b : C} {Q : Ex → Fr → Heap → Prop} : WO W (code cf it sz (.seq a b) fr h) Q = WO W (code cf it sz a fr h) (fun e fr' h' => match e with | .normal => WO W (code cf it sz b fr' h') Q | e => Q e fr' h') := WO_thenN
theorem co_skip {Q : Ex → Fr → Heap → Prop} : WO W (code cf it sz .skip fr h) Q = Q .normal fr h := WO_some
theorem co_exit {id : Nat} {Q : Ex → Fr → Heap → Prop} : WO W (code cf it sz (.exit id) fr h) Q = Q (.exit id) fr h := WO_some
theorem co_ret {Q : Ex → Fr → Heap → Prop} : WO W (code cf it sz .ret fr h) Q = Q .ret fr h := WO_some
def frm (live : List Nat) (f : FF) : Fr := live.map fun s => (s, f s)
theorem frm_nil {f : FF} : frm [] f = [] := id rfl
theorem frm_cons {s : Nat} {l : List Nat} {f : FF} : frm (s :: l) f = (s, f s) :: frm l f := id rfl
theorem WO_reg {live : List Nat} {x : Option (FF × Heap × List Nat)} {Q : Ex → Fr → Heap → Prop} : WO W (regO live x) Q = WX W x (fun f h' => WF (frm live f) (fun fr' => Q .normal fr' h')) := by
  cases x with
  | none => apply propext; constructor <;> rintro ⟨_, _, _, h⟩ <;> simp [regO] at h
  | some v => obtain ⟨f, h, ws⟩ := v; exact propext ⟨fun ⟨_, _, _, _, e, hw, hq⟩ => by cases e; exact ⟨_, _, _, rfl, hw, hq⟩, fun ⟨_, _, _, e, hw, hq⟩ => by cases e; exact ⟨_, _, _, _, rfl, hw, hq⟩⟩
theorem co_reg {live : List Nat} {ins : List Ins} {Q : Ex → Fr → Heap → Prop} : WO W (code cf it sz (.reg live ins) fr h) Q = WX W (runN cf ins (get fr) h) (fun f h' => WF (frm live f) (fun fr' => Q .normal fr' h')) := WO_reg
theorem co_drw {live : List Nat} {n : Nat} {ins : List Ins} {Q : Ex → Fr → Heap → Prop} : WO W (code cf it sz (.drw live n ins) fr h) Q = WX W (runD cf h.length ins (get fr) (room h n)) (fun f h' => WF (frm live f) (fun fr' => Q .normal fr' h')) := WO_reg
theorem co_cond {x : X} {a b : C} {Q : Ex → Fr → Heap → Prop} : WO W (code cf it sz (.cond x a b) fr h) Q = WC (ev (get fr) x) (WO W (code cf it sz a fr h) Q) (WO W (code cf it sz b fr h) Q) := by
  have e : code cf it sz (.cond x a b) fr h = condO (ev (get fr) x) (code cf it sz a fr h) (code cf it sz b fr h) := rfl
  rw [e]
  apply propext
  unfold condO WC
  constructor
  · intro hq
    split at hq
    · rename_i t ht
      refine ⟨_, ht, ?_, ?_⟩
      · intro e; simpa [e] using hq
      · intro e; simpa [e] using hq
    · obtain ⟨_, _, _, _, e, _⟩ := hq; cases e
  · rintro ⟨t, ht, h1, h2⟩
    rw [ht]
    cases t
    · exact h2 rfl
    · exact h1 rfl
theorem WO_inBlock {id : Nat} {x : Out} {Q : Ex → Fr → Heap → Prop} : WO W (inBlock id x) Q = WO W x (fun e fr' h' => match e with | .exit j => if j = id then Q .normal fr' h' else Q (.exit j) fr' h' | e => Q e fr' h') := by
  apply propext
  cases x with
  | none => constructor <;> rintro ⟨_, _, _, _, h, _⟩ <;> simp [inBlock] at h
  | some t =>
    obtain ⟨e, fr, h, ws⟩ := t
    cases e with
    | exit j =>
      by_cases hj : j = id
      · simp only [inBlock, hj, if_true]
        exact ⟨fun ⟨_, _, _, _, e, hw, hq⟩ => by cases e; exact ⟨_, _, _, _, rfl, hw, by simpa [hj] using hq⟩, fun ⟨_, _, _, _, e, hw, hq⟩ => by cases e; exact ⟨_, _, _, _, rfl, hw, by simpa [hj] using hq⟩⟩
      · simp only [inBlock, hj, if_false]
        exact ⟨fun ⟨_, _, _, _, e, hw, hq⟩ => by cases e; exact ⟨_, _, _, _, rfl, hw, by simpa [hj] using hq⟩, fun ⟨_, _, _, _, e, hw, hq⟩ => by cases e; exact ⟨_, _, _, _, rfl, hw, by simpa [hj] using hq⟩⟩
    | normal => exact ⟨fun ⟨_, _, _, _, e, hw, hq⟩ => by cases e; exact ⟨_, _, _, _, rfl, hw, hq⟩, fun ⟨_, _, _, _, e, hw, hq⟩ => by cases e; exact ⟨_, _, _, _, rfl, hw, hq⟩⟩
    | ret => exact ⟨fun ⟨_, _, _, _, e, hw, hq⟩ => by cases e; exact ⟨_, _, _, _, rfl, hw, hq⟩, fun ⟨_, _, _, _, e, hw, hq⟩ => by cases e; exact ⟨_, _, _, _, rfl, hw, hq⟩⟩
theorem co_block {id : Nat} {b : C} {Q : Ex → Fr → Heap → Prop} : WO W (code cf it sz (.block id b) fr h) Q = WO W (code cf it sz b fr h) (fun e fr' h' => match e with | .exit j => if j = id then Q .normal fr' h' else Q (.exit j) fr' h' | e => Q e fr' h') := WO_inBlock
theorem co_loop {b : C} {Q : Ex → Fr → Heap → Prop} : WO W (code cf it sz (.loop b) fr h) Q = WO W (it (code cf it sz b) fr h) Q := rfl
def Next {α : Type} (I : α → Fr → Heap → Prop) (μ : α → Nat) (a : α) (fr : Fr) (h : Heap) (t : Mk (I, μ, a) := .mk) : Prop := ∃ a', I a' fr h ∧ μ a' < μ a
theorem Next.mk {α : Type} {I : α → Fr → Heap → Prop} {μ : α → Nat} {a : α} {fr : Fr} {h : Heap} (a' : α) (hi : I a' fr h) (hm : μ a' < μ a) : Next I μ a fr h := ⟨a', hi, hm⟩
theorem WO.loop {α : Type} (I : α → Fr → Heap → Prop) (μ : α → Nat) {F : Fr → Heap → Out} {Q : Ex → Fr → Heap → Prop}
    (step : ∀ a fr h, I a fr h → WO W (F fr h) (fun e fr' h' => match e with | .normal => Next I μ a fr' h' | e => Q e fr' h')) :
    ∀ (a : α) {fr : Fr} {h : Heap}, I a fr h → WO W (iterW F fr h) Q := by
  have key : ∀ n a fr h, μ a ≤ n → I a fr h → WO W (iterW F fr h) Q := by
    intro n
    induction n with
    | zero =>
      intro a fr h hm hi
      rw [iterW_eq, WO_thenN]
      refine (step a fr h hi).mono (fun _ h => h) fun e f h hq => ?_
      cases e with
      | normal => obtain ⟨a', _, hl⟩ := hq; omega
      | exit _ => exact hq
      | ret => exact hq
    | succ n ih =>
      intro a fr h hm hi
      rw [iterW_eq, WO_thenN]
      refine (step a fr h hi).mono (fun _ h => h) fun e f h hq => ?_
      cases e with
      | normal => obtain ⟨a', hi', hl⟩ := hq; exact ih a' f h (by omega) hi'
      | exit _ => exact hq
      | ret => exact hq
  intro a fr h hi
  exact key (μ a) a fr h (Nat.le_refl _) hi
theorem callW_text {E : Env} {g : FuncId} {c : FnC} (hf : E g = .text c) (args : List Value) (h : Heap) : callW E (.func (.func g) #[] #[]) args h = callF (callW E) iterW (.text c) args h := by
  rw [callW_eq]; simp [callG, hf]
theorem callW_func {E : Env} {g : FuncId} {c : FnC} (hf : E g = .text c) (a b : Array Value) (args : List Value) (h : Heap) : callW E (.func (.func g) a b) args h = callF (callW E) iterW (.text c) (a.toList ++ args ++ b.toList) h := by
  rw [callW_eq]; simp [callG, hf]
def Res (res : List R) (Q : Value → Heap → Prop) (e : Ex) (fr : Fr) (h : Heap) : Prop := match e with
  | .exit _ => False
  | _ => W1 (resL fr h res) fun vs => Q (resV vs) h
theorem Res_ret {res : List R} {Q : Value → Heap → Prop} {fr : Fr} {h : Heap} : Res res Q .ret fr h = W1 (resL fr h res) fun vs => Q (resV vs) h := rfl
theorem Res_normal {res : List R} {Q : Value → Heap → Prop} {fr : Fr} {h : Heap} : Res res Q .normal fr h = W1 (resL fr h res) fun vs => Q (resV vs) h := rfl
theorem filter_none {ws : List Nat} {m : Nat} (h : ∀ b ∈ ws, m ≤ b) : ws.filter (fun b => decide (b < m)) = [] := by
  rw [List.filter_eq_nil_iff]; intro b hb; have := h b hb; simp; omega
theorem fn_same {E : Env} {g : FuncId} {c : FnC} (hE : E g = .text c) {sz : Nat} {res : List R} {body : C} (hc : c = ⟨sz, res, body⟩) {args : List Value} {h : Heap} {v : Value} (hl : args.length ≤ sz)
    (hb : WO (fun b => h.length ≤ b) (code (callW E) iterW sz body (argsF args 0) h) (Res res fun v' _ => noNew h.length 4 v = true ∧ v' = v)) :
    callW E (.func (.func g) #[] #[]) args h = some (v, h, []) := by
  subst hc
  rw [callW_text hE]
  obtain ⟨e, fr, h', ws, he, hw, hq⟩ := hb
  have hfin : ∀ e', Res res (fun v' _ => noNew h.length 4 v = true ∧ v' = v) e' fr h' → fin res h (some (e', fr, h', ws)) = some (v, h, []) := by
    intro e' hr
    cases e' with
    | exit _ => exact hr.elim
    | normal => obtain ⟨vs, h1, h2, rfl⟩ := hr; simp [fin, h1, gc, filter_none hw, h2]
    | ret => obtain ⟨vs, h1, h2, rfl⟩ := hr; simp [fin, h1, gc, filter_none hw, h2]
  simp only [callF, hl, if_true]
  rw [he]
  exact hfin e hq
theorem callW_textK {E : Env} {g : FuncId} {c : FnC} (hf : E g = .textK c) (a b : Array Value) (args : List Value) (h : Heap) : callW E (.func (.func g) a b) args h = callF (callW E) iterW (.textK c) (a.toList ++ args ++ b.toList) h := by
  rw [callW_eq]; simp [callG, hf]
theorem fn_all {E : Env} {g : FuncId} {c : FnC} (hE : E g = .textK c) {sz : Nat} {res : List R} {body : C} (hc : c = ⟨sz, res, body⟩) {a b : Array Value} {args : List Value} {h : Heap} {W : Nat → Prop} {Q : Value → Heap → Prop} (hl : (a.toList ++ args ++ b.toList).length ≤ sz)
    (hb : WO W (code (callW E) iterW sz body (argsF (a.toList ++ args ++ b.toList) 0) h) (Res res Q)) : WX W (callW E (.func (.func g) a b) args h) Q := by
  subst hc
  rw [callW_textK hE]
  obtain ⟨e, fr, h', ws, he, hw, hq⟩ := hb
  simp only [callF, hl, if_true]
  rw [he]
  cases e with
  | exit _ => exact hq.elim
  | normal => obtain ⟨vs, h1, h2⟩ := hq; exact ⟨_, _, _, by simp [finK, h1], hw, h2⟩
  | ret => obtain ⟨vs, h1, h2⟩ := hq; exact ⟨_, _, _, by simp [finK, h1], hw, h2⟩
end Go.L
