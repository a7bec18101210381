/- A LOGIC OVER THE LOGICAL MACHINE: answers with a postcondition, and the rules by which a function's instructions are run within 'simp'. -/
import Derived.Test.YtnanlkamcgihlaaDoorK
set_option linter.unusedVariables false
set_option linter.unusedSimpArgs false
namespace Go.L
open Go
inductive Mk {β : Type} (b:β):Type | mk
inductive Mk2 (A B:Prop):Type | mk
def WX {α : Type} (W:Nat → Prop) (x:Option (α × Aa × List Nat)) (Q:α → Aa → Prop) (t:Mk Q:=.mk):Prop:=∃ a h ws,x = some (a,h,ws) ∧ (∀ b ∈ ws,W b) ∧ Q a h
def W1 {α : Type} (x:Option α) (Q:α → Prop) (t:Mk Q:=.mk):Prop:=∃ v,x = some v ∧ Q v
def WO (W:Nat → Prop) (x:Out) (Q:Ex → Fr → Aa → Prop) (t:Mk Q:=.mk):Prop:=∃ e fr h ws,x = some (e,fr,h,ws) ∧ (∀ b ∈ ws,W b) ∧ Q e fr h
def WH (W:Nat → Prop) (x:Option (Aa × List Nat)) (Q:Aa → Prop) (t:Mk Q:=.mk):Prop:=∃ h ws,x = some (h,ws) ∧ (∀ b ∈ ws,W b) ∧ Q h
def WF {α : Type} (x:α) (Q:α → Prop) (t:Mk Q:=.mk):Prop:=Q x
theorem Azj {α : Type} {x:α} {Q:α → Prop}:WF x Q = Q x:=id rfl
def WC (v:Value) (A B:Prop) (t:Mk2 A B:=.mk):Prop:=∃ b,v = .bool b ∧ (b = true → A) ∧ (b = false → B)
def WG (v:Value) (want:Bool) (A B:Prop) (t:Mk2 A B:=.mk):Prop:=match v with
 | .bool b => if b = want then A else B
 | .tuple vs => vs.isEmpty = true ∧ B
 | _ => False
theorem Ae9 {α : Type} {v:α} {Q:α → Prop}:W1 (some v) Q = Q v:=by simp [W1]
theorem WX_some {α : Type} {W:Nat → Prop} {a:α} {h:Aa} {Q:α → Aa → Prop}:WX W (some (a,h,[])) Q = Q a h :=
 propext ⟨fun ⟨_,_,_,e,_,hq⟩ => by cases e;exact hq,fun hq => ⟨_,_,_,rfl,⟨(fun x hb => nomatch hb),hq⟩⟩⟩
theorem Ajb {α : Type} {W:Nat → Prop} {a:α} {h:Aa} {b:Nat} {Q:α → Aa → Prop}:WX W (some (a,h,[b])) Q = (W b ∧ Q a h) :=
 propext ⟨fun ⟨_,_,_,e,hw,hq⟩ => by cases e;exact ⟨hw _ (List.mem_singleton.2 rfl),hq⟩,fun hq => ⟨_,_,_,rfl,fun x hb => by rw [List.mem_singleton.1 hb];exact hq.1,hq.2⟩⟩
theorem Abk {W:Nat → Prop} {h:Aa} {b:Nat} {Q:Aa → Prop}:WH W (some (h,[b])) Q = (W b ∧ Q h) :=
 propext ⟨fun ⟨_,_,e,hw,hq⟩ => by cases e;exact ⟨hw _ (List.mem_singleton.2 rfl),hq⟩,fun hq => ⟨_,_,rfl,fun x hb => by rw [List.mem_singleton.1 hb];exact hq.1,hq.2⟩⟩
theorem Wb {W:Nat → Prop} {e:Ex} {fr:Fr} {h:Aa} {Q:Ex → Fr → Aa → Prop}:WO W (some (e,fr,h,[])) Q = Q e fr h :=
 propext ⟨fun ⟨_,_,_,_,e,_,hq⟩ => by cases e;exact hq,fun hq => ⟨_,_,_,_,rfl,⟨(fun x hb => nomatch hb),hq⟩⟩⟩
theorem Ao0 {A B:Prop}:WC (.bool true) A B = A:=by simp [WC]
theorem Ajf {A B:Prop}:WC (.bool false) A B = B:=by simp [WC]
theorem Awa {p:Prop} [Decidable p] {A B:Prop} (ha:p → A) (hb:¬ p → B):WC (.bool (decide p)) A B:=by
 refine ⟨_,rfl,fun h => ha (by simpa using h),fun h => hb (by simpa using h)⟩
theorem Ao1 {b:Bool} {A B:Prop} (ha:b = true → A) (hb:b = false → B):WC (.bool b) A B:=⟨_,rfl,ha,hb⟩
theorem Aoy {A B:Prop}:WG (.bool true) true A B = A:=by simp [WG]
theorem Ajd {A B:Prop}:WG (.bool false) false A B = A:=by simp [WG]
theorem Azh {A B:Prop}:WG (.bool true) false A B = B:=by simp [WG]
theorem Azi {A B:Prop}:WG (.bool false) true A B = B:=by simp [WG]
theorem Ajc {A B:Prop} {b:Bool}:WG undef b A B = B:=by simp [WG,undef]
theorem Av9 {p:Prop} [Decidable p] {A B:Prop} (ha:p → A) (hb:¬ p → B):WG (.bool (decide p)) true A B:=by
 by_cases h:p <;> simp [WG,h,ha,hb]
theorem Aoz {p:Prop} [Decidable p] {A B:Prop} (ha:p → B) (hb:¬ p → A):WG (.bool (decide p)) false A B:=by
 by_cases h:p <;> simp [WG,h,ha,hb]
theorem Aje {b:Bool} {A B:Prop} (ha:b = true → B) (hb:b = false → A):WG (.bool b) false A B:=by
 cases b <;> simp [WG,ha,hb]
theorem WX.mono {α : Type} {W W':Nat → Prop} {x:Option (α × Aa × List Nat)} {Q Q':α → Aa → Prop} (h:WX W x Q) (hw:∀ b,W b → W' b) (hq:∀ a h,Q a h → Q' a h):WX W' x Q':=by
 obtain ⟨a,h,c,rfl,d,h2⟩:=h;exact ⟨a,h,c,rfl,fun b e => hw b (d b e),hq _ _ h2⟩
theorem WO.mono {W W':Nat → Prop} {x:Out} {Q Q':Ex → Fr → Aa → Prop} (h:WO W x Q) (hw:∀ b,W b → W' b) (hq:∀ e f h,Q e f h → Q' e f h):WO W' x Q':=by
 obtain ⟨a,f,h,c,rfl,d,h2⟩:=h;exact ⟨a,f,h,c,rfl,fun b g => hw b (d b g),hq _ _ _ h2⟩
theorem W1.mono {α : Type} {x:Option α} {Q Q':α → Prop} (h:W1 x Q) (hq:∀ a,Q a → Q' a):W1 x Q':=by
 obtain ⟨a,rfl,h2⟩:=h;exact ⟨a,rfl,hq _ h2⟩
@[reducible] def i (d:Nat) (o:O):Ins:=⟨some d,none,o,false,0,false⟩
@[reducible] def k (o:O):Ins:=⟨none,none,o,false,0,false⟩
@[reducible] def w (d g:Nat) (b:Bool) (o:O):Ins:=⟨some d,some (g,b),o,false,0,false⟩
variable {W:Nat → Prop} {cf:A0} {f:FF} {h:Aa} {r:List Ins}
def Avt {α β : Type} (x:Option (α × Aa × List Nat)) (k:α → Aa → Option (β × Aa × List Nat)):Option (β × Aa × List Nat):=match x with
 | some (v,h',ws) => addw ws (k v h')
 | none => none
theorem Oa {α β : Type} {x:Option (α × Aa × List Nat)} {k:α → Aa → Option (β × Aa × List Nat)} {Q:β → Aa → Prop} :
  WX W (Avt x k) Q = WX W x (fun v h' => WX W (k v h') Q):=by
 apply propext
 constructor
 ·rintro ⟨a,h,m,e,f,j⟩
  unfold Avt at e
  split at e
  ·rename_i v h' g
   cases d:k v h' with
   | none => rw [d] at e;simp [addw] at e
   | some t =>
    obtain ⟨n,h2,c⟩:=t
    rw [d] at e
    simp only [addw,OI,Prod.mk.injEq] at e
    obtain ⟨rfl,rfl,rfl⟩:=e
    exact ⟨v,h',g,rfl,fun b hb => f b (by simp [hb]),_,_,c,d,fun b hb => f b (by simp [hb]),j⟩
  ·cases e
 ·rintro ⟨a,h,m,rfl,f,n,h2,c,d,l,j⟩
  refine ⟨n,h2,m ++ c,?_,fun b hb => ?_,j⟩
  ·simp only [Avt,d];rfl
  ·rcases List.mem_append.1 hb with hb | hb
   ·exact f b hb
   ·exact l b hb
theorem Aln {Q:FF → Aa → Prop}:WX W (Ey cf [] f h) Q = Q f h:=WX_some
theorem Ayp {d:Nat} {o:O} {Q:FF → Aa → Prop}:WX W (Ey cf (⟨some d,none,o,false,0,false⟩ :: r) f h) Q = WX W (opN cf f h o) (fun v h' => WX W (Ey cf r (upd f d v) h') Q):=by
 simp only [Ey,wanted,G9];rw [← Oa (k:=fun v h' => Ey cf r (upd f d v) h')];congr 1;cases opN cf f h o <;> rfl
theorem Ayo {o:O} {Q:FF → Aa → Prop}:WX W (Ey cf (⟨none,none,o,false,0,false⟩ :: r) f h) Q = WX W (opN cf f h o) (fun _ h' => WX W (Ey cf r f h') Q):=by
 simp only [Ey,wanted,G9];rw [← Oa (k:=fun _ h' => Ey cf r f h')];congr 1;cases opN cf f h o <;> rfl
theorem Ayn {d g:Nat} {b:Bool} {o:O} {Q:FF → Aa → Prop}:WX W (Ey cf (⟨some d,some (g,b),o,false,0,false⟩ :: r) f h) Q = WG (f g) b (WX W (opN cf f h o) (fun v h' => WX W (Ey cf r (upd f d v) h') Q)) (WX W (Ey cf r (upd f d undef) h) Q):=by
 simp only [Ey,wanted,G9]
 unfold WG
 cases hg:f g <;> simp only [] <;> try (apply propext;constructor <;> (first | (rintro ⟨_,_,_,e,_⟩;cases e) | (intro h;exact h.elim)))
 ·rename_i c
  by_cases a:c = b
  ·subst a;simp only [beq_self_eq_true,if_true];rw [← Oa (k:=fun v h' => Ey cf r (upd f d v) h')];congr 1;cases opN cf f h o <;> rfl
  ·have:(c == b) = false:=by simpa using a
   simp [this,a]
 ·rename_i j
  cases hv:j.isEmpty
  ·simp only [Bool.false_eq_true,false_and]
   apply propext
   constructor
   ·rintro ⟨_,_,_,e,_⟩;cases e
   ·intro h;exact h.elim
  ·simp
theorem Ase {g:Nat} {b:Bool} {o:O} {Q:FF → Aa → Prop}:WX W (Ey cf (⟨none,some (g,b),o,false,0,false⟩ :: r) f h) Q = WG (f g) b (WX W (opN cf f h o) (fun v h' => WX W (Ey cf r f h') Q)) (WX W (Ey cf r f h) Q):=by
 simp only [Ey,wanted,G9]
 unfold WG
 cases hg:f g <;> simp only [] <;> try (apply propext;constructor <;> (first | (rintro ⟨_,_,_,e,_⟩;cases e) | (intro h;exact h.elim)))
 ·rename_i c
  by_cases a:c = b
  ·subst a;simp only [beq_self_eq_true,if_true];rw [← Oa (k:=fun _ h' => Ey cf r f h')];congr 1;cases opN cf f h o <;> rfl
  ·have:(c == b) = false:=by simpa using a
   simp [this,a]
 ·rename_i d
  cases hv:d.isEmpty
  ·simp only [Bool.false_eq_true,false_and]
   apply propext
   constructor
   ·rintro ⟨_,_,_,e,_⟩;cases e
   ·intro h;exact h.elim
  ·simp
theorem Nl {α : Type} {v:α} {p:Prop} {Q:α → Prop} (h:p = Q v):p = W1 (some v) Q:=by rw [Ae9,h]
theorem Ma {o:O} {Q:Value → Aa → Prop} (hc:cls o = .P):WX W (opN cf f h o) Q = W1 (Ax f o) (fun v => Q v h):=by
 unfold opN;rw [hc];dsimp only
 cases Ax f o with
 | none => apply propext;constructor <;> rintro ⟨_,h⟩ <;> simp at h
 | some v => exact WX_some.trans (Nl rfl)
theorem Axf {o:O} {Q:Value → Aa → Prop} (hc:cls o = .M):WX W (opN cf f h o) Q = W1 (Fw f h o) (fun v => Q v h):=by
 unfold opN;rw [hc];dsimp only
 cases Fw f h o with
 | none => apply propext;constructor <;> rintro ⟨_,h⟩ <;> simp at h
 | some v => exact WX_some.trans (Nl rfl)
theorem Aki {o:O} {Q:Value → Aa → Prop} (hc:cls o = .A):WX W (opN cf f h o) Q = W1 (Jh f o) (fun n => WF (n.2 h.length) (fun v => WF (h ++ [n.1]) (fun h' => Q v h'))):=by
 unfold opN;rw [hc];dsimp only
 cases Jh f o with
 | none => apply propext;constructor <;> rintro ⟨_,h⟩ <;> simp at h
 | some v => exact WX_some.trans (Nl rfl)
theorem Aty {o:O} {Q:Value → Aa → Prop} (hc:cls o = .E):WX W (opN cf f h o) Q = WX W (Mg f h o) Q:=by
 unfold opN;rw [hc]
theorem Ay0 {n:Nat} {a v:X} {Q:Value → Aa → Prop}:WX W (opN cf f h (.st n a v)) Q = WH W (Fk n (ev f a) (ev f v) h) (fun h' => Q undef h'):=by
 unfold opN;simp only [cls]
 cases Fk n (ev f a) (ev f v) h with
 | none => apply propext;constructor <;> rintro ⟨_,_,h⟩ <;> simp at h
 | some v => obtain ⟨h',g⟩:=v;exact propext ⟨fun ⟨_,_,_,e,c,d⟩ => by cases e;exact ⟨_,_,rfl,c,d⟩,fun ⟨_,_,e,c,d⟩ => by cases e;exact ⟨_,_,_,rfl,c,d⟩⟩
theorem Am1 {g:X} {args:List X} {Q:Value → Aa → Prop}:WX W (opN cf f h (.call g args)) Q = WX W (cf (ev f g) (args.map (ev f)) h) Q:=rfl
variable {it:It} {sz:Nat} {fr:Fr}
theorem Abj {x:Out} {k:Fr → Aa → Out} {Q:Ex → Fr → Aa → Prop}:WO W (Ew x k) Q = WO W x (fun e fr' h' => match e with | .normal => WO W (k fr' h') Q | e => Q e fr' h'):=by
 apply propext
 constructor
 ·rintro ⟨e,fr',h',m,d,c,a⟩
  simp only [Ew] at d
  split at d
  ·rename_i r s o
   split at d
   ·rename_i n f h2 g j
    simp only [OI,Prod.mk.injEq] at d
    obtain ⟨rfl,rfl,rfl,rfl⟩:=d
    exact ⟨_,_,_,_,rfl,fun b hb => c b (by simp [hb]),_,_,_,_,j,fun b hb => c b (by simp [hb]),a⟩
   ·cases d
  ·rename_i p
   subst d
   refine ⟨_,_,_,_,rfl,c,?_⟩
   cases e with
   | normal => exact absurd rfl (p _ _ _)
   | exit _ => exact a
   | ret => exact a
 ·rintro ⟨e,fr',h',m,rfl,c,a⟩
  cases e with
  | normal =>
   obtain ⟨n,f,h2,g,j,l,a⟩:=a
   refine ⟨n,f,h2,m ++ g,by simp only [Ew,j],fun b hb => ?_,a⟩
   rcases List.mem_append.1 hb with hb | hb
   ·exact c b hb
   ·exact l b hb
  | exit _ => exact ⟨_,_,_,_,rfl,c,a⟩
  | ret => exact ⟨_,_,_,_,rfl,c,a⟩
theorem Ae0 {a b:C} {Q:Ex → Fr → Aa → Prop}:WO W (code cf it sz (.seq a b) fr h) Q = WO W (code cf it sz a fr h) (fun e fr' h' => match e with | .normal => WO W (code cf it sz b fr' h') Q | e => Q e fr' h'):=Abj
theorem An9 {Q:Ex → Fr → Aa → Prop}:WO W (code cf it sz .skip fr h) Q = Q .normal fr h:=Wb
theorem Aoa {id:Nat} {Q:Ex → Fr → Aa → Prop}:WO W (code cf it sz (.exit id) fr h) Q = Q (.exit id) fr h:=Wb
theorem Avj {Q:Ex → Fr → Aa → Prop}:WO W (code cf it sz .ret fr h) Q = Q .ret fr h:=Wb
def frm (live:List Nat) (f:FF):Fr:=live.map fun s => (s,f s)
theorem An0 {f:FF}:frm [] f = []:=id rfl
theorem Ah5 {s:Nat} {l:List Nat} {f:FF}:frm (s :: l) f = (s,f s) :: frm l f:=id rfl
theorem Av7 {live:List Nat} {x:Option (FF × Aa × List Nat)} {Q:Ex → Fr → Aa → Prop}:WO W (Qy live x) Q = WX W x (fun f h' => WF (frm live f) (fun fr' => Q .normal fr' h')):=by
 cases x with
 | none => apply propext;constructor <;> rintro ⟨_,_,_,h⟩ <;> simp [Qy] at h
 | some v => obtain ⟨f,h,d⟩:=v;exact propext ⟨fun ⟨_,_,_,_,e,a,c⟩ => by cases e;exact ⟨_,_,_,rfl,a,c⟩,fun ⟨_,_,_,e,a,c⟩ => by cases e;exact ⟨_,_,_,_,rfl,a,c⟩⟩
theorem Avk {live:List Nat} {ins:List Ins} {Q:Ex → Fr → Aa → Prop}:WO W (code cf it sz (.reg live ins) fr h) Q = WX W (Ey cf ins (get fr) h) (fun f h' => WF (frm live f) (fun fr' => Q .normal fr' h')):=Av7
theorem Avn {live:List Nat} {n:Nat} {ins:List Ins} {Q:Ex → Fr → Aa → Prop}:WO W (code cf it sz (.drw live n ins) fr h) Q = WX W (Dh cf h.length ins (get fr) (room h n)) (fun f h' => WF (frm live f) (fun fr' => Q .normal fr' h')):=Av7
theorem Aob {x:X} {a b:C} {Q:Ex → Fr → Aa → Prop}:WO W (code cf it sz (.cond x a b) fr h) Q = WC (ev (get fr) x) (WO W (code cf it sz a fr h) Q) (WO W (code cf it sz b fr h) Q):=by
 have e:code cf it sz (.cond x a b) fr h = Tv (ev (get fr) x) (code cf it sz a fr h) (code cf it sz b fr h):=rfl
 rw [e]
 apply propext
 unfold Tv WC
 constructor
 ·intro c
  split at c
  ·rename_i t d
   refine ⟨_,d,?_,?_⟩
   ·intro e;simpa [e] using c
   ·intro e;simpa [e] using c
  ·obtain ⟨_,_,_,_,e,_⟩:=c;cases e
 ·rintro ⟨t,d,f,h2⟩
  rw [d]
  cases t
  ·exact h2 rfl
  ·exact f rfl
theorem Ald {id:Nat} {x:Out} {Q:Ex → Fr → Aa → Prop}:WO W (inBlock id x) Q = WO W x (fun e fr' h' => match e with | .exit j => if j = id then Q .normal fr' h' else Q (.exit j) fr' h' | e => Q e fr' h'):=by
 apply propext
 cases x with
 | none => constructor <;> rintro ⟨_,_,_,_,h,_⟩ <;> simp [inBlock] at h
 | some t =>
  obtain ⟨e,fr,h,f⟩:=t
  cases e with
  | exit j =>
   by_cases d:j = id
   ·simp only [inBlock,d,if_true]
    exact ⟨fun ⟨_,_,_,_,e,a,c⟩ => by cases e;exact ⟨_,_,_,_,rfl,a,by simpa [d] using c⟩,fun ⟨_,_,_,_,e,a,c⟩ => by cases e;exact ⟨_,_,_,_,rfl,a,by simpa [d] using c⟩⟩
   ·simp only [inBlock,d,if_false]
    exact ⟨fun ⟨_,_,_,_,e,a,c⟩ => by cases e;exact ⟨_,_,_,_,rfl,a,by simpa [d] using c⟩,fun ⟨_,_,_,_,e,a,c⟩ => by cases e;exact ⟨_,_,_,_,rfl,a,by simpa [d] using c⟩⟩
  | normal => exact ⟨fun ⟨_,_,_,_,e,a,c⟩ => by cases e;exact ⟨_,_,_,_,rfl,a,c⟩,fun ⟨_,_,_,_,e,a,c⟩ => by cases e;exact ⟨_,_,_,_,rfl,a,c⟩⟩
  | ret => exact ⟨fun ⟨_,_,_,_,e,a,c⟩ => by cases e;exact ⟨_,_,_,_,rfl,a,c⟩,fun ⟨_,_,_,_,e,a,c⟩ => by cases e;exact ⟨_,_,_,_,rfl,a,c⟩⟩
theorem M0 {id:Nat} {b:C} {Q:Ex → Fr → Aa → Prop}:WO W (code cf it sz (.block id b) fr h) Q = WO W (code cf it sz b fr h) (fun e fr' h' => match e with | .exit j => if j = id then Q .normal fr' h' else Q (.exit j) fr' h' | e => Q e fr' h'):=Ald
theorem Tc {b:C} {Q:Ex → Fr → Aa → Prop}:WO W (code cf it sz (.loop b) fr h) Q = WO W (it (code cf it sz b) fr h) Q:=rfl
def Next {α : Type} (I:α → Fr → Aa → Prop) (μ : α → Nat) (a:α) (fr:Fr) (h:Aa) (t:Mk (I,μ,a):=.mk):Prop:=∃ a',I a' fr h ∧ μ a' < μ a
theorem Next.mk {α : Type} {I:α → Fr → Aa → Prop} {μ : α → Nat} {a:α} {fr:Fr} {h:Aa} (a':α) (hi:I a' fr h) (hm:μ a' < μ a):Next I μ a fr h:=⟨a',hi,hm⟩
theorem WO.loop {α : Type} (I:α → Fr → Aa → Prop) (μ : α → Nat) {F:Fr → Aa → Out} {Q:Ex → Fr → Aa → Prop}
  (step:∀ a fr h,I a fr h → WO W (F fr h) (fun e fr' h' => match e with | .normal => Next I μ a fr' h' | e => Q e fr' h')) :
  ∀ (a:α) {fr:Fr} {h:Aa},I a fr h → WO W (iterW F fr h) Q:=by
 have g:∀ n a fr h,μ a ≤ n → I a fr h → WO W (iterW F fr h) Q:=by
  intro n
  induction n with
  | zero =>
   intro a fr h m d
   rw [Ah1,Abj]
   refine (step a fr h d).mono (fun _ h => h) fun e f h c => ?_
   cases e with
   | normal => obtain ⟨l,_,o⟩:=c;omega
   | exit _ => exact c
   | ret => exact c
  | succ n ih =>
   intro a fr h m d
   rw [Ah1,Abj]
   refine (step a fr h d).mono (fun _ h => h) fun e f h c => ?_
   cases e with
   | normal => obtain ⟨l,j,o⟩:=c;exact ih l f h (by omega) j
   | exit _ => exact c
   | ret => exact c
 intro a fr h d
 exact g (μ a) a fr h (Nat.le_refl _) d
theorem Qb {E:Env} {g:FuncId} {c:FnC} (hf:E g = .text c) (args:List Value) (h:Aa):callW E (.func (.func g) #[] #[]) args h = Eo (callW E) iterW (.text c) args h:=by
 rw [M4];simp [I9,hf]
theorem Qc {E:Env} {g:FuncId} {c:FnC} (hf:E g = .text c) (a b:Array Value) (args:List Value) (h:Aa):callW E (.func (.func g) a b) args h = Eo (callW E) iterW (.text c) (a.toList ++ args ++ b.toList) h:=by
 rw [M4];simp [I9,hf]
def Res (res:List R) (Q:Value → Aa → Prop) (e:Ex) (fr:Fr) (h:Aa):Prop:=match e with
 | .exit _ => False
 | _ => W1 (Kc fr h res) fun vs => Q (Qx vs) h
theorem Ao2 {res:List R} {Q:Value → Aa → Prop} {fr:Fr} {h:Aa}:Res res Q .ret fr h = W1 (Kc fr h res) fun vs => Q (Qx vs) h:=rfl
theorem Abl {res:List R} {Q:Value → Aa → Prop} {fr:Fr} {h:Aa}:Res res Q .normal fr h = W1 (Kc fr h res) fun vs => Q (Qx vs) h:=rfl
theorem Sc {ws:List Nat} {m:Nat} (h:∀ b ∈ ws,m ≤ b):ws.filter (fun b => decide (b < m)) = []:=by
 rw [List.filter_eq_nil_iff];intro b a;have:=h b a;simp;omega
theorem Ak {E:Env} {g:FuncId} {c:FnC} (hE:E g = .text c) {sz:Nat} {res:List R} {body:C} (hc:c = ⟨sz,res,body⟩) {args:List Value} {h:Aa} {v:Value} (hl:args.length ≤ sz)
  (hb:WO (fun b => h.length ≤ b) (code (callW E) iterW sz body (Ai args 0) h) (Res res fun v' _ => Ae h.length 4 v = true ∧ v' = v)) :
  callW E (.func (.func g) #[] #[]) args h = some (v,h,[]):=by
 subst hc
 rw [Qb hE]
 obtain ⟨e,fr,h',m,n,l,o⟩:=hb
 have a:∀ d,Res res (fun v' _ => Ae h.length 4 v = true ∧ v' = v) d fr h' → fin res h (some (d,fr,h',m)) = some (v,h,[]):=by
  intro d f
  cases d with
  | exit _ => exact f.elim
  | normal => obtain ⟨p,j,h2,rfl⟩:=f;simp [fin,j,gc,Sc l,h2]
  | ret => obtain ⟨p,j,h2,rfl⟩:=f;simp [fin,j,gc,Sc l,h2]
 simp only [Eo,hl,if_true]
 rw [n]
 exact a e o
theorem Aiy {E:Env} {g:FuncId} {c:FnC} (hf:E g = .textK c) (a b:Array Value) (args:List Value) (h:Aa):callW E (.func (.func g) a b) args h = Eo (callW E) iterW (.textK c) (a.toList ++ args ++ b.toList) h:=by
 rw [M4];simp [I9,hf]
theorem E8 {E:Env} {g:FuncId} {c:FnC} (hE:E g = .textK c) {sz:Nat} {res:List R} {body:C} (hc:c = ⟨sz,res,body⟩) {a b:Array Value} {args:List Value} {h:Aa} {W:Nat → Prop} {Q:Value → Aa → Prop} (hl:(a.toList ++ args ++ b.toList).length ≤ sz)
  (hb:WO W (code (callW E) iterW sz body (Ai (a.toList ++ args ++ b.toList) 0) h) (Res res Q)):WX W (callW E (.func (.func g) a b) args h) Q:=by
 subst hc
 rw [Aiy hE]
 obtain ⟨e,fr,h',n,l,j,d⟩:=hb
 simp only [Eo,hl,if_true]
 rw [l]
 cases e with
 | exit _ => exact d.elim
 | normal => obtain ⟨m,f,h2⟩:=d;exact ⟨_,_,_,by simp [Sb,f],j,h2⟩
 | ret => obtain ⟨m,f,h2⟩:=d;exact ⟨_,_,_,by simp [Sb,f],j,h2⟩
end Go.L
namespace Go.L
open Go
def Alv (c a b:Value):Option Value:=match c with | .bool t => some (if t then a else b) | _ => none
def A03 (k:IntKind) (x:Value):Option Value:=match x with | .int _ n => some (.int k (k.wrap n)) | _ => none
def A02 (x:Value):Option Value:=match x with | .string s => some (.string s) | _ => none
def A0u (off:Nat) (x:Value):Option Value:=match x with | .pointer (some a) => some (.pointer (some ⟨a.block,a.off + off,none⟩)) | _ => none
def A0s (off:Nat) (agg:Option Nat) (x:Value):Option Value:=match x with | .agg cs => part cs.toList off agg | _ => none
def Axv (n size:Nat) (x i:Value):Option Value:=match x with | .pointer (some a) => Sq size n a i | _ => none
def Aqb (size:Nat) (x i:Value):Option Value:=match x with | .slice (some a) n _ => Sq size n a i | _ => none
def Axu (n size:Nat) (agg:Option Nat) (x i:Value):Option Value:=match x,i with
    | .agg cs,.int _ j => if 0 ≤ j ∧ j < n then part cs.toList (j.toNat * size) agg else none
    | _,_ => none
def Aam (x i:Value):Option Value:=match x,i with
    | .string s,.int _ j => if 0 ≤ j then (s[j.toNat]?).map fun b => .int .u8 b.toNat else none
    | _,_ => none
def Df (x:Option Value) (dflt high:Nat):Option Nat:=match x with
  | none => some dflt
  | some (.int _ i) => if 0 ≤ i ∧ i ≤ high then some i.toNat else none
  | some _ => none
theorem So (f:FF) (x:Option X) (d h:Nat):Br f x d h = Df (x.map (ev f)) d h:=by
  cases x with
  | none => rfl
  | some x =>
    show (match ev f x with | .int _ i => if 0 ≤ i ∧ i ≤ h then some i.toNat else none | _ => none) = Df (some (ev f x)) d h
    unfold Df
    cases ev f x <;> rfl
def Api (x:Value) (lo hi:Option Value):Option Value:=match x with
    | .string s => (Df hi s.size s.size).bind fun h => (Df lo 0 h).bind fun l => some (.string (s.extract l h))
    | _ => none
def Pp (size:Nat) (x:Value) (lo hi mx:Option Value):Option Value :=
  match x with
  | .slice none 0 0 => if mx.isSome ∧ hi.isNone then none else
    (Df mx 0 0).bind fun m => (Df hi 0 m).bind fun h => (Df lo 0 h).bind fun _ => some (.slice none 0 0)
  | .slice (some a) n cap =>
    match mx with
    | some _ => match hi with
      | none => none
      | some _ => (Df mx 0 cap).bind fun m => (Df hi 0 m).bind fun h => (Df lo 0 h).bind fun l =>
        some (.slice (some ⟨a.block,a.off + l * size,none⟩) (h - l) (m - l))
    | none => match a.spot with
      | none => (Df hi n cap).bind fun h => (Df lo 0 h).bind fun l =>
          if h ≤ cap then some (.slice (some ⟨a.block,a.off + l * size,none⟩) (h - l) (cap - l)) else none
      | some s => if s = size then (Df hi n n).bind fun h => (Df lo 0 h).bind fun l =>
          some (.slice (some ⟨a.block,a.off + l * size,some s⟩) (h - l) (h - l)) else none
  | _ => none
def Aw1 (n size:Nat) (x:Value) (lo hi:Option Value):Option Value:=match x with
    | .pointer (some a) => (Df hi n n).bind fun h => (Df lo 0 h).bind fun l => some (.slice (some ⟨a.block,a.off + l * size,none⟩) (h - l) (n - l))
    | _ => none
def Axi (x:Value):Option Value:=match x with
    | .pointer (some a) => some (.pointer (some a))
    | .func (.func g) a b => some (.func (.func g) a b)
    | _ => none
def A0x (x:Value) (i:Nat):Option Value:=match x with
    | .tuple vs => match vs.toList[i]? with
      | some v => if Fm v then some v else none
      | none => none
    | _ => none
def Ly (text:Bool) (x:Value):Option Value:=match text,x with
    | true,.string s => some (.int .i64 s.size)
    | false,.slice _ n _ => some (.int .i64 n)
    | _,_ => none
def Vr:List (Nat × Nat × Value) → List Value → Option (List Value)
  | [],c => some c
  | (off,n,x) :: r,c => if (Bj x).length = n ∧ off + n ≤ c.length ∧ (Bj x).all Ag then Vr r (setCells c off (Bj x)) else none
theorem Vq (f:FF):∀ (l:List (Nat × Nat × X)) (c:List Value),Se f l c = Vr (l.map fun p => (p.1,p.2.1,ev f p.2.2)) c
  | [],c => rfl
  | (off,n,x) :: r,c => by simp only [Se,Vr,List.map_cons,Vq f r]
theorem Ar2 (f:FF) (size:Nat) (x:Value) (lo hi mx:Option X):Zg f size x lo hi mx = Pp size x (lo.map (ev f)) (hi.map (ev f)) (mx.map (ev f)):=by
  unfold Zg Pp
  simp only [So,Option.isSome_map,Option.isNone_map]
  cases mx <;> cases hi <;> rfl
def Aui (x:Value) (h:Aa):Option Value:=match x with
    | .map none => some (.int .i64 0)
    | .map (some r) => match h[r]? with
      | some (.map es) => some (.int .i64 es.length)
      | _ => none
    | _ => none
def Av3 (x:Value) (h:Aa):Option Value:=match x with
    | .slice _ _ _ => match cellsOf 1 x h with
      | some (_,c) => (bytesOf c).map fun b => .string ⟨b.toArray⟩
      | none => none
    | _ => none
def Q7 (size:Nat) (zero:List Value) (n:Nat) (ps:List (Nat × Nat × Value)):Option New :=
  if n * size ≤ 16777216 then (Vr ps (List.replicate n zero).flatten).bind fun c => Ab c fun b => .slice (some ⟨b,0,none⟩) n n else none
def Ap4 (zero:List Value) (bytes:Nat) (n c:Value):Option New:=match n,c with
    | .int .i64 n,.int .i64 c =>
      if 0 ≤ n ∧ n ≤ c ∧ bytes * c ≤ 140737488355328 ∧ c < 9223372036854775808 then
        Ab (List.replicate c.toNat zero).flatten fun b => .slice (some ⟨b,0,none⟩) n.toNat c.toNat
      else none
    | _,_ => none
def A1m (x:Value):Option New:=match x with
    | .string s => if s.size < 4611686018427387904 then some (.cells (s.data.toList.map fun b => .int .u8 b.toNat) true,fun b => .slice (some ⟨b,0,some 1⟩) s.size s.size) else none
    | _ => none
def Aue (q:EqK) (m k v:Value) (h:Aa):Option (Value × Aa × List Nat):=match m with
    | .map (some r) => match h[r]? with
      | some (.map es) => if R6 q k then (Oh q k v es).map fun es' => (undef,h.set r (.map es'),[r]) else none
      | _ => none
    | _ => none
def A01 (q:EqK) (m k:Value) (h:Aa):Option (Value × Aa × List Nat):=match m with
    | .map (some r) => match h[r]? with
      | some (.map es) => if R6 q k then (Yg q k es).map fun es' => (.tuple #[],h.set r (.map es'),[r]) else none
      | _ => none
    | _ => none
section
variable {W:Nat → Prop} {cf:A0} {f:FF} {h:Aa} {r:List Ins} {m d rk:Nat} {g:Option (Nat × Bool)} {fl lz:Bool} {dd:Option Nat}
theorem Ass {Q:FF → Aa → Prop}:WX W (Dh cf m [] f h) Q = Q f h:=WX_some
theorem A1q {o:O} {Q:FF → Aa → Prop}:WX W (Dh cf m (⟨some d,none,o,fl,rk,lz⟩ :: r) f h) Q = WX W (opD cf m f h ⟨some d,none,o,fl,rk,lz⟩) (fun v h' => WX W (Dh cf m r (upd f d v) h') Q):=by
  simp only [Dh,wanted,G9];rw [← Oa (k:=fun v h' => Dh cf m r (upd f d v) h')];congr 1;cases opD cf m f h ⟨some d,none,o,fl,rk,lz⟩ <;> rfl
theorem A1p {o:O} {Q:FF → Aa → Prop}:WX W (Dh cf m (⟨none,none,o,fl,rk,lz⟩ :: r) f h) Q = WX W (opD cf m f h ⟨none,none,o,fl,rk,lz⟩) (fun _ h' => WX W (Dh cf m r f h') Q):=by
  simp only [Dh,wanted,G9];rw [← Oa (k:=fun _ h' => Dh cf m r f h')];congr 1;cases opD cf m f h ⟨none,none,o,fl,rk,lz⟩ <;> rfl
theorem A1o {g:Nat} {b:Bool} {o:O} {Q:FF → Aa → Prop}:WX W (Dh cf m (⟨some d,some (g,b),o,fl,rk,lz⟩ :: r) f h) Q = WG (f g) b (WX W (opD cf m f h ⟨some d,some (g,b),o,fl,rk,lz⟩) (fun v h' => WX W (Dh cf m r (upd f d v) h') Q)) (WX W (Dh cf m r (upd f d undef) h) Q):=by
  simp only [Dh,wanted,G9]
  unfold WG
  cases hg:f g <;> simp only [] <;> try (apply propext;constructor <;> (first | (rintro ⟨_,_,_,e,_⟩;cases e) | (intro h;exact h.elim)))
  · rename_i c
    by_cases a:c = b
    · subst a;simp only [beq_self_eq_true,if_true];rw [← Oa (k:=fun v h' => Dh cf m r (upd f d v) h')];congr 1;cases opD cf m f h ⟨some d,some (g,c),o,fl,rk,lz⟩ <;> rfl
    · have:(c == b) = false:=by simpa using a
      simp [this,a]
  · rename_i j
    cases hv:j.isEmpty
    · simp only [Bool.false_eq_true,false_and]
      apply propext
      constructor
      · rintro ⟨_,_,_,e,_⟩;cases e
      · intro h;exact h.elim
    · simp
theorem Ayv {g:Nat} {b:Bool} {o:O} {Q:FF → Aa → Prop}:WX W (Dh cf m (⟨none,some (g,b),o,fl,rk,lz⟩ :: r) f h) Q = WG (f g) b (WX W (opD cf m f h ⟨none,some (g,b),o,fl,rk,lz⟩) (fun _ h' => WX W (Dh cf m r f h') Q)) (WX W (Dh cf m r f h) Q):=by
  simp only [Dh,wanted,G9]
  unfold WG
  cases hg:f g <;> simp only [] <;> try (apply propext;constructor <;> (first | (rintro ⟨_,_,_,e,_⟩;cases e) | (intro h;exact h.elim)))
  · rename_i c
    by_cases a:c = b
    · subst a;simp only [beq_self_eq_true,if_true];rw [← Oa (k:=fun _ h' => Dh cf m r f h')];congr 1;cases opD cf m f h ⟨none,some (g,c),o,fl,rk,lz⟩ <;> rfl
    · have:(c == b) = false:=by simpa using a
      simp [this,a]
  · rename_i d
    cases hv:d.isEmpty
    · simp only [Bool.false_eq_true,false_and]
      apply propext
      constructor
      · rintro ⟨_,_,_,e,_⟩;cases e
      · intro h;exact h.elim
    · simp
theorem Ge {o:O} {Q:Value → Aa → Prop} (hc:cls o = .P):WX W (opD cf m f h ⟨dd,g,o,fl,rk,lz⟩) Q = W1 (Ax f o) (fun v => Q v h):=by
  unfold opD;dsimp only;rw [hc];dsimp only
  cases Ax f o with
  | none => apply propext;constructor <;> rintro ⟨_,h⟩ <;> simp at h
  | some v => exact WX_some.trans (Nl rfl)
theorem Amv {o:O} {Q:Value → Aa → Prop} (hc:cls o = .M):WX W (opD cf m f h ⟨dd,g,o,false,rk,lz⟩) Q = W1 (Fw f h o) (fun v => Q v h):=by
  unfold opD;dsimp only;rw [hc];simp only [Bool.false_eq_true,false_and,if_false]
  cases Fw f h o with
  | none => apply propext;constructor <;> rintro ⟨_,h⟩ <;> simp at h
  | some v => exact WX_some.trans (Nl rfl)
def WL (m:Nat) (v:Value) (A:Prop) (t:Mk2 A A:=.mk):Prop:=low m v = true ∧ A
theorem Aef {o:O} {Q:Value → Aa → Prop} (hc:cls o = .M):WX W (opD cf m f h ⟨dd,g,o,true,rk,lz⟩) Q = WL m (Ab7 f o) (W1 (Fw f h o) (fun v => Q v h)):=by
  unfold opD WL;dsimp only;rw [hc];simp only [true_and]
  cases hl:low m (Ab7 f o)
  · simp only [if_true]
    apply propext;constructor
    · rintro ⟨_,_,_,e,_⟩;cases e
    · rintro ⟨e,_⟩;cases e
  · simp only [Bool.true_eq_false,if_false,true_and]
    cases Fw f h o with
    | none => apply propext;constructor <;> rintro ⟨_,h⟩ <;> simp at h
    | some v => exact WX_some.trans (Nl rfl)
theorem Zw {o:O} {Q:Value → Aa → Prop} (hc:cls o = .A):WX W (opD cf m f h ⟨dd,g,o,fl,rk,lz⟩) Q = W1 (Jh f o) (fun n => WF (n.2 (m + rk)) (fun v => WF (h.set (m + rk) n.1) (fun h' => Q v h'))):=by
  unfold opD;dsimp only;rw [hc];dsimp only
  cases Jh f o with
  | none => apply propext;constructor <;> rintro ⟨_,h⟩ <;> simp at h
  | some v => exact WX_some.trans (Nl rfl)
theorem Aow {x:Option (Value × Aa × List Nat)} {Q:Value → Aa → Prop}:WX W (match x with | some (v,h',ws) => if ws ≠ [] then none else some (v,h',ws) | none => none) Q = WX (fun _ => False) x Q:=by
  cases x with
  | none => apply propext;constructor <;> (rintro ⟨_,_,_,e,_⟩;cases e)
  | some t =>
    obtain ⟨v,h',ws⟩:=t
    dsimp only
    cases ws with
    | nil => simp only [ne_eq,not_true,if_false];exact propext ⟨fun ⟨_,_,_,e,_,c⟩ => by cases e;exact ⟨_,_,_,rfl,(fun b d => nomatch d),c⟩,fun ⟨_,_,_,e,_,c⟩ => by cases e;exact ⟨_,_,_,rfl,(fun b d => nomatch d),c⟩⟩
    | cons a r =>
      rw [if_pos (by simp)]
      apply propext;constructor
      · rintro ⟨_,_,_,e,_⟩;cases e
      · rintro ⟨_,_,_,e,f,_⟩
        cases e
        exact (f a (by simp)).elim
theorem Agu {o:O} {Q:Value → Aa → Prop} (hc:cls o = .E):WX W (opD cf m f h ⟨dd,g,o,fl,rk,false⟩) Q = WX W (Mg f h o) Q:=by
  unfold opD;dsimp only;rw [hc];simp only [Bool.false_eq_true,false_and,if_false]
  congr 1
  cases Mg f h o <;> rfl
theorem Zv {o:O} {Q:Value → Aa → Prop} (hc:cls o = .E):WX W (opD cf m f h ⟨dd,g,o,fl,rk,true⟩) Q = WX (fun _ => False) (Mg f h o) Q:=by
  unfold opD;dsimp only;rw [hc];simp only [true_and]
  exact Aow
theorem Asz {n:Nat} {a v:X} {Q:Value → Aa → Prop}:WX W (opD cf m f h ⟨dd,g,.st n a v,false,rk,lz⟩) Q = WH W (Fk n (ev f a) (ev f v) h) (fun h' => Q undef h'):=by
  unfold opD;simp only [cls,Bool.false_eq_true,false_and,if_false]
  cases Fk n (ev f a) (ev f v) h with
  | none => apply propext;constructor <;> rintro ⟨_,_,h⟩ <;> simp at h
  | some v => obtain ⟨h',j⟩:=v;exact propext ⟨fun ⟨_,_,_,e,c,d⟩ => by cases e;exact ⟨_,_,rfl,c,d⟩,fun ⟨_,_,e,c,d⟩ => by cases e;exact ⟨_,_,_,rfl,c,d⟩⟩
def WHi (m:Nat) (v:Value) (A:Prop) (t:Mk2 A A:=.mk):Prop:=high m v = true ∧ A
theorem Alw {n:Nat} {a v:X} {Q:Value → Aa → Prop}:WX W (opD cf m f h ⟨dd,g,.st n a v,true,rk,lz⟩) Q = WHi m (ev f a) (WH W (Fk n (ev f a) (ev f v) h) (fun h' => Q undef h')):=by
  unfold opD WHi;simp only [cls,true_and]
  cases hl:high m (ev f a)
  · simp only [if_true]
    apply propext;constructor
    · rintro ⟨_,_,_,e,_⟩;cases e
    · rintro ⟨e,_⟩;cases e
  · simp only [Bool.true_eq_false,if_false,true_and]
    cases Fk n (ev f a) (ev f v) h with
    | none => apply propext;constructor <;> rintro ⟨_,_,h⟩ <;> simp at h
    | some v => obtain ⟨h',j⟩:=v;exact propext ⟨fun ⟨_,_,_,e,c,d⟩ => by cases e;exact ⟨_,_,rfl,c,d⟩,fun ⟨_,_,e,c,d⟩ => by cases e;exact ⟨_,_,_,rfl,c,d⟩⟩
theorem Agr {x:X} {args:List X} {Q:Value → Aa → Prop}:WX W (opD cf m f h ⟨dd,g,.call x args,false,rk,false⟩) Q = WX W (cf (ev f x) (args.map (ev f)) h) Q:=by
  unfold opD;simp only [cls,Bool.false_eq_true,false_and,or_self,if_false]
  congr 1
  cases cf (ev f x) (args.map (ev f)) h <;> rfl
theorem Acs {x:X} {args:List X} {Q:Value → Aa → Prop}:WX W (opD cf m f h ⟨dd,g,.call x args,false,rk,true⟩) Q = WX (fun _ => False) (cf (ev f x) (args.map (ev f)) h) Q:=by
  unfold opD;simp only [cls,Bool.false_eq_true,false_and,false_or,true_and]
  exact Aow
def WQ (h:Aa) (x:Option (Value × Aa × List Nat)) (Q:Value → Aa → Prop) (t:Mk Q:=.mk):Prop:=∃ v h',x = some (v,h',[]) ∧ h'.length = h.length ∧ Q v h'
theorem Ayi {v:Value} {h h':Aa} {Q:Value → Aa → Prop}:WQ h (some (v,h',[])) Q = (h'.length = h.length ∧ Q v h') :=
  propext ⟨fun ⟨_,_,e,hl,hq⟩ => by cases e;exact ⟨hl,hq⟩,fun ⟨hl,hq⟩ => ⟨_,_,rfl,hl,hq⟩⟩
theorem Aox {v:Value} {h:Aa} {Q:Value → Aa → Prop}:WQ h (some (v,h,[])) Q = Q v h:=by rw [Ayi];simp
theorem Acr {x:X} {args:List X} {Q:Value → Aa → Prop}:WX W (opD cf m f h ⟨dd,g,.call x args,true,rk,false⟩) Q = WQ h (cf (ev f x) (args.map (ev f)) h) Q:=by
  unfold opD WQ;simp only [cls,true_and,Bool.false_eq_true,false_and,or_false]
  cases cf (ev f x) (args.map (ev f)) h with
  | none => apply propext;constructor
            · rintro ⟨_,_,_,e,_⟩;cases e
            · rintro ⟨_,_,e,_⟩;cases e
  | some t =>
    obtain ⟨v,h',l⟩:=t
    dsimp only
    by_cases c:h'.length = h.length ∧ l = []
    · obtain ⟨d,rfl⟩:=c
      simp only [d,and_self,not_true,if_false]
      exact propext ⟨fun ⟨_,_,_,e,o,a⟩ => by cases e;exact ⟨_,_,rfl,d,a⟩,fun ⟨_,_,e,j,a⟩ => by cases e;exact ⟨_,_,_,rfl,(fun b n => nomatch n),a⟩⟩
    · rw [if_pos c]
      apply propext;constructor
      · rintro ⟨_,_,_,e,_⟩;cases e
      · rintro ⟨_,_,e,j,_⟩
        cases e
        exact absurd ⟨j,rfl⟩ c
theorem As8 {x:X} {Q:Value → Aa → Prop}:WX W (opN cf f h (.mov x)) Q = W1 (some (ev f x)) (fun v => Q v h):=by rw [Ma rfl];rfl
theorem Al4 {x:X} {Q:Value → Aa → Prop}:WX W (opD cf m f h ⟨dd,g,(.mov x),fl,rk,lz⟩) Q = W1 (some (ev f x)) (fun v => Q v h):=by rw [Ge rfl];rfl
theorem Amw {c a b:X} {Q:Value → Aa → Prop}:WX W (opN cf f h (.pick c a b)) Q = W1 (Alv (ev f c) (ev f a) (ev f b)) (fun v => Q v h):=by rw [Ma rfl];rfl
theorem Agi {c a b:X} {Q:Value → Aa → Prop}:WX W (opD cf m f h ⟨dd,g,(.pick c a b),fl,rk,lz⟩) Q = W1 (Alv (ev f c) (ev f a) (ev f b)) (fun v => Q v h):=by rw [Ge rfl];rfl
theorem Att {op:BinOp} {q:EqK} {x y:X} {Q:Value → Aa → Prop}:WX W (opN cf f h (.bin op q x y)) Q = W1 (binOp op q (ev f x) (ev f y)) (fun v => Q v h):=by rw [Ma rfl];rfl
theorem Amq {op:BinOp} {q:EqK} {x y:X} {Q:Value → Aa → Prop}:WX W (opD cf m f h ⟨dd,g,(.bin op q x y),fl,rk,lz⟩) Q = W1 (binOp op q (ev f x) (ev f y)) (fun v => Q v h):=by rw [Ge rfl];rfl
theorem Ayz {op:UnOp} {x:X} {Q:Value → Aa → Prop}:WX W (opN cf f h (.un op x)) Q = W1 (unOp op (ev f x)) (fun v => Q v h):=by rw [Ma rfl];rfl
theorem Asy {op:UnOp} {x:X} {Q:Value → Aa → Prop}:WX W (opD cf m f h ⟨dd,g,(.un op x),fl,rk,lz⟩) Q = W1 (unOp op (ev f x)) (fun v => Q v h):=by rw [Ge rfl];rfl
theorem Atn {k:IntKind} {x:X} {Q:Value → Aa → Prop}:WX W (opN cf f h (.cvi k x)) Q = W1 (A03 k (ev f x)) (fun v => Q v h):=by rw [Ma rfl];rfl
theorem Amk {k:IntKind} {x:X} {Q:Value → Aa → Prop}:WX W (opD cf m f h ⟨dd,g,(.cvi k x),fl,rk,lz⟩) Q = W1 (A03 k (ev f x)) (fun v => Q v h):=by rw [Ge rfl];rfl
theorem Atm {x:X} {Q:Value → Aa → Prop}:WX W (opN cf f h (.cvs x)) Q = W1 (A02 (ev f x)) (fun v => Q v h):=by rw [Ma rfl];rfl
theorem Amj {x:X} {Q:Value → Aa → Prop}:WX W (opD cf m f h ⟨dd,g,(.cvs x),fl,rk,lz⟩) Q = W1 (A02 (ev f x)) (fun v => Q v h):=by rw [Ge rfl];rfl
theorem Ats {z:List Value} {p:List (Nat × Nat × X)} {Q:Value → Aa → Prop}:WX W (opN cf f h (.bld z p)) Q = W1 ((Vr (p.map fun p => (p.1,p.2.1,ev f p.2.2)) z).map fun c => .agg c.toArray) (fun v => Q v h):=by rw [Ma rfl];simp only [Ax,Vq]
theorem Amp {z:List Value} {p:List (Nat × Nat × X)} {Q:Value → Aa → Prop}:WX W (opD cf m f h ⟨dd,g,(.bld z p),fl,rk,lz⟩) Q = W1 ((Vr (p.map fun p => (p.1,p.2.1,ev f p.2.2)) z).map fun c => .agg c.toArray) (fun v => Q v h):=by rw [Ge rfl];simp only [Ax,Vq]
theorem Atj {off:Nat} {x:X} {Q:Value → Aa → Prop}:WX W (opN cf f h (.fld off x)) Q = W1 (A0u off (ev f x)) (fun v => Q v h):=by rw [Ma rfl];rfl
theorem Amg {off:Nat} {x:X} {Q:Value → Aa → Prop}:WX W (opD cf m f h ⟨dd,g,(.fld off x),fl,rk,lz⟩) Q = W1 (A0u off (ev f x)) (fun v => Q v h):=by rw [Ge rfl];rfl
theorem Ati {off:Nat} {agg:Option Nat} {x:X} {Q:Value → Aa → Prop}:WX W (opN cf f h (.fof off agg x)) Q = W1 (A0s off agg (ev f x)) (fun v => Q v h):=by rw [Ma rfl];rfl
theorem Amf {off:Nat} {agg:Option Nat} {x:X} {Q:Value → Aa → Prop}:WX W (opD cf m f h ⟨dd,g,(.fof off agg x),fl,rk,lz⟩) Q = W1 (A0s off agg (ev f x)) (fun v => Q v h):=by rw [Ge rfl];rfl
theorem Ath {n size:Nat} {x y:X} {Q:Value → Aa → Prop}:WX W (opN cf f h (.ixa n size x y)) Q = W1 (Axv n size (ev f x) (ev f y)) (fun v => Q v h):=by rw [Ma rfl];rfl
theorem Ame {n size:Nat} {x y:X} {Q:Value → Aa → Prop}:WX W (opD cf m f h ⟨dd,g,(.ixa n size x y),fl,rk,lz⟩) Q = W1 (Axv n size (ev f x) (ev f y)) (fun v => Q v h):=by rw [Ge rfl];rfl
theorem Atg {size:Nat} {x y:X} {Q:Value → Aa → Prop}:WX W (opN cf f h (.ixs size x y)) Q = W1 (Aqb size (ev f x) (ev f y)) (fun v => Q v h):=by rw [Ma rfl];rfl
theorem Amd {size:Nat} {x y:X} {Q:Value → Aa → Prop}:WX W (opD cf m f h ⟨dd,g,(.ixs size x y),fl,rk,lz⟩) Q = W1 (Aqb size (ev f x) (ev f y)) (fun v => Q v h):=by rw [Ge rfl];rfl
theorem Ate {n size:Nat} {agg:Option Nat} {x y:X} {Q:Value → Aa → Prop}:WX W (opN cf f h (.ixv n size agg x y)) Q = W1 (Axu n size agg (ev f x) (ev f y)) (fun v => Q v h):=by rw [Ma rfl];rfl
theorem Amb {n size:Nat} {agg:Option Nat} {x y:X} {Q:Value → Aa → Prop}:WX W (opD cf m f h ⟨dd,g,(.ixv n size agg x y),fl,rk,lz⟩) Q = W1 (Axu n size agg (ev f x) (ev f y)) (fun v => Q v h):=by rw [Ge rfl];rfl
theorem Atf {x y:X} {Q:Value → Aa → Prop}:WX W (opN cf f h (.ixt x y)) Q = W1 (Aam (ev f x) (ev f y)) (fun v => Q v h):=by rw [Ma rfl];rfl
theorem Amc {x y:X} {Q:Value → Aa → Prop}:WX W (opD cf m f h ⟨dd,g,(.ixt x y),fl,rk,lz⟩) Q = W1 (Aam (ev f x) (ev f y)) (fun v => Q v h):=by rw [Ge rfl];rfl
theorem As1 {x:X} {lo hi:Option X} {Q:Value → Aa → Prop}:WX W (opN cf f h (.slt x lo hi)) Q = W1 (Api (ev f x) (lo.map (ev f)) (hi.map (ev f))) (fun v => Q v h):=by rw [Ma rfl];simp only [Ax,So,Api];congr 1
theorem Alx {x:X} {lo hi:Option X} {Q:Value → Aa → Prop}:WX W (opD cf m f h ⟨dd,g,(.slt x lo hi),fl,rk,lz⟩) Q = W1 (Api (ev f x) (lo.map (ev f)) (hi.map (ev f))) (fun v => Q v h):=by rw [Ge rfl];simp only [Ax,So,Api];congr 1
theorem As2 {size:Nat} {x:X} {lo hi mx:Option X} {Q:Value → Aa → Prop}:WX W (opN cf f h (.sls size x lo hi mx)) Q = W1 (Pp size (ev f x) (lo.map (ev f)) (hi.map (ev f)) (mx.map (ev f))) (fun v => Q v h):=by rw [Ma rfl];simp only [Ax,Ar2]
theorem Aly {size:Nat} {x:X} {lo hi mx:Option X} {Q:Value → Aa → Prop}:WX W (opD cf m f h ⟨dd,g,(.sls size x lo hi mx),fl,rk,lz⟩) Q = W1 (Pp size (ev f x) (lo.map (ev f)) (hi.map (ev f)) (mx.map (ev f))) (fun v => Q v h):=by rw [Ge rfl];simp only [Ax,Ar2]
theorem As3 {n size:Nat} {x:X} {lo hi:Option X} {Q:Value → Aa → Prop}:WX W (opN cf f h (.sla n size x lo hi)) Q = W1 (Aw1 n size (ev f x) (lo.map (ev f)) (hi.map (ev f))) (fun v => Q v h):=by rw [Ma rfl];simp only [Ax,So,Aw1];congr 1
theorem Alz {n size:Nat} {x:X} {lo hi:Option X} {Q:Value → Aa → Prop}:WX W (opD cf m f h ⟨dd,g,(.sla n size x lo hi),fl,rk,lz⟩) Q = W1 (Aw1 n size (ev f x) (lo.map (ev f)) (hi.map (ev f))) (fun v => Q v h):=by rw [Ge rfl];simp only [Ax,So,Aw1];congr 1
theorem As5 {x:X} {Q:Value → Aa → Prop}:WX W (opN cf f h (.nil x)) Q = W1 (Axi (ev f x)) (fun v => Q v h):=by rw [Ma rfl];rfl
theorem Al1 {x:X} {Q:Value → Aa → Prop}:WX W (opD cf m f h ⟨dd,g,(.nil x),fl,rk,lz⟩) Q = W1 (Axi (ev f x)) (fun v => Q v h):=by rw [Ge rfl];rfl
theorem Atk {x:X} {j:Nat} {Q:Value → Aa → Prop}:WX W (opN cf f h (.ext x j)) Q = W1 (A0x (ev f x) j) (fun v => Q v h):=by rw [Ma rfl];rfl
theorem Amh {x:X} {j:Nat} {Q:Value → Aa → Prop}:WX W (opD cf m f h ⟨dd,g,(.ext x j),fl,rk,lz⟩) Q = W1 (A0x (ev f x) j) (fun v => Q v h):=by rw [Ge rfl];rfl
theorem Atb {fn:Fn} {a b:List X} {Q:Value → Aa → Prop}:WX W (opN cf f h (.mkf fn a b)) Q = W1 (some (.func fn (a.map (ev f)).toArray (b.map (ev f)).toArray)) (fun v => Q v h):=by rw [Ma rfl];rfl
theorem Al7 {fn:Fn} {a b:List X} {Q:Value → Aa → Prop}:WX W (opD cf m f h ⟨dd,g,(.mkf fn a b),fl,rk,lz⟩) Q = W1 (some (.func fn (a.map (ev f)).toArray (b.map (ev f)).toArray)) (fun v => Q v h):=by rw [Ge rfl];rfl
theorem Ata {t:TypeId} {x:X} {Q:Value → Aa → Prop}:WX W (opN cf f h (.mki t x)) Q = W1 (some (.iface t (ev f x))) (fun v => Q v h):=by rw [Ma rfl];rfl
theorem Al6 {t:TypeId} {x:X} {Q:Value → Aa → Prop}:WX W (opD cf m f h ⟨dd,g,(.mki t x),fl,rk,lz⟩) Q = W1 (some (.iface t (ev f x))) (fun v => Q v h):=by rw [Ge rfl];rfl
theorem Amy {t:Bool} {x:X} {Q:Value → Aa → Prop}:WX W (opN cf f h (.lens t x)) Q = W1 (Ly t (ev f x)) (fun v => Q v h):=by rw [Ma rfl];rfl
theorem Agl {t:Bool} {x:X} {Q:Value → Aa → Prop}:WX W (opD cf m f h ⟨dd,g,(.lens t x),fl,rk,lz⟩) Q = W1 (Ly t (ev f x)) (fun v => Q v h):=by rw [Ge rfl];rfl
theorem Am0 {n:Nat} {Q:Value → Aa → Prop}:WX W (opN cf f h (.lena n)) Q = W1 (some (.int .i64 n)) (fun v => Q v h):=by rw [Ma rfl];rfl
theorem Agn {n:Nat} {Q:Value → Aa → Prop}:WX W (opD cf m f h ⟨dd,g,(.lena n),fl,rk,lz⟩) Q = W1 (some (.int .i64 n)) (fun v => Q v h):=by rw [Ge rfl];rfl
theorem Atc {x:X} {l:List X} {Q:Value → Aa → Prop}:WX W (opN cf f h (.min x l)) Q = W1 (J6 min2 (ev f x) (l.map (ev f))) (fun v => Q v h):=by rw [Ma rfl];rfl
theorem Al8 {x:X} {l:List X} {Q:Value → Aa → Prop}:WX W (opD cf m f h ⟨dd,g,(.min x l),fl,rk,lz⟩) Q = W1 (J6 min2 (ev f x) (l.map (ev f))) (fun v => Q v h):=by rw [Ge rfl];rfl
theorem Atd {x:X} {l:List X} {Q:Value → Aa → Prop}:WX W (opN cf f h (.max x l)) Q = W1 (J6 max2 (ev f x) (l.map (ev f))) (fun v => Q v h):=by rw [Ma rfl];rfl
theorem Al9 {x:X} {l:List X} {Q:Value → Aa → Prop}:WX W (opD cf m f h ⟨dd,g,(.max x l),fl,rk,lz⟩) Q = W1 (J6 max2 (ev f x) (l.map (ev f))) (fun v => Q v h):=by rw [Ge rfl];rfl
theorem Ay2 {a:Option Nat} {x:X} {Q:Value → Aa → Prop}:WX W (opN cf f h (.ld a x)) Q = W1 (N2 a (ev f x) h) (fun v => Q v h):=by rw [Axf rfl];rfl
theorem As0 {a:Option Nat} {x:X} {Q:Value → Aa → Prop}:WX W (opD cf m f h ⟨dd,g,(.ld a x),false,rk,lz⟩) Q = W1 (N2 a (ev f x) h) (fun v => Q v h):=by rw [Amv rfl];rfl
theorem Ama {a:Option Nat} {x:X} {Q:Value → Aa → Prop}:WX W (opD cf m f h ⟨dd,g,(.ld a x),true,rk,lz⟩) Q = WL m (ev f x) (W1 (N2 a (ev f x) h) (fun v => Q v h)):=by rw [Aef rfl];rfl
theorem Amx {q:EqK} {z:Value} {m1 k1:X} {ok:Bool} {Q:Value → Aa → Prop}:WX W (opN cf f h (.look q z m1 k1 ok)) Q = W1 (Rz q z (ev f m1) (ev f k1) ok h) (fun v => Q v h):=by rw [Axf rfl];rfl
theorem Agk {q:EqK} {z:Value} {m1 k1:X} {ok:Bool} {Q:Value → Aa → Prop}:WX W (opD cf m f h ⟨dd,g,(.look q z m1 k1 ok),false,rk,lz⟩) Q = W1 (Rz q z (ev f m1) (ev f k1) ok h) (fun v => Q v h):=by rw [Amv rfl];rfl
theorem Acp {q:EqK} {z:Value} {m1 k1:X} {ok:Bool} {Q:Value → Aa → Prop}:WX W (opD cf m f h ⟨dd,g,(.look q z m1 k1 ok),true,rk,lz⟩) Q = WL m (ev f m1) (W1 (Rz q z (ev f m1) (ev f k1) ok h) (fun v => Q v h)):=by rw [Aef rfl];rfl
theorem Amz {x:X} {Q:Value → Aa → Prop}:WX W (opN cf f h (.lenm x)) Q = W1 (Aui (ev f x) h) (fun v => Q v h):=by rw [Axf rfl];rfl
theorem Agm {x:X} {Q:Value → Aa → Prop}:WX W (opD cf m f h ⟨dd,g,(.lenm x),false,rk,lz⟩) Q = W1 (Aui (ev f x) h) (fun v => Q v h):=by rw [Amv rfl];rfl
theorem Acq {x:X} {Q:Value → Aa → Prop}:WX W (opD cf m f h ⟨dd,g,(.lenm x),true,rk,lz⟩) Q = WL m (ev f x) (W1 (Aui (ev f x) h) (fun v => Q v h)):=by rw [Aef rfl];rfl
theorem Atu {x:X} {Q:Value → Aa → Prop}:WX W (opN cf f h (.b2s x)) Q = W1 (Av3 (ev f x) h) (fun v => Q v h):=by rw [Axf rfl];rfl
theorem Amr {x:X} {Q:Value → Aa → Prop}:WX W (opD cf m f h ⟨dd,g,(.b2s x),false,rk,lz⟩) Q = W1 (Av3 (ev f x) h) (fun v => Q v h):=by rw [Amv rfl];rfl
theorem Ags {x:X} {Q:Value → Aa → Prop}:WX W (opD cf m f h ⟨dd,g,(.b2s x),true,rk,lz⟩) Q = WL m (ev f x) (W1 (Av3 (ev f x) h) (fun v => Q v h)):=by rw [Aef rfl];rfl
theorem Atw {z:List Value} {Q:Value → Aa → Prop}:WX W (opN cf f h (.all z)) Q = W1 (Ab z fun b => .pointer (some ⟨b,0,none⟩)) (fun n => WF (n.2 h.length) (fun v => WF (h ++ [n.1]) (fun hh => Q v hh))):=by rw [Aki rfl];rfl
theorem Amt {z:List Value} {Q:Value → Aa → Prop}:WX W (opD cf m f h ⟨dd,g,(.all z),fl,rk,lz⟩) Q = W1 (Ab z fun b => .pointer (some ⟨b,0,none⟩)) (fun n => WF (n.2 (m + rk)) (fun v => WF (h.set (m + rk) n.1) (fun hh => Q v hh))):=by rw [Zw rfl];rfl
theorem Atr {x:X} {Q:Value → Aa → Prop}:WX W (opN cf f h (.box x)) Q = W1 (Ab (Bj (ev f x)) fun b => .pointer (some ⟨b,0,none⟩)) (fun n => WF (n.2 h.length) (fun v => WF (h ++ [n.1]) (fun hh => Q v hh))):=by rw [Aki rfl];rfl
theorem Amo {x:X} {Q:Value → Aa → Prop}:WX W (opD cf m f h ⟨dd,g,(.box x),fl,rk,lz⟩) Q = W1 (Ab (Bj (ev f x)) fun b => .pointer (some ⟨b,0,none⟩)) (fun n => WF (n.2 (m + rk)) (fun v => WF (h.set (m + rk) n.1) (fun hh => Q v hh))):=by rw [Zw rfl];rfl
theorem Atq {size:Nat} {z:List Value} {n:Nat} {p:List (Nat × Nat × X)} {Q:Value → Aa → Prop}:WX W (opN cf f h (.bsl size z n p)) Q = W1 (Q7 size z n (p.map fun p => (p.1,p.2.1,ev f p.2.2))) (fun n => WF (n.2 h.length) (fun v => WF (h ++ [n.1]) (fun hh => Q v hh))):=by rw [Aki rfl];simp only [Jh,Q7,Vq]
theorem Amn {size:Nat} {z:List Value} {n:Nat} {p:List (Nat × Nat × X)} {Q:Value → Aa → Prop}:WX W (opD cf m f h ⟨dd,g,(.bsl size z n p),fl,rk,lz⟩) Q = W1 (Q7 size z n (p.map fun p => (p.1,p.2.1,ev f p.2.2))) (fun n => WF (n.2 (m + rk)) (fun v => WF (h.set (m + rk) n.1) (fun hh => Q v hh))):=by rw [Zw rfl];simp only [Jh,Q7,Vq]
theorem As7 {z:List Value} {bytes:Nat} {x y:X} {Q:Value → Aa → Prop}:WX W (opN cf f h (.msl z bytes x y)) Q = W1 (Ap4 z bytes (ev f x) (ev f y)) (fun n => WF (n.2 h.length) (fun v => WF (h ++ [n.1]) (fun hh => Q v hh))):=by rw [Aki rfl];rfl
theorem Al3 {z:List Value} {bytes:Nat} {x y:X} {Q:Value → Aa → Prop}:WX W (opD cf m f h ⟨dd,g,(.msl z bytes x y),fl,rk,lz⟩) Q = W1 (Ap4 z bytes (ev f x) (ev f y)) (fun n => WF (n.2 (m + rk)) (fun v => WF (h.set (m + rk) n.1) (fun hh => Q v hh))):=by rw [Zw rfl];rfl
theorem As9 {Q:Value → Aa → Prop}:WX W (opN cf f h .mkm) Q = W1 (some (.map [],fun b => .map (some b))) (fun n => WF (n.2 h.length) (fun v => WF (h ++ [n.1]) (fun hh => Q v hh))):=by rw [Aki rfl];rfl
theorem Al5 {Q:Value → Aa → Prop}:WX W (opD cf m f h ⟨dd,g,.mkm,fl,rk,lz⟩) Q = W1 (some (.map [],fun b => .map (some b))) (fun n => WF (n.2 (m + rk)) (fun v => WF (h.set (m + rk) n.1) (fun hh => Q v hh))):=by rw [Zw rfl];rfl
theorem Atx {Q:Value → Aa → Prop}:WX W (opN cf f h .alb) Q = W1 (some (.bld none,fun b => .pointer (some ⟨b,0,none⟩))) (fun n => WF (n.2 h.length) (fun v => WF (h ++ [n.1]) (fun hh => Q v hh))):=by rw [Aki rfl];rfl
theorem Amu {Q:Value → Aa → Prop}:WX W (opD cf m f h ⟨dd,g,.alb,fl,rk,lz⟩) Q = W1 (some (.bld none,fun b => .pointer (some ⟨b,0,none⟩))) (fun n => WF (n.2 (m + rk)) (fun v => WF (h.set (m + rk) n.1) (fun hh => Q v hh))):=by rw [Zw rfl];rfl
theorem As4 {x:X} {Q:Value → Aa → Prop}:WX W (opN cf f h (.s2b x)) Q = W1 (A1m (ev f x)) (fun n => WF (n.2 h.length) (fun v => WF (h ++ [n.1]) (fun hh => Q v hh))):=by rw [Aki rfl];rfl
theorem Al0 {x:X} {Q:Value → Aa → Prop}:WX W (opD cf m f h ⟨dd,g,(.s2b x),fl,rk,lz⟩) Q = W1 (A1m (ev f x)) (fun n => WF (n.2 (m + rk)) (fun v => WF (h.set (m + rk) n.1) (fun hh => Q v hh))):=by rw [Zw rfl];rfl
theorem As6 {q:EqK} {m1 k1 v1:X} {Q:Value → Aa → Prop}:WX W (opN cf f h (.mup q m1 k1 v1)) Q = WX W (Aue q (ev f m1) (ev f k1) (ev f v1) h) Q:=by rw [Aty rfl];rfl
theorem Al2 {q:EqK} {m1 k1 v1:X} {Q:Value → Aa → Prop}:WX W (opD cf m f h ⟨dd,g,(.mup q m1 k1 v1),fl,rk,false⟩) Q = WX W (Aue q (ev f m1) (ev f k1) (ev f v1) h) Q:=by rw [Agu rfl];rfl
theorem Agj {q:EqK} {m1 k1 v1:X} {Q:Value → Aa → Prop}:WX W (opD cf m f h ⟨dd,g,(.mup q m1 k1 v1),fl,rk,true⟩) Q = WX (fun _ => False) (Aue q (ev f m1) (ev f k1) (ev f v1) h) Q:=by rw [Zv rfl];rfl
theorem Atv {size bytes:Nat} {x y:X} {Q:Value → Aa → Prop}:WX W (opN cf f h (.app size bytes x y)) Q = WX W (B9 size bytes (ev f x) (ev f y) h) Q:=by rw [Aty rfl];rfl
theorem Ams {size bytes:Nat} {x y:X} {Q:Value → Aa → Prop}:WX W (opD cf m f h ⟨dd,g,(.app size bytes x y),fl,rk,false⟩) Q = WX W (B9 size bytes (ev f x) (ev f y) h) Q:=by rw [Agu rfl];rfl
theorem Agt {size bytes:Nat} {x y:X} {Q:Value → Aa → Prop}:WX W (opD cf m f h ⟨dd,g,(.app size bytes x y),fl,rk,true⟩) Q = WX (fun _ => False) (B9 size bytes (ev f x) (ev f y) h) Q:=by rw [Zv rfl];rfl
theorem Ato {size:Nat} {x y:X} {Q:Value → Aa → Prop}:WX W (opN cf f h (.cpy size x y)) Q = WX W (V0 size (ev f x) (ev f y) h) Q:=by rw [Aty rfl];rfl
theorem Aml {size:Nat} {x y:X} {Q:Value → Aa → Prop}:WX W (opD cf m f h ⟨dd,g,(.cpy size x y),fl,rk,false⟩) Q = WX W (V0 size (ev f x) (ev f y) h) Q:=by rw [Agu rfl];rfl
theorem Agp {size:Nat} {x y:X} {Q:Value → Aa → Prop}:WX W (opD cf m f h ⟨dd,g,(.cpy size x y),fl,rk,true⟩) Q = WX (fun _ => False) (V0 size (ev f x) (ev f y) h) Q:=by rw [Zv rfl];rfl
theorem Atp {z:List Value} {x:X} {Q:Value → Aa → Prop}:WX W (opN cf f h (.clr z x)) Q = WX W (M3 z (ev f x) h) Q:=by rw [Aty rfl];rfl
theorem Amm {z:List Value} {x:X} {Q:Value → Aa → Prop}:WX W (opD cf m f h ⟨dd,g,(.clr z x),fl,rk,false⟩) Q = WX W (M3 z (ev f x) h) Q:=by rw [Agu rfl];rfl
theorem Agq {z:List Value} {x:X} {Q:Value → Aa → Prop}:WX W (opD cf m f h ⟨dd,g,(.clr z x),fl,rk,true⟩) Q = WX (fun _ => False) (M3 z (ev f x) h) Q:=by rw [Zv rfl];rfl
theorem Atl {q:EqK} {m1 k1:X} {Q:Value → Aa → Prop}:WX W (opN cf f h (.del q m1 k1)) Q = WX W (A01 q (ev f m1) (ev f k1) h) Q:=by rw [Aty rfl];rfl
theorem Ami {q:EqK} {m1 k1:X} {Q:Value → Aa → Prop}:WX W (opD cf m f h ⟨dd,g,(.del q m1 k1),fl,rk,false⟩) Q = WX W (A01 q (ev f m1) (ev f k1) h) Q:=by rw [Agu rfl];rfl
theorem Ago {q:EqK} {m1 k1:X} {Q:Value → Aa → Prop}:WX W (opD cf m f h ⟨dd,g,(.del q m1 k1),fl,rk,true⟩) Q = WX (fun _ => False) (A01 q (ev f m1) (ev f k1) h) Q:=by rw [Zv rfl];rfl
end
end Go.L
namespace Go.L
open Go
theorem A2j {f:FF} {s:Nat}:ev f (.t s) = f s:=rfl
theorem A2l {f:FF} {v:Value}:ev f (.c v) = v:=rfl
theorem A2k {f:FF} {g:Nat}:ev f (.f g) = .func (.func g) #[] #[]:=rfl
theorem Arg {f:FF} {d s:Nat} {v:Value}:upd f d v s = if s = d then v else f s:=rfl
theorem Ah3 {k s:Nat} {v:Value} {r:Fr}:get ((k,v) :: r) s = if s = k then v else get r s:=rfl
section
variable {q:EqK} {k k':IntKind} {a b:Int}
theorem Aos:binOp .add q (.int k a) (.int k b) = some (.int k (k.wrap (a + b))):=by simp [binOp,Gf]
theorem Aoe:binOp .sub q (.int k a) (.int k b) = some (.int k (k.wrap (a - b))):=by simp [binOp,Gf]
theorem Aok:binOp .mul q (.int k a) (.int k b) = some (.int k (k.wrap (a * b))):=by simp [binOp,Gf]
theorem Aoi (h:b ≠ 0):binOp .quo q (.int k a) (.int k b) = some (.int k (k.wrap (a.tdiv b))):=by simp [binOp,Gf,h]
theorem Aoh (h:b ≠ 0):binOp .rem q (.int k a) (.int k b) = some (.int k (a.tmod b)):=by simp [binOp,Gf,h]
theorem Aop:binOp .eql q (.int k a) (.int k b) = some (.bool (decide (a = b))):=by simp [binOp,Gf];rfl
theorem Aoj:binOp .neq q (.int k a) (.int k b) = some (.bool (decide (¬ a = b))):=by
 simp only [binOp,Gf,if_true];congr 2;by_cases h:a = b <;> simp [h]
theorem Aol:binOp .lss q (.int k a) (.int k b) = some (.bool (decide (a < b))):=by simp [binOp,Gf]
theorem Aom:binOp .leq q (.int k a) (.int k b) = some (.bool (decide (a ≤ b))):=by simp [binOp,Gf]
theorem Aon:binOp .gtr q (.int k a) (.int k b) = some (.bool (decide (b < a))):=by simp [binOp,Gf]
theorem Aoo:binOp .geq q (.int k a) (.int k b) = some (.bool (decide (b ≤ a))):=by simp [binOp,Gf]
theorem Arp:unOp .neg (.int k a) = some (.int k (k.wrap (0 - a))):=rfl
theorem Aro {t:Bool}:unOp .not (.bool t) = some (.bool (!t)):=rfl
theorem Aor {x y:Bool}:binOp .eql .bool (.bool x) (.bool y) = some (.bool (x == y)):=rfl
theorem Aoq {x y:Bool}:binOp .neq .bool (.bool x) (.bool y) = some (.bool (!(x == y))):=rfl
theorem Aog {x y:ByteArray}:binOp .eql q (.string x) (.string y) = some (.bool (x.toList == y.toList)):=rfl
theorem Aof {x y:ByteArray}:binOp .neq q (.string x) (.string y) = some (.bool (!(x.toList == y.toList))):=rfl
end
theorem Uy {x:Int} (h1:-9223372036854775808 ≤ x) (h2:x < 9223372036854775808):IntKind.i64.wrap x = x:=by
 simp [IntKind.wrap,IntKind.bits,IntKind.signed];omega
theorem Rb {x:Int} (h1:0 ≤ x) (h2:x < 18446744073709551616):IntKind.u64.wrap x = x:=by
 simp [IntKind.wrap,IntKind.bits,IntKind.signed];omega
theorem Ady {x:Int} (h1:0 ≤ x) (h2:x < 256):IntKind.u8.wrap x = x:=by
 simp [IntKind.wrap,IntKind.bits,IntKind.signed];omega
theorem An7 {k k':IntKind} {n:Int}:A03 k (.int k' n) = some (.int k (k.wrap n)):=rfl
theorem An6 {s:ByteArray}:A02 (.string s) = some (.string s):=rfl
theorem Asw {a b:Value}:Alv (.bool true) a b = some a:=rfl
theorem Asx {a b:Value}:Alv (.bool false) a b = some b:=rfl
theorem Aa5 {k:IntKind} {n:Int}:Bj (.int k n) = [.int k n]:=rfl
theorem Xz {b:Bool}:Bj (.bool b) = [.bool b]:=rfl
theorem Aa1 {b:ByteArray}:Bj (.string b) = [.string b]:=rfl
theorem Aa2 {b:Option Addr}:Bj (.pointer b) = [.pointer b]:=rfl
theorem V4 {b:Option Addr} {n c:Nat}:Bj (.slice b n c) = [.slice b n c]:=rfl
theorem Aa4 {b:Option Nat}:Bj (.map b) = [.map b]:=rfl
theorem Xy {g:Fn} {a b:Array Value}:Bj (.func g a b) = [.func g a b]:=rfl
theorem Up {a:Array Value}:Bj (.agg a) = a.toList:=rfl
theorem Aeg {k:IntKind} {n:Int}:Ag (.int k n) = true:=rfl
theorem Agz {b:Bool}:Ag (.bool b) = true:=rfl
theorem Am3 {b:ByteArray}:Ag (.string b) = true:=rfl
theorem Am4 {b:Option Addr}:Ag (.pointer b) = true:=rfl
theorem Acv {b:Option Addr} {n c:Nat}:Ag (.slice b n c) = true:=rfl
theorem Am5 {b:Option Nat}:Ag (.map b) = true:=rfl
theorem Agy {g:Fn} {a b:Array Value}:Ag (.func g a b) = true:=rfl
theorem Agx:Ag .nilFunc = true:=rfl
theorem Xx:Bj .nilFunc = [.nilFunc]:=rfl
theorem Aa3 {v:Value} (h:Ag v = true):Bj v = [v]:=by cases v <;> first | rfl | cases h
theorem Ade {c:List Value}:Vr [] c = some c:=rfl
theorem Aas {o n:Nat} {x:Value} {r:List (Nat × Nat × Value)} {c:List Value}:Vr ((o,n,x) :: r) c = if (Bj x).length = n ∧ o + n ≤ c.length ∧ (Bj x).all Ag then Vr r (setCells c o (Bj x)) else none:=rfl
theorem Jd {c:List Value} {o:Nat}:setCells c o [] = c:=rfl
theorem F0 {c:List Value} {o:Nat} {v:Value} {r:List Value}:setCells c o (v :: r) = setCells (c.set o v) (o + 1) r:=rfl
def ldO:Option LObj → Nat → Option Nat → Option Value
 | some (.cells c _),off,agg => part c off agg
 | _,_,_ => none
theorem Ahq {b off:Nat} {sp:Option Nat} {agg:Option Nat} {h:Aa}:N2 agg (.pointer (some ⟨b,off,sp⟩)) h = ldO h[b]? off agg:=by
 simp only [N2];cases h[b]? with
 | none => rfl
 | some o => cases o <;> rfl
theorem O8 {c:List Value} {ro:Bool} {off:Nat} {agg:Option Nat}:ldO (some (.cells c ro)) off agg = part c off agg:=rfl
theorem S5 {c:List Value} {off:Nat}:part c off none = c[off]?:=rfl
theorem Ws {c:List Value} {off n:Nat}:part c off (some n) = if off + n ≤ c.length then some (.agg ((c.drop off).take n).toArray) else none:=rfl
def stO (n:Nat) (h:Aa) (b off:Nat) (cs:List Value):Option LObj → Option (Aa × List Nat)
 | some (.cells c false) => if cs.length = n ∧ off + n ≤ c.length ∧ cs.all Ag then some (h.set b (.cells (setCells c off cs) false),[b]) else none
 | _ => none
theorem Aci {n b off:Nat} {sp:Option Nat} {v:Value} {h:Aa}:Fk n (.pointer (some ⟨b,off,sp⟩)) v h = stO n h b off (Bj v) h[b]?:=by
 simp only [Fk];cases h[b]? with
 | none => rfl
 | some o => cases o with
  | cells c ro => cases ro <;> rfl
  | map _ => rfl
  | loop _ => rfl
  | dead => rfl
  | bld _ => rfl
  | bytes _ => rfl
theorem Ml {n b off:Nat} {h:Aa} {cs c:List Value}:stO n h b off cs (some (.cells c false)) = if cs.length = n ∧ off + n ≤ c.length ∧ cs.all Ag then some (h.set b (.cells (setCells c off cs) false),[b]) else none:=rfl
theorem An2 {off b o:Nat} {sp:Option Nat}:A0u off (.pointer (some ⟨b,o,sp⟩)) = some (.pointer (some ⟨b,o + off,none⟩)):=rfl
theorem An1 {off:Nat} {agg:Option Nat} {cs:Array Value}:A0s off agg (.agg cs) = part cs.toList off agg:=rfl
theorem Anl {a:Addr}:Axi (.pointer (some a)) = some (.pointer (some a)):=rfl
theorem Ahk {g:FuncId} {a b:Array Value}:Axi (.func (.func g) a b) = some (.func (.func g) a b):=rfl
theorem Aai {a:Option Addr} {n c:Nat}:Ly false (.slice a n c) = some (.int .i64 n):=rfl
theorem Aht {s:ByteArray}:Ly true (.string s) = some (.int .i64 s.size):=rfl
theorem Adf {vs:Array Value} {j:Nat}:A0x (.tuple vs) j = match vs.toList[j]? with | some v => if Fm v then some v else none | none => none:=rfl
theorem At7 {k:IntKind} {n:Int}:Fm (.int k n) = true:=rfl
theorem Am8 {b:Bool}:Fm (.bool b) = true:=rfl
theorem At4 {b:ByteArray}:Fm (.string b) = true:=rfl
theorem Ag7 {b:Option Addr} {n c:Nat}:Fm (.slice b n c) = true:=rfl
theorem At5 {b:Option Addr}:Fm (.pointer b) = true:=rfl
theorem At8 {b:Array Value}:Fm (.agg b) = true:=rfl
theorem At6 {b:Option Nat}:Fm (.map b) = true:=rfl
theorem Am7 {g:Fn} {a b:Array Value}:Fm (.func g a b) = true:=rfl
theorem Cn {size n c b o:Nat} {sp:Option Nat} {k:IntKind} {j:Int} (h1:0 ≤ j) (h2:j < n):Aqb size (.slice (some ⟨b,o,sp⟩) n c) (.int k j) = some (.pointer (some ⟨b,o + j.toNat * size,none⟩)):=by
 simp [Aqb,Sq,h1,h2]
theorem Ahy {size n b o:Nat} {sp:Option Nat} {k:IntKind} {j:Int} (h1:0 ≤ j) (h2:j < n):Axv n size (.pointer (some ⟨b,o,sp⟩)) (.int k j) = some (.pointer (some ⟨b,o + j.toNat * size,none⟩)):=by
 simp [Axv,Sq,h1,h2]
theorem Aun {s:ByteArray} {k:IntKind} {j:Int} (h1:0 ≤ j):Aam (.string s) (.int k j) = (s[j.toNat]?).map fun b => .int .u8 b.toNat:=by simp [Aam,h1]
theorem Ay9 {x:Value}:J6 min2 x [] = some x:=rfl
theorem Ay8 {k:IntKind} {a b:Int} {r:List Value}:J6 min2 (.int k a) (.int k b :: r) = J6 min2 (.int k (min a b)) r:=by
 simp only [J6,min2,Option.bind_some];congr 2;omega
theorem Azb {x:Value}:J6 max2 x [] = some x:=rfl
theorem Aza {k:IntKind} {a b:Int} {r:List Value}:J6 max2 (.int k a) (.int k b :: r) = J6 max2 (.int k (max a b)) r:=by
 simp only [J6,max2,Option.bind_some];congr 2;omega
theorem Af6 {fr:Fr} {h:Aa}:Kc fr h [] = some []:=rfl
theorem Aso {fr:Fr} {h:Aa} {s:Nat} {r:List R}:Kc fr h (.t s :: r) = (Kc fr h r).map (get fr s :: ·):=rfl
theorem Asn {fr:Fr} {h:Aa} {s:Nat} {agg:Option Nat} {r:List R}:Kc fr h (.v agg s :: r) = (N2 agg (get fr s) h).bind fun v => (Kc fr h r).map (v :: ·):=rfl
theorem Af4 {v:Value}:Qx [v] = v:=rfl
theorem Af3 {v w:Value} {r:List Value}:Qx (v :: w :: r) = .tuple (v :: w :: r).toArray:=rfl
theorem Af5:Qx [] = .tuple #[]:=rfl
theorem Anb {m:Nat} {k:IntKind} {n:Int}:Ae m 4 (.int k n) = true:=rfl
theorem Ahb {m:Nat} {b:Bool}:Ae m 4 (.bool b) = true:=rfl
theorem Am9 {m:Nat} {b:ByteArray}:Ae m 4 (.string b) = true:=rfl
theorem Acy {m n c:Nat} {a:Addr}:Ae m 4 (.slice (some a) n c) = decide (a.block < m):=rfl
theorem Ag8 {m n c:Nat}:Ae m 4 (.slice none n c) = true:=rfl
theorem Ana {m:Nat} {a:Addr}:Ae m 4 (.pointer (some a)) = decide (a.block < m):=rfl
theorem Ag9 {m:Nat}:Ae m 4 (.pointer none) = true:=rfl
theorem Anc {m:Nat} {vs:Array Value}:Ae m 4 (.agg vs) = vs.toList.all (Ae m 3):=rfl
theorem Acx {m:Nat} {vs:Array Value}:Ae m 4 (.tuple vs) = vs.toList.all (Ae m 3):=rfl
theorem Aha {m:Nat} {g:FuncId} {a b:Array Value}:Ae m 4 (.func (.func g) a b) = (a.toList.all (Ae m 3) && b.toList.all (Ae m 3)):=by simp [Ae]
theorem Anf {m:Nat} {k:IntKind} {n:Int}:Ae m 3 (.int k n) = true:=rfl
theorem Ahf {m:Nat} {b:Bool}:Ae m 3 (.bool b) = true:=rfl
theorem And {m:Nat} {b:ByteArray}:Ae m 3 (.string b) = true:=rfl
theorem Ac0 {m n c:Nat} {a:Addr}:Ae m 3 (.slice (some a) n c) = decide (a.block < m):=rfl
theorem Ahc {m n c:Nat}:Ae m 3 (.slice none n c) = true:=rfl
theorem Ane {m:Nat} {a:Addr}:Ae m 3 (.pointer (some a)) = decide (a.block < m):=rfl
theorem Ahd {m:Nat}:Ae m 3 (.pointer none) = true:=rfl
theorem Ang {m:Nat} {vs:Array Value}:Ae m 3 (.agg vs) = vs.toList.all (Ae m 2):=rfl
theorem Acz {m:Nat} {vs:Array Value}:Ae m 3 (.tuple vs) = vs.toList.all (Ae m 2):=rfl
theorem Ahe {m:Nat} {g:FuncId} {a b:Array Value}:Ae m 3 (.func (.func g) a b) = (a.toList.all (Ae m 2) && b.toList.all (Ae m 2)):=by simp [Ae]
theorem Anj {m:Nat} {k:IntKind} {n:Int}:Ae m 2 (.int k n) = true:=rfl
theorem Ahj {m:Nat} {b:Bool}:Ae m 2 (.bool b) = true:=rfl
theorem Anh {m:Nat} {b:ByteArray}:Ae m 2 (.string b) = true:=rfl
theorem Ac2 {m n c:Nat} {a:Addr}:Ae m 2 (.slice (some a) n c) = decide (a.block < m):=rfl
theorem Ahg {m n c:Nat}:Ae m 2 (.slice none n c) = true:=rfl
theorem Ani {m:Nat} {a:Addr}:Ae m 2 (.pointer (some a)) = decide (a.block < m):=rfl
theorem Ahh {m:Nat}:Ae m 2 (.pointer none) = true:=rfl
theorem Ank {m:Nat} {vs:Array Value}:Ae m 2 (.agg vs) = vs.toList.all (Ae m 1):=rfl
theorem Ac1 {m:Nat} {vs:Array Value}:Ae m 2 (.tuple vs) = vs.toList.all (Ae m 1):=rfl
theorem Ahi {m:Nat} {g:FuncId} {a b:Array Value}:Ae m 2 (.func (.func g) a b) = (a.toList.all (Ae m 1) && b.toList.all (Ae m 1)):=by simp [Ae]
section
variable {h l:Aa} {o:LObj}
theorem Jr {n:Nat}:(h ++ l)[h.length + n]? = l[n]?:=by rw [List.getElem?_append_right (by omega)];congr 1;omega
theorem Bh:(h ++ l)[h.length]? = l[0]?:=by rw [List.getElem?_append_right (by omega)];congr 1;omega
theorem Az0 {n:Nat}:(h ++ l).set (h.length + n) o = h ++ l.set n o:=by rw [List.set_append_right _ _ (by omega)];congr 2;omega
theorem Aym:(h ++ l).set h.length o = h ++ l.set 0 o:=by rw [List.set_append_right _ _ (by omega)];congr 2;omega
theorem An {b c:Nat} (hb:b ≠ c):(h.set b o)[c]? = h[c]?:=List.getElem?_set_ne hb
theorem Ayu:room h 0 = h:=rfl
theorem Ayt:room h 1 = h ++ [.dead]:=rfl
theorem Ays:room h 2 = h ++ [.dead,.dead]:=rfl
theorem Ayr:room h 3 = h ++ [.dead,.dead,.dead]:=rfl
theorem Ayq:room h 4 = h ++ [.dead,.dead,.dead,.dead]:=rfl
end
def blk:Value → Nat
 | .slice (some a) _ _ => a.block
 | _ => 0
def ofs:Value → Nat
 | .slice (some a) _ _ => a.off
 | _ => 0
structure Row (sz:Nat) (h:Aa) (v:Value) (L:List (List Value)):Prop where
 size:∀ e ∈ L,e.length = sz
 few:L.length < 1152921504606846976
 is:(v = .slice none 0 0 ∧ L = []) ∨ ∃ b off sp cap c ro,v = .slice (some ⟨b,off,sp⟩) L.length cap ∧ h[b]? = some (.cells c ro) ∧ off + L.length * sz ≤ c.length ∧ (c.drop off).take (L.length * sz) = L.flatten ∧ L.length ≤ cap ∧ (sp = none ∨ sp = some sz)
namespace Row
variable {sz:Nat} {h:Aa} {v:Value} {L:List (List Value)}
theorem len (r:Row sz h v L):Ly false v = some (.int .i64 L.length):=by
 rcases r.is with ⟨rfl,rfl⟩ | ⟨b,off,e,a,c,d,rfl,_⟩ <;> rfl
theorem ixs (r:Row sz h v L) (k:IntKind) (i:Int) (h1:0 ≤ i) (h2:i < L.length):Aqb sz v (.int k i) = some (.pointer (some ⟨blk v,ofs v + i.toNat * sz,none⟩)):=by
 rcases r.is with ⟨rfl,rfl⟩ | ⟨b,off,e,a,c,d,rfl,_⟩
 ·simp at h2;omega
 ·exact Cn h1 h2
theorem flat_get:∀ {L:List (List Value)} (hs:∀ e ∈ L,e.length = sz) (i fo:Nat) (hi:i < L.length) (hf:fo < sz),L.flatten[i * sz + fo]? = some ((L.getD i []).getD fo undef):=by
 intro L
 induction L with
 | nil => intro hs i fo hi;simp at hi
 | cons x r ih =>
  intro hs i fo hi hf
  have c:x.length = sz:=hs x (by simp)
  cases i with
  | zero =>
   simp only [Nat.zero_mul,Nat.zero_add,List.flatten_cons,List.getD_cons_zero]
   rw [GL (by omega),List.getD_eq_getElem?_getD,List.getElem?_eq_getElem (by omega)];rfl
  | succ i =>
   have e:(i + 1) * sz + fo = x.length + (i * sz + fo):=by rw [c,Nat.succ_mul];omega
   rw [List.flatten_cons,e,List.getElem?_append_right (by omega),Nat.add_sub_cancel_left,List.getD_cons_succ]
   exact ih (fun e a => hs e (by simp [a])) i fo (by simpa using hi) hf
theorem at_ (r:Row sz h v L) (i fo:Nat) (hi:i < L.length) (hf:fo < sz):∃ c ro,h[blk v]? = some (.cells c ro) ∧ ofs v + i * sz + fo < c.length ∧ c[ofs v + i * sz + fo]? = some ((L.getD i []).getD fo undef):=by
 rcases r.is with ⟨rfl,rfl⟩ | ⟨b,off,l,e,c,ro,rfl,f,j,g,d⟩
 ·simp at hi
 ·have a:i * sz + fo < L.length * sz:=by
   have:=Nat.mul_le_mul_right sz (show i + 1 ≤ L.length by omega)
   rw [Nat.succ_mul] at this;omega
  refine ⟨c,ro,f,?_,?_⟩
  ·simp only [ofs];omega
  ·simp only [ofs]
   rw [← flat_get r.size i fo hi hf,← g,List.getElem?_take,if_pos a,List.getElem?_drop,Nat.add_assoc]
theorem ld (r:Row sz h v L) (i:Int) (fo:Nat) (h1:0 ≤ i) (h2:i < L.length) (hf:fo < sz):ldO h[blk v]? (ofs v + i.toNat * sz + fo) none = some ((L.getD i.toNat []).getD fo undef):=by
 obtain ⟨c,e,a,_,d⟩:=r.at_ i.toNat fo (by omega) hf
 rw [a,O8,S5,d]
theorem ld0 (r:Row sz h v L) (i:Int) (h1:0 ≤ i) (h2:i < L.length) (hf:0 < sz):ldO h[blk v]? (ofs v + i.toNat * sz) none = some ((L.getD i.toNat []).getD 0 undef):=r.ld i 0 h1 h2 hf
theorem getD_mem {L:List (List Value)} {i:Nat} (hi:i < L.length):L.getD i [] ∈ L:=by
 rw [List.getD_eq_getElem?_getD,List.getElem?_eq_getElem hi];exact List.getElem_mem hi
theorem lda (r:Row sz h v L) (i:Int) (h1:0 ≤ i) (h2:i < L.length) (hz:0 < sz):ldO h[blk v]? (ofs v + i.toNat * sz) (some sz) = some (.agg (L.getD i.toNat []).toArray):=by
 have d:i.toNat < L.length:=by omega
 have g:(L.getD i.toNat []).length = sz:=r.size _ (getD_mem d)
 obtain ⟨c,s,f,o,_⟩:=r.at_ i.toNat (sz - 1) d (by omega)
 rw [f,O8,Ws,if_pos (by omega)]
 congr 3
 apply List.ext_getElem?
 intro j
 by_cases e:j < sz
 ·obtain ⟨p,m,a,_,n⟩:=r.at_ i.toNat j d e
  rw [f] at a;cases a
  rw [List.getElem?_take,if_pos e,List.getElem?_drop,n,List.getD_eq_getElem?_getD (l:=L.getD i.toNat []),List.getElem?_eq_getElem (by omega)];rfl
 ·rw [List.getElem?_eq_none (by simp;omega),List.getElem?_eq_none (by omega)]
theorem ext (r:Row sz h v L) {h':Aa} (hx:∀ (b:Nat) (o:LObj),h[b]? = some o → o ≠ LObj.dead → h'[b]? = some o):Row sz h' v L :=
 ⟨r.size,r.few,r.is.imp id fun ⟨b,off,sp,cap,c,ro,h1,h2,h3⟩ => ⟨b,off,sp,cap,c,ro,h1,hx _ _ h2 (by intro h;cases h),h3⟩⟩
theorem app (r:Row sz h v L) (l:Aa):Row sz (h ++ l) v L:=r.ext fun b o hb _ => by
 rw [GL (GI.1 hb).1];exact hb
theorem set (r:Row sz h v L) {b:Nat} {o:LObj} (hb:b ≠ blk v):Row sz (h.set b o) v L :=
 ⟨r.size,r.few,r.is.imp id fun ⟨b',off,sp,cap,c,ro,h1,h2,h3⟩ => ⟨b',off,sp,cap,c,ro,h1,by rw [An (by rw [h1] at hb;exact hb)];exact h2,h3⟩⟩
theorem lt (r:Row sz h v L) (hl:L ≠ []):blk v < h.length:=by
 rcases r.is with ⟨_,rfl⟩ | ⟨b,off,f,d,c,e,rfl,a,_⟩
 ·exact absurd rfl hl
 ·exact (GI.1 a).1
theorem cells (r:Row sz h v L):cellsOf sz v h = some (L.length,L.flatten):=by
 rcases r.is with ⟨rfl,rfl⟩ | ⟨b,off,l,d,c,j,rfl,e,g,f,a⟩
 ·rfl
 ·simp [cellsOf,e,g,f]
end Row
def atI {α : Type} [Inhabited α] (l:List α) (i:Int):α:=l.getD i.toNat default
theorem Yv {α : Type} [Inhabited α] (enc:α → List Value) (l:List α) (i:Int) (h1:0 ≤ i) (h2:i < l.length):(l.map enc).getD i.toNat [] = enc (atI l i):=by
 unfold atI
 rw [List.getD_eq_getElem?_getD,List.getD_eq_getElem?_getD,List.getElem?_map,List.getElem?_eq_getElem (by omega)];rfl
def Rd {α : Type} (sz:Nat) (enc:α → List Value) (h:Aa) (v:Value) (l:List α):Prop:=Row sz h v (l.map enc)
namespace Rd
variable {α : Type} {sz:Nat} {enc:α → List Value} {h:Aa} {v:Value} {l:List α}
theorem few (r:Rd sz enc h v l):l.length < 1152921504606846976:=by have:=Row.few r;simpa using this
theorem len (r:Rd sz enc h v l):Ly false v = some (.int .i64 l.length):=by rw [Row.len r];simp
theorem ixs (r:Rd sz enc h v l) (k:IntKind) (i:Int) (h1:0 ≤ i) (h2:i < l.length):Aqb sz v (.int k i) = some (.pointer (some ⟨blk v,ofs v + i.toNat * sz,none⟩)):=Row.ixs r k i h1 (by simpa using h2)
theorem ld [Inhabited α] (r:Rd sz enc h v l) (i:Int) (fo:Nat) (h1:0 ≤ i) (h2:i < l.length) (hf:fo < sz):ldO h[blk v]? (ofs v + i.toNat * sz + fo) none = some ((enc (atI l i)).getD fo undef):=by
 rw [Row.ld r i fo h1 (by simpa using h2) hf,Yv _ _ _ h1 h2]
theorem ld0 [Inhabited α] (r:Rd sz enc h v l) (i:Int) (h1:0 ≤ i) (h2:i < l.length) (hf:0 < sz):ldO h[blk v]? (ofs v + i.toNat * sz) none = some ((enc (atI l i)).getD 0 undef):=r.ld i 0 h1 h2 hf
theorem lda [Inhabited α] (r:Rd sz enc h v l) (i:Int) (h1:0 ≤ i) (h2:i < l.length) (hf:0 < sz):ldO h[blk v]? (ofs v + i.toNat * sz) (some sz) = some (.agg (enc (atI l i)).toArray):=by
 rw [Row.lda r i h1 (by simpa using h2) hf,Yv _ _ _ h1 h2]
theorem app (r:Rd sz enc h v l) (x:Aa):Rd sz enc (h ++ x) v l:=Row.app r x
theorem ext (r:Rd sz enc h v l) {h':Aa} (hx:∀ (b:Nat) (o:LObj),h[b]? = some o → o ≠ LObj.dead → h'[b]? = some o):Rd sz enc h' v l:=Row.ext r hx
theorem set (r:Rd sz enc h v l) {b:Nat} {o:LObj} (hb:b ≠ blk v):Rd sz enc (h.set b o) v l:=Row.set r hb
end Rd
end Go.L
