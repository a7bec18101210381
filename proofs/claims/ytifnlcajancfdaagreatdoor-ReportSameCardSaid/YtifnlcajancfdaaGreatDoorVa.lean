/- A LOGIC OVER THE LOGICAL MACHINE: answers with a postcondition, and the rules by which a function's instructions are run within 'simp'. -/
import Derived.Test.YtifnlcajancfdaaGreatDoorK
set_option linter.unusedVariables false
set_option linter.unusedSimpArgs false
namespace Go.L
open Go
inductive Mk {β : Type} (b:β):Type | mk
inductive Mk2 (A B:Prop):Type | mk
def WX {α : Type} (W:Nat→Prop) (x:Option (α × Aa × List Nat)) (Q:α → Aa→Prop) (t:Mk Q:=.mk):Prop:=∃ a h ws,x=some (a,h,ws)∧(∀ b∈ws,W b)∧Q a h
def W1 {α : Type} (x:Option α) (Q:α → Prop) (t:Mk Q:=.mk):Prop:=∃ v,x=some v∧Q v
def WO (W:Nat→Prop) (x:Out) (Q:Ex→Fr→Aa→Prop) (t:Mk Q:=.mk):Prop:=∃ e fr h ws,x=some (e,fr,h,ws)∧(∀ b∈ws,W b)∧Q e fr h
def WH (W:Nat→Prop) (x:Option (Aa × List Nat)) (Q:Aa→Prop) (t:Mk Q:=.mk):Prop:=∃ h ws,x=some (h,ws)∧(∀ b∈ws,W b)∧Q h
def WF {α : Type} (x:α) (Q:α → Prop) (t:Mk Q:=.mk):Prop:=Q x
theorem A2p {α : Type} {x:α} {Q:α → Prop}:WF x Q=Q x:=id rfl
def WC (v:Value) (A B:Prop) (t:Mk2 A B:=.mk):Prop:=∃ b,v = .bool b∧(b=true→A)∧(b=false→B)
def WG (v:Value) (want:Bool) (A B:Prop) (t:Mk2 A B:=.mk):Prop:=match v with
 | .bool b => if b=want then A else B
 | .tuple vs => vs.isEmpty=true∧B
 | _ => False
theorem Agr {α : Type} {v:α} {Q:α → Prop}:W1 (some v) Q=Q v:=by simp [W1]
theorem WX_some {α : Type} {W:Nat→Prop} {a:α} {h:Aa} {Q:α → Aa→Prop}:WX W (some (a,h,[])) Q=Q a h :=
 propext ⟨fun ⟨_,_,_,e,_,hq⟩ => by cases e;exact hq,fun hq => ⟨_,_,_,rfl,⟨(fun x hb => nomatch hb),hq⟩⟩⟩
theorem Akj {α : Type} {W:Nat→Prop} {a:α} {h:Aa} {b:Nat} {Q:α → Aa→Prop}:WX W (some (a,h,[b])) Q=(W b∧Q a h) :=
 propext ⟨fun ⟨_,_,_,e,hw,hq⟩ => by cases e;exact ⟨hw _ (List.mem_singleton.2 rfl),hq⟩,fun hq => ⟨_,_,_,rfl,fun x hb => by rw [List.mem_singleton.1 hb];exact hq.1,hq.2⟩⟩
theorem Acx {W:Nat→Prop} {h:Aa} {b:Nat} {Q:Aa→Prop}:WH W (some (h,[b])) Q=(W b∧Q h) :=
 propext ⟨fun ⟨_,_,e,hw,hq⟩ => by cases e;exact ⟨hw _ (List.mem_singleton.2 rfl),hq⟩,fun hq => ⟨_,_,rfl,fun x hb => by rw [List.mem_singleton.1 hb];exact hq.1,hq.2⟩⟩
theorem W9 {W:Nat→Prop} {e:Ex} {fr:Fr} {h:Aa} {Q:Ex→Fr→Aa→Prop}:WO W (some (e,fr,h,[])) Q=Q e fr h :=
 propext ⟨fun ⟨_,_,_,_,e,_,hq⟩ => by cases e;exact hq,fun hq => ⟨_,_,_,_,rfl,⟨(fun x hb => nomatch hb),hq⟩⟩⟩
theorem Aqm {A B:Prop}:WC (.bool true) A B=A:=by simp [WC]
theorem Akm {A B:Prop}:WC (.bool false) A B=B:=by simp [WC]
theorem Ayt {p:Prop} [Decidable p] {A B:Prop} (ha:p→A) (hb:¬ p→B):WC (.bool (decide p)) A B:=by
 refine ⟨_,rfl,fun h => ha (by simpa using h),fun h => hb (by simpa using h)⟩
theorem Aqn {b:Bool} {A B:Prop} (ha:b=true→A) (hb:b=false→B):WC (.bool b) A B:=⟨_,rfl,ha,hb⟩
theorem Aqk {A B:Prop}:WG (.bool true) true A B=A:=by simp [WG]
theorem Akl {A B:Prop}:WG (.bool false) false A B=A:=by simp [WG]
theorem A2n {A B:Prop}:WG (.bool true) false A B=B:=by simp [WG]
theorem A2o {A B:Prop}:WG (.bool false) true A B=B:=by simp [WG]
theorem Akk {A B:Prop} {b:Bool}:WG undef b A B=B:=by simp [WG,undef]
theorem Ays {p:Prop} [Decidable p] {A B:Prop} (ha:p→A) (hb:¬ p→B):WG (.bool (decide p)) true A B:=by
 by_cases h:p<;>simp [WG,h,ha,hb]
theorem Aql {p:Prop} [Decidable p] {A B:Prop} (ha:p→B) (hb:¬ p→A):WG (.bool (decide p)) false A B:=by
 by_cases h:p<;>simp [WG,h,ha,hb]
theorem WX.mono {α : Type} {W W':Nat→Prop} {x:Option (α × Aa × List Nat)} {Q Q':α → Aa→Prop} (h:WX W x Q) (hw:∀ b,W b→W' b) (hq:∀ a h,Q a h→Q' a h):WX W' x Q':=by
 obtain ⟨a,h,ws,rfl,h1,h2⟩:=h;exact ⟨a,h,ws,rfl,fun b hb => hw b (h1 b hb),hq _ _ h2⟩
theorem WO.mono {W W':Nat→Prop} {x:Out} {Q Q':Ex→Fr→Aa→Prop} (h:WO W x Q) (hw:∀ b,W b→W' b) (hq:∀ e f h,Q e f h→Q' e f h):WO W' x Q':=by
 obtain ⟨a,f,h,ws,rfl,h1,h2⟩:=h;exact ⟨a,f,h,ws,rfl,fun b hb => hw b (h1 b hb),hq _ _ _ h2⟩
theorem W1.mono {α : Type} {x:Option α} {Q Q':α → Prop} (h:W1 x Q) (hq:∀ a,Q a→Q' a):W1 x Q':=by
 obtain ⟨a,rfl,h2⟩:=h;exact ⟨a,rfl,hq _ h2⟩
@[reducible] def i (d:Nat) (o:O):Ins:=⟨some d,none,o,false,0,false⟩
@[reducible] def k (o:O):Ins:=⟨none,none,o,false,0,false⟩
@[reducible] def w (d g:Nat) (b:Bool) (o:O):Ins:=⟨some d,some (g,b),o,false,0,false⟩
variable {W:Nat→Prop} {cf:Be} {f:FF} {h:Aa} {r:List Ins}
def Ax4 {α β : Type} (x:Option (α × Aa × List Nat)) (k:α → Aa→Option (β × Aa × List Nat)):Option (β × Aa × List Nat):=match x with
 | some (v,h',ws) => Rt ws (k v h')
 | none => none
theorem Oq {α β : Type} {x:Option (α × Aa × List Nat)} {k:α → Aa→Option (β × Aa × List Nat)} {Q:β → Aa→Prop} :
  WX W (Ax4 x k) Q=WX W x (fun v h' => WX W (k v h') Q):=by
 apply propext
 constructor
 ·rintro ⟨a,h,ws,e,hw,hq⟩
  unfold Ax4 at e
  split at e
  ·rename_i v h' ws1
   cases hk:k v h' with
   | none => rw [hk] at e;simp [Rt] at e
   | some t =>
    obtain ⟨a2,h2,ws2⟩:=t
    rw [hk] at e
    simp only [Rt,OI,Prod.mk.injEq] at e
    obtain ⟨rfl,rfl,rfl⟩:=e
    exact ⟨v,h',ws1,rfl,fun b hb => hw b (by simp [hb]),_,_,ws2,hk,fun b hb => hw b (by simp [hb]),hq⟩
  ·cases e
 ·rintro ⟨a,h,ws,rfl,hw,a2,h2,ws2,hk,hw2,hq⟩
  refine ⟨a2,h2,ws++ws2,?_,fun b hb => ?_,hq⟩
  ·simp only [Ax4,hk];rfl
  ·rcases List.mem_append.1 hb with hb | hb
   ·exact hw b hb
   ·exact hw2 b hb
theorem Am6 {Q:FF→Aa→Prop}:WX W (Fs cf [] f h) Q=Q f h:=WX_some
theorem A1r {d:Nat} {o:O} {Q:FF→Aa→Prop}:WX W (Fs cf (⟨some d,none,o,false,0,false⟩ :: r) f h) Q=WX W (opN cf f h o) (fun v h' => WX W (Fs cf r (upd f d v) h') Q):=by
 simp only [Fs,wanted,H7];rw [← Oq (k:=fun v h' => Fs cf r (upd f d v) h')];congr 1;cases opN cf f h o<;>rfl
theorem A1q {o:O} {Q:FF→Aa→Prop}:WX W (Fs cf (⟨none,none,o,false,0,false⟩ :: r) f h) Q=WX W (opN cf f h o) (fun _ h' => WX W (Fs cf r f h') Q):=by
 simp only [Fs,wanted,H7];rw [← Oq (k:=fun _ h' => Fs cf r f h')];congr 1;cases opN cf f h o<;>rfl
theorem A1p {d g:Nat} {b:Bool} {o:O} {Q:FF→Aa→Prop}:WX W (Fs cf (⟨some d,some (g,b),o,false,0,false⟩ :: r) f h) Q=WG (f g) b (WX W (opN cf f h o) (fun v h' => WX W (Fs cf r (upd f d v) h') Q)) (WX W (Fs cf r (upd f d undef) h) Q):=by
 simp only [Fs,wanted,H7]
 unfold WG
 cases hg:f g<;>simp only []<;>try (apply propext;constructor<;>(first | (rintro ⟨_,_,_,e,_⟩;cases e) | (intro h;exact h.elim)))
 ·rename_i b'
  by_cases hb:b'=b
  ·subst hb;simp only [beq_self_eq_true,if_true];rw [← Oq (k:=fun v h' => Fs cf r (upd f d v) h')];congr 1;cases opN cf f h o<;>rfl
  ·have:(b' == b)=false:=by simpa using hb
   simp [this,hb]
 ·rename_i vs
  cases hv:vs.isEmpty
  ·simp only [Bool.false_eq_true,false_and]
   apply propext
   constructor
   ·rintro ⟨_,_,_,e,_⟩;cases e
   ·intro h;exact h.elim
  ·simp
theorem Aua {g:Nat} {b:Bool} {o:O} {Q:FF→Aa→Prop}:WX W (Fs cf (⟨none,some (g,b),o,false,0,false⟩ :: r) f h) Q=WG (f g) b (WX W (opN cf f h o) (fun v h' => WX W (Fs cf r f h') Q)) (WX W (Fs cf r f h) Q):=by
 simp only [Fs,wanted,H7]
 unfold WG
 cases hg:f g<;>simp only []<;>try (apply propext;constructor<;>(first | (rintro ⟨_,_,_,e,_⟩;cases e) | (intro h;exact h.elim)))
 ·rename_i b'
  by_cases hb:b'=b
  ·subst hb;simp only [beq_self_eq_true,if_true];rw [← Oq (k:=fun _ h' => Fs cf r f h')];congr 1;cases opN cf f h o<;>rfl
  ·have:(b' == b)=false:=by simpa using hb
   simp [this,hb]
 ·rename_i vs
  cases hv:vs.isEmpty
  ·simp only [Bool.false_eq_true,false_and]
   apply propext
   constructor
   ·rintro ⟨_,_,_,e,_⟩;cases e
   ·intro h;exact h.elim
  ·simp
theorem N4 {α : Type} {v:α} {p:Prop} {Q:α → Prop} (h:p=Q v):p=W1 (some v) Q:=by rw [Agr,h]
theorem Ml {o:O} {Q:Value→Aa→Prop} (hc:cls o = .P):WX W (opN cf f h o) Q=W1 (Ax f o) (fun v => Q v h):=by
 unfold opN;rw [hc];dsimp only
 cases Ax f o with
 | none => apply propext;constructor<;>rintro ⟨_,h⟩<;>simp at h
 | some v => exact WX_some.trans (N4 rfl)
theorem Az5 {o:O} {Q:Value→Aa→Prop} (hc:cls o = .M):WX W (opN cf f h o) Q=W1 (Gz f h o) (fun v => Q v h):=by
 unfold opN;rw [hc];dsimp only
 cases Gz f h o with
 | none => apply propext;constructor<;>rintro ⟨_,h⟩<;>simp at h
 | some v => exact WX_some.trans (N4 rfl)
theorem Alr {o:O} {Q:Value→Aa→Prop} (hc:cls o = .A):WX W (opN cf f h o) Q=W1 (Jq f o) (fun n => WF (n.2 h.length) (fun v => WF (h++[n.1]) (fun h' => Q v h'))):=by
 unfold opN;rw [hc];dsimp only
 cases Jq f o with
 | none => apply propext;constructor<;>rintro ⟨_,h⟩<;>simp at h
 | some v => exact WX_some.trans (N4 rfl)
theorem Avu {o:O} {Q:Value→Aa→Prop} (hc:cls o = .E):WX W (opN cf f h o) Q=WX W (O0 f h o) Q:=by
 unfold opN;rw [hc]
theorem A12 {n:Nat} {a v:X} {Q:Value→Aa→Prop}:WX W (opN cf f h (.st n a v)) Q=WH W (Ik n (ev f a) (ev f v) h) (fun h' => Q undef h'):=by
 unfold opN;simp only [cls]
 cases Ik n (ev f a) (ev f v) h with
 | none => apply propext;constructor<;>rintro ⟨_,_,h⟩<;>simp at h
 | some v => obtain ⟨h',ws⟩:=v;exact propext ⟨fun ⟨_,_,_,e,hw,hq⟩ => by cases e;exact ⟨_,_,rfl,hw,hq⟩,fun ⟨_,_,e,hw,hq⟩ => by cases e;exact ⟨_,_,_,rfl,hw,hq⟩⟩
theorem Aom {g:X} {args:List X} {Q:Value→Aa→Prop}:WX W (opN cf f h (.call g args)) Q=WX W (cf (ev f g) (args.map (ev f)) h) Q:=rfl
variable {it:It} {sz:Nat} {fr:Fr}
theorem Acw {x:Out} {k:Fr→Aa→Out} {Q:Ex→Fr→Aa→Prop}:WO W (Gl x k) Q=WO W x (fun e fr' h' => match e with | .normal => WO W (k fr' h') Q | e => Q e fr' h'):=by
 apply propext
 constructor
 ·rintro ⟨e,fr',h',ws,hx,hw,hq⟩
  simp only [Gl] at hx
  split at hx
  ·rename_i fr1 h1 ws1
   split at hx
   ·rename_i e2 fr2 h2 ws2 hk
    simp only [OI,Prod.mk.injEq] at hx
    obtain ⟨rfl,rfl,rfl,rfl⟩:=hx
    exact ⟨_,_,_,_,rfl,fun b hb => hw b (by simp [hb]),_,_,_,_,hk,fun b hb => hw b (by simp [hb]),hq⟩
   ·cases hx
  ·rename_i hn
   subst hx
   refine ⟨_,_,_,_,rfl,hw,?_⟩
   cases e with
   | normal => exact absurd rfl (hn _ _ _)
   | exit _ => exact hq
   | ret => exact hq
 ·rintro ⟨e,fr',h',ws,rfl,hw,hq⟩
  cases e with
  | normal =>
   obtain ⟨e2,fr2,h2,ws2,hk,hw2,hq⟩:=hq
   refine ⟨e2,fr2,h2,ws++ws2,by simp only [Gl,hk],fun b hb => ?_,hq⟩
   rcases List.mem_append.1 hb with hb | hb
   ·exact hw b hb
   ·exact hw2 b hb
  | exit _ => exact ⟨_,_,_,_,rfl,hw,hq⟩
  | ret => exact ⟨_,_,_,_,rfl,hw,hq⟩
theorem Amj {a b:C} {Q:Ex→Fr→Aa→Prop}:WO W (code cf it sz (.seq a b) fr h) Q=WO W (code cf it sz a fr h) (fun e fr' h' => match e with | .normal => WO W (code cf it sz b fr' h') Q | e => Q e fr' h'):=Acw
theorem Apu {Q:Ex→Fr→Aa→Prop}:WO W (code cf it sz .skip fr h) Q=Q .normal fr h:=W9
theorem Apv {id:Nat} {Q:Ex→Fr→Aa→Prop}:WO W (code cf it sz (.exit id) fr h) Q=Q (.exit id) fr h:=W9
theorem Axs {Q:Ex→Fr→Aa→Prop}:WO W (code cf it sz .ret fr h) Q=Q .ret fr h:=W9
def frm (live:List Nat) (f:FF):Fr:=live.map fun s => (s,f s)
theorem Api {f:FF}:frm [] f=[]:=id rfl
theorem Ajk {s:Nat} {l:List Nat} {f:FF}:frm (s :: l) f=(s,f s) :: frm l f:=id rfl
theorem Ayq {live:List Nat} {x:Option (FF × Aa × List Nat)} {Q:Ex→Fr→Aa→Prop}:WO W (Us live x) Q=WX W x (fun f h' => WF (frm live f) (fun fr' => Q .normal fr' h')):=by
 cases x with
 | none => apply propext;constructor<;>rintro ⟨_,_,_,h⟩<;>simp [Us] at h
 | some v => obtain ⟨f,h,ws⟩:=v;exact propext ⟨fun ⟨_,_,_,_,e,hw,hq⟩ => by cases e;exact ⟨_,_,_,rfl,hw,hq⟩,fun ⟨_,_,_,e,hw,hq⟩ => by cases e;exact ⟨_,_,_,_,rfl,hw,hq⟩⟩
theorem Axt {live:List Nat} {ins:List Ins} {Q:Ex→Fr→Aa→Prop}:WO W (code cf it sz (.reg live ins) fr h) Q=WX W (Fs cf ins (get fr) h) (fun f h' => WF (frm live f) (fun fr' => Q .normal fr' h')):=Ayq
theorem Axv {live:List Nat} {n:Nat} {ins:List Ins} {Q:Ex→Fr→Aa→Prop}:WO W (code cf it sz (.drw live n ins) fr h) Q=WX W (Dt cf h.length ins (get fr) (room h n)) (fun f h' => WF (frm live f) (fun fr' => Q .normal fr' h')):=Ayq
theorem Apw {x:X} {a b:C} {Q:Ex→Fr→Aa→Prop}:WO W (code cf it sz (.cond x a b) fr h) Q=WC (ev (get fr) x) (WO W (code cf it sz a fr h) Q) (WO W (code cf it sz b fr h) Q):=by
 have e:code cf it sz (.cond x a b) fr h=Wp (ev (get fr) x) (code cf it sz a fr h) (code cf it sz b fr h):=rfl
 rw [e]
 apply propext
 unfold Wp WC
 constructor
 ·intro hq
  split at hq
  ·rename_i t ht
   refine ⟨_,ht,?_,?_⟩
   ·intro e;simpa [e] using hq
   ·intro e;simpa [e] using hq
  ·obtain ⟨_,_,_,_,e,_⟩:=hq;cases e
 ·rintro ⟨t,ht,h1,h2⟩
  rw [ht]
  cases t
  ·exact h2 rfl
  ·exact h1 rfl
theorem Amt {id:Nat} {x:Out} {Q:Ex→Fr→Aa→Prop}:WO W (inBlock id x) Q=WO W x (fun e fr' h' => match e with | .exit j => if j=id then Q .normal fr' h' else Q (.exit j) fr' h' | e => Q e fr' h'):=by
 apply propext
 cases x with
 | none => constructor<;>rintro ⟨_,_,_,_,h,_⟩<;>simp [inBlock] at h
 | some t =>
  obtain ⟨e,fr,h,ws⟩:=t
  cases e with
  | exit j =>
   by_cases hj:j=id
   ·simp only [inBlock,hj,if_true]
    exact ⟨fun ⟨_,_,_,_,e,hw,hq⟩ => by cases e;exact ⟨_,_,_,_,rfl,hw,by simpa [hj] using hq⟩,fun ⟨_,_,_,_,e,hw,hq⟩ => by cases e;exact ⟨_,_,_,_,rfl,hw,by simpa [hj] using hq⟩⟩
   ·simp only [inBlock,hj,if_false]
    exact ⟨fun ⟨_,_,_,_,e,hw,hq⟩ => by cases e;exact ⟨_,_,_,_,rfl,hw,by simpa [hj] using hq⟩,fun ⟨_,_,_,_,e,hw,hq⟩ => by cases e;exact ⟨_,_,_,_,rfl,hw,by simpa [hj] using hq⟩⟩
  | normal => exact ⟨fun ⟨_,_,_,_,e,hw,hq⟩ => by cases e;exact ⟨_,_,_,_,rfl,hw,hq⟩,fun ⟨_,_,_,_,e,hw,hq⟩ => by cases e;exact ⟨_,_,_,_,rfl,hw,hq⟩⟩
  | ret => exact ⟨fun ⟨_,_,_,_,e,hw,hq⟩ => by cases e;exact ⟨_,_,_,_,rfl,hw,hq⟩,fun ⟨_,_,_,_,e,hw,hq⟩ => by cases e;exact ⟨_,_,_,_,rfl,hw,hq⟩⟩
theorem Px {id:Nat} {b:C} {Q:Ex→Fr→Aa→Prop}:WO W (code cf it sz (.block id b) fr h) Q=WO W (code cf it sz b fr h) (fun e fr' h' => match e with | .exit j => if j=id then Q .normal fr' h' else Q (.exit j) fr' h' | e => Q e fr' h'):=Amt
theorem Ty {b:C} {Q:Ex→Fr→Aa→Prop}:WO W (code cf it sz (.loop b) fr h) Q=WO W (it (code cf it sz b) fr h) Q:=rfl
def Next {α : Type} (I:α → Fr→Aa→Prop) (μ : α → Nat) (a:α) (fr:Fr) (h:Aa) (t:Mk (I,μ,a):=.mk):Prop:=∃ a',I a' fr h ∧ μ a' < μ a
theorem Next.mk {α : Type} {I:α → Fr→Aa→Prop} {μ : α → Nat} {a:α} {fr:Fr} {h:Aa} (a':α) (hi:I a' fr h) (hm:μ a' < μ a):Next I μ a fr h:=⟨a',hi,hm⟩
theorem WO.loop {α : Type} (I:α → Fr→Aa→Prop) (μ : α → Nat) {F:Fr→Aa→Out} {Q:Ex→Fr→Aa→Prop}
  (step:∀ a fr h,I a fr h→WO W (F fr h) (fun e fr' h' => match e with | .normal => Next I μ a fr' h' | e => Q e fr' h')) :
  ∀ (a:α) {fr:Fr} {h:Aa},I a fr h→WO W (iterW F fr h) Q:=by
 have key:∀ n a fr h,μ a≤n→I a fr h→WO W (iterW F fr h) Q:=by
  intro n
  induction n with
  | zero =>
   intro a fr h hm hi
   rw [Ajf,Acw]
   refine (step a fr h hi).mono (fun _ h => h) fun e f h hq => ?_
   cases e with
   | normal => obtain ⟨a',_,hl⟩:=hq;omega
   | exit _ => exact hq
   | ret => exact hq
  | succ n ih =>
   intro a fr h hm hi
   rw [Ajf,Acw]
   refine (step a fr h hi).mono (fun _ h => h) fun e f h hq => ?_
   cases e with
   | normal => obtain ⟨a',hi',hl⟩:=hq;exact ih a' f h (by omega) hi'
   | exit _ => exact hq
   | ret => exact hq
 intro a fr h hi
 exact key (μ a) a fr h (Nat.le_refl _) hi
theorem Qu {E:Env} {g:FuncId} {c:FnC} (hf:E g = .text c) (args:List Value) (h:Aa):callW E (.func (.func g) #[] #[]) args h=Fz (callW E) iterW (.text c) args h:=by
 rw [Nn];simp [J4,hf]
theorem Qv {E:Env} {g:FuncId} {c:FnC} (hf:E g = .text c) (a b:Array Value) (args:List Value) (h:Aa):callW E (.func (.func g) a b) args h=Fz (callW E) iterW (.text c) (a.toList++args++b.toList) h:=by
 rw [Nn];simp [J4,hf]
def Res (res:List R) (Q:Value→Aa→Prop) (e:Ex) (fr:Fr) (h:Aa):Prop:=match e with
 | .exit _ => False
 | _ => W1 (M7 fr h res) fun vs => Q (Rh vs) h
theorem Aqo {res:List R} {Q:Value→Aa→Prop} {fr:Fr} {h:Aa}:Res res Q .ret fr h=W1 (M7 fr h res) fun vs => Q (Rh vs) h:=rfl
theorem Acy {res:List R} {Q:Value→Aa→Prop} {fr:Fr} {h:Aa}:Res res Q .normal fr h=W1 (M7 fr h res) fun vs => Q (Rh vs) h:=rfl
theorem Ss {ws:List Nat} {m:Nat} (h:∀ b∈ws,m≤b):ws.filter (fun b => decide (b<m))=[]:=by
 rw [List.filter_eq_nil_iff];intro b hb;have:=h b hb;simp;omega
theorem Am {E:Env} {g:FuncId} {c:FnC} (hE:E g = .text c) {sz:Nat} {res:List R} {body:C} (hc:c=⟨sz,res,body⟩) {args:List Value} {h:Aa} {v:Value} (hl:args.length≤sz)
  (hb:WO (fun b => h.length≤b) (code (callW E) iterW sz body (Ak args 0) h) (Res res fun v' _ => Ae h.length 4 v=true∧v'=v)) :
  callW E (.func (.func g) #[] #[]) args h=some (v,h,[]):=by
 subst hc
 rw [Qu hE]
 obtain ⟨e,fr,h',ws,he,hw,hq⟩:=hb
 have hfin:∀ e',Res res (fun v' _ => Ae h.length 4 v=true∧v'=v) e' fr h'→fin res h (some (e',fr,h',ws))=some (v,h,[]):=by
  intro e' hr
  cases e' with
  | exit _ => exact hr.elim
  | normal => obtain ⟨vs,h1,h2,rfl⟩:=hr;simp [fin,h1,gc,Ss hw,h2]
  | ret => obtain ⟨vs,h1,h2,rfl⟩:=hr;simp [fin,h1,gc,Ss hw,h2]
 simp only [Fz,hl,if_true]
 rw [he]
 exact hfin e hq
theorem Aj7 {E:Env} {g:FuncId} {c:FnC} (hf:E g = .textK c) (a b:Array Value) (args:List Value) (h:Aa):callW E (.func (.func g) a b) args h=Fz (callW E) iterW (.textK c) (a.toList++args++b.toList) h:=by
 rw [Nn];simp [J4,hf]
theorem E9 {E:Env} {g:FuncId} {c:FnC} (hE:E g = .textK c) {sz:Nat} {res:List R} {body:C} (hc:c=⟨sz,res,body⟩) {a b:Array Value} {args:List Value} {h:Aa} {W:Nat→Prop} {Q:Value→Aa→Prop} (hl:(a.toList++args++b.toList).length≤sz)
  (hb:WO W (code (callW E) iterW sz body (Ak (a.toList++args++b.toList) 0) h) (Res res Q)):WX W (callW E (.func (.func g) a b) args h) Q:=by
 subst hc
 rw [Aj7 hE]
 obtain ⟨e,fr,h',ws,he,hw,hq⟩:=hb
 simp only [Fz,hl,if_true]
 rw [he]
 cases e with
 | exit _ => exact hq.elim
 | normal => obtain ⟨vs,h1,h2⟩:=hq;exact ⟨_,_,_,by simp [Zp,h1],hw,h2⟩
 | ret => obtain ⟨vs,h1,h2⟩:=hq;exact ⟨_,_,_,by simp [Zp,h1],hw,h2⟩
end Go.L
namespace Go.L
open Go
def Anf (c a b:Value):Option Value:=match c with | .bool t => some (if t then a else b) | _ => none
def A4e (k:IntKind) (x:Value):Option Value:=match x with | .int _ n => some (.int k (k.wrap n)) | _ => none
def A4d (x:Value):Option Value:=match x with | .string s => some (.string s) | _ => none
def A35 (off:Nat) (x:Value):Option Value:=match x with | .pointer (some a) => some (.pointer (some ⟨a.block,a.off+off,none⟩)) | _ => none
def A33 (off:Nat) (agg:Option Nat) (x:Value):Option Value:=match x with | .agg cs => part cs.toList off agg | _ => none
def A0s (n size:Nat) (x i:Value):Option Value:=match x with | .pointer (some a) => Ti size n a i | _ => none
def Ar4 (size:Nat) (x i:Value):Option Value:=match x with | .slice (some a) n _ => Ti size n a i | _ => none
def A0r (n size:Nat) (agg:Option Nat) (x i:Value):Option Value:=match x,i with
    | .agg cs,.int _ j => if 0≤j∧j<n then part cs.toList (j.toNat * size) agg else none
    | _,_ => none
def Al3 (x i:Value):Option Value:=match x,i with
    | .string s,.int _ j => if 0≤j then (s[j.toNat]?).map fun b => .int .u8 b.toNat else none
    | _,_ => none
def De (x:Option Value) (dflt high:Nat):Option Nat:=match x with
  | none => some dflt
  | some (.int _ i) => if 0≤i∧i≤high then some i.toNat else none
  | some _ => none
theorem Tf (f:FF) (x:Option X) (d h:Nat):Bp f x d h=De (x.map (ev f)) d h:=by
  cases x with
  | none => rfl
  | some x =>
    show (match ev f x with | .int _ i => if 0≤i∧i≤h then some i.toNat else none | _ => none)=De (some (ev f x)) d h
    unfold De
    cases ev f x<;>rfl
def Aq5 (x:Value) (lo hi:Option Value):Option Value:=match x with
    | .string s => (De hi s.size s.size).bind fun h => (De lo 0 h).bind fun l => some (.string (s.extract l h))
    | _ => none
def Qa (size:Nat) (x:Value) (lo hi mx:Option Value):Option Value :=
  match x with
  | .slice none 0 0 => if mx.isSome∧hi.isNone then none else
    (De mx 0 0).bind fun m => (De hi 0 m).bind fun h => (De lo 0 h).bind fun _ => some (.slice none 0 0)
  | .slice (some a) n cap =>
    match mx with
    | some _ => match hi with
      | none => none
      | some _ => (De mx 0 cap).bind fun m => (De hi 0 m).bind fun h => (De lo 0 h).bind fun l =>
        some (.slice (some ⟨a.block,a.off+l * size,none⟩) (h - l) (m - l))
    | none => match a.spot with
      | none => (De hi n cap).bind fun h => (De lo 0 h).bind fun l =>
          if h≤cap then some (.slice (some ⟨a.block,a.off+l * size,none⟩) (h - l) (cap - l)) else none
      | some s => if s=size then (De hi n n).bind fun h => (De lo 0 h).bind fun l =>
          some (.slice (some ⟨a.block,a.off+l * size,some s⟩) (h - l) (h - l)) else none
  | _ => none
def Azp (n size:Nat) (x:Value) (lo hi:Option Value):Option Value:=match x with
    | .pointer (some a) => (De hi n n).bind fun h => (De lo 0 h).bind fun l => some (.slice (some ⟨a.block,a.off+l * size,none⟩) (h - l) (n - l))
    | _ => none
def A0d (x:Value):Option Value:=match x with
    | .pointer (some a) => some (.pointer (some a))
    | .func (.func g) a b => some (.func (.func g) a b)
    | _ => none
def A38 (x:Value) (i:Nat):Option Value:=match x with
    | .tuple vs => match vs.toList[i]? with
      | some v => if Et v then some v else none
      | none => none
    | _ => none
def Pq (text:Bool) (x:Value):Option Value:=match text,x with
    | true,.string s => some (.int .i64 s.size)
    | false,.slice _ n _ => some (.int .i64 n)
    | _,_ => none
def Wi:List (Nat × Nat × Value)→List Value→Option (List Value)
  | [],c => some c
  | (off,n,x) :: r,c => if (Bl x).length=n∧off+n≤c.length∧(Bl x).all Ah then Wi r (setCells c off (Bl x)) else none
theorem Wh (f:FF):∀ (l:List (Nat × Nat × X)) (c:List Value),Sv f l c=Wi (l.map fun p => (p.1,p.2.1,ev f p.2.2)) c
  | [],c => rfl
  | (off,n,x) :: r,c => by simp only [Sv,Wi,List.map_cons,Wh f r]
theorem Atz (f:FF) (size:Nat) (x:Value) (lo hi mx:Option X):Aap f size x lo hi mx=Qa size x (lo.map (ev f)) (hi.map (ev f)) (mx.map (ev f)):=by
  unfold Aap Qa
  simp only [Tf,Option.isSome_map,Option.isNone_map]
  cases mx<;>cases hi<;>rfl
def Awj (x:Value) (h:Aa):Option Value:=match x with
    | .map none => some (.int .i64 0)
    | .map (some r) => match h[r]? with
      | some (.map es) => some (.int .i64 es.length)
      | _ => none
    | _ => none
def Ayf (x:Value) (h:Aa):Option Value:=match x with
    | .slice _ _ _ => match cellsOf 1 x h with
      | some (_,c) => (bytesOf c).map fun b => .string ⟨b.toArray⟩
      | none => none
    | _ => none
def Rq (size:Nat) (zero:List Value) (n:Nat) (ps:List (Nat × Nat × Value)):Option New :=
  if n * size≤16777216 then (Wi ps (List.replicate n zero).flatten).bind fun c => Ac c fun b => .slice (some ⟨b,0,none⟩) n n else none
def Arv (zero:List Value) (bytes:Nat) (n c:Value):Option New:=match n,c with
    | .int .i64 n,.int .i64 c =>
      if 0≤n∧n≤c∧bytes * c≤140737488355328∧c<9223372036854775808 then
        Ac (List.replicate c.toNat zero).flatten fun b => .slice (some ⟨b,0,none⟩) n.toNat c.toNat
      else none
    | _,_ => none
def A4w (x:Value):Option New:=match x with
    | .string s => if s.size<4611686018427387904 then some (.cells (s.data.toList.map fun b => .int .u8 b.toNat) true,fun b => .slice (some ⟨b,0,some 1⟩) s.size s.size) else none
    | _ => none
def Awd (q:EqK) (m k v:Value) (h:Aa):Option (Value × Aa × List Nat):=match m with
    | .map (some r) => match h[r]? with
      | some (.map es) => if Sp q k then (Ow q k v es).map fun es' => (undef,h.set r (.map es'),[r]) else none
      | _ => none
    | _ => none
def A4c (q:EqK) (m k:Value) (h:Aa):Option (Value × Aa × List Nat):=match m with
    | .map (some r) => match h[r]? with
      | some (.map es) => if Sp q k then (Zq q k es).map fun es' => (.tuple #[],h.set r (.map es'),[r]) else none
      | _ => none
    | _ => none
section
variable {W:Nat→Prop} {cf:Be} {f:FF} {h:Aa} {r:List Ins} {m d rk:Nat} {g:Option (Nat × Bool)} {fl lz:Bool} {dd:Option Nat}
theorem Auo {Q:FF→Aa→Prop}:WX W (Dt cf m [] f h) Q=Q f h:=WX_some
theorem A40 {o:O} {Q:FF→Aa→Prop}:WX W (Dt cf m (⟨some d,none,o,fl,rk,lz⟩ :: r) f h) Q=WX W (opD cf m f h ⟨some d,none,o,fl,rk,lz⟩) (fun v h' => WX W (Dt cf m r (upd f d v) h') Q):=by
  simp only [Dt,wanted,H7];rw [← Oq (k:=fun v h' => Dt cf m r (upd f d v) h')];congr 1;cases opD cf m f h ⟨some d,none,o,fl,rk,lz⟩<;>rfl
theorem A4z {o:O} {Q:FF→Aa→Prop}:WX W (Dt cf m (⟨none,none,o,fl,rk,lz⟩ :: r) f h) Q=WX W (opD cf m f h ⟨none,none,o,fl,rk,lz⟩) (fun _ h' => WX W (Dt cf m r f h') Q):=by
  simp only [Dt,wanted,H7];rw [← Oq (k:=fun _ h' => Dt cf m r f h')];congr 1;cases opD cf m f h ⟨none,none,o,fl,rk,lz⟩<;>rfl
theorem A4y {g:Nat} {b:Bool} {o:O} {Q:FF→Aa→Prop}:WX W (Dt cf m (⟨some d,some (g,b),o,fl,rk,lz⟩ :: r) f h) Q=WG (f g) b (WX W (opD cf m f h ⟨some d,some (g,b),o,fl,rk,lz⟩) (fun v h' => WX W (Dt cf m r (upd f d v) h') Q)) (WX W (Dt cf m r (upd f d undef) h) Q):=by
  simp only [Dt,wanted,H7]
  unfold WG
  cases hg:f g<;>simp only []<;>try (apply propext;constructor<;>(first | (rintro ⟨_,_,_,e,_⟩;cases e) | (intro h;exact h.elim)))
  · rename_i b'
    by_cases hb:b'=b
    · subst hb;simp only [beq_self_eq_true,if_true];rw [← Oq (k:=fun v h' => Dt cf m r (upd f d v) h')];congr 1;cases opD cf m f h ⟨some d,some (g,b'),o,fl,rk,lz⟩<;>rfl
    · have:(b' == b)=false:=by simpa using hb
      simp [this,hb]
  · rename_i vs
    cases hv:vs.isEmpty
    · simp only [Bool.false_eq_true,false_and]
      apply propext
      constructor
      · rintro ⟨_,_,_,e,_⟩;cases e
      · intro h;exact h.elim
    · simp
theorem A1z {g:Nat} {b:Bool} {o:O} {Q:FF→Aa→Prop}:WX W (Dt cf m (⟨none,some (g,b),o,fl,rk,lz⟩ :: r) f h) Q=WG (f g) b (WX W (opD cf m f h ⟨none,some (g,b),o,fl,rk,lz⟩) (fun _ h' => WX W (Dt cf m r f h') Q)) (WX W (Dt cf m r f h) Q):=by
  simp only [Dt,wanted,H7]
  unfold WG
  cases hg:f g<;>simp only []<;>try (apply propext;constructor<;>(first | (rintro ⟨_,_,_,e,_⟩;cases e) | (intro h;exact h.elim)))
  · rename_i b'
    by_cases hb:b'=b
    · subst hb;simp only [beq_self_eq_true,if_true];rw [← Oq (k:=fun _ h' => Dt cf m r f h')];congr 1;cases opD cf m f h ⟨none,some (g,b'),o,fl,rk,lz⟩<;>rfl
    · have:(b' == b)=false:=by simpa using hb
      simp [this,hb]
  · rename_i vs
    cases hv:vs.isEmpty
    · simp only [Bool.false_eq_true,false_and]
      apply propext
      constructor
      · rintro ⟨_,_,_,e,_⟩;cases e
      · intro h;exact h.elim
    · simp
theorem Gg {o:O} {Q:Value→Aa→Prop} (hc:cls o = .P):WX W (opD cf m f h ⟨dd,g,o,fl,rk,lz⟩) Q=W1 (Ax f o) (fun v => Q v h):=by
  unfold opD;dsimp only;rw [hc];dsimp only
  cases Ax f o with
  | none => apply propext;constructor<;>rintro ⟨_,h⟩<;>simp at h
  | some v => exact WX_some.trans (N4 rfl)
theorem Aog {o:O} {Q:Value→Aa→Prop} (hc:cls o = .M):WX W (opD cf m f h ⟨dd,g,o,false,rk,lz⟩) Q=W1 (Gz f h o) (fun v => Q v h):=by
  unfold opD;dsimp only;rw [hc];simp only [Bool.false_eq_true,false_and,if_false]
  cases Gz f h o with
  | none => apply propext;constructor<;>rintro ⟨_,h⟩<;>simp at h
  | some v => exact WX_some.trans (N4 rfl)
def WL (m:Nat) (v:Value) (A:Prop) (t:Mk2 A A:=.mk):Prop:=low m v=true∧A
theorem Afp {o:O} {Q:Value→Aa→Prop} (hc:cls o = .M):WX W (opD cf m f h ⟨dd,g,o,true,rk,lz⟩) Q=WL m (Adh f o) (W1 (Gz f h o) (fun v => Q v h)):=by
  unfold opD WL;dsimp only;rw [hc];simp only [true_and]
  cases hl:low m (Adh f o)
  · simp only [if_true]
    apply propext;constructor
    · rintro ⟨_,_,_,e,_⟩;cases e
    · rintro ⟨e,_⟩;cases e
  · simp only [Bool.true_eq_false,if_false,true_and]
    cases Gz f h o with
    | none => apply propext;constructor<;>rintro ⟨_,h⟩<;>simp at h
    | some v => exact WX_some.trans (N4 rfl)
theorem Aa7 {o:O} {Q:Value→Aa→Prop} (hc:cls o = .A):WX W (opD cf m f h ⟨dd,g,o,fl,rk,lz⟩) Q=W1 (Jq f o) (fun n => WF (n.2 (m+rk)) (fun v => WF (h.set (m+rk) n.1) (fun h' => Q v h'))):=by
  unfold opD;dsimp only;rw [hc];dsimp only
  cases Jq f o with
  | none => apply propext;constructor<;>rintro ⟨_,h⟩<;>simp at h
  | some v => exact WX_some.trans (N4 rfl)
theorem Aqi {x:Option (Value × Aa × List Nat)} {Q:Value→Aa→Prop}:WX W (match x with | some (v,h',ws) => if ws≠[] then none else some (v,h',ws) | none => none) Q=WX (fun _ => False) x Q:=by
  cases x with
  | none => apply propext;constructor<;>(rintro ⟨_,_,_,e,_⟩;cases e)
  | some t =>
    obtain ⟨v,h',ws⟩:=t
    dsimp only
    cases ws with
    | nil => simp only [ne_eq,not_true,if_false];exact propext ⟨fun ⟨_,_,_,e,_,hq⟩ => by cases e;exact ⟨_,_,_,rfl,(fun b hb => nomatch hb),hq⟩,fun ⟨_,_,_,e,_,hq⟩ => by cases e;exact ⟨_,_,_,rfl,(fun b hb => nomatch hb),hq⟩⟩
    | cons a r =>
      rw [if_pos (by simp)]
      apply propext;constructor
      · rintro ⟨_,_,_,e,_⟩;cases e
      · rintro ⟨_,_,_,e,hw,_⟩
        cases e
        exact (hw a (by simp)).elim
theorem Aib {o:O} {Q:Value→Aa→Prop} (hc:cls o = .E):WX W (opD cf m f h ⟨dd,g,o,fl,rk,false⟩) Q=WX W (O0 f h o) Q:=by
  unfold opD;dsimp only;rw [hc];simp only [Bool.false_eq_true,false_and,if_false]
  congr 1
  cases O0 f h o<;>rfl
theorem Aa6 {o:O} {Q:Value→Aa→Prop} (hc:cls o = .E):WX W (opD cf m f h ⟨dd,g,o,fl,rk,true⟩) Q=WX (fun _ => False) (O0 f h o) Q:=by
  unfold opD;dsimp only;rw [hc];simp only [true_and]
  exact Aqi
theorem Auv {n:Nat} {a v:X} {Q:Value→Aa→Prop}:WX W (opD cf m f h ⟨dd,g,.st n a v,false,rk,lz⟩) Q=WH W (Ik n (ev f a) (ev f v) h) (fun h' => Q undef h'):=by
  unfold opD;simp only [cls,Bool.false_eq_true,false_and,if_false]
  cases Ik n (ev f a) (ev f v) h with
  | none => apply propext;constructor<;>rintro ⟨_,_,h⟩<;>simp at h
  | some v => obtain ⟨h',ws⟩:=v;exact propext ⟨fun ⟨_,_,_,e,hw,hq⟩ => by cases e;exact ⟨_,_,rfl,hw,hq⟩,fun ⟨_,_,e,hw,hq⟩ => by cases e;exact ⟨_,_,_,rfl,hw,hq⟩⟩
def WHi (m:Nat) (v:Value) (A:Prop) (t:Mk2 A A:=.mk):Prop:=high m v=true∧A
theorem Ang {n:Nat} {a v:X} {Q:Value→Aa→Prop}:WX W (opD cf m f h ⟨dd,g,.st n a v,true,rk,lz⟩) Q=WHi m (ev f a) (WH W (Ik n (ev f a) (ev f v) h) (fun h' => Q undef h')):=by
  unfold opD WHi;simp only [cls,true_and]
  cases hl:high m (ev f a)
  · simp only [if_true]
    apply propext;constructor
    · rintro ⟨_,_,_,e,_⟩;cases e
    · rintro ⟨e,_⟩;cases e
  · simp only [Bool.true_eq_false,if_false,true_and]
    cases Ik n (ev f a) (ev f v) h with
    | none => apply propext;constructor<;>rintro ⟨_,_,h⟩<;>simp at h
    | some v => obtain ⟨h',ws⟩:=v;exact propext ⟨fun ⟨_,_,_,e,hw,hq⟩ => by cases e;exact ⟨_,_,rfl,hw,hq⟩,fun ⟨_,_,e,hw,hq⟩ => by cases e;exact ⟨_,_,_,rfl,hw,hq⟩⟩
theorem Ah8 {x:X} {args:List X} {Q:Value→Aa→Prop}:WX W (opD cf m f h ⟨dd,g,.call x args,false,rk,false⟩) Q=WX W (cf (ev f x) (args.map (ev f)) h) Q:=by
  unfold opD;simp only [cls,Bool.false_eq_true,false_and,or_self,if_false]
  congr 1
  cases cf (ev f x) (args.map (ev f)) h<;>rfl
theorem Ad4 {x:X} {args:List X} {Q:Value→Aa→Prop}:WX W (opD cf m f h ⟨dd,g,.call x args,false,rk,true⟩) Q=WX (fun _ => False) (cf (ev f x) (args.map (ev f)) h) Q:=by
  unfold opD;simp only [cls,Bool.false_eq_true,false_and,false_or,true_and]
  exact Aqi
def WQ (h:Aa) (x:Option (Value × Aa × List Nat)) (Q:Value→Aa→Prop) (t:Mk Q:=.mk):Prop:=∃ v h',x=some (v,h',[])∧h'.length=h.length∧Q v h'
theorem A1l {v:Value} {h h':Aa} {Q:Value→Aa→Prop}:WQ h (some (v,h',[])) Q=(h'.length=h.length∧Q v h') :=
  propext ⟨fun ⟨_,_,e,hl,hq⟩ => by cases e;exact ⟨hl,hq⟩,fun ⟨hl,hq⟩ => ⟨_,_,rfl,hl,hq⟩⟩
theorem Aqj {v:Value} {h:Aa} {Q:Value→Aa→Prop}:WQ h (some (v,h,[])) Q=Q v h:=by rw [A1l];simp
theorem Ad3 {x:X} {args:List X} {Q:Value→Aa→Prop}:WX W (opD cf m f h ⟨dd,g,.call x args,true,rk,false⟩) Q=WQ h (cf (ev f x) (args.map (ev f)) h) Q:=by
  unfold opD WQ;simp only [cls,true_and,Bool.false_eq_true,false_and,or_false]
  cases cf (ev f x) (args.map (ev f)) h with
  | none => apply propext;constructor
            · rintro ⟨_,_,_,e,_⟩;cases e
            · rintro ⟨_,_,e,_⟩;cases e
  | some t =>
    obtain ⟨v,h',ws⟩:=t
    dsimp only
    by_cases hc:h'.length=h.length∧ws=[]
    · obtain ⟨h1,rfl⟩:=hc
      simp only [h1,and_self,not_true,if_false]
      exact propext ⟨fun ⟨_,_,_,e,hw,hq⟩ => by cases e;exact ⟨_,_,rfl,h1,hq⟩,fun ⟨_,_,e,hl,hq⟩ => by cases e;exact ⟨_,_,_,rfl,(fun b hb => nomatch hb),hq⟩⟩
    · rw [if_pos hc]
      apply propext;constructor
      · rintro ⟨_,_,_,e,_⟩;cases e
      · rintro ⟨_,_,e,hl,_⟩
        cases e
        exact absurd ⟨hl,rfl⟩ hc
theorem Au4 {x:X} {Q:Value→Aa→Prop}:WX W (opN cf f h (.mov x)) Q=W1 (some (ev f x)) (fun v => Q v h):=by rw [Ml rfl];rfl
theorem Ano {x:X} {Q:Value→Aa→Prop}:WX W (opD cf m f h ⟨dd,g,(.mov x),fl,rk,lz⟩) Q=W1 (some (ev f x)) (fun v => Q v h):=by rw [Gg rfl];rfl
theorem Aoh {c a b:X} {Q:Value→Aa→Prop}:WX W (opN cf f h (.pick c a b)) Q=W1 (Anf (ev f c) (ev f a) (ev f b)) (fun v => Q v h):=by rw [Ml rfl];rfl
theorem Ahz {c a b:X} {Q:Value→Aa→Prop}:WX W (opD cf m f h ⟨dd,g,(.pick c a b),fl,rk,lz⟩) Q=W1 (Anf (ev f c) (ev f a) (ev f b)) (fun v => Q v h):=by rw [Gg rfl];rfl
theorem Avp {op:BinOp} {q:EqK} {x y:X} {Q:Value→Aa→Prop}:WX W (opN cf f h (.bin op q x y)) Q=W1 (binOp op q (ev f x) (ev f y)) (fun v => Q v h):=by rw [Ml rfl];rfl
theorem Aob {op:BinOp} {q:EqK} {x y:X} {Q:Value→Aa→Prop}:WX W (opD cf m f h ⟨dd,g,(.bin op q x y),fl,rk,lz⟩) Q=W1 (binOp op q (ev f x) (ev f y)) (fun v => Q v h):=by rw [Gg rfl];rfl
theorem A11 {op:UnOp} {x:X} {Q:Value→Aa→Prop}:WX W (opN cf f h (.un op x)) Q=W1 (unOp op (ev f x)) (fun v => Q v h):=by rw [Ml rfl];rfl
theorem Auu {op:UnOp} {x:X} {Q:Value→Aa→Prop}:WX W (opD cf m f h ⟨dd,g,(.un op x),fl,rk,lz⟩) Q=W1 (unOp op (ev f x)) (fun v => Q v h):=by rw [Gg rfl];rfl
theorem Avj {k:IntKind} {x:X} {Q:Value→Aa→Prop}:WX W (opN cf f h (.cvi k x)) Q=W1 (A4e k (ev f x)) (fun v => Q v h):=by rw [Ml rfl];rfl
theorem An5 {k:IntKind} {x:X} {Q:Value→Aa→Prop}:WX W (opD cf m f h ⟨dd,g,(.cvi k x),fl,rk,lz⟩) Q=W1 (A4e k (ev f x)) (fun v => Q v h):=by rw [Gg rfl];rfl
theorem Avi {x:X} {Q:Value→Aa→Prop}:WX W (opN cf f h (.cvs x)) Q=W1 (A4d (ev f x)) (fun v => Q v h):=by rw [Ml rfl];rfl
theorem An4 {x:X} {Q:Value→Aa→Prop}:WX W (opD cf m f h ⟨dd,g,(.cvs x),fl,rk,lz⟩) Q=W1 (A4d (ev f x)) (fun v => Q v h):=by rw [Gg rfl];rfl
theorem Avo {z:List Value} {p:List (Nat × Nat × X)} {Q:Value→Aa→Prop}:WX W (opN cf f h (.bld z p)) Q=W1 ((Wi (p.map fun p => (p.1,p.2.1,ev f p.2.2)) z).map fun c => .agg c.toArray) (fun v => Q v h):=by rw [Ml rfl];simp only [Ax,Wh]
theorem Aoa {z:List Value} {p:List (Nat × Nat × X)} {Q:Value→Aa→Prop}:WX W (opD cf m f h ⟨dd,g,(.bld z p),fl,rk,lz⟩) Q=W1 ((Wi (p.map fun p => (p.1,p.2.1,ev f p.2.2)) z).map fun c => .agg c.toArray) (fun v => Q v h):=by rw [Gg rfl];simp only [Ax,Wh]
theorem Avf {off:Nat} {x:X} {Q:Value→Aa→Prop}:WX W (opN cf f h (.fld off x)) Q=W1 (A35 off (ev f x)) (fun v => Q v h):=by rw [Ml rfl];rfl
theorem An1 {off:Nat} {x:X} {Q:Value→Aa→Prop}:WX W (opD cf m f h ⟨dd,g,(.fld off x),fl,rk,lz⟩) Q=W1 (A35 off (ev f x)) (fun v => Q v h):=by rw [Gg rfl];rfl
theorem Ave {off:Nat} {agg:Option Nat} {x:X} {Q:Value→Aa→Prop}:WX W (opN cf f h (.fof off agg x)) Q=W1 (A33 off agg (ev f x)) (fun v => Q v h):=by rw [Ml rfl];rfl
theorem An0 {off:Nat} {agg:Option Nat} {x:X} {Q:Value→Aa→Prop}:WX W (opD cf m f h ⟨dd,g,(.fof off agg x),fl,rk,lz⟩) Q=W1 (A33 off agg (ev f x)) (fun v => Q v h):=by rw [Gg rfl];rfl
theorem Avd {n size:Nat} {x y:X} {Q:Value→Aa→Prop}:WX W (opN cf f h (.ixa n size x y)) Q=W1 (A0s n size (ev f x) (ev f y)) (fun v => Q v h):=by rw [Ml rfl];rfl
theorem Anz {n size:Nat} {x y:X} {Q:Value→Aa→Prop}:WX W (opD cf m f h ⟨dd,g,(.ixa n size x y),fl,rk,lz⟩) Q=W1 (A0s n size (ev f x) (ev f y)) (fun v => Q v h):=by rw [Gg rfl];rfl
theorem Avc {size:Nat} {x y:X} {Q:Value→Aa→Prop}:WX W (opN cf f h (.ixs size x y)) Q=W1 (Ar4 size (ev f x) (ev f y)) (fun v => Q v h):=by rw [Ml rfl];rfl
theorem Anx {size:Nat} {x y:X} {Q:Value→Aa→Prop}:WX W (opD cf m f h ⟨dd,g,(.ixs size x y),fl,rk,lz⟩) Q=W1 (Ar4 size (ev f x) (ev f y)) (fun v => Q v h):=by rw [Gg rfl];rfl
theorem Ava {n size:Nat} {agg:Option Nat} {x y:X} {Q:Value→Aa→Prop}:WX W (opN cf f h (.ixv n size agg x y)) Q=W1 (A0r n size agg (ev f x) (ev f y)) (fun v => Q v h):=by rw [Ml rfl];rfl
theorem Anv {n size:Nat} {agg:Option Nat} {x y:X} {Q:Value→Aa→Prop}:WX W (opD cf m f h ⟨dd,g,(.ixv n size agg x y),fl,rk,lz⟩) Q=W1 (A0r n size agg (ev f x) (ev f y)) (fun v => Q v h):=by rw [Gg rfl];rfl
theorem Avb {x y:X} {Q:Value→Aa→Prop}:WX W (opN cf f h (.ixt x y)) Q=W1 (Al3 (ev f x) (ev f y)) (fun v => Q v h):=by rw [Ml rfl];rfl
theorem Anw {x y:X} {Q:Value→Aa→Prop}:WX W (opD cf m f h ⟨dd,g,(.ixt x y),fl,rk,lz⟩) Q=W1 (Al3 (ev f x) (ev f y)) (fun v => Q v h):=by rw [Gg rfl];rfl
theorem Aux {x:X} {lo hi:Option X} {Q:Value→Aa→Prop}:WX W (opN cf f h (.slt x lo hi)) Q=W1 (Aq5 (ev f x) (lo.map (ev f)) (hi.map (ev f))) (fun v => Q v h):=by rw [Ml rfl];simp only [Ax,Tf,Aq5];congr 1
theorem Anh {x:X} {lo hi:Option X} {Q:Value→Aa→Prop}:WX W (opD cf m f h ⟨dd,g,(.slt x lo hi),fl,rk,lz⟩) Q=W1 (Aq5 (ev f x) (lo.map (ev f)) (hi.map (ev f))) (fun v => Q v h):=by rw [Gg rfl];simp only [Ax,Tf,Aq5];congr 1
theorem Auy {size:Nat} {x:X} {lo hi mx:Option X} {Q:Value→Aa→Prop}:WX W (opN cf f h (.sls size x lo hi mx)) Q=W1 (Qa size (ev f x) (lo.map (ev f)) (hi.map (ev f)) (mx.map (ev f))) (fun v => Q v h):=by rw [Ml rfl];simp only [Ax,Atz]
theorem Ani {size:Nat} {x:X} {lo hi mx:Option X} {Q:Value→Aa→Prop}:WX W (opD cf m f h ⟨dd,g,(.sls size x lo hi mx),fl,rk,lz⟩) Q=W1 (Qa size (ev f x) (lo.map (ev f)) (hi.map (ev f)) (mx.map (ev f))) (fun v => Q v h):=by rw [Gg rfl];simp only [Ax,Atz]
theorem Auz {n size:Nat} {x:X} {lo hi:Option X} {Q:Value→Aa→Prop}:WX W (opN cf f h (.sla n size x lo hi)) Q=W1 (Azp n size (ev f x) (lo.map (ev f)) (hi.map (ev f))) (fun v => Q v h):=by rw [Ml rfl];simp only [Ax,Tf,Azp];congr 1
theorem Anj {n size:Nat} {x:X} {lo hi:Option X} {Q:Value→Aa→Prop}:WX W (opD cf m f h ⟨dd,g,(.sla n size x lo hi),fl,rk,lz⟩) Q=W1 (Azp n size (ev f x) (lo.map (ev f)) (hi.map (ev f))) (fun v => Q v h):=by rw [Gg rfl];simp only [Ax,Tf,Azp];congr 1
theorem Au1 {x:X} {Q:Value→Aa→Prop}:WX W (opN cf f h (.nil x)) Q=W1 (A0d (ev f x)) (fun v => Q v h):=by rw [Ml rfl];rfl
theorem Anl {x:X} {Q:Value→Aa→Prop}:WX W (opD cf m f h ⟨dd,g,(.nil x),fl,rk,lz⟩) Q=W1 (A0d (ev f x)) (fun v => Q v h):=by rw [Gg rfl];rfl
theorem Avg {x:X} {j:Nat} {Q:Value→Aa→Prop}:WX W (opN cf f h (.ext x j)) Q=W1 (A38 (ev f x) j) (fun v => Q v h):=by rw [Ml rfl];rfl
theorem An2 {x:X} {j:Nat} {Q:Value→Aa→Prop}:WX W (opD cf m f h ⟨dd,g,(.ext x j),fl,rk,lz⟩) Q=W1 (A38 (ev f x) j) (fun v => Q v h):=by rw [Gg rfl];rfl
theorem Au7 {fn:Fn} {a b:List X} {Q:Value→Aa→Prop}:WX W (opN cf f h (.mkf fn a b)) Q=W1 (some (.func fn (a.map (ev f)).toArray (b.map (ev f)).toArray)) (fun v => Q v h):=by rw [Ml rfl];rfl
theorem Anr {fn:Fn} {a b:List X} {Q:Value→Aa→Prop}:WX W (opD cf m f h ⟨dd,g,(.mkf fn a b),fl,rk,lz⟩) Q=W1 (some (.func fn (a.map (ev f)).toArray (b.map (ev f)).toArray)) (fun v => Q v h):=by rw [Gg rfl];rfl
theorem Au6 {t:TypeId} {x:X} {Q:Value→Aa→Prop}:WX W (opN cf f h (.mki t x)) Q=W1 (some (.iface t (ev f x))) (fun v => Q v h):=by rw [Ml rfl];rfl
theorem Anq {t:TypeId} {x:X} {Q:Value→Aa→Prop}:WX W (opD cf m f h ⟨dd,g,(.mki t x),fl,rk,lz⟩) Q=W1 (some (.iface t (ev f x))) (fun v => Q v h):=by rw [Gg rfl];rfl
theorem Aoj {t:Bool} {x:X} {Q:Value→Aa→Prop}:WX W (opN cf f h (.lens t x)) Q=W1 (Pq t (ev f x)) (fun v => Q v h):=by rw [Ml rfl];rfl
theorem Ah2 {t:Bool} {x:X} {Q:Value→Aa→Prop}:WX W (opD cf m f h ⟨dd,g,(.lens t x),fl,rk,lz⟩) Q=W1 (Pq t (ev f x)) (fun v => Q v h):=by rw [Gg rfl];rfl
theorem Aol {n:Nat} {Q:Value→Aa→Prop}:WX W (opN cf f h (.lena n)) Q=W1 (some (.int .i64 n)) (fun v => Q v h):=by rw [Ml rfl];rfl
theorem Ah4 {n:Nat} {Q:Value→Aa→Prop}:WX W (opD cf m f h ⟨dd,g,(.lena n),fl,rk,lz⟩) Q=W1 (some (.int .i64 n)) (fun v => Q v h):=by rw [Gg rfl];rfl
theorem Au8 {x:X} {l:List X} {Q:Value→Aa→Prop}:WX W (opN cf f h (.min x l)) Q=W1 (Ki min2 (ev f x) (l.map (ev f))) (fun v => Q v h):=by rw [Ml rfl];rfl
theorem Ans {x:X} {l:List X} {Q:Value→Aa→Prop}:WX W (opD cf m f h ⟨dd,g,(.min x l),fl,rk,lz⟩) Q=W1 (Ki min2 (ev f x) (l.map (ev f))) (fun v => Q v h):=by rw [Gg rfl];rfl
theorem Au9 {x:X} {l:List X} {Q:Value→Aa→Prop}:WX W (opN cf f h (.max x l)) Q=W1 (Ki max2 (ev f x) (l.map (ev f))) (fun v => Q v h):=by rw [Ml rfl];rfl
theorem Ant {x:X} {l:List X} {Q:Value→Aa→Prop}:WX W (opD cf m f h ⟨dd,g,(.max x l),fl,rk,lz⟩) Q=W1 (Ki max2 (ev f x) (l.map (ev f))) (fun v => Q v h):=by rw [Gg rfl];rfl
theorem A14 {a:Option Nat} {x:X} {Q:Value→Aa→Prop}:WX W (opN cf f h (.ld a x)) Q=W1 (Sn a (ev f x) h) (fun v => Q v h):=by rw [Az5 rfl];rfl
theorem Auw {a:Option Nat} {x:X} {Q:Value→Aa→Prop}:WX W (opD cf m f h ⟨dd,g,(.ld a x),false,rk,lz⟩) Q=W1 (Sn a (ev f x) h) (fun v => Q v h):=by rw [Aog rfl];rfl
theorem Anu {a:Option Nat} {x:X} {Q:Value→Aa→Prop}:WX W (opD cf m f h ⟨dd,g,(.ld a x),true,rk,lz⟩) Q=WL m (ev f x) (W1 (Sn a (ev f x) h) (fun v => Q v h)):=by rw [Afp rfl];rfl
theorem Aoi {q:EqK} {z:Value} {m1 k1:X} {ok:Bool} {Q:Value→Aa→Prop}:WX W (opN cf f h (.look q z m1 k1 ok)) Q=W1 (Yw q z (ev f m1) (ev f k1) ok h) (fun v => Q v h):=by rw [Az5 rfl];rfl
theorem Ah1 {q:EqK} {z:Value} {m1 k1:X} {ok:Bool} {Q:Value→Aa→Prop}:WX W (opD cf m f h ⟨dd,g,(.look q z m1 k1 ok),false,rk,lz⟩) Q=W1 (Yw q z (ev f m1) (ev f k1) ok h) (fun v => Q v h):=by rw [Aog rfl];rfl
theorem Ad1 {q:EqK} {z:Value} {m1 k1:X} {ok:Bool} {Q:Value→Aa→Prop}:WX W (opD cf m f h ⟨dd,g,(.look q z m1 k1 ok),true,rk,lz⟩) Q=WL m (ev f m1) (W1 (Yw q z (ev f m1) (ev f k1) ok h) (fun v => Q v h)):=by rw [Afp rfl];rfl
theorem Aok {x:X} {Q:Value→Aa→Prop}:WX W (opN cf f h (.lenm x)) Q=W1 (Awj (ev f x) h) (fun v => Q v h):=by rw [Az5 rfl];rfl
theorem Ah3 {x:X} {Q:Value→Aa→Prop}:WX W (opD cf m f h ⟨dd,g,(.lenm x),false,rk,lz⟩) Q=W1 (Awj (ev f x) h) (fun v => Q v h):=by rw [Aog rfl];rfl
theorem Ad2 {x:X} {Q:Value→Aa→Prop}:WX W (opD cf m f h ⟨dd,g,(.lenm x),true,rk,lz⟩) Q=WL m (ev f x) (W1 (Awj (ev f x) h) (fun v => Q v h)):=by rw [Afp rfl];rfl
theorem Avq {x:X} {Q:Value→Aa→Prop}:WX W (opN cf f h (.b2s x)) Q=W1 (Ayf (ev f x) h) (fun v => Q v h):=by rw [Az5 rfl];rfl
theorem Aoc {x:X} {Q:Value→Aa→Prop}:WX W (opD cf m f h ⟨dd,g,(.b2s x),false,rk,lz⟩) Q=W1 (Ayf (ev f x) h) (fun v => Q v h):=by rw [Aog rfl];rfl
theorem Ah9 {x:X} {Q:Value→Aa→Prop}:WX W (opD cf m f h ⟨dd,g,(.b2s x),true,rk,lz⟩) Q=WL m (ev f x) (W1 (Ayf (ev f x) h) (fun v => Q v h)):=by rw [Afp rfl];rfl
theorem Avs {z:List Value} {Q:Value→Aa→Prop}:WX W (opN cf f h (.all z)) Q=W1 (Ac z fun b => .pointer (some ⟨b,0,none⟩)) (fun n => WF (n.2 h.length) (fun v => WF (h++[n.1]) (fun hh => Q v hh))):=by rw [Alr rfl];rfl
theorem Aoe {z:List Value} {Q:Value→Aa→Prop}:WX W (opD cf m f h ⟨dd,g,(.all z),fl,rk,lz⟩) Q=W1 (Ac z fun b => .pointer (some ⟨b,0,none⟩)) (fun n => WF (n.2 (m+rk)) (fun v => WF (h.set (m+rk) n.1) (fun hh => Q v hh))):=by rw [Aa7 rfl];rfl
theorem Avn {x:X} {Q:Value→Aa→Prop}:WX W (opN cf f h (.box x)) Q=W1 (Ac (Bl (ev f x)) fun b => .pointer (some ⟨b,0,none⟩)) (fun n => WF (n.2 h.length) (fun v => WF (h++[n.1]) (fun hh => Q v hh))):=by rw [Alr rfl];rfl
theorem An9 {x:X} {Q:Value→Aa→Prop}:WX W (opD cf m f h ⟨dd,g,(.box x),fl,rk,lz⟩) Q=W1 (Ac (Bl (ev f x)) fun b => .pointer (some ⟨b,0,none⟩)) (fun n => WF (n.2 (m+rk)) (fun v => WF (h.set (m+rk) n.1) (fun hh => Q v hh))):=by rw [Aa7 rfl];rfl
theorem Avm {size:Nat} {z:List Value} {n:Nat} {p:List (Nat × Nat × X)} {Q:Value→Aa→Prop}:WX W (opN cf f h (.bsl size z n p)) Q=W1 (Rq size z n (p.map fun p => (p.1,p.2.1,ev f p.2.2))) (fun n => WF (n.2 h.length) (fun v => WF (h++[n.1]) (fun hh => Q v hh))):=by rw [Alr rfl];simp only [Jq,Rq,Wh]
theorem An8 {size:Nat} {z:List Value} {n:Nat} {p:List (Nat × Nat × X)} {Q:Value→Aa→Prop}:WX W (opD cf m f h ⟨dd,g,(.bsl size z n p),fl,rk,lz⟩) Q=W1 (Rq size z n (p.map fun p => (p.1,p.2.1,ev f p.2.2))) (fun n => WF (n.2 (m+rk)) (fun v => WF (h.set (m+rk) n.1) (fun hh => Q v hh))):=by rw [Aa7 rfl];simp only [Jq,Rq,Wh]
theorem Au3 {z:List Value} {bytes:Nat} {x y:X} {Q:Value→Aa→Prop}:WX W (opN cf f h (.msl z bytes x y)) Q=W1 (Arv z bytes (ev f x) (ev f y)) (fun n => WF (n.2 h.length) (fun v => WF (h++[n.1]) (fun hh => Q v hh))):=by rw [Alr rfl];rfl
theorem Ann {z:List Value} {bytes:Nat} {x y:X} {Q:Value→Aa→Prop}:WX W (opD cf m f h ⟨dd,g,(.msl z bytes x y),fl,rk,lz⟩) Q=W1 (Arv z bytes (ev f x) (ev f y)) (fun n => WF (n.2 (m+rk)) (fun v => WF (h.set (m+rk) n.1) (fun hh => Q v hh))):=by rw [Aa7 rfl];rfl
theorem Au5 {Q:Value→Aa→Prop}:WX W (opN cf f h .mkm) Q=W1 (some (.map [],fun b => .map (some b))) (fun n => WF (n.2 h.length) (fun v => WF (h++[n.1]) (fun hh => Q v hh))):=by rw [Alr rfl];rfl
theorem Anp {Q:Value→Aa→Prop}:WX W (opD cf m f h ⟨dd,g,.mkm,fl,rk,lz⟩) Q=W1 (some (.map [],fun b => .map (some b))) (fun n => WF (n.2 (m+rk)) (fun v => WF (h.set (m+rk) n.1) (fun hh => Q v hh))):=by rw [Aa7 rfl];rfl
theorem Avt {Q:Value→Aa→Prop}:WX W (opN cf f h .alb) Q=W1 (some (.bld none,fun b => .pointer (some ⟨b,0,none⟩))) (fun n => WF (n.2 h.length) (fun v => WF (h++[n.1]) (fun hh => Q v hh))):=by rw [Alr rfl];rfl
theorem Aof {Q:Value→Aa→Prop}:WX W (opD cf m f h ⟨dd,g,.alb,fl,rk,lz⟩) Q=W1 (some (.bld none,fun b => .pointer (some ⟨b,0,none⟩))) (fun n => WF (n.2 (m+rk)) (fun v => WF (h.set (m+rk) n.1) (fun hh => Q v hh))):=by rw [Aa7 rfl];rfl
theorem Au0 {x:X} {Q:Value→Aa→Prop}:WX W (opN cf f h (.s2b x)) Q=W1 (A4w (ev f x)) (fun n => WF (n.2 h.length) (fun v => WF (h++[n.1]) (fun hh => Q v hh))):=by rw [Alr rfl];rfl
theorem Ank {x:X} {Q:Value→Aa→Prop}:WX W (opD cf m f h ⟨dd,g,(.s2b x),fl,rk,lz⟩) Q=W1 (A4w (ev f x)) (fun n => WF (n.2 (m+rk)) (fun v => WF (h.set (m+rk) n.1) (fun hh => Q v hh))):=by rw [Aa7 rfl];rfl
theorem Au2 {q:EqK} {m1 k1 v1:X} {Q:Value→Aa→Prop}:WX W (opN cf f h (.mup q m1 k1 v1)) Q=WX W (Awd q (ev f m1) (ev f k1) (ev f v1) h) Q:=by rw [Avu rfl];rfl
theorem Anm {q:EqK} {m1 k1 v1:X} {Q:Value→Aa→Prop}:WX W (opD cf m f h ⟨dd,g,(.mup q m1 k1 v1),fl,rk,false⟩) Q=WX W (Awd q (ev f m1) (ev f k1) (ev f v1) h) Q:=by rw [Aib rfl];rfl
theorem Ah0 {q:EqK} {m1 k1 v1:X} {Q:Value→Aa→Prop}:WX W (opD cf m f h ⟨dd,g,(.mup q m1 k1 v1),fl,rk,true⟩) Q=WX (fun _ => False) (Awd q (ev f m1) (ev f k1) (ev f v1) h) Q:=by rw [Aa6 rfl];rfl
theorem Avr {size bytes:Nat} {x y:X} {Q:Value→Aa→Prop}:WX W (opN cf f h (.app size bytes x y)) Q=WX W (Cn size bytes (ev f x) (ev f y) h) Q:=by rw [Avu rfl];rfl
theorem Aod {size bytes:Nat} {x y:X} {Q:Value→Aa→Prop}:WX W (opD cf m f h ⟨dd,g,(.app size bytes x y),fl,rk,false⟩) Q=WX W (Cn size bytes (ev f x) (ev f y) h) Q:=by rw [Aib rfl];rfl
theorem Aia {size bytes:Nat} {x y:X} {Q:Value→Aa→Prop}:WX W (opD cf m f h ⟨dd,g,(.app size bytes x y),fl,rk,true⟩) Q=WX (fun _ => False) (Cn size bytes (ev f x) (ev f y) h) Q:=by rw [Aa6 rfl];rfl
theorem Avk {size:Nat} {x y:X} {Q:Value→Aa→Prop}:WX W (opN cf f h (.cpy size x y)) Q=WX W (Aes size (ev f x) (ev f y) h) Q:=by rw [Avu rfl];rfl
theorem An6 {size:Nat} {x y:X} {Q:Value→Aa→Prop}:WX W (opD cf m f h ⟨dd,g,(.cpy size x y),fl,rk,false⟩) Q=WX W (Aes size (ev f x) (ev f y) h) Q:=by rw [Aib rfl];rfl
theorem Ah6 {size:Nat} {x y:X} {Q:Value→Aa→Prop}:WX W (opD cf m f h ⟨dd,g,(.cpy size x y),fl,rk,true⟩) Q=WX (fun _ => False) (Aes size (ev f x) (ev f y) h) Q:=by rw [Aa6 rfl];rfl
theorem Avl {z:List Value} {x:X} {Q:Value→Aa→Prop}:WX W (opN cf f h (.clr z x)) Q=WX W (Sw z (ev f x) h) Q:=by rw [Avu rfl];rfl
theorem An7 {z:List Value} {x:X} {Q:Value→Aa→Prop}:WX W (opD cf m f h ⟨dd,g,(.clr z x),fl,rk,false⟩) Q=WX W (Sw z (ev f x) h) Q:=by rw [Aib rfl];rfl
theorem Ah7 {z:List Value} {x:X} {Q:Value→Aa→Prop}:WX W (opD cf m f h ⟨dd,g,(.clr z x),fl,rk,true⟩) Q=WX (fun _ => False) (Sw z (ev f x) h) Q:=by rw [Aa6 rfl];rfl
theorem Avh {q:EqK} {m1 k1:X} {Q:Value→Aa→Prop}:WX W (opN cf f h (.del q m1 k1)) Q=WX W (A4c q (ev f m1) (ev f k1) h) Q:=by rw [Avu rfl];rfl
theorem An3 {q:EqK} {m1 k1:X} {Q:Value→Aa→Prop}:WX W (opD cf m f h ⟨dd,g,(.del q m1 k1),fl,rk,false⟩) Q=WX W (A4c q (ev f m1) (ev f k1) h) Q:=by rw [Aib rfl];rfl
theorem Ah5 {q:EqK} {m1 k1:X} {Q:Value→Aa→Prop}:WX W (opD cf m f h ⟨dd,g,(.del q m1 k1),fl,rk,true⟩) Q=WX (fun _ => False) (A4c q (ev f m1) (ev f k1) h) Q:=by rw [Aa6 rfl];rfl
end
end Go.L
namespace Go.L
open Go
theorem A5v {f:FF} {s:Nat}:ev f (.t s)=f s:=rfl
theorem A5x {f:FF} {v:Value}:ev f (.c v)=v:=rfl
theorem A5w {f:FF} {g:Nat}:ev f (.f g) = .func (.func g) #[] #[]:=rfl
theorem Atg {f:FF} {d s:Nat} {v:Value}:upd f d v s=if s=d then v else f s:=rfl
theorem Aji {k s:Nat} {v:Value} {r:Fr}:get ((k,v) :: r) s=if s=k then v else get r s:=rfl
section
variable {q:EqK} {k k':IntKind} {a b:Int}
theorem Aqe:binOp .add q (.int k a) (.int k b)=some (.int k (k.wrap (a+b))):=by simp [binOp,Fe]
theorem Ap0:binOp .sub q (.int k a) (.int k b)=some (.int k (k.wrap (a - b))):=by simp [binOp,Fe]
theorem Ap6:binOp .mul q (.int k a) (.int k b)=some (.int k (k.wrap (a * b))):=by simp [binOp,Fe]
theorem Ap4 (h:b≠0):binOp .quo q (.int k a) (.int k b)=some (.int k (k.wrap (a.tdiv b))):=by simp [binOp,Fe,h]
theorem Ap3 (h:b≠0):binOp .rem q (.int k a) (.int k b)=some (.int k (a.tmod b)):=by simp [binOp,Fe,h]
theorem Aqb:binOp .eql q (.int k a) (.int k b)=some (.bool (decide (a=b))):=by simp [binOp,Fe];rfl
theorem Ap5:binOp .neq q (.int k a) (.int k b)=some (.bool (decide (¬ a=b))):=by
 simp only [binOp,Fe,if_true];congr 2;by_cases h:a=b<;>simp [h]
theorem Ap7:binOp .lss q (.int k a) (.int k b)=some (.bool (decide (a<b))):=by simp [binOp,Fe]
theorem Ap8:binOp .leq q (.int k a) (.int k b)=some (.bool (decide (a≤b))):=by simp [binOp,Fe]
theorem Ap9:binOp .gtr q (.int k a) (.int k b)=some (.bool (decide (b<a))):=by simp [binOp,Fe]
theorem Aqa:binOp .geq q (.int k a) (.int k b)=some (.bool (decide (b≤a))):=by simp [binOp,Fe]
theorem Ato:unOp .neg (.int k a)=some (.int k (k.wrap (0 - a))):=rfl
theorem Atn {t:Bool}:unOp .not (.bool t)=some (.bool (!t)):=rfl
theorem Aqd {x y:Bool}:binOp .eql .bool (.bool x) (.bool y)=some (.bool (x == y)):=rfl
theorem Aqc {x y:Bool}:binOp .neq .bool (.bool x) (.bool y)=some (.bool (!(x == y))):=rfl
theorem Ap2 {x y:ByteArray}:binOp .eql q (.string x) (.string y)=some (.bool (x.toList == y.toList)):=rfl
theorem Ap1 {x y:ByteArray}:binOp .neq q (.string x) (.string y)=some (.bool (!(x.toList == y.toList))):=rfl
end
theorem Vl {x:Int} (h1:-9223372036854775808≤x) (h2:x<9223372036854775808):IntKind.i64.wrap x=x:=by
 simp [IntKind.wrap,IntKind.bits,IntKind.signed];omega
theorem Pc {x:Int} (h1:0≤x) (h2:x<18446744073709551616):IntKind.u64.wrap x=x:=by
 simp [IntKind.wrap,IntKind.bits,IntKind.signed];omega
theorem Afc {x:Int} (h1:0≤x) (h2:x<256):IntKind.u8.wrap x=x:=by
 simp [IntKind.wrap,IntKind.bits,IntKind.signed];omega
theorem App {k k':IntKind} {n:Int}:A4e k (.int k' n)=some (.int k (k.wrap n)):=rfl
theorem Apo {s:ByteArray}:A4d (.string s)=some (.string s):=rfl
theorem Aus {a b:Value}:Anf (.bool true) a b=some a:=rfl
theorem Aut {a b:Value}:Anf (.bool false) a b=some b:=rfl
theorem Ach {k:IntKind} {n:Int}:Bl (.int k n)=[.int k n]:=rfl
theorem Y4 {b:Bool}:Bl (.bool b)=[.bool b]:=rfl
theorem Acd {b:ByteArray}:Bl (.string b)=[.string b]:=rfl
theorem Ace {b:Option Addr}:Bl (.pointer b)=[.pointer b]:=rfl
theorem Wx {b:Option Addr} {n c:Nat}:Bl (.slice b n c)=[.slice b n c]:=rfl
theorem Acg {b:Option Nat}:Bl (.map b)=[.map b]:=rfl
theorem Y3 {g:Fn} {a b:Array Value}:Bl (.func g a b)=[.func g a b]:=rfl
theorem Vd {a:Array Value}:Bl (.agg a)=a.toList:=rfl
theorem Afq {k:IntKind} {n:Int}:Ah (.int k n)=true:=rfl
theorem Aig {b:Bool}:Ah (.bool b)=true:=rfl
theorem Aon {b:ByteArray}:Ah (.string b)=true:=rfl
theorem Aoo {b:Option Addr}:Ah (.pointer b)=true:=rfl
theorem Ad6 {b:Option Addr} {n c:Nat}:Ah (.slice b n c)=true:=rfl
theorem Aop {b:Option Nat}:Ah (.map b)=true:=rfl
theorem Aif {g:Fn} {a b:Array Value}:Ah (.func g a b)=true:=rfl
theorem Aie:Ah .nilFunc=true:=rfl
theorem Y1:Bl .nilFunc=[.nilFunc]:=rfl
theorem Acf {v:Value} (h:Ah v=true):Bl v=[v]:=by cases v<;>first | rfl | cases h
theorem Aep {c:List Value}:Wi [] c=some c:=rfl
theorem Ab4 {o n:Nat} {x:Value} {r:List (Nat × Nat × Value)} {c:List Value}:Wi ((o,n,x) :: r) c=if (Bl x).length=n∧o+n≤c.length∧(Bl x).all Ah then Wi r (setCells c o (Bl x)) else none:=rfl
theorem Jm {c:List Value} {o:Nat}:setCells c o []=c:=rfl
theorem F3 {c:List Value} {o:Nat} {v:Value} {r:List Value}:setCells c o (v :: r)=setCells (c.set o v) (o+1) r:=rfl
def ldO:Option LObj→Nat→Option Nat→Option Value
 | some (.cells c _),off,agg => part c off agg
 | _,_,_ => none
theorem Ai4 {b off:Nat} {sp:Option Nat} {agg:Option Nat} {h:Aa}:Sn agg (.pointer (some ⟨b,off,sp⟩)) h=ldO h[b]? off agg:=by
 simp only [Sn];cases h[b]? with
 | none => rfl
 | some o => cases o<;>rfl
theorem Ps {c:List Value} {ro:Bool} {off:Nat} {agg:Option Nat}:ldO (some (.cells c ro)) off agg=part c off agg:=rfl
theorem Ts {c:List Value} {off:Nat}:part c off none=c[off]?:=rfl
theorem Xq {c:List Value} {off n:Nat}:part c off (some n)=if off+n≤c.length then some (.agg ((c.drop off).take n).toArray) else none:=rfl
def stO (n:Nat) (h:Aa) (b off:Nat) (cs:List Value):Option LObj→Option (Aa × List Nat)
 | some (.cells c false) => if cs.length=n∧off+n≤c.length∧cs.all Ah then some (h.set b (.cells (setCells c off cs) false),[b]) else none
 | _ => none
theorem Adw {n b off:Nat} {sp:Option Nat} {v:Value} {h:Aa}:Ik n (.pointer (some ⟨b,off,sp⟩)) v h=stO n h b off (Bl v) h[b]?:=by
 simp only [Ik];cases h[b]? with
 | none => rfl
 | some o => cases o with
  | cells c ro => cases ro<;>rfl
  | map _ => rfl
  | loop _ => rfl
  | dead => rfl
  | bld _ => rfl
  | bytes _ => rfl
theorem Mt {n b off:Nat} {h:Aa} {cs c:List Value}:stO n h b off cs (some (.cells c false))=if cs.length=n∧off+n≤c.length∧cs.all Ah then some (h.set b (.cells (setCells c off cs) false),[b]) else none:=rfl
theorem Apk {off b o:Nat} {sp:Option Nat}:A35 off (.pointer (some ⟨b,o,sp⟩))=some (.pointer (some ⟨b,o+off,none⟩)):=rfl
theorem Apj {off:Nat} {agg:Option Nat} {cs:Array Value}:A33 off agg (.agg cs)=part cs.toList off agg:=rfl
theorem Ao4 {a:Addr}:A0d (.pointer (some a))=some (.pointer (some a)):=rfl
theorem Ai0 {g:FuncId} {a b:Array Value}:A0d (.func (.func g) a b)=some (.func (.func g) a b):=rfl
theorem U2 {a:Option Addr} {n c:Nat}:Pq false (.slice a n c)=some (.int .i64 n):=rfl
theorem Ai9 {s:ByteArray}:Pq true (.string s)=some (.int .i64 s.size):=rfl
theorem Aeq {vs:Array Value} {j:Nat}:A38 (.tuple vs) j=match vs.toList[j]? with | some v => if Et v then some v else none | none => none:=rfl
theorem Av5 {k:IntKind} {n:Int}:Et (.int k n)=true:=rfl
theorem Aor {b:Bool}:Et (.bool b)=true:=rfl
theorem Av2 {b:ByteArray}:Et (.string b)=true:=rfl
theorem Ain {b:Option Addr} {n c:Nat}:Et (.slice b n c)=true:=rfl
theorem Av3 {b:Option Addr}:Et (.pointer b)=true:=rfl
theorem Av6 {b:Array Value}:Et (.agg b)=true:=rfl
theorem Av4 {b:Option Nat}:Et (.map b)=true:=rfl
theorem Aoq {g:Fn} {a b:Array Value}:Et (.func g a b)=true:=rfl
theorem Co {size n c b o:Nat} {sp:Option Nat} {k:IntKind} {j:Int} (h1:0≤j) (h2:j<n):Ar4 size (.slice (some ⟨b,o,sp⟩) n c) (.int k j)=some (.pointer (some ⟨b,o+j.toNat * size,none⟩)):=by
 simp [Ar4,Ti,h1,h2]
theorem Ajc {size n b o:Nat} {sp:Option Nat} {k:IntKind} {j:Int} (h1:0≤j) (h2:j<n):A0s n size (.pointer (some ⟨b,o,sp⟩)) (.int k j)=some (.pointer (some ⟨b,o+j.toNat * size,none⟩)):=by
 simp [A0s,Ti,h1,h2]
theorem Awr {s:ByteArray} {k:IntKind} {j:Int} (h1:0≤j):Al3 (.string s) (.int k j)=(s[j.toNat]?).map fun b => .int .u8 b.toNat:=by simp [Al3,h1]
theorem A2d {x:Value}:Ki min2 x []=some x:=rfl
theorem A2c {k:IntKind} {a b:Int} {r:List Value}:Ki min2 (.int k a) (.int k b :: r)=Ki min2 (.int k (min a b)) r:=by
 simp only [Ki,min2,Option.bind_some];congr 2;omega
theorem A2f {x:Value}:Ki max2 x []=some x:=rfl
theorem A2e {k:IntKind} {a b:Int} {r:List Value}:Ki max2 (.int k a) (.int k b :: r)=Ki max2 (.int k (max a b)) r:=by
 simp only [Ki,max2,Option.bind_some];congr 2;omega
theorem Ahs {fr:Fr} {h:Aa}:M7 fr h []=some []:=rfl
theorem Auk {fr:Fr} {h:Aa} {s:Nat} {r:List R}:M7 fr h (.t s :: r)=(M7 fr h r).map (get fr s :: ·):=rfl
theorem Auj {fr:Fr} {h:Aa} {s:Nat} {agg:Option Nat} {r:List R}:M7 fr h (.v agg s :: r)=(Sn agg (get fr s) h).bind fun v => (M7 fr h r).map (v :: ·):=rfl
theorem Ahq {v:Value}:Rh [v]=v:=rfl
theorem Ahp {v w:Value} {r:List Value}:Rh (v :: w :: r) = .tuple (v :: w :: r).toArray:=rfl
theorem Ahr:Rh [] = .tuple #[]:=rfl
theorem Aou {m:Nat} {k:IntKind} {n:Int}:Ae m 4 (.int k n)=true:=rfl
theorem Air {m:Nat} {b:Bool}:Ae m 4 (.bool b)=true:=rfl
theorem Aos {m:Nat} {b:ByteArray}:Ae m 4 (.string b)=true:=rfl
theorem Aea {m n c:Nat} {a:Addr}:Ae m 4 (.slice (some a) n c)=decide (a.block<m):=rfl
theorem Aio {m n c:Nat}:Ae m 4 (.slice none n c)=true:=rfl
theorem Aot {m:Nat} {a:Addr}:Ae m 4 (.pointer (some a))=decide (a.block<m):=rfl
theorem Aip {m:Nat}:Ae m 4 (.pointer none)=true:=rfl
theorem Aov {m:Nat} {vs:Array Value}:Ae m 4 (.agg vs)=vs.toList.all (Ae m 3):=rfl
theorem Ad9 {m:Nat} {vs:Array Value}:Ae m 4 (.tuple vs)=vs.toList.all (Ae m 3):=rfl
theorem Aiq {m:Nat} {g:FuncId} {a b:Array Value}:Ae m 4 (.func (.func g) a b)=(a.toList.all (Ae m 3) && b.toList.all (Ae m 3)):=by simp [Ae]
theorem Aoy {m:Nat} {k:IntKind} {n:Int}:Ae m 3 (.int k n)=true:=rfl
theorem Aiv {m:Nat} {b:Bool}:Ae m 3 (.bool b)=true:=rfl
theorem Aow {m:Nat} {b:ByteArray}:Ae m 3 (.string b)=true:=rfl
theorem Aec {m n c:Nat} {a:Addr}:Ae m 3 (.slice (some a) n c)=decide (a.block<m):=rfl
theorem Ais {m n c:Nat}:Ae m 3 (.slice none n c)=true:=rfl
theorem Aox {m:Nat} {a:Addr}:Ae m 3 (.pointer (some a))=decide (a.block<m):=rfl
theorem Ait {m:Nat}:Ae m 3 (.pointer none)=true:=rfl
theorem Aoz {m:Nat} {vs:Array Value}:Ae m 3 (.agg vs)=vs.toList.all (Ae m 2):=rfl
theorem Aeb {m:Nat} {vs:Array Value}:Ae m 3 (.tuple vs)=vs.toList.all (Ae m 2):=rfl
theorem Aiu {m:Nat} {g:FuncId} {a b:Array Value}:Ae m 3 (.func (.func g) a b)=(a.toList.all (Ae m 2) && b.toList.all (Ae m 2)):=by simp [Ae]
theorem Ao2 {m:Nat} {k:IntKind} {n:Int}:Ae m 2 (.int k n)=true:=rfl
theorem Aiz {m:Nat} {b:Bool}:Ae m 2 (.bool b)=true:=rfl
theorem Ao0 {m:Nat} {b:ByteArray}:Ae m 2 (.string b)=true:=rfl
theorem Aee {m n c:Nat} {a:Addr}:Ae m 2 (.slice (some a) n c)=decide (a.block<m):=rfl
theorem Aiw {m n c:Nat}:Ae m 2 (.slice none n c)=true:=rfl
theorem Ao1 {m:Nat} {a:Addr}:Ae m 2 (.pointer (some a))=decide (a.block<m):=rfl
theorem Aix {m:Nat}:Ae m 2 (.pointer none)=true:=rfl
theorem Ao3 {m:Nat} {vs:Array Value}:Ae m 2 (.agg vs)=vs.toList.all (Ae m 1):=rfl
theorem Aed {m:Nat} {vs:Array Value}:Ae m 2 (.tuple vs)=vs.toList.all (Ae m 1):=rfl
theorem Aiy {m:Nat} {g:FuncId} {a b:Array Value}:Ae m 2 (.func (.func g) a b)=(a.toList.all (Ae m 1) && b.toList.all (Ae m 1)):=by simp [Ae]
section
variable {h l:Aa} {o:LObj}
theorem Kr {n:Nat}:(h++l)[h.length+n]? = l[n]?:=by rw [List.getElem?_append_right (by omega)];congr 1;omega
theorem Bm:(h++l)[h.length]? = l[0]?:=by rw [List.getElem?_append_right (by omega)];congr 1;omega
theorem A3b {n:Nat}:(h++l).set (h.length+n) o=h++l.set n o:=by rw [List.set_append_right _ _ (by omega)];congr 2;omega
theorem A1o:(h++l).set h.length o=h++l.set 0 o:=by rw [List.set_append_right _ _ (by omega)];congr 2;omega
theorem Ba {b c:Nat} (hb:b≠c):(h.set b o)[c]? = h[c]?:=List.getElem?_set_ne hb
theorem A1w:room h 0=h:=rfl
theorem A1v:room h 1=h++[.dead]:=rfl
theorem A1u:room h 2=h++[.dead,.dead]:=rfl
theorem A1t:room h 3=h++[.dead,.dead,.dead]:=rfl
theorem A1s:room h 4=h++[.dead,.dead,.dead,.dead]:=rfl
end
def blk:Value→Nat
 | .slice (some a) _ _ => a.block
 | _ => 0
def ofs:Value→Nat
 | .slice (some a) _ _ => a.off
 | _ => 0
structure Row (sz:Nat) (h:Aa) (v:Value) (L:List (List Value)):Prop where
 size:∀ e∈L,e.length=sz
 few:L.length<1152921504606846976
 is:(v = .slice none 0 0∧L=[])∨∃ b off sp cap c ro,v = .slice (some ⟨b,off,sp⟩) L.length cap∧h[b]? = some (.cells c ro)∧off+L.length * sz≤c.length∧(c.drop off).take (L.length * sz)=L.flatten∧L.length≤cap∧(sp=none∨sp=some sz)
namespace Row
variable {sz:Nat} {h:Aa} {v:Value} {L:List (List Value)}
theorem len (r:Row sz h v L):Pq false v=some (.int .i64 L.length):=by
 rcases r.is with ⟨rfl,rfl⟩ | ⟨b,off,sp,cap,c,ro,rfl,_⟩<;>rfl
theorem ixs (r:Row sz h v L) (k:IntKind) (i:Int) (h1:0≤i) (h2:i<L.length):Ar4 sz v (.int k i)=some (.pointer (some ⟨blk v,ofs v+i.toNat * sz,none⟩)):=by
 rcases r.is with ⟨rfl,rfl⟩ | ⟨b,off,sp,cap,c,ro,rfl,_⟩
 ·simp at h2;omega
 ·exact Co h1 h2
theorem flat_get:∀ {L:List (List Value)} (hs:∀ e∈L,e.length=sz) (i fo:Nat) (hi:i<L.length) (hf:fo<sz),L.flatten[i * sz+fo]? = some ((L.getD i []).getD fo undef):=by
 intro L
 induction L with
 | nil => intro hs i fo hi;simp at hi
 | cons x r ih =>
  intro hs i fo hi hf
  have hx:x.length=sz:=hs x (by simp)
  cases i with
  | zero =>
   simp only [Nat.zero_mul,Nat.zero_add,List.flatten_cons,List.getD_cons_zero]
   rw [GL (by omega),List.getD_eq_getElem?_getD,List.getElem?_eq_getElem (by omega)];rfl
  | succ i =>
   have e:(i+1) * sz+fo=x.length+(i * sz+fo):=by rw [hx,Nat.succ_mul];omega
   rw [List.flatten_cons,e,List.getElem?_append_right (by omega),Nat.add_sub_cancel_left,List.getD_cons_succ]
   exact ih (fun e he => hs e (by simp [he])) i fo (by simpa using hi) hf
theorem at_ (r:Row sz h v L) (i fo:Nat) (hi:i<L.length) (hf:fo<sz):∃ c ro,h[blk v]? = some (.cells c ro)∧ofs v+i * sz+fo<c.length∧c[ofs v+i * sz+fo]? = some ((L.getD i []).getD fo undef):=by
 rcases r.is with ⟨rfl,rfl⟩ | ⟨b,off,sp,cap,c,ro,rfl,hb,hl,hc,hcap⟩
 ·simp at hi
 ·have hlt:i * sz+fo<L.length * sz:=by
   have:=Nat.mul_le_mul_right sz (show i+1≤L.length by omega)
   rw [Nat.succ_mul] at this;omega
  refine ⟨c,ro,hb,?_,?_⟩
  ·simp only [ofs];omega
  ·simp only [ofs]
   rw [← flat_get r.size i fo hi hf,← hc,List.getElem?_take,if_pos hlt,List.getElem?_drop,Nat.add_assoc]
theorem ld (r:Row sz h v L) (i:Int) (fo:Nat) (h1:0≤i) (h2:i<L.length) (hf:fo<sz):ldO h[blk v]? (ofs v+i.toNat * sz+fo) none=some ((L.getD i.toNat []).getD fo undef):=by
 obtain ⟨c,ro,hb,_,hc⟩:=r.at_ i.toNat fo (by omega) hf
 rw [hb,Ps,Ts,hc]
theorem ld0 (r:Row sz h v L) (i:Int) (h1:0≤i) (h2:i<L.length) (hf:0<sz):ldO h[blk v]? (ofs v+i.toNat * sz) none=some ((L.getD i.toNat []).getD 0 undef):=r.ld i 0 h1 h2 hf
theorem getD_mem {L:List (List Value)} {i:Nat} (hi:i<L.length):L.getD i []∈L:=by
 rw [List.getD_eq_getElem?_getD,List.getElem?_eq_getElem hi];exact List.getElem_mem hi
theorem lda (r:Row sz h v L) (i:Int) (h1:0≤i) (h2:i<L.length) (hz:0<sz):ldO h[blk v]? (ofs v+i.toNat * sz) (some sz)=some (.agg (L.getD i.toNat []).toArray):=by
 have hi:i.toNat<L.length:=by omega
 have hlen:(L.getD i.toNat []).length=sz:=r.size _ (getD_mem hi)
 obtain ⟨c,ro,hb,hlt,_⟩:=r.at_ i.toNat (sz - 1) hi (by omega)
 rw [hb,Ps,Xq,if_pos (by omega)]
 congr 3
 apply List.ext_getElem?
 intro j
 by_cases hj:j<sz
 ·obtain ⟨c',ro',hb',_,hc⟩:=r.at_ i.toNat j hi hj
  rw [hb] at hb';cases hb'
  rw [List.getElem?_take,if_pos hj,List.getElem?_drop,hc,List.getD_eq_getElem?_getD (l:=L.getD i.toNat []),List.getElem?_eq_getElem (by omega)];rfl
 ·rw [List.getElem?_eq_none (by simp;omega),List.getElem?_eq_none (by omega)]
theorem ext (r:Row sz h v L) {h':Aa} (hx:∀ (b:Nat) (o:LObj),h[b]? = some o→o≠LObj.dead→h'[b]? = some o):Row sz h' v L :=
 ⟨r.size,r.few,r.is.imp id fun ⟨b,off,sp,cap,c,ro,h1,h2,h3⟩ => ⟨b,off,sp,cap,c,ro,h1,hx _ _ h2 (by intro h;cases h),h3⟩⟩
theorem app (r:Row sz h v L) (l:Aa):Row sz (h++l) v L:=r.ext fun b o hb _ => by
 rw [GL (GI.1 hb).1];exact hb
theorem set (r:Row sz h v L) {b:Nat} {o:LObj} (hb:b≠blk v):Row sz (h.set b o) v L :=
 ⟨r.size,r.few,r.is.imp id fun ⟨b',off,sp,cap,c,ro,h1,h2,h3⟩ => ⟨b',off,sp,cap,c,ro,h1,by rw [Ba (by rw [h1] at hb;exact hb)];exact h2,h3⟩⟩
theorem lt (r:Row sz h v L) (hl:L≠[]):blk v<h.length:=by
 rcases r.is with ⟨_,rfl⟩ | ⟨b,off,sp,cap,c,ro,rfl,hb,_⟩
 ·exact absurd rfl hl
 ·exact (GI.1 hb).1
theorem cells (r:Row sz h v L):cellsOf sz v h=some (L.length,L.flatten):=by
 rcases r.is with ⟨rfl,rfl⟩ | ⟨b,off,sp,cap,c,ro,rfl,hb,hl,hc,hcap⟩
 ·rfl
 ·simp [cellsOf,hb,hl,hc]
end Row
def atI {α : Type} [Inhabited α] (l:List α) (i:Int):α:=l.getD i.toNat default
theorem Z6 {α : Type} [Inhabited α] (enc:α → List Value) (l:List α) (i:Int) (h1:0≤i) (h2:i<l.length):(l.map enc).getD i.toNat []=enc (atI l i):=by
 unfold atI
 rw [List.getD_eq_getElem?_getD,List.getD_eq_getElem?_getD,List.getElem?_map,List.getElem?_eq_getElem (by omega)];rfl
def Rd {α : Type} (sz:Nat) (enc:α → List Value) (h:Aa) (v:Value) (l:List α):Prop:=Row sz h v (l.map enc)
namespace Rd
variable {α : Type} {sz:Nat} {enc:α → List Value} {h:Aa} {v:Value} {l:List α}
theorem few (r:Rd sz enc h v l):l.length<1152921504606846976:=by have:=Row.few r;simpa using this
theorem len (r:Rd sz enc h v l):Pq false v=some (.int .i64 l.length):=by rw [Row.len r];simp
theorem ixs (r:Rd sz enc h v l) (k:IntKind) (i:Int) (h1:0≤i) (h2:i<l.length):Ar4 sz v (.int k i)=some (.pointer (some ⟨blk v,ofs v+i.toNat * sz,none⟩)):=Row.ixs r k i h1 (by simpa using h2)
theorem ld [Inhabited α] (r:Rd sz enc h v l) (i:Int) (fo:Nat) (h1:0≤i) (h2:i<l.length) (hf:fo<sz):ldO h[blk v]? (ofs v+i.toNat * sz+fo) none=some ((enc (atI l i)).getD fo undef):=by
 rw [Row.ld r i fo h1 (by simpa using h2) hf,Z6 _ _ _ h1 h2]
theorem ld0 [Inhabited α] (r:Rd sz enc h v l) (i:Int) (h1:0≤i) (h2:i<l.length) (hf:0<sz):ldO h[blk v]? (ofs v+i.toNat * sz) none=some ((enc (atI l i)).getD 0 undef):=r.ld i 0 h1 h2 hf
theorem lda [Inhabited α] (r:Rd sz enc h v l) (i:Int) (h1:0≤i) (h2:i<l.length) (hf:0<sz):ldO h[blk v]? (ofs v+i.toNat * sz) (some sz)=some (.agg (enc (atI l i)).toArray):=by
 rw [Row.lda r i h1 (by simpa using h2) hf,Z6 _ _ _ h1 h2]
theorem app (r:Rd sz enc h v l) (x:Aa):Rd sz enc (h++x) v l:=Row.app r x
theorem ext (r:Rd sz enc h v l) {h':Aa} (hx:∀ (b:Nat) (o:LObj),h[b]? = some o→o≠LObj.dead→h'[b]? = some o):Rd sz enc h' v l:=Row.ext r hx
theorem set (r:Rd sz enc h v l) {b:Nat} {o:LObj} (hb:b≠blk v):Rd sz enc (h.set b o) v l:=Row.set r hb
end Rd
end Go.L
