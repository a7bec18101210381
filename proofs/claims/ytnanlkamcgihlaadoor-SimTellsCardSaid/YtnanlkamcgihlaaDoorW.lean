/- THE LOGICAL MACHINE WITHOUT A COUNT OF ROUNDS: what some count comes to. The equations by which it is reckoned. -/
import Derived.Test.YtnanlkamcgihlaaDoorComp
namespace Go.L
open Go
def LeO {α : Type} (a b:Option α):Prop:=∀ r,a = some r → b = some r
theorem LeO.refl {α : Type} (a:Option α):LeO a a:=fun _ h => h
theorem LeO.none {α : Type} (b:Option α):LeO none b:=fun _ h => by cases h
def LeC (a b:A0):Prop:=∀ g x h,LeO (a g x h) (b g x h)
def LeF (a b:Fr → Aa → Out):Prop:=∀ fr h,LeO (a fr h) (b fr h)
def LeI (a b:It):Prop:=∀ F G,LeF F G → LeF (a F) (b G)
theorem Aov {α : Type} {ws:List Nat} {a b:Option (α × Aa × List Nat)} (h:LeO a b):LeO (addw ws a) (addw ws b):=by
 intro r c
 cases a with
 | none => simp [addw] at c
 | some x => rw [h x rfl];exact c
theorem Y3 {a b:Out} {k l:Fr → Aa → Out} (h:LeO a b) (hk:LeF k l):LeO (Ew a k) (Ew b l):=by
 intro r c
 cases a with
 | none => simp [Ew] at c
 | some x =>
  rw [h x rfl]
  obtain ⟨e,fr,d,f⟩:=x
  cases e with
  | normal =>
   simp only [Ew] at c ⊢
   cases hkk:k fr d with
   | none => simp [hkk] at c
   | some y => rw [hk fr d y hkk];rw [hkk] at c;exact c
  | exit id => exact c
  | ret => exact c
theorem S6 {F G:Fr → Aa → Out} (h:LeF F G):∀ n m,n ≤ m → LeF (Gt n F) (Gt m G):=by
 intro n
 induction n with
 | zero => intro m _ fr a r c;simp [Gt] at c
 | succ n ih =>
  intro m d
  obtain ⟨m,rfl⟩:∃ k,m = k + 1:=⟨m - 1,by omega⟩
  intro fr a
  exact Y3 (h fr a) (ih m (by omega))
theorem Atz {a b:A0} (h:LeC a b) (f:FF) (hp:Aa) (o:O):LeO (opN a f hp o) (opN b f hp o):=by
 unfold opN
 split <;> try exact LeO.refl _
 split <;> first | exact h _ _ _ | exact LeO.refl _
theorem Alo {a b:A0} (h:LeC a b):∀ (l:List Ins) (f:FF) (hp:Aa),LeO (Ey a l f hp) (Ey b l f hp):=by
 intro l
 induction l with
 | nil => intro f hp;exact LeO.refl _
 | cons x l ih =>
  intro f hp r c
  simp only [Ey] at c ⊢
  split at c
  ·rename_i g
   split at c
   ·rename_i v h' e d
    rw [Atz h f hp _ _ d]
    exact Aov (ih _ _) r c
   ·cases c
  ·exact ih _ _ r c
  ·cases c
theorem At1 {a b:A0} (h:LeC a b) (m:Nat) (f:FF) (hp:Aa) (x:Ins):LeO (opD a m f hp x) (opD b m f hp x):=by
 unfold opD
 split <;> try exact LeO.refl _
 split
 ·rename_i g c _
  intro r d
  cases hc:a (ev f g) (c.map (ev f)) hp with
  | none => simp [hc] at d
  | some y => rw [hc] at d;rw [h _ _ _ y hc];exact d
 ·exact LeO.refl _
theorem Alp {a b:A0} (h:LeC a b) (m:Nat):∀ (l:List Ins) (f:FF) (hp:Aa),LeO (Dh a m l f hp) (Dh b m l f hp):=by
 intro l
 induction l with
 | nil => intro f hp;exact LeO.refl _
 | cons x l ih =>
  intro f hp r c
  simp only [Dh] at c ⊢
  split at c
  ·split at c
   ·rename_i v h' e d
    rw [At1 h m f hp _ _ d]
    exact Aov (ih _ _) r c
   ·cases c
  ·exact ih _ _ r c
  ·cases c
theorem Alt {live:List Nat} {a b:Option (FF × Aa × List Nat)} (h:LeO a b):LeO (Qy live a) (Qy live b):=by
 intro r c
 cases a with
 | none => simp [Qy] at c
 | some x => rw [h x rfl];exact c
theorem Avh {v:Value} {a b c d:Out} (h:LeO a b) (k:LeO c d):LeO (Tv v a c) (Tv v b d):=by
 unfold Tv
 split
 ·split
  ·exact h
  ·exact k
 ·exact LeO.refl _
theorem Akp {id:Nat} {a b:Out} (h:LeO a b):LeO (inBlock id a) (inBlock id b):=by
 intro r c
 cases a with
 | none => simp [inBlock] at c
 | some x => rw [h x rfl];exact c
theorem Age {h0:Aa} {fr:Fr} {a b:Option (Value × Aa × List Nat)} (h:LeO a b):LeO (Ez h0 fr a) (Ez h0 fr b):=by
 intro r c
 cases a with
 | none => simp [Ez] at c
 | some x => rw [h x rfl];exact c
theorem Aqf {a b:A0} (h:LeC a b):LeC (Ie a) (Ie b):=by
 intro g x c
 unfold Ie
 split
 ·exact h _ _ _
 ·exact LeO.refl _
theorem V1 {a b:A0} {i j:It} (h:LeC a b) (hi:LeI i j) (sz:Nat):∀ c,LeF (code a i sz c) (code b j sz c):=by
 intro c
 induction c with
 | skip => intro fr d;exact LeO.refl _
 | reg live ins => intro fr d;exact Alt (Alo h _ _ _)
 | drw live n ins => intro fr d;exact Alt (Alp h _ _ _ _)
 | seq x y hx hy => intro fr d;exact Y3 (hx fr d) hy
 | cond v x y hx hy => intro fr d;exact Avh (hx fr d) (hy fr d)
 | block id x hx => intro fr d;exact Akp (hx fr d)
 | loop x hx => intro fr d;exact hi _ _ hx fr d
 | exit id => intro fr d;exact LeO.refl _
 | ret => intro fr d;exact LeO.refl _
 | rng g ps x y _ _ => intro fr d;exact Age (Aqf h _ _ _)
theorem A0w {res:List R} {h0:Aa} {a b:Out} (h:LeO a b):LeO (fin res h0 a) (fin res h0 b):=by
 intro r c
 cases a with
 | none => simp [fin] at c
 | some x => rw [h x rfl];exact c
theorem Ax0 {res:List R} {a b:Out} (h:LeO a b):LeO (Sb res a) (Sb res b):=by
 intro r c
 cases a with
 | none => simp [Sb] at c
 | some x => rw [h x rfl];exact c
theorem Avq {a b:A0} {i j:It} (h:LeC a b) (hi:LeI i j) (d:Def) (args:List Value) (hp:Aa):LeO (Eo a i d args hp) (Eo b j d args hp):=by
 cases d with
 | ext e => exact LeO.refl _
 | none => exact LeO.refl _
 | text c =>
  simp only [Eo]
  split
  ·exact A0w (V1 h hi _ _ _ _)
  ·exact LeO.refl _
 | textK c =>
  simp only [Eo]
  split
  ·exact Ax0 (V1 h hi _ _ _ _)
  ·exact LeO.refl _
theorem Apv {a b:A0} {i j:It} (h:LeC a b) (hi:LeI i j) (l:Nat) (args:List Value) (hp:Aa):LeO (F8 a i l args hp) (F8 b j l args hp):=by
 unfold F8
 split <;> try exact LeO.refl _
 split <;> try exact LeO.refl _
 split <;> try exact LeO.refl _
 split <;> try exact LeO.refl _
 rename_i r _ _ _ _ fr _
 intro s c
 split at c
 ·rename_i m p f g
  rw [V1 h hi _ _ _ _ _ g]
  simp only []
  split at c
  ·rename_i e n h2 o d
   rw [V1 h hi _ _ _ _ _ d]
   exact c
  ·cases c
 ·cases c
theorem Aiz (E:Env) {a b:A0} {i j:It} (h:LeC a b) (hi:LeI i j):LeC (I9 E a i) (I9 E b j):=by
 intro g c d
 unfold I9
 split
 ·exact Avq h hi _ _ _
 ·split
  ·exact Apv h hi _ _ _
  ·exact LeO.refl _
 ·exact LeO.refl _
theorem Ah0 {n m:Nat} (h:n ≤ m):LeI (Gt n) (Gt m):=fun _ _ hF => S6 hF n m h
theorem Aa7 (E:Env):∀ n,LeC (C3 E n) (C3 E (n + 1)):=by
 intro n
 induction n with
 | zero => intro g x h r a;simp [C3] at a
 | succ n ih => exact Aiz E ih (Ah0 (Nat.le_succ n))
theorem Sf (E:Env) {n m:Nat} (h:n ≤ m):LeC (C3 E n) (C3 E m):=by
 induction h with
 | refl => exact fun _ _ _ => LeO.refl _
 | step _ ih => exact fun g x h r a => Aa7 E _ g x h r (ih g x h r a)
open Classical in
noncomputable def lim {α : Type} (a:Nat → Option α):Option α:=if h:∃ r n,a n = some r then some h.choose else none
theorem Ahr {α : Type} {a:Nat → Option α} (hm:∀ n,LeO (a n) (a (n + 1))) {r:α}:lim a = some r ↔ ∃ n,a n = some r:=by
 have up:∀ n m,n ≤ m → LeO (a n) (a m):=by
  intro n m h
  induction h with
  | refl => exact LeO.refl _
  | step _ ih => exact fun r g => hm _ r (ih r g)
 unfold lim
 split
 ·rename_i h
  constructor
  ·intro e;obtain ⟨n,c⟩:=h.choose_spec;cases e;exact ⟨n,c⟩
  ·rintro ⟨n,c⟩
   obtain ⟨m,d⟩:=h.choose_spec
   have f:=up n (max n m) (by omega) r c
   have h2:=up m (max n m) (by omega) _ d
   rw [f] at h2
   exact h2.symm
 ·rename_i h
  exact ⟨fun e => by (cases e),fun ⟨n,c⟩ => absurd ⟨r,n,c⟩ h⟩
noncomputable def callW (E:Env):A0:=fun g args h => lim fun n => C3 E n g args h
noncomputable def iterW:It:=fun F fr h => lim fun n => Gt n F fr h
theorem callW_some {E:Env} {g:Value} {args:List Value} {h:Aa} {r:Value × Aa × List Nat}:callW E g args h = some r ↔ ∃ n,C3 E n g args h = some r :=
 Ahr fun n => Aa7 E n g args h
theorem iterW_some {F:Fr → Aa → Out} {fr:Fr} {h:Aa} {r:Ex × Fr × Aa × List Nat}:iterW F fr h = some r ↔ ∃ n,Gt n F fr h = some r :=
 Ahr fun n => S6 (fun _ _ => LeO.refl _) n (n + 1) (Nat.le_succ n) fr h
theorem Aqx (E:Env) (n:Nat):LeC (C3 E n) (callW E):=fun _ _ _ _ hr => callW_some.2 ⟨n,hr⟩
theorem Ahz (n:Nat):LeI (Gt n) iterW:=fun F G hF fr h r hr => iterW_some.2 ⟨n,S6 hF n n (Nat.le_refl n) fr h r hr⟩
section
variable (E:Env)
def Cont {α : Type} (x:Option α) (y:Nat → Option α):Prop:=∀ r,x = some r → ∃ n,y n = some r
theorem Cont.refl {α : Type} (x:Option α):Cont x fun _ => x:=fun _ h => ⟨0,h⟩
theorem Xg (g:Value) (x:List Value) (h:Aa):Cont (callW E g x h) fun n => C3 E n g x h:=fun _ hr => callW_some.1 hr
theorem Avf (f:FF) (hp:Aa) (o:O):Cont (opN (callW E) f hp o) fun n => opN (C3 E n) f hp o:=by
 unfold opN
 cases cls o <;> try exact Cont.refl _
 cases o <;> first | exact Xg E _ _ _ | exact Cont.refl _
theorem Aqu:∀ (l:List Ins) (f:FF) (hp:Aa),Cont (Ey (callW E) l f hp) fun n => Ey (C3 E n) l f hp:=by
 intro l
 induction l with
 | nil => intro f hp;exact Cont.refl _
 | cons x l ih =>
  intro f hp r a
  simp only [Ey] at a ⊢
  split at a
  ·split at a
   ·rename_i v h' j g
    obtain ⟨n,c⟩:=Avf E f hp x.o _ g;(try dsimp only at c)
    cases hrun:Ey (callW E) l (G9 f x.d v) h' with
    | none => simp [hrun,addw] at a
    | some y =>
     obtain ⟨m,e⟩:=ih _ _ _ hrun;(try dsimp only at e)
     refine ⟨max n m,?_⟩;(try dsimp only)
     rw [Atz (Sf E (Nat.le_max_left n m)) f hp x.o _ c]
     simp only []
     rw [Alo (Sf E (Nat.le_max_right n m)) l _ _ _ e]
     rw [hrun] at a;exact a
   ·cases a
  ·exact ih _ _ r a
  ·cases a
theorem Avg (m:Nat) (f:FF) (hp:Aa) (x:Ins):Cont (opD (callW E) m f hp x) fun n => opD (C3 E n) m f hp x:=by
 unfold opD
 cases cls x.o <;> try exact Cont.refl _
 cases ho:x.o <;> try exact Cont.refl _
 rename_i g a
 intro r c
 simp only [] at c ⊢
 cases hc:callW E (ev f g) (a.map (ev f)) hp with
 | none => simp [hc] at c
 | some y =>
  obtain ⟨n,d⟩:=Xg E _ _ _ _ hc;(try dsimp only at d)
  exact ⟨n,by (try dsimp only);rw [d];rw [hc] at c;exact c⟩
theorem Aqv (m:Nat):∀ (l:List Ins) (f:FF) (hp:Aa),Cont (Dh (callW E) m l f hp) fun n => Dh (C3 E n) m l f hp:=by
 intro l
 induction l with
 | nil => intro f hp;exact Cont.refl _
 | cons x l ih =>
  intro f hp r a
  simp only [Dh] at a ⊢
  split at a
  ·split at a
   ·rename_i v h' j g
    obtain ⟨n,c⟩:=Avg E m f hp x _ g;(try dsimp only at c)
    cases hrun:Dh (callW E) m l (G9 f x.d v) h' with
    | none => simp [hrun,addw] at a
    | some y =>
     obtain ⟨k,e⟩:=ih _ _ _ hrun;(try dsimp only at e)
     refine ⟨max n k,?_⟩;(try dsimp only)
     rw [At1 (Sf E (Nat.le_max_left n k)) m f hp x _ c]
     simp only []
     rw [Alp (Sf E (Nat.le_max_right n k)) m l _ _ _ e]
     rw [hrun] at a;exact a
   ·cases a
  ·exact ih _ _ r a
  ·cases a
theorem P8 (sz:Nat) (c:C) {n m:Nat} (h:n ≤ m):LeF (code (C3 E n) (Gt n) sz c) (code (C3 E m) (Gt m) sz c):=V1 (Sf E h) (Ah0 h) sz c
theorem Um {x:Out} {k:Fr → Aa → Out} {y:Nat → Out} {l:Nat → Fr → Aa → Out} (h:Cont x y) (hu:∀ n m,n ≤ m → LeO (y n) (y m))
  (hk:∀ fr hp,Cont (k fr hp) fun n => l n fr hp) (hv:∀ n m,n ≤ m → LeF (l n) (l m)):Cont (Ew x k) fun n => Ew (y n) (l n):=by
 intro r a
 cases x with
 | none => simp [Ew] at a
 | some z =>
  obtain ⟨n,c⟩:=h z rfl;(try dsimp only at c)
  obtain ⟨e,fr,hp,f⟩:=z
  cases e with
  | normal =>
   simp only [Ew] at a
   cases hkk:k fr hp with
   | none => simp [hkk] at a
   | some q =>
    obtain ⟨m,d⟩:=hk fr hp q hkk;(try dsimp only at d)
    refine ⟨max n m,?_⟩;(try dsimp only)
    rw [hu n (max n m) (by omega) _ c]
    simp only [Ew]
    rw [hv m (max n m) (by omega) fr hp _ d]
    rw [hkk] at a;exact a
  | exit id => exact ⟨n,by (try dsimp only);rw [c];exact a⟩
  | ret => exact ⟨n,by (try dsimp only);rw [c];exact a⟩
theorem Ta (sz:Nat):∀ c fr hp,Cont (code (callW E) iterW sz c fr hp) fun n => code (C3 E n) (Gt n) sz c fr hp:=by
 intro c
 induction c with
 | skip => intro fr hp;exact Cont.refl _
 | reg live ins =>
  intro fr hp r a
  simp only [code,Qy] at a ⊢
  cases hx:Ey (callW E) ins (get fr) hp with
  | none => simp [hx] at a
  | some y => obtain ⟨n,d⟩:=Aqu E _ _ _ _ hx;(try dsimp only at d);exact ⟨n,by (try dsimp only);rw [d];rw [hx] at a;exact a⟩
 | drw live k ins =>
  intro fr hp r a
  simp only [code,Qy] at a ⊢
  cases hx:Dh (callW E) hp.length ins (get fr) (room hp k) with
  | none => simp [hx] at a
  | some y => obtain ⟨n,d⟩:=Aqv E _ _ _ _ _ hx;(try dsimp only at d);exact ⟨n,by (try dsimp only);rw [d];rw [hx] at a;exact a⟩
 | seq x y hx hy =>
  intro fr hp
  exact Um (hx fr hp) (fun n m h => P8 E sz x h fr hp) hy (fun n m h => P8 E sz y h)
 | cond v x y hx hy =>
  intro fr hp r a
  simp only [code,Tv] at a ⊢
  split at a
  ·split at a
   ·obtain ⟨n,d⟩:=hx _ _ r a;(try dsimp only at d);exact ⟨n,by simp [*]⟩
   ·obtain ⟨n,d⟩:=hy _ _ r a;(try dsimp only at d);exact ⟨n,by simp [*]⟩
  ·cases a
 | block id x hx =>
  intro fr hp r a
  simp only [code] at a ⊢
  cases hxx:code (callW E) iterW sz x fr hp with
  | none => simp [hxx,inBlock] at a
  | some y => obtain ⟨n,d⟩:=hx _ _ _ hxx;(try dsimp only at d);exact ⟨n,by (try dsimp only);rw [d];rw [hxx] at a;exact a⟩
 | loop x hx =>
  intro fr hp r a
  simp only [code] at a ⊢
  obtain ⟨m,o⟩:=iterW_some.1 a
  have f:∀ m fr hp r,Gt m (code (callW E) iterW sz x) fr hp = some r → ∃ n,Gt m (code (C3 E n) (Gt n) sz x) fr hp = some r:=by
   intro m
   induction m with
   | zero => intro fr hp r a;simp [Gt] at a
   | succ m ih =>
    intro fr hp
    exact Um (hx fr hp) (fun n k h => P8 E sz x h fr hp) (fun fr hp r a => ih fr hp r a) (fun n k h => S6 (P8 E sz x h) m m (Nat.le_refl m))
  obtain ⟨n,d⟩:=f m fr hp r o;(try dsimp only at d)
  exact ⟨max n m,S6 (P8 E sz x (Nat.le_max_left n m)) m (max n m) (by omega) fr hp r d⟩
 | exit id => intro fr hp;exact Cont.refl _
 | ret => intro fr hp;exact Cont.refl _
 | rng g ps x y _ _ =>
  intro fr hp r a
  simp only [code,Ez] at a ⊢
  split at a
  ·rename_i v h' l e
   have j:∃ n,Ie (C3 E n) (ev (get fr) g) [.func (.yield hp.length) #[] #[]] (hp ++ [.loop { state:=.ready,pending:=none,fr,sz,params:=ps,assign:=x,body:=y }]) = some (v,h',l):=by
    unfold Ie at e ⊢
    split at e
    ·obtain ⟨n,d⟩:=Xg E _ _ _ _ e;(try dsimp only at d)
     exact ⟨n,d⟩
    ·cases e
   obtain ⟨n,d⟩:=j
   exact ⟨n,by (try dsimp only);rw [d];exact a⟩
  ·cases a
theorem Ak0 (d:Def) (args:List Value) (hp:Aa):Cont (Eo (callW E) iterW d args hp) fun n => Eo (C3 E n) (Gt n) d args hp:=by
 cases d with
 | ext e => exact Cont.refl _
 | none => exact Cont.refl _
 | text c =>
  intro r a
  simp only [Eo] at a ⊢
  split at a
  ·rename_i f
   cases hx:code (callW E) iterW c.sz c.body (Ai args 0) hp with
   | none => simp [hx,fin] at a
   | some y => obtain ⟨n,g⟩:=Ta E _ _ _ _ _ hx;(try dsimp only at g);exact ⟨n,by simp only [f,if_true];rw [g];rw [hx] at a;exact a⟩
  ·cases a
 | textK c =>
  intro r a
  simp only [Eo] at a ⊢
  split at a
  ·rename_i f
   cases hx:code (callW E) iterW c.sz c.body (Ai args 0) hp with
   | none => simp [hx,Sb] at a
   | some y => obtain ⟨n,g⟩:=Ta E _ _ _ _ _ hx;(try dsimp only at g);exact ⟨n,by simp only [f,if_true];rw [g];rw [hx] at a;exact a⟩
  ·cases a
theorem Air (l:Nat) (args:List Value) (hp:Aa):Cont (F8 (callW E) iterW l args hp) fun n => F8 (C3 E n) (Gt n) l args hp:=by
 intro r a
 unfold F8 at a ⊢
 split at a <;> try (cases a;done)
 split at a <;> try (cases a;done)
 split at a <;> try (cases a;done)
 split at a <;> try (cases a;done)
 split at a <;> try (cases a;done)
 rename_i r z _ _ t d j _ fr v _ s y o p
 split at a <;> try (cases a;done)
 rename_i e u h2 x c
 rw [d] at c
 obtain ⟨n,f⟩:=Ta E _ _ _ _ _ p;(try dsimp only at f)
 obtain ⟨m,g⟩:=Ta E _ _ _ _ _ c;(try dsimp only at g)
 refine ⟨max n m,?_⟩;(try dsimp only)
 simp only [*]
 rw [P8 E _ _ (Nat.le_max_left n m) _ _ _ f]
 simp only []
 rw [P8 E _ _ (Nat.le_max_right n m) _ _ _ g]
 exact a
theorem M4 (g:Value) (args:List Value) (h:Aa):callW E g args h = I9 E (callW E) iterW g args h:=by
 have e:LeO (callW E g args h) (I9 E (callW E) iterW g args h):=by
  intro r a
  obtain ⟨n,c⟩:=callW_some.1 a
  cases n with
  | zero => simp [C3] at c
  | succ n => exact Aiz E (Aqx E n) (Ahz n) g args h r c
 have h2:LeO (I9 E (callW E) iterW g args h) (callW E g args h):=by
  intro r a
  have:∃ n,I9 E (C3 E n) (Gt n) g args h = some r:=by
   unfold I9 at a ⊢
   split at a
   ·exact Ak0 E _ _ _ r a
   ·split at a
    ·rename_i d
     obtain ⟨n,c⟩:=Air E _ _ _ r a;(try dsimp only at c)
     exact ⟨n,by simp only [d,if_true];exact c⟩
    ·cases a
   ·cases a
  obtain ⟨n,c⟩:=this
  exact callW_some.2 ⟨n + 1,c⟩
 cases d:callW E g args h with
 | some r => exact (e r d).symm
 | none =>
  cases hd:I9 E (callW E) iterW g args h with
  | none => rfl
  | some r => rw [h2 r hd] at d;cases d
end
theorem Ah1 (F:Fr → Aa → Out) (fr:Fr) (h:Aa):iterW F fr h = Ew (F fr h) (iterW F):=by
 have d:LeO (iterW F fr h) (Ew (F fr h) (iterW F)):=by
  intro r a
  obtain ⟨n,c⟩:=iterW_some.1 a
  cases n with
  | zero => simp [Gt] at c
  | succ n => exact Y3 (LeO.refl _) (fun fr h => Ahz n F F (fun _ _ => LeO.refl _) fr h) r c
 have h2:LeO (Ew (F fr h) (iterW F)) (iterW F fr h):=by
  intro r a
  obtain ⟨n,c⟩:=Um (x:=F fr h) (y:=fun _ => F fr h) (l:=fun n => Gt n F) (Cont.refl _) (fun _ _ _ => LeO.refl _)
   (fun fr e r a => iterW_some.1 a) (fun n m h => S6 (fun _ _ => LeO.refl _) n m h) r a
  exact iterW_some.2 ⟨n + 1,c⟩
 cases hc:iterW F fr h with
 | some r => exact (d r hc).symm
 | none =>
  cases hd:Ew (F fr h) (iterW F) with
  | none => rfl
  | some r => rw [h2 r hd] at hc;cases hc
end Go.L
