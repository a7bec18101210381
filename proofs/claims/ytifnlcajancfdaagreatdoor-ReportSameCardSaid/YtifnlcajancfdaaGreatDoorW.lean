/- THE LOGICAL MACHINE WITHOUT A COUNT OF ROUNDS: what some count comes to. The equations by which it is reckoned. -/
import Derived.Test.YtifnlcajancfdaaGreatDoorComp
namespace Go.L
open Go
def LeO {α : Type} (a b:Option α):Prop:=∀ r,a=some r→b=some r
theorem LeO.refl {α : Type} (a:Option α):LeO a a:=fun _ h => h
theorem LeO.none {α : Type} (b:Option α):LeO none b:=fun _ h => by cases h
def LeC (a b:Be):Prop:=∀ g x h,LeO (a g x h) (b g x h)
def LeF (a b:Fr→Aa→Out):Prop:=∀ fr h,LeO (a fr h) (b fr h)
def LeI (a b:It):Prop:=∀ F G,LeF F G→LeF (a F) (b G)
theorem Aqh {α : Type} {ws:List Nat} {a b:Option (α × Aa × List Nat)} (h:LeO a b):LeO (Rt ws a) (Rt ws b):=by
 intro r hr
 cases a with
 | none => simp [Rt] at hr
 | some x => rw [h x rfl];exact hr
theorem Aag {a b:Out} {k l:Fr→Aa→Out} (h:LeO a b) (hk:LeF k l):LeO (Gl a k) (Gl b l):=by
 intro r hr
 cases a with
 | none => simp [Gl] at hr
 | some x =>
  rw [h x rfl]
  obtain ⟨e,fr,hp,ws⟩:=x
  cases e with
  | normal =>
   simp only [Gl] at hr ⊢
   cases hkk:k fr hp with
   | none => simp [hkk] at hr
   | some y => rw [hk fr hp y hkk];rw [hkk] at hr;exact hr
  | exit id => exact hr
  | ret => exact hr
theorem Tu {F G:Fr→Aa→Out} (h:LeF F G):∀ n m,n≤m→LeF (Io n F) (Io m G):=by
 intro n
 induction n with
 | zero => intro m _ fr hp r hr;simp [Io] at hr
 | succ n ih =>
  intro m hm
  obtain ⟨m,rfl⟩:∃ k,m=k+1:=⟨m - 1,by omega⟩
  intro fr hp
  exact Aag (h fr hp) (ih m (by omega))
theorem Avv {a b:Be} (h:LeC a b) (f:FF) (hp:Aa) (o:O):LeO (opN a f hp o) (opN b f hp o):=by
 unfold opN
 split<;>try exact LeO.refl _
 split<;>first | exact h _ _ _ | exact LeO.refl _
theorem Am7 {a b:Be} (h:LeC a b):∀ (l:List Ins) (f:FF) (hp:Aa),LeO (Fs a l f hp) (Fs b l f hp):=by
 intro l
 induction l with
 | nil => intro f hp;exact LeO.refl _
 | cons x l ih =>
  intro f hp r hr
  simp only [Fs] at hr ⊢
  split at hr
  ·rename_i hw
   split at hr
   ·rename_i v h' ws ho
    rw [Avv h f hp _ _ ho]
    exact Aqh (ih _ _) r hr
   ·cases hr
  ·exact ih _ _ r hr
  ·cases hr
theorem Avw {a b:Be} (h:LeC a b) (m:Nat) (f:FF) (hp:Aa) (x:Ins):LeO (opD a m f hp x) (opD b m f hp x):=by
 unfold opD
 split<;>try exact LeO.refl _
 split
 ·rename_i g args _
  intro r hr
  cases hc:a (ev f g) (args.map (ev f)) hp with
  | none => simp [hc] at hr
  | some y => rw [hc] at hr;rw [h _ _ _ y hc];exact hr
 ·exact LeO.refl _
theorem Am8 {a b:Be} (h:LeC a b) (m:Nat):∀ (l:List Ins) (f:FF) (hp:Aa),LeO (Dt a m l f hp) (Dt b m l f hp):=by
 intro l
 induction l with
 | nil => intro f hp;exact LeO.refl _
 | cons x l ih =>
  intro f hp r hr
  simp only [Dt] at hr ⊢
  split at hr
  ·split at hr
   ·rename_i v h' ws ho
    rw [Avw h m f hp _ _ ho]
    exact Aqh (ih _ _) r hr
   ·cases hr
  ·exact ih _ _ r hr
  ·cases hr
theorem Anc {live:List Nat} {a b:Option (FF × Aa × List Nat)} (h:LeO a b):LeO (Us live a) (Us live b):=by
 intro r hr
 cases a with
 | none => simp [Us] at hr
 | some x => rw [h x rfl];exact hr
theorem Axp {v:Value} {a b c d:Out} (h:LeO a b) (k:LeO c d):LeO (Wp v a c) (Wp v b d):=by
 unfold Wp
 split
 ·split
  ·exact h
  ·exact k
 ·exact LeO.refl _
theorem Al5 {id:Nat} {a b:Out} (h:LeO a b):LeO (inBlock id a) (inBlock id b):=by
 intro r hr
 cases a with
 | none => simp [inBlock] at hr
 | some x => rw [h x rfl];exact hr
theorem Ahw {h0:Aa} {fr:Fr} {a b:Option (Value × Aa × List Nat)} (h:LeO a b):LeO (Ft h0 fr a) (Ft h0 fr b):=by
 intro r hr
 cases a with
 | none => simp [Ft] at hr
 | some x => rw [h x rfl];exact hr
theorem Ar8 {a b:Be} (h:LeC a b):LeC (J1 a) (J1 b):=by
 intro g x hp
 unfold J1
 split
 ·exact h _ _ _
 ·exact LeO.refl _
theorem Ws {a b:Be} {i j:It} (h:LeC a b) (hi:LeI i j) (sz:Nat):∀ c,LeF (code a i sz c) (code b j sz c):=by
 intro c
 induction c with
 | skip => intro fr hp;exact LeO.refl _
 | reg live ins => intro fr hp;exact Anc (Am7 h _ _ _)
 | drw live n ins => intro fr hp;exact Anc (Am8 h _ _ _ _)
 | seq x y hx hy => intro fr hp;exact Aag (hx fr hp) hy
 | cond v x y hx hy => intro fr hp;exact Axp (hx fr hp) (hy fr hp)
 | block id x hx => intro fr hp;exact Al5 (hx fr hp)
 | loop x hx => intro fr hp;exact hi _ _ hx fr hp
 | exit id => intro fr hp;exact LeO.refl _
 | ret => intro fr hp;exact LeO.refl _
 | rng g ps x y _ _ => intro fr hp;exact Ahw (Ar8 h _ _ _)
theorem A37 {res:List R} {h0:Aa} {a b:Out} (h:LeO a b):LeO (fin res h0 a) (fin res h0 b):=by
 intro r hr
 cases a with
 | none => simp [fin] at hr
 | some x => rw [h x rfl];exact hr
theorem A00 {res:List R} {a b:Out} (h:LeO a b):LeO (Zp res a) (Zp res b):=by
 intro r hr
 cases a with
 | none => simp [Zp] at hr
 | some x => rw [h x rfl];exact hr
theorem Axy {a b:Be} {i j:It} (h:LeC a b) (hi:LeI i j) (d:Def) (args:List Value) (hp:Aa):LeO (Fz a i d args hp) (Fz b j d args hp):=by
 cases d with
 | ext e => exact LeO.refl _
 | none => exact LeO.refl _
 | text c =>
  simp only [Fz]
  split
  ·exact A37 (Ws h hi _ _ _ _)
  ·exact LeO.refl _
 | textK c =>
  simp only [Fz]
  split
  ·exact A00 (Ws h hi _ _ _ _)
  ·exact LeO.refl _
theorem Ark {a b:Be} {i j:It} (h:LeC a b) (hi:LeI i j) (l:Nat) (args:List Value) (hp:Aa):LeO (I2 a i l args hp) (I2 b j l args hp):=by
 unfold I2
 split<;>try exact LeO.refl _
 split<;>try exact LeO.refl _
 split<;>try exact LeO.refl _
 split<;>try exact LeO.refl _
 rename_i r _ _ _ _ fr _
 intro s hs
 split at hs
 ·rename_i fr1 h1 ws1 he
  rw [Ws h hi _ _ _ _ _ he]
  simp only []
  split at hs
  ·rename_i e fr2 h2 ws2 he2
   rw [Ws h hi _ _ _ _ _ he2]
   exact hs
  ·cases hs
 ·cases hs
theorem Aj8 (E:Env) {a b:Be} {i j:It} (h:LeC a b) (hi:LeI i j):LeC (J4 E a i) (J4 E b j):=by
 intro g args hp
 unfold J4
 split
 ·exact Axy h hi _ _ _
 ·split
  ·exact Ark h hi _ _ _
  ·exact LeO.refl _
 ·exact LeO.refl _
theorem Aje {n m:Nat} (h:n≤m):LeI (Io n) (Io m):=fun _ _ hF => Tu hF n m h
theorem Acj (E:Env):∀ n,LeC (Dv E n) (Dv E (n+1)):=by
 intro n
 induction n with
 | zero => intro g x h r hr;simp [Dv] at hr
 | succ n ih => exact Aj8 E ih (Aje (Nat.le_succ n))
theorem Sx (E:Env) {n m:Nat} (h:n≤m):LeC (Dv E n) (Dv E m):=by
 induction h with
 | refl => exact fun _ _ _ => LeO.refl _
 | step _ ih => exact fun g x h r hr => Acj E _ g x h r (ih g x h r hr)
open Classical in
noncomputable def lim {α : Type} (a:Nat→Option α):Option α:=if h:∃ r n,a n=some r then some h.choose else none
theorem Ai7 {α : Type} {a:Nat→Option α} (hm:∀ n,LeO (a n) (a (n+1))) {r:α}:lim a=some r↔∃ n,a n=some r:=by
 have up:∀ n m,n≤m→LeO (a n) (a m):=by
  intro n m h
  induction h with
  | refl => exact LeO.refl _
  | step _ ih => exact fun r hr => hm _ r (ih r hr)
 unfold lim
 split
 ·rename_i h
  constructor
  ·intro e;obtain ⟨n,hn⟩:=h.choose_spec;cases e;exact ⟨n,hn⟩
  ·rintro ⟨n,hn⟩
   obtain ⟨m,hm'⟩:=h.choose_spec
   have h1:=up n (max n m) (by omega) r hn
   have h2:=up m (max n m) (by omega) _ hm'
   rw [h1] at h2
   exact h2.symm
 ·rename_i h
  exact ⟨fun e => by (cases e),fun ⟨n,hn⟩ => absurd ⟨r,n,hn⟩ h⟩
noncomputable def callW (E:Env):Be:=fun g args h => lim fun n => Dv E n g args h
noncomputable def iterW:It:=fun F fr h => lim fun n => Io n F fr h
theorem callW_some {E:Env} {g:Value} {args:List Value} {h:Aa} {r:Value × Aa × List Nat}:callW E g args h=some r↔∃ n,Dv E n g args h=some r :=
 Ai7 fun n => Acj E n g args h
theorem iterW_some {F:Fr→Aa→Out} {fr:Fr} {h:Aa} {r:Ex × Fr × Aa × List Nat}:iterW F fr h=some r↔∃ n,Io n F fr h=some r :=
 Ai7 fun n => Tu (fun _ _ => LeO.refl _) n (n+1) (Nat.le_succ n) fr h
theorem Asq (E:Env) (n:Nat):LeC (Dv E n) (callW E):=fun _ _ _ _ hr => callW_some.2 ⟨n,hr⟩
theorem Ajd (n:Nat):LeI (Io n) iterW:=fun F G hF fr h r hr => iterW_some.2 ⟨n,Tu hF n n (Nat.le_refl n) fr h r hr⟩
section
variable (E:Env)
def Cont {α : Type} (x:Option α) (y:Nat→Option α):Prop:=∀ r,x=some r→∃ n,y n=some r
theorem Cont.refl {α : Type} (x:Option α):Cont x fun _ => x:=fun _ h => ⟨0,h⟩
theorem Yb (g:Value) (x:List Value) (h:Aa):Cont (callW E g x h) fun n => Dv E n g x h:=fun _ hr => callW_some.1 hr
theorem Axn (f:FF) (hp:Aa) (o:O):Cont (opN (callW E) f hp o) fun n => opN (Dv E n) f hp o:=by
 unfold opN
 cases cls o<;>try exact Cont.refl _
 cases o<;>first | exact Yb E _ _ _ | exact Cont.refl _
theorem Asn:∀ (l:List Ins) (f:FF) (hp:Aa),Cont (Fs (callW E) l f hp) fun n => Fs (Dv E n) l f hp:=by
 intro l
 induction l with
 | nil => intro f hp;exact Cont.refl _
 | cons x l ih =>
  intro f hp r hr
  simp only [Fs] at hr ⊢
  split at hr
  ·split at hr
   ·rename_i v h' ws ho
    obtain ⟨n,hn⟩:=Axn E f hp x.o _ ho;(try dsimp only at hn)
    cases hrun:Fs (callW E) l (H7 f x.d v) h' with
    | none => simp [hrun,Rt] at hr
    | some y =>
     obtain ⟨m,hm⟩:=ih _ _ _ hrun;(try dsimp only at hm)
     refine ⟨max n m,?_⟩;(try dsimp only)
     rw [Avv (Sx E (Nat.le_max_left n m)) f hp x.o _ hn]
     simp only []
     rw [Am7 (Sx E (Nat.le_max_right n m)) l _ _ _ hm]
     rw [hrun] at hr;exact hr
   ·cases hr
  ·exact ih _ _ r hr
  ·cases hr
theorem Axo (m:Nat) (f:FF) (hp:Aa) (x:Ins):Cont (opD (callW E) m f hp x) fun n => opD (Dv E n) m f hp x:=by
 unfold opD
 cases cls x.o<;>try exact Cont.refl _
 cases ho:x.o<;>try exact Cont.refl _
 rename_i g args
 intro r hr
 simp only [] at hr ⊢
 cases hc:callW E (ev f g) (args.map (ev f)) hp with
 | none => simp [hc] at hr
 | some y =>
  obtain ⟨n,hn⟩:=Yb E _ _ _ _ hc;(try dsimp only at hn)
  exact ⟨n,by (try dsimp only);rw [hn];rw [hc] at hr;exact hr⟩
theorem Aso (m:Nat):∀ (l:List Ins) (f:FF) (hp:Aa),Cont (Dt (callW E) m l f hp) fun n => Dt (Dv E n) m l f hp:=by
 intro l
 induction l with
 | nil => intro f hp;exact Cont.refl _
 | cons x l ih =>
  intro f hp r hr
  simp only [Dt] at hr ⊢
  split at hr
  ·split at hr
   ·rename_i v h' ws ho
    obtain ⟨n,hn⟩:=Axo E m f hp x _ ho;(try dsimp only at hn)
    cases hrun:Dt (callW E) m l (H7 f x.d v) h' with
    | none => simp [hrun,Rt] at hr
    | some y =>
     obtain ⟨k,hk⟩:=ih _ _ _ hrun;(try dsimp only at hk)
     refine ⟨max n k,?_⟩;(try dsimp only)
     rw [Avw (Sx E (Nat.le_max_left n k)) m f hp x _ hn]
     simp only []
     rw [Am8 (Sx E (Nat.le_max_right n k)) m l _ _ _ hk]
     rw [hrun] at hr;exact hr
   ·cases hr
  ·exact ih _ _ r hr
  ·cases hr
theorem Qq (sz:Nat) (c:C) {n m:Nat} (h:n≤m):LeF (code (Dv E n) (Io n) sz c) (code (Dv E m) (Io m) sz c):=Ws (Sx E h) (Aje h) sz c
theorem Vb {x:Out} {k:Fr→Aa→Out} {y:Nat→Out} {l:Nat→Fr→Aa→Out} (h:Cont x y) (hu:∀ n m,n≤m→LeO (y n) (y m))
  (hk:∀ fr hp,Cont (k fr hp) fun n => l n fr hp) (hv:∀ n m,n≤m→LeF (l n) (l m)):Cont (Gl x k) fun n => Gl (y n) (l n):=by
 intro r hr
 cases x with
 | none => simp [Gl] at hr
 | some z =>
  obtain ⟨n,hn⟩:=h z rfl;(try dsimp only at hn)
  obtain ⟨e,fr,hp,ws⟩:=z
  cases e with
  | normal =>
   simp only [Gl] at hr
   cases hkk:k fr hp with
   | none => simp [hkk] at hr
   | some q =>
    obtain ⟨m,hm⟩:=hk fr hp q hkk;(try dsimp only at hm)
    refine ⟨max n m,?_⟩;(try dsimp only)
    rw [hu n (max n m) (by omega) _ hn]
    simp only [Gl]
    rw [hv m (max n m) (by omega) fr hp _ hm]
    rw [hkk] at hr;exact hr
  | exit id => exact ⟨n,by (try dsimp only);rw [hn];exact hr⟩
  | ret => exact ⟨n,by (try dsimp only);rw [hn];exact hr⟩
theorem Tx (sz:Nat):∀ c fr hp,Cont (code (callW E) iterW sz c fr hp) fun n => code (Dv E n) (Io n) sz c fr hp:=by
 intro c
 induction c with
 | skip => intro fr hp;exact Cont.refl _
 | reg live ins =>
  intro fr hp r hr
  simp only [code,Us] at hr ⊢
  cases hx:Fs (callW E) ins (get fr) hp with
  | none => simp [hx] at hr
  | some y => obtain ⟨n,hn⟩:=Asn E _ _ _ _ hx;(try dsimp only at hn);exact ⟨n,by (try dsimp only);rw [hn];rw [hx] at hr;exact hr⟩
 | drw live k ins =>
  intro fr hp r hr
  simp only [code,Us] at hr ⊢
  cases hx:Dt (callW E) hp.length ins (get fr) (room hp k) with
  | none => simp [hx] at hr
  | some y => obtain ⟨n,hn⟩:=Aso E _ _ _ _ _ hx;(try dsimp only at hn);exact ⟨n,by (try dsimp only);rw [hn];rw [hx] at hr;exact hr⟩
 | seq x y hx hy =>
  intro fr hp
  exact Vb (hx fr hp) (fun n m h => Qq E sz x h fr hp) hy (fun n m h => Qq E sz y h)
 | cond v x y hx hy =>
  intro fr hp r hr
  simp only [code,Wp] at hr ⊢
  split at hr
  ·split at hr
   ·obtain ⟨n,hn⟩:=hx _ _ r hr;(try dsimp only at hn);exact ⟨n,by simp [*]⟩
   ·obtain ⟨n,hn⟩:=hy _ _ r hr;(try dsimp only at hn);exact ⟨n,by simp [*]⟩
  ·cases hr
 | block id x hx =>
  intro fr hp r hr
  simp only [code] at hr ⊢
  cases hxx:code (callW E) iterW sz x fr hp with
  | none => simp [hxx,inBlock] at hr
  | some y => obtain ⟨n,hn⟩:=hx _ _ _ hxx;(try dsimp only at hn);exact ⟨n,by (try dsimp only);rw [hn];rw [hxx] at hr;exact hr⟩
 | loop x hx =>
  intro fr hp r hr
  simp only [code] at hr ⊢
  obtain ⟨m,hm⟩:=iterW_some.1 hr
  have key:∀ m fr hp r,Io m (code (callW E) iterW sz x) fr hp=some r→∃ n,Io m (code (Dv E n) (Io n) sz x) fr hp=some r:=by
   intro m
   induction m with
   | zero => intro fr hp r hr;simp [Io] at hr
   | succ m ih =>
    intro fr hp
    exact Vb (hx fr hp) (fun n k h => Qq E sz x h fr hp) (fun fr hp r hr => ih fr hp r hr) (fun n k h => Tu (Qq E sz x h) m m (Nat.le_refl m))
  obtain ⟨n,hn⟩:=key m fr hp r hm;(try dsimp only at hn)
  exact ⟨max n m,Tu (Qq E sz x (Nat.le_max_left n m)) m (max n m) (by omega) fr hp r hn⟩
 | exit id => intro fr hp;exact Cont.refl _
 | ret => intro fr hp;exact Cont.refl _
 | rng g ps x y _ _ =>
  intro fr hp r hr
  simp only [code,Ft] at hr ⊢
  split at hr
  ·rename_i v h' ws hc
   have hc':∃ n,J1 (Dv E n) (ev (get fr) g) [.func (.yield hp.length) #[] #[]] (hp++[.loop { state:=.ready,pending:=none,fr,sz,params:=ps,assign:=x,body:=y }])=some (v,h',ws):=by
    unfold J1 at hc ⊢
    split at hc
    ·obtain ⟨n,hn⟩:=Yb E _ _ _ _ hc;(try dsimp only at hn)
     exact ⟨n,hn⟩
    ·cases hc
   obtain ⟨n,hn⟩:=hc'
   exact ⟨n,by (try dsimp only);rw [hn];exact hr⟩
  ·cases hr
theorem Ami (d:Def) (args:List Value) (hp:Aa):Cont (Fz (callW E) iterW d args hp) fun n => Fz (Dv E n) (Io n) d args hp:=by
 cases d with
 | ext e => exact Cont.refl _
 | none => exact Cont.refl _
 | text c =>
  intro r hr
  simp only [Fz] at hr ⊢
  split at hr
  ·rename_i hle
   cases hx:code (callW E) iterW c.sz c.body (Ak args 0) hp with
   | none => simp [hx,fin] at hr
   | some y => obtain ⟨n,hn⟩:=Tx E _ _ _ _ _ hx;(try dsimp only at hn);exact ⟨n,by simp only [hle,if_true];rw [hn];rw [hx] at hr;exact hr⟩
  ·cases hr
 | textK c =>
  intro r hr
  simp only [Fz] at hr ⊢
  split at hr
  ·rename_i hle
   cases hx:code (callW E) iterW c.sz c.body (Ak args 0) hp with
   | none => simp [hx,Zp] at hr
   | some y => obtain ⟨n,hn⟩:=Tx E _ _ _ _ _ hx;(try dsimp only at hn);exact ⟨n,by simp only [hle,if_true];rw [hn];rw [hx] at hr;exact hr⟩
  ·cases hr
theorem Aj3 (l:Nat) (args:List Value) (hp:Aa):Cont (I2 (callW E) iterW l args hp) fun n => I2 (Dv E n) (Io n) l args hp:=by
 intro r hr
 unfold I2 at hr ⊢
 split at hr<;>try (cases hr;done)
 split at hr<;>try (cases hr;done)
 split at hr<;>try (cases hr;done)
 split at hr<;>try (cases hr;done)
 split at hr<;>try (cases hr;done)
 rename_i r hl _ _ hst hpd hall _ fr hfr _ fr1 h1 ws1 he
 split at hr<;>try (cases hr;done)
 rename_i e fr2 h2 ws2 he2
 rw [hpd] at he2
 obtain ⟨n,hn⟩:=Tx E _ _ _ _ _ he;(try dsimp only at hn)
 obtain ⟨m,hm⟩:=Tx E _ _ _ _ _ he2;(try dsimp only at hm)
 refine ⟨max n m,?_⟩;(try dsimp only)
 simp only [*]
 rw [Qq E _ _ (Nat.le_max_left n m) _ _ _ hn]
 simp only []
 rw [Qq E _ _ (Nat.le_max_right n m) _ _ _ hm]
 exact hr
theorem Nn (g:Value) (args:List Value) (h:Aa):callW E g args h=J4 E (callW E) iterW g args h:=by
 have h1:LeO (callW E g args h) (J4 E (callW E) iterW g args h):=by
  intro r hr
  obtain ⟨n,hn⟩:=callW_some.1 hr
  cases n with
  | zero => simp [Dv] at hn
  | succ n => exact Aj8 E (Asq E n) (Ajd n) g args h r hn
 have h2:LeO (J4 E (callW E) iterW g args h) (callW E g args h):=by
  intro r hr
  have:∃ n,J4 E (Dv E n) (Io n) g args h=some r:=by
   unfold J4 at hr ⊢
   split at hr
   ·exact Ami E _ _ _ r hr
   ·split at hr
    ·rename_i hc
     obtain ⟨n,hn⟩:=Aj3 E _ _ _ r hr;(try dsimp only at hn)
     exact ⟨n,by simp only [hc,if_true];exact hn⟩
    ·cases hr
   ·cases hr
  obtain ⟨n,hn⟩:=this
  exact callW_some.2 ⟨n+1,hn⟩
 cases hc:callW E g args h with
 | some r => exact (h1 r hc).symm
 | none =>
  cases hd:J4 E (callW E) iterW g args h with
  | none => rfl
  | some r => rw [h2 r hd] at hc;cases hc
end
theorem Ajf (F:Fr→Aa→Out) (fr:Fr) (h:Aa):iterW F fr h=Gl (F fr h) (iterW F):=by
 have h1:LeO (iterW F fr h) (Gl (F fr h) (iterW F)):=by
  intro r hr
  obtain ⟨n,hn⟩:=iterW_some.1 hr
  cases n with
  | zero => simp [Io] at hn
  | succ n => exact Aag (LeO.refl _) (fun fr h => Ajd n F F (fun _ _ => LeO.refl _) fr h) r hn
 have h2:LeO (Gl (F fr h) (iterW F)) (iterW F fr h):=by
  intro r hr
  obtain ⟨n,hn⟩:=Vb (x:=F fr h) (y:=fun _ => F fr h) (l:=fun n => Io n F) (Cont.refl _) (fun _ _ _ => LeO.refl _)
   (fun fr hp r hr => iterW_some.1 hr) (fun n m h => Tu (fun _ _ => LeO.refl _) n m h) r hr
  exact iterW_some.2 ⟨n+1,hn⟩
 cases hc:iterW F fr h with
 | some r => exact (h1 r hc).symm
 | none =>
  cases hd:Gl (F fr h) (iterW F) with
  | none => rfl
  | some r => rw [h2 r hd] at hc;cases hc
end Go.L
