/- THE LOGICAL MACHINE AND THE MODEL: blocks that are taken away. -/
import Derived.Test.YtifnlcajancfdaaGreatDoorSf
import Derived.Scope
set_option linter.unusedVariables false
set_option linter.unusedSimpArgs false
namespace Go.L
open Go
variable {P:Program} {ι ι1 ι2:Inj} {h:Aa} {w:World}
section
variable {r:Value}
theorem VR.func_inv {f:FuncId} {a b:List Value} (h:VR ι (.func (.func f) a.toArray b.toArray) r):∃ a' b':List Value,r = .func (.func f) a'.toArray b'.toArray∧VRs ι a a'∧VRs ι b b':=by
 generalize hv:(Value.func (.func f) a.toArray b.toArray)=v at h
 cases h with
 | func f ha hb => cases hv;exact ⟨_,_,rfl,ha,hb⟩
 | _ => cases hv
theorem VR.yield_inv {l:Nat} {a b:List Value} (h:VR ι (.func (.yield l) a.toArray b.toArray) r):∃ (m:Img) (a' b':List Value),ι l=some m∧r = .func (.yield m.rb) a'.toArray b'.toArray∧VRs ι a a'∧VRs ι b b':=by
 generalize hv:(Value.func (.yield l) a.toArray b.toArray)=v at h
 cases h with
 | yield hl ha hb => cases hv;exact ⟨_,_,_,hl,rfl,ha,hb⟩
 | _ => cases hv
theorem VR.iface_inv {t:TypeId} {v:Value} (h:VR ι (.iface t v) r):∃ v',r = .iface t v'∧VR ι v v':=by
 cases h with | iface t h => exact ⟨_,rfl,h⟩
theorem VR.aggl_inv {a:List Value} (h:VR ι (.agg a.toArray) r):∃ a':List Value,r = .agg a'.toArray∧VRs ι a a':=by
 generalize hv:(Value.agg a.toArray)=v at h
 cases h with
 | agg h => cases hv;exact ⟨_,rfl,h⟩
 | _ => cases hv
theorem VR.tuplel_inv {a:List Value} (h:VR ι (.tuple a.toArray) r):(Value.tuple a.toArray=Ks)∨∃ a':List Value,r = .tuple a'.toArray∧VRs ι a a':=by
 generalize hv:(Value.tuple a.toArray)=v at h
 cases h with
 | any r => exact .inl rfl
 | tuple h => cases hv;exact .inr ⟨_,rfl,h⟩
 | _ => cases hv
end
theorem VR.under {ι ι':Inj} (hs:Sub ι ι') {v r:Value} (h:VR ι v r):∀ r1,VR ι' v r1→VR ι v r1:=by
 induction h using VR.rec (motive_2:=fun l m _ => ∀ m1,All2 (VR ι') l m1→All2 (VR ι) l m1) with
 | any r => intro r1 _;exact .any _
 | bool b => intro r1 k;rw [k.bool_inv];exact .bool _
 | int k n => intro r1 k;rw [k.int_inv];exact .int _ _
 | float k n => intro r1 k;cases k;exact .float _ _
 | complex k a b => intro r1 k;cases k;exact .complex _ _ _
 | string s => intro r1 k;rw [k.string_inv];exact .string _
 | nilp => intro r1 k;cases k;exact .nilp
 | ptr off h =>
  intro r1 k
  cases k with
  | ptr off h' => rw [hs _ _ h] at h';cases h';exact .ptr off h
 | nils n c => intro r1 k;cases k;exact .nils _ _
 | slice off n c h =>
  intro r1 k
  cases k with
  | slice off n c h' => rw [hs _ _ h] at h';cases h';exact .slice off n c h
  | slice0 off a h' => exact .slice0 off a h
 | slice0 off a h =>
  intro r1 k
  cases k with
  | slice off n c h' => rw [hs _ _ h] at h';cases h';exact .slice off _ _ h
  | slice0 off a h' => exact .slice0 off _ h
 | loose off s n c h hn hc =>
  intro r1 k
  cases k with
  | loose off s n c h' hn hc => rw [hs _ _ h] at h';cases h';exact .loose off s _ _ h hn hc
  | loose0 off s a h' => exact .loose0 off s _ h
 | loose0 off s a h =>
  intro r1 k
  cases k with
  | loose off s n c h' hn hc => rw [hs _ _ h] at h';cases h';exact .loose off s _ _ h hn hc
  | loose0 off s a h' => exact .loose0 off s _ h
 | nilm => intro r1 k;cases k;exact .nilm
 | map h =>
  intro r1 k
  cases k with
  | map h' => rw [hs _ _ h] at h';cases h';exact .map h
 | func f _ _ ha hb =>
  intro r1 k
  obtain ⟨a',b',rfl,h1,h2⟩:=k.func_inv
  exact .func f (ha _ h1) (hb _ h2)
 | yield h _ _ ha hb =>
  intro r1 k
  obtain ⟨m,a',b',hl,rfl,h1,h2⟩:=k.yield_inv
  rw [hs _ _ h] at hl;cases hl
  exact .yield h (ha _ h1) (hb _ h2)
 | nilf => intro r1 k;cases k;exact .nilf
 | nili => intro r1 k;cases k;exact .nili
 | iface t _ ih =>
  intro r1 k
  obtain ⟨v',rfl,h1⟩:=k.iface_inv
  exact .iface t (ih _ h1)
 | agg _ ih =>
  intro r1 k
  obtain ⟨a',rfl,h1⟩:=k.aggl_inv
  exact .agg (ih _ h1)
 | tuple _ ih =>
  intro r1 k
  rcases k.tuplel_inv with e | ⟨a',rfl,h1⟩
  ·rw [e];exact .any _
  ·exact .tuple (ih _ h1)
 | nil => rename_i k;cases k;exact .nil
 | cons _ _ h1 h2 => rename_i k;cases k with | cons k1 k2 => exact .cons (h1 _ k1) (h2 _ k2)
theorem VR.low {ι ι':Inj} {m:Nat} (ho:∀ b,b<m → ι' b = ι b):∀ (d:Nat) {v r:Value},Ae m d v=true→VR ι' v r→VR ι v r:=by
 intro d
 induction d with
 | zero => intro v r h;simp [Ae] at h
 | succ d ih =>
  have all:∀ {l m1:List Value},l.all (Ae m d)=true→VRs ι' l m1→VRs ι l m1:=by
   intro l m1 hl h
   induction h with
   | nil => exact .nil
   | cons h1 _ ih2 => simp only [List.all_cons,Bool.and_eq_true] at hl;exact .cons (ih hl.1 h1) (ih2 hl.2)
  intro v r hn h
  cases h with
  | any r => exact .any _
  | bool b => exact .bool _
  | int k n => exact .int _ _
  | float k n => exact .float _ _
  | complex k a b => exact .complex _ _ _
  | string s => exact .string _
  | nilp => exact .nilp
  | ptr off h => simp only [Ae,decide_eq_true_eq] at hn;exact .ptr off (ho _ hn ▸ h)
  | nils n c => exact .nils _ _
  | slice off n c h => simp only [Ae,decide_eq_true_eq] at hn;exact .slice off _ _ (ho _ hn ▸ h)
  | slice0 off a h => simp only [Ae,decide_eq_true_eq] at hn;exact .slice0 off _ (ho _ hn ▸ h)
  | loose off s n c h h1 h2 => simp only [Ae,decide_eq_true_eq] at hn;exact .loose off s _ _ (ho _ hn ▸ h) h1 h2
  | loose0 off s a h => simp only [Ae,decide_eq_true_eq] at hn;exact .loose0 off s _ (ho _ hn ▸ h)
  | nilm => exact .nilm
  | map h => simp only [Ae,decide_eq_true_eq] at hn;exact .map (ho _ hn ▸ h)
  | func f ha hb => simp only [Ae,Bool.true_and,Bool.and_eq_true] at hn;exact .func f (all hn.1 ha) (all hn.2 hb)
  | yield h ha hb => simp only [Ae,Bool.and_eq_true,decide_eq_true_eq] at hn;exact .yield (ho _ hn.1.1 ▸ h) (all hn.1.2 ha) (all hn.2 hb)
  | nilf => exact .nilf
  | nili => exact .nili
  | iface t h => simp only [Ae] at hn;exact .iface t (ih hn h)
  | agg h => simp only [Ae] at hn;exact .agg (all hn h)
  | tuple h => simp only [Ae] at hn;exact .tuple (all hn h)
theorem VR.ren {ι ι':Inj} {ρ : Nat→Option Nat} (ho:∀ b b' m,ρ b=some b' → ι b=some m → ι' b'=some m):∀ (d:Nat) {v v' r:Value},A6 ρ d v=some v'→VR ι v r→VR ι' v' r:=by
 intro d
 induction d with
 | zero => intro v v' r h;simp [A6] at h
 | succ d ih =>
  have all:∀ {l l' m1:List Value},l.mapM (A6 ρ d)=some l'→VRs ι l m1→VRs ι' l' m1:=by
   intro l
   induction l with
   | nil => intro l' m1 hl h;simp at hl;subst hl;cases h;exact .nil
   | cons x l ih2 =>
    intro l' m1 hl h
    simp only [List.mapM_cons,Option.bind_eq_bind,OB,Option.pure_def,OI] at hl
    obtain ⟨y,hy,l2,hl2,rfl⟩:=hl
    cases h with
    | cons h1 h2 => exact .cons (ih hy h1) (ih2 hl2 h2)
  intro v v' r hn h
  cases h with
  | any r =>
   simp only [Ks,A6,OM] at hn
   obtain ⟨l,hl,rfl⟩:=hn
   cases d with
   | zero => simp [A6] at hl
   | succ d =>
    simp [A6] at hl
    subst hl
    exact .any _
  | bool b => simp only [A6,OI] at hn;subst hn;exact .bool _
  | int k n => simp only [A6,OI] at hn;subst hn;exact .int _ _
  | float k n => simp only [A6,OI] at hn;subst hn;exact .float _ _
  | complex k a b => simp only [A6,OI] at hn;subst hn;exact .complex _ _ _
  | string s => simp only [A6,OI] at hn;subst hn;exact .string _
  | nilp => simp only [A6,OI] at hn;subst hn;exact .nilp
  | ptr off h => simp only [A6,OM] at hn;obtain ⟨b',hb,rfl⟩:=hn;exact .ptr off (ho _ _ _ hb h)
  | nils n c => simp only [A6,OI] at hn;subst hn;exact .nils _ _
  | slice off n c h => simp only [A6,OM] at hn;obtain ⟨b',hb,rfl⟩:=hn;exact .slice off _ _ (ho _ _ _ hb h)
  | slice0 off a h => simp only [A6,OM] at hn;obtain ⟨b',hb,rfl⟩:=hn;exact .slice0 off _ (ho _ _ _ hb h)
  | loose off s n c h h1 h2 => simp only [A6,OM] at hn;obtain ⟨b',hb,rfl⟩:=hn;exact .loose off s _ _ (ho _ _ _ hb h) h1 h2
  | loose0 off s a h => simp only [A6,OM] at hn;obtain ⟨b',hb,rfl⟩:=hn;exact .loose0 off s _ (ho _ _ _ hb h)
  | nilm => simp only [A6,OI] at hn;subst hn;exact .nilm
  | map h => simp only [A6,OM] at hn;obtain ⟨b',hb,rfl⟩:=hn;exact .map (ho _ _ _ hb h)
  | func f ha hb =>
   simp only [A6,OB,OM] at hn
   obtain ⟨a',h1,b',h2,rfl⟩:=hn
   exact .func f (all h1 ha) (all h2 hb)
  | yield h ha hb => simp [A6] at hn
  | nilf => simp only [A6,OI] at hn;subst hn;exact .nilf
  | nili => simp only [A6,OI] at hn;subst hn;exact .nili
  | iface t h => simp only [A6,OM] at hn;obtain ⟨v2,hv2,rfl⟩:=hn;exact .iface t (ih hv2 h)
  | agg h => simp only [A6,OM] at hn;obtain ⟨l,hl,rfl⟩:=hn;exact .agg (all hl h)
  | tuple h => simp only [A6,OM] at hn;obtain ⟨l,hl,rfl⟩:=hn;exact .tuple (all hl h)
theorem FFR.under {ι ι':Inj} (hs:Sub ι ι') {sz:Nat} {f:FF} {t t':Array Value} (h:FFR ι sz f t) (k:FFR ι' sz f t'):FFR ι sz f t':=⟨k.size,fun s => (h.at_ s).under hs _ (k.at_ s)⟩
theorem ObjR.under {ι ι':Inj} (hs:Sub ι ι') {w w':World} {m:Img} {o:LObj} (h:ObjR P ι w m o) (k:ObjR P ι' w' m o):ObjR P ι w' m o:=by
 cases k with
 | cells a b c d e f =>
  cases h with
  | cells a' b' c' d' e' f' =>
   refine .cells a b c (fun i v hv => ?_) e f
   obtain ⟨r,h1,h2⟩:=d i v hv
   obtain ⟨r',_,h2'⟩:=d' i v hv
   exact ⟨r,h1,h2'.under hs _ h2⟩
 | map a b =>
  cases h with
  | map a' b' =>
   refine .map a ?_
   clear a a'
   rename_i es es1 _ es2 _
   generalize es1.toList=l1 at b
   generalize es2.toList=l2 at b'
   induction b generalizing l2 with
   | nil => exact .nil
   | cons h1 _ ih =>
    cases b' with
    | cons k1 k2 => exact .cons ⟨h1.1,k1.2.under hs _ h1.2⟩ (ih _ k2)
 | loop a b c d e f g =>
  cases h with
  | loop a' b' c' d' e' f' g' => exact .loop a b c d (e'.under hs e) f g
 | bld a b c d e =>
  cases h with
  | bld a' b' c' d' e' =>
   refine .bld a b c d ?_
   rename_i r _ _ _
   cases r with
   | none => exact e
   | some x =>
    obtain ⟨x,n⟩:=x
    obtain ⟨m1,h1,h2,h3⟩:=e
    obtain ⟨m2,k1,_,_⟩:=e'
    have:=hs _ _ k1
    rw [h1] at this;cases this
    exact ⟨m1,k1,h2,h3⟩
 | bytes a b c d e => exact .bytes a b c d e
theorem ObjR.low {ι ι':Inj} {n:Nat} (ho:∀ b,b<n → ι' b = ι b) {w:World} {m:Img} {o:LObj} (hn:Il n (some o)=true) (hl:o ≠ .dead) (k:ObjR P ι' w m o):ObjR P ι w m o:=by
 cases k with
 | cells a b c d e f =>
  refine .cells a b c (fun i v hv => ?_) e f
  obtain ⟨r,h1,h2⟩:=d i v hv
  simp only [Il,List.all_eq_true] at hn
  exact ⟨r,h1,VR.low ho 4 (hn v (List.mem_of_getElem? hv)) h2⟩
 | map a b =>
  refine .map a ?_
  simp only [Il] at hn
  clear a
  rename_i es es1 _
  generalize es1.toList=l1 at b
  induction b with
  | nil => exact .nil
  | cons h1 _ ih =>
   simp only [List.all_cons,Bool.and_eq_true] at hn
   exact .cons ⟨h1.1,VR.low ho 4 hn.1.2 h1.2⟩ (ih hn.2 (by simp))
 | loop a b c d e f g => simp [Il] at hn
 | bld a b c d e =>
  refine .bld a b c d ?_
  rename_i r
  cases r with
  | none => exact e
  | some x =>
   obtain ⟨x,n⟩:=x
   simp only [Il,decide_eq_true_eq] at hn
   obtain ⟨m1,h1,h2⟩:=e
   exact ⟨m1,by rw [← ho _ hn];exact h1,h2⟩
 | bytes a b c d e => exact .bytes a b c d e
theorem ObjR.ren {ι ι':Inj} {ρ : Nat→Option Nat} (ho:∀ b b' m,ρ b=some b' → ι b=some m → ι' b'=some m) {w:World} {m:Img} {o o':LObj} (hr:Qi ρ o=some o') (k:ObjR P ι w m o):ObjR P ι' w m o'∧o'.wr=o.wr:=by
 cases k with
 | @cells c ro arr t fz a b cc d e f =>
  simp only [Qi] at hr
  split at hr
  ·cases hr
  ·rename_i hro
   simp only [OM] at hr
   obtain ⟨c',hc,rfl⟩:=hr
   have h2:=Po hc
   have hlen:=h2.length
   have hro':ro=false:=by simpa using hro
   subst hro'
   refine ⟨.cells a b (by omega) (fun i v hv => ?_) (fun _ => e rfl) ?_,rfl⟩
   ·have hil:i<c.length:=by rw [hlen];exact (GI.1 hv).1
    obtain ⟨v2,hv2,hren⟩:=h2.at_ (i:=i) (a:=c[i]) (by simp [hil])
    rw [hv] at hv2;cases hv2
    obtain ⟨r,h1,h3⟩:=d i c[i] (by simp [hil])
    exact ⟨r,h1,VR.ren ho 4 hren h3⟩
   ·clear hc hlen cc d e a b
    induction h2 with
    | nil => rfl
    | @cons x y _ _ h1 _ ih =>
     simp only [List.all_cons,Bool.and_eq_true] at f ⊢
     refine ⟨?_,ih f.2⟩
     cases x<;>first | (simp [Ah] at f;done) | skip
     all_goals
      simp only [A6] at h1
     case pointer p => cases p<;>simp only [A6,OI,OM] at h1<;>first | (obtain ⟨_,_,rfl⟩:=h1;rfl) | (subst h1;rfl)
     case slice p n c => cases p<;>simp only [A6,OI,OM] at h1<;>first | (obtain ⟨_,_,rfl⟩:=h1;rfl) | (subst h1;rfl)
     case map p => cases p<;>simp only [A6,OI,OM] at h1<;>first | (obtain ⟨_,_,rfl⟩:=h1;rfl) | (subst h1;rfl)
     case func fn p q => cases fn<;>simp only [A6,OB,OM] at h1<;>first | (obtain ⟨_,_,_,_,rfl⟩:=h1;rfl) | (cases h1;done)
     case iface t v => simp only [OM] at h1;obtain ⟨_,_,rfl⟩:=h1;rfl
     all_goals first | (simp only [OI] at h1;subst h1;rfl) | (cases h1;done)
 | @map es es1 clock a b =>
  simp only [Qi,OM] at hr
  obtain ⟨es',hc,rfl⟩:=hr
  refine ⟨.map a ?_,rfl⟩
  have h2:=Po hc
  clear hc a
  generalize es1.toList=l1 at b
  induction b generalizing es' with
  | nil => cases h2;exact .nil
  | cons h1 _ ih =>
   cases h2 with
   | cons k1 k2 =>
    split at k1
    ·simp only [OM] at k1
     obtain ⟨v',hv',rfl⟩:=k1
     exact .cons ⟨h1.1,VR.ren ho 4 hv' h1.2⟩ (ih _ k2)
    ·cases k1
 | loop a b c d e f g => simp [Qi] at hr
 | bld a b c d e => simp [Qi] at hr
 | bytes a b c d e => simp [Qi] at hr
theorem Af0 {m:Nat}:∀ (d:Nat) (v:Value) (x:Nat),x∈news m d v→m≤x:=by
 intro d
 induction d with
 | zero => intro v x h;simp [news] at h
 | succ d ih =>
  have all:∀ (l:List Value) x,x∈l.flatMap (news m d)→m≤x:=by
   intro l x h
   obtain ⟨v,_,hv⟩:=List.mem_flatMap.1 h
   exact ih v x hv
  intro v x h
  unfold news at h
  split at h
  ·split at h
   ·cases h
   ·simp at h;subst h;omega
  ·split at h
   ·cases h
   ·simp at h;subst h;omega
  ·split at h
   ·cases h
   ·simp at h;subst h;omega
  ·rcases List.mem_append.1 h with h | h
   ·exact all _ _ h
   ·exact all _ _ h
  ·exact ih _ _ h
  ·exact all _ _ h
  ·exact all _ _ h
  ·cases h
theorem Awa {m:Nat} {o:LObj} {x:Nat} (h:x∈Awb m o):m≤x:=by
 unfold Awb at h
 split at h
 ·obtain ⟨v,_,hv⟩:=List.mem_flatMap.1 h;exact Af0 _ _ _ hv
 ·obtain ⟨v,_,hv⟩:=List.mem_flatMap.1 h;exact Af0 _ _ _ hv
 ·cases h
theorem Ut {m:Nat} {h:Aa}:∀ (n:Nat) (q seen:List Nat),seen.Nodup→(∀ x∈seen,m≤x)→(∀ x∈q,m≤x)→(reach m h n q seen).Nodup∧∀ x∈reach m h n q seen,m≤x
 | 0,q,seen,h1,h2,h3 => by simp only [reach];exact ⟨h1,h2⟩
 | n+1,[],seen,h1,h2,h3 => by simp only [reach];exact ⟨h1,h2⟩
 | n+1,b :: q,seen,h1,h2,h3 => by
  simp only [reach]
  split
  ·exact Ut n q seen h1 h2 fun x hx => h3 x (by simp [hx])
  ·rename_i hb
   refine Ut n _ _ ?_ ?_ ?_
   ·rw [List.nodup_append]
    exact ⟨h1,by simp,fun x hx y hy => by simp at hy;subst hy;exact fun e => hb (e ▸ hx)⟩
   ·intro x hx
    rcases List.mem_append.1 hx with hx | hx
    ·exact h2 x hx
    ·simp at hx;subst hx;exact h3 _ (by simp)
   ·intro x hx
    rcases List.mem_append.1 hx with hx | hx
    ·exact h3 x (by simp [hx])
    ·exact Awa hx
theorem Av7 {l:List Nat} (h:l.Nodup) {i j x:Nat} (hi:l[i]? = some x) (hj:l[j]? = some x):i=j:=by
 have h1:=(GI.1 hi)
 have h2:=(GI.1 hj)
 exact (List.getElem_inj h).1 (h1.2.trans h2.2.symm)
theorem Aww {l:List Nat} {b k:Nat} (h:l.idxOf? b=some k):l[k]? = some b:=by
 induction l generalizing k with
 | nil => simp at h
 | cons x l ih =>
  rw [List.idxOf?_cons] at h
  split at h
  ·rename_i e;simp only [OI] at h;subst h;simp at e;simp [e]
  ·simp only [OM] at h
   obtain ⟨j,hj,rfl⟩:=h
   simpa using ih hj
theorem Aw3 {h0:Aa} {h h':Aa} {w w':World} {ι ι1:Inj} {v v' r:Value} {ws ws':List Nat} (hs:Sim P ι h0 w) (st:St P ι h0 w ι1 h w') (old:Old ι h0 ι1) (hk:Keeps h0.length h0 h ws) (hv:VR ι1 v r) (hg:gc h0 v h ws=some (v',h',ws')) :
  ∃ ι',St P ι h0 w ι' h' w'∧Old ι h0 ι'∧VR ι' v' r:=by
 have elder:∀ b o,b ∉ ws→h0[b]? = some o→o ≠ .dead→∃ m,ι b=some m∧ObjR P ι w' m o:=by
  intro b o hb ho hd
  obtain ⟨m,hm,h1⟩:=hs.obj b o ho hd
  have hlt:b<h0.length:=(GI.1 ho).1
  obtain ⟨m',hm',h2⟩:=st.sim.obj b o ((hk.at_ b hlt hb).trans ho) hd
  rw [st.sub _ _ hm] at hm';cases hm'
  exact ⟨m,hm,h1.under st.sub h2⟩
 have wr0:∀ {b o m},h0[b]? = some o→b ∉ ws → ι b=some m→h[b]? = some o ∧ ι1 b=some m:=by
  intro b o m ho hb hm
  exact ⟨(hk.at_ b (GI.1 ho).1 hb).trans ho,st.sub _ _ hm⟩
 unfold gc at hg
 split at hg
 ·rename_i hf
  have hnone:∀ b,b<h0.length→b ∉ ws:=by
   intro b hb hm
   have:b∈ws.filter (fun b => decide (b<h0.length)):=List.mem_filter.2 ⟨hm,by simpa using hb⟩
   rw [hf] at this;cases this
  split at hg
  ·rename_i hnn
   simp only [OI,Prod.mk.injEq] at hg;obtain ⟨rfl,rfl,rfl⟩:=hg
   refine ⟨ι,⟨Sub.refl _,⟨hs.dom,fun b o hb hd => elder b o (hnone b (GI.1 hb).1) hb hd,hs.glob,hs.inj⟩,st.size,st.os,st.tape,st.output,st.keep,fun _ h _ => h⟩,Old.refl _ _,VR.low old 4 hnn hv⟩
  ·unfold Wq at hg
   simp only at hg
   obtain ⟨hnd,hge⟩:=Ut (m:=h0.length) (h:=h) 20000 (news h0.length 4 v) [] (by simp) (by simp) (fun x hx => Af0 _ _ _ hx)
   generalize reach h0.length h 20000 (news h0.length 4 v) []=ord at hg hnd hge
   split at hg
   ·rename_i v2 os hv2 hos
    simp only [OI,Prod.mk.injEq] at hg;obtain ⟨rfl,rfl,rfl⟩:=hg
    have hos2:=Po hos
    have hlen:=hos2.length
    let ι2:Inj:=fun b => if b<h0.length then ι b else (ord[b - h0.length]?).bind ι1
    have hren:∀ b b' m,place h0.length ord b=some b' → ι1 b=some m → ι2 b'=some m:=by
     intro b b' m hb hm
     unfold place at hb
     split at hb
     ·rename_i hl
      simp only [OI] at hb;subst hb
      show (if b<h0.length then ι b else _)=_
      rw [if_pos hl,← old b hl,hm]
     ·simp only [OM] at hb
      obtain ⟨k,hk2,rfl⟩:=hb
      show (if h0.length+k<h0.length then _ else (ord[h0.length+k - h0.length]?).bind ι1)=_
      rw [if_neg (by omega),Nat.add_sub_cancel_left,Aww hk2]
      exact hm
    have hsub:Sub ι ι2:=by
     intro b m hb
     have hl:=hs.lt hb
     show (if b<h0.length then ι b else _)=_
     rw [if_pos hl,hb]
    have live:∀ x o,(h0++os)[x]? = some o→o ≠ .dead→(x<h0.length∧h0[x]? = some o)∨∃ k b ob,x=h0.length+k∧ord[k]? = some b∧h[b]? = some ob∧ob ≠ .dead∧Qi (place h0.length ord) ob=some o:=by
     intro x o hx hd
     rcases Nat.lt_or_ge x h0.length with hl | hl
     ·rw [GL hl] at hx;exact .inl ⟨hl,hx⟩
     ·rw [List.getElem?_append_right hl] at hx
      have hlt:x - h0.length<ord.length:=by rw [hlen];exact (GI.1 hx).1
      obtain ⟨o2,ho2,hr2⟩:=hos2.at_ (i:=x - h0.length) (a:=ord[x - h0.length]) (by simp [hlt])
      rw [hx] at ho2;cases ho2
      refine .inr ⟨x - h0.length,ord[x - h0.length],h.getD ord[x - h0.length] .dead,by omega,by simp [hlt],?_,?_,hr2⟩
      ·cases hb:h[ord[x - h0.length]]? with
       | none => rw [List.getD_eq_getElem?_getD,hb] at hr2;simp [Qi] at hr2
       | some ob => simp [hb]
      ·intro e;rw [e] at hr2;simp [Qi] at hr2
    have hι2k:∀ (k b:Nat),ord[k]? = some b → ι2 (h0.length+k) = ι1 b:=by
     intro k b hb
     show (if h0.length+k<h0.length then _ else (ord[h0.length+k - h0.length]?).bind ι1)=_
     rw [if_neg (by omega),Nat.add_sub_cancel_left,hb];rfl
    have hι2l:∀ b,b<h0.length → ι2 b = ι b:=fun b hb => if_pos hb
    have back:∀ x o m,(h0++os)[x]? = some o→o ≠ .dead → ι2 x=some m→∃ b ob,h[b]? = some ob∧ob ≠ .dead ∧ ι1 b=some m∧ob.wr=o.wr∧((x<h0.length∧b=x)∨∃ k,x=h0.length+k∧ord[k]? = some b):=by
     intro x o m hx hd hm
     rcases live x o hx hd with ⟨hl,ho⟩ | ⟨k,b,ob,rfl,hb,hob,hobd,hr⟩
     ·rw [hι2l x hl] at hm
      obtain ⟨h1,h2⟩:=wr0 ho (hnone x hl) hm
      exact ⟨x,o,h1,hd,h2,rfl,.inl ⟨hl,rfl⟩⟩
     ·rw [hι2k k b hb] at hm
      obtain ⟨m',hm',hobj⟩:=st.sim.obj b ob hob hobd
      exact ⟨b,ob,hob,hobd,hm,(hobj.ren hren hr).2.symm,.inr ⟨k,rfl,hb⟩⟩
    refine ⟨ι2,⟨hsub,⟨fun b hb => ?_,fun x o hx hd => ?_,fun g hg => let ⟨s,h⟩:=hs.glob g hg;⟨s,hsub _ _ h⟩,?_⟩,st.size,st.os,st.tape,st.output,st.keep,?_⟩,fun b hb => hι2l b hb,VR.ren hren 4 hv2 hv⟩
    ·show (if b<h0.length then ι b else _)=_
     simp only [LA] at hb
     rw [if_neg (by omega),List.getElem?_eq_none (by omega)];rfl
    ·rcases live x o hx hd with ⟨hl,ho⟩ | ⟨k,b,ob,rfl,hb,hob,hobd,hr⟩
     ·obtain ⟨m,hm,h1⟩:=elder x o (hnone x hl) ho hd
      exact ⟨m,hsub _ _ hm,h1.sub hsub⟩
     ·obtain ⟨m,hm,h1⟩:=st.sim.obj b ob hob hobd
      exact ⟨m,(hι2k k b hb).trans hm,(h1.ren hren hr).1⟩
    ·intro x y o1 o2 m1 m2 hx hy hw1 hl2 h1 h2 hne
     obtain ⟨b,ob,e1,e2,e3,e4,e5⟩:=back x o1 m1 hx (LObj.live_of_wr hw1) h1
     obtain ⟨c,oc,f1,f2,f3,f4,f5⟩:=back y o2 m2 hy hl2 h2
     refine st.sim.inj b c ob oc m1 m2 e1 f1 (by rw [e4];exact hw1) f2 e3 f3 fun ebc => ?_
     subst ebc
     rcases e5 with ⟨e5,e6⟩ | ⟨k,e5,e6⟩
     ·rcases f5 with ⟨f5,f6⟩ | ⟨k',f5,f6⟩
      ·exact hne (e6.symm.trans f6)
      ·have:=hge b (List.mem_of_getElem? f6);omega
     ·rcases f5 with ⟨f5,f6⟩ | ⟨k',f5,f6⟩
      ·have:=hge b (List.mem_of_getElem? e6);omega
      ·exact hne (by rw [e5,f5,Av7 hnd e6 f6])
    ·rintro rb ⟨x,o,m,hx,hwr,hm,rfl⟩ hl
     obtain ⟨b,ob,e1,e2,e3,e4,e5⟩:=back x o m hx (LObj.live_of_wr hwr) hm
     exact st.new m.rb ⟨b,ob,m,e1,by rw [e4];exact hwr,e3,rfl⟩ hl
   ·simp only [OI,Prod.mk.injEq] at hg;obtain ⟨rfl,rfl,rfl⟩:=hg
    exact ⟨ι1,st,old,hv⟩
 ·rename_i u us hf
  split at hg
  ·rename_i hnn
   simp only [Bool.and_eq_true] at hnn
   obtain ⟨hnv,hno⟩:=hnn
   simp only [OI,Prod.mk.injEq] at hg;obtain ⟨rfl,rfl,rfl⟩:=hg
   have hmem:∀ b,b<h0.length→b∈ws→b∈u :: us:=by
    intro b hb hm
    have:b∈ws.filter (fun b => decide (b<h0.length)):=List.mem_filter.2 ⟨hm,by simpa using hb⟩
    rwa [hf] at this
   have hlen:=hk.len
   have at_:∀ (x:Nat) (o:LObj),(h.take h0.length)[x]? = some o→x<h0.length∧h[x]? = some o:=by
    intro x o hx
    have hl:x<h0.length:=by have:=(GI.1 hx).1;simp at this;omega
    rw [List.getElem?_take_of_lt hl] at hx;exact ⟨hl,hx⟩
   have lives:∀ (x:Nat) (o:LObj),x<h0.length→h[x]? = some o→o ≠ .dead→∃ m,ι x=some m ∧ ι1 x=some m∧ObjR P ι w' m o:=by
    intro x o hl hx hd
    by_cases hb:x∈ws
    ·obtain ⟨m,hm,hobj⟩:=st.sim.obj x o hx hd
     have hx2:=List.all_eq_true.1 hno x (hmem x hl hb)
     rw [hx] at hx2
     exact ⟨m,by rw [← old x hl];exact hm,hm,hobj.low old hx2 hd⟩
    ·have h3:=(hk.at_ x hl hb).symm.trans hx
     obtain ⟨m,hm,h1⟩:=elder x o hb h3 hd
     exact ⟨m,hm,st.sub _ _ hm,h1⟩
   refine ⟨ι,⟨Sub.refl _,⟨fun b hb => hs.dom b (by simp at hb;omega),fun x o hx hd => ?_,hs.glob,?_⟩,st.size,st.os,st.tape,st.output,st.keep,?_⟩,Old.refl _ _,VR.low old 4 hnv hv⟩
   ·obtain ⟨hl,hx⟩:=at_ x o hx
    obtain ⟨m,h1,_,h2⟩:=lives x o hl hx hd
    exact ⟨m,h1,h2⟩
   ·intro x y o1 o2 m1 m2 hx hy hw1 hl2 h1 h2 hne
    exact st.sim.inj x y o1 o2 m1 m2 (at_ x o1 hx).2 (at_ y o2 hy).2 hw1 hl2 (st.sub _ _ h1) (st.sub _ _ h2) hne
   ·rintro rb ⟨x,o,m,hx,hwr,hm,rfl⟩ hl
    exact st.new m.rb ⟨x,o,m,(at_ x o hx).2,hwr,st.sub _ _ hm,rfl⟩ hl
  ·simp only [OI,Prod.mk.injEq] at hg;obtain ⟨rfl,rfl,rfl⟩:=hg
   exact ⟨ι1,st,old,hv⟩
end Go.L
namespace Go.L
open Go
variable {P:Program} {ι : Inj} {h:Aa} {w:World}
def Axb:Ex→Exit
 | .normal => .normal
 | .exit id => .exit id
 | .ret => .ret
section
variable {F:Fence} {n:Nat} {Q:Exit→Act→World→Prop} {a:Act}
theorem Akq {c:Code} (h:c.wpIn F n P (Exit.noGoto Q) a w):(Code.scope c).wpIn F n P Q a w:=by
 intro b k cs hro hb hr
 have h0:(lone (b.atR a (.code (.scope c) :: k)) cs w).fenced P F:=fenced_calm hb hr rfl
 have s0:step P (lone (b.atR a (.code (.scope c) :: k)) cs w) = .next (lone (b.atR a (.code c :: .inScope c :: k)) cs w):=step_lone_go (by simp [stepG,stepG.exec,Frame.atR])
 obtain ⟨e,a₁,w₁,hq,harr⟩:=h b (.inScope c :: k) cs hro hb hr
 cases e with
 | normal =>
  have s1:step P (lone (b.atR a₁ (.inScope c :: k)) cs w₁) = .next (lone (b.atR a₁ k) cs w₁):=step_lone_go (by simp [stepG,stepG.exec,Frame.atR])
  exact ⟨.normal,a₁,w₁,hq,.head h0 s0 (StepsIn.trans harr (.one (fenced_calm hb hr rfl) s1))⟩
 | exit id =>
  have hx:exitTo id (.inScope c :: k)=exitTo id k:=by simp [exitTo]
  exact ⟨.exit id,a₁,w₁,hq,fun k' hk => .head h0 s0 (harr.1 k' (by rw [hx];exact hk)),fun hr' hk => let ⟨k₁,h1,h2⟩:=harr.2 hr' (by rw [hx];exact hk);⟨k₁,h1,.head h0 s0 h2⟩⟩
 | goto l => exact hq.elim
 | ret => exact ⟨_,a₁,w₁,hq,.of_steps (.one h0 s0) harr⟩
 | panic ch => exact ⟨_,a₁,w₁,hq,.of_steps (.one h0 s0) harr⟩
 | outgrown => exact ⟨_,a₁,w₁,hq,.of_steps (.one h0 s0) harr⟩
def Ags (F:Fence) (n:Nat) (P:Program) (c:Code) (Q:Exit→Act→World→Prop) (a:Act) (w:World):Prop :=
 ∀ (b:Frame) (k:List Item) (cs:List Frame),b.roundOf=F.round→F.fn b.fn→F.room (cs.length+1+n) →
  ∃ e a' w',Q e a' w'∧ArrivesIn (Machine.fenced P F) P (lone (b.atR a (.code c :: .inLoop c :: k)) cs w) b k cs e a' w'
theorem Af1 {c:Code} (h:c.wpIn F n P (Exit.then (Ags F n P c Q) Q) a w):Ags F n P c Q a w:=by
 intro b k cs hro hb hr
 obtain ⟨e,a₁,w₁,hq,harr⟩:=h b (.inLoop c :: k) cs hro hb hr
 cases e with
 | normal =>
  obtain ⟨e₂,a₂,w₂,hq₂,harr₂⟩:=hq b k cs hro hb hr
  exact ⟨e₂,a₂,w₂,hq₂,.of_steps (StepsIn.trans harr (.one (fenced_calm hb hr rfl) stepR_inLoop)) harr₂⟩
 | exit id => exact ⟨_,a₁,w₁,hq,.pass (x:=.inLoop c) rfl (fun _ _ => .inl (by simp)) harr⟩
 | goto l => exact ⟨_,a₁,w₁,hq,.pass (x:=.inLoop c) rfl (fun _ _ => .inl (by simp)) harr⟩
 | ret => exact ⟨_,a₁,w₁,hq,.pass (x:=.inLoop c) rfl (fun _ _ => .inl (by simp)) harr⟩
 | panic ch => exact ⟨_,a₁,w₁,hq,.pass (x:=.inLoop c) rfl (fun _ _ => .inl (by simp)) harr⟩
 | outgrown => exact ⟨_,a₁,w₁,hq,.pass (x:=.inLoop c) rfl (fun _ _ => .inl (by simp)) harr⟩
theorem Agy {c:Code} (h:Ags F n P c Q a w):(Code.loop c).wpIn F n P Q a w:=by
 intro b k cs hro hb hr
 obtain ⟨e,a',w',hq,harr⟩:=h b k cs hro hb hr
 exact ⟨e,a',w',hq,.of_steps (.one (fenced_calm hb hr rfl) stepR_loop) harr⟩
end
def Marks (n0:Nat) (w:World):List Deferred→Prop
 | [] => True
 | d :: ds => (∃ r,d.target = .collected r∧w.heap[r]? = some (.deferred (some []))∧n0≤r∧∀ d'∈ds,d'.target ≠ .collected r)∧Marks n0 w ds
theorem A3o {r:Nat} {ds:Option (List Deferred)} (hs:Sim P ι h w) (hr:w.heap[r]? = some (.deferred ds)):¬ Wr ι h r:=by
 rintro ⟨b,o,m,hb,hw,hm,rfl⟩
 obtain ⟨m',hm',hobj⟩:=hs.obj b o hb (LObj.live_of_wr hw)
 rw [hm] at hm';cases hm'
 cases hobj with
 | cells a => rw [hr] at a;cases a
 | map a => rw [hr] at a;cases a
 | loop a => rw [hr] at a;cases a
 | bld a => rw [hr] at a;cases a
 | bytes a => rw [hr] at a;cases a
theorem St.deferred {ι':Inj} {h':Aa} {w':World} (hs:Sim P ι h w) (st:St P ι h w ι' h' w') {r:Nat} {ds:Option (List Deferred)} (hr:w.heap[r]? = some (.deferred ds)):w'.heap[r]? = some (.deferred ds) :=
 (st.keep r (Array.getElem?_eq_some_iff.1 hr).1 (A3o hs hr)).trans hr
theorem Marks.step {n0:Nat} {ι':Inj} {h':Aa} {w':World} (hs:Sim P ι h w) (st:St P ι h w ι' h' w'):∀ {ds:List Deferred},Marks n0 w ds→Marks n0 w' ds
 | [],_ => trivial
 | d :: ds,⟨⟨r,h1,h2,h3,h4⟩,h5⟩ => ⟨⟨r,h1,st.deferred hs h2,h3,h4⟩,Marks.step hs st h5⟩
def InR (F:Fence) (ι : Inj) (h:Aa) (ws:List Nat):Prop:=∀ lr,F.round=some lr→∃ l r m,h[l]? = some (.loop r) ∧ ι l=some m∧m.rb=lr∧l ∉ ws
theorem InR.left {F:Fence} {ws ws':List Nat} (hi:InR F ι h (ws++ws')):InR F ι h ws:=fun lr hl =>
 let ⟨l,r,m,h1,h2,h3,h4⟩:=hi lr hl;⟨l,r,m,h1,h2,h3,fun hm => h4 (List.mem_append_left _ hm)⟩
theorem InR.right {F:Fence} {ι':Inj} {h':Aa} {ws ws':List Nat} (hi:InR F ι h (ws++ws')) (hk:Keeps h.length h h' ws) (hs:Sub ι ι'):InR F ι' h' ws':=fun lr hl =>
 let ⟨l,r,m,h1,h2,h3,h4⟩:=hi lr hl
 ⟨l,r,m,(hk.at_ l (GI.1 h1).1 fun hm => h4 (List.mem_append_left _ hm)).trans h1,hs _ _ h2,h3,fun hm => h4 (List.mem_append_right _ hm)⟩
theorem St.room (hs:Sim P ι h w) (n:Nat):St P ι h w ι (room h n) w:=by
 cases n with
 | zero => exact St.refl hs
 | succ n =>
  have old:∀ (x:Nat) (o:LObj),(h++List.replicate (n+1) LObj.dead)[x]? = some o→o ≠ .dead→h[x]? = some o:=by
   intro x o hx hd
   rcases Nat.lt_or_ge x h.length with hl | hl
   ·rwa [GL hl] at hx
   ·rw [List.getElem?_append_right hl] at hx
    exact absurd (List.eq_of_mem_replicate (List.mem_of_getElem? hx)) hd
  refine ⟨Sub.refl _,⟨fun b hb => hs.dom b (by simp [Go.L.room] at hb;omega),fun x o hx hd => hs.obj x o (old x o hx hd) hd,hs.glob,?_⟩,Nat.le_refl _,rfl,rfl,rfl,fun _ _ _ => rfl,?_⟩
  ·intro x y o1 o2 m1 m2 hx hy hw1 hl2 h1 h2 hne
   exact hs.inj x y o1 o2 m1 m2 (old x o1 hx (LObj.live_of_wr hw1)) (old y o2 hy hl2) hw1 hl2 h1 h2 hne
  ·rintro rb ⟨x,o,m,hx,hw,hm,rfl⟩ _
   exact ⟨x,o,m,old x o hx (LObj.live_of_wr hw),hw,hm,rfl⟩
theorem Auh (h:Aa) (n:Nat):(room h n).length=h.length+n:=by
 cases n with
 | zero => rfl
 | succ n => simp [room]
theorem Aa2:∀ {r:List Ins} {n:Nat},Zw r n=true→(∀ (i:Nat) (x:Ins),r[i]? = some x→cls x.o = .A→x.rank<n)∧∀ (i j:Nat) (x y:Ins),r[i]? = some x→r[j]? = some y→i<j→cls x.o = .A→cls y.o = .A→x.rank≠y.rank
 | [],n,_ => ⟨fun i x h => by simp at h,fun i j x y h => by simp at h⟩
 | z :: r,n,h => by
  simp only [Zw,Bool.and_eq_true] at h
  obtain ⟨h1,h2⟩:=h
  obtain ⟨i1,i2⟩:=Aa2 h2
  refine ⟨fun i x hx hA => ?_,fun i j x y hx hy hij hA hB => ?_⟩
  ·cases i with
   | zero =>
    simp at hx;subst hx
    rw [hA] at h1;simp only [Bool.and_eq_true,decide_eq_true_eq] at h1
    exact h1.1
   | succ i => exact i1 i x (by simpa using hx) hA
  ·cases j with
   | zero => omega
   | succ j =>
    cases i with
    | zero =>
     simp at hx;subst hx
     rw [hA] at h1;simp only [Bool.and_eq_true,decide_eq_true_eq] at h1
     have:=List.all_eq_true.1 h1.2 y (List.mem_of_getElem? (by simpa using hy))
     rw [hB] at this
     simp at this
     exact fun e => this e.symm
    | succ i => exact i2 i j x y (by simpa using hx) (by simpa using hy) (by omega) hA hB
theorem Ao8 {α β : Type} {g:α → Option β} {l:List α} {m:List β} (h:l.mapM g=some m):l.length=m.length∧∀ (i:Nat) a,l[i]? = some a→∃ b,m[i]? = some b∧g a=some b:=by
 have:=Po h
 exact ⟨this.length,fun i a ha => this.at_ ha⟩
theorem Wo {sz:Nat} {ops:Array Oper} {ins r:List Ins} {n:Nat} {zz:List (Bool × Nat × Bool)} (hi:ops.toList.mapM (cI P sz ops)=some ins) (hd:Z2 ops ins zz=some (n,r)):A4o P sz ops r n∧r.length=ops.size:=by
 unfold Z2 at hd
 simp only at hd
 obtain ⟨hlen,hat⟩:=Ao8 hi
 split at hd
 ·rename_i hc
  simp only [OI,Prod.mk.injEq] at hd
  obtain ⟨rfl,rfl⟩:=hd
  simp only [Bool.and_eq_true,decide_eq_true_eq] at hc
  obtain ⟨⟨⟨c1,c2⟩,c3⟩,c4⟩:=hc
  have hget:∀ i,i<ops.size→∃ i0 z,ins[i]? = some i0∧zz[i]? = some z∧(List.zipWith (fun (i:Ins) (x:Bool × Nat × Bool) => { i with flag:=x.1,rank:=x.2.1,loose:=x.2.2 }) ins zz)[i]? = some { i0 with flag:=z.1,rank:=z.2.1,loose:=z.2.2 }:=by
   intro i hi
   have hl:i<(List.zipWith (fun (i:Ins) (x:Bool × Nat × Bool) => { i with flag:=x.1,rank:=x.2.1,loose:=x.2.2 }) ins zz).length:=by omega
   have hl2:=hl
   rw [List.length_zipWith] at hl2
   refine ⟨ins[i]'(by omega),zz[i]'(by omega),by simp,by simp,?_⟩
   rw [List.getElem?_eq_getElem hl]
   simp
  have hD:∀ (i:Nat) x,(List.zipWith (fun (i:Ins) (x:Bool × Nat × Bool) => { i with flag:=x.1,rank:=x.2.1,loose:=x.2.2 }) ins zz)[i]? = some x→(List.zipWith (fun (i:Ins) (x:Bool × Nat × Bool) => { i with flag:=x.1,rank:=x.2.1,loose:=x.2.2 }) ins zz).getD i dfl=x:=by
   intro i x hx;rw [List.getD_eq_getElem?_getD,hx];rfl
  have hsome:∀ i,i<ops.size→(List.zipWith (fun (i:Ins) (x:Bool × Nat × Bool) => { i with flag:=x.1,rank:=x.2.1,loose:=x.2.2 }) ins zz)[i]? = some ((List.zipWith (fun (i:Ins) (x:Bool × Nat × Bool) => { i with flag:=x.1,rank:=x.2.1,loose:=x.2.2 }) ins zz).getD i dfl):=by
   intro i hi
   obtain ⟨i0,z,_,_,h3⟩:=hget i hi
   rw [hD i _ h3];exact h3
  obtain ⟨r1,r2⟩:=Aa2 c2
  refine ⟨⟨fun i hi => ?_,fun i j hij hj hb => ?_,fun i o ho e he hb => ?_,fun i hi hA => r1 i _ (hsome i hi) hA,fun i j hi hj hij hA hB => ?_⟩,c3⟩
  ·obtain ⟨i0,z,h1,h2,h3⟩:=hget i hi
   obtain ⟨b,hb1,hb2⟩:=hat i ops[i] (by simp [hi])
   rw [h1] at hb1;cases hb1
   rw [hD i _ h3]
   exact ⟨ops[i],i0,by simp [hi],hb2,rfl,rfl,rfl⟩
  ·have hx:∀ k,k<ops.size→((List.zipWith (fun (i:Ins) (x:Bool × Nat × Bool) => { i with flag:=x.1,rank:=x.2.1,loose:=x.2.2 }) ins zz).getD k dfl,k)∈(List.zipWith (fun (i:Ins) (x:Bool × Nat × Bool) => { i with flag:=x.1,rank:=x.2.1,loose:=x.2.2 }) ins zz).zipIdx:=by
    intro k hk
    rw [List.mem_zipIdx_iff_getElem?]
    simpa using hsome k hk
   have:=List.all_eq_true.1 (List.all_eq_true.1 c1 _ (hx i (by omega))) _ (hx j hj)
   simp only [Amz,Bool.or_eq_true,Bool.not_eq_true',Bool.and_eq_false_iff,decide_eq_false_iff_not] at this
   rcases this with (h1 | h1) | h1
   ·exact absurd hij h1
   ·rw [Nat.max_eq_right (Nat.le_of_lt hij),Nat.min_eq_left (Nat.le_of_lt hij),hb] at h1
    simp at h1;omega
   ·exact h1
  ·have:=List.all_eq_true.1 (List.all_eq_true.1 c4 (o,i) (by rw [List.mem_zipIdx_iff_getElem?];simpa using ho)) e (by simpa using he)
   simpa [hb] using this
  ·rcases Nat.lt_or_gt_of_ne hij with hl | hl
   ·exact r2 i j _ _ (hsome i hi) (hsome j hj) hl hA hB
   ·exact fun e => r2 j i _ _ (hsome j hj) (hsome i hi) hl hB hA e.symm
 ·cases hd
theorem Ame {lo:Bool} {sz:Nat} {ops:Array Oper} {ins r:List Ins} {n:Nat} (hi:ops.toList.mapM (cI P sz ops)=some ins) (hd:drawn lo ops ins=some (n,r)):A4o P sz ops r n∧r.length=ops.size:=by
 unfold drawn at hd
 split at hd
 ·rename_i q hq
  simp only [OI] at hd
  subst hd
  exact Wo hi hq
 ·exact Wo hi hd
end Go.L
namespace Go.L
open Go
variable {P:Program}
theorem Ae4 {c:C} (h:Es c = .skip):c = .skip:=by cases c<;>simp [Es] at h;rfl
theorem Ayd {c:C} {i:List Ins} (h:Es c = .reg [] i):∃ l,c = .reg l i:=by cases c<;>simp [Es] at h;subst h;exact ⟨_,rfl⟩
theorem Aye {c:C} {n:Nat} {i:List Ins} (h:Es c = .drw [] n i):∃ l,c = .drw l n i:=by cases c<;>simp [Es] at h;obtain ⟨rfl,rfl⟩:=h;exact ⟨_,rfl⟩
theorem Aya {c x y:C} (h:Es c = .seq x y):∃ a b,c = .seq a b∧Es a=x∧Es b=y:=by cases c<;>simp [Es] at h;exact ⟨_,_,rfl,h.1,h.2⟩
theorem Asx {c x y:C} {v:X} (h:Es c = .cond v x y):∃ a b,c = .cond v a b∧Es a=x∧Es b=y:=by cases c<;>simp [Es] at h;obtain ⟨rfl,h⟩:=h;exact ⟨_,_,rfl,h.1,h.2⟩
theorem Amq {c x:C} {id:Nat} (h:Es c = .block id x):∃ a,c = .block id a∧Es a=x:=by cases c<;>simp [Es] at h;obtain ⟨rfl,h⟩:=h;exact ⟨_,rfl,h⟩
theorem Asv {c x:C} (h:Es c = .loop x):∃ a,c = .loop a∧Es a=x:=by cases c<;>simp [Es] at h;exact ⟨_,rfl,h⟩
theorem Asw {c:C} {id:Nat} (h:Es c = .exit id):c = .exit id:=by cases c<;>simp [Es] at h;subst h;rfl
theorem Ayc {c:C} (h:Es c = .ret):c = .ret:=by cases c<;>simp [Es] at h;rfl
theorem Ayb {c x y:C} {g:X} {ps:List Nat} (h:Es c = .rng g ps x y):∃ a b,c = .rng g ps a b∧Es a=x∧Es b=y:=by cases c<;>simp [Es] at h;obtain ⟨rfl,rfl,h⟩:=h;exact ⟨_,_,rfl,h.1,h.2⟩
section
variable {F:Fence} {n:Nat} {cf:Be} {sz:Nat}
def Tl (F:Fence) (n:Nat) (P:Program) (n0:Nat) (g:Code) (K:Fr→Aa→Out) (sz:Nat):Prop :=
 ∀ (Q:Exit→Act→World→Prop) {ι : Inj} {h:Aa} {w:World} {fr:Fr} {a:Act} {e:Ex} {fr':Fr} {h':Aa} {ws:List Nat},K fr h=some (e,fr',h',ws)→Sim P ι h w→FFR ι sz (get fr) a.tmps→Marks n0 w a.defers→n0≤w.heap.size→InR F ι h ws →
  (∀ ι' a' w',St P ι h w ι' h' w'→Old ι h ι'→FFR ι' sz (get fr') a'.tmps→Marks n0 w' a'.defers→Q (Axb e) a' w')→g.wpIn F n P Q a w
theorem Old.trans {ι ι1 ι2:Inj} {h h1:Aa} (a:Old ι h ι1) (hl:h.length≤h1.length) (b:Old ι1 h1 ι2):Old ι h ι2:=fun x hx => (b x (Nat.lt_of_lt_of_le hx hl)).trans (a x hx)
theorem A3f {n0:Nat} {x y:Code} {K L:Fr→Aa→Out} (hx:Tl F n P n0 x K sz) (hK:N5 K) (hy:Tl F n P n0 y L sz):Tl F n P n0 (.seq x y) (fun fr h => Gl (K fr h) L) sz:=by
 intro Q ι h w fr a e fr' h' ws hv hs hf hm hn hi hq
 refine wpIn_seq ?_
 simp only [Gl] at hv
 split at hv
 ·rename_i fr1 h1 ws1 h1e
  split at hv
  ·rename_i e2 fr2 h2 ws2 h2e
   simp only [OI,Prod.mk.injEq] at hv
   obtain ⟨rfl,rfl,rfl,rfl⟩:=hv
   have kk:=hK _ _ _ _ _ _ h1e
   refine hx _ h1e hs hf hm hn hi.left fun ι1 a1 w1 st1 old1 hf1 hm1 => ?_
   exact hy Q h2e st1.sim hf1 hm1 (Nat.le_trans hn st1.size) (hi.right kk st1.sub) fun ι2 a2 w2 st2 old2 hf2 hm2 => hq ι2 a2 w2 (st1.trans st2) (old1.trans kk.len old2) hf2 hm2
  ·cases hv
 ·rename_i hne
  refine hx _ hv hs hf hm hn hi fun ι1 a1 w1 st1 old1 hf1 hm1 => ?_
  cases e with
  | normal => exact absurd hv (hne _ _ _)
  | exit id => exact hq ι1 a1 w1 st1 old1 hf1 hm1
  | ret => exact hq ι1 a1 w1 st1 old1 hf1 hm1
theorem Aro (hW:Wide F) (hcf:Lc P cf) (hk:Fk cf) {n0:Nat} {id:Nat} {ops:Array Oper} {ins:List Ins} (hi:ops.toList.mapM (cI P sz ops)=some ins) (live:List Nat) :
  Tl F n P n0 (.region id ops false) (fun fr h => Us live (Fs cf ins (get fr) h)) sz:=by
 intro Q ι h w fr a e fr' h' ws hv hs hf hm hn hir hq
 refine wpIn_region ?_
 simp only [Us] at hv
 split at hv
 ·rename_i f2 h2 ws2 hr
  simp only [OI,Prod.mk.injEq] at hv
  obtain ⟨rfl,rfl,rfl,rfl⟩:=hv
  obtain ⟨hlen,hat⟩:=Ao8 hi
  have hops:Ops P sz ops (List.range ops.size) ins:=by
   refine All2.of_at (by simpa using hlen) fun i j x hj hx => ?_
   have hlt:i<ops.size:=by have:=(GI.1 hj).1;simpa using this
   rw [List.getElem?_range hlt] at hj
   cases hj
   obtain ⟨b,hb1,hb2⟩:=hat i ops[i] (by simp [hlt])
   rw [hx] at hb1;cases hb1
   exact ⟨ops[i],by simp [hlt],hb2⟩
  refine Azs hW hcf hk hops hs hf hr fun ι' a' w' st old hf' hd => hq ι' a' w' st old (hf'.live live) ?_
  rw [hd];exact hm.step hs st
 ·cases hv
theorem Abn (r:List Ins):(List.range r.length).map (fun j => r.getD j dfl)=r:=by
 apply List.ext_getElem?
 intro i
 rw [List.getElem?_map]
 rcases Nat.lt_or_ge i r.length with hl | hl
 ·rw [List.getElem?_range hl,List.getElem?_eq_getElem hl]
  simp [hl]
 ·rw [List.getElem?_eq_none hl,List.getElem?_eq_none (by simpa using hl)];rfl
theorem Axh (hW:Wide F) (hcf:Lc P cf) (hk:Fk cf) (hmix:P.follows .mixedOrders=true) {n0:Nat} {id:Nat} {lo:Bool} {ops:Array Oper} {ins r:List Ins} {nn:Nat} (hi:ops.toList.mapM (cI P sz ops)=some ins) (hd:drawn lo ops ins=some (nn,r)) (live:List Nat) :
  Tl F n P n0 (.region id ops true) (fun fr h => Us live (Dt cf h.length r (get fr) (room h nn))) sz:=by
 intro Q ι h w fr a e fr' h' ws hv hs hf hm hn hir hq
 refine wpIn_region_any hmix ?_
 simp only [Us] at hv
 split at hv
 ·rename_i f2 h2 ws2 hr
  simp only [OI,Prod.mk.injEq] at hv
  obtain ⟨rfl,rfl,rfl,rfl⟩:=hv
  obtain ⟨hfree,hlen⟩:=Ame hi hd
  have st0:St P ι h w ι (room h nn) { w with drawn:=w.drawn+1 }:=(St.quiet hs (Quiet.drew w)).trans (St.room (St.quiet hs (Quiet.drew w)).sim nn)
  have hrl:=Auh h nn
  have hrun:Dt cf h.length ((List.range ops.size).map fun j => r.getD j dfl) (get fr) (room h nn)=some (f2,h2,ws2):=by
   rw [← hlen,Abn];exact hr
  refine A4l hW hcf hk hfree (m:=h.length) ops.size (Array.replicate ops.size false) (List.range ops.size) (by simp) (by simp) (fun j => ?_) List.pairwise_lt_range (fun k hk1 hk2 => ?_) st0.sim hf (by omega) (fun j hj hA => ?_) hrun fun ι' a' w' st old hf' hd' => ?_
  ·rw [List.mem_range]
   constructor
   ·intro hj;exact ⟨hj,by simp [Array.getD_eq_getD_getElem?,hj]⟩
   ·exact fun h => h.1
  ·rw [Array.getD_eq_getD_getElem?] at hk2;simp [hk1] at hk2
  ·have:=hfree.rank j (List.mem_range.1 hj) hA
   exact ⟨by omega,hs.dom _ (by omega)⟩
  ·refine hq ι' a' w' (st0.trans st) (fun b hb => old b hb) (hf'.live live) ?_
   rw [hd'];exact hm.step hs (st0.trans st)
 ·cases hv
end
end Go.L
