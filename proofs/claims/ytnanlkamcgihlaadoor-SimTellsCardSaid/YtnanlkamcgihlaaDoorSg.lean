/- THE LOGICAL MACHINE AND THE MODEL: blocks that are taken away. -/
import Derived.Test.YtnanlkamcgihlaaDoorSf
import Derived.Scope
set_option linter.unusedVariables false
set_option linter.unusedSimpArgs false
namespace Go.L
open Go
variable {P:Program} {ι ι1 ι2:Inj} {h:Aa} {w:World}
section
variable {r:Value}
theorem VR.func_inv {f:FuncId} {a b:List Value} (h:VR ι (.func (.func f) a.toArray b.toArray) r):∃ a' b':List Value,r = .func (.func f) a'.toArray b'.toArray ∧ VRs ι a a' ∧ VRs ι b b':=by
 generalize hv:(Value.func (.func f) a.toArray b.toArray) = v at h
 cases h with
 | func f c d => cases hv;exact ⟨_,_,rfl,c,d⟩
 | _ => cases hv
theorem VR.yield_inv {l:Nat} {a b:List Value} (h:VR ι (.func (.yield l) a.toArray b.toArray) r):∃ (m:Img) (a' b':List Value),ι l = some m ∧ r = .func (.yield m.rb) a'.toArray b'.toArray ∧ VRs ι a a' ∧ VRs ι b b':=by
 generalize hv:(Value.func (.yield l) a.toArray b.toArray) = v at h
 cases h with
 | yield e c d => cases hv;exact ⟨_,_,_,e,rfl,c,d⟩
 | _ => cases hv
theorem VR.iface_inv {t:TypeId} {v:Value} (h:VR ι (.iface t v) r):∃ v',r = .iface t v' ∧ VR ι v v':=by
 cases h with | iface t h => exact ⟨_,rfl,h⟩
theorem VR.aggl_inv {a:List Value} (h:VR ι (.agg a.toArray) r):∃ a':List Value,r = .agg a'.toArray ∧ VRs ι a a':=by
 generalize hv:(Value.agg a.toArray) = v at h
 cases h with
 | agg h => cases hv;exact ⟨_,rfl,h⟩
 | _ => cases hv
theorem VR.tuplel_inv {a:List Value} (h:VR ι (.tuple a.toArray) r):(Value.tuple a.toArray = Kj) ∨ ∃ a':List Value,r = .tuple a'.toArray ∧ VRs ι a a':=by
 generalize hv:(Value.tuple a.toArray) = v at h
 cases h with
 | any r => exact .inl rfl
 | tuple h => cases hv;exact .inr ⟨_,rfl,h⟩
 | _ => cases hv
end
theorem VR.under {ι ι':Inj} (hs:Sub ι ι') {v r:Value} (h:VR ι v r):∀ r1,VR ι' v r1 → VR ι v r1:=by
 induction h using VR.rec (motive_2:=fun l m _ => ∀ m1,All2 (VR ι') l m1 → All2 (VR ι) l m1) with
 | any r => intro r1 _;exact .any _
 | bool b => intro r1 k;rw [k.bool_inv];exact .bool _
 | int k n => intro r1 k;rw [k.int_inv];exact .int _ _
 | float k n => intro r1 k;cases k;exact .float _ _
 | complex k a b => intro r1 k;cases k;exact .complex _ _ _
 | string s => intro r1 k;rw [k.string_inv];exact .string _
 | nilp => intro r1 k;cases k;exact .nilp
 | ptr off h =>
  intro r1 k
  cases k with
  | ptr off h' => rw [hs _ _ h] at h';cases h';exact .ptr off h
 | nils n c => intro r1 k;cases k;exact .nils _ _
 | slice off n c h =>
  intro r1 k
  cases k with
  | slice off n c h' => rw [hs _ _ h] at h';cases h';exact .slice off n c h
  | slice0 off a h' => exact .slice0 off a h
 | slice0 off a h =>
  intro r1 k
  cases k with
  | slice off n c h' => rw [hs _ _ h] at h';cases h';exact .slice off _ _ h
  | slice0 off a h' => exact .slice0 off _ h
 | loose off s n c h hn hc =>
  intro r1 k
  cases k with
  | loose off s n c h' hn hc => rw [hs _ _ h] at h';cases h';exact .loose off s _ _ h hn hc
  | loose0 off s a h' => exact .loose0 off s _ h
 | loose0 off s a h =>
  intro r1 k
  cases k with
  | loose off s n c h' hn hc => rw [hs _ _ h] at h';cases h';exact .loose off s _ _ h hn hc
  | loose0 off s a h' => exact .loose0 off s _ h
 | nilm => intro r1 k;cases k;exact .nilm
 | map h =>
  intro r1 k
  cases k with
  | map h' => rw [hs _ _ h] at h';cases h';exact .map h
 | func f _ _ ha hb =>
  intro r1 k
  obtain ⟨g,o,rfl,d,h2⟩:=k.func_inv
  exact .func f (ha _ d) (hb _ h2)
 | yield h _ _ ha hb =>
  intro r1 k
  obtain ⟨m,g,o,j,rfl,d,h2⟩:=k.yield_inv
  rw [hs _ _ h] at j;cases j
  exact .yield h (ha _ d) (hb _ h2)
 | nilf => intro r1 k;cases k;exact .nilf
 | nili => intro r1 k;cases k;exact .nili
 | iface t _ ih =>
  intro r1 k
  obtain ⟨p,rfl,d⟩:=k.iface_inv
  exact .iface t (ih _ d)
 | agg _ ih =>
  intro r1 k
  obtain ⟨g,rfl,d⟩:=k.aggl_inv
  exact .agg (ih _ d)
 | tuple _ ih =>
  intro r1 k
  rcases k.tuplel_inv with e | ⟨g,rfl,d⟩
  ·rw [e];exact .any _
  ·exact .tuple (ih _ d)
 | nil => rename_i k;cases k;exact .nil
 | cons _ _ d h2 => rename_i k;cases k with | cons k1 k2 => exact .cons (d _ k1) (h2 _ k2)
theorem VR.low {ι ι':Inj} {m:Nat} (ho:∀ b,b < m → ι' b = ι b):∀ (d:Nat) {v r:Value},Ae m d v = true → VR ι' v r → VR ι v r:=by
 intro d
 induction d with
 | zero => intro v r h;simp [Ae] at h
 | succ d ih =>
  have all:∀ {l g:List Value},l.all (Ae m d) = true → VRs ι' l g → VRs ι l g:=by
   intro l g j h
   induction h with
   | nil => exact .nil
   | cons h1 _ ih2 => simp only [List.all_cons,Bool.and_eq_true] at j;exact .cons (ih j.1 h1) (ih2 j.2)
  intro v r e h
  cases h with
  | any r => exact .any _
  | bool b => exact .bool _
  | int k n => exact .int _ _
  | float k n => exact .float _ _
  | complex k a b => exact .complex _ _ _
  | string s => exact .string _
  | nilp => exact .nilp
  | ptr off h => simp only [Ae,decide_eq_true_eq] at e;exact .ptr off (ho _ e ▸ h)
  | nils n c => exact .nils _ _
  | slice off n c h => simp only [Ae,decide_eq_true_eq] at e;exact .slice off _ _ (ho _ e ▸ h)
  | slice0 off a h => simp only [Ae,decide_eq_true_eq] at e;exact .slice0 off _ (ho _ e ▸ h)
  | loose off s n c h h1 h2 => simp only [Ae,decide_eq_true_eq] at e;exact .loose off s _ _ (ho _ e ▸ h) h1 h2
  | loose0 off s a h => simp only [Ae,decide_eq_true_eq] at e;exact .loose0 off s _ (ho _ e ▸ h)
  | nilm => exact .nilm
  | map h => simp only [Ae,decide_eq_true_eq] at e;exact .map (ho _ e ▸ h)
  | func f ha hb => simp only [Ae,Bool.true_and,Bool.and_eq_true] at e;exact .func f (all e.1 ha) (all e.2 hb)
  | yield h ha hb => simp only [Ae,Bool.and_eq_true,decide_eq_true_eq] at e;exact .yield (ho _ e.1.1 ▸ h) (all e.1.2 ha) (all e.2 hb)
  | nilf => exact .nilf
  | nili => exact .nili
  | iface t h => simp only [Ae] at e;exact .iface t (ih e h)
  | agg h => simp only [Ae] at e;exact .agg (all e h)
  | tuple h => simp only [Ae] at e;exact .tuple (all e h)
theorem VR.ren {ι ι':Inj} {ρ : Nat → Option Nat} (ho:∀ b b' m,ρ b = some b' → ι b = some m → ι' b' = some m):∀ (d:Nat) {v v' r:Value},A7 ρ d v = some v' → VR ι v r → VR ι' v' r:=by
 intro d
 induction d with
 | zero => intro v v' r h;simp [A7] at h
 | succ d ih =>
  have o:∀ {l u z:List Value},l.mapM (A7 ρ d) = some u → VRs ι l z → VRs ι' u z:=by
   intro l
   induction l with
   | nil => intro u z j h;simp at j;subst j;cases h;exact .nil
   | cons x l ih2 =>
    intro u z j h
    simp only [List.mapM_cons,Option.bind_eq_bind,OB,Option.pure_def,OI] at j
    obtain ⟨y,hy,l2,a1,rfl⟩:=j
    cases h with
    | cons p h2 => exact .cons (ih hy p) (ih2 a1 h2)
  intro v v' r e h
  cases h with
  | any r =>
   simp only [Kj,A7,OM] at e
   obtain ⟨l,j,rfl⟩:=e
   cases d with
   | zero => simp [A7] at j
   | succ d =>
    simp [A7] at j
    subst j
    exact .any _
  | bool b => simp only [A7,OI] at e;subst e;exact .bool _
  | int k n => simp only [A7,OI] at e;subst e;exact .int _ _
  | float k n => simp only [A7,OI] at e;subst e;exact .float _ _
  | complex k a b => simp only [A7,OI] at e;subst e;exact .complex _ _ _
  | string s => simp only [A7,OI] at e;subst e;exact .string _
  | nilp => simp only [A7,OI] at e;subst e;exact .nilp
  | ptr off h => simp only [A7,OM] at e;obtain ⟨b',g,rfl⟩:=e;exact .ptr off (ho _ _ _ g h)
  | nils n c => simp only [A7,OI] at e;subst e;exact .nils _ _
  | slice off n c h => simp only [A7,OM] at e;obtain ⟨b',g,rfl⟩:=e;exact .slice off _ _ (ho _ _ _ g h)
  | slice0 off a h => simp only [A7,OM] at e;obtain ⟨b',g,rfl⟩:=e;exact .slice0 off _ (ho _ _ _ g h)
  | loose off s n c h p h2 => simp only [A7,OM] at e;obtain ⟨b',g,rfl⟩:=e;exact .loose off s _ _ (ho _ _ _ g h) p h2
  | loose0 off s a h => simp only [A7,OM] at e;obtain ⟨b',g,rfl⟩:=e;exact .loose0 off s _ (ho _ _ _ g h)
  | nilm => simp only [A7,OI] at e;subst e;exact .nilm
  | map h => simp only [A7,OM] at e;obtain ⟨b',g,rfl⟩:=e;exact .map (ho _ _ _ g h)
  | func f ha g =>
   simp only [A7,OB,OM] at e
   obtain ⟨a',p,b',h2,rfl⟩:=e
   exact .func f (o p ha) (o h2 g)
  | yield h ha g => simp [A7] at e
  | nilf => simp only [A7,OI] at e;subst e;exact .nilf
  | nili => simp only [A7,OI] at e;subst e;exact .nili
  | iface t h => simp only [A7,OM] at e;obtain ⟨v2,a0,rfl⟩:=e;exact .iface t (ih a0 h)
  | agg h => simp only [A7,OM] at e;obtain ⟨l,j,rfl⟩:=e;exact .agg (o j h)
  | tuple h => simp only [A7,OM] at e;obtain ⟨l,j,rfl⟩:=e;exact .tuple (o j h)
theorem FFR.under {ι ι':Inj} (hs:Sub ι ι') {sz:Nat} {f:FF} {t t':Array Value} (h:FFR ι sz f t) (k:FFR ι' sz f t'):FFR ι sz f t':=⟨k.size,fun s => (h.at_ s).under hs _ (k.at_ s)⟩
theorem ObjR.under {ι ι':Inj} (hs:Sub ι ι') {w w':World} {m:Img} {o:LObj} (h:ObjR P ι w m o) (k:ObjR P ι' w' m o):ObjR P ι w' m o:=by
 cases k with
 | cells a b c d e f =>
  cases h with
  | cells a' b' c' d' e' f' =>
   refine .cells a b c (fun i v u => ?_) e f
   obtain ⟨r,j,h2⟩:=d i v u
   obtain ⟨r',_,t⟩:=d' i v u
   exact ⟨r,j,t.under hs _ h2⟩
 | map a b =>
  cases h with
  | map a' b' =>
   refine .map a ?_
   clear a a'
   rename_i es p _ s _
   generalize p.toList = l1 at b
   generalize s.toList = l2 at b'
   induction b generalizing l2 with
   | nil => exact .nil
   | cons j _ ih =>
    cases b' with
    | cons l k2 => exact .cons ⟨j.1,l.2.under hs _ j.2⟩ (ih _ k2)
 | loop a b c d e f g =>
  cases h with
  | loop a' b' c' d' e' f' g' => exact .loop a b c d (e'.under hs e) f g
 | bld a b c d e =>
  cases h with
  | bld a' b' c' d' e' =>
   refine .bld a b c d ?_
   rename_i r _ _ _
   cases r with
   | none => exact e
   | some x =>
    obtain ⟨x,n⟩:=x
    obtain ⟨z,j,h2,y⟩:=e
    obtain ⟨m2,l,_,_⟩:=e'
    have:=hs _ _ l
    rw [j] at this;cases this
    exact ⟨z,l,h2,y⟩
 | bytes a b c d e => exact .bytes a b c d e
theorem ObjR.low {ι ι':Inj} {n:Nat} (ho:∀ b,b < n → ι' b = ι b) {w:World} {m:Img} {o:LObj} (hn:F9 n (some o) = true) (hl:o ≠ .dead) (k:ObjR P ι' w m o):ObjR P ι w m o:=by
 cases k with
 | cells a b c d e f =>
  refine .cells a b c (fun i v p => ?_) e f
  obtain ⟨r,j,h2⟩:=d i v p
  simp only [F9,List.all_eq_true] at hn
  exact ⟨r,j,VR.low ho 4 (hn v (List.mem_of_getElem? p)) h2⟩
 | map a b =>
  refine .map a ?_
  simp only [F9] at hn
  clear a
  rename_i t l _
  generalize l.toList = l1 at b
  induction b with
  | nil => exact .nil
  | cons j _ ih =>
   simp only [List.all_cons,Bool.and_eq_true] at hn
   exact .cons ⟨j.1,VR.low ho 4 hn.1.2 j.2⟩ (ih hn.2 (by simp))
 | loop a b c d e f g => simp [F9] at hn
 | bld a b c d e =>
  refine .bld a b c d ?_
  rename_i r
  cases r with
  | none => exact e
  | some x =>
   obtain ⟨x,n⟩:=x
   simp only [F9,decide_eq_true_eq] at hn
   obtain ⟨s,j,h2⟩:=e
   exact ⟨s,by rw [← ho _ hn];exact j,h2⟩
 | bytes a b c d e => exact .bytes a b c d e
theorem ObjR.ren {ι ι':Inj} {ρ : Nat → Option Nat} (ho:∀ b b' m,ρ b = some b' → ι b = some m → ι' b' = some m) {w:World} {m:Img} {o o':LObj} (hr:Og ρ o = some o') (k:ObjR P ι w m o):ObjR P ι' w m o' ∧ o'.wr = o.wr:=by
 cases k with
 | @cells c ro arr t fz a b cc d e f =>
  simp only [Og] at hr
  split at hr
  ·cases hr
  ·rename_i a4
   simp only [OM] at hr
   obtain ⟨c',z,rfl⟩:=hr
   have h2:=O6 z
   have l:=h2.length
   have a0:ro = false:=by simpa using a4
   subst a0
   refine ⟨.cells a b (by omega) (fun i v hv => ?_) (fun _ => e rfl) ?_,rfl⟩
   ·have u:i < c.length:=by rw [l];exact (GI.1 hv).1
    obtain ⟨v2,s,a1⟩:=h2.at_ (i:=i) (a:=c[i]) (by simp [u])
    rw [hv] at s;cases s
    obtain ⟨r,j,h3⟩:=d i c[i] (by simp [u])
    exact ⟨r,j,VR.ren ho 4 a1 h3⟩
   ·clear z l cc d e a b
    induction h2 with
    | nil => rfl
    | @cons x y _ _ j _ ih =>
     simp only [List.all_cons,Bool.and_eq_true] at f ⊢
     refine ⟨?_,ih f.2⟩
     cases x <;> first | (simp [Ag] at f;done) | skip
     all_goals
      simp only [A7] at j
     case pointer p => cases p <;> simp only [A7,OI,OM] at j <;> first | (obtain ⟨_,_,rfl⟩:=j;rfl) | (subst j;rfl)
     case slice p n c => cases p <;> simp only [A7,OI,OM] at j <;> first | (obtain ⟨_,_,rfl⟩:=j;rfl) | (subst j;rfl)
     case map p => cases p <;> simp only [A7,OI,OM] at j <;> first | (obtain ⟨_,_,rfl⟩:=j;rfl) | (subst j;rfl)
     case func fn p q => cases fn <;> simp only [A7,OB,OM] at j <;> first | (obtain ⟨_,_,_,_,rfl⟩:=j;rfl) | (cases j;done)
     case iface t v => simp only [OM] at j;obtain ⟨_,_,rfl⟩:=j;rfl
     all_goals first | (simp only [OI] at j;subst j;rfl) | (cases j;done)
 | @map es es1 clock a b =>
  simp only [Og,OM] at hr
  obtain ⟨a3,z,rfl⟩:=hr
  refine ⟨.map a ?_,rfl⟩
  have h2:=O6 z
  clear z a
  generalize es1.toList = l1 at b
  induction b generalizing a3 with
  | nil => cases h2;exact .nil
  | cons j _ ih =>
   cases h2 with
   | cons k1 k2 =>
    split at k1
    ·simp only [OM] at k1
     obtain ⟨v',a2,rfl⟩:=k1
     exact .cons ⟨j.1,VR.ren ho 4 a2 j.2⟩ (ih _ k2)
    ·cases k1
 | loop a b c d e f g => simp [Og] at hr
 | bld a b c d e => simp [Og] at hr
 | bytes a b c d e => simp [Og] at hr
theorem T6 {m:Nat} {h:Aa}:∀ (n:Nat) (q seen:List Nat),seen.Nodup → (∀ x ∈ seen,m ≤ x) → (∀ x ∈ q,m ≤ x) → (reach m h n q seen).Nodup ∧ ∀ x ∈ reach m h n q seen,m ≤ x
 | 0,q,seen,a,h2,h3 => by simp only [reach];exact ⟨a,h2⟩
 | n + 1,[],seen,a,h2,h3 => by simp only [reach];exact ⟨a,h2⟩
 | n + 1,b :: q,seen,a,h2,h3 => by
  simp only [reach]
  split
  ·exact T6 n q seen a h2 fun x hx => h3 x (by simp [hx])
  ·rename_i d
   refine T6 n _ _ ?_ ?_ ?_
   ·rw [List.nodup_append]
    exact ⟨a,by simp,fun x hx y c => by simp at c;subst c;exact fun e => d (e ▸ hx)⟩
   ·intro x hx
    rcases List.mem_append.1 hx with hx | hx
    ·exact h2 x hx
    ·simp at hx;subst hx;exact h3 _ (by simp)
   ·intro x hx
    rcases List.mem_append.1 hx with hx | hx
    ·exact h3 x (by simp [hx])
    ·exact Ahl _ hx
theorem At9 {l:List Nat} (h:l.Nodup) {i j x:Nat} (hi:l[i]? = some x) (hj:l[j]? = some x):i = j:=by
 have a:=(GI.1 hi)
 have h2:=(GI.1 hj)
 exact (List.getElem_inj h).1 (a.2.trans h2.2.symm)
theorem Auq {l:List Nat} {b k:Nat} (h:l.idxOf? b = some k):l[k]? = some b:=by
 induction l generalizing k with
 | nil => simp at h
 | cons x l ih =>
  rw [List.idxOf?_cons] at h
  split at h
  ·rename_i e;simp only [OI] at h;subst h;simp at e;simp [e]
  ·simp only [OM] at h
   obtain ⟨j,a,rfl⟩:=h
   simpa using ih a
theorem Auw {h0:Aa} {h h':Aa} {w w':World} {ι ι1:Inj} {v v' r:Value} {ws ws':List Nat} (hs:Sim P ι h0 w) (st:St P ι h0 w ι1 h w') (old:Old ι h0 ι1) (hk:Keeps h0.length h0 h ws) (hv:VR ι1 v r) (hg:gc h0 v h ws = some (v',h',ws')) :
  ∃ ι',St P ι h0 w ι' h' w' ∧ Old ι h0 ι' ∧ VR ι' v' r:=by
 have n:∀ b o,b ∉ ws → h0[b]? = some o → o ≠ .dead → ∃ m,ι b = some m ∧ ObjR P ι w' m o:=by
  intro b o d ho t
  obtain ⟨m,j,z⟩:=hs.obj b o ho t
  have a8:b < h0.length:=(GI.1 ho).1
  obtain ⟨m',ah,h2⟩:=st.sim.obj b o ((hk.at_ b a8 d).trans ho) t
  rw [st.sub _ _ j] at ah;cases ah
  exact ⟨m,j,z.under st.sub h2⟩
 have am:∀ {b o m},h0[b]? = some o → b ∉ ws → ι b = some m → h[b]? = some o ∧ ι1 b = some m:=by
  intro b o m ho d j
  exact ⟨(hk.at_ b (GI.1 ho).1 d).trans ho,st.sub _ _ j⟩
 unfold gc at hg
 split at hg
 ·rename_i hf
  have a0:∀ b,b < h0.length → b ∉ ws:=by
   intro b d j
   have:b ∈ ws.filter (fun b => decide (b < h0.length)):=List.mem_filter.2 ⟨j,by simpa using d⟩
   rw [hf] at this;cases this
  split at hg
  ·rename_i ab
   simp only [OI,Prod.mk.injEq] at hg;obtain ⟨rfl,rfl,rfl⟩:=hg
   refine ⟨ι,⟨Sub.refl _,⟨hs.dom,fun b o d t => n b o (a0 b (GI.1 d).1) d t,hs.glob,hs.inj⟩,st.size,st.os,st.tape,st.output,st.keep,fun _ h _ => h⟩,Old.refl _ _,VR.low old 4 ab hv⟩
  ·unfold Tb at hg
   simp only at hg
   obtain ⟨al,ag⟩:=T6 (m:=h0.length) (h:=h) 20000 (news h0.length 4 v) [] (by simp) (by simp) (fun x f => Nz _ _ _ f)
   generalize reach h0.length h 20000 (news h0.length 4 v) [] = ord at hg al ag
   split at hg
   ·rename_i v2 os an aq
    simp only [OI,Prod.mk.injEq] at hg;obtain ⟨rfl,rfl,rfl⟩:=hg
    have ae:=O6 aq
    have ad:=ae.length
    let ι2:Inj:=fun b => if b < h0.length then ι b else (ord[b - h0.length]?).bind ι1
    have a5:∀ b b' m,place h0.length ord b = some b' → ι1 b = some m → ι2 b' = some m:=by
     intro b b' m d j
     unfold place at d
     split at d
     ·rename_i hl
      simp only [OI] at d;subst d
      show (if b < h0.length then ι b else _) = _
      rw [if_pos hl,← old b hl,j]
     ·simp only [OM] at d
      obtain ⟨k,au,rfl⟩:=d
      show (if h0.length + k < h0.length then _ else (ord[h0.length + k - h0.length]?).bind ι1) = _
      rw [if_neg (by omega),Nat.add_sub_cancel_left,Auq au]
      exact j
    have a1:Sub ι ι2:=by
     intro b m d
     have hl:=hs.lt d
     show (if b < h0.length then ι b else _) = _
     rw [if_pos hl,d]
    have live:∀ x o,(h0 ++ os)[x]? = some o → o ≠ .dead → (x < h0.length ∧ h0[x]? = some o) ∨ ∃ k b p,x = h0.length + k ∧ ord[k]? = some b ∧ h[b]? = some p ∧ p ≠ .dead ∧ Og (place h0.length ord) p = some o:=by
     intro x o f t
     rcases Nat.lt_or_ge x h0.length with hl | hl
     ·rw [GL hl] at f;exact .inl ⟨hl,f⟩
     ·rw [List.getElem?_append_right hl] at f
      have a8:x - h0.length < ord.length:=by rw [ad];exact (GI.1 f).1
      obtain ⟨o2,ak,a6⟩:=ae.at_ (i:=x - h0.length) (a:=ord[x - h0.length]) (by simp [a8])
      rw [f] at ak;cases ak
      refine .inr ⟨x - h0.length,ord[x - h0.length],h.getD ord[x - h0.length] .dead,by omega,by simp [a8],?_,?_,a6⟩
      ·cases d:h[ord[x - h0.length]]? with
       | none => rw [List.getD_eq_getElem?_getD,d] at a6;simp [Og] at a6
       | some p => simp [d]
      ·intro e;rw [e] at a6;simp [Og] at a6
    have hι2k:∀ (k b:Nat),ord[k]? = some b → ι2 (h0.length + k) = ι1 b:=by
     intro k b d
     show (if h0.length + k < h0.length then _ else (ord[h0.length + k - h0.length]?).bind ι1) = _
     rw [if_neg (by omega),Nat.add_sub_cancel_left,d];rfl
    have hι2l:∀ b,b < h0.length → ι2 b = ι b:=fun b d => if_pos d
    have back:∀ x o m,(h0 ++ os)[x]? = some o → o ≠ .dead → ι2 x = some m → ∃ b p,h[b]? = some p ∧ p ≠ .dead ∧ ι1 b = some m ∧ p.wr = o.wr ∧ ((x < h0.length ∧ b = x) ∨ ∃ k,x = h0.length + k ∧ ord[k]? = some b):=by
     intro x o m f t j
     rcases live x o f t with ⟨hl,ho⟩ | ⟨k,b,p,rfl,d,a9,a2,hr⟩
     ·rw [hι2l x hl] at j
      obtain ⟨z,h2⟩:=am ho (a0 x hl) j
      exact ⟨x,o,z,t,h2,rfl,.inl ⟨hl,rfl⟩⟩
     ·rw [hι2k k b d] at j
      obtain ⟨m',ah,a3⟩:=st.sim.obj b p a9 a2
      exact ⟨b,p,a9,a2,j,(a3.ren a5 hr).2.symm,.inr ⟨k,rfl,d⟩⟩
    refine ⟨ι2,⟨a1,⟨fun b d => ?_,fun x o f t => ?_,fun g hg => let ⟨s,h⟩:=hs.glob g hg;⟨s,a1 _ _ h⟩,?_⟩,st.size,st.os,st.tape,st.output,st.keep,?_⟩,fun b d => hι2l b d,VR.ren a5 4 an hv⟩
    ·show (if b < h0.length then ι b else _) = _
     simp only [LA] at d
     rw [if_neg (by omega),List.getElem?_eq_none (by omega)];rfl
    ·rcases live x o f t with ⟨hl,ho⟩ | ⟨k,b,p,rfl,d,a9,a2,hr⟩
     ·obtain ⟨m,j,z⟩:=n x o (a0 x hl) ho t
      exact ⟨m,a1 _ _ j,z.sub a1⟩
     ·obtain ⟨m,j,z⟩:=st.sim.obj b p a9 a2
      exact ⟨m,(hι2k k b d).trans j,(z.ren a5 hr).1⟩
    ·intro x y o1 o2 m1 m2 f hy a7 af z h2 aa
     obtain ⟨b,p,e1,e2,e3,e4,e5⟩:=back x o1 m1 f (LObj.live_of_wr a7) z
     obtain ⟨c,oc,f1,f2,f3,f4,f5⟩:=back y o2 m2 hy af h2
     refine st.sim.inj b c p oc m1 m2 e1 f1 (by rw [e4];exact a7) f2 e3 f3 fun ap => ?_
     subst ap
     rcases e5 with ⟨e5,e6⟩ | ⟨k,e5,e6⟩
     ·rcases f5 with ⟨f5,f6⟩ | ⟨k',f5,f6⟩
      ·exact aa (e6.symm.trans f6)
      ·have:=ag b (List.mem_of_getElem? f6);omega
     ·rcases f5 with ⟨f5,f6⟩ | ⟨k',f5,f6⟩
      ·have:=ag b (List.mem_of_getElem? e6);omega
      ·exact aa (by rw [e5,f5,At9 al e6 f6])
    ·rintro rb ⟨x,o,m,f,ac,j,rfl⟩ hl
     obtain ⟨b,p,e1,e2,e3,e4,e5⟩:=back x o m f (LObj.live_of_wr ac) j
     exact st.new m.rb ⟨b,p,m,e1,by rw [e4];exact ac,e3,rfl⟩ hl
   ·simp only [OI,Prod.mk.injEq] at hg;obtain ⟨rfl,rfl,rfl⟩:=hg
    exact ⟨ι1,st,old,hv⟩
 ·rename_i u us hf
  split at hg
  ·rename_i ab
   simp only [Bool.and_eq_true] at ab
   obtain ⟨ao,ar⟩:=ab
   simp only [OI,Prod.mk.injEq] at hg;obtain ⟨rfl,rfl,rfl⟩:=hg
   have aj:∀ b,b < h0.length → b ∈ ws → b ∈ u :: us:=by
    intro b d j
    have:b ∈ ws.filter (fun b => decide (b < h0.length)):=List.mem_filter.2 ⟨j,by simpa using d⟩
    rwa [hf] at this
   have ad:=hk.len
   have at_:∀ (x:Nat) (o:LObj),(h.take h0.length)[x]? = some o → x < h0.length ∧ h[x]? = some o:=by
    intro x o f
    have hl:x < h0.length:=by have:=(GI.1 f).1;simp at this;omega
    rw [List.getElem?_take_of_lt hl] at f;exact ⟨hl,f⟩
   have a4:∀ (x:Nat) (o:LObj),x < h0.length → h[x]? = some o → o ≠ .dead → ∃ m,ι x = some m ∧ ι1 x = some m ∧ ObjR P ι w' m o:=by
    intro x o hl f t
    by_cases d:x ∈ ws
    ·obtain ⟨m,j,a3⟩:=st.sim.obj x o f t
     have ai:=List.all_eq_true.1 ar x (aj x hl d)
     rw [f] at ai
     exact ⟨m,by rw [← old x hl];exact j,j,a3.low old ai t⟩
    ·have h3:=(hk.at_ x hl d).symm.trans f
     obtain ⟨m,j,z⟩:=n x o d h3 t
     exact ⟨m,j,st.sub _ _ j,z⟩
   refine ⟨ι,⟨Sub.refl _,⟨fun b d => hs.dom b (by simp at d;omega),fun x o f t => ?_,hs.glob,?_⟩,st.size,st.os,st.tape,st.output,st.keep,?_⟩,Old.refl _ _,VR.low old 4 ao hv⟩
   ·obtain ⟨hl,f⟩:=at_ x o f
    obtain ⟨m,z,_,h2⟩:=a4 x o hl f t
    exact ⟨m,z,h2⟩
   ·intro x y o1 o2 m1 m2 f hy a7 af z h2 aa
    exact st.sim.inj x y o1 o2 m1 m2 (at_ x o1 f).2 (at_ y o2 hy).2 a7 af (st.sub _ _ z) (st.sub _ _ h2) aa
   ·rintro rb ⟨x,o,m,f,ac,j,rfl⟩ hl
    exact st.new m.rb ⟨x,o,m,(at_ x o f).2,ac,st.sub _ _ j,rfl⟩ hl
  ·simp only [OI,Prod.mk.injEq] at hg;obtain ⟨rfl,rfl,rfl⟩:=hg
   exact ⟨ι1,st,old,hv⟩
end Go.L
namespace Go.L
open Go
variable {P:Program} {ι : Inj} {h:Aa} {w:World}
def Au3:Ex → Exit
 | .normal => .normal
 | .exit id => .exit id
 | .ret => .ret
section
variable {F:Fence} {n:Nat} {Q:Exit → Act → World → Prop} {a:Act}
theorem Ajj {c:Code} (h:c.wpIn F n P (Exit.noGoto Q) a w):(Code.scope c).wpIn F n P Q a w:=by
 intro b k j t u v
 have o:(lone (b.atR a (.code (.scope c) :: k)) j w).fenced P F:=fenced_calm u v rfl
 have p:step P (lone (b.atR a (.code (.scope c) :: k)) j w) = .next (lone (b.atR a (.code c :: .inScope c :: k)) j w):=step_lone_go (by simp [stepG,stepG.exec,Frame.atR])
 obtain ⟨e,f,g,m,d⟩:=h b (.inScope c :: k) j t u v
 cases e with
 | normal =>
  have z:step P (lone (b.atR f (.inScope c :: k)) j g) = .next (lone (b.atR f k) j g):=step_lone_go (by simp [stepG,stepG.exec,Frame.atR])
  exact ⟨.normal,f,g,m,.head o p (StepsIn.trans d (.one (fenced_calm u v rfl) z))⟩
 | exit id =>
  have x:exitTo id (.inScope c :: k) = exitTo id k:=by simp [exitTo]
  exact ⟨.exit id,f,g,m,fun y s => .head o p (d.1 y (by rw [x];exact s)),fun r s => let ⟨k₁,h1,h2⟩:=d.2 r (by rw [x];exact s);⟨k₁,h1,.head o p h2⟩⟩
 | goto l => exact m.elim
 | ret => exact ⟨_,f,g,m,.of_steps (.one o p) d⟩
 | panic ch => exact ⟨_,f,g,m,.of_steps (.one o p) d⟩
 | outgrown => exact ⟨_,f,g,m,.of_steps (.one o p) d⟩
def Afb (F:Fence) (n:Nat) (P:Program) (c:Code) (Q:Exit → Act → World → Prop) (a:Act) (w:World):Prop :=
 ∀ (b:Frame) (k:List Item) (cs:List Frame),b.roundOf = F.round → F.fn b.fn → F.room (cs.length + 1 + n) →
  ∃ e a' w',Q e a' w' ∧ ArrivesIn (Machine.fenced P F) P (lone (b.atR a (.code c :: .inLoop c :: k)) cs w) b k cs e a' w'
theorem Aen {c:Code} (h:c.wpIn F n P (Exit.then (Afb F n P c Q) Q) a w):Afb F n P c Q a w:=by
 intro b k t j r s
 obtain ⟨e,m,o,g,d⟩:=h b (.inLoop c :: k) t j r s
 cases e with
 | normal =>
  obtain ⟨v,u,y,p,f⟩:=g b k t j r s
  exact ⟨v,u,y,p,.of_steps (StepsIn.trans d (.one (fenced_calm r s rfl) stepR_inLoop)) f⟩
 | exit id => exact ⟨_,m,o,g,.pass (x:=.inLoop c) rfl (fun _ _ => .inl (by simp)) d⟩
 | goto l => exact ⟨_,m,o,g,.pass (x:=.inLoop c) rfl (fun _ _ => .inl (by simp)) d⟩
 | ret => exact ⟨_,m,o,g,.pass (x:=.inLoop c) rfl (fun _ _ => .inl (by simp)) d⟩
 | panic ch => exact ⟨_,m,o,g,.pass (x:=.inLoop c) rfl (fun _ _ => .inl (by simp)) d⟩
 | outgrown => exact ⟨_,m,o,g,.pass (x:=.inLoop c) rfl (fun _ _ => .inl (by simp)) d⟩
theorem Aff {c:Code} (h:Afb F n P c Q a w):(Code.loop c).wpIn F n P Q a w:=by
 intro b k m f g j
 obtain ⟨e,p,o,l,d⟩:=h b k m f g j
 exact ⟨e,p,o,l,.of_steps (.one (fenced_calm g j rfl) stepR_loop) d⟩
end
def Marks (n0:Nat) (w:World):List Deferred → Prop
 | [] => True
 | d :: ds => (∃ r,d.target = .collected r ∧ w.heap[r]? = some (.deferred (some [])) ∧ n0 ≤ r ∧ ∀ d' ∈ ds,d'.target ≠ .collected r) ∧ Marks n0 w ds
theorem A0d {r:Nat} {ds:Option (List Deferred)} (hs:Sim P ι h w) (hr:w.heap[r]? = some (.deferred ds)):¬ Wr ι h r:=by
 rintro ⟨b,o,m,g,e,f,rfl⟩
 obtain ⟨j,d,c⟩:=hs.obj b o g (LObj.live_of_wr e)
 rw [f] at d;cases d
 cases c with
 | cells a => rw [hr] at a;cases a
 | map a => rw [hr] at a;cases a
 | loop a => rw [hr] at a;cases a
 | bld a => rw [hr] at a;cases a
 | bytes a => rw [hr] at a;cases a
theorem St.deferred {ι':Inj} {h':Aa} {w':World} (hs:Sim P ι h w) (st:St P ι h w ι' h' w') {r:Nat} {ds:Option (List Deferred)} (hr:w.heap[r]? = some (.deferred ds)):w'.heap[r]? = some (.deferred ds) :=
 (st.keep r (Array.getElem?_eq_some_iff.1 hr).1 (A0d hs hr)).trans hr
theorem Marks.step {n0:Nat} {ι':Inj} {h':Aa} {w':World} (hs:Sim P ι h w) (st:St P ι h w ι' h' w'):∀ {ds:List Deferred},Marks n0 w ds → Marks n0 w' ds
 | [],_ => trivial
 | d :: ds,⟨⟨r,c,h2,a,e⟩,h5⟩ => ⟨⟨r,c,st.deferred hs h2,a,e⟩,Marks.step hs st h5⟩
def InR (F:Fence) (ι : Inj) (h:Aa) (ws:List Nat):Prop:=∀ lr,F.round = some lr → ∃ l r m,h[l]? = some (.loop r) ∧ ι l = some m ∧ m.rb = lr ∧ l ∉ ws
theorem InR.left {F:Fence} {ws ws':List Nat} (hi:InR F ι h (ws ++ ws')):InR F ι h ws:=fun lr hl =>
 let ⟨l,r,m,h1,h2,h3,h4⟩:=hi lr hl;⟨l,r,m,h1,h2,h3,fun hm => h4 (List.mem_append_left _ hm)⟩
theorem InR.right {F:Fence} {ι':Inj} {h':Aa} {ws ws':List Nat} (hi:InR F ι h (ws ++ ws')) (hk:Keeps h.length h h' ws) (hs:Sub ι ι'):InR F ι' h' ws':=fun lr hl =>
 let ⟨l,r,m,h1,h2,h3,h4⟩:=hi lr hl
 ⟨l,r,m,(hk.at_ l (GI.1 h1).1 fun hm => h4 (List.mem_append_left _ hm)).trans h1,hs _ _ h2,h3,fun hm => h4 (List.mem_append_right _ hm)⟩
theorem St.room (hs:Sim P ι h w) (n:Nat):St P ι h w ι (room h n) w:=by
 cases n with
 | zero => exact St.refl hs
 | succ n =>
  have a:∀ (x:Nat) (o:LObj),(h ++ List.replicate (n + 1) LObj.dead)[x]? = some o → o ≠ .dead → h[x]? = some o:=by
   intro x o c f
   rcases Nat.lt_or_ge x h.length with hl | hl
   ·rwa [GL hl] at c
   ·rw [List.getElem?_append_right hl] at c
    exact absurd (List.eq_of_mem_replicate (List.mem_of_getElem? c)) f
  refine ⟨Sub.refl _,⟨fun b t => hs.dom b (by simp [Go.L.room] at t;omega),fun x o c f => hs.obj x o (a x o c f) f,hs.glob,?_⟩,Nat.le_refl _,rfl,rfl,rfl,fun _ _ _ => rfl,?_⟩
  ·intro x y j p v r c z e d u h2 g
   exact hs.inj x y j p v r (a x j c (LObj.live_of_wr e)) (a y p z d) e d u h2 g
  ·rintro rb ⟨x,o,m,c,l,s,rfl⟩ _
   exact ⟨x,o,m,a x o c (LObj.live_of_wr l),l,s,rfl⟩
theorem Ask (h:Aa) (n:Nat):(room h n).length = h.length + n:=by
 cases n with
 | zero => rfl
 | succ n => simp [room]
theorem Zr:∀ {r:List Ins} {n:Nat},Yl r n = true → (∀ (i:Nat) (x:Ins),r[i]? = some x → cls x.o = .A → x.rank < n) ∧ ∀ (i j:Nat) (x y:Ins),r[i]? = some x → r[j]? = some y → i < j → cls x.o = .A → cls y.o = .A → x.rank ≠ y.rank
 | [],n,_ => ⟨fun i x h => by simp at h,fun i j x y h => by simp at h⟩
 | z :: r,n,h => by
  simp only [Yl,Bool.and_eq_true] at h
  obtain ⟨c,h2⟩:=h
  obtain ⟨m,p⟩:=Zr h2
  refine ⟨fun i x a d => ?_,fun i j x y a g l d f => ?_⟩
  ·cases i with
   | zero =>
    simp at a;subst a
    rw [d] at c;simp only [Bool.and_eq_true,decide_eq_true_eq] at c
    exact c.1
   | succ i => exact m i x (by simpa using a) d
  ·cases j with
   | zero => omega
   | succ j =>
    cases i with
    | zero =>
     simp at a;subst a
     rw [d] at c;simp only [Bool.and_eq_true,decide_eq_true_eq] at c
     have:=List.all_eq_true.1 c.2 y (List.mem_of_getElem? (by simpa using g))
     rw [f] at this
     simp at this
     exact fun e => this e.symm
    | succ i => exact p i j x y (by simpa using a) (by simpa using g) (by omega) d f
theorem Anq {α β : Type} {g:α → Option β} {l:List α} {m:List β} (h:l.mapM g = some m):l.length = m.length ∧ ∀ (i:Nat) a,l[i]? = some a → ∃ b,m[i]? = some b ∧ g a = some b:=by
 have:=O6 h
 exact ⟨this.length,fun i a c => this.at_ c⟩
theorem Vx {sz:Nat} {ops:Array Oper} {ins r:List Ins} {n:Nat} {zz:List (Bool × Nat × Bool)} (hi:ops.toList.mapM (cI P sz ops) = some ins) (hd:Yt ops ins zz = some (n,r)):A1f P sz ops r n ∧ r.length = ops.size:=by
 unfold Yt at hd
 simp only at hd
 obtain ⟨a0,y⟩:=Anq hi
 split at hd
 ·rename_i hc
  simp only [OI,Prod.mk.injEq] at hd
  obtain ⟨rfl,rfl⟩:=hd
  simp only [Bool.and_eq_true,decide_eq_true_eq] at hc
  obtain ⟨⟨⟨c1,c2⟩,c3⟩,c4⟩:=hc
  have d:∀ i,i < ops.size → ∃ f z,ins[i]? = some f ∧ zz[i]? = some z ∧ (List.zipWith (fun (i:Ins) (x:Bool × Nat × Bool) => { i with flag:=x.1,rank:=x.2.1,loose:=x.2.2 }) ins zz)[i]? = some { f with flag:=z.1,rank:=z.2.1,loose:=z.2.2 }:=by
   intro i hi
   have hl:i < (List.zipWith (fun (i:Ins) (x:Bool × Nat × Bool) => { i with flag:=x.1,rank:=x.2.1,loose:=x.2.2 }) ins zz).length:=by omega
   have u:=hl
   rw [List.length_zipWith] at u
   refine ⟨ins[i]'(by omega),zz[i]'(by omega),by simp,by simp,?_⟩
   rw [List.getElem?_eq_getElem hl]
   simp
  have hD:∀ (i:Nat) x,(List.zipWith (fun (i:Ins) (x:Bool × Nat × Bool) => { i with flag:=x.1,rank:=x.2.1,loose:=x.2.2 }) ins zz)[i]? = some x → (List.zipWith (fun (i:Ins) (x:Bool × Nat × Bool) => { i with flag:=x.1,rank:=x.2.1,loose:=x.2.2 }) ins zz).getD i dfl = x:=by
   intro i x p;rw [List.getD_eq_getElem?_getD,p];rfl
  have a:∀ i,i < ops.size → (List.zipWith (fun (i:Ins) (x:Bool × Nat × Bool) => { i with flag:=x.1,rank:=x.2.1,loose:=x.2.2 }) ins zz)[i]? = some ((List.zipWith (fun (i:Ins) (x:Bool × Nat × Bool) => { i with flag:=x.1,rank:=x.2.1,loose:=x.2.2 }) ins zz).getD i dfl):=by
   intro i hi
   obtain ⟨f,z,_,_,l⟩:=d i hi
   rw [hD i _ l];exact l
  obtain ⟨r1,r2⟩:=Zr c2
  refine ⟨⟨fun i hi => ?_,fun i j c s v => ?_,fun i o ho e he v => ?_,fun i hi m => r1 i _ (a i hi) m,fun i j hi s c m hB => ?_⟩,c3⟩
  ·obtain ⟨f,z,h1,h2,l⟩:=d i hi
   obtain ⟨b,g,t⟩:=y i ops[i] (by simp [hi])
   rw [h1] at g;cases g
   rw [hD i _ l]
   exact ⟨ops[i],f,by simp [hi],t,rfl,rfl,rfl⟩
  ·have p:∀ k,k < ops.size → ((List.zipWith (fun (i:Ins) (x:Bool × Nat × Bool) => { i with flag:=x.1,rank:=x.2.1,loose:=x.2.2 }) ins zz).getD k dfl,k) ∈ (List.zipWith (fun (i:Ins) (x:Bool × Nat × Bool) => { i with flag:=x.1,rank:=x.2.1,loose:=x.2.2 }) ins zz).zipIdx:=by
    intro k hk
    rw [List.mem_zipIdx_iff_getElem?]
    simpa using a k hk
   have:=List.all_eq_true.1 (List.all_eq_true.1 c1 _ (p i (by omega))) _ (p j s)
   simp only [Ali,Bool.or_eq_true,Bool.not_eq_true',Bool.and_eq_false_iff,decide_eq_false_iff_not] at this
   rcases this with (h1 | h1) | h1
   ·exact absurd c h1
   ·rw [Nat.max_eq_right (Nat.le_of_lt c),Nat.min_eq_left (Nat.le_of_lt c),v] at h1
    simp at h1;omega
   ·exact h1
  ·have:=List.all_eq_true.1 (List.all_eq_true.1 c4 (o,i) (by rw [List.mem_zipIdx_iff_getElem?];simpa using ho)) e (by simpa using he)
   simpa [v] using this
  ·rcases Nat.lt_or_gt_of_ne c with hl | hl
   ·exact r2 i j _ _ (a i hi) (a j s) hl m hB
   ·exact fun e => r2 j i _ _ (a j s) (a i hi) hl hB m e.symm
 ·cases hd
theorem Akx {lo:Bool} {sz:Nat} {ops:Array Oper} {ins r:List Ins} {n:Nat} (hi:ops.toList.mapM (cI P sz ops) = some ins) (hd:drawn lo ops ins = some (n,r)):A1f P sz ops r n ∧ r.length = ops.size:=by
 unfold drawn at hd
 split at hd
 ·rename_i q a
  simp only [OI] at hd
  subst hd
  exact Vx hi a
 ·exact Vx hi hd
end Go.L
namespace Go.L
open Go
variable {P:Program}
theorem Adr {c:C} (h:Eu c = .skip):c = .skip:=by cases c <;> simp [Eu] at h;rfl
theorem Av1 {c:C} {i:List Ins} (h:Eu c = .reg [] i):∃ l,c = .reg l i:=by cases c <;> simp [Eu] at h;subst h;exact ⟨_,rfl⟩
theorem Av2 {c:C} {n:Nat} {i:List Ins} (h:Eu c = .drw [] n i):∃ l,c = .drw l n i:=by cases c <;> simp [Eu] at h;obtain ⟨rfl,rfl⟩:=h;exact ⟨_,rfl⟩
theorem Avy {c x y:C} (h:Eu c = .seq x y):∃ a b,c = .seq a b ∧ Eu a = x ∧ Eu b = y:=by cases c <;> simp [Eu] at h;exact ⟨_,_,rfl,h.1,h.2⟩
theorem Aq3 {c x y:C} {v:X} (h:Eu c = .cond v x y):∃ a b,c = .cond v a b ∧ Eu a = x ∧ Eu b = y:=by cases c <;> simp [Eu] at h;obtain ⟨rfl,h⟩:=h;exact ⟨_,_,rfl,h.1,h.2⟩
theorem Ala {c x:C} {id:Nat} (h:Eu c = .block id x):∃ a,c = .block id a ∧ Eu a = x:=by cases c <;> simp [Eu] at h;obtain ⟨rfl,h⟩:=h;exact ⟨_,rfl,h⟩
theorem Aq1 {c x:C} (h:Eu c = .loop x):∃ a,c = .loop a ∧ Eu a = x:=by cases c <;> simp [Eu] at h;exact ⟨_,rfl,h⟩
theorem Aq2 {c:C} {id:Nat} (h:Eu c = .exit id):c = .exit id:=by cases c <;> simp [Eu] at h;subst h;rfl
theorem Av0 {c:C} (h:Eu c = .ret):c = .ret:=by cases c <;> simp [Eu] at h;rfl
theorem Avz {c x y:C} {g:X} {ps:List Nat} (h:Eu c = .rng g ps x y):∃ a b,c = .rng g ps a b ∧ Eu a = x ∧ Eu b = y:=by cases c <;> simp [Eu] at h;obtain ⟨rfl,rfl,h⟩:=h;exact ⟨_,_,rfl,h.1,h.2⟩
section
variable {F:Fence} {n:Nat} {cf:A0} {sz:Nat}
def Su (F:Fence) (n:Nat) (P:Program) (n0:Nat) (g:Code) (K:Fr → Aa → Out) (sz:Nat):Prop :=
 ∀ (Q:Exit → Act → World → Prop) {ι : Inj} {h:Aa} {w:World} {fr:Fr} {a:Act} {e:Ex} {fr':Fr} {h':Aa} {ws:List Nat},K fr h = some (e,fr',h',ws) → Sim P ι h w → FFR ι sz (get fr) a.tmps → Marks n0 w a.defers → n0 ≤ w.heap.size → InR F ι h ws →
  (∀ ι' a' w',St P ι h w ι' h' w' → Old ι h ι' → FFR ι' sz (get fr') a'.tmps → Marks n0 w' a'.defers → Q (Au3 e) a' w') → g.wpIn F n P Q a w
theorem Old.trans {ι ι1 ι2:Inj} {h h1:Aa} (a:Old ι h ι1) (hl:h.length ≤ h1.length) (b:Old ι1 h1 ι2):Old ι h ι2:=fun x hx => (b x (Nat.lt_of_lt_of_le hx hl)).trans (a x hx)
theorem Az4 {n0:Nat} {x y:Code} {K L:Fr → Aa → Out} (hx:Su F n P n0 x K sz) (hK:Nn K) (hy:Su F n P n0 y L sz):Su F n P n0 (.seq x y) (fun fr h => Ew (K fr h) L) sz:=by
 intro Q ι h w fr a e fr' h' ws hv hs hf hm hn hi hq
 refine wpIn_seq ?_
 simp only [Ew] at hv
 split at hv
 ·rename_i l r j c
  split at hv
  ·rename_i p m h2 o f
   simp only [OI,Prod.mk.injEq] at hv
   obtain ⟨rfl,rfl,rfl,rfl⟩:=hv
   have g:=hK _ _ _ _ _ _ c
   refine hx _ c hs hf hm hn hi.left fun ι1 a1 w1 st1 old1 hf1 hm1 => ?_
   exact hy Q f st1.sim hf1 hm1 (Nat.le_trans hn st1.size) (hi.right g st1.sub) fun ι2 a2 w2 st2 old2 hf2 hm2 => hq ι2 a2 w2 (st1.trans st2) (old1.trans g.len old2) hf2 hm2
  ·cases hv
 ·rename_i d
  refine hx _ hv hs hf hm hn hi fun ι1 a1 w1 st1 old1 hf1 hm1 => ?_
  cases e with
  | normal => exact absurd hv (d _ _ _)
  | exit id => exact hq ι1 a1 w1 st1 old1 hf1 hm1
  | ret => exact hq ι1 a1 w1 st1 old1 hf1 hm1
theorem Apy (hW:Wide F) (hcf:Ku P cf) (hk:Wc cf) {n0:Nat} {id:Nat} {ops:Array Oper} {ins:List Ins} (hi:ops.toList.mapM (cI P sz ops) = some ins) (live:List Nat) :
  Su F n P n0 (.region id ops false) (fun fr h => Qy live (Ey cf ins (get fr) h)) sz:=by
 intro Q ι h w fr a e fr' h' ws hv hs hf hm hn hir hq
 refine wpIn_region ?_
 simp only [Qy] at hv
 split at hv
 ·rename_i t h2 s p
  simp only [OI,Prod.mk.injEq] at hv
  obtain ⟨rfl,rfl,rfl,rfl⟩:=hv
  obtain ⟨g,o⟩:=Anq hi
  have f:Ops P sz ops (List.range ops.size) ins:=by
   refine All2.of_at (by simpa using g) fun i j x m r => ?_
   have c:i < ops.size:=by have:=(GI.1 m).1;simpa using this
   rw [List.getElem?_range c] at m
   cases m
   obtain ⟨b,d,l⟩:=o i ops[i] (by simp [c])
   rw [r] at d;cases d
   exact ⟨ops[i],by simp [c],l⟩
  refine Aw4 hW hcf hk.keep f hs hf p fun ι' a' w' st old hf' hd => hq ι' a' w' st old (hf'.live live) ?_
  rw [hd];exact hm.step hs st
 ·cases hv
theorem Aad (r:List Ins):(List.range r.length).map (fun j => r.getD j dfl) = r:=by
 apply List.ext_getElem?
 intro i
 rw [List.getElem?_map]
 rcases Nat.lt_or_ge i r.length with hl | hl
 ·rw [List.getElem?_range hl,List.getElem?_eq_getElem hl]
  simp [hl]
 ·rw [List.getElem?_eq_none hl,List.getElem?_eq_none (by simpa using hl)];rfl
theorem Au9 (hW:Wide F) (hcf:Ku P cf) (hk:Wc cf) (hmix:P.follows .mixedOrders = true) {n0:Nat} {id:Nat} {lo:Bool} {ops:Array Oper} {ins r:List Ins} {nn:Nat} (hi:ops.toList.mapM (cI P sz ops) = some ins) (hd:drawn lo ops ins = some (nn,r)) (live:List Nat) :
  Su F n P n0 (.region id ops true) (fun fr h => Qy live (Dh cf h.length r (get fr) (room h nn))) sz:=by
 intro Q ι h w fr a e fr' h' ws hv hs hf hm hn hir hq
 refine wpIn_region_any hmix ?_
 simp only [Qy] at hv
 split at hv
 ·rename_i y h2 s v
  simp only [OI,Prod.mk.injEq] at hv
  obtain ⟨rfl,rfl,rfl,rfl⟩:=hv
  obtain ⟨c,g⟩:=Akx hi hd
  have d:St P ι h w ι (room h nn) { w with drawn:=w.drawn + 1 }:=(St.quiet hs (Quiet.drew w)).trans (St.room (St.quiet hs (Quiet.drew w)).sim nn)
  have t:=Ask h nn
  have f:Dh cf h.length ((List.range ops.size).map fun j => r.getD j dfl) (get fr) (room h nn) = some (y,h2,s):=by
   rw [← g,Aad];exact v
  refine A09 hW hcf hk c (m:=h.length) ops.size (Array.replicate ops.size false) (List.range ops.size) (by simp) (by simp) (fun j => ?_) List.pairwise_lt_range (fun k p l => ?_) d.sim hf (by omega) (fun j o u => ?_) f fun ι' a' w' st old hf' hd' => ?_
  ·rw [List.mem_range]
   constructor
   ·intro o;exact ⟨o,by simp [Array.getD_eq_getD_getElem?,o]⟩
   ·exact fun h => h.1
  ·rw [Array.getD_eq_getD_getElem?] at l;simp [p] at l
  ·have:=c.rank j (List.mem_range.1 o) u
   refine ⟨by omega,hs.dom _ (by omega),?_⟩
   cases nn with
   | zero => omega
   | succ n => rw [room,List.getElem?_append_right (by omega),List.getElem?_replicate,if_pos (by omega)]
  ·refine hq ι' a' w' (d.trans st) (fun b x => old b x) (hf'.live live) ?_
   rw [hd'];exact hm.step hs (d.trans st)
 ·cases hv
end
end Go.L
