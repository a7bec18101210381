/- THE LOGICAL MACHINE AND THE MODEL: a statement in order. -/
import Derived.Test.YtnanlkamcgihlaaDoorSe
import Derived.Test.YtnanlkamcgihlaaDoorK
set_option linter.unusedVariables false
set_option linter.unusedSimpArgs false
namespace Go.L
open Go
variable {P:Program} {ι : Inj} {h:Aa} {w:World}
section
variable {sz:Nat} {f f':FF} {a:Act} {o:Oper} {q:O} {v:Value} {h':Aa} {ws:List Nat} {F:Fence} {n:Nat} {cf:A0} {next:Act → World → Prop} {Q:Exit → Act → World → Prop} {ops:Array Oper}
theorem Avr {i:Ins} (h:cI P sz ops o = some i):(∀ d,o.dst = some d → d < sz) ∧ i.d = o.dst ∧ cG ops o.guard = some i.g ∧ cO P o.op = some i.o:=by
 have a:∀ d,o.dst = some d → d < sz:=by
  intro d a
  unfold cI at h
  rw [a] at h
  simp only [decide_eq_true_eq] at h
  split at h
  ·assumption
  ·cases h
 unfold cI at h
 rw [if_pos (by cases e:o.dst with | none => rfl | some d => simpa using a d e)] at h
 simp only [OB,OM] at h
 obtain ⟨g,f,j,c,rfl⟩:=h
 exact ⟨a,rfl,f,c⟩
theorem Ym {ι':Inj} {d:Option Nat} {v':Value} (hf:FFR ι' sz f a.tmps) (hd:∀ x,d = some x → x < sz) (hv:VR ι' v v'):FFR ι' sz (G9 f d v) (a.put d v').tmps:=by
 cases d with
 | none => exact hf
 | some d => exact hf.put (hd d rfl) hv
theorem Yz {g:Option (Nat × Bool)} (hf:FFR ι sz f a.tmps) (hg:cG ops o.guard = some g) {b:Bool} (hw:wanted f g = some b):Region.wanted o (yielded ops a.tmps) = b:=by
 unfold cG at hg
 unfold Region.wanted
 split at hg
 ·rename_i e
  simp only [OI] at hg;subst hg
  simp only [wanted,OI] at hw;subst hw
  rw [e]
 ·rename_i j r e
  rw [e]
  simp only [OM] at hg
  obtain ⟨d,u,rfl⟩:=hg
  simp only [wanted] at hw
  have n:=hf.at_ d
  simp only [yielded,u,Option.bind_some]
  split at hw
  ·rename_i c p
   rw [p] at n
   have l:=n.bool_inv
   have:a.tmps[d]? = some (.bool c):=by
    rw [Array.getD_eq_getD_getElem?] at l
    cases ht:a.tmps[d]? with
    | none => rw [ht] at l;cases l
    | some x => rw [ht] at l;simp at l;rw [l]
   rw [this]
   simp only [OI] at hw;subst hw
   simp
  ·rename_i y p
   rw [p] at n
   split at hw
   ·rename_i m
    simp only [OI] at hw;subst hw
    obtain ⟨t,s,_⟩:=n.tuple_inv (by intro e;simp only [Kj,Value.tuple.injEq] at e;subst e;simp at m)
    have:∀ c,a.tmps[d]? ≠ some (.bool c):=by
     intro c v
     rw [Array.getD_eq_getD_getElem?,v] at s
     cases s
    cases ht:a.tmps[d]? with
    | none => simp
    | some x =>
     cases x <;> first | (exact absurd ht (this _)) | simp
   ·cases hw
  ·cases hw
def Ops (P:Program) (sz:Nat) (ops:Array Oper):List Nat → List Ins → Prop:=All2 fun i ins => ∃ o,ops[i]? = some o ∧ cI P sz ops o = some ins
theorem Aw4 (hW:Wide F) (hcf:Ku P cf) (hk:Np cf) {l:List Nat} {ins:List Ins} (hl:Ops P sz ops l ins):∀ {ι : Inj} {h:Aa} {w:World} {f:FF} {a:Act},Sim P ι h w → FFR ι sz f a.tmps → ∀ {f' h' ws},Ey cf ins f h = some (f',h',ws) →
  (∀ ι' a' w',St P ι h w ι' h' w' → Old ι h ι' → FFR ι' sz f' a'.tmps → a'.defers = a.defers → Q .normal a' w') → wpOpsIn F n P ops Q l a w:=by
 induction hl with
 | nil =>
  intro ι h w f a hs hf f' h' ws hv hq
  simp only [Ey,OI,Prod.mk.injEq] at hv
  obtain ⟨rfl,rfl,rfl⟩:=hv
  exact hq ι a w (St.refl hs) (Old.refl _ _) hf rfl
 | @cons i ins l inss hi hl ih =>
  intro ι h w f a hs hf f' h' ws hv hq
  obtain ⟨o,z,y⟩:=hi
  obtain ⟨p,j,x,e⟩:=Avr y
  simp only [Ey] at hv
  simp only [wpOpsIn,z]
  cases hw:wanted f ins.g with
  | none => rw [hw] at hv;cases hv
  | some b =>
   rw [hw] at hv
   have c:=Yz (o:=o) (ops:=ops) hf x hw
   cases b with
   | true =>
    rw [if_pos c]
    simp only at hv
    cases hv1:opN cf f h ins.o with
    | none => rw [hv1] at hv;cases hv
    | some r =>
     obtain ⟨v,u,s⟩:=r
     rw [hv1] at hv
     simp only [addw] at hv
     split at hv
     ·rename_i f2 h2 a0 t
      simp only [OI,Prod.mk.injEq] at hv
      obtain ⟨rfl,rfl,rfl⟩:=hv
      refine Ay1 hW hcf hs hf e hv1 fun ι' w' v' st old hv' => ?_
      refine ih st.sim (Ym (a:=a) (hf.mono st.sub) p hv') (by rw [← j];exact t) fun ι2 a2 w2 st2 old2 hf2 hd2 => ?_
      have d:h.length ≤ u.length:=(Agv hk hv1).len
      refine hq ι2 a2 w2 (st.trans st2) (fun b m => (old2 b (Nat.lt_of_lt_of_le m d)).trans (old b m)) hf2 (hd2.trans ?_)
      cases o.dst <;> rfl
     ·cases hv
   | false =>
    rw [if_neg (by rw [c];simp)]
    refine ⟨fun f _ => hW.fn f,?_⟩
    simp only at hv
    refine ih hs (Ym (a:=a) hf p VR.undef) (by rw [← j];exact hv) fun ι2 a2 w2 st2 old2 hf2 hd2 => hq ι2 a2 w2 st2 old2 hf2 (hd2.trans ?_)
    cases o.dst <;> rfl
end
end Go.L
namespace Go.L
open Go
def Veil {α : Type} (p:Nat) (o:LObj) (x y:Option (α × Aa × List Nat)):Prop:=∀ a h ws,x = some (a,h,ws) → h[p]? = some .dead ∧ p ∉ ws ∧ y = some (a,h.set p o,ws)
def Ss (cf:A0):Prop:=∀ p o g args h,h[p]? = some .dead → Veil p o (cf g args h) (cf g args (h.set p o))
def Sees (h k:Aa):Prop:=∀ (b:Nat) (x:LObj),h[b]? = some x → x ≠ .dead → k[b]? = some x
theorem Sees.set {h:Aa} {p:Nat} (hd:h[p]? = some .dead) (o:LObj):Sees h (h.set p o):=fun b x hb hx => by
 have hne:p ≠ b:=fun e => by subst e;rw [hd] at hb;cases hb;exact hx rfl
 rw [List.getElem?_set_ne hne];exact hb
theorem off {h:Aa} {p b:Nat} {x:LObj} (hd:h[p]? = some .dead) (hb:h[b]? = some x) (hx:x ≠ .dead):b ≠ p:=fun e => by subst e;rw [hd] at hb;cases hb;exact hx rfl
theorem Ahp {g:Option Nat} {x v:Value} {h k:Aa} (hs:Sees h k) (hv:N2 g x h = some v):N2 g x k = some v:=by
 unfold N2 at hv ⊢
 split at hv <;> try (cases hv;done)
 split at hv <;> try (cases hv;done)
 rename_i e
 simp only [hs _ _ e (by simp)];exact hv
theorem Auh {q:EqK} {z m x v:Value} {ok:Bool} {h k:Aa} (hs:Sees h k) (hv:Rz q z m x ok h = some v):Rz q z m x ok k = some v:=by
 unfold Rz at hv ⊢
 split at hv <;> try (cases hv;done)
 rename_i a
 rw [if_pos a]
 cases m with
 | map r =>
  cases r with
  | none => exact hv
  | some r =>
   simp only at hv ⊢
   cases e:h[r]? with
   | none => rw [e] at hv;simp at hv
   | some y =>
    rw [e] at hv
    cases y with
    | map es => rw [hs _ _ e (by simp)];exact hv
    | _ => simp at hv
 | _ => simp at hv
theorem Pb {n:Nat} {x:Value} {r:Nat × List Value} {h k:Aa} (hs:Sees h k) (hv:cellsOf n x h = some r):cellsOf n x k = some r:=by
 unfold cellsOf at hv ⊢
 split at hv <;> try (cases hv;done)
 ·exact hv
 ·split at hv <;> try (cases hv;done)
  rename_i e
  simp only [hs _ _ e (by simp)];exact hv
 ·exact hv
theorem Ano {f:FF} {o:O} {v:Value} {h k:Aa} (hs:Sees h k) (hv:Fw f h o = some v):Fw f k o = some v:=by
 cases o <;> simp only [Fw] at hv ⊢ <;> try (cases hv;done)
 ·exact Ahp hs hv
 ·exact Auh hs hv
 ·split at hv <;> try (cases hv;done)
  ·exact hv
  ·split at hv <;> try (cases hv;done)
   rename_i e
   simp only [hs _ _ e (by simp)];exact hv
 ·split at hv <;> try (cases hv;done)
  rename_i e
  rw [e]
  split at hv <;> try (cases hv;done)
  rename_i a
  rw [e] at a
  simp only [Pb hs a];exact hv
theorem Sy {fr:Fr} {h k:Aa} (hs:Sees h k):∀ {r:List R} {vs:List Value},Kc fr h r = some vs → Kc fr k r = some vs
 | [],vs,hv => hv
 | .t s :: r,vs,hv => by
  simp only [Kc,OM] at hv ⊢
  obtain ⟨a,c,h2⟩:=hv
  exact ⟨a,Sy hs c,h2⟩
 | .v agg s :: r,vs,hv => by
  simp only [Kc,OB,OM] at hv ⊢
  obtain ⟨v,c,a,h2,d⟩:=hv
  exact ⟨v,Ahp hs c,a,Sy hs h2,d⟩
theorem Veil.same {α : Type} {p:Nat} {o:LObj} {a:α} {h:Aa} (hd:h[p]? = some .dead):Veil p o (some (a,h,[])) (some (a,h.set p o,[])):=fun _ _ _ e => by
 cases e;exact ⟨hd,by simp,rfl⟩
theorem Veil.none {α : Type} {p:Nat} {o:LObj} {y:Option (α × Aa × List Nat)}:Veil p o none y:=fun _ _ _ e => by cases e
theorem Le {h:Aa} {p b:Nat} {o:LObj} (hd:h[p]? = some .dead) (hne:b ≠ p):(h.set b o)[p]? = some .dead:=by rw [List.getElem?_set_ne hne];exact hd
theorem Vz {h:Aa} {p:Nat} (hd:h[p]? = some .dead):p < h.length:=(GI.1 hd).1
theorem S9 {h:Aa} {p:Nat} (hd:h[p]? = some .dead) (l:List LObj):(h ++ l)[p]? = some .dead:=by rw [GL (Vz hd)];exact hd
theorem set_push {h:Aa} {p:Nat} (hd:h[p]? = some .dead) (o:LObj) (l:List LObj):(h ++ l).set p o = h.set p o ++ l:=List.set_append_left _ _ (Vz hd)
theorem Veil.set {α : Type} {p b:Nat} {o x:LObj} {a:α} {h:Aa} {ws:List Nat} (hd:h[p]? = some .dead) (hne:b ≠ p) (hw:p ∉ ws):Veil p o (some (a,h.set b x,ws)) (some (a,(h.set p o).set b x,ws)):=fun _ _ _ e => by
 cases e;exact ⟨Le hd hne,hw,by rw [List.set_comm _ _ hne]⟩
theorem Veil.push {α : Type} {p:Nat} {o:LObj} {a:α} {h:Aa} {l:List LObj} (hd:h[p]? = some .dead):Veil p o (some (a,h ++ l,[])) (some (a,h.set p o ++ l,[])):=fun _ _ _ e => by
 cases e;exact ⟨S9 hd _,by simp,by rw [set_push hd]⟩
theorem Veil.set_push {α : Type} {p b:Nat} {o x:LObj} {a:α} {h:Aa} {l:List LObj} {ws:List Nat} (hd:h[p]? = some .dead) (hne:b ≠ p) (hw:p ∉ ws):Veil p o (some (a,h.set b x ++ l,ws)) (some (a,(h.set p o).set b x ++ l,ws)):=fun _ _ _ e => by
 cases e;exact ⟨S9 (Le hd hne) _,hw,by rw [L.set_push (Le hd hne),List.set_comm _ _ hne]⟩
theorem Ze {n p:Nat} {o:LObj} {x v:Value} {h h':Aa} {ws:List Nat} (hd:h[p]? = some .dead) (hv:Fk n x v h = some (h',ws)):h'[p]? = some .dead ∧ p ∉ ws ∧ Fk n x v (h.set p o) = some (h'.set p o,ws):=by
 unfold Fk at hv ⊢
 split at hv <;> try (cases hv;done)
 split at hv <;> try (cases hv;done)
 rename_i e
 split at hv <;> try (cases hv;done)
 rename_i c
 have a:=off hd e (by simp)
 simp only [OI,Prod.mk.injEq] at hv
 obtain ⟨rfl,rfl⟩:=hv
 refine ⟨Le hd a,by simpa using Ne.symm a,?_⟩
 simp only [Sees.set hd o _ _ e (by simp),if_pos c,List.set_comm _ _ a]
theorem Ai5 {size bytes p:Nat} {o:LObj} {s x:Value} {h:Aa} (hd:h[p]? = some .dead):Veil p o (B9 size bytes s x h) (B9 size bytes s x (h.set p o)):=by
 have d:=Sees.set hd o
 intro v h' ws a
 unfold B9 at a ⊢
 split at a <;> try (cases a;done)
 rename_i n new len u l z
 simp only [Pb d l,Pb d z]
 split at a
 ·rename_i g
  rw [if_pos g]
  split at a <;> try (cases a;done)
  rename_i m
  rw [if_pos m]
  exact Veil.same hd _ _ _ a
 ·rename_i g
  rw [if_neg g]
  split at a <;> try (cases a;done)
  rename_i r
  rw [if_pos r]
  simp only [List.length_set]
  split at a <;> try (cases a;done)
  ·split at a <;> try (cases a;done)
   rename_i f
   rw [if_pos f]
   exact Veil.push hd _ _ _ a
  ·split at a
   ·rename_i y
    split at a
    ·rename_i j
     simp only [if_pos j]
     split at a <;> try (cases a;done)
     rename_i e
     have c:=off hd e (by simp)
     simp only [d _ _ e (by simp)]
     split at a <;> try (cases a;done)
     rename_i t
     simp only [if_pos t]
     exact Veil.set hd c (by simpa using Ne.symm c) _ _ _ a
    ·rename_i j
     simp only [if_neg j]
     exact Veil.push hd _ _ _ a
   ·rename_i y
    split at a <;> try (cases a;done)
    rename_i e
    have c:=off hd e (by simp)
    simp only [d _ _ e (by simp)]
    split at a <;> try (cases a;done)
    rename_i f
    simp only [if_pos f]
    exact Veil.set_push hd c (by simpa using Ne.symm c) _ _ _ a
theorem Aqt {size p:Nat} {o:LObj} {d s:Value} {h:Aa} (hd:h[p]? = some .dead):Veil p o (V0 size d s h) (V0 size d s (h.set p o)):=by
 have g:=Sees.set hd o
 intro v h' m a
 unfold V0 at a ⊢
 split at a <;> try (cases a;done)
 ·split at a <;> try (cases a;done)
  rename_i e
  simp only [Pb g e]
  split at a <;> try (cases a;done)
  rename_i f
  rw [if_pos f]
  exact Veil.same hd _ _ _ a
 ·split at a <;> try (cases a;done)
  rename_i l j
  have c:=off hd j (by simp)
  simp only [Pb g l,g _ _ j (by simp)]
  split at a <;> try (cases a;done)
  rename_i f
  rw [if_pos f]
  exact Veil.set hd c (by simpa using Ne.symm c) _ _ _ a
theorem Ak3 {p:Nat} {o:LObj} {z:List Value} {x:Value} {h:Aa} (hd:h[p]? = some .dead):Veil p o (M3 z x h) (M3 z x (h.set p o)):=by
 have f:=Sees.set hd o
 intro v h' g a
 unfold M3 at a ⊢
 split at a <;> try (cases a;done)
 split at a <;> try (cases a;done)
 rename_i e
 have c:=off hd e (by simp)
 simp only [f _ _ e (by simp)]
 split at a <;> try (cases a;done)
 rename_i d
 rw [if_pos d]
 exact Veil.set hd c (by simpa using Ne.symm c) _ _ _ a
theorem Aio {f:FF} {q:O} {p:Nat} {o:LObj} {h:Aa} (hd:h[p]? = some .dead):Veil p o (Mg f h q) (Mg f (h.set p o) q):=by
 have j:=Sees.set hd o
 intro v h' n a
 cases q <;> simp only [Mg] at a ⊢ <;> try (cases a;done)
 ·split at a <;> try (cases a;done)
  rename_i m
  split at a <;> try (cases a;done)
  rename_i e
  have c:=off hd e (by simp)
  simp only [j _ _ e (by simp)]
  split at a <;> try (cases a;done)
  rename_i d
  rw [if_pos d]
  obtain ⟨l,g,h2⟩:=OM.1 a
  rw [g]
  exact Veil.set hd c (by simpa using Ne.symm c) _ _ _ (congrArg some h2)
 ·exact Ai5 hd _ _ _ a
 ·exact Aqt hd _ _ _ a
 ·exact Ak3 hd _ _ _ a
 ·split at a <;> try (cases a;done)
  rename_i m
  split at a <;> try (cases a;done)
  rename_i e
  have c:=off hd e (by simp)
  simp only [j _ _ e (by simp)]
  split at a <;> try (cases a;done)
  rename_i d
  rw [if_pos d]
  obtain ⟨l,g,h2⟩:=OM.1 a
  rw [g]
  exact Veil.set hd c (by simpa using Ne.symm c) _ _ _ (congrArg some h2)
theorem At0 {cf:A0} (hcf:Ss cf) {f:FF} {q:O} {p:Nat} {o:LObj} {h:Aa} (hd:h[p]? = some .dead):Veil p o (opN cf f h q) (opN cf f (h.set p o) q):=by
 intro v h' j a
 unfold opN at a ⊢
 split at a
 ·split at a
  ·rename_i e;exact Veil.same hd _ _ _ a
  ·cases a
 ·split at a
  ·rename_i e;simp only [Ano (Sees.set hd o) e];exact Veil.same hd _ _ _ a
  ·cases a
 ·split at a
  ·rename_i e;simp only [e,List.length_set];exact Veil.push hd _ _ _ a
  ·cases a
 ·split at a
  ·split at a
   ·rename_i d
    simp only [OI,Prod.mk.injEq] at a;obtain ⟨rfl,rfl,rfl⟩:=a
    obtain ⟨g,h2,c⟩:=Ze (o:=o) hd d
    exact ⟨g,h2,by rw [c]⟩
   ·cases a
  ·cases a
 ·split at a
  ·exact hcf _ _ _ _ _ hd _ _ _ a
  ·cases a
 ·exact Aio hd _ _ _ a
theorem Veil.addw {α : Type} {p:Nat} {o:LObj} {ws1:List Nat} {x y:Option (α × Aa × List Nat)} (h1:p ∉ ws1) (h:Veil p o x y):Veil p o (addw ws1 x) (addw ws1 y):=by
 intro a h' f c
 unfold L.addw at c
 split at c <;> try (cases c;done)
 simp only [OI,Prod.mk.injEq] at c;obtain ⟨rfl,rfl,rfl⟩:=c
 obtain ⟨h2,d,e⟩:=h _ _ _ rfl
 exact ⟨h2,by simp [h1,d],by rw [e];rfl⟩
theorem Wn {cf:A0} (hcf:Ss cf) {p:Nat} {o:LObj}:∀ {ins:List Ins} {f:FF} {h:Aa},h[p]? = some .dead → Veil p o (Ey cf ins f h) (Ey cf ins f (h.set p o))
 | [],f,h,hd => Veil.same hd
 | i :: r,f,h,hd => by
  intro a h' n c
  simp only [Ey] at c ⊢
  split at c
  ·rename_i j
   split at c
   ·rename_i v s e d
    obtain ⟨l,m,g⟩:=At0 hcf (o:=o) hd _ _ _ d
    simp only [g]
    exact Veil.addw m (Wn hcf l) _ _ _ c
   ·cases c
  ·rename_i j
   exact Wn hcf hd _ _ _ c
  ·cases c
theorem Ve {cf:A0} (hcf:Ss cf) {m:Nat} {f:FF} {i:Ins} {p:Nat} {o:LObj} {h:Aa} (hd:h[p]? = some .dead) (hA:cls i.o = .A → m + i.rank ≠ p):Veil p o (opD cf m f h i) (opD cf m f (h.set p o) i):=by
 intro v h' n a
 unfold opD at a ⊢
 split at a
 ·split at a
  ·rename_i e;exact Veil.same hd _ _ _ a
  ·cases a
 ·split at a
  ·cases a
  ·rename_i c
   rw [if_neg c]
   split at a
   ·rename_i e;simp only [Ano (Sees.set hd o) e];exact Veil.same hd _ _ _ a
   ·cases a
 ·rename_i l
  split at a
  ·rename_i e;exact Veil.set hd (hA l) (by simp) _ _ _ a
  ·cases a
 ·split at a
  ·split at a
   ·cases a
   ·rename_i c
    rw [if_neg c]
    split at a
    ·rename_i g
     simp only [OI,Prod.mk.injEq] at a;obtain ⟨rfl,rfl,rfl⟩:=a
     obtain ⟨j,h2,d⟩:=Ze (o:=o) hd g
     exact ⟨j,h2,by rw [d]⟩
    ·cases a
  ·cases a
 ·split at a
  ·split at a
   ·rename_i g
    obtain ⟨j,h2,d⟩:=hcf _ o _ _ _ hd _ _ _ g
    simp only [d,List.length_set]
    split at a
    ·cases a
    ·rename_i c
     rw [if_neg c]
     simp only [OI,Prod.mk.injEq] at a;obtain ⟨rfl,rfl,rfl⟩:=a
     exact ⟨j,h2,rfl⟩
   ·cases a
  ·cases a
 ·split at a
  ·rename_i g
   obtain ⟨j,h2,d⟩:=Aio (o:=o) hd _ _ _ g
   simp only [d]
   split at a
   ·cases a
   ·rename_i c
    rw [if_neg c]
    simp only [OI,Prod.mk.injEq] at a;obtain ⟨rfl,rfl,rfl⟩:=a
    exact ⟨j,h2,rfl⟩
  ·cases a
theorem Wq {cf:A0} (hcf:Ss cf) {m p:Nat} {o:LObj} (hm:p < m):∀ {ins:List Ins} {f:FF} {h:Aa},h[p]? = some .dead → Veil p o (Dh cf m ins f h) (Dh cf m ins f (h.set p o))
 | [],f,h,hd => Veil.same hd
 | i :: r,f,h,hd => by
  intro a h' s c
  simp only [Dh] at c ⊢
  split at c
  ·rename_i j
   split at c
   ·rename_i v t e d
    obtain ⟨l,n,g⟩:=Ve hcf (o:=o) hd (fun _ => by omega) _ _ _ d
    simp only [g]
    exact Veil.addw n (Wq hcf hm l) _ _ _ c
   ·cases c
  ·rename_i j
   exact Wq hcf hm hd _ _ _ c
  ·cases c
theorem Nz {m:Nat}:∀ (d:Nat) (v:Value),∀ b ∈ news m d v,m ≤ b
 | 0,v,b,hb => by simp [news] at hb
 | d + 1,v,b,hb => by
  unfold news at hb
  split at hb
  ·split at hb
   ·cases hb
   ·simp only [List.mem_singleton] at hb;omega
  ·split at hb
   ·cases hb
   ·simp only [List.mem_singleton] at hb;omega
  ·split at hb
   ·cases hb
   ·simp only [List.mem_singleton] at hb;omega
  ·simp only [List.mem_append,List.mem_flatMap] at hb
   rcases hb with ⟨x,_,h⟩ | ⟨x,_,h⟩ <;> exact Nz d x b h
  ·exact Nz d _ b hb
  ·obtain ⟨x,_,h⟩:=List.mem_flatMap.1 hb;exact Nz d x b h
  ·obtain ⟨x,_,h⟩:=List.mem_flatMap.1 hb;exact Nz d x b h
  ·cases hb
theorem Ahl {m:Nat} {x:LObj}:∀ b ∈ Auc m x,m ≤ b:=by
 intro b a
 unfold Auc at a
 split at a
 ·obtain ⟨x,_,h⟩:=List.mem_flatMap.1 a;exact Nz _ x b h
 ·obtain ⟨x,_,h⟩:=List.mem_flatMap.1 a;exact Nz _ _ b h
 ·cases a
theorem Anz {h:Aa} {p b:Nat} {o d:LObj} (hne:b ≠ p):(h.set p o).getD b d = h.getD b d:=by
 simp only [List.getD_eq_getElem?_getD,List.getElem?_set_ne (Ne.symm hne)]
theorem T7 {m p:Nat} (hm:p < m) (o:LObj) (h:Aa):∀ (n:Nat) (q seen:List Nat),(∀ b ∈ q,m ≤ b) → (∀ b ∈ seen,m ≤ b) → reach m (h.set p o) n q seen = reach m h n q seen ∧ ∀ b ∈ reach m h n q seen,m ≤ b
 | 0,q,seen,hq,a => by simp only [reach];exact ⟨trivial,a⟩
 | n + 1,[],seen,hq,a => by simp only [reach];exact ⟨trivial,a⟩
 | n + 1,b :: q,seen,hq,a => by
  have e:=hq b (by simp)
  have d:∀ c ∈ q,m ≤ c:=fun c hc => hq c (by simp [hc])
  simp only [reach]
  split
  ·exact T7 hm o h n q seen d a
  ·rw [Anz (by omega)]
   refine T7 hm o h n _ _ (fun c hc => ?_) (fun c hc => ?_)
   ·rcases List.mem_append.1 hc with hc | hc
    ·exact d c hc
    ·exact Ahl c hc
   ·rcases List.mem_append.1 hc with hc | hc
    ·exact a c hc
    ·rw [List.mem_singleton.1 hc];exact e
theorem Ac4 {α β : Type} {f g:α → Option β}:∀ {l:List α},(∀ x ∈ l,f x = g x) → l.mapM f = l.mapM g
 | [],_ => rfl
 | x :: l,h => by
  rw [List.mapM_cons,List.mapM_cons,h x (by simp),Ac4 (fun y a => h y (by simp [a]))]
theorem Aer {p:Nat} {o:LObj} {h0 h:Aa} {v:Value} {ws:List Nat} (h0d:h0[p]? = some .dead) (hd:h[p]? = some .dead) (hw:p ∉ ws):Veil p o (gc h0 v h ws) (gc (h0.set p o) v (h.set p o) ws):=by
 have t:=Vz h0d
 intro a h' x c
 unfold gc at c ⊢
 simp only [List.length_set]
 split at c
 ·rename_i s
  split at c
  ·rename_i l;rw [if_pos l];exact Veil.same h0d _ _ _ c
  ·rename_i l
   rw [if_neg l]
   unfold Tb at c ⊢
   simp only [List.length_set] at c ⊢
   obtain ⟨y,u⟩:=T7 t o h 20000 (news h0.length 4 v) [] (Nz 4 v) (by simp)
   rw [y]
   rw [Ac4 (f:=fun b => Og (place h0.length (reach h0.length h 20000 (news h0.length 4 v) [])) ((h.set p o).getD b .dead)) (g:=fun b => Og (place h0.length (reach h0.length h 20000 (news h0.length 4 v) [])) (h.getD b .dead)) (fun b j => by rw [Anz (by have:=u b j;omega)])]
   split at c
   ·exact Veil.push h0d _ _ _ c
   ·exact Veil.same hd _ _ _ c
 ·rename_i w r s
  have d:∀ b ∈ w :: r,b ≠ p:=fun b j e => by
   have:b ∈ ws.filter (fun b => decide (b < h0.length)):=by rw [s];exact j
   exact hw (e ▸ (List.mem_filter.1 this).1)
  have m:p ∉ w :: r:=fun e => d p e rfl
  have n:((w :: r).all fun b => F9 h0.length (h.set p o)[b]?) = ((w :: r).all fun b => F9 h0.length h[b]?):=by
   rw [Bool.eq_iff_iff,List.all_eq_true,List.all_eq_true]
   exact ⟨fun q b j => by rw [← List.getElem?_set_ne (Ne.symm (d b j)) (a:=o)];exact q b j,fun q b j => by rw [List.getElem?_set_ne (Ne.symm (d b j))];exact q b j⟩
  rw [n]
  split at c
  ·rename_i l
   rw [if_pos l]
   simp only [OI,Prod.mk.injEq] at c;obtain ⟨rfl,rfl,rfl⟩:=c
   exact ⟨by rw [List.getElem?_take_of_lt t];exact hd,m,by rw [List.take_set]⟩
  ·rename_i l
   rw [if_neg l]
   simp only [OI,Prod.mk.injEq] at c;obtain ⟨rfl,rfl,rfl⟩:=c
   exact ⟨hd,m,rfl⟩
def VeilO (p:Nat) (o:LObj) (x y:Out):Prop:=∀ e fr h ws,x = some (e,fr,h,ws) → h[p]? = some .dead ∧ p ∉ ws ∧ y = some (e,fr,h.set p o,ws)
def Tx (K:Fr → Aa → Out):Prop:=∀ p o fr h,h[p]? = some .dead → VeilO p o (K fr h) (K fr (h.set p o))
theorem VeilO.same {p:Nat} {o:LObj} {e:Ex} {fr:Fr} {h:Aa} (hd:h[p]? = some .dead):VeilO p o (some (e,fr,h,[])) (some (e,fr,h.set p o,[])):=fun _ _ _ _ q => by
 cases q;exact ⟨hd,by simp,rfl⟩
theorem Veil.reg {p:Nat} {o:LObj} {live:List Nat} {x y:Option (FF × Aa × List Nat)} (h:Veil p o x y):VeilO p o (Qy live x) (Qy live y):=by
 intro e fr h' f a
 unfold Qy at a
 split at a
 ·simp only [OI,Prod.mk.injEq] at a;obtain ⟨rfl,rfl,rfl,rfl⟩:=a
  obtain ⟨d,h2,c⟩:=h _ _ _ rfl
  exact ⟨d,h2,by rw [c];rfl⟩
 ·cases a
theorem Y5 {p:Nat} {o:LObj} {x y:Out} {k:Fr → Aa → Out} (hx:VeilO p o x y) (hk:Tx k):VeilO p o (Ew x k) (Ew y k):=by
 intro e t h' u a
 unfold Ew at a
 split at a
 ·rename_i m v j
  obtain ⟨d,f,c⟩:=hx _ _ _ _ rfl
  split at a
  ·rename_i n
   simp only [OI,Prod.mk.injEq] at a;obtain ⟨rfl,rfl,rfl,rfl⟩:=a
   obtain ⟨l,s,r⟩:=hk _ o _ _ d _ _ _ _ n
   exact ⟨l,by simp [f,s],by rw [c];simp only [Ew,r]⟩
  ·cases a
 ·rename_i g
  obtain ⟨d,f,c⟩:=hx _ _ _ _ a
  refine ⟨d,f,?_⟩
  rw [c]
  cases e with
  | normal => exact absurd a (by intro q;exact g _ _ _ q)
  | exit id => rfl
  | ret => rfl
theorem Xb {K:Fr → Aa → Out} (hK:Tx K):∀ n,Tx (Gt n K)
 | 0 => fun p o fr h a e d h' f c => by simp [Gt] at c
 | n + 1 => fun p o fr h a => Y5 (hK p o fr h a) (Xb hK n)
theorem Ah8 {cf:A0} (hcf:Ss cf):Ss (Ie cf):=by
 intro p o g c h d v h' e a
 unfold Ie at a ⊢
 split at a
 ·exact hcf _ _ _ _ _ d _ _ _ a
 ·cases a
theorem Fa {cf:A0} {it:It} (hcf:Ss cf) (hit:∀ K,Tx K → Tx (it K)) (sz:Nat):∀ c,Tx (code cf it sz c)
 | .skip => fun p o fr h f => VeilO.same f
 | .reg live ins => fun p o fr h f => (Wn hcf f).reg
 | .drw live n ins => fun p o fr h f => by
  have hl:=Vz f
  have e:room (h.set p o) n = (room h n).set p o:=by
   cases n with
   | zero => rfl
   | succ n => exact (set_push f o _).symm
  have a0:(room h n)[p]? = some .dead:=by
   cases n with
   | zero => exact f
   | succ n => exact S9 f _
  simp only [code,List.length_set,e]
  exact (Wq hcf hl a0).reg
 | .seq x y => fun p o fr h f => Y5 (Fa hcf hit sz x p o fr h f) (Fa hcf hit sz y)
 | .cond v x y => fun p o fr h f e t h' ws d => by
  simp only [code,Tv] at d ⊢
  split at d
  ·split at d
   ·rename_i e1 u;subst u;exact Fa hcf hit sz x p o fr h f _ _ _ _ d
   ·rename_i e1 u;simp only [Bool.not_eq_true] at u;subst u;exact Fa hcf hit sz y p o fr h f _ _ _ _ d
  ·cases d
 | .block id b => fun p o fr h f e t h' ws d => by
  simp only [code,inBlock] at d ⊢
  split at d
  ·rename_i z
   obtain ⟨m,s,l⟩:=Fa hcf hit sz b p o fr h f _ _ _ _ z
   simp only [l]
   split at d <;> rename_i hj
   ·simp only [OI,Prod.mk.injEq] at d;obtain ⟨rfl,rfl,rfl,rfl⟩:=d
    exact ⟨m,s,by rw [if_pos hj]⟩
   ·simp only [OI,Prod.mk.injEq] at d;obtain ⟨rfl,rfl,rfl,rfl⟩:=d
    exact ⟨m,s,by rw [if_neg hj]⟩
  ·rename_i a4
   obtain ⟨m,s,l⟩:=Fa hcf hit sz b p o fr h f _ _ _ _ d
   refine ⟨m,s,?_⟩
   rw [l]
   cases e with
   | exit j => exact absurd d (by intro q;exact a4 _ _ _ _ q)
   | normal => rfl
   | ret => rfl
 | .loop b => fun p o fr h f => hit _ (Fa hcf hit sz b) p o fr h f
 | .exit id => fun p o fr h f => VeilO.same f
 | .ret => fun p o fr h f => VeilO.same f
 | .rng g ps a b => fun p o fr h f e t h' ws d => by
  have hl:=Vz f
  simp only [code,Ez,List.length_set] at d ⊢
  split at d
  ·rename_i v h1 a8 hc
   obtain ⟨m,s,l⟩:=Ah8 hcf p o _ _ _ (S9 f _) _ _ _ hc
   rw [set_push f] at l
   simp only [l]
   rw [List.getElem?_set_ne (by omega)]
   split at d
   ·rename_i r z
    simp only [z]
    split at d
    ·cases d
    ·split at d
     ·rename_i a5 v2 h2 a6 hg
      obtain ⟨b1,b2,b3⟩:=Aer (o:=o) f (Le m (by omega)) s _ _ _ hg
      rw [List.set_comm _ _ (by omega)] at b3
      simp only [b3]
      split at d <;> (simp only [OI,Prod.mk.injEq] at d;obtain ⟨rfl,rfl,rfl,rfl⟩:=d;rename_i a7;refine ⟨b1,b2,?_⟩;cases hs:r.state <;> simp_all)
     ·cases d
   ·cases d
  ·cases d
theorem Auz {p:Nat} {o:LObj} {res:List R} {h0:Aa} {x y:Out} (hd:h0[p]? = some .dead) (hx:VeilO p o x y):Veil p o (fin res h0 x) (fin res (h0.set p o) y):=by
 intro v h' m a
 unfold fin at a
 split at a
 ·cases a
 ·rename_i e fr h g d
  obtain ⟨c,l,j⟩:=hx _ _ _ _ rfl
  split at a
  ·rename_i n f
   have:=Aer (o:=o) hd c l _ _ _ a
   refine ⟨this.1,this.2.1,?_⟩
   rw [j]
   cases e with
   | exit id => exact (d id rfl).elim
   | normal => simp only [fin,Sy (Sees.set c o) f,this.2.2]
   | ret => simp only [fin,Sy (Sees.set c o) f,this.2.2]
  ·cases a
 ·cases a
theorem Aqh {p:Nat} {o:LObj} {res:List R} {x y:Out} (hx:VeilO p o x y):Veil p o (Sb res x) (Sb res y):=by
 intro v h' m a
 unfold Sb at a
 split at a
 ·cases a
 ·rename_i e fr h g d
  obtain ⟨c,l,j⟩:=hx _ _ _ _ rfl
  split at a
  ·rename_i n f
   simp only [OI,Prod.mk.injEq] at a;obtain ⟨rfl,rfl,rfl⟩:=a
   refine ⟨c,l,?_⟩
   rw [j]
   cases e with
   | exit id => exact (d id rfl).elim
   | normal => simp only [Sb,Sy (Sees.set c o) f]
   | ret => simp only [Sb,Sy (Sees.set c o) f]
  ·cases a
 ·cases a
def Ao4 (e:List Value → Aa → Option (Value × Aa × List Nat)):Prop:=∀ p o args h,h[p]? = some .dead → Veil p o (e args h) (e args (h.set p o))
def Ao5 (E:Env):Prop:=∀ f e,E f = .ext e → Ao4 e
theorem Ak8 {cf:A0} {it:It} (hcf:Ss cf) (hit:∀ K,Tx K → Tx (it K)) {d:Def} (hde:∀ e,d = .ext e → Ao4 e) {p:Nat} {o:LObj} {args:List Value} {h:Aa} (hd:h[p]? = some .dead):Veil p o (Eo cf it d args h) (Eo cf it d args (h.set p o)):=by
 intro v h' f a
 unfold Eo at a ⊢
 split at a
 ·exact hde _ rfl _ _ _ _ hd _ _ _ a
 ·split at a
  ·rename_i c
   simp only [if_pos c]
   exact Auz hd (Fa hcf hit _ _ _ _ _ _ hd) _ _ _ a
  ·cases a
 ·split at a
  ·rename_i c
   simp only [if_pos c]
   exact Aqh (Fa hcf hit _ _ _ _ _ _ hd) _ _ _ a
  ·cases a
 ·cases a
theorem Aj7 {cf:A0} {it:It} (hcf:Ss cf) (hit:∀ K,Tx K → Tx (it K)) {l p:Nat} {o:LObj} {args:List Value} {h:Aa} (hd:h[p]? = some .dead):Veil p o (F8 cf it l args h) (F8 cf it l args (h.set p o)):=by
 intro v h' ws a
 unfold F8 at a ⊢
 split at a <;> try (cases a;done)
 rename_i r y
 have c:=off hd y (by simp)
 simp only [Sees.set hd o _ _ y (by simp)]
 split at a <;> try (cases a;done)
 rename_i hs a5
 split at a <;> try (cases a;done)
 rename_i g
 split at a <;> try (cases a;done)
 rename_i fr a0
 split at a <;> try (cases a;done)
 rename_i t h1 a6 m
 split at a <;> try (cases a;done)
 rename_i e n h2 f s
 split at a <;> try (cases a;done)
 rename_i d
 obtain ⟨a1,a2,a3⟩:=Fa hcf hit _ _ p o _ _ hd _ _ _ _ m
 obtain ⟨b1,b2,b3⟩:=Fa hcf hit _ _ p o _ _ (Le a1 c) _ _ _ _ s
 have u:code cf it r.sz r.body t ((h1.set p o).set l (.loop { r with state:=.busy })) = some (e,n,h2.set p o,f):=by
  rw [← List.set_comm _ _ c];exact b3
 unfold O1 at a ⊢
 split at a <;> try (cases a;done)
 rename_i v3 h3 a4 hg
 obtain ⟨x,c2,z⟩:=Aer (o:=o) hd (Le b1 c) (by simp [a2,b2]) _ _ _ hg
 rw [List.set_comm _ _ c] at z
 simp only [a3]
 rw [u]
 simp only [if_neg d,z,if_pos g]
 split at a
 ·rename_i j
  simp only [OI,Prod.mk.injEq] at a;obtain ⟨rfl,rfl,rfl⟩:=a;exact ⟨x,c2,rfl⟩
 ·rename_i j
  simp only [OI,Prod.mk.injEq] at a;obtain ⟨rfl,rfl,rfl⟩:=a
  exact ⟨Le x c,by simp [c2,Ne.symm c],by rw [List.set_comm _ _ c]⟩
theorem Uq {E:Env} (hE:Ao5 E):∀ n,Ss (C3 E n)
 | 0 => fun p o g c h d v h' j a => by simp [C3] at a
 | n + 1 => fun p o g c h d v h' j a => by
  simp only [C3,I9] at a ⊢
  split at a
  ·exact Ak8 (Uq hE n) (fun K f => Xb f n) (fun e l => hE _ e l) d _ _ _ a
  ·split at a
   ·rename_i m
    simp only [if_pos m]
    exact Aj7 (Uq hE n) (fun K f => Xb f n) d _ _ _ a
   ·cases a
  ·cases a
structure Wc (cf:A0):Prop where
 keep:Np cf
 dead:Ss cf
end Go.L
namespace Go.L
open Go
theorem Yx {s:Nat}:∀ {l:List X},X.t s ∈ l → s ∈ Q9 l
 | [],h => by cases h
 | x :: l,h => by
  rcases List.mem_cons.1 h with e | h2
  ·subst e;simp [Q9]
  ·have a:s ∈ Q9 l:=Yx h2
   cases x with
   | t k => simp only [Q9];exact List.mem_cons_of_mem _ a
   | c v => exact a
   | f g => exact a
theorem Au4 {f f':FF} {l:List X} (h:∀ s ∈ Q9 l,f s = f' s):∀ x ∈ l,ev f x = ev f' x:=by
 intro x a
 cases x with
 | t s => exact h s (Yx a)
 | c v => rfl
 | f g => rfl
theorem Aae {f f':FF} {l:List X} (h:∀ x ∈ l,ev f x = ev f' x):l.map (ev f) = l.map (ev f'):=List.map_congr_left h
theorem Sd {f f':FF}:∀ {ps:List (Nat × Nat × X)} (h:∀ x ∈ ps.map (fun p => p.2.2),ev f x = ev f' x) (c:List Value),Se f ps c = Se f' ps c
 | [],h,c => rfl
 | (o,n,x) :: ps,h,c => by
  have d:ev f x = ev f' x:=h x (by simp)
  simp only [Se,d]
  rw [Sd (fun y a => h y (by simp at a ⊢;exact .inr a))]
theorem G4 {f f':FF} {x:Option X} (h:∀ y ∈ oX x,ev f y = ev f' y) (d k:Nat):Br f x d k = Br f' x d k:=by
 cases x with
 | none => rfl
 | some x => simp only [Br,h x (by simp [oX])]
theorem Akh {f f':FF} {o:O} (h:∀ x ∈ o.xs,ev f x = ev f' x):Ax f o = Ax f' o:=by
 cases o <;> simp only [O.xs,List.mem_cons,List.mem_append,List.not_mem_nil,or_false,forall_eq_or_imp,forall_eq] at h <;> simp only [Ax]
 case bld z ps => rw [Sd h]
 case slt x lo hi =>
  simp only [h.1,G4 (x:=lo) (fun y c => h.2 y (.inl c)),G4 (x:=hi) (fun y c => h.2 y (.inr c))]
 case sla n s x lo hi =>
  simp only [h.1,G4 (x:=lo) (fun y c => h.2 y (.inl c)),G4 (x:=hi) (fun y c => h.2 y (.inr c))]
 case sls s x lo hi mx =>
  have g:∀ d k,Br f lo d k = Br f' lo d k:=G4 (fun y c => h.2 y (.inl (.inl c)))
  have l:∀ d k,Br f hi d k = Br f' hi d k:=G4 (fun y c => h.2 y (.inl (.inr c)))
  have j:∀ d k,Br f mx d k = Br f' mx d k:=G4 (fun y c => h.2 y (.inr c))
  simp only [h.1,Zg,g,l,j]
 case mkf fn a b => rw [Aae (fun x e => h x (.inl e)),Aae (fun x e => h x (.inr e))]
 case min x r => rw [h.1,Aae h.2]
 case max x r => rw [h.1,Aae h.2]
 all_goals simp only [h]
theorem Ac3 {f f':FF} {o:O} {hp:Aa} (h:∀ x ∈ o.xs,ev f x = ev f' x):Fw f hp o = Fw f' hp o ∧ Ab7 f o = Ab7 f' o:=by
 cases o <;> simp only [O.xs,List.mem_cons,List.mem_append,List.not_mem_nil,or_false,forall_eq_or_imp,forall_eq] at h <;> simp only [Fw,Ab7] <;> simp only [h,and_self]
theorem Ap3 {f f':FF} {o:O} (h:∀ x ∈ o.xs,ev f x = ev f' x):Jh f o = Jh f' o:=by
 cases o <;> simp only [O.xs,List.mem_cons,List.mem_append,List.not_mem_nil,or_false,forall_eq_or_imp,forall_eq] at h <;> simp only [Jh]
 case bsl s z n ps => rw [Sd h]
 all_goals simp only [h]
theorem Aqk {f f':FF} {o:O} {hp:Aa} (h:∀ x ∈ o.xs,ev f x = ev f' x):Mg f hp o = Mg f' hp o:=by
 cases o <;> simp only [O.xs,List.mem_cons,List.mem_append,List.not_mem_nil,or_false,forall_eq_or_imp,forall_eq] at h <;> simp only [Mg] <;> simp only [h]
theorem Acu {cf:A0} {m:Nat} {f f':FF} {hp:Aa} {i:Ins} (h:∀ s ∈ i.slots,f s = f' s):opD cf m f hp i = opD cf m f' hp i ∧ wanted f i.g = wanted f' i.g:=by
 have c:∀ x ∈ i.o.xs,ev f x = ev f' x:=Au4 fun s j => h s (List.mem_append_right _ j)
 constructor
 ·unfold opD
  rw [Akh c,(Ac3 (hp:=hp) c).1,(Ac3 (hp:=hp) c).2,Ap3 c,Aqk c]
  obtain ⟨d,g,o,l,t,r⟩:=i
  cases o <;> first | rfl | skip
  case st n a v =>
   simp only [O.xs,List.mem_cons,List.not_mem_nil,or_false,forall_eq_or_imp,forall_eq] at c
   simp only [c]
  case call g args =>
   simp only [O.xs,List.mem_cons,forall_eq_or_imp] at c
   simp only [c.1,Aae c.2]
 ·cases hg:i.g with
  | none => rfl
  | some p =>
   obtain ⟨d,e⟩:=p
   have:f d = f' d:=h d (by simp [Ins.slots,hg])
   simp only [wanted,this]
def Gd (cf:A0) (m:Nat) (i:Ins) (f:FF) (h:Aa):Option (FF × Aa × List Nat) :=
 match wanted f i.g with
 | some true => match opD cf m f h i with
  | some (v,h',ws) => some (G9 f i.d v,h',ws)
  | none => none
 | some false => some (G9 f i.d undef,h,[])
 | none => none
theorem Aq9 {α : Type} (x:Option (α × Aa × List Nat)):addw [] x = x:=by
 cases x with
 | none => rfl
 | some r => rfl
theorem O0 (cf:A0) (m:Nat) (i:Ins) (r:List Ins) (f:FF) (h:Aa) :
  Dh cf m (i :: r) f h = match Gd cf m i f h with | some (f',h',ws) => addw ws (Dh cf m r f' h') | none => none:=by
 simp only [Dh,Gd]
 cases wanted f i.g with
 | none => rfl
 | some b =>
  cases b with
  | true =>
   simp only
   cases opD cf m f h i with
   | none => rfl
   | some r => rfl
  | false => simp only [Aq9]
theorem Sz {f:FF} {d d':Option Nat} {v v':Value} (h:∀ x,d = some x → d' ≠ some x):G9 (G9 f d v) d' v' = G9 (G9 f d' v') d v:=by
 cases d with
 | none => rfl
 | some x =>
  cases d' with
  | none => rfl
  | some y =>
   have a:x ≠ y:=fun e => h x rfl (by rw [e])
   funext s
   simp only [G9,upd]
   by_cases c:s = y
   ·by_cases h2:s = x
    ·exact absurd (h2.symm.trans c) a
    ·simp [c,Ne.symm a]
   ·simp [c]
theorem Zs {f:FF} {d:Option Nat} {v:Value} {l:List Nat} (h:∀ x,d = some x → x ∉ l):∀ s ∈ l,G9 f d v s = f s:=by
 intro s a
 cases d with
 | none => rfl
 | some x =>
  have:s ≠ x:=fun e => h x rfl (e ▸ a)
  simp [G9,upd,this]
theorem I7 {f:FF} {o:O} {h h':Aa} {m:Nat} (hl:low m (Ab7 f o) = true) (hh:∀ b,b < m → h'[b]? = h[b]?):Fw f h' o = Fw f h o:=by
 cases o <;> simp only [Fw] <;> simp only [Ab7] at hl
 case ld g x =>
  unfold N2
  split
  ·rename_i a e;rw [e] at hl;rw [hh _ (by simpa [low] using hl)]
  ·rfl
 case look q z x k ok =>
  unfold Rz
  generalize ev f x = vx at hl ⊢
  cases vx <;> first | rfl | skip
  rename_i r
  cases r with
  | none => rfl
  | some r => simp only;rw [hh _ (by simpa [low] using hl)]
 case lenm x =>
  split
  ·rfl
  ·rename_i r e;rw [e] at hl;rw [hh _ (by simpa [low] using hl)]
  ·rfl
 case b2s x =>
  split
  ·rename_i b n c e
   rw [e] at hl ⊢
   cases b with
   | none => rfl
   | some a => simp only [cellsOf];rw [hh _ (by simpa [low] using hl)]
  ·rfl
theorem Ay4 {cf:A0} {m:Nat} {f:FF} {i:Ins} {h:Aa} {r:Value × Aa × List Nat} (hc:cls i.o = .P) (hv:opD cf m f h i = some r):∃ v,r = (v,h,[]) ∧ ∀ k,opD cf m f k i = some (v,k,[]):=by
 unfold opD at hv ⊢
 rw [hc] at hv
 simp only [hc] at hv ⊢
 cases hp:Ax f i.o with
 | none => rw [hp] at hv;cases hv
 | some v => rw [hp] at hv;simp only [OI] at hv;exact ⟨v,hv.symm,fun k => rfl⟩
theorem Zy {cf:A0} {m:Nat} {f:FF} {i:Ins} {h:Aa} {r:Value × Aa × List Nat} (hc:cls i.o = .M) (hv:opD cf m f h i = some r) :
  ∃ v,r = (v,h,[]) ∧ (i.flag = true → low m (Ab7 f i.o) = true) ∧ ∀ k,Fw f k i.o = Fw f h i.o → opD cf m f k i = some (v,k,[]):=by
 unfold opD at hv ⊢
 simp only [hc] at hv ⊢
 split at hv
 ·cases hv
 ·rename_i c
  cases hp:Fw f h i.o with
  | none => rw [hp] at hv;cases hv
  | some v =>
   rw [hp] at hv;simp only [OI] at hv
   refine ⟨v,hv.symm,fun e => ?_,fun k d => ?_⟩
   ·cases a:low m (Ab7 f i.o) with
    | true => rfl
    | false => exact absurd ⟨e,a⟩ c
   ·rw [if_neg c,d]
theorem Am2 {cf:A0} {m:Nat} {f:FF} {i:Ins} {h:Aa} {r:Value × Aa × List Nat} (hc:cls i.o = .A) (hv:opD cf m f h i = some r):∃ v o,r = (v,h.set (m + i.rank) o,[]) ∧ ∀ k,opD cf m f k i = some (v,k.set (m + i.rank) o,[]):=by
 unfold opD at hv ⊢
 simp only [hc] at hv ⊢
 cases hp:Jh f i.o with
 | none => rw [hp] at hv;cases hv
 | some n => rw [hp] at hv;simp only [OI] at hv;exact ⟨_,_,hv.symm,fun k => rfl⟩
theorem Ay3 {cf:A0} {m:Nat} {f:FF} {i:Ins} {h:Aa} {r:Value × Aa × List Nat} (hc:cls i.o = .S) (hv:opD cf m f h i = some r) (hfl:i.flag = true) :
  ∃ v ws h',r = (v,h',ws) ∧ ∀ b,b < m → h'[b]? = h[b]?:=by
 unfold opD at hv
 simp only [hc] at hv
 obtain ⟨d,g,o,s,z,t⟩:=i
 cases o <;> first | (simp [cls] at hc;done) | skip
 rename_i n a x
 simp only at hv hfl
 split at hv
 ·cases hv
 ·rename_i j
  have c:high m (ev f a) = true:=by
   cases l:high m (ev f a) with
   | true => rfl
   | false => exact absurd ⟨hfl,l⟩ j
  cases hs:Fk n (ev f a) (ev f x) h with
  | none => rw [hs] at hv;cases hv
  | some p =>
   rw [hs] at hv;simp only [OI] at hv
   refine ⟨_,_,_,hv.symm,fun b y => ?_⟩
   unfold Fk at hs
   split at hs <;> try (cases hs;done)
   rename_i u e
   split at hs <;> try (cases hs;done)
   split at hs <;> try (cases hs;done)
   simp only [OI] at hs
   rw [← hs]
   rw [e] at c
   simp only [high,decide_eq_true_eq] at c
   exact List.getElem?_set_ne (by omega)
theorem Ay5 {cf:A0} (hk:Np cf) {m:Nat} {f:FF} {i:Ins} {h:Aa} {r:Value × Aa × List Nat} (hc:cls i.o = .C) (hv:opD cf m f h i = some r) (hfl:i.flag = true):∃ v,r = (v,h,[]):=by
 unfold opD at hv
 simp only [hc] at hv
 obtain ⟨d,g,o,p,t,s⟩:=i
 cases o <;> first | (simp [cls] at hc;done) | skip
 rename_i u e
 simp only at hv hfl
 split at hv
 ·rename_i v h' a l
  split at hv
  ·cases hv
  ·rename_i n
   simp only [OI] at hv
   have h2:h'.length = h.length ∧ a = []:=by
    by_cases c:h'.length = h.length ∧ a = []
    ·exact c
    ·exact absurd (.inl ⟨hfl,c⟩) n
   have j:=hk _ _ _ _ _ _ l
   have:h' = h:=by
    apply List.ext_getElem?
    intro b
    rcases Nat.lt_or_ge b h.length with hb | hb
    ·exact j.at_ b hb (by rw [h2.2];simp)
    ·rw [List.getElem?_eq_none hb,List.getElem?_eq_none (by rw [h2.1];exact hb)]
   rw [← hv,this,h2.2];exact ⟨v,rfl⟩
 ·cases hv
theorem Vd {cf0:A0} (hk:Np cf0) {m:Nat} {f:FF} {i:Ins} {h:Aa} {v:Value} {h':Aa} {ws:List Nat} (hc:cls i.o = .C ∨ cls i.o = .E) (hv:opD cf0 m f h i = some (v,h',ws)) (hl:i.loose = true):ws = [] ∧ ∀ b,b < h.length → h'[b]? = h[b]?:=by
 unfold opD at hv
 rcases hc with hc | hc
 ·simp only [hc] at hv
  obtain ⟨d,g,o,t,x,u⟩:=i
  cases o <;> first | (simp [cls] at hc;done) | skip
  rename_i y n
  simp only at hv hl
  split at hv
  ·rename_i s p c e
   split at hv
   ·cases hv
   ·rename_i j
    simp only [OI,Prod.mk.injEq] at hv
    obtain ⟨rfl,rfl,rfl⟩:=hv
    have h2:c = []:=by
     cases c with
     | nil => rfl
     | cons a r => exact absurd (.inr ⟨hl,by simp⟩) j
    subst h2
    exact ⟨rfl,fun b l => (hk _ _ _ _ _ _ e).at_ b l (by simp)⟩
  ·cases hv
 ·simp only [hc] at hv
  split at hv
  ·rename_i s p c e
   split at hv
   ·cases hv
   ·rename_i j
    simp only [OI,Prod.mk.injEq] at hv
    obtain ⟨rfl,rfl,rfl⟩:=hv
    have h2:c = []:=by
     cases c with
     | nil => rfl
     | cons a r => exact absurd ⟨hl,by simp⟩ j
    subst h2
    exact ⟨rfl,fun b l => (Aax (Nat.le_refl _) e).at_ b l (by simp)⟩
  ·cases hv
theorem At2 {cf:A0} (hk:Wc cf) {m:Nat} {f:FF} {x y:Ins} {h h1 h2:Aa} {vx vy:Value} {wx wy:List Nat} (hm:m ≤ h.length) (hx:opD cf m f h x = some (vx,h1,wx)) (hy:opD cf m f h1 y = some (vy,h2,wy))
  (hc:Aiv x y = true) (hd:cls y.o = .A → h[m + y.rank]? = some .dead):∃ k1 uy ux,opD cf m f h y = some (vy,k1,uy) ∧ opD cf m f k1 x = some (vx,h2,ux) ∧ uy ++ ux = wx ++ wy:=by
 unfold Aiv at hc
 by_cases u:cls x.o = .P
 ·obtain ⟨v,e,g⟩:=Ay4 u hx
  cases e
  exact ⟨h2,wy,[],hy,g h2,by simp⟩
 by_cases r:cls y.o = .P
 ·obtain ⟨v,e,g⟩:=Ay4 r hy
  cases e
  exact ⟨h,[],wx,g h,hx,by simp⟩
 have late:cls x.o ≠ .A → cls y.o = .A → ∃ k1 uy ux,opD cf m f h y = some (vy,k1,uy) ∧ opD cf m f k1 x = some (vx,h2,ux) ∧ uy ++ ux = wx ++ wy:=by
  intro nx c
  obtain ⟨l,o,j,s⟩:=Am2 c hy
  cases j
  obtain ⟨_,_,a3⟩:=Ve hk.dead (o:=o) (hd c) (fun e => absurd e nx) _ _ _ hx
  exact ⟨_,[],wx,s h,a3,by simp⟩
 cases cx:cls x.o with
 | P => exact absurd cx u
 | E =>
  cases c:cls y.o with
  | P => exact absurd c r
  | M =>
   rw [cx,c] at hc;simp only [Bool.and_eq_true] at hc
   obtain ⟨e,n⟩:=Vd hk.keep (.inr cx) hx hc.1
   subst e
   obtain ⟨l,j,d,a⟩:=Zy c hy
   cases j
   have p:Fw f h y.o = Fw f h1 y.o:=(I7 (d hc.2) fun b t => n b (by omega)).symm
   exact ⟨h,[],[],a h p,hx,rfl⟩
  | A => exact late (by rw [cx];simp) c
  | _ => rw [cx,c] at hc;simp at hc
 | M =>
  obtain ⟨v,e,d,g⟩:=Zy cx hx
  cases e
  cases c:cls y.o with
  | P => exact absurd c r
  | E =>
   rw [cx,c] at hc;simp only [Bool.and_eq_true] at hc
   obtain ⟨j,n⟩:=Vd hk.keep (.inr c) hy hc.1
   subst j
   exact ⟨_,[],[],hy,g _ (I7 (d hc.2) fun b t => n b (by omega)),rfl⟩
  | M =>
   obtain ⟨l,j,_,_⟩:=Zy c hy
   cases j
   exact ⟨h,[],[],hy,hx,rfl⟩
  | A =>
   rw [cx,c] at hc;simp only at hc
   obtain ⟨l,o,j,s⟩:=Am2 c hy
   cases j
   exact ⟨_,[],[],hy,g _ (I7 (d hc) fun b t => List.getElem?_set_ne (by omega)),rfl⟩
  | S =>
   rw [cx,c] at hc;simp only [Bool.and_eq_true] at hc
   obtain ⟨l,z,h',j,s⟩:=Ay3 c hy hc.2
   cases j
   exact ⟨_,wy,[],hy,g _ (I7 (d hc.1) s),by simp⟩
  | C =>
   rw [cx,c] at hc;simp only [Bool.or_eq_true,Bool.and_eq_true] at hc
   rcases hc with hc | hc
   ·obtain ⟨l,j⟩:=Ay5 hk.keep c hy hc
    cases j
    exact ⟨h,[],[],hy,hx,rfl⟩
   ·obtain ⟨j,n⟩:=Vd hk.keep (.inl c) hy hc.1
    subst j
    exact ⟨_,[],[],hy,g _ (I7 (d hc.2) fun b t => n b (by omega)),rfl⟩
 | A =>
  obtain ⟨v,o,e,g⟩:=Am2 cx hx
  cases e
  cases c:cls y.o with
  | P => exact absurd c r
  | E => rw [cx,c] at hc;simp at hc
  | S => rw [cx,c] at hc;simp at hc
  | C => rw [cx,c] at hc;simp at hc
  | M =>
   rw [cx,c] at hc;simp only at hc
   obtain ⟨l,j,d,a⟩:=Zy c hy
   cases j
   have p:Fw f h y.o = Fw f (h.set (m + x.rank) o) y.o:=(I7 (d hc) fun b t => List.getElem?_set_ne (by omega)).symm
   exact ⟨h,[],[],a h p,g h,rfl⟩
  | A =>
   rw [cx,c] at hc;simp only [bne_iff_ne,ne_eq] at hc
   obtain ⟨l,o',j,a⟩:=Am2 c hy
   cases j
   refine ⟨_,[],[],a h,?_,rfl⟩
   rw [g,List.set_comm _ _ (by omega)]
 | S =>
  cases c:cls y.o with
  | P => exact absurd c r
  | M =>
   rw [cx,c] at hc;simp only [Bool.and_eq_true] at hc
   obtain ⟨v,z,h',e,s⟩:=Ay3 cx hx hc.1
   cases e
   obtain ⟨l,j,d,a⟩:=Zy c hy
   cases j
   have p:Fw f h y.o = Fw f h1 y.o:=(I7 (d hc.2) s).symm
   exact ⟨h,[],wx,a h p,hx,by simp⟩
  | A => exact late (by rw [cx];simp) c
  | _ => rw [cx,c] at hc;simp at hc
 | C =>
  cases c:cls y.o with
  | P => exact absurd c r
  | M =>
   rw [cx,c] at hc;simp only [Bool.or_eq_true,Bool.and_eq_true] at hc
   rcases hc with hc | hc
   ·obtain ⟨v,e⟩:=Ay5 hk.keep cx hx hc
    cases e
    obtain ⟨l,j,d,a⟩:=Zy c hy
    cases j
    exact ⟨h,[],[],hy,hx,rfl⟩
   ·obtain ⟨e,n⟩:=Vd hk.keep (.inl cx) hx hc.1
    subst e
    obtain ⟨l,j,d,a⟩:=Zy c hy
    cases j
    have p:Fw f h y.o = Fw f h1 y.o:=(I7 (d hc.2) fun b t => n b (by omega)).symm
    exact ⟨h,[],[],a h p,hx,rfl⟩
  | A => exact late (by rw [cx];simp) c
  | _ => rw [cx,c] at hc;simp at hc
theorem Aiu {x y:Ins} (hc:comm x y = true):Aiv x y = true ∧ (∀ d,x.d = some d → d ∉ y.slots) ∧ (∀ d,x.d = some d → y.d ≠ some d) ∧ (∀ d,y.d = some d → d ∉ x.slots):=by
 unfold comm at hc
 simp only [Bool.and_eq_true] at hc
 refine ⟨hc.1.1,fun d a => ?_,fun d a => ?_,fun d a => ?_⟩
 ·have:=hc.1.2;rw [a] at this;simp at this;exact this.1
 ·have:=hc.1.2;rw [a] at this;simp at this;exact this.2
 ·have:=hc.2;rw [a] at this;simp at this;exact this
theorem Ajs {cf:A0} (hk:Wc cf) {m:Nat} {x y:Ins} (hc:comm x y = true) {f f1 f2:FF} {h h1 h2:Aa} {wx wy:List Nat} (hm:m ≤ h.length) (hda:cls y.o = .A → h[m + y.rank]? = some .dead) (hx:Gd cf m x f h = some (f1,h1,wx)) (hy:Gd cf m y f1 h1 = some (f2,h2,wy)) :
  ∃ g1 k1 uy ux,Gd cf m y f h = some (g1,k1,uy) ∧ Gd cf m x g1 k1 = some (f2,h2,ux) ∧ uy ++ ux = wx ++ wy:=by
 obtain ⟨t,d1,l,d3⟩:=Aiu hc
 unfold Gd at hx
 have n:∀ v c,opD cf m (G9 f x.d v) c y = opD cf m f c y ∧ wanted (G9 f x.d v) y.g = wanted f y.g:=fun v c => Acu (Zs d1)
 have j:∀ v c,opD cf m (G9 f y.d v) c x = opD cf m f c x ∧ wanted (G9 f y.d v) x.g = wanted f x.g:=fun v c => Acu (Zs d3)
 cases wx':wanted f x.g with
 | none => rw [wx'] at hx;cases hx
 | some bx =>
  rw [wx'] at hx
  cases bx with
  | true =>
   simp only at hx
   cases ox:opD cf m f h x with
   | none => rw [ox] at hx;cases hx
   | some r =>
    obtain ⟨z,s,ww⟩:=r
    rw [ox] at hx
    simp only [OI,Prod.mk.injEq] at hx
    obtain ⟨rfl,rfl,rfl⟩:=hx
    unfold Gd at hy
    rw [(n z s).2,(n z s).1] at hy
    cases a:wanted f y.g with
    | none => rw [a] at hy;cases hy
    | some by_ =>
     rw [a] at hy
     cases by_ with
     | true =>
      simp only at hy
      cases oy:opD cf m f s y with
      | none => rw [oy] at hy;cases hy
      | some r =>
       obtain ⟨e,p,u⟩:=r
       rw [oy] at hy
       simp only [OI,Prod.mk.injEq] at hy
       obtain ⟨rfl,rfl,rfl⟩:=hy
       obtain ⟨k1,uy,ux,e1,e2,e3⟩:=At2 hk hm ox oy t hda
       refine ⟨G9 f y.d e,k1,uy,ux,by simp only [Gd,a,e1],?_,e3⟩
       simp only [Gd,(j e k1).2,(j e k1).1,wx',e2,Sz l]
     | false =>
      simp only [OI,Prod.mk.injEq] at hy
      obtain ⟨rfl,rfl,rfl⟩:=hy
      refine ⟨G9 f y.d undef,h,[],ww,by simp only [Gd,a],?_,by simp⟩
      simp only [Gd,(j undef h).2,(j undef h).1,wx',ox,Sz l]
  | false =>
   simp only [OI,Prod.mk.injEq] at hx
   obtain ⟨rfl,rfl,rfl⟩:=hx
   unfold Gd at hy
   rw [(n undef h).2,(n undef h).1] at hy
   cases a:wanted f y.g with
   | none => rw [a] at hy;cases hy
   | some by_ =>
    rw [a] at hy
    cases by_ with
    | true =>
     simp only at hy
     cases oy:opD cf m f h y with
     | none => rw [oy] at hy;cases hy
     | some r =>
      obtain ⟨e,p,u⟩:=r
      rw [oy] at hy
      simp only [OI,Prod.mk.injEq] at hy
      obtain ⟨rfl,rfl,rfl⟩:=hy
      refine ⟨G9 f y.d e,p,u,[],by simp only [Gd,a,oy],?_,by simp⟩
      simp only [Gd,(j e p).2,wx',Sz l]
    | false =>
     simp only [OI,Prod.mk.injEq] at hy
     obtain ⟨rfl,rfl,rfl⟩:=hy
     refine ⟨G9 f y.d undef,h,[],[],by simp only [Gd,a],?_,rfl⟩
     simp only [Gd,(j undef h).2,wx',Sz l]
theorem Apf {cf:A0} (hk:Wc cf) {m:Nat} {x:Ins} {f f1:FF} {h h1:Aa} {wx:List Nat} (hm:m ≤ h.length) (hx:Gd cf m x f h = some (f1,h1,wx)):m ≤ h1.length:=by
 unfold Gd at hx
 split at hx
 ·cases ox:opD cf m f h x with
  | none => rw [ox] at hx;cases hx
  | some r =>
   obtain ⟨c,d,a⟩:=r
   rw [ox] at hx
   simp only [OI,Prod.mk.injEq] at hx
   obtain ⟨rfl,rfl,rfl⟩:=hx
   have:=(Zx hk.keep hm ox).len
   omega
 ·simp only [OI,Prod.mk.injEq] at hx
  obtain ⟨rfl,rfl,rfl⟩:=hx
  exact hm
 ·cases hx
theorem Ajr {cf:A0} (hk:Wc cf) {m p:Nat} {x:Ins} {f f1:FF} {h h1:Aa} {wx:List Nat} (hd:h[m + p]? = some .dead) (hA:cls x.o = .A → x.rank ≠ p) (hx:Gd cf m x f h = some (f1,h1,wx)):h1[m + p]? = some .dead:=by
 unfold Gd at hx
 split at hx
 ·cases ox:opD cf m f h x with
  | none => rw [ox] at hx;cases hx
  | some r =>
   obtain ⟨c,d,a⟩:=r
   rw [ox] at hx
   simp only [OI,Prod.mk.injEq] at hx
   obtain ⟨rfl,rfl,rfl⟩:=hx
   exact (Ve hk.dead (o:=.dead) hd (fun e => by have:=hA e;omega) _ _ _ ox).1
 ·simp only [OI,Prod.mk.injEq] at hx
  obtain ⟨rfl,rfl,rfl⟩:=hx
  exact hd
 ·cases hx
theorem Aqw {x y:Ins} (hc:comm x y = true) (hx:cls x.o = .A) (hy:cls y.o = .A):x.rank ≠ y.rank:=by
 have:=(Aiu hc).1
 unfold Aiv at this
 rw [hx,hy] at this
 simpa using this
theorem Zm {cf:A0} (hk:Wc cf) {m:Nat} {i:Ins} {c2:List Ins}:∀ {c1:List Ins} {f:FF} {h:Aa} {r:FF × Aa × List Nat},m ≤ h.length → (cls i.o = .A → h[m + i.rank]? = some .dead) → (∀ j ∈ c1,comm j i = true) → Dh cf m (c1 ++ i :: c2) f h = some r → Dh cf m (i :: (c1 ++ c2)) f h = some r
 | [],f,h,r,_,_,_,hr => hr
 | j :: c1,f,h,r,hm,hda,hc,hr => by
  rw [List.cons_append,O0] at hr
  cases hj:Gd cf m j f h with
  | none => rw [hj] at hr;cases hr
  | some s =>
   obtain ⟨c,d,w1⟩:=s
   rw [hj] at hr
   simp only at hr
   cases hr1:Dh cf m (c1 ++ i :: c2) c d with
   | none => rw [hr1] at hr;cases hr
   | some r1 =>
    rw [hr1] at hr
    have a:=Zm hk (Apf hk hm hj) (fun e => Ajr hk (hda e) (fun q => Aqw (hc j List.mem_cons_self) q e) hj) (fun k hk => hc k (List.mem_cons_of_mem _ hk)) hr1
    rw [O0] at a
    cases hi:Gd cf m i c d with
    | none => rw [hi] at a;cases a
    | some s2 =>
     obtain ⟨n,h2,w2⟩:=s2
     rw [hi] at a
     simp only at a
     obtain ⟨z,u,t,x,g,p,l⟩:=Ajs hk (hc j List.mem_cons_self) hm hda hj hi
     rw [List.cons_append,O0,g]
     simp only
     rw [O0,p]
     simp only
     rw [← hr,← a]
     cases Dh cf m (c1 ++ c2) n h2 with
     | none => rfl
     | some r3 =>
      obtain ⟨y,v,w3⟩:=r3
      simp only [addw,← List.append_assoc,l]
end Go.L
namespace Go.L
open Go
variable {P:Program} {ι : Inj} {h:Aa} {w:World}
section
variable {sz:Nat} {f f':FF} {a:Act} {o:Oper} {q:O} {v:Value} {h':Aa} {ws:List Nat} {F:Fence} {n:Nat} {cf:A0} {next:Act → World → Prop} {Q:Exit → Act → World → Prop} {ops:Array Oper}
theorem Axg {m:Nat} {i:Ins} {r:Value × Aa × List Nat} (hc:cls i.o ≠ .A) (hv:opD cf m f h i = some r):opN cf f h i.o = some r:=by
 unfold opD at hv
 unfold opN
 cases hcl:cls i.o with
 | A => exact absurd hcl hc
 | P => rw [hcl] at hv;exact hv
 | M =>
  simp only [hcl] at hv ⊢
  split at hv
  ·cases hv
  ·exact hv
 | S =>
  simp only [hcl] at hv ⊢
  split at hv
  ·split at hv
   ·cases hv
   ·exact hv
  ·cases hv
 | C =>
  simp only [hcl] at hv ⊢
  split at hv
  ·split at hv
   ·rename_i a
    split at hv
    ·cases hv
    ·rw [a];exact hv
   ·cases hv
  ·cases hv
 | E =>
  simp only [hcl] at hv ⊢
  split at hv
  ·rename_i a
   split at hv
   ·cases hv
   ·rw [a];exact hv
  ·cases hv
theorem Az9 (hW:Wide F) (hcf:Ku P cf) {m:Nat} {i:Ins} (hs:Sim P ι h w) (hf:FFR ι sz f a.tmps) (ho:cO P o.op = some i.o) (hv:opD cf m f h i = some (v,h',ws))
  (hroom:cls i.o = .A → m + i.rank < h.length ∧ ι (m + i.rank) = none)
  (hn:∀ ι' w' v',St P ι h w ι' h' w' → (∀ b,b < h.length → (cls i.o = .A → b ≠ m + i.rank) → ι' b = ι b) → VR ι' v v' → next (a.put o.dst v') w'):o.wpIn F n P a w next Q:=by
 by_cases d:cls i.o = .A
 ·refine ⟨fun f _ => hW.fn f,?_⟩
  rw [Oper.semAt_plain F _ _ (Aba ho)]
  unfold opD at hv
  simp only [d] at hv
  cases hp:Jh f i.o with
  | none => rw [hp] at hv;cases hv
  | some nw =>
   rw [hp] at hv;simp only [OI,Prod.mk.injEq] at hv;obtain ⟨rfl,rfl,rfl⟩:=hv
   obtain ⟨wd,O,r,v',s,h2,t,u⟩:=Aud (w:=w) hf ho d hp
   obtain ⟨g,c⟩:=hroom d
   rw [h2]
   obtain ⟨y,h6⟩:=u _ c
   have e:=St.quiet hs s
   have p:=St.place (P:=P) (h':=h.set (m + i.rank) nw.1) e.sim (o:=nw.1) (O:=O) (m:=r) (by rw [t,s.heap]) c (by simp) (by simpa using g) (List.getElem?_set_self g)
    (fun x o' z j _ => by rwa [List.getElem?_set_ne (Ne.symm z)] at j) (fun _ => y)
   exact hn _ _ v' (e.trans p) (fun b _ l => Inj.put_ne r (l d)) h6
 ·exact Ay1 hW hcf hs hf ho (Axg d hv) fun ι' w' v' st old hvr => hn ι' w' v' st (fun b l _ => old b l) hvr
theorem Ak9 (ops:Array Oper):∀ i j:Nat,((Region.before ops).getD i 0).testBit j = true → ∃ o e,ops[i]? = some o ∧ e ∈ o.after ∧ Region.binds .any e = true ∧ (j = e.on ∨ ((Region.before ops).getD e.on 0).testBit j = true):=by
 have f:∀ (acc:Array Nat) (l:List Edge) (s:Nat) (j:Nat),(l.foldl (fun s e => if Region.binds .any e then s ||| 2 ^ e.on ||| acc.getD e.on 0 else s) s).testBit j = true →
   s.testBit j = true ∨ ∃ e ∈ l,Region.binds .any e = true ∧ (j = e.on ∨ (acc.getD e.on 0).testBit j = true):=by
  intro acc l
  induction l with
  | nil => intro s j h;exact .inl h
  | cons e l ih =>
   intro s j h
   rw [List.foldl_cons] at h
   rcases ih _ j h with h1 | ⟨x,t,h2⟩
   ·split at h1
    ·rename_i p
     rw [Nat.testBit_or,Nat.testBit_or,Bool.or_eq_true,Bool.or_eq_true] at h1
     rcases h1 with (h1 | h1) | h1
     ·exact .inl h1
     ·rw [Nat.testBit_two_pow] at h1
      exact .inr ⟨e,by simp,p,.inl (by simpa using Eq.symm (by simpa using h1))⟩
     ·exact .inr ⟨e,by simp,p,.inr h1⟩
    ·exact .inl h1
   ·exact .inr ⟨x,by simp [t],h2⟩
 have d:∀ (l a:List Oper) (acc:Array Nat),acc.size = a.length →
   (∀ i j:Nat,(acc.getD i 0).testBit j = true → ∃ o e,a[i]? = some o ∧ e ∈ o.after ∧ Region.binds .any e = true ∧ (j = e.on ∨ (acc.getD e.on 0).testBit j = true)) →
   ∀ i j:Nat,((l.foldl (fun acc (o:Oper) => acc.push (o.after.foldl (fun s e => if Region.binds .any e then s ||| 2 ^ e.on ||| acc.getD e.on 0 else s) 0)) acc).getD i 0).testBit j = true →
    ∃ o e,(a ++ l)[i]? = some o ∧ e ∈ o.after ∧ Region.binds .any e = true ∧ (j = e.on ∨ ((l.foldl (fun acc (o:Oper) => acc.push (o.after.foldl (fun s e => if Region.binds .any e then s ||| 2 ^ e.on ||| acc.getD e.on 0 else s) 0)) acc).getD e.on 0).testBit j = true):=by
  intro l
  induction l with
  | nil => intro a acc _ c i j h;simpa using c i j h
  | cons o l ih =>
   intro a acc m c i j h
   rw [List.foldl_cons] at h ⊢
   have:=ih (a ++ [o]) _ (by simp [m]) ?_ i j h
   ·simpa using this
   ·intro i j h
    have g:∀ k,(acc.getD k 0).testBit j = true → ((acc.push (o.after.foldl (fun s e => if Region.binds .any e then s ||| 2 ^ e.on ||| acc.getD e.on 0 else s) 0)).getD k 0).testBit j = true:=by
     intro k n
     rcases Nat.lt_or_ge k acc.size with hl | hl
     ·simp only [Array.getD_eq_getD_getElem?] at n ⊢
      rw [Array.getElem?_push_lt hl]
      simpa [hl] using n
     ·rw [Array.getD_eq_getD_getElem?,Array.getElem?_eq_none hl] at n;simp at n
    rcases Nat.lt_trichotomy i acc.size with hl | he | hg
    ·have h':(acc.getD i 0).testBit j = true:=by
      simp only [Array.getD_eq_getD_getElem?] at h ⊢
      rw [Array.getElem?_push_lt hl] at h
      simpa [hl] using h
     obtain ⟨u,e,h1,h2,r,v⟩:=c i j h'
     refine ⟨u,e,?_,h2,r,v.imp id (g e.on)⟩
     rw [GL (by omega)];exact h1
    ·subst he
     have h':(o.after.foldl (fun s e => if Region.binds .any e then s ||| 2 ^ e.on ||| acc.getD e.on 0 else s) 0).testBit j = true:=by
      simpa [Array.getD_eq_getD_getElem?] using h
     rw [← Array.foldl_toList] at h'
     rcases f acc _ _ j h' with h1 | ⟨e,he,h2,r⟩
     ·simp at h1
     ·refine ⟨o,e,?_,by simpa using he,h2,r.imp id (g e.on)⟩
      rw [List.getElem?_append_right (by omega)];simp [m]
    ·rw [Array.getD_eq_getD_getElem?,Array.getElem?_eq_none (by simp;omega)] at h;simp at h
 intro i j h
 have p:Region.before ops = ops.toList.foldl (fun acc (o:Oper) => acc.push (o.after.foldl (fun s e => if Region.binds .any e then s ||| 2 ^ e.on ||| acc.getD e.on 0 else s) 0)) #[]:=by
  unfold Region.before
  rw [← Array.foldl_toList]
 rw [p] at h ⊢
 have:=d ops.toList [] #[] rfl (by intro i j h;simp at h) i j h
 simpa using this
end
end Go.L
namespace Go.L
open Go
variable {P:Program} {ι : Inj} {h:Aa} {w:World}
def dfl:Ins:={ d:=none,g:=none,o:=.lena 0 }
structure A1f (P:Program) (sz:Nat) (ops:Array Oper) (r:List Ins) (n:Nat):Prop where
 ins:∀ i,i < ops.size → ∃ o i0,ops[i]? = some o ∧ cI P sz ops o = some i0 ∧ (r.getD i dfl).d = i0.d ∧ (r.getD i dfl).g = i0.g ∧ (r.getD i dfl).o = i0.o
 comm:∀ i j,i < j → j < ops.size → ((Region.before ops).getD j 0).testBit i = false → comm (r.getD i dfl) (r.getD j dfl) = true
 back:∀ (i:Nat) o,ops[i]? = some o → ∀ e ∈ o.after,Region.binds .any e = true → e.on < i
 rank:∀ i,i < ops.size → cls (r.getD i dfl).o = .A → (r.getD i dfl).rank < n
 ranks:∀ i j,i < ops.size → j < ops.size → i ≠ j → cls (r.getD i dfl).o = .A → cls (r.getD j dfl).o = .A → (r.getD i dfl).rank ≠ (r.getD j dfl).rank
section
variable {sz:Nat} {a:Act} {h':Aa} {ws:List Nat} {F:Fence} {n nn:Nat} {cf:A0} {Q:Exit → Act → World → Prop} {ops:Array Oper}
theorem A09 (hW:Wide F) (hcf:Ku P cf) (hk:Wc cf) {r:List Ins} (hr:A1f P sz ops r nn) {m:Nat}:∀ (fuel:Nat) (listed:Array Bool) (c:List Nat) {ι : Inj} {h:Aa} {w:World} {f:FF} {a:Act},fuel = c.length → listed.size = ops.size →
  (∀ j:Nat,j ∈ c ↔ j < ops.size ∧ listed.getD j true = false) → c.Pairwise (· < ·) → (∀ k:Nat,k < ops.size → listed.getD k true = true → ∀ j:Nat,((Region.before ops).getD k 0).testBit j = true → listed.getD j false = true) →
  Sim P ι h w → FFR ι sz f a.tmps → m ≤ h.length → (∀ j ∈ c,cls (r.getD j dfl).o = .A → m + (r.getD j dfl).rank < h.length ∧ ι (m + (r.getD j dfl).rank) = none ∧ h[m + (r.getD j dfl).rank]? = some .dead) →
  ∀ {f' h' ws},Dh cf m (c.map fun j => r.getD j dfl) f h = some (f',h',ws) →
  (∀ ι' a' w',St P ι h w ι' h' w' → (∀ b,b < m → ι' b = ι b) → FFR ι' sz f' a'.tmps → a'.defers = a.defers → Q .normal a' w') → wpAnyIn F n P .any ops Q fuel listed a w:=by
 intro fuel
 induction fuel with
 | zero =>
  intro listed c ι h w f a hfuel hsz hc hsort hclo hs hf hm hroom f' h' ws hv hq
  have ap:c = []:=List.eq_nil_of_length_eq_zero hfuel.symm
  subst ap
  simp only [List.map_nil,Dh,OI,Prod.mk.injEq] at hv
  obtain ⟨rfl,rfl,rfl⟩:=hv
  refine ⟨?_,hq ι a w (St.refl hs) (fun _ _ => rfl) hf rfl⟩
  cases hrd:Region.ready .any ops listed with
  | nil => rfl
  | cons i l =>
   have hi:i ∈ Region.ready .any ops listed:=by rw [hrd];simp
   obtain ⟨h1,o,h2,_⟩:=mem_ready.1 hi
   have:=(hc i).2 ⟨(Array.getElem?_eq_some_iff.1 h2).1,h1⟩
   cases this
 | succ fuel ih =>
  intro listed c ι h w f a hfuel hsz hc hsort hclo hs hf hm hroom f' h' ws hv hq
  refine ⟨fun af => ?_,fun i hi => ?_⟩
  ·exfalso
   cases c with
   | nil => simp at hfuel
   | cons i c =>
    obtain ⟨aa,a8⟩:=(hc i).1 (by simp)
    have:i ∈ Region.ready .any ops listed:=by
     refine mem_ready.2 ⟨a8,ops[i],by simp [aa],fun e he hb => ?_⟩
     have ar:=hr.back i ops[i] (by simp [aa]) e he hb
     have t:e.on < listed.size:=by omega
     cases hl:listed.getD e.on true with
     | true => rw [Array.getD_eq_getD_getElem?] at hl ⊢;simpa [t] using hl
     | false =>
      have ag:=(hc e.on).2 ⟨by omega,hl⟩
      rcases List.mem_cons.1 ag with e1 | h1
      ·omega
      ·have:=(List.pairwise_cons.1 hsort).1 _ h1;omega
    rw [af] at this;cases this
  ·obtain ⟨a8,o,ho,ae⟩:=mem_ready.1 hi
   have a0:i < ops.size:=(Array.getElem?_eq_some_iff.1 ho).1
   have a6:=(hc i).2 ⟨a0,a8⟩
   obtain ⟨c1,c2,rfl⟩:=List.append_of_mem a6
   have hp:=List.pairwise_append.1 hsort
   have a5:∀ j:Nat,((Region.before ops).getD i 0).testBit j = true → listed.getD j false = true:=by
    intro j hj
    obtain ⟨o',e,h1,h2,h3,h4⟩:=Ak9 ops i j hj
    rw [ho] at h1;cases h1
    have hl:=ae e h2 h3
    rcases h4 with rfl | h4
    ·exact hl
    ·have aa:=hr.back i o ho e h2 h3
     have t:e.on < listed.size:=by omega
     exact hclo e.on (by omega) (by rw [Array.getD_eq_getD_getElem?] at hl ⊢;simpa [t] using hl) j h4
   have ab:∀ x ∈ c1.map (fun j => r.getD j dfl),comm x (r.getD i dfl) = true:=by
    intro x hx
    obtain ⟨j,hj,rfl⟩:=List.mem_map.1 hx
    have aq:j < i:=hp.2.2 j hj i (by simp)
    refine hr.comm j i aq a0 ?_
    cases hb:((Region.before ops).getD i 0).testBit j with
    | false => rfl
    | true =>
     have h1:=a5 j hb
     have h2:=((hc j).1 (by simp [hj])).2
     have t:j < listed.size:=by omega
     rw [Array.getD_eq_getD_getElem?] at h1 h2
     simp [t] at h1 h2
     rw [h1] at h2;cases h2
   rw [List.map_append,List.map_cons] at hv
   have s:=Zm hk hm (fun hA => (hroom i a6 hA).2.2) ab hv
   rw [← List.map_append,O0] at s
   obtain ⟨o2,i0,ah,an,ed,eg,eo⟩:=hr.ins i a0
   rw [ho] at ah;cases ah
   obtain ⟨hd,am,hg,ai⟩:=Avr an
   rw [← eg] at hg
   rw [← eo] at ai
   rw [am] at ed
   have a4:∀ {ι1:Inj} {h1:Aa} {w1:World} {f1:FF} {a1:Act} {ac:List Nat},St P ι h w ι1 h1 w1 → h.length ≤ h1.length → (∀ b,b < h.length → (cls (r.getD i dfl).o = .A → b ≠ m + (r.getD i dfl).rank) → ι1 b = ι b) →
     (∀ b,b < m → ι1 b = ι b) → (∀ j,(cls (r.getD i dfl).o = .A → (r.getD i dfl).rank ≠ j) → h[m + j]? = some .dead → h1[m + j]? = some .dead) → FFR ι1 sz f1 a1.tmps → a1.defers = a.defers → addw ac (Dh cf m ((c1 ++ c2).map fun j => r.getD j dfl) f1 h1) = some (f',h',ws) → wpAnyIn F n P .any ops Q fuel (listed.setIfInBounds i true) a1 w1:=by
    intro ι1 h1 w1 f1 a1 ac st hlen hold hlow hdead hf1 hdef hadd
    cases hr2:Dh cf m ((c1 ++ c2).map fun j => r.getD j dfl) f1 h1 with
    | none => rw [hr2] at hadd;cases hadd
    | some p =>
     obtain ⟨f2,h2,as⟩:=p
     rw [hr2] at hadd
     simp only [addw,OI,Prod.mk.injEq] at hadd
     obtain ⟨rfl,rfl,_⟩:=hadd
     have ad:∀ j,j ∈ c1 ++ c2 → j ≠ i:=by
      intro j hj
      rcases List.mem_append.1 hj with hj | hj
      ·have:=hp.2.2 j hj i (by simp);omega
      ·have:=(List.pairwise_cons.1 hp.2.1).1 j hj;omega
     have z:∀ (j:Nat) (d:Bool),j ≠ i → (listed.setIfInBounds i true).getD j d = listed.getD j d:=by
      intro j d hj
      rw [Array.getD_eq_getD_getElem?,Array.getD_eq_getD_getElem?,Array.getElem?_setIfInBounds_ne (Ne.symm hj)]
     have u:∀ d:Bool,(listed.setIfInBounds i true).getD i d = true:=by
      intro d
      rw [Array.getD_eq_getD_getElem?];simp [hsz,a0]
     refine ih (listed.setIfInBounds i true) (c1 ++ c2) (by simp at hfuel ⊢;omega) (by simpa using hsz) (fun j => ?_) ?_ (fun k ak aj j hj => ?_) st.sim hf1 (by omega) (fun j hj hA => ?_) hr2 fun ι2 a2 w2 st2 old2 hf2 hd2 => hq ι2 a2 w2 (st.trans st2) (fun b hb => (old2 b hb).trans (hlow b hb)) hf2 (hd2.trans hdef)
     ·by_cases e:j = i
      ·subst e
       rw [u]
       exact ⟨fun hm => absurd rfl (ad j hm),fun hm => by simp at hm⟩
      ·rw [z j true e,← hc j]
       simp [e]
     ·exact List.pairwise_append.2 ⟨hp.1,(List.pairwise_cons.1 hp.2.1).2,fun x hx y hy => hp.2.2 x hx y (by simp [hy])⟩
     ·by_cases e:k = i
      ·subst e
       have:=a5 j hj
       by_cases e2:j = k
       ·rw [e2];exact u _
       ·rw [z j false e2];exact this
      ·rw [z k true e] at aj
       have:=hclo k ak aj j hj
       by_cases e2:j = i
       ·rw [e2];exact u _
       ·rw [z j false e2];exact this
     ·have a9:j ∈ c1 ++ i :: c2:=by simp at hj ⊢;rcases hj with h | h;exact .inl h;exact .inr (.inr h)
      obtain ⟨k1,k2,k3⟩:=hroom j a9 hA
      refine ⟨by omega,(hold _ k1 fun a7 => ?_).trans k2,hdead _ (fun a7 => Ne.symm (hr.ranks j i ((hc j).1 a9).1 a0 (ad j hj) hA a7)) k3⟩
      have:=hr.ranks j i ((hc j).1 a9).1 a0 (ad j hj) hA a7
      omega
   unfold wpOpIn
   simp only [ho]
   unfold Gd at s
   cases hw:wanted f (r.getD i dfl).g with
   | none => rw [hw] at s;cases s
   | some b =>
    rw [hw] at s
    have a3:=Yz (o:=o) (ops:=ops) hf hg hw
    cases b with
    | true =>
     rw [if_pos a3]
     simp only at s
     cases hv1:opD cf m f h (r.getD i dfl) with
     | none => rw [hv1] at s;cases s
     | some p =>
      obtain ⟨v,h1,ac⟩:=p
      rw [hv1] at s
      simp only at s
      refine Az9 hW hcf hs hf ai hv1 (fun hA => ⟨(hroom i a6 hA).1,(hroom i a6 hA).2.1⟩) fun ι' w' v' st old hvr => ?_
      refine a4 st (Zx hk.keep hm hv1).len old (fun b hb => old b (by omega) fun hA => by omega) (fun j ao al => (Ve hk.dead (o:=.dead) al (fun e => by have:=ao e;omega) _ _ _ hv1).1) (f1:=G9 f (r.getD i dfl).d v) (by rw [ed];exact Ym (a:=a) (hf.mono st.sub) hd hvr) ?_ s
      cases o.dst <;> rfl
    | false =>
     rw [if_neg (by rw [a3];simp)]
     refine ⟨fun f _ => hW.fn f,?_⟩
     simp only at s
     refine a4 (St.refl hs) (Nat.le_refl _) (fun _ _ _ => rfl) (fun _ _ => rfl) (fun _ _ h => h) (f1:=G9 f (r.getD i dfl).d undef) (by rw [ed];exact Ym (a:=a) hf hd VR.undef) ?_ s
     cases o.dst <;> rfl
end
end Go.L
