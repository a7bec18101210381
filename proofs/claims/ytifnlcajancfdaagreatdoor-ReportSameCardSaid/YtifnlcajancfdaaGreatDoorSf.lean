/- THE LOGICAL MACHINE AND THE MODEL: a statement in order. -/
import Derived.Test.YtifnlcajancfdaaGreatDoorSe
import Derived.Test.YtifnlcajancfdaaGreatDoorK
set_option linter.unusedVariables false
set_option linter.unusedSimpArgs false
namespace Go.L
open Go
variable {P:Program} {ι : Inj} {h:Aa} {w:World}
section
variable {sz:Nat} {f f':FF} {a:Act} {o:Oper} {q:O} {v:Value} {h':Aa} {ws:List Nat} {F:Fence} {n:Nat} {cf:Be} {next:Act→World→Prop} {Q:Exit→Act→World→Prop} {ops:Array Oper}
theorem Axz {i:Ins} (h:cI P sz ops o=some i):(∀ d,o.dst=some d→d<sz)∧i.d=o.dst∧cG ops o.guard=some i.g∧cO P o.op=some i.o:=by
 have hd:∀ d,o.dst=some d→d<sz:=by
  intro d hd
  unfold cI at h
  rw [hd] at h
  simp only [decide_eq_true_eq] at h
  split at h
  ·assumption
  ·cases h
 unfold cI at h
 rw [if_pos (by cases e:o.dst with | none => rfl | some d => simpa using hd d e)] at h
 simp only [OB,OM] at h
 obtain ⟨g,hg,o',ho,rfl⟩:=h
 exact ⟨hd,rfl,hg,ho⟩
theorem Zx {ι':Inj} {d:Option Nat} {v':Value} (hf:FFR ι' sz f a.tmps) (hd:∀ x,d=some x→x<sz) (hv:VR ι' v v'):FFR ι' sz (H7 f d v) (a.put d v').tmps:=by
 cases d with
 | none => exact hf
 | some d => exact hf.put (hd d rfl) hv
theorem Aac {g:Option (Nat × Bool)} (hf:FFR ι sz f a.tmps) (hg:cG ops o.guard=some g) {b:Bool} (hw:wanted f g=some b):Region.wanted o (yielded ops a.tmps)=b:=by
 unfold cG at hg
 unfold Region.wanted
 split at hg
 ·rename_i e
  simp only [OI] at hg;subst hg
  simp only [wanted,OI] at hw;subst hw
  rw [e]
 ·rename_i j want e
  rw [e]
  simp only [OM] at hg
  obtain ⟨d,hd,rfl⟩:=hg
  simp only [wanted] at hw
  have hv:=hf.at_ d
  simp only [yielded,hd,Option.bind_some]
  split at hw
  ·rename_i c ec
   rw [ec] at hv
   have hb:=hv.bool_inv
   have:a.tmps[d]? = some (.bool c):=by
    rw [Array.getD_eq_getD_getElem?] at hb
    cases ht:a.tmps[d]? with
    | none => rw [ht] at hb;cases hb
    | some x => rw [ht] at hb;simp at hb;rw [hb]
   rw [this]
   simp only [OI] at hw;subst hw
   simp
  ·rename_i vs ec
   rw [ec] at hv
   split at hw
   ·rename_i hemp
    simp only [OI] at hw;subst hw
    obtain ⟨cs',hr,_⟩:=hv.tuple_inv (by intro e;simp only [Ks,Value.tuple.injEq] at e;subst e;simp at hemp)
    have:∀ c,a.tmps[d]? ≠ some (.bool c):=by
     intro c hc
     rw [Array.getD_eq_getD_getElem?,hc] at hr
     cases hr
    cases ht:a.tmps[d]? with
    | none => simp
    | some x =>
     cases x<;>first | (exact absurd ht (this _)) | simp
   ·cases hw
  ·cases hw
def Ops (P:Program) (sz:Nat) (ops:Array Oper):List Nat→List Ins→Prop:=All2 fun i ins => ∃ o,ops[i]? = some o∧cI P sz ops o=some ins
theorem Azs (hW:Wide F) (hcf:Lc P cf) (hk:Fk cf) {l:List Nat} {ins:List Ins} (hl:Ops P sz ops l ins):∀ {ι : Inj} {h:Aa} {w:World} {f:FF} {a:Act},Sim P ι h w→FFR ι sz f a.tmps→∀ {f' h' ws},Fs cf ins f h=some (f',h',ws) →
  (∀ ι' a' w',St P ι h w ι' h' w'→Old ι h ι'→FFR ι' sz f' a'.tmps→a'.defers=a.defers→Q .normal a' w')→wpOpsIn F n P ops Q l a w:=by
 induction hl with
 | nil =>
  intro ι h w f a hs hf f' h' ws hv hq
  simp only [Fs,OI,Prod.mk.injEq] at hv
  obtain ⟨rfl,rfl,rfl⟩:=hv
  exact hq ι a w (St.refl hs) (Old.refl _ _) hf rfl
 | @cons i ins l inss hi hl ih =>
  intro ι h w f a hs hf f' h' ws hv hq
  obtain ⟨o,ho,hc⟩:=hi
  obtain ⟨hd,ed,hg,hop⟩:=Axz hc
  simp only [Fs] at hv
  simp only [wpOpsIn,ho]
  cases hw:wanted f ins.g with
  | none => rw [hw] at hv;cases hv
  | some b =>
   rw [hw] at hv
   have hreal:=Aac (o:=o) (ops:=ops) hf hg hw
   cases b with
   | true =>
    rw [if_pos hreal]
    simp only at hv
    cases hv1:opN cf f h ins.o with
    | none => rw [hv1] at hv;cases hv
    | some r =>
     obtain ⟨v,h1,ws1⟩:=r
     rw [hv1] at hv
     simp only [Rt] at hv
     split at hv
     ·rename_i f2 h2 ws2 hr
      simp only [OI,Prod.mk.injEq] at hv
      obtain ⟨rfl,rfl,rfl⟩:=hv
      refine A13 hW hcf hs hf hop hv1 fun ι' w' v' st old hv' => ?_
      refine ih st.sim (Zx (a:=a) (hf.mono st.sub) hd hv') (by rw [← ed];exact hr) fun ι2 a2 w2 st2 old2 hf2 hd2 => ?_
      have hlen:h.length≤h1.length:=(Aic hk hv1).len
      refine hq ι2 a2 w2 (st.trans st2) (fun b hb => (old2 b (Nat.lt_of_lt_of_le hb hlen)).trans (old b hb)) hf2 (hd2.trans ?_)
      cases o.dst<;>rfl
     ·cases hv
   | false =>
    rw [if_neg (by rw [hreal];simp)]
    refine ⟨fun f _ => hW.fn f,?_⟩
    simp only at hv
    refine ih hs (Zx (a:=a) hf hd VR.undef) (by rw [← ed];exact hv) fun ι2 a2 w2 st2 old2 hf2 hd2 => hq ι2 a2 w2 st2 old2 hf2 (hd2.trans ?_)
    cases o.dst<;>rfl
end
end Go.L
namespace Go.L
open Go
theorem Z8 {s:Nat}:∀ {l:List X},X.t s∈l→s∈Rv l
 | [],h => by cases h
 | x :: l,h => by
  rcases List.mem_cons.1 h with e | h2
  ·subst e;simp [Rv]
  ·have ih:s∈Rv l:=Z8 h2
   cases x with
   | t k => simp only [Rv];exact List.mem_cons_of_mem _ ih
   | c v => exact ih
   | f g => exact ih
theorem Axc {f f':FF} {l:List X} (h:∀ s∈Rv l,f s=f' s):∀ x∈l,ev f x=ev f' x:=by
 intro x hx
 cases x with
 | t s => exact h s (Z8 hx)
 | c v => rfl
 | f g => rfl
theorem Abo {f f':FF} {l:List X} (h:∀ x∈l,ev f x=ev f' x):l.map (ev f)=l.map (ev f'):=List.map_congr_left h
theorem Su {f f':FF}:∀ {ps:List (Nat × Nat × X)} (h:∀ x∈ps.map (fun p => p.2.2),ev f x=ev f' x) (c:List Value),Sv f ps c=Sv f' ps c
 | [],h,c => rfl
 | (o,n,x) :: ps,h,c => by
  have h1:ev f x=ev f' x:=h x (by simp)
  simp only [Sv,h1]
  rw [Su (fun y hy => h y (by simp at hy ⊢;exact .inr hy))]
theorem Hw {f f':FF} {x:Option X} (h:∀ y∈oX x,ev f y=ev f' y) (d k:Nat):Bp f x d k=Bp f' x d k:=by
 cases x with
 | none => rfl
 | some x => simp only [Bp,h x (by simp [oX])]
theorem Alq {f f':FF} {o:O} (h:∀ x∈o.xs,ev f x=ev f' x):Ax f o=Ax f' o:=by
 cases o<;>simp only [O.xs,List.mem_cons,List.mem_append,List.not_mem_nil,or_false,forall_eq_or_imp,forall_eq] at h<;>simp only [Ax]
 case bld z ps => rw [Su h]
 case slt x lo hi =>
  simp only [h.1,Hw (x:=lo) (fun y hy => h.2 y (.inl hy)),Hw (x:=hi) (fun y hy => h.2 y (.inr hy))]
 case sla n s x lo hi =>
  simp only [h.1,Hw (x:=lo) (fun y hy => h.2 y (.inl hy)),Hw (x:=hi) (fun y hy => h.2 y (.inr hy))]
 case sls s x lo hi mx =>
  have e1:∀ d k,Bp f lo d k=Bp f' lo d k:=Hw (fun y hy => h.2 y (.inl (.inl hy)))
  have e2:∀ d k,Bp f hi d k=Bp f' hi d k:=Hw (fun y hy => h.2 y (.inl (.inr hy)))
  have e3:∀ d k,Bp f mx d k=Bp f' mx d k:=Hw (fun y hy => h.2 y (.inr hy))
  simp only [h.1,Aap,e1,e2,e3]
 case mkf fn a b => rw [Abo (fun x hx => h x (.inl hx)),Abo (fun x hx => h x (.inr hx))]
 case min x r => rw [h.1,Abo h.2]
 case max x r => rw [h.1,Abo h.2]
 all_goals simp only [h]
theorem Aeh {f f':FF} {o:O} {hp:Aa} (h:∀ x∈o.xs,ev f x=ev f' x):Gz f hp o=Gz f' hp o∧Adh f o=Adh f' o:=by
 cases o<;>simp only [O.xs,List.mem_cons,List.mem_append,List.not_mem_nil,or_false,forall_eq_or_imp,forall_eq] at h<;>simp only [Gz,Adh]<;>simp only [h,and_self]
theorem Aru {f f':FF} {o:O} (h:∀ x∈o.xs,ev f x=ev f' x):Jq f o=Jq f' o:=by
 cases o<;>simp only [O.xs,List.mem_cons,List.mem_append,List.not_mem_nil,or_false,forall_eq_or_imp,forall_eq] at h<;>simp only [Jq]
 case bsl s z n ps => rw [Su h]
 all_goals simp only [h]
theorem Asf {f f':FF} {o:O} {hp:Aa} (h:∀ x∈o.xs,ev f x=ev f' x):O0 f hp o=O0 f' hp o:=by
 cases o<;>simp only [O.xs,List.mem_cons,List.mem_append,List.not_mem_nil,or_false,forall_eq_or_imp,forall_eq] at h<;>simp only [O0]<;>simp only [h]
theorem Ad5 {cf:Be} {m:Nat} {f f':FF} {hp:Aa} {i:Ins} (h:∀ s∈i.slots,f s=f' s):opD cf m f hp i=opD cf m f' hp i∧wanted f i.g=wanted f' i.g:=by
 have hx:∀ x∈i.o.xs,ev f x=ev f' x:=Axc fun s hs => h s (List.mem_append_right _ hs)
 constructor
 ·unfold opD
  rw [Alq hx,(Aeh (hp:=hp) hx).1,(Aeh (hp:=hp) hx).2,Aru hx,Asf hx]
  obtain ⟨d,g,o,fl,rk,lo⟩:=i
  cases o<;>first | rfl | skip
  case st n a v =>
   simp only [O.xs,List.mem_cons,List.not_mem_nil,or_false,forall_eq_or_imp,forall_eq] at hx
   simp only [hx]
  case call g args =>
   simp only [O.xs,List.mem_cons,forall_eq_or_imp] at hx
   simp only [hx.1,Abo hx.2]
 ·cases hg:i.g with
  | none => rfl
  | some p =>
   obtain ⟨d,want⟩:=p
   have:f d=f' d:=h d (by simp [Ins.slots,hg])
   simp only [wanted,this]
def Ie (cf:Be) (m:Nat) (i:Ins) (f:FF) (h:Aa):Option (FF × Aa × List Nat) :=
 match wanted f i.g with
 | some true => match opD cf m f h i with
  | some (v,h',ws) => some (H7 f i.d v,h',ws)
  | none => none
 | some false => some (H7 f i.d undef,h,[])
 | none => none
theorem As3 {α : Type} (x:Option (α × Aa × List Nat)):Rt [] x=x:=by
 cases x with
 | none => rfl
 | some r => rfl
theorem Pd (cf:Be) (m:Nat) (i:Ins) (r:List Ins) (f:FF) (h:Aa) :
  Dt cf m (i :: r) f h=match Ie cf m i f h with | some (f',h',ws) => Rt ws (Dt cf m r f' h') | none => none:=by
 simp only [Dt,Ie]
 cases wanted f i.g with
 | none => rfl
 | some b =>
  cases b with
  | true =>
   simp only
   cases opD cf m f h i with
   | none => rfl
   | some r => rfl
  | false => simp only [As3]
theorem To {f:FF} {d d':Option Nat} {v v':Value} (h:∀ x,d=some x→d'≠some x):H7 (H7 f d v) d' v'=H7 (H7 f d' v') d v:=by
 cases d with
 | none => rfl
 | some x =>
  cases d' with
  | none => rfl
  | some y =>
   have hne:x≠y:=fun e => h x rfl (by rw [e])
   funext s
   simp only [H7,upd]
   by_cases h1:s=y
   ·by_cases h2:s=x
    ·exact absurd (h2.symm.trans h1) hne
    ·simp [h1,Ne.symm hne]
   ·simp [h1]
theorem Aa3 {f:FF} {d:Option Nat} {v:Value} {l:List Nat} (h:∀ x,d=some x→x ∉ l):∀ s∈l,H7 f d v s=f s:=by
 intro s hs
 cases d with
 | none => rfl
 | some x =>
  have:s≠x:=fun e => h x rfl (e ▸ hs)
  simp [H7,upd,this]
theorem Jh {f:FF} {o:O} {h h':Aa} {m:Nat} (hl:low m (Adh f o)=true) (hh:∀ b,b<m→h'[b]? = h[b]?):Gz f h' o=Gz f h o:=by
 cases o<;>simp only [Gz]<;>simp only [Adh] at hl
 case ld g x =>
  unfold Sn
  split
  ·rename_i a e;rw [e] at hl;rw [hh _ (by simpa [low] using hl)]
  ·rfl
 case look q z x k ok =>
  unfold Yw
  generalize ev f x=vx at hl ⊢
  cases vx<;>first | rfl | skip
  rename_i r
  cases r with
  | none => rfl
  | some r => simp only;rw [hh _ (by simpa [low] using hl)]
 case lenm x =>
  split
  ·rfl
  ·rename_i r e;rw [e] at hl;rw [hh _ (by simpa [low] using hl)]
  ·rfl
 case b2s x =>
  split
  ·rename_i b n c e
   rw [e] at hl ⊢
   cases b with
   | none => rfl
   | some a => simp only [cellsOf];rw [hh _ (by simpa [low] using hl)]
  ·rfl
theorem A16 {cf:Be} {m:Nat} {f:FF} {i:Ins} {h:Aa} {r:Value × Aa × List Nat} (hc:cls i.o = .P) (hv:opD cf m f h i=some r):∃ v,r=(v,h,[])∧∀ k,opD cf m f k i=some (v,k,[]):=by
 unfold opD at hv ⊢
 rw [hc] at hv
 simp only [hc] at hv ⊢
 cases hp:Ax f i.o with
 | none => rw [hp] at hv;cases hv
 | some v => rw [hp] at hv;simp only [OI] at hv;exact ⟨v,hv.symm,fun k => rfl⟩
theorem Aa9 {cf:Be} {m:Nat} {f:FF} {i:Ins} {h:Aa} {r:Value × Aa × List Nat} (hc:cls i.o = .M) (hv:opD cf m f h i=some r) :
  ∃ v,r=(v,h,[])∧(i.flag=true→low m (Adh f i.o)=true)∧∀ k,Gz f k i.o=Gz f h i.o→opD cf m f k i=some (v,k,[]):=by
 unfold opD at hv ⊢
 simp only [hc] at hv ⊢
 split at hv
 ·cases hv
 ·rename_i hfl
  cases hp:Gz f h i.o with
  | none => rw [hp] at hv;cases hv
  | some v =>
   rw [hp] at hv;simp only [OI] at hv
   refine ⟨v,hv.symm,fun hh => ?_,fun k hk => ?_⟩
   ·cases hlow:low m (Adh f i.o) with
    | true => rfl
    | false => exact absurd ⟨hh,hlow⟩ hfl
   ·rw [if_neg hfl,hk]
theorem Avy {cf:Be} {m:Nat} {f:FF} {i:Ins} {h:Aa} {r:Value × Aa × List Nat} (hc:cls i.o = .A) (hv:opD cf m f h i=some r):∃ v o,r=(v,h.set (m+i.rank) o,[])∧∀ k,opD cf m f k i=some (v,k.set (m+i.rank) o,[]):=by
 unfold opD at hv ⊢
 simp only [hc] at hv ⊢
 cases hp:Jq f i.o with
 | none => rw [hp] at hv;cases hv
 | some n => rw [hp] at hv;simp only [OI] at hv;exact ⟨_,_,hv.symm,fun k => rfl⟩
theorem A15 {cf:Be} {m:Nat} {f:FF} {i:Ins} {h:Aa} {r:Value × Aa × List Nat} (hc:cls i.o = .S) (hv:opD cf m f h i=some r) (hfl:i.flag=true) :
  ∃ v ws h',r=(v,h',ws)∧∀ b,b<m→h'[b]? = h[b]?:=by
 unfold opD at hv
 simp only [hc] at hv
 obtain ⟨d,g,o,fl,rk,lo⟩:=i
 cases o<;>first | (simp [cls] at hc;done) | skip
 rename_i n a x
 simp only at hv hfl
 split at hv
 ·cases hv
 ·rename_i hfl2
  have hhigh:high m (ev f a)=true:=by
   cases hh:high m (ev f a) with
   | true => rfl
   | false => exact absurd ⟨hfl,hh⟩ hfl2
  cases hs:Ik n (ev f a) (ev f x) h with
  | none => rw [hs] at hv;cases hv
  | some p =>
   rw [hs] at hv;simp only [OI] at hv
   refine ⟨_,_,_,hv.symm,fun b hb => ?_⟩
   unfold Ik at hs
   split at hs<;>try (cases hs;done)
   rename_i ad e
   split at hs<;>try (cases hs;done)
   split at hs<;>try (cases hs;done)
   simp only [OI] at hs
   rw [← hs]
   rw [e] at hhigh
   simp only [high,decide_eq_true_eq] at hhigh
   exact List.getElem?_set_ne (by omega)
theorem A17 {cf:Be} (hk:Fk cf) {m:Nat} {f:FF} {i:Ins} {h:Aa} {r:Value × Aa × List Nat} (hc:cls i.o = .C) (hv:opD cf m f h i=some r) (hfl:i.flag=true):∃ v,r=(v,h,[]):=by
 unfold opD at hv
 simp only [hc] at hv
 obtain ⟨d,g,o,fl,rk,lo⟩:=i
 cases o<;>first | (simp [cls] at hc;done) | skip
 rename_i gx args
 simp only at hv hfl
 split at hv
 ·rename_i v h' ws he
  split at hv
  ·cases hv
  ·rename_i hn
   simp only [OI] at hv
   have h2:h'.length=h.length∧ws=[]:=by
    by_cases hh:h'.length=h.length∧ws=[]
    ·exact hh
    ·exact absurd (.inl ⟨hfl,hh⟩) hn
   have kk:=hk _ _ _ _ _ _ he
   have:h'=h:=by
    apply List.ext_getElem?
    intro b
    rcases Nat.lt_or_ge b h.length with hb | hb
    ·exact kk.at_ b hb (by rw [h2.2];simp)
    ·rw [List.getElem?_eq_none hb,List.getElem?_eq_none (by rw [h2.1];exact hb)]
   rw [← hv,this,h2.2];exact ⟨v,rfl⟩
 ·cases hv
theorem V5 {cf0:Be} (hk:Fk cf0) {m:Nat} {f:FF} {i:Ins} {h:Aa} {v:Value} {h':Aa} {ws:List Nat} (hc:cls i.o = .C∨cls i.o = .E) (hv:opD cf0 m f h i=some (v,h',ws)) (hl:i.loose=true):ws=[]∧∀ b,b<h.length→h'[b]? = h[b]?:=by
 unfold opD at hv
 rcases hc with hc | hc
 ·simp only [hc] at hv
  obtain ⟨d,g,o,fl,rk,lo⟩:=i
  cases o<;>first | (simp [cls] at hc;done) | skip
  rename_i gx args
  simp only at hv hl
  split at hv
  ·rename_i v1 h1 ws1 he
   split at hv
   ·cases hv
   ·rename_i hn
    simp only [OI,Prod.mk.injEq] at hv
    obtain ⟨rfl,rfl,rfl⟩:=hv
    have h2:ws1=[]:=by
     cases ws1 with
     | nil => rfl
     | cons a r => exact absurd (.inr ⟨hl,by simp⟩) hn
    subst h2
    exact ⟨rfl,fun b hb => (hk _ _ _ _ _ _ he).at_ b hb (by simp)⟩
  ·cases hv
 ·simp only [hc] at hv
  split at hv
  ·rename_i v1 h1 ws1 he
   split at hv
   ·cases hv
   ·rename_i hn
    simp only [OI,Prod.mk.injEq] at hv
    obtain ⟨rfl,rfl,rfl⟩:=hv
    have h2:ws1=[]:=by
     cases ws1 with
     | nil => rfl
     | cons a r => exact absurd ⟨hl,by simp⟩ hn
    subst h2
    exact ⟨rfl,fun b hb => (Ab6 (Nat.le_refl _) he).at_ b hb (by simp)⟩
  ·cases hv
theorem Avx {cf:Be} (hk:Fk cf) {m:Nat} {f:FF} {x y:Ins} {h h1 h2:Aa} {vx vy:Value} {wx wy:List Nat} (hm:m≤h.length) (hx:opD cf m f h x=some (vx,h1,wx)) (hy:opD cf m f h1 y=some (vy,h2,wy))
  (hc:Apt x y=true):∃ k1 uy ux,opD cf m f h y=some (vy,k1,uy)∧opD cf m f k1 x=some (vx,h2,ux)∧uy++ux=wx++wy:=by
 unfold Apt at hc
 by_cases px:cls x.o = .P
 ·obtain ⟨v,e,hall⟩:=A16 px hx
  cases e
  exact ⟨h2,wy,[],hy,hall h2,by simp⟩
 by_cases py:cls y.o = .P
 ·obtain ⟨v,e,hall⟩:=A16 py hy
  cases e
  exact ⟨h,[],wx,hall h,hx,by simp⟩
 cases cx:cls x.o with
 | P => exact absurd cx px
 | E =>
  cases cy:cls y.o with
  | P => exact absurd cy py
  | M =>
   rw [cx,cy] at hc;simp only [Bool.and_eq_true] at hc
   obtain ⟨e,hh⟩:=V5 hk (.inr cx) hx hc.1
   subst e
   obtain ⟨v',e',hlow,hall'⟩:=Aa9 cy hy
   cases e'
   have ag:Gz f h y.o=Gz f h1 y.o:=(Jh (hlow hc.2) fun b hb => hh b (by omega)).symm
   exact ⟨h,[],[],hall' h ag,hx,rfl⟩
  | _ => rw [cx,cy] at hc;simp at hc
 | M =>
  obtain ⟨v,e,hlow,hall⟩:=Aa9 cx hx
  cases e
  cases cy:cls y.o with
  | P => exact absurd cy py
  | E =>
   rw [cx,cy] at hc;simp only [Bool.and_eq_true] at hc
   obtain ⟨e',hh⟩:=V5 hk (.inr cy) hy hc.1
   subst e'
   exact ⟨_,[],[],hy,hall _ (Jh (hlow hc.2) fun b hb => hh b (by omega)),rfl⟩
  | M =>
   obtain ⟨v',e',_,_⟩:=Aa9 cy hy
   cases e'
   exact ⟨h,[],[],hy,hx,rfl⟩
  | A =>
   rw [cx,cy] at hc;simp only at hc
   obtain ⟨v',o,e',ha⟩:=Avy cy hy
   cases e'
   exact ⟨_,[],[],hy,hall _ (Jh (hlow hc) fun b hb => List.getElem?_set_ne (by omega)),rfl⟩
  | S =>
   rw [cx,cy] at hc;simp only [Bool.and_eq_true] at hc
   obtain ⟨v',ws,h',e',ha⟩:=A15 cy hy hc.2
   cases e'
   exact ⟨_,wy,[],hy,hall _ (Jh (hlow hc.1) ha),by simp⟩
  | C =>
   rw [cx,cy] at hc;simp only [Bool.or_eq_true,Bool.and_eq_true] at hc
   rcases hc with hc | hc
   ·obtain ⟨v',e'⟩:=A17 hk cy hy hc
    cases e'
    exact ⟨h,[],[],hy,hx,rfl⟩
   ·obtain ⟨e',hh⟩:=V5 hk (.inl cy) hy hc.1
    subst e'
    exact ⟨_,[],[],hy,hall _ (Jh (hlow hc.2) fun b hb => hh b (by omega)),rfl⟩
 | A =>
  obtain ⟨v,o,e,hall⟩:=Avy cx hx
  cases e
  cases cy:cls y.o with
  | P => exact absurd cy py
  | E => rw [cx,cy] at hc;simp at hc
  | S => rw [cx,cy] at hc;simp at hc
  | C => rw [cx,cy] at hc;simp at hc
  | M =>
   rw [cx,cy] at hc;simp only at hc
   obtain ⟨v',e',hlow,hall'⟩:=Aa9 cy hy
   cases e'
   have ag:Gz f h y.o=Gz f (h.set (m+x.rank) o) y.o:=(Jh (hlow hc) fun b hb => List.getElem?_set_ne (by omega)).symm
   exact ⟨h,[],[],hall' h ag,hall h,rfl⟩
  | A =>
   rw [cx,cy] at hc;simp only [bne_iff_ne,ne_eq] at hc
   obtain ⟨v',o',e',hall'⟩:=Avy cy hy
   cases e'
   refine ⟨_,[],[],hall' h,?_,rfl⟩
   rw [hall,List.set_comm _ _ (by omega)]
 | S =>
  cases cy:cls y.o with
  | P => exact absurd cy py
  | M =>
   rw [cx,cy] at hc;simp only [Bool.and_eq_true] at hc
   obtain ⟨v,ws,h',e,ha⟩:=A15 cx hx hc.1
   cases e
   obtain ⟨v',e',hlow,hall'⟩:=Aa9 cy hy
   cases e'
   have ag:Gz f h y.o=Gz f h1 y.o:=(Jh (hlow hc.2) ha).symm
   exact ⟨h,[],wx,hall' h ag,hx,by simp⟩
  | _ => rw [cx,cy] at hc;simp at hc
 | C =>
  cases cy:cls y.o with
  | P => exact absurd cy py
  | M =>
   rw [cx,cy] at hc;simp only [Bool.or_eq_true,Bool.and_eq_true] at hc
   rcases hc with hc | hc
   ·obtain ⟨v,e⟩:=A17 hk cx hx hc
    cases e
    obtain ⟨v',e',hlow,hall'⟩:=Aa9 cy hy
    cases e'
    exact ⟨h,[],[],hy,hx,rfl⟩
   ·obtain ⟨e,hh⟩:=V5 hk (.inl cx) hx hc.1
    subst e
    obtain ⟨v',e',hlow,hall'⟩:=Aa9 cy hy
    cases e'
    have ag:Gz f h y.o=Gz f h1 y.o:=(Jh (hlow hc.2) fun b hb => hh b (by omega)).symm
    exact ⟨h,[],[],hall' h ag,hx,rfl⟩
  | _ => rw [cx,cy] at hc;simp at hc
theorem Axq {x y:Ins} (hc:comm x y=true):Apt x y=true∧(∀ d,x.d=some d→d ∉ y.slots)∧(∀ d,x.d=some d→y.d≠some d)∧(∀ d,y.d=some d→d ∉ x.slots):=by
 unfold comm at hc
 simp only [Bool.and_eq_true] at hc
 refine ⟨hc.1.1,fun d hd => ?_,fun d hd => ?_,fun d hd => ?_⟩
 ·have:=hc.1.2;rw [hd] at this;simp at this;exact this.1
 ·have:=hc.1.2;rw [hd] at this;simp at this;exact this.2
 ·have:=hc.2;rw [hd] at this;simp at this;exact this
theorem Akx {cf:Be} (hk:Fk cf) {m:Nat} {x y:Ins} (hc:comm x y=true) {f f1 f2:FF} {h h1 h2:Aa} {wx wy:List Nat} (hm:m≤h.length) (hx:Ie cf m x f h=some (f1,h1,wx)) (hy:Ie cf m y f1 h1=some (f2,h2,wy)) :
  ∃ g1 k1 uy ux,Ie cf m y f h=some (g1,k1,uy)∧Ie cf m x g1 k1=some (f2,h2,ux)∧uy++ux=wx++wy:=by
 obtain ⟨hcl,d1,d2,d3⟩:=Axq hc
 unfold Ie at hx
 have cy:∀ v hp,opD cf m (H7 f x.d v) hp y=opD cf m f hp y∧wanted (H7 f x.d v) y.g=wanted f y.g:=fun v hp => Ad5 (Aa3 d1)
 have cx:∀ v hp,opD cf m (H7 f y.d v) hp x=opD cf m f hp x∧wanted (H7 f y.d v) x.g=wanted f x.g:=fun v hp => Ad5 (Aa3 d3)
 cases wx':wanted f x.g with
 | none => rw [wx'] at hx;cases hx
 | some bx =>
  rw [wx'] at hx
  cases bx with
  | true =>
   simp only at hx
   cases ox:opD cf m f h x with
   | none => rw [ox] at hx;cases hx
   | some r =>
    obtain ⟨vx,hh,ww⟩:=r
    rw [ox] at hx
    simp only [OI,Prod.mk.injEq] at hx
    obtain ⟨rfl,rfl,rfl⟩:=hx
    unfold Ie at hy
    rw [(cy vx hh).2,(cy vx hh).1] at hy
    cases wy':wanted f y.g with
    | none => rw [wy'] at hy;cases hy
    | some by_ =>
     rw [wy'] at hy
     cases by_ with
     | true =>
      simp only at hy
      cases oy:opD cf m f hh y with
      | none => rw [oy] at hy;cases hy
      | some r =>
       obtain ⟨vy,h3,w3⟩:=r
       rw [oy] at hy
       simp only [OI,Prod.mk.injEq] at hy
       obtain ⟨rfl,rfl,rfl⟩:=hy
       obtain ⟨k1,uy,ux,e1,e2,e3⟩:=Avx hk hm ox oy hcl
       refine ⟨H7 f y.d vy,k1,uy,ux,by simp only [Ie,wy',e1],?_,e3⟩
       simp only [Ie,(cx vy k1).2,(cx vy k1).1,wx',e2,To d2]
     | false =>
      simp only [OI,Prod.mk.injEq] at hy
      obtain ⟨rfl,rfl,rfl⟩:=hy
      refine ⟨H7 f y.d undef,h,[],ww,by simp only [Ie,wy'],?_,by simp⟩
      simp only [Ie,(cx undef h).2,(cx undef h).1,wx',ox,To d2]
  | false =>
   simp only [OI,Prod.mk.injEq] at hx
   obtain ⟨rfl,rfl,rfl⟩:=hx
   unfold Ie at hy
   rw [(cy undef h).2,(cy undef h).1] at hy
   cases wy':wanted f y.g with
   | none => rw [wy'] at hy;cases hy
   | some by_ =>
    rw [wy'] at hy
    cases by_ with
    | true =>
     simp only at hy
     cases oy:opD cf m f h y with
     | none => rw [oy] at hy;cases hy
     | some r =>
      obtain ⟨vy,h3,w3⟩:=r
      rw [oy] at hy
      simp only [OI,Prod.mk.injEq] at hy
      obtain ⟨rfl,rfl,rfl⟩:=hy
      refine ⟨H7 f y.d vy,h3,w3,[],by simp only [Ie,wy',oy],?_,by simp⟩
      simp only [Ie,(cx vy h3).2,wx',To d2]
    | false =>
     simp only [OI,Prod.mk.injEq] at hy
     obtain ⟨rfl,rfl,rfl⟩:=hy
     refine ⟨H7 f y.d undef,h,[],[],by simp only [Ie,wy'],?_,rfl⟩
     simp only [Ie,(cx undef h).2,wx',To d2]
theorem Aq3 {cf:Be} (hk:Fk cf) {m:Nat} {x:Ins} {f f1:FF} {h h1:Aa} {wx:List Nat} (hm:m≤h.length) (hx:Ie cf m x f h=some (f1,h1,wx)):m≤h1.length:=by
 unfold Ie at hx
 split at hx
 ·cases ox:opD cf m f h x with
  | none => rw [ox] at hx;cases hx
  | some r =>
   obtain ⟨vx,hh,ww⟩:=r
   rw [ox] at hx
   simp only [OI,Prod.mk.injEq] at hx
   obtain ⟨rfl,rfl,rfl⟩:=hx
   have:=(Aa8 hk hm ox).len
   omega
 ·simp only [OI,Prod.mk.injEq] at hx
  obtain ⟨rfl,rfl,rfl⟩:=hx
  exact hm
 ·cases hx
theorem Aay {cf:Be} (hk:Fk cf) {m:Nat} {i:Ins} {c2:List Ins}:∀ {c1:List Ins} {f:FF} {h:Aa} {r:FF × Aa × List Nat},m≤h.length→(∀ j∈c1,comm j i=true)→Dt cf m (c1++i :: c2) f h=some r→Dt cf m (i :: (c1++c2)) f h=some r
 | [],f,h,r,_,_,hr => hr
 | j :: c1,f,h,r,hm,hc,hr => by
  rw [List.cons_append,Pd] at hr
  cases hj:Ie cf m j f h with
  | none => rw [hj] at hr;cases hr
  | some s =>
   obtain ⟨f1,h1,w1⟩:=s
   rw [hj] at hr
   simp only at hr
   cases hr1:Dt cf m (c1++i :: c2) f1 h1 with
   | none => rw [hr1] at hr;cases hr
   | some r1 =>
    rw [hr1] at hr
    have ih:=Aay hk (Aq3 hk hm hj) (fun k hk => hc k (List.mem_cons_of_mem _ hk)) hr1
    rw [Pd] at ih
    cases hi:Ie cf m i f1 h1 with
    | none => rw [hi] at ih;cases ih
    | some s2 =>
     obtain ⟨f2,h2,w2⟩:=s2
     rw [hi] at ih
     simp only at ih
     obtain ⟨g1,k1,uy,ux,e1,e2,e3⟩:=Akx hk (hc j List.mem_cons_self) hm hj hi
     rw [List.cons_append,Pd,e1]
     simp only
     rw [Pd,e2]
     simp only
     rw [← hr,← ih]
     cases Dt cf m (c1++c2) f2 h2 with
     | none => rfl
     | some r3 =>
      obtain ⟨f3,h3,w3⟩:=r3
      simp only [Rt,← List.append_assoc,e3]
end Go.L
namespace Go.L
open Go
variable {P:Program} {ι : Inj} {h:Aa} {w:World}
section
variable {sz:Nat} {f f':FF} {a:Act} {o:Oper} {q:O} {v:Value} {h':Aa} {ws:List Nat} {F:Fence} {n:Nat} {cf:Be} {next:Act→World→Prop} {Q:Exit→Act→World→Prop} {ops:Array Oper}
theorem Az6 {m:Nat} {i:Ins} {r:Value × Aa × List Nat} (hc:cls i.o ≠ .A) (hv:opD cf m f h i=some r):opN cf f h i.o=some r:=by
 unfold opD at hv
 unfold opN
 cases hcl:cls i.o with
 | A => exact absurd hcl hc
 | P => rw [hcl] at hv;exact hv
 | M =>
  simp only [hcl] at hv ⊢
  split at hv
  ·cases hv
  ·exact hv
 | S =>
  simp only [hcl] at hv ⊢
  split at hv
  ·split at hv
   ·cases hv
   ·exact hv
  ·cases hv
 | C =>
  simp only [hcl] at hv ⊢
  split at hv
  ·split at hv
   ·rename_i h1
    split at hv
    ·cases hv
    ·rw [h1];exact hv
   ·cases hv
  ·cases hv
 | E =>
  simp only [hcl] at hv ⊢
  split at hv
  ·rename_i h1
   split at hv
   ·cases hv
   ·rw [h1];exact hv
  ·cases hv
theorem A3l (hW:Wide F) (hcf:Lc P cf) {m:Nat} {i:Ins} (hs:Sim P ι h w) (hf:FFR ι sz f a.tmps) (ho:cO P o.op=some i.o) (hv:opD cf m f h i=some (v,h',ws))
  (hroom:cls i.o = .A→m+i.rank<h.length ∧ ι (m+i.rank)=none)
  (hn:∀ ι' w' v',St P ι h w ι' h' w'→(∀ b,b<h.length→(cls i.o = .A→b≠m+i.rank) → ι' b = ι b)→VR ι' v v'→next (a.put o.dst v') w'):o.wpIn F n P a w next Q:=by
 by_cases hc:cls i.o = .A
 ·refine ⟨fun f _ => hW.fn f,?_⟩
  rw [Oper.semAt_plain F _ _ (Acn ho)]
  unfold opD at hv
  simp only [hc] at hv
  cases hp:Jq f i.o with
  | none => rw [hp] at hv;cases hv
  | some nw =>
   rw [hp] at hv;simp only [OI,Prod.mk.injEq] at hv;obtain ⟨rfl,rfl,rfl⟩:=hv
   obtain ⟨wd,O,mi,v',h1,h2,h3,h4⟩:=Awc (w:=w) hf ho hc hp
   obtain ⟨hlt,hnone⟩:=hroom hc
   rw [h2]
   obtain ⟨h5,h6⟩:=h4 _ hnone
   have st1:=St.quiet hs h1
   have st2:=St.place (P:=P) (h':=h.set (m+i.rank) nw.1) st1.sim (o:=nw.1) (O:=O) (m:=mi) (by rw [h3,h1.heap]) hnone (by simp) (by simpa using hlt) (List.getElem?_set_self hlt)
    (fun x o' hx hx' _ => by rwa [List.getElem?_set_ne (Ne.symm hx)] at hx') (fun _ => h5)
   exact hn _ _ v' (st1.trans st2) (fun b _ hb => Inj.put_ne mi (hb hc)) h6
 ·exact A13 hW hcf hs hf ho (Az6 hc hv) fun ι' w' v' st old hvr => hn ι' w' v' st (fun b hb _ => old b hb) hvr
theorem Amp (ops:Array Oper):∀ i j:Nat,((Region.before ops).getD i 0).testBit j=true→∃ o e,ops[i]? = some o∧e∈o.after∧Region.binds .any e=true∧(j=e.on∨((Region.before ops).getD e.on 0).testBit j=true):=by
 have inner:∀ (acc:Array Nat) (l:List Edge) (s:Nat) (j:Nat),(l.foldl (fun s e => if Region.binds .any e then s ||| 2 ^ e.on ||| acc.getD e.on 0 else s) s).testBit j=true →
   s.testBit j=true∨∃ e∈l,Region.binds .any e=true∧(j=e.on∨(acc.getD e.on 0).testBit j=true):=by
  intro acc l
  induction l with
  | nil => intro s j h;exact .inl h
  | cons e l ih =>
   intro s j h
   rw [List.foldl_cons] at h
   rcases ih _ j h with h1 | ⟨e',he',h2⟩
   ·split at h1
    ·rename_i hb
     rw [Nat.testBit_or,Nat.testBit_or,Bool.or_eq_true,Bool.or_eq_true] at h1
     rcases h1 with (h1 | h1) | h1
     ·exact .inl h1
     ·rw [Nat.testBit_two_pow] at h1
      exact .inr ⟨e,by simp,hb,.inl (by simpa using Eq.symm (by simpa using h1))⟩
     ·exact .inr ⟨e,by simp,hb,.inr h1⟩
    ·exact .inl h1
   ·exact .inr ⟨e',by simp [he'],h2⟩
 have outer:∀ (l done:List Oper) (acc:Array Nat),acc.size=done.length →
   (∀ i j:Nat,(acc.getD i 0).testBit j=true→∃ o e,done[i]? = some o∧e∈o.after∧Region.binds .any e=true∧(j=e.on∨(acc.getD e.on 0).testBit j=true)) →
   ∀ i j:Nat,((l.foldl (fun acc (o:Oper) => acc.push (o.after.foldl (fun s e => if Region.binds .any e then s ||| 2 ^ e.on ||| acc.getD e.on 0 else s) 0)) acc).getD i 0).testBit j=true →
    ∃ o e,(done++l)[i]? = some o∧e∈o.after∧Region.binds .any e=true∧(j=e.on∨((l.foldl (fun acc (o:Oper) => acc.push (o.after.foldl (fun s e => if Region.binds .any e then s ||| 2 ^ e.on ||| acc.getD e.on 0 else s) 0)) acc).getD e.on 0).testBit j=true):=by
  intro l
  induction l with
  | nil => intro done acc _ hacc i j h;simpa using hacc i j h
  | cons o l ih =>
   intro done acc hsz hacc i j h
   rw [List.foldl_cons] at h ⊢
   have:=ih (done++[o]) _ (by simp [hsz]) ?_ i j h
   ·simpa using this
   ·intro i j h
    have old:∀ k,(acc.getD k 0).testBit j=true→((acc.push (o.after.foldl (fun s e => if Region.binds .any e then s ||| 2 ^ e.on ||| acc.getD e.on 0 else s) 0)).getD k 0).testBit j=true:=by
     intro k hk
     rcases Nat.lt_or_ge k acc.size with hl | hl
     ·simp only [Array.getD_eq_getD_getElem?] at hk ⊢
      rw [Array.getElem?_push_lt hl]
      simpa [hl] using hk
     ·rw [Array.getD_eq_getD_getElem?,Array.getElem?_eq_none hl] at hk;simp at hk
    rcases Nat.lt_trichotomy i acc.size with hl | he | hg
    ·have h':(acc.getD i 0).testBit j=true:=by
      simp only [Array.getD_eq_getD_getElem?] at h ⊢
      rw [Array.getElem?_push_lt hl] at h
      simpa [hl] using h
     obtain ⟨o',e,h1,h2,h3,h4⟩:=hacc i j h'
     refine ⟨o',e,?_,h2,h3,h4.imp id (old e.on)⟩
     rw [GL (by omega)];exact h1
    ·subst he
     have h':(o.after.foldl (fun s e => if Region.binds .any e then s ||| 2 ^ e.on ||| acc.getD e.on 0 else s) 0).testBit j=true:=by
      simpa [Array.getD_eq_getD_getElem?] using h
     rw [← Array.foldl_toList] at h'
     rcases inner acc _ _ j h' with h1 | ⟨e,he,h2,h3⟩
     ·simp at h1
     ·refine ⟨o,e,?_,by simpa using he,h2,h3.imp id (old e.on)⟩
      rw [List.getElem?_append_right (by omega)];simp [hsz]
    ·rw [Array.getD_eq_getD_getElem?,Array.getElem?_eq_none (by simp;omega)] at h;simp at h
 intro i j h
 have hb:Region.before ops=ops.toList.foldl (fun acc (o:Oper) => acc.push (o.after.foldl (fun s e => if Region.binds .any e then s ||| 2 ^ e.on ||| acc.getD e.on 0 else s) 0)) #[]:=by
  unfold Region.before
  rw [← Array.foldl_toList]
 rw [hb] at h ⊢
 have:=outer ops.toList [] #[] rfl (by intro i j h;simp at h) i j h
 simpa using this
end
end Go.L
namespace Go.L
open Go
variable {P:Program} {ι : Inj} {h:Aa} {w:World}
def dfl:Ins:={ d:=none,g:=none,o:=.lena 0 }
structure A4o (P:Program) (sz:Nat) (ops:Array Oper) (r:List Ins) (n:Nat):Prop where
 ins:∀ i,i<ops.size→∃ o i0,ops[i]? = some o∧cI P sz ops o=some i0∧(r.getD i dfl).d=i0.d∧(r.getD i dfl).g=i0.g∧(r.getD i dfl).o=i0.o
 comm:∀ i j,i<j→j<ops.size→((Region.before ops).getD j 0).testBit i=false→comm (r.getD i dfl) (r.getD j dfl)=true
 back:∀ (i:Nat) o,ops[i]? = some o→∀ e∈o.after,Region.binds .any e=true→e.on<i
 rank:∀ i,i<ops.size→cls (r.getD i dfl).o = .A→(r.getD i dfl).rank<n
 ranks:∀ i j,i<ops.size→j<ops.size→i≠j→cls (r.getD i dfl).o = .A→cls (r.getD j dfl).o = .A→(r.getD i dfl).rank≠(r.getD j dfl).rank
section
variable {sz:Nat} {a:Act} {h':Aa} {ws:List Nat} {F:Fence} {n nn:Nat} {cf:Be} {Q:Exit→Act→World→Prop} {ops:Array Oper}
theorem A4l (hW:Wide F) (hcf:Lc P cf) (hk:Fk cf) {r:List Ins} (hr:A4o P sz ops r nn) {m:Nat}:∀ (fuel:Nat) (listed:Array Bool) (c:List Nat) {ι : Inj} {h:Aa} {w:World} {f:FF} {a:Act},fuel=c.length→listed.size=ops.size →
  (∀ j:Nat,j∈c↔j<ops.size∧listed.getD j true=false)→c.Pairwise (· < ·)→(∀ k:Nat,k<ops.size→listed.getD k true=true→∀ j:Nat,((Region.before ops).getD k 0).testBit j=true→listed.getD j false=true) →
  Sim P ι h w→FFR ι sz f a.tmps→m≤h.length→(∀ j∈c,cls (r.getD j dfl).o = .A→m+(r.getD j dfl).rank<h.length ∧ ι (m+(r.getD j dfl).rank)=none) →
  ∀ {f' h' ws},Dt cf m (c.map fun j => r.getD j dfl) f h=some (f',h',ws) →
  (∀ ι' a' w',St P ι h w ι' h' w'→(∀ b,b<m → ι' b = ι b)→FFR ι' sz f' a'.tmps→a'.defers=a.defers→Q .normal a' w')→wpAnyIn F n P .any ops Q fuel listed a w:=by
 intro fuel
 induction fuel with
 | zero =>
  intro listed c ι h w f a hfuel hsz hc hsort hclo hs hf hm hroom f' h' ws hv hq
  have hcn:c=[]:=List.eq_nil_of_length_eq_zero hfuel.symm
  subst hcn
  simp only [List.map_nil,Dt,OI,Prod.mk.injEq] at hv
  obtain ⟨rfl,rfl,rfl⟩:=hv
  refine ⟨?_,hq ι a w (St.refl hs) (fun _ _ => rfl) hf rfl⟩
  cases hrd:Region.ready .any ops listed with
  | nil => rfl
  | cons i l =>
   have hi:i∈Region.ready .any ops listed:=by rw [hrd];simp
   obtain ⟨h1,o,h2,_⟩:=mem_ready.1 hi
   have:=(hc i).2 ⟨(Array.getElem?_eq_some_iff.1 h2).1,h1⟩
   cases this
 | succ fuel ih =>
  intro listed c ι h w f a hfuel hsz hc hsort hclo hs hf hm hroom f' h' ws hv hq
  refine ⟨fun hnone => ?_,fun i hi => ?_⟩
  ·exfalso
   cases c with
   | nil => simp at hfuel
   | cons i c =>
    obtain ⟨hlt,hun⟩:=(hc i).1 (by simp)
    have:i∈Region.ready .any ops listed:=by
     refine mem_ready.2 ⟨hun,ops[i],by simp [hlt],fun e he hb => ?_⟩
     have hlt2:=hr.back i ops[i] (by simp [hlt]) e he hb
     have hlt3:e.on<listed.size:=by omega
     cases hl:listed.getD e.on true with
     | true => rw [Array.getD_eq_getD_getElem?] at hl ⊢;simpa [hlt3] using hl
     | false =>
      have hmem:=(hc e.on).2 ⟨by omega,hl⟩
      rcases List.mem_cons.1 hmem with e1 | h1
      ·omega
      ·have:=(List.pairwise_cons.1 hsort).1 _ h1;omega
    rw [hnone] at this;cases this
  ·obtain ⟨hun,o,ho,hedge⟩:=mem_ready.1 hi
   have hiN:i<ops.size:=(Array.getElem?_eq_some_iff.1 ho).1
   have hic:=(hc i).2 ⟨hiN,hun⟩
   obtain ⟨c1,c2,rfl⟩:=List.append_of_mem hic
   have hp:=List.pairwise_append.1 hsort
   have hbits:∀ j:Nat,((Region.before ops).getD i 0).testBit j=true→listed.getD j false=true:=by
    intro j hj
    obtain ⟨o',e,h1,h2,h3,h4⟩:=Amp ops i j hj
    rw [ho] at h1;cases h1
    have hl:=hedge e h2 h3
    rcases h4 with rfl | h4
    ·exact hl
    ·have hlt:=hr.back i o ho e h2 h3
     have hlt3:e.on<listed.size:=by omega
     exact hclo e.on (by omega) (by rw [Array.getD_eq_getD_getElem?] at hl ⊢;simpa [hlt3] using hl) j h4
   have hcomm:∀ x∈c1.map (fun j => r.getD j dfl),comm x (r.getD i dfl)=true:=by
    intro x hx
    obtain ⟨j,hj,rfl⟩:=List.mem_map.1 hx
    have hji:j<i:=hp.2.2 j hj i (by simp)
    refine hr.comm j i hji hiN ?_
    cases hb:((Region.before ops).getD i 0).testBit j with
    | false => rfl
    | true =>
     have h1:=hbits j hb
     have h2:=((hc j).1 (by simp [hj])).2
     have hlt3:j<listed.size:=by omega
     rw [Array.getD_eq_getD_getElem?] at h1 h2
     simp [hlt3] at h1 h2
     rw [h1] at h2;cases h2
   rw [List.map_append,List.map_cons] at hv
   have hv2:=Aay hk hm hcomm hv
   rw [← List.map_append,Pd] at hv2
   obtain ⟨o2,i0,ho2,hci,ed,eg,eo⟩:=hr.ins i hiN
   rw [ho] at ho2;cases ho2
   obtain ⟨hd,ed0,hg,hop⟩:=Axz hci
   rw [← eg] at hg
   rw [← eo] at hop
   rw [ed0] at ed
   have rest:∀ {ι1:Inj} {h1:Aa} {w1:World} {f1:FF} {a1:Act} {ws1:List Nat},St P ι h w ι1 h1 w1→h.length≤h1.length→(∀ b,b<h.length→(cls (r.getD i dfl).o = .A→b≠m+(r.getD i dfl).rank) → ι1 b = ι b) →
     (∀ b,b<m → ι1 b = ι b)→FFR ι1 sz f1 a1.tmps→a1.defers=a.defers→Rt ws1 (Dt cf m ((c1++c2).map fun j => r.getD j dfl) f1 h1)=some (f',h',ws)→wpAnyIn F n P .any ops Q fuel (listed.setIfInBounds i true) a1 w1:=by
    intro ι1 h1 w1 f1 a1 ws1 st hlen hold hlow hf1 hdef hadd
    cases hr2:Dt cf m ((c1++c2).map fun j => r.getD j dfl) f1 h1 with
    | none => rw [hr2] at hadd;cases hadd
    | some p =>
     obtain ⟨f2,h2,ws2⟩:=p
     rw [hr2] at hadd
     simp only [Rt,OI,Prod.mk.injEq] at hadd
     obtain ⟨rfl,rfl,_⟩:=hadd
     have hnd:∀ j,j∈c1++c2→j≠i:=by
      intro j hj
      rcases List.mem_append.1 hj with hj | hj
      ·have:=hp.2.2 j hj i (by simp);omega
      ·have:=(List.pairwise_cons.1 hp.2.1).1 j hj;omega
     have hget:∀ (j:Nat) (d:Bool),j≠i→(listed.setIfInBounds i true).getD j d=listed.getD j d:=by
      intro j d hj
      rw [Array.getD_eq_getD_getElem?,Array.getD_eq_getD_getElem?,Array.getElem?_setIfInBounds_ne (Ne.symm hj)]
     have hgeti:∀ d:Bool,(listed.setIfInBounds i true).getD i d=true:=by
      intro d
      rw [Array.getD_eq_getD_getElem?];simp [hsz,hiN]
     refine ih (listed.setIfInBounds i true) (c1++c2) (by simp at hfuel ⊢;omega) (by simpa using hsz) (fun j => ?_) ?_ (fun k hk1 hk2 j hj => ?_) st.sim hf1 (by omega) (fun j hj hA => ?_) hr2 fun ι2 a2 w2 st2 old2 hf2 hd2 => hq ι2 a2 w2 (st.trans st2) (fun b hb => (old2 b hb).trans (hlow b hb)) hf2 (hd2.trans hdef)
     ·by_cases e:j=i
      ·subst e
       rw [hgeti]
       exact ⟨fun hm => absurd rfl (hnd j hm),fun hm => by simp at hm⟩
      ·rw [hget j true e,← hc j]
       simp [e]
     ·exact List.pairwise_append.2 ⟨hp.1,(List.pairwise_cons.1 hp.2.1).2,fun x hx y hy => hp.2.2 x hx y (by simp [hy])⟩
     ·by_cases e:k=i
      ·subst e
       have:=hbits j hj
       by_cases e2:j=k
       ·rw [e2];exact hgeti _
       ·rw [hget j false e2];exact this
      ·rw [hget k true e] at hk2
       have:=hclo k hk1 hk2 j hj
       by_cases e2:j=i
       ·rw [e2];exact hgeti _
       ·rw [hget j false e2];exact this
     ·have hj':j∈c1++i :: c2:=by simp at hj ⊢;rcases hj with h | h;exact .inl h;exact .inr (.inr h)
      obtain ⟨k1,k2⟩:=hroom j hj' hA
      refine ⟨by omega,(hold _ k1 fun hAi => ?_).trans k2⟩
      have:=hr.ranks j i ((hc j).1 hj').1 hiN (hnd j hj) hA hAi
      omega
   unfold wpOpIn
   simp only [ho]
   unfold Ie at hv2
   cases hw:wanted f (r.getD i dfl).g with
   | none => rw [hw] at hv2;cases hv2
   | some b =>
    rw [hw] at hv2
    have hreal:=Aac (o:=o) (ops:=ops) hf hg hw
    cases b with
    | true =>
     rw [if_pos hreal]
     simp only at hv2
     cases hv1:opD cf m f h (r.getD i dfl) with
     | none => rw [hv1] at hv2;cases hv2
     | some p =>
      obtain ⟨v,h1,ws1⟩:=p
      rw [hv1] at hv2
      simp only at hv2
      refine A3l hW hcf hs hf hop hv1 (fun hA => hroom i hic hA) fun ι' w' v' st old hvr => ?_
      refine rest st (Aa8 hk hm hv1).len old (fun b hb => old b (by omega) fun hA => by omega) (f1:=H7 f (r.getD i dfl).d v) (by rw [ed];exact Zx (a:=a) (hf.mono st.sub) hd hvr) ?_ hv2
      cases o.dst<;>rfl
    | false =>
     rw [if_neg (by rw [hreal];simp)]
     refine ⟨fun f _ => hW.fn f,?_⟩
     simp only at hv2
     refine rest (St.refl hs) (Nat.le_refl _) (fun _ _ _ => rfl) (fun _ _ => rfl) (f1:=H7 f (r.getD i dfl).d undef) (by rw [ed];exact Zx (a:=a) hf hd VR.undef) ?_ hv2
     cases o.dst<;>rfl
end
end Go.L
