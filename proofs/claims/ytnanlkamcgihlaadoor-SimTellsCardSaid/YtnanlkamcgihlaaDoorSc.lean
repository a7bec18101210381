/- THE LOGICAL MACHINE AND THE MODEL: operations that read the heap. -/
import Derived.Test.YtnanlkamcgihlaaDoorSb
import Derived.Laws.MakeOwn
import Derived.Laws.BytesString
set_option linter.unusedVariables false
set_option linter.unusedSimpArgs false
namespace Go.L
open Go
variable {P:Program} {ι : Inj} {h:Aa} {w:World}
theorem Ax8 {m:Img} {c:List Value} {ro:Bool} (hr:ObjR P ι w m (.cells c ro)) {i:Nat} {v:Value} (hv:c[i]? = some v):∃ r,w.cell? ⟨m.rb,m.off + i,none⟩ = some r ∧ VR ι v r:=by
 cases hr with
 | cells a hs hl hc hf ho1 =>
  obtain ⟨r,d,h2⟩:=hc i v hv
  exact ⟨r,by simp [World.cell?,a,d],h2⟩
theorem Aiw {m:Img} {c:List Value} {ro:Bool} (hr:ObjR P ι w m (.cells c ro)) {off n:Nat} (hle:off + n ≤ c.length) :
  ∃ cs',VRs ι ((c.drop off).take n) cs' ∧ ∀ j r,cs'[j]? = some r → w.cell? ⟨m.rb,m.off + (off + j),none⟩ = some r:=by
 cases hr with
 | cells hw hs hl hc hf ho1 =>
  rename_i a t p
  refine ⟨((a.toList.drop (m.off + off)).take n),?_,?_⟩
  ·refine All2.of_at (by simp;omega) fun i x y e l => ?_
   have g:i < n:=by
    rcases Nat.lt_or_ge i n with h' | h'
    ·exact h'
    ·rw [List.getElem?_eq_none (by simp;omega)] at e;cases e
   rw [List.getElem?_take_of_lt g,List.getElem?_drop] at e l
   obtain ⟨r,o,h2⟩:=hc _ _ e
   have:y = r:=by
    have f:a.toList[m.off + off + i]? = some r:=by rw [← o];simp [Nat.add_assoc]
    rw [f] at l;cases l;rfl
   rw [this];exact h2
  ·intro j r d
   have g:j < n:=by
    rcases Nat.lt_or_ge j n with h' | h'
    ·exact h'
    ·rw [List.getElem?_eq_none (by simp;omega)] at d;cases d
   rw [List.getElem?_take_of_lt g,List.getElem?_drop] at d
   have:a[m.off + (off + j)]? = some r:=by rw [← d];simp [Nat.add_assoc]
   simp [World.cell?,hw,this]
theorem V9 (a:Addr) (hs:a.spot = none) (j:Nat):a.add j = ⟨a.block,a.off + j,none⟩:=by
 unfold Addr.add
 split
 ·rename_i e;subst e;cases a;simp at hs;subst hs;rfl
 ·rfl
section
variable {sz:Nat} {f:FF} {a:Act} {o:Oper} {q:O} {v:Value}
theorem Xn (hs:Sim P ι h w) {t:TypeId} {g:Option Nat} (hg:Qq P t = some g) {x x':Value} (hx:VR ι x x') (hv:N2 g x h = some v):∃ ad v',x' = .pointer (some ad) ∧ (loadVar t ad).run P w = .ok v' w ∧ VR ι v v':=by
 unfold N2 at hv
 split at hv
 ·rename_i ad
  obtain ⟨m,z,y,rfl⟩:=hx.ptr_inv
  split at hv
  ·rename_i c ro hb
   obtain ⟨m',e,o⟩:=hs.obj _ _ hb (by simp)
   rw [z] at e;cases e
   refine ⟨⟨m.rb,m.off + ad.off,none⟩,?_⟩
   cases g with
   | none =>
    simp only [part] at hv
    obtain ⟨r,f,h2⟩:=Ax8 o hv
    refine ⟨r,rfl,?_,h2⟩
    simp [loadVar,Sem.run_bind,Mq hg,Result.andThen,load,Sem.run,f]
   | some n =>
    obtain ⟨u,p⟩:=Je hg w
    simp only [part] at hv
    split at hv
    ·rename_i l
     simp only [OI] at hv;subst hv
     obtain ⟨a,f,h2⟩:=Aiw o l
     have d:a.length = n:=by rw [← f.length];simp;omega
     have:=run_loadCells_list (P:=P) w ⟨m.rb,m.off + ad.off,none⟩ a (fun j v s => by rw [V9 _ rfl];simpa [Nat.add_assoc] using h2 j v s)
     rw [d] at this
     refine ⟨.agg a.toArray,rfl,?_,.agg f⟩
     simp [loadVar,Sem.run_bind,u,Result.andThen,Dz p,this]
    ·cases hv
  ·cases hv
 ·cases hv
theorem A21 {t:TypeId} {x:Operand} {g:Option Nat} (hs:Sim P ι h w) (hg:Qq P t = some g) (hf:FFR ι sz f a.tmps) (ho:o.op = .load t x) {x':X} (hx:cX x = some x') (hv:Fw f h (.ld g x') = some v):Cp P ι a o v w:=by
 simp only [Fw] at hv
 obtain ⟨j,e,d,h2,c⟩:=Xn hs hg (Av hf hx) hv
 refine ⟨e,?_,c⟩
 simp only [execOp,ho,d]
 refine D5 _ ?_
 simp [Instr.loadAt,Sem.run_bind,Instr.sureAddr,Result.andThen,h2]
theorem A0i {t kt e:TypeId} {x:Operand} (hs:Sim P ι h w) (hu:P.underlying t = some (.map kt e)) (hf:FFR ι sz f a.tmps) (ho:o.op = .call { callee:=.builtin .len,args:=#[x],argTypes:=#[t] }) {x':X} (hx:cX x = some x')
  (hv:Fw f h (.lenm x') = some v):Cp P ι a o v w:=by
 have d:=Av hf hx
 simp only [Fw] at hv
 split at hv
 ·rename_i j
  rw [j] at d
  simp only [OI] at hv;subst hv
  refine ⟨.int .i64 0,?_,.int _ _⟩
  have l:a.eval x = .map none:=by
   generalize a.eval x = rv at d
   cases d;rfl
  simp only [execOp,ho,resolve,Sem.run_bind,Result.andThen,Sem.run_pure,invoke,Go.builtin]
  simp [Builtin.len_,Sem.run_bind,run_underlying hu,Result.andThen,l,goInt]
 ·rename_i r j
  rw [j] at d
  obtain ⟨m,n,l⟩:=d.map_inv
  split at hv
  ·rename_i u p
   simp only [OI] at hv;subst hv
   obtain ⟨y,g,c⟩:=hs.obj _ _ p (by simp)
   rw [n] at g;cases g
   cases c with
   | map hw he =>
    refine ⟨.int .i64 u.length,?_,.int _ _⟩
    have s:=he.length
    simp only [execOp,ho,resolve,Sem.run_bind,Result.andThen,Sem.run_pure,invoke,Go.builtin]
    simp [Builtin.len_,Sem.run_bind,run_underlying hu,Result.andThen,l,goInt,getObj,Sem.run,hw,s]
  ·cases hv
 ·cases hv
theorem Aak {q:EqK} {k r:Value} (hk:R6 q k = true) (hr:VR ι k r):r = k:=by
 simp only [R6,beq_iff_eq] at hk
 unfold B3 at hk
 split at hk
 ·exact (U7 hk hr hr).1
 ·exact (U7 hk hr hr).1
 ·obtain ⟨c,rfl,a⟩:=hr.agg_inv
  exact congrArg Value.agg (Array.ext' (U8 hk a a).1)
 ·cases hk
theorem Aal {kt:TypeId} {q:EqK} (hq:Ab9 P kt = some q):(∃ i,P.underlying kt = some (.int i) ∧ q = .int) ∨ (P.underlying kt = some .string ∧ q = .str) ∨ ∃ fs l,P.underlying kt = some (.struct fs) ∧ Xu P kt = some l ∧ q = .flat l:=by
 unfold Ab9 at hq
 split at hq
 ·rename_i a;simp only [OI] at hq;exact .inl ⟨_,a,hq.symm⟩
 ·rename_i a;simp only [OI] at hq;exact .inr (.inl ⟨a,hq.symm⟩)
 ·rename_i a;simp only [OM] at hq;obtain ⟨l,c,rfl⟩:=hq;exact .inr (.inr ⟨_,l,a,c,rfl⟩)
 ·cases hq
theorem Tt {t:TypeId} {k:SK} (hk:U5 P t = some k) (e:Bool) (d:Nat) (v:Value) (w:World):(Instr.checkKey e (d + 1) t v).run P w = .ok () w:=by
 obtain ⟨_,D,a,c⟩:=Wk hk
 obtain ⟨⟨i,rfl⟩,_⟩ | ⟨rfl,_⟩ | ⟨rfl,_⟩:=c <;> simp [Instr.checkKey,Sem.run_bind,run_underlying a,Result.andThen]
theorem Apr {k:SK}:∀ {n:Nat} {us vs:List Value} {b:Bool},Dg k n us vs = some b → us.length = n:=by
 intro a
 induction a with
 | zero => intro us vs b h;unfold Dg at h;split at h <;> first | (cases h;done) | contradiction | rfl
 | succ a ih =>
  intro us vs b h
  cases us with
  | nil => simp [Dg] at h
  | cons u us =>
  cases vs with
  | nil => simp [Dg] at h
  | cons v vs =>
  simp only [Dg,OB,OM] at h
  obtain ⟨r,_,s,c,_⟩:=h
  simp [ih c]
theorem Rm {e:TypeId} {k:SK} (hk:U5 P e = some k) (hz:szO P e = some 1) (em:Bool) (d:Nat) {cs:List Value}:∀ (n j:Nat),j + n ≤ cs.length → ∀ (w:World),
  (forIn (List.range' j n) PUnit.unit fun i _ => (do Instr.checkKey em (d + 1) e (← Go.part e cs.toArray (i * (← sizeOf e)));pure (ForInStep.yield PUnit.unit):Sem (ForInStep PUnit))).run P w = .ok PUnit.unit w
 | 0,j,h,w => by simp
 | n + 1,j,h,w => by
  have f:j < cs.length:=by omega
  have a:=F3 hk (cs:=cs) (off:=j * 1) (v:=cs[j]) (by simp [f]) w
  have c:=Rm hk hz em d (cs:=cs) n (j + 1) (by omega) w
  simp only [List.range'_succ,List.forIn_cons,Sem.run_bind,Dz hz,Result.andThen_ok,a,Tt hk,Sem.run_pure]
  exact c
theorem Lj {em:Bool} {d:Nat} {cs:List Value}:∀ (fs:List Field) (n:Nat) {l:List FK} {b:Bool},Aar P fs n = some l → Ca l (cs.drop n) (cs.drop n) = some b → ∀ (w:World),
  (forIn fs PUnit.unit fun f _ => (if f.name ≠ "_" then (do let x ← Go.part f.type cs.toArray f.offset;Instr.checkKey em (d + 2) f.type x;pure (ForInStep.yield PUnit.unit):Sem (ForInStep PUnit)) else (pure (ForInStep.yield PUnit.unit):Sem (ForInStep PUnit)))).run P w = .ok PUnit.unit w
 | [],n,l,b,g,h,w => by simp
 | f :: fs,n,l,b,g,h,w => by
  simp only [Aar] at g
  split at g
  ·rename_i p
   simp only [OB,OM] at g
   obtain ⟨⟨kk,m⟩,a,r,hr,rfl⟩:=g
   unfold Aks at a
   split at a
   ·rename_i c e hu
    split at a
    ·rename_i o
     simp only [OM,Prod.mk.injEq] at a
     obtain ⟨k,a,rfl,rfl⟩:=a
     simp only [Ca,OB,OM,List.drop_drop] at h
     obtain ⟨r1,h1,z,h2,rfl⟩:=h
     have t:=Lj (em:=em) (d:=d) fs (n + c) hr h2 w
     have j:Qq P f.type = some (some c):=by
      obtain ⟨i,hi,s⟩:=Mn o.2
      simp [Qq,hu,hi,s]
     have g:=Apr h1
     have pt:(Go.part f.type cs.toArray f.offset).run P w = .ok (.agg ((cs.drop n).take c).toArray) w:=by
      obtain ⟨g1,g2⟩:=Je j w
      simp only [Go.part,Sem.run_bind,g1,Result.andThen,if_true,Dz g2,p.1]
      have:(cs.toArray.extract n (n + c)) = ((cs.drop n).take c).toArray:=by simp [List.extract_toArray,List.extract_eq_take_drop]
      rw [this];rfl
     have hc:=Rm a o.1 em d (cs:=(cs.drop n).take c) c 0 (by omega) w
     have y:(Instr.checkKey em (d + 2) f.type (.agg ((cs.drop n).take c).toArray)).run P w = .ok () w:=by
      rw [show d + 2 = (d + 1) + 1 from rfl]
      generalize d + 1 = D at hc ⊢
      simp only [Instr.checkKey,Sem.run_bind,run_underlying hu,Result.andThen_ok,Std.Legacy.Range.forIn_eq_forIn_range',Std.Legacy.Range.size,Nat.sub_zero,Nat.add_one_sub_one,Nat.div_one]
      rw [hc];rfl
     simp only [List.forIn_cons,Sem.run_bind,p.2,ne_eq,not_false_eq_true,if_true,pt,y,Result.andThen_ok,Sem.run_pure]
     exact t
    ·cases a
   ·split at a
    ·simp only [OM,Prod.mk.injEq] at a
     obtain ⟨k,a,rfl,rfl⟩:=a
     cases hxs:cs.drop n with
     | nil => rw [hxs] at h;simp [Ca] at h
     | cons x xr =>
     rw [hxs] at h
     simp only [Ca,OB,OM] at h
     obtain ⟨r1,h1,z,h2,rfl⟩:=h
     have e1:cs.drop (n + 1) = xr:=by rw [← List.drop_drop,hxs];rfl
     have u:Ca r (cs.drop (n + 1)) (cs.drop (n + 1)) = some z:=by rw [e1];exact h2
     have t:=Lj (em:=em) (d:=d) fs (n + 1) hr u w
     have p1:=F3 a (cs:=cs) (off:=n) (v:=x) (by have:=congrArg (fun l => l[0]?) hxs;simpa using this) w
     simp only [List.forIn_cons,Sem.run_bind,p.2,ne_eq,not_false_eq_true,if_true,p.1,p1,Tt a,Result.andThen_ok,Sem.run_pure]
     exact t
    ·cases a
  ·cases g
theorem Pu {kt:TypeId} {q:EqK} (hq:Ab9 P kt = some q) {k:Value} (hk:R6 q k = true) (e:Bool) (w:World):(Instr.checkKey e 10000 kt k).run P w = .ok () w:=by
 have j:∃ d,10000 = d + 3:=⟨9997,rfl⟩
 generalize 10000 = D at j ⊢
 obtain ⟨d,rfl⟩:=j
 rcases Aal hq with ⟨i,f,rfl⟩ | ⟨f,rfl⟩ | ⟨m,l,f,c,rfl⟩
 ·simp [Instr.checkKey,Sem.run_bind,run_underlying f,Result.andThen]
 ·simp [Instr.checkKey,Sem.run_bind,run_underlying f,Result.andThen]
 ·simp only [R6,beq_iff_eq] at hk
  obtain ⟨g,rfl,hk⟩:∃ g,k = .agg g ∧ Ca l g.toList g.toList = some true:=by
   cases k <;> first | exact ⟨_,rfl,hk⟩ | (simp [B3] at hk;done)
  unfold Xu at c
  rw [f] at c
  simp only at c
  split at c
  ·have:=Lj (em:=e) (d:=d) m.toList 0 c hk w
   rw [show d + 3 = (d + 2) + 1 from rfl]
   generalize d + 2 = D at this ⊢
   simp only [Instr.checkKey,Sem.run_bind,run_underlying f,Result.andThen_ok]
   rw [← Array.forIn_toList]
   have a:=this
   simp only [Array.toArray_toList] at a
   rw [a];rfl
  ·cases c
theorem S8 {q:EqK} {k:Value} {F:List MapEntry → Nat → Option (Nat × Value) → Prop} (h0:∀ i,F [] i none) (h1:∀ e es i,B3 q k e.key = some true → F (e :: es) i (some (i,e.val)))
  (h2:∀ e es i r,B3 q k e.key = some false → F es (i + 1) r → F (e :: es) i r) :
  ∀ {es:List (Value × Value)} {es':List MapEntry} (he:All2 (fun e (e':MapEntry) => e.1 = e'.key ∧ VR ι e.2 e'.val) es es') {r:Option Value} (hf:find q k es = some r) (i:Nat),
  (r = none ∧ F es' i none ∧ (∀ u,Oh q k u es = some (es ++ [(k,u)])) ∧ Yg q k es = some es) ∨
   ∃ v j v',r = some v ∧ F es' i (some (i + j,v')) ∧ VR ι v v' ∧ j < es.length ∧ (∀ u,Oh q k u es = some (es.set j (k,u))) ∧ Yg q k es = some (es.eraseIdx j) ∧ ∃ e',es'[j]? = some e' ∧ B3 q k e'.key = some true
 | [],es',he,r,hf,i => by
  cases he
  simp only [find,OI] at hf;subst hf
  exact .inl ⟨rfl,h0 i,fun u => rfl,rfl⟩
 | (x,v) :: es,_,.cons (b:=e') (m:=es') hx he,r,hf,i => by
  obtain ⟨rfl,t⟩:=hx
  simp only [find,OB] at hf
  obtain ⟨b,a,hf⟩:=hf
  cases b with
  | true =>
   simp only [if_true,OI] at hf;subst hf
   refine .inr ⟨v,0,e'.val,rfl,h1 _ _ _ a,t,by simp,fun u => ?_,?_,e',rfl,a⟩
   ·simp [Oh,a]
   ·simp [Yg,a]
  | false =>
   simp only [Bool.false_eq_true,if_false] at hf
   rcases S8 h0 h1 h2 he hf (i + 1) with ⟨c,d,f,l⟩ | ⟨n,j,v',c,d,f,l,p,s,y,o,g⟩
   ·exact .inl ⟨c,h2 _ _ _ _ a d,fun u => by simp [Oh,a,f u],by simp [Yg,a,l]⟩
   ·refine .inr ⟨n,j + 1,v',c,h2 _ _ _ _ a (by rw [show i + (j + 1) = i + 1 + j by omega];exact d),f,by simp;omega,fun u => by simp [Oh,a,p u],by simp [Yg,a,s],y,by simpa using o,g⟩
theorem Ny {kt:TypeId} {q:EqK} (hq:Ab9 P kt = some q) {k:Value} (hk:R6 q k = true) {es:List (Value × Value)} {es':List MapEntry} (he:All2 (fun e (e':MapEntry) => e.1 = e'.key ∧ VR ι e.2 e'.val) es es')
  {r:Option Value} (hf:find q k es = some r) (w:World) :
  (r = none ∧ (Instr.findKey kt k es').run P w = .ok none w ∧ (∀ u,Oh q k u es = some (es ++ [(k,u)])) ∧ Yg q k es = some es) ∨
   ∃ v j v',r = some v ∧ (Instr.findKey kt k es').run P w = .ok (some (j,v')) w ∧ VR ι v v' ∧ j < es.length ∧ (∀ u,Oh q k u es = some (es.set j (k,u))) ∧ Yg q k es = some (es.eraseIdx j) ∧ ∃ e',es'[j]? = some e' ∧ B3 q k e'.key = some true:=by
 rcases Aal hq with ⟨i,n,rfl⟩ | ⟨n,rfl⟩ | ⟨t,l,n,s,rfl⟩
 ·have m:∀ x b,B3 .int k x = some b → Instr.sameNow (.int i) k x = some b:=by
   intro x b h
   unfold B3 Gj at h
   split at h <;> first | contradiction | skip
   all_goals (split at h <;> first | contradiction | skip)
   all_goals first | (simp only [Instr.sameNow];exact h) | skip
  have g:∀ r,Instr.findNow (.int i) k es' 0 = some r → (Instr.findKey kt k es').run P w = .ok r w:=fun r h => by simp [Instr.findKey,Sem.run_bind,run_underlying n,Result.andThen,h]
  rcases S8 (F:=fun es c r => Instr.findNow (.int i) k es c = some r) (fun _ => rfl) (fun e es c h => by simp [Instr.findNow,m _ _ h]) (fun e es c r h h' => by simp [Instr.findNow,m _ _ h,h']) he hf 0 with ⟨f,h2,a⟩ | ⟨v,j,v',f,h2,a⟩
  ·exact .inl ⟨f,g _ h2,a⟩
  ·exact .inr ⟨v,j,v',f,by rw [← Nat.zero_add j];exact g _ h2,a⟩
 ·have m:∀ x b,B3 .str k x = some b → Instr.sameNow .string k x = some b:=by
   intro x b h
   unfold B3 Gj at h
   split at h <;> first | contradiction | skip
   all_goals (split at h <;> first | contradiction | skip)
   all_goals first | (simp only [Instr.sameNow];exact h) | skip
  have g:∀ r,Instr.findNow .string k es' 0 = some r → (Instr.findKey kt k es').run P w = .ok r w:=fun r h => by simp [Instr.findKey,Sem.run_bind,run_underlying n,Result.andThen,h]
  rcases S8 (F:=fun es c r => Instr.findNow .string k es c = some r) (fun _ => rfl) (fun e es c h => by simp [Instr.findNow,m _ _ h]) (fun e es c r h h' => by simp [Instr.findNow,m _ _ h,h']) he hf 0 with ⟨f,h2,a⟩ | ⟨v,j,v',f,h2,a⟩
  ·exact .inl ⟨f,g _ h2,a⟩
  ·exact .inr ⟨v,j,v',f,by rw [← Nat.zero_add j];exact g _ h2,a⟩
 ·have m:∀ x b,B3 (.flat l) k x = some b → (Op.equal kt k x).run P w = .ok b w:=by
   intro x b h
   unfold B3 at h
   split at h <;> first | contradiction | skip
   rename_i xs y o
   cases o
   rw [Vu]
   have p:∃ e,9999 = e + 2:=⟨9997,rfl⟩
   generalize 9999 = d at p ⊢
   obtain ⟨e,rfl⟩:=p
   exact Rl s h e w
  have g:∀ r,(Instr.findAsking kt k es' 0).run P w = .ok r w → (Instr.findKey kt k es').run P w = .ok r w:=by
   intro r h
   cases es' with
   | nil => simpa [Instr.findKey,Sem.run_bind,run_underlying n,Result.andThen,Instr.findNow,Instr.findAsking] using h
   | cons e es' =>
    have:Instr.findNow (.struct t) k (e :: es') 0 = none:=by simp [Instr.findNow,Instr.sameNow]
    simp [Instr.findKey,Sem.run_bind,run_underlying n,Result.andThen,this,h]
  rcases S8 (F:=fun es c r => (Instr.findAsking kt k es c).run P w = .ok r w) (fun _ => by simp [Instr.findAsking]) (fun e es c h => by simp [Instr.findAsking,Sem.run_bind,m _ _ h,Result.andThen]) (fun e es c r h h' => by simp [Instr.findAsking,Sem.run_bind,m _ _ h,Result.andThen,h']) he hf 0 with ⟨f,h2,a⟩ | ⟨v,j,v',f,h2,a⟩
  ·exact .inl ⟨f,g _ h2,a⟩
  ·exact .inr ⟨v,j,v',f,by rw [← Nat.zero_add j];exact g _ h2,a⟩
theorem A0h {t kt e:TypeId} {m k:Operand} {ok:Bool} {q:EqK} {z:Value} (hs:Sim P ι h w) (hu:P.underlying t = some (.map kt e)) (hq:Ab9 P kt = some q) (hz:(P.info? e).bind (·.zero) = some z) (hzn:Ae 0 4 z = true)
  (hf:FFR ι sz f a.tmps) (ho:o.op = .lookup t m k ok) {m' k':X} (hm:cX m = some m') (hk:cX k = some k') (hv:Fw f h (.look q z m' k' ok) = some v):Cp P ι a o v w:=by
 have rm:=Av hf hm
 have rk:=Av hf hk
 simp only [Fw,Rz] at hv
 split at hv
 ·rename_i g
  have ek:=Aak g rk
  have a1:∀ w,(zeroValue e).run P w = .ok z w:=by
   intro w
   simp only [OB] at hz
   obtain ⟨i,hi,hz⟩:=hz
   simp [zeroValue,Sem.run_bind,run_typeInfo w hi,Result.andThen,hz]
  simp only [OM] at hv
  obtain ⟨r,u,rfl⟩:=hv
  have a4:∃ es:Array MapEntry,((a.eval m = .map none ∧ es = #[]) ∨ ∃ rb c,a.eval m = .map (some rb) ∧ w.heap[rb]? = some (.map es c)) ∧
    ∃ y,(Instr.findKey kt (a.eval k) es.toList).run P w = .ok y w ∧ (match (generalizing:=false) r with | none => y = none | some v => ∃ i l,y = some (i,l) ∧ VR ι v l):=by
   rw [ek]
   generalize hvm:ev f m' = vm at u rm
   split at u
   ·simp only [OI] at u;subst u
    have d:a.eval m = .map none:=by
     generalize a.eval m = rv at rm
     cases rm;rfl
    refine ⟨#[],.inl ⟨d,rfl⟩,?_⟩
    rcases Ny (ι:=ι) hq g (es:=[]) (es':=[]) .nil (r:=none) (by simp [find]) w with ⟨_,n,_⟩ | ⟨_,_,_,n,_⟩
    ·exact ⟨none,by simpa using n,rfl⟩
    ·cases n
   ·rename_i rb
    obtain ⟨mi,a5,d⟩:=rm.map_inv
    split at u
    ·rename_i es hb
     obtain ⟨m',a2,a0⟩:=hs.obj _ _ hb (by simp)
     rw [a5] at a2;cases a2
     cases a0 with
     | map hw he =>
      rename_i es' c
      refine ⟨es',.inr ⟨_,c,d,hw⟩,?_⟩
      rcases Ny hq g he u w with ⟨rfl,n,_⟩ | ⟨v,i,l,rfl,n,h2,_⟩
      ·exact ⟨none,n,rfl⟩
      ·exact ⟨_,n,i,l,rfl,h2⟩
    ·cases u
   ·cases u
  obtain ⟨es,n,y,h2,h3⟩:=a4
  have j:=Pu hq g es.isEmpty w
  rw [← ek] at j
  simp only [Cp,execOp,ho]
  have look:∀ x,(match (generalizing:=false) y with | some (_,v) => (x = if ok then Value.tuple #[v,.bool true] else v) | none => x = if ok then Value.tuple #[z,.bool false] else z) →
    (Instr.lookup t (a.eval m) (a.eval k) ok).run P w = .ok x w:=by
   intro x hx
   rcases n with ⟨d,rfl⟩ | ⟨rb,c,d,hw⟩
   ·cases y with
    | none => subst hx;simp only [Instr.lookup,Sem.run_bind,run_underlying hu,Result.andThen,d,Sem.run_pure,j,h2,a1]
    | some p => obtain ⟨i,l⟩:=p;subst hx;simp only [Instr.lookup,Sem.run_bind,run_underlying hu,Result.andThen,d,Sem.run_pure,j,h2]
   ·have s:(getObj rb).run P w = .ok (.map es c) w:=by simp [getObj,Sem.run,hw]
    cases y with
    | none => subst hx;simp only [Instr.lookup,Sem.run_bind,run_underlying hu,Result.andThen,d,s,Sem.run_pure,j,h2,a1]
    | some p => obtain ⟨i,l⟩:=p;subst hx;simp only [Instr.lookup,Sem.run_bind,run_underlying hu,Result.andThen,d,s,Sem.run_pure,j,h2]
  cases r with
  | none =>
   simp only at h3;subst h3
   refine ⟨if ok then .tuple #[z,.bool false] else z,D5 _ (look _ rfl),?_⟩
   cases ok
   ·exact VR.self 4 z hzn
   ·exact .tuple (a:=[z,.bool false]) (a':=[z,.bool false]) (.cons (VR.self 4 z hzn) (.cons (.bool _) .nil))
  | some v0 =>
   obtain ⟨i,l,rfl,a3⟩:=h3
   refine ⟨if ok then .tuple #[l,.bool true] else l,D5 _ (look _ rfl),?_⟩
   cases ok
   ·exact a3
   ·exact .tuple (a:=[v0,.bool true]) (a':=[l,.bool true]) (.cons a3 (.cons (.bool _) .nil))
 ·cases hv
end
end Go.L
namespace Go.L
open Go
variable {P:Program} {ι : Inj} {h:Aa} {w:World}
section
variable {sz:Nat} {f:FF} {a:Act} {o:Oper} {q:O} {v:Value}
theorem V5:∀ {c:List Value} {bs:List UInt8},bytesOf c = some bs → ∃ ns:List Int,c = ns.map (Value.int .u8) ∧ bs = ns.map fun n => UInt8.ofNat n.toNat
 | [],bs,h => by simp [bytesOf] at h;subst h;exact ⟨[],rfl,rfl⟩
 | v :: c,bs,h => by
  have:∃ n,v = .int .u8 n:=by
   cases v <;> first | (simp [bytesOf] at h;done) | skip
   rename_i k n
   cases k <;> first | (simp [bytesOf] at h;done) | exact ⟨_,rfl⟩
  obtain ⟨n,rfl⟩:=this
  simp only [bytesOf,OM] at h
  obtain ⟨a,h',rfl⟩:=h
  obtain ⟨ns,rfl,rfl⟩:=V5 h'
  exact ⟨n :: ns,rfl,rfl⟩
theorem Aup {ns:List Int} {cs:List Value} (h:VRs ι (ns.map (Value.int .u8)) cs):cs = ns.map (Value.int .u8):=by
 induction ns generalizing cs with
 | nil => cases h;rfl
 | cons n ns ih =>
  cases h with
  | cons h1 h2 => rw [h1.int_inv,ih h2];rfl
theorem Xe (ns:List Int) (s:ByteArray):ns.foldl (fun r n => r.push (UInt8.ofNat n.toNat)) s = ⟨s.data ++ (ns.map fun n => UInt8.ofNat n.toNat).toArray⟩:=by
 induction ns generalizing s with
 | nil => cases s;simp
 | cons n ns ih =>
  simp only [List.foldl_cons,ih,List.map_cons]
  congr 1
  simp [ByteArray.push]
theorem ObjR.one {m:Img} {c:List Value} {ro:Bool} (hr:ObjR P ι w m (.cells c ro)):c.all Ag = true:=by
 cases hr with
 | cells _ _ _ _ _ ho => exact ho
theorem Gk (hs:Sim P ι h w) {size:Nat} {x x':Value} (hx:VR ι x x') {n:Nat} {c:List Value} (hc:cellsOf size x h = some (n,c)) (w':World) (hw:w'.heap = w.heap) :
  (Builtin.lenOf x').run P w' = .ok n w' ∧ c.length = n * size ∧ c.all Ag = true ∧ ∃ c',VRs ι c c' ∧ ∀ k,k ≤ n → (Builtin.firstCells size k x').run P w' = .ok (c'.take (k * size)).toArray w':=by
 unfold cellsOf at hc
 split at hc
 ·split at hc
  ·simp only [OI,Prod.mk.injEq] at hc
   obtain ⟨rfl,rfl⟩:=hc
   rename_i e;subst e
   cases hx
   exact ⟨rfl,by simp,rfl,[],.nil,fun k _ => by simp [Builtin.firstCells]⟩
  ·cases hc
 ·rename_i f k a2
  split at hc
  ·rename_i cells ro hb
   split at hc
   ·rename_i a1
    simp only [OI,Prod.mk.injEq] at hc
    obtain ⟨rfl,rfl⟩:=hc
    have l:((cells.drop f.off).take (k * size)).length = k * size:=by simp;omega
    have a:((cells.drop f.off).take (k * size)).all Ag = true:=by
     obtain ⟨_,_,hr⟩:=hs.obj _ _ hb (by simp)
     have:=hr.one
     rw [List.all_eq_true] at this ⊢
     exact fun v p => this v (List.mem_of_mem_drop (List.mem_of_mem_take p))
    have t:∀ (m:Img) (d:Nat),ι f.block = some m → (Builtin.lenOf (.slice (some ⟨m.rb,m.off + f.off,none⟩) k d)).run P w' = .ok k w' ∧ ((cells.drop f.off).take (k * size)).length = k * size ∧ ((cells.drop f.off).take (k * size)).all Ag = true ∧
      ∃ c',VRs ι ((cells.drop f.off).take (k * size)) c' ∧ ∀ j,j ≤ k → (Builtin.firstCells size j (.slice (some ⟨m.rb,m.off + f.off,none⟩) k d)).run P w' = .ok (c'.take (j * size)).toArray w':=by
     intro m d r
     obtain ⟨m',y,hr⟩:=hs.obj _ _ hb (by simp)
     rw [r] at y;cases y
     obtain ⟨o,h1,h2⟩:=Aiw (hr.world (by rw [hw])) a1
     have a3:o.length = k * size:=by rw [← h1.length,l]
     refine ⟨rfl,l,a,o,h1,fun j hj => ?_⟩
     have a4:j * size ≤ k * size:=Nat.mul_le_mul_right _ hj
     exact run_firstCells_some (P:=P) w' size j _ _ _ (o.take (j * size)) (by simp;omega) fun i u z => by
      rw [V9 _ rfl]
      have a0:i < j * size:=by
       rcases Nat.lt_or_ge i (j * size) with h | h
       ·exact h
       ·rw [List.getElem?_eq_none (by simp;omega)] at z;cases z
      rw [List.getElem?_take_of_lt a0] at z
      simpa [Nat.add_assoc] using h2 i u z
    have g:∀ (a':Addr) (j:Nat),j ≤ 0 → (Builtin.firstCells size j (.slice (some a') 0 0)).run P w' = .ok (([]:List Value).take (j * size)).toArray w':=by
     intro a' j hj
     have:j = 0:=Nat.le_zero.1 hj
     subst this
     simp [Builtin.firstCells,loadCells,loadCellsFrom]
    cases hx with
    | slice off n c r => exact t _ _ r
    | slice0 off a' h0 => exact ⟨rfl,by simp,a,[],by simpa using All2.nil,g _⟩
    | loose off s n c r hn hcc => exact t _ _ r
    | loose0 off s a' h0 => exact ⟨rfl,by simp,a,[],by simpa using All2.nil,g _⟩
   ·cases hc
  ·cases hc
 ·rename_i s
  split at hc
  ·rename_i e;subst e
   simp only [OI,Prod.mk.injEq] at hc
   obtain ⟨rfl,rfl⟩:=hc
   have:=hx.string_inv;subst this
   refine ⟨rfl,by simp,by rw [List.all_eq_true];intro v p;simp at p;obtain ⟨b,_,rfl⟩:=p;rfl,_,VRs.self (by rw [List.all_eq_true];intro v p;simp at p;obtain ⟨b,_,rfl⟩:=p;rfl),fun k hk => ?_⟩
   simp only [Builtin.firstCells,Sem.run_pure,Nat.mul_one]
   congr 1
   apply Array.ext'
   rw [ByteArray.data_extract]
   simp [List.extract_eq_take_drop,List.map_take]
  ·cases hc
 ·cases hc
theorem Wl (hs:Sim P ι h w) {size:Nat} {x x':Value} (hx:VR ι x x') {n:Nat} {c:List Value} (hc:cellsOf size x h = some (n,c)) (w':World) (hw:w'.heap = w.heap) :
  (Builtin.lenOf x').run P w' = .ok n w' ∧ c.length = n * size ∧ ∃ c',(Builtin.firstCells size n x').run P w' = .ok c'.toArray w' ∧ VRs ι c c':=by
 obtain ⟨d,h2,_,c',a,e⟩:=Gk hs hx hc w' hw
 refine ⟨d,h2,c',?_,a⟩
 rw [e n (Nat.le_refl _),List.take_of_length_le (by rw [← a.length,h2];exact Nat.le_refl _)]
theorem A1u {t d e:TypeId} {x:Operand} (hs:Sim P ι h w) (hu:P.underlying t = some (.slice e)) (hd:P.underlying d = some .string) (he:P.underlying e = some (.int .u8)) (hf:FFR ι sz f a.tmps) (ho:o.op = .convert t d x)
  {x':X} (hx:cX x = some x') (hv:Fw f h (.b2s x') = some v):Cp P ι a o v w:=by
 have j:=Av hf hx
 simp only [Fw] at hv
 split at hv
 ·rename_i b n u y
  split at hv
  ·rename_i k c hc
   simp only [OM] at hv
   obtain ⟨bs,p,rfl⟩:=hv
   obtain ⟨l,rfl,rfl⟩:=V5 p
   obtain ⟨s,h2,c',m,h4⟩:=Wl hs j hc w rfl
   have z:=Aup h4
   subst z
   refine ⟨.string ⟨(l.map fun n => UInt8.ofNat n.toNat).toArray⟩,?_,.string _⟩
   rw [y] at j
   have g:(Conv.bytesToString (a.eval x)).run P w = .ok (.string ⟨(l.map fun n => UInt8.ofNat n.toNat).toArray⟩) w:=by
    generalize a.eval x = r at j s m
    cases j with
    | nils n c =>
     simp only [Builtin.firstCells,Sem.run_pure,Result.ok.injEq,and_true] at m
     have:l = []:=by
      have:=congrArg Array.size m;simp at this;cases l <;> simp at this ⊢
     subst this
     rfl
    | _ =>
     simp only [Builtin.lenOf,Sem.run_pure,Result.ok.injEq,and_true] at s
     subst s
     rw [run_bytesToString w _ _ _ l (by simpa [Builtin.firstCells] using m),Xe]
     simp
   simp only [execOp,ho]
   refine D5 _ ?_
   generalize a.eval x = r at j g
   simp only [convert,Sem.run_bind,run_underlying hu,run_underlying hd,Result.andThen_ok]
   cases j <;> simp only [Sem.run_bind,run_underlying he,Result.andThen_ok,g]
  ·cases hv
 ·cases hv
end
end Go.L
namespace Go.L
open Go
variable {P:Program} {ι : Inj} {h:Aa} {w:World}
section
variable {sz:Nat} {f:FF} {a:Act} {o:Oper} {q:O} {v:Value}
theorem A0g (hs:Sim P ι h w) (hf:FFR ι sz f a.tmps) (ho:cO P o.op = some q) (hc:cls q = .M) (hv:Fw f h q = some v):Cp P ι a o v w:=by
 cases hop:o.op with
 | load t x => rw [hop] at ho;simp only [cO,OM,OB] at ho;obtain ⟨g,hg,j,d,rfl⟩:=ho;exact A21 hs hg hf hop d hv
 | lookup t m k ok =>
  rw [hop] at ho;simp only [cO] at ho
  split at ho
  ·rename_i kt e p
   simp only [OB] at ho;obtain ⟨q',y,z,hz,ho⟩:=ho
   split at ho
   ·rename_i n
    simp only [OM,OB] at ho;obtain ⟨m',hm,k',hk,rfl⟩:=ho
    exact A0h hs p y (by simpa only [OB] using hz) n hf hop hm hk hv
   ·cases ho
  ·cases ho
 | convert src dst x =>
  rw [hop] at ho;simp only [cO] at ho
  split at ho
  ·simp only [OM] at ho;obtain ⟨j,d,rfl⟩:=ho;simp [cls] at hc
  ·simp only [OM] at ho;obtain ⟨j,d,rfl⟩:=ho;simp [cls] at hc
  ·rename_i e r hd
   split at ho
   ·rename_i he
    simp only [OM] at ho;obtain ⟨j,d,rfl⟩:=ho;exact A1u hs r hd he hf hop d hv
   ·cases ho
  ·split at ho
   ·simp only [OM] at ho;obtain ⟨j,d,rfl⟩:=ho;simp [cls] at hc
   ·cases ho
  ·cases ho
 | call c =>
  rw [hop] at ho;simp only [cO] at ho
  split at ho
  ·simp only [OM,OB] at ho;obtain ⟨_,_,_,_,rfl⟩:=ho;simp [cls] at hc
  ·cases ho
  ·rename_i b l
   split at ho
   ·rename_i x t u ht
    have s:=X0 l u ht
    rw [s] at hop
    split at ho
    ·simp only [OM] at ho;obtain ⟨j,d,rfl⟩:=ho;simp [cls] at hc
    ·simp only [OM] at ho;obtain ⟨j,d,rfl⟩:=ho;simp [cls] at hc
    ·simp only [OI] at ho;subst ho;simp [cls] at hc
    ·rename_i p;simp only [OM] at ho;obtain ⟨j,d,rfl⟩:=ho;exact A0i hs p hf hop d hv
    ·cases ho
   ·simp only [OM,OB] at ho;obtain ⟨j,d,r',hr,rfl⟩:=ho;simp [cls] at hc
   ·simp only [OM,OB] at ho;obtain ⟨j,d,r',hr,rfl⟩:=ho;simp [cls] at hc
   ·split at ho <;> try (cases ho;done)
    all_goals (simp only [OM,OB] at ho;obtain ⟨_,_,_,_,_,_,_,_,rfl⟩:=ho;simp [cls] at hc)
   ·simp only [OM,OB] at ho;obtain ⟨_,_,_,_,_,_,rfl⟩:=ho;simp [cls] at hc
   ·simp only [OB] at ho;obtain ⟨_,_,_,_,ho⟩:=ho
    split at ho
    ·cases ho
    ·simp only [OM] at ho;obtain ⟨_,_,rfl⟩:=ho;simp [cls] at hc
   ·split at ho
    ·simp only [OM,OB] at ho;obtain ⟨_,_,_,_,_,_,rfl⟩:=ho;simp [cls] at hc
    ·cases ho
   ·cases ho
 | _ =>
  exfalso
  rw [hop] at ho
  simp only [cO] at ho
  first | (cases ho;done) | skip
  all_goals
   (repeat' split at ho) <;> first | (cases ho;done) | skip
  all_goals
   cases q <;> first | (simp [cls] at hc;done) | skip
  all_goals first | contradiction | (simp [OB,OM] at ho;done) | skip
end
end Go.L
