/- THE LOGICAL MACHINE AND THE MODEL: operations that read the heap. -/
import Derived.Test.YtifnlcajancfdaaGreatDoorSb
import Derived.Laws.MakeOwn
import Derived.Laws.BytesString
set_option linter.unusedVariables false
set_option linter.unusedSimpArgs false
namespace Go.L
open Go
variable {P:Program} {ι : Inj} {h:Aa} {w:World}
theorem A08 {m:Img} {c:List Value} {ro:Bool} (hr:ObjR P ι w m (.cells c ro)) {i:Nat} {v:Value} (hv:c[i]? = some v):∃ r,w.cell? ⟨m.rb,m.off+i,none⟩=some r∧VR ι v r:=by
 cases hr with
 | cells hw hs hl hc hf ho1 =>
  obtain ⟨r,h1,h2⟩:=hc i v hv
  exact ⟨r,by simp [World.cell?,hw,h1],h2⟩
theorem Aj5 {m:Img} {c:List Value} {ro:Bool} (hr:ObjR P ι w m (.cells c ro)) {off n:Nat} (hle:off+n≤c.length) :
  ∃ cs',VRs ι ((c.drop off).take n) cs'∧∀ j r,cs'[j]? = some r→w.cell? ⟨m.rb,m.off+(off+j),none⟩=some r:=by
 cases hr with
 | cells hw hs hl hc hf ho1 =>
  rename_i arr t fz
  refine ⟨((arr.toList.drop (m.off+off)).take n),?_,?_⟩
  ·refine All2.of_at (by simp;omega) fun i x y hx hy => ?_
   have hi:i<n:=by
    rcases Nat.lt_or_ge i n with h' | h'
    ·exact h'
    ·rw [List.getElem?_eq_none (by simp;omega)] at hx;cases hx
   rw [List.getElem?_take_of_lt hi,List.getElem?_drop] at hx hy
   obtain ⟨r,h1,h2⟩:=hc _ _ hx
   have:y=r:=by
    have h1':arr.toList[m.off+off+i]? = some r:=by rw [← h1];simp [Nat.add_assoc]
    rw [h1'] at hy;cases hy;rfl
   rw [this];exact h2
  ·intro j r hj
   have hi:j<n:=by
    rcases Nat.lt_or_ge j n with h' | h'
    ·exact h'
    ·rw [List.getElem?_eq_none (by simp;omega)] at hj;cases hj
   rw [List.getElem?_take_of_lt hi,List.getElem?_drop] at hj
   have:arr[m.off+(off+j)]? = some r:=by rw [← hj];simp [Nat.add_assoc]
   simp [World.cell?,hw,this]
theorem W8 (a:Addr) (hs:a.spot=none) (j:Nat):a.add j=⟨a.block,a.off+j,none⟩:=by
 unfold Addr.add
 split
 ·rename_i e;subst e;cases a;simp at hs;subst hs;rfl
 ·rfl
section
variable {sz:Nat} {f:FF} {a:Act} {o:Oper} {q:O} {v:Value}
theorem Yq (hs:Sim P ι h w) {t:TypeId} {g:Option Nat} (hg:Q5 P t=some g) {x x':Value} (hx:VR ι x x') (hv:Sn g x h=some v):∃ ad v',x' = .pointer (some ad)∧(loadVar t ad).run P w = .ok v' w∧VR ι v v':=by
 unfold Sn at hv
 split at hv
 ·rename_i ad
  obtain ⟨m,hm,hsp,rfl⟩:=hx.ptr_inv
  split at hv
  ·rename_i c ro hb
   obtain ⟨m',hm',hr⟩:=hs.obj _ _ hb (by simp)
   rw [hm] at hm';cases hm'
   refine ⟨⟨m.rb,m.off+ad.off,none⟩,?_⟩
   cases g with
   | none =>
    simp only [part] at hv
    obtain ⟨r,h1,h2⟩:=A08 hr hv
    refine ⟨r,rfl,?_,h2⟩
    simp [loadVar,Sem.run_bind,M5 hg,Result.andThen,load,Sem.run,h1]
   | some n =>
    obtain ⟨g1,g2⟩:=Jn hg w
    simp only [part] at hv
    split at hv
    ·rename_i hle
     simp only [OI] at hv;subst hv
     obtain ⟨cs',h1,h2⟩:=Aj5 hr hle
     have hlen:cs'.length=n:=by rw [← h1.length];simp;omega
     have:=run_loadCells_list (P:=P) w ⟨m.rb,m.off+ad.off,none⟩ cs' (fun j v hj => by rw [W8 _ rfl];simpa [Nat.add_assoc] using h2 j v hj)
     rw [hlen] at this
     refine ⟨.agg cs'.toArray,rfl,?_,.agg h1⟩
     simp [loadVar,Sem.run_bind,g1,Result.andThen,Dz g2,this]
    ·cases hv
  ·cases hv
 ·cases hv
theorem A6g {t:TypeId} {x:Operand} {g:Option Nat} (hs:Sim P ι h w) (hg:Q5 P t=some g) (hf:FFR ι sz f a.tmps) (ho:o.op = .load t x) {x':X} (hx:cX x=some x') (hv:Gz f h (.ld g x')=some v):Cq P ι a o v w:=by
 simp only [Gz] at hv
 obtain ⟨ad,v',h1,h2,h3⟩:=Yq hs hg (Au hf hx) hv
 refine ⟨v',?_,h3⟩
 simp only [execOp,ho,h1]
 refine D5 _ ?_
 simp [Instr.loadAt,Sem.run_bind,Instr.sureAddr,Result.andThen,h2]
theorem A3t {t kt e:TypeId} {x:Operand} (hs:Sim P ι h w) (hu:P.underlying t=some (.map kt e)) (hf:FFR ι sz f a.tmps) (ho:o.op = .call { callee:=.builtin .len,args:=#[x],argTypes:=#[t] }) {x':X} (hx:cX x=some x')
  (hv:Gz f h (.lenm x')=some v):Cq P ι a o v w:=by
 have rx:=Au hf hx
 simp only [Gz] at hv
 split at hv
 ·rename_i e1
  rw [e1] at rx
  simp only [OI] at hv;subst hv
  refine ⟨.int .i64 0,?_,.int _ _⟩
  have hr:a.eval x = .map none:=by
   generalize a.eval x=rv at rx
   cases rx;rfl
  simp only [execOp,ho,resolve,Sem.run_bind,Result.andThen,Sem.run_pure,invoke,Go.builtin]
  simp [Builtin.len_,Sem.run_bind,run_underlying hu,Result.andThen,hr,goInt]
 ·rename_i r e1
  rw [e1] at rx
  obtain ⟨m,hm,hr⟩:=rx.map_inv
  split at hv
  ·rename_i es hb
   simp only [OI] at hv;subst hv
   obtain ⟨m',hm',hobj⟩:=hs.obj _ _ hb (by simp)
   rw [hm] at hm';cases hm'
   cases hobj with
   | map hw he =>
    refine ⟨.int .i64 es.length,?_,.int _ _⟩
    have hl:=he.length
    simp only [execOp,ho,resolve,Sem.run_bind,Result.andThen,Sem.run_pure,invoke,Go.builtin]
    simp [Builtin.len_,Sem.run_bind,run_underlying hu,Result.andThen,hr,goInt,getObj,Sem.run,hw,hl]
  ·cases hv
 ·cases hv
theorem Abw {q:EqK} {k r:Value} (hk:Sp q k=true) (hr:VR ι k r):r=k:=by
 simp only [Sp,beq_iff_eq] at hk
 unfold B0 at hk
 split at hk
 ·exact (Vy hk hr hr).1
 ·exact (Vy hk hr hr).1
 ·obtain ⟨cs,rfl,hc⟩:=hr.agg_inv
  exact congrArg Value.agg (Array.ext' (Vz hk hc hc).1)
 ·cases hk
theorem Abx {kt:TypeId} {q:EqK} (hq:Adj P kt=some q):(∃ i,P.underlying kt=some (.int i)∧q = .int)∨(P.underlying kt=some .string∧q = .str)∨∃ fs l,P.underlying kt=some (.struct fs)∧Yz P kt=some l∧q = .flat l:=by
 unfold Adj at hq
 split at hq
 ·rename_i hu;simp only [OI] at hq;exact .inl ⟨_,hu,hq.symm⟩
 ·rename_i hu;simp only [OI] at hq;exact .inr (.inl ⟨hu,hq.symm⟩)
 ·rename_i hu;simp only [OM] at hq;obtain ⟨l,hl,rfl⟩:=hq;exact .inr (.inr ⟨_,l,hu,hl,rfl⟩)
 ·cases hq
theorem Uh {t:TypeId} {k:SK} (hk:Vv P t=some k) (e:Bool) (d:Nat) (v:Value) (w:World):(Instr.checkKey e (d+1) t v).run P w = .ok () w:=by
 obtain ⟨_,D,hu,hd⟩:=Xl hk
 obtain ⟨⟨i,rfl⟩,_⟩ | ⟨rfl,_⟩ | ⟨rfl,_⟩:=hd<;>simp [Instr.checkKey,Sem.run_bind,run_underlying hu,Result.andThen]
theorem Are {k:SK}:∀ {n:Nat} {us vs:List Value} {b:Bool},Df k n us vs=some b→us.length=n:=by
 intro na
 induction na with
 | zero => intro us vs b h;unfold Df at h;split at h<;>first | (cases h;done) | contradiction | rfl
 | succ na ih =>
  intro us vs b h
  cases us with
  | nil => simp [Df] at h
  | cons u us =>
  cases vs with
  | nil => simp [Df] at h
  | cons v vs =>
  simp only [Df,OB,OM] at h
  obtain ⟨r,_,s,hs,_⟩:=h
  simp [ih hs]
theorem Sa {e:TypeId} {k:SK} (hk:Vv P e=some k) (hz:szO P e=some 1) (em:Bool) (d:Nat) {cs:List Value}:∀ (n j:Nat),j+n≤cs.length→∀ (w:World),
  (forIn (List.range' j n) PUnit.unit fun i _ => (do Instr.checkKey em (d+1) e (← Go.part e cs.toArray (i * (← sizeOf e)));pure (ForInStep.yield PUnit.unit):Sem (ForInStep PUnit))).run P w = .ok PUnit.unit w
 | 0,j,h,w => by simp
 | n+1,j,h,w => by
  have hj:j<cs.length:=by omega
  have hp:=F4 hk (cs:=cs) (off:=j * 1) (v:=cs[j]) (by simp [hj]) w
  have ih:=Sa hk hz em d (cs:=cs) n (j+1) (by omega) w
  simp only [List.range'_succ,List.forIn_cons,Sem.run_bind,Dz hz,Result.andThen_ok,hp,Uh hk,Sem.run_pure]
  exact ih
theorem Ls {em:Bool} {d:Nat} {cs:List Value}:∀ (fs:List Field) (n:Nat) {l:List FK} {b:Bool},Ab3 P fs n=some l→Ca l (cs.drop n) (cs.drop n)=some b→∀ (w:World),
  (forIn fs PUnit.unit fun f _ => (if f.name ≠ "_" then (do let x ← Go.part f.type cs.toArray f.offset;Instr.checkKey em (d+2) f.type x;pure (ForInStep.yield PUnit.unit):Sem (ForInStep PUnit)) else (pure (ForInStep.yield PUnit.unit):Sem (ForInStep PUnit)))).run P w = .ok PUnit.unit w
 | [],n,l,b,hl,h,w => by simp
 | f :: fs,n,l,b,hl,h,w => by
  simp only [Ab3] at hl
  split at hl
  ·rename_i hf
   simp only [OB,OM] at hl
   obtain ⟨⟨kk,m⟩,hk,r,hr,rfl⟩:=hl
   unfold Al8 at hk
   split at hk
   ·rename_i na e hu
    split at hk
    ·rename_i hsz
     simp only [OM,Prod.mk.injEq] at hk
     obtain ⟨k,hk,rfl,rfl⟩:=hk
     simp only [Ca,OB,OM,List.drop_drop] at h
     obtain ⟨r1,h1,r2,h2,rfl⟩:=h
     have ih:=Ls (em:=em) (d:=d) fs (n+na) hr h2 w
     have hagg:Q5 P f.type=some (some na):=by
      obtain ⟨i,hi,hin⟩:=Mz hsz.2
      simp [Q5,hu,hi,hin]
     have hl:=Are h1
     have pt:(Go.part f.type cs.toArray f.offset).run P w = .ok (.agg ((cs.drop n).take na).toArray) w:=by
      obtain ⟨g1,g2⟩:=Jn hagg w
      simp only [Go.part,Sem.run_bind,g1,Result.andThen,if_true,Dz g2,hf.1]
      have:(cs.toArray.extract n (n+na))=((cs.drop n).take na).toArray:=by simp [List.extract_toArray,List.extract_eq_take_drop]
      rw [this];rfl
     have hc:=Sa hk hsz.1 em d (cs:=(cs.drop n).take na) na 0 (by omega) w
     have hck:(Instr.checkKey em (d+2) f.type (.agg ((cs.drop n).take na).toArray)).run P w = .ok () w:=by
      rw [show d+2=(d+1)+1 from rfl]
      generalize d+1=D at hc ⊢
      simp only [Instr.checkKey,Sem.run_bind,run_underlying hu,Result.andThen_ok,Std.Legacy.Range.forIn_eq_forIn_range',Std.Legacy.Range.size,Nat.sub_zero,Nat.add_one_sub_one,Nat.div_one]
      rw [hc];rfl
     simp only [List.forIn_cons,Sem.run_bind,hf.2,ne_eq,not_false_eq_true,if_true,pt,hck,Result.andThen_ok,Sem.run_pure]
     exact ih
    ·cases hk
   ·split at hk
    ·simp only [OM,Prod.mk.injEq] at hk
     obtain ⟨k,hk,rfl,rfl⟩:=hk
     cases hxs:cs.drop n with
     | nil => rw [hxs] at h;simp [Ca] at h
     | cons x xr =>
     rw [hxs] at h
     simp only [Ca,OB,OM] at h
     obtain ⟨r1,h1,r2,h2,rfl⟩:=h
     have e1:cs.drop (n+1)=xr:=by rw [← List.drop_drop,hxs];rfl
     have h2':Ca r (cs.drop (n+1)) (cs.drop (n+1))=some r2:=by rw [e1];exact h2
     have ih:=Ls (em:=em) (d:=d) fs (n+1) hr h2' w
     have p1:=F4 hk (cs:=cs) (off:=n) (v:=x) (by have:=congrArg (fun l => l[0]?) hxs;simpa using this) w
     simp only [List.forIn_cons,Sem.run_bind,hf.2,ne_eq,not_false_eq_true,if_true,hf.1,p1,Uh hk,Result.andThen_ok,Sem.run_pure]
     exact ih
    ·cases hk
  ·cases hl
theorem Qf {kt:TypeId} {q:EqK} (hq:Adj P kt=some q) {k:Value} (hk:Sp q k=true) (e:Bool) (w:World):(Instr.checkKey e 10000 kt k).run P w = .ok () w:=by
 have hD:∃ d,10000=d+3:=⟨9997,rfl⟩
 generalize 10000=D at hD ⊢
 obtain ⟨d,rfl⟩:=hD
 rcases Abx hq with ⟨i,hu,rfl⟩ | ⟨hu,rfl⟩ | ⟨fs,l,hu,hl,rfl⟩
 ·simp [Instr.checkKey,Sem.run_bind,run_underlying hu,Result.andThen]
 ·simp [Instr.checkKey,Sem.run_bind,run_underlying hu,Result.andThen]
 ·simp only [Sp,beq_iff_eq] at hk
  obtain ⟨cs,rfl,hk⟩:∃ cs,k = .agg cs∧Ca l cs.toList cs.toList=some true:=by
   cases k<;>first | exact ⟨_,rfl,hk⟩ | (simp [B0] at hk;done)
  unfold Yz at hl
  rw [hu] at hl
  simp only at hl
  split at hl
  ·have:=Ls (em:=e) (d:=d) fs.toList 0 hl hk w
   rw [show d+3=(d+2)+1 from rfl]
   generalize d+2=D at this ⊢
   simp only [Instr.checkKey,Sem.run_bind,run_underlying hu,Result.andThen_ok]
   rw [← Array.forIn_toList]
   have this':=this
   simp only [Array.toArray_toList] at this'
   rw [this'];rfl
  ·cases hl
theorem Tv {q:EqK} {k:Value} {F:List MapEntry→Nat→Option (Nat × Value)→Prop} (h0:∀ i,F [] i none) (h1:∀ e es i,B0 q k e.key=some true→F (e :: es) i (some (i,e.val)))
  (h2:∀ e es i r,B0 q k e.key=some false→F es (i+1) r→F (e :: es) i r) :
  ∀ {es:List (Value × Value)} {es':List MapEntry} (he:All2 (fun e (e':MapEntry) => e.1=e'.key∧VR ι e.2 e'.val) es es') {r:Option Value} (hf:find q k es=some r) (i:Nat),
  (r=none∧F es' i none∧(∀ u,Ow q k u es=some (es++[(k,u)]))∧Zq q k es=some es) ∨
   ∃ v j v',r=some v∧F es' i (some (i+j,v'))∧VR ι v v'∧j<es.length∧(∀ u,Ow q k u es=some (es.set j (k,u)))∧Zq q k es=some (es.eraseIdx j)∧∃ e',es'[j]? = some e'∧B0 q k e'.key=some true
 | [],es',he,r,hf,i => by
  cases he
  simp only [find,OI] at hf;subst hf
  exact .inl ⟨rfl,h0 i,fun u => rfl,rfl⟩
 | (x,v) :: es,_,.cons (b:=e') (m:=es') hx he,r,hf,i => by
  obtain ⟨rfl,hv⟩:=hx
  simp only [find,OB] at hf
  obtain ⟨b,hb,hf⟩:=hf
  cases b with
  | true =>
   simp only [if_true,OI] at hf;subst hf
   refine .inr ⟨v,0,e'.val,rfl,h1 _ _ _ hb,hv,by simp,fun u => ?_,?_,e',rfl,hb⟩
   ·simp [Ow,hb]
   ·simp [Zq,hb]
  | false =>
   simp only [Bool.false_eq_true,if_false] at hf
   rcases Tv h0 h1 h2 he hf (i+1) with ⟨h3,h4,h5,h6⟩ | ⟨v0,j,v',h3,h4,h5,h6,h7,h8,e2,h9,h10⟩
   ·exact .inl ⟨h3,h2 _ _ _ _ hb h4,fun u => by simp [Ow,hb,h5 u],by simp [Zq,hb,h6]⟩
   ·refine .inr ⟨v0,j+1,v',h3,h2 _ _ _ _ hb (by rw [show i+(j+1)=i+1+j by omega];exact h4),h5,by simp;omega,fun u => by simp [Ow,hb,h7 u],by simp [Zq,hb,h8],e2,by simpa using h9,h10⟩
theorem Oc {kt:TypeId} {q:EqK} (hq:Adj P kt=some q) {k:Value} (hk:Sp q k=true) {es:List (Value × Value)} {es':List MapEntry} (he:All2 (fun e (e':MapEntry) => e.1=e'.key∧VR ι e.2 e'.val) es es')
  {r:Option Value} (hf:find q k es=some r) (w:World) :
  (r=none∧(Instr.findKey kt k es').run P w = .ok none w∧(∀ u,Ow q k u es=some (es++[(k,u)]))∧Zq q k es=some es) ∨
   ∃ v j v',r=some v∧(Instr.findKey kt k es').run P w = .ok (some (j,v')) w∧VR ι v v'∧j<es.length∧(∀ u,Ow q k u es=some (es.set j (k,u)))∧Zq q k es=some (es.eraseIdx j)∧∃ e',es'[j]? = some e'∧B0 q k e'.key=some true:=by
 rcases Abx hq with ⟨i,hu,rfl⟩ | ⟨hu,rfl⟩ | ⟨fs,l,hu,hl,rfl⟩
 ·have hs:∀ x b,B0 .int k x=some b→Instr.sameNow (.int i) k x=some b:=by
   intro x b h
   unfold B0 Gm at h
   split at h<;>first | contradiction | skip
   all_goals (split at h<;>first | contradiction | skip)
   all_goals first | (simp only [Instr.sameNow];exact h) | skip
  have hr:∀ r,Instr.findNow (.int i) k es' 0=some r→(Instr.findKey kt k es').run P w = .ok r w:=fun r h => by simp [Instr.findKey,Sem.run_bind,run_underlying hu,Result.andThen,h]
  rcases Tv (F:=fun es i' r => Instr.findNow (.int i) k es i'=some r) (fun _ => rfl) (fun e es i' h => by simp [Instr.findNow,hs _ _ h]) (fun e es i' r h h' => by simp [Instr.findNow,hs _ _ h,h']) he hf 0 with ⟨h1,h2,h3⟩ | ⟨v,j,v',h1,h2,h3⟩
  ·exact .inl ⟨h1,hr _ h2,h3⟩
  ·exact .inr ⟨v,j,v',h1,by rw [← Nat.zero_add j];exact hr _ h2,h3⟩
 ·have hs:∀ x b,B0 .str k x=some b→Instr.sameNow .string k x=some b:=by
   intro x b h
   unfold B0 Gm at h
   split at h<;>first | contradiction | skip
   all_goals (split at h<;>first | contradiction | skip)
   all_goals first | (simp only [Instr.sameNow];exact h) | skip
  have hr:∀ r,Instr.findNow .string k es' 0=some r→(Instr.findKey kt k es').run P w = .ok r w:=fun r h => by simp [Instr.findKey,Sem.run_bind,run_underlying hu,Result.andThen,h]
  rcases Tv (F:=fun es i' r => Instr.findNow .string k es i'=some r) (fun _ => rfl) (fun e es i' h => by simp [Instr.findNow,hs _ _ h]) (fun e es i' r h h' => by simp [Instr.findNow,hs _ _ h,h']) he hf 0 with ⟨h1,h2,h3⟩ | ⟨v,j,v',h1,h2,h3⟩
  ·exact .inl ⟨h1,hr _ h2,h3⟩
  ·exact .inr ⟨v,j,v',h1,by rw [← Nat.zero_add j];exact hr _ h2,h3⟩
 ·have hs:∀ x b,B0 (.flat l) k x=some b→(Op.equal kt k x).run P w = .ok b w:=by
   intro x b h
   unfold B0 at h
   split at h<;>first | contradiction | skip
   rename_i xs ys hq2
   cases hq2
   rw [Wl]
   have hD:∃ e,9999=e+2:=⟨9997,rfl⟩
   generalize 9999=d at hD ⊢
   obtain ⟨e,rfl⟩:=hD
   exact R9 hl h e w
  have hr:∀ r,(Instr.findAsking kt k es' 0).run P w = .ok r w→(Instr.findKey kt k es').run P w = .ok r w:=by
   intro r h
   cases es' with
   | nil => simpa [Instr.findKey,Sem.run_bind,run_underlying hu,Result.andThen,Instr.findNow,Instr.findAsking] using h
   | cons e es' =>
    have:Instr.findNow (.struct fs) k (e :: es') 0=none:=by simp [Instr.findNow,Instr.sameNow]
    simp [Instr.findKey,Sem.run_bind,run_underlying hu,Result.andThen,this,h]
  rcases Tv (F:=fun es i' r => (Instr.findAsking kt k es i').run P w = .ok r w) (fun _ => by simp [Instr.findAsking]) (fun e es i' h => by simp [Instr.findAsking,Sem.run_bind,hs _ _ h,Result.andThen]) (fun e es i' r h h' => by simp [Instr.findAsking,Sem.run_bind,hs _ _ h,Result.andThen,h']) he hf 0 with ⟨h1,h2,h3⟩ | ⟨v,j,v',h1,h2,h3⟩
  ·exact .inl ⟨h1,hr _ h2,h3⟩
  ·exact .inr ⟨v,j,v',h1,by rw [← Nat.zero_add j];exact hr _ h2,h3⟩
theorem A3s {t kt e:TypeId} {m k:Operand} {ok:Bool} {q:EqK} {z:Value} (hs:Sim P ι h w) (hu:P.underlying t=some (.map kt e)) (hq:Adj P kt=some q) (hz:(P.info? e).bind (·.zero)=some z) (hzn:Ae 0 4 z=true)
  (hf:FFR ι sz f a.tmps) (ho:o.op = .lookup t m k ok) {m' k':X} (hm:cX m=some m') (hk:cX k=some k') (hv:Gz f h (.look q z m' k' ok)=some v):Cq P ι a o v w:=by
 have rm:=Au hf hm
 have rk:=Au hf hk
 simp only [Gz,Yw] at hv
 split at hv
 ·rename_i hkey
  have ek:=Abw hkey rk
  have hzr:∀ w,(zeroValue e).run P w = .ok z w:=by
   intro w
   simp only [OB] at hz
   obtain ⟨i,hi,hz⟩:=hz
   simp [zeroValue,Sem.run_bind,run_typeInfo w hi,Result.andThen,hz]
  simp only [OM] at hv
  obtain ⟨r,hr,rfl⟩:=hv
  have key:∃ es:Array MapEntry,((a.eval m = .map none∧es = #[])∨∃ rb clock,a.eval m = .map (some rb)∧w.heap[rb]? = some (.map es clock)) ∧
    ∃ r',(Instr.findKey kt (a.eval k) es.toList).run P w = .ok r' w∧(match (generalizing:=false) r with | none => r'=none | some v => ∃ i v',r'=some (i,v')∧VR ι v v'):=by
   rw [ek]
   generalize hvm:ev f m'=vm at hr rm
   split at hr
   ·simp only [OI] at hr;subst hr
    have hrm:a.eval m = .map none:=by
     generalize a.eval m=rv at rm
     cases rm;rfl
    refine ⟨#[],.inl ⟨hrm,rfl⟩,?_⟩
    rcases Oc (ι:=ι) hq hkey (es:=[]) (es':=[]) .nil (r:=none) (by simp [find]) w with ⟨_,h1,_⟩ | ⟨_,_,_,h1,_⟩
    ·exact ⟨none,by simpa using h1,rfl⟩
    ·cases h1
   ·rename_i rb
    obtain ⟨mi,hmi,hrm⟩:=rm.map_inv
    split at hr
    ·rename_i es hb
     obtain ⟨m',hm',hobj⟩:=hs.obj _ _ hb (by simp)
     rw [hmi] at hm';cases hm'
     cases hobj with
     | map hw he =>
      rename_i es' clock
      refine ⟨es',.inr ⟨_,clock,hrm,hw⟩,?_⟩
      rcases Oc hq hkey he hr w with ⟨rfl,h1,_⟩ | ⟨v,i,v',rfl,h1,h2,_⟩
      ·exact ⟨none,h1,rfl⟩
      ·exact ⟨_,h1,i,v',rfl,h2⟩
    ·cases hr
   ·cases hr
  obtain ⟨es,h1,r',h2,h3⟩:=key
  have hck:=Qf hq hkey es.isEmpty w
  rw [← ek] at hck
  simp only [Cq,execOp,ho]
  have look:∀ x,(match (generalizing:=false) r' with | some (_,v) => (x=if ok then Value.tuple #[v,.bool true] else v) | none => x=if ok then Value.tuple #[z,.bool false] else z) →
    (Instr.lookup t (a.eval m) (a.eval k) ok).run P w = .ok x w:=by
   intro x hx
   rcases h1 with ⟨hrm,rfl⟩ | ⟨rb,clock,hrm,hw⟩
   ·cases r' with
    | none => subst hx;simp only [Instr.lookup,Sem.run_bind,run_underlying hu,Result.andThen,hrm,Sem.run_pure,hck,h2,hzr]
    | some p => obtain ⟨i,v'⟩:=p;subst hx;simp only [Instr.lookup,Sem.run_bind,run_underlying hu,Result.andThen,hrm,Sem.run_pure,hck,h2]
   ·have hget:(getObj rb).run P w = .ok (.map es clock) w:=by simp [getObj,Sem.run,hw]
    cases r' with
    | none => subst hx;simp only [Instr.lookup,Sem.run_bind,run_underlying hu,Result.andThen,hrm,hget,Sem.run_pure,hck,h2,hzr]
    | some p => obtain ⟨i,v'⟩:=p;subst hx;simp only [Instr.lookup,Sem.run_bind,run_underlying hu,Result.andThen,hrm,hget,Sem.run_pure,hck,h2]
  cases r with
  | none =>
   simp only at h3;subst h3
   refine ⟨if ok then .tuple #[z,.bool false] else z,D5 _ (look _ rfl),?_⟩
   cases ok
   ·exact VR.self 4 z hzn
   ·exact .tuple (a:=[z,.bool false]) (a':=[z,.bool false]) (.cons (VR.self 4 z hzn) (.cons (.bool _) .nil))
  | some v0 =>
   obtain ⟨i,v',rfl,hvr⟩:=h3
   refine ⟨if ok then .tuple #[v',.bool true] else v',D5 _ (look _ rfl),?_⟩
   cases ok
   ·exact hvr
   ·exact .tuple (a:=[v0,.bool true]) (a':=[v',.bool true]) (.cons hvr (.cons (.bool _) .nil))
 ·cases hv
end
end Go.L
namespace Go.L
open Go
variable {P:Program} {ι : Inj} {h:Aa} {w:World}
section
variable {sz:Nat} {f:FF} {a:Act} {o:Oper} {q:O} {v:Value}
theorem W0:∀ {c:List Value} {bs:List UInt8},bytesOf c=some bs→∃ ns:List Int,c=ns.map (Value.int .u8)∧bs=ns.map fun n => UInt8.ofNat n.toNat
 | [],bs,h => by simp [bytesOf] at h;subst h;exact ⟨[],rfl,rfl⟩
 | v :: c,bs,h => by
  have:∃ n,v = .int .u8 n:=by
   cases v<;>first | (simp [bytesOf] at h;done) | skip
   rename_i k n
   cases k<;>first | (simp [bytesOf] at h;done) | exact ⟨_,rfl⟩
  obtain ⟨n,rfl⟩:=this
  simp only [bytesOf,OM] at h
  obtain ⟨bs',h',rfl⟩:=h
  obtain ⟨ns,rfl,rfl⟩:=W0 h'
  exact ⟨n :: ns,rfl,rfl⟩
theorem Awv {ns:List Int} {cs:List Value} (h:VRs ι (ns.map (Value.int .u8)) cs):cs=ns.map (Value.int .u8):=by
 induction ns generalizing cs with
 | nil => cases h;rfl
 | cons n ns ih =>
  cases h with
  | cons h1 h2 => rw [h1.int_inv,ih h2];rfl
theorem X8 (ns:List Int) (s:ByteArray):ns.foldl (fun r n => r.push (UInt8.ofNat n.toNat)) s=⟨s.data++(ns.map fun n => UInt8.ofNat n.toNat).toArray⟩:=by
 induction ns generalizing s with
 | nil => cases s;simp
 | cons n ns ih =>
  simp only [List.foldl_cons,ih,List.map_cons]
  congr 1
  simp [ByteArray.push]
theorem ObjR.one {m:Img} {c:List Value} {ro:Bool} (hr:ObjR P ι w m (.cells c ro)):c.all Ah=true:=by
 cases hr with
 | cells _ _ _ _ _ ho => exact ho
theorem Gn (hs:Sim P ι h w) {size:Nat} {x x':Value} (hx:VR ι x x') {n:Nat} {c:List Value} (hc:cellsOf size x h=some (n,c)) (w':World) (hw:w'.heap=w.heap) :
  (Builtin.lenOf x').run P w' = .ok n w'∧c.length=n * size∧c.all Ah=true∧∃ c',VRs ι c c'∧∀ k,k≤n→(Builtin.firstCells size k x').run P w' = .ok (c'.take (k * size)).toArray w':=by
 unfold cellsOf at hc
 split at hc
 ·split at hc
  ·simp only [OI,Prod.mk.injEq] at hc
   obtain ⟨rfl,rfl⟩:=hc
   rename_i e;subst e
   cases hx
   exact ⟨rfl,by simp,rfl,[],.nil,fun k _ => by simp [Builtin.firstCells]⟩
  ·cases hc
 ·rename_i ad k cap
  split at hc
  ·rename_i cells ro hb
   split at hc
   ·rename_i hle
    simp only [OI,Prod.mk.injEq] at hc
    obtain ⟨rfl,rfl⟩:=hc
    have hlen:((cells.drop ad.off).take (k * size)).length=k * size:=by simp;omega
    have hone:((cells.drop ad.off).take (k * size)).all Ah=true:=by
     obtain ⟨_,_,hr⟩:=hs.obj _ _ hb (by simp)
     have:=hr.one
     rw [List.all_eq_true] at this ⊢
     exact fun v hv => this v (List.mem_of_mem_drop (List.mem_of_mem_take hv))
    have key:∀ (m:Img) (cap':Nat),ι ad.block=some m→(Builtin.lenOf (.slice (some ⟨m.rb,m.off+ad.off,none⟩) k cap')).run P w' = .ok k w'∧((cells.drop ad.off).take (k * size)).length=k * size∧((cells.drop ad.off).take (k * size)).all Ah=true ∧
      ∃ c',VRs ι ((cells.drop ad.off).take (k * size)) c'∧∀ j,j≤k→(Builtin.firstCells size j (.slice (some ⟨m.rb,m.off+ad.off,none⟩) k cap')).run P w' = .ok (c'.take (j * size)).toArray w':=by
     intro m cap' hm
     obtain ⟨m',hm',hr⟩:=hs.obj _ _ hb (by simp)
     rw [hm] at hm';cases hm'
     obtain ⟨cs',h1,h2⟩:=Aj5 (hr.world (by rw [hw])) hle
     have hcl:cs'.length=k * size:=by rw [← h1.length,hlen]
     refine ⟨rfl,hlen,hone,cs',h1,fun j hj => ?_⟩
     have hjk:j * size≤k * size:=Nat.mul_le_mul_right _ hj
     exact run_firstCells_some (P:=P) w' size j _ _ _ (cs'.take (j * size)) (by simp;omega) fun i u hi => by
      rw [W8 _ rfl]
      have hlt:i<j * size:=by
       rcases Nat.lt_or_ge i (j * size) with h | h
       ·exact h
       ·rw [List.getElem?_eq_none (by simp;omega)] at hi;cases hi
      rw [List.getElem?_take_of_lt hlt] at hi
      simpa [Nat.add_assoc] using h2 i u hi
    have zero:∀ (a':Addr) (j:Nat),j≤0→(Builtin.firstCells size j (.slice (some a') 0 0)).run P w' = .ok (([]:List Value).take (j * size)).toArray w':=by
     intro a' j hj
     have:j=0:=Nat.le_zero.1 hj
     subst this
     simp [Builtin.firstCells,loadCells,loadCellsFrom]
    cases hx with
    | slice off n c hm => exact key _ _ hm
    | slice0 off a' h0 => exact ⟨rfl,by simp,hone,[],by simpa using All2.nil,zero _⟩
    | loose off s n c hm hn hcc => exact key _ _ hm
    | loose0 off s a' h0 => exact ⟨rfl,by simp,hone,[],by simpa using All2.nil,zero _⟩
   ·cases hc
  ·cases hc
 ·rename_i s
  split at hc
  ·rename_i e;subst e
   simp only [OI,Prod.mk.injEq] at hc
   obtain ⟨rfl,rfl⟩:=hc
   have:=hx.string_inv;subst this
   refine ⟨rfl,by simp,by rw [List.all_eq_true];intro v hv;simp at hv;obtain ⟨b,_,rfl⟩:=hv;rfl,_,VRs.self (by rw [List.all_eq_true];intro v hv;simp at hv;obtain ⟨b,_,rfl⟩:=hv;rfl),fun k hk => ?_⟩
   simp only [Builtin.firstCells,Sem.run_pure,Nat.mul_one]
   congr 1
   apply Array.ext'
   rw [ByteArray.data_extract]
   simp [List.extract_eq_take_drop,List.map_take]
  ·cases hc
 ·cases hc
theorem Xn (hs:Sim P ι h w) {size:Nat} {x x':Value} (hx:VR ι x x') {n:Nat} {c:List Value} (hc:cellsOf size x h=some (n,c)) (w':World) (hw:w'.heap=w.heap) :
  (Builtin.lenOf x').run P w' = .ok n w'∧c.length=n * size∧∃ c',(Builtin.firstCells size n x').run P w' = .ok c'.toArray w'∧VRs ι c c':=by
 obtain ⟨h1,h2,_,c',h3,h4⟩:=Gn hs hx hc w' hw
 refine ⟨h1,h2,c',?_,h3⟩
 rw [h4 n (Nat.le_refl _),List.take_of_length_le (by rw [← h3.length,h2];exact Nat.le_refl _)]
theorem A44 {t d e:TypeId} {x:Operand} (hs:Sim P ι h w) (hu:P.underlying t=some (.slice e)) (hd:P.underlying d=some .string) (he:P.underlying e=some (.int .u8)) (hf:FFR ι sz f a.tmps) (ho:o.op = .convert t d x)
  {x':X} (hx:cX x=some x') (hv:Gz f h (.b2s x')=some v):Cq P ι a o v w:=by
 have rx:=Au hf hx
 simp only [Gz] at hv
 split at hv
 ·rename_i b n cap e1
  split at hv
  ·rename_i k c hc
   simp only [OM] at hv
   obtain ⟨bs,hbs,rfl⟩:=hv
   obtain ⟨ns,rfl,rfl⟩:=W0 hbs
   obtain ⟨h1,h2,c',h3,h4⟩:=Xn hs rx hc w rfl
   have h5:=Awv h4
   subst h5
   refine ⟨.string ⟨(ns.map fun n => UInt8.ofNat n.toNat).toArray⟩,?_,.string _⟩
   rw [e1] at rx
   have conv:(Conv.bytesToString (a.eval x)).run P w = .ok (.string ⟨(ns.map fun n => UInt8.ofNat n.toNat).toArray⟩) w:=by
    generalize a.eval x=r at rx h1 h3
    cases rx with
    | nils n c =>
     simp only [Builtin.firstCells,Sem.run_pure,Result.ok.injEq,and_true] at h3
     have:ns=[]:=by
      have:=congrArg Array.size h3;simp at this;cases ns<;>simp at this ⊢
     subst this
     rfl
    | _ =>
     simp only [Builtin.lenOf,Sem.run_pure,Result.ok.injEq,and_true] at h1
     subst h1
     rw [run_bytesToString w _ _ _ ns (by simpa [Builtin.firstCells] using h3),X8]
     simp
   simp only [execOp,ho]
   refine D5 _ ?_
   generalize a.eval x=r at rx conv
   simp only [convert,Sem.run_bind,run_underlying hu,run_underlying hd,Result.andThen_ok]
   cases rx<;>simp only [Sem.run_bind,run_underlying he,Result.andThen_ok,conv]
  ·cases hv
 ·cases hv
end
end Go.L
namespace Go.L
open Go
variable {P:Program} {ι : Inj} {h:Aa} {w:World}
section
variable {sz:Nat} {f:FF} {a:Act} {o:Oper} {q:O} {v:Value}
theorem A3r (hs:Sim P ι h w) (hf:FFR ι sz f a.tmps) (ho:cO P o.op=some q) (hc:cls q = .M) (hv:Gz f h q=some v):Cq P ι a o v w:=by
 cases hop:o.op with
 | load t x => rw [hop] at ho;simp only [cO,OM,OB] at ho;obtain ⟨g,hg,x',hx,rfl⟩:=ho;exact A6g hs hg hf hop hx hv
 | lookup t m k ok =>
  rw [hop] at ho;simp only [cO] at ho
  split at ho
  ·rename_i kt e hu
   simp only [OB] at ho;obtain ⟨q',hq,z,hz,ho⟩:=ho
   split at ho
   ·rename_i hzn
    simp only [OM,OB] at ho;obtain ⟨m',hm,k',hk,rfl⟩:=ho
    exact A3s hs hu hq (by simpa only [OB] using hz) hzn hf hop hm hk hv
   ·cases ho
  ·cases ho
 | convert src dst x =>
  rw [hop] at ho;simp only [cO] at ho
  split at ho
  ·simp only [OM] at ho;obtain ⟨x',hx,rfl⟩:=ho;simp [cls] at hc
  ·simp only [OM] at ho;obtain ⟨x',hx,rfl⟩:=ho;simp [cls] at hc
  ·rename_i e hs' hd
   split at ho
   ·rename_i he
    simp only [OM] at ho;obtain ⟨x',hx,rfl⟩:=ho;exact A44 hs hs' hd he hf hop hx hv
   ·cases ho
  ·split at ho
   ·simp only [OM] at ho;obtain ⟨x',hx,rfl⟩:=ho;simp [cls] at hc
   ·cases ho
  ·cases ho
 | call c =>
  rw [hop] at ho;simp only [cO] at ho
  split at ho
  ·simp only [OM,OB] at ho;obtain ⟨_,_,_,_,rfl⟩:=ho;simp [cls] at hc
  ·cases ho
  ·rename_i b hcal
   split at ho
   ·rename_i x t ha ht
    have hce:=Y5 hcal ha ht
    rw [hce] at hop
    split at ho
    ·simp only [OM] at ho;obtain ⟨x',hx,rfl⟩:=ho;simp [cls] at hc
    ·simp only [OM] at ho;obtain ⟨x',hx,rfl⟩:=ho;simp [cls] at hc
    ·simp only [OI] at ho;subst ho;simp [cls] at hc
    ·rename_i hu;simp only [OM] at ho;obtain ⟨x',hx,rfl⟩:=ho;exact A3t hs hu hf hop hx hv
    ·cases ho
   ·simp only [OM,OB] at ho;obtain ⟨x',hx,r',hr,rfl⟩:=ho;simp [cls] at hc
   ·simp only [OM,OB] at ho;obtain ⟨x',hx,r',hr,rfl⟩:=ho;simp [cls] at hc
   ·split at ho<;>try (cases ho;done)
    all_goals (simp only [OM,OB] at ho;obtain ⟨_,_,_,_,_,_,_,_,rfl⟩:=ho;simp [cls] at hc)
   ·simp only [OM,OB] at ho;obtain ⟨_,_,_,_,_,_,rfl⟩:=ho;simp [cls] at hc
   ·simp only [OB] at ho;obtain ⟨_,_,_,_,ho⟩:=ho
    split at ho
    ·cases ho
    ·simp only [OM] at ho;obtain ⟨_,_,rfl⟩:=ho;simp [cls] at hc
   ·split at ho
    ·simp only [OM,OB] at ho;obtain ⟨_,_,_,_,_,_,rfl⟩:=ho;simp [cls] at hc
    ·cases ho
   ·cases ho
 | _ =>
  exfalso
  rw [hop] at ho
  simp only [cO] at ho
  first | (cases ho;done) | skip
  all_goals
   (repeat' split at ho)<;>first | (cases ho;done) | skip
  all_goals
   cases q<;>first | (simp [cls] at hc;done) | skip
  all_goals first | contradiction | (simp [OB,OM] at ho;done) | skip
end
end Go.L
