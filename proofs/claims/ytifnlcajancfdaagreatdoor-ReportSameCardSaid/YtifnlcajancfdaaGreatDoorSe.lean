/- THE LOGICAL MACHINE AND THE MODEL: 'delete', 'copy', 'clear', 'append'. -/
import Derived.Test.YtifnlcajancfdaaGreatDoorSd
import Derived.OwnWalkIn
set_option linter.unusedVariables false
set_option linter.unusedSimpArgs false
namespace Go.L
open Go
variable {P:Program} {ι : Inj} {h:Aa} {w:World}
section
variable {sz:Nat} {f:FF} {a:Act} {o:Oper} {q:O} {v:Value} {h':Aa} {ws:List Nat}
theorem A1g {α : Type} {xs:Array α} {x y:α} (h:xs.toList=[x,y]):xs = #[x,y]:=by
 cases xs;simp at h;subst h;rfl
theorem Akc {α : Type} {xs:Array α} {x:α} {r:List α} (h:xs.toList=x :: r):xs[0]? = some x:=by
 cases xs;simp at h;subst h;rfl
theorem A51 {t kt e:TypeId} {m k:Operand} {ts:Array TypeId} {qk:EqK} (hs:Sim P ι h w) (hts:ts[0]? = some t) (hu:P.underlying t=some (.map kt e)) (hq:Adj P kt=some qk) (hf:FFR ι sz f a.tmps)
  (ho:o.op = .call { callee:=.builtin .delete,args:=#[m,k],argTypes:=ts }) {m' k':X} (hm:cX m=some m') (hk:cX k=some k') (hv:O0 f h (.del qk m' k')=some (v,h',ws)):Agv P ι h a o v h' w:=by
 have rm:=Au hf hm
 have rk:=Au hf hk
 simp only [O0] at hv
 split at hv
 ·rename_i rb e1
  rw [e1] at rm
  obtain ⟨mi,hmi,hrm⟩:=rm.map_inv
  split at hv
  ·rename_i es hb
   split at hv
   ·rename_i hkey
    simp only [OM,Prod.mk.injEq] at hv
    obtain ⟨es2,hput,rfl,rfl,rfl⟩:=hv
    have ek:=Abw hkey rk
    obtain ⟨m2,hm2,hobj⟩:=hs.obj _ _ hb (by simp)
    rw [hmi] at hm2;cases hm2
    cases hobj with
    | map hw he =>
     rename_i es' clock
     have hget:(getObj mi.rb).run P w = .ok (.map es' clock) w:=by simp [getObj,Sem.run,hw]
     have hck:=Qf hq hkey es'.isEmpty w
     have hf2:∃ r,find qk (ev f k') es=some r:=by
      have:∀ (l:List (Value × Value)) l2,Zq qk (ev f k') l=some l2→∃ r,find qk (ev f k') l=some r:=by
       intro l
       induction l with
       | nil => intro l2 _;exact ⟨none,rfl⟩
       | cons p l ih =>
        intro l2 hp
        simp only [Zq,OB] at hp
        obtain ⟨b,hb,hp⟩:=hp
        cases b with
        | true => exact ⟨some p.2,by simp [find,hb]⟩
        | false =>
         simp only [Bool.false_eq_true,if_false,OM] at hp
         obtain ⟨l3,h3,_⟩:=hp
         obtain ⟨r,hr⟩:=ih l3 h3
         exact ⟨r,by simp [find,hb,hr]⟩
      exact this es es2 hput
     obtain ⟨r,hr⟩:=hf2
     have fin:∀ (es3:Array MapEntry),All2 (fun e (e':MapEntry) => e.1=e'.key∧VR ι e.2 e'.val) es2 es3.toList →
       (∀ w',(setObj mi.rb (.map es3 clock)).run P w = .ok () w'→(Builtin.delete_ ts o.type #[a.eval m,a.eval k]).run P w = .ok (.tuple #[]) w')→Agv P ι h a o (.tuple #[]) (h.set rb (.map es2)) w:=by
      intro es3 h3 hrun
      obtain ⟨w',s1,s2⟩:=Xb hs hb hmi (es2:=es2) (es2':=es3) (clock:=clock) h3
      refine ⟨ι,w',.value (.tuple #[]),?_,s2,Old.refl _ _,.inr ⟨_,rfl,.tuple .nil⟩⟩
      have:=hrun w' s1
      simp only [execOp,ho,resolve,Sem.run_bind,Result.andThen,Sem.run_pure,invoke,Go.builtin]
      simp [Sem.run_bind,Result.andThen,this]
     rcases Oc hq hkey he hr w with ⟨rfl,h1,_,h2⟩ | ⟨v0,j,v',rfl,h1,h2,h3,_,h4,e0,h5,h6⟩
     ·rw [h2] at hput
      simp only [OI] at hput;subst hput
      refine fin es' he fun w' s1 => ?_
      simp [Builtin.delete_,hts,Sem.run_bind,run_underlying hu,Result.andThen_ok,hrm,ek,hget,hck,h1,s1]
     ·rw [h4] at hput
      simp only [OI] at hput;subst hput
      refine fin (es'.eraseIdxIfInBounds j) (by simpa using he.eraseIdx j) fun w' s1 => ?_
      simp [Builtin.delete_,hts,Sem.run_bind,run_underlying hu,Result.andThen_ok,hrm,ek,hget,hck,h1,s1]
   ·cases hv
  ·cases hv
 ·cases hv
theorem Adx {b off n c:Nat} {sp:Option Nat} {r:Value} (hr:VR ι (.slice (some ⟨b,off,sp⟩) n c) r):∃ ad c',r = .slice (some ad) n c'∧(n=0∨∃ m,ι b=some m∧ad=⟨m.rb,m.off+off,none⟩):=by
 cases hr with
 | slice off n c hm => exact ⟨_,_,rfl,.inr ⟨_,hm,rfl⟩⟩
 | slice0 off a' h0 => exact ⟨_,_,rfl,.inl rfl⟩
 | loose off s n c hm hn hc => exact ⟨_,_,rfl,.inr ⟨_,hm,rfl⟩⟩
 | loose0 off s a' h0 => exact ⟨_,_,rfl,.inl rfl⟩
theorem Ahc {α : Type} {l:List α} {b:Nat} {x:α} (hb:l[b]? = some x):l.set b x=l:=by
 apply List.ext_getElem?
 intro i
 by_cases e:b=i
 ·subst e
  rw [List.getElem?_set_self (GI.1 hb).1,hb]
 ·rw [List.getElem?_set_ne e]
theorem A52 {t e size:Nat} {d s:Operand} {ts:Array TypeId} (hs:Sim P ι h w) (hts:ts[0]? = some t) (he:Nm P t=some (e,size)) (hf:FFR ι sz f a.tmps)
  (ho:o.op = .call { callee:=.builtin .copy,args:=#[d,s],argTypes:=ts }) {d' s':X} (hd:cX d=some d') (hss:cX s=some s') (hv:O0 f h (.cpy size d' s')=some (v,h',ws)):Agv P ι h a o v h' w:=by
 have rd:=Au hf hd
 have rs:=Au hf hss
 simp only [O0,Aes] at hv
 unfold Nm at he
 split at he
 ·rename_i e0 hu
  simp only [OM,Prod.mk.injEq] at he
  obtain ⟨s0,hs0,rfl,rfl⟩:=he
  have done:∀ (k:Nat) w' h',(Builtin.copy_ ts o.type #[a.eval d,a.eval s]).run P w = .ok (.int .i64 k) w'→St P ι h w ι h' w'→Agv P ι h a o (.int .i64 (k:Nat)) h' w:=by
   intro k w' h' h1 h2
   refine ⟨ι,w',_,?_,h2,Old.refl _ _,.inr ⟨_,rfl,.int .i64 k⟩⟩
   simp only [execOp,ho,resolve,Sem.run_bind,Result.andThen,Sem.run_pure,invoke,Go.builtin]
   simp [Sem.run_bind,Result.andThen,h1]
  split at hv
  ·rename_i n c0 e1
   rw [e1] at rd
   split at hv
   ·rename_i kn hcl
    split at hv
    ·rename_i h0
     subst h0
     simp only [OI,Prod.mk.injEq] at hv
     obtain ⟨rfl,rfl,rfl⟩:=hv
     have hrd:a.eval d = .slice none 0 c0:=by generalize a.eval d=r at rd;cases rd;rfl
     obtain ⟨k1,k2,_,c',k3,k4⟩:=Gn hs rs hcl w rfl
     have hz:(Builtin.firstCells s0 0 (a.eval s)).run P w = .ok #[] w:=by simpa using k4 0 (Nat.zero_le _)
     refine done 0 w h ?_ (St.refl hs)
     simp [Builtin.copy_,hts,Sem.run_bind,run_underlying hu,Result.andThen_ok,hrd,k1,Dz hs0,hz,goInt,Nat.min_def]
    ·cases hv
   ·cases hv
  ·rename_i ad len c0 e1
   rw [e1] at rd
   split at hv
   ·rename_i n new c hcl hb
    split at hv
    ·rename_i hle
     simp only [OI,Prod.mk.injEq] at hv
     obtain ⟨rfl,rfl,rfl⟩:=hv
     obtain ⟨k1,k2,hone,new',k3,k4⟩:=Gn hs rs hcl w rfl
     have hfirst:=k4 (Nat.min n len) (Nat.min_le_left _ _)
     have hml:Nat.min n len≤len:=Nat.min_le_right _ _
     have hmn:Nat.min n len≤n:=Nat.min_le_left _ _
     obtain ⟨ad',c1,hrd,himg⟩:=Adx rd
     have hlenk:(new.take (Nat.min n len * s0)).length=Nat.min n len * s0:=by
      have:=Nat.mul_le_mul_right s0 hmn
      simp [k2];try exact this
     have fin:∀ w',(storeCells ad' (new'.take (Nat.min n len * s0))).run P w = .ok () w'→(Builtin.copy_ ts o.type #[a.eval d,a.eval s]).run P w = .ok (.int .i64 (Nat.min n len:Nat)) w':=by
      intro w' hst
      simp [Builtin.copy_,hts,Sem.run_bind,run_underlying hu,Result.andThen_ok,hrd,k1,Dz hs0,hfirst,hst,goInt]
     rcases himg with rfl | ⟨m,hm,rfl⟩
     ·have h0:Nat.min n 0=0:=Nat.min_eq_right (Nat.zero_le _)
      rw [h0] at fin ⊢
      refine done 0 w _ (fin w (by simp [storeCells])) ?_
      simp only [Nat.zero_mul,List.take_zero,setCells]
      rw [Ahc hb]
      exact St.refl hs
     ·have hle2:ad.off+(new.take (Nat.min n len * s0)).length≤c.length:=by
       rw [hlenk]
       have:=Nat.mul_le_mul_right s0 hml
       omega
      obtain ⟨w',s1,s2⟩:=N9 hs hb hm hle2 (k3.take (Nat.min n len * s0)) (by
       rw [List.all_eq_true] at hone ⊢
       exact fun v hv => hone v (List.mem_of_mem_take hv))
      exact done _ w' _ (fin w' s1) s2
    ·cases hv
   ·cases hv
  ·cases hv
 ·cases he
theorem A53 {t e size:Nat} {x:Operand} {z:List Value} (hs:Sim P ι h w) (he:Nm P t=some (e,size)) (hz:Ij P e size=some z) (hz0:z≠[]) (hf:FFR ι sz f a.tmps)
  (ho:o.op = .call { callee:=.builtin .clear,args:=#[x],argTypes:=#[t] }) {x':X} (hx:cX x=some x') (hv:O0 f h (.clr z x')=some (v,h',ws)):Agv P ι h a o v h' w:=by
 have rx:=Au hf hx
 simp only [O0,Sw] at hv
 unfold Nm at he
 split at he
 ·rename_i e0 hu
  simp only [OM,Prod.mk.injEq] at he
  obtain ⟨s0,hs0,rfl,rfl⟩:=he
  obtain ⟨hzl,hzn,zv,hzr,hzc,_⟩:=Kj hz
  split at hv
  ·rename_i ad n c0 e1
   rw [e1] at rx
   split at hv
   ·rename_i c hb
    split at hv
    ·rename_i hle
     simp only [OI,Prod.mk.injEq] at hv
     obtain ⟨rfl,rfl,rfl⟩:=hv
     have done:∀ w' h',(Builtin.clear_ #[t] o.type #[a.eval x]).run P w = .ok (.tuple #[]) w'→St P ι h w ι h' w'→Agv P ι h a o (.tuple #[]) h' w:=by
      intro w' h' h1 h2
      refine ⟨ι,w',_,?_,h2,Old.refl _ _,.inr ⟨_,rfl,.tuple .nil⟩⟩
      simp only [execOp,ho,resolve,Sem.run_bind,Result.andThen,Sem.run_pure,invoke,Go.builtin]
      simp [Sem.run_bind,Result.andThen,h1]
     obtain ⟨ad',c1,hrx,himg⟩:=Adx rx
     by_cases hn:n=0
     ·subst hn
      refine done w _ ?_ ?_
      ·simp [Builtin.clear_,Sem.run_bind,run_underlying hu,Result.andThen_ok,hrx]
      ·simp only [List.replicate_zero,List.flatten_nil,setCells]
       rw [Ahc hb]
       exact St.refl hs
     ·rcases himg with h0 | ⟨m,hm,rfl⟩
      ·exact absurd h0 hn
      ·have hzz:VRs ι (List.replicate n z).flatten (List.replicate n z).flatten:=(All2.replicate n (VRs.self (ι:=ι) hzn)).flatten
       have hl:(List.replicate n z).flatten.length=n * z.length:=by simp
       obtain ⟨w',s1,s2⟩:=N9 hs hb hm (by rw [hl];exact hle.1) hzz (by
        have:=hle.2
        rw [List.all_eq_true] at this ⊢
        intro v hv
        simp only [List.mem_flatten,List.mem_replicate] at hv
        obtain ⟨l,⟨_,rfl⟩,hv⟩:=hv
        exact this v hv)
       refine done w' _ ?_ s2
       have hmade:(Builtin.zeroCells zv.cells n).toList=(List.replicate n z).flatten:=by
        have:=X3 z n
        simp only [Builtin.zeroCells,hzc,List.size_toArray,this]
       simp only [Builtin.clear_]
       simp [Sem.run_bind,run_underlying hu,Result.andThen_ok,hrx]
       cases n with
       | zero => exact absurd rfl hn
       | succ n => simp [Sem.run_bind,hzr,Result.andThen_ok,hmade,s1]
    ·cases hv
   ·cases hv
  ·cases hv
 ·cases he
def My (P:Program) (u:TypeId):Prop:=∃ d,P.underlying u=some d∧((∃ e,d = .slice e)∨d = .string)
theorem Mj {t u e ty:TypeId} {i:TypeInfo} (ht:P.underlying t=some (.slice e)) (hu:My P u) (hi:P.info? e=some i) {x:Value} {base:Option Addr} {sLen sCap n:Nat} {news:Array Value}
  (hl:(Builtin.lenOf x).run P w = .ok n w) (hx:(Builtin.firstCells i.size n x).run P w = .ok news w) (hroom:sLen+n≤sCap) {w':World}
  (hst:(match base with | some ad => storeCells (ad.add (sLen * i.size)) news.toList | none => pure ()).run P w = .ok () w') :
  (Builtin.append_ #[t,u] ty #[.slice base sLen sCap,x]).run P w = .ok (.slice base (sLen+n) sCap) w':=by
 obtain ⟨d,hu,hd⟩:=hu
 have hsz:(sizeOf e).run P w = .ok i.size w:=by simp [sizeOf,Sem.run_bind,run_typeInfo w hi,Result.andThen]
 rcases hd with ⟨e',rfl⟩ | rfl
 ·cases base with
  | none => simp at hst;subst hst;simp [Builtin.append_,run_underlying ht,run_underlying hu,hsz,Result.andThen_ok,Sem.run_bind,hl,hx,hroom]
  | some ad => simp at hst;simp [Builtin.append_,run_underlying ht,run_underlying hu,hsz,Result.andThen_ok,Sem.run_bind,hl,hx,hroom,hst]
 ·cases base with
  | none => simp at hst;subst hst;simp [Builtin.append_,run_underlying ht,run_underlying hu,hsz,Result.andThen_ok,Sem.run_bind,hl,hx,hroom]
  | some ad => simp at hst;simp [Builtin.append_,run_underlying ht,run_underlying hu,hsz,Result.andThen_ok,Sem.run_bind,hl,hx,hroom,hst]
theorem V2 {t u e ty:TypeId} {i:TypeInfo} {z:Value} (ht:P.underlying t=some (.slice e)) (hu:My P u) (hi:P.info? e=some i) (hz:i.zero=some z) {x:Value} {base:Option Addr} {sLen sCap n:Nat} {olds news:Array Value}
  (hl:(Builtin.lenOf x).run P w = .ok n w) (hx:(Builtin.firstCells i.size n x).run P w.drew = .ok news w.drew) (ho:(Builtin.firstCells i.size sLen (.slice base sLen sCap)).run P w.drew = .ok olds w.drew)
  (hg:sCap<sLen+n) (h63:((sLen+n:Nat):Int)≤9223372036854775807) (hb:(sLen+n) * i.bytes≤140737488355328) (hpos:i.bytes≠0) :
  (Builtin.append_ #[t,u] ty #[.slice base sLen sCap,x]).run P w =
   .ok (.slice (some ⟨w.heap.size,0,none⟩) (sLen+n) (grownCap w (sLen+n) sCap e)) (w.drew.alloc (.cells (olds++news++Builtin.zeroCells z.cells (grownCap w (sLen+n) sCap e - (sLen+n))) e)):=by
 obtain ⟨d,hu,hd⟩:=hu
 have hfit:=growslice_fits hg hb
 have hsz:(sizeOf e).run P w = .ok i.size w:=by simp [sizeOf,Sem.run_bind,run_typeInfo w hi,Result.andThen]
 have h1:¬ (sLen+n≤sCap):=by omega
 have h2:¬ (((sLen+n:Nat):Int) > IntKind.i64.max):=by
  have:IntKind.i64.max=9223372036854775807:=by decide
  rw [this];omega
 have h3:¬ (Builtin.nextslicecap (sLen+n) sCap * i.bytes > 2 ^ 48):=by omega
 have h4:(Question.appendCap (sLen+n) sCap e).forced=false:=rfl
 have hti:∀ w:World,(typeInfo e).run P w = .ok i w:=fun w => run_typeInfo w hi
 have hzv:∀ w:World,(zeroValue e).run P w = .ok z w:=fun w => by simp [zeroValue,Sem.run_bind,run_typeInfo w hi,Result.andThen,hz]
 rcases hd with ⟨e',rfl⟩ | rfl
 ·simp only [Builtin.append_,List.getElem?_toArray,List.getElem?_cons_zero,List.getElem?_cons_succ,Sem.run_bind,run_underlying ht,run_underlying hu,Result.andThen_ok,hsz,Sem.run_pure,Bool.false_eq_true,if_false,hl,h1,hti,h2,hpos,false_and,h3,run_choose_drew,h4,run_askRoom,ho,hx,hzv,newRow,run_newObj_alloc,grownCap]
  simp [hl,h1,hti,h2,hpos,h3,ho,hx,hzv,h4,Sem.run_bind,Result.andThen_ok]
 ·simp only [Builtin.append_,List.getElem?_toArray,List.getElem?_cons_zero,List.getElem?_cons_succ,Sem.run_bind,run_underlying ht,run_underlying hu,Result.andThen_ok,hsz,Sem.run_pure,Bool.false_eq_true,if_false,hl,h1,hti,h2,hpos,false_and,h3,run_choose_drew,h4,run_askRoom,ho,hx,hzv,newRow,run_newObj_alloc,grownCap]
  simp [hl,h1,hti,h2,hpos,h3,ho,hx,hzv,h4,Sem.run_bind,Result.andThen_ok]
end
end Go.L
namespace Go.L
open Go
variable {P:Program} {ι : Inj} {h:Aa} {w:World}
theorem Sim.same {w':World} (hs:Sim P ι h w) (hq:Quiet w w'):Sim P ι h w':=(St.same hs hq.heap hq.os hq.tape hq.output).sim
theorem St.quiet {w':World} (hs:Sim P ι h w) (hq:Quiet w w'):St P ι h w ι h w':=St.same hs hq.heap hq.os hq.tape hq.output
theorem R5 {b:Option Addr} {n c:Nat} {r:Value} (hr:VR ι (.slice b n c) r):∃ b' c',r = .slice b' n c'∧(n≤c→n≤c')∧(c'=c∨∃ a s,b=some a∧a.spot=some s):=by
 cases hr with
 | nils n c => exact ⟨_,_,rfl,id,.inl rfl⟩
 | slice off n c hm => exact ⟨_,_,rfl,id,.inl rfl⟩
 | slice0 off a' h0 => exact ⟨_,_,rfl,id,.inl rfl⟩
 | loose off s n c hm hn hc => exact ⟨_,_,rfl,fun _ => hn.1,.inr ⟨_,_,rfl,rfl⟩⟩
 | loose0 off s a' h0 => exact ⟨_,_,rfl,id,.inl rfl⟩
section
variable {sz:Nat} {f:FF} {a:Act} {o:Oper} {q:O} {v:Value} {h':Aa} {ws:List Nat}
theorem Acv {t u e ty size:Nat} {z:List Value} (hs:Sim P ι h w) (hut:P.underlying t=some (.slice e)) (hse:szO P e=some size) (hz:Ij P e size=some z) (hu:My P u) {s s' x x':Value} (rs:VR ι s s') (rx:VR ι x x')
  {n len:Nat} {new old:List Value} (hcx:cellsOf size x h=some (n,new)) (hcs:cellsOf size s h=some (len,old)) (hb:(len+n) * P.bytesOf e≤140737488355328) (hlt:len+n<4611686018427387904) (hp:P.bytesOf e≠0)
  {base:Option Addr} {sCap:Nat} (hs':s' = .slice base len sCap) (hg:sCap<len+n) :
  ∃ ι' w' v',(Builtin.append_ #[t,u] ty #[s',x']).run P w = .ok v' w'∧St P ι h w ι' (h++[.cells (old++new) false]) w'∧Old ι h ι'∧VR ι' (.slice (some ⟨h.length,0,some size⟩) (len+n) (len+n)) v':=by
 obtain ⟨hzl,hzn,zv,hzr,hzc,i,hi,hiz⟩:=Kj hz
 obtain ⟨i',hi',hisz⟩:=Mz hse
 rw [hi] at hi';cases hi'
 have hby:P.bytesOf e=i.bytes:=by simp [Program.bytesOf,hi]
 rw [hby] at hb hp
 obtain ⟨l1,_,_⟩:=Xn hs rx hcx w rfl
 obtain ⟨_,nlen,none1,new',x1,x2⟩:=Gn hs rx hcx w.drew rfl
 obtain ⟨_,olen,oone,old',o1,o2⟩:=Gn hs rs hcs w.drew rfl
 have nl:new'.length=n * size:=by rw [← x1.length,nlen]
 have ol:old'.length=len * size:=by rw [← o1.length,olen]
 have xx:=x2 n (Nat.le_refl _)
 rw [List.take_of_length_le (by omega)] at xx
 have oo:=o2 len (Nat.le_refl _)
 rw [List.take_of_length_le (by omega)] at oo
 subst hs'
 rw [← hisz] at xx oo
 have hrun:=V2 (ty:=ty) hut hu hi hiz l1 xx oo hg (by omega) hb hp
 have hge:=grownCap_ge w (len+n) sCap e
 have hmx:grownCap w (len+n) sCap e≤9223372036854775807:=by have:=grownCap_le_maxLen w (len+n) sCap e (by unfold maxLen;omega);unfold maxLen at this;omega
 let rest:=(Builtin.zeroCells zv.cells (grownCap w (len+n) sCap e - (len+n))).toList
 have hrl:rest.length=(grownCap w (len+n) sCap e - (len+n)) * size:=by simp [rest,Builtin.zeroCells,hzc,hzl]
 have harr:old'.toArray++new'.toArray++Builtin.zeroCells zv.cells (grownCap w (len+n) sCap e - (len+n))=((old'++new')++rest).toArray:=by
  apply Array.ext';simp [rest]
 rw [harr] at hrun
 have hone:(old++new).all Ah=true:=by simp only [List.all_append,oone,none1,Bool.and_self]
 have hsize:(old'++new').length+rest.length=grownCap w (len+n) sCap e * size:=by
  rw [LA,nl,ol,hrl,← Nat.add_mul,← Nat.add_mul]
  congr 1;omega
 have st1:=St.quiet hs (Quiet.drew w)
 have hobj:=Aim (P:=P) (ι':=ι.put h.length ⟨w.heap.size,0,(old'++new').length+rest.length⟩) (wd:=w.drew) (rest:=rest) (VRs.mono (Inj.put_sub (hs.dom _ (Nat.le_refl _)) _) (o1.append x1)) hone e
 have st2:=St.push (P:=P) (m:=⟨w.heap.size,0,(old'++new').length+rest.length⟩) (o:=.cells (old++new) false) st1.sim rfl (fun _ => hobj)
 exact ⟨_,_,_,hrun,st1.trans st2,Old.put _ _ _,VR.loose (m:=⟨w.heap.size,0,(old'++new').length+rest.length⟩) 0 size (len+n) _ (Inj.put_same _ _ _) ⟨hge,hmx⟩ (by simp only [Nat.zero_add];omega)⟩
theorem Asz {t u e ty size:Nat} {z:List Value} (hs:Sim P ι h w) (hut:P.underlying t=some (.slice e)) (hse:szO P e=some size) (hz:Ij P e size=some z) (hu:My P u) {s s' x x':Value} (rs:VR ι s s') (rx:VR ι x x')
  (hv:Cn size (P.bytesOf e) s x h=some (v,h',ws)):∃ ι' w' v',(Builtin.append_ #[t,u] ty #[s',x']).run P w = .ok v' w'∧St P ι h w ι' h' w'∧Old ι h ι'∧VR ι' v v':=by
 obtain ⟨i,hi,hisz⟩:=Mz hse
 unfold Cn at hv
 split at hv
 ·rename_i n new len old hcx hcs
  obtain ⟨l1,nlen,none1,new',x1,x2⟩:=Gn hs rx hcx w rfl
  have nl:new'.length=n * size:=by rw [← x1.length,nlen]
  have xx:=x2 n (Nat.le_refl _)
  rw [List.take_of_length_le (by omega)] at xx
  rw [← hisz] at xx
  split at hv
  ·rename_i h0
   subst h0
   split at hv
   ·rename_i hfit
    simp only [OI,Prod.mk.injEq] at hv
    obtain ⟨rfl,rfl,rfl⟩:=hv
    obtain ⟨ls,_,_⟩:=Xn hs rs hcs w rfl
    cases s<;>first | (simp [Aw5] at hfit;done) | skip
    rename_i b n0 c0
    obtain ⟨b',c',rfl,hle,_⟩:=R5 rs
    simp [Builtin.lenOf] at ls;subst ls
    have hroom:n0+0≤c':=hle (by simpa [Aw5] using hfit)
    have hnew:new'=[]:=List.eq_nil_of_length_eq_zero (by omega)
    have:=Mj (ty:=ty) hut hu hi l1 xx hroom (base:=b') (w':=w) (by subst hnew;cases b'<;>simp [storeCells])
    exact ⟨ι,w,_,this,St.refl hs,Old.refl _ _,rs⟩
   ·cases hv
  ·rename_i hn0
   split at hv
   ·rename_i hb
    obtain ⟨hb1,hb2,hb3,hb4⟩:=hb
    obtain ⟨ls,olen,oone,old',o1,o2⟩:=Gn hs rs hcs w rfl
    split at hv
    ·rename_i n0 cap
     split at hv
     ·rename_i hc0
      simp only [OI,Prod.mk.injEq] at hv
      obtain ⟨rfl,rfl,rfl⟩:=hv
      obtain ⟨b',c',rfl,_,hcc⟩:=R5 rs
      simp [Builtin.lenOf] at ls;subst ls
      have hc':c'=0:=by rcases hcc with h | ⟨_,_,h,_⟩;omega;cases h
      exact Acv hs hut hse hz hu rs rx hcx hcs hb1 hb2 hb4 rfl (by omega)
     ·cases hv
    ·rename_i ad n0 cap
     obtain ⟨b',c',rfl,_,hcc⟩:=R5 rs
     simp [Builtin.lenOf] at ls;subst ls
     split at hv
     ·rename_i hsp
      have hc':c'=cap:=by
       rcases hcc with h | ⟨a2,s2,h,h2⟩
       ·exact h
       ·cases h;rw [hsp] at h2;cases h2
      subst hc'
      split at hv
      ·rename_i hroom
       split at hv
       ·rename_i c hbk
        split at hv
        ·rename_i hle
         simp only [OI,Prod.mk.injEq] at hv
         obtain ⟨rfl,rfl,rfl⟩:=hv
         have key:∀ m:Img,ι ad.block=some m→b'=some ⟨m.rb,m.off+ad.off,none⟩→ad=⟨ad.block,ad.off,none⟩ →
           ∃ ι' w' v',(Builtin.append_ #[t,u] ty #[.slice b' n0 c',x']).run P w = .ok v' w'∧St P ι h w ι' (h.set ad.block (.cells (setCells c (ad.off+n0 * size) new) false)) w'∧Old ι h ι'∧VR ι' (.slice (some ad) (n0+n) c') v':=by
          intro m hm hb' had
          subst hb'
          obtain ⟨w',s1,s2⟩:=N9 hs hbk hm (off:=ad.off+n0 * size) (by rw [nlen,Nat.add_assoc,← Nat.add_mul];exact hle) x1 none1
          have:=Mj (ty:=ty) hut hu hi l1 xx hroom (base:=some ⟨m.rb,m.off+ad.off,none⟩) (w':=w') (by
           show (storeCells ((⟨m.rb,m.off+ad.off,none⟩:Addr).add (n0 * i.size)) new').run P w=_
           rw [W8 _ rfl,hisz]
           simpa [Nat.add_assoc] using s1)
          refine ⟨ι,w',_,this,s2,Old.refl _ _,?_⟩
          rw [had]
          exact .slice ad.off _ _ hm
         cases rs with
         | slice off n c hm => exact key _ hm rfl rfl
         | slice0 off a' h0 => omega
         | loose off s n c hm hn hc => cases hsp
         | loose0 off s a' h0 => cases hsp
        ·cases hv
       ·cases hv
      ·simp only [OI,Prod.mk.injEq] at hv
       obtain ⟨rfl,rfl,rfl⟩:=hv
       exact Acv hs hut hse hz hu rs rx hcx hcs hb1 hb2 hb4 rfl (by omega)
     ·rename_i z0 hsp
      split at hv
      ·rename_i c hbk
       split at hv
       ·rename_i hzz
        simp only [OI,Prod.mk.injEq] at hv
        obtain ⟨rfl,rfl,rfl⟩:=hv
        have hbl:ad.block<h.length:=(GI.1 hbk).1
        have grows:c'<n0+n→∃ ι' w' v',(Builtin.append_ #[t,u] ty #[.slice b' n0 c',x']).run P w = .ok v' w'∧St P ι h w ι' (h.set ad.block .dead++[.cells (old++new) false]) w'∧Old ι h ι'∧VR ι' (.slice (some ⟨h.length,0,some size⟩) (n0+n) (n0+n)) v':=by
         intro hg
         obtain ⟨ι',w',v',r1,r2,ro,r3⟩:=Acv (ty:=ty) hs hut hse hz hu rs rx hcx hcs hb1 hb2 hb4 rfl hg
         have:=r2.trans (St.kill r2.sim ad.block)
         rw [List.set_append_left _ _ hbl] at this
         exact ⟨ι',w',v',r1,this,ro,r3⟩
        by_cases hg:c'<n0+n
        ·exact grows hg
        ·have hroom:n0+n≤c':=by omega
         have hzz2:=hzz.symm;subst hzz2
         cases rs with
         | slice off n c hm => cases hsp
         | slice0 off a' h0 => cases hsp
         | loose0 off s a' h0 => omega
         | @loose b m off s n1 c1 hm hn hc =>
          cases hsp
          obtain ⟨m',hm',hr⟩:=hs.obj _ _ hbk (by simp)
          rw [hm] at hm';cases hm'
          cases hr with
          | cells hw hsz hl hcell hf ho =>
           rename_i arr tt fz
           have hmul:n0 * size+n * size≤c' * size:=by rw [← Nat.add_mul];exact Nat.mul_le_mul_right _ hroom
           have hnl:n0 * size+new'.length≤c' * size:=by rw [nl];exact hmul
           have st0:=Ug (P:=P) hw (o:=m.off+off+n0 * size) (vs:=new') (by omega) (fun i h1 h2 => hf rfl i (by omega) (by omega)) (Aid x1 none1)
           obtain ⟨k1,k2,k3,k4,k5,k6⟩:=R6 new' hw (m.off+off+n0 * size)
           have:=Mj (ty:=ty) hut hu hi l1 xx hroom (base:=some ⟨m.rb,m.off+off,none⟩) (w':=w.setCells m.rb (m.off+off+n0 * size) new') (by
            show (storeCells ((⟨m.rb,m.off+off,none⟩:Addr).add (n0 * i.size)) new').run P w=_
            rw [W8 _ rfl,hisz]
            simpa [Nat.add_assoc] using st0)
           have hcs':(List.drop off c).take (n0 * size)=old∧off+n0 * size≤c.length:=by
            unfold cellsOf at hcs
            simp only [hbk] at hcs
            split at hcs
            ·rename_i hle
             simp only [OI,Prod.mk.injEq] at hcs
             exact ⟨hcs.2,hle⟩
            ·cases hcs
           have hol:old.length=n0 * size:=olen
           have hobj:ObjR P (ι.put h.length ⟨m.rb,m.off+off,m.size⟩) (w.setCells m.rb (m.off+off+n0 * size) new') ⟨m.rb,m.off+off,m.size⟩ (.cells (old++new) false):=by
            refine .cells k1 (by simp [Lr,hsz]) (by simp only [LA,hol,nlen];omega) ?_ (fun h0 i h1 h2 => hf h0 i (by simp only at h1;omega) h2) (by simp only [List.all_append,oone,none1,Bool.and_self])
            intro i v hv
            have hlt:i<n0 * size+new'.length:=by
             have:=(GI.1 hv).1
             simp only [LA,hol,nlen] at this;omega
            simp only [List.getElem?_toArray,Qb]
            by_cases hio:i<n0 * size
            ·rw [GL (by omega)] at hv
             rw [← hcs'.1,List.getElem?_take_of_lt hio,List.getElem?_drop] at hv
             obtain ⟨r,hr,hvr⟩:=hcell _ _ hv
             refine ⟨r,?_,hvr.mono (Inj.put_sub (hs.dom _ (Nat.le_refl _)) _)⟩
             rw [if_neg (by omega)]
             simpa [Nat.add_assoc] using hr
            ·rw [List.getElem?_append_right (by omega),hol] at hv
             obtain ⟨r,hr,hvr⟩:=x1.at_ hv
             refine ⟨r,?_,hvr.mono (Inj.put_sub (hs.dom _ (Nat.le_refl _)) _)⟩
             rw [if_pos (by simp;omega)]
             rw [← hr];congr 1;omega
           have st:=St.moved (m':=⟨m.rb,m.off+off,m.size⟩) hs hbk rfl hm rfl k2 k3 k4 k5 k6 hobj rfl
           exact ⟨_,_,_,this,st,Old.put _ _ _,VR.loose (m:=⟨m.rb,m.off+off,m.size⟩) 0 size (n0+n) c' (Inj.put_same _ _ _) ⟨hroom,hn.2⟩ (by simpa using hc)⟩
       ·cases hv
      ·cases hv
    ·cases hv
   ·cases hv
 ·cases hv
theorem A2l {t u e size:Nat} {s x:Operand} {z:List Value} (hs:Sim P ι h w) (he:Nm P t=some (e,size)) (hz:Ij P e size=some z) (hu:My P u) (hf:FFR ι sz f a.tmps)
  (ho:o.op = .call { callee:=.builtin .append,args:=#[s,x],argTypes:=#[t,u] }) {s' x':X} (hss:cX s=some s') (hx:cX x=some x') (hv:O0 f h (.app size (P.bytesOf e) s' x')=some (v,h',ws)):Agv P ι h a o v h' w:=by
 unfold Nm at he
 split at he
 ·rename_i e0 hut
  simp only [OM,Prod.mk.injEq] at he
  obtain ⟨s0,hs0,rfl,rfl⟩:=he
  obtain ⟨ι',w',v',h1,h2,ho2,h3⟩:=Asz (ty:=o.type) hs hut hs0 hz hu (Au hf hss) (Au hf hx) hv
  refine ⟨ι',w',_,?_,h2,ho2,.inr ⟨_,rfl,h3⟩⟩
  simp only [execOp,ho,resolve,Sem.run_bind,Result.andThen,Sem.run_pure,invoke,Go.builtin]
  simp [Sem.run_bind,Result.andThen,h1]
 ·cases he
theorem A4a (hs:Sim P ι h w) (hf:FFR ι sz f a.tmps) (ho:cO P o.op=some q) (hc:cls q = .E) (hv:O0 f h q=some (v,h',ws)):Agv P ι h a o v h' w:=by
 cases hop:o.op with
 | mapUpdate t m k x =>
  rw [hop] at ho;simp only [cO] at ho
  split at ho
  ·rename_i kt e hu
   simp only [OM,OB] at ho;obtain ⟨qk,hq,m',hm,k',hk,x',hx,rfl⟩:=ho;exact A50 hs hu hq hf hop hm hk hx hv
  ·cases ho
 | call c =>
  rw [hop] at ho;simp only [cO] at ho
  split at ho
  ·simp only [OM,OB] at ho;obtain ⟨_,_,_,_,rfl⟩:=ho;simp [cls] at hc
  ·cases ho
  ·rename_i b hcal
   have hce:=Td hcal
   split at ho
   ·split at ho
    ·simp only [OM] at ho;obtain ⟨x',hx,rfl⟩:=ho;simp [cls] at hc
    ·simp only [OM] at ho;obtain ⟨x',hx,rfl⟩:=ho;simp [cls] at hc
    ·simp only [OI] at ho;subst ho;simp [cls] at hc
    ·simp only [OM] at ho;obtain ⟨x',hx,rfl⟩:=ho;simp [cls] at hc
    ·cases ho
   ·simp only [OM,OB] at ho;obtain ⟨x',hx,r',hr,rfl⟩:=ho;simp [cls] at hc
   ·simp only [OM,OB] at ho;obtain ⟨x',hx,r',hr,rfl⟩:=ho;simp [cls] at hc
   ·rename_i s x t u ha ht
    rw [hce,A1g ha,A1g ht] at hop
    split at ho
    ·rename_i hu
     simp only [OM,OB] at ho;obtain ⟨⟨e,n⟩,he,z,hz,s',hss,x',hx,rfl⟩:=ho
     exact A2l hs he hz ⟨_,hu,.inl ⟨_,rfl⟩⟩ hf hop hss hx hv
    ·rename_i hu
     simp only [OM,OB] at ho;obtain ⟨⟨e,n⟩,he,z,hz,s',hss,x',hx,rfl⟩:=ho
     exact A2l hs he hz ⟨_,hu,.inr rfl⟩ hf hop hss hx hv
    ·cases ho
   ·rename_i d s t r ha ht
    rw [hce,A1g ha] at hop
    simp only [OM,OB] at ho;obtain ⟨⟨e,n⟩,he,d',hd,s',hss,rfl⟩:=ho
    exact A52 hs (Akc ht) he hf hop hd hss hv
   ·rename_i x t ha ht
    rw [hce,A1h ha,A1h ht] at hop
    simp only [OB] at ho;obtain ⟨⟨e,n⟩,he,z,hz,ho⟩:=ho
    split at ho
    ·cases ho
    ·rename_i hz0
     simp only [OM] at ho;obtain ⟨x',hx,rfl⟩:=ho
     exact A53 hs he hz hz0 hf hop hx hv
   ·rename_i m k t r ha ht
    rw [hce,A1g ha] at hop
    split at ho
    ·rename_i kt e hu
     simp only [OM,OB] at ho;obtain ⟨qk,hq,m',hm,k',hk,rfl⟩:=ho
     exact A51 hs (Akc ht) hu hq hf hop hm hk hv
    ·cases ho
   ·cases ho
 | _ =>
  exfalso
  rw [hop] at ho
  simp only [cO] at ho
  first | (cases ho;done) | skip
  all_goals
   (repeat' split at ho)<;>first | (cases ho;done) | skip
  all_goals
   cases q<;>first | (simp [cls] at hc;done) | skip
  all_goals first | contradiction | (simp [OB,OM] at ho;done) | skip
end
end Go.L
namespace Go.L
open Go
variable {P:Program} {ι : Inj} {h:Aa} {w:World}
structure Wide (F:Fence):Prop where
 fn:∀ f,F.fn f
 depth:F.depth=none
 alive:F.alive=false
theorem Wide.inRound {F:Fence} (h:Wide F) (l:Nat):Wide (F.inRound l):=⟨h.fn,h.depth,h.alive⟩
def Ret (P:Program) (ι : Inj) (h:Aa) (w:World) (v:Value) (h':Aa) (e:Ending) (w':World):Prop:=∃ ι' v',e = .returned v'∧St P ι h w ι' h' w'∧Old ι h ι'∧VR ι' v v'
def Lc (P:Program) (cf:Be):Prop:=∀ g args h v h' ws,cf g args h=some (v,h',ws)→∀ (F:Fence) (n:Nat),Wide F→∀ (ι : Inj) (w:World) (g':Value) (args':List Value),Sim P ι h w→VR ι g g'→VRs ι args args' →
 ∃ d,(Deferred.ofValue g' args'.toArray).run P w = .ok d w ∧
  (((∃ f as,(invoke d.target d.args).run P w = .ok (.enter f as) w∧CallsIn F n P f as w (Ret P ι h w v h')) ∨
  (∃ l0 a0 b0,g = .func (.yield l0) a0 b0)∧∃ l f tmps assign body,(invoke d.target d.args).run P w = .ok (.round l f tmps assign body) w∧RoundIn F n P l f tmps assign body w (Ret P ι h w v h')) ∨
  (∀ l0 a0 b0,Value.func (.yield l0) a0 b0 ∉ args)∧∃ v' w',(invoke d.target d.args).run P w = .ok (.value v') w'∧Ret P ι h w v h' (.returned v') w')
section
variable {sz:Nat} {f:FF} {a:Act} {o:Oper} {q:O} {v:Value} {h':Aa} {ws:List Nat} {F:Fence} {n:Nat} {cf:Be} {next:Act→World→Prop} {Q:Exit→Act→World→Prop}
theorem A1a {g:X} {args:List X} (ho:cO P o.op=some (.call g args)):∃ c g0,o.op = .call c∧c.callee = .value g0∧cX g0=some g∧cXs c.args.toList=some args:=by
 cases hop:o.op with
 | call c =>
  rw [hop] at ho;simp only [cO] at ho
  split at ho
  ·rename_i g0 hcal
   simp only [OM,OB,O.call.injEq] at ho
   obtain ⟨g',hg,as,has,rfl,rfl⟩:=ho
   exact ⟨c,g0,rfl,hcal,hg,has⟩
  ·cases ho
  ·exfalso
   (repeat' split at ho)<;>first | (cases ho;done) | (simp [OB,OM] at ho;done)
 | _ =>
  exfalso
  rw [hop] at ho
  simp only [cO] at ho
  first | (cases ho;done) | skip
  all_goals
   (repeat' split at ho)<;>first | (cases ho;done) | skip
  all_goals first | contradiction | (simp [OB,OM] at ho;done) | skip
theorem Acn (ho:cO P o.op=some q):∀ c,o.op ≠ .defer c:=by
 intro c e;rw [e] at ho;simp [cO] at ho
theorem A13 (hW:Wide F) (hcf:Lc P cf) (hs:Sim P ι h w) (hf:FFR ι sz f a.tmps) (ho:cO P o.op=some q) (hv:opN cf f h q=some (v,h',ws))
  (hn:∀ ι' w' v',St P ι h w ι' h' w'→Old ι h ι'→VR ι' v v'→next (a.put o.dst v') w'):o.wpIn F n P a w next Q:=by
 refine ⟨fun f _ => hW.fn f,?_⟩
 rw [Oper.semAt_plain F _ _ (Acn ho)]
 unfold opN at hv
 cases hc:cls q with
 | P =>
  rw [hc] at hv
  cases hp:Ax f q with
  | none => rw [hp] at hv;cases hv
  | some v0 =>
   rw [hp] at hv;simp only [OI,Prod.mk.injEq] at hv;obtain ⟨rfl,rfl,rfl⟩:=hv
   obtain ⟨v',h1,h2⟩:=Az1 (ι:=ι) (w:=w) hf ho hc hp
   rw [h1];exact hn ι w v' (St.refl hs) (Old.refl _ _) h2
 | M =>
  rw [hc] at hv
  cases hp:Gz f h q with
  | none => rw [hp] at hv;cases hv
  | some v0 =>
   rw [hp] at hv;simp only [OI,Prod.mk.injEq] at hv;obtain ⟨rfl,rfl,rfl⟩:=hv
   obtain ⟨v',h1,h2⟩:=A3r hs hf ho hc hp
   rw [h1];exact hn ι w v' (St.refl hs) (Old.refl _ _) h2
 | A =>
  rw [hc] at hv
  cases hp:Jq f q with
  | none => rw [hp] at hv;cases hv
  | some nw =>
   rw [hp] at hv;simp only [OI,Prod.mk.injEq] at hv;obtain ⟨rfl,rfl,rfl⟩:=hv
   obtain ⟨wd,O,m,v',h1,h2,h3,h4⟩:=Awc (w:=w) hf ho hc hp
   rw [h2]
   obtain ⟨h5,h6⟩:=h4 h.length (hs.dom _ (Nat.le_refl _))
   have st1:=St.quiet hs h1
   have st2:=St.push (P:=P) st1.sim (o:=nw.1) (O:=O) (m:=m) (by rw [h3,h1.heap]) (fun _ => h5)
   exact hn _ _ v' (st1.trans st2) (Old.put _ _ _) h6
 | S =>
  rw [hc] at hv
  cases q<;>first | (simp [cls] at hc;done) | skip
  simp only at hv
  split at hv
  ·rename_i hr
   simp only [OI,Prod.mk.injEq] at hv;obtain ⟨rfl,rfl,rfl⟩:=hv
   obtain ⟨w',h1,h2⟩:=Atv hs hf ho hr
   rw [h1];exact hn ι w' undef h2 (Old.refl _ _) VR.undef
  ·cases hv
 | C =>
  rw [hc] at hv
  cases q<;>first | (simp [cls] at hc;done) | skip
  rename_i g args
  simp only at hv
  obtain ⟨c,g0,hop,hcal,hg,has⟩:=A1a ho
  obtain ⟨d,hd,hinv⟩:=hcf _ _ _ _ _ _ hv F (n - 1) hW ι w (a.eval g0) (c.args.toList.map a.eval) hs (Au hf hg) (Wk hf has)
  have hres:(resolve a.eval c o.type).run P w = .ok d w:=by
   simp only [resolve,hcal]
   have:(c.args.toList.map a.eval).toArray=c.args.map a.eval:=by apply Array.ext';simp
   rw [this] at hd;exact hd
  have hex:(execOp a.eval o).run P w=(invoke d.target d.args).run P w:=by
   simp only [execOp,hop,Sem.run_bind,hres,Result.andThen_ok]
  rw [hex]
  rcases hinv with (⟨fn,as,h1,h2⟩ | ⟨_,l,fn,tmps,assign,body,h1,h2⟩) | ⟨_,vr,wr,h1,h2⟩
  ·rw [h1,Oper.uponIn_enter]
   refine ⟨(fun hh => by rw [hW.depth] at hh;cases hh),h2.mono fun e w' hr => ?_⟩
   obtain ⟨ι',v',rfl,k1,k2,k3⟩:=hr
   exact hn ι' w' v' k1 k2 k3
  ·rw [h1,Oper.uponIn_round]
   refine ⟨(fun hh => by rw [hW.depth] at hh;cases hh),h2.mono fun e w' hr => ?_⟩
   obtain ⟨ι',v',rfl,k1,k2,k3⟩:=hr
   exact hn ι' w' v' k1 k2 k3
  ·rw [h1,Oper.uponIn_value]
   obtain ⟨ι',v',e,k1,k2,k3⟩:=h2
   cases e
   exact hn ι' wr vr k1 k2 k3
 | E =>
  rw [hc] at hv
  obtain ⟨ι',w',nx,h1,h2,h3,h4⟩:=A4a hs hf ho hc hv
  rw [h1]
  rcases h4 with ⟨rfl,rfl⟩ | ⟨v',rfl,h5⟩
  ·exact hn ι' w' undef h2 h3 VR.undef
  ·exact hn ι' w' v' h2 h3 h5
end
end Go.L
