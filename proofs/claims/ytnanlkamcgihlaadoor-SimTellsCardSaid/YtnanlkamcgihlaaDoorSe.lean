/- THE LOGICAL MACHINE AND THE MODEL: 'delete', 'copy', 'clear', 'append'. -/
import Derived.Test.YtnanlkamcgihlaaDoorSd
import Derived.OwnWalkIn
set_option linter.unusedVariables false
set_option linter.unusedSimpArgs false
namespace Go.L
open Go
variable {P:Program} {ι : Inj} {h:Aa} {w:World}
section
variable {sz:Nat} {f:FF} {a:Act} {o:Oper} {q:O} {v:Value} {h':Aa} {ws:List Nat}
theorem Ayf {α : Type} {xs:Array α} {x y:α} (h:xs.toList = [x,y]):xs = #[x,y]:=by
 cases xs;simp at h;subst h;rfl
theorem Ai3 {α : Type} {xs:Array α} {x:α} {r:List α} (h:xs.toList = x :: r):xs[0]? = some x:=by
 cases xs;simp at h;subst h;rfl
theorem A2n {t kt e:TypeId} {m k:Operand} {ts:Array TypeId} {qk:EqK} (hs:Sim P ι h w) (hts:ts[0]? = some t) (hu:P.underlying t = some (.map kt e)) (hq:Ab9 P kt = some qk) (hf:FFR ι sz f a.tmps)
  (ho:o.op = .call { callee:=.builtin .delete,args:=#[m,k],argTypes:=ts }) {m' k':X} (hm:cX m = some m') (hk:cX k = some k') (hv:Mg f h (.del qk m' k') = some (v,h',ws)):Afd P ι h a o v h' w:=by
 have rm:=Av hf hm
 have rk:=Av hf hk
 simp only [Mg] at hv
 split at hv
 ·rename_i rb e1
  rw [e1] at rm
  obtain ⟨mi,a3,a1⟩:=rm.map_inv
  split at hv
  ·rename_i es hb
   split at hv
   ·rename_i d
    simp only [OM,Prod.mk.injEq] at hv
    obtain ⟨es2,c,rfl,rfl,rfl⟩:=hv
    have ek:=Aak d rk
    obtain ⟨m2,a0,y⟩:=hs.obj _ _ hb (by simp)
    rw [a3] at a0;cases a0
    cases y with
    | map hw he =>
     rename_i n clock
     have s:(getObj mi.rb).run P w = .ok (.map n clock) w:=by simp [getObj,Sem.run,hw]
     have a2:=Pu hq d n.isEmpty w
     have a4:∃ r,find qk (ev f k') es = some r:=by
      have:∀ (l:List (Value × Value)) l2,Yg qk (ev f k') l = some l2 → ∃ r,find qk (ev f k') l = some r:=by
       intro l
       induction l with
       | nil => intro l2 _;exact ⟨none,rfl⟩
       | cons p l ih =>
        intro l2 hp
        simp only [Yg,OB] at hp
        obtain ⟨b,hb,hp⟩:=hp
        cases b with
        | true => exact ⟨some p.2,by simp [find,hb]⟩
        | false =>
         simp only [Bool.false_eq_true,if_false,OM] at hp
         obtain ⟨l3,h3,_⟩:=hp
         obtain ⟨r,hr⟩:=ih l3 h3
         exact ⟨r,by simp [find,hb,hr]⟩
      exact this es es2 c
     obtain ⟨r,hr⟩:=a4
     have fin:∀ (g:Array MapEntry),All2 (fun e (e':MapEntry) => e.1 = e'.key ∧ VR ι e.2 e'.val) es2 g.toList →
       (∀ u,(setObj mi.rb (.map g clock)).run P w = .ok () u → (Builtin.delete_ ts o.type #[a.eval m,a.eval k]).run P w = .ok (.tuple #[]) u) → Afd P ι h a o (.tuple #[]) (h.set rb (.map es2)) w:=by
      intro g h3 x
      obtain ⟨u,z,s2⟩:=Wd hs hb a3 (es2:=es2) (es2':=g) (clock:=clock) h3
      refine ⟨ι,u,.value (.tuple #[]),?_,s2,Old.refl _ _,.inr ⟨_,rfl,.tuple .nil⟩⟩
      have:=x u z
      simp only [execOp,ho,resolve,Sem.run_bind,Result.andThen,Sem.run_pure,invoke,Go.builtin]
      simp [Sem.run_bind,Result.andThen,this]
     rcases Ny hq d he hr w with ⟨rfl,h1,_,h2⟩ | ⟨v0,j,v',rfl,h1,h2,h3,_,h4,e0,h5,h6⟩
     ·rw [h2] at c
      simp only [OI] at c;subst c
      refine fin n he fun u z => ?_
      simp [Builtin.delete_,hts,Sem.run_bind,run_underlying hu,Result.andThen_ok,a1,ek,s,a2,h1,z]
     ·rw [h4] at c
      simp only [OI] at c;subst c
      refine fin (n.eraseIdxIfInBounds j) (by simpa using he.eraseIdx j) fun u z => ?_
      simp [Builtin.delete_,hts,Sem.run_bind,run_underlying hu,Result.andThen_ok,a1,ek,s,a2,h1,z]
   ·cases hv
  ·cases hv
 ·cases hv
theorem Acj {b off n c:Nat} {sp:Option Nat} {r:Value} (hr:VR ι (.slice (some ⟨b,off,sp⟩) n c) r):∃ ad c',r = .slice (some ad) n c' ∧ (n = 0 ∨ ∃ m,ι b = some m ∧ ad = ⟨m.rb,m.off + off,none⟩):=by
 cases hr with
 | slice off n c a => exact ⟨_,_,rfl,.inr ⟨_,a,rfl⟩⟩
 | slice0 off a' h0 => exact ⟨_,_,rfl,.inl rfl⟩
 | loose off s n c a hn hc => exact ⟨_,_,rfl,.inr ⟨_,a,rfl⟩⟩
 | loose0 off s a' h0 => exact ⟨_,_,rfl,.inl rfl⟩
theorem Afr {α : Type} {l:List α} {b:Nat} {x:α} (hb:l[b]? = some x):l.set b x = l:=by
 apply List.ext_getElem?
 intro i
 by_cases e:b = i
 ·subst e
  rw [List.getElem?_set_self (GI.1 hb).1,hb]
 ·rw [List.getElem?_set_ne e]
theorem A2o {t e size:Nat} {d s:Operand} {ts:Array TypeId} (hs:Sim P ι h w) (hts:ts[0]? = some t) (he:Mz P t = some (e,size)) (hf:FFR ι sz f a.tmps)
  (ho:o.op = .call { callee:=.builtin .copy,args:=#[d,s],argTypes:=ts }) {d' s':X} (hd:cX d = some d') (hss:cX s = some s') (hv:Mg f h (.cpy size d' s') = some (v,h',ws)):Afd P ι h a o v h' w:=by
 have rd:=Av hf hd
 have rs:=Av hf hss
 simp only [Mg,V0] at hv
 unfold Mz at he
 split at he
 ·rename_i e0 hu
  simp only [OM,Prod.mk.injEq] at he
  obtain ⟨u,a2,rfl,rfl⟩:=he
  have g:∀ (k:Nat) j h',(Builtin.copy_ ts o.type #[a.eval d,a.eval s]).run P w = .ok (.int .i64 k) j → St P ι h w ι h' j → Afd P ι h a o (.int .i64 (k:Nat)) h' w:=by
   intro k j h' h1 h2
   refine ⟨ι,j,_,?_,h2,Old.refl _ _,.inr ⟨_,rfl,.int .i64 k⟩⟩
   simp only [execOp,ho,resolve,Sem.run_bind,Result.andThen,Sem.run_pure,invoke,Go.builtin]
   simp [Sem.run_bind,Result.andThen,h1]
  split at hv
  ·rename_i n c0 e1
   rw [e1] at rd
   split at hv
   ·rename_i kn y
    split at hv
    ·rename_i h0
     subst h0
     simp only [OI,Prod.mk.injEq] at hv
     obtain ⟨rfl,rfl,rfl⟩:=hv
     have z:a.eval d = .slice none 0 c0:=by generalize a.eval d = r at rd;cases rd;rfl
     obtain ⟨k1,k2,_,c',k3,k4⟩:=Gk hs rs y w rfl
     have hz:(Builtin.firstCells u 0 (a.eval s)).run P w = .ok #[] w:=by simpa using k4 0 (Nat.zero_le _)
     refine g 0 w h ?_ (St.refl hs)
     simp [Builtin.copy_,hts,Sem.run_bind,run_underlying hu,Result.andThen_ok,z,k1,Dz a2,hz,goInt,Nat.min_def]
    ·cases hv
   ·cases hv
  ·rename_i ad len c0 e1
   rw [e1] at rd
   split at hv
   ·rename_i n new c y hb
    split at hv
    ·rename_i a8
     simp only [OI,Prod.mk.injEq] at hv
     obtain ⟨rfl,rfl,rfl⟩:=hv
     obtain ⟨k1,k2,p,a0,k3,k4⟩:=Gk hs rs y w rfl
     have l:=k4 (Nat.min n len) (Nat.min_le_left _ _)
     have a4:Nat.min n len ≤ len:=Nat.min_le_right _ _
     have a6:Nat.min n len ≤ n:=Nat.min_le_left _ _
     obtain ⟨a7,c1,z,a1⟩:=Acj rd
     have x:(new.take (Nat.min n len * u)).length = Nat.min n len * u:=by
      have:=Nat.mul_le_mul_right u a6
      simp [k2];try exact this
     have fin:∀ j,(storeCells a7 (a0.take (Nat.min n len * u))).run P w = .ok () j → (Builtin.copy_ ts o.type #[a.eval d,a.eval s]).run P w = .ok (.int .i64 (Nat.min n len:Nat)) j:=by
      intro j a5
      simp [Builtin.copy_,hts,Sem.run_bind,run_underlying hu,Result.andThen_ok,z,k1,Dz a2,l,a5,goInt]
     rcases a1 with rfl | ⟨m,hm,rfl⟩
     ·have h0:Nat.min n 0 = 0:=Nat.min_eq_right (Nat.zero_le _)
      rw [h0] at fin ⊢
      refine g 0 w _ (fin w (by simp [storeCells])) ?_
      simp only [Nat.zero_mul,List.take_zero,setCells]
      rw [Afr hb]
      exact St.refl hs
     ·have a3:ad.off + (new.take (Nat.min n len * u)).length ≤ c.length:=by
       rw [x]
       have:=Nat.mul_le_mul_right u a4
       omega
      obtain ⟨j,s1,s2⟩:=Nv hs hb hm a3 (k3.take (Nat.min n len * u)) (by
       rw [List.all_eq_true] at p ⊢
       exact fun v hv => p v (List.mem_of_mem_take hv))
      exact g _ j _ (fin j s1) s2
    ·cases hv
   ·cases hv
  ·cases hv
 ·cases he
theorem A2p {t e size:Nat} {x:Operand} {z:List Value} (hs:Sim P ι h w) (he:Mz P t = some (e,size)) (hz:Ic P e size = some z) (hz0:z ≠ []) (hf:FFR ι sz f a.tmps)
  (ho:o.op = .call { callee:=.builtin .clear,args:=#[x],argTypes:=#[t] }) {x':X} (hx:cX x = some x') (hv:Mg f h (.clr z x') = some (v,h',ws)):Afd P ι h a o v h' w:=by
 have rx:=Av hf hx
 simp only [Mg,M3] at hv
 unfold Mz at he
 split at he
 ·rename_i e0 hu
  simp only [OM,Prod.mk.injEq] at he
  obtain ⟨s0,a2,rfl,rfl⟩:=he
  obtain ⟨a4,u,zv,a0,y,_⟩:=J8 hz
  split at hv
  ·rename_i ad n c0 e1
   rw [e1] at rx
   split at hv
   ·rename_i c hb
    split at hv
    ·rename_i p
     simp only [OI,Prod.mk.injEq] at hv
     obtain ⟨rfl,rfl,rfl⟩:=hv
     have d:∀ j h',(Builtin.clear_ #[t] o.type #[a.eval x]).run P w = .ok (.tuple #[]) j → St P ι h w ι h' j → Afd P ι h a o (.tuple #[]) h' w:=by
      intro j h' h1 h2
      refine ⟨ι,j,_,?_,h2,Old.refl _ _,.inr ⟨_,rfl,.tuple .nil⟩⟩
      simp only [execOp,ho,resolve,Sem.run_bind,Result.andThen,Sem.run_pure,invoke,Go.builtin]
      simp [Sem.run_bind,Result.andThen,h1]
     obtain ⟨a3,c1,s,r⟩:=Acj rx
     by_cases hn:n = 0
     ·subst hn
      refine d w _ ?_ ?_
      ·simp [Builtin.clear_,Sem.run_bind,run_underlying hu,Result.andThen_ok,s]
      ·simp only [List.replicate_zero,List.flatten_nil,setCells]
       rw [Afr hb]
       exact St.refl hs
     ·rcases r with h0 | ⟨m,hm,rfl⟩
      ·exact absurd h0 hn
      ·have a1:VRs ι (List.replicate n z).flatten (List.replicate n z).flatten:=(All2.replicate n (VRs.self (ι:=ι) u)).flatten
       have hl:(List.replicate n z).flatten.length = n * z.length:=by simp
       obtain ⟨j,s1,s2⟩:=Nv hs hb hm (by rw [hl];exact p.1) a1 (by
        have:=p.2
        rw [List.all_eq_true] at this ⊢
        intro v hv
        simp only [List.mem_flatten,List.mem_replicate] at hv
        obtain ⟨l,⟨_,rfl⟩,hv⟩:=hv
        exact this v hv)
       refine d j _ ?_ s2
       have g:(Builtin.zeroCells zv.cells n).toList = (List.replicate n z).flatten:=by
        have:=W6 z n
        simp only [Builtin.zeroCells,y,List.size_toArray,this]
       simp only [Builtin.clear_]
       simp [Sem.run_bind,run_underlying hu,Result.andThen_ok,s]
       cases n with
       | zero => exact absurd rfl hn
       | succ n => simp [Sem.run_bind,a0,Result.andThen_ok,g,s1]
    ·cases hv
   ·cases hv
  ·cases hv
 ·cases he
def Pf (P:Program) (u:TypeId):Prop:=∃ d,P.underlying u = some d ∧ ((∃ e,d = .slice e) ∨ d = .string)
theorem Pv {t u e ty:TypeId} {i:TypeInfo} (ht:P.underlying t = some (.slice e)) (hu:Pf P u) (hi:P.info? e = some i) {x:Value} {base:Option Addr} {sLen sCap n:Nat} {news:Array Value}
  (hl:(Builtin.lenOf x).run P w = .ok n w) (hx:(Builtin.firstCells i.size n x).run P w = .ok news w) (hroom:sLen + n ≤ sCap) {w':World}
  (hst:(match base with | some ad => storeCells (ad.add (sLen * i.size)) news.toList | none => pure ()).run P w = .ok () w') :
  (Builtin.append_ #[t,u] ty #[.slice base sLen sCap,x]).run P w = .ok (.slice base (sLen + n) sCap) w':=by
 obtain ⟨d,hu,c⟩:=hu
 have a:(sizeOf e).run P w = .ok i.size w:=by simp [sizeOf,Sem.run_bind,run_typeInfo w hi,Result.andThen]
 rcases c with ⟨f,rfl⟩ | rfl
 ·cases base with
  | none => simp at hst;subst hst;simp [Builtin.append_,run_underlying ht,run_underlying hu,a,Result.andThen_ok,Sem.run_bind,hl,hx,hroom]
  | some ad => simp at hst;simp [Builtin.append_,run_underlying ht,run_underlying hu,a,Result.andThen_ok,Sem.run_bind,hl,hx,hroom,hst]
 ·cases base with
  | none => simp at hst;subst hst;simp [Builtin.append_,run_underlying ht,run_underlying hu,a,Result.andThen_ok,Sem.run_bind,hl,hx,hroom]
  | some ad => simp at hst;simp [Builtin.append_,run_underlying ht,run_underlying hu,a,Result.andThen_ok,Sem.run_bind,hl,hx,hroom,hst]
theorem Ad9 {t u e ty:TypeId} {i:TypeInfo} {z:Value} (ht:P.underlying t = some (.slice e)) (hu:Pf P u) (hi:P.info? e = some i) (hz:i.zero = some z) {x:Value} {base:Option Addr} {sLen sCap n:Nat} {olds news:Array Value}
  (hl:(Builtin.lenOf x).run P w = .ok n w) (hx:(Builtin.firstCells i.size n x).run P w.drew = .ok news w.drew) (ho:(Builtin.firstCells i.size sLen (.slice base sLen sCap)).run P w.drew = .ok olds w.drew)
  (hg:sCap < sLen + n) (h63:((sLen + n:Nat):Int) ≤ 9223372036854775807) (hb:(sLen + n) * i.bytes ≤ 140737488355328) (hpos:i.bytes ≠ 0) :
  (Builtin.append_ #[t,u] ty #[.slice base sLen sCap,x]).run P w =
   .ok (.slice (some ⟨w.heap.size,0,none⟩) (sLen + n) (grownCap w (sLen + n) sCap e)) (w.drew.alloc (.cells (olds ++ news ++ Builtin.zeroCells z.cells (grownCap w (sLen + n) sCap e - (sLen + n))) e)):=by
 obtain ⟨d,hu,o⟩:=hu
 have m:=growslice_fits hg hb
 have f:(sizeOf e).run P w = .ok i.size w:=by simp [sizeOf,Sem.run_bind,run_typeInfo w hi,Result.andThen]
 have l:¬ (sLen + n ≤ sCap):=by omega
 have h2:¬ (((sLen + n:Nat):Int) > IntKind.i64.max):=by
  have:IntKind.i64.max = 9223372036854775807:=by decide
  rw [this];omega
 have g:¬ (Builtin.nextslicecap (sLen + n) sCap * i.bytes > 2 ^ 48):=by omega
 have j:(Question.appendCap (sLen + n) sCap e).forced = false:=rfl
 have a:∀ w:World,(typeInfo e).run P w = .ok i w:=fun w => run_typeInfo w hi
 have c:∀ w:World,(zeroValue e).run P w = .ok z w:=fun w => by simp [zeroValue,Sem.run_bind,run_typeInfo w hi,Result.andThen,hz]
 rcases o with ⟨p,rfl⟩ | rfl
 ·simp only [Builtin.append_,List.getElem?_toArray,List.getElem?_cons_zero,List.getElem?_cons_succ,Sem.run_bind,run_underlying ht,run_underlying hu,Result.andThen_ok,f,Sem.run_pure,Bool.false_eq_true,if_false,hl,l,a,h2,hpos,false_and,g,run_choose_drew,j,run_askRoom,ho,hx,c,newRow,run_newObj_alloc,grownCap]
  simp [hl,l,a,h2,hpos,g,ho,hx,c,j,Sem.run_bind,Result.andThen_ok]
 ·simp only [Builtin.append_,List.getElem?_toArray,List.getElem?_cons_zero,List.getElem?_cons_succ,Sem.run_bind,run_underlying ht,run_underlying hu,Result.andThen_ok,f,Sem.run_pure,Bool.false_eq_true,if_false,hl,l,a,h2,hpos,false_and,g,run_choose_drew,j,run_askRoom,ho,hx,c,newRow,run_newObj_alloc,grownCap]
  simp [hl,l,a,h2,hpos,g,ho,hx,c,j,Sem.run_bind,Result.andThen_ok]
end
end Go.L
namespace Go.L
open Go
variable {P:Program} {ι : Inj} {h:Aa} {w:World}
theorem Sim.same {w':World} (hs:Sim P ι h w) (hq:Quiet w w'):Sim P ι h w':=(St.same hs hq.heap hq.os hq.tape hq.output).sim
theorem St.quiet {w':World} (hs:Sim P ι h w) (hq:Quiet w w'):St P ι h w ι h w':=St.same hs hq.heap hq.os hq.tape hq.output
theorem Rh {b:Option Addr} {n c:Nat} {r:Value} (hr:VR ι (.slice b n c) r):∃ b' c',r = .slice b' n c' ∧ (n ≤ c → n ≤ c') ∧ (c' = c ∨ ∃ a s,b = some a ∧ a.spot = some s):=by
 cases hr with
 | nils n c => exact ⟨_,_,rfl,id,.inl rfl⟩
 | slice off n c hm => exact ⟨_,_,rfl,id,.inl rfl⟩
 | slice0 off a' h0 => exact ⟨_,_,rfl,id,.inl rfl⟩
 | loose off s n c hm hn hc => exact ⟨_,_,rfl,fun _ => hn.1,.inr ⟨_,_,rfl,rfl⟩⟩
 | loose0 off s a' h0 => exact ⟨_,_,rfl,id,.inl rfl⟩
section
variable {sz:Nat} {f:FF} {a:Act} {o:Oper} {q:O} {v:Value} {h':Aa} {ws:List Nat}
theorem Abh {t u e ty size:Nat} {z:List Value} (hs:Sim P ι h w) (hut:P.underlying t = some (.slice e)) (hse:szO P e = some size) (hz:Ic P e size = some z) (hu:Pf P u) {s s' x x':Value} (rs:VR ι s s') (rx:VR ι x x')
  {n len:Nat} {new old:List Value} (hcx:cellsOf size x h = some (n,new)) (hcs:cellsOf size s h = some (len,old)) (hb:(len + n) * P.bytesOf e ≤ 140737488355328) (hlt:len + n < 4611686018427387904) (hp:P.bytesOf e ≠ 0)
  {base:Option Addr} {sCap:Nat} (hs':s' = .slice base len sCap) (hg:sCap < len + n) :
  ∃ ι' w' v',(Builtin.append_ #[t,u] ty #[s',x']).run P w = .ok v' w' ∧ St P ι h w ι' (h ++ [.cells (old ++ new) false]) w' ∧ Old ι h ι' ∧ VR ι' (.slice (some ⟨h.length,0,some size⟩) (len + n) (len + n)) v':=by
 obtain ⟨aa,ab,zv,ac,a2,i,hi,a7⟩:=J8 hz
 obtain ⟨i',y,v⟩:=Mn hse
 rw [hi] at y;cases y
 have a6:P.bytesOf e = i.bytes:=by simp [Program.bytesOf,hi]
 rw [a6] at hb hp
 obtain ⟨l1,_,_⟩:=Wl hs rx hcx w rfl
 obtain ⟨_,a0,f,a,x1,x2⟩:=Gk hs rx hcx w.drew rfl
 obtain ⟨_,l,p,c,o1,o2⟩:=Gk hs rs hcs w.drew rfl
 have nl:a.length = n * size:=by rw [← x1.length,a0]
 have ol:c.length = len * size:=by rw [← o1.length,l]
 have xx:=x2 n (Nat.le_refl _)
 rw [List.take_of_length_le (by omega)] at xx
 have oo:=o2 len (Nat.le_refl _)
 rw [List.take_of_length_le (by omega)] at oo
 subst hs'
 rw [← v] at xx oo
 have d:=Ad9 (ty:=ty) hut hu hi a7 l1 xx oo hg (by omega) hb hp
 have a4:=grownCap_ge w (len + n) sCap e
 have a9:grownCap w (len + n) sCap e ≤ 9223372036854775807:=by have:=grownCap_le_maxLen w (len + n) sCap e (by unfold maxLen;omega);unfold maxLen at this;omega
 let rest:=(Builtin.zeroCells zv.cells (grownCap w (len + n) sCap e - (len + n))).toList
 have a3:rest.length = (grownCap w (len + n) sCap e - (len + n)) * size:=by simp [rest,Builtin.zeroCells,a2,aa]
 have a1:c.toArray ++ a.toArray ++ Builtin.zeroCells zv.cells (grownCap w (len + n) sCap e - (len + n)) = ((c ++ a) ++ rest).toArray:=by
  apply Array.ext';simp [rest]
 rw [a1] at d
 have g:(old ++ new).all Ag = true:=by simp only [List.all_append,p,f,Bool.and_self]
 have a5:(c ++ a).length + rest.length = grownCap w (len + n) sCap e * size:=by
  rw [LA,nl,ol,a3,← Nat.add_mul,← Nat.add_mul]
  congr 1;omega
 have r:=St.quiet hs (Quiet.drew w)
 have j:=Ag6 (P:=P) (ι':=ι.put h.length ⟨w.heap.size,0,(c ++ a).length + rest.length⟩) (wd:=w.drew) (rest:=rest) (VRs.mono (Inj.put_sub (hs.dom _ (Nat.le_refl _)) _) (o1.append x1)) g e
 have a8:=St.push (P:=P) (m:=⟨w.heap.size,0,(c ++ a).length + rest.length⟩) (o:=.cells (old ++ new) false) r.sim rfl (fun _ => j)
 exact ⟨_,_,_,d,r.trans a8,Old.put _ _ _,VR.loose (m:=⟨w.heap.size,0,(c ++ a).length + rest.length⟩) 0 size (len + n) _ (Inj.put_same _ _ _) ⟨a4,a9⟩ (by simp only [Nat.zero_add];omega)⟩
theorem Aq6 {t u e ty size:Nat} {z:List Value} (hs:Sim P ι h w) (hut:P.underlying t = some (.slice e)) (hse:szO P e = some size) (hz:Ic P e size = some z) (hu:Pf P u) {s s' x x':Value} (rs:VR ι s s') (rx:VR ι x x')
  (hv:B9 size (P.bytesOf e) s x h = some (v,h',ws)):∃ ι' w' v',(Builtin.append_ #[t,u] ty #[s',x']).run P w = .ok v' w' ∧ St P ι h w ι' h' w' ∧ Old ι h ι' ∧ VR ι' v v':=by
 obtain ⟨i,hi,a3⟩:=Mn hse
 unfold B9 at hv
 split at hv
 ·rename_i n new len a5 a6 g
  obtain ⟨l1,a0,p,a,x1,x2⟩:=Gk hs rx a6 w rfl
  have nl:a.length = n * size:=by rw [← x1.length,a0]
  have xx:=x2 n (Nat.le_refl _)
  rw [List.take_of_length_le (by omega)] at xx
  rw [← a3] at xx
  split at hv
  ·rename_i h0
   subst h0
   split at hv
   ·rename_i a7
    simp only [OI,Prod.mk.injEq] at hv
    obtain ⟨rfl,rfl,rfl⟩:=hv
    obtain ⟨ls,_,_⟩:=Wl hs rs g w rfl
    cases s <;> first | (simp [Aux] at a7;done) | skip
    rename_i b f c0
    obtain ⟨b',y,rfl,a4,_⟩:=Rh rs
    simp [Builtin.lenOf] at ls;subst ls
    have d:f + 0 ≤ y:=a4 (by simpa [Aux] using a7)
    have ao:a = []:=List.eq_nil_of_length_eq_zero (by omega)
    have:=Pv (ty:=ty) hut hu hi l1 xx d (base:=b') (w':=w) (by subst ao;cases b' <;> simp [storeCells])
    exact ⟨ι,w,_,this,St.refl hs,Old.refl _ _,rs⟩
   ·cases hv
  ·rename_i b2
   split at hv
   ·rename_i hb
    obtain ⟨a9,ac,b0,aa⟩:=hb
    obtain ⟨ls,ak,am,ay,o1,o2⟩:=Gk hs rs g w rfl
    split at hv
    ·rename_i f ah
     split at hv
     ·rename_i b1
      simp only [OI,Prod.mk.injEq] at hv
      obtain ⟨rfl,rfl,rfl⟩:=hv
      obtain ⟨b',y,rfl,_,ab⟩:=Rh rs
      simp [Builtin.lenOf] at ls;subst ls
      have ai:y = 0:=by rcases ab with h | ⟨_,_,h,_⟩;omega;cases h
      exact Abh hs hut hse hz hu rs rx a6 g a9 ac aa rfl (by omega)
     ·cases hv
    ·rename_i j f ah
     obtain ⟨b',y,rfl,_,ab⟩:=Rh rs
     simp [Builtin.lenOf] at ls;subst ls
     split at hv
     ·rename_i l
      have ai:y = ah:=by
       rcases ab with h | ⟨a2,s2,h,h2⟩
       ·exact h
       ·cases h;rw [l] at h2;cases h2
      subst ai
      split at hv
      ·rename_i d
       split at hv
       ·rename_i c a1
        split at hv
        ·rename_i a4
         simp only [OI,Prod.mk.injEq] at hv
         obtain ⟨rfl,rfl,rfl⟩:=hv
         have ar:∀ m:Img,ι j.block = some m → b' = some ⟨m.rb,m.off + j.off,none⟩ → j = ⟨j.block,j.off,none⟩ →
           ∃ ι' w' v',(Builtin.append_ #[t,u] ty #[.slice b' f y,x']).run P w = .ok v' w' ∧ St P ι h w ι' (h.set j.block (.cells (setCells c (j.off + f * size) new) false)) w' ∧ Old ι h ι' ∧ VR ι' (.slice (some j) (f + n) y) v':=by
          intro m hm ax as
          subst ax
          obtain ⟨w',s1,s2⟩:=Nv hs a1 hm (off:=j.off + f * size) (by rw [a0,Nat.add_assoc,← Nat.add_mul];exact a4) x1 p
          have:=Pv (ty:=ty) hut hu hi l1 xx d (base:=some ⟨m.rb,m.off + j.off,none⟩) (w':=w') (by
           show (storeCells ((⟨m.rb,m.off + j.off,none⟩:Addr).add (f * i.size)) a).run P w = _
           rw [V9 _ rfl,a3]
           simpa [Nat.add_assoc] using s1)
          refine ⟨ι,w',_,this,s2,Old.refl _ _,?_⟩
          rw [as]
          exact .slice j.off _ _ hm
         cases rs with
         | slice off n c hm => exact ar _ hm rfl rfl
         | slice0 off a' h0 => omega
         | loose off s n c hm hn hc => cases l
         | loose0 off s a' h0 => cases l
        ·cases hv
       ·cases hv
      ·simp only [OI,Prod.mk.injEq] at hv
       obtain ⟨rfl,rfl,rfl⟩:=hv
       exact Abh hs hut hse hz hu rs rx a6 g a9 ac aa rfl (by omega)
     ·rename_i z0 l
      split at hv
      ·rename_i c a1
       split at hv
       ·rename_i av
        simp only [OI,Prod.mk.injEq] at hv
        obtain ⟨rfl,rfl,rfl⟩:=hv
        have au:j.block < h.length:=(GI.1 a1).1
        have ae:y < f + n → ∃ ι' w' v',(Builtin.append_ #[t,u] ty #[.slice b' f y,x']).run P w = .ok v' w' ∧ St P ι h w ι' (h.set j.block .dead ++ [.cells (a5 ++ new) false]) w' ∧ Old ι h ι' ∧ VR ι' (.slice (some ⟨h.length,0,some size⟩) (f + n) (f + n)) v':=by
         intro hg
         obtain ⟨ι',w',v',r1,r2,ro,r3⟩:=Abh (ty:=ty) hs hut hse hz hu rs rx a6 g a9 ac aa rfl hg
         have:=r2.trans (St.kill r2.sim j.block)
         rw [List.set_append_left _ _ au] at this
         exact ⟨ι',w',v',r1,this,ro,r3⟩
        by_cases hg:y < f + n
        ·exact ae hg
        ·have d:f + n ≤ y:=by omega
         have al:=av.symm;subst al
         cases rs with
         | slice off n c hm => cases l
         | slice0 off a' h0 => cases l
         | loose0 off s a' h0 => omega
         | @loose b m off s n1 c1 hm hn hc =>
          cases l
          obtain ⟨m',ap,hr⟩:=hs.obj _ _ a1 (by simp)
          rw [hm] at ap;cases ap
          cases hr with
          | cells hw hsz hl hcell hf ho =>
           rename_i b3 tt fz
           have an:f * size + n * size ≤ y * size:=by rw [← Nat.add_mul];exact Nat.mul_le_mul_right _ d
           have az:f * size + a.length ≤ y * size:=by rw [nl];exact an
           have aw:=Ts (P:=P) hw (o:=m.off + off + f * size) (vs:=a) (by omega) (fun i h1 h2 => hf rfl i (by omega) (by omega)) (Agw x1 p)
           obtain ⟨k1,k2,k3,k4,k5,k6⟩:=Rj a hw (m.off + off + f * size)
           have:=Pv (ty:=ty) hut hu hi l1 xx d (base:=some ⟨m.rb,m.off + off,none⟩) (w':=w.setCells m.rb (m.off + off + f * size) a) (by
            show (storeCells ((⟨m.rb,m.off + off,none⟩:Addr).add (f * i.size)) a).run P w = _
            rw [V9 _ rfl,a3]
            simpa [Nat.add_assoc] using aw)
           have ag:(List.drop off c).take (f * size) = a5 ∧ off + f * size ≤ c.length:=by
            unfold cellsOf at g
            simp only [a1] at g
            split at g
            ·rename_i a4
             simp only [OI,Prod.mk.injEq] at g
             exact ⟨g.2,a4⟩
            ·cases g
           have af:a5.length = f * size:=ak
           have aj:ObjR P (ι.put h.length ⟨m.rb,m.off + off,m.size⟩) (w.setCells m.rb (m.off + off + f * size) a) ⟨m.rb,m.off + off,m.size⟩ (.cells (a5 ++ new) false):=by
            refine .cells k1 (by simp [Li,hsz]) (by simp only [LA,af,a0];omega) ?_ (fun h0 i h1 h2 => hf h0 i (by simp only at h1;omega) h2) (by simp only [List.all_append,am,p,Bool.and_self])
            intro i v hv
            have b4:i < f * size + a.length:=by
             have:=(GI.1 hv).1
             simp only [LA,af,a0] at this;omega
            simp only [List.getElem?_toArray,Pq]
            by_cases aq:i < f * size
            ·rw [GL (by omega)] at hv
             rw [← ag.1,List.getElem?_take_of_lt aq,List.getElem?_drop] at hv
             obtain ⟨r,hr,a8⟩:=hcell _ _ hv
             refine ⟨r,?_,a8.mono (Inj.put_sub (hs.dom _ (Nat.le_refl _)) _)⟩
             rw [if_neg (by omega)]
             simpa [Nat.add_assoc] using hr
            ·rw [List.getElem?_append_right (by omega),af] at hv
             obtain ⟨r,hr,a8⟩:=x1.at_ hv
             refine ⟨r,?_,a8.mono (Inj.put_sub (hs.dom _ (Nat.le_refl _)) _)⟩
             rw [if_pos (by simp;omega)]
             rw [← hr];congr 1;omega
           have st:=St.moved (m':=⟨m.rb,m.off + off,m.size⟩) hs a1 rfl hm rfl k2 k3 k4 k5 k6 aj rfl
           exact ⟨_,_,_,this,st,Old.put _ _ _,VR.loose (m:=⟨m.rb,m.off + off,m.size⟩) 0 size (f + n) y (Inj.put_same _ _ _) ⟨d,hn.2⟩ (by simpa using hc)⟩
       ·cases hv
      ·cases hv
    ·cases hv
   ·cases hv
 ·cases hv
theorem Aze {t u e size:Nat} {s x:Operand} {z:List Value} (hs:Sim P ι h w) (he:Mz P t = some (e,size)) (hz:Ic P e size = some z) (hu:Pf P u) (hf:FFR ι sz f a.tmps)
  (ho:o.op = .call { callee:=.builtin .append,args:=#[s,x],argTypes:=#[t,u] }) {s' x':X} (hss:cX s = some s') (hx:cX x = some x') (hv:Mg f h (.app size (P.bytesOf e) s' x') = some (v,h',ws)):Afd P ι h a o v h' w:=by
 unfold Mz at he
 split at he
 ·rename_i n g
  simp only [OM,Prod.mk.injEq] at he
  obtain ⟨p,c,rfl,rfl⟩:=he
  obtain ⟨ι',l,r,m,h2,d,j⟩:=Aq6 (ty:=o.type) hs g c hz hu (Av hf hss) (Av hf hx) hv
  refine ⟨ι',l,_,?_,h2,d,.inr ⟨_,rfl,j⟩⟩
  simp only [execOp,ho,resolve,Sem.run_bind,Result.andThen,Sem.run_pure,invoke,Go.builtin]
  simp [Sem.run_bind,Result.andThen,m]
 ·cases he
theorem A0z (hs:Sim P ι h w) (hf:FFR ι sz f a.tmps) (ho:cO P o.op = some q) (hc:cls q = .E) (hv:Mg f h q = some (v,h',ws)):Afd P ι h a o v h' w:=by
 cases hop:o.op with
 | mapUpdate t m k x =>
  rw [hop] at ho;simp only [cO] at ho
  split at ho
  ·rename_i kt e hu
   simp only [OM,OB] at ho;obtain ⟨qk,hq,m',hm,k',hk,l,g,rfl⟩:=ho;exact A2m hs hu hq hf hop hm hk g hv
  ·cases ho
 | call c =>
  rw [hop] at ho;simp only [cO] at ho
  split at ho
  ·simp only [OM,OB] at ho;obtain ⟨_,_,_,_,rfl⟩:=ho;simp [cls] at hc
  ·cases ho
  ·rename_i b a0
   have j:=Sn a0
   split at ho
   ·split at ho
    ·simp only [OM] at ho;obtain ⟨l,g,rfl⟩:=ho;simp [cls] at hc
    ·simp only [OM] at ho;obtain ⟨l,g,rfl⟩:=ho;simp [cls] at hc
    ·simp only [OI] at ho;subst ho;simp [cls] at hc
    ·simp only [OM] at ho;obtain ⟨l,g,rfl⟩:=ho;simp [cls] at hc
    ·cases ho
   ·simp only [OM,OB] at ho;obtain ⟨l,g,r',hr,rfl⟩:=ho;simp [cls] at hc
   ·simp only [OM,OB] at ho;obtain ⟨l,g,r',hr,rfl⟩:=ho;simp [cls] at hc
   ·rename_i s x t u y p
    rw [j,Ayf y,Ayf p] at hop
    split at ho
    ·rename_i hu
     simp only [OM,OB] at ho;obtain ⟨⟨e,n⟩,he,z,hz,s',hss,l,g,rfl⟩:=ho
     exact Aze hs he hz ⟨_,hu,.inl ⟨_,rfl⟩⟩ hf hop hss g hv
    ·rename_i hu
     simp only [OM,OB] at ho;obtain ⟨⟨e,n⟩,he,z,hz,s',hss,l,g,rfl⟩:=ho
     exact Aze hs he hz ⟨_,hu,.inr rfl⟩ hf hop hss g hv
    ·cases ho
   ·rename_i d s t r y p
    rw [j,Ayf y] at hop
    simp only [OM,OB] at ho;obtain ⟨⟨e,n⟩,he,d',hd,s',hss,rfl⟩:=ho
    exact A2o hs (Ai3 p) he hf hop hd hss hv
   ·rename_i x t y p
    rw [j,Ayg y,Ayg p] at hop
    simp only [OB] at ho;obtain ⟨⟨e,n⟩,he,z,hz,ho⟩:=ho
    split at ho
    ·cases ho
    ·rename_i a1
     simp only [OM] at ho;obtain ⟨l,g,rfl⟩:=ho
     exact A2p hs he hz a1 hf hop g hv
   ·rename_i m k t r y p
    rw [j,Ayf y] at hop
    split at ho
    ·rename_i kt e hu
     simp only [OM,OB] at ho;obtain ⟨qk,hq,m',hm,k',hk,rfl⟩:=ho
     exact A2n hs (Ai3 p) hu hq hf hop hm hk hv
    ·cases ho
   ·cases ho
 | _ =>
  exfalso
  rw [hop] at ho
  simp only [cO] at ho
  first | (cases ho;done) | skip
  all_goals
   (repeat' split at ho) <;> first | (cases ho;done) | skip
  all_goals
   cases q <;> first | (simp [cls] at hc;done) | skip
  all_goals first | contradiction | (simp [OB,OM] at ho;done) | skip
end
end Go.L
namespace Go.L
open Go
variable {P:Program} {ι : Inj} {h:Aa} {w:World}
structure Wide (F:Fence):Prop where
 fn:∀ f,F.fn f
 depth:F.depth = none
 alive:F.alive = false
theorem Wide.inRound {F:Fence} (h:Wide F) (l:Nat):Wide (F.inRound l):=⟨h.fn,h.depth,h.alive⟩
def Ret (P:Program) (ι : Inj) (h:Aa) (w:World) (v:Value) (h':Aa) (e:Ending) (w':World):Prop:=∃ ι' v',e = .returned v' ∧ St P ι h w ι' h' w' ∧ Old ι h ι' ∧ VR ι' v v'
def Ku (P:Program) (cf:A0):Prop:=∀ g args h v h' ws,cf g args h = some (v,h',ws) → ∀ (F:Fence) (n:Nat),Wide F → ∀ (ι : Inj) (w:World) (g':Value) (args':List Value),Sim P ι h w → VR ι g g' → VRs ι args args' →
 ∃ d,(Deferred.ofValue g' args'.toArray).run P w = .ok d w ∧
  (((∃ f as,(invoke d.target d.args).run P w = .ok (.enter f as) w ∧ CallsIn F n P f as w (Ret P ι h w v h')) ∨
  (∃ l0 a0 b0,g = .func (.yield l0) a0 b0) ∧ ∃ l f tmps assign body,(invoke d.target d.args).run P w = .ok (.round l f tmps assign body) w ∧ RoundIn F n P l f tmps assign body w (Ret P ι h w v h')) ∨
  (∀ l0 a0 b0,Value.func (.yield l0) a0 b0 ∉ args) ∧ ∃ v' w',(invoke d.target d.args).run P w = .ok (.value v') w' ∧ Ret P ι h w v h' (.returned v') w')
section
variable {sz:Nat} {f:FF} {a:Act} {o:Oper} {q:O} {v:Value} {h':Aa} {ws:List Nat} {F:Fence} {n:Nat} {cf:A0} {next:Act → World → Prop} {Q:Exit → Act → World → Prop}
theorem Ax9 {g:X} {args:List X} (ho:cO P o.op = some (.call g args)):∃ c g0,o.op = .call c ∧ c.callee = .value g0 ∧ cX g0 = some g ∧ cXs c.args.toList = some args:=by
 cases hop:o.op with
 | call c =>
  rw [hop] at ho;simp only [cO] at ho
  split at ho
  ·rename_i g0 a
   simp only [OM,OB,O.call.injEq] at ho
   obtain ⟨f,e,j,d,rfl,rfl⟩:=ho
   exact ⟨c,g0,rfl,a,e,d⟩
  ·cases ho
  ·exfalso
   (repeat' split at ho) <;> first | (cases ho;done) | (simp [OB,OM] at ho;done)
 | _ =>
  exfalso
  rw [hop] at ho
  simp only [cO] at ho
  first | (cases ho;done) | skip
  all_goals
   (repeat' split at ho) <;> first | (cases ho;done) | skip
  all_goals first | contradiction | (simp [OB,OM] at ho;done) | skip
theorem Aba (ho:cO P o.op = some q):∀ c,o.op ≠ .defer c:=by
 intro c e;rw [e] at ho;simp [cO] at ho
theorem Ay1 (hW:Wide F) (hcf:Ku P cf) (hs:Sim P ι h w) (hf:FFR ι sz f a.tmps) (ho:cO P o.op = some q) (hv:opN cf f h q = some (v,h',ws))
  (hn:∀ ι' w' v',St P ι h w ι' h' w' → Old ι h ι' → VR ι' v v' → next (a.put o.dst v') w'):o.wpIn F n P a w next Q:=by
 refine ⟨fun f _ => hW.fn f,?_⟩
 rw [Oper.semAt_plain F _ _ (Aba ho)]
 unfold opN at hv
 cases hc:cls q with
 | P =>
  rw [hc] at hv
  cases hp:Ax f q with
  | none => rw [hp] at hv;cases hv
  | some v0 =>
   rw [hp] at hv;simp only [OI,Prod.mk.injEq] at hv;obtain ⟨rfl,rfl,rfl⟩:=hv
   obtain ⟨v',j,h2⟩:=Axa (ι:=ι) (w:=w) hf ho hc hp
   rw [j];exact hn ι w v' (St.refl hs) (Old.refl _ _) h2
 | M =>
  rw [hc] at hv
  cases hp:Fw f h q with
  | none => rw [hp] at hv;cases hv
  | some v0 =>
   rw [hp] at hv;simp only [OI,Prod.mk.injEq] at hv;obtain ⟨rfl,rfl,rfl⟩:=hv
   obtain ⟨v',j,h2⟩:=A0g hs hf ho hc hp
   rw [j];exact hn ι w v' (St.refl hs) (Old.refl _ _) h2
 | A =>
  rw [hc] at hv
  cases hp:Jh f q with
  | none => rw [hp] at hv;cases hv
  | some nw =>
   rw [hp] at hv;simp only [OI,Prod.mk.injEq] at hv;obtain ⟨rfl,rfl,rfl⟩:=hv
   obtain ⟨wd,O,m,v',j,h2,h3,h4⟩:=Aud (w:=w) hf ho hc hp
   rw [h2]
   obtain ⟨h5,h6⟩:=h4 h.length (hs.dom _ (Nat.le_refl _))
   have u:=St.quiet hs j
   have a4:=St.push (P:=P) u.sim (o:=nw.1) (O:=O) (m:=m) (by rw [h3,j.heap]) (fun _ => h5)
   exact hn _ _ v' (u.trans a4) (Old.put _ _ _) h6
 | S =>
  rw [hc] at hv
  cases q <;> first | (simp [cls] at hc;done) | skip
  simp only at hv
  split at hv
  ·rename_i t
   simp only [OI,Prod.mk.injEq] at hv;obtain ⟨rfl,rfl,rfl⟩:=hv
   obtain ⟨w',j,h2⟩:=Arz hs hf ho t
   rw [j];exact hn ι w' undef h2 (Old.refl _ _) VR.undef
  ·cases hv
 | C =>
  rw [hc] at hv
  cases q <;> first | (simp [cls] at hc;done) | skip
  rename_i g args
  simp only at hv
  obtain ⟨c,g0,a5,a0,hg,a3⟩:=Ax9 ho
  obtain ⟨d,hd,y⟩:=hcf _ _ _ _ _ _ hv F (n - 1) hW ι w (a.eval g0) (c.args.toList.map a.eval) hs (Av hf hg) (Vt hf a3)
  have r:(resolve a.eval c o.type).run P w = .ok d w:=by
   simp only [resolve,a0]
   have:(c.args.toList.map a.eval).toArray = c.args.map a.eval:=by apply Array.ext';simp
   rw [this] at hd;exact hd
  have a2:(execOp a.eval o).run P w = (invoke d.target d.args).run P w:=by
   simp only [execOp,a5,Sem.run_bind,r,Result.andThen_ok]
  rw [a2]
  rcases y with (⟨fn,as,j,h2⟩ | ⟨_,l,fn,tmps,a1,a6,j,h2⟩) | ⟨_,vr,wr,j,h2⟩
  ·rw [j,Oper.uponIn_enter]
   refine ⟨(fun z => by rw [hW.depth] at z;cases z),h2.mono fun e w' t => ?_⟩
   obtain ⟨ι',v',rfl,p,s,x⟩:=t
   exact hn ι' w' v' p s x
  ·rw [j,Oper.uponIn_round]
   refine ⟨(fun z => by rw [hW.depth] at z;cases z),h2.mono fun e w' t => ?_⟩
   obtain ⟨ι',v',rfl,p,s,x⟩:=t
   exact hn ι' w' v' p s x
  ·rw [j,Oper.uponIn_value]
   obtain ⟨ι',v',e,p,s,x⟩:=h2
   cases e
   exact hn ι' wr vr p s x
 | E =>
  rw [hc] at hv
  obtain ⟨ι',w',nx,j,h2,h3,h4⟩:=A0z hs hf ho hc hv
  rw [j]
  rcases h4 with ⟨rfl,rfl⟩ | ⟨v',rfl,h5⟩
  ·exact hn ι' w' undef h2 h3 VR.undef
  ·exact hn ι' w' v' h2 h3 h5
end
end Go.L
