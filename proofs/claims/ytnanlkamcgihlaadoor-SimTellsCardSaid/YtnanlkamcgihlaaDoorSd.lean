/- THE LOGICAL MACHINE AND THE MODEL: operations that lay a block. -/
import Derived.Test.YtnanlkamcgihlaaDoorSc
import Derived.Laws.IdiomCopy
import Derived.Laws.AppendOwn
set_option linter.unusedVariables false
set_option linter.unusedSimpArgs false
namespace Go.L
open Go
variable {P:Program} {ι : Inj} {h:Aa} {w:World}
structure Quiet (w w':World):Prop where
 heap:w'.heap = w.heap
 os:w'.os = w.os
 tape:w'.tape = w.tape
 output:w'.output = w.output
theorem Quiet.refl (w:World):Quiet w w:=⟨rfl,rfl,rfl,rfl⟩
theorem Quiet.drew (w:World):Quiet w w.drew:=⟨rfl,rfl,rfl,rfl⟩
def Afc (P:Program) (ι : Inj) (a:Act) (o:Oper) (ob:LObj) (vf:Nat → Value) (w:World):Prop :=
 ∃ wd O m v',Quiet w wd ∧ (execOp a.eval o).run P w = .ok (.value v') (wd.alloc O) ∧ m.rb = w.heap.size ∧ ∀ b,ι b = none → ObjR P (ι.put b m) (wd.alloc O) m ob ∧ VR (ι.put b m) (vf b) v'
theorem Ag6 {ι':Inj} {wd:World} {c c' rest:List Value} (hc:VRs ι' c c') (ho:c.all Ag = true) (t:TypeId):ObjR P ι' (wd.alloc (.cells (c' ++ rest).toArray t)) ⟨wd.heap.size,0,c'.length + rest.length⟩ (.cells c false):=by
 have g:=hc.length
 refine .cells (arr:=(c' ++ rest).toArray) (t:=t) (fz:=(0,0)) ?_ (by simp) (by simp;omega) ?_ ?_ ho
 ·exact Ms
 ·intro i v f
  obtain ⟨r,d,a⟩:=hc.at_ f
  have e:i < c'.length:=by rcases Nat.lt_or_ge i c'.length with h | h;exact h;rw [List.getElem?_eq_none h] at d;cases d
  exact ⟨r,by simp [GL e,d],a⟩
 ·intro _ i _ _ h;simp at h
theorem Pz {a:Act} {o:Oper} {wd:World} {c c' rest:List Value} {t:TypeId} {vf:Nat → Value} {v':Value} (hq:Quiet w wd) (hc:VRs ι c c') (ho:c.all Ag = true)
  (hr:(execOp a.eval o).run P w = .ok (.value v') (wd.alloc (.cells (c' ++ rest).toArray t))) (hv:∀ b (ι':Inj),ι' b = some ⟨w.heap.size,0,c'.length + rest.length⟩ → VR ι' (vf b) v'):Afc P ι a o (.cells c false) vf w:=by
 refine ⟨wd,_,⟨w.heap.size,0,c'.length + rest.length⟩,v',hq,hr,rfl,fun b d => ⟨?_,hv b _ (Inj.put_same _ _ _)⟩⟩
 have:=Ag6 (P:=P) (wd:=wd) (rest:=rest) (VRs.mono (Inj.put_sub d ⟨w.heap.size,0,c'.length + rest.length⟩) hc) ho t
 rw [hq.heap] at this
 exact this
section
variable {sz:Nat} {f:FF} {a:Act} {o:Oper} {q:O} {nw:New}
theorem Md {c:List Value} {vf:Nat → Value} (h:Ab c vf = some nw):c.all Ag = true ∧ nw = (.cells c false,vf):=by
 unfold Ab at h
 split at h
 ·rename_i e;simp only [OI] at h;exact ⟨e,h.symm⟩
 ·cases h
theorem W6 (z:List Value) (n:Nat):((Array.range (n * z.length)).map fun i => z.toArray[i % z.length]!) = (List.replicate n z).flatten.toArray:=by
 apply Array.ext'
 simp only [Array.toList_map,Array.toList_range]
 induction n with
 | zero => simp
 | succ n ih =>
  rw [List.replicate_succ',List.flatten_append,Nat.succ_mul,List.range_add,List.map_append,ih]
  congr 1
  apply List.ext_getElem?
  intro i
  simp only [List.map_map,List.flatten_cons,List.flatten_nil,List.append_nil,List.getElem?_map]
  rcases Nat.lt_or_ge i z.length with hi | hi
  ·simp [hi,Nat.mod_eq_of_lt hi,Nat.mul_add_mod']
  ·simp [List.getElem?_eq_none hi,hi]
theorem J8 {t n:Nat} {z:List Value} (h:Ic P t n = some z):z.length = n ∧ z.all (Ae 0 4) = true ∧ ∃ zv,(∀ w,(zeroValue t).run P w = .ok zv w) ∧ zv.cells = z.toArray ∧ ∃ i,P.info? t = some i ∧ i.zero = some zv:=by
 unfold Ic at h
 simp only [OB] at h
 obtain ⟨f,a,h⟩:=h
 split at h
 ·rename_i d
  simp only [OI] at h;subst h
  unfold Q8 at a
  simp only [OM,OB] at a
  obtain ⟨zv,⟨i,e,c⟩,rfl⟩:=a
  exact ⟨d.1,d.2,zv,fun w => by simp [zeroValue,Sem.run_bind,run_typeInfo w e,Result.andThen,c],by rw [← P9],i,e,c⟩
 ·cases h
theorem Axo {t n:Nat} {z:List Value} (hz:Ic P t n = some z) (ho:o.op = .alloc t) (hv:Jh f (.all z) = some nw):Afc P ι a o nw.1 nw.2 w:=by
 simp only [Jh] at hv
 obtain ⟨c,rfl⟩:=Md hv
 obtain ⟨_,e,j,g,d,_⟩:=J8 hz
 refine Pz (rest:=[]) (t:=t) (Quiet.refl w) (VRs.self (ι:=ι) e) c (v':=.pointer (some ⟨w.heap.size,0,none⟩)) ?_ fun b ι' hb => ?_
 ·simp only [execOp,ho]
  simp [Instr.alloc,newVar,newRow,Sem.run_bind,g,Result.andThen,d]
 ·exact VR.ptr (m:=⟨w.heap.size,0,_⟩) 0 hb
theorem Axp {t:Nat} (hT:A07 P = some t) (hz:Ic P t 2 = some [.pointer none,.slice none 0 0]) (ho:o.op = .alloc t) (hv:Jh f .alb = some nw):Afc P ι a o nw.1 nw.2 w:=by
 simp only [Jh,OI] at hv
 subst hv
 obtain ⟨_,e,g,d,c,_⟩:=J8 hz
 refine ⟨w,.cells #[.pointer none,.slice none 0 0] t (0,0),⟨w.heap.size,0,2⟩,.pointer (some ⟨w.heap.size,0,none⟩),Quiet.refl w,?_,rfl,fun b j => ⟨.bld Ms hT rfl (.inl rfl) rfl,VR.ptr (m:=⟨w.heap.size,0,_⟩) 0 (Inj.put_same _ _ _)⟩⟩
 simp only [execOp,ho]
 simp [Instr.alloc,newVar,newRow,Sem.run_bind,d,Result.andThen,c]
theorem Axn {t:Nat} {x:Operand} (hf:FFR ι sz f a.tmps) (ho:o.op = .box t x) {x':X} (hx:cX x = some x') (hv:Jh f (.box x') = some nw):Afc P ι a o nw.1 nw.2 w:=by
 simp only [Jh] at hv
 obtain ⟨c,rfl⟩:=Md hv
 have d:=Uo (Av hf hx) (Rq c)
 refine Pz (rest:=[]) (t:=t) (Quiet.refl w) d c (v':=.pointer (some ⟨w.heap.size,0,none⟩)) ?_ fun b ι' hb => ?_
 ·simp only [execOp,ho]
  simp [Instr.box,newVar,newRow,Sem.run_bind,Result.andThen]
 ·exact VR.ptr (m:=⟨w.heap.size,0,_⟩) 0 hb
theorem Axm {t e size n:Nat} {ps:Array (Nat × Operand)} {qs:List (Nat × Nat × X)} {z:List Value} (he:Mz P t = some (e,size)) (hz:Ic P e size = some z) (hq:Oy (fun i => some (i * size,size)) ps.toList = some qs)
  (hf:FFR ι sz f a.tmps) (ho:o.op = .buildSlice t n ps) (hv:Jh f (.bsl size z n qs) = some nw):Afc P ι a o nw.1 nw.2 w:=by
 simp only [Jh] at hv
 split at hv
 ·rename_i a2
  simp only [OB] at hv
  obtain ⟨c,hc,hv⟩:=hv
  obtain ⟨j,rfl⟩:=Md hv
  obtain ⟨g,s,zv,a0,v,_⟩:=J8 hz
  unfold Mz at he
  split at he
  ·rename_i e0 hu
   simp only [OM,Prod.mk.injEq] at he
   obtain ⟨s0,y,rfl,rfl⟩:=he
   have a1:VRs ι (List.replicate n z).flatten (List.replicate n z).flatten:=(All2.replicate n (VRs.self (ι:=ι) s)).flatten
   obtain ⟨r',d,hr⟩:=Vp hf hq a1 hc
   refine Pz (rest:=[]) (t:=e0) (Quiet.refl w) hr j (v':=.slice (some ⟨w.heap.size,0,none⟩) n n) ?_ fun b ι' hb => ?_
   ·simp only [execOp,ho]
    refine D5 _ ?_
    have e2:(ps.map fun x => (x.1,a.eval x.2)).toList = ps.toList.map fun p => (p.1,a.eval p.2):=by simp
    have r:¬ (n * s0 > 2 ^ 24):=by omega
    simp only [Instr.buildSlice,Sem.run_bind,run_underlying hu,Result.andThen_ok,Dz y,r,if_false]
    by_cases u:n * s0 = 0
    ·have l:(List.replicate n z).flatten = []:=by
      apply List.eq_nil_of_length_eq_zero;simp [g,u]
     rw [l] at d
     simp only [u,if_true,Sem.run_bind,Sem.run_pure,Result.andThen_ok,Array.range_zero',Array.map_empty,e2,d]
     simp [newRow,Sem.run_bind,Result.andThen]
    ·have hm:=W6 z n
     simp only [u,if_false,Sem.run_bind,a0,Sem.run_pure,Result.andThen_ok,v,e2,List.size_toArray]
     rw [g] at hm
     rw [g,hm,d]
     simp [newRow,Sem.run_bind,Result.andThen]
   ·exact VR.slice (m:=⟨w.heap.size,0,_⟩) 0 n n hb
  ·cases he
 ·cases hv
theorem Axk {t e size:Nat} {n c:Operand} {z:List Value} (he:Mz P t = some (e,size)) (hz:Ic P e size = some z)
  (hf:FFR ι sz f a.tmps) (ho:o.op = .makeSlice t n c) {n' c':X} (hn:cX n = some n') (hc:cX c = some c') (hv:Jh f (.msl z (P.bytesOf e) n' c') = some nw):Afc P ι a o nw.1 nw.2 w:=by
 simp only [Jh] at hv
 split at hv
 ·rename_i ni j en ec
  have rn:=Av hf hn
  have rc:=Av hf hc
  rw [en] at rn;rw [ec] at rc
  split at hv
  ·rename_i p
   obtain ⟨l,rfl⟩:=Md hv
   obtain ⟨s,v,zv,a5,x,i,u,a3⟩:=J8 hz
   unfold Mz at he
   split at he
   ·rename_i y hu
    simp only [OM,Prod.mk.injEq] at he
    obtain ⟨s0,a2,rfl,rfl⟩:=he
    obtain ⟨i',r,a0⟩:=Mn a2
    rw [u] at r;cases r
    have a4:VRs ι (List.replicate j.toNat z).flatten (List.replicate j.toNat z).flatten:=(All2.replicate _ (VRs.self (ι:=ι) v)).flatten
    have a1:P.bytesOf y = i.bytes:=by simp [Program.bytesOf,u]
    have d:=run_make (P:=P) w t y i zv hu u a3 .i64 .i64 ni j p.1 p.2.1 (by rw [a1] at p;omega) (by omega)
    have g:madeCells zv.cells (j.toNat * i.size) = (List.replicate j.toNat z).flatten.toArray:=by
     rw [← W6 z j.toNat,s,a0,madeCells,x]
     simp [s]
    rw [g] at d
    refine Pz (rest:=[]) (t:=y) (Quiet.refl w) a4 l (v':=.slice (some ⟨w.heap.size,0,none⟩) ni.toNat j.toNat) ?_ fun b ι' p => ?_
    ·simp only [execOp,ho,rn.int_inv,rc.int_inv]
     refine D5 _ ?_
     simpa using d
    ·exact VR.slice (m:=⟨w.heap.size,0,_⟩) 0 _ _ p
   ·cases he
  ·cases hv
 ·cases hv
theorem Axl {t:Nat} (ho:o.op = .makeMap t none) (hv:Jh f .mkm = some nw):Afc P ι a o nw.1 nw.2 w:=by
 simp only [Jh,OI] at hv;subst hv
 refine ⟨w,.map #[] 0,⟨w.heap.size,0,0⟩,.map (some w.heap.size),Quiet.refl w,?_,rfl,fun b c => ⟨?_,?_⟩⟩
 ·simp only [execOp,ho]
  simp [Instr.makeMap,Sem.run_bind,Result.andThen]
 ·exact .map (es':=#[]) (clock:=0) Ms .nil
 ·exact VR.map (m:=⟨w.heap.size,0,0⟩) (Inj.put_same _ _ _)
theorem Ae7 (w:World) (arr:Array Value) (t:TypeId):(w.alloc (.cells arr t)).freeze { block:=w.heap.size,off:=arr.size } 1 = w.alloc (.cells arr t (arr.size,arr.size + 1)):=by
 have:(w.heap.push (.cells arr t (0,0))).modify w.heap.size (fun
   | .cells c elem (lo,hi) => .cells c elem (if lo == hi then (arr.size,arr.size + 1) else (min lo arr.size,max hi (arr.size + 1)))
   | o => o) = w.heap.push (.cells arr t (arr.size,arr.size + 1)):=by
  apply Array.ext_getElem?
  intro i
  rw [Array.getElem?_modify,Array.getElem?_push,Array.getElem?_push]
  by_cases e:i = w.heap.size
  ·subst e;simp
  ·rw [if_neg (Ne.symm e),if_neg e,if_neg e]
 simp only [World.freeze,World.alloc]
 rw [if_neg (by omega)]
 exact congrArg (fun h => ({ w with heap:=h }:World)) this
theorem Axj {s e:Nat} {t:Nat} {x:Operand} (hu:P.underlying t = some .string) (hd:P.underlying s = some (.slice e)) (he:P.underlying e = some (.int .u8)) (hf:FFR ι sz f a.tmps) (ho:o.op = .convert t s x)
  {x':X} (hx:cX x = some x') (hv:Jh f (.s2b x') = some nw):Afc P ι a o nw.1 nw.2 w:=by
 have rx:=Av hf hx
 simp only [Jh] at hv
 split at hv
 ·rename_i c es
  rw [es] at rx
  split at hv <;> try (cases hv;done)
  rename_i a1
  simp only [OI] at hv;subst hv
  have n:=grownCap_ge w c.size 0 e
  have a0:grownCap w c.size 0 e ≤ 9223372036854775807:=by have:=grownCap_le_maxLen w c.size 0 e (by unfold maxLen;omega);unfold maxLen at this;omega
  have u:VRs ι (c.data.toList.map fun b => Value.int .u8 (b.toNat:Int)) (c.data.toList.map fun b => Value.int .u8 (b.toNat:Int)):=VRs.self (by rw [List.all_eq_true];intro v hv;simp at hv;obtain ⟨b,_,rfl⟩:=hv;rfl)
  obtain ⟨arr,d⟩:∃ arr:Array Value,arr = (c.data.map fun b => Value.int .u8 (b.toNat:Int)) ++ Array.replicate (grownCap w c.size 0 e - c.size) (.int .u8 0):=⟨_,rfl⟩
  have j:c.data.size = c.size:=rfl
  have l:arr.size = grownCap w c.size 0 e:=by
   simp [d,j];omega
  refine ⟨w.drew,.cells arr e (arr.size,arr.size + 1),⟨w.heap.size,0,arr.size⟩,.slice (some ⟨w.heap.size,0,none⟩) c.size (grownCap w c.size 0 e),Quiet.drew w,?_,rfl,fun b hb => ⟨?_,?_⟩⟩
  ·simp only [execOp,ho,rx.string_inv]
   refine D5 _ ?_
   have h2:(Question.appendCap c.size 0 e).forced = false:=rfl
   have y:(w.drew.alloc (.cells arr e)).shape? w.drew.heap.size = some (e,arr.size):=by
    unfold World.shape?
    rw [Ms]
   have p:=Ae7 w.drew arr e
   have h3:(Conv.stringToBytes e c).run P w = .ok (.slice (some ⟨w.heap.size,0,none⟩) c.size (grownCap w c.size 0 e)) (w.drew.alloc (.cells arr e (arr.size,arr.size + 1))):=by
    simp only [Conv.stringToBytes,Sem.run_bind,run_choose_drew,h2,Bool.false_eq_true,if_false,Result.andThen_ok,newRow,run_newObj_alloc,Sem.run_pure,markStringish,run_shape]
    have g:(Array.map (fun b => Value.int IntKind.u8 (b.toNat:Int)) c.data ++ Array.replicate ((Question.appendCap c.size 0 e).cut (w.tape w.drawn (Question.appendCap c.size 0 e)) - c.size) (Value.int IntKind.u8 0)) = arr:=d.symm
    rw [g,y]
    simp only [run_freeze,Result.andThen_ok,p]
    rfl
   simp only [convert,Sem.run_bind,run_underlying hu,run_underlying hd,run_underlying he,Result.andThen_ok]
   exact h3
  ·refine .cells (arr:=arr) (t:=e) (fz:=(arr.size,arr.size + 1)) Ms rfl (by simp [l,j];omega) ?_ ?_ (by rw [List.all_eq_true];intro v hv;simp at hv;obtain ⟨b,_,rfl⟩:=hv;rfl)
   ·intro i v hv
    obtain ⟨r,hr,z⟩:=(VRs.mono (Inj.put_sub hb ⟨w.heap.size,0,arr.size⟩) u).at_ hv
    refine ⟨r,?_,z⟩
    have hi:i < c.data.size:=by
     have:=(GI.1 hr).1;simpa using this
    rw [d,Nat.zero_add,Array.getElem?_append_left (by simpa using hi)]
    rw [← hr];simp
   ·intro h0;cases h0
  ·exact VR.loose (m:=⟨w.heap.size,0,arr.size⟩) 0 1 _ _ (Inj.put_same _ _ _) ⟨n,a0⟩ (by simp [l])
 ·cases hv
theorem Aud (hf:FFR ι sz f a.tmps) (ho:cO P o.op = some q) (hc:cls q = .A) (hv:Jh f q = some nw):Afc P ι a o nw.1 nw.2 w:=by
 cases hop:o.op with
 | alloc t =>
  rw [hop] at ho;simp only [cO] at ho
  split at ho
  ·rename_i s
   split at ho
   ·rename_i d
    simp only [OI] at ho;subst ho;exact Axp s d hop hv
   ·cases ho
  ·simp only [OM,OB] at ho;obtain ⟨n,p,z,d,rfl⟩:=ho;exact Axo d hop hv
 | box t x => rw [hop] at ho;simp only [cO,OM] at ho;obtain ⟨m,g,rfl⟩:=ho;exact Axn hf hop g hv
 | buildSlice t n ps => rw [hop] at ho;simp only [cO,OM,OB] at ho;obtain ⟨⟨e,l⟩,j,z,d,qs,hq,rfl⟩:=ho;exact Axm j d hq hf hop hv
 | makeSlice t n c => rw [hop] at ho;simp only [cO,OM,OB] at ho;obtain ⟨⟨e,l⟩,j,z,d,n',p,c',hcc,rfl⟩:=ho;exact Axk j d hf hop p hcc hv
 | makeMap t r =>
  rw [hop] at ho
  cases r <;> simp only [cO] at ho
  ·simp only [OI] at ho;subst ho;exact Axl hop hv
  ·cases ho
 | convert src dst x =>
  rw [hop] at ho;simp only [cO] at ho
  split at ho
  ·simp only [OM] at ho;obtain ⟨m,g,rfl⟩:=ho;simp [cls] at hc
  ·simp only [OM] at ho;obtain ⟨m,g,rfl⟩:=ho;simp [cls] at hc
  ·split at ho
   ·simp only [OM] at ho;obtain ⟨m,g,rfl⟩:=ho;simp [cls] at hc
   ·cases ho
  ·rename_i v u
   split at ho
   ·rename_i j
    simp only [OM] at ho;obtain ⟨m,g,rfl⟩:=ho;exact Axj v u j hf hop g hv
   ·cases ho
  ·cases ho
 | _ =>
  exfalso
  rw [hop] at ho
  simp only [cO] at ho
  first | (cases ho;done) | skip
  all_goals
   (repeat' split at ho) <;> first | (cases ho;done) | skip
  all_goals
   cases q <;> first | (simp [cls] at hc;done) | skip
  all_goals first | contradiction | (simp [OB,OM] at ho;done) | skip
end
end Go.L
namespace Go.L
open Go
variable {P:Program} {ι : Inj} {h:Aa} {w:World}
theorem Pq (vs:List Value):∀ (c:List Value) (off i:Nat),(setCells c off vs)[i]? = if off ≤ i ∧ i < off + vs.length ∧ i < c.length then vs[i - off]? else c[i]?:=by
 induction vs with
 | nil => intro c off i;simp [setCells];omega
 | cons v r ih =>
  intro c off i
  simp only [setCells,ih,List.length_set,List.length_cons]
  by_cases e:i = off
  ·subst e
   rw [if_neg (by omega)]
   by_cases d:i < c.length
   ·rw [if_pos (by omega),List.getElem?_set_self d];simp
   ·rw [if_neg (by omega),List.getElem?_eq_none (by simp;omega),List.getElem?_eq_none (by omega)]
  ·rw [List.getElem?_set_ne (Ne.symm e)]
   by_cases a:off + 1 ≤ i ∧ i < off + 1 + r.length ∧ i < c.length
   ·rw [if_pos a,if_pos (by omega)]
    have:i - off = (i - (off + 1)) + 1:=by omega
    rw [this];rfl
   ·rw [if_neg a,if_neg (by omega)]
theorem Ajy {rb:Nat} {arr:Array Value} {t:TypeId} {fz:Nat × Nat} (hw:w.heap[rb]? = some (.cells arr t fz)) (o:Nat) (v:Value) :
  (w.setCell ⟨rb,o,none⟩ v).heap[rb]? = some (.cells (arr.toList.set o v).toArray t fz):=by
 have a:=(Array.getElem?_eq_some_iff.1 hw).1
 simp only [World.setCell]
 rw [Array.getElem?_modify]
 simp [hw]
 apply Array.ext'
 simp
theorem Abq {rb:Nat} (o:Nat) (v:Value) {x:Nat} (hx:x ≠ rb):(w.setCell ⟨rb,o,none⟩ v).heap[x]? = w.heap[x]?:=by
 simp only [World.setCell]
 rw [Array.getElem?_modify,if_neg (Ne.symm hx)]
theorem Rj {rb:Nat} {t:TypeId} {fz:Nat × Nat} (vs:List Value):∀ {arr:Array Value} {w:World} (hw:w.heap[rb]? = some (.cells arr t fz)) (o:Nat),
  (w.setCells rb o vs).heap[rb]? = some (.cells (setCells arr.toList o vs).toArray t fz) ∧ (w.setCells rb o vs).heap.size = w.heap.size ∧ (∀ x,x ≠ rb → (w.setCells rb o vs).heap[x]? = w.heap[x]?) ∧
  (w.setCells rb o vs).os = w.os ∧ (w.setCells rb o vs).tape = w.tape ∧ (w.setCells rb o vs).output = w.output:=by
 induction vs with
 | nil => intro arr w hw o;exact ⟨by simpa [World.setCells,setCells] using hw,rfl,fun _ _ => rfl,rfl,rfl,rfl⟩
 | cons v r ih =>
  intro arr w hw o
  have j:=Ajy hw o v
  obtain ⟨g,l,d,c,f,e⟩:=ih j (o + 1)
  refine ⟨by simpa [World.setCells,setCells] using g,l.trans (by simp [World.setCell]),fun x a => (d x a).trans (Abq o v a),c,f,e⟩
theorem oneCell' {v:Value} (h:Ag v = true):v.oneCell' = true:=by cases v <;> first | rfl | (simp [Ag] at h;done)
theorem Agw {l m:List Value} (h:VRs ι l m) (hl:l.all Ag = true):∀ v ∈ m,v.oneCell' = true:=by
 induction h with
 | nil => simp
 | cons h1 _ ih =>
  simp only [List.all_cons,Bool.and_eq_true] at hl
  intro v hv
  rcases List.mem_cons.1 hv with rfl | hv
  ·exact oneCell' (Xr h1 hl.1)
  ·exact ih hl.2 v hv
theorem Ad5 {vs:List Value}:∀ {c:List Value},c.all Ag = true → vs.all Ag = true → ∀ off,(setCells c off vs).all Ag = true:=by
 induction vs with
 | nil => intro c a _ off;exact a
 | cons v r ih =>
  intro c a d off
  simp only [List.all_cons,Bool.and_eq_true] at d
  refine ih ?_ d.2 (off + 1)
  rw [List.all_eq_true] at a ⊢
  intro x e
  rcases List.mem_or_eq_of_mem_set e with h | rfl
  ·exact a x h
  ·exact d.1
theorem Ts {rb:Nat} {arr:Array Value} {t:TypeId} {fz:Nat × Nat} (hw:w.heap[rb]? = some (.cells arr t fz)) {o:Nat} {vs:List Value} (hle:o + vs.length ≤ arr.size) (hf:∀ i,o ≤ i → i < o + vs.length → ¬ (fz.1 ≤ i ∧ i < fz.2))
  (h1:∀ v ∈ vs,v.oneCell' = true):(storeCells ⟨rb,o,none⟩ vs).run P w = .ok () (w.setCells rb o vs):=by
 have:=run_storeCells_cells (P:=P) rb o vs 0 w (fun j a => ?_) (fun j a => ?_) h1
 ·simpa using this
 ·simp only [World.cell?,hw]
  simp;omega
 ·have:=hf (o + j) (by omega) (by omega)
  obtain ⟨d,c⟩:=fz
  simp only [World.frozen?,hw,Nat.add_zero]
  simp only [Bool.and_eq_false_iff,decide_eq_false_iff_not]
  simp only at this
  omega
theorem Akj {m:Img} {c:List Value} (hr:ObjR P ι w m (.cells c false)) {off:Nat} {vs vs':List Value} (hle:off + vs.length ≤ c.length) (hv:VRs ι vs vs') (h1:vs.all Ag = true) :
  ∃ w',(storeCells ⟨m.rb,m.off + off,none⟩ vs').run P w = .ok () w' ∧ w'.heap.size = w.heap.size ∧ (∀ x,x ≠ m.rb → w'.heap[x]? = w.heap[x]?) ∧ w'.os = w.os ∧ w'.tape = w.tape ∧ w'.output = w.output ∧
   ObjR P ι w' m (.cells (setCells c off vs) false):=by
 cases hr with
 | cells hw hs hl hc hf ho =>
  rename_i o t fz
  have f:=hv.length
  obtain ⟨g,n,s,y,l,j⟩:=Rj vs' hw (m.off + off)
  refine ⟨_,Ts hw (by omega) (fun i z p => hf rfl i (by omega) (by omega)) (Agw hv h1),n,s,y,l,j,.cells g (by simp [Li,hs]) (by rw [Li];exact hl) ?_ hf (Ad5 ho h1 off)⟩
  intro i v d
  rw [Pq] at d
  simp only [List.getElem?_toArray,Pq]
  split at d
  ·rename_i e
   obtain ⟨r,hr,a⟩:=hv.at_ d
   refine ⟨r,?_,a⟩
   rw [if_pos (by simp;omega),show m.off + i - (m.off + off) = i - off by omega]
   exact hr
  ·rename_i e
   obtain ⟨r,hr,a⟩:=hc i v d
   refine ⟨r,?_,a⟩
   have u:i < c.length:=(GI.1 d).1
   rw [if_neg (by omega)]
   simpa using hr
theorem Nv (hs:Sim P ι h w) {b:Nat} {c:List Value} {m:Img} (hb:h[b]? = some (.cells c false)) (hm:ι b = some m) {off:Nat} {vs vs':List Value} (hle:off + vs.length ≤ c.length) (hv:VRs ι vs vs') (h1:vs.all Ag = true) :
  ∃ w',(storeCells ⟨m.rb,m.off + off,none⟩ vs').run P w = .ok () w' ∧ St P ι h w ι (h.set b (.cells (setCells c off vs) false)) w':=by
 obtain ⟨p,a,n⟩:=hs.obj _ _ hb (by simp)
 rw [hm] at a;cases a
 obtain ⟨w',e,j,l,o,g,f,d⟩:=Akj n hle hv h1
 exact ⟨w',e,St.write hs hb rfl hm j l o g f (fun _ => d) (.inl rfl)⟩
section
variable {sz:Nat} {f:FF} {a:Act} {o:Oper} {q:O} {v:Value}
theorem Asf (s:Sem Unit) {w w':World} (h:s.run P w = .ok () w'):(do s;pure Next.skip:Sem Next).run P w = .ok .skip w':=by
 simp [Sem.run_bind,h,Result.andThen]
theorem Arz (hs:Sim P ι h w) (hf:FFR ι sz f a.tmps) {n:Nat} {xa xv:X} (ho:cO P o.op = some (.st n xa xv)) {h':Aa} {ws:List Nat} (hv:Fk n (ev f xa) (ev f xv) h = some (h',ws)) :
  ∃ w',(execOp a.eval o).run P w = .ok .skip w' ∧ St P ι h w ι h' w':=by
 cases hop:o.op with
 | store t x y =>
  rw [hop] at ho;simp only [cO,OM,OB,O.st.injEq] at ho
  obtain ⟨v,p,x',hx,y',hy,rfl,rfl,rfl⟩:=ho
  have j:=Av hf hx
  have s:=Av hf hy
  unfold Fk at hv
  split at hv
  ·rename_i ad e
   rw [e] at j
   obtain ⟨m,u,_,z⟩:=j.ptr_inv
   split at hv
   ·rename_i c hb
    split at hv
    ·rename_i g
     simp only [OI,Prod.mk.injEq] at hv
     obtain ⟨rfl,rfl⟩:=hv
     have d:=Uo s (Rq g.2.2)
     obtain ⟨w',l,r⟩:=Nv hs hb u (by rw [g.1];exact g.2.1) d g.2.2
     refine ⟨w',?_,r⟩
     simp only [execOp,hop,z]
     refine Asf _ ?_
     have hl:(a.eval y).cells.size = v:=by
      have:=d.length;simp at this;rw [← this];exact g.1
     simp only [Instr.storeAt,Instr.sureAddr,Sem.run_bind,Sem.run_pure,Result.andThen_ok,storeVar,Dz p,hl,ne_eq,not_true_eq_false,if_false]
     exact l
    ·cases hv
   ·cases hv
  ·cases hv
 | _ =>
  exfalso
  rw [hop] at ho
  simp only [cO] at ho
  first | (cases ho;done) | skip
  all_goals
   (repeat' split at ho) <;> first | (cases ho;done) | skip
  all_goals first | contradiction | (simp [OB,OM] at ho;done) | skip
end
end Go.L
namespace Go.L
open Go
variable {P:Program} {ι : Inj} {h:Aa} {w:World}
theorem St.kill (hs:Sim P ι h w) (b:Nat):St P ι h w ι (h.set b .dead) w:=by
 have c:∀ (x:Nat) (o:LObj),(h.set b LObj.dead)[x]? = some o → o ≠ LObj.dead → h[x]? = some o:=by
  intro x o a g
  by_cases e:x = b
  ·subst e
   rcases Nat.lt_or_ge x h.length with hl | hl
   ·rw [List.getElem?_set_self hl] at a;cases a;exact absurd rfl g
   ·rw [List.getElem?_eq_none (by simpa using hl)] at a;cases a
  ·rwa [List.getElem?_set_ne (Ne.symm e)] at a
 refine ⟨Sub.refl _,⟨fun x a => hs.dom x (by simpa using a),fun x o a g => hs.obj x o (c x o a g) g,hs.glob,?_⟩,Nat.le_refl _,rfl,rfl,rfl,fun _ _ _ => rfl,?_⟩
 ·intro x y l p u r a v f d t h2 j
  exact hs.inj x y l p u r (c x l a (LObj.live_of_wr f)) (c y p v d) f d t h2 j
 ·rintro z ⟨x,o,m,a,n,s,rfl⟩ _
  exact ⟨x,o,m,c x o a (LObj.live_of_wr n),n,s,rfl⟩
def Old (ι : Inj) (h:Aa) (ι':Inj):Prop:=∀ b,b < h.length → ι' b = ι b
theorem Old.refl (ι : Inj) (h:Aa):Old ι h ι:=fun _ _ => rfl
theorem Old.put (ι : Inj) (h:Aa) (m:Img):Old ι h (ι.put h.length m):=fun b hb => Inj.put_ne m (Nat.ne_of_lt hb)
def Afd (P:Program) (ι : Inj) (h:Aa) (a:Act) (o:Oper) (v:Value) (h':Aa) (w:World):Prop :=
 ∃ ι' w' nx,(execOp a.eval o).run P w = .ok nx w' ∧ St P ι h w ι' h' w' ∧ Old ι h ι' ∧ (nx = .skip ∧ v = undef ∨ ∃ v',nx = .value v' ∧ VR ι' v v')
theorem All2.modify {α β : Type} {R:α → β → Prop} {l:List α} {m:List β} (h:All2 R l m) (j:Nat) {a:α} {g:β → β} (hr:∀ b,m[j]? = some b → R a (g b)):All2 R (l.set j a) (m.modify j g):=by
 refine All2.of_at (by simp [h.length]) fun i x y c d => ?_
 rw [List.getElem?_modify] at d
 by_cases e:j = i
 ·subst e
  have n:j < l.length:=by have:=(GI.1 c).1;simpa using this
  rw [List.getElem?_set_self n] at c;cases c
  simp only [if_true,Option.map_eq_map,OM] at d
  obtain ⟨b,f,rfl⟩:=d
  exact hr b f
 ·rw [List.getElem?_set_ne e] at c
  simp [e] at d
  obtain ⟨b,f,o⟩:=h.at_ c
  rw [d] at f;cases f;exact o
theorem All2.eraseIdx {α β : Type} {R:α → β → Prop} {l:List α} {m:List β} (h:All2 R l m):∀ (j:Nat),All2 R (l.eraseIdx j) (m.eraseIdx j):=by
 induction h with
 | nil => intro j;simpa using All2.nil
 | cons h1 t ih =>
  intro j
  cases j with
  | zero => simpa using t
  | succ j => simpa using All2.cons h1 (ih j)
def Zk:Value → Bool
 | .int _ _ | .string _ | .bool _ => true
 | _ => false
theorem L9 {k:SK} {x y:Value} {b:Bool} (h:Gj k x y = some b):Zk x = true:=by
 unfold Gj at h
 split at h <;> first | (cases h;done) | rfl
theorem U9 {k:SK}:∀ {n:Nat} {xs ys:List Value} {b:Bool},Dg k n xs ys = some b → xs.all Zk = true
 | 0,xs,ys,b,h => by unfold Dg at h;split at h <;> first | (cases h;done) | contradiction | rfl
 | n + 1,[],ys,b,h => by simp [Dg] at h
 | n + 1,x :: xs,[],b,h => by simp [Dg] at h
 | n + 1,x :: xs,y :: ys,b,h => by
  simp only [Dg,OB,OM] at h
  obtain ⟨c,e,d,a,_⟩:=h
  simp [L9 e,U9 a]
theorem Ps:∀ {l:List FK} {xs ys:List Value} {b:Bool},Ca l xs ys = some b → xs.all Zk = true
 | [],xs,ys,b,h => by unfold Ca at h;split at h <;> first | (cases h;done) | contradiction | rfl
 | .one k :: r,[],ys,b,h => by simp [Ca] at h
 | .one k :: r,x :: xs,[],b,h => by simp [Ca] at h
 | .one k :: r,x :: xs,y :: ys,b,h => by
  simp only [Ca,OB,OM] at h
  obtain ⟨c,e,d,a,_⟩:=h
  simp [L9 e,Ps a]
 | .arr n k :: r,xs,ys,b,h => by
  simp only [Ca,OB,OM] at h
  obtain ⟨c,e,d,a,_⟩:=h
  have f:=U9 e
  have h2:=Ps a
  rw [← List.take_append_drop n xs,List.all_append,f,h2];rfl
theorem ba_eq {a b:ByteArray}:(a == b) = true ↔ a = b:=by
 obtain ⟨a⟩:=a
 obtain ⟨b⟩:=b
 have:((⟨a⟩:ByteArray) == ⟨b⟩) = (a == b):=rfl
 rw [this,beq_iff_eq]
 exact ⟨fun h => by rw [h],fun h => by cases h;rfl⟩
theorem Pr {k:SK} {x y:Value} (h:Gj k x y = some true):x = y:=by
 unfold Gj at h
 split at h <;> first | (cases h;done) | skip
 ·split at h
  ·rename_i e;simp only [OI,beq_iff_eq] at h;rw [e,h]
  ·cases h
 ·simp only [OI] at h;rw [ba_eq.1 h]
 ·simp only [OI,beq_iff_eq] at h;rw [h]
theorem Zl {k:SK}:∀ {n:Nat} {xs ys:List Value},Dg k n xs ys = some true → xs = ys
 | 0,xs,ys,h => by unfold Dg at h;split at h <;> first | (cases h;done) | contradiction | rfl
 | n + 1,[],ys,h => by simp [Dg] at h
 | n + 1,x :: xs,[],h => by simp [Dg] at h
 | n + 1,x :: xs,y :: ys,h => by
  simp only [Dg,OB,OM,Bool.and_eq_true] at h
  obtain ⟨c,e,d,a,rfl,rfl⟩:=h
  rw [Pr e,Zl a]
theorem T2:∀ {l:List FK} {xs ys:List Value},Ca l xs ys = some true → xs = ys
 | [],xs,ys,h => by unfold Ca at h;split at h <;> first | (cases h;done) | contradiction | rfl
 | .one k :: r,[],ys,h => by simp [Ca] at h
 | .one k :: r,x :: xs,[],h => by simp [Ca] at h
 | .one k :: r,x :: xs,y :: ys,h => by
  simp only [Ca,OB,OM,Bool.and_eq_true] at h
  obtain ⟨c,e,d,a,rfl,rfl⟩:=h
  rw [Pr e,T2 a]
 | .arr n k :: r,xs,ys,h => by
  simp only [Ca,OB,OM,Bool.and_eq_true] at h
  obtain ⟨c,e,d,a,rfl,rfl⟩:=h
  rw [← List.take_append_drop n xs,← List.take_append_drop n ys,Zl e,T2 a]
theorem Ad8 {q:EqK} {k x:Value} (h:B3 q k x = some true):x = k ∧ Instr.sameBits 10000 k k = true:=by
 have c:∀ (n:Nat) v,Zk v = true → Instr.sameBits n v v = true:=by
  intro n v g
  cases v <;> first | (simp [Zk] at g;done) | (cases n <;> simp [Instr.sameBits,ba_eq])
 unfold B3 at h
 split at h
 ·exact ⟨(Pr h).symm,c _ _ (L9 h)⟩
 ·exact ⟨(Pr h).symm,c _ _ (L9 h)⟩
 ·rename_i xs j
  have e:=T2 h
  have o:xs = j:=Array.ext' e
  subst o
  refine ⟨rfl,?_⟩
  have a:=Ps h
  have:Instr.sameBits (9999 + 1) (.agg xs) (.agg xs) = (xs.size == xs.size && (xs.toList.zip xs.toList).all fun (x,y) => Instr.sameBits 9999 x y):=rfl
  rw [this]
  simp only [beq_self_eq_true,Bool.true_and]
  rw [List.all_eq_true] at a ⊢
  rintro ⟨u,v⟩ d
  have:u = v ∧ u ∈ xs.toList:=by
   have f:∀ l:List Value,(u,v) ∈ l.zip l → u = v ∧ u ∈ l:=by
    intro l
    induction l with
    | nil => simp
    | cons y l ih =>
     intro hm
     simp only [List.zip_cons_cons,List.mem_cons,Prod.mk.injEq] at hm
     rcases hm with ⟨rfl,rfl⟩ | hm
     ·exact ⟨rfl,by simp⟩
     ·exact ⟨(ih hm).1,by simp [(ih hm).2]⟩
   exact f _ d
  obtain ⟨rfl,m⟩:=this
  exact c _ _ (a u m)
 ·cases h
theorem Aj1 {rb:Nat} {o o':Obj} (hw:w.heap[rb]? = some o) (ho:∀ c t f,o ≠ .cells c t f):(setObj rb o').run P w = .ok () { w with heap:=w.heap.setIfInBounds rb o' }:=by
 cases o with
 | cells c t f => exact absurd rfl (ho c t f)
 | _ => simp only [setObj,Sem.run,hw]
theorem Wd (hs:Sim P ι h w) {b:Nat} {es es2:List (Value × Value)} {m:Img} (hb:h[b]? = some (.map es)) (hm:ι b = some m) {es2':Array MapEntry} {clock:Nat}
  (he:All2 (fun e (e':MapEntry) => e.1 = e'.key ∧ VR ι e.2 e'.val) es2 es2'.toList):∃ w',(setObj m.rb (.map es2' clock)).run P w = .ok () w' ∧ St P ι h w ι (h.set b (.map es2)) w':=by
 obtain ⟨g,a,d⟩:=hs.obj _ _ hb (by simp)
 rw [hm] at a;cases a
 cases d with
 | map hw he' =>
  have f:=(Array.getElem?_eq_some_iff.1 hw).1
  refine ⟨_,Aj1 hw (by simp),St.write hs hb rfl hm (by simp) (fun rb c => ?_) rfl rfl rfl (fun _ => .map (es':=es2') (clock:=clock) ?_ he) (.inl rfl)⟩
  ·simp only [Array.getElem?_setIfInBounds_ne (Ne.symm c)]
  ·simp [f]
section
variable {sz:Nat} {f:FF} {a:Act} {o:Oper} {q:O} {v:Value} {h':Aa} {ws:List Nat}
theorem A2m {t kt e:TypeId} {m k x:Operand} {qk:EqK} (hs:Sim P ι h w) (hu:P.underlying t = some (.map kt e)) (hq:Ab9 P kt = some qk) (hf:FFR ι sz f a.tmps) (ho:o.op = .mapUpdate t m k x)
  {m' k' x':X} (hm:cX m = some m') (hk:cX k = some k') (hx:cX x = some x') (hv:Mg f h (.mup qk m' k' x') = some (v,h',ws)):Afd P ι h a o v h' w:=by
 have rm:=Av hf hm
 have rk:=Av hf hk
 have rx:=Av hf hx
 simp only [Mg] at hv
 split at hv
 ·rename_i rb e1
  rw [e1] at rm
  obtain ⟨mi,y,a1⟩:=rm.map_inv
  split at hv
  ·rename_i es s
   split at hv
   ·rename_i d
    simp only [OM,Prod.mk.injEq] at hv
    obtain ⟨es2,c,rfl,rfl,rfl⟩:=hv
    have ek:=Aak d rk
    obtain ⟨m2,a0,z⟩:=hs.obj _ _ s (by simp)
    rw [y] at a0;cases a0
    cases z with
    | map hw he =>
     rename_i g clock
     have n:(getObj mi.rb).run P w = .ok (.map g clock) w:=by simp [getObj,Sem.run,hw]
     have a2:=Pu hq d false w
     have a4:∃ r,find qk (ev f k') es = some r:=by
      have:∀ (l:List (Value × Value)) l2 u,Oh qk (ev f k') u l = some l2 → ∃ r,find qk (ev f k') l = some r:=by
       intro l
       induction l with
       | nil => intro l2 u _;exact ⟨none,rfl⟩
       | cons p l ih =>
        intro l2 u hp
        simp only [Oh,OB] at hp
        obtain ⟨b,s,hp⟩:=hp
        cases b with
        | true => exact ⟨some p.2,by simp [find,s]⟩
        | false =>
         simp only [Bool.false_eq_true,if_false,OM] at hp
         obtain ⟨l3,h3,_⟩:=hp
         obtain ⟨r,hr⟩:=ih l3 u h3
         exact ⟨r,by simp [find,s,hr]⟩
      exact this es es2 _ c
     obtain ⟨r,hr⟩:=a4
     rcases Ny hq d he hr w with ⟨rfl,h1,h2,_⟩ | ⟨v0,j,v',rfl,h1,h2,h3,h4,_,e0,h5,h6⟩
     ·rw [h2] at c
      simp only [OI] at c
      obtain ⟨w',s1,s2⟩:=Wd hs s y (es2:=es2) (es2':=g.push { key:=ev f k',val:=a.eval x,born:=clock }) (clock:=clock + 1) (by
       rw [← c,Array.toList_push];exact he.append (.cons ⟨rfl,rx⟩ .nil))
      refine ⟨ι,w',.skip,?_,s2,Old.refl _ _,.inl ⟨rfl,rfl⟩⟩
      simp only [execOp,ho,a1,ek]
      refine Asf _ ?_
      simp only [Instr.mapUpdate,Sem.run_bind,run_underlying hu,Result.andThen_ok,n,a2,h1,s1]
     ·rw [h4] at c
      simp only [OI] at c
      obtain ⟨e5,e6⟩:=Ad8 h6
      obtain ⟨w',s1,s2⟩:=Wd hs s y (es2:=es2) (es2':=g.modify j fun e => { e with key:=ev f k',val:=a.eval x }) (clock:=clock) (by
       rw [← c,Array.toList_modify];exact he.modify j fun b s => ⟨rfl,rx⟩)
      refine ⟨ι,w',.skip,?_,s2,Old.refl _ _,.inl ⟨rfl,rfl⟩⟩
      have a3:((g[j]?).map (·.key)).getD (ev f k') = ev f k':=by
       have:g[j]? = some e0:=by rw [← h5];simp
       rw [this];exact e5
      simp only [execOp,ho,a1,ek]
      refine Asf _ ?_
      simp only [Instr.mapUpdate,Sem.run_bind,run_underlying hu,Result.andThen_ok,n,a2,h1,a3,Instr.keyThatStays,e6,if_true,Sem.run_pure,s1]
   ·cases hv
  ·cases hv
 ·cases hv
end
end Go.L
