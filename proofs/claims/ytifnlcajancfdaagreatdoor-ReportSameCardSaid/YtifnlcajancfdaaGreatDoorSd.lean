/- THE LOGICAL MACHINE AND THE MODEL: operations that lay a block. -/
import Derived.Test.YtifnlcajancfdaaGreatDoorSc
import Derived.Laws.IdiomCopy
import Derived.Laws.AppendOwn
set_option linter.unusedVariables false
set_option linter.unusedSimpArgs false
namespace Go.L
open Go
variable {P:Program} {ι : Inj} {h:Aa} {w:World}
structure Quiet (w w':World):Prop where
 heap:w'.heap=w.heap
 os:w'.os=w.os
 tape:w'.tape=w.tape
 output:w'.output=w.output
theorem Quiet.refl (w:World):Quiet w w:=⟨rfl,rfl,rfl,rfl⟩
theorem Quiet.drew (w:World):Quiet w w.drew:=⟨rfl,rfl,rfl,rfl⟩
def Lays (P:Program) (ι : Inj) (a:Act) (o:Oper) (ob:LObj) (vf:Nat→Value) (w:World):Prop :=
 ∃ wd O m v',Quiet w wd∧(execOp a.eval o).run P w = .ok (.value v') (wd.alloc O)∧m.rb=w.heap.size∧∀ b,ι b=none→ObjR P (ι.put b m) (wd.alloc O) m ob∧VR (ι.put b m) (vf b) v'
theorem Aim {ι':Inj} {wd:World} {c c' rest:List Value} (hc:VRs ι' c c') (ho:c.all Ah=true) (t:TypeId):ObjR P ι' (wd.alloc (.cells (c'++rest).toArray t)) ⟨wd.heap.size,0,c'.length+rest.length⟩ (.cells c false):=by
 have hl:=hc.length
 refine .cells (arr:=(c'++rest).toArray) (t:=t) (fz:=(0,0)) ?_ (by simp) (by simp;omega) ?_ ?_ ho
 ·exact Lh
 ·intro i v hv
  obtain ⟨r,hr,hvr⟩:=hc.at_ hv
  have hi:i<c'.length:=by rcases Nat.lt_or_ge i c'.length with h | h;exact h;rw [List.getElem?_eq_none h] at hr;cases hr
  exact ⟨r,by simp [GL hi,hr],hvr⟩
 ·intro _ i _ _ h;simp at h
theorem Qm {a:Act} {o:Oper} {wd:World} {c c' rest:List Value} {t:TypeId} {vf:Nat→Value} {v':Value} (hq:Quiet w wd) (hc:VRs ι c c') (ho:c.all Ah=true)
  (hr:(execOp a.eval o).run P w = .ok (.value v') (wd.alloc (.cells (c'++rest).toArray t))) (hv:∀ b (ι':Inj),ι' b=some ⟨w.heap.size,0,c'.length+rest.length⟩→VR ι' (vf b) v'):Lays P ι a o (.cells c false) vf w:=by
 refine ⟨wd,_,⟨w.heap.size,0,c'.length+rest.length⟩,v',hq,hr,rfl,fun b hb => ⟨?_,hv b _ (Inj.put_same _ _ _)⟩⟩
 have:=Aim (P:=P) (wd:=wd) (rest:=rest) (VRs.mono (Inj.put_sub hb ⟨w.heap.size,0,c'.length+rest.length⟩) hc) ho t
 rw [hq.heap] at this
 exact this
section
variable {sz:Nat} {f:FF} {a:Act} {o:Oper} {q:O} {nw:New}
theorem Mo {c:List Value} {vf:Nat→Value} (h:Ac c vf=some nw):c.all Ah=true∧nw=(.cells c false,vf):=by
 unfold Ac at h
 split at h
 ·rename_i e;simp only [OI] at h;exact ⟨e,h.symm⟩
 ·cases h
theorem X3 (z:List Value) (n:Nat):((Array.range (n * z.length)).map fun i => z.toArray[i % z.length]!)=(List.replicate n z).flatten.toArray:=by
 apply Array.ext'
 simp only [Array.toList_map,Array.toList_range]
 induction n with
 | zero => simp
 | succ n ih =>
  rw [List.replicate_succ',List.flatten_append,Nat.succ_mul,List.range_add,List.map_append,ih]
  congr 1
  apply List.ext_getElem?
  intro i
  simp only [List.map_map,List.flatten_cons,List.flatten_nil,List.append_nil,List.getElem?_map]
  rcases Nat.lt_or_ge i z.length with hi | hi
  ·simp [hi,Nat.mod_eq_of_lt hi,Nat.mul_add_mod']
  ·simp [List.getElem?_eq_none hi,hi]
theorem Kj {t n:Nat} {z:List Value} (h:Ij P t n=some z):z.length=n∧z.all (Ae 0 4)=true∧∃ zv,(∀ w,(zeroValue t).run P w = .ok zv w)∧zv.cells=z.toArray∧∃ i,P.info? t=some i∧i.zero=some zv:=by
 unfold Ij at h
 simp only [OB] at h
 obtain ⟨z0,hz0,h⟩:=h
 split at h
 ·rename_i hh
  simp only [OI] at h;subst h
  unfold Ru at hz0
  simp only [OM,OB] at hz0
  obtain ⟨zv,⟨i,hi,hz⟩,rfl⟩:=hz0
  exact ⟨hh.1,hh.2,zv,fun w => by simp [zeroValue,Sem.run_bind,run_typeInfo w hi,Result.andThen,hz],by rw [← Qs],i,hi,hz⟩
 ·cases h
theorem A0j {t n:Nat} {z:List Value} (hz:Ij P t n=some z) (ho:o.op = .alloc t) (hv:Jq f (.all z)=some nw):Lays P ι a o nw.1 nw.2 w:=by
 simp only [Jq] at hv
 obtain ⟨hone,rfl⟩:=Mo hv
 obtain ⟨_,hzn,zv,hzr,hzc,_⟩:=Kj hz
 refine Qm (rest:=[]) (t:=t) (Quiet.refl w) (VRs.self (ι:=ι) hzn) hone (v':=.pointer (some ⟨w.heap.size,0,none⟩)) ?_ fun b ι' hb => ?_
 ·simp only [execOp,ho]
  simp [Instr.alloc,newVar,newRow,Sem.run_bind,hzr,Result.andThen,hzc]
 ·exact VR.ptr (m:=⟨w.heap.size,0,_⟩) 0 hb
theorem A0k {t:Nat} (hT:Ax3 P=some t) (hz:Ij P t 2=some [.pointer none,.slice none 0 0]) (ho:o.op = .alloc t) (hv:Jq f .alb=some nw):Lays P ι a o nw.1 nw.2 w:=by
 simp only [Jq,OI] at hv
 subst hv
 obtain ⟨_,hzn,zv,hzr,hzc,_⟩:=Kj hz
 refine ⟨w,.cells #[.pointer none,.slice none 0 0] t (0,0),⟨w.heap.size,0,2⟩,.pointer (some ⟨w.heap.size,0,none⟩),Quiet.refl w,?_,rfl,fun b hb => ⟨.bld Lh hT rfl (.inl rfl) rfl,VR.ptr (m:=⟨w.heap.size,0,_⟩) 0 (Inj.put_same _ _ _)⟩⟩
 simp only [execOp,ho]
 simp [Instr.alloc,newVar,newRow,Sem.run_bind,hzr,Result.andThen,hzc]
theorem A0i {t:Nat} {x:Operand} (hf:FFR ι sz f a.tmps) (ho:o.op = .box t x) {x':X} (hx:cX x=some x') (hv:Jq f (.box x')=some nw):Lays P ι a o nw.1 nw.2 w:=by
 simp only [Jq] at hv
 obtain ⟨hone,rfl⟩:=Mo hv
 have hc:=Vc (Au hf hx) (Se hone)
 refine Qm (rest:=[]) (t:=t) (Quiet.refl w) hc hone (v':=.pointer (some ⟨w.heap.size,0,none⟩)) ?_ fun b ι' hb => ?_
 ·simp only [execOp,ho]
  simp [Instr.box,newVar,newRow,Sem.run_bind,Result.andThen]
 ·exact VR.ptr (m:=⟨w.heap.size,0,_⟩) 0 hb
theorem A0h {t e size n:Nat} {ps:Array (Nat × Operand)} {qs:List (Nat × Nat × X)} {z:List Value} (he:Nm P t=some (e,size)) (hz:Ij P e size=some z) (hq:Pa (fun i => some (i * size,size)) ps.toList=some qs)
  (hf:FFR ι sz f a.tmps) (ho:o.op = .buildSlice t n ps) (hv:Jq f (.bsl size z n qs)=some nw):Lays P ι a o nw.1 nw.2 w:=by
 simp only [Jq] at hv
 split at hv
 ·rename_i hle
  simp only [OB] at hv
  obtain ⟨c,hc,hv⟩:=hv
  obtain ⟨hone,rfl⟩:=Mo hv
  obtain ⟨hzl,hzn,zv,hzr,hzc,_⟩:=Kj hz
  unfold Nm at he
  split at he
  ·rename_i e0 hu
   simp only [OM,Prod.mk.injEq] at he
   obtain ⟨s0,hs0,rfl,rfl⟩:=he
   have hzz:VRs ι (List.replicate n z).flatten (List.replicate n z).flatten:=(All2.replicate n (VRs.self (ι:=ι) hzn)).flatten
   obtain ⟨r',hfill,hr⟩:=Wg hf hq hzz hc
   refine Qm (rest:=[]) (t:=e0) (Quiet.refl w) hr hone (v':=.slice (some ⟨w.heap.size,0,none⟩) n n) ?_ fun b ι' hb => ?_
   ·simp only [execOp,ho]
    refine D5 _ ?_
    have e2:(ps.map fun x => (x.1,a.eval x.2)).toList=ps.toList.map fun p => (p.1,a.eval p.2):=by simp
    have hlt:¬ (n * s0 > 2 ^ 24):=by omega
    simp only [Instr.buildSlice,Sem.run_bind,run_underlying hu,Result.andThen_ok,Dz hs0,hlt,if_false]
    by_cases h0:n * s0=0
    ·have hnil:(List.replicate n z).flatten=[]:=by
      apply List.eq_nil_of_length_eq_zero;simp [hzl,h0]
     rw [hnil] at hfill
     simp only [h0,if_true,Sem.run_bind,Sem.run_pure,Result.andThen_ok,Array.range_zero',Array.map_empty,e2,hfill]
     simp [newRow,Sem.run_bind,Result.andThen]
    ·have hm:=X3 z n
     simp only [h0,if_false,Sem.run_bind,hzr,Sem.run_pure,Result.andThen_ok,hzc,e2,List.size_toArray]
     rw [hzl] at hm
     rw [hzl,hm,hfill]
     simp [newRow,Sem.run_bind,Result.andThen]
   ·exact VR.slice (m:=⟨w.heap.size,0,_⟩) 0 n n hb
  ·cases he
 ·cases hv
theorem A0f {t e size:Nat} {n c:Operand} {z:List Value} (he:Nm P t=some (e,size)) (hz:Ij P e size=some z)
  (hf:FFR ι sz f a.tmps) (ho:o.op = .makeSlice t n c) {n' c':X} (hn:cX n=some n') (hc:cX c=some c') (hv:Jq f (.msl z (P.bytesOf e) n' c')=some nw):Lays P ι a o nw.1 nw.2 w:=by
 simp only [Jq] at hv
 split at hv
 ·rename_i ni ci en ec
  have rn:=Au hf hn
  have rc:=Au hf hc
  rw [en] at rn;rw [ec] at rc
  split at hv
  ·rename_i hb
   obtain ⟨hone,rfl⟩:=Mo hv
   obtain ⟨hzl,hzn,zv,hzr,hzc,i,hi,hiz⟩:=Kj hz
   unfold Nm at he
   split at he
   ·rename_i e0 hu
    simp only [OM,Prod.mk.injEq] at he
    obtain ⟨s0,hs0,rfl,rfl⟩:=he
    obtain ⟨i',hi',hs'⟩:=Mz hs0
    rw [hi] at hi';cases hi'
    have hzz:VRs ι (List.replicate ci.toNat z).flatten (List.replicate ci.toNat z).flatten:=(All2.replicate _ (VRs.self (ι:=ι) hzn)).flatten
    have hby:P.bytesOf e0=i.bytes:=by simp [Program.bytesOf,hi]
    have hrun:=run_make (P:=P) w t e0 i zv hu hi hiz .i64 .i64 ni ci hb.1 hb.2.1 (by rw [hby] at hb;omega) (by omega)
    have hmade:madeCells zv.cells (ci.toNat * i.size)=(List.replicate ci.toNat z).flatten.toArray:=by
     rw [← X3 z ci.toNat,hzl,hs',madeCells,hzc]
     simp [hzl]
    rw [hmade] at hrun
    refine Qm (rest:=[]) (t:=e0) (Quiet.refl w) hzz hone (v':=.slice (some ⟨w.heap.size,0,none⟩) ni.toNat ci.toNat) ?_ fun b ι' hb => ?_
    ·simp only [execOp,ho,rn.int_inv,rc.int_inv]
     refine D5 _ ?_
     simpa using hrun
    ·exact VR.slice (m:=⟨w.heap.size,0,_⟩) 0 _ _ hb
   ·cases he
  ·cases hv
 ·cases hv
theorem A0g {t:Nat} (ho:o.op = .makeMap t none) (hv:Jq f .mkm=some nw):Lays P ι a o nw.1 nw.2 w:=by
 simp only [Jq,OI] at hv;subst hv
 refine ⟨w,.map #[] 0,⟨w.heap.size,0,0⟩,.map (some w.heap.size),Quiet.refl w,?_,rfl,fun b hb => ⟨?_,?_⟩⟩
 ·simp only [execOp,ho]
  simp [Instr.makeMap,Sem.run_bind,Result.andThen]
 ·exact .map (es':=#[]) (clock:=0) Lh .nil
 ·exact VR.map (m:=⟨w.heap.size,0,0⟩) (Inj.put_same _ _ _)
theorem Agp (w:World) (arr:Array Value) (t:TypeId):(w.alloc (.cells arr t)).freeze { block:=w.heap.size,off:=arr.size } 1=w.alloc (.cells arr t (arr.size,arr.size+1)):=by
 have:(w.heap.push (.cells arr t (0,0))).modify w.heap.size (fun
   | .cells c elem (lo,hi) => .cells c elem (if lo == hi then (arr.size,arr.size+1) else (min lo arr.size,max hi (arr.size+1)))
   | o => o)=w.heap.push (.cells arr t (arr.size,arr.size+1)):=by
  apply Array.ext_getElem?
  intro i
  rw [Array.getElem?_modify,Array.getElem?_push,Array.getElem?_push]
  by_cases e:i=w.heap.size
  ·subst e;simp
  ·rw [if_neg (Ne.symm e),if_neg e,if_neg e]
 simp only [World.freeze,World.alloc]
 rw [if_neg (by omega)]
 exact congrArg (fun h => ({ w with heap:=h }:World)) this
theorem A0e {s e:Nat} {t:Nat} {x:Operand} (hu:P.underlying t=some .string) (hd:P.underlying s=some (.slice e)) (he:P.underlying e=some (.int .u8)) (hf:FFR ι sz f a.tmps) (ho:o.op = .convert t s x)
  {x':X} (hx:cX x=some x') (hv:Jq f (.s2b x')=some nw):Lays P ι a o nw.1 nw.2 w:=by
 have rx:=Au hf hx
 simp only [Jq] at hv
 split at hv
 ·rename_i str es
  rw [es] at rx
  split at hv<;>try (cases hv;done)
  rename_i hss
  simp only [OI] at hv;subst hv
  have hge:=grownCap_ge w str.size 0 e
  have hmx:grownCap w str.size 0 e≤9223372036854775807:=by have:=grownCap_le_maxLen w str.size 0 e (by unfold maxLen;omega);unfold maxLen at this;omega
  have hcs:VRs ι (str.data.toList.map fun b => Value.int .u8 (b.toNat:Int)) (str.data.toList.map fun b => Value.int .u8 (b.toNat:Int)):=VRs.self (by rw [List.all_eq_true];intro v hv;simp at hv;obtain ⟨b,_,rfl⟩:=hv;rfl)
  obtain ⟨arr,harr⟩:∃ arr:Array Value,arr=(str.data.map fun b => Value.int .u8 (b.toNat:Int))++Array.replicate (grownCap w str.size 0 e - str.size) (.int .u8 0):=⟨_,rfl⟩
  have hsd:str.data.size=str.size:=rfl
  have hsz:arr.size=grownCap w str.size 0 e:=by
   simp [harr,hsd];omega
  refine ⟨w.drew,.cells arr e (arr.size,arr.size+1),⟨w.heap.size,0,arr.size⟩,.slice (some ⟨w.heap.size,0,none⟩) str.size (grownCap w str.size 0 e),Quiet.drew w,?_,rfl,fun b hb => ⟨?_,?_⟩⟩
  ·simp only [execOp,ho,rx.string_inv]
   refine D5 _ ?_
   have h2:(Question.appendCap str.size 0 e).forced=false:=rfl
   have hsh:(w.drew.alloc (.cells arr e)).shape? w.drew.heap.size=some (e,arr.size):=by
    unfold World.shape?
    rw [Lh]
   have hfr:=Agp w.drew arr e
   have h3:(Conv.stringToBytes e str).run P w = .ok (.slice (some ⟨w.heap.size,0,none⟩) str.size (grownCap w str.size 0 e)) (w.drew.alloc (.cells arr e (arr.size,arr.size+1))):=by
    simp only [Conv.stringToBytes,Sem.run_bind,run_choose_drew,h2,Bool.false_eq_true,if_false,Result.andThen_ok,newRow,run_newObj_alloc,Sem.run_pure,markStringish,run_shape]
    have harr':(Array.map (fun b => Value.int IntKind.u8 (b.toNat:Int)) str.data++Array.replicate ((Question.appendCap str.size 0 e).cut (w.tape w.drawn (Question.appendCap str.size 0 e)) - str.size) (Value.int IntKind.u8 0))=arr:=harr.symm
    rw [harr',hsh]
    simp only [run_freeze,Result.andThen_ok,hfr]
    rfl
   simp only [convert,Sem.run_bind,run_underlying hu,run_underlying hd,run_underlying he,Result.andThen_ok]
   exact h3
  ·refine .cells (arr:=arr) (t:=e) (fz:=(arr.size,arr.size+1)) Lh rfl (by simp [hsz,hsd];omega) ?_ ?_ (by rw [List.all_eq_true];intro v hv;simp at hv;obtain ⟨b,_,rfl⟩:=hv;rfl)
   ·intro i v hv
    obtain ⟨r,hr,hvr⟩:=(VRs.mono (Inj.put_sub hb ⟨w.heap.size,0,arr.size⟩) hcs).at_ hv
    refine ⟨r,?_,hvr⟩
    have hi:i<str.data.size:=by
     have:=(GI.1 hr).1;simpa using this
    rw [harr,Nat.zero_add,Array.getElem?_append_left (by simpa using hi)]
    rw [← hr];simp
   ·intro h0;cases h0
  ·exact VR.loose (m:=⟨w.heap.size,0,arr.size⟩) 0 1 _ _ (Inj.put_same _ _ _) ⟨hge,hmx⟩ (by simp [hsz])
 ·cases hv
theorem Awc (hf:FFR ι sz f a.tmps) (ho:cO P o.op=some q) (hc:cls q = .A) (hv:Jq f q=some nw):Lays P ι a o nw.1 nw.2 w:=by
 cases hop:o.op with
 | alloc t =>
  rw [hop] at ho;simp only [cO] at ho
  split at ho
  ·rename_i hT
   split at ho
   ·rename_i hz
    simp only [OI] at ho;subst ho;exact A0k hT hz hop hv
   ·cases ho
  ·simp only [OM,OB] at ho;obtain ⟨n,hn,z,hz,rfl⟩:=ho;exact A0j hz hop hv
 | box t x => rw [hop] at ho;simp only [cO,OM] at ho;obtain ⟨x',hx,rfl⟩:=ho;exact A0i hf hop hx hv
 | buildSlice t n ps => rw [hop] at ho;simp only [cO,OM,OB] at ho;obtain ⟨⟨e,size⟩,he,z,hz,qs,hq,rfl⟩:=ho;exact A0h he hz hq hf hop hv
 | makeSlice t n c => rw [hop] at ho;simp only [cO,OM,OB] at ho;obtain ⟨⟨e,size⟩,he,z,hz,n',hn,c',hcc,rfl⟩:=ho;exact A0f he hz hf hop hn hcc hv
 | makeMap t r =>
  rw [hop] at ho
  cases r<;>simp only [cO] at ho
  ·simp only [OI] at ho;subst ho;exact A0g hop hv
  ·cases ho
 | convert src dst x =>
  rw [hop] at ho;simp only [cO] at ho
  split at ho
  ·simp only [OM] at ho;obtain ⟨x',hx,rfl⟩:=ho;simp [cls] at hc
  ·simp only [OM] at ho;obtain ⟨x',hx,rfl⟩:=ho;simp [cls] at hc
  ·split at ho
   ·simp only [OM] at ho;obtain ⟨x',hx,rfl⟩:=ho;simp [cls] at hc
   ·cases ho
  ·rename_i hu hd
   split at ho
   ·rename_i he
    simp only [OM] at ho;obtain ⟨x',hx,rfl⟩:=ho;exact A0e hu hd he hf hop hx hv
   ·cases ho
  ·cases ho
 | _ =>
  exfalso
  rw [hop] at ho
  simp only [cO] at ho
  first | (cases ho;done) | skip
  all_goals
   (repeat' split at ho)<;>first | (cases ho;done) | skip
  all_goals
   cases q<;>first | (simp [cls] at hc;done) | skip
  all_goals first | contradiction | (simp [OB,OM] at ho;done) | skip
end
end Go.L
namespace Go.L
open Go
variable {P:Program} {ι : Inj} {h:Aa} {w:World}
theorem Qb (vs:List Value):∀ (c:List Value) (off i:Nat),(setCells c off vs)[i]? = if off≤i∧i<off+vs.length∧i<c.length then vs[i - off]? else c[i]?:=by
 induction vs with
 | nil => intro c off i;simp [setCells];omega
 | cons v r ih =>
  intro c off i
  simp only [setCells,ih,List.length_set,List.length_cons]
  by_cases e:i=off
  ·subst e
   rw [if_neg (by omega)]
   by_cases hl:i<c.length
   ·rw [if_pos (by omega),List.getElem?_set_self hl];simp
   ·rw [if_neg (by omega),List.getElem?_eq_none (by simp;omega),List.getElem?_eq_none (by omega)]
  ·rw [List.getElem?_set_ne (Ne.symm e)]
   by_cases h1:off+1≤i∧i<off+1+r.length∧i<c.length
   ·rw [if_pos h1,if_pos (by omega)]
    have:i - off=(i - (off+1))+1:=by omega
    rw [this];rfl
   ·rw [if_neg h1,if_neg (by omega)]
theorem Ak6 {rb:Nat} {arr:Array Value} {t:TypeId} {fz:Nat × Nat} (hw:w.heap[rb]? = some (.cells arr t fz)) (o:Nat) (v:Value) :
  (w.setCell ⟨rb,o,none⟩ v).heap[rb]? = some (.cells (arr.toList.set o v).toArray t fz):=by
 have hl:=(Array.getElem?_eq_some_iff.1 hw).1
 simp only [World.setCell]
 rw [Array.getElem?_modify]
 simp [hw]
 apply Array.ext'
 simp
theorem Ac5 {rb:Nat} (o:Nat) (v:Value) {x:Nat} (hx:x≠rb):(w.setCell ⟨rb,o,none⟩ v).heap[x]? = w.heap[x]?:=by
 simp only [World.setCell]
 rw [Array.getElem?_modify,if_neg (Ne.symm hx)]
theorem R6 {rb:Nat} {t:TypeId} {fz:Nat × Nat} (vs:List Value):∀ {arr:Array Value} {w:World} (hw:w.heap[rb]? = some (.cells arr t fz)) (o:Nat),
  (w.setCells rb o vs).heap[rb]? = some (.cells (setCells arr.toList o vs).toArray t fz)∧(w.setCells rb o vs).heap.size=w.heap.size∧(∀ x,x≠rb→(w.setCells rb o vs).heap[x]? = w.heap[x]?) ∧
  (w.setCells rb o vs).os=w.os∧(w.setCells rb o vs).tape=w.tape∧(w.setCells rb o vs).output=w.output:=by
 induction vs with
 | nil => intro arr w hw o;exact ⟨by simpa [World.setCells,setCells] using hw,rfl,fun _ _ => rfl,rfl,rfl,rfl⟩
 | cons v r ih =>
  intro arr w hw o
  have h1:=Ak6 hw o v
  obtain ⟨i1,i2,i3,i4,i5,i6⟩:=ih h1 (o+1)
  refine ⟨by simpa [World.setCells,setCells] using i1,i2.trans (by simp [World.setCell]),fun x hx => (i3 x hx).trans (Ac5 o v hx),i4,i5,i6⟩
theorem oneCell' {v:Value} (h:Ah v=true):v.oneCell'=true:=by cases v<;>first | rfl | (simp [Ah] at h;done)
theorem Aid {l m:List Value} (h:VRs ι l m) (hl:l.all Ah=true):∀ v∈m,v.oneCell'=true:=by
 induction h with
 | nil => simp
 | cons h1 _ ih =>
  simp only [List.all_cons,Bool.and_eq_true] at hl
  intro v hv
  rcases List.mem_cons.1 hv with rfl | hv
  ·exact oneCell' (Yu h1 hl.1)
  ·exact ih hl.2 v hv
theorem Afh {vs:List Value}:∀ {c:List Value},c.all Ah=true→vs.all Ah=true→∀ off,(setCells c off vs).all Ah=true:=by
 induction vs with
 | nil => intro c hc _ off;exact hc
 | cons v r ih =>
  intro c hc hv off
  simp only [List.all_cons,Bool.and_eq_true] at hv
  refine ih ?_ hv.2 (off+1)
  rw [List.all_eq_true] at hc ⊢
  intro x hx
  rcases List.mem_or_eq_of_mem_set hx with h | rfl
  ·exact hc x h
  ·exact hv.1
theorem Ug {rb:Nat} {arr:Array Value} {t:TypeId} {fz:Nat × Nat} (hw:w.heap[rb]? = some (.cells arr t fz)) {o:Nat} {vs:List Value} (hle:o+vs.length≤arr.size) (hf:∀ i,o≤i→i<o+vs.length→¬ (fz.1≤i∧i<fz.2))
  (h1:∀ v∈vs,v.oneCell'=true):(storeCells ⟨rb,o,none⟩ vs).run P w = .ok () (w.setCells rb o vs):=by
 have:=run_storeCells_cells (P:=P) rb o vs 0 w (fun j hj => ?_) (fun j hj => ?_) h1
 ·simpa using this
 ·simp only [World.cell?,hw]
  simp;omega
 ·have:=hf (o+j) (by omega) (by omega)
  obtain ⟨f1,f2⟩:=fz
  simp only [World.frozen?,hw,Nat.add_zero]
  simp only [Bool.and_eq_false_iff,decide_eq_false_iff_not]
  simp only at this
  omega
theorem Alx {m:Img} {c:List Value} (hr:ObjR P ι w m (.cells c false)) {off:Nat} {vs vs':List Value} (hle:off+vs.length≤c.length) (hv:VRs ι vs vs') (h1:vs.all Ah=true) :
  ∃ w',(storeCells ⟨m.rb,m.off+off,none⟩ vs').run P w = .ok () w'∧w'.heap.size=w.heap.size∧(∀ x,x≠m.rb→w'.heap[x]? = w.heap[x]?)∧w'.os=w.os∧w'.tape=w.tape∧w'.output=w.output ∧
   ObjR P ι w' m (.cells (setCells c off vs) false):=by
 cases hr with
 | cells hw hs hl hc hf ho =>
  rename_i arr t fz
  have hlen:=hv.length
  obtain ⟨k1,k2,k3,k4,k5,k6⟩:=R6 vs' hw (m.off+off)
  refine ⟨_,Ug hw (by omega) (fun i hi1 hi2 => hf rfl i (by omega) (by omega)) (Aid hv h1),k2,k3,k4,k5,k6,.cells k1 (by simp [Lr,hs]) (by rw [Lr];exact hl) ?_ hf (Afh ho h1 off)⟩
  intro i v hi
  rw [Qb] at hi
  simp only [List.getElem?_toArray,Qb]
  split at hi
  ·rename_i hc1
   obtain ⟨r,hr,hvr⟩:=hv.at_ hi
   refine ⟨r,?_,hvr⟩
   rw [if_pos (by simp;omega),show m.off+i - (m.off+off)=i - off by omega]
   exact hr
  ·rename_i hc1
   obtain ⟨r,hr,hvr⟩:=hc i v hi
   refine ⟨r,?_,hvr⟩
   have hil:i<c.length:=(GI.1 hi).1
   rw [if_neg (by omega)]
   simpa using hr
theorem N9 (hs:Sim P ι h w) {b:Nat} {c:List Value} {m:Img} (hb:h[b]? = some (.cells c false)) (hm:ι b=some m) {off:Nat} {vs vs':List Value} (hle:off+vs.length≤c.length) (hv:VRs ι vs vs') (h1:vs.all Ah=true) :
  ∃ w',(storeCells ⟨m.rb,m.off+off,none⟩ vs').run P w = .ok () w'∧St P ι h w ι (h.set b (.cells (setCells c off vs) false)) w':=by
 obtain ⟨m',hm',hr⟩:=hs.obj _ _ hb (by simp)
 rw [hm] at hm';cases hm'
 obtain ⟨w',k1,k2,k3,k4,k5,k6,k7⟩:=Alx hr hle hv h1
 exact ⟨w',k1,St.write hs hb rfl hm k2 k3 k4 k5 k6 (fun _ => k7) (.inl rfl)⟩
section
variable {sz:Nat} {f:FF} {a:Act} {o:Oper} {q:O} {v:Value}
theorem Aub (s:Sem Unit) {w w':World} (h:s.run P w = .ok () w'):(do s;pure Next.skip:Sem Next).run P w = .ok .skip w':=by
 simp [Sem.run_bind,h,Result.andThen]
theorem Atv (hs:Sim P ι h w) (hf:FFR ι sz f a.tmps) {n:Nat} {xa xv:X} (ho:cO P o.op=some (.st n xa xv)) {h':Aa} {ws:List Nat} (hv:Ik n (ev f xa) (ev f xv) h=some (h',ws)) :
  ∃ w',(execOp a.eval o).run P w = .ok .skip w'∧St P ι h w ι h' w':=by
 cases hop:o.op with
 | store t x y =>
  rw [hop] at ho;simp only [cO,OM,OB,O.st.injEq] at ho
  obtain ⟨n',hn,x',hx,y',hy,rfl,rfl,rfl⟩:=ho
  have rx:=Au hf hx
  have ry:=Au hf hy
  unfold Ik at hv
  split at hv
  ·rename_i ad e
   rw [e] at rx
   obtain ⟨m,hm,_,hr⟩:=rx.ptr_inv
   split at hv
   ·rename_i c hb
    split at hv
    ·rename_i hc
     simp only [OI,Prod.mk.injEq] at hv
     obtain ⟨rfl,rfl⟩:=hv
     have hcv:=Vc ry (Se hc.2.2)
     obtain ⟨w',k1,k2⟩:=N9 hs hb hm (by rw [hc.1];exact hc.2.1) hcv hc.2.2
     refine ⟨w',?_,k2⟩
     simp only [execOp,hop,hr]
     refine Aub _ ?_
     have hl:(a.eval y).cells.size=n':=by
      have:=hcv.length;simp at this;rw [← this];exact hc.1
     simp only [Instr.storeAt,Instr.sureAddr,Sem.run_bind,Sem.run_pure,Result.andThen_ok,storeVar,Dz hn,hl,ne_eq,not_true_eq_false,if_false]
     exact k1
    ·cases hv
   ·cases hv
  ·cases hv
 | _ =>
  exfalso
  rw [hop] at ho
  simp only [cO] at ho
  first | (cases ho;done) | skip
  all_goals
   (repeat' split at ho)<;>first | (cases ho;done) | skip
  all_goals first | contradiction | (simp [OB,OM] at ho;done) | skip
end
end Go.L
namespace Go.L
open Go
variable {P:Program} {ι : Inj} {h:Aa} {w:World}
theorem St.kill (hs:Sim P ι h w) (b:Nat):St P ι h w ι (h.set b .dead) w:=by
 have old:∀ (x:Nat) (o:LObj),(h.set b LObj.dead)[x]? = some o→o≠LObj.dead→h[x]? = some o:=by
  intro x o hx hn
  by_cases e:x=b
  ·subst e
   rcases Nat.lt_or_ge x h.length with hl | hl
   ·rw [List.getElem?_set_self hl] at hx;cases hx;exact absurd rfl hn
   ·rw [List.getElem?_eq_none (by simpa using hl)] at hx;cases hx
  ·rwa [List.getElem?_set_ne (Ne.symm e)] at hx
 refine ⟨Sub.refl _,⟨fun x hx => hs.dom x (by simpa using hx),fun x o hx hn => hs.obj x o (old x o hx hn) hn,hs.glob,?_⟩,Nat.le_refl _,rfl,rfl,rfl,fun _ _ _ => rfl,?_⟩
 ·intro x y o1 o2 m1 m2 hx hy hw1 hl2 h1 h2 hne
  exact hs.inj x y o1 o2 m1 m2 (old x o1 hx (LObj.live_of_wr hw1)) (old y o2 hy hl2) hw1 hl2 h1 h2 hne
 ·rintro rb ⟨x,o,m,hx,hw,hm,rfl⟩ _
  exact ⟨x,o,m,old x o hx (LObj.live_of_wr hw),hw,hm,rfl⟩
def Old (ι : Inj) (h:Aa) (ι':Inj):Prop:=∀ b,b<h.length → ι' b = ι b
theorem Old.refl (ι : Inj) (h:Aa):Old ι h ι:=fun _ _ => rfl
theorem Old.put (ι : Inj) (h:Aa) (m:Img):Old ι h (ι.put h.length m):=fun b hb => Inj.put_ne m (Nat.ne_of_lt hb)
def Agv (P:Program) (ι : Inj) (h:Aa) (a:Act) (o:Oper) (v:Value) (h':Aa) (w:World):Prop :=
 ∃ ι' w' nx,(execOp a.eval o).run P w = .ok nx w'∧St P ι h w ι' h' w'∧Old ι h ι'∧(nx = .skip∧v=undef∨∃ v',nx = .value v'∧VR ι' v v')
theorem All2.modify {α β : Type} {R:α → β → Prop} {l:List α} {m:List β} (h:All2 R l m) (j:Nat) {a:α} {g:β → β} (hr:∀ b,m[j]? = some b→R a (g b)):All2 R (l.set j a) (m.modify j g):=by
 refine All2.of_at (by simp [h.length]) fun i x y hx hy => ?_
 rw [List.getElem?_modify] at hy
 by_cases e:j=i
 ·subst e
  have hl:j<l.length:=by have:=(GI.1 hx).1;simpa using this
  rw [List.getElem?_set_self hl] at hx;cases hx
  simp only [if_true,Option.map_eq_map,OM] at hy
  obtain ⟨b,hb,rfl⟩:=hy
  exact hr b hb
 ·rw [List.getElem?_set_ne e] at hx
  simp [e] at hy
  obtain ⟨b,hb,hR⟩:=h.at_ hx
  rw [hy] at hb;cases hb;exact hR
theorem All2.eraseIdx {α β : Type} {R:α → β → Prop} {l:List α} {m:List β} (h:All2 R l m):∀ (j:Nat),All2 R (l.eraseIdx j) (m.eraseIdx j):=by
 induction h with
 | nil => intro j;simpa using All2.nil
 | cons h1 t ih =>
  intro j
  cases j with
  | zero => simpa using t
  | succ j => simpa using All2.cons h1 (ih j)
def Aaw:Value→Bool
 | .int _ _ | .string _ | .bool _ => true
 | _ => false
theorem Mi {k:SK} {x y:Value} {b:Bool} (h:Gm k x y=some b):Aaw x=true:=by
 unfold Gm at h
 split at h<;>first | (cases h;done) | rfl
theorem V0 {k:SK}:∀ {n:Nat} {xs ys:List Value} {b:Bool},Df k n xs ys=some b→xs.all Aaw=true
 | 0,xs,ys,b,h => by unfold Df at h;split at h<;>first | (cases h;done) | contradiction | rfl
 | n+1,[],ys,b,h => by simp [Df] at h
 | n+1,x :: xs,[],b,h => by simp [Df] at h
 | n+1,x :: xs,y :: ys,b,h => by
  simp only [Df,OB,OM] at h
  obtain ⟨c,hc,d,hd,_⟩:=h
  simp [Mi hc,V0 hd]
theorem Qd:∀ {l:List FK} {xs ys:List Value} {b:Bool},Ca l xs ys=some b→xs.all Aaw=true
 | [],xs,ys,b,h => by unfold Ca at h;split at h<;>first | (cases h;done) | contradiction | rfl
 | .one k :: r,[],ys,b,h => by simp [Ca] at h
 | .one k :: r,x :: xs,[],b,h => by simp [Ca] at h
 | .one k :: r,x :: xs,y :: ys,b,h => by
  simp only [Ca,OB,OM] at h
  obtain ⟨c,hc,d,hd,_⟩:=h
  simp [Mi hc,Qd hd]
 | .arr n k :: r,xs,ys,b,h => by
  simp only [Ca,OB,OM] at h
  obtain ⟨c,hc,d,hd,_⟩:=h
  have h1:=V0 hc
  have h2:=Qd hd
  rw [← List.take_append_drop n xs,List.all_append,h1,h2];rfl
theorem ba_eq {a b:ByteArray}:(a == b)=true↔a=b:=by
 obtain ⟨a⟩:=a
 obtain ⟨b⟩:=b
 have:((⟨a⟩:ByteArray) == ⟨b⟩)=(a == b):=rfl
 rw [this,beq_iff_eq]
 exact ⟨fun h => by rw [h],fun h => by cases h;rfl⟩
theorem Qc {k:SK} {x y:Value} (h:Gm k x y=some true):x=y:=by
 unfold Gm at h
 split at h<;>first | (cases h;done) | skip
 ·split at h
  ·rename_i e;simp only [OI,beq_iff_eq] at h;rw [e,h]
  ·cases h
 ·simp only [OI] at h;rw [ba_eq.1 h]
 ·simp only [OI,beq_iff_eq] at h;rw [h]
theorem Aax {k:SK}:∀ {n:Nat} {xs ys:List Value},Df k n xs ys=some true→xs=ys
 | 0,xs,ys,h => by unfold Df at h;split at h<;>first | (cases h;done) | contradiction | rfl
 | n+1,[],ys,h => by simp [Df] at h
 | n+1,x :: xs,[],h => by simp [Df] at h
 | n+1,x :: xs,y :: ys,h => by
  simp only [Df,OB,OM,Bool.and_eq_true] at h
  obtain ⟨c,hc,d,hd,rfl,rfl⟩:=h
  rw [Qc hc,Aax hd]
theorem Uq:∀ {l:List FK} {xs ys:List Value},Ca l xs ys=some true→xs=ys
 | [],xs,ys,h => by unfold Ca at h;split at h<;>first | (cases h;done) | contradiction | rfl
 | .one k :: r,[],ys,h => by simp [Ca] at h
 | .one k :: r,x :: xs,[],h => by simp [Ca] at h
 | .one k :: r,x :: xs,y :: ys,h => by
  simp only [Ca,OB,OM,Bool.and_eq_true] at h
  obtain ⟨c,hc,d,hd,rfl,rfl⟩:=h
  rw [Qc hc,Uq hd]
 | .arr n k :: r,xs,ys,h => by
  simp only [Ca,OB,OM,Bool.and_eq_true] at h
  obtain ⟨c,hc,d,hd,rfl,rfl⟩:=h
  rw [← List.take_append_drop n xs,← List.take_append_drop n ys,Aax hc,Uq hd]
theorem Afk {q:EqK} {k x:Value} (h:B0 q k x=some true):x=k∧Instr.sameBits 10000 k k=true:=by
 have sc:∀ (n:Nat) v,Aaw v=true→Instr.sameBits n v v=true:=by
  intro n v hv
  cases v<;>first | (simp [Aaw] at hv;done) | (cases n<;>simp [Instr.sameBits,ba_eq])
 unfold B0 at h
 split at h
 ·exact ⟨(Qc h).symm,sc _ _ (Mi h)⟩
 ·exact ⟨(Qc h).symm,sc _ _ (Mi h)⟩
 ·rename_i xs ys
  have e:=Uq h
  have e2:xs=ys:=Array.ext' e
  subst e2
  refine ⟨rfl,?_⟩
  have hall:=Qd h
  have:Instr.sameBits (9999+1) (.agg xs) (.agg xs)=(xs.size == xs.size && (xs.toList.zip xs.toList).all fun (x,y) => Instr.sameBits 9999 x y):=rfl
  rw [this]
  simp only [beq_self_eq_true,Bool.true_and]
  rw [List.all_eq_true] at hall ⊢
  rintro ⟨u,v⟩ huv
  have:u=v∧u∈xs.toList:=by
   have hz:∀ l:List Value,(u,v)∈l.zip l→u=v∧u∈l:=by
    intro l
    induction l with
    | nil => simp
    | cons y l ih =>
     intro hm
     simp only [List.zip_cons_cons,List.mem_cons,Prod.mk.injEq] at hm
     rcases hm with ⟨rfl,rfl⟩ | hm
     ·exact ⟨rfl,by simp⟩
     ·exact ⟨(ih hm).1,by simp [(ih hm).2]⟩
   exact hz _ huv
  obtain ⟨rfl,hu⟩:=this
  exact sc _ _ (hall u hu)
 ·cases h
theorem Ala {rb:Nat} {o o':Obj} (hw:w.heap[rb]? = some o) (ho:∀ c t f,o ≠ .cells c t f):(setObj rb o').run P w = .ok () { w with heap:=w.heap.setIfInBounds rb o' }:=by
 cases o with
 | cells c t f => exact absurd rfl (ho c t f)
 | _ => simp only [setObj,Sem.run,hw]
theorem Xb (hs:Sim P ι h w) {b:Nat} {es es2:List (Value × Value)} {m:Img} (hb:h[b]? = some (.map es)) (hm:ι b=some m) {es2':Array MapEntry} {clock:Nat}
  (he:All2 (fun e (e':MapEntry) => e.1=e'.key∧VR ι e.2 e'.val) es2 es2'.toList):∃ w',(setObj m.rb (.map es2' clock)).run P w = .ok () w'∧St P ι h w ι (h.set b (.map es2)) w':=by
 obtain ⟨m',hm',hr⟩:=hs.obj _ _ hb (by simp)
 rw [hm] at hm';cases hm'
 cases hr with
 | map hw he' =>
  have hl:=(Array.getElem?_eq_some_iff.1 hw).1
  refine ⟨_,Ala hw (by simp),St.write hs hb rfl hm (by simp) (fun rb hn => ?_) rfl rfl rfl (fun _ => .map (es':=es2') (clock:=clock) ?_ he) (.inl rfl)⟩
  ·simp only [Array.getElem?_setIfInBounds_ne (Ne.symm hn)]
  ·simp [hl]
section
variable {sz:Nat} {f:FF} {a:Act} {o:Oper} {q:O} {v:Value} {h':Aa} {ws:List Nat}
theorem A50 {t kt e:TypeId} {m k x:Operand} {qk:EqK} (hs:Sim P ι h w) (hu:P.underlying t=some (.map kt e)) (hq:Adj P kt=some qk) (hf:FFR ι sz f a.tmps) (ho:o.op = .mapUpdate t m k x)
  {m' k' x':X} (hm:cX m=some m') (hk:cX k=some k') (hx:cX x=some x') (hv:O0 f h (.mup qk m' k' x')=some (v,h',ws)):Agv P ι h a o v h' w:=by
 have rm:=Au hf hm
 have rk:=Au hf hk
 have rx:=Au hf hx
 simp only [O0] at hv
 split at hv
 ·rename_i rb e1
  rw [e1] at rm
  obtain ⟨mi,hmi,hrm⟩:=rm.map_inv
  split at hv
  ·rename_i es hb
   split at hv
   ·rename_i hkey
    simp only [OM,Prod.mk.injEq] at hv
    obtain ⟨es2,hput,rfl,rfl,rfl⟩:=hv
    have ek:=Abw hkey rk
    obtain ⟨m2,hm2,hobj⟩:=hs.obj _ _ hb (by simp)
    rw [hmi] at hm2;cases hm2
    cases hobj with
    | map hw he =>
     rename_i es' clock
     have hget:(getObj mi.rb).run P w = .ok (.map es' clock) w:=by simp [getObj,Sem.run,hw]
     have hck:=Qf hq hkey false w
     have hf2:∃ r,find qk (ev f k') es=some r:=by
      have:∀ (l:List (Value × Value)) l2 u,Ow qk (ev f k') u l=some l2→∃ r,find qk (ev f k') l=some r:=by
       intro l
       induction l with
       | nil => intro l2 u _;exact ⟨none,rfl⟩
       | cons p l ih =>
        intro l2 u hp
        simp only [Ow,OB] at hp
        obtain ⟨b,hb,hp⟩:=hp
        cases b with
        | true => exact ⟨some p.2,by simp [find,hb]⟩
        | false =>
         simp only [Bool.false_eq_true,if_false,OM] at hp
         obtain ⟨l3,h3,_⟩:=hp
         obtain ⟨r,hr⟩:=ih l3 u h3
         exact ⟨r,by simp [find,hb,hr]⟩
      exact this es es2 _ hput
     obtain ⟨r,hr⟩:=hf2
     rcases Oc hq hkey he hr w with ⟨rfl,h1,h2,_⟩ | ⟨v0,j,v',rfl,h1,h2,h3,h4,_,e0,h5,h6⟩
     ·rw [h2] at hput
      simp only [OI] at hput
      obtain ⟨w',s1,s2⟩:=Xb hs hb hmi (es2:=es2) (es2':=es'.push { key:=ev f k',val:=a.eval x,born:=clock }) (clock:=clock+1) (by
       rw [← hput,Array.toList_push];exact he.append (.cons ⟨rfl,rx⟩ .nil))
      refine ⟨ι,w',.skip,?_,s2,Old.refl _ _,.inl ⟨rfl,rfl⟩⟩
      simp only [execOp,ho,hrm,ek]
      refine Aub _ ?_
      simp only [Instr.mapUpdate,Sem.run_bind,run_underlying hu,Result.andThen_ok,hget,hck,h1,s1]
     ·rw [h4] at hput
      simp only [OI] at hput
      obtain ⟨e5,e6⟩:=Afk h6
      obtain ⟨w',s1,s2⟩:=Xb hs hb hmi (es2:=es2) (es2':=es'.modify j fun e => { e with key:=ev f k',val:=a.eval x }) (clock:=clock) (by
       rw [← hput,Array.toList_modify];exact he.modify j fun b hb => ⟨rfl,rx⟩)
      refine ⟨ι,w',.skip,?_,s2,Old.refl _ _,.inl ⟨rfl,rfl⟩⟩
      have hold:((es'[j]?).map (·.key)).getD (ev f k')=ev f k':=by
       have:es'[j]? = some e0:=by rw [← h5];simp
       rw [this];exact e5
      simp only [execOp,ho,hrm,ek]
      refine Aub _ ?_
      simp only [Instr.mapUpdate,Sem.run_bind,run_underlying hu,Result.andThen_ok,hget,hck,h1,hold,Instr.keyThatStays,e6,if_true,Sem.run_pure,s1]
   ·cases hv
  ·cases hv
 ·cases hv
end
end Go.L
