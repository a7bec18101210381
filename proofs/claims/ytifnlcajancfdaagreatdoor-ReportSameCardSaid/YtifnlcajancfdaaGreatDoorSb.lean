/- THE LOGICAL MACHINE AND THE MODEL: operations that look at no heap (3). -/
import Derived.Test.YtifnlcajancfdaaGreatDoorSa
set_option linter.unusedVariables false
set_option linter.unusedSimpArgs false
namespace Go.L
open Go
variable {P:Program} {ι : Inj} {w:World}
section
variable {sz:Nat} {f:FF} {a:Act} {o:Oper} {q:O} {v:Value}
theorem A6i {op:UnOp} {t:TypeId} {x:Operand} (hf:FFR ι sz f a.tmps) (ho:o.op = .unOp op t x) {x':X} (hx:cX x=some x') (hv:Ax f (.un op x')=some v):Cq P ι a o v w:=by
 have rx:=Au hf hx
 simp only [Ax] at hv
 unfold unOp at hv
 split at hv
 ·rename_i k n e
  rw [e] at rx
  simp only [OI] at hv;subst hv
  exact ⟨_,by simp only [execOp,ho,rx.int_inv];exact D5 _ rfl,.int _ _⟩
 ·rename_i b e
  rw [e] at rx
  simp only [OI] at hv;subst hv
  exact ⟨_,by simp only [execOp,ho,rx.bool_inv];exact D5 _ rfl,.bool _⟩
 ·cases hv
theorem A5p {src dst:TypeId} {k0 k:IntKind} {x:Operand} (hs:P.underlying src=some (.int k0)) (hd:P.underlying dst=some (.int k)) (hf:FFR ι sz f a.tmps) (ho:o.op = .convert src dst x) {x':X} (hx:cX x=some x') (hv:Ax f (.cvi k x')=some v):Cq P ι a o v w:=by
 have rx:=Au hf hx
 simp only [Ax] at hv
 split at hv
 ·rename_i k' n e
  rw [e] at rx
  simp only [OI] at hv;subst hv
  refine ⟨.int k (k.wrap n),?_,.int _ _⟩
  simp only [execOp,ho,rx.int_inv]
  refine D5 _ ?_
  simp only [Go.convert,Sem.run_bind,run_underlying hs,run_underlying hd,Result.andThen];rfl
 ·cases hv
theorem A5o {src dst:TypeId} {x:Operand} (hs:P.underlying src=some .string) (hd:P.underlying dst=some .string) (hf:FFR ι sz f a.tmps) (ho:o.op = .convert src dst x) {x':X} (hx:cX x=some x') (hv:Ax f (.cvs x')=some v):Cq P ι a o v w:=by
 have rx:=Au hf hx
 simp only [Ax] at hv
 split at hv
 ·rename_i s e
  rw [e] at rx
  simp only [OI] at hv;subst hv
  refine ⟨.string s,?_,.string _⟩
  simp only [execOp,ho,rx.string_inv]
  refine D5 _ ?_
  simp only [Go.convert,Sem.run_bind,run_underlying hs,run_underlying hd,Result.andThen];rfl
 ·cases hv
theorem V1 {α β : Type} (g:α → Sem β) (k:α → Option β) (w:World):∀ (l:List α) (m:List β),l.mapM k=some m→(∀ x y,k x=some y→(g x).run P w = .ok y w)→(l.mapM g).run P w = .ok m w
 | [],m,h,_ => by simp at h;subst h;rfl
 | x :: l,m,h,hg => by
  simp only [List.mapM_cons,Option.bind_eq_bind,OB,Option.pure_def,OI] at h
  obtain ⟨y,hy,r,hr,rfl⟩:=h
  simp only [List.mapM_cons,Sem.run_bind,hg x y hy,Result.andThen,V1 g k w l r hr hg];rfl
theorem Z7 {t:TypeId} {z:List Value} (h:Ru P t=some z) (w:World):∃ zv,(zeroValue t).run P w = .ok zv w∧Bl zv=z:=by
 unfold Ru at h
 simp only [OM,OB] at h
 obtain ⟨zv,⟨i,hi,hz⟩,rfl⟩:=h
 exact ⟨zv,by simp [zeroValue,Sem.run_bind,run_typeInfo w hi,Result.andThen,hz],rfl⟩
theorem Qs (v:Value):v.cells.toList=Bl v:=by cases v<;>rfl
theorem VRs.self {l:List Value} (h:l.all (Ae 0 4)=true):VRs ι l l:=by
 induction l with
 | nil => exact .nil
 | cons x l ih => simp at h;exact .cons (VR.self 4 x h.1) (ih (by simpa using h.2))
theorem Af8 {t:TypeId} {ps:Array (Nat × Operand)} {fs:Array Field} {z:List Value} {pl:List (Nat × Nat)} {qs:List (Nat × Nat × X)} (hu:P.underlying t=some (.struct fs)) (hz:Ru P t=some z) (hzn:z.all (Ae 0 4)=true)
  (hp:Aur P fs.toList=some pl) (hq:Pa (fun i => pl[i]?) ps.toList=some qs) (hf:FFR ι sz f a.tmps) (ho:o.op = .build t ps) (hv:Ax f (.bld z qs)=some v):Cq P ι a o v w:=by
 simp only [Ax,OM] at hv
 obtain ⟨c,hc,rfl⟩:=hv
 obtain ⟨zv,hzr,hzc⟩:=Z7 hz w
 obtain ⟨r',hfill,hr⟩:=Wg hf hq (VRs.self (ι:=ι) hzn) hc
 refine ⟨.agg r'.toArray,?_,.agg hr⟩
 simp only [execOp,ho]
 refine D5 _ ?_
 have hpl:(fs.mapM (m:=Sem) fun f => do pure (f.offset,← sizeOf f.type)).run P w = .ok pl.toArray w:=by
  rw [Array.mapM_eq_mapM_toList]
  have:=V1 (P:=P) (fun f:Field => (do pure (f.offset,← sizeOf f.type):Sem (Nat × Nat))) (fun f => (szO P f.type).map fun n => (f.offset,n)) w fs.toList pl hp (fun x y hxy => by
   simp only [OM] at hxy
   obtain ⟨n,hn,rfl⟩:=hxy
   simp [Sem.run_bind,Dz hn,Result.andThen])
  have map_run:∀ {α β : Type} (g:α → β) (x:Sem α) (y:α) (w':World),x.run P w = .ok y w'→(g <$> x).run P w = .ok (g y) w':=by
   intro α β g x y w' hx
   rw [map_eq_pure_bind]
   simp only [Sem.run_bind,hx,Result.andThen];rfl
  exact map_run _ _ _ _ this
 have e1:zv.cells=z.toArray:=by rw [← hzc,← Qs]
 have e2:(ps.map fun x => (x.1,a.eval x.2)).toList=ps.toList.map fun p => (p.1,a.eval p.2):=by simp
 simp only [Instr.build,Sem.run_bind,hzr,Result.andThen,run_underlying hu,hpl,e1]
 have e3:(fun i:Nat => pl.toArray[i]?)=fun i:Nat => pl[i]?:=by funext i;simp
 rw [e2,e3,hfill];rfl
theorem Ar7 {t e:TypeId} {k n:Nat} {ps:Array (Nat × Operand)} {z:List Value} {qs:List (Nat × Nat × X)} (hu:P.underlying t=some (.array k e)) (hz:Ru P t=some z) (hzn:z.all (Ae 0 4)=true)
  (hp:szO P e=some n) (hq:Pa (fun i => some (i * n,n)) ps.toList=some qs) (hf:FFR ι sz f a.tmps) (ho:o.op = .build t ps) (hv:Ax f (.bld z qs)=some v):Cq P ι a o v w:=by
 simp only [Ax,OM] at hv
 obtain ⟨c,hc,rfl⟩:=hv
 obtain ⟨zv,hzr,hzc⟩:=Z7 hz w
 obtain ⟨r',hfill,hr⟩:=Wg hf hq (VRs.self (ι:=ι) hzn) hc
 refine ⟨.agg r'.toArray,?_,.agg hr⟩
 simp only [execOp,ho]
 refine D5 _ ?_
 have e1:zv.cells=z.toArray:=by rw [← hzc,← Qs]
 have e2:(ps.map fun x => (x.1,a.eval x.2)).toList=ps.toList.map fun p => (p.1,a.eval p.2):=by simp
 simp only [Instr.build,Sem.run_bind,hzr,Result.andThen,run_underlying hu,Dz hp,e1]
 rw [e2,hfill];rfl
theorem A5m {t:TypeId} {i n:Nat} {fs:Array Field} {fd:Field} {x:Operand} (hu:P.underlying t=some (.struct fs)) (hfd:fs[i]? = some fd) (hn:szO P fd.type=some n) (hn0:n≠0) (hf:FFR ι sz f a.tmps) (ho:o.op = .fieldAddr t x i)
  {x':X} (hx:cX x=some x') (hv:Ax f (.fld fd.offset x')=some v):Cq P ι a o v w:=by
 have rx:=Au hf hx
 simp only [Ax] at hv
 split at hv
 ·rename_i ad e
  rw [e] at rx
  obtain ⟨m,hm,_,hr⟩:=rx.ptr_inv
  simp only [OI] at hv;subst hv
  have:=VR.ptr (ι:=ι) (ad.off+fd.offset) hm
  refine ⟨_,?_,this⟩
  simp only [execOp,ho,hr]
  refine D5 _ ?_
  simp only [Instr.fieldAt,Sem.run_bind,run_underlying hu,Result.andThen,hfd,Instr.sureAddr,fieldPlace,Dz hn,hn0]
  simp only [Addr.add,if_false]
  by_cases h0:fd.offset=0
  ·simp [h0,Sem.run_bind,Result.andThen]
  ·simp [h0,Sem.run_bind,Result.andThen,Nat.add_assoc]
 ·cases hv
theorem A5l {t:TypeId} {i:Nat} {g:Option Nat} {fs:Array Field} {fd:Field} {x:Operand} (hu:P.underlying t=some (.struct fs)) (hfd:fs[i]? = some fd) (hg:Q5 P fd.type=some g) (hf:FFR ι sz f a.tmps) (ho:o.op = .field t x i)
  {x':X} (hx:cX x=some x') (hv:Ax f (.fof fd.offset g x')=some v):Cq P ι a o v w:=by
 have rx:=Au hf hx
 simp only [Ax] at hv
 split at hv
 ·rename_i cs e
  rw [e] at rx
  obtain ⟨cs',hr,hcs⟩:=rx.agg_inv
  obtain ⟨v',h1,h2⟩:=Ahj hg hcs hv w
  refine ⟨v',?_,h2⟩
  simp only [execOp,ho,hr]
  refine D5 _ ?_
  simp only [Instr.field,Sem.run_bind,run_underlying hu,Result.andThen,hfd,asAgg,Sem.run_pure]
  exact h1
 ·cases hv
theorem T2 (m:Img) (off k:Nat):(⟨m.rb,m.off+off,none⟩:Addr).add k=⟨m.rb,m.off+(off+k),none⟩:=by
 unfold Addr.add
 split
 ·rename_i h;subst h;rfl
 ·simp [Nat.add_assoc]
theorem A5k {t e:TypeId} {k n:Nat} {x i:Operand} (hu:P.underlying t=some (.array k e)) (hn:szO P e=some n) (hf:FFR ι sz f a.tmps) (ho:o.op = .indexAddr t x i)
  {x' i':X} (hx:cX x=some x') (hi:cX i=some i') (hv:Ax f (.ixa k n x' i')=some v):Cq P ι a o v w:=by
 have rx:=Au hf hx
 have ri:=Au hf hi
 simp only [Ax] at hv
 split at hv
 ·rename_i ad e1
  rw [e1] at rx
  obtain ⟨m,hm,_,hr⟩:=rx.ptr_inv
  unfold Ti at hv
  split at hv
  ·rename_i kk j e2
   rw [e2] at ri
   split at hv
   ·rename_i hb
    simp only [OI] at hv;subst hv
    refine ⟨_,?_,VR.ptr (ι:=ι) (ad.off+j.toNat * n) hm⟩
    simp only [execOp,ho,hr,ri.int_inv]
    refine D5 _ ?_
    simp only [Instr.indexAt,Sem.run_bind,asIntOf,Sem.run_pure,run_underlying hu,Result.andThen,Instr.sureAddr,hb,and_self,if_true,Dz hn,T2]
   ·cases hv
  ·cases hv
 ·cases hv
theorem A5j {t e:TypeId} {n:Nat} {x i:Operand} (hu:P.underlying t=some (.slice e)) (hn:szO P e=some n) (hf:FFR ι sz f a.tmps) (ho:o.op = .indexAddr t x i)
  {x' i':X} (hx:cX x=some x') (hi:cX i=some i') (hv:Ax f (.ixs n x' i')=some v):Cq P ι a o v w:=by
 have rx:=Au hf hx
 have ri:=Au hf hi
 simp only [Ax] at hv
 split at hv
 ·rename_i ad len cap e1
  rw [e1] at rx
  unfold Ti at hv
  split at hv
  ·rename_i kk j e2
   rw [e2] at ri
   split at hv
   ·rename_i hb
    simp only [OI] at hv;subst hv
    have key:∀ {m:Img} (off cap':Nat),ι ad.block=some m→ad.off=off→a.eval x = .slice (some ⟨m.rb,m.off+off,none⟩) len cap'→Cq P ι a o (.pointer (some ⟨ad.block,ad.off+j.toNat * n,none⟩)) w:=by
     intro m off cap' hm hoff hr
     refine ⟨_,?_,VR.ptr (ι:=ι) (ad.off+j.toNat * n) hm⟩
     simp only [execOp,ho,hr,ri.int_inv]
     refine D5 _ ?_
     simp only [Instr.indexAt,Sem.run_bind,asIntOf,Sem.run_pure,run_underlying hu,Result.andThen,hb,and_self,if_true,Dz hn,T2,hoff]
    cases rx':a.eval x<;>rw [rx'] at rx<;>cases rx
    ·exact key _ _ ‹_› rfl rx'
    ·omega
    ·exact key _ _ ‹_› rfl rx'
    ·omega
   ·cases hv
  ·cases hv
 ·cases hv
theorem A5h {t e:TypeId} {k n:Nat} {g:Option Nat} {x i:Operand} (hu:P.underlying t=some (.array k e)) (hn:szO P e=some n) (hg:Q5 P e=some g) (hf:FFR ι sz f a.tmps) (ho:o.op = .index t x i)
  {x' i':X} (hx:cX x=some x') (hi:cX i=some i') (hv:Ax f (.ixv k n g x' i')=some v):Cq P ι a o v w:=by
 have rx:=Au hf hx
 have ri:=Au hf hi
 simp only [Ax] at hv
 split at hv
 ·rename_i cs kk j e1 e2
  rw [e1] at rx;rw [e2] at ri
  split at hv
  ·rename_i hb
   obtain ⟨cs',hr,hcs⟩:=rx.agg_inv
   obtain ⟨v',h1,h2⟩:=Ahj hg hcs hv w
   refine ⟨v',?_,h2⟩
   simp only [execOp,ho,hr,ri.int_inv]
   refine D5 _ ?_
   simp only [Instr.index,Sem.run_bind,asIntOf,Sem.run_pure,run_underlying hu,Result.andThen,hb,and_self,if_true,Dz hn]
   exact h1
  ·cases hv
 ·cases hv
theorem A5i {t:TypeId} {x i:Operand} (hu:P.underlying t=some .string) (hf:FFR ι sz f a.tmps) (ho:o.op = .index t x i)
  {x' i':X} (hx:cX x=some x') (hi:cX i=some i') (hv:Ax f (.ixt x' i')=some v):Cq P ι a o v w:=by
 have rx:=Au hf hx
 have ri:=Au hf hi
 simp only [Ax] at hv
 split at hv
 ·rename_i s kk j e1 e2
  rw [e1] at rx;rw [e2] at ri
  split at hv
  ·rename_i hb
   simp only [OM] at hv
   obtain ⟨c,hc,rfl⟩:=hv
   refine ⟨.int .u8 c.toNat,?_,.int _ _⟩
   simp only [execOp,ho,rx.string_inv,ri.int_inv]
   refine D5 _ ?_
   simp only [Instr.index,Sem.run_bind,asIntOf,Sem.run_pure,run_underlying hu,Result.andThen,hb,if_true,hc]
  ·cases hv
 ·cases hv
end
end Go.L
namespace Go.L
open Go
variable {P:Program} {ι : Inj} {w:World}
section
variable {sz:Nat} {f:FF} {a:Act} {o:Oper} {q:O} {v:Value}
theorem Mr {x:Option Operand} {q:Option X} (h:cOX x=some q):(x=none∧q=none)∨∃ y z,x=some y∧q=some z∧cX y=some z:=by
 cases x with
 | none => simp [cOX] at h;exact .inl ⟨rfl,h.symm⟩
 | some y => simp only [cOX,OM] at h;obtain ⟨z,hz,rfl⟩:=h;exact .inr ⟨y,z,rfl,rfl,hz⟩
theorem Ha {x:Option X} {d high n:Nat} (hd:d≤high) (h:Bp f x d high=some n):n≤high:=by
 cases x with
 | none => simp [Bp] at h;omega
 | some x =>
  simp only [Bp] at h
  split at h
  ·split at h
   ·simp only [OI] at h;omega
   ·cases h
  ·cases h
theorem Sb (hf:FFR ι sz f a.tmps) {lo hi:Option Operand} {lo' hi':Option X} (hlo:cOX lo=some lo') (hhi:cOX hi=some hi') {isS:Bool} {len cap l h:Nat}
  (h1:Bp f hi' len cap=some h) (h2:Bp f lo' 0 h=some l) (w:World) :
  (Instr.sliceBounds isS len cap (lo.map a.eval) (hi.map a.eval) none).run P w = .ok (l,h,cap) w:=by
 rcases Mr hhi with ⟨rfl,rfl⟩ | ⟨y,z,rfl,rfl,hy⟩
 ·simp only [Bp,OI] at h1;subst h1
  rcases Mr hlo with ⟨rfl,rfl⟩ | ⟨y',z',rfl,rfl,hy'⟩
  ·simp only [Bp,OI] at h2;subst h2
   simp [Instr.sliceBounds,Sem.run_bind,Result.andThen]
  ·simp [Instr.sliceBounds,Sem.run_bind,Result.andThen,H5 hf hy' h2]
 ·rcases Mr hlo with ⟨rfl,rfl⟩ | ⟨y',z',rfl,rfl,hy'⟩
  ·simp only [Bp,OI] at h2;subst h2
   cases isS<;>simp [Instr.sliceBounds,Sem.run_bind,Result.andThen,H5 hf hy h1]
  ·cases isS<;>simp [Instr.sliceBounds,Sem.run_bind,Result.andThen,H5 hf hy h1,H5 hf hy' h2]
theorem Ahk (hf:FFR ι sz f a.tmps) {lo:Option Operand} {hi mx:Operand} {lo':Option X} {hi' mx':X} (hlo:cOX lo=some lo') (hhi:cX hi=some hi') (hmx:cX mx=some mx') {isS:Bool} {len cap l h m d d':Nat}
  (h0:Bp f (some mx') d cap=some m) (h1:Bp f (some hi') d' m=some h) (h2:Bp f lo' 0 h=some l) (w:World) :
  (Instr.sliceBounds isS len cap (lo.map a.eval) (some (a.eval hi)) (some (a.eval mx))).run P w = .ok (l,h,m) w:=by
 rcases Mr hlo with ⟨rfl,rfl⟩ | ⟨y',z',rfl,rfl,hy'⟩
 ·simp only [Bp,OI] at h2;subst h2
  simp [Instr.sliceBounds,Sem.run_bind,Result.andThen,H5 hf hmx h0,H5 hf hhi h1]
 ·simp [Instr.sliceBounds,Sem.run_bind,Result.andThen,H5 hf hmx h0,H5 hf hhi h1,H5 hf hy' h2]
theorem A49 {t:TypeId} {x:Operand} {lo hi:Option Operand} (hu:P.underlying t=some .string) (hf:FFR ι sz f a.tmps) (ho:o.op = .slice t x lo hi none)
  {x':X} {lo' hi':Option X} (hx:cX x=some x') (hlo:cOX lo=some lo') (hhi:cOX hi=some hi') (hv:Ax f (.slt x' lo' hi')=some v):Cq P ι a o v w:=by
 have rx:=Au hf hx
 simp only [Ax] at hv
 split at hv
 ·rename_i s e
  rw [e] at rx
  simp only [OB,OI] at hv
  obtain ⟨h,h1,l,h2,rfl⟩:=hv
  refine ⟨_,?_,.string _⟩
  simp only [execOp,ho,rx.string_inv]
  refine D5 _ ?_
  simp only [Instr.sliceAt,Instr.slice,Sem.run_bind,run_underlying hu,Result.andThen,Option.map_none,Option.isSome_none,Bool.false_eq_true,if_false,Sb (P:=P) hf hlo hhi h1 h2 w]
  rfl
 ·cases hv
theorem A5b {t e:TypeId} {k n:Nat} {x:Operand} {lo hi:Option Operand} (hu:P.underlying t=some (.array k e)) (hn:szO P e=some n) (hf:FFR ι sz f a.tmps) (ho:o.op = .slice t x lo hi none)
  {x':X} {lo' hi':Option X} (hx:cX x=some x') (hlo:cOX lo=some lo') (hhi:cOX hi=some hi') (hv:Ax f (.sla k n x' lo' hi')=some v):Cq P ι a o v w:=by
 have rx:=Au hf hx
 simp only [Ax] at hv
 split at hv
 ·rename_i ad e1
  rw [e1] at rx
  obtain ⟨m,hm,_,hr⟩:=rx.ptr_inv
  simp only [OB,OI] at hv
  obtain ⟨h,h1,l,h2,rfl⟩:=hv
  have hh:=Ha (Nat.le_refl k) h1
  have hl:=Ha (Nat.zero_le _) h2
  refine ⟨.slice (some (if k=l then ⟨m.rb,m.off+ad.off,none⟩ else ⟨m.rb,m.off+(ad.off+l * n),none⟩)) (h - l) (k - l),?_,?_⟩
  ·simp only [execOp,ho,hr]
   refine D5 _ ?_
   simp only [Instr.sliceAt,Sem.run_bind,run_underlying hu,Result.andThen,Option.map_none,Instr.sureAddr,Sem.run_pure,Sb (P:=P) hf hlo hhi h1 h2 w,Dz hn,T2]
  ·split
   ·rename_i he
    have e2:h - l=0:=by omega
    have e3:k - l=0:=by omega
    rw [e2,e3];exact .slice0 _ _ hm
   ·exact .slice _ _ _ hm
 ·cases hv
theorem Apz {α : Type} {x:Option Nat} {y:Nat→Option Nat} {z:Nat→Nat→Option α} {r:α} (h:(x.bind fun a => (y a).bind fun b => z a b)=some r):∃ a b,x=some a∧y a=some b∧z a b=some r:=by
 simp only [OB] at h
 obtain ⟨a,ha,b,hb,hz⟩:=h
 exact ⟨a,b,ha,hb,hz⟩
theorem A5a {t e:TypeId} {n:Nat} {x:Operand} {lo hi mx:Option Operand} (hu:P.underlying t=some (.slice e)) (hn:szO P e=some n) (hf:FFR ι sz f a.tmps) (ho:o.op = .slice t x lo hi mx)
  {x':X} {lo' hi' mx':Option X} (hx:cX x=some x') (hlo:cOX lo=some lo') (hhi:cOX hi=some hi') (hmx:cOX mx=some mx') (hv:Ax f (.sls n x' lo' hi' mx')=some v):Cq P ι a o v w:=by
 have rx:=Au hf hx
 simp only [Ax] at hv
 have real2:∀ {base:Option Addr} {len cap l h:Nat},mx=none→a.eval x = .slice base len cap→Bp f hi' len cap=some h→Bp f lo' 0 h=some l →
   (execOp a.eval o).run P w = .ok (.value (.slice (if cap=l then base else base.map (·.add (l * n))) (h - l) (cap - l))) w:=by
  intro base len cap l h hm hr h1 h2
  subst hm
  simp only [execOp,ho,hr]
  refine D5 _ ?_
  simp only [Instr.sliceAt,Instr.slice,Sem.run_bind,run_underlying hu,Result.andThen,Option.map_none,Sb (P:=P) hf hlo hhi h1 h2 w,Dz hn]
  rfl
 have real3:∀ {base:Option Addr} {len cap l h m d d':Nat} {mo ho':Operand} {mq hq:X},mx=some mo→hi=some ho'→cX mo=some mq→cX ho'=some hq→a.eval x = .slice base len cap →
   Bp f (some mq) d cap=some m→Bp f (some hq) d' m=some h→Bp f lo' 0 h=some l →
   (execOp a.eval o).run P w = .ok (.value (.slice (if m=l then base else base.map (·.add (l * n))) (h - l) (m - l))) w:=by
  intro base len cap l h m d d' mo ho' mq hq hm hh hmq hhq hr h0 h1 h2
  subst hm;subst hh
  simp only [execOp,ho,hr]
  refine D5 _ ?_
  simp only [Instr.sliceAt,Instr.slice,Sem.run_bind,run_underlying hu,Result.andThen,Option.map_some,Ahk (P:=P) hf hlo hhq hmq h0 h1 h2 w,Dz hn]
  rfl
 generalize hvx:ev f x'=vx at rx hv
 unfold Aap at hv
 split at hv
 ·-- nil
  split at hv
  ·cases hv
  ·rename_i hmh
   obtain ⟨m,h,h0,h1,hz⟩:=Apz hv
   simp only [OB,OI] at hz
   obtain ⟨l,h2,rfl⟩:=hz
   have em:m=0:=by have:=Ha (Nat.zero_le _) h0;omega
   subst em
   have eh:h=0:=by have:=Ha (Nat.zero_le _) h1;omega
   subst eh
   have el:l=0:=by have:=Ha (Nat.zero_le _) h2;omega
   subst el
   refine ⟨.slice none 0 0,?_,.nils 0 0⟩
   have hr:a.eval x = .slice none 0 0:=by
    generalize a.eval x=rv at rx
    cases rx;rfl
   rcases Mr hmx with ⟨e1,rfl⟩ | ⟨mo,mq,e1,rfl,hmq⟩
   ·have:=real2 e1 hr h1 h2
    simpa using this
   ·rcases Mr hhi with ⟨e2,rfl⟩ | ⟨ho',hq,e2,rfl,hhq⟩
    ·simp at hmh
    ·have:=real3 e1 e2 hmq hhq hr h0 h1 h2
     simpa using this
 ·rename_i ad len cap
  split at hv
  ·-- three indexes
   rename_i mq
   split at hv
   ·cases hv
   ·rename_i hq
    obtain ⟨m,h,h0,h1,hz⟩:=Apz hv
    simp only [OB,OI] at hz
    obtain ⟨l,h2,rfl⟩:=hz
    rcases Mr hmx with ⟨e1,e1'⟩ | ⟨mo,mq',e1,e1',hmq⟩
    ·cases e1'
    cases e1'
    rcases Mr hhi with ⟨e2,e2'⟩ | ⟨ho',hq',e2,e2',hhq⟩
    ·cases e2'
    cases e2'
    have hm:=Ha (Nat.zero_le _) h0
    have hh:=Ha (Nat.zero_le _) h1
    have hl:=Ha (Nat.zero_le _) h2
    have fine:∀ {mi:Img} {off c':Nat},ι ad.block=some mi→ad.off=off→a.eval x = .slice (some ⟨mi.rb,mi.off+off,none⟩) len c'→cap≤c'→Cq P ι a o (.slice (some ⟨ad.block,ad.off+l * n,none⟩) (h - l) (m - l)) w:=by
     intro mi off c' hmi hoff hr hc
     have h0':Bp f (some mq) 0 c'=some m:=by
      simp only [Bp] at h0 ⊢
      split at h0
      ·split at h0
       ·rename_i hb;rw [if_pos (by omega)];exact h0
       ·cases h0
      ·cases h0
     refine ⟨_,real3 e1 e2 hmq hhq hr h0' h1 h2,?_⟩
     split
     ·rename_i e
      have e3:h - l=0:=by omega
      have e4:m - l=0:=by omega
      rw [e3,e4];exact .slice0 _ _ hmi
     ·simp only [Option.map_some,T2,hoff];exact .slice _ _ _ hmi
    have zero:∀ {a':Addr} {mi:Img},ι ad.block=some mi→a.eval x = .slice (some a') 0 0→len=0→cap=0→Cq P ι a o (.slice (some ⟨ad.block,ad.off+l * n,none⟩) (h - l) (m - l)) w:=by
     intro a' mi hi0 hr e5 e6
     have em:m=0:=by omega
     have eh:h=0:=by omega
     have el:l=0:=by omega
     subst em;subst eh;subst el;subst e6
     refine ⟨_,real3 e1 e2 hmq hhq hr h0 h1 h2,?_⟩
     exact .slice0 _ _ hi0
    cases rx':a.eval x<;>rw [rx'] at rx<;>cases rx
    ·exact fine ‹_› rfl rx' (Nat.le_refl _)
    ·exact zero ‹_› rx' rfl rfl
    ·exact fine ‹_› rfl rx' (by omega)
    ·exact zero ‹_› rx' rfl rfl
  ·-- two
   rename_i hmx0
   have e1:mx=none:=by
    rcases Mr hmx with ⟨e1,_⟩ | ⟨mo,mq',_,e1',_⟩
    ·exact e1
    ·cases e1'
   split at hv
   ·-- the capacity is known
    rename_i hsp
    obtain ⟨h,l,h1,h2,hz⟩:=Apz hv
    split at hz
    ·rename_i hhc
     simp only [OI] at hz;subst hz
     have hl:=Ha (Nat.zero_le _) h2
     cases rx':a.eval x<;>rw [rx'] at rx<;>cases rx
     ·refine ⟨_,real2 e1 rx' h1 h2,?_⟩
      split
      ·rename_i e
       have e3:h - l=0:=by omega
       have e4:cap - l=0:=by omega
       rw [e3,e4];exact .slice0 _ _ ‹_›
      ·simp only [Option.map_some,T2];exact .slice _ _ _ ‹_›
     ·have eh:h=0:=by omega
      have el:l=0:=by omega
      subst eh;subst el
      refine ⟨_,real2 e1 rx' h1 h2,?_⟩
      exact .slice0 _ _ ‹_›
     ·cases hsp
     ·cases hsp
    ·cases hz
   ·rename_i s hsp
    split at hv
    ·rename_i es
     subst es
     obtain ⟨h,l,h1,h2,hz⟩:=Apz hv
     simp only [OI] at hz;subst hz
     have hh:=Ha (Nat.le_refl _) h1
     have hl:=Ha (Nat.zero_le _) h2
     cases rx':a.eval x<;>rw [rx'] at rx<;>cases rx
     ·cases hsp
     ·cases hsp
     ·rename_i c0 b0 m0 off0 s0 hmi hc0 hn0
      have hsp':s0=s:=by simpa using hsp
      subst hsp'
      have h1':Bp f hi' len c0=some h:=by
       cases hi' with
       | none => simpa [Bp] using h1
       | some z =>
        simp only [Bp] at h1 ⊢
        split at h1
        ·split at h1
         ·rename_i hb;rw [if_pos (by omega)];exact h1
         ·cases h1
        ·cases h1
      refine ⟨_,real2 e1 rx' h1' h2,?_⟩
      split
      ·rename_i e
       have e3:h - l=0:=by omega
       have e4:c0 - l=0:=by omega
       rw [e3,e4];exact .loose0 _ _ _ hmi
      ·simp only [Option.map_some,T2]
       refine .loose _ _ _ _ hmi (by omega) ?_
       have:c0 * s0=l * s0+(c0 - l) * s0:=by rw [← Nat.add_mul];congr 1;omega
       omega
     ·have eh:h=0:=by omega
      have el:l=0:=by omega
      subst eh;subst el
      refine ⟨_,real2 e1 rx' h1 h2,?_⟩
      exact .loose0 _ _ _ ‹_›
    ·cases hv
 ·cases hv
theorem A5c {x:Operand} (hf:FFR ι sz f a.tmps) (ho:o.op = .nilCheck x) {x':X} (hx:cX x=some x') (hv:Ax f (.nil x')=some v):Cq P ι a o v w:=by
 have rx:=Au hf hx
 simp only [Ax] at hv
 split at hv
 ·rename_i ad e
  rw [e] at rx
  simp only [OI] at hv;subst hv
  obtain ⟨m,hm,hs,hr⟩:=rx.ptr_inv
  refine ⟨_,?_,rx⟩
  simp only [execOp,ho,hr];rfl
 ·rename_i g l c e
  rw [e] at rx
  simp only [OI] at hv;subst hv
  refine ⟨_,?_,rx⟩
  generalize hr:a.eval x=rv at rx
  cases rx
  simp only [execOp,ho,hr];rfl
 ·cases hv
theorem A5n {x:Operand} {i:Nat} (hf:FFR ι sz f a.tmps) (ho:o.op = .extract x i) {x':X} (hx:cX x=some x') (hv:Ax f (.ext x' i)=some v):Cq P ι a o v w:=by
 have rx:=Au hf hx
 simp only [Ax] at hv
 split at hv
 ·rename_i vs e
  rw [e] at rx
  split at hv
  ·rename_i v0 hv0
   split at hv
   ·rename_i hnt
    simp only [OI] at hv;subst hv
    obtain ⟨vs',hr,hvs⟩:=rx.tuple_inv (by
     intro e
     simp only [Ks,Value.tuple.injEq] at e
     subst e
     cases i with
     | zero => simp at hv0;subst hv0;simp [Et] at hnt
     | succ i => simp at hv0)
    obtain ⟨r,h1,h2⟩:=hvs.at_ hv0
    refine ⟨r,?_,h2⟩
    simp only [execOp,ho,hr]
    refine D5 _ ?_
    simp only [Instr.extract]
    simp at h1
    simp [h1]
   ·cases hv
  ·cases hv
 ·cases hv
theorem A5e {g:FuncId} {first cap:Array Operand} (hf:FFR ι sz f a.tmps) (ho:o.op = .makeFunc (.func g) first cap) {l c:List X} (hl:cXs first.toList=some l) (hc:cXs cap.toList=some c)
  (hv:Ax f (.mkf (.func g) l c)=some v):Cq P ι a o v w:=by
 simp only [Ax,OI] at hv;subst hv
 refine ⟨.func (.func g) (first.toList.map a.eval).toArray (cap.toList.map a.eval).toArray,?_,.func g (Wk hf hl) (Wk hf hc)⟩
 simp only [execOp,ho]
 refine D5 _ ?_
 simp only [Instr.makeFunc,Sem.run_pure,← Array.toList_map,Array.toArray_toList]
theorem A5d {t:TypeId} {d:TypeDesc} {x:Operand} (hu:P.underlying t=some d) (hd:∀ ms,d ≠ .interface ms) (hf:FFR ι sz f a.tmps) (ho:o.op = .makeInterface t x) {x':X} (hx:cX x=some x') (hv:Ax f (.mki t x')=some v):Cq P ι a o v w:=by
 simp only [Ax,OI] at hv;subst hv
 refine ⟨.iface t (a.eval x),?_,.iface t (Au hf hx)⟩
 simp only [execOp,ho]
 refine D5 _ ?_
 simp only [Instr.makeInterface,Sem.run_bind,run_underlying hu,Result.andThen]
 cases d<;>first | rfl | exact absurd rfl (hd _)
theorem Al7 {t ty:TypeId} {x:Operand} (hu:P.underlying t=some .string) (hf:FFR ι sz f a.tmps) (ho:o.op = .call { callee:=.builtin .len,args:=#[x],argTypes:=#[t] }) {x':X} (hx:cX x=some x') (hv:Ax f (.lens true x')=some v):Cq P ι a o v w:=by
 have rx:=Au hf hx
 simp only [Ax] at hv
 split at hv
 ·rename_i s _ e
  rw [e] at rx
  simp only [OI] at hv;subst hv
  refine ⟨_,?_,.int _ _⟩
  simp only [execOp,ho,resolve,Sem.run_bind,Result.andThen,Sem.run_pure,invoke,Go.builtin]
  simp [Builtin.len_,Sem.run_bind,run_underlying hu,Result.andThen,rx.string_inv,goInt]
 ·contradiction
 ·cases hv
theorem Ar6 {t e:TypeId} {x:Operand} (hu:P.underlying t=some (.slice e)) (hf:FFR ι sz f a.tmps) (ho:o.op = .call { callee:=.builtin .len,args:=#[x],argTypes:=#[t] }) {x':X} (hx:cX x=some x') (hv:Ax f (.lens false x')=some v):Cq P ι a o v w:=by
 have rx:=Au hf hx
 simp only [Ax] at hv
 split at hv
 ·contradiction
 ·rename_i ad n c _ e1
  rw [e1] at rx
  simp only [OI] at hv;subst hv
  refine ⟨.int .i64 n,?_,.int _ _⟩
  have:∃ b c',a.eval x = .slice b n c':=by
   generalize a.eval x=rv at rx
   cases rx<;>exact ⟨_,_,rfl⟩
  obtain ⟨b,c',hr⟩:=this
  simp only [execOp,ho,resolve,Sem.run_bind,Result.andThen,Sem.run_pure,invoke,Go.builtin]
  simp [Builtin.len_,Sem.run_bind,run_underlying hu,Result.andThen,hr,goInt]
 ·cases hv
theorem A32 {t e:TypeId} {n:Nat} {x:Operand} (hu:P.underlying t=some (.array n e)) (ho:o.op = .call { callee:=.builtin .len,args:=#[x],argTypes:=#[t] }) (hv:Ax f (.lena n)=some v):Cq P ι a o v w:=by
 simp only [Ax,OI] at hv;subst hv
 refine ⟨.int .i64 n,?_,.int _ _⟩
 simp only [execOp,ho,resolve,Sem.run_bind,Result.andThen,Sem.run_pure,invoke,Go.builtin]
 simp [Builtin.len_,Sem.run_bind,run_underlying hu,Result.andThen,goInt]
theorem Ajl {g:Value→Value→Option Value} {G:Value→Value→Sem Value} (hg:∀ x y z,g x y=some z→∀ w,(G x y).run P w = .ok z w∧∃ k n k' m k'' j,x = .int k n∧y = .int k' m∧z = .int k'' j) :
  ∀ {l l':List Value} (hl:VRs ι l l') {x x' z:Value} (hx:VR ι x x') (h:Ki g x l=some z) (w:World),∃ z',(l'.foldlM G x').run P w = .ok z' w∧VR ι z z':=by
 intro l l' hl
 induction hl with
 | nil => intro x x' z hx h w;simp [Ki] at h;subst h;exact ⟨x',rfl,hx⟩
 | cons hy _ ih =>
  intro x x' z hx h w
  simp only [Ki,OB] at h
  obtain ⟨u,hu,hr⟩:=h
  obtain ⟨hrun,k,n,k',m,k'',j,rfl,rfl,rfl⟩:=hg _ _ _ hu w
  obtain ⟨z',h1,h2⟩:=ih (VR.int k'' j) hr w
  refine ⟨z',?_,h2⟩
  simp only [List.foldlM_cons,Sem.run_bind]
  rw [hx.int_inv,hy.int_inv,hrun]
  exact h1
theorem A5f {ty:TypeId} {ts:Array TypeId} {x:Operand} {r:List Operand} {args:Array Operand} (ha:args.toList=x :: r) (hf:FFR ι sz f a.tmps) (ho:o.op = .call { callee:=.builtin .min,args,argTypes:=ts })
  {x':X} {r':List X} (hx:cX x=some x') (hr:cXs r=some r') (hv:Ax f (.min x' r')=some v):Cq P ι a o v w:=by
 simp only [Ax] at hv
 obtain ⟨z',h1,h2⟩:=Ajl (P:=P) (G:=Builtin.min2) (fun x y z h w => by
  unfold min2 at h
  split at h
  ·simp only [OI] at h;subst h;exact ⟨rfl,_,_,_,_,_,_,rfl,rfl,rfl⟩
  ·cases h) (Wk hf hr) (Au hf hx) hv w
 refine ⟨z',?_,h2⟩
 simp only [execOp,ho,resolve,Sem.run_bind,Result.andThen,Sem.run_pure,invoke,Go.builtin,Builtin.min_]
 simp [ha,h1]
theorem A5g {ty:TypeId} {ts:Array TypeId} {x:Operand} {r:List Operand} {args:Array Operand} (ha:args.toList=x :: r) (hf:FFR ι sz f a.tmps) (ho:o.op = .call { callee:=.builtin .max,args,argTypes:=ts })
  {x':X} {r':List X} (hx:cX x=some x') (hr:cXs r=some r') (hv:Ax f (.max x' r')=some v):Cq P ι a o v w:=by
 simp only [Ax] at hv
 obtain ⟨z',h1,h2⟩:=Ajl (P:=P) (G:=Builtin.max2) (fun x y z h w => by
  unfold max2 at h
  split at h
  ·simp only [OI] at h;subst h;exact ⟨rfl,_,_,_,_,_,_,rfl,rfl,rfl⟩
  ·cases h) (Wk hf hr) (Au hf hx) hv w
 refine ⟨z',?_,h2⟩
 simp only [execOp,ho,resolve,Sem.run_bind,Result.andThen,Sem.run_pure,invoke,Go.builtin,Builtin.max_]
 simp [ha,h1]
end
end Go.L
namespace Go.L
open Go
variable {P:Program} {ι : Inj} {h:Aa} {w:World}
section
variable {sz:Nat} {f:FF} {a:Act} {o:Oper} {q:O} {v:Value}
theorem A1h {α : Type} {xs:Array α} {x:α} (h:xs.toList=[x]):xs = #[x]:=by
 cases xs;simp at h;subst h;rfl
theorem Y5 {b:Builtin} {c:Go.Call} {x:Operand} {t:TypeId} (hc:c.callee = .builtin b) (ha:c.args.toList=[x]) (ht:c.argTypes.toList=[t]):c={ callee:=.builtin b,args:=#[x],argTypes:=#[t] }:=by
 obtain ⟨ca,ar,at_⟩:=c
 simp only at hc ha ht
 rw [hc,A1h ha,A1h ht]
theorem Td {b:Builtin} {c:Go.Call} (hc:c.callee = .builtin b):c={ callee:=.builtin b,args:=c.args,argTypes:=c.argTypes }:=by
 obtain ⟨ca,ar,at_⟩:=c
 simp only at hc
 rw [hc]
theorem Az1 (hf:FFR ι sz f a.tmps) (ho:cO P o.op=some q) (hc:cls q = .P) (hv:Ax f q=some v):Cq P ι a o v w:=by
 cases hop:o.op with
 | move x => rw [hop] at ho;simp only [cO,OM] at ho;obtain ⟨x',hx,rfl⟩:=ho;exact A2h hf (.inl hop) hx hv
 | assign x => rw [hop] at ho;simp only [cO,OM] at ho;obtain ⟨x',hx,rfl⟩:=ho;exact A2h hf (.inr hop) hx hv
 | pick c x y => rw [hop] at ho;simp only [cO,OM,OB] at ho;obtain ⟨c',hcc,x',hx,y',hy,rfl⟩:=ho;exact A31 hf hop hcc hx hy hv
 | binOp op t x y yt => rw [hop] at ho;simp only [cO,OM,OB] at ho;obtain ⟨x',hx,y',hy,rfl⟩:=ho;exact A5q hf hop hx hy hv
 | unOp op t x => rw [hop] at ho;simp only [cO,OM] at ho;obtain ⟨x',hx,rfl⟩:=ho;exact A6i hf hop hx hv
 | convert src dst x =>
  rw [hop] at ho;simp only [cO] at ho
  split at ho
  ·rename_i k0 k hs hd;simp only [OM] at ho;obtain ⟨x',hx,rfl⟩:=ho;exact A5p hs hd hf hop hx hv
  ·rename_i hs hd;simp only [OM] at ho;obtain ⟨x',hx,rfl⟩:=ho;exact A5o hs hd hf hop hx hv
  ·split at ho
   ·simp only [OM] at ho;obtain ⟨x',hx,rfl⟩:=ho;simp [cls] at hc
   ·cases ho
  ·split at ho
   ·simp only [OM] at ho;obtain ⟨x',hx,rfl⟩:=ho;simp [cls] at hc
   ·cases ho
  ·cases ho
 | build t ps =>
  rw [hop] at ho;simp only [cO] at ho
  split at ho
  ·rename_i fs hu;simp only [OB] at ho;obtain ⟨z,hz,ho⟩:=ho
   split at ho
   ·rename_i hzn;simp only [OB,OM] at ho;obtain ⟨pl,hp,qs,hq,rfl⟩:=ho;exact Af8 hu hz hzn hp hq hf hop hv
   ·cases ho
  ·rename_i k e hu;simp only [OB] at ho;obtain ⟨z,hz,ho⟩:=ho
   split at ho
   ·rename_i hzn;simp only [OB,OM] at ho;obtain ⟨n,hn,qs,hq,rfl⟩:=ho;exact Ar7 hu hz hzn hn hq hf hop hv
   ·cases ho
  ·cases ho
 | fieldAddr t x i =>
  rw [hop] at ho;simp only [cO] at ho
  split at ho
  ·rename_i fs hu;simp only [OB] at ho;obtain ⟨fd,hfd,n,hn,ho⟩:=ho
   split at ho
   ·cases ho
   ·rename_i hn0;simp only [OM] at ho;obtain ⟨x',hx,rfl⟩:=ho;exact A5m hu hfd hn hn0 hf hop hx hv
  ·cases ho
 | field t x i =>
  rw [hop] at ho;simp only [cO] at ho
  split at ho
  ·rename_i fs hu;simp only [OB,OM] at ho;obtain ⟨fd,hfd,g,hg,x',hx,rfl⟩:=ho;exact A5l hu hfd hg hf hop hx hv
  ·cases ho
 | indexAddr t x i =>
  rw [hop] at ho;simp only [cO] at ho
  split at ho
  ·rename_i k e hu;simp only [OB,OM] at ho;obtain ⟨n,hn,x',hx,i',hi,rfl⟩:=ho;exact A5k hu hn hf hop hx hi hv
  ·rename_i e hu;simp only [OB,OM] at ho;obtain ⟨n,hn,x',hx,i',hi,rfl⟩:=ho;exact A5j hu hn hf hop hx hi hv
  ·cases ho
 | index t x i =>
  rw [hop] at ho;simp only [cO] at ho
  split at ho
  ·rename_i k e hu;simp only [OB,OM] at ho;obtain ⟨n,hn,g,hg,x',hx,i',hi,rfl⟩:=ho;exact A5h hu hn hg hf hop hx hi hv
  ·rename_i hu;simp only [OB,OM] at ho;obtain ⟨x',hx,i',hi,rfl⟩:=ho;exact A5i hu hf hop hx hi hv
  ·cases ho
 | slice t x lo hi mx =>
  rw [hop] at ho;simp only [cO] at ho
  split at ho
  ·rename_i hu
   cases mx with
   | some m => simp at ho
   | none => simp only [Option.isSome_none,Bool.false_eq_true,if_false,OB,OM] at ho;obtain ⟨x',hx,lo',hlo,hi',hhi,rfl⟩:=ho;exact A49 hu hf hop hx hlo hhi hv
  ·rename_i e hu;simp only [OB,OM] at ho;obtain ⟨n,hn,x',hx,lo',hlo,hi',hhi,mx',hmx,rfl⟩:=ho;exact A5a hu hn hf hop hx hlo hhi hmx hv
  ·rename_i k e hu
   cases mx with
   | some m => simp at ho
   | none => simp only [Option.isSome_none,Bool.false_eq_true,if_false,OB,OM] at ho;obtain ⟨n,hn,x',hx,lo',hlo,hi',hhi,rfl⟩:=ho;exact A5b hu hn hf hop hx hlo hhi hv
  ·cases ho
 | nilCheck x => rw [hop] at ho;simp only [cO,OM] at ho;obtain ⟨x',hx,rfl⟩:=ho;exact A5c hf hop hx hv
 | extract x i => rw [hop] at ho;simp only [cO,OM] at ho;obtain ⟨x',hx,rfl⟩:=ho;exact A5n hf hop hx hv
 | makeFunc fn first cap =>
  rw [hop] at ho
  cases fn<;>simp only [cO] at ho<;>try (cases ho;done)
  simp only [OB,OM] at ho;obtain ⟨l,hl,c,hcc,rfl⟩:=ho;exact A5e hf hop hl hcc hv
 | makeInterface t x =>
  rw [hop] at ho;simp only [cO] at ho
  split at ho
  ·cases ho
  ·cases ho
  ·rename_i hu1 hu2
   simp only [OM] at ho;obtain ⟨x',hx,rfl⟩:=ho
   cases hu:P.underlying t with
   | none => exact absurd hu hu2
   | some d => exact A5d hu (fun ms e => hu1 ms (by rw [hu,e])) hf hop hx hv
 | load t x => rw [hop] at ho;simp only [cO,OM,OB] at ho;obtain ⟨_,_,_,_,rfl⟩:=ho;simp [cls] at hc
 | lookup t m k ok =>
  rw [hop] at ho;simp only [cO] at ho
  split at ho
  ·simp only [OB] at ho;obtain ⟨_,_,_,_,ho⟩:=ho
   split at ho
   ·simp only [OM,OB] at ho;obtain ⟨_,_,_,_,rfl⟩:=ho;simp [cls] at hc
   ·cases ho
  ·cases ho
 | alloc t =>
  rw [hop] at ho;simp only [cO] at ho
  split at ho
  ·split at ho
   ·simp only [OI] at ho;subst ho;simp [cls] at hc
   ·cases ho
  ·simp only [OM,OB] at ho;obtain ⟨_,_,_,_,rfl⟩:=ho;simp [cls] at hc
 | box t x => rw [hop] at ho;simp only [cO,OM] at ho;obtain ⟨_,_,rfl⟩:=ho;simp [cls] at hc
 | buildSlice t n ps => rw [hop] at ho;simp only [cO,OM,OB] at ho;obtain ⟨_,_,_,_,_,_,rfl⟩:=ho;simp [cls] at hc
 | makeSlice t n c => rw [hop] at ho;simp only [cO,OM,OB] at ho;obtain ⟨_,_,_,_,_,_,_,_,rfl⟩:=ho;simp [cls] at hc
 | makeMap t r =>
  rw [hop] at ho
  cases r<;>simp only [cO] at ho
  ·simp only [OI] at ho;subst ho;simp [cls] at hc
  ·cases ho
 | store t x y => rw [hop] at ho;simp only [cO,OM,OB] at ho;obtain ⟨_,_,_,_,_,_,rfl⟩:=ho;simp [cls] at hc
 | mapUpdate t m k x =>
  rw [hop] at ho;simp only [cO] at ho
  split at ho
  ·simp only [OM,OB] at ho;obtain ⟨_,_,_,_,_,_,_,_,rfl⟩:=ho;simp [cls] at hc
  ·cases ho
 | call c =>
  rw [hop] at ho;simp only [cO] at ho
  split at ho
  ·simp only [OM,OB] at ho;obtain ⟨_,_,_,_,rfl⟩:=ho;simp [cls] at hc
  ·cases ho
  ·rename_i b hcal
   split at ho
   ·rename_i x t ha ht
    have hce:=Y5 hcal ha ht
    rw [hce] at hop
    split at ho
    ·rename_i hu;simp only [OM] at ho;obtain ⟨x',hx,rfl⟩:=ho;exact Al7 (ty:=0) hu hf hop hx hv
    ·rename_i e hu;simp only [OM] at ho;obtain ⟨x',hx,rfl⟩:=ho;exact Ar6 hu hf hop hx hv
    ·rename_i n e hu;simp only [OI] at ho;subst ho;exact A32 hu hop hv
    ·simp only [OM] at ho;obtain ⟨_,_,rfl⟩:=ho;simp [cls] at hc
    ·cases ho
   ·rename_i x r _ ha
    rw [Td hcal] at hop
    simp only [OM,OB] at ho;obtain ⟨x',hx,r',hr,rfl⟩:=ho
    exact A5f (ty:=0) ha hf hop hx hr hv
   ·rename_i x r _ ha
    rw [Td hcal] at hop
    simp only [OM,OB] at ho;obtain ⟨x',hx,r',hr,rfl⟩:=ho
    exact A5g (ty:=0) ha hf hop hx hr hv
   ·split at ho<;>try (cases ho;done)
    all_goals (simp only [OM,OB] at ho;obtain ⟨_,_,_,_,_,_,_,_,rfl⟩:=ho;simp [cls] at hc)
   ·simp only [OM,OB] at ho;obtain ⟨_,_,_,_,_,_,rfl⟩:=ho;simp [cls] at hc
   ·simp only [OB] at ho;obtain ⟨_,_,_,_,ho⟩:=ho
    split at ho
    ·cases ho
    ·simp only [OM] at ho;obtain ⟨_,_,rfl⟩:=ho;simp [cls] at hc
   ·split at ho
    ·simp only [OM,OB] at ho;obtain ⟨_,_,_,_,_,_,rfl⟩:=ho;simp [cls] at hc
    ·cases ho
   ·cases ho
 | panic x => rw [hop] at ho;simp only [cO,OI] at ho;subst ho;simp [Ax,ev] at hv
 | _ => rw [hop] at ho;simp [cO] at ho
end
end Go.L
