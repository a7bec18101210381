/- THE LOGICAL MACHINE AND THE MODEL: operations that look at no heap (3). -/
import Derived.Test.YtnanlkamcgihlaaDoorSa
set_option linter.unusedVariables false
set_option linter.unusedSimpArgs false
namespace Go.L
open Go
variable {P:Program} {ι : Inj} {w:World}
section
variable {sz:Nat} {f:FF} {a:Act} {o:Oper} {q:O} {v:Value}
theorem A25 {op:UnOp} {t:TypeId} {x:Operand} (hf:FFR ι sz f a.tmps) (ho:o.op = .unOp op t x) {x':X} (hx:cX x = some x') (hv:Ax f (.un op x') = some v):Cp P ι a o v w:=by
 have c:=Av hf hx
 simp only [Ax] at hv
 unfold unOp at hv
 split at hv
 ·rename_i k n e
  rw [e] at c
  simp only [OI] at hv;subst hv
  exact ⟨_,by simp only [execOp,ho,c.int_inv];exact D5 _ rfl,.int _ _⟩
 ·rename_i b e
  rw [e] at c
  simp only [OI] at hv;subst hv
  exact ⟨_,by simp only [execOp,ho,c.bool_inv];exact D5 _ rfl,.bool _⟩
 ·cases hv
theorem A2e {src dst:TypeId} {k0 k:IntKind} {x:Operand} (hs:P.underlying src = some (.int k0)) (hd:P.underlying dst = some (.int k)) (hf:FFR ι sz f a.tmps) (ho:o.op = .convert src dst x) {x':X} (hx:cX x = some x') (hv:Ax f (.cvi k x') = some v):Cp P ι a o v w:=by
 have c:=Av hf hx
 simp only [Ax] at hv
 split at hv
 ·rename_i d n e
  rw [e] at c
  simp only [OI] at hv;subst hv
  refine ⟨.int k (k.wrap n),?_,.int _ _⟩
  simp only [execOp,ho,c.int_inv]
  refine D5 _ ?_
  simp only [Go.convert,Sem.run_bind,run_underlying hs,run_underlying hd,Result.andThen];rfl
 ·cases hv
theorem A2d {src dst:TypeId} {x:Operand} (hs:P.underlying src = some .string) (hd:P.underlying dst = some .string) (hf:FFR ι sz f a.tmps) (ho:o.op = .convert src dst x) {x':X} (hx:cX x = some x') (hv:Ax f (.cvs x') = some v):Cp P ι a o v w:=by
 have c:=Av hf hx
 simp only [Ax] at hv
 split at hv
 ·rename_i s e
  rw [e] at c
  simp only [OI] at hv;subst hv
  refine ⟨.string s,?_,.string _⟩
  simp only [execOp,ho,c.string_inv]
  refine D5 _ ?_
  simp only [Go.convert,Sem.run_bind,run_underlying hs,run_underlying hd,Result.andThen];rfl
 ·cases hv
theorem Va {α β : Type} (g:α → Sem β) (k:α → Option β) (w:World):∀ (l:List α) (m:List β),l.mapM k = some m → (∀ x y,k x = some y → (g x).run P w = .ok y w) → (l.mapM g).run P w = .ok m w
 | [],m,h,_ => by simp at h;subst h;rfl
 | x :: l,m,h,hg => by
  simp only [List.mapM_cons,Option.bind_eq_bind,OB,Option.pure_def,OI] at h
  obtain ⟨y,c,r,a,rfl⟩:=h
  simp only [List.mapM_cons,Sem.run_bind,hg x y c,Result.andThen,Va g k w l r a hg];rfl
theorem Yw {t:TypeId} {z:List Value} (h:Q8 P t = some z) (w:World):∃ zv,(zeroValue t).run P w = .ok zv w ∧ Bj zv = z:=by
 unfold Q8 at h
 simp only [OM,OB] at h
 obtain ⟨zv,⟨i,c,a⟩,rfl⟩:=h
 exact ⟨zv,by simp [zeroValue,Sem.run_bind,run_typeInfo w c,Result.andThen,a],rfl⟩
theorem P9 (v:Value):v.cells.toList = Bj v:=by cases v <;> rfl
theorem VRs.self {l:List Value} (h:l.all (Ae 0 4) = true):VRs ι l l:=by
 induction l with
 | nil => exact .nil
 | cons x l ih => simp at h;exact .cons (VR.self 4 x h.1) (ih (by simpa using h.2))
theorem Aes {t:TypeId} {ps:Array (Nat × Operand)} {fs:Array Field} {z:List Value} {pl:List (Nat × Nat)} {qs:List (Nat × Nat × X)} (hu:P.underlying t = some (.struct fs)) (hz:Q8 P t = some z) (hzn:z.all (Ae 0 4) = true)
  (hp:Asv P fs.toList = some pl) (hq:Oy (fun i => pl[i]?) ps.toList = some qs) (hf:FFR ι sz f a.tmps) (ho:o.op = .build t ps) (hv:Ax f (.bld z qs) = some v):Cp P ι a o v w:=by
 simp only [Ax,OM] at hv
 obtain ⟨c,hc,rfl⟩:=hv
 obtain ⟨zv,s,l⟩:=Yw hz w
 obtain ⟨r',e,hr⟩:=Vp hf hq (VRs.self (ι:=ι) hzn) hc
 refine ⟨.agg r'.toArray,?_,.agg hr⟩
 simp only [execOp,ho]
 refine D5 _ ?_
 have r:(fs.mapM (m:=Sem) fun f => do pure (f.offset,← sizeOf f.type)).run P w = .ok pl.toArray w:=by
  rw [Array.mapM_eq_mapM_toList]
  have:=Va (P:=P) (fun f:Field => (do pure (f.offset,← sizeOf f.type):Sem (Nat × Nat))) (fun f => (szO P f.type).map fun n => (f.offset,n)) w fs.toList pl hp (fun x y j => by
   simp only [OM] at j
   obtain ⟨n,u,rfl⟩:=j
   simp [Sem.run_bind,Dz u,Result.andThen])
  have d:∀ {α β : Type} (g:α → β) (x:Sem α) (y:α) (w':World),x.run P w = .ok y w' → (g <$> x).run P w = .ok (g y) w':=by
   intro α β g x y w' hx
   rw [map_eq_pure_bind]
   simp only [Sem.run_bind,hx,Result.andThen];rfl
  exact d _ _ _ _ this
 have e1:zv.cells = z.toArray:=by rw [← l,← P9]
 have e2:(ps.map fun x => (x.1,a.eval x.2)).toList = ps.toList.map fun p => (p.1,a.eval p.2):=by simp
 simp only [Instr.build,Sem.run_bind,s,Result.andThen,run_underlying hu,r,e1]
 have e3:(fun i:Nat => pl.toArray[i]?) = fun i:Nat => pl[i]?:=by funext i;simp
 rw [e2,e3,e];rfl
theorem Aqe {t e:TypeId} {k n:Nat} {ps:Array (Nat × Operand)} {z:List Value} {qs:List (Nat × Nat × X)} (hu:P.underlying t = some (.array k e)) (hz:Q8 P t = some z) (hzn:z.all (Ae 0 4) = true)
  (hp:szO P e = some n) (hq:Oy (fun i => some (i * n,n)) ps.toList = some qs) (hf:FFR ι sz f a.tmps) (ho:o.op = .build t ps) (hv:Ax f (.bld z qs) = some v):Cp P ι a o v w:=by
 simp only [Ax,OM] at hv
 obtain ⟨c,s,rfl⟩:=hv
 obtain ⟨m,j,g⟩:=Yw hz w
 obtain ⟨u,d,r⟩:=Vp hf hq (VRs.self (ι:=ι) hzn) s
 refine ⟨.agg u.toArray,?_,.agg r⟩
 simp only [execOp,ho]
 refine D5 _ ?_
 have l:m.cells = z.toArray:=by rw [← g,← P9]
 have y:(ps.map fun x => (x.1,a.eval x.2)).toList = ps.toList.map fun p => (p.1,a.eval p.2):=by simp
 simp only [Instr.build,Sem.run_bind,j,Result.andThen,run_underlying hu,Dz hp,l]
 rw [y,d];rfl
theorem A2b {t:TypeId} {i n:Nat} {fs:Array Field} {fd:Field} {x:Operand} (hu:P.underlying t = some (.struct fs)) (hfd:fs[i]? = some fd) (hn:szO P fd.type = some n) (hn0:n ≠ 0) (hf:FFR ι sz f a.tmps) (ho:o.op = .fieldAddr t x i)
  {x':X} (hx:cX x = some x') (hv:Ax f (.fld fd.offset x') = some v):Cp P ι a o v w:=by
 have d:=Av hf hx
 simp only [Ax] at hv
 split at hv
 ·rename_i l e
  rw [e] at d
  obtain ⟨m,g,_,j⟩:=d.ptr_inv
  simp only [OI] at hv;subst hv
  have:=VR.ptr (ι:=ι) (l.off + fd.offset) g
  refine ⟨_,?_,this⟩
  simp only [execOp,ho,j]
  refine D5 _ ?_
  simp only [Instr.fieldAt,Sem.run_bind,run_underlying hu,Result.andThen,hfd,Instr.sureAddr,fieldPlace,Dz hn,hn0]
  simp only [Addr.add,if_false]
  by_cases c:fd.offset = 0
  ·simp [c,Sem.run_bind,Result.andThen]
  ·simp [c,Sem.run_bind,Result.andThen,Nat.add_assoc]
 ·cases hv
theorem A2a {t:TypeId} {i:Nat} {g:Option Nat} {fs:Array Field} {fd:Field} {x:Operand} (hu:P.underlying t = some (.struct fs)) (hfd:fs[i]? = some fd) (hg:Qq P fd.type = some g) (hf:FFR ι sz f a.tmps) (ho:o.op = .field t x i)
  {x':X} (hx:cX x = some x') (hv:Ax f (.fof fd.offset g x') = some v):Cp P ι a o v w:=by
 have d:=Av hf hx
 simp only [Ax] at hv
 split at hv
 ·rename_i p e
  rw [e] at d
  obtain ⟨j,l,c⟩:=d.agg_inv
  obtain ⟨n,m,h2⟩:=Afz hg c hv w
  refine ⟨n,?_,h2⟩
  simp only [execOp,ho,l]
  refine D5 _ ?_
  simp only [Instr.field,Sem.run_bind,run_underlying hu,Result.andThen,hfd,asAgg,Sem.run_pure]
  exact m
 ·cases hv
theorem Tf (m:Img) (off k:Nat):(⟨m.rb,m.off + off,none⟩:Addr).add k = ⟨m.rb,m.off + (off + k),none⟩:=by
 unfold Addr.add
 split
 ·rename_i h;subst h;rfl
 ·simp [Nat.add_assoc]
theorem A19 {t e:TypeId} {k n:Nat} {x i:Operand} (hu:P.underlying t = some (.array k e)) (hn:szO P e = some n) (hf:FFR ι sz f a.tmps) (ho:o.op = .indexAddr t x i)
  {x' i':X} (hx:cX x = some x') (hi:cX i = some i') (hv:Ax f (.ixa k n x' i') = some v):Cp P ι a o v w:=by
 have d:=Av hf hx
 have c:=Av hf hi
 simp only [Ax] at hv
 split at hv
 ·rename_i p g
  rw [g] at d
  obtain ⟨m,l,_,r⟩:=d.ptr_inv
  unfold Sq at hv
  split at hv
  ·rename_i y j u
   rw [u] at c
   split at hv
   ·rename_i s
    simp only [OI] at hv;subst hv
    refine ⟨_,?_,VR.ptr (ι:=ι) (p.off + j.toNat * n) l⟩
    simp only [execOp,ho,r,c.int_inv]
    refine D5 _ ?_
    simp only [Instr.indexAt,Sem.run_bind,asIntOf,Sem.run_pure,run_underlying hu,Result.andThen,Instr.sureAddr,s,and_self,if_true,Dz hn,Tf]
   ·cases hv
  ·cases hv
 ·cases hv
theorem A18 {t e:TypeId} {n:Nat} {x i:Operand} (hu:P.underlying t = some (.slice e)) (hn:szO P e = some n) (hf:FFR ι sz f a.tmps) (ho:o.op = .indexAddr t x i)
  {x' i':X} (hx:cX x = some x') (hi:cX i = some i') (hv:Ax f (.ixs n x' i') = some v):Cp P ι a o v w:=by
 have p:=Av hf hx
 have r:=Av hf hi
 simp only [Ax] at hv
 split at hv
 ·rename_i g len u s
  rw [s] at p
  unfold Sq at hv
  split at hv
  ·rename_i kk j e2
   rw [e2] at r
   split at hv
   ·rename_i z
    simp only [OI] at hv;subst hv
    have d:∀ {m:Img} (off c:Nat),ι g.block = some m → g.off = off → a.eval x = .slice (some ⟨m.rb,m.off + off,none⟩) len c → Cp P ι a o (.pointer (some ⟨g.block,g.off + j.toNat * n,none⟩)) w:=by
     intro m off c y l hr
     refine ⟨_,?_,VR.ptr (ι:=ι) (g.off + j.toNat * n) y⟩
     simp only [execOp,ho,hr,r.int_inv]
     refine D5 _ ?_
     simp only [Instr.indexAt,Sem.run_bind,asIntOf,Sem.run_pure,run_underlying hu,Result.andThen,z,and_self,if_true,Dz hn,Tf,l]
    cases rx':a.eval x <;> rw [rx'] at p <;> cases p
    ·exact d _ _ ‹_› rfl rx'
    ·omega
    ·exact d _ _ ‹_› rfl rx'
    ·omega
   ·cases hv
  ·cases hv
 ·cases hv
theorem A16 {t e:TypeId} {k n:Nat} {g:Option Nat} {x i:Operand} (hu:P.underlying t = some (.array k e)) (hn:szO P e = some n) (hg:Qq P e = some g) (hf:FFR ι sz f a.tmps) (ho:o.op = .index t x i)
  {x' i':X} (hx:cX x = some x') (hi:cX i = some i') (hv:Ax f (.ixv k n g x' i') = some v):Cp P ι a o v w:=by
 have l:=Av hf hx
 have d:=Av hf hi
 simp only [Ax] at hv
 split at hv
 ·rename_i cs kk j p z
  rw [p] at l;rw [z] at d
  split at hv
  ·rename_i s
   obtain ⟨m,r,c⟩:=l.agg_inv
   obtain ⟨y,u,h2⟩:=Afz hg c hv w
   refine ⟨y,?_,h2⟩
   simp only [execOp,ho,r,d.int_inv]
   refine D5 _ ?_
   simp only [Instr.index,Sem.run_bind,asIntOf,Sem.run_pure,run_underlying hu,Result.andThen,s,and_self,if_true,Dz hn]
   exact u
  ·cases hv
 ·cases hv
theorem A17 {t:TypeId} {x i:Operand} (hu:P.underlying t = some .string) (hf:FFR ι sz f a.tmps) (ho:o.op = .index t x i)
  {x' i':X} (hx:cX x = some x') (hi:cX i = some i') (hv:Ax f (.ixt x' i') = some v):Cp P ι a o v w:=by
 have e:=Av hf hx
 have d:=Av hf hi
 simp only [Ax] at hv
 split at hv
 ·rename_i s p j g n
  rw [g] at e;rw [n] at d
  split at hv
  ·rename_i l
   simp only [OM] at hv
   obtain ⟨c,m,rfl⟩:=hv
   refine ⟨.int .u8 c.toNat,?_,.int _ _⟩
   simp only [execOp,ho,e.string_inv,d.int_inv]
   refine D5 _ ?_
   simp only [Instr.index,Sem.run_bind,asIntOf,Sem.run_pure,run_underlying hu,Result.andThen,l,if_true,m]
  ·cases hv
 ·cases hv
end
end Go.L
namespace Go.L
open Go
variable {P:Program} {ι : Inj} {w:World}
section
variable {sz:Nat} {f:FF} {a:Act} {o:Oper} {q:O} {v:Value}
theorem Mh {x:Option Operand} {q:Option X} (h:cOX x = some q):(x = none ∧ q = none) ∨ ∃ y z,x = some y ∧ q = some z ∧ cX y = some z:=by
 cases x with
 | none => simp [cOX] at h;exact .inl ⟨rfl,h.symm⟩
 | some y => simp only [cOX,OM] at h;obtain ⟨z,a,rfl⟩:=h;exact .inr ⟨y,z,rfl,rfl,a⟩
theorem G3 {x:Option X} {d high n:Nat} (hd:d ≤ high) (h:Br f x d high = some n):n ≤ high:=by
 cases x with
 | none => simp [Br] at h;omega
 | some x =>
  simp only [Br] at h
  split at h
  ·split at h
   ·simp only [OI] at h;omega
   ·cases h
  ·cases h
theorem Rn (hf:FFR ι sz f a.tmps) {lo hi:Option Operand} {lo' hi':Option X} (hlo:cOX lo = some lo') (hhi:cOX hi = some hi') {isS:Bool} {len cap l h:Nat}
  (h1:Br f hi' len cap = some h) (h2:Br f lo' 0 h = some l) (w:World) :
  (Instr.sliceBounds isS len cap (lo.map a.eval) (hi.map a.eval) none).run P w = .ok (l,h,cap) w:=by
 rcases Mh hhi with ⟨rfl,rfl⟩ | ⟨y,z,rfl,rfl,d⟩
 ·simp only [Br,OI] at h1;subst h1
  rcases Mh hlo with ⟨rfl,rfl⟩ | ⟨e,g,rfl,rfl,c⟩
  ·simp only [Br,OI] at h2;subst h2
   simp [Instr.sliceBounds,Sem.run_bind,Result.andThen]
  ·simp [Instr.sliceBounds,Sem.run_bind,Result.andThen,G7 hf c h2]
 ·rcases Mh hlo with ⟨rfl,rfl⟩ | ⟨e,g,rfl,rfl,c⟩
  ·simp only [Br,OI] at h2;subst h2
   cases isS <;> simp [Instr.sliceBounds,Sem.run_bind,Result.andThen,G7 hf d h1]
  ·cases isS <;> simp [Instr.sliceBounds,Sem.run_bind,Result.andThen,G7 hf d h1,G7 hf c h2]
theorem Af0 (hf:FFR ι sz f a.tmps) {lo:Option Operand} {hi mx:Operand} {lo':Option X} {hi' mx':X} (hlo:cOX lo = some lo') (hhi:cX hi = some hi') (hmx:cX mx = some mx') {isS:Bool} {len cap l h m d d':Nat}
  (h0:Br f (some mx') d cap = some m) (h1:Br f (some hi') d' m = some h) (h2:Br f lo' 0 h = some l) (w:World) :
  (Instr.sliceBounds isS len cap (lo.map a.eval) (some (a.eval hi)) (some (a.eval mx))).run P w = .ok (l,h,m) w:=by
 rcases Mh hlo with ⟨rfl,rfl⟩ | ⟨g,e,rfl,rfl,c⟩
 ·simp only [Br,OI] at h2;subst h2
  simp [Instr.sliceBounds,Sem.run_bind,Result.andThen,G7 hf hmx h0,G7 hf hhi h1]
 ·simp [Instr.sliceBounds,Sem.run_bind,Result.andThen,G7 hf hmx h0,G7 hf hhi h1,G7 hf c h2]
theorem A1y {t:TypeId} {x:Operand} {lo hi:Option Operand} (hu:P.underlying t = some .string) (hf:FFR ι sz f a.tmps) (ho:o.op = .slice t x lo hi none)
  {x':X} {lo' hi':Option X} (hx:cX x = some x') (hlo:cOX lo = some lo') (hhi:cOX hi = some hi') (hv:Ax f (.slt x' lo' hi') = some v):Cp P ι a o v w:=by
 have c:=Av hf hx
 simp only [Ax] at hv
 split at hv
 ·rename_i s e
  rw [e] at c
  simp only [OB,OI] at hv
  obtain ⟨h,d,l,h2,rfl⟩:=hv
  refine ⟨_,?_,.string _⟩
  simp only [execOp,ho,c.string_inv]
  refine D5 _ ?_
  simp only [Instr.sliceAt,Instr.slice,Sem.run_bind,run_underlying hu,Result.andThen,Option.map_none,Option.isSome_none,Bool.false_eq_true,if_false,Rn (P:=P) hf hlo hhi d h2 w]
  rfl
 ·cases hv
theorem A10 {t e:TypeId} {k n:Nat} {x:Operand} {lo hi:Option Operand} (hu:P.underlying t = some (.array k e)) (hn:szO P e = some n) (hf:FFR ι sz f a.tmps) (ho:o.op = .slice t x lo hi none)
  {x':X} {lo' hi':Option X} (hx:cX x = some x') (hlo:cOX lo = some lo') (hhi:cOX hi = some hi') (hv:Ax f (.sla k n x' lo' hi') = some v):Cp P ι a o v w:=by
 have j:=Av hf hx
 simp only [Ax] at hv
 split at hv
 ·rename_i d p
  rw [p] at j
  obtain ⟨m,c,_,s⟩:=j.ptr_inv
  simp only [OB,OI] at hv
  obtain ⟨h,g,l,h2,rfl⟩:=hv
  have z:=G3 (Nat.le_refl k) g
  have hl:=G3 (Nat.zero_le _) h2
  refine ⟨.slice (some (if k = l then ⟨m.rb,m.off + d.off,none⟩ else ⟨m.rb,m.off + (d.off + l * n),none⟩)) (h - l) (k - l),?_,?_⟩
  ·simp only [execOp,ho,s]
   refine D5 _ ?_
   simp only [Instr.sliceAt,Sem.run_bind,run_underlying hu,Result.andThen,Option.map_none,Instr.sureAddr,Sem.run_pure,Rn (P:=P) hf hlo hhi g h2 w,Dz hn,Tf]
  ·split
   ·rename_i y
    have u:h - l = 0:=by omega
    have r:k - l = 0:=by omega
    rw [u,r];exact .slice0 _ _ c
   ·exact .slice _ _ _ c
 ·cases hv
theorem Aod {α : Type} {x:Option Nat} {y:Nat → Option Nat} {z:Nat → Nat → Option α} {r:α} (h:(x.bind fun a => (y a).bind fun b => z a b) = some r):∃ a b,x = some a ∧ y a = some b ∧ z a b = some r:=by
 simp only [OB] at h
 obtain ⟨a,c,b,d,e⟩:=h
 exact ⟨a,b,c,d,e⟩
theorem A1z {t e:TypeId} {n:Nat} {x:Operand} {lo hi mx:Option Operand} (hu:P.underlying t = some (.slice e)) (hn:szO P e = some n) (hf:FFR ι sz f a.tmps) (ho:o.op = .slice t x lo hi mx)
  {x':X} {lo' hi' mx':Option X} (hx:cX x = some x') (hlo:cOX lo = some lo') (hhi:cOX hi = some hi') (hmx:cOX mx = some mx') (hv:Ax f (.sls n x' lo' hi' mx') = some v):Cp P ι a o v w:=by
 have rx:=Av hf hx
 simp only [Ax] at hv
 have p:∀ {c:Option Addr} {len g l h:Nat},mx = none → a.eval x = .slice c len g → Br f hi' len g = some h → Br f lo' 0 h = some l →
   (execOp a.eval o).run P w = .ok (.value (.slice (if g = l then c else c.map (·.add (l * n))) (h - l) (g - l))) w:=by
  intro c len g l h hm hr j h2
  subst hm
  simp only [execOp,ho,hr]
  refine D5 _ ?_
  simp only [Instr.sliceAt,Instr.slice,Sem.run_bind,run_underlying hu,Result.andThen,Option.map_none,Rn (P:=P) hf hlo hhi j h2 w,Dz hn]
  rfl
 have r:∀ {c:Option Addr} {len g l h m d d':Nat} {mo a5:Operand} {mq hq:X},mx = some mo → hi = some a5 → cX mo = some mq → cX a5 = some hq → a.eval x = .slice c len g →
   Br f (some mq) d g = some m → Br f (some hq) d' m = some h → Br f lo' 0 h = some l →
   (execOp a.eval o).run P w = .ok (.value (.slice (if m = l then c else c.map (·.add (l * n))) (h - l) (m - l))) w:=by
  intro c len g l h m d d' mo a5 mq hq hm hh a0 a1 hr y j h2
  subst hm;subst hh
  simp only [execOp,ho,hr]
  refine D5 _ ?_
  simp only [Instr.sliceAt,Instr.slice,Sem.run_bind,run_underlying hu,Result.andThen,Option.map_some,Af0 (P:=P) hf hlo a1 a0 y j h2 w,Dz hn]
  rfl
 generalize hvx:ev f x' = vx at rx hv
 unfold Zg at hv
 split at hv
 ·-- nil
  split at hv
  ·cases hv
  ·rename_i ac
   obtain ⟨m,h,y,j,hz⟩:=Aod hv
   simp only [OB,OI] at hz
   obtain ⟨l,h2,rfl⟩:=hz
   have em:m = 0:=by have:=G3 (Nat.zero_le _) y;omega
   subst em
   have eh:h = 0:=by have:=G3 (Nat.zero_le _) j;omega
   subst eh
   have el:l = 0:=by have:=G3 (Nat.zero_le _) h2;omega
   subst el
   refine ⟨.slice none 0 0,?_,.nils 0 0⟩
   have hr:a.eval x = .slice none 0 0:=by
    generalize a.eval x = rv at rx
    cases rx;rfl
   rcases Mh hmx with ⟨u,rfl⟩ | ⟨mo,mq,u,rfl,a0⟩
   ·have:=p u hr j h2
    simpa using this
   ·rcases Mh hhi with ⟨e2,rfl⟩ | ⟨a5,hq,e2,rfl,a1⟩
    ·simp at ac
    ·have:=r u e2 a0 a1 hr y j h2
     simpa using this
 ·rename_i ad len g
  split at hv
  ·-- three indexes
   rename_i mq
   split at hv
   ·cases hv
   ·rename_i hq
    obtain ⟨m,h,y,j,hz⟩:=Aod hv
    simp only [OB,OI] at hz
    obtain ⟨l,h2,rfl⟩:=hz
    rcases Mh hmx with ⟨u,a4⟩ | ⟨mo,ab,u,a4,a0⟩
    ·cases a4
    cases a4
    rcases Mh hhi with ⟨e2,a8⟩ | ⟨a5,aj,e2,a8,a1⟩
    ·cases a8
    cases a8
    have hm:=G3 (Nat.zero_le _) y
    have hh:=G3 (Nat.zero_le _) j
    have hl:=G3 (Nat.zero_le _) h2
    have a7:∀ {mi:Img} {off c':Nat},ι ad.block = some mi → ad.off = off → a.eval x = .slice (some ⟨mi.rb,mi.off + off,none⟩) len c' → g ≤ c' → Cp P ι a o (.slice (some ⟨ad.block,ad.off + l * n,none⟩) (h - l) (m - l)) w:=by
     intro mi off c' a3 a9 hr hc
     have ag:Br f (some mq) 0 c' = some m:=by
      simp only [Br] at y ⊢
      split at y
      ·split at y
       ·rename_i hb;rw [if_pos (by omega)];exact y
       ·cases y
      ·cases y
     refine ⟨_,r u e2 a0 a1 hr ag j h2,?_⟩
     split
     ·rename_i e
      have e3:h - l = 0:=by omega
      have e4:m - l = 0:=by omega
      rw [e3,e4];exact .slice0 _ _ a3
     ·simp only [Option.map_some,Tf,a9];exact .slice _ _ _ a3
    have a6:∀ {a':Addr} {mi:Img},ι ad.block = some mi → a.eval x = .slice (some a') 0 0 → len = 0 → g = 0 → Cp P ι a o (.slice (some ⟨ad.block,ad.off + l * n,none⟩) (h - l) (m - l)) w:=by
     intro a' mi af hr e5 e6
     have em:m = 0:=by omega
     have eh:h = 0:=by omega
     have el:l = 0:=by omega
     subst em;subst eh;subst el;subst e6
     refine ⟨_,r u e2 a0 a1 hr y j h2,?_⟩
     exact .slice0 _ _ af
    cases rx':a.eval x <;> rw [rx'] at rx <;> cases rx
    ·exact a7 ‹_› rfl rx' (Nat.le_refl _)
    ·exact a6 ‹_› rx' rfl rfl
    ·exact a7 ‹_› rfl rx' (by omega)
    ·exact a6 ‹_› rx' rfl rfl
  ·-- two
   rename_i ah
   have u:mx = none:=by
    rcases Mh hmx with ⟨u,_⟩ | ⟨mo,ab,_,a4,_⟩
    ·exact u
    ·cases a4
   split at hv
   ·-- the capacity is known
    rename_i a2
    obtain ⟨h,l,j,h2,hz⟩:=Aod hv
    split at hz
    ·rename_i al
     simp only [OI] at hz;subst hz
     have hl:=G3 (Nat.zero_le _) h2
     cases rx':a.eval x <;> rw [rx'] at rx <;> cases rx
     ·refine ⟨_,p u rx' j h2,?_⟩
      split
      ·rename_i e
       have e3:h - l = 0:=by omega
       have e4:g - l = 0:=by omega
       rw [e3,e4];exact .slice0 _ _ ‹_›
      ·simp only [Option.map_some,Tf];exact .slice _ _ _ ‹_›
     ·have eh:h = 0:=by omega
      have el:l = 0:=by omega
      subst eh;subst el
      refine ⟨_,p u rx' j h2,?_⟩
      exact .slice0 _ _ ‹_›
     ·cases a2
     ·cases a2
    ·cases hz
   ·rename_i s a2
    split at hv
    ·rename_i es
     subst es
     obtain ⟨h,l,j,h2,hz⟩:=Aod hv
     simp only [OI] at hz;subst hz
     have hh:=G3 (Nat.le_refl _) j
     have hl:=G3 (Nat.zero_le _) h2
     cases rx':a.eval x <;> rw [rx'] at rx <;> cases rx
     ·cases a2
     ·cases a2
     ·rename_i c0 b0 m0 ai s0 a3 am ak
      have aa:s0 = s:=by simpa using a2
      subst aa
      have ae:Br f hi' len c0 = some h:=by
       cases hi' with
       | none => simpa [Br] using j
       | some z =>
        simp only [Br] at j ⊢
        split at j
        ·split at j
         ·rename_i hb;rw [if_pos (by omega)];exact j
         ·cases j
        ·cases j
      refine ⟨_,p u rx' ae h2,?_⟩
      split
      ·rename_i e
       have e3:h - l = 0:=by omega
       have e4:c0 - l = 0:=by omega
       rw [e3,e4];exact .loose0 _ _ _ a3
      ·simp only [Option.map_some,Tf]
       refine .loose _ _ _ _ a3 (by omega) ?_
       have:c0 * s0 = l * s0 + (c0 - l) * s0:=by rw [← Nat.add_mul];congr 1;omega
       omega
     ·have eh:h = 0:=by omega
      have el:l = 0:=by omega
      subst eh;subst el
      refine ⟨_,p u rx' j h2,?_⟩
      exact .loose0 _ _ _ ‹_›
    ·cases hv
 ·cases hv
theorem A11 {x:Operand} (hf:FFR ι sz f a.tmps) (ho:o.op = .nilCheck x) {x':X} (hx:cX x = some x') (hv:Ax f (.nil x') = some v):Cp P ι a o v w:=by
 have d:=Av hf hx
 simp only [Ax] at hv
 split at hv
 ·rename_i p e
  rw [e] at d
  simp only [OI] at hv;subst hv
  obtain ⟨m,n,r,j⟩:=d.ptr_inv
  refine ⟨_,?_,d⟩
  simp only [execOp,ho,j];rfl
 ·rename_i g l c e
  rw [e] at d
  simp only [OI] at hv;subst hv
  refine ⟨_,?_,d⟩
  generalize j:a.eval x = rv at d
  cases d
  simp only [execOp,ho,j];rfl
 ·cases hv
theorem A2c {x:Operand} {i:Nat} (hf:FFR ι sz f a.tmps) (ho:o.op = .extract x i) {x':X} (hx:cX x = some x') (hv:Ax f (.ext x' i) = some v):Cp P ι a o v w:=by
 have l:=Av hf hx
 simp only [Ax] at hv
 split at hv
 ·rename_i p e
  rw [e] at l
  split at hv
  ·rename_i s c
   split at hv
   ·rename_i g
    simp only [OI] at hv;subst hv
    obtain ⟨m,n,d⟩:=l.tuple_inv (by
     intro e
     simp only [Kj,Value.tuple.injEq] at e
     subst e
     cases i with
     | zero => simp at c;subst c;simp [Fm] at g
     | succ i => simp at c)
    obtain ⟨r,j,h2⟩:=d.at_ c
    refine ⟨r,?_,h2⟩
    simp only [execOp,ho,n]
    refine D5 _ ?_
    simp only [Instr.extract]
    simp at j
    simp [j]
   ·cases hv
  ·cases hv
 ·cases hv
theorem A13 {g:FuncId} {first cap:Array Operand} (hf:FFR ι sz f a.tmps) (ho:o.op = .makeFunc (.func g) first cap) {l c:List X} (hl:cXs first.toList = some l) (hc:cXs cap.toList = some c)
  (hv:Ax f (.mkf (.func g) l c) = some v):Cp P ι a o v w:=by
 simp only [Ax,OI] at hv;subst hv
 refine ⟨.func (.func g) (first.toList.map a.eval).toArray (cap.toList.map a.eval).toArray,?_,.func g (Vt hf hl) (Vt hf hc)⟩
 simp only [execOp,ho]
 refine D5 _ ?_
 simp only [Instr.makeFunc,Sem.run_pure,← Array.toList_map,Array.toArray_toList]
theorem A12 {t:TypeId} {d:TypeDesc} {x:Operand} (hu:P.underlying t = some d) (hd:∀ ms,d ≠ .interface ms) (hf:FFR ι sz f a.tmps) (ho:o.op = .makeInterface t x) {x':X} (hx:cX x = some x') (hv:Ax f (.mki t x') = some v):Cp P ι a o v w:=by
 simp only [Ax,OI] at hv;subst hv
 refine ⟨.iface t (a.eval x),?_,.iface t (Av hf hx)⟩
 simp only [execOp,ho]
 refine D5 _ ?_
 simp only [Instr.makeInterface,Sem.run_bind,run_underlying hu,Result.andThen]
 cases d <;> first | rfl | exact absurd rfl (hd _)
theorem Akr {t ty:TypeId} {x:Operand} (hu:P.underlying t = some .string) (hf:FFR ι sz f a.tmps) (ho:o.op = .call { callee:=.builtin .len,args:=#[x],argTypes:=#[t] }) {x':X} (hx:cX x = some x') (hv:Ax f (.lens true x') = some v):Cp P ι a o v w:=by
 have c:=Av hf hx
 simp only [Ax] at hv
 split at hv
 ·rename_i s _ e
  rw [e] at c
  simp only [OI] at hv;subst hv
  refine ⟨_,?_,.int _ _⟩
  simp only [execOp,ho,resolve,Sem.run_bind,Result.andThen,Sem.run_pure,invoke,Go.builtin]
  simp [Builtin.len_,Sem.run_bind,run_underlying hu,Result.andThen,c.string_inv,goInt]
 ·contradiction
 ·cases hv
theorem Aqd {t e:TypeId} {x:Operand} (hu:P.underlying t = some (.slice e)) (hf:FFR ι sz f a.tmps) (ho:o.op = .call { callee:=.builtin .len,args:=#[x],argTypes:=#[t] }) {x':X} (hx:cX x = some x') (hv:Ax f (.lens false x') = some v):Cp P ι a o v w:=by
 have d:=Av hf hx
 simp only [Ax] at hv
 split at hv
 ·contradiction
 ·rename_i m n c _ j
  rw [j] at d
  simp only [OI] at hv;subst hv
  refine ⟨.int .i64 n,?_,.int _ _⟩
  have:∃ b g,a.eval x = .slice b n g:=by
   generalize a.eval x = rv at d
   cases d <;> exact ⟨_,_,rfl⟩
  obtain ⟨b,g,l⟩:=this
  simp only [execOp,ho,resolve,Sem.run_bind,Result.andThen,Sem.run_pure,invoke,Go.builtin]
  simp [Builtin.len_,Sem.run_bind,run_underlying hu,Result.andThen,l,goInt]
 ·cases hv
theorem A0r {t e:TypeId} {n:Nat} {x:Operand} (hu:P.underlying t = some (.array n e)) (ho:o.op = .call { callee:=.builtin .len,args:=#[x],argTypes:=#[t] }) (hv:Ax f (.lena n) = some v):Cp P ι a o v w:=by
 simp only [Ax,OI] at hv;subst hv
 refine ⟨.int .i64 n,?_,.int _ _⟩
 simp only [execOp,ho,resolve,Sem.run_bind,Result.andThen,Sem.run_pure,invoke,Go.builtin]
 simp [Builtin.len_,Sem.run_bind,run_underlying hu,Result.andThen,goInt]
theorem Ah6 {g:Value → Value → Option Value} {G:Value → Value → Sem Value} (hg:∀ x y z,g x y = some z → ∀ w,(G x y).run P w = .ok z w ∧ ∃ k n k' m k'' j,x = .int k n ∧ y = .int k' m ∧ z = .int k'' j) :
  ∀ {l l':List Value} (hl:VRs ι l l') {x x' z:Value} (hx:VR ι x x') (h:J6 g x l = some z) (w:World),∃ z',(l'.foldlM G x').run P w = .ok z' w ∧ VR ι z z':=by
 intro l l' hl
 induction hl with
 | nil => intro x x' z hx h w;simp [J6] at h;subst h;exact ⟨x',rfl,hx⟩
 | cons hy _ ih =>
  intro x x' z hx h w
  simp only [J6,OB] at h
  obtain ⟨u,e,c⟩:=h
  obtain ⟨a,k,n,k',m,k'',j,rfl,rfl,rfl⟩:=hg _ _ _ e w
  obtain ⟨z',d,h2⟩:=ih (VR.int k'' j) c w
  refine ⟨z',?_,h2⟩
  simp only [List.foldlM_cons,Sem.run_bind]
  rw [hx.int_inv,hy.int_inv,a]
  exact d
theorem A14 {ty:TypeId} {ts:Array TypeId} {x:Operand} {r:List Operand} {args:Array Operand} (ha:args.toList = x :: r) (hf:FFR ι sz f a.tmps) (ho:o.op = .call { callee:=.builtin .min,args,argTypes:=ts })
  {x':X} {r':List X} (hx:cX x = some x') (hr:cXs r = some r') (hv:Ax f (.min x' r') = some v):Cp P ι a o v w:=by
 simp only [Ax] at hv
 obtain ⟨c,d,h2⟩:=Ah6 (P:=P) (G:=Builtin.min2) (fun x y z h w => by
  unfold min2 at h
  split at h
  ·simp only [OI] at h;subst h;exact ⟨rfl,_,_,_,_,_,_,rfl,rfl,rfl⟩
  ·cases h) (Vt hf hr) (Av hf hx) hv w
 refine ⟨c,?_,h2⟩
 simp only [execOp,ho,resolve,Sem.run_bind,Result.andThen,Sem.run_pure,invoke,Go.builtin,Builtin.min_]
 simp [ha,d]
theorem A15 {ty:TypeId} {ts:Array TypeId} {x:Operand} {r:List Operand} {args:Array Operand} (ha:args.toList = x :: r) (hf:FFR ι sz f a.tmps) (ho:o.op = .call { callee:=.builtin .max,args,argTypes:=ts })
  {x':X} {r':List X} (hx:cX x = some x') (hr:cXs r = some r') (hv:Ax f (.max x' r') = some v):Cp P ι a o v w:=by
 simp only [Ax] at hv
 obtain ⟨c,d,h2⟩:=Ah6 (P:=P) (G:=Builtin.max2) (fun x y z h w => by
  unfold max2 at h
  split at h
  ·simp only [OI] at h;subst h;exact ⟨rfl,_,_,_,_,_,_,rfl,rfl,rfl⟩
  ·cases h) (Vt hf hr) (Av hf hx) hv w
 refine ⟨c,?_,h2⟩
 simp only [execOp,ho,resolve,Sem.run_bind,Result.andThen,Sem.run_pure,invoke,Go.builtin,Builtin.max_]
 simp [ha,d]
end
end Go.L
namespace Go.L
open Go
variable {P:Program} {ι : Inj} {h:Aa} {w:World}
section
variable {sz:Nat} {f:FF} {a:Act} {o:Oper} {q:O} {v:Value}
theorem Ayg {α : Type} {xs:Array α} {x:α} (h:xs.toList = [x]):xs = #[x]:=by
 cases xs;simp at h;subst h;rfl
theorem X0 {b:Builtin} {c:Go.Call} {x:Operand} {t:TypeId} (hc:c.callee = .builtin b) (ha:c.args.toList = [x]) (ht:c.argTypes.toList = [t]):c = { callee:=.builtin b,args:=#[x],argTypes:=#[t] }:=by
 obtain ⟨a,d,at_⟩:=c
 simp only at hc ha ht
 rw [hc,Ayg ha,Ayg ht]
theorem Sn {b:Builtin} {c:Go.Call} (hc:c.callee = .builtin b):c = { callee:=.builtin b,args:=c.args,argTypes:=c.argTypes }:=by
 obtain ⟨a,d,at_⟩:=c
 simp only at hc
 rw [hc]
theorem Axa (hf:FFR ι sz f a.tmps) (ho:cO P o.op = some q) (hc:cls q = .P) (hv:Ax f q = some v):Cp P ι a o v w:=by
 cases hop:o.op with
 | move x => rw [hop] at ho;simp only [cO,OM] at ho;obtain ⟨s,j,rfl⟩:=ho;exact Azc hf (.inl hop) j hv
 | assign x => rw [hop] at ho;simp only [cO,OM] at ho;obtain ⟨s,j,rfl⟩:=ho;exact Azc hf (.inr hop) j hv
 | pick c x y => rw [hop] at ho;simp only [cO,OM,OB] at ho;obtain ⟨c',a3,s,j,y',hy,rfl⟩:=ho;exact A0q hf hop a3 j hy hv
 | binOp op t x y yt => rw [hop] at ho;simp only [cO,OM,OB] at ho;obtain ⟨s,j,y',hy,rfl⟩:=ho;exact A2f hf hop j hy hv
 | unOp op t x => rw [hop] at ho;simp only [cO,OM] at ho;obtain ⟨s,j,rfl⟩:=ho;exact A25 hf hop j hv
 | convert src dst x =>
  rw [hop] at ho;simp only [cO] at ho
  split at ho
  ·rename_i k0 k hs hd;simp only [OM] at ho;obtain ⟨s,j,rfl⟩:=ho;exact A2e hs hd hf hop j hv
  ·rename_i hs hd;simp only [OM] at ho;obtain ⟨s,j,rfl⟩:=ho;exact A2d hs hd hf hop j hv
  ·split at ho
   ·simp only [OM] at ho;obtain ⟨s,j,rfl⟩:=ho;simp [cls] at hc
   ·cases ho
  ·split at ho
   ·simp only [OM] at ho;obtain ⟨s,j,rfl⟩:=ho;simp [cls] at hc
   ·cases ho
  ·cases ho
 | build t ps =>
  rw [hop] at ho;simp only [cO] at ho
  split at ho
  ·rename_i fs p;simp only [OB] at ho;obtain ⟨z,hz,ho⟩:=ho
   split at ho
   ·rename_i a5;simp only [OB,OM] at ho;obtain ⟨pl,hp,qs,hq,rfl⟩:=ho;exact Aes p hz a5 hp hq hf hop hv
   ·cases ho
  ·rename_i k e p;simp only [OB] at ho;obtain ⟨z,hz,ho⟩:=ho
   split at ho
   ·rename_i a5;simp only [OB,OM] at ho;obtain ⟨n,u,qs,hq,rfl⟩:=ho;exact Aqe p hz a5 u hq hf hop hv
   ·cases ho
  ·cases ho
 | fieldAddr t x i =>
  rw [hop] at ho;simp only [cO] at ho
  split at ho
  ·rename_i fs p;simp only [OB] at ho;obtain ⟨fd,a4,n,u,ho⟩:=ho
   split at ho
   ·cases ho
   ·rename_i aa;simp only [OM] at ho;obtain ⟨s,j,rfl⟩:=ho;exact A2b p a4 u aa hf hop j hv
  ·cases ho
 | field t x i =>
  rw [hop] at ho;simp only [cO] at ho
  split at ho
  ·rename_i fs p;simp only [OB,OM] at ho;obtain ⟨fd,a4,g,hg,s,j,rfl⟩:=ho;exact A2a p a4 hg hf hop j hv
  ·cases ho
 | indexAddr t x i =>
  rw [hop] at ho;simp only [cO] at ho
  split at ho
  ·rename_i k e p;simp only [OB,OM] at ho;obtain ⟨n,u,s,j,i',hi,rfl⟩:=ho;exact A19 p u hf hop j hi hv
  ·rename_i e p;simp only [OB,OM] at ho;obtain ⟨n,u,s,j,i',hi,rfl⟩:=ho;exact A18 p u hf hop j hi hv
  ·cases ho
 | index t x i =>
  rw [hop] at ho;simp only [cO] at ho
  split at ho
  ·rename_i k e p;simp only [OB,OM] at ho;obtain ⟨n,u,g,hg,s,j,i',hi,rfl⟩:=ho;exact A16 p u hg hf hop j hi hv
  ·rename_i p;simp only [OB,OM] at ho;obtain ⟨s,j,i',hi,rfl⟩:=ho;exact A17 p hf hop j hi hv
  ·cases ho
 | slice t x lo hi mx =>
  rw [hop] at ho;simp only [cO] at ho
  split at ho
  ·rename_i p
   cases mx with
   | some m => simp at ho
   | none => simp only [Option.isSome_none,Bool.false_eq_true,if_false,OB,OM] at ho;obtain ⟨s,j,a6,a2,a7,a0,rfl⟩:=ho;exact A1y p hf hop j a2 a0 hv
  ·rename_i e p;simp only [OB,OM] at ho;obtain ⟨n,u,s,j,a6,a2,a7,a0,ad,ac,rfl⟩:=ho;exact A1z p u hf hop j a2 a0 ac hv
  ·rename_i k e p
   cases mx with
   | some m => simp at ho
   | none => simp only [Option.isSome_none,Bool.false_eq_true,if_false,OB,OM] at ho;obtain ⟨n,u,s,j,a6,a2,a7,a0,rfl⟩:=ho;exact A10 p u hf hop j a2 a0 hv
  ·cases ho
 | nilCheck x => rw [hop] at ho;simp only [cO,OM] at ho;obtain ⟨s,j,rfl⟩:=ho;exact A11 hf hop j hv
 | extract x i => rw [hop] at ho;simp only [cO,OM] at ho;obtain ⟨s,j,rfl⟩:=ho;exact A2c hf hop j hv
 | makeFunc fn first cap =>
  rw [hop] at ho
  cases fn <;> simp only [cO] at ho <;> try (cases ho;done)
  simp only [OB,OM] at ho;obtain ⟨l,hl,c,a3,rfl⟩:=ho;exact A13 hf hop hl a3 hv
 | makeInterface t x =>
  rw [hop] at ho;simp only [cO] at ho
  split at ho
  ·cases ho
  ·cases ho
  ·rename_i a8 a9
   simp only [OM] at ho;obtain ⟨s,j,rfl⟩:=ho
   cases p:P.underlying t with
   | none => exact absurd p a9
   | some d => exact A12 p (fun ms e => a8 ms (by rw [p,e])) hf hop j hv
 | load t x => rw [hop] at ho;simp only [cO,OM,OB] at ho;obtain ⟨_,_,_,_,rfl⟩:=ho;simp [cls] at hc
 | lookup t m k ok =>
  rw [hop] at ho;simp only [cO] at ho
  split at ho
  ·simp only [OB] at ho;obtain ⟨_,_,_,_,ho⟩:=ho
   split at ho
   ·simp only [OM,OB] at ho;obtain ⟨_,_,_,_,rfl⟩:=ho;simp [cls] at hc
   ·cases ho
  ·cases ho
 | alloc t =>
  rw [hop] at ho;simp only [cO] at ho
  split at ho
  ·split at ho
   ·simp only [OI] at ho;subst ho;simp [cls] at hc
   ·cases ho
  ·simp only [OM,OB] at ho;obtain ⟨_,_,_,_,rfl⟩:=ho;simp [cls] at hc
 | box t x => rw [hop] at ho;simp only [cO,OM] at ho;obtain ⟨_,_,rfl⟩:=ho;simp [cls] at hc
 | buildSlice t n ps => rw [hop] at ho;simp only [cO,OM,OB] at ho;obtain ⟨_,_,_,_,_,_,rfl⟩:=ho;simp [cls] at hc
 | makeSlice t n c => rw [hop] at ho;simp only [cO,OM,OB] at ho;obtain ⟨_,_,_,_,_,_,_,_,rfl⟩:=ho;simp [cls] at hc
 | makeMap t r =>
  rw [hop] at ho
  cases r <;> simp only [cO] at ho
  ·simp only [OI] at ho;subst ho;simp [cls] at hc
  ·cases ho
 | store t x y => rw [hop] at ho;simp only [cO,OM,OB] at ho;obtain ⟨_,_,_,_,_,_,rfl⟩:=ho;simp [cls] at hc
 | mapUpdate t m k x =>
  rw [hop] at ho;simp only [cO] at ho
  split at ho
  ·simp only [OM,OB] at ho;obtain ⟨_,_,_,_,_,_,_,_,rfl⟩:=ho;simp [cls] at hc
  ·cases ho
 | call c =>
  rw [hop] at ho;simp only [cO] at ho
  split at ho
  ·simp only [OM,OB] at ho;obtain ⟨_,_,_,_,rfl⟩:=ho;simp [cls] at hc
  ·cases ho
  ·rename_i b a1
   split at ho
   ·rename_i x t ha ht
    have ab:=X0 a1 ha ht
    rw [ab] at hop
    split at ho
    ·rename_i p;simp only [OM] at ho;obtain ⟨s,j,rfl⟩:=ho;exact Akr (ty:=0) p hf hop j hv
    ·rename_i e p;simp only [OM] at ho;obtain ⟨s,j,rfl⟩:=ho;exact Aqd p hf hop j hv
    ·rename_i n e p;simp only [OI] at ho;subst ho;exact A0r p hop hv
    ·simp only [OM] at ho;obtain ⟨_,_,rfl⟩:=ho;simp [cls] at hc
    ·cases ho
   ·rename_i x r _ ha
    rw [Sn a1] at hop
    simp only [OM,OB] at ho;obtain ⟨s,j,r',hr,rfl⟩:=ho
    exact A14 (ty:=0) ha hf hop j hr hv
   ·rename_i x r _ ha
    rw [Sn a1] at hop
    simp only [OM,OB] at ho;obtain ⟨s,j,r',hr,rfl⟩:=ho
    exact A15 (ty:=0) ha hf hop j hr hv
   ·split at ho <;> try (cases ho;done)
    all_goals (simp only [OM,OB] at ho;obtain ⟨_,_,_,_,_,_,_,_,rfl⟩:=ho;simp [cls] at hc)
   ·simp only [OM,OB] at ho;obtain ⟨_,_,_,_,_,_,rfl⟩:=ho;simp [cls] at hc
   ·simp only [OB] at ho;obtain ⟨_,_,_,_,ho⟩:=ho
    split at ho
    ·cases ho
    ·simp only [OM] at ho;obtain ⟨_,_,rfl⟩:=ho;simp [cls] at hc
   ·split at ho
    ·simp only [OM,OB] at ho;obtain ⟨_,_,_,_,_,_,rfl⟩:=ho;simp [cls] at hc
    ·cases ho
   ·cases ho
 | panic x => rw [hop] at ho;simp only [cO,OI] at ho;subst ho;simp [Ax,ev] at hv
 | _ => rw [hop] at ho;simp [cO] at ho
end
end Go.L
