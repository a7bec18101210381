/- THE LOGICAL MACHINE 'L': an executable interpreter of the model's code, compiled into short instructions, over a small heap of whole blocks. Definitions alone. -/
import GoSem.Step
namespace Go.L
open Go
universe u v
theorem AI {a b:Prop} (h:a) (k:b):a∧b:=⟨h,k⟩
theorem OI {α : Type u} (a b:α):(some a=some b)=(a=b):=Option.some.injEq a b
theorem OM {α : Type u} {β : Type v} {x:Option α} {f:α → β} {b:β}:x.map f=some b↔∃ a,x=some a∧f a=b:=Option.map_eq_some_iff
theorem GI {α : Type u} {l:List α} {i:Nat} {a:α}:l[i]? = some a↔∃ h:i<l.length,l[i]=a:=List.getElem?_eq_some_iff
theorem OB {α : Type u} {β : Type v} {o:Option α} {f:α → Option β} {b:β}:o.bind f=some b↔∃ a,o=some a∧f a=some b:=Option.bind_eq_some_iff
theorem LA {α : Type u} {as bs:List α}:(as++bs).length=as.length+bs.length:=List.length_append
theorem GL {α : Type u} {as bs:List α} {i:Nat} (h:i<as.length):(as++bs)[i]? = as[i]?:=List.getElem?_append_left h
def Ks:Value:=.tuple #[.tuple #[]]
inductive X where
 | t (s:Nat)
 | c (v:Value)
 | f (g:FuncId)
inductive SK where | i | s | b
inductive FK where | one (k:SK) | arr (n:Nat) (k:SK)
inductive EqK where | bool | int | str | ptr | slice | map | func | iface (c:Bool) | flat (l:List FK) | other
inductive O where
 | mov (x:X)
 | pick (c a b:X)
 | bin (op:BinOp) (q:EqK) (x y:X)
 | un (op:UnOp) (x:X)
 | cvi (k:IntKind) (x:X)
 | cvs (x:X)
 | bld (zero:List Value) (parts:List (Nat × Nat × X))
 | fld (off:Nat) (x:X)
 | fof (off:Nat) (agg:Option Nat) (x:X)
 | ixa (n size:Nat) (x i:X)
 | ixs (size:Nat) (x i:X)
 | ixv (n size:Nat) (agg:Option Nat) (x i:X)
 | ixt (x i:X)
 | slt (x:X) (lo hi:Option X)
 | sls (size:Nat) (x:X) (lo hi mx:Option X)
 | sla (n size:Nat) (x:X) (lo hi:Option X)
 | nil (x:X)
 | ext (x:X) (i:Nat)
 | mkf (fn:Fn) (first cap:List X)
 | mki (t:TypeId) (x:X)
 | lens (text:Bool) (x:X)
 | lena (n:Nat)
 | min (x:X) (r:List X)
 | max (x:X) (r:List X)
 | ld (agg:Option Nat) (x:X)
 | look (q:EqK) (zero:Value) (m k:X) (ok:Bool)
 | lenm (x:X)
 | b2s (x:X)
 | s2b (x:X)
 | all (zero:List Value)
 | alb
 | box (x:X)
 | bsl (size:Nat) (zero:List Value) (n:Nat) (parts:List (Nat × Nat × X))
 | msl (zero:List Value) (bytes:Nat) (n c:X)
 | mkm
 | st (n:Nat) (a v:X)
 | mup (q:EqK) (m k v:X)
 | app (size bytes:Nat) (s x:X)
 | cpy (size:Nat) (d s:X)
 | clr (zero:List Value) (x:X)
 | del (q:EqK) (m k:X)
 | call (g:X) (args:List X)
structure Ins where
 d:Option Nat
 g:Option (Nat × Bool)
 o:O
 flag:Bool:=false
 rank:Nat:=0
 loose:Bool:=false
inductive C where
 | skip
 | reg (live:List Nat) (ins:List Ins)
 | drw (live:List Nat) (n:Nat) (ins:List Ins)
 | seq (a b:C)
 | cond (x:X) (a b:C)
 | block (id:Nat) (b:C)
 | loop (b:C)
 | exit (id:Nat)
 | ret
 | rng (g:X) (ps:List Nat) (assign body:C)
inductive R where
 | t (s:Nat)
 | v (agg:Option Nat) (s:Nat)
structure FnC where
 sz:Nat
 res:List R
 body:C
structure Ot where
 state:LoopState
 pending:Option (Option Nat)
 fr:List (Nat × Value)
 sz:Nat
 params:List Nat
 assign:C
 body:C
inductive LObj where
 | cells (c:List Value) (ro:Bool)
 | map (es:List (Value × Value))
 | loop (r:Ot)
 | dead
 | bld (r:Option (Nat × Nat))
 | bytes (c:List UInt8)
instance:Inhabited LObj:=⟨.dead⟩
abbrev Aa:=List LObj
abbrev Fr:=List (Nat × Value)
abbrev FF:=Nat→Value
def get:Fr→Nat→Value
 | [],_ => Ks
 | (k,v) :: r,s => if s=k then v else get r s
def upd (f:FF) (d:Nat) (v:Value):FF:=fun s => if s=d then v else f s
def ev (f:FF):X→Value
 | .t s => f s
 | .c v => v
 | .f g => .func (.func g) #[] #[]
def Fe (op:BinOp) (k:IntKind) (a:Int) (k':IntKind) (b:Int):Option Value :=
 match op with
 | .shl => if b<0 then none else some (.int k (k.wrap (a * 2 ^ (min b.toNat k.bits))))
 | .shr => if b<0 then none else some (.int k (a.fdiv (2 ^ (min b.toNat k.bits))))
 | .add => if k=k' then some (.int k (k.wrap (a+b))) else none
 | .sub => if k=k' then some (.int k (k.wrap (a - b))) else none
 | .mul => if k=k' then some (.int k (k.wrap (a * b))) else none
 | .quo => if k=k' then (if b=0 then none else some (.int k (k.wrap (a.tdiv b)))) else none
 | .rem => if k=k' then (if b=0 then none else some (.int k (a.tmod b))) else none
 | .and => if k=k' then some (.int k (k.wrap (BitVec.ofInt k.bits a &&& BitVec.ofInt k.bits b).toNat)) else none
 | .or => if k=k' then some (.int k (k.wrap (BitVec.ofInt k.bits a ||| BitVec.ofInt k.bits b).toNat)) else none
 | .xor => if k=k' then some (.int k (k.wrap (BitVec.ofInt k.bits a ^^^ BitVec.ofInt k.bits b).toNat)) else none
 | .andNot => if k=k' then some (.int k (k.wrap (BitVec.ofInt k.bits a &&& ~~~ BitVec.ofInt k.bits b).toNat)) else none
 | .eql => if k=k' then some (.bool (a == b)) else none
 | .neq => if k=k' then some (.bool (a != b)) else none
 | .lss => if k=k' then some (.bool (decide (a<b))) else none
 | .leq => if k=k' then some (.bool (decide (a≤b))) else none
 | .gtr => if k=k' then some (.bool (decide (a > b))) else none
 | .geq => if k=k' then some (.bool (decide (a ≥ b))) else none
def Ag5 (op:BinOp) (x y:ByteArray):Option Value :=
 match op with
 | .add => if ((x.size+y.size:Nat):Int) > IntKind.i64.max then none else some (.string (x++y))
 | .eql => some (.bool (x.toList == y.toList))
 | .neq => some (.bool (!(x.toList == y.toList)))
 | .lss => some (.bool (Op.bytesLess x.toList y.toList))
 | .leq => some (.bool (Op.bytesLess x.toList y.toList || x.toList == y.toList))
 | .gtr => some (.bool (!(Op.bytesLess x.toList y.toList || x.toList == y.toList)))
 | .geq => some (.bool (!Op.bytesLess x.toList y.toList))
 | _ => none
def Gm (k:SK) (x y:Value):Option Bool :=
 match k,x,y with
 | .i,.int k a,.int k' b => if k=k' then some (a == b) else none
 | .s,.string a,.string b => some (a == b)
 | .b,.bool a,.bool b => some (a == b)
 | _,_,_ => none
def Df (k:SK):Nat→List Value→List Value→Option Bool
 | 0,[],[] => some true
 | n+1,x :: xs,y :: ys => (Gm k x y).bind fun b => (Df k n xs ys).map fun c => b && c
 | _,_,_ => none
def Ca:List FK→List Value→List Value→Option Bool
 | [],[],[] => some true
 | .one k :: r,x :: xs,y :: ys => (Gm k x y).bind fun b => (Ca r xs ys).map fun c => b && c
 | .arr n k :: r,xs,ys => (Df k n (xs.take n) (ys.take n)).bind fun b => (Ca r (xs.drop n) (ys.drop n)).map fun c => b && c
 | _,_,_ => none
def Ih (q:EqK) (x y:Value):Option Bool :=
 match q,x,y with
 | .bool,.bool a,.bool b => some (a == b)
 | .ptr,.pointer none,.pointer b => some b.isNone
 | .ptr,.pointer (some _),.pointer none => some false
 | .slice,.slice none _ _,.slice b _ _ => some b.isNone
 | .slice,.slice (some _) _ _,.slice none _ _ => some false
 | .map,.map none,.map b => some b.isNone
 | .map,.map (some _),.map none => some false
 | .func,.nilFunc,.nilFunc => some true
 | .func,.nilFunc,.func _ _ _ => some false
 | .func,.func _ _ _,.nilFunc => some false
 | .iface _,.nilIface,.iface _ _ => some false
 | .iface _,.iface _ _,.nilIface => some false
 | .iface true,.nilIface,.nilIface => some true
 | .flat l,.agg xs,.agg ys => Ca l xs.toList ys.toList
 | _,_,_ => none
def binOp (op:BinOp) (q:EqK) (x y:Value):Option Value :=
 match x,y with
 | .int k a,.int k' b => Fe op k a k' b
 | .string a,.string b => Ag5 op a b
 | x,y => match op with
  | .eql => (Ih q x y).map .bool
  | .neq => (Ih q x y).map fun b => .bool (!b)
  | _ => none
def unOp (op:UnOp) (x:Value):Option Value :=
 match op,x with
 | .neg,.int k n => some (.int k (k.wrap (0 - n)))
 | .not,.bool b => some (.bool (!b))
 | _,_ => none
def Ah:Value→Bool
 | .agg _ | .tuple _ => false
 | _ => true
def Bl:Value→List Value
 | .agg cs => cs.toList
 | v => [v]
def setCells (c:List Value) (off:Nat):List Value→List Value
 | [] => c
 | v :: r => setCells (c.set off v) (off+1) r
def part (cs:List Value) (off:Nat):Option Nat→Option Value
 | none => cs[off]?
 | some n => if off+n≤cs.length then some (.agg ((cs.drop off).take n).toArray) else none
def Sv (f:FF):List (Nat × Nat × X)→List Value→Option (List Value)
 | [],c => some c
 | (off,n,x) :: r,c =>
  if (Bl (ev f x)).length=n∧off+n≤c.length∧(Bl (ev f x)).all Ah then Sv f r (setCells c off (Bl (ev f x))) else none
def Ti (size:Nat) (n:Nat) (a:Addr):Value→Option Value
 | .int _ i => if 0≤i∧i<n then some (.pointer (some ⟨a.block,a.off+i.toNat * size,none⟩)) else none
 | _ => none
def Bp (f:FF) (x:Option X) (dflt high:Nat):Option Nat :=
 match x with
 | none => some dflt
 | some x => match ev f x with
  | .int _ i => if 0≤i∧i≤high then some i.toNat else none
  | _ => none
def Aap (f:FF) (size:Nat) (x:Value) (lo hi mx:Option X):Option Value :=
 match x with
 | .slice none 0 0 => if mx.isSome∧hi.isNone then none else
  (Bp f mx 0 0).bind fun m => (Bp f hi 0 m).bind fun h => (Bp f lo 0 h).bind fun _ => some (.slice none 0 0)
 | .slice (some a) n cap =>
  match mx with
  | some _ => match hi with
   | none => none
   | some _ => (Bp f mx 0 cap).bind fun m => (Bp f hi 0 m).bind fun h => (Bp f lo 0 h).bind fun l =>
    some (.slice (some ⟨a.block,a.off+l * size,none⟩) (h - l) (m - l))
  | none => match a.spot with
   | none => (Bp f hi n cap).bind fun h => (Bp f lo 0 h).bind fun l =>
     if h≤cap then some (.slice (some ⟨a.block,a.off+l * size,none⟩) (h - l) (cap - l)) else none
   | some s => if s=size then (Bp f hi n n).bind fun h => (Bp f lo 0 h).bind fun l =>
     some (.slice (some ⟨a.block,a.off+l * size,some s⟩) (h - l) (h - l)) else none
 | _ => none
def Et:Value→Bool
 | .tuple _ => false
 | _ => true
def Ki (f:Value→Value→Option Value):Value→List Value→Option Value
 | x,[] => some x
 | x,y :: r => (f x y).bind fun z => Ki f z r
def min2 (x y:Value):Option Value :=
 match x,y with
 | .int k a,.int _ b => some (.int k (if b<a then b else a))
 | _,_ => none
def max2 (x y:Value):Option Value :=
 match x,y with
 | .int k a,.int _ b => some (.int k (if b > a then b else a))
 | _,_ => none
def Ax (f:FF):O→Option Value
 | .mov x => some (ev f x)
 | .pick c a b => match ev f c with | .bool t => some (if t then ev f a else ev f b) | _ => none
 | .bin op q x y => binOp op q (ev f x) (ev f y)
 | .un op x => unOp op (ev f x)
 | .cvi k x => match ev f x with | .int _ n => some (.int k (k.wrap n)) | _ => none
 | .cvs x => match ev f x with | .string s => some (.string s) | _ => none
 | .bld zero ps => (Sv f ps zero).map fun c => .agg c.toArray
 | .fld off x => match ev f x with | .pointer (some a) => some (.pointer (some ⟨a.block,a.off+off,none⟩)) | _ => none
 | .fof off agg x => match ev f x with | .agg cs => part cs.toList off agg | _ => none
 | .ixa n size x i => match ev f x with | .pointer (some a) => Ti size n a (ev f i) | _ => none
 | .ixs size x i => match ev f x with | .slice (some a) n _ => Ti size n a (ev f i) | _ => none
 | .ixv n size agg x i => match ev f x,ev f i with
  | .agg cs,.int _ j => if 0≤j∧j<n then part cs.toList (j.toNat * size) agg else none
  | _,_ => none
 | .ixt x i => match ev f x,ev f i with
  | .string s,.int _ j => if 0≤j then (s[j.toNat]?).map fun b => .int .u8 b.toNat else none
  | _,_ => none
 | .slt x lo hi => match ev f x with
  | .string s => (Bp f hi s.size s.size).bind fun h => (Bp f lo 0 h).bind fun l => some (.string (s.extract l h))
  | _ => none
 | .sls size x lo hi mx => Aap f size (ev f x) lo hi mx
 | .sla n size x lo hi => match ev f x with
  | .pointer (some a) => (Bp f hi n n).bind fun h => (Bp f lo 0 h).bind fun l => some (.slice (some ⟨a.block,a.off+l * size,none⟩) (h - l) (n - l))
  | _ => none
 | .nil x => match ev f x with
  | .pointer (some a) => some (.pointer (some a))
  | .func (.func g) a b => some (.func (.func g) a b)
  | _ => none
 | .ext x i => match ev f x with
  | .tuple vs => match vs.toList[i]? with
   | some v => if Et v then some v else none
   | none => none
  | _ => none
 | .mkf fn first cap => some (.func fn (first.map (ev f)).toArray (cap.map (ev f)).toArray)
 | .mki t x => some (.iface t (ev f x))
 | .lens text x => match text,ev f x with
  | true,.string s => some (.int .i64 s.size)
  | false,.slice _ n _ => some (.int .i64 n)
  | _,_ => none
 | .lena n => some (.int .i64 n)
 | .min x r => Ki min2 (ev f x) (r.map (ev f))
 | .max x r => Ki max2 (ev f x) (r.map (ev f))
 | _ => none
def B0 (q:EqK) (x y:Value):Option Bool :=
 match q,x,y with
 | .int,x,y => Gm .i x y
 | .str,x,y => Gm .s x y
 | .flat l,.agg xs,.agg ys => Ca l xs.toList ys.toList
 | _,_,_ => none
def find (q:EqK) (k:Value):List (Value × Value)→Option (Option Value)
 | [] => some none
 | (x,v) :: r => (B0 q k x).bind fun b => if b then some (some v) else find q k r
def Ow (q:EqK) (k v:Value):List (Value × Value)→Option (List (Value × Value))
 | [] => some [(k,v)]
 | (x,u) :: r => (B0 q k x).bind fun b => if b then some ((k,v) :: r) else (Ow q k v r).map ((x,u) :: ·)
def Zq (q:EqK) (k:Value):List (Value × Value)→Option (List (Value × Value))
 | [] => some []
 | (x,u) :: r => (B0 q k x).bind fun b => if b then some r else (Zq q k r).map ((x,u) :: ·)
def Sp (q:EqK) (k:Value):Bool:=B0 q k k == some true
def Sn (agg:Option Nat) (x:Value) (h:Aa):Option Value :=
 match x with
 | .pointer (some a) => match h[a.block]? with
  | some (.cells c _) => part c a.off agg
  | _ => none
 | _ => none
def Yw (q:EqK) (zero m k:Value) (ok:Bool) (h:Aa):Option Value :=
 if Sp q k then
  (match m with
   | .map none => some none
   | .map (some r) => match h[r]? with
    | some (.map es) => find q k es
    | _ => none
   | _ => none).map fun r =>
  match r with
  | some v => if ok then .tuple #[v,.bool true] else v
  | none => if ok then .tuple #[zero,.bool false] else zero
 else none
def cellsOf (size:Nat) (x:Value) (h:Aa):Option (Nat × List Value) :=
 match x with
 | .slice none n _ => if n=0 then some (0,[]) else none
 | .slice (some a) n _ => match h[a.block]? with
  | some (.cells c _) => if a.off+n * size≤c.length then some (n,(c.drop a.off).take (n * size)) else none
  | _ => none
 | .string s => if size=1 then some (s.size,s.data.toList.map fun b => .int .u8 b.toNat) else none
 | _ => none
def bytesOf:List Value→Option (List UInt8)
 | [] => some []
 | .int .u8 n :: r => (bytesOf r).map (UInt8.ofNat n.toNat :: ·)
 | _ => none
def Gz (f:FF) (h:Aa):O→Option Value
 | .ld agg x => Sn agg (ev f x) h
 | .look q zero m k ok => Yw q zero (ev f m) (ev f k) ok h
 | .lenm x => match ev f x with
  | .map none => some (.int .i64 0)
  | .map (some r) => match h[r]? with
   | some (.map es) => some (.int .i64 es.length)
   | _ => none
  | _ => none
 | .b2s x => match ev f x with
  | .slice _ _ _ => match cellsOf 1 (ev f x) h with
   | some (_,c) => (bytesOf c).map fun b => .string ⟨b.toArray⟩
   | none => none
  | _ => none
 | _ => none
def Adh (f:FF):O→Value
 | .ld _ x | .look _ _ x _ _ | .lenm x | .b2s x => ev f x
 | _ => Ks
abbrev New:=LObj × (Nat→Value)
def Ac (c:List Value) (v:Nat→Value):Option New:=if c.all Ah then some (.cells c false,v) else none
def Jq (f:FF):O→Option New
 | .all zero => Ac zero fun b => .pointer (some ⟨b,0,none⟩)
 | .box x => Ac (Bl (ev f x)) fun b => .pointer (some ⟨b,0,none⟩)
 | .bsl size zero n ps => if n * size≤16777216 then
   (Sv f ps (List.replicate n zero).flatten).bind fun c => Ac c fun b => .slice (some ⟨b,0,none⟩) n n
  else none
 | .msl zero bytes n c => match ev f n,ev f c with
  | .int .i64 n,.int .i64 c =>
   if 0≤n∧n≤c∧bytes * c≤140737488355328∧c<9223372036854775808 then
    Ac (List.replicate c.toNat zero).flatten fun b => .slice (some ⟨b,0,none⟩) n.toNat c.toNat
   else none
  | _,_ => none
 | .mkm => some (.map [],fun b => .map (some b))
 | .alb => some (.bld none,fun b => .pointer (some ⟨b,0,none⟩))
 | .s2b x => match ev f x with
  | .string s => if s.size<4611686018427387904 then some (.cells (s.data.toList.map fun b => .int .u8 b.toNat) true,fun b => .slice (some ⟨b,0,some 1⟩) s.size s.size) else none
  | _ => none
 | _ => none
def Ik (n:Nat) (x v:Value) (h:Aa):Option (Aa × List Nat) :=
 match x with
 | .pointer (some a) => match h[a.block]? with
  | some (.cells c false) =>
   if (Bl v).length=n∧a.off+n≤c.length∧(Bl v).all Ah then
    some (h.set a.block (.cells (setCells c a.off (Bl v)) false),[a.block])
   else none
  | _ => none
 | _ => none
def Aw5 (n:Nat):Value→Bool
 | .slice _ _ c => decide (n≤c)
 | _ => false
def Cn (size bytes:Nat) (s x:Value) (h:Aa):Option (Value × Aa × List Nat) :=
 match cellsOf size x h,cellsOf size s h with
 | some (n,new),some (len,old) =>
  if n=0 then (if Aw5 len s then some (s,h,[]) else none) else
  if (len+n) * bytes≤140737488355328∧len+n<4611686018427387904∧size≠0∧bytes≠0 then
   match s with
   | .slice none _ cap => if cap=0 then some (.slice (some ⟨h.length,0,some size⟩) (len+n) (len+n),h++[.cells (old++new) false],[]) else none
   | .slice (some a) _ cap => match a.spot with
    | none =>
     if len+n≤cap then
      match h[a.block]? with
      | some (.cells c false) =>
       if a.off+(len+n) * size≤c.length then some (.slice (some a) (len+n) cap,h.set a.block (.cells (setCells c (a.off+len * size) new) false),[a.block]) else none
      | _ => none
     else some (.slice (some ⟨h.length,0,some size⟩) (len+n) (len+n),h++[.cells (old++new) false],[])
    | some z => match h[a.block]? with
     | some (.cells _ false) =>
      if z=size then some (.slice (some ⟨h.length,0,some size⟩) (len+n) (len+n),h.set a.block .dead++[.cells (old++new) false],[a.block]) else none
     | _ => none
   | _ => none
  else none
 | _,_ => none
def Aes (size:Nat) (d s:Value) (h:Aa):Option (Value × Aa × List Nat) :=
 match d with
 | .slice none n _ => match cellsOf size s h with
  | some _ => if n=0 then some (.int .i64 0,h,[]) else none
  | none => none
 | .slice (some a) len _ =>
  match cellsOf size s h,h[a.block]? with
  | some (n,new),some (.cells c false) =>
   if a.off+len * size≤c.length then
    some (.int .i64 (Nat.min n len:Nat),h.set a.block (.cells (setCells c a.off (new.take (Nat.min n len * size))) false),[a.block])
   else none
  | _,_ => none
 | _ => none
def Sw (zero:List Value) (x:Value) (h:Aa):Option (Value × Aa × List Nat) :=
 match x with
 | .slice (some a) n _ => match h[a.block]? with
  | some (.cells c false) =>
   if a.off+n * zero.length≤c.length∧zero.all Ah then
    some (.tuple #[],h.set a.block (.cells (setCells c a.off (List.replicate n zero).flatten) false),[a.block])
   else none
  | _ => none
 | _ => none
def O0 (f:FF) (h:Aa):O→Option (Value × Aa × List Nat)
 | .mup q m k v => match ev f m with
  | .map (some r) => match h[r]? with
   | some (.map es) => if Sp q (ev f k) then (Ow q (ev f k) (ev f v) es).map fun es' => (undef,h.set r (.map es'),[r]) else none
   | _ => none
  | _ => none
 | .app size bytes s x => Cn size bytes (ev f s) (ev f x) h
 | .cpy size d s => Aes size (ev f d) (ev f s) h
 | .clr zero x => Sw zero (ev f x) h
 | .del q m k => match ev f m with
  | .map (some r) => match h[r]? with
   | some (.map es) => if Sp q (ev f k) then (Zq q (ev f k) es).map fun es' => (.tuple #[],h.set r (.map es'),[r]) else none
   | _ => none
  | _ => none
 | _ => none
inductive Cls where | P | M | A | S | C | E
 deriving DecidableEq
def cls:O→Cls
 | .ld .. | .look .. | .lenm _ | .b2s _ => .M
 | .all _ | .box _ | .s2b _ | .bsl .. | .msl .. | .mkm | .alb => .A
 | .st .. => .S
 | .call .. => .C
 | .mup .. | .app .. | .cpy .. | .clr .. | .del .. => .E
 | _ => .P
abbrev Be:=Value→List Value→Aa→Option (Value × Aa × List Nat)
def Rt {α : Type} (ws:List Nat) (x:Option (α × Aa × List Nat)):Option (α × Aa × List Nat) :=
 match x with
 | some (a,h,ws') => some (a,h,ws++ws')
 | none => none
def H7 (f:FF) (d:Option Nat) (v:Value):FF:=match d with | some d => upd f d v | none => f
def wanted (f:FF) (g:Option (Nat × Bool)):Option Bool :=
 match g with
 | none => some true
 | some (d,want) => match f d with
  | .bool b => some (b == want)
  | .tuple vs => if vs.isEmpty then some false else none
  | _ => none
def opN (cf:Be) (f:FF) (h:Aa) (o:O):Option (Value × Aa × List Nat) :=
 match cls o with
 | .P => match Ax f o with | some v => some (v,h,[]) | none => none
 | .M => match Gz f h o with | some v => some (v,h,[]) | none => none
 | .A => match Jq f o with | some n => some (n.2 h.length,h++[n.1],[]) | none => none
 | .S => match o with
  | .st n a v => match Ik n (ev f a) (ev f v) h with | some r => some (undef,r) | none => none
  | _ => none
 | .C => match o with
  | .call g args => cf (ev f g) (args.map (ev f)) h
  | _ => none
 | .E => O0 f h o
def Fs (cf:Be):List Ins→FF→Aa→Option (FF × Aa × List Nat)
 | [],f,h => some (f,h,[])
 | i :: r,f,h => match wanted f i.g with
  | some true => match opN cf f h i.o with
   | some (v,h',ws) => Rt ws (Fs cf r (H7 f i.d v) h')
   | none => none
  | some false => Fs cf r (H7 f i.d undef) h
  | none => none
def low (m:Nat):Value→Bool
 | .pointer (some a) => decide (a.block<m)
 | .slice (some a) _ _ => decide (a.block<m)
 | .map (some r) => decide (r<m)
 | _ => true
def high (m:Nat):Value→Bool
 | .pointer (some a) => decide (m≤a.block)
 | _ => true
def opD (cf:Be) (m:Nat) (f:FF) (h:Aa) (i:Ins):Option (Value × Aa × List Nat) :=
 match cls i.o with
 | .P => match Ax f i.o with | some v => some (v,h,[]) | none => none
 | .M => if i.flag∧low m (Adh f i.o)=false then none else match Gz f h i.o with | some v => some (v,h,[]) | none => none
 | .A => match Jq f i.o with | some n => some (n.2 (m+i.rank),h.set (m+i.rank) n.1,[]) | none => none
 | .S => match i.o with
  | .st n a v => if i.flag∧high m (ev f a)=false then none else match Ik n (ev f a) (ev f v) h with | some r => some (undef,r) | none => none
  | _ => none
 | .C => match i.o with
  | .call g args => match cf (ev f g) (args.map (ev f)) h with
   | some (v,h',ws) => if (i.flag∧¬(h'.length=h.length∧ws=[]))∨(i.loose∧ws≠[]) then none else some (v,h',ws)
   | none => none
  | _ => none
 | .E => match O0 f h i.o with | some (v,h',ws) => if i.loose∧ws≠[] then none else some (v,h',ws) | none => none
def Dt (cf:Be) (m:Nat):List Ins→FF→Aa→Option (FF × Aa × List Nat)
 | [],f,h => some (f,h,[])
 | i :: r,f,h => match wanted f i.g with
  | some true => match opD cf m f h i with
   | some (v,h',ws) => Rt ws (Dt cf m r (H7 f i.d v) h')
   | none => none
  | some false => Dt cf m r (H7 f i.d undef) h
  | none => none
def room (h:Aa):Nat→Aa
 | 0 => h
 | n+1 => h++List.replicate (n+1) .dead
inductive Ex where | normal | exit (id:Nat) | ret
abbrev Out:=Option (Ex × Fr × Aa × List Nat)
def Gl (x:Out) (k:Fr→Aa→Out):Out :=
 match x with
 | some (.normal,fr,h,ws) => match k fr h with
  | some (e,fr',h',ws') => some (e,fr',h',ws++ws')
  | none => none
 | r => r
def Io (n:Nat) (F:Fr→Aa→Out):Fr→Aa→Out :=
 match n with
 | 0 => fun _ _ => none
 | n+1 => fun fr h => Gl (F fr h) (Io n F)
def Wp (v:Value) (a b:Out):Out :=
 match v with
 | .bool t => if t then a else b
 | _ => none
def inBlock (id:Nat) (x:Out):Out :=
 match x with
 | some (.exit j,fr,h,ws) => if j=id then some (.normal,fr,h,ws) else some (.exit j,fr,h,ws)
 | r => r
def Us (live:List Nat) (x:Option (FF × Aa × List Nat)):Out :=
 match x with
 | some (f,h,ws) => some (.normal,live.map fun s => (s,f s),h,ws)
 | none => none
def Ae (m:Nat):Nat→Value→Bool
 | 0,_ => false
 | d+1,v => match v with
  | .pointer (some a) => decide (a.block<m)
  | .slice (some a) _ _ => decide (a.block<m)
  | .map (some r) => decide (r<m)
  | .func fn first cap => (match fn with | .func _ => true | .yield l => decide (l<m) | _ => false) && first.toList.all (Ae m d) && cap.toList.all (Ae m d)
  | .iface _ v => Ae m d v
  | .agg cs => cs.toList.all (Ae m d)
  | .tuple vs => vs.toList.all (Ae m d)
  | .chan _ => false
  | _ => true
def Il (m:Nat):Option LObj→Bool
 | some (.cells c _) => c.all (Ae m 4)
 | some (.map es) => es.all fun e => Ae m 4 e.1 && Ae m 4 e.2
 | some .dead => true
 | some (.bld none) => true
 | some (.bld (some (b,_))) => decide (b<m)
 | some (.bytes _) => true
 | _ => false
def news (m:Nat):Nat→Value→List Nat
 | 0,_ => []
 | d+1,v => match v with
  | .pointer (some a) => if a.block<m then [] else [a.block]
  | .slice (some a) _ _ => if a.block<m then [] else [a.block]
  | .map (some r) => if r<m then [] else [r]
  | .func _ first cap => first.toList.flatMap (news m d)++cap.toList.flatMap (news m d)
  | .iface _ v => news m d v
  | .agg cs => cs.toList.flatMap (news m d)
  | .tuple vs => vs.toList.flatMap (news m d)
  | _ => []
def Awb (m:Nat):LObj→List Nat
 | .cells c _ => c.flatMap (news m 4)
 | .map es => es.flatMap fun e => news m 4 e.2
 | _ => []
def reach (m:Nat) (h:Aa):Nat→List Nat→List Nat→List Nat
 | 0,_,seen => seen
 | _,[],seen => seen
 | n+1,b :: q,seen => if b∈seen then reach m h n q seen else reach m h n (q++Awb m (h.getD b .dead)) (seen++[b])
def A6 (ρ : Nat→Option Nat):Nat→Value→Option Value
 | 0,_ => none
 | d+1,v => match v with
  | .pointer (some a) => (ρ a.block).map fun b => .pointer (some ⟨b,a.off,a.spot⟩)
  | .slice (some a) n c => (ρ a.block).map fun b => .slice (some ⟨b,a.off,a.spot⟩) n c
  | .map (some r) => (ρ r).map fun b => .map (some b)
  | .func fn first cap => match fn with
   | .func fn => (first.toList.mapM (A6 ρ d)).bind fun a => (cap.toList.mapM (A6 ρ d)).map fun b => .func (.func fn) a.toArray b.toArray
   | _ => none
  | .iface t v => (A6 ρ d v).map (.iface t)
  | .agg cs => (cs.toList.mapM (A6 ρ d)).map fun a => .agg a.toArray
  | .tuple vs => (vs.toList.mapM (A6 ρ d)).map fun a => .tuple a.toArray
  | .chan _ => none
  | v => some v
def Qi (ρ : Nat→Option Nat):LObj→Option LObj
 | .cells c ro => if ro then none else (c.mapM (A6 ρ 4)).map (.cells · false)
 | .map es => (es.mapM fun e => if Ae 0 4 e.1 then (A6 ρ 4 e.2).map fun v => (e.1,v) else none).map .map
 | _ => none
def place (m:Nat) (ord:List Nat) (b:Nat):Option Nat:=if b<m then some b else (ord.idxOf? b).map (m + ·)
def Wq (h0:Aa) (v:Value) (h:Aa):Option (Value × Aa × List Nat) :=
 let ord:=reach h0.length h 20000 (news h0.length 4 v) []
 match A6 (place h0.length ord) 4 v,ord.mapM fun b => Qi (place h0.length ord) (h.getD b .dead) with
 | some v',some os => some (v',h0++os,[])
 | _,_ => some (v,h,[])
def gc (h0:Aa) (v:Value) (h:Aa) (ws:List Nat):Option (Value × Aa × List Nat) :=
 match ws.filter (fun b => decide (b<h0.length)) with
 | [] => if Ae h0.length 4 v then some (v,h0,[]) else Wq h0 v h
 | w :: r => if Ae h0.length 4 v && (w :: r).all fun b => Il h0.length h[b]? then some (v,h.take h0.length,w :: r) else some (v,h,w :: r)
def J1 (cf:Be):Be:=fun g args h => match g with
 | .func (.func f) a b => cf (.func (.func f) a b) args h
 | _ => none
def Ft (h0:Aa) (fr:Fr) (x:Option (Value × Aa × List Nat)):Out :=
 match x with
 | some (_,h,ws) => match h[h0.length]? with
  | some (.loop r) => match r.state with
   | .busy => none
   | _ => match gc h0 undef (h.set h0.length .dead) ws with
    | some (_,h',ws') => match r.pending with
     | none => some (.normal,fr,h',ws')
     | some none => some (.ret,fr,h',ws')
     | some (some id) => some (.exit id,fr,h',ws')
    | none => none
  | _ => none
 | none => none
def code (cf:Be) (it:(Fr→Aa→Out)→Fr→Aa→Out) (sz:Nat):C→Fr→Aa→Out
 | .skip,fr,h => some (.normal,fr,h,[])
 | .reg live ins,fr,h => Us live (Fs cf ins (get fr) h)
 | .drw live n ins,fr,h => Us live (Dt cf h.length ins (get fr) (room h n))
 | .seq a b,fr,h => Gl (code cf it sz a fr h) (code cf it sz b)
 | .cond x a b,fr,h => Wp (ev (get fr) x) (code cf it sz a fr h) (code cf it sz b fr h)
 | .block id b,fr,h => inBlock id (code cf it sz b fr h)
 | .loop b,fr,h => it (code cf it sz b) fr h
 | .exit id,fr,h => some (.exit id,fr,h,[])
 | .ret,fr,h => some (.ret,fr,h,[])
 | .rng g ps assign body,fr,h =>
  Ft h fr (J1 cf (ev (get fr) g) [.func (.yield h.length) #[] #[]] (h++[.loop { state:=.ready,pending:=none,fr,sz,params:=ps,assign,body }]))
def M7 (fr:Fr) (h:Aa):List R→Option (List Value)
 | [] => some []
 | .t s :: r => (M7 fr h r).map (get fr s :: ·)
 | .v agg s :: r => (Sn agg (get fr s) h).bind fun v => (M7 fr h r).map (v :: ·)
def Rh:List Value→Value
 | [v] => v
 | vs => .tuple vs.toArray
def fin (res:List R) (h0:Aa) (x:Out):Option (Value × Aa × List Nat) :=
 match x with
 | some (.exit _,_) => none
 | some (_,fr,h,ws) => match M7 fr h res with
  | some vs => gc h0 (Rh vs) h ws
  | none => none
 | none => none
def Zp (res:List R) (x:Out):Option (Value × Aa × List Nat) :=
 match x with
 | some (.exit _,_) => none
 | some (_,fr,h,ws) => match M7 fr h res with
  | some vs => some (Rh vs,h,ws)
  | none => none
 | none => none
def Ak:List Value→Nat→Fr
 | [],_ => []
 | v :: r,i => (i,v) :: Ak r (i+1)
inductive Def where
 | text (c:FnC)
 | textK (c:FnC)
 | ext (e:List Value→Aa→Option (Value × Aa × List Nat))
 | none
abbrev Env:=FuncId→Def
abbrev It:=(Fr→Aa→Out)→Fr→Aa→Out
def Fz (cf:Be) (it:It) (d:Def) (args:List Value) (h:Aa):Option (Value × Aa × List Nat) :=
 match d with
 | .ext e => e args h
 | .text c => if args.length≤c.sz then fin c.res h (code cf it c.sz c.body (Ak args 0) h) else none
 | .textK c => if args.length≤c.sz then Zp c.res (code cf it c.sz c.body (Ak args 0) h) else none
 | .none => none
def setPs:List Nat→List Value→Fr→Option Fr
 | [],[],fr => some fr
 | t :: ts,v :: vs,fr => setPs ts vs ((t,v) :: fr)
 | _,_,_ => none
def Kq:Ex→Option (Option Nat)
 | .normal => none
 | .ret => some none
 | .exit id => some (some id)
def Sc (h:Aa) (l:Nat) (r:Ot) (e:Ex) (x:Option (Value × Aa × List Nat)):Option (Value × Aa × List Nat) :=
 match x with
 | some (v,h3,ws) => match Kq e with
  | none => some (v,h3,ws)
  | some j => some (v,h3.set l (.loop { r with state:=.done,pending:=some j }),l :: ws)
 | none => none
def I2 (cf:Be) (it:It) (l:Nat) (args:List Value) (h:Aa):Option (Value × Aa × List Nat) :=
 match h[l]? with
 | some (.loop r) => match r.state,r.pending with
  | .ready,none => if r.params.all fun p => decide (p<r.sz) then
   match setPs r.params args r.fr with
   | some fr => match code cf it r.sz r.assign fr h with
    | some (.normal,fr1,h1,ws1) => match code cf it r.sz r.body fr1 (h1.set l (.loop { r with state:=.busy })) with
     | some (e,_,h2,ws2) =>
      if l∈ws1++ws2 then none else
      Sc h l r e (gc h (.bool (Kq e).isNone) (h2.set l (.loop r)) (ws1++ws2))
     | none => none
    | _ => none
   | none => none
   else none
  | _,_ => none
 | _ => none
def J4 (E:Env) (cf:Be) (it:It):Be:=fun g args h =>
 match g with
 | .func (.func f) first cap => Fz cf it (E f) (first.toList++args++cap.toList) h
 | .func (.yield l) first cap => if cap.isEmpty then I2 cf it l (first.toList++args) h else none
 | _ => none
def Dv (E:Env):Nat→Be
 | 0 => fun _ _ _ => none
 | n+1 => J4 E (Dv E n) (Io n)
end Go.L
