/- From the model's code to the logical machine's instructions. -/
import Derived.Test.YtifnlcajancfdaaGreatDoorL
namespace Go.L
open Go
section
variable (P:Program)
def szO (t:TypeId):Option Nat:=(P.info? t).map (·.size)
def Q5 (t:TypeId):Option (Option Nat):=match P.underlying t with
 | some (.struct _) | some (.array _ _) => (P.info? t).map fun i => some i.size
 | some _ => some none
 | none => none
def Ru (t:TypeId):Option (List Value):=((P.info? t).bind (·.zero)).map Bl
def Vv (t:TypeId):Option SK:=match P.underlying t with
 | some (.int _) => some .i
 | some .string => some .s
 | some .bool => some .b
 | _ => none
def Al8 (t:TypeId):Option (FK × Nat):=match P.underlying t with
 | some (.array n e) => if szO P e=some 1∧szO P t=some n then (Vv P e).map fun k => (.arr n k,n) else none
 | _ => if szO P t=some 1 then (Vv P t).map fun k => (.one k,1) else none
def Ab3:List Field→Nat→Option (List FK)
 | [],_ => some []
 | f :: r,n => if f.offset=n∧f.name ≠ "_" then (Al8 P f.type).bind fun k => (Ab3 r (n+k.2)).map (k.1 :: ·) else none
def Yz (t:TypeId):Option (List FK):=match P.underlying t with
 | some (.struct fs) => if P.stoodInHeld t=false∧P.eqGuardType P.depth t=false then Ab3 P fs.toList 0 else none
 | _ => none
def Adj (t:TypeId):Option EqK:=match P.underlying t with
 | some (.int _) => some .int
 | some .string => some .str
 | some (.struct _) => (Yz P t).map .flat
 | _ => none
def isC:Operand→Bool
 | .const _ => true
 | _ => false
def cX:Operand→Option X
 | .tmp t => some (.t t)
 | .const v => if Ae 0 4 v then some (.c v) else none
 | .global _ => none
 | .func g => some (.f g)
def cXs (l:List Operand):Option (List X):=l.mapM cX
def Pa (place:Nat→Option (Nat × Nat)):List (Nat × Operand)→Option (List (Nat × Nat × X))
 | [] => some []
 | (i,x) :: r => (place i).bind fun p => (cX x).bind fun x => (Pa place r).map ((p.1,p.2,x) :: ·)
def cOX:Option Operand→Option (Option X)
 | none => some none
 | some x => (cX x).map some
def eqK (t:TypeId) (c:Bool):EqK:=match P.underlying t with
 | some .bool => .bool
 | some (.pointer _) => .ptr
 | some (.slice _) => .slice
 | some (.map _ _) => .map
 | some (.func _ _ _) => .func
 | some (.interface _) => .iface c
 | some (.struct _) => match Yz P t with | some l => .flat l | none => .other
 | _ => .other
def Nm (t:TypeId):Option (TypeId × Nat):=match P.underlying t with
 | some (.slice e) => (szO P e).map fun n => (e,n)
 | _ => none
def Aur (fs:List Field):Option (List (Nat × Nat)):=fs.mapM fun f => (szO P f.type).map fun n => (f.offset,n)
def Ax3:Option TypeId:=P.types.findIdx? fun i => match i.desc with | .named n _ => n == "strings.Builder" | _ => false
def Ax0:Option TypeId:=P.types.findIdx? fun i => match i.desc with | .int .u8 => true | _ => false
def Ij (t:TypeId) (n:Nat):Option (List Value):=(Ru P t).bind fun z => if z.length=n∧z.all (Ae 0 4) then some z else none
def cO:Op→Option O
 | .move x | .assign x => (cX x).map .mov
 | .pick c a b => (cX c).bind fun c => (cX a).bind fun a => (cX b).map (.pick c a)
 | .binOp op t x y _ => (cX x).bind fun x' => (cX y).map (.bin op (eqK P t (isC x || isC y)) x')
 | .unOp op _ x => (cX x).map (.un op)
 | .convert src dst x => match P.underlying src,P.underlying dst with
  | some (.int _),some (.int k) => (cX x).map (.cvi k)
  | some .string,some .string => (cX x).map .cvs
  | some (.slice e),some .string => match P.underlying e with | some (.int .u8) => (cX x).map .b2s | _ => none
  | some .string,some (.slice e) => match P.underlying e with | some (.int .u8) => (cX x).map .s2b | _ => none
  | _,_ => none
 | .build t ps => match P.underlying t with
  | some (.struct fs) => (Ru P t).bind fun z => if z.all (Ae 0 4) then (Aur P fs.toList).bind fun pl => (Pa (fun i => pl[i]?) ps.toList).map (.bld z) else none
  | some (.array _ e) => (Ru P t).bind fun z => if z.all (Ae 0 4) then (szO P e).bind fun n => (Pa (fun i => some (i * n,n)) ps.toList).map (.bld z) else none
  | _ => none
 | .fieldAddr t x i => match P.underlying t with
  | some (.struct fs) => (fs[i]?).bind fun f => (szO P f.type).bind fun n => if n=0 then none else (cX x).map (.fld f.offset)
  | _ => none
 | .field t x i => match P.underlying t with
  | some (.struct fs) => (fs[i]?).bind fun f => (Q5 P f.type).bind fun g => (cX x).map (.fof f.offset g)
  | _ => none
 | .indexAddr t x i => match P.underlying t with
  | some (.array n e) => (szO P e).bind fun s => (cX x).bind fun x => (cX i).map (.ixa n s x)
  | some (.slice e) => (szO P e).bind fun s => (cX x).bind fun x => (cX i).map (.ixs s x)
  | _ => none
 | .index t x i => match P.underlying t with
  | some (.array n e) => (szO P e).bind fun s => (Q5 P e).bind fun g => (cX x).bind fun x => (cX i).map (.ixv n s g x)
  | some .string => (cX x).bind fun x => (cX i).map (.ixt x)
  | _ => none
 | .slice t x lo hi mx => match P.underlying t with
  | some .string => if mx.isSome then none else (cX x).bind fun x => (cOX lo).bind fun lo => (cOX hi).map (.slt x lo)
  | some (.slice e) => (szO P e).bind fun s => (cX x).bind fun x => (cOX lo).bind fun lo => (cOX hi).bind fun hi => (cOX mx).map (.sls s x lo hi)
  | some (.array n e) => if mx.isSome then none else (szO P e).bind fun s => (cX x).bind fun x => (cOX lo).bind fun lo => (cOX hi).map (.sla n s x lo)
  | _ => none
 | .nilCheck x => (cX x).map .nil
 | .panic _ => some (.ext (.c (.bool false)) 0)
 | .extract x i => (cX x).map (.ext · i)
 | .makeFunc (.func g) first cap => (cXs first.toList).bind fun a => (cXs cap.toList).map (.mkf (.func g) a)
 | .makeInterface t x => match P.underlying t with
  | some (.interface _) => none
  | none => none
  | _ => (cX x).map (.mki t)
 | .load t x => (Q5 P t).bind fun g => (cX x).map (.ld g)
 | .lookup t m k ok => match P.underlying t with
  | some (.map kt e) => (Adj P kt).bind fun q => ((P.info? e).bind (·.zero)).bind fun z => if Ae 0 4 z then (cX m).bind fun m => (cX k).map (.look q z m · ok) else none
  | _ => none
 | .alloc t => if Ax3 P=some t then (match Ij P t 2 with | some [.pointer none,.slice none 0 0] => some .alb | _ => none) else (szO P t).bind fun n => (Ij P t n).map .all
 | .box _ x => (cX x).map .box
 | .buildSlice t n ps => (Nm P t).bind fun e => (Ij P e.1 e.2).bind fun z => (Pa (fun i => some (i * e.2,e.2)) ps.toList).map (.bsl e.2 z n)
 | .makeSlice t n c => (Nm P t).bind fun e => (Ij P e.1 e.2).bind fun z => (cX n).bind fun n => (cX c).map (.msl z (P.bytesOf e.1) n)
 | .makeMap _ none => some .mkm
 | .store t a v => (szO P t).bind fun n => (cX a).bind fun a => (cX v).map (.st n a)
 | .mapUpdate t m k v => match P.underlying t with
  | some (.map kt _) => (Adj P kt).bind fun q => (cX m).bind fun m => (cX k).bind fun k => (cX v).map (.mup q m k)
  | _ => none
 | .call c => match c.callee with
  | .value g => (cX g).bind fun g => (cXs c.args.toList).map (.call g)
  | .invoke _ _ => none
  | .builtin b => match b,c.args.toList,c.argTypes.toList with
   | .len,[x],[t] => match P.underlying t with
    | some .string => (cX x).map (.lens true)
    | some (.slice _) => (cX x).map (.lens false)
    | some (.array n _) => some (.lena n)
    | some (.map _ _) => (cX x).map .lenm
    | _ => none
   | .min,x :: r,_ => (cX x).bind fun x => (cXs r).map (.min x)
   | .max,x :: r,_ => (cX x).bind fun x => (cXs r).map (.max x)
   | .append,[s,x],[t,u] => match P.underlying u with
    | some (.slice _) | some .string => (Nm P t).bind fun e => (Ij P e.1 e.2).bind fun _ => (cX s).bind fun s => (cX x).map (.app e.2 (P.bytesOf e.1) s)
    | _ => none
   | .copy,[d,s],t :: _ => (Nm P t).bind fun e => (cX d).bind fun d => (cX s).map (.cpy e.2 d)
   | .clear,[x],[t] => (Nm P t).bind fun e => (Ij P e.1 e.2).bind fun z => if z=[] then none else (cX x).map (.clr z)
   | .delete,[m,k],t :: _ => match P.underlying t with
    | some (.map kt _) => (Adj P kt).bind fun q => (cX m).bind fun m => (cX k).map (.del q m)
    | _ => none
   | _,_,_ => none
 | _ => none
def cG (ops:Array Oper):Option (Nat × Bool)→Option (Option (Nat × Bool))
 | none => some none
 | some (j,want) => ((ops[j]?).bind (·.dst)).map fun d => some (d,want)
def cI (sz:Nat) (ops:Array Oper) (o:Oper):Option Ins :=
 if (match o.dst with | some d => decide (d<sz) | none => true) then
  (cG ops o.guard).bind fun g => (cO P o.op).map fun o' => { d:=o.dst,g,o:=o' }
 else none
def oX:Option X→List X
 | some x => [x]
 | none => []
def O.xs:O→List X
 | .mov x | .un _ x | .cvi _ x | .cvs x | .fld _ x | .fof _ _ x | .nil x | .ext x _ | .mki _ x | .lens _ x | .ld _ x | .lenm x | .b2s x | .s2b x | .box x | .clr _ x => [x]
 | .pick c a b => [c,a,b]
 | .bin _ _ x y | .ixa _ _ x y | .ixs _ x y | .ixv _ _ _ x y | .ixt x y | .look _ _ x y _ | .msl _ _ x y | .st _ x y | .app _ _ x y | .cpy _ x y | .del _ x y => [x,y]
 | .bld _ ps | .bsl _ _ _ ps => ps.map fun p => p.2.2
 | .slt x lo hi | .sla _ _ x lo hi => x :: (oX lo++oX hi)
 | .sls _ x lo hi mx => x :: (oX lo++oX hi++oX mx)
 | .mkf _ a b => a++b
 | .min x r | .max x r => x :: r
 | .mup _ m k v => [m,k,v]
 | .call g args => g :: args
 | .lena _ | .all _ | .mkm | .alb => []
def Rv:List X→List Nat
 | [] => []
 | .t s :: r => s :: Rv r
 | _ :: r => Rv r
def Ins.slots (i:Ins):List Nat:=(match i.g with | some (d,_) => [d] | none => [])++Rv i.o.xs
def apart (lo:Bool) (a b:Cls):Bool :=
 match a,b with
 | .M,.A | .M,.S | .S,.M => true
 | .C,.M => !lo
 | .M,.C | .M,.E => lo
 | _,_ => false
def A0l (lo:Bool) (a b:Cls):Bool :=
 match a,b with
 | .C,.M | .E,.M => lo
 | _,_ => false
def Amz (b:Array Nat) (i j:Nat):Bool:=i != j && !(b.getD (max i j) 0).testBit (min i j)
def Apt (x y:Ins):Bool :=
 match cls x.o,cls y.o with
  | .P,_ | _,.P | .M,.M => true
  | .M,.A => x.flag
  | .A,.M => y.flag
  | .C,.M => x.flag || x.loose && y.flag
  | .M,.C => y.flag || y.loose && x.flag
  | .E,.M => x.loose && y.flag
  | .M,.E => y.loose && x.flag
  | .A,.A => x.rank != y.rank
  | .M,.S | .S,.M => x.flag && y.flag
  | _,_ => false
def comm (x y:Ins):Bool :=
 Apt x y &&
 (match x.d with | some d => !y.slots.contains d && y.d != some d | none => true) &&
 (match y.d with | some d => !x.slots.contains d | none => true)
def ranks:List Cls→Nat→List Nat
 | [],_ => []
 | c :: r,n => n :: ranks r (match c with | .A => n+1 | _ => n)
def A42 (cs:List Cls):Nat:=cs.countP fun c => match c with | .A => true | _ => false
def Zw:List Ins→Nat→Bool
 | [],_ => true
 | i :: r,n => (match cls i.o with | .A => decide (i.rank<n) && r.all (fun j => match cls j.o with | .A => j.rank != i.rank | _ => true) | _ => true) && Zw r n
def Apl (b:Array Nat) (lo:Bool) (cs:List Cls):List (Bool × Nat × Bool) :=
 List.zip (cs.zipIdx.map fun x => cs.zipIdx.any fun y => Amz b x.2 y.2 && apart lo x.1 y.1) (List.zip (ranks cs 0) (cs.zipIdx.map fun x => cs.zipIdx.any fun y => Amz b x.2 y.2 && A0l lo x.1 y.1))
def Z2 (ops:Array Oper) (ins:List Ins) (zz:List (Bool × Nat × Bool)):Option (Nat × List Ins) :=
 let r:=List.zipWith (fun (i:Ins) (x:Bool × Nat × Bool) => { i with flag:=x.1,rank:=x.2.1,loose:=x.2.2 }) ins zz
 if r.zipIdx.all (fun x => r.zipIdx.all fun y => !(decide (x.2<y.2) && Amz (Region.before ops) x.2 y.2) || comm x.1 y.1) && Zw r (A42 (ins.map fun i => cls i.o)) && decide (r.length=ops.size) &&
  (ops.toList.zipIdx.all fun x => x.1.after.toList.all fun e => !Region.binds .any e || decide (e.on<x.2)) then some (A42 (ins.map fun i => cls i.o),r) else none
def drawn (lo:Bool) (ops:Array Oper) (ins:List Ins):Option (Nat × List Ins) :=
 match Z2 ops ins (Apl (Region.before ops) lo (ins.map fun i => cls i.o)) with
 | some r => some r
 | none => Z2 ops ins (Apl (Region.before ops) (!lo) (ins.map fun i => cls i.o))
def Kh (lo:Bool) (sz:Nat):Code→Option C
 | .skip | .label _ => some .skip
 | .scope b => Kh lo sz b
 | .region _ ops draw => (ops.toList.mapM (cI P sz ops)).bind fun ins => if draw then (drawn lo ops ins).map fun r => .drw [] r.1 r.2 else some (.reg [] ins)
 | .seq a b => (Kh lo sz a).bind fun a => (Kh lo sz b).map (.seq a)
 | .cond x a b => (cX x).bind fun x => (Kh lo sz a).bind fun a => (Kh lo sz b).map (.cond x a)
 | .block id b => (Kh lo sz b).map (.block id)
 | .loop b => (Kh lo sz b).map .loop
 | .exit id => some (.exit id)
 | .ret => some .ret
 | .rangeFunc g ps assign body => (cX g).bind fun g => (Kh lo sz assign).bind fun a => (Kh lo sz body).map (.rng g ps.toList a)
 | _ => none
def cR:ResultVar→Option R
 | .tmp t => some (.t t)
 | .cell a t => (Q5 P t).map (.v · a)
def Aps (lo:Bool) (fn:Func):Option FnC :=
 if fn.name == "runtime.NumGoroutine" then none else fn.body.bind fun c => (fn.results.toList.mapM (cR P)).bind fun res => (Kh P lo fn.ntmps c).map fun b => { sz:=fn.ntmps,res,body:=b }
end
def Es:C→C
 | .reg _ i => .reg [] i
 | .drw _ n i => .drw [] n i
 | .seq a b => .seq (Es a) (Es b)
 | .cond x a b => .cond x (Es a) (Es b)
 | .block id b => .block id (Es b)
 | .loop b => .loop (Es b)
 | .rng g ps a b => .rng g ps (Es a) (Es b)
 | c => c
def FnC.of (P:Program) (f:FuncId) (c:FnC):Prop:=∃ lo,(P.funcs[f]?).bind (Aps P lo)=some { c with body:=Es c.body }
end Go.L
