/- THE LOGICAL MACHINE AND THE MODEL: when a value, a heap, a frame of the one stands for one of the other. -/
import Derived.Test.YtifnlcajancfdaaGreatDoorW
import Derived.RangeFuncLeaves
import Derived.RangeFuncRecord
import Derived.RangeFuncCalls
import Derived.OrdersIn
import Derived.Laws.Sem
import Derived.Laws.World
import Derived.Laws.Cells
import Derived.Laws.Entries
import Derived.Laws.NewFold
import Derived.ChangeKeysEq
import Derived.Below
set_option linter.unusedVariables false
set_option linter.unusedSimpArgs false
namespace Go.L
open Go
inductive All2 {α β : Type} (R:α → β → Prop):List α → List β → Prop
 | nil:All2 R [] []
 | cons {a b l m} (h:R a b) (t:All2 R l m):All2 R (a :: l) (b :: m)
namespace All2
variable {α β : Type} {R:α → β → Prop}
theorem length {l:List α} {m:List β} (h:All2 R l m):l.length=m.length:=by
 induction h with
 | nil => rfl
 | cons _ _ ih => simp [ih]
theorem at_ {l:List α} {m:List β} (h:All2 R l m):∀ {i:Nat} {a:α},l[i]? = some a→∃ b,m[i]? = some b∧R a b:=by
 induction h with
 | nil => intro i a h;simp at h
 | cons hr _ ih =>
  intro i a h
  cases i with
  | zero => simp at h;subst h;exact ⟨_,rfl,hr⟩
  | succ i => simp at h;simpa using ih h
theorem of_at:∀ {l:List α} {m:List β},l.length=m.length→(∀ (i:Nat) a b,l[i]? = some a→m[i]? = some b→R a b)→All2 R l m
 | [],[],_,_ => .nil
 | a :: l,b :: m,hl,h => .cons (h 0 a b rfl rfl) (of_at (by simpa using hl) fun i x y hx hy => h (i+1) x y (by simpa using hx) (by simpa using hy))
theorem mono {R':α → β → Prop} {l:List α} {m:List β} (h:All2 R l m) (hr:∀ a b,R a b→R' a b):All2 R' l m:=by
 induction h with
 | nil => exact .nil
 | cons h _ ih => exact .cons (hr _ _ h) ih
theorem append {l l':List α} {m m':List β} (h:All2 R l m) (h':All2 R l' m'):All2 R (l++l') (m++m'):=by
 induction h with
 | nil => exact h'
 | cons h _ ih => exact .cons h ih
theorem drop {l:List α} {m:List β} (h:All2 R l m) (n:Nat):All2 R (l.drop n) (m.drop n):=by
 induction h generalizing n with
 | nil => simpa using All2.nil
 | cons h t ih =>
  cases n with
  | zero => exact .cons h t
  | succ n => exact ih n
theorem take {l:List α} {m:List β} (h:All2 R l m) (n:Nat):All2 R (l.take n) (m.take n):=by
 induction h generalizing n with
 | nil => simpa using All2.nil
 | cons h t ih =>
  cases n with
  | zero => exact .nil
  | succ n => exact .cons h (ih n)
theorem set {l:List α} {m:List β} (h:All2 R l m) (n:Nat) {a:α} {b:β} (hr:R a b):All2 R (l.set n a) (m.set n b):=by
 induction h generalizing n with
 | nil => exact .nil
 | cons h t ih =>
  cases n with
  | zero => exact .cons hr t
  | succ n => exact .cons h (ih n)
theorem replicate (n:Nat) {a:α} {b:β} (hr:R a b):All2 R (List.replicate n a) (List.replicate n b):=by
 induction n with
 | zero => exact .nil
 | succ n ih => exact .cons hr ih
theorem map {γ δ : Type} {S:γ → δ → Prop} {f:α → γ} {g:β → δ} {l:List α} {m:List β} (h:All2 R l m) (hf:∀ a b,R a b→S (f a) (g b)):All2 S (l.map f) (m.map g):=by
 induction h with
 | nil => exact .nil
 | cons h _ ih => exact .cons (hf _ _ h) ih
theorem flatten {L:List (List α)} {M:List (List β)} (h:All2 (All2 R) L M):All2 R L.flatten M.flatten:=by
 induction h with
 | nil => exact .nil
 | cons h _ ih => exact h.append ih
end All2
structure Img where
 rb:Nat
 off:Nat
 size:Nat
abbrev Inj:=Nat→Option Img
inductive VR (ι : Inj):Value→Value→Prop
 | any (r:Value):VR ι Ks r
 | bool (b:Bool):VR ι (.bool b) (.bool b)
 | int (k:IntKind) (n:Int):VR ι (.int k n) (.int k n)
 | float (k:FloatKind) (n:Nat):VR ι (.float k n) (.float k n)
 | complex (k:FloatKind) (a b:Nat):VR ι (.complex k a b) (.complex k a b)
 | string (s:ByteArray):VR ι (.string s) (.string s)
 | nilp:VR ι (.pointer none) (.pointer none)
 | ptr {b:Nat} {m:Img} (off:Nat) (h:ι b=some m):VR ι (.pointer (some ⟨b,off,none⟩)) (.pointer (some ⟨m.rb,m.off+off,none⟩))
 | nils (n c:Nat):VR ι (.slice none n c) (.slice none n c)
 | slice {b:Nat} {m:Img} (off n c:Nat) (h:ι b=some m):VR ι (.slice (some ⟨b,off,none⟩) n c) (.slice (some ⟨m.rb,m.off+off,none⟩) n c)
 | slice0 {b:Nat} {m:Img} (off:Nat) (a:Addr) (h:ι b=some m):VR ι (.slice (some ⟨b,off,none⟩) 0 0) (.slice (some a) 0 0)
 | loose {b:Nat} {m:Img} (off s n c:Nat) (h:ι b=some m) (hn:n≤c∧c≤9223372036854775807) (hc:m.off+off+c * s≤m.size):VR ι (.slice (some ⟨b,off,some s⟩) n n) (.slice (some ⟨m.rb,m.off+off,none⟩) n c)
 | loose0 {b:Nat} {m:Img} (off s:Nat) (a:Addr) (h:ι b=some m):VR ι (.slice (some ⟨b,off,some s⟩) 0 0) (.slice (some a) 0 0)
 | nilm:VR ι (.map none) (.map none)
 | map {r:Nat} {m:Img} (h:ι r=some m):VR ι (.map (some r)) (.map (some m.rb))
 | func (f:FuncId) {a b a' b':List Value} (ha:All2 (VR ι) a a') (hb:All2 (VR ι) b b'):VR ι (.func (.func f) a.toArray b.toArray) (.func (.func f) a'.toArray b'.toArray)
 | yield {l:Nat} {m:Img} (h:ι l=some m) {a b a' b':List Value} (ha:All2 (VR ι) a a') (hb:All2 (VR ι) b b'):VR ι (.func (.yield l) a.toArray b.toArray) (.func (.yield m.rb) a'.toArray b'.toArray)
 | nilf:VR ι .nilFunc .nilFunc
 | nili:VR ι .nilIface .nilIface
 | iface (t:TypeId) {v v':Value} (h:VR ι v v'):VR ι (.iface t v) (.iface t v')
 | agg {a a':List Value} (h:All2 (VR ι) a a'):VR ι (.agg a.toArray) (.agg a'.toArray)
 | tuple {a a':List Value} (h:All2 (VR ι) a a'):VR ι (.tuple a.toArray) (.tuple a'.toArray)
abbrev VRs (ι : Inj):=All2 (VR ι)
def Sub (ι ι':Inj):Prop:=∀ b m,ι b=some m → ι' b=some m
theorem Sub.refl (ι : Inj):Sub ι ι:=fun _ _ h => h
theorem Sub.trans {a b c:Inj} (h:Sub a b) (k:Sub b c):Sub a c:=fun x m e => k x m (h x m e)
theorem VR.mono {ι ι':Inj} (hs:Sub ι ι'):∀ {v r:Value},VR ι v r→VR ι' v r:=by
 intro v r h
 induction h using VR.rec (motive_2:=fun l m _ => All2 (VR ι') l m) with
 | any r => exact .any r
 | bool b => exact .bool b
 | int k n => exact .int k n
 | float k n => exact .float k n
 | complex k a b => exact .complex k a b
 | string s => exact .string s
 | nilp => exact .nilp
 | ptr off h => exact .ptr off (hs _ _ h)
 | nils n c => exact .nils n c
 | slice off n c h => exact .slice off n c (hs _ _ h)
 | slice0 off a h => exact .slice0 off a (hs _ _ h)
 | loose off s n c h hn hc => exact .loose off s n c (hs _ _ h) hn hc
 | loose0 off s a h => exact .loose0 off s a (hs _ _ h)
 | nilm => exact .nilm
 | map h => exact .map (hs _ _ h)
 | func f _ _ ha hb => exact .func f ha hb
 | yield h _ _ ha hb => exact .yield (hs _ _ h) ha hb
 | nilf => exact .nilf
 | nili => exact .nili
 | iface t _ ih => exact .iface t ih
 | agg _ ih => exact .agg ih
 | tuple _ ih => exact .tuple ih
 | nil => exact .nil
 | cons _ _ h t => exact .cons h t
theorem VRs.mono {ι ι':Inj} (hs:Sub ι ι') {l m:List Value} (h:VRs ι l m):VRs ι' l m:=All2.mono h fun _ _ => VR.mono hs
theorem VR.self {ι : Inj}:∀ (d:Nat) (v:Value),Ae 0 d v=true→VR ι v v:=by
 intro d
 induction d with
 | zero => intro v h;simp [Ae] at h
 | succ d ih =>
  have all:∀ l:List Value,l.all (Ae 0 d)=true→All2 (VR ι) l l:=by
   intro l
   induction l with
   | nil => intro _;exact .nil
   | cons x l ihl => intro h;simp at h;exact .cons (ih x h.1) (ihl (by simpa using h.2))
  intro v h
  cases v with
  | bool b => exact .bool b
  | int k n => exact .int k n
  | float k n => exact .float k n
  | complex k a b => exact .complex k a b
  | string s => exact .string s
  | pointer a => cases a with
   | none => exact .nilp
   | some a => simp [Ae] at h
  | slice a n c => cases a with
   | none => exact .nils n c
   | some a => simp [Ae] at h
  | map r => cases r with
   | none => exact .nilm
   | some r => simp [Ae] at h
  | chan r => simp [Ae] at h
  | func fn a b =>
   obtain ⟨a⟩:=a;obtain ⟨b⟩:=b
   cases fn with
   | func f => simp only [Ae,Bool.true_and,Bool.and_eq_true] at h;exact .func f (all _ h.1) (all _ h.2)
   | yield l => simp [Ae] at h
   | method _ => simp [Ae] at h
   | methodOf _ _ => simp [Ae] at h
   | via _ _ _ _ => simp [Ae] at h
  | nilFunc => exact .nilf
  | iface t v => exact .iface t (ih v (by simpa [Ae] using h))
  | nilIface => exact .nili
  | agg cs => obtain ⟨cs⟩:=cs;exact .agg (all _ (by simpa only [Ae] using h))
  | tuple cs => obtain ⟨cs⟩:=cs;exact .tuple (all _ (by simpa only [Ae] using h))
structure FFR (ι : Inj) (sz:Nat) (f:FF) (t:Array Value):Prop where
 size:t.size=sz
 at_:∀ s,VR ι (f s) (t.getD s undef)
theorem FFR.mono {ι ι':Inj} (hs:Sub ι ι') {sz:Nat} {f:FF} {t:Array Value} (h:FFR ι sz f t):FFR ι' sz f t:=⟨h.size,fun s => (h.at_ s).mono hs⟩
theorem FFR.put {ι : Inj} {sz:Nat} {f:FF} {t:Array Value} (h:FFR ι sz f t) {d:Nat} (hd:d<sz) {v r:Value} (hv:VR ι v r):FFR ι sz (upd f d v) (t.setIfInBounds d r):=by
 refine ⟨by simp [h.size],fun s => ?_⟩
 unfold upd
 split
 ·rename_i e
  subst e
  have:s<t.size:=by rw [h.size];exact hd
  simp [Array.getD,this]
  exact hv
 ·rename_i e
  have:=h.at_ s
  simp only [Array.getD_eq_getD_getElem?] at this ⊢
  rw [Array.getElem?_setIfInBounds_ne (fun e' => e e'.symm)]
  exact this
theorem FFR.live {ι : Inj} {sz:Nat} {f:FF} {t:Array Value} (h:FFR ι sz f t) (l:List Nat):FFR ι sz (get (l.map fun s => (s,f s))) t:=by
 refine ⟨h.size,fun s => ?_⟩
 induction l with
 | nil => exact .any _
 | cons a l ih =>
  simp only [List.map_cons,get]
  split
  ·rename_i e;subst e;exact h.at_ s
  ·exact ih
theorem VR.undef {ι : Inj}:VR ι undef undef:=.tuple .nil
theorem Au {ι : Inj} {sz:Nat} {f:FF} {a:Act} (h:FFR ι sz f a.tmps) {y:Operand} {x:X} (hx:cX y=some x):VR ι (ev f x) (a.eval y):=by
 cases y with
 | tmp t => simp only [cX,OI] at hx;subst hx;exact h.at_ t
 | const v =>
  simp only [cX] at hx
  split at hx
  ·rename_i hv;simp only [OI] at hx;subst hx;exact VR.self 4 v hv
  ·cases hx
 | global g => simp [cX] at hx
 | func g => simp only [cX,OI] at hx;subst hx;exact .func g .nil .nil
theorem Po {α β : Type} {g:α → Option β}:∀ {l:List α} {m:List β},l.mapM g=some m→All2 (fun a b => g a=some b) l m
 | [],m,h => by simp at h;subst h;exact .nil
 | a :: l,m,h => by
  simp only [List.mapM_cons,Option.bind_eq_bind,OB,Option.pure_def,OI] at h
  obtain ⟨b,hb,r,hr,rfl⟩:=h
  exact .cons hb (Po hr)
theorem Wk {ι : Inj} {sz:Nat} {f:FF} {a:Act} (h:FFR ι sz f a.tmps) {ys:List Operand} {xs:List X} (hx:cXs ys=some xs):VRs ι (xs.map (ev f)) (ys.map a.eval):=by
 have:=Po hx
 clear hx
 induction this with
 | nil => exact .nil
 | cons h' _ ih => exact .cons (Au h h') ih
section
variable {ι : Inj} {r:Value}
theorem VR.int_inv {k:IntKind} {n:Int} (h:VR ι (.int k n) r):r = .int k n:=by cases h;rfl
theorem VR.bool_inv {b:Bool} (h:VR ι (.bool b) r):r = .bool b:=by cases h;rfl
theorem VR.string_inv {s:ByteArray} (h:VR ι (.string s) r):r = .string s:=by cases h;rfl
theorem VR.ptr_inv {a:Addr} (h:VR ι (.pointer (some a)) r):∃ m,ι a.block=some m∧a.spot=none∧r = .pointer (some ⟨m.rb,m.off+a.off,none⟩):=by
 cases h with | ptr off h => exact ⟨_,h,rfl,rfl⟩
theorem VR.map_inv {b:Nat} (h:VR ι (.map (some b)) r):∃ m,ι b=some m∧r = .map (some m.rb):=by
 cases h with | map h => exact ⟨_,h,rfl⟩
theorem VR.agg_inv {cs:Array Value} (h:VR ι (.agg cs) r):∃ cs':Array Value,r = .agg cs'∧VRs ι cs.toList cs'.toList:=by
 cases h with | agg h => exact ⟨_,rfl,h⟩
theorem VR.tuple_inv {cs:Array Value} (h:VR ι (.tuple cs) r) (hn:(Value.tuple cs)≠Ks):∃ cs':Array Value,r = .tuple cs'∧VRs ι cs.toList cs'.toList:=by
 generalize hv:(Value.tuple cs)=v at h hn
 cases h with
 | any r => exact absurd rfl hn
 | tuple h => cases hv;exact ⟨_,rfl,h⟩
 | _ => cases hv
end
end Go.L
namespace Go.L
open Go
def LObj.wr:LObj→Bool
 | .cells _ ro => !ro
 | .map _ => true
 | .loop _ => true
 | .dead => false
 | .bld _ => true
 | .bytes _ => true
theorem LObj.live_of_wr {o:LObj} (h:o.wr=true):o ≠ .dead:=by rintro rfl;simp [LObj.wr] at h
def X5:Option Nat→Code
 | none => .ret
 | some id => .exit id
def BufR (ι : Inj):Option (Nat × Nat)→Value→Prop
 | none,v => v = .slice none 0 0
 | some (b,n),v => ∃ m,ι b=some m∧m.off=0∧v = .slice (some ⟨m.rb,0,none⟩) n m.size
theorem BufR.mono {ι ι':Inj} (hs:Sub ι ι') {r:Option (Nat × Nat)} {v:Value} (h:BufR ι r v):BufR ι' r v:=by
 cases r with
 | none => exact h
 | some x => obtain ⟨b,n⟩:=x;obtain ⟨m,h1,h2⟩:=h;exact ⟨m,hs _ _ h1,h2⟩
section
variable (P:Program)
inductive ObjR (ι : Inj) (w:World) (m:Img):LObj→Prop
 | cells {c:List Value} {ro:Bool} {arr:Array Value} {t:TypeId} {fz:Nat × Nat} (hw:w.heap[m.rb]? = some (.cells arr t fz)) (hs:arr.size=m.size) (hl:m.off+c.length≤m.size)
   (hc:∀ i v,c[i]? = some v→∃ r,arr[m.off+i]? = some r∧VR ι v r) (hf:ro=false→∀ i,m.off≤i→i≤m.size→¬ (fz.1≤i∧i<fz.2)) (ho:c.all Ah=true):ObjR ι w m (.cells c ro)
 | map {es:List (Value × Value)} {es':Array MapEntry} {clock:Nat} (hw:w.heap[m.rb]? = some (.map es' clock))
   (he:All2 (fun e (e':MapEntry) => e.1=e'.key∧VR ι e.2 e'.val) es es'.toList):ObjR ι w m (.map es)
 | loop {lo:Bool} {r:Ot} {R:Loop} (hw:w.heap[m.rb]? = some (.loop R)) (hst:R.state=r.state) (hp:R.pending=r.pending.map X5) (hps:R.params.toList=r.params)
   (hfr:FFR ι r.sz (get r.fr) R.tmps) (ha:Kh P lo r.sz R.assign=some (Es r.assign)) (hb:Kh P lo r.sz R.body=some (Es r.body)):ObjR ι w m (.loop r)
 | bld {p v:Value} {T:TypeId} {r:Option (Nat × Nat)} (hw:w.heap[m.rb]? = some (.cells #[p,v] T (0,0))) (hT:Ax3 P=some T) (hm:m.off=0) (hp:p = .pointer none∨p = .pointer (some ⟨m.rb,0,none⟩)) (hv:BufR ι r v):ObjR ι w m (.bld r)
 | bytes {c:List UInt8} {arr:Array Value} {T:TypeId} (hw:w.heap[m.rb]? = some (.cells arr T (0,0))) (hT:Ax0 P=some T) (hm:m.off=0∧arr.size=m.size) (hl:c.length≤arr.size∧arr.size≤9223372036854775807)
   (hc:arr.toList.take c.length=c.map fun x => .int .u8 x.toNat):ObjR ι w m (.bytes c)
structure Sim (ι : Inj) (h:Aa) (w:World):Prop where
 dom:∀ b,h.length≤b → ι b=none
 obj:∀ b o,h[b]? = some o→o ≠ .dead→∃ m,ι b=some m∧ObjR P ι w m o
 glob:∀ g,g<P.globals.size→∃ s,ι g=some ⟨g,0,s⟩
 inj:∀ b b' o o' m m',h[b]? = some o→h[b']? = some o'→o.wr=true→o' ≠ .dead → ι b=some m → ι b'=some m'→b≠b'→m.rb≠m'.rb
def Wr (ι : Inj) (h:Aa) (rb:Nat):Prop:=∃ b o m,h[b]? = some o∧o.wr=true ∧ ι b=some m∧m.rb=rb
structure St (ι : Inj) (h:Aa) (w:World) (ι':Inj) (h':Aa) (w':World):Prop where
 sub:Sub ι ι'
 sim:Sim P ι' h' w'
 size:w.heap.size≤w'.heap.size
 os:w'.os=w.os
 tape:w'.tape=w.tape
 output:w'.output=w.output
 keep:∀ rb,rb<w.heap.size→¬ Wr ι h rb→w'.heap[rb]? = w.heap[rb]?
 new:∀ rb,Wr ι' h' rb→rb<w.heap.size→Wr ι h rb
end
variable {P:Program} {ι ι' ι₁ ι₂:Inj} {h h' h₁ h₂:Aa} {w w' w₁ w₂:World}
theorem St.refl (hs:Sim P ι h w):St P ι h w ι h w:=⟨Sub.refl _,hs,Nat.le_refl _,rfl,rfl,rfl,fun _ _ _ => rfl,fun _ h _ => h⟩
theorem St.trans (a:St P ι h w ι₁ h₁ w₁) (b:St P ι₁ h₁ w₁ ι₂ h₂ w₂):St P ι h w ι₂ h₂ w₂ :=
 ⟨a.sub.trans b.sub,b.sim,Nat.le_trans a.size b.size,b.os.trans a.os,b.tape.trans a.tape,b.output.trans a.output,
 fun rb hl hn => (b.keep rb (Nat.lt_of_lt_of_le hl a.size) fun hw => hn (a.new rb hw hl)).trans (a.keep rb hl hn),
 fun rb hw hl => a.new rb (b.new rb hw (Nat.lt_of_lt_of_le hl a.size)) hl⟩
theorem ObjR.world {m:Img} {o:LObj} (hw:w'.heap[m.rb]? = w.heap[m.rb]?) (h:ObjR P ι w m o):ObjR P ι w' m o:=by
 cases h with
 | cells a b c d e o => exact .cells (hw.trans a) b c d e o
 | map a b => exact .map (hw.trans a) b
 | loop a b c d e f g => exact .loop (hw.trans a) b c d e f g
 | bld a b c d e => exact .bld (hw.trans a) b c d e
 | bytes a b c d e => exact .bytes (hw.trans a) b c d e
theorem ObjR.sub {m:Img} {o:LObj} (hs:Sub ι ι') (h:ObjR P ι w m o):ObjR P ι' w m o:=by
 cases h with
 | cells a b c d e o => exact .cells a b c (fun i v hv => let ⟨r,hr,hh⟩:=d i v hv;⟨r,hr,hh.mono hs⟩) e o
 | map a b => exact .map a (b.mono fun _ _ x => ⟨x.1,x.2.mono hs⟩)
 | loop a b c d e f g => exact .loop a b c d (e.mono hs) f g
 | bld a b c d e => exact .bld a b c d (e.mono hs)
 | bytes a b c d e => exact .bytes a b c d e
theorem ObjR.lt {m:Img} {o:LObj} (h:ObjR P ι w m o):m.rb<w.heap.size:=by
 cases h with
 | cells a => exact (Array.getElem?_eq_some_iff.1 a).1
 | map a => exact (Array.getElem?_eq_some_iff.1 a).1
 | loop a => exact (Array.getElem?_eq_some_iff.1 a).1
 | bld a => exact (Array.getElem?_eq_some_iff.1 a).1
 | bytes a => exact (Array.getElem?_eq_some_iff.1 a).1
theorem Sim.ltw (hs:Sim P ι h w) {b:Nat} {o:LObj} {m:Img} (hb:h[b]? = some o) (ho:o ≠ .dead) (hm:ι b=some m):m.rb<w.heap.size:=by
 obtain ⟨m',hm',hr⟩:=hs.obj b o hb ho
 rw [hm] at hm';cases hm';exact hr.lt
theorem Sim.lt (hs:Sim P ι h w) {b:Nat} {m:Img} (hm:ι b=some m):b<h.length:=by
 rcases Nat.lt_or_ge b h.length with hl | hl
 ·exact hl
 ·rw [hs.dom b hl] at hm;cases hm
theorem Sd {O:Obj} {rb:Nat} (hl:rb<w.heap.size):(w.alloc O).heap[rb]? = w.heap[rb]?:=by
 show (w.heap.push O)[rb]? = _
 rw [Array.getElem?_push,if_neg (Nat.ne_of_lt hl)]
theorem Lh {O:Obj}:(w.alloc O).heap[w.heap.size]? = some O:=by
 show (w.heap.push O)[w.heap.size]? = _
 simp
theorem Tp {O:Obj}:(w.alloc O).heap.size=w.heap.size+1:=by
 show (w.heap.push O).size=_
 simp
theorem St.same (hs:Sim P ι h w) (hh:w'.heap=w.heap) (ho:w'.os=w.os) (ht:w'.tape=w.tape) (hp:w'.output=w.output):St P ι h w ι h w' :=
 ⟨Sub.refl _,⟨hs.dom,fun b o hb hn => let ⟨m,hm,hr⟩:=hs.obj b o hb hn;⟨m,hm,hr.world (by rw [hh])⟩,hs.glob,hs.inj⟩,by rw [hh];exact Nat.le_refl _,ho,ht,hp,fun _ _ _ => by rw [hh],fun _ h _ => h⟩
theorem St.garbage (hs:Sim P ι h w) (O:Obj):St P ι h w ι h (w.alloc O) :=
 ⟨Sub.refl _,⟨hs.dom,fun b o hb hn => let ⟨m,hm,hr⟩:=hs.obj b o hb hn;⟨m,hm,hr.world (Sd hr.lt)⟩,hs.glob,hs.inj⟩,
 by rw [Tp];omega,rfl,rfl,rfl,fun rb hl _ => Sd hl,fun _ h _ => h⟩
def Inj.put (ι : Inj) (b:Nat) (m:Img):Inj:=fun x => if x=b then some m else ι x
theorem Inj.put_same (ι : Inj) (b:Nat) (m:Img):ι.put b m b=some m:=by simp [Inj.put]
theorem Inj.put_sub {b:Nat} (hb:ι b=none) (m:Img):Sub ι (ι.put b m):=by
 intro x n hx
 unfold Inj.put
 split
 ·rename_i e;subst e;rw [hb] at hx;cases hx
 ·exact hx
theorem Inj.put_ne {b x:Nat} (m:Img) (h:x≠b):ι.put b m x = ι x:=by simp [Inj.put,h]
theorem St.place (hs:Sim P ι h w) {b:Nat} {o:LObj} {O:Obj} {m:Img} (hm:m.rb=w.heap.size) (hb:ι b=none) (hlen:h.length≤h'.length) (hbl:b<h'.length)
  (hat:h'[b]? = some o) (hold:∀ x o',x≠b→h'[x]? = some o'→o' ≠ .dead→h[x]? = some o')
  (ho:o ≠ .dead→ObjR P (ι.put b m) (w.alloc O) m o):St P ι h w (ι.put b m) h' (w.alloc O):=by
 have hsub:=Inj.put_sub hb m
 refine ⟨hsub,⟨fun x hx => ?_,fun x o' hx hn => ?_,fun g hg => let ⟨s,h⟩:=hs.glob g hg;⟨s,hsub _ _ h⟩,?_⟩,by rw [Tp];omega,rfl,rfl,rfl,fun rb hl _ => Sd hl,?_⟩
 ·rw [Inj.put_ne m (by omega)];exact hs.dom x (by omega)
 ·by_cases e:x=b
  ·subst e;rw [hat] at hx;cases hx;exact ⟨m,Inj.put_same _ _ _,ho hn⟩
  ·obtain ⟨m',hm',hr⟩:=hs.obj x o' (hold x o' e hx hn) hn
   exact ⟨m',hsub _ _ hm',(hr.world (Sd hr.lt)).sub hsub⟩
 ·intro x y o1 o2 m1 m2 hx hy hw1 hl2 h1 h2 hne
  by_cases ex:x=b
  ·subst ex
   rw [Inj.put_same] at h1;cases h1
   rw [Inj.put_ne m (Ne.symm hne)] at h2
   have:=hs.ltw (hold y o2 (Ne.symm hne) hy hl2) hl2 h2
   omega
  ·rw [Inj.put_ne m ex] at h1
   have hl1:=LObj.live_of_wr hw1
   have hx':=hold x o1 ex hx hl1
   by_cases ey:y=b
   ·subst ey
    rw [Inj.put_same] at h2;cases h2
    have:=hs.ltw hx' hl1 h1
    omega
   ·rw [Inj.put_ne m ey] at h2
    exact hs.inj x y o1 o2 m1 m2 hx' (hold y o2 ey hy hl2) hw1 hl2 h1 h2 hne
 ·rintro rb ⟨x,o',m',hx,hw',hm',rfl⟩ hl
  by_cases e:x=b
  ·subst e;rw [Inj.put_same] at hm';cases hm';omega
  ·rw [Inj.put_ne m e] at hm'
   exact ⟨x,o',m',hold x o' e hx (LObj.live_of_wr hw'),hw',hm',rfl⟩
theorem St.push (hs:Sim P ι h w) {o:LObj} {O:Obj} {m:Img} (hm:m.rb=w.heap.size) (ho:o ≠ .dead→ObjR P (ι.put h.length m) (w.alloc O) m o) :
  St P ι h w (ι.put h.length m) (h++[o]) (w.alloc O) :=
 St.place hs hm (hs.dom _ (Nat.le_refl _)) (by simp) (by simp) (by simp) (fun x o' e hx hn => by
  rcases Nat.lt_or_ge x h.length with hl | hl
  ·rwa [GL hl] at hx
  ·rw [List.getElem?_append_right hl,List.getElem?_eq_none (by simp;omega)] at hx;cases hx) ho
theorem St.write (hs:Sim P ι h w) {b:Nat} {o o':LObj} {m:Img} (hb:h[b]? = some o) (ho:o.wr=true) (hm:ι b=some m)
  (hsz:w'.heap.size=w.heap.size) (hother:∀ rb,rb≠m.rb→w'.heap[rb]? = w.heap[rb]?) (hos:w'.os=w.os) (ht:w'.tape=w.tape) (hp:w'.output=w.output)
  (ho':o' ≠ .dead→ObjR P ι w' m o') (hro:o'.wr=true∨o' = .dead):St P ι h w ι (h.set b o') w':=by
 have hbl:b<h.length:=(GI.1 hb).1
 have hlive:=LObj.live_of_wr ho
 refine ⟨Sub.refl _,⟨fun x hx => hs.dom x (by simpa using hx),fun x ox hx hn => ?_,hs.glob,?_⟩,by omega,hos,ht,hp,fun rb hl hn => ?_,?_⟩
 ·by_cases e:x=b
  ·subst e
   rw [List.getElem?_set_self hbl] at hx;cases hx
   exact ⟨m,hm,ho' hn⟩
  ·rw [List.getElem?_set_ne (Ne.symm e)] at hx
   obtain ⟨m',hm',hr⟩:=hs.obj x ox hx hn
   exact ⟨m',hm',hr.world (hother _ (hs.inj b x o ox m m' hb hx ho hn hm hm' (Ne.symm e)).symm)⟩
 ·intro x y o1 o2 m1 m2 hx hy hw1 hl2 h1 h2 hne
  have back:∀ (z:Nat) (oz:LObj),(h.set b o')[z]? = some oz→oz ≠ .dead→∃ oz':LObj,h[z]? = some oz'∧oz' ≠ .dead∧(oz.wr=true→oz'.wr=true):=by
   intro z oz hz hn
   by_cases e:z=b
   ·subst e;exact ⟨o,hb,hlive,fun _ => ho⟩
   ·rw [List.getElem?_set_ne (Ne.symm e)] at hz;exact ⟨oz,hz,hn,id⟩
  obtain ⟨ox,hx',_,hwx⟩:=back x o1 hx (LObj.live_of_wr hw1)
  obtain ⟨oy,hy',hly,_⟩:=back y o2 hy hl2
  exact hs.inj x y ox oy m1 m2 hx' hy' (hwx hw1) hly h1 h2 hne
 ·refine hother rb fun e => hn ⟨b,o,m,hb,ho,hm,e.symm⟩
 ·rintro rb ⟨x,ox,m',hx,hwx,hm',rfl⟩ _
  by_cases e:x=b
  ·subst e;exact ⟨x,o,m',hb,ho,hm',rfl⟩
  ·rw [List.getElem?_set_ne (Ne.symm e)] at hx;exact ⟨x,ox,m',hx,hwx,hm',rfl⟩
theorem St.moved (hs:Sim P ι h w) {b:Nat} {o o':LObj} {m m':Img} (hb:h[b]? = some o) (ho:o.wr=true) (hm:ι b=some m) (hrb:m'.rb=m.rb)
  (hsz:w'.heap.size=w.heap.size) (hother:∀ rb,rb≠m.rb→w'.heap[rb]? = w.heap[rb]?) (hos:w'.os=w.os) (ht:w'.tape=w.tape) (hp:w'.output=w.output)
  (ho':ObjR P (ι.put h.length m') w' m' o') (hw':o'.wr=true):St P ι h w (ι.put h.length m') (h.set b .dead++[o']) w':=by
 have hbl:b<h.length:=(GI.1 hb).1
 have hlive:=LObj.live_of_wr ho
 have hnone:=hs.dom h.length (Nat.le_refl _)
 have hsub:=Inj.put_sub hnone m'
 have old:∀ x ox,(h.set b LObj.dead++[o'])[x]? = some ox→ox ≠ .dead→(x=h.length∧ox=o')∨(x<h.length∧x≠b∧h[x]? = some ox):=by
  intro x ox hx hn
  rcases Nat.lt_or_ge x h.length with hl | hl
  ·rw [GL (by simpa using hl)] at hx
   by_cases e:x=b
   ·subst e;rw [List.getElem?_set_self hbl] at hx;cases hx;exact absurd rfl hn
   ·rw [List.getElem?_set_ne (Ne.symm e)] at hx;exact .inr ⟨hl,e,hx⟩
  ·by_cases e:x=h.length
   ·subst e;rw [List.getElem?_append_right (by simp)] at hx;simp at hx;exact .inl ⟨rfl,hx.symm⟩
   ·rw [List.getElem?_eq_none (by simp;omega)] at hx;cases hx
 refine ⟨hsub,⟨fun x hx => ?_,fun x ox hx hn => ?_,fun g hg => let ⟨s,h⟩:=hs.glob g hg;⟨s,hsub _ _ h⟩,?_⟩,by omega,hos,ht,hp,fun rb hl hn => ?_,?_⟩
 ·simp at hx;rw [Inj.put_ne m' (by omega)];exact hs.dom x (by omega)
 ·rcases old x ox hx hn with ⟨rfl,rfl⟩ | ⟨hl,e,hx'⟩
  ·exact ⟨m',Inj.put_same _ _ _,ho'⟩
  ·obtain ⟨mx,hmx,hr⟩:=hs.obj x ox hx' hn
   exact ⟨mx,hsub _ _ hmx,(hr.world (hother _ (hs.inj b x o ox m mx hb hx' ho hn hm hmx (Ne.symm e)).symm)).sub hsub⟩
 ·intro x y o1 o2 m1 m2 hx hy hw1 hl2 h1 h2 hne
  rcases old x o1 hx (LObj.live_of_wr hw1) with ⟨rfl,rfl⟩ | ⟨hl,e,hx'⟩
  ·rcases old y o2 hy hl2 with ⟨rfl,_⟩ | ⟨hl',e',hy'⟩
   ·exact absurd rfl hne
   ·rw [Inj.put_same] at h1;cases h1
    rw [Inj.put_ne m' (by omega)] at h2
    rw [hrb]
    exact hs.inj b y o o2 m m2 hb hy' ho hl2 hm h2 (Ne.symm e')
  ·rw [Inj.put_ne m' (by omega)] at h1
   rcases old y o2 hy hl2 with ⟨rfl,rfl⟩ | ⟨hl',e',hy'⟩
   ·rw [Inj.put_same] at h2;cases h2
    rw [hrb]
    exact fun e2 => hs.inj b x o o1 m m1 hb hx' ho (LObj.live_of_wr hw1) hm h1 (Ne.symm e) e2.symm
   ·rw [Inj.put_ne m' (by omega)] at h2
    exact hs.inj x y o1 o2 m1 m2 hx' hy' hw1 hl2 h1 h2 hne
 ·refine hother rb fun e => hn ⟨b,o,m,hb,ho,hm,e.symm⟩
 ·rintro rb ⟨x,ox,mx,hx,hwx,hmx,rfl⟩ _
  rcases old x ox hx (LObj.live_of_wr hwx) with ⟨rfl,rfl⟩ | ⟨hl,e,hx'⟩
  ·rw [Inj.put_same] at hmx;cases hmx;exact ⟨b,o,m,hb,ho,hm,hrb.symm⟩
  ·rw [Inj.put_ne m' (by omega)] at hmx;exact ⟨x,ox,mx,hx',hwx,hmx,rfl⟩
end Go.L
namespace Go.L
open Go
variable {P:Program} {ι : Inj} {w:World}
theorem Mz {t n:Nat} (h:szO P t=some n):∃ i,P.info? t=some i∧i.size=n:=by
 unfold szO at h
 cases hi:P.info? t with
 | none => simp [hi] at h
 | some i => simp [hi] at h;exact ⟨i,rfl,h⟩
theorem Dz {t n:Nat} (h:szO P t=some n) (w:World):(sizeOf t).run P w = .ok n w:=by
 obtain ⟨i,hi,hn⟩:=Mz h
 simp [sizeOf,Sem.run_bind,run_typeInfo w hi,Result.andThen,hn]
theorem Jn {t n:Nat} (h:Q5 P t=some (some n)) (w:World):(isAgg t).run P w = .ok true w∧szO P t=some n:=by
 unfold Q5 at h
 split at h
 ·rename_i fs hu
  cases hi:P.info? t with
  | none => simp [hi] at h
  | some i => simp [hi] at h;exact ⟨by simp [isAgg,Sem.run_bind,run_underlying hu,Result.andThen],by simp [szO,hi,h]⟩
 ·rename_i a b hu
  cases hi:P.info? t with
  | none => simp [hi] at h
  | some i => simp [hi] at h;exact ⟨by simp [isAgg,Sem.run_bind,run_underlying hu,Result.andThen],by simp [szO,hi,h]⟩
 ·cases h
 ·cases h
theorem M5 {t:Nat} (h:Q5 P t=some none) (w:World):(isAgg t).run P w = .ok false w:=by
 unfold Q5 at h
 split at h
 ·rename_i fs hu;cases hi:P.info? t<;>simp [hi] at h
 ·rename_i a b hu;cases hi:P.info? t<;>simp [hi] at h
 ·rename_i d h1 h2 hu
  simp only [isAgg,Sem.run_bind,run_underlying hu,Result.andThen]
  rfl
 ·cases h
theorem Ahj {t:Nat} {g:Option Nat} (hg:Q5 P t=some g) {cs cs':List Value} (hr:VRs ι cs cs') {off:Nat} {v:Value} (hv:part cs off g=some v) (w:World) :
  ∃ v',(Go.part t cs'.toArray off).run P w = .ok v' w∧VR ι v v':=by
 cases g with
 | none =>
  simp only [part] at hv
  obtain ⟨r,hr',hvr⟩:=hr.at_ hv
  exact ⟨r,by simp [Go.part,Sem.run_bind,M5 hg,Result.andThen,hr'],hvr⟩
 | some n =>
  obtain ⟨h1,h2⟩:=Jn hg w
  simp only [part] at hv
  split at hv
  ·rename_i hle
   simp only [OI] at hv;subst hv
   refine ⟨.agg ((cs'.drop off).take n).toArray,?_,.agg ((hr.drop off).take n)⟩
   simp only [Go.part,Sem.run_bind,h1,Result.andThen,if_true,Dz h2]
   have:(cs'.toArray.extract off (off+n))=((cs'.drop off).take n).toArray:=by
    simp [List.extract_toArray,List.extract_eq_take_drop]
   rw [this];rfl
  ·cases hv
theorem Alc {op:BinOp} {t:TypeId} {k k':IntKind} {a b:Int} {v:Value} (h:Fe op k a k' b=some v) (w:World):(Go.binOp op t (.int k a) (.int k' b)).run P w = .ok v w:=by
 cases op<;>simp only [Fe] at h
 case shl =>
  split at h
  ·cases h
  ·simp only [OI] at h;subst h;rename_i hb;simp [Go.binOp,Op.shift,hb]
 case shr =>
  split at h
  ·cases h
  ·simp only [OI] at h;subst h;rename_i hb;simp [Go.binOp,Op.shift,hb]
 case quo =>
  split at h
  ·split at h
   ·cases h
   ·rename_i hk hb;subst hk;simp only [OI] at h;subst h;simp [Go.binOp,Op.intDiv,hb]
  ·cases h
 case rem =>
  split at h
  ·split at h
   ·cases h
   ·rename_i hk hb;subst hk;simp only [OI] at h;subst h;simp [Go.binOp,Op.intDiv,hb]
  ·cases h
 all_goals
  split at h
  ·rename_i hk
   subst hk
   simp only [OI] at h
   subst h
   simp only [Go.binOp,ne_eq,not_true_eq_false,if_false]
   rfl
  ·cases h
theorem Alb {op:BinOp} {t:TypeId} {a b:ByteArray} {v:Value} (h:Ag5 op a b=some v) (w:World):(Go.binOp op t (.string a) (.string b)).run P w = .ok v w:=by
 cases op<;>simp only [Ag5] at h
 case add =>
  split at h
  ·cases h
  ·simp only [OI] at h;subst h;rename_i hb;simp only [Go.binOp,Op.stringOp,hb,if_false];rfl
 all_goals first | (cases h;done) | (simp only [OI] at h;subst h;rfl)
theorem Wl (t:TypeId) (x y:Value):Op.equal t x y=Op.equalIn (9999+1) t x y:=rfl
theorem Xl {t:TypeId} {k:SK} (h:Vv P t=some k):Q5 P t=some none∧∃ d,P.underlying t=some d∧((∃ i,d = .int i)∧k = .i∨d = .string∧k = .s∨d = .bool∧k = .b):=by
 unfold Vv at h
 split at h<;>first | (cases h;done) | skip
 all_goals
  rename_i hu
  simp only [OI] at h;subst h
  refine ⟨by simp [Q5,hu],_,hu,?_⟩
 ·exact .inl ⟨⟨_,rfl⟩,rfl⟩
 ·exact .inr (.inl ⟨rfl,rfl⟩)
 ·exact .inr (.inr ⟨rfl,rfl⟩)
theorem Adz {t:TypeId} {k:SK} (hk:Vv P t=some k) {x y:Value} {b:Bool} (h:Gm k x y=some b) (d:Nat) (w:World):(Op.equalIn (d+1) t x y).run P w = .ok b w:=by
 obtain ⟨_,D,hu,hd⟩:=Xl hk
 unfold Gm at h
 split at h<;>first | (cases h;done) | skip
 ·split at h
  ·rename_i e;subst e
   simp only [OI] at h;subst h
   obtain ⟨⟨i,rfl⟩,_⟩ | ⟨_,hh⟩ | ⟨_,hh⟩:=hd
   ·simp [Op.equalIn,Sem.run_bind,run_underlying hu,Result.andThen]
   ·cases hh
   ·cases hh
  ·cases h
 ·simp only [OI] at h;subst h
  obtain ⟨_,hh⟩ | ⟨rfl,_⟩ | ⟨_,hh⟩:=hd
  ·cases hh
  ·simp [Op.equalIn,Sem.run_bind,run_underlying hu,Result.andThen]
  ·cases hh
 ·simp only [OI] at h;subst h
  obtain ⟨_,hh⟩ | ⟨_,hh⟩ | ⟨rfl,_⟩:=hd
  ·cases hh
  ·cases hh
  ·simp [Op.equalIn,Sem.run_bind,run_underlying hu,Result.andThen]
theorem F4 {t:TypeId} {k:SK} (hk:Vv P t=some k) {cs:List Value} {off:Nat} {v:Value} (hv:cs[off]? = some v) (w:World):(Go.part t cs.toArray off).run P w = .ok v w:=by
 simp [Go.part,Sem.run_bind,M5 (Xl hk).1,Result.andThen,hv]
theorem Yr {e:TypeId} {k:SK} (hk:Vv P e=some k) (d:Nat) {xs ys:List Value}:∀ (n j:Nat) {us vs:List Value} {b:Bool},Df k n us vs=some b→(∀ i,i<n→xs[j+i]? = us[i]?)→(∀ i,i<n→ys[j+i]? = vs[i]?)→∀ (w:World),
  (Op.eqItems (d+1) e 1 xs.toArray ys.toArray (List.range' j n)).run P w = .ok b w
 | 0,j,us,vs,b,h,hx,hy,w => by
  unfold Df at h
  split at h<;>first | (cases h;done) | skip
  ·simp only [OI] at h;subst h;simp [Op.eqItems]
  ·contradiction
 | n+1,j,us,vs,b,h,hx,hy,w => by
  cases us with
  | nil => simp [Df] at h
  | cons u us =>
  cases vs with
  | nil => simp [Df] at h
  | cons v vs =>
  simp only [Df,OB,OM] at h
  obtain ⟨r,hr,s,hs,rfl⟩:=h
  have h1:=F4 hk (cs:=xs) (off:=j * 1) (v:=u) (by simpa using hx 0 (by omega)) w
  have h2:=F4 hk (cs:=ys) (off:=j * 1) (v:=v) (by simpa using hy 0 (by omega)) w
  have ih:=Yr hk d n (j+1) hs (fun i hi => by have:=hx (i+1) (by omega);simpa [Nat.add_assoc,Nat.add_comm 1] using this) (fun i hi => by have:=hy (i+1) (by omega);simpa [Nat.add_assoc,Nat.add_comm 1] using this) w
  simp only [List.range'_succ,Op.eqItems,Sem.run_bind,h1,h2,Adz hk hr d w,Result.andThen]
  cases r
  ·simp
  ·simpa using ih
theorem Qe {d:Nat} {xs ys:List Value}:∀ (fs:List Field) (n:Nat) {l:List FK} {b:Bool},Ab3 P fs n=some l→Ca l (xs.drop n) (ys.drop n)=some b→∀ (w:World),(Op.eqFields (d+2) xs.toArray ys.toArray fs).run P w = .ok b w
 | [],n,l,b,hl,h,w => by
  simp only [Ab3,OI] at hl;subst hl
  generalize xs.drop n=us at h
  generalize ys.drop n=vs at h
  unfold Ca at h
  split at h<;>first | (cases h;done) | contradiction | skip
  simp only [OI] at h;subst h;simp [Op.eqFields]
 | f :: fs,n,l,b,hl,h,w => by
  simp only [Ab3] at hl
  split at hl
  ·rename_i hf
   simp only [OB,OM] at hl
   obtain ⟨⟨kk,m⟩,hk,r,hr,rfl⟩:=hl
   unfold Al8 at hk
   split at hk
   ·rename_i na e hu
    split at hk
    ·rename_i hsz
     simp only [OM,Prod.mk.injEq] at hk
     obtain ⟨k,hk,rfl,rfl⟩:=hk
     simp only [Ca,OB,OM,List.drop_drop] at h
     obtain ⟨r1,h1,r2,h2,rfl⟩:=h
     have ih:=Qe (d:=d) fs (n+na) hr h2 w
     have hagg:Q5 P f.type=some (some na):=by
      obtain ⟨i,hi,hin⟩:=Mz hsz.2
      simp [Q5,hu,hi,hin]
     have pt:∀ cs:List Value,na≤(cs.drop n).length→(Go.part f.type cs.toArray f.offset).run P w = .ok (.agg ((cs.drop n).take na).toArray) w:=by
      intro cs hc
      obtain ⟨g1,g2⟩:=Jn hagg w
      simp only [Go.part,Sem.run_bind,g1,Result.andThen,if_true,Dz g2,hf.1]
      have:(cs.toArray.extract n (n+na))=((cs.drop n).take na).toArray:=by simp [List.extract_toArray,List.extract_eq_take_drop]
      rw [this];rfl
     have len:∀ (na:Nat) (us vs:List Value) (b:Bool),Df k na us vs=some b→us.length=na∧vs.length=na:=by
      intro na
      induction na with
      | zero => intro us vs b h;unfold Df at h;split at h<;>first | (cases h;done) | contradiction | exact ⟨rfl,rfl⟩
      | succ na ih =>
       intro us vs b h
       cases us with
       | nil => simp [Df] at h
       | cons u us =>
       cases vs with
       | nil => simp [Df] at h
       | cons v vs =>
       simp only [Df,OB,OM] at h
       obtain ⟨r,_,s,hs,_⟩:=h
       have:=ih _ _ _ hs
       simp [this.1,this.2]
     have hl:=len _ _ _ _ h1
     simp only [List.length_take] at hl
     obtain ⟨i,hi,hin⟩:=Mz hsz.1
     have he:(Op.equalIn (d+2) f.type (.agg ((xs.drop n).take na).toArray) (.agg ((ys.drop n).take na).toArray)).run P w = .ok r1 w:=by
      have hco:P.cellsOf e=1:=by simp [Program.cellsOf,hi,hin]
      rw [run_equalIn_array (P:=P) (w:=w) (d+1) (i:=i) _ _ hu hi,hco,List.range_eq_range']
      exact Yr hk d na 0 h1 (fun i hi => by simp) (fun i hi => by simp) w
     simp only [Op.eqFields,hf.2,ne_eq,not_false_eq_true,if_true,Sem.run_bind,pt xs (by omega),pt ys (by omega),he,Result.andThen]
     cases r1
     ·simp
     ·simpa using ih
    ·cases hk
   ·split at hk
    ·simp only [OM,Prod.mk.injEq] at hk
     obtain ⟨k,hk,rfl,rfl⟩:=hk
     cases hxs:xs.drop n with
     | nil => rw [hxs] at h;simp [Ca] at h
     | cons x xr =>
     cases hys:ys.drop n with
     | nil => rw [hxs,hys] at h;simp [Ca] at h
     | cons y yr =>
     rw [hxs,hys] at h
     simp only [Ca,OB,OM] at h
     obtain ⟨r1,h1,r2,h2,rfl⟩:=h
     have e1:xs.drop (n+1)=xr:=by rw [← List.drop_drop,hxs];rfl
     have e2:ys.drop (n+1)=yr:=by rw [← List.drop_drop,hys];rfl
     have h2':Ca r (xs.drop (n+1)) (ys.drop (n+1))=some r2:=by rw [e1,e2];exact h2
     have ih:=Qe (d:=d) fs (n+1) hr h2' w
     have p1:=F4 hk (cs:=xs) (off:=n) (v:=x) (by have:=congrArg (fun l => l[0]?) hxs;simpa using this) w
     have p2:=F4 hk (cs:=ys) (off:=n) (v:=y) (by have:=congrArg (fun l => l[0]?) hys;simpa using this) w
     simp only [Op.eqFields,hf.2,ne_eq,not_false_eq_true,if_true,Sem.run_bind,hf.1,p1,p2,Adz hk h1 (d+1) w,Result.andThen]
     cases r1
     ·simp
     ·simpa using ih
    ·cases hk
  ·cases hl
theorem R9 {t:TypeId} {l:List FK} (hl:Yz P t=some l) {xs ys:List Value} {b:Bool} (h:Ca l xs ys=some b) (d:Nat) (w:World) :
  (Op.equalIn (d+2+1) t (.agg xs.toArray) (.agg ys.toArray)).run P w = .ok b w:=by
 unfold Yz at hl
 split at hl
 ·rename_i fs hu
  split at hl
  ·rename_i hg
   have hf:P.fieldsOf t=fs:=by simp [Program.fieldsOf,hu]
   rw [run_equalIn_struct (P:=P) w (d+2) t xs.toArray ys.toArray (by rw [hf];exact hu) hg.1,hf]
   exact Qe fs.toList 0 hl h w
  ·cases hl
 ·cases hl
theorem Vy {k:SK} {x y x' y':Value} {b:Bool} (h:Gm k x y=some b) (hx:VR ι x x') (hy:VR ι y y'):x'=x∧y'=y:=by
 unfold Gm at h
 split at h<;>first | (cases h;done) | skip
 ·exact ⟨hx.int_inv,hy.int_inv⟩
 ·exact ⟨hx.string_inv,hy.string_inv⟩
 ·exact ⟨hx.bool_inv,hy.bool_inv⟩
theorem Ahi {k:SK}:∀ {n:Nat} {xs ys xs' ys':List Value} {b:Bool},Df k n xs ys=some b→VRs ι xs xs'→VRs ι ys ys'→xs'=xs∧ys'=ys
 | 0,[],[],_,_,_,_,hx,hy => by cases hx;cases hy;exact ⟨rfl,rfl⟩
 | n+1,x :: xs,y :: ys,_,_,b,h,hx,hy => by
  cases hx with | cons hx1 hx2 => cases hy with | cons hy1 hy2 =>
  simp only [Df,OB,OM] at h
  obtain ⟨c,hc,d,hd,_⟩:=h
  obtain ⟨rfl,rfl⟩:=Vy hc hx1 hy1
  obtain ⟨rfl,rfl⟩:=Ahi hd hx2 hy2
  exact ⟨rfl,rfl⟩
 | 0,_ :: _,_,_,_,_,h,_,_ => by simp [Df] at h
 | 0,[],_ :: _,_,_,_,h,_,_ => by simp [Df] at h
 | n+1,[],_,_,_,_,h,_,_ => by simp [Df] at h
 | n+1,_ :: _,[],_,_,_,h,_,_ => by simp [Df] at h
theorem Vz:∀ {l:List FK} {xs ys xs' ys':List Value} {b:Bool},Ca l xs ys=some b→VRs ι xs xs'→VRs ι ys ys'→xs'=xs∧ys'=ys
 | [],[],[],_,_,_,_,hx,hy => by cases hx;cases hy;exact ⟨rfl,rfl⟩
 | .one k :: r,x :: xs,y :: ys,_,_,b,h,hx,hy => by
  cases hx with | cons hx1 hx2 => cases hy with | cons hy1 hy2 =>
  simp only [Ca,OB,OM] at h
  obtain ⟨c,hc,d,hd,_⟩:=h
  obtain ⟨rfl,rfl⟩:=Vy hc hx1 hy1
  obtain ⟨rfl,rfl⟩:=Vz hd hx2 hy2
  exact ⟨rfl,rfl⟩
 | .arr n k :: r,xs,ys,xs',ys',b,h,hx,hy => by
  simp only [Ca,OB,OM] at h
  obtain ⟨c,hc,d,hd,_⟩:=h
  obtain ⟨e1,e2⟩:=Ahi hc (hx.take n) (hy.take n)
  obtain ⟨e3,e4⟩:=Vz hd (hx.drop n) (hy.drop n)
  exact ⟨by rw [← List.take_append_drop n xs',e1,e3,List.take_append_drop],by rw [← List.take_append_drop n ys',e2,e4,List.take_append_drop]⟩
 | [],_ :: _,_,_,_,_,h,_,_ => by simp [Ca] at h
 | [],[],_ :: _,_,_,_,h,_,_ => by simp [Ca] at h
 | .one k :: r,[],_,_,_,_,h,_,_ => by simp [Ca] at h
 | .one k :: r,_ :: _,[],_,_,_,h,_,_ => by simp [Ca] at h
theorem At9 {l:List FK} {xs ys xs' ys':List Value} {b:Bool} (h:Ca l xs ys=some b) (hx:VRs ι xs xs') (hy:VRs ι ys ys'):Ca l xs' ys'=some b:=by
 obtain ⟨rfl,rfl⟩:=Vz h hx hy;exact h
set_option maxHeartbeats 1000000 in
theorem Arf {t:TypeId} {c:Bool} {x y x' y':Value} {b:Bool} (h:Ih (eqK P t c) x y=some b) (hx:VR ι x x') (hy:VR ι y y') (w:World):(Op.equal t x' y').run P w = .ok b w:=by
 rw [Wl]
 have hD:∃ e,9999=e+2:=⟨9997,rfl⟩
 generalize 9999=d at hD ⊢
 unfold eqK at h
 split at h
 ·rename_i hu
  unfold Ih at h;split at h<;>try contradiction
  simp only [OI] at h;subst h
  rw [hx.bool_inv,hy.bool_inv]
  (simp only [Op.equalIn,Sem.run_bind,run_underlying hu,Result.andThen];rfl)
 ·rename_i e hu
  unfold Ih at h;split at h<;>try contradiction
  ·simp only [OI] at h;subst h
   cases hx
   cases hy<;>(simp only [Op.equalIn,Sem.run_bind,run_underlying hu,Result.andThen];rfl)
  ·simp only [OI] at h;subst h
   cases hx;cases hy
   (simp only [Op.equalIn,Sem.run_bind,run_underlying hu,Result.andThen];rfl)
 ·rename_i e hu
  unfold Ih at h;split at h<;>try contradiction
  ·simp only [OI] at h;subst h
   cases hx
   cases hy<;>(simp only [Op.equalIn,Sem.run_bind,run_underlying hu,Result.andThen];rfl)
  ·simp only [OI] at h;subst h
   cases hy
   cases hx<;>(simp only [Op.equalIn,Sem.run_bind,run_underlying hu,Result.andThen];rfl)
 ·rename_i k e hu
  unfold Ih at h;split at h<;>try contradiction
  ·simp only [OI] at h;subst h
   cases hx
   cases hy<;>(simp only [Op.equalIn,Sem.run_bind,run_underlying hu,Result.andThen];rfl)
  ·simp only [OI] at h;subst h
   cases hx;cases hy
   (simp only [Op.equalIn,Sem.run_bind,run_underlying hu,Result.andThen];rfl)
 ·rename_i a e v hu
  unfold Ih at h;split at h<;>try contradiction
  ·simp only [OI] at h;subst h
   cases hx;cases hy
   (simp only [Op.equalIn,Sem.run_bind,run_underlying hu,Result.andThen];rfl)
  ·simp only [OI] at h;subst h
   cases hx
   cases hy<;>(simp only [Op.equalIn,Sem.run_bind,run_underlying hu,Result.andThen];rfl)
  ·simp only [OI] at h;subst h
   cases hy
   cases hx<;>(simp only [Op.equalIn,Sem.run_bind,run_underlying hu,Result.andThen];rfl)
 ·rename_i ms hu
  unfold Ih at h;split at h<;>try contradiction
  ·simp only [OI] at h;subst h
   cases hx;cases hy
   (simp only [Op.equalIn,Sem.run_bind,run_underlying hu,Result.andThen];rfl)
  ·simp only [OI] at h;subst h
   cases hx;cases hy
   (simp only [Op.equalIn,Sem.run_bind,run_underlying hu,Result.andThen];rfl)
  ·simp only [OI] at h;subst h
   cases hx;cases hy
   (simp only [Op.equalIn,Sem.run_bind,run_underlying hu,Result.andThen];rfl)
 ·split at h
  ·rename_i l hl
   have:∃ xs ys,x = .agg xs∧y = .agg ys∧Ca l xs.toList ys.toList=some b:=by
    cases x<;>cases y<;>first | (simp [Ih] at h;done) | exact ⟨_,_,rfl,rfl,h⟩
   obtain ⟨xs,ys,rfl,rfl,h⟩:=this
   obtain ⟨xs,rfl,hxs⟩:=hx.agg_inv
   obtain ⟨ys,rfl,hys⟩:=hy.agg_inv
   obtain ⟨e,rfl⟩:=hD
   exact R9 hl (At9 h hxs hys) e w
  ·exfalso;cases x<;>cases y<;>simp [Ih] at h
 ·exfalso;cases x<;>cases y<;>simp [Ih] at h
end Go.L
namespace Go.L
open Go
variable {P:Program} {ι : Inj} {w:World}
theorem Se {v:Value} (h:(Bl v).all Ah=true):Ah v=true∨∃ cs,v = .agg cs:=by
 cases v<;>first | exact .inl rfl | exact .inr ⟨_,rfl⟩ | (simp [Bl,Ah] at h;done)
theorem Aew {v:Value} (h:Ah v=true):Bl v=[v]∧v.cells = #[v]:=by
 cases v<;>first | exact ⟨rfl,rfl⟩ | (simp [Ah] at h;done)
theorem Yu {v r:Value} (h:VR ι v r) (hv:Ah v=true):Ah r=true:=by
 cases h<;>first | rfl | (simp [Ah,Ks] at hv;done)
theorem Vc {v r:Value} (h:VR ι v r) (hv:Ah v=true∨∃ cs,v = .agg cs):VRs ι (Bl v) r.cells.toList:=by
 rcases hv with hv | ⟨cs,rfl⟩
 ·rw [(Aew hv).1,(Aew (Yu h hv)).2]
  exact .cons h .nil
 ·obtain ⟨cs',rfl,hc⟩:=h.agg_inv
  exact hc
theorem Lr (c:List Value) (off:Nat) (vs:List Value):(setCells c off vs).length=c.length:=by
 induction vs generalizing c off with
 | nil => rfl
 | cons v r ih => simp [setCells,ih]
theorem Afg {c c':List Value} (h:VRs ι c c') {vs vs':List Value} (hv:VRs ι vs vs') (off:Nat):VRs ι (setCells c off vs) (setCells c' off vs'):=by
 induction hv generalizing c c' off with
 | nil => exact h
 | cons h1 _ ih => exact ih (h.set off h1) (off+1)
theorem Ab2 (vs:List Value):∀ (cells:Array Value) (off k:Nat),(vs.zipIdx k).foldl (fun cs (x:Value × Nat) => cs.setIfInBounds (off+x.2) x.1) cells=(setCells cells.toList (off+k) vs).toArray:=by
 induction vs with
 | nil => intro cells off k;simp [setCells]
 | cons v r ih =>
  intro cells off k
  simp only [List.zipIdx_cons,List.foldl_cons,setCells]
  rw [ih]
  congr 1
  simp [Nat.add_assoc]
theorem Wg {sz:Nat} {f:FF} {a:Act} (hf:FFR ι sz f a.tmps) {place:Nat→Option (Nat × Nat)}:∀ {ps:List (Nat × Operand)} {qs:List (Nat × Nat × X)} (hq:Pa place ps=some qs)
  {c c':List Value} (hc:VRs ι c c') {r:List Value} (hr:Sv f qs c=some r),∃ r',Instr.fill place c'.toArray (ps.map fun p => (p.1,a.eval p.2))=some r'.toArray∧VRs ι r r'
 | [],qs,hq,c,c',hc,r,hr => by
  simp [Pa] at hq;subst hq
  simp [Sv] at hr;subst hr
  exact ⟨c',by simp [Instr.fill],hc⟩
 | (i,y) :: ps,qs,hq,c,c',hc,r,hr => by
  simp only [Pa,OB,OM] at hq
  obtain ⟨p,hp,x,hx,qs',hq',rfl⟩:=hq
  simp only [Sv] at hr
  split at hr
  ·rename_i hlen
   have hv:=Au hf hx
   have hone:=Se hlen.2.2
   have hcv:=Vc hv hone
   have hl:(a.eval y).cells.size=p.2:=by rw [← hlen.1,hcv.length];simp
   have hc'l:c'.length=c.length:=hc.length.symm
   obtain ⟨r',h1,h2⟩:=Wg hf hq' (Afg hc hcv p.1) hr
   refine ⟨r',?_,h2⟩
   simp only [List.map_cons,Instr.fill,hp]
   rw [if_neg (by simp [hl];omega)]
   rw [← h1]
   congr 1
   have:=Ab2 (a.eval y).cells.toList c'.toArray p.1 0
   simp only [Nat.add_zero] at this
   rw [← this]
   rw [← Array.toList_zipIdx,Array.foldl_toList]
  ·cases hr
theorem H5 {f:FF} {sz:Nat} {a:Act} (hf:FFR ι sz f a.tmps) {x:Operand} {q:X} (hx:cX x=some q) {d high n:Nat} (h:Bp f (some q) d high=some n) (code:BoundsCode) (w:World) :
  (Instr.sliceBound (a.eval x) high code).run P w = .ok n w:=by
 simp only [Bp] at h
 split at h
 ·rename_i k i he
  have:=Au hf hx
  rw [he] at this
  rw [this.int_inv]
  split at h
  ·rename_i hb
   simp only [OI] at h;subst h
   simp [Instr.sliceBound,asIntOf,Sem.run_bind,Result.andThen,hb]
  ·cases h
 ·cases h
def Cq (P:Program) (ι : Inj) (a:Act) (o:Oper) (v:Value) (w:World):Prop:=∃ v',(execOp a.eval o).run P w = .ok (.value v') w∧VR ι v v'
section
variable {sz:Nat} {f:FF} {a:Act} {o:Oper} {q:O} {v:Value}
theorem D5 (s:Sem Value) {v':Value} {w w':World} (h:s.run P w = .ok v' w'):(do pure (Next.value (← s)):Sem Next).run P w = .ok (.value v') w':=by
 simp [Sem.run_bind,h,Result.andThen]
theorem A2h {x:Operand} (hf:FFR ι sz f a.tmps) (ho:o.op = .move x∨o.op = .assign x) {x':X} (hx:cX x=some x') (hv:Ax f (.mov x')=some v):Cq P ι a o v w:=by
 simp only [Ax,OI] at hv;subst hv
 refine ⟨a.eval x,?_,Au hf hx⟩
 rcases ho with ho | ho<;>simp [execOp,ho]
theorem A31 {c x y:Operand} (hf:FFR ι sz f a.tmps) (ho:o.op = .pick c x y) {c' x' y':X} (hc:cX c=some c') (hx:cX x=some x') (hy:cX y=some y') (hv:Ax f (.pick c' x' y')=some v):Cq P ι a o v w:=by
 simp only [Ax] at hv
 split at hv
 ·rename_i t ht
  have hcr:=Au hf hc
  rw [ht] at hcr
  simp only [OI] at hv;subst hv
  refine ⟨if t then a.eval x else a.eval y,?_,?_⟩
  ·simp [execOp,ho,hcr.bool_inv,asBool,Sem.run_bind,Result.andThen]
  ·cases t
   ·exact Au hf hy
   ·exact Au hf hx
 ·cases hv
theorem Jo {op:BinOp} {t:TypeId} {x y:Operand} {u v:Value} (h1:¬ (u = .nilIface∧v = .nilIface)) (h2:∀ xs ys,¬ (u = .agg xs∧v = .agg ys)) (w:World) :
  (eqGuard op t x y u v).run P w = .ok () w:=by
 unfold eqGuard
 cases op<;>simp only []<;>first | rfl | skip
 all_goals
  cases u<;>first | rfl | skip
  all_goals cases v<;>first | rfl | (exact absurd ⟨rfl,rfl⟩ h1) | (exact absurd ⟨rfl,rfl⟩ (h2 _ _)) | skip
theorem Zc {op:BinOp} {t:TypeId} {x y:Operand} (h:(isC x || isC y)=true) (w:World):(eqGuard op t x y .nilIface .nilIface).run P w = .ok () w:=by
 unfold eqGuard
 cases x<;>cases y<;>first | (simp [isC] at h;done) | (cases op<;>rfl)
theorem Zd {op:BinOp} {t:TypeId} {x y:Operand} {xs ys:Array Value} (h:P.eqGuardType P.depth t=false) (w:World):(eqGuard op t x y (.agg xs) (.agg ys)).run P w = .ok () w:=by
 unfold eqGuard
 cases op<;>simp [Sem.run_bind,Result.andThen,h]
theorem Ajn {t:TypeId} {l:List FK} (h:Yz P t=some l):P.eqGuardType P.depth t=false:=by
 unfold Yz at h
 split at h
 ·split at h
  ·rename_i hh;exact hh.2
  ·cases h
 ·cases h
theorem Ajv {op:BinOp} {t:TypeId} {x y:Operand} {u v u' v':Value} {b:Bool} (h:Ih (eqK P t (isC x || isC y)) u v=some b) (hu:VR ι u u') (hv:VR ι v v') (w:World) :
  (eqGuard op t x y u' v').run P w = .ok () w:=by
 by_cases h1:u' = .nilIface∧v' = .nilIface
 ·obtain ⟨rfl,rfl⟩:=h1
  refine Zc ?_ w
  cases hc:(isC x || isC y) with
  | true => rfl
  | false =>
   rw [hc] at h
   exfalso
   cases hu with
   | any => unfold Ih at h;split at h<;>first | (cases h;done) | (rename_i e;cases e;done) | contradiction | skip
   | nili =>
    cases hv with
    | any => unfold Ih at h;split at h<;>first | (cases h;done) | contradiction | skip
    | nili => unfold Ih at h;split at h<;>first | (cases h;done) | contradiction | (rename_i hq _ _;unfold eqK at hq;split at hq<;>first | (cases hq;done) | (split at hq<;>cases hq;done))
 ·by_cases h2:∃ xs ys,u' = .agg xs∧v' = .agg ys
  ·obtain ⟨xs,ys,rfl,rfl⟩:=h2
   refine Zd ?_ w
   unfold eqK at h
   split at h<;>try (exfalso;cases hu<;>cases hv<;>simp [Ih,Ks] at h;done)
   split at h
   ·rename_i l hl;exact Ajn hl
   ·exfalso;cases hu<;>cases hv<;>simp [Ih,Ks] at h
  ·exact Jo h1 (fun xs ys e => h2 ⟨xs,ys,e⟩) w
theorem Adn {op:BinOp} {t:TypeId} {u v:Value} (hi:∀ k a k' b,¬ (u = .int k a∧v = .int k' b)) (hs:∀ a b,¬ (u = .string a∧v = .string b)) (hf:∀ k a k' b,¬ (u = .float k a∧v = .float k' b)) (hc:∀ k a b k' c d,¬ (u = .complex k a b∧v = .complex k' c d)) :
  Go.binOp .eql t u v=(do pure (.bool (← Op.equal t u v)))∧Go.binOp .neq t u v=(do pure (.bool (!(← Op.equal t u v)))):=by
 cases u<;>cases v<;>first | exact ⟨rfl,rfl⟩ | (exact absurd ⟨rfl,rfl⟩ (hi _ _ _ _)) | (exact absurd ⟨rfl,rfl⟩ (hs _ _)) | (exact absurd ⟨rfl,rfl⟩ (hf _ _ _ _)) | (exact absurd ⟨rfl,rfl⟩ (hc _ _ _ _ _ _))
theorem Aju {q:EqK} {x y x' y':Value} {b:Bool} (h:Ih q x y=some b) (hx:VR ι x x') (hy:VR ι y y') :
  (∀ k a k' b,¬ (x' = .int k a∧y' = .int k' b))∧(∀ a b,¬ (x' = .string a∧y' = .string b))∧(∀ k a k' b,¬ (x' = .float k a∧y' = .float k' b))∧(∀ k a b k' c d,¬ (x' = .complex k a b∧y' = .complex k' c d)):=by
 unfold Ih at h
 split at h<;>first | (cases h;done) | (cases hx<;>refine ⟨?_,?_,?_,?_⟩<;>(intros;rintro ⟨e,_⟩;cases e))
theorem A5q {op:BinOp} {t yt:TypeId} {x y:Operand} (hf:FFR ι sz f a.tmps) (ho:o.op = .binOp op t x y yt) {x' y':X} (hx:cX x=some x') (hy:cX y=some y')
  (hv:Ax f (.bin op (eqK P t (isC x || isC y)) x' y')=some v):Cq P ι a o v w:=by
 have rx:=Au hf hx
 have ry:=Au hf hy
 simp only [Ax] at hv
 unfold binOp at hv
 split at hv
 ·rename_i k n k' m ex ey
  rw [ex] at rx;rw [ey] at ry
  refine ⟨v,?_,?_⟩
  ·simp only [execOp,ho,rx.int_inv,ry.int_inv]
   refine D5 _ ?_
   simp only [Sem.run_bind,Jo (P:=P) (u:=.int k n) (v:=.int k' m) (by rintro ⟨h,_⟩;cases h) (by rintro _ _ ⟨h,_⟩;cases h) w,Result.andThen]
   exact Alc hv w
  ·have:∃ k n,v = .int k n∨∃ b,v = .bool b:=by
    cases op<;>simp only [Fe] at hv<;>(repeat' split at hv)<;>first | (cases hv;done) | (simp only [OI] at hv;subst hv;first | exact ⟨_,_,.inl rfl⟩ | exact ⟨.i8,0,.inr ⟨_,rfl⟩⟩)
   obtain ⟨k,n,rfl | ⟨b,rfl⟩⟩:=this
   ·exact .int _ _
   ·exact .bool _
 ·rename_i s s' ex ey
  rw [ex] at rx;rw [ey] at ry
  refine ⟨v,?_,?_⟩
  ·simp only [execOp,ho,rx.string_inv,ry.string_inv]
   refine D5 _ ?_
   simp only [Sem.run_bind,Jo (P:=P) (u:=.string s) (v:=.string s') (by rintro ⟨h,_⟩;cases h) (by rintro _ _ ⟨h,_⟩;cases h) w,Result.andThen]
   exact Alb hv w
  ·have:(∃ s,v = .string s)∨∃ b,v = .bool b:=by
    cases op<;>simp only [Ag5] at hv<;>(repeat' split at hv)<;>first | (cases hv;done) | (simp only [OI] at hv;subst hv;first | exact .inl ⟨_,rfl⟩ | exact .inr ⟨_,rfl⟩)
   obtain ⟨s,rfl⟩ | ⟨b,rfl⟩:=this
   ·exact .string _
   ·exact .bool _
 ·have key:∀ b,Ih (eqK P t (isC x || isC y)) (ev f x') (ev f y')=some b→(op = .eql→v = .bool b)→(op = .neq→v = .bool (!b))→(op = .eql∨op = .neq)→Cq P ι a o v w:=by
   intro b hb h1 h2 h3
   have hrun:=Arf hb rx ry w
   have hg:=Ajv (op:=op) hb rx ry w
   obtain ⟨s1,s2,s3,s4⟩:=Aju hb rx ry
   obtain ⟨b1,b2⟩:=Adn (op:=op) (t:=t) s1 s2 s3 s4
   rcases h3 with rfl | rfl
   ·refine ⟨.bool b,?_,by rw [h1 rfl];exact .bool b⟩
    simp only [execOp,ho]
    refine D5 _ ?_
    simp only [Sem.run_bind,hg,Result.andThen,b1,hrun];rfl
   ·refine ⟨.bool (!b),?_,by rw [h2 rfl];exact .bool _⟩
    simp only [execOp,ho]
    refine D5 _ ?_
    simp only [Sem.run_bind,hg,Result.andThen,b2,hrun];rfl
  split at hv
  ·simp only [OM] at hv
   obtain ⟨b,hb,rfl⟩:=hv
   exact key b hb (fun _ => rfl) (fun h => by cases h) (.inl rfl)
  ·simp only [OM] at hv
   obtain ⟨b,hb,rfl⟩:=hv
   exact key b hb (fun h => by cases h) (fun _ => rfl) (.inr rfl)
  ·cases hv
end
end Go.L
