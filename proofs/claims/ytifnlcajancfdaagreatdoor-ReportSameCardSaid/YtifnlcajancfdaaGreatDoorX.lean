/- THE CONTRACT OF math/bits.Add64. -/
import Derived.Test.YtifnlcajancfdaaGreatDoorPj
import Derived.Test.YtifnlcajancfdaaGreatDoorSh
import Derived.Shelf.Spec.TrailingZeros
import Derived.Shelf.Strings.Builder1
import Derived.Deep.AppendSrc
import Derived.Shelf.Strings.OnBuilder
import Derived.Shelf.Strconv.Itoa4
set_option linter.unusedVariables false
set_option linter.unusedSimpArgs false
namespace Go.L.Try
open Go Go.L
theorem Ayo {P:Program} {f:FuncId} (hrun:∀ (x y c:Nat) (w:World),x<18446744073709551616→y<18446744073709551616→c≤1→(callFunc f #[.int .u64 x,.int .u64 y,.int .u64 c]).run P w = .ok (.value (.tuple #[.int .u64 (((x+y+c) % 18446744073709551616:Nat):Int),.int .u64 (((x+y+c) / 18446744073709551616:Nat):Int)])) w):A2q P f Aki:=by
 intro args h v h' ws hv
 unfold Aki at hv
 split at hv
 ·rename_i a b c hh
  split at hv
  ·rename_i hc
   obtain ⟨⟨a1,a2⟩,⟨b1,b2⟩,c1,c2⟩:=hc
   simp only [OI,Prod.mk.injEq] at hv
   obtain ⟨rfl,rfl,rfl⟩:=hv
   obtain ⟨x,rfl⟩:=Int.eq_ofNat_of_zero_le a1
   obtain ⟨y,rfl⟩:=Int.eq_ofNat_of_zero_le b1
   obtain ⟨z,rfl⟩:=Int.eq_ofNat_of_zero_le c1
   refine ⟨fun l0 a0 b0 hm => by simp at hm,fun ι w args' hs ha => ?_⟩
   cases ha with
   | cons r1 t1 =>
    cases t1 with
    | cons r2 t2 =>
     cases t2 with
     | cons r3 t3 =>
      cases t3
      cases r1;cases r2;cases r3
      refine ⟨_,w,hrun x y z w (by omega) (by omega) (by omega),ι,_,rfl,St.refl hs,Old.refl _ _,?_⟩
      exact .tuple (.cons (.int _ _) (.cons (.int _ _) .nil))
  ·cases hv
 ·cases hv
theorem As4 {args:List Value} {h h':Aa} {v:Value} {ws:List Nat} (hv:Aki args h=some (v,h',ws)):h'=h∧ws=[]:=by
 unfold Aki at hv
 split at hv
 ·split at hv
  ·simp only [OI,Prod.mk.injEq] at hv;exact ⟨hv.2.1.symm,hv.2.2.symm⟩
  ·cases hv
 ·cases hv
end Go.L.Try
namespace Go.L.Try
open Go Go.L Go.Shelf Go.Proofs
variable {P:Program} {ρ : Ren}
theorem A27 {w:World} {ι : Inj} {h:Aa} (hs:Sim P ι h w) {g:Nat} (hg:g<P.globals.size) {c:List Value} {ro:Bool} (hG:h[g]? = some (.cells c ro)) (hc:Ag2 c=true):TabAt g Lib.deBruijn64tab w:=by
 obtain ⟨s,hι⟩:=hs.glob g hg
 obtain ⟨m,hm,hobj⟩:=hs.obj g _ hG (by simp)
 rw [hι] at hm
 cases hm
 cases hobj with
 | @cells _ _ arr t fz hw hsz hl hcell _ _ =>
  unfold Ag2 at hc
  rw [Bool.and_eq_true,decide_eq_true_eq,List.all_eq_true] at hc
  intro j hj
  have hj2:j<64:=hj
  have h1:=hc.2 j (List.mem_range.2 hj2)
  cases hv:c[j]? with
  | none => rw [hv] at h1;cases h1
  | some v =>
   rw [hv] at h1
   obtain ⟨r,hr,hvr⟩:=hcell j v hv
   split at h1
   ·rename_i n e
    cases e
    cases hvr
    rw [Nat.zero_add] at hr
    simp only at hw
    have e2:n=((Lib.deBruijn64tab.getD j 0:Nat):Int):=by simpa using h1
    simp only [World.cell?,hw]
    rw [hr,e2];rfl
   ·cases h1
theorem A20 (L:Lays7.n29 P ρ):Ac0 P (ρ.f 29) (tzE (ρ.g 1)):=by
 intro args h v h' ws hv F n hW ι w args' hs ha
 unfold tzE at hv
 split at hv
 ·rename_i a hh
  split at hv
  ·rename_i c ro hG
   split at hv
   ·rename_i hc
    obtain ⟨hc,ha0,ha1⟩:=hc
    simp only [OI,Prod.mk.injEq] at hv
    obtain ⟨rfl,rfl,rfl⟩:=hv
    cases ha with
    | cons r1 t1 =>
     cases t1
     cases r1
     obtain ⟨x,rfl⟩:=Int.eq_ofNat_of_zero_le ha0
     have hg:ρ.g 1<P.globals.size:=by
      have:=L.g1
      rw [Array.findIdx?_eq_some_iff_getElem] at this
      exact this.1
     have hT:=A27 hs hg hG hc
     refine I6 hW ((Any7.bits_TrailingZeros64 L x (by omega) w fun _ => hT).mono fun e w' hr => ?_)
     obtain ⟨rfl,rfl⟩:=hr
     exact ⟨ι,_,rfl,St.refl hs,Old.refl _ _,VR.int _ _⟩
   ·cases hv
  ·cases hv
 ·cases hv
theorem Atp {G:Nat} {args:List Value} {h h':Aa} {v:Value} {ws:List Nat} (hv:tzE G args h=some (v,h',ws)):h'=h∧ws=[]:=by
 unfold tzE at hv
 split at hv
 ·split at hv
  ·split at hv
   ·simp only [OI,Prod.mk.injEq] at hv;exact ⟨hv.2.1.symm,hv.2.2.symm⟩
   ·cases hv
  ·cases hv
 ·cases hv
end Go.L.Try
namespace Go.L.Try
open Go Go.L Go.Shelf Go.Proofs Go.RowKit
variable {P:Program} {ρ : Ren}
def wsE (args:List Value) (h:Aa):Option (Value × Aa × List Nat) :=
 match args with
 | [.pointer (some ⟨b,0,none⟩),.string s] =>
  match h[b]? with
  | some (.bld none) =>
   if s.size=0 then some (.tuple #[.int .i64 (s.size:Nat),.nilIface],h.set b (.bld none),[b])
   else if s.size≤140737488355328 then some (.tuple #[.int .i64 (s.size:Nat),.nilIface],h.set b (.bld (some (h.length,s.size)))++[.bytes s.data.toList],[b])
   else none
  | some (.bld (some (r,n))) =>
   match h[r]? with
   | some (.bytes c) => if c.length=n∧r≠b∧n+s.size≤140737488355328 then some (.tuple #[.int .i64 (s.size:Nat),.nilIface],(h.set r .dead).set b (.bld (some (h.length,n+s.size)))++[.bytes (c++s.data.toList)],[b,r]) else none
   | _ => none
  | _ => none
 | _ => none
def Aq2 (args:List Value) (h:Aa):Option (Value × Aa × List Nat) :=
 match args with
 | [.pointer (some ⟨b,0,none⟩)] =>
  match h[b]? with
  | some (.bld none) => some (.string .empty,h,[])
  | some (.bld (some (r,n))) =>
   match h[r]? with
   | some (.bytes c) => if c.length=n∧n≠0 then some (.string ⟨c.toArray⟩,h.set r .dead,[r]) else none
   | _ => none
  | _ => none
 | _ => none
theorem As8 {args:List Value} {h h':Aa} {v:Value} {ws:List Nat} (hv:wsE args h=some (v,h',ws)):Keeps h.length h h' ws:=by
 unfold wsE at hv
 split at hv<;>try (cases hv;done)
 split at hv<;>try (cases hv;done)
 ·split at hv
  ·simp only [OI,Prod.mk.injEq] at hv
   obtain ⟨_,rfl,rfl⟩:=hv
   exact Keeps.set _ _
  ·split at hv<;>try (cases hv;done)
   simp only [OI,Prod.mk.injEq] at hv
   obtain ⟨_,rfl,rfl⟩:=hv
   exact Keeps.set_push (Nat.le_refl _) _ _ _
 ·split at hv<;>try (cases hv;done)
  split at hv<;>try (cases hv;done)
  simp only [OI,Prod.mk.injEq] at hv
  obtain ⟨_,rfl,rfl⟩:=hv
  refine ⟨by simp,fun x hx hn => ?_⟩
  simp only [List.mem_cons,List.not_mem_nil,or_false,not_or] at hn
  rw [GL (by simpa using hx),List.getElem?_set_ne (Ne.symm hn.1),List.getElem?_set_ne (Ne.symm hn.2)]
theorem Aq1 {args:List Value} {h h':Aa} {v:Value} {ws:List Nat} (hv:Aq2 args h=some (v,h',ws)):Keeps h.length h h' ws:=by
 unfold Aq2 at hv
 split at hv<;>try (cases hv;done)
 split at hv<;>try (cases hv;done)
 ·simp only [OI,Prod.mk.injEq] at hv
  obtain ⟨_,rfl,rfl⟩:=hv
  exact Keeps.refl _ _ _
 ·split at hv<;>try (cases hv;done)
  split at hv<;>try (cases hv;done)
  simp only [OI,Prod.mk.injEq] at hv
  obtain ⟨_,rfl,rfl⟩:=hv
  exact Keeps.set _ _
theorem Ac7 (w:World) (t u ty e:TypeId) (i:TypeInfo) (ht:P.underlying t=some (.slice e)) (hu:P.underlying u=some .string) (hi:P.info? e=some i) (hz:i.zero=some (.int .u8 0)) (hsize:i.size=1) (hby:i.bytes=1)
  {g n cap:Nat} {cur:Array Value} (hg:w.heap[g]? = some (.cells cur e (0,0))) (hcs:cur.size=cap) (hn:n≤cap) (s:ByteArray) (hb:n+s.size≤140737488355328) (h63:cap≤9223372036854775807) :
  ∃ w' g' cap' cur',(Builtin.append_ #[t,u] ty #[.slice (some ⟨g,0,none⟩) n cap,.string s]).run P w = .ok (.slice (some ⟨g',0,none⟩) (n+s.size) cap') w'∧w'.heap[g']? = some (.cells cur' e (0,0))∧cur'.size=cap'∧n+s.size≤cap'∧cap'≤9223372036854775807 ∧
   cur'.toList.take (n+s.size)=cur.toList.take n++Lib.strCells s∧(g'=g∨w.heap.size≤g')∧w.grownBy w' (some g)∧g'<w'.heap.size:=by
 have hS:Src P i.size u (.string s) s.size (Go.byteCells s) w:=by rw [hsize];exact Src.ofString w hu s
 have hT:My P u:=⟨_,hu,.inr rfl⟩
 have hlen:(Go.byteCells s).length=s.size:=by rw [Go.byteCells,List.length_map,Array.length_toList];rfl
 have hgl:g<w.heap.size:=(Array.getElem?_eq_some_iff.1 hg).1
 have hcl:cur.toList.length=cap:=by rw [Array.length_toList];exact hcs
 have hbc:Go.byteCells s=Lib.strCells s:=rfl
 by_cases hroom:n+s.size≤cap
 ·have hadd:(⟨g,0,none⟩:Addr).add (n * i.size)=⟨g,n,none⟩:=by rw [hsize];unfold Addr.add;split<;>simp_all
  have hst:=run_storeCells_at (P:=P) g n e (Go.byteCells s) 0 cur w hg (by rw [hlen];omega) hS.one
  rw [Nat.add_zero,hlen] at hst
  refine ⟨w.setRow g (cur.toList.take n++Go.byteCells s++cur.toList.drop (n+s.size)).toArray,g,cap,(cur.toList.take n++Go.byteCells s++cur.toList.drop (n+s.size)).toArray,?_,setRow_heap w g cur _ e _ hg,?_,hroom,h63,?_,.inl rfl,?_,?_⟩
  ·refine Mj (ty:=ty) ht hT hi (hS.len w) hS.cells hroom ?_
   simp only [hadd]
   exact hst
  ·simp only [List.size_toArray,LA,List.length_take,List.length_drop,hlen,hcl]
   omega
  ·rw [hbc]
   have e1:(cur.toList.take n++Lib.strCells s).length=n+s.size:=by rw [LA,List.length_take,← hbc,hlen,hcl];omega
   rw [List.take_left' e1]
  ·refine ⟨rfl,rfl,rfl,by simp [World.setRow],fun k hk hne => ?_⟩
   have:¬ g=k:=fun e => hne (by rw [e])
   simp [World.setRow,Array.getElem?_modify,this]
  ·simpa [World.setRow] using hgl
 ·have hg':w.drew.heap[g]? = some (.cells cur e (0,0)):=hg
  have hol:=run_firstCells_some (P:=P) (w:=w.drew) i.size n ⟨g,0,none⟩ n cap (cur.toList.take n) (by rw [hsize,List.length_take,hcl];omega) (fun j v hj => by
   have hadd:(⟨g,0,none⟩:Addr).add j=⟨g,j,none⟩:=by unfold Addr.add;split<;>simp_all
   rw [hadd]
   have hjn:j<n:=by
    have:=(GI.1 hj).1
    rw [List.length_take] at this;omega
   rw [List.getElem?_take,if_pos hjn] at hj
   simp only [World.cell?,hg']
   simpa using hj)
  have r:=V2 (ty:=ty) ht hT hi hz (hS.len w) hS.cellsD hol (by omega) (by omega) (by rw [hby];omega) (by rw [hby];decide)
  have hge:=grownCap_ge w (n+s.size) cap e
  have hmx:=grownCap_le_maxLen w (n+s.size) cap e (by unfold maxLen;omega)
  unfold maxLen at hmx
  generalize grownCap w (n+s.size) cap e=G at *
  have hzl:(Builtin.zeroCells (Value.int .u8 0).cells (G - (n+s.size))).size=G - (n+s.size):=by simp [Builtin.zeroCells,Value.cells]
  refine ⟨_,w.heap.size,G,_,r,Lh,?_,hge,by omega,?_,.inr (Nat.le_refl _),⟨rfl,rfl,rfl,by rw [Tp];show w.heap.size≤w.heap.size+1;omega,fun k hk _ => Sd (w:=w.drew) hk⟩,by rw [Tp];show w.heap.size<w.heap.size+1;omega⟩
  ·simp only [Array.size_append,List.size_toArray,List.length_take,hlen,hcl,hzl]
   omega
  ·simp only [Array.toList_append,List.toList_toArray]
   have e1:(cur.toList.take n++Go.byteCells s).length=n+s.size:=by rw [LA,List.length_take,hlen,hcl];omega
   rw [List.take_left' e1,hbc]
theorem Xc {w:World} {ops:Array Oper} {rest:List Oper} {o:Oper} {a:Act} {Q:Exit→Act→World→Prop} (hgd:o.guard=none) (sl x:Operand) (t u:TypeId)
  (ho:o.op = .call { callee:=.builtin .append,args:=#[sl,x],argTypes:=#[t,u] })
  (e:TypeId) (i:TypeInfo) (ht:P.underlying t=some (.slice e)) (hu:P.underlying u=some .string) (hi:P.info? e=some i) (hz:i.zero=some (.int .u8 0)) (hsize:i.size=1) (hby:i.bytes=1)
  {g n cap:Nat} {cur:Array Value} (hg:w.heap[g]? = some (.cells cur e (0,0))) (hcs:cur.size=cap) (hn:n≤cap) (h63:cap≤9223372036854775807) (hs:a.eval sl = .slice (some ⟨g,0,none⟩) n cap) (s:ByteArray) (hx:a.eval x = .string s) (hb:n+s.size≤140737488355328)
  (h:∀ w' g' cap' cur',w'.heap[g']? = some (.cells cur' e (0,0))∧cur'.size=cap'∧n+s.size≤cap'∧cap'≤9223372036854775807 ∧
   cur'.toList.take (n+s.size)=cur.toList.take n++Lib.strCells s∧(g'=g∨w.heap.size≤g')∧w.grownBy w' (some g)∧g'<w'.heap.size→wpList P ops Q rest (a.put o.dst (.slice (some ⟨g',0,none⟩) (n+s.size) cap')) w'):wpList P ops Q (o :: rest) a w:=by
 refine wpList_plain hgd fun K hK => ?_
 obtain ⟨w',g',cap',cur',hr,hh⟩:=Ac7 (P:=P) w t u o.type e i ht hu hi hz hsize hby hg hcs hn s hb h63
 unfold Oper.wp execOp
 simp only [ho,resolve,invoke,builtin,Sem.run_bind,Sem.run_pure,Result.andThen_ok,List.map_toArray,List.map_cons,List.map_nil,hs,hx,hr]
 exact hK _ _ (h w' g' cap' cur' hh)
structure WsL (P:Program) (ρ : Ren):Prop where
 mixed:P.follows .mixedOrders=true
 f166:P.funcs[ρ.f 166]? = some (Body.n166 ρ)
 e240:∀ args w,(callFunc (ρ.f 240) args).run P w = .ok (.enter (ρ.f 240) args) w
 cc:∀ {b:Nat} {p v:Value} {w:World},w.heap[b]? = some (.cells #[p,v] (ρ.t 72) (0,0))→(p = .pointer none∨p = .pointer (some ⟨b,0,none⟩)) →
  Calls P (ρ.f 240) #[.pointer (some ⟨b,0,none⟩)] w fun e w1 => e = .returned (.tuple #[])∧w1.heap[b]? = some (.cells #[.pointer (some ⟨b,0,none⟩),v] (ρ.t 72) (0,0))∧w.grownBy w1 (some b)∧w1.heap.size=w.heap.size
 t3:P.underlying (ρ.t 3)=some (TypeDesc.int IntKind.i64)
 a3:∀ w,(isAgg (ρ.t 3)).run P w = .ok false w
 z3:∀ w,(Go.sizeOf (ρ.t 3)).run P w = .ok 1 w
 v3:∀ w,(zeroValue (ρ.t 3)).run P w = .ok (Value.int IntKind.i64 0) w
 t4:P.underlying (ρ.t 4)=some (TypeDesc.bool)
 a4:∀ w,(isAgg (ρ.t 4)).run P w = .ok false w
 z4:∀ w,(Go.sizeOf (ρ.t 4)).run P w = .ok 1 w
 v4:∀ w,(zeroValue (ρ.t 4)).run P w = .ok (Value.bool false) w
 t9:P.underlying (ρ.t 9)=some (TypeDesc.string)
 a9:∀ w,(isAgg (ρ.t 9)).run P w = .ok false w
 z9:∀ w,(Go.sizeOf (ρ.t 9)).run P w = .ok 1 w
 v9:∀ w,(zeroValue (ρ.t 9)).run P w = .ok (Value.string { data:=#[] }) w
 t37:P.underlying (ρ.t 37)=some (TypeDesc.slice (ρ.t 5))
 a37:∀ w,(isAgg (ρ.t 37)).run P w = .ok false w
 z37:∀ w,(Go.sizeOf (ρ.t 37)).run P w = .ok 1 w
 v37:∀ w,(zeroValue (ρ.t 37)).run P w = .ok (Value.slice none 0 0) w
 t70:P.underlying (ρ.t 70)=some (TypeDesc.pointer (ρ.t 72))
 a70:∀ w,(isAgg (ρ.t 70)).run P w = .ok false w
 z70:∀ w,(Go.sizeOf (ρ.t 70)).run P w = .ok 1 w
 v70:∀ w,(zeroValue (ρ.t 70)).run P w = .ok (Value.pointer none) w
 t72:P.underlying (ρ.t 72)=some (TypeDesc.struct #[{ name := "addr", type:=ρ.t 70,offset:=0,embedded:=false,tag := "", pkgPath := "strings", byteOffset:=0 },{ name := "buf", type:=ρ.t 37,offset:=1,embedded:=false,tag := "", pkgPath := "strings", byteOffset:=8 }])
 a72:∀ w,(isAgg (ρ.t 72)).run P w = .ok true w
 z72:∀ w,(Go.sizeOf (ρ.t 72)).run P w = .ok 2 w
 v72:∀ w,(zeroValue (ρ.t 72)).run P w = .ok (Value.agg #[Value.pointer none,Value.slice none 0 0]) w
 t164:P.underlying (ρ.t 164)=some (TypeDesc.unsafePointer)
 a164:∀ w,(isAgg (ρ.t 164)).run P w = .ok false w
 z164:∀ w,(Go.sizeOf (ρ.t 164)).run P w = .ok 1 w
 v164:∀ w,(zeroValue (ρ.t 164)).run P w = .ok (Value.pointer none) w
set_option maxHeartbeats 2000000 in
set_option maxRecDepth 100000 in
theorem A2t (L:WsL P ρ) (X:Builder.Extra P ρ) {b g n cap:Nat} {p:Value} {cur:Array Value} (s:ByteArray) (w:World) (hbk:w.heap[b]? = some (.cells #[p,.slice (some ⟨g,0,none⟩) n cap] (ρ.t 72) (0,0))) (hp:p = .pointer none∨p = .pointer (some ⟨b,0,none⟩))
  (hg:w.heap[g]? = some (.cells cur (ρ.t 5) (0,0))) (hcs:cur.size=cap) (hn:n≤cap) (h63:cap≤9223372036854775807) (hb:n+s.size≤140737488355328) (hne:g≠b) :
  Calls P (ρ.f 166) #[.pointer (some ⟨b,0,none⟩),.string s] w fun e w' => e = .returned (.tuple #[.int .i64 s.size,.nilIface])∧∃ g' cap' cur',
   w'.heap[b]? = some (.cells #[.pointer (some ⟨b,0,none⟩),.slice (some ⟨g',0,none⟩) (n+s.size) cap'] (ρ.t 72) (0,0))∧w'.heap[g']? = some (.cells cur' (ρ.t 5) (0,0))∧cur'.size=cap'∧n+s.size≤cap'∧cap'≤9223372036854775807 ∧
   cur'.toList.take (n+s.size)=cur.toList.take n++Lib.strCells s∧(g'=g∨w.heap.size≤g')∧w.heap.size≤w'.heap.size∧(∀ k,k<w.heap.size→k≠b→k≠g→w'.heap[k]? = w.heap[k]?)∧w'.os=w.os∧w'.tape=w.tape∧w'.output=w.output:=by
 obtain ⟨i0,hi,hz0,hz1,hz2⟩:=info_parts X.infoByte
 have mixed:=L.mixed
 have t72:=L.t72;have a72:=L.a72;have z72:=L.z72;have v72:=L.v72;have u72:=run_underlying L.t72
 have t70:=L.t70;have a70:=L.a70;have z70:=L.z70;have v70:=L.v70;have u70:=run_underlying L.t70
 have t37:=L.t37;have a37:=L.a37;have z37:=L.z37;have v37:=L.v37;have u37:=run_underlying L.t37
 have t3:=L.t3;have a3:=L.a3;have z3:=L.z3;have v3:=L.v3;have u3:=run_underlying L.t3
 have t9:=L.t9;have a9:=L.a9;have z9:=L.z9;have v9:=L.v9;have u9:=run_underlying L.t9
 have t4:=L.t4;have a4:=L.a4;have z4:=L.z4;have v4:=L.v4;have u4:=run_underlying L.t4
 have t164:=L.t164;have a164:=L.a164;have z164:=L.z164;have v164:=L.v164;have u164:=run_underlying L.t164
 have t5:=X.t5;have a5:=X.a5;have z5:=X.z5;have v5:=X.v5;have u5:=run_underlying X.t5
 have e240:=L.e240
 go_enter L.f166,Body.n166_ntmps ρ
 go_wp2_with (go_at_fn (ρ.f 240);refine (L.cc hbk hp).mono ?_)
 rintro e w1 ⟨rfl,hb1,gr1,sz1⟩
 have hgl:g<w.heap.size:=(Array.getElem?_eq_some_iff.1 hg).1
 have hbl:b<w.heap.size:=(Array.getElem?_eq_some_iff.1 hbk).1
 have hg1:w1.heap[g]? = some (.cells cur (ρ.t 5) (0,0)):=(gr1.block g hgl (fun e => hne (Option.some.inj e))).trans hg
 have c1:w1.cell? ⟨b,1,none⟩=some (.slice (some ⟨g,0,none⟩) n cap):=by rw [Lib.cell_of_heap hb1];rfl
 go_wp2_with (at_builtin;refine Xc rfl _ _ (ρ.t 37) (ρ.t 9) rfl (ρ.t 5) i0 L.t37 L.t9 hi hz0 hz1 hz2 hg1 hcs hn h63 rfl s rfl hb ?_)
 intro w2 g' cap' cur' q1 q2 q3 q4 q5 q6 gr2 q7
 have hb2:w2.heap[b]? = some (.cells #[.pointer (some ⟨b,0,none⟩),.slice (some ⟨g,0,none⟩) n cap] (ρ.t 72) (0,0)):=(gr2.block b (by omega) (fun e => hne (Option.some.inj e).symm)).trans hb1
 have d1:w2.cell? ⟨b,1,none⟩=some (.slice (some ⟨g,0,none⟩) n cap):=by rw [Lib.cell_of_heap hb2];rfl
 have f1:w2.frozen? ⟨b,1,none⟩=false:=Lib.frozen_of_heap hb2 1
 go_wp2
 go_ret2
 have hgb:g'≠b:=by
  rcases q6 with h | h
  ·omega
  ·omega
 have hs:(w2.setCell ⟨b,1,none⟩ (.slice (some ⟨g',0,none⟩) (n+s.size) cap')).heap.size=w2.heap.size:=by simp [World.setCell]
 refine ⟨rfl,g',cap',cur',?_,?_,q2,q3,q4,q5,by omega,?_,fun k hk h1 h2 => ?_,?_,?_,?_⟩
 ·rw [heap_setCell_same w2 b 1 _ _ _ hb2];rfl
 ·rw [Below.heap_setCell _ _ _ g' hgb];exact q1
 ·rw [hs];have:=gr2.size;omega
 ·rw [Below.heap_setCell _ _ _ k h1,gr2.block k (by omega) (fun e => h2 (Option.some.inj e)),gr1.block k hk (fun e => h1 (Option.some.inj e))]
 ·exact gr2.os.trans gr1.os
 ·exact gr2.tape.trans gr1.tape
 ·exact gr2.output.trans gr1.output
set_option maxHeartbeats 2000000 in
set_option maxRecDepth 100000 in
theorem As7 (L:WsL P ρ) (X:Builder.Extra P ρ) {b:Nat} {p:Value} (s:ByteArray) (w:World) (hbk:w.heap[b]? = some (.cells #[p,.slice none 0 0] (ρ.t 72) (0,0))) (hp:p = .pointer none∨p = .pointer (some ⟨b,0,none⟩)) (hb:s.size≤140737488355328) :
  Calls P (ρ.f 166) #[.pointer (some ⟨b,0,none⟩),.string s] w fun e w' => e = .returned (.tuple #[.int .i64 s.size,.nilIface])∧∃ v',
   w'.heap[b]? = some (.cells #[.pointer (some ⟨b,0,none⟩),v'] (ρ.t 72) (0,0))∧(s.size=0∧v' = .slice none 0 0∨∃ g' cap' cur',v' = .slice (some ⟨g',0,none⟩) s.size cap'∧w'.heap[g']? = some (.cells cur' (ρ.t 5) (0,0))∧cur'.size=cap'∧s.size≤cap'∧cap'≤9223372036854775807 ∧
   cur'.toList.take s.size=Lib.strCells s∧w.heap.size≤g')∧(v' = .slice none 0 0↔s.size=0)∧w.heap.size≤w'.heap.size∧(∀ k,k<w.heap.size→k≠b→w'.heap[k]? = w.heap[k]?)∧w'.os=w.os∧w'.tape=w.tape∧w'.output=w.output:=by
 obtain ⟨i0,hi,hz0,hz1,hz2⟩:=info_parts X.infoByte
 have mixed:=L.mixed
 have t72:=L.t72;have a72:=L.a72;have z72:=L.z72;have v72:=L.v72;have u72:=run_underlying L.t72
 have t70:=L.t70;have a70:=L.a70;have z70:=L.z70;have v70:=L.v70;have u70:=run_underlying L.t70
 have t37:=L.t37;have a37:=L.a37;have z37:=L.z37;have v37:=L.v37;have u37:=run_underlying L.t37
 have t3:=L.t3;have a3:=L.a3;have z3:=L.z3;have v3:=L.v3;have u3:=run_underlying L.t3
 have t9:=L.t9;have a9:=L.a9;have z9:=L.z9;have v9:=L.v9;have u9:=run_underlying L.t9
 have t4:=L.t4;have a4:=L.a4;have z4:=L.z4;have v4:=L.v4;have u4:=run_underlying L.t4
 have t164:=L.t164;have a164:=L.a164;have z164:=L.z164;have v164:=L.v164;have u164:=run_underlying L.t164
 have t5:=X.t5;have a5:=X.a5;have z5:=X.z5;have v5:=X.v5;have u5:=run_underlying X.t5
 have e240:=L.e240
 go_enter L.f166,Body.n166_ntmps ρ
 go_wp2_with (go_at_fn (ρ.f 240);refine (L.cc hbk hp).mono ?_)
 rintro e w1 ⟨rfl,hb1,gr1,sz1⟩
 have hbl:b<w.heap.size:=(Array.getElem?_eq_some_iff.1 hbk).1
 have hown:w1.ownsRow w1.heap.size (ρ.t 5) 1 (.slice none 0 0) 0 []:=⟨rfl,.inl ⟨rfl,rfl⟩⟩
 have c1:w1.cell? ⟨b,1,none⟩=some (.slice none 0 0):=by rw [Lib.cell_of_heap hb1];rfl
 go_wp2_with (at_builtin;refine Lib.wpList_append_own_string _ rfl _ _ (ρ.t 37) (ρ.t 9) rfl w1.heap.size (ρ.t 5) i0 L.t37 L.t9 hi hz0 hz1 hz2 _ _ _ rfl hown s rfl ?c3 ?c4 ?c5 ?_)
 case c3 => unfold maxLen;omega
 case c4 => omega
 case c5 => exact Nat.le_refl _
 intro v' w2 hown' gr2 hiff
 have hb2:w2.heap[b]? = some (.cells #[.pointer (some ⟨b,0,none⟩),.slice none 0 0] (ρ.t 72) (0,0)):=(gr2.block b (by omega) (fun e => by cases e)).trans hb1
 have d1:w2.cell? ⟨b,1,none⟩=some (.slice none 0 0):=by rw [Lib.cell_of_heap hb2];rfl
 have f1:w2.frozen? ⟨b,1,none⟩=false:=Lib.frozen_of_heap hb2 1
 obtain ⟨ao,n',cap,rfl⟩:∃ ao n' cap,v' = .slice ao n' cap:=by
  rcases hown'.2 with ⟨hv,_⟩ | ⟨g,cap,cur,hv,_⟩
  ·exact ⟨_,_,_,hv⟩
  ·exact ⟨_,_,_,hv⟩
 go_wp2
 go_ret2
 have hs:(w2.setCell ⟨b,1,none⟩ (.slice ao n' cap)).heap.size=w2.heap.size:=by simp [World.setCell]
 refine ⟨rfl,_,by rw [heap_setCell_same w2 b 1 _ _ _ hb2];rfl,?_,⟨fun h1 => by rw [hiff.1 h1];rfl,fun h1 => hiff.2 (by cases s;rename_i d;have:d = #[]:=Array.eq_empty_of_size_eq_zero h1;subst this;rfl)⟩,?_,fun k hk h1 => ?_,?_,?_,?_⟩
 ·rcases hown'.2 with ⟨hv,h0⟩ | ⟨g,cap',cur,hv,hge,hg,hnc,hcm,hcs,htk⟩
  ·exact .inl ⟨h0,hv⟩
  ·refine .inr ⟨g,cap',cur,hv,?_,by simpa using hcs,hnc,by unfold maxLen at hcm;omega,by simpa using htk,by omega⟩
   rw [Below.heap_setCell _ _ _ g (by show g≠b;omega)];exact hg
 ·rw [hs];have:=gr2.size;omega
 ·rw [Below.heap_setCell _ _ _ k h1,gr2.block k (by omega) (fun e => by cases e),gr1.block k hk (fun e => h1 (Option.some.inj e))]
 ·exact gr2.os.trans gr1.os
 ·exact gr2.tape.trans gr1.tape
 ·exact gr2.output.trans gr1.output
theorem Aj1 {w:World} {g n:Nat}:(∀ k,k≠g→(w.drew.freeze ⟨g,0,none⟩ n).heap[k]? = w.heap[k]?)∧(w.drew.freeze ⟨g,0,none⟩ n).heap.size=w.heap.size∧(w.drew.freeze ⟨g,0,none⟩ n).os=w.os∧(w.drew.freeze ⟨g,0,none⟩ n).tape=w.tape∧(w.drew.freeze ⟨g,0,none⟩ n).output=w.output:=by
 unfold World.freeze
 split
 ·exact ⟨fun _ _ => rfl,rfl,rfl,rfl,rfl⟩
 ·refine ⟨fun k hk => ?_,by show (Array.modify _ _ _).size=_;rw [Array.size_modify];rfl,rfl,rfl,rfl⟩
  simp only [Array.getElem?_modify]
  rw [if_neg (fun e => hk e.symm)];rfl
set_option maxHeartbeats 2000000 in
set_option maxRecDepth 100000 in
theorem Azi (L:Lays.n169 P ρ) (X:Builder.Extra P ρ) {b g cap:Nat} {p:Value} {cur:Array Value} (l:List UInt8) (w:World) (hbk:w.heap[b]? = some (.cells #[p,.slice (some ⟨g,0,none⟩) l.length cap] (ρ.t 72) (0,0))) (hg:w.heap[g]? = some (.cells cur (ρ.t 5) (0,0))) (hcs:cur.size=cap) (hn:l.length≤cap) (h63:cap≤9223372036854775807)
  (htk:cur.toList.take l.length=Lib.byteCells l) (h0:l≠[]) :
  Calls P (ρ.f 169) #[.pointer (some ⟨b,0,none⟩)] w fun e w' => e = .returned (.string ⟨l.toArray⟩)∧w'=w.drew.freeze ⟨g,0,none⟩ l.length:=by
 have hl0:l.length≠0:=by simpa using h0
 have c1:w.drew.cell? ⟨b,1,none⟩=some (.slice (some ⟨g,0,none⟩) l.length cap):=by
  have:w.drew.heap[b]? = some (.cells #[p,.slice (some ⟨g,0,none⟩) l.length cap] (ρ.t 72) (0,0)):=hbk
  rw [Lib.cell_of_heap this];rfl
 have hSD:(Builtin.unsafeSliceData_ #[(ρ.t 37)] (ρ.t 127) #[.slice (some ⟨g,0,none⟩) l.length cap]).run P w.drew = .ok (.pointer (some ⟨g,0,none⟩)) w.drew :=
  Lib.run_unsafeSliceData_row _ _ _ _ _ _ (by omega)
 have hg':w.drew.heap[g]? = some (.cells cur (ρ.t 5) (0,0)):=hg
 have hUS:(Builtin.unsafeString_ #[(ρ.t 127),(ρ.t 3)] (ρ.t 9) #[.pointer (some ⟨g,0,none⟩),.int .i64 l.length]).run P w.drew = .ok (.string ⟨l.toArray⟩) (w.drew.freeze ⟨g,0,none⟩ l.length):=by
  refine Lib.run_unsafeString_row w.drew (ρ.t 127) (ρ.t 3) (ρ.t 9) (ρ.t 5) L.t127 X.cellsByte g cur.size (by simp [World.shape?,hg']) l h0 (by omega) (by omega) ?_
  intro j x hx
  have hadd:(⟨g,0,none⟩:Addr).add j=⟨g,j,none⟩:=by unfold Addr.add;split<;>simp_all
  rw [hadd]
  have hj:=(GI.1 hx).1
  have:(cur.toList.take l.length)[j]? = some (.int .u8 x.toNat):=by rw [htk];simp [Lib.byteCells,hx]
  rw [List.getElem?_take,if_pos hj] at this
  simp only [World.cell?,hg']
  simpa using this
 have mixed:=L.mixed
 have t72:=L.t72;have a72:=L.a72;have z72:=L.z72;have v72:=L.v72;have u72:=run_underlying L.t72
 have t70:=L.t70;have a70:=L.a70;have z70:=L.z70;have v70:=L.v70;have u70:=run_underlying L.t70
 have t37:=L.t37;have a37:=L.a37;have z37:=L.z37;have v37:=L.v37;have u37:=run_underlying L.t37
 have t127:=L.t127;have a127:=L.a127;have z127:=L.z127;have v127:=L.v127;have u127:=run_underlying L.t127
 have t3:=L.t3;have a3:=L.a3;have z3:=L.z3;have v3:=L.v3;have u3:=run_underlying L.t3
 have t9:=L.t9;have a9:=L.a9;have z9:=L.z9;have v9:=L.v9;have u9:=run_underlying L.t9
 have t5:=X.t5;have a5:=X.a5;have z5:=X.z5;have v5:=X.v5;have u5:=run_underlying X.t5
 go_enter L.f169,Body.n169_ntmps ρ
 go_wp2
 go_region_o
 all_goals (go_wp2;go_ret;exact ⟨rfl,rfl⟩)
set_option maxHeartbeats 2000000 in
set_option maxRecDepth 100000 in
theorem Azj (L:Lays.n169 P ρ) (X:Builder.Extra P ρ) {b:Nat} {p:Value} (w:World) (hbk:w.heap[b]? = some (.cells #[p,.slice none 0 0] (ρ.t 72) (0,0))) :
  Calls P (ρ.f 169) #[.pointer (some ⟨b,0,none⟩)] w fun e w' => e = .returned (.string .empty)∧w'=w.drew:=by
 have hUS:=Any.unsafeString_none L X
 have c1:w.drew.cell? ⟨b,1,none⟩=some (.slice none 0 0):=by
  have:w.drew.heap[b]? = some (.cells #[p,.slice none 0 0] (ρ.t 72) (0,0)):=hbk
  rw [Lib.cell_of_heap this];rfl
 have hSD:(Builtin.unsafeSliceData_ #[(ρ.t 37)] (ρ.t 127) #[.slice none 0 0]).run P w.drew = .ok (.pointer none) w.drew:=rfl
 have mixed:=L.mixed
 have t72:=L.t72;have a72:=L.a72;have z72:=L.z72;have v72:=L.v72;have u72:=run_underlying L.t72
 have t70:=L.t70;have a70:=L.a70;have z70:=L.z70;have v70:=L.v70;have u70:=run_underlying L.t70
 have t37:=L.t37;have a37:=L.a37;have z37:=L.z37;have v37:=L.v37;have u37:=run_underlying L.t37
 have t127:=L.t127;have a127:=L.a127;have z127:=L.z127;have v127:=L.v127;have u127:=run_underlying L.t127
 have t3:=L.t3;have a3:=L.a3;have z3:=L.z3;have v3:=L.v3;have u3:=run_underlying L.t3
 have t9:=L.t9;have a9:=L.a9;have z9:=L.z9;have v9:=L.v9;have u9:=run_underlying L.t9
 have t5:=X.t5;have a5:=X.a5;have z5:=X.z5;have v5:=X.v5;have u5:=run_underlying X.t5
 go_enter L.f169,Body.n169_ntmps ρ
 go_wp2
 go_region_o
 all_goals (go_wp2;go_ret;exact ⟨rfl,rfl⟩)
section
variable {ι : Inj} {h:Aa} {w w':World}
theorem Atw (hs:Sim P ι h w) {b:Nat} {o o':LObj} {m:Img} (hb:h[b]? = some o) (ho:o.wr=true) (hm:ι b=some m)
  (hsz:w.heap.size≤w'.heap.size) (hother:∀ rb,rb<w.heap.size→rb≠m.rb→w'.heap[rb]? = w.heap[rb]?) (hos:w'.os=w.os) (ht:w'.tape=w.tape) (hp:w'.output=w.output)
  (ho':o' ≠ .dead→ObjR P ι w' m o') (hro:o'.wr=true∨o' = .dead):St P ι h w ι (h.set b o') w':=by
 have hbl:b<h.length:=(GI.1 hb).1
 have hlive:=LObj.live_of_wr ho
 refine ⟨Sub.refl _,⟨fun x hx => hs.dom x (by simpa using hx),fun x ox hx hn => ?_,hs.glob,?_⟩,hsz,hos,ht,hp,fun rb hl hn => ?_,?_⟩
 ·by_cases e:x=b
  ·subst e
   rw [List.getElem?_set_self hbl] at hx;cases hx
   exact ⟨m,hm,ho' hn⟩
  ·rw [List.getElem?_set_ne (Ne.symm e)] at hx
   obtain ⟨m',hm',hr⟩:=hs.obj x ox hx hn
   exact ⟨m',hm',hr.world (hother _ hr.lt (hs.inj b x o ox m m' hb hx ho hn hm hm' (Ne.symm e)).symm)⟩
 ·intro x y o1 o2 m1 m2 hx hy hw1 hl2 h1 h2 hne
  have back:∀ (z:Nat) (oz:LObj),(h.set b o')[z]? = some oz→oz ≠ .dead→∃ oz':LObj,h[z]? = some oz'∧oz' ≠ .dead∧(oz.wr=true→oz'.wr=true):=by
   intro z oz hz hn
   by_cases e:z=b
   ·subst e;exact ⟨o,hb,hlive,fun _ => ho⟩
   ·rw [List.getElem?_set_ne (Ne.symm e)] at hz;exact ⟨oz,hz,hn,id⟩
  obtain ⟨ox,hx',_,hwx⟩:=back x o1 hx (LObj.live_of_wr hw1)
  obtain ⟨oy,hy',hly,_⟩:=back y o2 hy hl2
  exact hs.inj x y ox oy m1 m2 hx' hy' (hwx hw1) hly h1 h2 hne
 ·refine hother rb hl fun e => hn ⟨b,o,m,hb,ho,hm,e.symm⟩
 ·rintro rb ⟨x,ox,m',hx,hwx,hm',rfl⟩ _
  by_cases e:x=b
  ·subst e;exact ⟨x,o,m',hb,ho,hm',rfl⟩
  ·rw [List.getElem?_set_ne (Ne.symm e)] at hx;exact ⟨x,ox,m',hx,hwx,hm',rfl⟩
theorem Ag6 (hs:Sim P ι h w) {b r:Nat} {ob ob' on:LObj} {mb mn:Img} (hb:h[b]? = some ob) (hobw:ob.wr=true) (hmb:ι b=some mb) (hrb:r≠b) (hr:∀ o,h[r]? = some o→o.wr=true)
  (hsz:w.heap.size≤w'.heap.size) (hother:∀ rb,rb<w.heap.size→rb≠mb.rb→(∀ mr,ι r=some mr→rb≠mr.rb)→w'.heap[rb]? = w.heap[rb]?) (hos:w'.os=w.os) (ht:w'.tape=w.tape) (hp:w'.output=w.output)
  (hmn:(∃ o mr,h[r]? = some o ∧ ι r=some mr∧mn.rb=mr.rb)∨w.heap.size≤mn.rb) (hob:ObjR P (ι.put h.length mn) w' mb ob') (hon:ObjR P (ι.put h.length mn) w' mn on) (hbw:ob'.wr=true) :
  St P ι h w (ι.put h.length mn) ((h.set r .dead).set b ob'++[on]) w':=by
 have hbl:b<h.length:=(GI.1 hb).1
 have hsub:=Inj.put_sub (hs.dom _ (Nat.le_refl _)) mn
 have hlen:((h.set r .dead).set b ob').length=h.length:=by simp
 have hblt:=hs.ltw hb (LObj.live_of_wr hobw) hmb
 have old:∀ x o,((h.set r .dead).set b ob'++[on])[x]? = some o→o ≠ .dead→(x=h.length∧o=on)∨(x=b∧o=ob')∨(x<h.length∧x≠b∧x≠r∧h[x]? = some o):=by
  intro x o hx hn
  rcases Nat.lt_or_ge x h.length with hl | hl
  ·rw [GL (by omega)] at hx
   by_cases e:x=b
   ·subst e;rw [List.getElem?_set_self (by simpa using hbl)] at hx;cases hx;exact .inr (.inl ⟨rfl,rfl⟩)
   ·rw [List.getElem?_set_ne (Ne.symm e)] at hx
    by_cases e2:x=r
    ·subst e2;rw [List.getElem?_set_self hl] at hx;cases hx;exact absurd rfl hn
    ·rw [List.getElem?_set_ne (Ne.symm e2)] at hx;exact .inr (.inr ⟨hl,e,e2,hx⟩)
  ·rw [List.getElem?_append_right (by omega),hlen] at hx
   have:x - h.length=0:=by
    rcases Nat.eq_zero_or_pos (x - h.length) with h0 | h0
    ·exact h0
    ·rw [List.getElem?_eq_none (by simp;omega)] at hx;cases hx
   rw [this] at hx
   simp at hx
   exact .inl ⟨by omega,hx.symm⟩
 have hnb:mn.rb≠mb.rb:=by
  rcases hmn with ⟨o,mr,h1,h2,h3⟩ | h3
  ·have:=hs.inj b r ob o mb mr hb h1 hobw (LObj.live_of_wr (hr o h1)) hmb h2 (Ne.symm hrb)
   rw [h3];exact this.symm
  ·omega
 have hno:∀ x o m,x≠r→h[x]? = some o→o ≠ .dead → ι x=some m→mn.rb≠m.rb:=by
  intro x o m hxr hx hn hm
  rcases hmn with ⟨o2,mr,h1,h2,h3⟩ | h3
  ·rw [h3];exact hs.inj r x o2 o mr m h1 hx (hr o2 h1) hn h2 hm (Ne.symm hxr)
  ·have:=hs.ltw hx hn hm;omega
 refine ⟨hsub,⟨fun x hx => ?_,fun x o hx hn => ?_,fun g hg => let ⟨s,h1⟩:=hs.glob g hg;⟨s,hsub _ _ h1⟩,?_⟩,hsz,hos,ht,hp,fun rb hl hn => ?_,?_⟩
 ·rw [LA,hlen,List.length_singleton] at hx
  rw [Inj.put_ne mn (by omega)];exact hs.dom x (by omega)
 ·rcases old x o hx hn with ⟨rfl,rfl⟩ | ⟨rfl,rfl⟩ | ⟨hl,e1,e2,h1⟩
  ·exact ⟨mn,Inj.put_same _ _ _,hon⟩
  ·exact ⟨mb,hsub _ _ hmb,hob⟩
  ·obtain ⟨m',hm',ho⟩:=hs.obj x o h1 hn
   refine ⟨m',hsub _ _ hm',(ho.world (hother _ ho.lt (hs.inj b x ob o mb m' hb h1 hobw hn hmb hm' (Ne.symm e1)).symm fun mr hmr e => ?_)).sub hsub⟩
   have hrl:=hs.lt hmr
   have hro:=hr h[r] (by simp [hrl])
   exact hs.inj r x h[r] o mr m' (by simp [hrl]) h1 hro hn hmr hm' (Ne.symm e2) e.symm
 ·intro x y o1 o2 m1 m2 hx hy hw1 hl2 h1 h2 hne
  rcases old x o1 hx (LObj.live_of_wr hw1) with ⟨rfl,rfl⟩ | ⟨rfl,rfl⟩ | ⟨hl,e1,e2,h3⟩
  ·rw [Inj.put_same] at h1;cases h1
   rcases old y o2 hy hl2 with ⟨rfl,rfl⟩ | ⟨rfl,rfl⟩ | ⟨hl',e1',e2',h3'⟩
   ·exact absurd rfl hne
   ·rw [Inj.put_ne mn (by omega),hmb] at h2;cases h2;exact hnb
   ·rw [Inj.put_ne mn (by omega)] at h2;exact hno y o2 m2 e2' h3' hl2 h2
  ·rw [Inj.put_ne mn (by omega),hmb] at h1;cases h1
   rcases old y o2 hy hl2 with ⟨rfl,rfl⟩ | ⟨rfl,rfl⟩ | ⟨hl',e1',e2',h3'⟩
   ·rw [Inj.put_same] at h2;cases h2;exact hnb.symm
   ·exact absurd rfl hne
   ·rw [Inj.put_ne mn (by omega)] at h2;exact hs.inj _ y ob o2 mb m2 hb h3' hobw hl2 hmb h2 hne
  ·rw [Inj.put_ne mn (by omega)] at h1
   rcases old y o2 hy hl2 with ⟨rfl,rfl⟩ | ⟨rfl,rfl⟩ | ⟨hl',e1',e2',h3'⟩
   ·rw [Inj.put_same] at h2;cases h2;exact (hno x o1 m1 e2 h3 (LObj.live_of_wr hw1) h1).symm
   ·rw [Inj.put_ne mn (by omega),hmb] at h2;cases h2;exact hs.inj x _ o1 ob m1 mb h3 hb hw1 (LObj.live_of_wr hobw) h1 hmb hne
   ·rw [Inj.put_ne mn (by omega)] at h2;exact hs.inj x y o1 o2 m1 m2 h3 h3' hw1 hl2 h1 h2 hne
 ·refine hother rb hl (fun e => hn ⟨b,ob,mb,hb,hobw,hmb,e.symm⟩) fun mr hmr e => ?_
  have hrl:=hs.lt hmr
  exact hn ⟨r,h[r],mr,by simp [hrl],hr h[r] (by simp [hrl]),hmr,e.symm⟩
 ·rintro rb ⟨x,o,m',hx,hw1,hm',rfl⟩ hl
  rcases old x o hx (LObj.live_of_wr hw1) with ⟨rfl,rfl⟩ | ⟨rfl,rfl⟩ | ⟨hl',e1,e2,h3⟩
  ·rw [Inj.put_same] at hm';cases hm'
   rcases hmn with ⟨o2,mr,h1,h2,h3⟩ | h3
   ·exact ⟨r,o2,mr,h1,hr o2 h1,h2,h3.symm⟩
   ·omega
  ·rw [Inj.put_ne mn (by omega),hmb] at hm';cases hm'
   exact ⟨_,ob,mb,hb,hobw,hmb,rfl⟩
  ·rw [Inj.put_ne mn (by omega)] at hm'
   exact ⟨x,o,m',h3,hw1,hm',rfl⟩
end
theorem Yn (s:ByteArray):Lib.strCells s=s.data.toList.map fun x => Value.int .u8 x.toNat:=rfl
theorem Aez (s:ByteArray):s.data.toList.length=s.size:=by rw [Array.length_toList];rfl
theorem A2u (L:WsL P ρ) (X:Builder.Extra P ρ) (hB:Ax3 P=some (ρ.t 72)) (hY:Ax0 P=some (ρ.t 5)):Ac0 P (ρ.f 166) wsE:=by
 intro args h v h' ws hv F n hW ι w args' hs ha
 unfold wsE at hv
 split at hv<;>try (cases hv;done)
 rename_i b s
 obtain ⟨p',q1,rfl,hpr,ha⟩:∃ p' q1,args'=p' :: q1∧VR ι (.pointer (some ⟨b,0,none⟩)) p'∧VRs ι [.string s] q1:=by cases ha with | cons a b => exact ⟨_,_,rfl,a,b⟩
 obtain ⟨s',q2,rfl,hsr,ha⟩:∃ s' q2,q1=s' :: q2∧VR ι (.string s) s'∧VRs ι [] q2:=by cases ha with | cons a b => exact ⟨_,_,rfl,a,b⟩
 cases ha
 cases hsr
 obtain ⟨m,hm,rfl⟩:∃ m,ι b=some m∧p' = .pointer (some ⟨m.rb,m.off+0,none⟩):=by cases hpr with | ptr off h => exact ⟨_,h,rfl⟩
 have hres:∀ {ι':Inj},VR ι' (.tuple #[.int .i64 (s.size:Nat),.nilIface]) (.tuple #[.int .i64 (s.size:Nat),.nilIface]):=VR.tuple (a:=[.int .i64 (s.size:Nat),.nilIface]) (.cons (.int _ _) (.cons .nili .nil))
 have hold:∀ (mn:Img),Old ι h (ι.put h.length mn):=fun mn => Old.put _ _ _
 split at hv<;>try (cases hv;done)
 ·rename_i hbk
  obtain ⟨m',hm',hobj⟩:=hs.obj b _ hbk (by simp)
  rw [hm] at hm';cases hm'
  cases hobj with
  | @bld p v0 T _ hw hT hmo hp hvv =>
   have hTT:T = ρ.t 72:=Option.some.inj (hT.symm.trans hB)
   subst hTT
   have hv0:v0 = .slice none 0 0:=hvv
   subst hv0
   rw [hmo]
   split at hv
   ·rename_i hs0
    simp only [OI,Prod.mk.injEq] at hv
    obtain ⟨rfl,rfl,rfl⟩:=hv
    refine I6 hW ((As7 L X s w hw hp (by omega)).mono fun e w' hr => ?_)
    obtain ⟨rfl,v',h1,_,h3,h4,h5,h6,h7,h8⟩:=hr
    have:=h3.2 hs0
    subst this
    exact ⟨ι,_,rfl,Atw hs hbk rfl hm h4 h5 h6 h7 h8 (fun _ => .bld h1 hB hmo (.inr rfl) rfl) (.inl rfl),Old.refl _ _,hres⟩
   ·rename_i hs0
    split at hv<;>try (cases hv;done)
    rename_i hs1
    simp only [OI,Prod.mk.injEq] at hv
    obtain ⟨rfl,rfl,rfl⟩:=hv
    refine I6 hW ((As7 L X s w hw hp hs1).mono fun e w' hr => ?_)
    obtain ⟨rfl,v',h1,h2,h3,h4,h5,h6,h7,h8⟩:=hr
    rcases h2 with ⟨h2,_⟩ | ⟨g',cap',cur',rfl,k1,k2,k3,k4,k5,k6⟩
    ·exact absurd h2 hs0
    ·have hlen:s.data.toList.length=s.size:=Aez s
     have st:=Ag6 (P:=P) (w':=w') (r:=h.length) (ob':=.bld (some (h.length,s.size))) (on:=.bytes s.data.toList) (mn:=⟨g',0,cap'⟩) hs hbk rfl hm (by have:=hs.lt hm;omega) (fun o ho => by rw [List.getElem?_eq_none (Nat.le_refl _)] at ho;cases ho) h4 (fun rb hl h9 _ => h5 rb hl h9) h6 h7 h8 (.inr k6)
      (.bld h1 hB hmo (.inr rfl) ⟨⟨g',0,cap'⟩,Inj.put_same _ _ _,rfl,rfl⟩) (.bytes k1 hY ⟨rfl,k2⟩ ⟨by omega,by omega⟩ (by rw [hlen,k5,Yn])) rfl
     rw [List.set_eq_of_length_le (Nat.le_refl _)] at st
     exact ⟨_,_,rfl,st,hold _,hres⟩
 ·rename_i r k hbk
  obtain ⟨m',hm',hobj⟩:=hs.obj b _ hbk (by simp)
  rw [hm] at hm';cases hm'
  split at hv<;>try (cases hv;done)
  rename_i c hrk
  split at hv<;>try (cases hv;done)
  rename_i hc
  obtain ⟨hc1,hc3,hc4⟩:=hc
  simp only [OI,Prod.mk.injEq] at hv
  obtain ⟨rfl,rfl,rfl⟩:=hv
  obtain ⟨mr,hmr,hrobj⟩:=hs.obj r _ hrk (by simp)
  cases hobj with
  | @bld p v0 T _ hw hT hmo hp hvv =>
   have hTT:T = ρ.t 72:=Option.some.inj (hT.symm.trans hB)
   subst hTT
   obtain ⟨mr',hmr',hro,rfl⟩:=hvv
   rw [hmr] at hmr';cases hmr'
   rw [hmo]
   cases hrobj with
   | @bytes _ arr T hw2 hT2 hm2 hl2 hcc =>
    have hTT:T = ρ.t 5:=Option.some.inj (hT2.symm.trans hY)
    subst hTT
    have hne:mr.rb≠m.rb:=(hs.inj b r _ _ m mr hbk hrk rfl (by simp) hm hmr (Ne.symm hc3)).symm
    refine I6 hW ((A2t L X s w hw hp hw2 hm2.2 (by omega) (by omega) hc4 hne).mono fun e w' hr => ?_)
    obtain ⟨rfl,g',cap',cur',h1,k1,k2,k3,k4,k5,k6,h4,h5,h6,h7,h8⟩:=hr
    have hlen:s.data.toList.length=s.size:=Aez s
    have st:=Ag6 (P:=P) (w':=w') (r:=r) (ob':=.bld (some (h.length,k+s.size))) (on:=.bytes (c++s.data.toList)) (mn:=⟨g',0,cap'⟩) hs hbk rfl hm hc3 (fun o ho => by rw [hrk] at ho;cases ho;rfl) h4 (fun rb hl h9 h10 => h5 rb hl h9 (h10 mr hmr)) h6 h7 h8
     (by rcases k6 with k6 | k6;exact .inl ⟨_,mr,hrk,hmr,k6⟩;exact .inr k6)
     (.bld h1 hB hmo (.inr rfl) ⟨⟨g',0,cap'⟩,Inj.put_same _ _ _,rfl,rfl⟩) (.bytes k1 hY ⟨rfl,k2⟩ ⟨by rw [LA];omega,by omega⟩ (by rw [LA,hc1,hlen,k5,← hc1,hcc,List.map_append,Yn])) rfl
    exact ⟨_,_,rfl,st,hold _,hres⟩
theorem Azk (L:Lays.n169 P ρ) (X:Builder.Extra P ρ) (hB:Ax3 P=some (ρ.t 72)) (hY:Ax0 P=some (ρ.t 5)):Ac0 P (ρ.f 169) Aq2:=by
 intro args h v h' ws hv F n hW ι w args' hs ha
 unfold Aq2 at hv
 split at hv<;>try (cases hv;done)
 rename_i b
 obtain ⟨p',q1,rfl,hpr,ha⟩:∃ p' q1,args'=p' :: q1∧VR ι (.pointer (some ⟨b,0,none⟩)) p'∧VRs ι [] q1:=by cases ha with | cons a b => exact ⟨_,_,rfl,a,b⟩
 cases ha
 obtain ⟨m,hm,rfl⟩:∃ m,ι b=some m∧p' = .pointer (some ⟨m.rb,m.off+0,none⟩):=by cases hpr with | ptr off h => exact ⟨_,h,rfl⟩
 split at hv<;>try (cases hv;done)
 ·rename_i hbk
  simp only [OI,Prod.mk.injEq] at hv
  obtain ⟨rfl,rfl,rfl⟩:=hv
  obtain ⟨m',hm',hobj⟩:=hs.obj b _ hbk (by simp)
  rw [hm] at hm';cases hm'
  cases hobj with
  | @bld p v0 T _ hw hT hmo hp hvv =>
   have hTT:T = ρ.t 72:=Option.some.inj (hT.symm.trans hB)
   subst hTT
   have hv0:v0 = .slice none 0 0:=hvv
   subst hv0
   rw [hmo]
   refine I6 hW ((Azj L X w hw).mono fun e w' hr => ?_)
   obtain ⟨rfl,rfl⟩:=hr
   exact ⟨ι,_,rfl,St.quiet hs (Quiet.drew w),Old.refl _ _,.string _⟩
 ·rename_i r k hbk
  obtain ⟨m',hm',hobj⟩:=hs.obj b _ hbk (by simp)
  rw [hm] at hm';cases hm'
  split at hv<;>try (cases hv;done)
  rename_i c hrk
  split at hv<;>try (cases hv;done)
  rename_i hc
  obtain ⟨hc1,hc2⟩:=hc
  simp only [OI,Prod.mk.injEq] at hv
  obtain ⟨rfl,rfl,rfl⟩:=hv
  obtain ⟨mr,hmr,hrobj⟩:=hs.obj r _ hrk (by simp)
  cases hobj with
  | @bld p v0 T _ hw hT hmo hp hvv =>
   have hTT:T = ρ.t 72:=Option.some.inj (hT.symm.trans hB)
   subst hTT
   obtain ⟨mr',hmr',hro,rfl⟩:=hvv
   rw [hmr] at hmr';cases hmr'
   rw [hmo]
   cases hrobj with
   | @bytes _ arr T hw2 hT2 hm2 hl2 hcc =>
    have hTT:T = ρ.t 5:=Option.some.inj (hT2.symm.trans hY)
    subst hTT
    subst hc1
    refine I6 hW ((Azi L X c w hw hw2 hm2.2 (by omega) (by omega) hcc (fun e => hc2 (by rw [e];rfl))).mono fun e w' hr => ?_)
    obtain ⟨rfl,rfl⟩:=hr
    obtain ⟨f1,f2,f3,f4,f5⟩:=Aj1 (w:=w) (g:=mr.rb) (n:=c.length)
    exact ⟨ι,_,rfl,Atw hs hrk rfl hmr (by omega) (fun rb hl h9 => f1 rb h9) f3 f4 f5 (fun hd => absurd rfl hd) (.inr rfl),Old.refl _ _,.string _⟩
end Go.L.Try
namespace Go.L.Try
open Go Go.L Go.Shelf Go.Proofs Go.RowKit
variable {P:Program} {ρ : Ren}
def Am0:List Value→Option (List ByteArray)
 | [] => some []
 | .string s :: r => (Am0 r).map (s :: ·)
 | _ => none
def A6m (args:List Value) (h:Aa):Option (Value × Aa × List Nat) :=
 match args with
 | [.slice none n c,.string sep] => if n=0 then some (.string ⟨#[]⟩,h,[]) else none
 | [.slice (some a) n c,.string sep] =>
  if n=0∨140737488355328<n∨c<n then none else
  match h[a.block]? with
  | some (.cells cs ro) =>
   match Am0 ((cs.drop a.off).take n) with
   | some xs => if xs.length=n∧(Lib.join (xs.map (·.data.toList)) sep.data.toList).length≤140737488355328 then some (.string ⟨(Lib.join (xs.map (·.data.toList)) sep.data.toList).toArray⟩,h,[]) else none
   | none => none
  | _ => none
 | _ => none
def A34 (n:Nat):List UInt8:=if n<10 then [UInt8.ofNat (48+n)] else [UInt8.ofNat (48+n / 10),UInt8.ofNat (48+n % 10)]
theorem A0y {n:Nat} (h:n<100):Lib.decDigits n=A34 n:=by
 unfold Lib.decDigits A34
 split
 ·rfl
 ·unfold Lib.decDigits
  rw [dif_pos (by omega)];rfl
def Asa (args:List Value) (h:Aa):Option (Value × Aa × List Nat) :=
 match args with
 | [.int .i64 n,.int .i64 10] => if 0≤n∧n<100 then some (.string ⟨(A34 n.toNat).toArray⟩,h,[]) else none
 | _ => none
theorem Ar9 {args:List Value} {h h':Aa} {v:Value} {ws:List Nat} (hv:Asa args h=some (v,h',ws)):h'=h∧ws=[]:=by
 unfold Asa at hv
 split at hv<;>try (cases hv;done)
 split at hv<;>try (cases hv;done)
 simp only [OI,Prod.mk.injEq] at hv
 exact ⟨hv.2.1.symm,hv.2.2.symm⟩
theorem A0x (L:Lays.n173 P ρ):Ac0 P (ρ.f 173) Asa:=by
 intro args h v h' ws hv F n hW ι w args' hs ha
 unfold Asa at hv
 split at hv<;>try (cases hv;done)
 rename_i k
 split at hv<;>try (cases hv;done)
 rename_i hk
 simp only [OI,Prod.mk.injEq] at hv
 obtain ⟨rfl,rfl,rfl⟩:=hv
 cases ha with
 | cons r1 t1 =>
  cases t1 with
  | cons r2 t2 =>
   cases t2
   cases r1
   cases r2
   obtain ⟨x,rfl⟩:=Int.eq_ofNat_of_zero_le hk.1
   refine I6 hW ((Any.strconv_FormatInt_10_small L x (by omega) w).mono fun e w' hr => ?_)
   obtain ⟨rfl,rfl⟩:=hr
   exact ⟨ι,_,rfl,St.refl hs,Old.refl _ _,by rw [show ((x:Int)).toNat=x by omega,← A0y (by omega:x<100)];exact VR.string _⟩
end Go.L.Try
