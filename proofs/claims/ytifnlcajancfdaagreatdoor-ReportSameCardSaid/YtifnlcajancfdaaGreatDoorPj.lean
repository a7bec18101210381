/- NUMBERS OF 64 BITS: math/bits.Mul64, num.Mul. -/
import Derived.Test.YtifnlcajancfdaaGreatDoorCode
import Derived.Test.YtifnlcajancfdaaGreatDoorPa
import Derived.Test.YtifnlcajancfdaaGreatDoorPc
import Derived.Test.YtifnlcajancfdaaGreatDoorVb
import Derived.Lib.TrailingZeros
import Derived.Test.YtifnlcajancfdaaGreatDoorVc
set_option linter.unusedVariables false
set_option linter.unusedSimpArgs false
set_option maxRecDepth 100000
namespace Go.L.Try
open Go Go.L
variable {E:Env}
def A0 (x:Int):Prop:=0≤x∧x<18446744073709551616
theorem Asu {q:EqK} {a:Int} (h1:0≤a) (h2:a<18446744073709551616):binOp .and q (.int .u64 a) (.int .u64 4294967295)=some (.int .u64 (a % 4294967296)):=by
 obtain ⟨n,rfl⟩:=Int.eq_ofNat_of_zero_le h1
 have hn:n<18446744073709551616:=by omega
 have e:((BitVec.ofInt 64 (n:Int)) &&& (BitVec.ofInt 64 4294967295)).toNat=n % 4294967296:=by
  have e1:BitVec.ofInt 64 (n:Int)=BitVec.ofNat 64 n:=by simp
  have e2:BitVec.ofInt 64 4294967295=BitVec.ofNat 64 4294967295:=by decide
  rw [e1,e2,BitVec.toNat_and,BitVec.toNat_ofNat,BitVec.toNat_ofNat,Nat.mod_eq_of_lt hn]
  exact Nat.and_two_pow_sub_one_eq_mod n 32
 have e3:binOp .and q (.int .u64 (n:Int)) (.int .u64 4294967295)=some (.int .u64 (IntKind.u64.wrap (((BitVec.ofInt 64 (n:Int)) &&& (BitVec.ofInt 64 4294967295)).toNat:Nat))):=by simp only [binOp,Fe,if_true];rfl
 rw [e3,e,Pc (by omega) (by omega)];simp
theorem Ast {q:EqK} {a:Int} (h1:0≤a):binOp .shr q (.int .u64 a) (.int .u64 32)=some (.int .u64 (a / 4294967296)):=by
 simp only [binOp,Fe]
 rw [if_neg (by decide),Int.fdiv_eq_ediv_of_nonneg _ (by decide)];rfl
theorem Agx {x:Int}:IntKind.u64.wrap x=x % 18446744073709551616:=by simp [IntKind.wrap,IntKind.bits,IntKind.signed]
theorem Awe (a b:Int) (ha:A0 a) (hb:A0 b) :
  let a0:=a % 4294967296;let a1:=a / 4294967296;let b0:=b % 4294967296;let b1:=b / 4294967296
  (0≤a0 * b0∧a0 * b0≤18446744065119617025)∧(0≤a1 * b0∧a1 * b0≤18446744065119617025)∧(0≤a0 * b1∧a0 * b1≤18446744065119617025)∧(0≤a1 * b1∧a1 * b1≤18446744065119617025) ∧
  a * b=a1 * b1 * 18446744073709551616+(a1 * b0+a0 * b1) * 4294967296+a0 * b0:=by
 intro a0 a1 b0 b1
 unfold A0 at ha hb
 have k:∀ x y:Int,0≤x→x≤4294967295→0≤y→y≤4294967295→0≤x * y∧x * y≤18446744065119617025:=fun x y h1 h2 h3 h4 =>
  ⟨Int.mul_nonneg h1 h3,by have:=Int.mul_le_mul h2 h4 h3 (by decide:(0:Int)≤4294967295);omega⟩
 have ha0:0≤a0∧a0≤4294967295:=by omega
 have ha1:0≤a1∧a1≤4294967295:=by omega
 have hb0:0≤b0∧b0≤4294967295:=by omega
 have hb1:0≤b1∧b1≤4294967295:=by omega
 refine ⟨k _ _ ha0.1 ha0.2 hb0.1 hb0.2,k _ _ ha1.1 ha1.2 hb0.1 hb0.2,k _ _ ha0.1 ha0.2 hb1.1 hb1.2,k _ _ ha1.1 ha1.2 hb1.1 hb1.2,?_⟩
 have ea:a=a1 * 4294967296+a0:=by omega
 have eb:b=b1 * 4294967296+b0:=by omega
 generalize a0=x0 at *
 generalize a1=x1 at *
 generalize b0=y0 at *
 generalize b1=y1 at *
 subst ea eb
 grind
theorem A43 (hE:Aw E) (h:Aa) {a b:Int} (ha:A0 a) (hb:A0 b) :
  callW E (.func (.func Ea) #[] #[]) [.int .u64 a,.int .u64 b] h=some (.tuple #[.int .u64 (a * b / 18446744073709551616),.int .u64 (a * b % 18446744073709551616)],h,[]):=by
 have hp:=Awe a b ha hb
 dsimp only at hp
 obtain ⟨h00,h10,h01,h11,he⟩:=hp
 have He:=Hid.mk he
 unfold A0 at ha hb
 clear he
 have m0:=Int.emod_nonneg a (by decide:(4294967296:Int)≠0)
 have m1:=Int.emod_nonneg b (by decide:(4294967296:Int)≠0)
 refine Am hE.Zm rfl (by simp) ?_
 simp only [Ak]
 (repeat' simp -dsimp (disch:=omega) only [↓EA,EB,Nat.reduceEqDiff,↓reduceIte,reduceCtorEq,eq_self, *,Asu,Ast,Agx])
 rw [He.out]
 generalize a / 4294967296 * (b / 4294967296)=p11 at *
 generalize a / 4294967296 * (b % 4294967296)=p10 at *
 generalize a % 4294967296 * (b / 4294967296)=p01 at *
 generalize a % 4294967296 * (b % 4294967296)=p00 at *
 have e:p11+(p10+p00 / 4294967296) / 4294967296+((p10+p00 / 4294967296) % 4294967296+p01) / 4294967296=(p11 * 18446744073709551616+(p10+p01) * 4294967296+p00) / 18446744073709551616:=by omega
 rw [e]
theorem A3m (hE:Aw E) (h:Aa) {a b:Int} (ha:A0 a) (hb:A0 b) :
  callW E (.func (.func Pi) #[] #[]) [.int .u64 a,.int .u64 b] h=some (if a * b<18446744073709551616 then .tuple #[.int .u64 (a * b),.bool true] else .tuple #[.int .u64 0,.bool false],h,[]):=by
 have hmul:=A43 hE h ha hb
 have hpos:0≤a * b:=Int.mul_nonneg ha.1 hb.1
 generalize a * b=c at *
 refine Am hE.A0a rfl (by simp) ?_
 simp only [Ak]
 have hm:c<18446744073709551616→c % 18446744073709551616=c:=fun h => by omega
 have Hm:=Hid.mk hm
 clear hm
 (repeat' (first | (with_reducible refine A3 (fun _ => ?_) (fun _ => ?_)<;>try (exfalso;omega)) | simp -dsimp (disch:=omega) only [↓EA,EB,Nat.reduceEqDiff,↓reduceIte,reduceCtorEq,eq_self, *]))
 ·rw [if_neg (by omega)];exact ⟨rfl,rfl⟩
 ·rw [if_pos (by omega),Hm.out (by omega)];exact ⟨rfl,rfl⟩
end Go.L.Try
namespace Go.L.Try
open Go Go.L
variable {E:Env}
def sat (x:Int):Int:=if x<18446744073709551616 then x else 18446744073709551615
theorem Apy {a b:Int} (ha:0≤a) (hb:0<b):(a+b - 1) / b=if 0<a % b then a / b+1 else a / b:=by
 have h:=Int.emod_add_mul_ediv a b
 have h1:=Int.emod_nonneg a (by omega:b≠0)
 have h2:=Int.emod_lt_of_pos a hb
 split
 ·have e:a+b - 1=(a % b - 1)+b * (a / b+1):=by rw [Int.mul_add,Int.mul_one];omega
  rw [e,Int.add_mul_ediv_left _ _ (by omega),Int.ediv_eq_zero_of_lt (by omega) (by omega)];omega
 ·have e:a+b - 1=(b - 1)+b * (a / b):=by omega
  rw [e,Int.add_mul_ediv_left _ _ (by omega),Int.ediv_eq_zero_of_lt (by omega) (by omega)];omega
theorem A0c (hE:Aw E) (h:Aa) {a b:Int} (ha:A0 a) (hb:A0 b) :
  callW E (.func (.func Nd) #[] #[]) [.int .u64 a,.int .u64 b] h=some (if b=0 then .tuple #[.int .u64 0,.bool false] else .tuple #[.int .u64 ((a+b - 1) / b),.bool true],h,[]):=by
 unfold A0 at ha hb
 refine Am hE.Av0 rfl (by simp) ?_
 have hq:a.tdiv b=a / b:=Int.tdiv_eq_ediv_of_nonneg ha.1
 have hm:a.tmod b=a % b:=Int.tmod_eq_emod_of_nonneg ha.1
 have hbound:0≤a / b∧a / b≤a:=⟨Int.ediv_nonneg ha.1 hb.1,Int.ediv_le_self b ha.1⟩
 have hmb:0<b→0≤a % b∧a % b<b:=fun h => ⟨Int.emod_nonneg a (by omega),Int.emod_lt_of_pos a h⟩
 have Hce:=Hid.mk (fun h => Apy (a:=a) (b:=b) ha.1 h)
 have h64:(a / b) % 18446744073709551616=a / b:=Int.emod_eq_of_lt hbound.1 (by omega)
 have Hlt:Hid (0<a % b→0<b→a / b+1<18446744073709551616):=⟨fun h1 h2 => by
  by_cases h3:b<2
  ·have:b=1:=by omega
   subst this;simp at h1
  ·have e1:=Int.mul_le_mul_of_nonneg_left (show (2:Int)≤b by omega) hbound.1
   have e2:=Int.ediv_mul_le a (show b≠0 by omega)
   omega⟩
 simp only [Ak]
 (repeat' (first | (with_reducible refine A3 (fun _ => ?_) (fun _ => ?_)<;>try (exfalso;omega)) | simp -dsimp (disch:=omega) only [↓EA,EB,Nat.reduceEqDiff,↓reduceIte,reduceCtorEq,eq_self, *,Agx]))
 ·rw [Hce.out (by omega),if_pos (by omega),Int.emod_eq_of_lt (by omega) (Hlt.out (by omega) (by omega))]
 ·rw [Hce.out (by omega),if_neg (by omega)]
end Go.L.Try
namespace Go.L.Try
open Go Go.L
variable {E:Env}
def Aki:List Value→Aa→Option (Value × Aa × List Nat)
 | [.int .u64 a,.int .u64 b,.int .u64 c],h => if (0≤a∧a<18446744073709551616)∧(0≤b∧b<18446744073709551616)∧0≤c∧c≤1 then some (.tuple #[.int .u64 ((a+b+c) % 18446744073709551616),.int .u64 ((a+b+c) / 18446744073709551616)],h,[]) else none
 | _,_ => none
structure Id (E:Env):Prop where
 add64:E Eb = .ext Aki
theorem Aex {g:FuncId} {e:List Value→Aa→Option (Value × Aa × List Nat)} (hf:E g = .ext e) (args:List Value) (h:Aa):callW E (.func (.func g) #[] #[]) args h=e args h:=by
 rw [Nn];simp [J4,hf,Fz]
theorem add64 (hX:Id E) (h:Aa) {a b:Int} (ha:A0 a) (hb:A0 b) :
  callW E (.func (.func Eb) #[] #[]) [.int .u64 a,.int .u64 b,.int .u64 0] h=some (.tuple #[.int .u64 ((a+b) % 18446744073709551616),.int .u64 ((a+b) / 18446744073709551616)],h,[]):=by
 rw [Aex hX.add64]
 unfold A0 at ha hb
 simp only [Aki]
 rw [if_pos ⟨ha,hb,by decide,by decide⟩,Int.add_zero]
theorem A3n (hE:Aw E) (hX:Id E) (h:Aa) {a b:Int} (ha:A0 a) (hb:A0 b) :
  callW E (.func (.func Pj) #[] #[]) [.int .u64 a,.int .u64 b] h=some (if a+b<18446744073709551616 then .tuple #[.int .u64 (a+b),.bool true] else .tuple #[.int .u64 0,.bool false],h,[]):=by
 have hadd:=add64 hX h ha hb
 unfold A0 at ha hb
 refine Am hE.A0b rfl (by simp) ?_
 simp only [Ak]
 have hm:a+b<18446744073709551616→(a+b) % 18446744073709551616=a+b:=fun h => by omega
 have Hm:=Hid.mk hm
 clear hm
 (repeat' (first | (with_reducible refine A3 (fun _ => ?_) (fun _ => ?_)<;>try (exfalso;omega)) | simp -dsimp (disch:=omega) only [↓EA,EB,Nat.reduceEqDiff,↓reduceIte,reduceCtorEq,eq_self, *]))
 ·rw [if_neg (by omega)];exact ⟨rfl,rfl⟩
 ·rw [if_pos (by omega),Hm.out (by omega)];exact ⟨rfl,rfl⟩
theorem Av1 (hE:Aw E) (h:Aa) {a b:Int} (ha:A0 a) (hb:A0 b) :
  callW E (.func (.func Lo) #[] #[]) [.int .u64 a,.int .u64 b] h=some (.int .u64 (sat (a * b)),h,[]):=by
 have hmul:=A3m hE h ha hb
 unfold sat
 refine Am hE.Art rfl (by simp) ?_
 simp only [Ak]
 by_cases hc:a * b<18446744073709551616
 ·rw [if_pos hc] at hmul
  rw [if_pos hc]
  (repeat' simp -dsimp (disch:=omega) only [↓EA,EB,Nat.reduceEqDiff,↓reduceIte,reduceCtorEq,eq_self, *])
 ·rw [if_neg hc] at hmul
  rw [if_neg hc]
  (repeat' simp -dsimp (disch:=omega) only [↓EA,EB,Nat.reduceEqDiff,↓reduceIte,reduceCtorEq,eq_self, *])
theorem R7 {x:Int} (h:0≤x):A0 (sat x):=by unfold sat A0;split<;>omega
def Asd (n:Int):List Value:=[.int .u64 n]
def sumU (s:Int) (l:List Int):Int:=l.foldl (fun s x => sat (s+x)) s
theorem Am2:∀ {l:List Int} {s:Int},A0 s→(∀ x∈l,A0 x)→A0 (sumU s l)
 | [],s,h,_ => h
 | x :: l,s,h,hl => Am2 (l:=l) (R7 (by have:=(hl x (by simp)).1;have:=h.1;omega)) fun y hy => hl y (by simp [hy])
theorem Adu:∀ {l:List Int},(∀ x∈l,A0 x)→sumU 18446744073709551615 l=18446744073709551615
 | [],_ => rfl
 | x :: l,hl => by
  have hx:=(hl x (by simp)).1
  have e:sat (18446744073709551615+x)=18446744073709551615:=by unfold sat;split<;>omega
  show sumU (sat (18446744073709551615+x)) l=_
  rw [e];exact Adu fun y hy => hl y (by simp [hy])
theorem Aly (hE:Aw E) (hX:Id E) {h:Aa} {vl:Value} {l:List Int} {s:Int} (hl:Rd 1 Asd h vl l) (hs:A0 s) (hin:∀ x∈l,A0 x) :
  callW E (.func (.func Jg) #[] #[]) [.int .u64 s,vl] h=some (.int .u64 (sumU s l),h,[]):=by
 refine Am hE.Az9 rfl (by simp) ?_
 have few:=hl.few
 simp only [Ak]
 (repeat' simp -dsimp (disch:=omega) only [↓EA,EB,Nat.reduceEqDiff,↓reduceIte,reduceCtorEq,eq_self, *,hl.len])
 refine WO.loop (fun n fr h' => h'=h∧n≤l.length∧get fr 0 = .int .u64 (sumU s (l.take n))∧get fr 9=vl∧get fr 10 = .int .i64 l.length∧get fr 11 = .int .i64 n) (fun n => l.length - n) ?_ 0 ⟨rfl,Nat.zero_le _,rfl,rfl,rfl,rfl⟩
 rintro n fr h' ⟨rfl,hn,g0,g9,g10,g11⟩
 have hsn:A0 (sumU s (l.take n)):=Am2 hs fun x hx => hin x (List.mem_of_mem_take hx)
 unfold Wz
 rcases Nat.lt_or_ge n l.length with hlt | hge
 ·have hat:A0 (atI l (n:Int)):=hin _ (Aj (by omega) (by omega))
  have hadd:=fun hh => A3n hE hX hh hsn hat
  have hst:sumU s (l.take (n+1))=sat (sumU s (l.take n)+atI l (n:Int)):=by rw [take_snoc hlt];simp [sumU]
  have hfin:¬ sumU s (l.take n)+atI l (n:Int)<18446744073709551616→sumU s l=18446744073709551615:=fun hc => by
   have e:l=l.take (n+1)++l.drop (n+1):=(List.take_append_drop _ _).symm
   have e2:sumU s l=sumU (sumU s (l.take (n+1))) (l.drop (n+1)):=by
    unfold sumU
    rw [← List.foldl_append,← e]
   rw [e2,hst,show sat (sumU s (l.take n)+atI l (n:Int))=18446744073709551615 by unfold sat;rw [if_neg hc]]
   exact Adu fun x hx => hin x (List.mem_of_mem_drop hx)
  have Hst:=Hid.mk hst
  have Hfin:=Hid.mk hfin
  clear hst hfin
  generalize sumU s (l.take n)=S at *
  by_cases hc:S+atI l (n:Int)<18446744073709551616
  ·simp only [if_pos hc] at hadd
   (repeat' (first | (with_reducible refine A3 (fun _ => ?_) (fun _ => ?_)<;>try (exfalso;omega)) | simp -dsimp (disch:=omega) only [↓EA,EB,Nat.reduceEqDiff,↓reduceIte,reduceCtorEq,eq_self, *,hl.ixs,hl.ld0,Asd]))
   refine Next.mk (n+1) ⟨rfl,by omega,?_,rfl,rfl,rfl⟩ (by omega)
   rw [Hst.out];unfold sat;rw [if_pos hc];rfl
  ·simp only [if_neg hc] at hadd
   (repeat' (first | (with_reducible refine A3 (fun _ => ?_) (fun _ => ?_)<;>try (exfalso;omega)) | simp -dsimp (disch:=omega) only [↓EA,EB,Nat.reduceEqDiff,↓reduceIte,reduceCtorEq,eq_self, *,hl.ixs,hl.ld0,Asd]))
   rw [Hfin.out hc]
 ·have e:l.take n=l:=List.take_of_length_le (by omega)
  rw [e] at g0
  (repeat' (first | (with_reducible refine A3 (fun _ => ?_) (fun _ => ?_)<;>try (exfalso;omega)) | simp -dsimp (disch:=omega) only [↓EA,EB,Nat.reduceEqDiff,↓reduceIte,reduceCtorEq,eq_self, *]))
end Go.L.Try
set_option maxHeartbeats 1000000
namespace Go.L.Try
open Go Go.L
variable {E:Env}
def isP (l:List Ab) (i:Int):Bool:=decide ((Da l).2=0∧0≤i∧i<l.length)
def Ja (l:List Ab) (i:Int):Nat→Int
 | 0 => 0
 | k+1 => if (atI l i).P<(atI l (k:Int)).P then max (Ja l i k) ((atI l (k:Int)).Q - 1) else Ja l i k
def oftenP (t:Ab) (w:Int):Int:=(sat (w+t.J)+t.T - 1) / t.T
def Ee (l:List Ab) (i w:Int):Nat→Int
 | 0 => 0
 | k+1 => if (atI l (k:Int)).P<(atI l i).P then sat (Ee l i w k+sat (oftenP (atI l (k:Int)) w * (atI l (k:Int)).C)) else Ee l i w k
def blockP (l:List Ab) (i:Int):Int:=if isP l i then Ja l i l.length else 0
def higherP (l:List Ab) (i w:Int):Int:=if isP l i∧0<w then Ee l i w l.length else 0
def Ce (l:List Ab) (i w:Int):Int:=if isP l i then sumU 0 [(atI l i).C,blockP l i,higherP l i w] else 0
theorem E8 {l:List Ab} {i:Int} (h:isP l i=true):(0≤i∧i<l.length)∧l.length≤1024∧∀ t∈l,Cr t:=by
 unfold isP at h
 have h:=of_decide_eq_true h
 exact ⟨h.2,(Bc h.1).2⟩
theorem P4 {l:List Ab} (hok:∀ t∈l,Cr t) (i:Int):∀ k:Nat,k≤l.length→0≤Ja l i k∧Ja l i k≤2147483647
 | 0,_ => by simp [Ja]
 | k+1,hk => by
  have ih:=P4 hok i k (by omega)
  have ht:=(hok _ (Aj (l:=l) (i:=(k:Int)) (by omega) (by omega))).1
  simp only [Ap] at ht
  unfold Ja
  split<;>omega
theorem Iw {t:Ab} (ht:Cr t):(1≤t.C∧t.C≤2147483647)∧(1≤t.T∧t.T≤2147483647)∧(0≤t.J∧t.J≤2147483647):=by
 have:=ht.1;simp only [Ap] at this;omega
theorem V6 {t:Ab} (ht:Cr t) {w:Int} (hw:A0 w):A0 (sat (w+t.J))∧A0 (oftenP t w):=by
 obtain ⟨_,hT,hJ⟩:=Iw ht
 have h1:A0 (sat (w+t.J)):=R7 (by have:=hw.1;omega)
 refine ⟨h1,?_⟩
 unfold oftenP
 generalize sat (w+t.J)=x at *
 unfold A0 at *
 have e:=Apy (a:=x) (b:=t.T) h1.1 (by omega)
 have b1:0≤x / t.T∧x / t.T≤x:=⟨Int.ediv_nonneg h1.1 (by omega),Int.ediv_le_self t.T h1.1⟩
 rw [e]
 split
 ·rename_i hc
  by_cases h3:t.T<2
  ·have:t.T=1:=by omega
   rw [this] at hc;simp at hc
  ·have e1:=Int.mul_le_mul_of_nonneg_left (show (2:Int)≤t.T by omega) b1.1
   have e2:=Int.ediv_mul_le x (show t.T≠0 by omega)
   omega
 ·omega
theorem U3 {l:List Ab} (hok:∀ t∈l,Cr t) {i w:Int} (hw:A0 w):∀ k:Nat,k≤l.length→A0 (Ee l i w k)
 | 0,_ => ⟨by simp [Ee],by simp [Ee]⟩
 | k+1,hk => by
  have ih:=U3 hok (i:=i) hw k (by omega)
  have ht:=hok _ (Aj (l:=l) (i:=(k:Int)) (by omega) (by omega))
  unfold Ee
  split
  ·have h1:=(V6 ht hw).2
   have h2:=(Iw ht).1
   have h3:=R7 (Int.mul_nonneg h1.1 (show 0≤(atI l (k:Int)).C by omega))
   exact R7 (by have:=ih.1;have:=h3.1;omega)
  ·exact ih
end Go.L.Try
namespace Go.L.Try
open Go Go.L
variable {E:Env}
theorem Vx {x y:Int} (h:x≤y):sat x≤sat y:=by unfold sat;split<;>split<;>omega
theorem Als {t:Ab} (ht:Cr t) {w v:Int} (h:w≤v):oftenP t w≤oftenP t v:=by
 obtain ⟨_,hT,_⟩:=Iw ht
 unfold oftenP
 exact Int.ediv_le_ediv (by omega) (by have:=Vx (x:=w+t.J) (y:=v+t.J) (by omega);omega)
theorem Qn {l:List Ab} (hok:∀ t∈l,Cr t) {i w v:Int} (h:w≤v):∀ k:Nat,k≤l.length→Ee l i w k≤Ee l i v k
 | 0,_ => Int.le_refl _
 | k+1,hk => by
  have ih:=Qn hok (i:=i) h k (by omega)
  have ht:=hok _ (Aj (l:=l) (i:=(k:Int)) (by omega) (by omega))
  have hC:=(Iw ht).1
  unfold Ee
  split
  ·have h1:=Int.mul_le_mul_of_nonneg_right (Als ht h) (show 0≤(atI l (k:Int)).C by omega)
   have h2:=Vx h1
   exact Vx (by omega)
  ·exact ih
theorem Ab0 {l:List Ab} {i w:Int} (hw:A0 w):A0 (higherP l i w):=by
 unfold higherP
 split
 ·rename_i h;exact U3 (E8 h.1).2.2 hw _ (Nat.le_refl _)
 ·exact ⟨by decide,by decide⟩
theorem Af5 {l:List Ab} {i w v:Int} (h0:A0 w) (h:w≤v):higherP l i w≤higherP l i v:=by
 unfold higherP
 split
 ·rename_i hc
  rw [if_pos ⟨hc.1,by omega⟩]
  exact Qn (E8 hc.1).2.2 h _ (Nat.le_refl _)
 ·split
  ·rename_i hc
   have hv:Ee l i v l.length ≥ Ee l i 0 l.length:=by
    have hw:=h0.1
    exact Qn (E8 hc.1).2.2 (by omega) _ (Nat.le_refl _)
   have:=(U3 (E8 hc.1).2.2 (i:=i) (w:=0) ⟨by decide,by decide⟩ l.length (Nat.le_refl _)).1
   omega
  ·exact Int.le_refl _
theorem Wc {l:List Ab} {i:Int} (h:isP l i=true) (w:Int):Ce l i w=sat (sat ((atI l i).C+blockP l i)+higherP l i w):=by
 obtain ⟨hi,_,hok⟩:=E8 h
 have hC:=(Iw (hok _ (Aj hi.1 hi.2))).1
 unfold Ce
 rw [if_pos h]
 have e:sat (0+(atI l i).C)=(atI l i).C:=by unfold sat;rw [if_pos (by omega)];omega
 show sat (sat (sat (0+(atI l i).C)+blockP l i)+higherP l i w)=_
 rw [e]
theorem Ae0 {l:List Ab} {i:Int} (h:isP l i=true):0≤blockP l i∧blockP l i≤2147483647:=by
 unfold blockP;rw [if_pos h];exact P4 (E8 h).2.2 i _ (Nat.le_refl _)
theorem Sk {l:List Ab} {i w:Int} (h:isP l i=true) (hw:A0 w):A0 (Ce l i w)∧1≤Ce l i w:=by
 obtain ⟨hi,_,hok⟩:=E8 h
 have hC:=(Iw (hok _ (Aj hi.1 hi.2))).1
 have hB:=Ae0 h
 have hH:=(Ab0 (l:=l) (i:=i) hw).1
 rw [Wc h]
 have e:sat ((atI l i).C+blockP l i)=(atI l i).C+blockP l i:=by unfold sat;rw [if_pos (by omega)]
 rw [e]
 refine ⟨R7 (by omega),?_⟩
 unfold sat;split<;>omega
theorem I4 {l:List Ab} {i w v:Int} (h:isP l i=true) (h0:A0 w) (hv:w≤v):Ce l i w≤Ce l i v:=by
 rw [Wc h,Wc h]
 have:=Af5 (l:=l) (i:=i) h0 hv
 exact Vx (by omega)
def Ig (l:List Ab) (i:Int):Int:=(atI l i).D - (atI l i).J
theorem Sl {l:List Ab} {i:Int} (h:isP l i=true):1≤Ig l i∧Ig l i≤2147483647:=by
 obtain ⟨hi,_,hok⟩:=E8 h
 have ht:=hok _ (Aj hi.1 hi.2)
 have h1:=ht.1
 have h2:=ht.2
 simp only [Ap] at h1
 simp only [Eg] at h2
 unfold Ig;omega
def Oz (l:List Ab) (i:Int):Nat→Int→Option Int
 | 0,_ => none
 | n+1,w => if Ce l i w≤w then some w else Oz l i n (w+1)
def Lu (l:List Ab) (i:Int):Option Int:=Oz l i (Ig l i).toNat 1
def boundP (l:List Ab) (i:Int):Int × Int:=if isP l i then (match Lu l i with | some w => (w+(atI l i).J,0) | none => (0,16)) else (0,1)
end Go.L.Try
namespace Go.L.Try
open Go Go.L
variable {E:Env}
def OwnL {α : Type} (m sz:Nat) (enc:α → List Value) (h:Aa) (v:Value) (l:List α):Prop :=
 OwnT m sz enc h v l∨∃ b,v = .slice (some ⟨b,0,none⟩) l.length l.length∧m≤b∧h[b]? = some (.cells (l.map enc).flatten false)∧(∀ a,(enc a).length=sz)∧l.length<1152921504606846976
theorem OwnL.rd {α : Type} {m sz:Nat} {enc:α → List Value} {h:Aa} {v:Value} {l:List α} (o:OwnL m sz enc h v l):Rd sz enc h v l:=by
 rcases o with o | ⟨b,rfl,_,hb,hs,hf⟩
 ·exact o.rd
 ·exact Rd.lit l hb rfl hs hf (Nat.le_refl _) (.inl rfl)
theorem OwnL.app {α : Type} {m sz:Nat} {enc:α → List Value} {h:Aa} {v:Value} {l:List α} (o:OwnL m sz enc h v l) (x:Aa):OwnL m sz enc (h++x) v l:=by
 rcases o with o | ⟨b,rfl,hm,hb,hs,hf⟩
 ·exact .inl (o.app x)
 ·exact .inr ⟨b,rfl,hm,by rw [GL (GI.1 hb).1];exact hb,hs,hf⟩
def Oh (l:List Ab) (i:Int):Nat→Int→List Int
 | 0,w => [w]
 | n+1,w => if Ig l i<w∨Ce l i w=w then [w] else w :: Oh l i n (Ce l i w)
def Uj (l:List Ab) (i:Int):List Int:=if isP l i then Oh l i ((Ig l i).toNat+1) (Ce l i 0) else []
end Go.L.Try
set_option maxHeartbeats 2000000
namespace Go.L.Try
open Go Go.L
variable {E:Env}
theorem Amu {m b off:Nat} {sp:Option Nat} {A:Prop} (h:b<m):WL m (.pointer (some ⟨b,off,sp⟩)) A=A:=by simp [WL,low,h]
theorem A2g (hE:Aw E) {h:Aa} {vl:Value} {l:List Ab} (hl:Rd 7 A5 h vl l) (hs:∀ t∈l,t.name.size<1152921504606846976) (i:Int) :
  callW E (.func (.func Pg) #[] #[]) [vl,.int .i64 i] h=some (.bool (isP l i),h,[]):=by
 have hc:=Mw hE hl hs
 refine Am hE.A3h rfl (by simp) ?_
 simp only [Ak]
 (repeat' (first | (with_reducible refine A1 (fun _ => ?_) (fun _ => ?_)<;>try (exfalso;omega)) | simp -dsimp (disch:=omega) only [↓EA,EB,Nat.reduceEqDiff,↓reduceIte,reduceCtorEq,eq_self, *,hl.len]))
 ·congr 1;unfold isP;exact decide_eq_decide.2 (by omega)
 ·congr 1;unfold isP;exact (decide_eq_false (by omega)).symm
 ·congr 1;unfold isP;exact (decide_eq_false (by omega)).symm
theorem Awu (hE:Aw E) {h:Aa} {vl:Value} {l:List Ab} (hl:Rd 7 A5 h vl l) (hs:∀ t∈l,t.name.size<1152921504606846976) (i:Int) :
  callW E (.func (.func Gw) #[] #[]) [vl,.int .i64 i] h=some (.bool (isP l i),h,[]):=by
 have hc:=Mw hE hl hs
 refine Am hE.Asi rfl (by simp) ?_
 simp only [Ak]
 (repeat' (first | (with_reducible refine A1 (fun _ => ?_) (fun _ => ?_)<;>try (exfalso;omega)) | simp -dsimp (disch:=omega) only [↓EA,EB,Nat.reduceEqDiff,↓reduceIte,reduceCtorEq,eq_self, *,hl.len]))
 ·congr 1;unfold isP;exact decide_eq_decide.2 (by omega)
 ·congr 1;unfold isP;exact (decide_eq_false (by omega)).symm
 ·congr 1;unfold isP;exact (decide_eq_false (by omega)).symm
theorem Az7 (hE:Aw E) (hX:Id E) (h:Aa) {t:Ab} (ht:Cr t) {w:Int} (hw:A0 w) :
  callW E (.func (.func Gv) #[] #[]) [.agg (A5 t).toArray,.int .u64 w] h=some (.int .u64 (oftenP t w),h,[]):=by
 obtain ⟨hC,hT,hJ⟩:=Iw ht
 obtain ⟨o1,o2⟩:=V6 ht hw
 have hjin:A0 t.J:=by unfold A0;omega
 have q2:=fun x => A0c hE x o1 (b:=t.T) (by unfold A0;omega)
 simp only [if_neg (show ¬ t.T=0 by omega)] at q2
 have eo:(sat (w+t.J)+t.T - 1) / t.T=oftenP t w:=rfl
 rw [eo] at q2
 clear eo
 refine Am hE.Age rfl (by simp) ?_
 simp only [Ak]
 unfold A5
 generalize oftenP t w=O at *
 have q1:∀ b,callW E (.func (.func Jg) #[] #[]) [.int .u64 w,.slice (some ⟨h.length+1,0,none⟩) 1 1] (h++[b,LObj.cells [.int .u64 t.J] false])=some (.int .u64 (sat (w+t.J)),h++[b,LObj.cells [.int .u64 t.J] false],[]):=fun b =>
  Aly hE hX (l:=[t.J]) (Rd.lit (enc:=Asd) [t.J] (by rw [Kr];rfl) rfl (fun _ => rfl) (by simp) (by simp) (.inl rfl)) hw (fun x hx => by rw [List.mem_singleton.1 hx];exact hjin)
 clear ht o1 o2
 generalize sat (w+t.J)=S at *
 (repeat' simp -dsimp (disch:=omega) only [↓EA,EB,Nat.reduceEqDiff,Nat.reduceLeDiff,Nat.reduceMul,↓reduceIte,reduceCtorEq,Ac,Rq,eq_self, *,Amu])
end Go.L.Try
namespace Go.L.Try
open Go Go.L
variable {E:Env}
end Go.L.Try
namespace Go.L.Try
open Go Go.L
def Fy (w:List Nat):List Value:=w.map fun x:Nat => .int .u64 (x:Int)
structure okM (w:List Nat):Prop where
 len:w.length=16
 lt:∀ x∈w,x<18446744073709551616
def wordM (w:List Nat) (i:Nat):Nat:=w.getD i 0
def T6 (w:List Nat) (n:Nat):Bool:=(wordM w (n / 64)).testBit (n % 64)
def withM (w:List Nat) (n:Int):List Nat:=if 0≤n∧n<1024 then w.set (n.toNat / 64) (wordM w (n.toNat / 64) ||| 2 ^ (n.toNat % 64)) else w
theorem Rw {w:List Nat} (hw:okM w) (i:Nat):wordM w i<18446744073709551616:=by
 unfold wordM
 rw [List.getD_eq_getElem?_getD]
 cases h:w[i]? with
 | none => decide
 | some x => exact hw.lt x (List.mem_of_getElem? h)
theorem Aqw {w:List Nat} {i j x:Nat} (hi:i<w.length):wordM (w.set i x) j=if i=j then x else wordM w j:=by
 unfold wordM
 rw [List.getD_eq_getElem?_getD,List.getD_eq_getElem?_getD]
 by_cases e:i=j
 ·subst e;rw [List.getElem?_set_self hi,if_pos rfl];rfl
 ·rw [List.getElem?_set_ne e,if_neg e]
theorem Avz:okM (List.replicate 16 0):=⟨by simp,by simp⟩
theorem Arx (n:Nat):T6 (List.replicate 16 0) n=false:=by
 unfold T6 wordM
 rw [List.getD_eq_getElem?_getD]
 cases h:(List.replicate 16 0)[n / 64]? with
 | none => simp
 | some x => have:=List.eq_of_mem_replicate (List.mem_of_getElem? h);subst this;simp
theorem Ahx {k:Nat} (hk:k<64):2 ^ k<18446744073709551616:=Nat.pow_lt_pow_right (by decide) (show k<64 from hk)
theorem Aaa {w:List Nat} (hw:okM w) (n:Int):okM (withM w n):=by
 unfold withM
 split
 ·refine ⟨by simp [hw.len],fun x hx => ?_⟩
  rcases List.mem_or_eq_of_mem_set hx with h | rfl
  ·exact hw.lt x h
  ·exact Nat.or_lt_two_pow (n:=64) (Rw hw _) (Ahx (Nat.mod_lt _ (by decide)))
 ·exact hw
theorem Aqy {w:List Nat} (hw:okM w) {n:Nat} (hn:n<1024) (m:Nat):T6 (withM w n) m=(T6 w m || decide (m=n)):=by
 unfold withM T6
 rw [if_pos ⟨by omega,by omega⟩,Aqw (by rw [hw.len];omega)]
 simp only [Int.toNat_natCast]
 by_cases h:n / 64=m / 64
 ·rw [if_pos h,h,Nat.testBit_or,Nat.testBit_two_pow]
  congr 1
  exact decide_eq_decide.2 (by omega)
 ·rw [if_neg h]
  have:m≠n:=by intro e;subst e;exact h rfl
  simp [this]
theorem Aqx {w:List Nat} {n:Int} (hn:¬ (0≤n∧n<1024)):withM w n=w:=by unfold withM;rw [if_neg hn]
def Al (w:List Nat) (n:Nat):List Nat:=(List.range' n (1024 - n)).filter (T6 w)
theorem X9 (w:List Nat) {n:Nat} (h:1024≤n):Al w n=[]:=by
 unfold Al;rw [show 1024 - n=0 by omega];rfl
theorem U9 (w:List Nat) {n:Nat} (h:n<1024):Al w n=if T6 w n then n :: Al w (n+1) else Al w (n+1):=by
 unfold Al
 obtain ⟨k,hk⟩:∃ k,1024 - n=k+1:=⟨1024 - n - 1,by omega⟩
 rw [hk,show 1024 - (n+1)=k by omega,List.range'_succ,List.filter_cons]
theorem Va {w:List Nat}:∀ {d n:Nat},n+d≤1024→(∀ j,n≤j→j<n+d→T6 w j=false)→Al w n=Al w (n+d)
 | 0,_,_,_ => rfl
 | d+1,n,h,hj => by
  rw [U9 w (by omega),hj n (Nat.le_refl _) (by omega),Va (d:=d) (n:=n+1) (by omega) (fun j h1 h2 => hj j (by omega) (by omega))]
  simp only [Bool.false_eq_true,if_false]
  congr 1;omega
theorem Nl {w:List Nat}:∀ (d:Nat) {m n:Nat} {r:List Nat},1024 - m=d→Al w m=n :: r→r=Al w (n+1)∧n<1024
 | 0,m,n,r,hd,h => by rw [X9 w (by omega)] at h;cases h
 | d+1,m,n,r,hd,h => by
  rw [U9 w (by omega)] at h
  split at h
  ·cases h;exact ⟨rfl,by omega⟩
  ·exact Nl d (m:=m+1) (by omega) h
def tz (x:Nat):Nat:=Lib.ctz 64 x
theorem Ay3 {x:Nat} (h0:x≠0) (h:x<18446744073709551616):x.testBit (tz x)=true∧tz x<64∧∀ j,j<tz x→x.testBit j=false:=by
 have hc:tz x=Lib.ctzFrom 64 x:=by unfold tz Lib.ctz;rw [if_neg h0]
 obtain ⟨m,h1,h2⟩:=Lib.ctzFrom_spec 64 x (Nat.pos_of_ne_zero h0) h
 rw [hc]
 generalize Lib.ctzFrom 64 x=k at *
 have e:∀ j,x.testBit j=(decide (k≤j) && (2 * m+1).testBit (j - k)):=fun j => by rw [h1,Nat.mul_comm,Nat.testBit_mul_two_pow]
 refine ⟨?_,h2,fun j hj => ?_⟩
 ·rw [e k];simp
 ·rw [e j];simp;omega
def Rp (x k:Nat):Nat:=(x >>> k) <<< k
theorem Acb (x k j:Nat):(Rp x k).testBit j=(decide (k≤j) && x.testBit j):=by
 unfold Rp
 rw [Nat.testBit_shiftLeft,Nat.testBit_shiftRight]
 by_cases h:k≤j
 ·simp [h,show k+(j - k)=j by omega]
 ·simp [h]
theorem Agg (x k:Nat):Rp x k≤x:=by
 unfold Rp
 rw [Nat.shiftRight_eq_div_pow,Nat.shiftLeft_eq]
 exact Nat.div_mul_le_self _ _
theorem Asj (x:Nat):Rp x 0=x:=by unfold Rp;simp
theorem Ajz {w:List Nat} {i k:Nat} (hi:i<16) (hk:k<64) (h0:Rp (wordM w i) k=0):Al w (64 * i+k)=Al w (64 * (i+1)):=by
 have:=Va (w:=w) (n:=64 * i+k) (d:=64 - k) (by omega) (fun j h1 h2 => by
  unfold T6
  rw [show j / 64=i by omega]
  have:=Acb (wordM w i) k (j % 64)
  rw [h0] at this
  simp only [Nat.zero_testBit] at this
  have h3:k≤j % 64:=by omega
  simpa [h3] using this.symm)
 rw [this];congr 1;omega
theorem Amc {w:List Nat} (hw:okM w) {i k:Nat} (hi:i<16) (hk:k<64) (h0:Rp (wordM w i) k≠0):tz (Rp (wordM w i) k)<64∧k≤tz (Rp (wordM w i) k)∧Al w (64 * i+k)=(64 * i+tz (Rp (wordM w i) k)) :: Al w (64 * i+tz (Rp (wordM w i) k)+1):=by
 have hlt:Rp (wordM w i) k<18446744073709551616:=Nat.lt_of_le_of_lt (Agg _ _) (Rw hw i)
 obtain ⟨a,b,c⟩:=Ay3 h0 hlt
 generalize tz (Rp (wordM w i) k)=z at *
 rw [Acb,Bool.and_eq_true,decide_eq_true_eq] at a
 have h1:=Va (w:=w) (n:=64 * i+k) (d:=z - k) (by omega) (fun j h1 h2 => by
  unfold T6
  rw [show j / 64=i by omega]
  have:=c (j % 64) (by omega)
  rw [Acb] at this
  have h3:k≤j % 64:=by omega
  simpa [h3] using this)
 refine ⟨b,a.1,?_⟩
 rw [h1,show 64 * i+k+(z - k)=64 * i+z by omega,U9 w (by omega)]
 have:T6 w (64 * i+z)=true:=by
  unfold T6
  rw [show (64 * i+z) / 64=i by omega,show (64 * i+z) % 64=z by omega];exact a.2
 rw [this,if_pos rfl]
end Go.L.Try
namespace Go.L.Try
open Go Go.L
variable {E:Env}
theorem Ao7 (hE:Aw E) (h:Aa) (n:Int):callW E (.func (.func Kp) #[] #[]) [.int .i64 n] h=some (.bool (decide (0≤n∧n<1024)),h,[]):=by
 refine Am hE.Awf rfl (by simp) ?_
 simp only [Ak]
 (repeat' (first | (with_reducible refine A1 (fun _ => ?_) (fun _ => ?_)<;>try (exfalso;omega)) | simp -dsimp (disch:=omega) only [↓EA,EB,Nat.reduceEqDiff,↓reduceIte,reduceCtorEq,eq_self, *]))
 all_goals first | rfl | exact congrArg Value.bool (decide_eq_decide.2 (by omega)) | exact congrArg Value.bool (decide_eq_false (by omega)).symm | exact congrArg Value.bool (decide_eq_true (by omega)).symm
theorem Aj9 {q:EqK} {a:Int} (h1:0≤a):binOp .shr q (.int .i64 a) (.int .u64 6)=some (.int .i64 (a / 64)):=by
 simp only [binOp,Fe]
 rw [if_neg (by decide),Int.fdiv_eq_ediv_of_nonneg _ (by decide)];rfl
theorem Ae3 {q:EqK} {a:Nat} (h2:a<9223372036854775808):binOp .and q (.int .i64 (a:Int)) (.int .i64 63)=some (.int .i64 ((a % 64:Nat):Int)):=by
 have e:((BitVec.ofInt 64 (a:Int)) &&& (BitVec.ofInt 64 63)).toNat=a % 64:=by
  have e1:BitVec.ofInt 64 (a:Int)=BitVec.ofNat 64 a:=by simp
  have e2:BitVec.ofInt 64 63=BitVec.ofNat 64 63:=by decide
  rw [e1,e2,BitVec.toNat_and,BitVec.toNat_ofNat,BitVec.toNat_ofNat,Nat.mod_eq_of_lt (by omega)]
  exact Nat.and_two_pow_sub_one_eq_mod a 6
 have e3:binOp .and q (.int .i64 (a:Int)) (.int .i64 63)=some (.int .i64 (IntKind.i64.wrap (((BitVec.ofInt 64 (a:Int)) &&& (BitVec.ofInt 64 63)).toNat:Nat))):=by simp only [binOp,Fe,if_true];rfl
 rw [e3,e,Vl (by omega) (by omega)]
theorem A1d {q:EqK} {a b:Nat} (ha:a<18446744073709551616) (hb:b<18446744073709551616):binOp .or q (.int .u64 (a:Int)) (.int .u64 (b:Int))=some (.int .u64 ((a ||| b:Nat):Int)):=by
 have hor:a ||| b<18446744073709551616:=Nat.or_lt_two_pow (n:=64) ha hb
 have e:((BitVec.ofInt 64 (a:Int)) ||| (BitVec.ofInt 64 (b:Int))).toNat=a ||| b:=by
  have e1:∀ x:Nat,BitVec.ofInt 64 (x:Int)=BitVec.ofNat 64 x:=fun x => by simp
  rw [e1,e1,BitVec.toNat_or,BitVec.toNat_ofNat,BitVec.toNat_ofNat,Nat.mod_eq_of_lt ha,Nat.mod_eq_of_lt hb]
 have e3:binOp .or q (.int .u64 (a:Int)) (.int .u64 (b:Int))=some (.int .u64 (IntKind.u64.wrap (((BitVec.ofInt 64 (a:Int)) ||| (BitVec.ofInt 64 (b:Int))).toNat:Nat))):=by simp only [binOp,Fe,if_true];rfl
 rw [e3,e,Pc (by omega) (by omega)]
theorem Ax8 {q:EqK} {k:Nat} (hk:k<64):binOp .shl q (.int .u64 1) (.int .i64 (k:Int))=some (.int .u64 ((2 ^ k:Nat):Int)):=by
 have hp:(2 ^ k:Nat)<18446744073709551616:=Nat.pow_lt_pow_right (by decide) (show k<64 from hk)
 simp only [binOp,Fe]
 rw [if_neg (by omega),show min ((k:Int)).toNat (IntKind.bits .u64)=k by show min _ 64=k;omega]
 have e:(1:Int) * 2 ^ k=((2 ^ k:Nat):Int):=by simp
 rw [e,Pc (Int.natCast_nonneg _) (Int.ofNat_lt.2 hp)]
end Go.L.Try
namespace Go.L.Try
open Go Go.L
variable {E:Env}
theorem Fa {w:List Nat} (hw:okM w):(Fy w).length=16:=by simp [Fy,hw.len]
theorem G3 (w:List Nat):(Fy w).all Ah=true:=by
 unfold Fy;rw [List.all_map,List.all_eq_true];intro x _;rfl
theorem Ase (w:List Nat):(Fy w).all Vw=true:=by
 unfold Fy;rw [List.all_map,List.all_eq_true];intro x _;rfl
theorem Wm (w:List Nat) (m:Nat):(Fy w).all (Ae m 3)=true:=by
 unfold Fy;rw [List.all_map,List.all_eq_true];intro x _;rfl
theorem Ji {w:List Nat} (hw:okM w):(Fy w).take 16=Fy w:=List.take_of_length_le (by rw [Fa hw];exact Nat.le_refl _)
theorem Agb {w:List Nat} (hw:okM w) {i:Nat} (hi:i<16):(Fy w)[i]? = some (.int .u64 (wordM w i:Int)):=by
 have h:=hw.len
 unfold Fy wordM
 rw [List.getElem?_map,List.getD_eq_getElem?_getD,List.getElem?_eq_getElem (by omega)];rfl
theorem Axe (w:List Nat) (i x:Nat):(Fy w).set i (.int .u64 (x:Int))=Fy (w.set i x):=by unfold Fy;rw [List.map_set]
theorem Vs:∀ (c d:List Value) (cs:List Value),d.length=cs.length→setCells (c++d) c.length cs=c++cs
 | c,[],[],_ => by simp [Jm]
 | c,[],_ :: _,h => by simp at h
 | c,_ :: _,[],h => by simp at h
 | c,x :: d,y :: cs,h => by
  have ih:=Vs (c++[y]) d cs (by simpa using h)
  rw [F3,List.set_append_right _ _ (Nat.le_refl _),Nat.sub_self,List.set_cons_zero]
  simp only [List.append_assoc,List.cons_append,List.nil_append,LA,List.length_cons,List.length_nil] at ih
  exact ih
theorem Aau {d cs:List Value} (h:d.length=cs.length):setCells d 0 cs=cs:=Vs [] d cs h
theorem A3d {d:List Value} {w:List Nat} (hd:d.length=16) (hw:okM w):setCells d 0 (Fy w)=Fy w:=Aau (by rw [hd,Fa hw])
def z16:List Value:=[.int .u64 0,.int .u64 0,.int .u64 0,.int .u64 0,.int .u64 0,.int .u64 0,.int .u64 0,.int .u64 0,.int .u64 0,.int .u64 0,.int .u64 0,.int .u64 0,.int .u64 0,.int .u64 0,.int .u64 0,.int .u64 0]
theorem Am4 {w:List Nat} (hw:okM w):setCells [.int .u64 0,.int .u64 0,.int .u64 0,.int .u64 0,.int .u64 0,.int .u64 0,.int .u64 0,.int .u64 0,.int .u64 0,.int .u64 0,.int .u64 0,.int .u64 0,.int .u64 0,.int .u64 0,.int .u64 0,.int .u64 0] 0 (Fy w)=Fy w:=A3d rfl hw
theorem Atb {w:List Nat} {m:Nat} (hm:m<1024):withM w (m:Int)=w.set (m / 64) (wordM w (m / 64) ||| 2 ^ (m % 64)):=by
 unfold withM;rw [if_pos ⟨by omega,by omega⟩];rfl
theorem A4r (hE:Aw E) (h:Aa) {w:List Nat} (hw:okM w) (n:Int) :
  callW E (.func (.func E5) #[] #[]) [.agg (Fy w).toArray,.int .i64 n] h=some (.agg (Fy (withM w n)).toArray,h,[]):=by
 have q:=fun x => Ao7 hE (h++x) n
 refine Am hE.Abk rfl (by simp) ?_
 simp only [Ak]
 have hl:=Fa hw
 have ho:=G3 w
 have htk:=Ji hw
 have hs0:=Am4 hw
 by_cases hin:0≤n∧n<1024
 ·rw [decide_eq_true hin] at q
  obtain ⟨m,rfl⟩:=Int.eq_ofNat_of_zero_le hin.1
  have hm:m<1024:=by omega
  have hwm:withM w (m:Int)=w.set (m / 64) (wordM w (m / 64) ||| 2 ^ (m % 64)):=Atb hm
  have hok:=Aaa hw (m:Int)
  rw [hwm] at hok ⊢
  have hat:=Agb hw (i:=m / 64) (by omega)
  have hx:=Rw hw (m / 64)
  have hp:=Ahx (Nat.mod_lt m (by decide:64 > 0))
  have hsh:=fun q => Ax8 (q:=q) (k:=m % 64) (Nat.mod_lt _ (by decide))
  have hand:=fun q => Ae3 (q:=q) (a:=m) (by omega)
  have hor:=fun q => A1d (q:=q) hx hp
  have hset:=Axe w (m / 64) (wordM w (m / 64) ||| 2 ^ (m % 64))
  have hl2:=Fa hok
  have ho2:=G3 (w.set (m / 64) (wordM w (m / 64) ||| 2 ^ (m % 64)))
  have htk2:=Ji hok
  have hs2:=Am4 hok
  have hdiv:((m:Int) / 64).toNat=m / 64:=by omega
  have hmul:m / 64 * 1=m / 64:=Nat.mul_one _
  have h16:m / 64+1≤16:=by omega
  clear hok hw hx hp hin
  generalize hv:(wordM w (m / 64) ||| 2 ^ (m % 64))=v at *
  generalize hw2:w.set (m / 64) v=w2 at *
  have hnn:=Wm w2 h.length
  (repeat' simp -dsimp (disch:=omega) only [↓EA,EB,Nat.reduceEqDiff,Nat.reduceAdd,↓reduceIte,reduceCtorEq,Ac,eq_self, *,Aj9])
 ·rw [decide_eq_false hin] at q
  rw [Aqx hin]
  have hnn:=Wm w h.length
  (repeat' simp -dsimp (disch:=omega) only [↓EA,EB,Nat.reduceEqDiff,Nat.reduceAdd,↓reduceIte,reduceCtorEq,Ac,eq_self, *])
theorem Ax5 {q:EqK} {a k:Nat} (hk:k<64):binOp .shr q (.int .u64 (a:Int)) (.int .i64 (k:Int))=some (.int .u64 ((a >>> k:Nat):Int)):=by
 have e:binOp .shr q (.int .u64 (a:Int)) (.int .i64 (k:Int))=some (.int .u64 (Int.fdiv (a:Int) (2 ^ k))):=by
  simp only [binOp,Fe]
  rw [if_neg (by omega),show min ((k:Int)).toNat (IntKind.bits .u64)=k by show min _ 64=k;omega]
 rw [e,Int.fdiv_eq_ediv_of_nonneg _ (Int.pow_nonneg (by decide)),Nat.shiftRight_eq_div_pow]
 congr 2
theorem Ax6 {q:EqK} {a k:Nat} (hk:k<64) (hlt:a <<< k<18446744073709551616):binOp .shl q (.int .u64 (a:Int)) (.int .i64 (k:Int))=some (.int .u64 ((a <<< k:Nat):Int)):=by
 have e:binOp .shl q (.int .u64 (a:Int)) (.int .i64 (k:Int))=some (.int .u64 (IntKind.u64.wrap ((a:Int) * 2 ^ k))):=by
  simp only [binOp,Fe]
  rw [if_neg (by omega),show min ((k:Int)).toNat (IntKind.bits .u64)=k by show min _ 64=k;omega]
 have e2:(a:Int) * 2 ^ k=((a <<< k:Nat):Int):=by rw [Nat.shiftLeft_eq];simp
 rw [e,e2,Pc (Int.natCast_nonneg _) (Int.ofNat_lt.2 hlt)]
end Go.L.Try
namespace Go.L.Try
open Go Go.L
variable {E:Env} {G:Nat}
def Ag2 (c:List Value):Bool:=decide (c.length=64) && (List.range 64).all fun j => match c[j]? with
 | some (.int .u8 n) => n == ((Lib.deBruijn64tab.getD j 0:Nat):Int)
 | _ => false
def tzE (G:Nat):List Value→Aa→Option (Value × Aa × List Nat)
 | [.int .u64 a],h => match h[G]? with
  | some (.cells c _) => if Ag2 c=true∧0≤a∧a<18446744073709551616 then some (.int .i64 (tz a.toNat:Nat),h,[]) else none
  | _ => none
 | _,_ => none
structure Dy (E:Env) (G:Nat):Prop where
 tz64:E Bs = .ext (tzE G)
def Tab (G:Nat) (h:Aa):Prop:=∃ c ro,h[G]? = some (.cells c ro)∧Ag2 c=true
theorem Tab.pre {h h':Aa} (t:Tab G h) (p:Pre h h'):Tab G h':=by
 obtain ⟨c,ro,h1,h2⟩:=t;exact ⟨c,ro,p _ _ h1,h2⟩
theorem Tab.app {h:Aa} (t:Tab G h) (x:Aa):Tab G (h++x):=t.pre (Pre.app h x)
theorem tz64 (hZ:Dy E G) {h:Aa} (ht:Tab G h) {a:Nat} (ha:a<18446744073709551616) :
  callW E (.func (.func Bs) #[] #[]) [.int .u64 (a:Int)] h=some (.int .i64 (tz a:Nat),h,[]):=by
 obtain ⟨c,ro,h1,h2⟩:=ht
 rw [Aex hZ.tz64]
 simp only [tzE,h1]
 rw [if_pos ⟨h2,by omega,by omega⟩];rfl
theorem Ax7 {q:EqK} {a:Int} (h1:0≤a) (h2:a<1073741824):binOp .shl q (.int .i64 a) (.int .u64 6)=some (.int .i64 (a * 64)):=by
 have e:binOp .shl q (.int .i64 a) (.int .u64 6)=some (.int .i64 (IntKind.i64.wrap (a * 64))):=by
  simp only [binOp,Fe]
  rw [if_neg (by decide)];rfl
 rw [e,Vl (by omega) (by omega)]
def Sj (w:List Nat) (n:Int):Option Nat:=(Al w (max n (-1)+1).toNat).head?
def Na:Option Nat→Value
 | some m => .tuple #[.int .i64 (m:Nat),.bool true]
 | none => .tuple #[.int .i64 0,.bool false]
theorem Av9 (hE:Aw E) (hZ:Dy E G) {h:Aa} (ht:Tab G h) {w:List Nat} (hw:okM w) {n:Int} (hn:n<4611686018427387904) :
  callW E (.func (.func Dq) #[] #[]) [.agg (Fy w).toArray,.int .i64 n] h=some (Na (Sj w n),h,[]):=by
 have q:=fun x => Ao7 hE (h++x) (max n (-1)+1)
 refine Am hE.Abl rfl (by simp) ?_
 simp only [Ak]
 have hl:=Fa hw
 have ho:=G3 w
 by_cases hin:max n (-1)+1<1024
 ·rw [decide_eq_true (show 0≤max n (-1)+1∧max n (-1)+1<1024 by omega)] at q
  unfold Sj
  obtain ⟨m,hm⟩:∃ m:Nat,max n (-1)+1=(m:Int):=⟨(max n (-1)+1).toNat,by omega⟩
  have hmm:max n (-1)=(m:Int) - 1:=by omega
  have hm1:(m:Int) - 1+1=m:=by omega
  rw [hm] at q ⊢
  rw [show ((m:Int)).toNat=m by omega]
  have hm2:m<1024:=by omega
  have hat:=Agb hw (i:=m / 64) (by omega)
  have hx:=Rw hw (m / 64)
  have hmod:=Nat.mod_lt m (by decide:64 > 0)
  have hand:=fun q => Ae3 (q:=q) (a:=m) (by omega)
  have hshr:=fun q => Ax5 (q:=q) (a:=wordM w (m / 64)) (k:=m % 64) hmod
  have hshl:=fun q => Ax6 (q:=q) (a:=wordM w (m / 64) >>> (m % 64)) (k:=m % 64) hmod (by have:=Agg (wordM w (m / 64)) (m % 64);unfold Rp at this;omega)
  have hcut:(wordM w (m / 64) >>> (m % 64)) <<< (m % 64)=Rp (wordM w (m / 64)) (m % 64):=rfl
  rw [hcut] at hshl
  clear hcut
  have hdiv:((m:Int) / 64).toNat=m / 64:=by omega
  have hdiv2:((m:Int) / 64)=((m / 64:Nat):Int):=by omega
  have hmul:m / 64 * 1=m / 64:=Nat.mul_one _
  have H64:m / 64<16:=by omega
  clear hm hx hin
  have htA:=ht.app [LObj.cells (Fy w) false]
  have hlen:64 * (m / 64)+m % 64=m:=by omega
  (repeat' simp -dsimp (disch:=omega) only [↓EA,EB,Nat.reduceEqDiff,↓reduceIte,reduceCtorEq,Ac,eq_self, *,Aj9,Int.toNat_natCast])
  refine WO.loop (α:=Nat × Nat) (fun s fr h' => h'=h++[LObj.cells (Fy w) false]∧s.1<16∧s.2<64∧Al w m=Al w (64 * s.1+s.2)∧get fr 2 = .pointer (some ⟨h.length,0,none⟩)∧get fr 7 = .int .u64 ((Rp (wordM w s.1) s.2:Nat):Int)∧get fr 8 = .int .i64 (s.1:Int)) (fun s => 16 - s.1) ?_ (m / 64,m % 64) ?_
  rotate_left
  ·exact ⟨rfl,H64,hmod,by rw [hlen],rfl,rfl,rfl⟩
  rintro ⟨i,k⟩ fr h' ⟨rfl,hi,hk,he,g2,g7,g8⟩
  dsimp only at hi hk he g7 g8
  have He:=Hid.mk he
  clear he q hand hshr hshl hdiv hdiv2 hmul hat hlen hmod H64
  have H0:=Hid.mk (fun h0 => Ajz (w:=w) hi hk h0)
  have H1:=Hid.mk (fun h0 => Amc hw hi hk h0)
  have hc:=Nat.lt_of_le_of_lt (Agg (wordM w i) k) (Rw hw i)
  have hz:=tz64 hZ htA hc
  have hat:=fun hi => Agb hw (i:=i+1) hi
  have h0:=Asj (wordM w (i+1))
  generalize hcv:Rp (wordM w i) k=cv at *
  unfold Mf
  by_cases hcv0:cv=0
  ·subst hcv0
   have e:=H0.out rfl
   by_cases hi15:i=15
   ·subst hi15
    have e2:(Al w m).head? = none:=by rw [He.out,e,X9 w (by omega)];rfl
    rw [e2]
    clear hat H0 H1 He
    unfold Na
    (repeat' (first | (with_reducible refine A3 (fun _ => ?_) (fun _ => ?_)<;>try (exfalso;omega)) | simp -dsimp (disch:=omega) only [↓EA,EB,Nat.reduceEqDiff,↓reduceIte,eq_self, *]))
   ·have hat:=hat (by omega)
    have hii:((i:Int)+1).toNat=i+1:=by omega
    have hmul:(i+1) * 1=i+1:=Nat.mul_one _
    clear H0 H1 hz
    (repeat' (first | (with_reducible refine A3 (fun _ => ?_) (fun _ => ?_)<;>try (exfalso;omega)) | simp -dsimp (disch:=omega) only [↓EA,EB,Nat.reduceEqDiff,↓reduceIte,eq_self, *]))
    refine Next.mk (i+1,0) ⟨rfl,by simp only [];omega,by simp only [];omega,?_,rfl,?_,rfl⟩ (by simp only [];omega)
    ·rw [He.out,e];rfl
    ·simp only [h0];rfl
  ·obtain ⟨t1,t2,t3⟩:=H1.out hcv0
   have e2:(Al w m).head? = some (64 * i+tz cv):=by rw [He.out,t3];rfl
   rw [e2]
   generalize tz cv=z at *
   have e4:(i:Int) * 64+z=((64 * i+z:Nat):Int):=by omega
   clear hat H0 H1 He t3 e2
   unfold Na
   have hcv1:¬ ((cv:Int)=0):=by omega
   (repeat' simp -dsimp (disch:=omega) only [↓EA,EB,Nat.reduceEqDiff,↓reduceIte,eq_self, *,Ax7])
 ·rw [decide_eq_false (show ¬ (0≤max n (-1)+1∧max n (-1)+1<1024) by omega)] at q
  have e:Sj w n=none:=by unfold Sj;rw [X9 w (by omega)];rfl
  rw [e]
  unfold Na
  (repeat' simp -dsimp (disch:=omega) only [↓EA,EB,Nat.reduceEqDiff,↓reduceIte,reduceCtorEq,Ac,eq_self, *])
theorem Yv (w:List Nat):Sj w (-1)=(Al w 0).head?:=rfl
theorem Abm (hE:Aw E) (hZ:Dy E G) {h:Aa} (ht:Tab G h) {w:List Nat} (hw:okM w) :
  callW E (.func (.func Ec) #[] #[]) [.agg (Fy w).toArray] h=some (Na (Sj w (-1)),h,[]):=by
 have q:=fun x => Av9 hE hZ (ht.app x) hw (n:=-1) (by decide)
 refine Am hE.Zn rfl (by simp) ?_
 simp only [Ak]
 have hl:=Fa hw
 have ho:=G3 w
 have htk:=Ji hw
 cases hn:Sj w (-1) with
 | none =>
  rw [hn] at q
  unfold Na at q ⊢
  (repeat' simp -dsimp (disch:=omega) only [↓EA,EB,Nat.reduceEqDiff,↓reduceIte,Ac,eq_self, *])
 | some m =>
  rw [hn] at q
  unfold Na at q ⊢
  (repeat' simp -dsimp (disch:=omega) only [↓EA,EB,Nat.reduceEqDiff,↓reduceIte,Ac,eq_self, *])
theorem Ayl (hE:Aw E) (h:Aa) {w:List Nat} (hw:okM w) :
  ∃ v ys,callW E (.func (.func B7) #[] #[]) [.agg (Fy w).toArray] h=some (v,h++ys,[])∧∃ bx,v = .func (.func Bk) #[] #[.pointer (some ⟨bx,0,none⟩)]∧h.length≤bx∧(h++ys)[bx]? = some (.cells (Fy w) false):=by
 have hmv:Movable h.length (fun hh v => ∃ bx,v = .func (.func Bk) #[] #[.pointer (some ⟨bx,0,none⟩)]∧h.length≤bx∧hh[bx]? = some (.cells (Fy w) false)) 2:=by
  refine ⟨fun ρ a a' d v v' hm hv ⟨bx,e,hge,hb⟩ => ?_,fun a v ⟨bx,e,_⟩ => by subst e;rfl⟩
  subst e
  cases d with
  | zero => simp [A6,List.mapM_cons] at hv
  | succ d =>
   simp only [A6,List.mapM_nil,List.mapM_cons] at hv
   cases hρ : ρ bx with
   | none => simp [hρ] at hv
   | some b' =>
    simp [hρ] at hv
    subst hv
    obtain ⟨o,ho,hb'⟩:=hm.new bx b' hge hρ
    rw [List.getD_eq_getElem?_getD,hb] at ho
    simp only [Option.getD_some,Qi,Bool.false_eq_true,if_false] at ho
    rw [Pn (d:=3) (Ase w)] at ho
    simp at ho
    subst ho
    exact ⟨b',rfl,hm.ge bx b' hge hρ,hb'⟩
 refine Ku hE.Adi rfl hmv (by simp) ?_
 have hl:=Fa hw
 have ho:=G3 w
 simp only [Ak]
 (repeat' simp -dsimp (disch:=omega) only [↓EA,EB,Nat.reduceEqDiff,↓reduceIte,Ac,eq_self, *])
 exact ⟨⟨_,rfl⟩,_,rfl,Nat.le_refl _,by rw [Bm];rfl⟩
theorem W7 (hE:Aw E) (hZ:Dy E G) {w:List Nat} (hw:okM w) (bx:Nat) :
  Agt E (.func (.func Bk) #[] #[.pointer (some ⟨bx,0,none⟩)]) (fun h => h[bx]? = some (.cells (Fy w) false)∧Tab G h) ((Al w 0).map fun n:Nat => [.int .i64 (n:Int)]):=by
 intro h1 L W J Stop hJ h0 hS step
 refine Aw4 hE.keep hE.Pm rfl (by simp) ?_
 obtain ⟨_,hb1,ht1⟩:=hJ 0 h1 h0
 have q:=Abm hE hZ ht1 hw
 have hl:=Fa hw
 have ho:=G3 w
 have htk:=Ji hw
 simp only [List.cons_append,List.nil_append,Ak]
 have HJ:=Hid.mk hJ
 have HS:=Hid.mk hS
 have Hst:=Hid.mk step
 have H0:=Hid.mk h0
 clear hJ hS step h0
 generalize hvals:(Al w 0).map (fun n:Nat => [Value.int .i64 (n:Int)])=vals at *
 rw [Yv] at q
 have key:∀ (e:List Nat) (fr:Fr),Al w 0=e→get fr 0 = .func (.yield L) #[] #[]→get fr 1 = .pointer (some ⟨bx,0,none⟩)→(match e with | [] => get fr 4 = .bool false | n :: _ => get fr 3 = .int .i64 (n:Int)∧get fr 4 = .bool true) →
   WO W (code (callW E) iterW 21 (.block 0 (.loop Cp)) fr h1) (Res [] fun v h' => Ae (List.length h1) 4 v=true∧h'.length=h1.length∧(J vals.length h'∨Stop h')):=by
  intro e fr he g0 g1 g34
  (repeat' simp -dsimp (disch:=omega) only [↓EA, *])
  refine WO.loop (α:=Nat × List Nat) (fun s fr h' => (Al w 0).drop s.1=s.2∧s.1+s.2.length=(Al w 0).length∧J s.1 h'∧get fr 0 = .func (.yield L) #[] #[]∧get fr 1 = .pointer (some ⟨bx,0,none⟩)∧(match s.2 with | [] => get fr 4 = .bool false | n :: r => get fr 3 = .int .i64 (n:Int)∧get fr 4 = .bool true)∧∀ n r,s.2=n :: r→r=Al w (n+1)∧n<1024) (fun s => s.2.length) ?_ (0,e) ⟨he,by rw [he];simp,H0.out,g0,g1,g34,fun n r h => Nl _ rfl (he.trans h)⟩
  rintro ⟨k,e⟩ fr h' ⟨hd,hkl,hj,g0,g1,g34,hcons⟩
  dsimp only at hd hkl hj g34 hcons
  obtain ⟨hlen,hb,ht⟩:=HJ.out k h' hj
  clear he q H0 ht1 hb1
  unfold Cp
  cases e with
  | nil =>
   dsimp only at g34
   have hk:k=vals.length:=by rw [← hvals,List.length_map,← hkl];rfl
   subst hk
   have Hj:=Hid.mk hj
   clear hj hd hkl hcons
   (repeat' simp -dsimp (disch:=omega) only [↓EA,EB,Nat.reduceEqDiff,↓reduceIte,reduceCtorEq,eq_self, *])
   first
    | exact ⟨hlen,.inl Hj.out⟩
    | exact .inl Hj.out
  | cons n r =>
   dsimp only at g34
   obtain ⟨g3,g4⟩:=g34
   obtain ⟨hr,hn⟩:=hcons n r rfl
   have hv:vals[k]? = some [.int .i64 (n:Int)]:=by
    have h1:(Al w 0)[k]? = some n:=by
     have:((Al w 0).drop k)[0]? = some n:=by rw [hd];rfl
     rw [List.getElem?_drop,Nat.add_zero] at this;exact this
    rw [← hvals,List.getElem?_map,h1];rfl
   have hst:=Hid.mk (Hst.out k h' _ hv hj)
   have Hd:=Hid.mk hd
   have Hc:=Hid.mk hcons
   clear hd hcons hv hj Hst
   simp only [List.length_cons] at hkl
   (repeat' simp -dsimp (disch:=omega) only [↓EA,EB,Nat.reduceEqDiff,↓reduceIte,reduceCtorEq,eq_self, *])
   refine WX.mono hst.out (fun b h => h) fun v h2 hx => ?_
   rcases hx with ⟨rfl,hj2⟩ | ⟨rfl,hs2⟩
   ·obtain ⟨hlen2,hb2,ht2⟩:=HJ.out (k+1) h2 hj2
    have q2:=Av9 hE hZ ht2 hw (n:=(n:Int)) (by omega)
    have en:Sj w (n:Int)=r.head?:=by
     unfold Sj;rw [show (max (n:Int) (-1)+1).toNat=n+1 by omega,← hr]
    rw [en] at q2
    have Hj2:=Hid.mk hj2
    have Hr:=Hid.mk hr
    clear hj2 hr hst ht2 en hb ht hlen
    have hd2:(Al w 0).drop (k+1)=r:=by rw [← List.drop_drop,Hd.out];rfl
    have Hd2:=Hid.mk hd2
    clear hd2
    cases r with
    | nil =>
     simp only [List.head?_nil,Na] at q2
     (repeat' simp -dsimp (disch:=omega) only [↓EA,EB,Nat.reduceEqDiff,↓reduceIte,reduceCtorEq,eq_self, *])
     exact Next.mk (k+1,[]) ⟨Hd2.out,by simpa using hkl,Hj2.out,rfl,rfl,rfl,fun n r h => by cases h⟩ (by simp)
    | cons m r2 =>
     simp only [List.head?_cons,Na] at q2
     (repeat' simp -dsimp (disch:=omega) only [↓EA,EB,Nat.reduceEqDiff,↓reduceIte,reduceCtorEq,eq_self, *])
     refine Next.mk (k+1,m :: r2) ⟨Hd2.out,by simp only [List.length_cons] at hkl ⊢;omega,Hj2.out,rfl,rfl,⟨rfl,rfl⟩,fun n' r' h => ?_⟩ (by simp)
     exact Nl _ rfl (Hr.out.symm.trans h)
   ·have Hs2:=Hid.mk hs2
    clear hs2 hst
    (repeat' simp -dsimp (disch:=omega) only [↓EA,EB,Nat.reduceEqDiff,↓reduceIte,reduceCtorEq,eq_self, *])
    first
     | exact ⟨HS.out _ Hs2.out,.inr Hs2.out⟩
     | exact .inr Hs2.out
 clear hvals
 cases he:Al w 0 with
 | nil =>
  rw [he] at q
  simp only [List.head?_nil,Na] at q
  have K:=Hid.mk (key [] [(0,.func (.yield L) #[] #[]),(1,.pointer (some ⟨bx,0,none⟩)),(3,.int .i64 0),(4,.bool false)] he rfl rfl rfl)
  clear key he H0 HJ HS Hst
  simp -dsimp (disch:=omega) only [↓EA,EB,Nat.reduceEqDiff,↓reduceIte,reduceCtorEq,eq_self, *]
  have k:=K.out
  rw [Px,Ty] at k
  exact k
 | cons n r =>
  rw [he] at q
  simp only [List.head?_cons,Na] at q
  have K:=Hid.mk (key (n :: r) [(0,.func (.yield L) #[] #[]),(1,.pointer (some ⟨bx,0,none⟩)),(3,.int .i64 (n:Int)),(4,.bool true)] he rfl rfl ⟨rfl,rfl⟩)
  clear key he H0 HJ HS Hst
  simp -dsimp (disch:=omega) only [↓EA,EB,Nat.reduceEqDiff,↓reduceIte,reduceCtorEq,eq_self, *]
  have k:=K.out
  rw [Px,Ty] at k
  exact k
end Go.L.Try
namespace Go.L.Try
open Go Go.L
variable {E:Env} {G:Nat}
def A6c (E:Env) (g:Value) (base:Aa→Prop) (vals:List (List Value)):Prop :=
 ∀ (h1:Aa) (L:Nat) (W:Nat→Prop) (J:Nat→Aa→Prop) (Stop:Aa→Prop),(∀ k h,J k h→base h)→J 0 h1→(∀ k h h3,J k h→Tr h1 h h3→J k h3)→(∀ h h3,Stop h→Tr h1 h h3→Stop h3) →
  (∀ k h a,vals[k]? = some a→J k h→WX W (callW E (.func (.yield L) #[] #[]) a h) (fun v h' => (v = .bool true∧J (k+1) h')∨(v = .bool false∧Stop h'))) →
  WX W (callW E g [.func (.yield L) #[] #[]] h1) (fun _ h' => J vals.length h'∨Stop h')
theorem As0 (hE:Aw E) (hZ:Dy E G) {w:List Nat} (hw:okM w) (bx:Nat) :
  A6c E (.func (.func Bk) #[] #[.pointer (some ⟨bx,0,none⟩)]) (fun h => h[bx]? = some (.cells (Fy w) false)∧Tab G h) ((Al w 0).map fun n:Nat => [.int .i64 (n:Int)]):=by
 intro h1 L W J Stop hJ h0 hJT hS step
 refine A5r hE.keep hE.Pm rfl (by simp) ?_
 obtain ⟨hb1,ht1⟩:=hJ 0 h1 h0
 have q:=Abm hE hZ ht1 hw
 have hl:=Fa hw
 have ho:=G3 w
 have htk:=Ji hw
 simp only [List.cons_append,List.nil_append,Ak]
 have HJ:=Hid.mk hJ
 have HJT:=Hid.mk hJT
 have HS:=Hid.mk hS
 have Hst:=Hid.mk step
 have H0:=Hid.mk h0
 clear hJ hS step h0 hJT
 generalize hvals:(Al w 0).map (fun n:Nat => [Value.int .i64 (n:Int)])=vals at *
 rw [Yv] at q
 have key:∀ (e:List Nat) (fr:Fr),Al w 0=e→get fr 0 = .func (.yield L) #[] #[]→get fr 1 = .pointer (some ⟨bx,0,none⟩)→(match e with | [] => get fr 4 = .bool false | n :: _ => get fr 3 = .int .i64 (n:Int)∧get fr 4 = .bool true) →
   WO W (code (callW E) iterW 21 (.block 0 (.loop Cp)) fr h1) (Res [] fun v h' => Ae (List.length h1) 4 v=true∧∀ h3,Tr h1 h' h3→(J vals.length h3∨Stop h3)):=by
  intro e fr he g0 g1 g34
  (repeat' simp -dsimp (disch:=omega) only [↓EA, *])
  refine WO.loop (α:=Nat × List Nat) (fun s fr h' => (Al w 0).drop s.1=s.2∧s.1+s.2.length=(Al w 0).length∧J s.1 h'∧get fr 0 = .func (.yield L) #[] #[]∧get fr 1 = .pointer (some ⟨bx,0,none⟩)∧(match s.2 with | [] => get fr 4 = .bool false | n :: r => get fr 3 = .int .i64 (n:Int)∧get fr 4 = .bool true)∧∀ n r,s.2=n :: r→r=Al w (n+1)∧n<1024) (fun s => s.2.length) ?_ (0,e) ⟨he,by rw [he];simp,H0.out,g0,g1,g34,fun n r h => Nl _ rfl (he.trans h)⟩
  rintro ⟨k,e⟩ fr h' ⟨hd,hkl,hj,g0,g1,g34,hcons⟩
  dsimp only at hd hkl hj g34 hcons
  obtain ⟨hb,ht⟩:=HJ.out k h' hj
  clear he q H0 ht1 hb1
  unfold Cp
  cases e with
  | nil =>
   dsimp only at g34
   have hk:k=vals.length:=by rw [← hvals,List.length_map,← hkl];rfl
   subst hk
   have Hj:=Hid.mk hj
   clear hj hd hkl hcons
   (repeat' simp -dsimp (disch:=omega) only [↓EA,EB,Nat.reduceEqDiff,↓reduceIte,reduceCtorEq,eq_self, *])
   exact fun h3 ht => .inl (HJT.out _ _ _ Hj.out ht)
  | cons n r =>
   dsimp only at g34
   obtain ⟨g3,g4⟩:=g34
   obtain ⟨hr,hn⟩:=hcons n r rfl
   have hv:vals[k]? = some [.int .i64 (n:Int)]:=by
    have h1:(Al w 0)[k]? = some n:=by
     have:((Al w 0).drop k)[0]? = some n:=by rw [hd];rfl
     rw [List.getElem?_drop,Nat.add_zero] at this;exact this
    rw [← hvals,List.getElem?_map,h1];rfl
   have hst:=Hid.mk (Hst.out k h' _ hv hj)
   have Hd:=Hid.mk hd
   have Hc:=Hid.mk hcons
   clear hd hcons hv hj Hst
   simp only [List.length_cons] at hkl
   (repeat' simp -dsimp (disch:=omega) only [↓EA,EB,Nat.reduceEqDiff,↓reduceIte,reduceCtorEq,eq_self, *])
   refine WX.mono hst.out (fun b h => h) fun v h2 hx => ?_
   rcases hx with ⟨rfl,hj2⟩ | ⟨rfl,hs2⟩
   ·obtain ⟨hb2,ht2⟩:=HJ.out (k+1) h2 hj2
    have q2:=Av9 hE hZ ht2 hw (n:=(n:Int)) (by omega)
    have en:Sj w (n:Int)=r.head?:=by
     unfold Sj;rw [show (max (n:Int) (-1)+1).toNat=n+1 by omega,← hr]
    rw [en] at q2
    have Hj2:=Hid.mk hj2
    have Hr:=Hid.mk hr
    clear hj2 hr hst ht2 en hb ht
    have hd2:(Al w 0).drop (k+1)=r:=by rw [← List.drop_drop,Hd.out];rfl
    have Hd2:=Hid.mk hd2
    clear hd2
    cases r with
    | nil =>
     simp only [List.head?_nil,Na] at q2
     (repeat' simp -dsimp (disch:=omega) only [↓EA,EB,Nat.reduceEqDiff,↓reduceIte,reduceCtorEq,eq_self, *])
     exact Next.mk (k+1,[]) ⟨Hd2.out,by simpa using hkl,Hj2.out,rfl,rfl,rfl,fun n r h => by cases h⟩ (by simp)
    | cons m r2 =>
     simp only [List.head?_cons,Na] at q2
     (repeat' simp -dsimp (disch:=omega) only [↓EA,EB,Nat.reduceEqDiff,↓reduceIte,reduceCtorEq,eq_self, *])
     refine Next.mk (k+1,m :: r2) ⟨Hd2.out,by simp only [List.length_cons] at hkl ⊢;omega,Hj2.out,rfl,rfl,⟨rfl,rfl⟩,fun n' r' h => ?_⟩ (by simp)
     exact Nl _ rfl (Hr.out.symm.trans h)
   ·have Hs2:=Hid.mk hs2
    clear hs2 hst
    (repeat' simp -dsimp (disch:=omega) only [↓EA,EB,Nat.reduceEqDiff,↓reduceIte,reduceCtorEq,eq_self, *])
    exact fun h3 ht => .inr (HS.out _ _ Hs2.out ht)
 clear hvals
 cases he:Al w 0 with
 | nil =>
  rw [he] at q
  simp only [List.head?_nil,Na] at q
  have K:=Hid.mk (key [] [(0,.func (.yield L) #[] #[]),(1,.pointer (some ⟨bx,0,none⟩)),(3,.int .i64 0),(4,.bool false)] he rfl rfl rfl)
  clear key he H0 HJ HS Hst HJT
  simp -dsimp (disch:=omega) only [↓EA,EB,Nat.reduceEqDiff,↓reduceIte,reduceCtorEq,eq_self, *]
  have k:=K.out
  rw [Px,Ty] at k
  exact k
 | cons n r =>
  rw [he] at q
  simp only [List.head?_cons,Na] at q
  have K:=Hid.mk (key (n :: r) [(0,.func (.yield L) #[] #[]),(1,.pointer (some ⟨bx,0,none⟩)),(3,.int .i64 (n:Int)),(4,.bool true)] he rfl rfl ⟨rfl,rfl⟩)
  clear key he H0 HJ HS Hst HJT
  simp -dsimp (disch:=omega) only [↓EA,EB,Nat.reduceEqDiff,↓reduceIte,reduceCtorEq,eq_self, *]
  have k:=K.out
  rw [Px,Ty] at k
  exact k
end Go.L.Try
