/- WORDS, AS THE PROGRAM SCANS THEM. -/
import Derived.Test.YtifnlcajancfdaaGreatDoorPa
import Derived.Test.YtifnlcajancfdaaGreatDoorPb
set_option linter.unusedVariables false
set_option linter.unusedSimpArgs false
set_option maxRecDepth 100000
set_option maxHeartbeats 1000000
namespace Go.L.Try
open Go Go.L
variable {E:Env}
theorem A1e {q:EqK} {c:UInt8}:binOp .or q (.int .u8 (c.toNat:Int)) (.int .u8 32)=some (.int .u8 ((c.toNat ||| 32:Nat):Int)):=by
 have hlt:c.toNat<256:=c.toNat_lt
 have hor:c.toNat ||| 32<256:=Nat.or_lt_two_pow (n:=8) hlt (by decide)
 have e1:BitVec.ofInt 8 (c.toNat:Int)=BitVec.ofNat 8 c.toNat:=by simp
 have e:((BitVec.ofInt 8 (c.toNat:Int)) ||| (BitVec.ofInt 8 32)).toNat=c.toNat ||| 32:=by
  have e2:BitVec.ofInt 8 32=BitVec.ofNat 8 32:=by decide
  rw [e1,e2,BitVec.toNat_or,BitVec.toNat_ofNat,BitVec.toNat_ofNat,Nat.mod_eq_of_lt hlt]
 have e3:binOp .or q (.int .u8 (c.toNat:Int)) (.int .u8 32)=some (.int .u8 (IntKind.u8.wrap (((BitVec.ofInt 8 (c.toNat:Int)) ||| (BitVec.ofInt 8 32)).toNat:Nat))):=by simp only [binOp,Fe,if_true];rfl
 rw [e3,e,Afc (by omega) (by omega)]
theorem Ai8:∀ n:Nat,n<256→(decide ((97≤n ||| 32∧n ||| 32≤122)∨n=95) == decide ((97≤n∧n≤122)∨(65≤n∧n≤90)∨n=95))=true:=by
 have h:(List.range 256).all (fun n => decide ((97≤n ||| 32∧n ||| 32≤122)∨n=95) == decide ((97≤n∧n≤122)∨(65≤n∧n≤90)∨n=95))=true:=by decide +kernel
 intro n hn
 exact List.all_eq_true.1 h n (List.mem_range.2 hn)
theorem Apb (hE:Aw E) (h:Aa) (c:UInt8):callW E (.func (.func F5) #[] #[]) [.int .u8 c.toNat] h=some (.bool (Le c),h,[]):=by
 have hlt:c.toNat<256:=c.toNat_lt
 have hb:=eq_of_beq (Ai8 c.toNat hlt)
 have e:Le c=decide ((97≤c.toNat ||| 32∧c.toNat ||| 32≤122)∨c.toNat=95):=by unfold Le;exact hb.symm
 rw [e]
 clear hb e
 refine Am hE.Ahh rfl (by simp) ?_
 simp only [Ak]
 generalize hx:c.toNat ||| 32=x
 have hor:=@A1e .other c
 rw [hx] at hor
 clear hx
 (repeat' (first | (with_reducible refine A1 (fun _ => ?_) (fun _ => ?_)<;>try (exfalso;omega)) | (with_reducible refine A2 (fun _ => ?_) (fun _ => ?_)<;>try (exfalso;omega)) | simp -dsimp (disch:=omega) only [↓EA,EB,Nat.reduceEqDiff,↓reduceIte,reduceCtorEq,eq_self, *]))
 all_goals (congr 1;first | (rw [decide_eq_decide];omega) | (symm;rw [decide_eq_true_eq];omega) | (symm;rw [decide_eq_false_iff_not];omega))
theorem A4b (hE:Aw E) (h:Aa) (c:UInt8):callW E (.func (.func Ju) #[] #[]) [.int .u8 c.toNat] h=some (.bool (Agd c),h,[]):=by
 refine Am hE.Ak9 rfl (by simp) ?_
 simp only [Ak]
 (repeat' (first | (with_reducible refine A1 (fun _ => ?_) (fun _ => ?_)<;>try (exfalso;omega)) | simp -dsimp (disch:=omega) only [↓EA,EB,Nat.reduceEqDiff,↓reduceIte,reduceCtorEq,eq_self, *]))
 all_goals (unfold Agd;congr 1;first | (rw [decide_eq_decide];omega) | (symm;rw [decide_eq_true_eq];omega) | (symm;rw [decide_eq_false_iff_not];omega))
theorem A47 (hE:Aw E) (h:Aa) (c:UInt8):callW E (.func (.func Gs) #[] #[]) [.int .u8 c.toNat] h=some (.bool (J0 c),h,[]):=by
 have q1:=Apb hE h c
 have q2:=A4b hE h c
 refine Am hE.Arc rfl (by simp) ?_
 simp only [Ak]
 unfold J0
 cases hl:Le c<;>cases hd:Agd c
 all_goals
  rw [hl] at q1
  rw [hd] at q2
  (repeat' (first | (with_reducible refine A3 (fun _ => ?_) (fun _ => ?_)<;>try (exfalso;omega)) | simp -dsimp (disch:=omega) only [↓EA,EB,Nat.reduceEqDiff,↓reduceIte,reduceCtorEq,eq_self, *]))
 all_goals first | rfl | (congr 1;simp;done) | (congr 1;simp;omega)
theorem A45 (hE:Aw E) (h:Aa) {s:ByteArray} (hs:s.size<1152921504606846976) :
  callW E (.func (.func Lk) #[] #[]) [.string s,.func (.func Gs) #[] #[]] h=some (.int .i64 (runEnd J0 s 0:Nat),h,[]):=by
 refine Am hE.Arb rfl (by simp) ?_
 simp only [Ak]
 (repeat' simp -dsimp (disch:=omega) only [↓EA,EB,Nat.reduceEqDiff,↓reduceIte,reduceCtorEq,eq_self, *])
 refine WO.loop (fun (n:Nat) fr h' => h'=h∧n≤s.size∧runEnd J0 s 0=runEnd J0 s n∧get fr 0 = .string s∧get fr 1 = .func (.func Gs) #[] #[]∧get fr 5 = .int .i64 n) (fun n => s.size - n) ?_ 0 ⟨rfl,Nat.zero_le _,rfl,rfl,rfl,rfl⟩
 rintro n fr h' ⟨rfl,hn,hr,g0,g1,g5⟩
 have Hr:=Hid.mk hr
 clear hr
 unfold Sz
 rcases Nat.lt_or_ge n s.size with hlt | hge
 ·have q:=A47 hE h' (Gf s (n:Int))
  have H1:=Hid.mk (fun hp => Ahm (p:=J0) hlt hp)
  have H2:=Hid.mk (fun hp => Ahl (p:=J0) hlt hp)
  have hix:∀ k:IntKind,Al3 (.string s) (.int k n)=some (.int .u8 ((Gf s n).toNat:Int)):=fun k => Aws (by omega) (by omega)
  cases hg:J0 (Gf s (n:Int))
  ·rw [hg] at q
   have e:=H2.out hg
   (repeat' (first | (with_reducible refine A3 (fun _ => ?_) (fun _ => ?_)<;>try (exfalso;omega)) | simp -dsimp (disch:=omega) only [↓EA,EB,Nat.reduceEqDiff,↓reduceIte,reduceCtorEq,eq_self, *]))
   rw [Hr.out,e]
  ·rw [hg] at q
   have Hs:=Hid.mk (H1.out hg)
   (repeat' (first | (with_reducible refine A3 (fun _ => ?_) (fun _ => ?_)<;>try (exfalso;omega)) | simp -dsimp (disch:=omega) only [↓EA,EB,Nat.reduceEqDiff,↓reduceIte,reduceCtorEq,eq_self, *]))
   exact Next.mk (n+1) ⟨rfl,by omega,by rw [Hr.out,Hs.out],rfl,rfl,rfl⟩ (by omega)
 ·have e:=Hid.mk (Ald (p:=J0) hge)
  (repeat' (first | (with_reducible refine A3 (fun _ => ?_) (fun _ => ?_)<;>try (exfalso;omega)) | simp -dsimp (disch:=omega) only [↓EA,EB,Nat.reduceEqDiff,↓reduceIte,reduceCtorEq,eq_self, *]))
  rw [Hr.out,e.out]
theorem Ata {s:ByteArray} (h0:0<s.size):Yi s=(Le (Gf s 0) && decide ((runEnd J0 s 0:Nat)=s.size)):=by
 have hl:=Te s
 cases hb:bs s with
 | nil => rw [hb] at hl;simp at hl;omega
 | cons c r =>
  have hc:Gf s 0=c:=by unfold Gf;rw [hb];rfl
  have hr:(runEnd J0 s 0:Nat)=((c :: r).takeWhile J0).length:=by unfold runEnd;rw [List.drop_zero,hb,Nat.zero_add]
  have hs:s.size=(c :: r).length:=by rw [← hb,Te]
  rw [hc,hr,hs]
  unfold Yi
  rw [hb]
  show (Le c && r.all J0)=_
  cases hlc:Le c
  ·rfl
  ·have hg:J0 c=true:=by unfold J0;rw [hlc];rfl
   have:decide (((c :: r).takeWhile J0).length=(c :: r).length)=(c :: r).all J0:=by
    rw [← Bool.coe_iff_coe,decide_eq_true_eq];exact Uf
   rw [this,List.all_cons,hg];rfl
theorem A4q (hE:Aw E) (h:Aa) {s:ByteArray} (hs:s.size<1152921504606846976) :
  callW E (.func (.func Ll) #[] #[]) [.string s] h=some (.bool (Yi s),h,[]):=by
 refine Am hE.Ard rfl (by simp) ?_
 simp only [Ak]
 rcases Nat.eq_zero_or_pos s.size with h0 | h0
 ·have e:bs s=[]:=List.length_eq_zero_iff.1 (by rw [Te];exact h0)
  have e2:bs ⟨#[]⟩=[]:=rfl
  (repeat' simp -dsimp (disch:=omega) only [↓EA,EB,Nat.reduceEqDiff,↓reduceIte,reduceCtorEq,eq_self, *,Ax1])
  all_goals simp [Yi,e]
 ·have e:bs s≠[]:=fun e => by rw [← Te,e] at h0;simp at h0
  have e2:bs ⟨#[]⟩=[]:=rfl
  have hix:∀ k:IntKind,Al3 (.string s) (.int k 0)=some (.int .u8 ((Gf s 0).toNat:Int)):=fun k => Aws (by omega) (by omega)
  have q1:=Apb hE h (Gf s 0)
  have q2:=A45 hE h hs
  rw [Ata h0]
  cases hl:Le (Gf s 0)
  ·rw [hl] at q1
   (repeat' simp -dsimp (disch:=omega) only [↓EA,EB,Nat.reduceEqDiff,↓reduceIte,reduceCtorEq,eq_self, *,Ax1])
   rfl
  ·rw [hl] at q1
   generalize runEnd J0 s 0=R at *
   (repeat' simp -dsimp (disch:=omega) only [↓EA,EB,Nat.reduceEqDiff,↓reduceIte,reduceCtorEq,eq_self, *,Ax1])
   congr 1
   rw [decide_eq_decide];omega
end Go.L.Try
set_option maxHeartbeats 2000000
namespace Go.L.Try
open Go Go.L
variable {E:Env}
theorem Tz {g:FuncId} {c:FnC} (hf:E g = .text c) (a b:Array Value) (args:List Value) (h:Aa):callW E (.func (.func g) a b) args h=callW E (.func (.func g) #[] #[]) (a.toList++args++b.toList) h:=by
 rw [Qv hf,Qu hf]
theorem Ayy (hE:Aw E) (h:Aa) (n:Int):callW E (.func (.func Bf) #[] #[]) [.int .i64 n] h=some (.bool (decide (0≤n∧n≤2147483647)),h,[]):=by
 refine Am hE.Ac2 rfl (by simp) ?_
 simp only [Ak]
 (repeat' (first | (with_reducible refine A1 (fun _ => ?_) (fun _ => ?_)<;>try (exfalso;omega)) | simp -dsimp (disch:=omega) only [↓EA,EB,Nat.reduceEqDiff,↓reduceIte,reduceCtorEq,eq_self, *]))
 all_goals first | rfl | (congr 1;first | (rw [decide_eq_decide];omega) | (symm;rw [decide_eq_true_eq];omega) | (symm;rw [decide_eq_false_iff_not];omega))
theorem Azy (hE:Aw E) {h:Aa} {t:Ab} (hs:t.name.size<1152921504606846976) {b c:Nat} (hb:h[b]? = some (.cells (A5 t) false)) (hc:h[c]? = some (.cells [.func (.func Bf) #[] #[]] false)) :
  callW E (.func (.func Fv) #[] #[.pointer (some ⟨b,0,none⟩),.pointer (some ⟨c,0,none⟩)]) [] h=some (.bool (decide (Ap t)),h,[]):=by
 have q:=A4q hE h hs
 have w1:=Ayy hE h
 unfold A5 at hb
 rw [Tz hE.Ue]
 have e:decide (Ap t)=(Yi t.name && decide (t.name.size≤32∧(1≤t.C∧t.C≤2147483647)∧(1≤t.T∧t.T≤2147483647)∧(1≤t.D∧t.D≤2147483647)∧(1≤t.Q∧t.Q≤2147483647)∧(0≤t.J∧t.J≤2147483647)∧1≤t.P∧t.P≤1048576)):=by
  rw [Bool.eq_iff_iff,Bool.and_eq_true,decide_eq_true_iff,decide_eq_true_iff];exact Iff.rfl
 rw [e]
 clear e
 generalize hX:decide (t.name.size≤32∧(1≤t.C∧t.C≤2147483647)∧(1≤t.T∧t.T≤2147483647)∧(1≤t.D∧t.D≤2147483647)∧(1≤t.Q∧t.Q≤2147483647)∧(0≤t.J∧t.J≤2147483647)∧1≤t.P∧t.P≤1048576)=X
 replace hX:=Hid.mk hX
 refine Am hE.Ue rfl (by simp) ?_
 simp only [List.nil_append,List.append_nil,Ak]
 cases hw:Yi t.name
 ·rw [hw] at q
  (repeat' simp -dsimp (disch:=omega) only [↓EA,EB,Nat.reduceEqDiff,↓reduceIte,reduceCtorEq,eq_self, *])
  rfl
 ·rw [hw] at q
  (repeat' (first | (with_reducible refine A1 (fun _ => ?_) (fun _ => ?_)<;>try (exfalso;omega)) | simp -dsimp (disch:=omega) only [↓EA,EB,Nat.reduceEqDiff,↓reduceIte,reduceCtorEq,eq_self, *]))
  all_goals
   congr 1
   rw [← hX.out]
   first | exact decide_eq_decide.2 (by omega) | exact (decide_eq_false (by omega)).symm | exact (decide_eq_true (by omega)).symm
theorem A5t (hE:Aw E) {h:Aa} {t:Ab} (ht:Ap t) {b:Nat} (hb:h[b]? = some (.cells (A5 t) false)) :
  callW E (.func (.func Fu) #[] #[.pointer (some ⟨b,0,none⟩)]) [] h=some (.bool (decide (Eg t)),h,[]):=by
 unfold A5 at hb
 rw [Tz hE.Ud]
 simp only [Ap] at ht
 have hC:=ht.2.2.1
 have hJ:=ht.2.2.2.2.2.2.1
 clear ht
 refine Am hE.Ud rfl (by simp) ?_
 simp only [List.nil_append,List.append_nil,Ak]
 (repeat' (first | (with_reducible refine A1 (fun _ => ?_) (fun _ => ?_)<;>try (exfalso;omega)) | simp -dsimp (disch:=omega) only [↓EA,EB,Nat.reduceEqDiff,↓reduceIte,reduceCtorEq,eq_self, *]))
 all_goals
  congr 1
  first | exact decide_eq_decide.2 (by unfold Eg;omega) | exact (decide_eq_false (by unfold Eg;omega)).symm | exact (decide_eq_true (by unfold Eg;omega)).symm
def Af9 (b0 b1:Bool) (e0 e1:Int):Int:=if b0 then if b1 then 0 else e1 else e0
theorem A36 (hE:Aw E) {h:Aa} {f0 f1:Value} {b0 b1:Bool} {e0 e1:Int} (h0:Bl f0=[f0]) (h1:Bl f1=[f1]) (o0:Ah f0=true) (o1:Ah f1=true) (q0:∀ x,callW E f0 [] (h++x)=some (.bool b0,h++x,[])) (q1:b0=true→∀ x,callW E f1 [] (h++x)=some (.bool b1,h++x,[])) :
  callW E (.func (.func Jr) #[] #[]) [.agg #[f0,.int .i64 e0,f1,.int .i64 e1]] h=some (.int .i64 (Af9 b0 b1 e0 e1),h,[]):=by
 refine Am hE.Akt rfl (by simp) ?_
 simp only [Ak]
 (repeat' simp -dsimp (disch:=omega) only [↓EA,EB,Nat.reduceEqDiff,Nat.reduceAdd,↓reduceIte,Ac,eq_self, *])
 replace q1:=Hid.mk q1
 have hst:Af9 b0 b1 e0 e1=if b0 then if b1 then 0 else e1 else e0:=rfl
 replace hst:=Hid.mk hst
 refine WO.loop (fun (n:Nat) fr h' => (∃ x,h'=h++x)∧n≤2∧(1≤n→b0=true)∧(2≤n→b1=true)∧get fr 3 = .int .i64 0∧get fr 6 = .agg #[f0,.int .i64 e0,f1,.int .i64 e1]∧get fr 7 = .int .i64 n) (fun n => 2 - n) ?_ 0 ⟨⟨_,rfl⟩,by omega,fun h => by omega,fun h => by omega,rfl,rfl,rfl⟩
 rintro n fr h' ⟨⟨x,rfl⟩,hn,c1,c2,g3,g6,g7⟩
 unfold Rc
 have ix0:A0r 2 2 (some 2) (.agg #[f0,.int .i64 e0,f1,.int .i64 e1]) (.int .i64 0)=some (.agg #[f0,.int .i64 e0]):=rfl
 have ix1:A0r 2 2 (some 2) (.agg #[f0,.int .i64 e0,f1,.int .i64 e1]) (.int .i64 1)=some (.agg #[f1,.int .i64 e1]):=rfl
 rcases n with _ | _ | n
 ·replace g7:get fr 7 = .int .i64 0:=g7
  clear c1 c2
  cases b0
  ·(repeat' (first | (with_reducible refine A3 (fun _ => ?_) (fun _ => ?_)<;>try (exfalso;omega)) | simp -dsimp (disch:=omega) only [↓EA,EB,Nat.reduceEqDiff,Nat.reduceAdd,↓reduceIte,reduceCtorEq,Ac,eq_self, *]))
   rw [hst.out];rfl
  ·(repeat' (first | (with_reducible refine A3 (fun _ => ?_) (fun _ => ?_)<;>try (exfalso;omega)) | simp -dsimp (disch:=omega) only [↓EA,EB,Nat.reduceEqDiff,Nat.reduceAdd,↓reduceIte,Ac,eq_self, *]))
   exact Next.mk 1 ⟨⟨_,rfl⟩,by omega,fun _ => rfl,fun h => by omega,rfl,rfl,rfl⟩ (by omega)
 ·replace g7:get fr 7 = .int .i64 1:=g7
  have hb:=c1 (by omega)
  subst hb
  clear c1 c2
  have q2:=q1.out rfl
  cases b1
  ·(repeat' (first | (with_reducible refine A3 (fun _ => ?_) (fun _ => ?_)<;>try (exfalso;omega)) | simp -dsimp (disch:=omega) only [↓EA,EB,Nat.reduceEqDiff,Nat.reduceAdd,↓reduceIte,reduceCtorEq,Ac,eq_self, *]))
   rw [hst.out];rfl
  ·(repeat' (first | (with_reducible refine A3 (fun _ => ?_) (fun _ => ?_)<;>try (exfalso;omega)) | simp -dsimp (disch:=omega) only [↓EA,EB,Nat.reduceEqDiff,Nat.reduceAdd,↓reduceIte,Ac,eq_self, *]))
   exact Next.mk 2 ⟨⟨_,rfl⟩,by omega,fun _ => rfl,fun _ => rfl,rfl,rfl,rfl⟩ (by omega)
 ·have hb:=c1 (by omega)
  have hb2:=c2 (by omega)
  obtain rfl:n=0:=by omega
  subst hb hb2
  clear c1 c2
  (repeat' (first | (with_reducible refine A3 (fun _ => ?_) (fun _ => ?_)<;>try (exfalso;omega)) | simp -dsimp (disch:=omega) only [↓EA,EB,Nat.reduceEqDiff,Nat.reduceAdd,↓reduceIte,eq_self, *]))
  rw [hst.out];rfl
theorem A4g (hE:Aw E) (h:Aa) (t:Ab) (hs:t.name.size<1152921504606846976) :
  callW E (.func (.func Js) #[] #[]) [.agg (A5 t).toArray] h=some (.int .i64 (Lx t),h,[]):=by
 have hg:=fun H f0 f1 b0 b1 e0 e1 => @A36 E hE H f0 f1 b0 b1 e0 e1
 have e:Lx t=Af9 (decide (Ap t)) (decide (Eg t)) 11 12:=by
  unfold Lx Af9
  by_cases h1:Ap t<;>by_cases h2:Eg t<;>simp [h1,h2]
 rw [e]
 clear e
 refine Am hE.Akv rfl (by simp) ?_
 simp only [Ak]
 unfold A5
 have Hg:=Hid.mk hg
 clear hg
 (repeat' simp -dsimp (disch:=omega) only [↓EA,EB,Nat.reduceEqDiff,Nat.reduceAdd,Nat.reduceLeDiff,↓reduceIte,Ac,eq_self, *])
 have eH:(h++[LObj.cells [.string t.name,.int .i64 t.C,.int .i64 t.T,.int .i64 t.D,.int .i64 t.J,.int .i64 t.Q,.int .i64 t.P] false,LObj.cells [.func (.func Bf) #[] #[]] false])=h++[LObj.cells (A5 t) false,LObj.cells [.func (.func Bf) #[] #[]] false]:=rfl
 have hb:∀ x,((h++[LObj.cells (A5 t) false,LObj.cells [.func (.func Bf) #[] #[]] false])++x)[h.length]? = some (.cells (A5 t) false):=fun x => by rw [List.append_assoc,Bm];rfl
 have hc:∀ x,((h++[LObj.cells (A5 t) false,LObj.cells [.func (.func Bf) #[] #[]] false])++x)[h.length+1]? = some (.cells [.func (.func Bf) #[] #[]] false):=fun x => by rw [List.append_assoc,Kr];rfl
 have hf:=Hg.out (h++[LObj.cells (A5 t) false,LObj.cells [.func (.func Bf) #[] #[]] false]) _ _ _ _ 11 12 rfl rfl rfl rfl (fun x => Azy hE hs (hb x) (hc x)) (fun hr x => A5t hE (of_decide_eq_true hr) (hb x))
 rw [eH]
 clear eH hb hc
 (repeat' simp -dsimp (disch:=omega) only [↓EA,EB,↓reduceIte,eq_self, *])
end Go.L.Try
namespace Go.L.Try
open Go Go.L
variable {E:Env}
theorem Acr (s t:ByteArray):(s == t)=decide (s=t):=by
 cases s with | mk x =>
 cases t with | mk y =>
 have e:((⟨x⟩:ByteArray) == ⟨y⟩)=(x == y):=rfl
 rw [e];by_cases h:x=y<;>simp [h]
def Ako (es:List (Value × Value)):Prop:=∀ e∈es,∃ s,e.1 = .string s
def Zo:List (Value × Value)→ByteArray→Option Value
 | [],_ => none
 | (.string a,v) :: r,s => if s=a then some v else Zo r s
 | _ :: r,s => Zo r s
theorem Ajo:∀ {es:List (Value × Value)},Ako es→∀ s,find .str (.string s) es=some (Zo es s)
 | [],_,_ => rfl
 | (x,v) :: r,hk,s => by
  obtain ⟨a,rfl⟩:=hk (x,v) (by simp)
  have ih:=Ajo (es:=r) (fun e he => hk e (by simp [he])) s
  simp only [find,B0,Gm,Option.bind_some,Zo]
  by_cases h:s=a
  ·simp [h,Acr]
  ·have:(s == a)=false:=by rw [Acr];exact decide_eq_false h
   simp [h,this,ih]
theorem And (v:Value):∀ {es:List (Value × Value)},Ako es→∀ s,∃ es',Ow .str (.string s) v es=some es'∧Ako es'∧∀ j,Zo es' j=if j=s then some v else Zo es j
 | [],_,s => ⟨_,rfl,fun e he => by rw [List.mem_singleton.1 he];exact ⟨s,rfl⟩,fun j => rfl⟩
 | (x,u) :: r,hk,s => by
  obtain ⟨a,rfl⟩:=hk (x,u) (by simp)
  obtain ⟨es',h1,h2,h3⟩:=And v (es:=r) (fun e he => hk e (by simp [he])) s
  by_cases h:s=a
  ·subst h
   refine ⟨(.string s,v) :: r,by simp [Ow,B0,Gm,Acr],fun e he => ?_,fun j => ?_⟩
   ·rcases List.mem_cons.1 he with rfl | he
    ·exact ⟨s,rfl⟩
    ·exact hk e (by simp [he])
   ·simp only [Zo];split<;>rfl
  ·have hb:(s == a)=false:=by rw [Acr];exact decide_eq_false h
   refine ⟨(.string a,u) :: es',by simp [Ow,B0,Gm,hb,h1],fun e he => ?_,fun j => ?_⟩
   ·rcases List.mem_cons.1 he with rfl | he
    ·exact ⟨a,rfl⟩
    ·exact h2 e he
   ·simp only [Zo,h3]
    by_cases hj:j=a
    ·subst hj;rw [if_pos rfl,if_pos rfl,if_neg (fun e => h e.symm)]
    ·rw [if_neg hj,if_neg hj]
theorem Apd {s:ByteArray}:Sp .str (.string s)=true:=by simp [Sp,B0,Gm,Acr]
theorem Al0 {es:List (Value × Value)} (hk:Ako es) (z:Value) (s:ByteArray):lkO .str z (.string s) false (some (.map es))=some ((Zo es s).getD z):=by
 simp only [lkO,Apd,if_true,Ajo hk,Option.map_some]
 cases Zo es s<;>rfl
theorem A3q {s:ByteArray} {v:Value} {es es':List (Value × Value)} (h1:Ow .str (.string s) v es=some es') (h:Aa) (r:Nat):mpO .str (.string s) v h r (some (.map es))=some (undef,h.set r (.map es'),[r]):=by
 simp only [mpO,Apd,if_true,h1,Option.map_some]
def cntN (l:List Ab):Nat→ByteArray→Int
 | 0,_ => 0
 | n+1,s => cntN l n s+if (atI l (n:Int)).name=s then 1 else 0
def cntP (l:List Ab):Nat→Int→Int
 | 0,_ => 0
 | n+1,p => cntP l n p+if (atI l (n:Int)).P=p then 1 else 0
theorem Agi (l:List Ab) (s:ByteArray):∀ n:Nat,0≤cntN l n s∧cntN l n s≤n
 | 0 => by simp [cntN]
 | n+1 => by have:=Agi l s n;unfold cntN;split<;>omega
theorem Agh (l:List Ab) (p:Int):∀ n:Nat,0≤cntP l n p∧cntP l n p≤n
 | 0 => by simp [cntP]
 | n+1 => by have:=Agh l p n;unfold cntP;split<;>omega
theorem A4i {s t:ByteArray}:bs s=bs t↔s=t:=⟨A4h,fun h => by rw [h]⟩
theorem Aev (l:List Ab) (i:Int):∀ k:Nat,Uk l i k=decide (1≤cntN l k (atI l i).name∨1≤cntP l k (atI l i).P)
 | 0 => by simp [Uk,cntN,cntP]
 | k+1 => by
  have h1:=Agi l (atI l i).name k
  have h2:=Agh l (atI l i).P k
  unfold Uk cntN cntP
  rw [Aev l i k,Bool.eq_iff_iff,Bool.or_eq_true,decide_eq_true_iff,decide_eq_true_iff,decide_eq_true_iff,A4i]
  generalize cntN l k (atI l i).name=x at *
  generalize cntP l k (atI l i).P=y at *
  by_cases a:(atI l (k:Int)).name=(atI l i).name<;>by_cases b:(atI l (k:Int)).P=(atI l i).P
  ·rw [if_pos a,if_pos b];exact ⟨fun _ => .inl (by omega),fun _ => .inr (.inl a)⟩
  ·rw [if_pos a,if_neg b];exact ⟨fun _ => .inl (by omega),fun _ => .inr (.inl a)⟩
  ·rw [if_neg a,if_pos b];exact ⟨fun _ => .inr (by omega),fun _ => .inr (.inr b)⟩
  ·rw [if_neg a,if_neg b,Int.add_zero,Int.add_zero];exact ⟨fun h => h.elim id fun h => (h.elim a b).elim,fun h => .inl h⟩
theorem Mw (hE:Aw E) {h:Aa} {vl:Value} {l:List Ab} (hl:Rd 7 A5 h vl l) (hs:∀ t∈l,t.name.size<1152921504606846976) :
  callW E (.func (.func Bw) #[] #[]) [vl] h=some (.tuple #[.int .i64 (Da l).1,.int .i64 (Da l).2],h,[]):=by
 refine Am hE.Ac3 rfl (by simp) ?_
 have few:=hl.few
 have hnn:=Ae
 simp only [Ak]
 unfold Da
 by_cases hc:l.length=0∨1024<l.length
 ·rw [if_pos hc]
  (repeat' (first | (with_reducible refine A2 (fun _ => ?_) (fun _ => ?_)<;>try (exfalso;omega)) | (with_reducible refine A3 (fun _ => ?_) (fun _ => ?_)<;>try (exfalso;omega)) | simp -dsimp (disch:=omega) only [↓EA,EB,Nat.reduceEqDiff,↓reduceIte,reduceCtorEq,eq_self, *,hl.len]))
 ·rw [if_neg hc]
  have hlen:1≤l.length∧l.length≤1024:=by omega
  clear hc hnn
  have Hfin:=Hid.mk (rfl:Ct l l.length 0=Ct l l.length 0)
  (repeat' (first | (with_reducible refine A2 (fun _ => ?_) (fun _ => ?_)<;>try (exfalso;omega)) | (with_reducible refine A3 (fun _ => ?_) (fun _ => ?_)<;>try (exfalso;omega)) | simp -dsimp (disch:=omega) only [↓EA,EB,Nat.reduceEqDiff,↓reduceIte,reduceCtorEq,eq_self, *,hl.len]))
  refine WO.loop (fun (n:Nat) fr h' => n≤l.length∧Ct l l.length 0=Ct l (l.length - n) n∧Pre h h'∧get fr 0=vl∧get fr 4 = .map (some h.length)∧get fr 5 = .map (some (h.length+1))∧get fr 19=vl∧get fr 20 = .int .i64 l.length∧get fr 21 = .int .i64 n∧∃ e1 e2,h'[h.length]? = some (.map e1)∧h'[h.length+1]? = some (.map e2)∧Ako e1∧Y8 .i64 e2∧(∀ s,(Zo e1 s).getD (.int .i64 0) = .int .i64 (cntN l n s))∧∀ p,(T7 .i64 e2 p).getD (.int .i64 0) = .int .i64 (cntP l n p)) (fun n => l.length - n) ?_ 0 ⟨Nat.zero_le _,rfl,Pre.app h _,rfl,rfl,rfl,rfl,rfl,rfl,[],[],by rw [Bm];rfl,by rw [Kr];rfl,(fun e he => nomatch he),(fun e he => nomatch he),fun s => rfl,fun p => rfl⟩
  rintro n fr h' ⟨hn,hcf,hp,g0,g4,g5,g19,g20,g21,e1,e2,m1,m2,k1,k2,c1,c2⟩
  have Hcf:=Hid.mk hcf
  clear hcf
  unfold No
  rcases Nat.lt_or_ge n l.length with hlt | hge
  ·have hl':=hl.pre hp
   have hm:=Aj (l:=l) (i:=(n:Int)) (by omega) (by omega)
   have q:=fun x => A4g hE (h'++x) (atI l (n:Int)) (hs _ hm)
   simp only [A5] at q
   have hstep:Ct l (l.length - n) n=if Lx (atI l (n:Int))≠0 then ((n:Int),Lx (atI l (n:Int))) else if Uk l (n:Int) n then ((n:Int),13) else Ct l (l.length - (n+1)) ((n:Int)+1):=by
    obtain ⟨k,hk⟩:∃ k,l.length - n=k+1:=⟨l.length - n - 1,by omega⟩
    rw [hk,show l.length - (n+1)=k by omega];rfl
   rw [Aev] at hstep
   have Hst:=Hid.mk hstep
   clear hstep
   have cn:=Agi l (atI l (n:Int)).name n
   have cp:=Agh l (atI l (n:Int)).P n
   have L1:=fun z => Al0 k1 z (atI l (n:Int)).name
   have hml:=hp.le
   have hml1:=(GI.1 m1).1
   have hml2:=(GI.1 m2).1
   obtain ⟨e1',p1,p2,p3⟩:=And (.int .i64 (cntN l n (atI l (n:Int)).name+1)) k1 (atI l (n:Int)).name
   obtain ⟨e2',r1,r2,r3⟩:=Zy (.int .i64 (cntP l n (atI l (n:Int)).P+1)) k2 (atI l (n:Int)).P
   have C1:=c1 (atI l (n:Int)).name
   have C2:=c2 (atI l (n:Int)).P
   have Hc1:=Hid.mk c1
   have Hc2:=Hid.mk c2
   have P3:=Hid.mk p3
   have R3:=Hid.mk r3
   have D1:(Zo e1' (atI l (n:Int)).name).getD (.int .i64 0) = .int .i64 (cntN l n (atI l (n:Int)).name+1):=by rw [p3,if_pos rfl];rfl
   have D2:(T7 .i64 e2' (atI l (n:Int)).P).getD (.int .i64 0) = .int .i64 (cntP l n (atI l (n:Int)).P+1):=by rw [r3,if_pos rfl];rfl
   have M1:=A3q p1
   have M2:=Alz r1
   have L2:=U1 k2
   have L3:=Al0 p2
   have L4:=U1 r2
   clear c1 c2 p3 r3 p1 r1 hm hs L1
   have L1:=Al0 k1
   have m1x:∀ x,(h'++x)[h.length]? = some (.map e1):=fun x => by rw [GL hml1];exact m1
   have m2x:∀ x,(h'++x)[h.length+1]? = some (.map e2):=fun x => by rw [GL hml2];exact m2
   clear m1 m2
   have G1:∀ x o,(List.set (h'++x) h.length o)[h.length]? = some o:=fun x o => B9 (by simp;omega)
   have G2:∀ x o o2,(List.set (List.set (h'++x) h.length o) (h.length+1) o2)[h.length+1]? = some o2:=fun x o o2 => B9 (by simp;omega)
   (repeat' (first | (with_reducible refine A2 (fun _ => ?_) (fun _ => ?_)<;>try (exfalso;omega)) | (with_reducible refine A3 (fun _ => ?_) (fun _ => ?_)<;>try (exfalso;omega)) | simp -dsimp (disch:=omega) only [↓EA,EB,Nat.reduceEqDiff,Nat.reduceAdd,↓reduceIte,reduceCtorEq,Ac,eq_self, *,hl'.ixs,hl'.lda,A5]))
   ·rw [Hcf.out,Hst.out,if_pos (by assumption)]
   ·rw [Hcf.out,Hst.out,if_neg (by omega),if_pos (decide_eq_true (by omega))]
   ·rw [Hcf.out,Hst.out,if_neg (by omega),if_pos (decide_eq_true (by omega))]
   ·refine Next.mk (n+1) ⟨by omega,?_,((hp.app' _).set (Nat.le_refl _) _).set (by omega) _,rfl,rfl,rfl,rfl,rfl,rfl,e1',e2',?_,G2 _ _ _,p2,r2,?_,?_⟩ (by omega)
    ·rw [Hcf.out,Hst.out,if_neg (by omega),if_neg (by rw [decide_eq_true_eq];omega)];rfl
    ·rw [Ba (by omega)];exact G1 _ _
    ·intro s
     rw [P3.out]
     by_cases hj:s=(atI l (n:Int)).name
     ·subst hj
      rw [if_pos rfl]
      show Value.int .i64 _=Value.int .i64 (cntN l n _+if _ then 1 else 0)
      rw [if_pos rfl]
     ·rw [if_neg hj,Hc1.out]
      show Value.int .i64 _=Value.int .i64 (cntN l n _+if _ then 1 else 0)
      rw [if_neg (fun e => hj e.symm),Int.add_zero]
    ·intro p
     rw [R3.out]
     by_cases hj:p=(atI l (n:Int)).P
     ·subst hj
      rw [if_pos rfl]
      show Value.int .i64 _=Value.int .i64 (cntP l n _+if _ then 1 else 0)
      rw [if_pos rfl]
     ·rw [if_neg hj,Hc2.out]
      show Value.int .i64 _=Value.int .i64 (cntP l n _+if _ then 1 else 0)
      rw [if_neg (fun e => hj e.symm),Int.add_zero]
  ·have e:n=l.length:=by omega
   subst e
   have e0:Ct l (l.length - l.length) l.length=((l.length:Int),0):=by rw [Nat.sub_self];rfl
   have E0:=Hid.mk e0
   clear e0
   (repeat' (first | (with_reducible refine A3 (fun _ => ?_) (fun _ => ?_)<;>try (exfalso;omega)) | simp -dsimp (disch:=omega) only [↓EA,EB,Nat.reduceEqDiff,↓reduceIte,reduceCtorEq,eq_self, *,hl.len]))
   rw [Hcf.out,E0.out]
end Go.L.Try
namespace Go.L.Try
open Go Go.L
variable {E:Env}
theorem Ara (hE:Aw E) {h:Aa} {vl:Value} {l:List Ab} (hl:Rd 7 A5 h vl l) (hs:∀ t∈l,t.name.size<1152921504606846976) :
  callW E (.func (.func Jt) #[] #[]) [vl] h=some (.bool (decide ((Da l).2=0)),h,[]):=by
 have q:=Mw hE hl hs
 refine Am hE.Ak7 rfl (by simp) ?_
 generalize (Da l).2=e at *
 simp only [Ak]
 (repeat' simp -dsimp (disch:=omega) only [↓EA,EB,Nat.reduceEqDiff,↓reduceIte,reduceCtorEq,eq_self, *])
theorem Of (hE:Aw E) (h:Aa) (n a b:Int):callW E (.func (.func Br) #[] #[]) [.int .i64 n,.int .i64 a,.int .i64 b] h=some (.bool (decide (a≤n∧n≤b)),h,[]):=by
 refine Am hE.Za rfl (by simp) ?_
 simp only [Ak]
 (repeat' (first | (with_reducible refine A1 (fun _ => ?_) (fun _ => ?_)<;>try (exfalso;omega)) | simp -dsimp (disch:=omega) only [↓EA,EB,Nat.reduceEqDiff,Nat.reduceAdd,↓reduceIte,reduceCtorEq,eq_self, *]))
 all_goals first | rfl | exact congrArg Value.bool (decide_eq_decide.2 (by omega)) | exact congrArg Value.bool (decide_eq_false (by omega)).symm | exact congrArg Value.bool (decide_eq_true (by omega)).symm
theorem Awl (hE:Aw E) (h:Aa) {j:Value} (hj:(Bl j).all Ah=true) (g:Value):callW E (.func (.func Cg) #[] #[]) [j,g] h=some (.tuple #[],h,[]):=by
 refine Am hE.Zb rfl (by simp) ?_
 simp only [Ak]
 (repeat' simp -dsimp (disch:=omega) only [↓EA,EB,↓reduceIte,Ac,eq_self, *])
def Fl (l:List Ab) (jobs:List Job) (n:Nat) (task:Int):Int:=if 0≤C4 jobs task n then (atI jobs (C4 jobs task n)).arrive+(atI l task).T else 0
theorem Aff (l:List Ab) (jobs:List Job) (n:Nat) (t:Int):Fl l jobs (n+1) t=if (atI jobs (n:Int)).task=t then (atI jobs (n:Int)).arrive+(atI l t).T else Fl l jobs n t:=by
 have e:C4 jobs t (n+1)=if (atI jobs (n:Int)).task=t then (n:Int) else C4 jobs t n:=rfl
 unfold Fl
 rw [e]
 by_cases h:(atI jobs (n:Int)).task=t
 ·rw [if_pos h,if_pos h,if_pos (by omega)]
 ·rw [if_neg h,if_neg h]
theorem Aek (l:List Ab) (jobs:List Job) (i:Nat):D0 l jobs i↔(0≤(atI jobs (i:Int)).task∧(atI jobs (i:Int)).task<l.length)∧(0≤(atI jobs (i:Int)).arrive∧(atI jobs (i:Int)).arrive≤17592186044416)∧(0≤C4 jobs (atI jobs (i:Int)).task i→Fl l jobs i (atI jobs (i:Int)).task≤(atI jobs (i:Int)).arrive)∧(atI jobs (i:Int)).arrive≤(atI jobs (i:Int)).release∧(atI jobs (i:Int)).release≤(atI jobs (i:Int)).arrive+(atI l (atI jobs (i:Int)).task).J∧1≤(atI jobs (i:Int)).work∧(atI jobs (i:Int)).work≤(atI l (atI jobs (i:Int)).task).C:=by
 unfold D0 Fl
 dsimp only
 constructor
 ·rintro ⟨a,b,c,d⟩;exact ⟨a,b,fun h => by rw [if_pos h];exact c h,d⟩
 ·rintro ⟨a,b,c,d⟩;exact ⟨a,b,fun h => by have:=c h;rw [if_pos h] at this;exact this,d⟩
theorem Aq6 (hE:Aw E) {W:Nat→Prop} {h0:Aa} {v0 v2 v8 v24 v25 v26:Value} {bj bt:Nat} {y0 y1 y2 y3 y4 y6 vc:Value} {q w:Int} {cuts:List Int} (hc:Rd 1 Gk h0 vc cuts) (hbt:h0[bt]? = some (.cells [y0,y1,y2,y3,y4,.int .i64 q,y6] false)) (hw:0≤w) (hw2:w≤2147483647) {Q:Ex→Fr→Aa→Prop} {fr:Fr}
  (g0:get fr 0=v0) (g2:get fr 2=v2) (g7:get fr 7 = .func (.func Br) #[] #[]) (g8:get fr 8=v8) (g10:get fr 10 = .pointer (some ⟨bj,0,none⟩)) (g11:get fr 11 = .pointer (some ⟨bt,0,none⟩)) (g12:get fr 12 = .int .i64 w) (g24:get fr 24=v24) (g25:get fr 25=v25) (g26:get fr 26=v26) (g80:get fr 80=vc) (g81:get fr 81 = .int .i64 cuts.length) (g82:get fr 82 = .int .i64 0)
  (hq1:Dl q cuts w=true→∀ fr',get fr' 0=v0→get fr' 2=v2→get fr' 7 = .func (.func Br) #[] #[]→get fr' 8=v8→get fr' 10 = .pointer (some ⟨bj,0,none⟩)→get fr' 11 = .pointer (some ⟨bt,0,none⟩)→get fr' 24=v24→get fr' 25=v25→get fr' 26=v26→Q (.exit 2) fr' h0)
  (hq2:Dl q cuts w=false→∀ fr',get fr' 6 = .bool false→Q .ret fr' h0) :
  WO W (iterW (code (callW E) iterW 117 J6) fr h0) Q:=by
 have few:=hc.few
 refine WO.loop (fun (c:Nat) fr h' => h'=h0∧c≤cuts.length∧get fr 0=v0∧get fr 2=v2∧get fr 7 = .func (.func Br) #[] #[]∧get fr 8=v8∧get fr 10 = .pointer (some ⟨bj,0,none⟩)∧get fr 11 = .pointer (some ⟨bt,0,none⟩)∧get fr 24=v24∧get fr 25=v25∧get fr 26=v26∧get fr 80=vc∧get fr 81 = .int .i64 cuts.length∧get fr 82 = .int .i64 c∧∃ left,get fr 12 = .int .i64 left∧0≤left∧left≤w∧Dl q cuts w=Dl q (cuts.drop c) left) (fun c => cuts.length - c) ?_ 0 ⟨rfl,Nat.zero_le _,g0,g2,g7,g8,g10,g11,g24,g25,g26,g80,g81,g82,w,g12,hw,Int.le_refl _,rfl⟩
 rintro c fr h' ⟨rfl,hcl,g0,g2,g7,g8,g10,g11,g24,g25,g26,g80,g81,g82,left,g12,l0,l1,hcut⟩
 unfold J6
 rcases Nat.lt_or_ge c cuts.length with hlt | hge
 ·have hstep:Dl q (cuts.drop c) left=(decide (1≤atI cuts (c:Int)∧atI cuts (c:Int)≤min q left) && Dl q (cuts.drop (c+1)) (left - atI cuts (c:Int))):=by
   rw [List.drop_eq_getElem_cons hlt,Dl,By hlt]
   congr 1
   exact decide_eq_decide.2 (by omega)
  rw [hstep] at hcut
  have qw:=Of hE h' (atI cuts (c:Int)) 1 (min q left)
  have Hcut:=Hid.mk hcut
  clear hcut hstep
  have hq2:=Hid.mk hq2
  clear hq1
  by_cases hcc:1≤atI cuts (c:Int)∧atI cuts (c:Int)≤min q left
  ·rw [decide_eq_true hcc] at qw
   have Hc:=Hid.mk hcc
   have hc2:atI cuts (c:Int)≤left:=by omega
   have hc1:=hcc.1
   clear hcc
   (repeat' (first | (with_reducible refine A3 (fun _ => ?_) (fun _ => ?_)<;>try (exfalso;omega)) | simp -dsimp (disch:=omega) only [↓EA,EB,Nat.reduceEqDiff,↓reduceIte,reduceCtorEq,eq_self, *,hc.ixs,hc.ld0,Gk]))
   exact Next.mk (c+1) ⟨rfl,by omega,rfl,rfl,rfl,rfl,rfl,rfl,rfl,rfl,rfl,rfl,rfl,rfl,_,rfl,by omega,by omega,by rw [Hcut.out,decide_eq_true Hc.out];rfl⟩ (by omega)
  ·rw [decide_eq_false hcc] at qw
   have Hc:=Hid.mk hcc
   clear hcc
   (repeat' (first | (with_reducible refine A3 (fun _ => ?_) (fun _ => ?_)<;>try (exfalso;omega)) | simp -dsimp (disch:=omega) only [↓EA,EB,Nat.reduceEqDiff,↓reduceIte,reduceCtorEq,eq_self, *,hc.ixs,hc.ld0,Gk]))
   exact hq2.out (by rw [Hcut.out,decide_eq_false Hc.out];rfl) _ rfl
 ·have e:cuts.drop c=[]:=List.drop_of_length_le (by omega)
  rw [e] at hcut
  have hq1:=hq1 hcut
  clear hcut e hq2
  (repeat' (first | (with_reducible refine A3 (fun _ => ?_) (fun _ => ?_)<;>try (exfalso;omega)) | simp -dsimp (disch:=omega) only [↓EA,EB,Nat.reduceEqDiff,↓reduceIte,reduceCtorEq,eq_self, *]))
  exact hq1 _ rfl rfl rfl rfl rfl rfl rfl rfl rfl
theorem Amr (l:List Ab) (jobs:List Job) (n:Nat):Ii l jobs (n+1)=(Ii l jobs n && E7 l jobs n):=rfl
theorem Ahf (hE:Aw E) {h:Aa} {v0 v1:Value} {l:List Ab} {jobs:List Job} (hl:Rd 7 A5 h v0 l) (hs:∀ t∈l,t.name.size<1152921504606846976) (hj:RdJ h v1 jobs) :
  callW E (.func (.func Gq) #[] #[]) [v0,v1,.func (.func Cg) #[] #[]] h=some (.bool (legalB l jobs),h,[]):=by
 refine Am hE.Afi rfl (by simp) ?_
 obtain ⟨lv,rfl,hlv,hc⟩:=hj.is
 have few:=hlv.few
 have fewl:=hl.few
 have hca:=Ara hE hl hs
 simp only [Ak]
 by_cases hok:(Da l).2=0
 ·by_cases hle:lv.length≤4096
  ·obtain ⟨hl0,hl1,hoks⟩:=Bc hok
   have hd:legalB l (lv.map (·.j))=Ii l (lv.map (·.j)) lv.length:=by simp [legalB,hok,hle]
   rw [hd]
   rw [decide_eq_true hok] at hca
   clear hd hok
   (repeat' (first | (with_reducible refine A3 (fun _ => ?_) (fun _ => ?_)<;>try (exfalso;omega)) | simp -dsimp (disch:=omega) only [↓EA,EB,Nat.reduceEqDiff,Nat.reduceAdd,↓reduceIte,reduceCtorEq,eq_self, *,hlv.len]))
   clear hca
   refine WO.loop (fun (n:Nat) fr h' => Pre h h'∧h.length<h'.length∧n≤lv.length∧get fr 0=v0∧get fr 2 = .func (.func Cg) #[] #[]∧get fr 7 = .func (.func Br) #[] #[]∧get fr 8 = .map (some h.length)∧get fr 24=v1∧get fr 25 = .int .i64 lv.length∧get fr 26 = .int .i64 n∧Ii l (lv.map (·.j)) n=true∧∃ es,h'[h.length]? = some (.map es)∧Y8 .i64 es∧∀ t:Int,0≤t→t<l.length→(T7 .i64 es t).getD (.int .i64 0) = .int .i64 (Fl l (lv.map (·.j)) n t)) (fun n => lv.length - n) ?_ 0 ⟨Pre.app h _,by simp,Nat.zero_le _,rfl,rfl,rfl,rfl,rfl,rfl,rfl,rfl,[],by rw [Bm];rfl,(fun e he => nomatch he),fun t _ _ => rfl⟩
   rintro n fr h' ⟨hp,hlt',hn,g0,g2,g7,g8,g24,g25,g26,hall,es,m1,k1,c1⟩
   have hl':=hl.pre hp
   have hlv':=hlv.pre hp
   have Hall:=Hid.mk hall
   clear hall
   unfold Oj
   rcases Nat.lt_or_ge n lv.length with hlt | hge
   ·have hmem:=Aj (l:=lv) (i:=n) (by omega) (by omega)
    have hcn:=(hc _ hmem).pre hp
    have e2:atI (lv.map (·.j)) (n:Int)=(atI lv n).j:=(Tg (fun p:NV Job => p.j) lv n (by omega) (by omega)).symm
    have hnums:=Aek l (lv.map (·.j)) n
    have hss:=fun t => Aff l (lv.map (·.j)) n t
    rw [e2] at hnums
    simp only [e2] at hss
    have hsn:0≤C4 (lv.map (·.j)) (atI lv n).j.task n→0≤Fl l (lv.map (·.j)) n (atI lv n).j.task∧Fl l (lv.map (·.j)) n (atI lv n).j.task≤17592186044416+2147483647:=fun hk => by
     have h5:=Pu (lv.map (·.j)) (atI lv n).j.task n
     have h1:=Th Hall.out (C4 (lv.map (·.j)) (atI lv n).j.task n).toNat (by omega)
     simp only [E7,Bool.and_eq_true,decide_eq_true_eq] at h1
     have h2:=(Aek _ _ _).1 h1.1
     rw [show ((C4 (lv.map (·.j)) (atI lv n).j.task n).toNat:Int)=C4 (lv.map (·.j)) (atI lv n).j.task n by omega] at h2
     have h6:=Nh hk
     rw [h6] at h2
     have h7:=(hoks _ (Aj h2.1.1 h2.1.2)).1
     simp only [Ap] at h7
     unfold Fl
     rw [if_pos hk]
     omega
    have hs0:¬ 0≤C4 (lv.map (·.j)) (atI lv n).j.task n→Fl l (lv.map (·.j)) n (atI lv n).j.task=0:=fun hk => by unfold Fl;rw [if_neg hk]
    have hsb:0≤Fl l (lv.map (·.j)) n (atI lv n).j.task∧Fl l (lv.map (·.j)) n (atI lv n).j.task≤17592186044416+2147483647:=by
     by_cases hk:0≤C4 (lv.map (·.j)) (atI lv n).j.task n
     ·exact hsn hk
     ·rw [hs0 hk];omega
    have Hn2:Hid (D0 l (lv.map (·.j)) n↔((0≤(atI lv n).j.task∧(atI lv n).j.task<l.length)∧(Fl l (lv.map (·.j)) n (atI lv n).j.task≤(atI lv n).j.arrive∧(atI lv n).j.arrive≤17592186044416)∧((atI lv n).j.arrive≤(atI lv n).j.release∧(atI lv n).j.release≤(atI lv n).j.arrive+(atI l (atI lv n).j.task).J)∧1≤(atI lv n).j.work∧(atI lv n).j.work≤(atI l (atI lv n).j.task).C)):=⟨by
     rw [hnums]
     constructor
     ·rintro ⟨a,b,c,d⟩
      refine ⟨a,⟨?_,b.2⟩,⟨d.1,d.2.1⟩,d.2.2⟩
      by_cases hk:0≤C4 (lv.map (·.j)) (atI lv n).j.task n
      ·exact c hk
      ·rw [hs0 hk];exact b.1
     ·rintro ⟨a,b,c,d⟩
      exact ⟨a,⟨by omega,b.2⟩,fun _ => b.1,c.1,c.2,d⟩⟩
    have Hjob:Hid (E7 l (lv.map (·.j)) n=(decide (D0 l (lv.map (·.j)) n) && Dl (atI l (atI lv n).j.task).Q (atI lv n).j.cuts (atI lv n).j.work)):=⟨by simp only [E7,e2]⟩
    have Hnot:Hid (E7 l (lv.map (·.j)) n=false→Ii l (lv.map (·.j)) lv.length=false):=⟨fun h => As1 hlt h⟩
    have Hss:=Hid.mk hss
    have hL:=U1 k1 (.int .i64 0) (atI lv n).j.task
    clear hss hnums hsn hs0 e2 hc hs
    generalize hS:Fl l (lv.map (·.j)) n (atI lv n).j.task=S at *
    by_cases hin:0≤(atI lv n).j.task∧(atI lv n).j.task<l.length
    ·have hC:=c1 _ hin.1 hin.2
     rw [hS] at hC
     have ht7:=(hoks _ (Aj hin.1 hin.2)).1
     simp only [Ap] at ht7
     have htT:=ht7.2.2.2.1
     have htC:=ht7.2.2.1
     have htJ:=ht7.2.2.2.2.2.2.1
     clear ht7 hoks
     rw [hC] at hL
     have w1:=fun x => Of hE (h'++x) (atI lv n).j.arrive S 17592186044416
     have w2:=fun x => Of hE (h'++x) (atI lv n).j.release (atI lv n).j.arrive ((atI lv n).j.arrive+(atI l (atI lv n).j.task).J)
     have w3:=fun x => Of hE (h'++x) (atI lv n).j.work 1 (atI l (atI lv n).j.task).C
     by_cases hx1:S≤(atI lv n).j.arrive∧(atI lv n).j.arrive≤17592186044416
     ·rw [decide_eq_true hx1] at w1
      by_cases hx2:(atI lv n).j.arrive≤(atI lv n).j.release∧(atI lv n).j.release≤(atI lv n).j.arrive+(atI l (atI lv n).j.task).J
      ·rw [decide_eq_true hx2] at w2
       by_cases hx3:1≤(atI lv n).j.work∧(atI lv n).j.work≤(atI l (atI lv n).j.task).C
       ·rw [decide_eq_true hx3] at w3
        have hdn:=Hid.mk (Hn2.out.2 ⟨hin,hx1,hx2,hx3⟩)
        have m1x:∀ x,(h'++x)[h.length]? = some (.map es):=fun x => by rw [GL hlt'];exact m1
        (repeat' (first | (with_reducible refine A2 (fun _ => ?_) (fun _ => ?_)<;>try (exfalso;omega)) | (with_reducible refine A3 (fun _ => ?_) (fun _ => ?_)<;>try (exfalso;omega)) | simp -dsimp (disch:=omega) only [↓EA,EB,Nat.reduceEqDiff,Nat.reduceAdd,↓reduceIte,reduceCtorEq,Ac,eq_self, *,hl'.len,hl'.ixs,hl'.ldxa,hlv'.ixs,hlv'.lda,Ia,hdJ,A5,hcn.len,hcn.one,hp.le,hp.le_add]))
        refine Aq6 hE (hcn.app _) (bj:=h'.length) (bt:=h'.length+1) (by rw [Kr];rfl) (by omega) (by omega) rfl rfl rfl rfl rfl rfl rfl rfl rfl rfl rfl rfl rfl (fun hcut fr' q0 q2 q7 q8 q10 q11 q24 q25 q26 => ?_) (fun hcut fr' q6 => ?_)
        ·have hn1:Ii l (lv.map (·.j)) (n+1)=true:=by
          rw [Amr,Hall.out,Bool.true_and,Hjob.out,hcut,decide_eq_true hdn.out];rfl
         have Hn1:=Hid.mk hn1
         obtain ⟨es',p1,p2,p3⟩:=Zy (.int .i64 ((atI lv n).j.arrive+(atI l (atI lv n).j.task).T)) k1 (atI lv n).j.task
         have M1:=Alz p1
         have P3:=Hid.mk p3
         have Hc1:=Hid.mk c1
         have hone:=hcn.one
         have hcv:=hcn.cv
         have hsee:=fun x => Awl hE (h'++x) (j:=.agg #[.int .i64 (atI lv n).j.task,.int .i64 (atI lv n).j.arrive,.int .i64 (atI lv n).j.release,.int .i64 (atI lv n).j.work,(atI lv n).v]) (by simp [Vd,Afq,hone]) (.int .i64 ((atI lv n).j.arrive - S))
         have hml:=hp.le
         clear hn1 hcut p1 p3 c1 w1 w2 w3
         (repeat' simp -dsimp (disch:=omega) only [↓EA,EB,Nat.reduceEqDiff,Nat.reduceAdd,↓reduceIte,reduceCtorEq,eq_self, *])
         refine Next.mk (n+1) ⟨(hp.app' _).set (Nat.le_refl _) _,by simp;omega,by omega,rfl,rfl,rfl,rfl,rfl,rfl,rfl,Hn1.out,es',B9 (by simp;omega),p2,fun t ht0 ht1 => ?_⟩ (by omega)
         rw [P3.out,Hss.out]
         by_cases ht:(atI lv n).j.task=t
         ·rw [if_pos ht.symm,if_pos ht,ht];rfl
         ·rw [if_neg (fun e => ht e.symm),if_neg ht];exact Hc1.out t ht0 ht1
        ·have hf:=Hnot.out (by rw [Hjob.out,hcut,Bool.and_false])
         rw [hf]
         clear hcut w1 w2 w3
         (repeat' simp -dsimp (disch:=omega) only [EB,eq_self, *])
       ·rw [decide_eq_false hx3] at w3
        have hf:=Hnot.out (by rw [Hjob.out,decide_eq_false (fun e => hx3 (Hn2.out.1 e).2.2.2)];rfl)
        rw [hf]
        have m1x:∀ x,(h'++x)[h.length]? = some (.map es):=fun x => by rw [GL hlt'];exact m1
        have Hx3:=Hid.mk hx3
        clear hf hx3
        (repeat' (first | (with_reducible refine A2 (fun _ => ?_) (fun _ => ?_)<;>try (exfalso;omega)) | (with_reducible refine A3 (fun _ => ?_) (fun _ => ?_)<;>try (exfalso;omega)) | simp -dsimp (disch:=omega) only [↓EA,EB,Nat.reduceEqDiff,Nat.reduceAdd,↓reduceIte,reduceCtorEq,Ac,eq_self, *,hl'.len,hl'.ixs,hl'.ldxa,hlv'.ixs,hlv'.lda,Ia,hdJ,A5,hcn.one,hp.le,hp.le_add]))
      ·rw [decide_eq_false hx2] at w2
       have hf:=Hnot.out (by rw [Hjob.out,decide_eq_false (fun e => hx2 (Hn2.out.1 e).2.2.1)];rfl)
       rw [hf]
       have m1x:∀ x,(h'++x)[h.length]? = some (.map es):=fun x => by rw [GL hlt'];exact m1
       have Hx2:=Hid.mk hx2
       clear hf hx2 w3
       (repeat' (first | (with_reducible refine A2 (fun _ => ?_) (fun _ => ?_)<;>try (exfalso;omega)) | (with_reducible refine A3 (fun _ => ?_) (fun _ => ?_)<;>try (exfalso;omega)) | simp -dsimp (disch:=omega) only [↓EA,EB,Nat.reduceEqDiff,Nat.reduceAdd,↓reduceIte,reduceCtorEq,Ac,eq_self, *,hl'.len,hl'.ixs,hl'.ldxa,hlv'.ixs,hlv'.lda,Ia,hdJ,A5,hcn.one,hp.le,hp.le_add]))
     ·rw [decide_eq_false hx1] at w1
      have hf:=Hnot.out (by rw [Hjob.out,decide_eq_false (fun e => hx1 (Hn2.out.1 e).2.1)];rfl)
      rw [hf]
      have m1x:∀ x,(h'++x)[h.length]? = some (.map es):=fun x => by rw [GL hlt'];exact m1
      have Hx1:=Hid.mk hx1
      clear hf hx1 w2 w3
      (repeat' (first | (with_reducible refine A2 (fun _ => ?_) (fun _ => ?_)<;>try (exfalso;omega)) | (with_reducible refine A3 (fun _ => ?_) (fun _ => ?_)<;>try (exfalso;omega)) | simp -dsimp (disch:=omega) only [↓EA,EB,Nat.reduceEqDiff,Nat.reduceAdd,↓reduceIte,reduceCtorEq,Ac,eq_self, *,hl'.len,hl'.ixs,hl'.ldxa,hlv'.ixs,hlv'.lda,Ia,hdJ,A5,hcn.one,hp.le,hp.le_add]))
    ·have hf:=Hnot.out (by rw [Hjob.out,decide_eq_false (fun e => hin (Hn2.out.1 e).1)];rfl)
     rw [hf]
     clear hf c1 hoks
     (repeat' (first | (with_reducible refine A2 (fun _ => ?_) (fun _ => ?_)<;>try (exfalso;omega)) | (with_reducible refine A3 (fun _ => ?_) (fun _ => ?_)<;>try (exfalso;omega)) | simp -dsimp (disch:=omega) only [↓EA,EB,Nat.reduceEqDiff,Nat.reduceAdd,↓reduceIte,reduceCtorEq,Ac,eq_self, *,hl'.len,hlv'.ixs,hlv'.lda,Ia,hdJ,hcn.one,hp.le]))
   ·have e:n=lv.length:=by omega
    subst e
    rw [Hall.out]
    (repeat' (first | (with_reducible refine A3 (fun _ => ?_) (fun _ => ?_)<;>try (exfalso;omega)) | simp -dsimp (disch:=omega) only [↓EA,EB,Nat.reduceEqDiff,↓reduceIte,reduceCtorEq,eq_self, *]))
  ·have hd:legalB l (lv.map (·.j))=false:=by simp [legalB,hle]
   rw [hd]
   rw [decide_eq_true hok] at hca
   (repeat' (first | (with_reducible refine A3 (fun _ => ?_) (fun _ => ?_)<;>try (exfalso;omega)) | simp -dsimp (disch:=omega) only [↓EA,EB,Nat.reduceEqDiff,Nat.reduceAdd,↓reduceIte,reduceCtorEq,eq_self, *,hlv.len]))
 ·have hd:legalB l (lv.map (·.j))=false:=by simp [legalB,hok]
  rw [hd]
  rw [decide_eq_false hok] at hca
  (repeat' simp -dsimp (disch:=omega) only [↓EA,EB,Nat.reduceEqDiff,Nat.reduceAdd,↓reduceIte,reduceCtorEq,eq_self, *])
theorem A3v (hE:Aw E) {h:Aa} {v0 v1:Value} {l:List Ab} {jobs:List Job} (hl:Rd 7 A5 h v0 l) (hs:∀ t∈l,t.name.size<1152921504606846976) (hj:RdJ h v1 jobs) :
  callW E (.func (.func Gr) #[] #[]) [v0,v1] h=some (.bool (legalB l jobs),h,[]):=by
 have q:=Ahf hE hl hs hj
 refine Am hE.Afj rfl (by simp) ?_
 simp only [Ak]
 generalize legalB l jobs=b at *
 (repeat' simp -dsimp (disch:=omega) only [↓EA,EB,Nat.reduceEqDiff,↓reduceIte,reduceCtorEq,eq_self, *])
end Go.L.Try
