/- WORDS, AS THE PROGRAM SCANS THEM. -/
import Derived.Test.YtnanlkamcgihlaaDoorPa
import Derived.Test.YtnanlkamcgihlaaDoorPb
set_option linter.unusedVariables false
set_option linter.unusedSimpArgs false
set_option maxRecDepth 100000
set_option maxHeartbeats 1000000
namespace Go.L.Try
open Go Go.L
variable {E:Env}
theorem Aye {q:EqK} {c:UInt8}:binOp .or q (.int .u8 (c.toNat:Int)) (.int .u8 32) = some (.int .u8 ((c.toNat ||| 32:Nat):Int)):=by
 have a:c.toNat < 256:=c.toNat_lt
 have d:c.toNat ||| 32 < 256:=Nat.or_lt_two_pow (n:=8) a (by decide)
 have f:BitVec.ofInt 8 (c.toNat:Int) = BitVec.ofNat 8 c.toNat:=by simp
 have e:((BitVec.ofInt 8 (c.toNat:Int)) ||| (BitVec.ofInt 8 32)).toNat = c.toNat ||| 32:=by
  have j:BitVec.ofInt 8 32 = BitVec.ofNat 8 32:=by decide
  rw [f,j,BitVec.toNat_or,BitVec.toNat_ofNat,BitVec.toNat_ofNat,Nat.mod_eq_of_lt a]
 have g:binOp .or q (.int .u8 (c.toNat:Int)) (.int .u8 32) = some (.int .u8 (IntKind.u8.wrap (((BitVec.ofInt 8 (c.toNat:Int)) ||| (BitVec.ofInt 8 32)).toNat:Nat))):=by simp only [binOp,Gf,if_true];rfl
 rw [g,e,Ady (by omega) (by omega)]
theorem Ahs:∀ n:Nat,n < 256 → (decide ((97 ≤ n ||| 32 ∧ n ||| 32 ≤ 122) ∨ n = 95) == decide ((97 ≤ n ∧ n ≤ 122) ∨ (65 ≤ n ∧ n ≤ 90) ∨ n = 95)) = true:=by
 have h:(List.range 256).all (fun n => decide ((97 ≤ n ||| 32 ∧ n ||| 32 ≤ 122) ∨ n = 95) == decide ((97 ≤ n ∧ n ≤ 122) ∨ (65 ≤ n ∧ n ≤ 90) ∨ n = 95)) = true:=by decide +kernel
 intro n a
 exact List.all_eq_true.1 h n (List.mem_range.2 a)
theorem Ant (hE:As E) (h:Aa) (c:UInt8):callW E (.func (.func F5) #[] #[]) [.int .u8 c.toNat] h = some (.bool (Fp c),h,[]):=by
 have d:c.toNat < 256:=c.toNat_lt
 have f:=eq_of_beq (Ahs c.toNat d)
 have e:Fp c = decide ((97 ≤ c.toNat ||| 32 ∧ c.toNat ||| 32 ≤ 122) ∨ c.toNat = 95):=by unfold Fp;exact f.symm
 rw [e]
 clear f e
 refine Ak hE.Afx rfl (by simp) ?_
 simp only [Ai]
 generalize hx:c.toNat ||| 32 = x
 have a:=@Aye .other c
 rw [hx] at a
 clear hx
 (repeat' (first | (with_reducible refine A1 (fun _ => ?_) (fun _ => ?_) <;> try (exfalso;omega)) | (with_reducible refine A2 (fun _ => ?_) (fun _ => ?_) <;> try (exfalso;omega)) | simp -dsimp (disch:=omega) only [↓EA,EB,Nat.reduceEqDiff,↓reduceIte,reduceCtorEq,eq_self, *]))
 all_goals (congr 1;first | (rw [decide_eq_decide];omega) | (symm;rw [decide_eq_true_eq];omega) | (symm;rw [decide_eq_false_iff_not];omega))
theorem A00 (hE:As E) (h:Aa) (c:UInt8):callW E (.func (.func Jm) #[] #[]) [.int .u8 c.toNat] h = some (.bool (Cs c),h,[]):=by
 refine Ak hE.Aj0 rfl (by simp) ?_
 simp only [Ai]
 (repeat' (first | (with_reducible refine A1 (fun _ => ?_) (fun _ => ?_) <;> try (exfalso;omega)) | simp -dsimp (disch:=omega) only [↓EA,EB,Nat.reduceEqDiff,↓reduceIte,reduceCtorEq,eq_self, *]))
 all_goals (unfold Cs;congr 1;first | (rw [decide_eq_decide];omega) | (symm;rw [decide_eq_true_eq];omega) | (symm;rw [decide_eq_false_iff_not];omega))
theorem A1w (hE:As E) (h:Aa) (c:UInt8):callW E (.func (.func Gr) #[] #[]) [.int .u8 c.toNat] h = some (.bool (C0 c),h,[]):=by
 have d:=Ant hE h c
 have a:=A00 hE h c
 refine Ak hE.App rfl (by simp) ?_
 simp only [Ai]
 unfold C0
 cases hl:Fp c <;> cases hd:Cs c
 all_goals
  rw [hl] at d
  rw [hd] at a
  (repeat' (first | (with_reducible refine A3 (fun _ => ?_) (fun _ => ?_) <;> try (exfalso;omega)) | simp -dsimp (disch:=omega) only [↓EA,EB,Nat.reduceEqDiff,↓reduceIte,reduceCtorEq,eq_self, *]))
 all_goals first | rfl | (congr 1;simp;done) | (congr 1;simp;omega)
theorem A1v (hE:As E) (h:Aa) {s:ByteArray} (hs:s.size < 1152921504606846976) :
  callW E (.func (.func La) #[] #[]) [.string s,.func (.func Gr) #[] #[]] h = some (.int .i64 (runEnd C0 s 0:Nat),h,[]):=by
 refine Ak hE.Apo rfl (by simp) ?_
 simp only [Ai]
 (repeat' simp -dsimp (disch:=omega) only [↓EA,EB,Nat.reduceEqDiff,↓reduceIte,reduceCtorEq,eq_self, *])
 refine WO.loop (fun (n:Nat) fr h' => h' = h ∧ n ≤ s.size ∧ runEnd C0 s 0 = runEnd C0 s n ∧ get fr 0 = .string s ∧ get fr 1 = .func (.func Gr) #[] #[] ∧ get fr 5 = .int .i64 n) (fun n => s.size - n) ?_ 0 ⟨rfl,Nat.zero_le _,rfl,rfl,rfl,rfl⟩
 rintro n fr h' ⟨rfl,f,c,l,j,g⟩
 have Hr:=Hid.mk c
 clear c
 unfold Sh
 rcases Nat.lt_or_ge n s.size with hlt | hge
 ·have q:=A1w hE h' (Bk s (n:Int))
  have H1:=Hid.mk (fun a => Rp (p:=C0) hlt a)
  have H2:=Hid.mk (fun a => Ro (p:=C0) hlt a)
  have d:∀ k:IntKind,Aam (.string s) (.int k n) = some (.int .u8 ((Bk s n).toNat:Int)):=fun k => Xa (by omega) (by omega)
  cases hg:C0 (Bk s (n:Int))
  ·rw [hg] at q
   have e:=H2.out hg
   (repeat' (first | (with_reducible refine A3 (fun _ => ?_) (fun _ => ?_) <;> try (exfalso;omega)) | simp -dsimp (disch:=omega) only [↓EA,EB,Nat.reduceEqDiff,↓reduceIte,reduceCtorEq,eq_self, *]))
   rw [Hr.out,e]
  ·rw [hg] at q
   have Hs:=Hid.mk (H1.out hg)
   (repeat' (first | (with_reducible refine A3 (fun _ => ?_) (fun _ => ?_) <;> try (exfalso;omega)) | simp -dsimp (disch:=omega) only [↓EA,EB,Nat.reduceEqDiff,↓reduceIte,reduceCtorEq,eq_self, *]))
   exact Next.mk (n + 1) ⟨rfl,by omega,by rw [Hr.out,Hs.out],rfl,rfl,rfl⟩ (by omega)
 ·have e:=Hid.mk (T4 (p:=C0) hge)
  (repeat' (first | (with_reducible refine A3 (fun _ => ?_) (fun _ => ?_) <;> try (exfalso;omega)) | simp -dsimp (disch:=omega) only [↓EA,EB,Nat.reduceEqDiff,↓reduceIte,reduceCtorEq,eq_self, *]))
  rw [Hr.out,e.out]
theorem Arb {s:ByteArray} (h0:0 < s.size):Re s = (Fp (Bk s 0) && decide ((runEnd C0 s 0:Nat) = s.size)):=by
 have a:=I4 s
 cases hb:bs s with
 | nil => rw [hb] at a;simp at a;omega
 | cons c r =>
  have e:Bk s 0 = c:=by unfold Bk;rw [hb];rfl
  have d:(runEnd C0 s 0:Nat) = ((c :: r).takeWhile C0).length:=by unfold runEnd;rw [List.drop_zero,hb,Nat.zero_add]
  have g:s.size = (c :: r).length:=by rw [← hb,I4]
  rw [e,d,g]
  unfold Re
  rw [hb]
  show (Fp c && r.all C0) = _
  cases hlc:Fp c
  ·rfl
  ·have f:C0 c = true:=by unfold C0;rw [hlc];rfl
   have:decide (((c :: r).takeWhile C0).length = (c :: r).length) = (c :: r).all C0:=by
    rw [← Bool.coe_iff_coe,decide_eq_true_eq];exact Oc
   rw [this,List.all_cons,f];rfl
theorem A1h (hE:As E) (h:Aa) {s:ByteArray} (hs:s.size < 1152921504606846976) :
  callW E (.func (.func Lb) #[] #[]) [.string s] h = some (.bool (Re s),h,[]):=by
 refine Ak hE.Apq rfl (by simp) ?_
 simp only [Ai]
 rcases Nat.eq_zero_or_pos s.size with h0 | h0
 ·have e:bs s = []:=List.length_eq_zero_iff.1 (by rw [I4];exact h0)
  have d:bs ⟨#[]⟩ = []:=rfl
  (repeat' simp -dsimp (disch:=omega) only [↓EA,EB,Nat.reduceEqDiff,↓reduceIte,reduceCtorEq,eq_self, *,Ado])
  all_goals simp [Re,e]
 ·have e:bs s ≠ []:=fun e => by rw [← I4,e] at h0;simp at h0
  have d:bs ⟨#[]⟩ = []:=rfl
  have c:∀ k:IntKind,Aam (.string s) (.int k 0) = some (.int .u8 ((Bk s 0).toNat:Int)):=fun k => Xa (by omega) (by omega)
  have a:=Ant hE h (Bk s 0)
  have f:=A1v hE h hs
  rw [Arb h0]
  cases hl:Fp (Bk s 0)
  ·rw [hl] at a
   (repeat' simp -dsimp (disch:=omega) only [↓EA,EB,Nat.reduceEqDiff,↓reduceIte,reduceCtorEq,eq_self, *,Ado])
   rfl
  ·rw [hl] at a
   generalize runEnd C0 s 0 = R at *
   (repeat' simp -dsimp (disch:=omega) only [↓EA,EB,Nat.reduceEqDiff,↓reduceIte,reduceCtorEq,eq_self, *,Ado])
   congr 1
   rw [decide_eq_decide];omega
end Go.L.Try
set_option maxHeartbeats 2000000
namespace Go.L.Try
open Go Go.L
variable {E:Env}
theorem Td {g:FuncId} {c:FnC} (hf:E g = .text c) (a b:Array Value) (args:List Value) (h:Aa):callW E (.func (.func g) a b) args h = callW E (.func (.func g) #[] #[]) (a.toList ++ args ++ b.toList) h:=by
 rw [Qc hf,Qb hf]
theorem Awc (hE:As E) (h:Aa) (n:Int):callW E (.func (.func Bd) #[] #[]) [.int .i64 n] h = some (.bool (decide (0 ≤ n ∧ n ≤ 2147483647)),h,[]):=by
 refine Ak hE.Abo rfl (by simp) ?_
 simp only [Ai]
 (repeat' (first | (with_reducible refine A1 (fun _ => ?_) (fun _ => ?_) <;> try (exfalso;omega)) | simp -dsimp (disch:=omega) only [↓EA,EB,Nat.reduceEqDiff,↓reduceIte,reduceCtorEq,eq_self, *]))
 all_goals first | rfl | (congr 1;first | (rw [decide_eq_decide];omega) | (symm;rw [decide_eq_true_eq];omega) | (symm;rw [decide_eq_false_iff_not];omega))
theorem Aw8 (hE:As E) {h:Aa} {t:Ac} (hs:t.name.size < 1152921504606846976) {b c:Nat} (hb:h[b]? = some (.cells (Ar t) false)) (hc:h[c]? = some (.cells [.func (.func Bd) #[] #[]] false)) :
  callW E (.func (.func Fs) #[] #[.pointer (some ⟨b,0,none⟩),.pointer (some ⟨c,0,none⟩)]) [] h = some (.bool (decide (Am t)),h,[]):=by
 have q:=A1h hE h hs
 have d:=Awc hE h
 unfold Ar at hb
 rw [Td hE.Tq]
 have e:decide (Am t) = (Re t.name && decide (t.name.size ≤ 32 ∧ (1 ≤ t.C ∧ t.C ≤ 2147483647) ∧ (1 ≤ t.T ∧ t.T ≤ 2147483647) ∧ (1 ≤ t.D ∧ t.D ≤ 2147483647) ∧ (1 ≤ t.Q ∧ t.Q ≤ 2147483647) ∧ (0 ≤ t.J ∧ t.J ≤ 2147483647) ∧ 1 ≤ t.P ∧ t.P ≤ 1048576)):=by
  rw [Bool.eq_iff_iff,Bool.and_eq_true,decide_eq_true_iff,decide_eq_true_iff];exact Iff.rfl
 rw [e]
 clear e
 generalize a:decide (t.name.size ≤ 32 ∧ (1 ≤ t.C ∧ t.C ≤ 2147483647) ∧ (1 ≤ t.T ∧ t.T ≤ 2147483647) ∧ (1 ≤ t.D ∧ t.D ≤ 2147483647) ∧ (1 ≤ t.Q ∧ t.Q ≤ 2147483647) ∧ (0 ≤ t.J ∧ t.J ≤ 2147483647) ∧ 1 ≤ t.P ∧ t.P ≤ 1048576) = X
 replace a:=Hid.mk a
 refine Ak hE.Tq rfl (by simp) ?_
 simp only [List.nil_append,List.append_nil,Ai]
 cases hw:Re t.name
 ·rw [hw] at q
  (repeat' simp -dsimp (disch:=omega) only [↓EA,EB,Nat.reduceEqDiff,↓reduceIte,reduceCtorEq,eq_self, *])
  rfl
 ·rw [hw] at q
  (repeat' (first | (with_reducible refine A1 (fun _ => ?_) (fun _ => ?_) <;> try (exfalso;omega)) | simp -dsimp (disch:=omega) only [↓EA,EB,Nat.reduceEqDiff,↓reduceIte,reduceCtorEq,eq_self, *]))
  all_goals
   congr 1
   rw [← a.out]
   first | exact decide_eq_decide.2 (by omega) | exact (decide_eq_false (by omega)).symm | exact (decide_eq_true (by omega)).symm
theorem A2i (hE:As E) {h:Aa} {t:Ac} (ht:Am t) {b:Nat} (hb:h[b]? = some (.cells (Ar t) false)) :
  callW E (.func (.func Fq) #[] #[.pointer (some ⟨b,0,none⟩)]) [] h = some (.bool (decide (C9 t)),h,[]):=by
 unfold Ar at hb
 rw [Td hE.Tp]
 simp only [Am] at ht
 have a:=ht.2.2.1
 have c:=ht.2.2.2.2.2.2.1
 clear ht
 refine Ak hE.Tp rfl (by simp) ?_
 simp only [List.nil_append,List.append_nil,Ai]
 (repeat' (first | (with_reducible refine A1 (fun _ => ?_) (fun _ => ?_) <;> try (exfalso;omega)) | simp -dsimp (disch:=omega) only [↓EA,EB,Nat.reduceEqDiff,↓reduceIte,reduceCtorEq,eq_self, *]))
 all_goals
  congr 1
  first | exact decide_eq_decide.2 (by unfold C9;omega) | exact (decide_eq_false (by unfold C9;omega)).symm | exact (decide_eq_true (by unfold C9;omega)).symm
def Aet (b0 b1:Bool) (e0 e1:Int):Int:=if b0 then if b1 then 0 else e1 else e0
theorem A0v (hE:As E) {h:Aa} {f0 f1:Value} {b0 b1:Bool} {e0 e1:Int} (h0:Bj f0 = [f0]) (h1:Bj f1 = [f1]) (o0:Ag f0 = true) (o1:Ag f1 = true) (q0:∀ x,callW E f0 [] (h ++ x) = some (.bool b0,h ++ x,[])) (q1:b0 = true → ∀ x,callW E f1 [] (h ++ x) = some (.bool b1,h ++ x,[])) :
  callW E (.func (.func Ji) #[] #[]) [.agg #[f0,.int .i64 e0,f1,.int .i64 e1]] h = some (.int .i64 (Aet b0 b1 e0 e1),h,[]):=by
 refine Ak hE.Ajn rfl (by simp) ?_
 simp only [Ai]
 (repeat' simp -dsimp (disch:=omega) only [↓EA,EB,Nat.reduceEqDiff,Nat.reduceAdd,↓reduceIte,Ab,eq_self, *])
 replace q1:=Hid.mk q1
 have a:Aet b0 b1 e0 e1 = if b0 then if b1 then 0 else e1 else e0:=rfl
 replace a:=Hid.mk a
 refine WO.loop (fun (n:Nat) fr h' => (∃ x,h' = h ++ x) ∧ n ≤ 2 ∧ (1 ≤ n → b0 = true) ∧ (2 ≤ n → b1 = true) ∧ get fr 3 = .int .i64 0 ∧ get fr 6 = .agg #[f0,.int .i64 e0,f1,.int .i64 e1] ∧ get fr 7 = .int .i64 n) (fun n => 2 - n) ?_ 0 ⟨⟨_,rfl⟩,by omega,fun h => by omega,fun h => by omega,rfl,rfl,rfl⟩
 rintro n fr h' ⟨⟨x,rfl⟩,m,c,e,p,r,d⟩
 unfold Qt
 have j:Axu 2 2 (some 2) (.agg #[f0,.int .i64 e0,f1,.int .i64 e1]) (.int .i64 0) = some (.agg #[f0,.int .i64 e0]):=rfl
 have l:Axu 2 2 (some 2) (.agg #[f0,.int .i64 e0,f1,.int .i64 e1]) (.int .i64 1) = some (.agg #[f1,.int .i64 e1]):=rfl
 rcases n with _ | _ | n
 ·replace d:get fr 7 = .int .i64 0:=d
  clear c e
  cases b0
  ·(repeat' (first | (with_reducible refine A3 (fun _ => ?_) (fun _ => ?_) <;> try (exfalso;omega)) | simp -dsimp (disch:=omega) only [↓EA,EB,Nat.reduceEqDiff,Nat.reduceAdd,↓reduceIte,reduceCtorEq,Ab,eq_self, *]))
   rw [a.out];rfl
  ·(repeat' (first | (with_reducible refine A3 (fun _ => ?_) (fun _ => ?_) <;> try (exfalso;omega)) | simp -dsimp (disch:=omega) only [↓EA,EB,Nat.reduceEqDiff,Nat.reduceAdd,↓reduceIte,Ab,eq_self, *]))
   exact Next.mk 1 ⟨⟨_,rfl⟩,by omega,fun _ => rfl,fun h => by omega,rfl,rfl,rfl⟩ (by omega)
 ·replace d:get fr 7 = .int .i64 1:=d
  have g:=c (by omega)
  subst g
  clear c e
  have o:=q1.out rfl
  cases b1
  ·(repeat' (first | (with_reducible refine A3 (fun _ => ?_) (fun _ => ?_) <;> try (exfalso;omega)) | simp -dsimp (disch:=omega) only [↓EA,EB,Nat.reduceEqDiff,Nat.reduceAdd,↓reduceIte,reduceCtorEq,Ab,eq_self, *]))
   rw [a.out];rfl
  ·(repeat' (first | (with_reducible refine A3 (fun _ => ?_) (fun _ => ?_) <;> try (exfalso;omega)) | simp -dsimp (disch:=omega) only [↓EA,EB,Nat.reduceEqDiff,Nat.reduceAdd,↓reduceIte,Ab,eq_self, *]))
   exact Next.mk 2 ⟨⟨_,rfl⟩,by omega,fun _ => rfl,fun _ => rfl,rfl,rfl,rfl⟩ (by omega)
 ·have g:=c (by omega)
  have f:=e (by omega)
  obtain rfl:n = 0:=by omega
  subst g f
  clear c e
  (repeat' (first | (with_reducible refine A3 (fun _ => ?_) (fun _ => ?_) <;> try (exfalso;omega)) | simp -dsimp (disch:=omega) only [↓EA,EB,Nat.reduceEqDiff,Nat.reduceAdd,↓reduceIte,eq_self, *]))
  rw [a.out];rfl
theorem A04 (hE:As E) (h:Aa) (t:Ac) (hs:t.name.size < 1152921504606846976) :
  callW E (.func (.func Jk) #[] #[]) [.agg (Ar t).toArray] h = some (.int .i64 (Ig t),h,[]):=by
 have d:=fun H r n g m j l => @A0v E hE H r n g m j l
 have e:Ig t = Aet (decide (Am t)) (decide (C9 t)) 11 12:=by
  unfold Ig Aet
  by_cases o:Am t <;> by_cases h2:C9 t <;> simp [o,h2]
 rw [e]
 clear e
 refine Ak hE.Ajp rfl (by simp) ?_
 simp only [Ai]
 unfold Ar
 have Hg:=Hid.mk d
 clear d
 (repeat' simp -dsimp (disch:=omega) only [↓EA,EB,Nat.reduceEqDiff,Nat.reduceAdd,Nat.reduceLeDiff,↓reduceIte,Ab,eq_self, *])
 have f:(h ++ [LObj.cells [.string t.name,.int .i64 t.C,.int .i64 t.T,.int .i64 t.D,.int .i64 t.J,.int .i64 t.Q,.int .i64 t.P] false,LObj.cells [.func (.func Bd) #[] #[]] false]) = h ++ [LObj.cells (Ar t) false,LObj.cells [.func (.func Bd) #[] #[]] false]:=rfl
 have a:∀ x,((h ++ [LObj.cells (Ar t) false,LObj.cells [.func (.func Bd) #[] #[]] false]) ++ x)[h.length]? = some (.cells (Ar t) false):=fun x => by rw [List.append_assoc,Bh];rfl
 have c:∀ x,((h ++ [LObj.cells (Ar t) false,LObj.cells [.func (.func Bd) #[] #[]] false]) ++ x)[h.length + 1]? = some (.cells [.func (.func Bd) #[] #[]] false):=fun x => by rw [List.append_assoc,Jr];rfl
 have s:=Hg.out (h ++ [LObj.cells (Ar t) false,LObj.cells [.func (.func Bd) #[] #[]] false]) _ _ _ _ 11 12 rfl rfl rfl rfl (fun x => Aw8 hE hs (a x) (c x)) (fun p x => A2i hE (of_decide_eq_true p) (a x))
 rw [f]
 clear f a c
 (repeat' simp -dsimp (disch:=omega) only [↓EA,EB,↓reduceIte,eq_self, *])
end Go.L.Try
namespace Go.L.Try
open Go Go.L
variable {E:Env}
theorem Abe (s t:ByteArray):(s == t) = decide (s = t):=by
 cases s with | mk x =>
 cases t with | mk y =>
 have e:((⟨x⟩:ByteArray) == ⟨y⟩) = (x == y):=rfl
 rw [e];by_cases h:x = y <;> simp [h]
def Ajh (es:List (Value × Value)):Prop:=∀ e ∈ es,∃ s,e.1 = .string s
def Yf:List (Value × Value) → ByteArray → Option Value
 | [],_ => none
 | (.string a,v) :: r,s => if s = a then some v else Yf r s
 | _ :: r,s => Yf r s
theorem Aib:∀ {es:List (Value × Value)},Ajh es → ∀ s,find .str (.string s) es = some (Yf es s)
 | [],_,_ => rfl
 | (x,v) :: r,hk,s => by
  obtain ⟨a,rfl⟩:=hk (x,v) (by simp)
  have d:=Aib (es:=r) (fun e c => hk e (by simp [c])) s
  simp only [find,B3,Gj,Option.bind_some,Yf]
  by_cases h:s = a
  ·simp [h,Abe]
  ·have:(s == a) = false:=by rw [Abe];exact decide_eq_false h
   simp [h,this,d]
theorem Alu (v:Value):∀ {es:List (Value × Value)},Ajh es → ∀ s,∃ es',Oh .str (.string s) v es = some es' ∧ Ajh es' ∧ ∀ j,Yf es' j = if j = s then some v else Yf es j
 | [],_,s => ⟨_,rfl,fun e he => by rw [List.mem_singleton.1 he];exact ⟨s,rfl⟩,fun j => rfl⟩
 | (x,u) :: r,hk,s => by
  obtain ⟨a,rfl⟩:=hk (x,u) (by simp)
  obtain ⟨es',g,h2,f⟩:=Alu v (es:=r) (fun e he => hk e (by simp [he])) s
  by_cases h:s = a
  ·subst h
   refine ⟨(.string s,v) :: r,by simp [Oh,B3,Gj,Abe],fun e he => ?_,fun j => ?_⟩
   ·rcases List.mem_cons.1 he with rfl | he
    ·exact ⟨s,rfl⟩
    ·exact hk e (by simp [he])
   ·simp only [Yf];split <;> rfl
  ·have d:(s == a) = false:=by rw [Abe];exact decide_eq_false h
   refine ⟨(.string a,u) :: es',by simp [Oh,B3,Gj,d,g],fun e he => ?_,fun j => ?_⟩
   ·rcases List.mem_cons.1 he with rfl | he
    ·exact ⟨a,rfl⟩
    ·exact h2 e he
   ·simp only [Yf,f]
    by_cases c:j = a
    ·subst c;rw [if_pos rfl,if_pos rfl,if_neg (fun e => h e.symm)]
    ·rw [if_neg c,if_neg c]
theorem Anu {s:ByteArray}:R6 .str (.string s) = true:=by simp [R6,B3,Gj,Abe]
theorem Akl {es:List (Value × Value)} (hk:Ajh es) (z:Value) (s:ByteArray):lkO .str z (.string s) false (some (.map es)) = some ((Yf es s).getD z):=by
 simp only [lkO,Anu,if_true,Aib hk,Option.map_some]
 cases Yf es s <;> rfl
theorem A0f {s:ByteArray} {v:Value} {es es':List (Value × Value)} (h1:Oh .str (.string s) v es = some es') (h:Aa) (r:Nat):mpO .str (.string s) v h r (some (.map es)) = some (undef,h.set r (.map es'),[r]):=by
 simp only [mpO,Anu,if_true,h1,Option.map_some]
def cntN (l:List Ac):Nat → ByteArray → Int
 | 0,_ => 0
 | n + 1,s => cntN l n s + if (atI l (n:Int)).name = s then 1 else 0
def cntP (l:List Ac):Nat → Int → Int
 | 0,_ => 0
 | n + 1,p => cntP l n p + if (atI l (n:Int)).P = p then 1 else 0
theorem Ae2 (l:List Ac) (s:ByteArray):∀ n:Nat,0 ≤ cntN l n s ∧ cntN l n s ≤ n
 | 0 => by simp [cntN]
 | n + 1 => by have:=Ae2 l s n;unfold cntN;split <;> omega
theorem Ae1 (l:List Ac) (p:Int):∀ n:Nat,0 ≤ cntP l n p ∧ cntP l n p ≤ n
 | 0 => by simp [cntP]
 | n + 1 => by have:=Ae1 l p n;unfold cntP;split <;> omega
theorem A06 {s t:ByteArray}:bs s = bs t ↔ s = t:=⟨A05,fun h => by rw [h]⟩
theorem Adk (l:List Ac) (i:Int):∀ k:Nat,J7 l i k = decide (1 ≤ cntN l k (atI l i).name ∨ 1 ≤ cntP l k (atI l i).P)
 | 0 => by simp [J7,cntN,cntP]
 | k + 1 => by
  have c:=Ae2 l (atI l i).name k
  have h2:=Ae1 l (atI l i).P k
  unfold J7 cntN cntP
  rw [Adk l i k,Bool.eq_iff_iff,Bool.or_eq_true,decide_eq_true_iff,decide_eq_true_iff,decide_eq_true_iff,A06]
  generalize cntN l k (atI l i).name = x at *
  generalize cntP l k (atI l i).P = y at *
  by_cases a:(atI l (k:Int)).name = (atI l i).name <;> by_cases b:(atI l (k:Int)).P = (atI l i).P
  ·rw [if_pos a,if_pos b];exact ⟨fun _ => .inl (by omega),fun _ => .inr (.inl a)⟩
  ·rw [if_pos a,if_neg b];exact ⟨fun _ => .inl (by omega),fun _ => .inr (.inl a)⟩
  ·rw [if_neg a,if_pos b];exact ⟨fun _ => .inr (by omega),fun _ => .inr (.inr b)⟩
  ·rw [if_neg a,if_neg b,Int.add_zero,Int.add_zero];exact ⟨fun h => h.elim id fun h => (h.elim a b).elim,fun h => .inl h⟩
theorem Adl (hE:As E) {h:Aa} {vl:Value} {l:List Ac} (hl:Rd 7 Ar h vl l) (hs:∀ t ∈ l,t.name.size < 1152921504606846976) :
  callW E (.func (.func D8) #[] #[]) [vl] h = some (.tuple #[.int .i64 (Bz l).1,.int .i64 (Bz l).2],h,[]):=by
 refine Ak hE.Abp rfl (by simp) ?_
 have few:=hl.few
 have a2:=Ae
 simp only [Ai]
 unfold Bz
 by_cases hc:l.length = 0 ∨ 1024 < l.length
 ·rw [if_pos hc]
  (repeat' (first | (with_reducible refine A2 (fun _ => ?_) (fun _ => ?_) <;> try (exfalso;omega)) | (with_reducible refine A3 (fun _ => ?_) (fun _ => ?_) <;> try (exfalso;omega)) | simp -dsimp (disch:=omega) only [↓EA,EB,Nat.reduceEqDiff,↓reduceIte,reduceCtorEq,eq_self, *,hl.len]))
 ·rw [if_neg hc]
  have a5:1 ≤ l.length ∧ l.length ≤ 1024:=by omega
  clear hc a2
  have a4:=Hid.mk (rfl:Bt l l.length 0 = Bt l l.length 0)
  (repeat' (first | (with_reducible refine A2 (fun _ => ?_) (fun _ => ?_) <;> try (exfalso;omega)) | (with_reducible refine A3 (fun _ => ?_) (fun _ => ?_) <;> try (exfalso;omega)) | simp -dsimp (disch:=omega) only [↓EA,EB,Nat.reduceEqDiff,↓reduceIte,reduceCtorEq,eq_self, *,hl.len]))
  refine WO.loop (fun (n:Nat) fr h' => n ≤ l.length ∧ Bt l l.length 0 = Bt l (l.length - n) n ∧ Pre h h' ∧ get fr 0 = vl ∧ get fr 4 = .map (some h.length) ∧ get fr 5 = .map (some (h.length + 1)) ∧ get fr 19 = vl ∧ get fr 20 = .int .i64 l.length ∧ get fr 21 = .int .i64 n ∧ ∃ g r,h'[h.length]? = some (.map g) ∧ h'[h.length + 1]? = some (.map r) ∧ Ajh g ∧ X1 .i64 r ∧ (∀ s,(Yf g s).getD (.int .i64 0) = .int .i64 (cntN l n s)) ∧ ∀ p,(Tj .i64 r p).getD (.int .i64 0) = .int .i64 (cntP l n p)) (fun n => l.length - n) ?_ 0 ⟨Nat.zero_le _,rfl,Pre.app h _,rfl,rfl,rfl,rfl,rfl,rfl,[],[],by rw [Bh];rfl,by rw [Jr];rfl,(fun e he => nomatch he),(fun e he => nomatch he),fun s => rfl,fun p => rfl⟩
  rintro n fr h' ⟨hn,v,hp,g0,g4,g5,ab,a8,a7,g,r,m1,m2,k1,k2,c1,c2⟩
  have c:=Hid.mk v
  clear v
  unfold M5
  rcases Nat.lt_or_ge n l.length with hlt | hge
  ·have u:=hl.pre hp
   have hm:=Al (l:=l) (i:=(n:Int)) (by omega) (by omega)
   have q:=fun x => A04 hE (h' ++ x) (atI l (n:Int)) (hs _ hm)
   simp only [Ar] at q
   have a:Bt l (l.length - n) n = if Ig (atI l (n:Int)) ≠ 0 then ((n:Int),Ig (atI l (n:Int))) else if J7 l (n:Int) n then ((n:Int),13) else Bt l (l.length - (n + 1)) ((n:Int) + 1):=by
    obtain ⟨k,hk⟩:∃ k,l.length - n = k + 1:=⟨l.length - n - 1,by omega⟩
    rw [hk,show l.length - (n + 1) = k by omega];rfl
   rw [Adk] at a
   have d:=Hid.mk a
   clear a
   have cn:=Ae2 l (atI l (n:Int)).name n
   have cp:=Ae1 l (atI l (n:Int)).P n
   have L1:=fun z => Akl k1 z (atI l (n:Int)).name
   have a6:=hp.le
   have j:=(GI.1 m1).1
   have m:=(GI.1 m2).1
   obtain ⟨y,p1,p2,p3⟩:=Alu (.int .i64 (cntN l n (atI l (n:Int)).name + 1)) k1 (atI l (n:Int)).name
   obtain ⟨a0,r1,r2,r3⟩:=Yn (.int .i64 (cntP l n (atI l (n:Int)).P + 1)) k2 (atI l (n:Int)).P
   have C1:=c1 (atI l (n:Int)).name
   have C2:=c2 (atI l (n:Int)).P
   have a1:=Hid.mk c1
   have a3:=Hid.mk c2
   have P3:=Hid.mk p3
   have R3:=Hid.mk r3
   have D1:(Yf y (atI l (n:Int)).name).getD (.int .i64 0) = .int .i64 (cntN l n (atI l (n:Int)).name + 1):=by rw [p3,if_pos rfl];rfl
   have D2:(Tj .i64 a0 (atI l (n:Int)).P).getD (.int .i64 0) = .int .i64 (cntP l n (atI l (n:Int)).P + 1):=by rw [r3,if_pos rfl];rfl
   have M1:=A0f p1
   have M2:=Akk r1
   have L2:=Ue k2
   have L3:=Akl p2
   have L4:=Ue r2
   clear c1 c2 p3 r3 p1 r1 hm hs L1
   have L1:=Akl k1
   have aa:∀ x,(h' ++ x)[h.length]? = some (.map g):=fun x => by rw [GL j];exact m1
   have a9:∀ x,(h' ++ x)[h.length + 1]? = some (.map r):=fun x => by rw [GL m];exact m2
   clear m1 m2
   have G1:∀ x o,(List.set (h' ++ x) h.length o)[h.length]? = some o:=fun x o => Bq (by simp;omega)
   have G2:∀ x o o2,(List.set (List.set (h' ++ x) h.length o) (h.length + 1) o2)[h.length + 1]? = some o2:=fun x o o2 => Bq (by simp;omega)
   (repeat' (first | (with_reducible refine A2 (fun _ => ?_) (fun _ => ?_) <;> try (exfalso;omega)) | (with_reducible refine A3 (fun _ => ?_) (fun _ => ?_) <;> try (exfalso;omega)) | simp -dsimp (disch:=omega) only [↓EA,EB,Nat.reduceEqDiff,Nat.reduceAdd,↓reduceIte,reduceCtorEq,Ab,eq_self, *,u.ixs,u.lda,Ar]))
   ·rw [c.out,d.out,if_pos (by assumption)]
   ·rw [c.out,d.out,if_neg (by omega),if_pos (decide_eq_true (by omega))]
   ·rw [c.out,d.out,if_neg (by omega),if_pos (decide_eq_true (by omega))]
   ·refine Next.mk (n + 1) ⟨by omega,?_,((hp.app' _).set (Nat.le_refl _) _).set (by omega) _,rfl,rfl,rfl,rfl,rfl,rfl,y,a0,?_,G2 _ _ _,p2,r2,?_,?_⟩ (by omega)
    ·rw [c.out,d.out,if_neg (by omega),if_neg (by rw [decide_eq_true_eq];omega)];rfl
    ·rw [An (by omega)];exact G1 _ _
    ·intro s
     rw [P3.out]
     by_cases f:s = (atI l (n:Int)).name
     ·subst f
      rw [if_pos rfl]
      show Value.int .i64 _ = Value.int .i64 (cntN l n _ + if _ then 1 else 0)
      rw [if_pos rfl]
     ·rw [if_neg f,a1.out]
      show Value.int .i64 _ = Value.int .i64 (cntN l n _ + if _ then 1 else 0)
      rw [if_neg (fun e => f e.symm),Int.add_zero]
    ·intro p
     rw [R3.out]
     by_cases f:p = (atI l (n:Int)).P
     ·subst f
      rw [if_pos rfl]
      show Value.int .i64 _ = Value.int .i64 (cntP l n _ + if _ then 1 else 0)
      rw [if_pos rfl]
     ·rw [if_neg f,a3.out]
      show Value.int .i64 _ = Value.int .i64 (cntP l n _ + if _ then 1 else 0)
      rw [if_neg (fun e => f e.symm),Int.add_zero]
  ·have e:n = l.length:=by omega
   subst e
   have e0:Bt l (l.length - l.length) l.length = ((l.length:Int),0):=by rw [Nat.sub_self];rfl
   have E0:=Hid.mk e0
   clear e0
   (repeat' (first | (with_reducible refine A3 (fun _ => ?_) (fun _ => ?_) <;> try (exfalso;omega)) | simp -dsimp (disch:=omega) only [↓EA,EB,Nat.reduceEqDiff,↓reduceIte,reduceCtorEq,eq_self, *,hl.len]))
   rw [c.out,E0.out]
end Go.L.Try
namespace Go.L.Try
open Go Go.L
variable {E:Env}
theorem Apn (hE:As E) {h:Aa} {vl:Value} {l:List Ac} (hl:Rd 7 Ar h vl l) (hs:∀ t ∈ l,t.name.size < 1152921504606846976) :
  callW E (.func (.func Jl) #[] #[]) [vl] h = some (.bool (decide ((Bz l).2 = 0)),h,[]):=by
 have q:=Adl hE hl hs
 refine Ak hE.Ajz rfl (by simp) ?_
 generalize (Bz l).2 = e at *
 simp only [Ai]
 (repeat' simp -dsimp (disch:=omega) only [↓EA,EB,Nat.reduceEqDiff,↓reduceIte,reduceCtorEq,eq_self, *])
theorem N3 (hE:As E) (h:Aa) (n a b:Int):callW E (.func (.func Bo) #[] #[]) [.int .i64 n,.int .i64 a,.int .i64 b] h = some (.bool (decide (a ≤ n ∧ n ≤ b)),h,[]):=by
 refine Ak hE.X4 rfl (by simp) ?_
 simp only [Ai]
 (repeat' (first | (with_reducible refine A1 (fun _ => ?_) (fun _ => ?_) <;> try (exfalso;omega)) | simp -dsimp (disch:=omega) only [↓EA,EB,Nat.reduceEqDiff,Nat.reduceAdd,↓reduceIte,reduceCtorEq,eq_self, *]))
 all_goals first | rfl | exact congrArg Value.bool (decide_eq_decide.2 (by omega)) | exact congrArg Value.bool (decide_eq_false (by omega)).symm | exact congrArg Value.bool (decide_eq_true (by omega)).symm
theorem Auk (hE:As E) (h:Aa) {j:Value} (hj:(Bj j).all Ag = true) (g:Value):callW E (.func (.func Cg) #[] #[]) [j,g] h = some (.tuple #[],h,[]):=by
 refine Ak hE.X5 rfl (by simp) ?_
 simp only [Ai]
 (repeat' simp -dsimp (disch:=omega) only [↓EA,EB,↓reduceIte,Ab,eq_self, *])
def Fl (l:List Ac) (jobs:List Job) (n:Nat) (task:Int):Int:=if 0 ≤ Cz jobs task n then (atI jobs (Cz jobs task n)).arrive + (atI l task).T else 0
theorem Ad2 (l:List Ac) (jobs:List Job) (n:Nat) (t:Int):Fl l jobs (n + 1) t = if (atI jobs (n:Int)).task = t then (atI jobs (n:Int)).arrive + (atI l t).T else Fl l jobs n t:=by
 have e:Cz jobs t (n + 1) = if (atI jobs (n:Int)).task = t then (n:Int) else Cz jobs t n:=rfl
 unfold Fl
 rw [e]
 by_cases h:(atI jobs (n:Int)).task = t
 ·rw [if_pos h,if_pos h,if_pos (by omega)]
 ·rw [if_neg h,if_neg h]
theorem Ac9 (l:List Ac) (jobs:List Job) (i:Nat):Ec l jobs i ↔ (0 ≤ (atI jobs (i:Int)).task ∧ (atI jobs (i:Int)).task < l.length) ∧ (0 ≤ (atI jobs (i:Int)).arrive ∧ (atI jobs (i:Int)).arrive ≤ 17592186044416) ∧ (0 ≤ Cz jobs (atI jobs (i:Int)).task i → Fl l jobs i (atI jobs (i:Int)).task ≤ (atI jobs (i:Int)).arrive) ∧ (atI jobs (i:Int)).arrive ≤ (atI jobs (i:Int)).release ∧ (atI jobs (i:Int)).release ≤ (atI jobs (i:Int)).arrive + (atI l (atI jobs (i:Int)).task).J ∧ 1 ≤ (atI jobs (i:Int)).work ∧ (atI jobs (i:Int)).work ≤ (atI l (atI jobs (i:Int)).task).C:=by
 unfold Ec Fl
 dsimp only
 constructor
 ·rintro ⟨a,b,c,d⟩;exact ⟨a,b,fun h => by rw [if_pos h];exact c h,d⟩
 ·rintro ⟨a,b,c,d⟩;exact ⟨a,b,fun h => by have:=c h;rw [if_pos h] at this;exact this,d⟩
theorem Apj (hE:As E) {W:Nat → Prop} {h0:Aa} {v0 v2 v8 v24 v25 v26:Value} {bj bt:Nat} {y0 y1 y2 y3 y4 y6 vc:Value} {q w:Int} {cuts:List Int} (hc:Rd 1 D7 h0 vc cuts) (hbt:h0[bt]? = some (.cells [y0,y1,y2,y3,y4,.int .i64 q,y6] false)) (hw:0 ≤ w) (hw2:w ≤ 2147483647) {Q:Ex → Fr → Aa → Prop} {fr:Fr}
  (g0:get fr 0 = v0) (g2:get fr 2 = v2) (g7:get fr 7 = .func (.func Bo) #[] #[]) (g8:get fr 8 = v8) (g10:get fr 10 = .pointer (some ⟨bj,0,none⟩)) (g11:get fr 11 = .pointer (some ⟨bt,0,none⟩)) (g12:get fr 12 = .int .i64 w) (g24:get fr 24 = v24) (g25:get fr 25 = v25) (g26:get fr 26 = v26) (g80:get fr 80 = vc) (g81:get fr 81 = .int .i64 cuts.length) (g82:get fr 82 = .int .i64 0)
  (hq1:Dc q cuts w = true → ∀ fr',get fr' 0 = v0 → get fr' 2 = v2 → get fr' 7 = .func (.func Bo) #[] #[] → get fr' 8 = v8 → get fr' 10 = .pointer (some ⟨bj,0,none⟩) → get fr' 11 = .pointer (some ⟨bt,0,none⟩) → get fr' 24 = v24 → get fr' 25 = v25 → get fr' 26 = v26 → Q (.exit 2) fr' h0)
  (hq2:Dc q cuts w = false → ∀ fr',get fr' 6 = .bool false → Q .ret fr' h0) :
  WO W (iterW (code (callW E) iterW 117 Jt) fr h0) Q:=by
 have few:=hc.few
 refine WO.loop (fun (c:Nat) fr h' => h' = h0 ∧ c ≤ cuts.length ∧ get fr 0 = v0 ∧ get fr 2 = v2 ∧ get fr 7 = .func (.func Bo) #[] #[] ∧ get fr 8 = v8 ∧ get fr 10 = .pointer (some ⟨bj,0,none⟩) ∧ get fr 11 = .pointer (some ⟨bt,0,none⟩) ∧ get fr 24 = v24 ∧ get fr 25 = v25 ∧ get fr 26 = v26 ∧ get fr 80 = vc ∧ get fr 81 = .int .i64 cuts.length ∧ get fr 82 = .int .i64 c ∧ ∃ left,get fr 12 = .int .i64 left ∧ 0 ≤ left ∧ left ≤ w ∧ Dc q cuts w = Dc q (cuts.drop c) left) (fun c => cuts.length - c) ?_ 0 ⟨rfl,Nat.zero_le _,g0,g2,g7,g8,g10,g11,g24,g25,g26,g80,g81,g82,w,g12,hw,Int.le_refl _,rfl⟩
 rintro c fr h' ⟨rfl,l,g0,g2,g7,g8,g10,g11,g24,g25,g26,g80,g81,g82,left,g12,p,o,a⟩
 unfold Jt
 rcases Nat.lt_or_ge c cuts.length with hlt | hge
 ·have f:Dc q (cuts.drop c) left = (decide (1 ≤ atI cuts (c:Int) ∧ atI cuts (c:Int) ≤ min q left) && Dc q (cuts.drop (c + 1)) (left - atI cuts (c:Int))):=by
   rw [List.drop_eq_getElem_cons hlt,Dc,B8 hlt]
   congr 1
   exact decide_eq_decide.2 (by omega)
  rw [f] at a
  have j:=N3 hE h' (atI cuts (c:Int)) 1 (min q left)
  have g:=Hid.mk a
  clear a f
  have hq2:=Hid.mk hq2
  clear hq1
  by_cases d:1 ≤ atI cuts (c:Int) ∧ atI cuts (c:Int) ≤ min q left
  ·rw [decide_eq_true d] at j
   have Hc:=Hid.mk d
   have m:atI cuts (c:Int) ≤ left:=by omega
   have n:=d.1
   clear d
   (repeat' (first | (with_reducible refine A3 (fun _ => ?_) (fun _ => ?_) <;> try (exfalso;omega)) | simp -dsimp (disch:=omega) only [↓EA,EB,Nat.reduceEqDiff,↓reduceIte,reduceCtorEq,eq_self, *,hc.ixs,hc.ld0,D7]))
   exact Next.mk (c + 1) ⟨rfl,by omega,rfl,rfl,rfl,rfl,rfl,rfl,rfl,rfl,rfl,rfl,rfl,rfl,_,rfl,by omega,by omega,by rw [g.out,decide_eq_true Hc.out];rfl⟩ (by omega)
  ·rw [decide_eq_false d] at j
   have Hc:=Hid.mk d
   clear d
   (repeat' (first | (with_reducible refine A3 (fun _ => ?_) (fun _ => ?_) <;> try (exfalso;omega)) | simp -dsimp (disch:=omega) only [↓EA,EB,Nat.reduceEqDiff,↓reduceIte,reduceCtorEq,eq_self, *,hc.ixs,hc.ld0,D7]))
   exact hq2.out (by rw [g.out,decide_eq_false Hc.out];rfl) _ rfl
 ·have e:cuts.drop c = []:=List.drop_of_length_le (by omega)
  rw [e] at a
  have hq1:=hq1 a
  clear a e hq2
  (repeat' (first | (with_reducible refine A3 (fun _ => ?_) (fun _ => ?_) <;> try (exfalso;omega)) | simp -dsimp (disch:=omega) only [↓EA,EB,Nat.reduceEqDiff,↓reduceIte,reduceCtorEq,eq_self, *]))
  exact hq1 _ rfl rfl rfl rfl rfl rfl rfl rfl rfl
theorem Alb (l:List Ac) (jobs:List Job) (n:Nat):Ib l jobs (n + 1) = (Ib l jobs n && E7 l jobs n):=rfl
theorem Afv (hE:As E) {h:Aa} {v0 v1:Value} {l:List Ac} {jobs:List Job} (hl:Rd 7 Ar h v0 l) (hs:∀ t ∈ l,t.name.size < 1152921504606846976) (hj:RdJ h v1 jobs) :
  callW E (.func (.func Gp) #[] #[]) [v0,v1,.func (.func Cg) #[] #[]] h = some (.bool (legalB l jobs),h,[]):=by
 refine Ak hE.Ad6 rfl (by simp) ?_
 obtain ⟨f,rfl,a9,hc⟩:=hj.is
 have few:=a9.few
 have au:=hl.few
 have aa:=Apn hE hl hs
 simp only [Ai]
 by_cases y:(Bz l).2 = 0
 ·by_cases ag:f.length ≤ 4096
  ·obtain ⟨ay,av,a0⟩:=By y
   have hd:legalB l (f.map (·.j)) = Ib l (f.map (·.j)) f.length:=by simp [legalB,y,ag]
   rw [hd]
   rw [decide_eq_true y] at aa
   clear hd y
   (repeat' (first | (with_reducible refine A3 (fun _ => ?_) (fun _ => ?_) <;> try (exfalso;omega)) | simp -dsimp (disch:=omega) only [↓EA,EB,Nat.reduceEqDiff,Nat.reduceAdd,↓reduceIte,reduceCtorEq,eq_self, *,a9.len]))
   clear aa
   refine WO.loop (fun (n:Nat) fr h' => Pre h h' ∧ h.length < h'.length ∧ n ≤ f.length ∧ get fr 0 = v0 ∧ get fr 2 = .func (.func Cg) #[] #[] ∧ get fr 7 = .func (.func Bo) #[] #[] ∧ get fr 8 = .map (some h.length) ∧ get fr 24 = v1 ∧ get fr 25 = .int .i64 f.length ∧ get fr 26 = .int .i64 n ∧ Ib l (f.map (·.j)) n = true ∧ ∃ es,h'[h.length]? = some (.map es) ∧ X1 .i64 es ∧ ∀ t:Int,0 ≤ t → t < l.length → (Tj .i64 es t).getD (.int .i64 0) = .int .i64 (Fl l (f.map (·.j)) n t)) (fun n => f.length - n) ?_ 0 ⟨Pre.app h _,by simp,Nat.zero_le _,rfl,rfl,rfl,rfl,rfl,rfl,rfl,rfl,[],by rw [Bh];rfl,(fun e he => nomatch he),fun t _ _ => rfl⟩
   rintro n fr h' ⟨hp,a1,hn,g0,g2,g7,g8,bb,ba,b9,ab,es,m1,k1,c1⟩
   have m:=hl.pre hp
   have g:=a9.pre hp
   have a6:=Hid.mk ab
   clear ab
   unfold N5
   rcases Nat.lt_or_ge n f.length with hlt | hge
   ·have aj:=Al (l:=f) (i:=n) (by omega) (by omega)
    have r:=(hc _ aj).pre hp
    have e2:atI (f.map (·.j)) (n:Int) = (atI f n).j:=(G5 (fun p:NV Job => p.j) f n (by omega) (by omega)).symm
    have z:=Ac9 l (f.map (·.j)) n
    have ad:=fun t => Ad2 l (f.map (·.j)) n t
    rw [e2] at z
    simp only [e2] at ad
    have ai:0 ≤ Cz (f.map (·.j)) (atI f n).j.task n → 0 ≤ Fl l (f.map (·.j)) n (atI f n).j.task ∧ Fl l (f.map (·.j)) n (atI f n).j.task ≤ 17592186044416 + 2147483647:=fun hk => by
     have h5:=O9 (f.map (·.j)) (atI f n).j.task n
     have h1:=Sp a6.out (Cz (f.map (·.j)) (atI f n).j.task n).toNat (by omega)
     simp only [E7,Bool.and_eq_true,decide_eq_true_eq] at h1
     have h2:=(Ac9 _ _ _).1 h1.1
     rw [show ((Cz (f.map (·.j)) (atI f n).j.task n).toNat:Int) = Cz (f.map (·.j)) (atI f n).j.task n by omega] at h2
     have h6:=Mv hk
     rw [h6] at h2
     have h7:=(a0 _ (Al h2.1.1 h2.1.2)).1
     simp only [Am] at h7
     unfold Fl
     rw [if_pos hk]
     omega
    have ae:¬ 0 ≤ Cz (f.map (·.j)) (atI f n).j.task n → Fl l (f.map (·.j)) n (atI f n).j.task = 0:=fun hk => by unfold Fl;rw [if_neg hk]
    have aw:0 ≤ Fl l (f.map (·.j)) n (atI f n).j.task ∧ Fl l (f.map (·.j)) n (atI f n).j.task ≤ 17592186044416 + 2147483647:=by
     by_cases hk:0 ≤ Cz (f.map (·.j)) (atI f n).j.task n
     ·exact ai hk
     ·rw [ae hk];omega
    have a7:Hid (Ec l (f.map (·.j)) n ↔ ((0 ≤ (atI f n).j.task ∧ (atI f n).j.task < l.length) ∧ (Fl l (f.map (·.j)) n (atI f n).j.task ≤ (atI f n).j.arrive ∧ (atI f n).j.arrive ≤ 17592186044416) ∧ ((atI f n).j.arrive ≤ (atI f n).j.release ∧ (atI f n).j.release ≤ (atI f n).j.arrive + (atI l (atI f n).j.task).J) ∧ 1 ≤ (atI f n).j.work ∧ (atI f n).j.work ≤ (atI l (atI f n).j.task).C)):=⟨by
     rw [z]
     constructor
     ·rintro ⟨a,b,c,d⟩
      refine ⟨a,⟨?_,b.2⟩,⟨d.1,d.2.1⟩,d.2.2⟩
      by_cases hk:0 ≤ Cz (f.map (·.j)) (atI f n).j.task n
      ·exact c hk
      ·rw [ae hk];exact b.1
     ·rintro ⟨a,b,c,d⟩
      exact ⟨a,⟨by omega,b.2⟩,fun _ => b.1,c.1,c.2,d⟩⟩
    have o:Hid (E7 l (f.map (·.j)) n = (decide (Ec l (f.map (·.j)) n) && Dc (atI l (atI f n).j.task).Q (atI f n).j.cuts (atI f n).j.work)):=⟨by simp only [E7,e2]⟩
    have s:Hid (E7 l (f.map (·.j)) n = false → Ib l (f.map (·.j)) f.length = false):=⟨fun h => Aq8 hlt h⟩
    have aq:=Hid.mk ad
    have hL:=Ue k1 (.int .i64 0) (atI f n).j.task
    clear ad z ai ae e2 hc hs
    generalize hS:Fl l (f.map (·.j)) n (atI f n).j.task = S at *
    by_cases a3:0 ≤ (atI f n).j.task ∧ (atI f n).j.task < l.length
    ·have hC:=c1 _ a3.1 a3.2
     rw [hS] at hC
     have a8:=(a0 _ (Al a3.1 a3.2)).1
     simp only [Am] at a8
     have b2:=a8.2.2.2.1
     have b7:=a8.2.2.1
     have b5:=a8.2.2.2.2.2.2.1
     clear a8 a0
     rw [hC] at hL
     have w1:=fun x => N3 hE (h' ++ x) (atI f n).j.arrive S 17592186044416
     have w2:=fun x => N3 hE (h' ++ x) (atI f n).j.release (atI f n).j.arrive ((atI f n).j.arrive + (atI l (atI f n).j.task).J)
     have w3:=fun x => N3 hE (h' ++ x) (atI f n).j.work 1 (atI l (atI f n).j.task).C
     by_cases a5:S ≤ (atI f n).j.arrive ∧ (atI f n).j.arrive ≤ 17592186044416
     ·rw [decide_eq_true a5] at w1
      by_cases a2:(atI f n).j.arrive ≤ (atI f n).j.release ∧ (atI f n).j.release ≤ (atI f n).j.arrive + (atI l (atI f n).j.task).J
      ·rw [decide_eq_true a2] at w2
       by_cases a4:1 ≤ (atI f n).j.work ∧ (atI f n).j.work ≤ (atI l (atI f n).j.task).C
       ·rw [decide_eq_true a4] at w3
        have al:=Hid.mk (a7.out.2 ⟨a3,a5,a2,a4⟩)
        have ac:∀ x,(h' ++ x)[h.length]? = some (.map es):=fun x => by rw [GL a1];exact m1
        (repeat' (first | (with_reducible refine A2 (fun _ => ?_) (fun _ => ?_) <;> try (exfalso;omega)) | (with_reducible refine A3 (fun _ => ?_) (fun _ => ?_) <;> try (exfalso;omega)) | simp -dsimp (disch:=omega) only [↓EA,EB,Nat.reduceEqDiff,Nat.reduceAdd,↓reduceIte,reduceCtorEq,Ab,eq_self, *,m.len,m.ixs,m.ldxa,g.ixs,g.lda,Du,hdJ,Ar,r.len,r.one,hp.le,hp.le_add]))
        refine Apj hE (r.app _) (bj:=h'.length) (bt:=h'.length + 1) (by rw [Jr];rfl) (by omega) (by omega) rfl rfl rfl rfl rfl rfl rfl rfl rfl rfl rfl rfl rfl (fun u ao q0 q2 q7 q8 b3 b6 ax b8 b4 => ?_) (fun u ao q6 => ?_)
        ·have af:Ib l (f.map (·.j)) (n + 1) = true:=by
          rw [Alb,a6.out,Bool.true_and,o.out,u,decide_eq_true al.out];rfl
         have ap:=Hid.mk af
         obtain ⟨ar,p1,p2,p3⟩:=Yn (.int .i64 ((atI f n).j.arrive + (atI l (atI f n).j.task).T)) k1 (atI f n).j.task
         have M1:=Akk p1
         have P3:=Hid.mk p3
         have ak:=Hid.mk c1
         have ah:=r.one
         have bc:=r.cv
         have as:=fun x => Auk hE (h' ++ x) (j:=.agg #[.int .i64 (atI f n).j.task,.int .i64 (atI f n).j.arrive,.int .i64 (atI f n).j.release,.int .i64 (atI f n).j.work,(atI f n).v]) (by simp [Up,Aeg,ah]) (.int .i64 ((atI f n).j.arrive - S))
         have b0:=hp.le
         clear af u p1 p3 c1 w1 w2 w3
         (repeat' simp -dsimp (disch:=omega) only [↓EA,EB,Nat.reduceEqDiff,Nat.reduceAdd,↓reduceIte,reduceCtorEq,eq_self, *])
         refine Next.mk (n + 1) ⟨(hp.app' _).set (Nat.le_refl _) _,by simp;omega,by omega,rfl,rfl,rfl,rfl,rfl,rfl,rfl,ap.out,ar,Bq (by simp;omega),p2,fun t an am => ?_⟩ (by omega)
         rw [P3.out,aq.out]
         by_cases ht:(atI f n).j.task = t
         ·rw [if_pos ht.symm,if_pos ht,ht];rfl
         ·rw [if_neg (fun e => ht e.symm),if_neg ht];exact ak.out t an am
        ·have hf:=s.out (by rw [o.out,u,Bool.and_false])
         rw [hf]
         clear u w1 w2 w3
         (repeat' simp -dsimp (disch:=omega) only [EB,eq_self, *])
       ·rw [decide_eq_false a4] at w3
        have hf:=s.out (by rw [o.out,decide_eq_false (fun e => a4 (a7.out.1 e).2.2.2)];rfl)
        rw [hf]
        have ac:∀ x,(h' ++ x)[h.length]? = some (.map es):=fun x => by rw [GL a1];exact m1
        have b1:=Hid.mk a4
        clear hf a4
        (repeat' (first | (with_reducible refine A2 (fun _ => ?_) (fun _ => ?_) <;> try (exfalso;omega)) | (with_reducible refine A3 (fun _ => ?_) (fun _ => ?_) <;> try (exfalso;omega)) | simp -dsimp (disch:=omega) only [↓EA,EB,Nat.reduceEqDiff,Nat.reduceAdd,↓reduceIte,reduceCtorEq,Ab,eq_self, *,m.len,m.ixs,m.ldxa,g.ixs,g.lda,Du,hdJ,Ar,r.one,hp.le,hp.le_add]))
      ·rw [decide_eq_false a2] at w2
       have hf:=s.out (by rw [o.out,decide_eq_false (fun e => a2 (a7.out.1 e).2.2.1)];rfl)
       rw [hf]
       have ac:∀ x,(h' ++ x)[h.length]? = some (.map es):=fun x => by rw [GL a1];exact m1
       have az:=Hid.mk a2
       clear hf a2 w3
       (repeat' (first | (with_reducible refine A2 (fun _ => ?_) (fun _ => ?_) <;> try (exfalso;omega)) | (with_reducible refine A3 (fun _ => ?_) (fun _ => ?_) <;> try (exfalso;omega)) | simp -dsimp (disch:=omega) only [↓EA,EB,Nat.reduceEqDiff,Nat.reduceAdd,↓reduceIte,reduceCtorEq,Ab,eq_self, *,m.len,m.ixs,m.ldxa,g.ixs,g.lda,Du,hdJ,Ar,r.one,hp.le,hp.le_add]))
     ·rw [decide_eq_false a5] at w1
      have hf:=s.out (by rw [o.out,decide_eq_false (fun e => a5 (a7.out.1 e).2.1)];rfl)
      rw [hf]
      have ac:∀ x,(h' ++ x)[h.length]? = some (.map es):=fun x => by rw [GL a1];exact m1
      have bd:=Hid.mk a5
      clear hf a5 w2 w3
      (repeat' (first | (with_reducible refine A2 (fun _ => ?_) (fun _ => ?_) <;> try (exfalso;omega)) | (with_reducible refine A3 (fun _ => ?_) (fun _ => ?_) <;> try (exfalso;omega)) | simp -dsimp (disch:=omega) only [↓EA,EB,Nat.reduceEqDiff,Nat.reduceAdd,↓reduceIte,reduceCtorEq,Ab,eq_self, *,m.len,m.ixs,m.ldxa,g.ixs,g.lda,Du,hdJ,Ar,r.one,hp.le,hp.le_add]))
    ·have hf:=s.out (by rw [o.out,decide_eq_false (fun e => a3 (a7.out.1 e).1)];rfl)
     rw [hf]
     clear hf c1 a0
     (repeat' (first | (with_reducible refine A2 (fun _ => ?_) (fun _ => ?_) <;> try (exfalso;omega)) | (with_reducible refine A3 (fun _ => ?_) (fun _ => ?_) <;> try (exfalso;omega)) | simp -dsimp (disch:=omega) only [↓EA,EB,Nat.reduceEqDiff,Nat.reduceAdd,↓reduceIte,reduceCtorEq,Ab,eq_self, *,m.len,g.ixs,g.lda,Du,hdJ,r.one,hp.le]))
   ·have e:n = f.length:=by omega
    subst e
    rw [a6.out]
    (repeat' (first | (with_reducible refine A3 (fun _ => ?_) (fun _ => ?_) <;> try (exfalso;omega)) | simp -dsimp (disch:=omega) only [↓EA,EB,Nat.reduceEqDiff,↓reduceIte,reduceCtorEq,eq_self, *]))
  ·have hd:legalB l (f.map (·.j)) = false:=by simp [legalB,ag]
   rw [hd]
   rw [decide_eq_true y] at aa
   (repeat' (first | (with_reducible refine A3 (fun _ => ?_) (fun _ => ?_) <;> try (exfalso;omega)) | simp -dsimp (disch:=omega) only [↓EA,EB,Nat.reduceEqDiff,Nat.reduceAdd,↓reduceIte,reduceCtorEq,eq_self, *,a9.len]))
 ·have hd:legalB l (f.map (·.j)) = false:=by simp [legalB,y]
  rw [hd]
  rw [decide_eq_false y] at aa
  (repeat' simp -dsimp (disch:=omega) only [↓EA,EB,Nat.reduceEqDiff,Nat.reduceAdd,↓reduceIte,reduceCtorEq,eq_self, *])
theorem A0l (hE:As E) {h:Aa} {v0 v1:Value} {l:List Ac} {jobs:List Job} (hl:Rd 7 Ar h v0 l) (hs:∀ t ∈ l,t.name.size < 1152921504606846976) (hj:RdJ h v1 jobs) :
  callW E (.func (.func Gq) #[] #[]) [v0,v1] h = some (.bool (legalB l jobs),h,[]):=by
 have q:=Afv hE hl hs hj
 refine Ak hE.Ad7 rfl (by simp) ?_
 simp only [Ai]
 generalize legalB l jobs = b at *
 (repeat' simp -dsimp (disch:=omega) only [↓EA,EB,Nat.reduceEqDiff,↓reduceIte,reduceCtorEq,eq_self, *])
end Go.L.Try
