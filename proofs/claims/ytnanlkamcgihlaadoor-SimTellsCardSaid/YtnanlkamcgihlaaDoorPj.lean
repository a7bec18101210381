/- NUMBERS OF 64 BITS: math/bits.Mul64, num.Mul. -/
import Derived.Test.YtnanlkamcgihlaaDoorCode
import Derived.Test.YtnanlkamcgihlaaDoorPa
import Derived.Test.YtnanlkamcgihlaaDoorPc
import Derived.Test.YtnanlkamcgihlaaDoorVb
import Derived.Lib.TrailingZeros
import Derived.Test.YtnanlkamcgihlaaDoorVc
set_option linter.unusedVariables false
set_option linter.unusedSimpArgs false
set_option maxRecDepth 100000
namespace Go.L.Try
open Go Go.L
variable {E:Env}
end Go.L.Try
namespace Go.L.Try
open Go Go.L
variable {E:Env}
theorem Aqy {g:FuncId} {e:List Value → Aa → Option (Value × Aa × List Nat)} (hf:E g = .ext e) (args:List Value) (h:Aa):callW E (.func (.func g) #[] #[]) args h = e args h:=by
 rw [M4];simp [I9,hf,Eo]
end Go.L.Try
set_option maxHeartbeats 1000000
namespace Go.L.Try
open Go Go.L
variable {E:Env}
def isP (l:List Ac) (i:Int):Bool:=decide ((Bz l).2 = 0 ∧ 0 ≤ i ∧ i < l.length)
theorem R7 {l:List Ac} {i:Int} (h:isP l i = true):(0 ≤ i ∧ i < l.length) ∧ l.length ≤ 1024 ∧ ∀ t ∈ l,Gm t:=by
 unfold isP at h
 have h:=of_decide_eq_true h
 exact ⟨h.2,(By h.1).2⟩
theorem Ace {l:List Ac} (hv:F7 l) {i:Int} (h0:0 ≤ i) (h1:i < l.length):isP l i = true:=by
 unfold F7 at hv;unfold isP;exact decide_eq_true ⟨hv,h0,h1⟩
end Go.L.Try
namespace Go.L.Try
open Go Go.L
variable {E:Env}
def OwnL {α : Type} (m sz:Nat) (enc:α → List Value) (h:Aa) (v:Value) (l:List α):Prop :=
 OwnT m sz enc h v l ∨ ∃ b,v = .slice (some ⟨b,0,none⟩) l.length l.length ∧ m ≤ b ∧ h[b]? = some (.cells (l.map enc).flatten false) ∧ (∀ a,(enc a).length = sz) ∧ l.length < 1152921504606846976
theorem OwnL.rd {α : Type} {m sz:Nat} {enc:α → List Value} {h:Aa} {v:Value} {l:List α} (o:OwnL m sz enc h v l):Rd sz enc h v l:=by
 rcases o with o | ⟨b,rfl,_,c,d,a⟩
 ·exact o.rd
 ·exact Rd.lit l c rfl d a (Nat.le_refl _) (.inl rfl)
theorem OwnL.app {α : Type} {m sz:Nat} {enc:α → List Value} {h:Aa} {v:Value} {l:List α} (o:OwnL m sz enc h v l) (x:Aa):OwnL m sz enc (h ++ x) v l:=by
 rcases o with o | ⟨b,rfl,d,a,e,c⟩
 ·exact .inl (o.app x)
 ·exact .inr ⟨b,rfl,d,by rw [GL (GI.1 a).1];exact a,e,c⟩
end Go.L.Try
set_option maxHeartbeats 2000000
namespace Go.L.Try
open Go Go.L
variable {E:Env}
def Po (t:Ac):Ac:=⟨t.name,t.C.tmod 40,t.T.tmod 40,t.D.tmod 40,t.J.tmod 40,t.Q.tmod 40,t.P⟩
end Go.L.Try
namespace Go.L.Try
open Go Go.L
variable {E:Env}
end Go.L.Try
namespace Go.L.Try
open Go Go.L
def Fx (w:List Nat):List Value:=w.map fun x:Nat => .int .u64 (x:Int)
structure okM (w:List Nat):Prop where
 len:w.length = 16
 lt:∀ x ∈ w,x < 18446744073709551616
def wordM (w:List Nat) (i:Nat):Nat:=w.getD i 0
def Ti (w:List Nat) (n:Nat):Bool:=(wordM w (n / 64)).testBit (n % 64)
def withM (w:List Nat) (n:Int):List Nat:=if 0 ≤ n ∧ n < 1024 then w.set (n.toNat / 64) (wordM w (n.toNat / 64) ||| 2 ^ (n.toNat % 64)) else w
theorem Rc {w:List Nat} (hw:okM w) (i:Nat):wordM w i < 18446744073709551616:=by
 unfold wordM
 rw [List.getD_eq_getElem?_getD]
 cases h:w[i]? with
 | none => decide
 | some x => exact hw.lt x (List.mem_of_getElem? h)
theorem Apa {w:List Nat} {i j x:Nat} (hi:i < w.length):wordM (w.set i x) j = if i = j then x else wordM w j:=by
 unfold wordM
 rw [List.getD_eq_getElem?_getD,List.getD_eq_getElem?_getD]
 by_cases e:i = j
 ·subst e;rw [List.getElem?_set_self hi,if_pos rfl];rfl
 ·rw [List.getElem?_set_ne e,if_neg e]
theorem At3:okM (List.replicate 16 0):=⟨by simp,by simp⟩
theorem Ap5 (n:Nat):Ti (List.replicate 16 0) n = false:=by
 unfold Ti wordM
 rw [List.getD_eq_getElem?_getD]
 cases h:(List.replicate 16 0)[n / 64]? with
 | none => simp
 | some x => have:=List.eq_of_mem_replicate (List.mem_of_getElem? h);subst this;simp
theorem Agf {k:Nat} (hk:k < 64):2 ^ k < 18446744073709551616:=Nat.pow_lt_pow_right (by decide) (show k < 64 from hk)
theorem Yy {w:List Nat} (hw:okM w) (n:Int):okM (withM w n):=by
 unfold withM
 split
 ·refine ⟨by simp [hw.len],fun x a => ?_⟩
  rcases List.mem_or_eq_of_mem_set a with h | rfl
  ·exact hw.lt x h
  ·exact Nat.or_lt_two_pow (n:=64) (Rc hw _) (Agf (Nat.mod_lt _ (by decide)))
 ·exact hw
theorem Apc {w:List Nat} (hw:okM w) {n:Nat} (hn:n < 1024) (m:Nat):Ti (withM w n) m = (Ti w m || decide (m = n)):=by
 unfold withM Ti
 rw [if_pos ⟨by omega,by omega⟩,Apa (by rw [hw.len];omega)]
 simp only [Int.toNat_natCast]
 by_cases h:n / 64 = m / 64
 ·rw [if_pos h,h,Nat.testBit_or,Nat.testBit_two_pow]
  congr 1
  exact decide_eq_decide.2 (by omega)
 ·rw [if_neg h]
  have:m ≠ n:=by intro e;subst e;exact h rfl
  simp [this]
theorem Apb {w:List Nat} {n:Int} (hn:¬ (0 ≤ n ∧ n < 1024)):withM w n = w:=by unfold withM;rw [if_neg hn]
def Aj (w:List Nat) (n:Nat):List Nat:=(List.range' n (1024 - n)).filter (Ti w)
theorem Xf (w:List Nat) {n:Nat} (h:1024 ≤ n):Aj w n = []:=by
 unfold Aj;rw [show 1024 - n = 0 by omega];rfl
theorem Uk (w:List Nat) {n:Nat} (h:n < 1024):Aj w n = if Ti w n then n :: Aj w (n + 1) else Aj w (n + 1):=by
 unfold Aj
 obtain ⟨k,a⟩:∃ k,1024 - n = k + 1:=⟨1024 - n - 1,by omega⟩
 rw [a,show 1024 - (n + 1) = k by omega,List.range'_succ,List.filter_cons]
theorem Ul {w:List Nat}:∀ {d n:Nat},n + d ≤ 1024 → (∀ j,n ≤ j → j < n + d → Ti w j = false) → Aj w n = Aj w (n + d)
 | 0,_,_,_ => rfl
 | d + 1,n,h,hj => by
  rw [Uk w (by omega),hj n (Nat.le_refl _) (by omega),Ul (d:=d) (n:=n + 1) (by omega) (fun j a h2 => hj j (by omega) (by omega))]
  simp only [Bool.false_eq_true,if_false]
  congr 1;omega
theorem My {w:List Nat}:∀ (d:Nat) {m n:Nat} {r:List Nat},1024 - m = d → Aj w m = n :: r → r = Aj w (n + 1) ∧ n < 1024
 | 0,m,n,r,hd,h => by rw [Xf w (by omega)] at h;cases h
 | d + 1,m,n,r,hd,h => by
  rw [Uk w (by omega)] at h
  split at h
  ·cases h;exact ⟨rfl,by omega⟩
  ·exact My d (m:=m + 1) (by omega) h
def tz (x:Nat):Nat:=Lib.ctz 64 x
theorem Awi {x:Nat} (h0:x ≠ 0) (h:x < 18446744073709551616):x.testBit (tz x) = true ∧ tz x < 64 ∧ ∀ j,j < tz x → x.testBit j = false:=by
 have a:tz x = Lib.ctzFrom 64 x:=by unfold tz Lib.ctz;rw [if_neg h0]
 obtain ⟨m,c,h2⟩:=Lib.ctzFrom_spec 64 x (Nat.pos_of_ne_zero h0) h
 rw [a]
 generalize Lib.ctzFrom 64 x = k at *
 have e:∀ j,x.testBit j = (decide (k ≤ j) && (2 * m + 1).testBit (j - k)):=fun j => by rw [c,Nat.mul_comm,Nat.testBit_mul_two_pow]
 refine ⟨?_,h2,fun j d => ?_⟩
 ·rw [e k];simp
 ·rw [e j];simp;omega
def Q6 (x k:Nat):Nat:=(x >>> k) <<< k
theorem Aa0 (x k j:Nat):(Q6 x k).testBit j = (decide (k ≤ j) && x.testBit j):=by
 unfold Q6
 rw [Nat.testBit_shiftLeft,Nat.testBit_shiftRight]
 by_cases h:k ≤ j
 ·simp [h,show k + (j - k) = j by omega]
 ·simp [h]
theorem Aey (x k:Nat):Q6 x k ≤ x:=by
 unfold Q6
 rw [Nat.shiftRight_eq_div_pow,Nat.shiftLeft_eq]
 exact Nat.div_mul_le_self _ _
theorem Aqm (x:Nat):Q6 x 0 = x:=by unfold Q6;simp
theorem Aim {w:List Nat} {i k:Nat} (hi:i < 16) (hk:k < 64) (h0:Q6 (wordM w i) k = 0):Aj w (64 * i + k) = Aj w (64 * (i + 1)):=by
 have:=Ul (w:=w) (n:=64 * i + k) (d:=64 - k) (by omega) (fun j c h2 => by
  unfold Ti
  rw [show j / 64 = i by omega]
  have:=Aa0 (wordM w i) k (j % 64)
  rw [h0] at this
  simp only [Nat.zero_testBit] at this
  have a:k ≤ j % 64:=by omega
  simpa [a] using this.symm)
 rw [this];congr 1;omega
theorem Akw {w:List Nat} (hw:okM w) {i k:Nat} (hi:i < 16) (hk:k < 64) (h0:Q6 (wordM w i) k ≠ 0):tz (Q6 (wordM w i) k) < 64 ∧ k ≤ tz (Q6 (wordM w i) k) ∧ Aj w (64 * i + k) = (64 * i + tz (Q6 (wordM w i) k)) :: Aj w (64 * i + tz (Q6 (wordM w i) k) + 1):=by
 have e:Q6 (wordM w i) k < 18446744073709551616:=Nat.lt_of_le_of_lt (Aey _ _) (Rc hw i)
 obtain ⟨a,b,c⟩:=Awi h0 e
 generalize tz (Q6 (wordM w i) k) = z at *
 rw [Aa0,Bool.and_eq_true,decide_eq_true_eq] at a
 have f:=Ul (w:=w) (n:=64 * i + k) (d:=z - k) (by omega) (fun j f h2 => by
  unfold Ti
  rw [show j / 64 = i by omega]
  have:=c (j % 64) (by omega)
  rw [Aa0] at this
  have g:k ≤ j % 64:=by omega
  simpa [g] using this)
 refine ⟨b,a.1,?_⟩
 rw [f,show 64 * i + k + (z - k) = 64 * i + z by omega,Uk w (by omega)]
 have:Ti w (64 * i + z) = true:=by
  unfold Ti
  rw [show (64 * i + z) / 64 = i by omega,show (64 * i + z) % 64 = z by omega];exact a.2
 rw [this,if_pos rfl]
end Go.L.Try
namespace Go.L.Try
open Go Go.L
variable {E:Env}
theorem Anp (hE:As E) (h:Aa) (n:Int):callW E (.func (.func Kh) #[] #[]) [.int .i64 n] h = some (.bool (decide (0 ≤ n ∧ n < 1024)),h,[]):=by
 refine Ak hE.Auf rfl (by simp) ?_
 simp only [Ai]
 (repeat' (first | (with_reducible refine A1 (fun _ => ?_) (fun _ => ?_) <;> try (exfalso;omega)) | simp -dsimp (disch:=omega) only [↓EA,EB,Nat.reduceEqDiff,↓reduceIte,reduceCtorEq,eq_self, *]))
 all_goals first | rfl | exact congrArg Value.bool (decide_eq_decide.2 (by omega)) | exact congrArg Value.bool (decide_eq_false (by omega)).symm | exact congrArg Value.bool (decide_eq_true (by omega)).symm
theorem Ai0 {q:EqK} {a:Int} (h1:0 ≤ a):binOp .shr q (.int .i64 a) (.int .u64 6) = some (.int .i64 (a / 64)):=by
 simp only [binOp,Gf]
 rw [if_neg (by decide),Int.fdiv_eq_ediv_of_nonneg _ (by decide)];rfl
theorem Adq {q:EqK} {a:Nat} (h2:a < 9223372036854775808):binOp .and q (.int .i64 (a:Int)) (.int .i64 63) = some (.int .i64 ((a % 64:Nat):Int)):=by
 have e:((BitVec.ofInt 64 (a:Int)) &&& (BitVec.ofInt 64 63)).toNat = a % 64:=by
  have d:BitVec.ofInt 64 (a:Int) = BitVec.ofNat 64 a:=by simp
  have f:BitVec.ofInt 64 63 = BitVec.ofNat 64 63:=by decide
  rw [d,f,BitVec.toNat_and,BitVec.toNat_ofNat,BitVec.toNat_ofNat,Nat.mod_eq_of_lt (by omega)]
  exact Nat.and_two_pow_sub_one_eq_mod a 6
 have c:binOp .and q (.int .i64 (a:Int)) (.int .i64 63) = some (.int .i64 (IntKind.i64.wrap (((BitVec.ofInt 64 (a:Int)) &&& (BitVec.ofInt 64 63)).toNat:Nat))):=by simp only [binOp,Gf,if_true];rfl
 rw [c,e,Uy (by omega) (by omega)]
theorem Ayd {q:EqK} {a b:Nat} (ha:a < 18446744073709551616) (hb:b < 18446744073709551616):binOp .or q (.int .u64 (a:Int)) (.int .u64 (b:Int)) = some (.int .u64 ((a ||| b:Nat):Int)):=by
 have f:a ||| b < 18446744073709551616:=Nat.or_lt_two_pow (n:=64) ha hb
 have e:((BitVec.ofInt 64 (a:Int)) ||| (BitVec.ofInt 64 (b:Int))).toNat = a ||| b:=by
  have c:∀ x:Nat,BitVec.ofInt 64 (x:Int) = BitVec.ofNat 64 x:=fun x => by simp
  rw [c,c,BitVec.toNat_or,BitVec.toNat_ofNat,BitVec.toNat_ofNat,Nat.mod_eq_of_lt ha,Nat.mod_eq_of_lt hb]
 have d:binOp .or q (.int .u64 (a:Int)) (.int .u64 (b:Int)) = some (.int .u64 (IntKind.u64.wrap (((BitVec.ofInt 64 (a:Int)) ||| (BitVec.ofInt 64 (b:Int))).toNat:Nat))):=by simp only [binOp,Gf,if_true];rfl
 rw [d,e,Rb (by omega) (by omega)]
theorem Avx {q:EqK} {k:Nat} (hk:k < 64):binOp .shl q (.int .u64 1) (.int .i64 (k:Int)) = some (.int .u64 ((2 ^ k:Nat):Int)):=by
 have a:(2 ^ k:Nat) < 18446744073709551616:=Nat.pow_lt_pow_right (by decide) (show k < 64 from hk)
 simp only [binOp,Gf]
 rw [if_neg (by omega),show min ((k:Int)).toNat (IntKind.bits .u64) = k by show min _ 64 = k;omega]
 have e:(1:Int) * 2 ^ k = ((2 ^ k:Nat):Int):=by simp
 rw [e,Rb (Int.natCast_nonneg _) (Int.ofNat_lt.2 a)]
end Go.L.Try
namespace Go.L.Try
open Go Go.L
variable {E:Env}
theorem E9 {w:List Nat} (hw:okM w):(Fx w).length = 16:=by simp [Fx,hw.len]
theorem Gu (w:List Nat):(Fx w).all Ag = true:=by
 unfold Fx;rw [List.all_map,List.all_eq_true];intro x _;rfl
theorem Aqj (w:List Nat):(Fx w).all U6 = true:=by
 unfold Fx;rw [List.all_map,List.all_eq_true];intro x _;rfl
theorem Vv (w:List Nat) (m:Nat):(Fx w).all (Ae m 3) = true:=by
 unfold Fx;rw [List.all_map,List.all_eq_true];intro x _;rfl
theorem I8 {w:List Nat} (hw:okM w):(Fx w).take 16 = Fx w:=List.take_of_length_le (by rw [E9 hw];exact Nat.le_refl _)
theorem Aev {w:List Nat} (hw:okM w) {i:Nat} (hi:i < 16):(Fx w)[i]? = some (.int .u64 (wordM w i:Int)):=by
 have h:=hw.len
 unfold Fx wordM
 rw [List.getElem?_map,List.getD_eq_getElem?_getD,List.getElem?_eq_getElem (by omega)];rfl
theorem Au7 (w:List Nat) (i x:Nat):(Fx w).set i (.int .u64 (x:Int)) = Fx (w.set i x):=by unfold Fx;rw [List.map_set]
theorem U2:∀ (c d:List Value) (cs:List Value),d.length = cs.length → setCells (c ++ d) c.length cs = c ++ cs
 | c,[],[],_ => by simp [Jd]
 | c,[],_ :: _,h => by simp at h
 | c,_ :: _,[],h => by simp at h
 | c,x :: d,y :: cs,h => by
  have a:=U2 (c ++ [y]) d cs (by simpa using h)
  rw [F0,List.set_append_right _ _ (Nat.le_refl _),Nat.sub_self,List.set_cons_zero]
  simp only [List.append_assoc,List.cons_append,List.nil_append,LA,List.length_cons,List.length_nil] at a
  exact a
theorem Zj {d cs:List Value} (h:d.length = cs.length):setCells d 0 cs = cs:=U2 [] d cs h
theorem Az2 {d:List Value} {w:List Nat} (hd:d.length = 16) (hw:okM w):setCells d 0 (Fx w) = Fx w:=Zj (by rw [hd,E9 hw])
def z16:List Value:=[.int .u64 0,.int .u64 0,.int .u64 0,.int .u64 0,.int .u64 0,.int .u64 0,.int .u64 0,.int .u64 0,.int .u64 0,.int .u64 0,.int .u64 0,.int .u64 0,.int .u64 0,.int .u64 0,.int .u64 0,.int .u64 0]
theorem Alm {w:List Nat} (hw:okM w):setCells [.int .u64 0,.int .u64 0,.int .u64 0,.int .u64 0,.int .u64 0,.int .u64 0,.int .u64 0,.int .u64 0,.int .u64 0,.int .u64 0,.int .u64 0,.int .u64 0,.int .u64 0,.int .u64 0,.int .u64 0,.int .u64 0] 0 (Fx w) = Fx w:=Az2 rfl hw
theorem Ard {w:List Nat} {m:Nat} (hm:m < 1024):withM w (m:Int) = w.set (m / 64) (wordM w (m / 64) ||| 2 ^ (m % 64)):=by
 unfold withM;rw [if_pos ⟨by omega,by omega⟩];rfl
theorem A1i (hE:As E) (h:Aa) {w:List Nat} (hw:okM w) (n:Int) :
  callW E (.func (.func E5) #[] #[]) [.agg (Fx w).toArray,.int .i64 n] h = some (.agg (Fx (withM w n)).toArray,h,[]):=by
 have q:=fun x => Anp hE (h ++ x) n
 refine Ak hE.Aaa rfl (by simp) ?_
 simp only [Ai]
 have hl:=E9 hw
 have ho:=Gu w
 have u:=I8 hw
 have a2:=Alm hw
 by_cases c:0 ≤ n ∧ n < 1024
 ·rw [decide_eq_true c] at q
  obtain ⟨m,rfl⟩:=Int.eq_ofNat_of_zero_le c.1
  have hm:m < 1024:=by omega
  have e:withM w (m:Int) = w.set (m / 64) (wordM w (m / 64) ||| 2 ^ (m % 64)):=Ard hm
  have d:=Yy hw (m:Int)
  rw [e] at d ⊢
  have a1:=Aev hw (i:=m / 64) (by omega)
  have r:=Rc hw (m / 64)
  have s:=Agf (Nat.mod_lt m (by decide:64 > 0))
  have a4:=fun q => Avx (q:=q) (k:=m % 64) (Nat.mod_lt _ (by decide))
  have l:=fun q => Adq (q:=q) (a:=m) (by omega)
  have t:=fun q => Ayd (q:=q) r s
  have g:=Au7 w (m / 64) (wordM w (m / 64) ||| 2 ^ (m % 64))
  have z:=E9 d
  have a3:=Gu (w.set (m / 64) (wordM w (m / 64) ||| 2 ^ (m % 64)))
  have p:=I8 d
  have a0:=Alm d
  have o:((m:Int) / 64).toNat = m / 64:=by omega
  have j:m / 64 * 1 = m / 64:=Nat.mul_one _
  have y:m / 64 + 1 ≤ 16:=by omega
  clear d hw r s c
  generalize hv:(wordM w (m / 64) ||| 2 ^ (m % 64)) = v at *
  generalize hw2:w.set (m / 64) v = w2 at *
  have f:=Vv w2 h.length
  (repeat' simp -dsimp (disch:=omega) only [↓EA,EB,Nat.reduceEqDiff,Nat.reduceAdd,↓reduceIte,reduceCtorEq,Ab,eq_self, *,Ai0])
 ·rw [decide_eq_false c] at q
  rw [Apb c]
  have f:=Vv w h.length
  (repeat' simp -dsimp (disch:=omega) only [↓EA,EB,Nat.reduceEqDiff,Nat.reduceAdd,↓reduceIte,reduceCtorEq,Ab,eq_self, *])
theorem Avu {q:EqK} {a k:Nat} (hk:k < 64):binOp .shr q (.int .u64 (a:Int)) (.int .i64 (k:Int)) = some (.int .u64 ((a >>> k:Nat):Int)):=by
 have e:binOp .shr q (.int .u64 (a:Int)) (.int .i64 (k:Int)) = some (.int .u64 (Int.fdiv (a:Int) (2 ^ k))):=by
  simp only [binOp,Gf]
  rw [if_neg (by omega),show min ((k:Int)).toNat (IntKind.bits .u64) = k by show min _ 64 = k;omega]
 rw [e,Int.fdiv_eq_ediv_of_nonneg _ (Int.pow_nonneg (by decide)),Nat.shiftRight_eq_div_pow]
 congr 2
theorem Avv {q:EqK} {a k:Nat} (hk:k < 64) (hlt:a <<< k < 18446744073709551616):binOp .shl q (.int .u64 (a:Int)) (.int .i64 (k:Int)) = some (.int .u64 ((a <<< k:Nat):Int)):=by
 have e:binOp .shl q (.int .u64 (a:Int)) (.int .i64 (k:Int)) = some (.int .u64 (IntKind.u64.wrap ((a:Int) * 2 ^ k))):=by
  simp only [binOp,Gf]
  rw [if_neg (by omega),show min ((k:Int)).toNat (IntKind.bits .u64) = k by show min _ 64 = k;omega]
 have c:(a:Int) * 2 ^ k = ((a <<< k:Nat):Int):=by rw [Nat.shiftLeft_eq];simp
 rw [e,c,Rb (Int.natCast_nonneg _) (Int.ofNat_lt.2 hlt)]
end Go.L.Try
namespace Go.L.Try
open Go Go.L
variable {E:Env} {G:Nat}
def Afh (c:List Value):Bool:=decide (c.length = 64) && (List.range 64).all fun j => match c[j]? with
 | some (.int .u8 n) => n == ((Lib.deBruijn64tab.getD j 0:Nat):Int)
 | _ => false
def tzE (G:Nat):List Value → Aa → Option (Value × Aa × List Nat)
 | [.int .u64 a],h => match h[G]? with
  | some (.cells c _) => if Afh c = true ∧ 0 ≤ a ∧ a < 18446744073709551616 then some (.int .i64 (tz a.toNat:Nat),h,[]) else none
  | _ => none
 | _,_ => none
structure G6 (E:Env) (G:Nat):Prop where
 tz64:E Bp = .ext (tzE G)
def Tab (G:Nat) (h:Aa):Prop:=∃ c ro,h[G]? = some (.cells c ro) ∧ Afh c = true
theorem Tab.pre {h h':Aa} (t:Tab G h) (p:Pre h h'):Tab G h':=by
 obtain ⟨c,d,a,h2⟩:=t;exact ⟨c,d,p _ _ a,h2⟩
theorem Tab.app {h:Aa} (t:Tab G h) (x:Aa):Tab G (h ++ x):=t.pre (Pre.app h x)
theorem tz64 (hZ:G6 E G) {h:Aa} (ht:Tab G h) {a:Nat} (ha:a < 18446744073709551616) :
  callW E (.func (.func Bp) #[] #[]) [.int .u64 (a:Int)] h = some (.int .i64 (tz a:Nat),h,[]):=by
 obtain ⟨c,e,d,h2⟩:=ht
 rw [Aqy hZ.tz64]
 simp only [tzE,d]
 rw [if_pos ⟨h2,by omega,by omega⟩];rfl
theorem Avw {q:EqK} {a:Int} (h1:0 ≤ a) (h2:a < 1073741824):binOp .shl q (.int .i64 a) (.int .u64 6) = some (.int .i64 (a * 64)):=by
 have e:binOp .shl q (.int .i64 a) (.int .u64 6) = some (.int .i64 (IntKind.i64.wrap (a * 64))):=by
  simp only [binOp,Gf]
  rw [if_neg (by decide)];rfl
 rw [e,Uy (by omega) (by omega)]
def Rx (w:List Nat) (n:Int):Option Nat:=(Aj w (max n (-1) + 1).toNat).head?
def Mt:Option Nat → Value
 | some m => .tuple #[.int .i64 (m:Nat),.bool true]
 | none => .tuple #[.int .i64 0,.bool false]
theorem Aub (hE:As E) (hZ:G6 E G) {h:Aa} (ht:Tab G h) {w:List Nat} (hw:okM w) {n:Int} (hn:n < 4611686018427387904) :
  callW E (.func (.func Dt) #[] #[]) [.agg (Fx w).toArray,.int .i64 n] h = some (Mt (Rx w n),h,[]):=by
 have q:=fun x => Anp hE (h ++ x) (max n (-1) + 1)
 refine Ak hE.Aab rfl (by simp) ?_
 simp only [Ai]
 have hl:=E9 hw
 have ho:=Gu w
 by_cases a2:max n (-1) + 1 < 1024
 ·rw [decide_eq_true (show 0 ≤ max n (-1) + 1 ∧ max n (-1) + 1 < 1024 by omega)] at q
  unfold Rx
  obtain ⟨m,hm⟩:∃ m:Nat,max n (-1) + 1 = (m:Int):=⟨(max n (-1) + 1).toNat,by omega⟩
  have a5:max n (-1) = (m:Int) - 1:=by omega
  have a6:(m:Int) - 1 + 1 = m:=by omega
  rw [hm] at q ⊢
  rw [show ((m:Int)).toNat = m by omega]
  have a7:m < 1024:=by omega
  have d:=Aev hw (i:=m / 64) (by omega)
  have hx:=Rc hw (m / 64)
  have c:=Nat.mod_lt m (by decide:64 > 0)
  have v:=fun q => Adq (q:=q) (a:=m) (by omega)
  have a0:=fun q => Avu (q:=q) (a:=wordM w (m / 64)) (k:=m % 64) c
  have o:=fun q => Avv (q:=q) (a:=wordM w (m / 64) >>> (m % 64)) (k:=m % 64) c (by have:=Aey (wordM w (m / 64)) (m % 64);unfold Q6 at this;omega)
  have l:(wordM w (m / 64) >>> (m % 64)) <<< (m % 64) = Q6 (wordM w (m / 64)) (m % 64):=rfl
  rw [l] at o
  clear l
  have y:((m:Int) / 64).toNat = m / 64:=by omega
  have p:((m:Int) / 64) = ((m / 64:Nat):Int):=by omega
  have f:m / 64 * 1 = m / 64:=Nat.mul_one _
  have u:m / 64 < 16:=by omega
  clear hm hx a2
  have a3:=ht.app [LObj.cells (Fx w) false]
  have j:64 * (m / 64) + m % 64 = m:=by omega
  (repeat' simp -dsimp (disch:=omega) only [↓EA,EB,Nat.reduceEqDiff,↓reduceIte,reduceCtorEq,Ab,eq_self, *,Ai0,Int.toNat_natCast])
  refine WO.loop (α:=Nat × Nat) (fun s fr h' => h' = h ++ [LObj.cells (Fx w) false] ∧ s.1 < 16 ∧ s.2 < 64 ∧ Aj w m = Aj w (64 * s.1 + s.2) ∧ get fr 2 = .pointer (some ⟨h.length,0,none⟩) ∧ get fr 7 = .int .u64 ((Q6 (wordM w s.1) s.2:Nat):Int) ∧ get fr 8 = .int .i64 (s.1:Int)) (fun s => 16 - s.1) ?_ (m / 64,m % 64) ?_
  rotate_left
  ·exact ⟨rfl,u,c,by rw [j],rfl,rfl,rfl⟩
  rintro ⟨i,k⟩ fr h' ⟨rfl,r,hk,he,g2,g7,g8⟩
  dsimp only at r hk he g7 g8
  have He:=Hid.mk he
  clear he q v a0 o y p f d j c u
  have H0:=Hid.mk (fun t => Aim (w:=w) r hk t)
  have H1:=Hid.mk (fun t => Akw hw r hk t)
  have hc:=Nat.lt_of_le_of_lt (Aey (wordM w i) k) (Rc hw i)
  have hz:=tz64 hZ a3 hc
  have d:=fun r => Aev hw (i:=i + 1) r
  have t:=Aqm (wordM w (i + 1))
  generalize hcv:Q6 (wordM w i) k = cv at *
  unfold L6
  by_cases g:cv = 0
  ·subst g
   have e:=H0.out rfl
   by_cases a1:i = 15
   ·subst a1
    have e2:(Aj w m).head? = none:=by rw [He.out,e,Xf w (by omega)];rfl
    rw [e2]
    clear d H0 H1 He
    unfold Mt
    (repeat' (first | (with_reducible refine A3 (fun _ => ?_) (fun _ => ?_) <;> try (exfalso;omega)) | simp -dsimp (disch:=omega) only [↓EA,EB,Nat.reduceEqDiff,↓reduceIte,eq_self, *]))
   ·have d:=d (by omega)
    have a8:((i:Int) + 1).toNat = i + 1:=by omega
    have f:(i + 1) * 1 = i + 1:=Nat.mul_one _
    clear H0 H1 hz
    (repeat' (first | (with_reducible refine A3 (fun _ => ?_) (fun _ => ?_) <;> try (exfalso;omega)) | simp -dsimp (disch:=omega) only [↓EA,EB,Nat.reduceEqDiff,↓reduceIte,eq_self, *]))
    refine Next.mk (i + 1,0) ⟨rfl,by simp only [];omega,by simp only [];omega,?_,rfl,?_,rfl⟩ (by simp only [];omega)
    ·rw [He.out,e];rfl
    ·simp only [t];rfl
  ·obtain ⟨t1,t2,t3⟩:=H1.out g
   have e2:(Aj w m).head? = some (64 * i + tz cv):=by rw [He.out,t3];rfl
   rw [e2]
   generalize tz cv = z at *
   have e4:(i:Int) * 64 + z = ((64 * i + z:Nat):Int):=by omega
   clear d H0 H1 He t3 e2
   unfold Mt
   have a4:¬ ((cv:Int) = 0):=by omega
   (repeat' simp -dsimp (disch:=omega) only [↓EA,EB,Nat.reduceEqDiff,↓reduceIte,eq_self, *,Avw])
 ·rw [decide_eq_false (show ¬ (0 ≤ max n (-1) + 1 ∧ max n (-1) + 1 < 1024) by omega)] at q
  have e:Rx w n = none:=by unfold Rx;rw [Xf w (by omega)];rfl
  rw [e]
  unfold Mt
  (repeat' simp -dsimp (disch:=omega) only [↓EA,EB,Nat.reduceEqDiff,↓reduceIte,reduceCtorEq,Ab,eq_self, *])
theorem Xs (w:List Nat):Rx w (-1) = (Aj w 0).head?:=rfl
theorem Aac (hE:As E) (hZ:G6 E G) {h:Aa} (ht:Tab G h) {w:List Nat} (hw:okM w) :
  callW E (.func (.func Ea) #[] #[]) [.agg (Fx w).toArray] h = some (Mt (Rx w (-1)),h,[]):=by
 have q:=fun x => Aub hE hZ (ht.app x) hw (n:=-1) (by decide)
 refine Ak hE.Ye rfl (by simp) ?_
 simp only [Ai]
 have d:=E9 hw
 have c:=Gu w
 have a:=I8 hw
 cases hn:Rx w (-1) with
 | none =>
  rw [hn] at q
  unfold Mt at q ⊢
  (repeat' simp -dsimp (disch:=omega) only [↓EA,EB,Nat.reduceEqDiff,↓reduceIte,Ab,eq_self, *])
 | some m =>
  rw [hn] at q
  unfold Mt at q ⊢
  (repeat' simp -dsimp (disch:=omega) only [↓EA,EB,Nat.reduceEqDiff,↓reduceIte,Ab,eq_self, *])
theorem A1a (hE:As E) (h:Aa) {w:List Nat} (hw:okM w) :
  ∃ v ys,callW E (.func (.func Db) #[] #[]) [.agg (Fx w).toArray] h = some (v,h ++ ys,[]) ∧ ∃ bx,v = .func (.func Bi) #[] #[.pointer (some ⟨bx,0,none⟩)] ∧ h.length ≤ bx ∧ (h ++ ys)[bx]? = some (.cells (Fx w) false):=by
 have j:Movable h.length (fun m v => ∃ bx,v = .func (.func Bi) #[] #[.pointer (some ⟨bx,0,none⟩)] ∧ h.length ≤ bx ∧ m[bx]? = some (.cells (Fx w) false)) 2:=by
  refine ⟨fun ρ a a' d v v' hm hv ⟨bx,e,f,n⟩ => ?_,fun a v ⟨bx,e,_⟩ => by subst e;rfl⟩
  subst e
  cases d with
  | zero => simp [A7,List.mapM_cons] at hv
  | succ d =>
   simp only [A7,List.mapM_nil,List.mapM_cons] at hv
   cases hρ : ρ bx with
   | none => simp [hρ] at hv
   | some g =>
    simp [hρ] at hv
    subst hv
    obtain ⟨o,c,l⟩:=hm.new bx g f hρ
    rw [List.getD_eq_getElem?_getD,n] at c
    simp only [Option.getD_some,Og,Bool.false_eq_true,if_false] at c
    rw [O5 (d:=3) (Aqj w)] at c
    simp at c
    subst c
    exact ⟨g,rfl,hm.ge bx g f hρ,l⟩
 refine Lk hE.Ab8 rfl j (by simp) ?_
 have p:=E9 hw
 have c:=Gu w
 simp only [Ai]
 (repeat' simp -dsimp (disch:=omega) only [↓EA,EB,Nat.reduceEqDiff,↓reduceIte,Ab,eq_self, *])
 exact ⟨⟨_,rfl⟩,_,rfl,Nat.le_refl _,by rw [Bh];rfl⟩
theorem Ai7 (hE:As E) (hZ:G6 E G) {w:List Nat} (hw:okM w) (bx:Nat) :
  Ale E (.func (.func Bi) #[] #[.pointer (some ⟨bx,0,none⟩)]) (fun h => h[bx]? = some (.cells (Fx w) false) ∧ Tab G h) ((Aj w 0).map fun n:Nat => [.int .i64 (n:Int)]):=by
 intro u L W J Stop hJ h0 hS step
 refine A0t hE.keep hE.O4 rfl (by simp) ?_
 obtain ⟨_,a5,z⟩:=hJ 0 u h0
 have q:=Aac hE hZ z hw
 have hl:=E9 hw
 have ho:=Gu w
 have a7:=I8 hw
 simp only [List.cons_append,List.nil_append,Ai]
 have HJ:=Hid.mk hJ
 have HS:=Hid.mk hS
 have g:=Hid.mk step
 have H0:=Hid.mk h0
 clear hJ hS step h0
 generalize hvals:(Aj w 0).map (fun n:Nat => [Value.int .i64 (n:Int)]) = vals at *
 rw [Xs] at q
 have j:∀ (e:List Nat) (fr:Fr),Aj w 0 = e → get fr 0 = .func (.yield L) #[] #[] → get fr 1 = .pointer (some ⟨bx,0,none⟩) → (match e with | [] => get fr 4 = .bool false | n :: _ => get fr 3 = .int .i64 (n:Int) ∧ get fr 4 = .bool true) →
   WO W (code (callW E) iterW 21 (.block 0 (.loop Co)) fr u) (Res [] fun v h' => Ae (List.length u) 4 v = true ∧ h'.length = u.length ∧ (J vals.length h' ∨ Stop h')):=by
  intro e fr f g0 g1 d
  (repeat' simp -dsimp (disch:=omega) only [↓EA, *])
  refine WO.loop (α:=Nat × List Nat) (fun s fr h' => (Aj w 0).drop s.1 = s.2 ∧ s.1 + s.2.length = (Aj w 0).length ∧ J s.1 h' ∧ get fr 0 = .func (.yield L) #[] #[] ∧ get fr 1 = .pointer (some ⟨bx,0,none⟩) ∧ (match s.2 with | [] => get fr 4 = .bool false | n :: r => get fr 3 = .int .i64 (n:Int) ∧ get fr 4 = .bool true) ∧ ∀ n r,s.2 = n :: r → r = Aj w (n + 1) ∧ n < 1024) (fun s => s.2.length) ?_ (0,e) ⟨f,by rw [f];simp,H0.out,g0,g1,d,fun n r h => My _ rfl (f.trans h)⟩
  rintro ⟨k,e⟩ fr h' ⟨hd,c,x,g0,g1,d,a⟩
  dsimp only at hd c x d a
  obtain ⟨l,hb,ht⟩:=HJ.out k h' x
  clear f q H0 z a5
  unfold Co
  cases e with
  | nil =>
   dsimp only at d
   have hk:k = vals.length:=by rw [← hvals,List.length_map,← c];rfl
   subst hk
   have Hj:=Hid.mk x
   clear x hd c a
   (repeat' simp -dsimp (disch:=omega) only [↓EA,EB,Nat.reduceEqDiff,↓reduceIte,reduceCtorEq,eq_self, *])
   first
    | exact ⟨l,.inl Hj.out⟩
    | exact .inl Hj.out
  | cons n r =>
   dsimp only at d
   obtain ⟨g3,g4⟩:=d
   obtain ⟨hr,hn⟩:=a n r rfl
   have hv:vals[k]? = some [.int .i64 (n:Int)]:=by
    have u:(Aj w 0)[k]? = some n:=by
     have:((Aj w 0).drop k)[0]? = some n:=by rw [hd];rfl
     rw [List.getElem?_drop,Nat.add_zero] at this;exact this
    rw [← hvals,List.getElem?_map,u];rfl
   have o:=Hid.mk (g.out k h' _ hv x)
   have Hd:=Hid.mk hd
   have Hc:=Hid.mk a
   clear hd a hv x g
   simp only [List.length_cons] at c
   (repeat' simp -dsimp (disch:=omega) only [↓EA,EB,Nat.reduceEqDiff,↓reduceIte,reduceCtorEq,eq_self, *])
   refine WX.mono o.out (fun b h => h) fun v h2 hx => ?_
   rcases hx with ⟨rfl,t⟩ | ⟨rfl,a1⟩
   ·obtain ⟨a4,a6,a3⟩:=HJ.out (k + 1) h2 t
    have q2:=Aub hE hZ a3 hw (n:=(n:Int)) (by omega)
    have en:Rx w (n:Int) = r.head?:=by
     unfold Rx;rw [show (max (n:Int) (-1) + 1).toNat = n + 1 by omega,← hr]
    rw [en] at q2
    have y:=Hid.mk t
    have Hr:=Hid.mk hr
    clear t hr o a3 en hb ht l
    have a2:(Aj w 0).drop (k + 1) = r:=by rw [← List.drop_drop,Hd.out];rfl
    have a0:=Hid.mk a2
    clear a2
    cases r with
    | nil =>
     simp only [List.head?_nil,Mt] at q2
     (repeat' simp -dsimp (disch:=omega) only [↓EA,EB,Nat.reduceEqDiff,↓reduceIte,reduceCtorEq,eq_self, *])
     exact Next.mk (k + 1,[]) ⟨a0.out,by simpa using c,y.out,rfl,rfl,rfl,fun n r h => by cases h⟩ (by simp)
    | cons m r2 =>
     simp only [List.head?_cons,Mt] at q2
     (repeat' simp -dsimp (disch:=omega) only [↓EA,EB,Nat.reduceEqDiff,↓reduceIte,reduceCtorEq,eq_self, *])
     refine Next.mk (k + 1,m :: r2) ⟨a0.out,by simp only [List.length_cons] at c ⊢;omega,y.out,rfl,rfl,⟨rfl,rfl⟩,fun n' r' h => ?_⟩ (by simp)
     exact My _ rfl (Hr.out.symm.trans h)
   ·have p:=Hid.mk a1
    clear a1 o
    (repeat' simp -dsimp (disch:=omega) only [↓EA,EB,Nat.reduceEqDiff,↓reduceIte,reduceCtorEq,eq_self, *])
    first
     | exact ⟨HS.out _ p.out,.inr p.out⟩
     | exact .inr p.out
 clear hvals
 cases f:Aj w 0 with
 | nil =>
  rw [f] at q
  simp only [List.head?_nil,Mt] at q
  have K:=Hid.mk (j [] [(0,.func (.yield L) #[] #[]),(1,.pointer (some ⟨bx,0,none⟩)),(3,.int .i64 0),(4,.bool false)] f rfl rfl rfl)
  clear j f H0 HJ HS g
  simp -dsimp (disch:=omega) only [↓EA,EB,Nat.reduceEqDiff,↓reduceIte,reduceCtorEq,eq_self, *]
  have k:=K.out
  rw [M0,Tc] at k
  exact k
 | cons n r =>
  rw [f] at q
  simp only [List.head?_cons,Mt] at q
  have K:=Hid.mk (j (n :: r) [(0,.func (.yield L) #[] #[]),(1,.pointer (some ⟨bx,0,none⟩)),(3,.int .i64 (n:Int)),(4,.bool true)] f rfl rfl ⟨rfl,rfl⟩)
  clear j f H0 HJ HS g
  simp -dsimp (disch:=omega) only [↓EA,EB,Nat.reduceEqDiff,↓reduceIte,reduceCtorEq,eq_self, *]
  have k:=K.out
  rw [M0,Tc] at k
  exact k
end Go.L.Try
namespace Go.L.Try
open Go Go.L
variable {E:Env} {G:Nat}
def A2z (E:Env) (g:Value) (base:Aa → Prop) (vals:List (List Value)):Prop :=
 ∀ (h1:Aa) (L:Nat) (W:Nat → Prop) (J:Nat → Aa → Prop) (Stop:Aa → Prop),(∀ k h,J k h → base h) → J 0 h1 → (∀ k h h3,J k h → Tr h1 h h3 → J k h3) → (∀ h h3,Stop h → Tr h1 h h3 → Stop h3) →
  (∀ k h a,vals[k]? = some a → J k h → WX W (callW E (.func (.yield L) #[] #[]) a h) (fun v h' => (v = .bool true ∧ J (k + 1) h') ∨ (v = .bool false ∧ Stop h'))) →
  WX W (callW E g [.func (.yield L) #[] #[]] h1) (fun _ h' => J vals.length h' ∨ Stop h')
theorem Aq7 (hE:As E) (hZ:G6 E G) {w:List Nat} (hw:okM w) (bx:Nat) :
  A2z E (.func (.func Bi) #[] #[.pointer (some ⟨bx,0,none⟩)]) (fun h => h[bx]? = some (.cells (Fx w) false) ∧ Tab G h) ((Aj w 0).map fun n:Nat => [.int .i64 (n:Int)]):=by
 intro t L W J Stop hJ h0 x hS step
 refine A2g hE.keep hE.O4 rfl (by simp) ?_
 obtain ⟨a5,z⟩:=hJ 0 t h0
 have q:=Aac hE hZ z hw
 have hl:=E9 hw
 have ho:=Gu w
 have a7:=I8 hw
 simp only [List.cons_append,List.nil_append,Ai]
 have HJ:=Hid.mk hJ
 have o:=Hid.mk x
 have HS:=Hid.mk hS
 have g:=Hid.mk step
 have H0:=Hid.mk h0
 clear hJ hS step h0 x
 generalize hvals:(Aj w 0).map (fun n:Nat => [Value.int .i64 (n:Int)]) = vals at *
 rw [Xs] at q
 have j:∀ (e:List Nat) (fr:Fr),Aj w 0 = e → get fr 0 = .func (.yield L) #[] #[] → get fr 1 = .pointer (some ⟨bx,0,none⟩) → (match e with | [] => get fr 4 = .bool false | n :: _ => get fr 3 = .int .i64 (n:Int) ∧ get fr 4 = .bool true) →
   WO W (code (callW E) iterW 21 (.block 0 (.loop Co)) fr t) (Res [] fun v h' => Ae (List.length t) 4 v = true ∧ ∀ h3,Tr t h' h3 → (J vals.length h3 ∨ Stop h3)):=by
  intro e fr f g0 g1 d
  (repeat' simp -dsimp (disch:=omega) only [↓EA, *])
  refine WO.loop (α:=Nat × List Nat) (fun s fr h' => (Aj w 0).drop s.1 = s.2 ∧ s.1 + s.2.length = (Aj w 0).length ∧ J s.1 h' ∧ get fr 0 = .func (.yield L) #[] #[] ∧ get fr 1 = .pointer (some ⟨bx,0,none⟩) ∧ (match s.2 with | [] => get fr 4 = .bool false | n :: r => get fr 3 = .int .i64 (n:Int) ∧ get fr 4 = .bool true) ∧ ∀ n r,s.2 = n :: r → r = Aj w (n + 1) ∧ n < 1024) (fun s => s.2.length) ?_ (0,e) ⟨f,by rw [f];simp,H0.out,g0,g1,d,fun n r h => My _ rfl (f.trans h)⟩
  rintro ⟨k,e⟩ fr h' ⟨hd,c,u,g0,g1,d,a⟩
  dsimp only at hd c u d a
  obtain ⟨hb,ht⟩:=HJ.out k h' u
  clear f q H0 z a5
  unfold Co
  cases e with
  | nil =>
   dsimp only at d
   have hk:k = vals.length:=by rw [← hvals,List.length_map,← c];rfl
   subst hk
   have Hj:=Hid.mk u
   clear u hd c a
   (repeat' simp -dsimp (disch:=omega) only [↓EA,EB,Nat.reduceEqDiff,↓reduceIte,reduceCtorEq,eq_self, *])
   exact fun h3 ht => .inl (o.out _ _ _ Hj.out ht)
  | cons n r =>
   dsimp only at d
   obtain ⟨g3,g4⟩:=d
   obtain ⟨hr,hn⟩:=a n r rfl
   have hv:vals[k]? = some [.int .i64 (n:Int)]:=by
    have t:(Aj w 0)[k]? = some n:=by
     have:((Aj w 0).drop k)[0]? = some n:=by rw [hd];rfl
     rw [List.getElem?_drop,Nat.add_zero] at this;exact this
    rw [← hvals,List.getElem?_map,t];rfl
   have l:=Hid.mk (g.out k h' _ hv u)
   have Hd:=Hid.mk hd
   have Hc:=Hid.mk a
   clear hd a hv u g
   simp only [List.length_cons] at c
   (repeat' simp -dsimp (disch:=omega) only [↓EA,EB,Nat.reduceEqDiff,↓reduceIte,reduceCtorEq,eq_self, *])
   refine WX.mono l.out (fun b h => h) fun v h2 hx => ?_
   rcases hx with ⟨rfl,p⟩ | ⟨rfl,a1⟩
   ·obtain ⟨a6,a3⟩:=HJ.out (k + 1) h2 p
    have q2:=Aub hE hZ a3 hw (n:=(n:Int)) (by omega)
    have en:Rx w (n:Int) = r.head?:=by
     unfold Rx;rw [show (max (n:Int) (-1) + 1).toNat = n + 1 by omega,← hr]
    rw [en] at q2
    have y:=Hid.mk p
    have Hr:=Hid.mk hr
    clear p hr l a3 en hb ht
    have a2:(Aj w 0).drop (k + 1) = r:=by rw [← List.drop_drop,Hd.out];rfl
    have a0:=Hid.mk a2
    clear a2
    cases r with
    | nil =>
     simp only [List.head?_nil,Mt] at q2
     (repeat' simp -dsimp (disch:=omega) only [↓EA,EB,Nat.reduceEqDiff,↓reduceIte,reduceCtorEq,eq_self, *])
     exact Next.mk (k + 1,[]) ⟨a0.out,by simpa using c,y.out,rfl,rfl,rfl,fun n r h => by cases h⟩ (by simp)
    | cons m r2 =>
     simp only [List.head?_cons,Mt] at q2
     (repeat' simp -dsimp (disch:=omega) only [↓EA,EB,Nat.reduceEqDiff,↓reduceIte,reduceCtorEq,eq_self, *])
     refine Next.mk (k + 1,m :: r2) ⟨a0.out,by simp only [List.length_cons] at c ⊢;omega,y.out,rfl,rfl,⟨rfl,rfl⟩,fun n' r' h => ?_⟩ (by simp)
     exact My _ rfl (Hr.out.symm.trans h)
   ·have a4:=Hid.mk a1
    clear a1 l
    (repeat' simp -dsimp (disch:=omega) only [↓EA,EB,Nat.reduceEqDiff,↓reduceIte,reduceCtorEq,eq_self, *])
    exact fun h3 ht => .inr (HS.out _ _ a4.out ht)
 clear hvals
 cases f:Aj w 0 with
 | nil =>
  rw [f] at q
  simp only [List.head?_nil,Mt] at q
  have K:=Hid.mk (j [] [(0,.func (.yield L) #[] #[]),(1,.pointer (some ⟨bx,0,none⟩)),(3,.int .i64 0),(4,.bool false)] f rfl rfl rfl)
  clear j f H0 HJ HS g o
  simp -dsimp (disch:=omega) only [↓EA,EB,Nat.reduceEqDiff,↓reduceIte,reduceCtorEq,eq_self, *]
  have k:=K.out
  rw [M0,Tc] at k
  exact k
 | cons n r =>
  rw [f] at q
  simp only [List.head?_cons,Mt] at q
  have K:=Hid.mk (j (n :: r) [(0,.func (.yield L) #[] #[]),(1,.pointer (some ⟨bx,0,none⟩)),(3,.int .i64 (n:Int)),(4,.bool true)] f rfl rfl ⟨rfl,rfl⟩)
  clear j f H0 HJ HS g o
  simp -dsimp (disch:=omega) only [↓EA,EB,Nat.reduceEqDiff,↓reduceIte,reduceCtorEq,eq_self, *]
  have k:=K.out
  rw [M0,Tc] at k
  exact k
end Go.L.Try
