/- THE REFERENCES' SETS OF TASKS: what cadencyref04 tells. -/
import Derived.Test.YtnanlkamcgihlaaDoorCode
import Derived.Test.YtnanlkamcgihlaaDoorVc
set_option linter.unusedVariables false
set_option linter.unusedSimpArgs false
set_option maxRecDepth 4000
namespace Go.L.Try
open Go Go.L
variable {E:Env}
theorem Aj8 (hE:As E) (h:Aa) (x n:Int) (hn:0 < n) (hn':n < 4611686018427387904):callW E (.func (.func Ch) #[] #[]) [.int .i64 x,.int .i64 n] h = some (.int .i64 (x % n),h,[]):=by
 have a:=Kw x n hn
 refine Ak hE.Akd rfl (by simp) ?_
 simp -dsimp (disch:=omega) only [↓EA,EB,Nat.reduceEqDiff,↓reduceIte,reduceCtorEq,eq_self,Ai,Als x n hn]
theorem A24 (hE:As E) (h:Aa) (n a b:Int):callW E (.func (.func Fo) #[] #[]) [.int .i64 n,.int .i64 a,.int .i64 b] h = some (.bool (decide (a ≤ n ∧ n ≤ b)),h,[]):=by
 refine Ak hE.Asr rfl (by simp) ?_
 simp only [Ai]
 (repeat' (first | (with_reducible refine A1 (fun _ => ?_) (fun _ => ?_) <;> try (exfalso;omega)) | simp -dsimp (disch:=omega) only [↓EA,EB,Nat.reduceEqDiff,Nat.reduceAdd,↓reduceIte,reduceCtorEq,eq_self, *]))
 all_goals simp [*]
def Lh (n turn:Int):Int:=if 2 < n ∧ (turn.tdiv n) % 2 = 1 then n - 1 else 1
theorem Awj (hE:As E) (h:Aa) (n x:Int) (hn:0 < n) (hn':n < 4611686018427387904) (hx:Mw x):callW E (.func (.func Iv) #[] #[]) [.int .i64 n,.int .i64 x] h = some (.int .i64 (Lh n x),h,[]):=by
 refine Ak hE.Agb rfl (by simp) ?_
 simp only [Ai]
 have c:=fun y => Aj8 hE h y 2 (by decide) (by decide)
 have a:Mw (x.tdiv n):=Awm hn hx
 unfold Mw at a
 unfold Lh
 (repeat' (first | (with_reducible refine A1 (fun _ => ?_) (fun _ => ?_) <;> try (exfalso;omega)) | (with_reducible refine A3 (fun _ => ?_) (fun _ => ?_) <;> try (exfalso;omega)) | simp -dsimp (disch:=omega) only [↓EA,EB,Nat.reduceEqDiff,↓reduceIte,reduceCtorEq,eq_self, *]))
 all_goals simp [*]
def Ayk (i:Nat):ByteArray:=⟨#[116]⟩ ++ ⟨#[UInt8.ofNat (97 + i)]⟩
def Ce (i:Nat) (s:Spec):Ac:=⟨Ayk i,1 + s.C % 4,1 + s.C % 4 + s.D % 11 + s.T % 7,1 + s.C % 4 + s.D % 11,s.J % (1 + s.C % 4 + s.D % 11 - (1 + s.C % 4) + 1),1 + s.Q % (1 + s.C % 4),0⟩
theorem Asa (hE:As E) {W:Nat → Prop} {h0:Aa} (hW:∀ b,h0.length ≤ b → W b) {vl:Value} {l:List Spec} (hl:Rd 5 Xv h0 vl l) {most turn:Int} (hm:0 ≤ most) (hm2:most ≤ 26) {Q:Ex → Fr → Aa → Prop} {fr:Fr}
  (g0:get fr 0 = vl) (g1:get fr 1 = .int .i64 most) (g2:get fr 2 = .int .i64 turn) (g7:get fr 7 = .slice none 0 0) (g8:get fr 8 = .int .i64 0)
  (hq:∀ fr' h' vo,Pre h0 h' → get fr' 2 = .int .i64 turn → get fr' 7 = vo → OwnT h0.length 7 Ar h' vo ((l.take most.toNat).mapIdx Ce) → Q (.exit 0) fr' h') :
  WO W (iterW (code (callW E) iterW 113 Nf) fr h0) Q:=by
 refine WO.loop (fun n fr h' => Pre h0 h' ∧ n ≤ l.length ∧ n ≤ most ∧ get fr 0 = vl ∧ get fr 1 = .int .i64 most ∧ get fr 2 = .int .i64 turn ∧ get fr 8 = .int .i64 n ∧ OwnT h0.length 7 Ar h' (get fr 7) ((l.take n).mapIdx Ce)) (fun n => l.length - n) ?_ 0 ⟨Pre.refl _,Nat.zero_le _,by omega,g0,g1,g2,g8,by rw [g7];exact OwnT.nil⟩
 rintro n fr h' ⟨c,j,f,e,h2,g,t,d⟩
 have few:=hl.few
 have a:=hl.pre c
 unfold Nf
 generalize hvo:get fr 7 = vo at d
 have p:=Kv (atI l ↑n).J (1 + (atI l ↑n).C % 4 + (atI l ↑n).D % 11 - (1 + (atI l ↑n).C % 4) + 1) (by omega)
 have o:=Kv (atI l ↑n).Q (1 + (atI l ↑n).C % 4) (by omega)
 have u:∀ x:UInt8,binOp .add .other (.string ⟨#[116]⟩) (.string ⟨#[x]⟩) = some (.string (⟨#[116]⟩ ++ ⟨#[x]⟩)):=fun x => Abc (by simp [ByteArray.size])
 (repeat' (first | (with_reducible refine A1 (fun _ => ?_) (fun _ => ?_) <;> try (exfalso;omega)) | (with_reducible refine A3 (fun _ => ?_) (fun _ => ?_) <;> try (exfalso;omega)) | simp -dsimp (disch:=omega) only [↓EA,EB,Nat.reduceEqDiff,Nat.reduceAdd,Nat.reduceLeDiff,Nat.reduceMul,↓reduceIte,reduceCtorEq,Ab,Q7,eq_self, *,a.len,a.ixs,a.ld,a.ld0,Aj8 hE,Xv]))
 ·refine Adx (sz:=7) (bytes:=64) (d.app _) (c.app' _) (Nat.le_refl _) (by have:=c.le;simp;omega) hW (Ce n (atI l n)) ?_ rfl (by decide) (by decide) ?_ ?_
  ·simp -dsimp (disch:=omega) only [EB,Nat.reduceAdd,Nat.reduceMul,↓reduceIte]
   simp [Ce,Ar,Ayk]
   rw [show (97 + (n:Int)).toNat = 97 + n by omega,UInt8.ofNat_add];rfl
  ·simp;omega
  ·intro v m e h2 g r s
   (repeat' simp -dsimp (disch:=omega) only [↓EA,EB,Nat.reduceEqDiff,↓reduceIte,reduceCtorEq,eq_self, *])
   refine Next.mk (n + 1) ⟨h2,by omega,by omega,rfl,rfl,rfl,rfl,?_⟩ (by omega)
   rw [take_snoc (by omega),List.mapIdx_append]
   simpa [get,Nat.min_eq_left j] using e
 ·refine hq _ _ _ c rfl rfl ?_
  have:most.toNat = n:=by omega
  rw [this];exact d
 ·refine hq _ _ _ c rfl rfl ?_
  have:l.take most.toNat = l.take n:=by rw [List.take_of_length_le (by omega),List.take_of_length_le (by omega)]
  rw [this];exact d
def prio (n turn:Int) (i:Nat):Int:=1 + (i * Lh n turn + turn % n) % n
def setPs (n turn:Int) (k:Nat) (L:List Ac):List Ac:=L.mapIdx fun i t => if i < k then { t with P:=prio n turn i } else t
theorem Ajw (n turn:Int) (L:List Ac):setPs n turn 0 L = L:=by unfold setPs;apply List.ext_getElem <;> simp
theorem Ajx (n turn:Int) (k:Nat) (L:List Ac) (hk:k < L.length):setPs n turn (k + 1) L = (setPs n turn k L).set k { atI (setPs n turn k L) (k:Int) with P:=prio n turn k }:=by
 have d:k < (setPs n turn k L).length:=by simp [setPs];exact hk
 rw [B8 d]
 apply List.ext_getElem
 ·simp [setPs]
 ·intro i c h2
  simp only [setPs,List.getElem_mapIdx,List.getElem_set]
  simp only [setPs,List.length_mapIdx] at c
  by_cases e:k = i
  ·subst e;simp
  ·rw [if_neg e]
   by_cases a:i < k
   ·rw [if_pos (by omega),if_pos a]
   ·rw [if_neg (by omega),if_neg a]
theorem Ars (n x:Int) (hn:0 < n) (hn2:n ≤ 26):1 ≤ Lh n x ∧ Lh n x ≤ 26:=by unfold Lh;split <;> omega
theorem Az1 (hE:As E) {W:Nat → Prop} {m:Nat} {h0:Aa} (hm0:m ≤ h0.length) (hW:∀ b,m ≤ b → W b) {L:List Ac} {vo:Value} (ho:OwnT m 7 Ar h0 vo L) {turn:Int} (ht:Mw turn) (hn:0 < L.length) (hn2:L.length ≤ 26) {Q:Ex → Fr → Aa → Prop} {fr:Fr}
  (g2:get fr 2 = .int .i64 turn) (g7:get fr 7 = vo) (g14:get fr 14 = .int .i64 L.length) (g15:get fr 15 = .int .i64 0)
  (hq:∀ fr' h',(∀ b,b < m → h'[b]? = h0[b]?) → h'.length = h0.length → get fr' 7 = vo → OwnT m 7 Ar h' vo (setPs L.length turn L.length L) → Q (.exit 2) fr' h') :
  WO W (iterW (code (callW E) iterW 113 Nd) fr h0) Q:=by
 have few:=ho.rd.few
 refine WO.loop (fun n fr h' => (∀ b,b < m → h'[b]? = h0[b]?) ∧ h'.length = h0.length ∧ n ≤ L.length ∧ get fr 2 = .int .i64 turn ∧ get fr 7 = vo ∧ get fr 14 = .int .i64 L.length ∧ get fr 15 = .int .i64 n ∧ OwnT m 7 Ar h' vo (setPs L.length turn n L)) (fun n => L.length - n) ?_ 0 ⟨fun _ _ => rfl,rfl,Nat.zero_le _,g2,g7,g14,g15,by rw [Ajw];exact ho⟩
 rintro n fr h' ⟨l,a,r,h2,h7,p,y,ho⟩
 have g:(setPs L.length turn n L).length = L.length:=by simp [setPs]
 have u:=ho.rd
 unfold Nd
 have o:=Ars L.length turn (by omega) (by omega)
 have hm:=Kv turn L.length (by omega)
 have j:0 ≤ (n:Int) * Lh L.length turn ∧ (n:Int) * Lh L.length turn ≤ 26 * 26:=by
  constructor
  ·exact Int.mul_nonneg (by omega) (by omega)
  ·exact Int.mul_le_mul (by omega) (by omega) (by omega) (by omega)
 have f:=Kv (n * Lh L.length turn + turn % L.length) L.length (by omega)
 have z:((n:Int) * Lh L.length turn + turn % L.length).tmod L.length = ((n:Int) * Lh L.length turn + turn % L.length) % L.length:=Int.tmod_eq_emod_of_nonneg (by omega)
 have c:=fun h => Awj hE h L.length turn (by omega) (by omega) ht
 (repeat' (first | (with_reducible refine A3 (fun _ => ?_) (fun _ => ?_) <;> try (exfalso;omega)) | simp -dsimp (disch:=omega) only [↓EA,EB,Nat.reduceEqDiff,↓reduceIte,eq_self, *,u.ixs,Aj8 hE]))
 ·refine Ad0 ho hW { atI (setPs L.length turn n L) (n:Int) with P:=prio L.length turn n } (by omega) (by omega) (by decide) rfl rfl fun t x h2 s => ?_
  (repeat' simp -dsimp (disch:=omega) only [↓EA,EB,Nat.reduceEqDiff,↓reduceIte,eq_self, *])
  have d:setPs L.length turn n L ≠ []:=by intro e;rw [e] at g;simp at g;omega
  refine Next.mk (n + 1) ⟨fun b v => by rw [s b (by have:=ho.ge d;omega),l b v],by omega,by omega,rfl,rfl,rfl,rfl,?_⟩ (by omega)
  rw [Ajx _ _ _ _ (by omega)];simpa using x
 ·have:n = L.length:=by omega
  subst this
  exact hq _ _ l a rfl ho
def Of (l:List Spec) (most turn:Int):List Ac :=
 let L:=((if l = [] then [⟨turn,0,0,0,0⟩] else l).take most.toNat).mapIdx Ce
 setPs L.length turn L.length L
theorem Az3 (hE:As E) {h:Aa} {vl:Value} {l:List Spec} (hl:Rd 5 Xv h vl l) {most turn:Int} (hm:1 ≤ most) (hm2:most ≤ 26) (ht:Mw turn) :
  ∃ v ys,callW E (.func (.func Lc) #[] #[]) [vl,.int .i64 most,.int .i64 turn] h = some (v,h ++ ys,[]) ∧ RdO h.length 7 Ar (h ++ ys) v (Of l most turn):=by
 have few:=hl.few
 refine Lk hE.Apz rfl (RdO.movable A2h _) (by simp) ?_
 simp only [Ai]
 (repeat' (first | (with_reducible refine A3 (fun _ => ?_) (fun _ => ?_) <;> try (exfalso;omega)) | simp -dsimp (disch:=omega) only [↓EA,EB,Nat.reduceEqDiff,Nat.reduceAdd,Nat.reduceLeDiff,Nat.reduceMul,↓reduceIte,reduceCtorEq,Ab,Q7,eq_self, *,hl.len]))
 case' refine_1 =>
  refine Asa hE (fun b d => by simp at d;omega) (l:=[⟨turn,0,0,0,0⟩]) (Rd.lit _ (by rw [Bh];rfl) rfl (fun _ => rfl) (by simp) (by simp) (.inl rfl)) (by omega) hm2 rfl rfl rfl rfl rfl fun m h' t f p r c => ?_
  have f:=(Pre.app h _).trans f
  have e:l = []:=List.length_eq_zero_iff.1 (by omega)
  have j:Of l most turn = setPs (List.mapIdx Ce (List.take most.toNat [⟨turn,0,0,0,0⟩])).length turn (List.mapIdx Ce (List.take most.toNat [⟨turn,0,0,0,0⟩])).length (List.mapIdx Ce (List.take most.toNat [⟨turn,0,0,0,0⟩])):=by simp [Of,e]
  have g:0 < (List.mapIdx Ce (List.take most.toNat [⟨turn,0,0,0,0⟩])).length:=by simp;omega
  have a:(List.mapIdx Ce (List.take most.toNat [⟨turn,0,0,0,0⟩])).length ≤ 26:=by simp;omega
  replace c:=c.less (m':=h.length) (by simp)
 case' refine_2 =>
  refine Asa hE (fun b d => d) hl (by omega) hm2 rfl rfl rfl rfl rfl fun m h' t f p r c => ?_
  have e:l ≠ []:=fun e => by simp_all
  have j:Of l most turn = setPs (List.mapIdx Ce (List.take most.toNat l)).length turn (List.mapIdx Ce (List.take most.toNat l)).length (List.mapIdx Ce (List.take most.toNat l)):=by simp [Of,e]
  have g:0 < (List.mapIdx Ce (List.take most.toNat l)).length:=by have:=List.length_pos_iff.2 e;simp;omega
  have a:(List.mapIdx Ce (List.take most.toNat l)).length ≤ 26:=by simp;omega
  replace c:=c.less (Nat.le_refl _)
 all_goals
  rw [j]
  revert c g a
  generalize List.mapIdx Ce _ = L
  intro g a c
  clear j
  (repeat' simp -dsimp (disch:=omega) only [↓EA,EB,Nat.reduceEqDiff,↓reduceIte,eq_self, *,c.rd.len])
  refine Az1 hE f.le (fun b d => d) c ht g a rfl rfl rfl rfl fun n s x y z u => ?_
  (repeat' simp -dsimp (disch:=omega) only [↓EA,EB,↓reduceIte,eq_self, *])
  exact ⟨Pre.ex fun b o d => by rw [x b (GI.1 d).1];exact f b o d,u.rdO⟩
end Go.L.Try
set_option maxHeartbeats 1000000
namespace Go.L.Try
open Go Go.L
variable {E:Env}
def Fp (c:UInt8):Bool:=decide ((97 ≤ c.toNat ∧ c.toNat ≤ 122) ∨ (65 ≤ c.toNat ∧ c.toNat ≤ 90) ∨ c.toNat = 95)
def Cs (c:UInt8):Bool:=decide (48 ≤ c.toNat ∧ c.toNat ≤ 57)
def C0 (c:UInt8):Bool:=Fp c || Cs c || decide (c.toNat = 46) || decide (c.toNat = 45)
theorem Aah (hE:As E) (h:Aa) (c:UInt8):callW E (.func (.func E4) #[] #[]) [.int .u8 c.toNat] h = some (.bool (Fp c),h,[]):=by
 refine Ak hE.Aec rfl (by simp) ?_
 simp only [Ai]
 (repeat' (first | (with_reducible refine A1 (fun _ => ?_) (fun _ => ?_) <;> try (exfalso;omega)) | (with_reducible refine A2 (fun _ => ?_) (fun _ => ?_) <;> try (exfalso;omega)) | simp -dsimp (disch:=omega) only [↓EA,EB,Nat.reduceEqDiff,↓reduceIte,reduceCtorEq,eq_self, *]))
 all_goals (unfold Fp;congr 1;first | (rw [decide_eq_decide];omega) | (symm;rw [decide_eq_true_eq];omega) | (symm;rw [decide_eq_false_iff_not];omega))
theorem Vy (hE:As E) (h:Aa) (c:UInt8):callW E (.func (.func Ej) #[] #[]) [.int .u8 c.toNat] h = some (.bool (Cs c),h,[]):=by
 refine Ak hE.Agd rfl (by simp) ?_
 simp only [Ai]
 (repeat' (first | (with_reducible refine A1 (fun _ => ?_) (fun _ => ?_) <;> try (exfalso;omega)) | simp -dsimp (disch:=omega) only [↓EA,EB,Nat.reduceEqDiff,↓reduceIte,reduceCtorEq,eq_self, *]))
 all_goals (unfold Cs;congr 1;first | (rw [decide_eq_decide];omega) | (symm;rw [decide_eq_true_eq];omega) | (symm;rw [decide_eq_false_iff_not];omega))
def runEnd (p:UInt8 → Bool) (s:ByteArray) (e:Nat):Nat:=e + (((bs s).drop e).takeWhile p).length
theorem Rp {p:UInt8 → Bool} {s:ByteArray} {e:Nat} (h:e < s.size) (hp:p (Bk s e) = true):runEnd p s e = runEnd p s (e + 1):=by
 unfold runEnd
 have a:e < (bs s).length:=by rw [I4];exact h
 have c:Bk s e = (bs s)[e]:=by unfold Bk;rw [List.getD_eq_getElem?_getD,show ((e:Int)).toNat = e by omega,List.getElem?_eq_getElem a];rfl
 rw [List.drop_eq_getElem_cons a,List.takeWhile_cons,← c,hp]
 simp only [if_true,List.length_cons];omega
theorem Ro {p:UInt8 → Bool} {s:ByteArray} {e:Nat} (h:e < s.size) (hp:p (Bk s e) = false):runEnd p s e = e:=by
 unfold runEnd
 have a:e < (bs s).length:=by rw [I4];exact h
 have c:Bk s e = (bs s)[e]:=by unfold Bk;rw [List.getD_eq_getElem?_getD,show ((e:Int)).toNat = e by omega,List.getElem?_eq_getElem a];rfl
 rw [List.drop_eq_getElem_cons a,List.takeWhile_cons,← c,hp]
 simp
theorem T4 {p:UInt8 → Bool} {s:ByteArray} {e:Nat} (h:s.size ≤ e):runEnd p s e = e:=by
 unfold runEnd
 rw [List.drop_of_length_le (by rw [I4];exact h)];simp
theorem Wo {p:UInt8 → Bool} {s:ByteArray} {e:Nat} (h:e ≤ s.size):e ≤ runEnd p s e ∧ runEnd p s e ≤ s.size:=by
 unfold runEnd
 have a:(((bs s).drop e).takeWhile p).length ≤ ((bs s).drop e).length:=(List.takeWhile_sublist p).length_le
 rw [List.length_drop,I4] at a
 omega
theorem A0c (hE:As E) {W:Nat → Prop} {h0:Aa} {s:ByteArray} (hs:s.size < 1152921504606846976) {e0:Nat} (he0:e0 ≤ s.size) {v1 v4 v5:Value} {Q:Ex → Fr → Aa → Prop} {fr:Fr}
  (g0:get fr 0 = .string s) (g1:get fr 1 = v1) (g4:get fr 4 = v4) (g5:get fr 5 = v5) (g6:get fr 6 = .int .i64 e0)
  (hq:∀ fr',get fr' 0 = .string s → get fr' 1 = v1 → get fr' 4 = v4 → get fr' 5 = v5 → get fr' 6 = .int .i64 (runEnd C0 s e0) → Q (.exit 0) fr' h0) :
  WO W (iterW (code (callW E) iterW 98 Ni) fr h0) Q:=by
 refine WO.loop (fun e fr h' => h' = h0 ∧ e ≤ s.size ∧ get fr 0 = .string s ∧ get fr 1 = v1 ∧ get fr 4 = v4 ∧ get fr 5 = v5 ∧ get fr 6 = .int .i64 e ∧ runEnd C0 s e0 = runEnd C0 s e) (fun e => s.size - e) ?_ e0 ⟨rfl,he0,g0,g1,g4,g5,g6,rfl⟩
 rintro e fr h' ⟨rfl,j,g0,g1,g4,g5,g6,a⟩
 unfold Ni
 by_cases d:e < s.size
 ·have g:∀ k:IntKind,Aam (.string s) (.int k e) = some (.int .u8 ((Bk s e).toNat:Int)):=fun k => Xa (by omega) (by omega)
  by_cases f:C0 (Bk s e) = true
  ·have:runEnd C0 s e0 = runEnd C0 s (e + 1):=a.trans (Rp d f)
   clear a hq
   simp only [C0,Bool.or_eq_true,decide_eq_true_eq] at f
   (repeat' (first | (with_reducible refine A1 (fun _ => ?_) (fun _ => ?_) <;> try (exfalso;omega)) | (with_reducible refine A2 (fun _ => ?_) (fun _ => ?_) <;> try (exfalso;omega)) | (with_reducible refine A3 (fun _ => ?_) (fun _ => ?_) <;> try (exfalso;omega)) | refine A6 (fun _ => ?_) (fun _ => ?_) | simp -dsimp (disch:=omega) only [↓EA,EB,Nat.reduceEqDiff,↓reduceIte,reduceCtorEq,eq_self, *,Aah hE,Vy hE]))
   all_goals first
    | exact Next.mk (e + 1) ⟨rfl,by omega,rfl,rfl,rfl,rfl,rfl,this⟩ (by omega)
    | (exfalso;simp_all;done)
    | (exfalso;simp_all;omega)
  ·have c:=Ro (p:=C0) d (by simpa using f)
   rw [c] at a
   rw [a] at hq
   clear a c
   simp only [C0,Bool.or_eq_true,decide_eq_true_eq] at f
   (repeat' (first | (with_reducible refine A1 (fun _ => ?_) (fun _ => ?_) <;> try (exfalso;omega)) | (with_reducible refine A2 (fun _ => ?_) (fun _ => ?_) <;> try (exfalso;omega)) | (with_reducible refine A3 (fun _ => ?_) (fun _ => ?_) <;> try (exfalso;omega)) | refine A6 (fun _ => ?_) (fun _ => ?_) | simp -dsimp (disch:=omega) only [↓EA,EB,Nat.reduceEqDiff,↓reduceIte,reduceCtorEq,eq_self, *,Aah hE,Vy hE]))
   all_goals first
    | exact hq _ rfl rfl rfl rfl rfl
    | (exfalso;simp_all;done)
    | (exfalso;simp_all;omega)
 ·rw [T4 (p:=C0) (e:=e) (by omega)] at a
  rw [a] at hq
  (repeat' (first | (with_reducible refine A1 (fun _ => ?_) (fun _ => ?_) <;> try (exfalso;omega)) | simp -dsimp (disch:=omega) only [↓EA,EB,Nat.reduceEqDiff,↓reduceIte,reduceCtorEq,eq_self, *]))
  exact hq _ rfl rfl rfl rfl rfl
theorem A0b (hE:As E) {W:Nat → Prop} {h0:Aa} {s:ByteArray} (hs:s.size < 1152921504606846976) {e0:Nat} (he0:e0 ≤ s.size) {v1 v4 v5:Value} {Q:Ex → Fr → Aa → Prop} {fr:Fr}
  (g0:get fr 0 = .string s) (g1:get fr 1 = v1) (g4:get fr 4 = v4) (g5:get fr 5 = v5) (g6:get fr 6 = .int .i64 e0)
  (hq:∀ fr',get fr' 0 = .string s → get fr' 1 = v1 → get fr' 4 = v4 → get fr' 5 = v5 → get fr' 6 = .int .i64 (runEnd Cs s e0) → Q (.exit 2) fr' h0) :
  WO W (iterW (code (callW E) iterW 98 Nh) fr h0) Q:=by
 refine WO.loop (fun e fr h' => h' = h0 ∧ e ≤ s.size ∧ get fr 0 = .string s ∧ get fr 1 = v1 ∧ get fr 4 = v4 ∧ get fr 5 = v5 ∧ get fr 6 = .int .i64 e ∧ runEnd Cs s e0 = runEnd Cs s e) (fun e => s.size - e) ?_ e0 ⟨rfl,he0,g0,g1,g4,g5,g6,rfl⟩
 rintro e fr h' ⟨rfl,l,g0,g1,g4,g5,g6,a⟩
 unfold Nh
 by_cases d:e < s.size
 ·have g:∀ k:IntKind,Aam (.string s) (.int k e) = some (.int .u8 ((Bk s e).toNat:Int)):=fun k => Xa (by omega) (by omega)
  by_cases f:Cs (Bk s e) = true
  ·have:runEnd Cs s e0 = runEnd Cs s (e + 1):=a.trans (Rp d f)
   clear a hq
   (repeat' (first | (with_reducible refine A1 (fun _ => ?_) (fun _ => ?_) <;> try (exfalso;omega)) | simp -dsimp (disch:=omega) only [↓EA,EB,Nat.reduceEqDiff,↓reduceIte,reduceCtorEq,eq_self, *,Vy hE]))
   all_goals exact Next.mk (e + 1) ⟨rfl,by omega,rfl,rfl,rfl,rfl,rfl,this⟩ (by omega)
  ·have c:=Ro (p:=Cs) d (by simpa using f)
   rw [c] at a
   rw [a] at hq
   clear a c
   have j:Cs (Bk s e) = false:=by simpa using f
   clear f
   (repeat' (first | (with_reducible refine A1 (fun _ => ?_) (fun _ => ?_) <;> try (exfalso;omega)) | simp -dsimp (disch:=omega) only [↓EA,EB,Nat.reduceEqDiff,↓reduceIte,reduceCtorEq,eq_self, *,Vy hE]))
   all_goals exact hq _ rfl rfl rfl rfl rfl
 ·rw [T4 (p:=Cs) (e:=e) (by omega)] at a
  rw [a] at hq
  (repeat' (first | (with_reducible refine A1 (fun _ => ?_) (fun _ => ?_) <;> try (exfalso;omega)) | simp -dsimp (disch:=omega) only [↓EA,EB,Nat.reduceEqDiff,↓reduceIte,reduceCtorEq,eq_self, *]))
  exact hq _ rfl rfl rfl rfl rfl
theorem Aj4 {p:UInt8 → Bool} {s:ByteArray} {e j:Nat} (h1:e ≤ j) (h2:j < runEnd p s e):p (Bk s j) = true:=by
 unfold runEnd at h2
 have g:(((bs s).drop e).takeWhile p).length ≤ ((bs s).drop e).length:=(List.takeWhile_sublist p).length_le
 rw [List.length_drop] at g
 have c:j - e < (((bs s).drop e).takeWhile p).length:=by omega
 have f:(((bs s).drop e).takeWhile p)[j - e] ∈ ((bs s).drop e).takeWhile p:=List.getElem_mem c
 have d:=List.all_eq_true.1 (List.all_takeWhile (p:=p) (l:=(bs s).drop e)) _ f
 have m:(((bs s).drop e).takeWhile p)[j - e] = Bk s j:=by
  have a:=List.takeWhile_prefix p (l:=(bs s).drop e)
  rw [a.getElem c,List.getElem_drop]
  unfold Bk
  rw [List.getD_eq_getElem?_getD,show ((j:Int)).toNat = j by omega,List.getElem?_eq_getElem (by omega)]
  simp only [show e + (j - e) = j by omega];rfl
 rw [m] at d;exact d
def Ab6 (s:ByteArray) (a:Nat):Nat → Int
 | 0 => 0
 | k + 1 => min (Ab6 s a k * 10 + ((Bk s ((a + k:Nat):Int)).toNat - 48)) 1099511627776
theorem Am6 {s:ByteArray} {a:Nat}:∀ {k:Nat},(∀ j,a ≤ j → j < a + k → Cs (Bk s j) = true) → 0 ≤ Ab6 s a k ∧ Ab6 s a k ≤ 1099511627776
 | 0,_ => by simp [Ab6]
 | k + 1,h => by
  have e:=Am6 (k:=k) fun j d h2 => h j d (by omega)
  have c:=h (a + k) (by omega) (by omega)
  simp only [Cs,decide_eq_true_eq] at c
  simp only [Ab6];omega
theorem A0a (hE:As E) {W:Nat → Prop} {h0:Aa} {s:ByteArray} (hs:s.size < 1152921504606846976) {a e:Nat} (hae:a ≤ e) (hes:e ≤ s.size) (hd:∀ j,a ≤ j → j < e → Cs (Bk s j) = true) {b:Nat} (hW:W b) {x y z v4:Value} (hb:h0[b]? = some (.cells [x,y,z,.int .i64 0] false)) {Q:Ex → Fr → Aa → Prop} {fr:Fr}
  (g0:get fr 0 = .string s) (g1:get fr 1 = .int .i64 a) (g4:get fr 4 = v4) (g5:get fr 5 = .pointer (some ⟨b,0,none⟩)) (g6:get fr 6 = .int .i64 e) (g10:get fr 10 = .int .i64 a)
  (hq:∀ fr',get fr' 0 = .string s → get fr' 1 = .int .i64 a → get fr' 4 = v4 → get fr' 5 = .pointer (some ⟨b,0,none⟩) → get fr' 6 = .int .i64 e → Q (.exit 4) fr' (h0.set b (.cells [x,y,z,.int .i64 (Ab6 s a (e - a))] false))) :
  WO W (iterW (code (callW E) iterW 98 Ng) fr h0) Q:=by
 have d:=(GI.1 hb).1
 have c:h0 = h0.set b (.cells [x,y,z,.int .i64 0] false):=by
  apply List.ext_getElem?
  intro j
  by_cases e:b = j
  ·subst e;rw [List.getElem?_set_self d];exact hb
  ·rw [An e]
 refine WO.loop (fun k fr h' => h' = h0.set b (.cells [x,y,z,.int .i64 (Ab6 s a k)] false) ∧ a + k ≤ e ∧ get fr 0 = .string s ∧ get fr 1 = .int .i64 a ∧ get fr 4 = v4 ∧ get fr 5 = .pointer (some ⟨b,0,none⟩) ∧ get fr 6 = .int .i64 e ∧ get fr 10 = .int .i64 (a + k:Nat)) (fun k => e - a - k) ?_ 0 ⟨c,hae,g0,g1,g4,g5,g6,g10⟩
 rintro k fr h' ⟨rfl,p,g0,g1,g4,g5,g6,g10⟩
 clear c
 unfold Ng
 have o:=Am6 (s:=s) (a:=a) (k:=k) fun j n h2 => hd j n (by omega)
 have l:(h0.set b (.cells [x,y,z,.int .i64 (Ab6 s a k)] false))[b]? = some (.cells [x,y,z,.int .i64 (Ab6 s a k)] false):=List.getElem?_set_self d
 by_cases g:a + k < e
 ·have m:∀ k':IntKind,Aam (.string s) (.int k' (a + k:Nat)) = some (.int .u8 ((Bk s ((a + k:Nat):Int)).toNat:Int)):=fun k => Xa (by omega) (by omega)
  have f:=hd (a + k) (by omega) g
  simp only [Cs,decide_eq_true_eq] at f
  clear hd hq
  (repeat' (first | (with_reducible refine A3 (fun _ => ?_) (fun _ => ?_) <;> try (exfalso;omega)) | simp -dsimp (disch:=omega) only [↓EA,EB,Nat.reduceEqDiff,Nat.reduceAdd,↓reduceIte,reduceCtorEq,eq_self, *,List.set_set]))
  exact Next.mk (k + 1) ⟨rfl,by omega,rfl,rfl,rfl,rfl,rfl,rfl⟩ (by omega)
 ·have:e - a = k:=by omega
  rw [this] at hq
  (repeat' (first | (with_reducible refine A3 (fun _ => ?_) (fun _ => ?_) <;> try (exfalso;omega)) | simp -dsimp (disch:=omega) only [↓EA,EB,Nat.reduceEqDiff,↓reduceIte,reduceCtorEq,eq_self, *]))
  exact hq _ rfl rfl rfl rfl rfl
structure Tok where
 kind:Int
 at':Int
 text:ByteArray
 n:Int
instance:Inhabited Tok:=⟨⟨0,0,⟨#[]⟩,0⟩⟩
def Aaw (t:Tok):List Value:=[.int .i64 t.kind,.int .i64 t.at',.string t.text,.int .i64 t.n]
def Ajl (s:ByteArray) (a:Nat):Tok :=
 if Fp (Bk s a) then ⟨1,a,s.extract a (runEnd C0 s (a + 1)),0⟩
 else if Cs (Bk s a) then ⟨2,a,s.extract a (runEnd Cs s (a + 1)),Ab6 s a (runEnd Cs s (a + 1) - a)⟩
 else if ((Bk s a).toNat:Int) = 61 then ⟨3,a,s.extract a (a + 1),0⟩
 else if ((Bk s a).toNat:Int) = 10 then ⟨4,a,s.extract a (a + 1),0⟩
 else ⟨0,0,⟨#[]⟩,0⟩
theorem A1s (hE:As E) (h:Aa) {s:ByteArray} (hs:s.size < 1152921504606846976) {a:Nat} (ha:a < s.size) :
  callW E (.func (.func Ld) #[] #[]) [.string s,.int .i64 a] h = some (.agg (Aaw (Ajl s a)).toArray,h,[]):=by
 refine Ak hE.Ap0 rfl (by simp) ?_
 have r:∀ k':IntKind,Aam (.string s) (.int k' a) = some (.int .u8 ((Bk s a).toNat:Int)):=fun k => Xa (by omega) (by omega)
 have u:=Wo (p:=C0) (s:=s) (e:=a + 1) (by omega)
 have l:=Wo (p:=Cs) (s:=s) (e:=a + 1) (by omega)
 have t:Cs (Bk s a) = true → ∀ j,a ≤ j → j < runEnd Cs s (a + 1) → Cs (Bk s j) = true:=fun o j v h2 => by
  rcases Nat.lt_or_ge a j with h3 | h3
  ·exact Aj4 (e:=a + 1) (by omega) h2
  ·have:j = a:=by omega
   subst this;exact o
 simp only [Ai]
 (repeat' (first | (with_reducible refine A3 (fun _ => ?_) (fun _ => ?_) <;> try (exfalso;omega)) | refine A4 (fun _ => ?_) (fun _ => ?_) | simp -dsimp (disch:=omega) only [↓EA,EB,Nat.reduceEqDiff,Nat.reduceAdd,Nat.reduceLeDiff,↓reduceIte,reduceCtorEq,Ab,eq_self, *,Aah hE,Vy hE]))
 ·refine A0c hE hs (e0:=a + 1) (by omega) rfl rfl rfl rfl rfl fun c n g d f m => ?_
  (repeat' simp -dsimp (disch:=omega) only [↓EA,EB,Nat.reduceEqDiff,Nat.reduceAdd,Nat.reduceLeDiff,↓reduceIte,reduceCtorEq,eq_self, *])
  simp [Ajl,Aaw,Ae, *]
 ·refine A0b hE hs (e0:=a + 1) (by omega) rfl rfl rfl rfl rfl fun c n g d f m => ?_
  (repeat' simp -dsimp (disch:=omega) only [↓EA,EB,Nat.reduceEqDiff,↓reduceIte,reduceCtorEq,eq_self, *])
  refine A0a hE hs (a:=a) (e:=runEnd Cs s (a + 1)) (b:=h.length + 1) (by omega) (by omega) (t ‹_›) (by omega) (by rw [Jr];rfl) rfl rfl rfl rfl rfl rfl fun c n g d f m => ?_
  (repeat' simp -dsimp (disch:=omega) only [↓EA,EB,Nat.reduceEqDiff,Nat.reduceAdd,Nat.reduceLeDiff,↓reduceIte,reduceCtorEq,eq_self, *])
  simp [Ajl,Aaw,Ae, *]
 all_goals simp [Ajl,Aaw,Ae, *]
def Re (s:ByteArray):Bool:=match bs s with
 | [] => false
 | c :: r => Fp c && r.all C0
theorem Oc {α : Type} {p:α → Bool}:∀ {l:List α},(l.takeWhile p).length = l.length ↔ l.all p = true
 | [] => by simp
 | x :: r => by
  rw [List.takeWhile_cons,List.all_cons]
  by_cases h:p x = true
  ·rw [if_pos h,List.length_cons,List.length_cons,h,Bool.true_and,← Oc];omega
  ·rw [if_neg h];simp [h]
theorem Aih {s:ByteArray} {e:Nat} (h:e ≤ s.size):bs (s.extract 0 e) = bs s ↔ e = s.size:=by
 have a:bs (s.extract 0 e) = (bs s).take e:=by simp [bs,ByteArray.data_extract]
 rw [a]
 constructor
 ·intro h2
  have:=congrArg List.length h2
  rw [List.length_take,I4] at this;omega
 ·intro h2;rw [h2,← I4,List.take_length]
theorem Art {s:ByteArray} (h:0 < s.size):Re s = decide ((Ajl s 0).kind = 1 ∧ bs (Ajl s 0).text = bs s):=by
 have f:0 < (bs s).length:=by rw [I4];exact h
 match hb:bs s with
 | [] => rw [hb] at f;simp at f
 | c :: r =>
  have j:Bk s (0:Nat) = c:=by simp [Bk,hb]
  have l:s.size = r.length + 1:=by rw [← I4,hb];rfl
  unfold Re Ajl
  rw [j,hb]
  dsimp only
  by_cases a:Fp c = true
  ·rw [if_pos a,a,Bool.true_and]
   have h2:=Aih (s:=s) (e:=runEnd C0 s 1) (Wo (p:=C0) (by omega)).2
   dsimp only [Nat.zero_add]
   have g:runEnd C0 s 1 = s.size ↔ r.all C0 = true:=by
    rw [← Oc];unfold runEnd;rw [hb,List.drop_succ_cons,List.drop_zero];omega
   rw [← hb,Bool.eq_iff_iff,decide_eq_true_eq,h2,g];simp
  ·rw [if_neg a]
   have d:Fp c = false:=by simpa using a
   rw [d,Bool.false_and]
   symm;rw [decide_eq_false_iff_not]
   split
   ·simp
   ·split
    ·simp
    ·split <;> simp
theorem Azl (hE:As E) (h:Aa) {s:ByteArray} (hs:s.size < 1152921504606846976) :
  callW E (.func (.func Jo) #[] #[]) [.string s] h = some (.bool (Re s),h,[]):=by
 refine Ak hE.Ake rfl (by simp) ?_
 simp only [Ai]
 rcases Nat.eq_zero_or_pos s.size with h0 | h0
 ·have e:bs s = []:=List.length_eq_zero_iff.1 (by rw [I4];exact h0)
  have d:bs ⟨#[]⟩ = []:=rfl
  (repeat' simp -dsimp (disch:=omega) only [↓EA,EB,↓reduceIte,reduceCtorEq,eq_self, *,Ado])
  simp [Re,e]
 ·have c:=fun h => A1s hE h hs (a:=0) h0
  have e:bs s ≠ []:=fun e => by rw [← I4,e] at h0;simp at h0
  have d:bs ⟨#[]⟩ = []:=rfl
  rw [Art h0]
  simp only [Aaw,Int.ofNat_zero] at c
  (repeat' (first | (with_reducible refine A1 (fun _ => ?_) (fun _ => ?_) <;> try (exfalso;omega)) | simp -dsimp (disch:=omega) only [↓EA,EB,Nat.reduceEqDiff,Nat.reduceAdd,↓reduceIte,reduceCtorEq,Ab,eq_self, *,Ado]))
  all_goals simp [*]
end Go.L.Try
namespace Go.L.Try
open Go Go.L
variable {E:Env}
def Am (t:Ac):Prop:=Re t.name = true ∧ t.name.size ≤ 32 ∧ (1 ≤ t.C ∧ t.C ≤ 2147483647) ∧ (1 ≤ t.T ∧ t.T ≤ 2147483647) ∧ (1 ≤ t.D ∧ t.D ≤ 2147483647) ∧ (1 ≤ t.Q ∧ t.Q ≤ 2147483647) ∧ (0 ≤ t.J ∧ t.J ≤ 2147483647) ∧ 1 ≤ t.P ∧ t.P ≤ 1048576
instance (t:Ac):Decidable (Am t):=by unfold Am;infer_instance
def C9 (t:Ac):Prop:=t.Q ≤ t.C ∧ t.C + t.J ≤ t.D ∧ t.D ≤ t.T
instance (t:Ac):Decidable (C9 t):=by unfold C9;infer_instance
def Ig (t:Ac):Int:=if Am t then if C9 t then 0 else 12 else 11
theorem Ax7 (hE:As E) (h:Aa) (t:Ac) (hs:t.name.size < 1152921504606846976) :
    callW E (.func (.func Iw) #[] #[]) [.agg (Ar t).toArray] h = some (.int .i64 (Ig t),h,[]):=by
  refine Ak hE.Agc rfl (by simp) ?_
  have c:=fun h => Azl hE h hs
  simp only [Ai]
  (repeat' (first | (with_reducible refine A2 (fun _ => ?_) (fun _ => ?_) <;> try (exfalso;omega)) | (with_reducible refine A3 (fun _ => ?_) (fun _ => ?_) <;> try (exfalso;omega)) | refine A6 (fun _ => ?_) (fun _ => ?_) | simp -dsimp (disch:=omega) only [↓EA,EB,Nat.reduceEqDiff,↓reduceIte,Ab,eq_self, *,Ar,A24 hE]))
  all_goals
    congr 1
    by_cases a:Am t
    · by_cases h2:C9 t
      · simp only [Ig,a,h2,if_true] <;>
        (first | rfl | (exfalso;unfold Am C9 at *;simp_all;done) | (exfalso;unfold Am C9 at *;simp_all;omega))
      · simp only [Ig,a,h2,if_true,if_false] <;>
        (first | rfl | (exfalso;unfold Am C9 at *;simp_all;done) | (exfalso;unfold Am C9 at *;simp_all;omega))
    · simp only [Ig,a,if_false] <;>
      (first | rfl | (exfalso;unfold Am at *;simp_all;done) | (exfalso;unfold Am at *;simp_all;omega))
def J7 (l:List Ac) (i:Int):Nat → Bool
  | 0 => false
  | k + 1 => J7 l i k || decide (bs (atI l (k:Int)).name = bs (atI l i).name ∨ (atI l (k:Int)).P = (atI l i).P)
def Bt (l:List Ac):Nat → Int → Int × Int
  | 0,i => (i,0)
  | n + 1,i => if Ig (atI l i) ≠ 0 then (i,Ig (atI l i)) else if J7 l i i.toNat then (i,13) else Bt l n (i + 1)
def Bz (l:List Ac):Int × Int:=if l.length = 0 ∨ 1024 < l.length then (0,14) else Bt l l.length 0
theorem Ak4 {l:List Ac} {i:Int} {k j:Nat} (h:k ≤ j) (hc:J7 l i k = true):J7 l i j = true:=by
  induction h with
  | refl => exact hc
  | step _ ih => simp only [J7,ih,Bool.true_or]
theorem A2s (hE:As E) {W:Nat → Prop} {h0:Aa} {vl:Value} {l:List Ac} (hl:Rd 7 Ar h0 vl l) {i:Nat} (hi:i < l.length) {b:Nat} {x y:Value} (hb:h0[b]? = some (.cells [x,y] false)) (hW:W b) {Q:Ex → Fr → Aa → Prop} {fr:Fr}
    (g0:get fr 0 = vl) (g2:get fr 2 = .pointer (some ⟨b,0,none⟩)) (g3:get fr 3 = .int .i64 i) (g5:get fr 5 = .int .i64 0)
    (hq1:J7 l i i = false → ∀ fr',get fr' 0 = vl → get fr' 2 = .pointer (some ⟨b,0,none⟩) → get fr' 3 = .int .i64 i → Q (.exit 2) fr' h0)
    (hq2:J7 l i i = true → ∀ fr',get fr' 2 = .pointer (some ⟨b,0,none⟩) → Q .ret fr' (h0.set b (.cells [.int .i64 i,.int .i64 13] false))) :
    WO W (iterW (code (callW E) iterW 65 Il) fr h0) Q:=by
  have few:=hl.few
  refine WO.loop (fun k fr h' => h' = h0 ∧ k ≤ i ∧ J7 l i k = false ∧ get fr 0 = vl ∧ get fr 2 = .pointer (some ⟨b,0,none⟩) ∧ get fr 3 = .int .i64 i ∧ get fr 5 = .int .i64 k) (fun k => i - k) ?_ 0 ⟨rfl,Nat.zero_le _,rfl,g0,g2,g3,g5⟩
  rintro k fr h' ⟨rfl,d,c,g0,g2,g3,g5⟩
  unfold Il
  rcases Nat.lt_or_ge k i with hlt | hge
  · have a:J7 l i (k + 1) = decide (bs (atI l (k:Int)).name = bs (atI l i).name ∨ (atI l (k:Int)).P = (atI l i).P):=by simp [J7,c]
    clear hq1
    have hq2:=fun h => hq2 (Ak4 (k:=k + 1) (by omega) h)
    rw [a] at hq2
    simp only [decide_eq_true_eq] at hq2
    (repeat' (first | (with_reducible refine A2 (fun _ => ?_) (fun _ => ?_) <;> try (exfalso;omega)) | (with_reducible refine A3 (fun _ => ?_) (fun _ => ?_) <;> try (exfalso;omega)) | simp -dsimp (disch:=omega) only [↓EA,EB,Nat.reduceEqDiff,Nat.reduceAdd,Nat.reduceLeDiff,↓reduceIte,reduceCtorEq,eq_self, *,hl.ixs,hl.ld,hl.ld0,Ar,Ado]))
    · exact hq2 (.inl ‹_›) _ rfl
    · exact hq2 (.inr ‹_›) _ rfl
    · exact Next.mk (k + 1) ⟨rfl,by omega,by rw [a];simp [*],rfl,rfl,rfl,rfl⟩ (by omega)
  · have:k = i:=by omega
    subst this
    (repeat' (first | (with_reducible refine A3 (fun _ => ?_) (fun _ => ?_) <;> try (exfalso;omega)) | simp -dsimp (disch:=omega) only [↓EA,EB,Nat.reduceEqDiff,↓reduceIte,reduceCtorEq,eq_self, *]))
    exact hq1 c _ rfl rfl rfl
theorem Ak5 (hE:As E) {h:Aa} {vl:Value} {l:List Ac} (hl:Rd 7 Ar h vl l) (hs:∀ t ∈ l,t.name.size < 1152921504606846976) :
    callW E (.func (.func E3) #[] #[]) [vl] h = some (.agg #[.int .i64 (Bz l).1,.int .i64 (Bz l).2],h,[]):=by
  refine Ak hE.Zp rfl (by simp) ?_
  have few:=hl.few
  simp only [Ai]
  (repeat' (first | (with_reducible refine A2 (fun _ => ?_) (fun _ => ?_) <;> try (exfalso;omega)) | (with_reducible refine A3 (fun _ => ?_) (fun _ => ?_) <;> try (exfalso;omega)) | simp -dsimp (disch:=omega) only [↓EA,EB,Nat.reduceEqDiff,Nat.reduceAdd,↓reduceIte,reduceCtorEq,Ab,eq_self, *,hl.len]))
  · have d:Bz l = (0,14):=if_pos (by omega)
    simp [d]
  · have d:Bz l = (0,14):=if_pos (by omega)
    simp [d]
  · have d:Bz l = Bt l l.length 0:=by unfold Bz;rw [if_neg (by omega)]
    rw [d]
    refine WO.loop (fun i fr h' => h' = h ++ [LObj.cells [.int .i64 0,.int .i64 0] false] ∧ i ≤ l.length ∧ Bt l l.length 0 = Bt l (l.length - i) i ∧ get fr 0 = vl ∧ get fr 2 = .pointer (some ⟨h.length,0,none⟩) ∧ get fr 3 = .int .i64 i) (fun i => l.length - i) ?_ 0 ⟨rfl,Nat.zero_le _,rfl,rfl,rfl,rfl⟩
    rintro i fr h' ⟨rfl,o,c,n,f,j⟩
    unfold L5
    have a:=hl.app [LObj.cells [.int .i64 0,.int .i64 0] false]
    rcases Nat.lt_or_ge i l.length with hlt | hge
    · have m:=fun h => Ax7 hE h (atI l i) (hs _ (Al (by omega) (by omega)))
      have g:l.length - i = (l.length - (i + 1)) + 1:=by omega
      rw [g] at c
      simp only [Bt] at c
      rw [c]
      clear c d g
      (repeat' (first | (with_reducible refine A3 (fun _ => ?_) (fun _ => ?_) <;> try (exfalso;omega)) | simp -dsimp (disch:=omega) only [↓EA,EB,Nat.reduceEqDiff,Nat.reduceAdd,Nat.reduceLeDiff,↓reduceIte,reduceCtorEq,eq_self, *,a.len,a.ixs,a.lda]))
      · simp [*]
      · refine A2s hE a hlt (b:=h.length) (by rw [Bh];rfl) (Nat.le_refl _) rfl rfl rfl rfl (fun c e n f j => ?_) (fun c e f => ?_)
        · (repeat' simp -dsimp (disch:=omega) only [↓EA,EB,Nat.reduceEqDiff,↓reduceIte,reduceCtorEq,eq_self, *])
          refine Next.mk (i + 1) ⟨rfl,by omega,?_,rfl,rfl,rfl⟩ (by omega)
          rw [if_neg (by simp [*]),if_neg (by simpa using c)];rfl
        · (repeat' simp -dsimp (disch:=omega) only [EB,Nat.reduceAdd,↓reduceIte,eq_self, *])
          simp [*]
    · have:i = l.length:=by omega
      subst this
      rw [c]
      (repeat' (first | (with_reducible refine A3 (fun _ => ?_) (fun _ => ?_) <;> try (exfalso;omega)) | simp -dsimp (disch:=omega) only [↓EA,EB,Nat.reduceEqDiff,Nat.reduceAdd,Nat.reduceLeDiff,↓reduceIte,reduceCtorEq,eq_self, *,a.len]))
      simp [Bt]
def Gm (t:Ac):Prop:=Am t ∧ C9 t
theorem V3 {l:List Ac}:∀ {n:Nat} {i:Int},(Bt l n i).2 = 0 → ∀ j:Nat,j < n → Ig (atI l (i + j)) = 0
  | 0,i,_,j,hj => by omega
  | n + 1,i,h,j,hj => by
    unfold Bt at h
    split at h
    · rename_i a;exact absurd h a
    · split at h
      · cases h
      · rename_i a _
        cases j with
        | zero => have:Ig (atI l i) = 0:=by simpa using a
                  simpa using this
        | succ j =>
          have:=V3 h j (by omega)
          rw [show i + ((j + 1:Nat):Int) = i + 1 + (j:Int) by omega];exact this
theorem By {l:List Ac} (h:(Bz l).2 = 0):0 < l.length ∧ l.length ≤ 1024 ∧ ∀ t ∈ l,Gm t:=by
  unfold Bz at h
  split at h
  · cases h
  · rename_i e
    refine ⟨by omega,by omega,fun t d => ?_⟩
    obtain ⟨j,c,rfl⟩:=List.getElem_of_mem d
    have a:=V3 h j c
    rw [show (0:Int) + (j:Int) = (j:Int) by omega,B8 c] at a
    unfold Ig at a
    split at a
    · split at a
      · exact ⟨‹_›,‹_›⟩
      · cases a
    · cases a
end Go.L.Try
set_option maxRecDepth 100000
namespace Go.L.Try
open Go Go.L
def F7 (l:List Ac):Prop:=(Bz l).2 = 0
instance (l:List Ac):Decidable (F7 l):=inferInstanceAs (Decidable (_ = _))
theorem Xh (l:List Ac) (i:Int):∀ k:Nat,J7 l i k = false ↔ ∀ j:Nat,j < k → bs (atI l (j:Int)).name ≠ bs (atI l i).name ∧ (atI l (j:Int)).P ≠ (atI l i).P
 | 0 => by simp [J7]
 | k + 1 => by
  rw [J7,Bool.or_eq_false_iff,Xh l i k,decide_eq_false_iff_not]
  constructor
  ·rintro ⟨a,h2⟩ j c
   rcases Nat.lt_or_ge j k with h | h
   ·exact a j h
   ·obtain rfl:j = k:=by omega
    exact ⟨fun e => h2 (.inl e),fun e => h2 (.inr e)⟩
  ·intro h
   exact ⟨fun j c => h j (by omega),fun e => e.elim (h k (by omega)).1 (h k (by omega)).2⟩
theorem checkP_zero {t:Ac}:Ig t = 0 ↔ Gm t:=by
 unfold Ig Gm
 constructor
 ·intro h
  split at h
  ·split at h
   ·exact ⟨‹_›,‹_›⟩
   ·cases h
  ·cases h
 ·rintro ⟨h1,h2⟩;rw [if_pos h1,if_pos h2]
theorem Tw (l:List Ac):∀ (n:Nat) (i:Nat),(Bt l n (i:Int)).2 = 0 ↔ ∀ j:Nat,j < n → Gm (atI l ((i + j:Nat):Int)) ∧ J7 l ((i + j:Nat):Int) (i + j) = false
 | 0,i => by simp [Bt]
 | n + 1,i => by
  have d:=Tw l n (i + 1)
  unfold Bt
  constructor
  ·intro h j e
   split at h
   ·rename_i a;exact absurd h a
   ·rename_i a
    split at h
    ·cases h
    ·rename_i h2
     cases j with
     | zero => exact ⟨checkP_zero.1 (by simpa using a),by simpa using h2⟩
     | succ j =>
      have:=d.1 (by simpa using h) j (by omega)
      rw [show i + (j + 1) = i + 1 + j by omega];exact this
  ·intro h
   have c:=h 0 (by omega)
   simp only [Nat.add_zero] at c
   rw [if_neg (by rw [checkP_zero.2 c.1];simp),show ((i:Int)).toNat = i by omega,c.2]
   simp only [Bool.false_eq_true,if_false]
   have:=d.2 (fun j e => by
    have:=h (j + 1) (by omega)
    rw [show i + 1 + j = i + (j + 1) by omega];exact this)
   simpa using this
theorem valid_iff {l:List Ac}:F7 l ↔ (1 ≤ l.length ∧ l.length ≤ 1024) ∧ (∀ t ∈ l,Gm t) ∧ ∀ j k:Nat,j < k → k < l.length → bs (atI l (j:Int)).name ≠ bs (atI l (k:Int)).name ∧ (atI l (j:Int)).P ≠ (atI l (k:Int)).P:=by
 unfold F7 Bz
 have g:=Tw l l.length 0
 simp only [Nat.zero_add,Int.natCast_zero] at g
 by_cases h:l.length = 0 ∨ 1024 < l.length
 ·rw [if_pos h]
  constructor
  ·intro e;cases e
  ·intro ⟨f,_⟩;omega
 ·rw [if_neg h]
  have c:(Bt l l.length 0).2 = 0 ↔ _:=g
  rw [c]
  constructor
  ·intro f
   refine ⟨by omega,fun t m => ?_,fun j k a d => ?_⟩
   ·obtain ⟨j,a,rfl⟩:=List.getElem_of_mem m
    have:=(f j a).1
    rw [B8 a] at this;exact this
   ·exact (Xh l (k:Int) k).1 (f k d).2 j a
  ·rintro ⟨_,h2,n⟩ j a
   refine ⟨h2 _ (Al (by omega) (by omega)),(Xh l (j:Int) j).2 fun k d => n k j d a⟩
theorem Apm (n turn:Int) (k:Nat) (L:List Ac):(setPs n turn k L).length = L.length:=by simp [setPs]
theorem Afu (l:List Spec) {most turn:Int} (hm:1 ≤ most):0 < (Of l most turn).length ∧ ((Of l most turn).length:Int) ≤ most:=by
 simp only [Of,Apm,List.length_mapIdx,List.length_take]
 split
 ·simp;omega
 ·rename_i a
  have:0 < l.length:=List.length_pos_iff.2 a
  omega
theorem Asb {l:List Spec} {most turn:Int} {i:Nat} (hi:i < (Of l most turn).length):∃ s:Spec,(Of l most turn)[i] = { Ce i s with P:=prio (Of l most turn).length turn i }:=by
 unfold Of at hi ⊢
 dsimp only at hi ⊢
 generalize (if l = [] then [(⟨turn,0,0,0,0⟩:Spec)] else l).take most.toNat = X at *
 have a:i < X.length:=by simpa [setPs] using hi
 refine ⟨X[i],?_⟩
 have c:i < (List.mapIdx Ce X).length:=by simpa using a
 simp only [setPs,List.getElem_mapIdx,List.length_mapIdx]
 rw [if_pos a]
theorem Axb {n turn:Int} (hn:0 < n) (i:Nat):1 ≤ prio n turn i ∧ prio n turn i ≤ n:=by
 unfold prio
 have:=Kv (i * Lh n turn + turn % n) n hn
 omega
structure A1d (t:Ac):Prop where
 name:t.name.size = 2
 C:1 ≤ t.C ∧ t.C ≤ 4
 D:t.C ≤ t.D ∧ t.D ≤ 14
 J:0 ≤ t.J ∧ t.C + t.J ≤ t.D
 Q:1 ≤ t.Q ∧ t.Q ≤ t.C
 T:t.D ≤ t.T ∧ t.T ≤ 20
 P:1 ≤ t.P ∧ t.P ≤ 26
theorem Zi {l:List Spec} {most turn:Int} (hm:1 ≤ most) (hm2:most ≤ 26) {t:Ac} (ht:t ∈ Of l most turn):A1d t:=by
 obtain ⟨i,a,rfl⟩:=List.getElem_of_mem ht
 obtain ⟨s,e⟩:=Asb a
 have m:=Afu l (turn:=turn) hm
 have g:=Axb (n:=(Of l most turn).length) (turn:=turn) (by omega) i
 rw [e]
 have j:=Kv s.C 4 (by decide)
 have h2:=Kv s.D 11 (by decide)
 have c:=Kv s.T 7 (by decide)
 have d:=Kv s.J (1 + s.C % 4 + s.D % 11 - (1 + s.C % 4) + 1) (by omega)
 have f:=Kv s.Q (1 + s.C % 4) (by omega)
 exact ⟨rfl,by simp only [Ce];omega,by simp only [Ce];omega,by simp only [Ce];omega,by simp only [Ce];omega,by simp only [Ce];omega,by simp only [];omega⟩
end Go.L.Try
namespace Go.L.Try
open Go Go.L
def Cz (l:List Job) (task:Int):Nat → Int
 | 0 => -1
 | k + 1 => if (atI l (k:Int)).task = task then k else Cz l task k
theorem O9 (l:List Job) (task:Int):∀ k,-1 ≤ Cz l task k ∧ Cz l task k < k
 | 0 => by simp [Cz]
 | k + 1 => by have:=O9 l task k;unfold Cz;split <;> omega
end Go.L.Try
