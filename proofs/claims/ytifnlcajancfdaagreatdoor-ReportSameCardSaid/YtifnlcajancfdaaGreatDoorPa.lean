/- REPORT: a text's lines; report.Fine, and the law ReportFine. -/
import Derived.Test.YtifnlcajancfdaaGreatDoorCode
import Derived.Test.YtifnlcajancfdaaGreatDoorVc
set_option linter.unusedVariables false
set_option linter.unusedSimpArgs false
set_option maxRecDepth 100000
set_option maxHeartbeats 2000000
namespace Go.L.Try
open Go Go.L
variable {E:Env}
structure Line where
 name:ByteArray
 r:Int
 ok:Bool
instance:Inhabited Line:=⟨⟨⟨#[]⟩,0,false⟩⟩
def Adl (x:Line):List Value:=[.string x.name,.int .i64 x.r,.bool x.ok]
theorem Ayk {l:List Line} {n:Nat} (h:n<l.length):(l.take (n+1)).all Line.ok=((l.take n).all Line.ok && (atI l (n:Int)).ok):=by
 rw [Go.L.take_snoc h,List.all_append];simp
theorem A1i {l:List Line} {n:Nat} (h:n<l.length) (hn:(atI l (n:Int)).ok=false):l.all Line.ok=false:=by
 rw [List.all_eq_false]
 exact ⟨atI l (n:Int),Aj (by omega) (by omega),by simp [hn]⟩
theorem A5u (hE:Aw E) {h:Aa} {v:Value} {l:List Line} (hl:Rd 3 Adl h v l):callW E (.func (.func Iy) #[] #[]) [v] h=some (.bool (l.all Line.ok),h,[]):=by
 have few:=hl.few
 have hlen:=hl.len
 refine Am hE.Aht rfl (by simp) ?_
 simp only [Ak]
 (repeat' simp -dsimp (disch:=omega) only [↓EA,EB,Nat.reduceEqDiff,↓reduceIte,reduceCtorEq,eq_self, *])
 refine WO.loop (fun (n:Nat) fr h' => Pre h h'∧n≤l.length∧(l.take n).all Line.ok=true∧get fr 5=v∧get fr 6 = .int .i64 l.length∧get fr 7 = .int .i64 n) (fun n => l.length - n) ?_ 0 ⟨Pre.refl _,Nat.zero_le _,rfl,rfl,rfl,rfl⟩
 rintro n fr h' ⟨hp,hn,ha,g5,g6,g7⟩
 have hl':=hl.pre hp
 have hpl:=hp.le
 unfold P2
 rcases Nat.lt_or_ge n l.length with hlt | hge
 ·have hst:=Ayk hlt
  have hnt:=A1i hlt
  rw [ha] at hst
  cases hok:(atI l (n:Int)).ok
  ·rw [hok] at hst hnt
   have Hn:=Hid.mk (hnt rfl)
   clear hst hnt ha
   (repeat' (first | (with_reducible refine A3 (fun _ => ?_) (fun _ => ?_)<;>try (exfalso;omega)) | simp -dsimp (disch:=omega) only [↓EA,EB,Nat.reduceEqDiff,Nat.reduceAdd,↓reduceIte,Ac,eq_self, *,hl'.ixs,hl'.lda,Adl,Hn.out]))
  ·rw [hok] at hst hnt
   have Hn:=Hid.mk hst
   clear hst hnt ha
   (repeat' (first | (with_reducible refine A3 (fun _ => ?_) (fun _ => ?_)<;>try (exfalso;omega)) | simp -dsimp (disch:=omega) only [↓EA,EB,Nat.reduceEqDiff,Nat.reduceAdd,↓reduceIte,Ac,eq_self, *,hl'.ixs,hl'.lda,Adl]))
   refine Next.mk (n+1) ⟨hp.trans (Pre.app _ _),by omega,Hn.out,rfl,rfl,rfl⟩ (by omega)
 ·have e:n=l.length:=by omega
  subst e
  rw [List.take_length] at ha
  (repeat' (first | (with_reducible refine A3 (fun _ => ?_) (fun _ => ?_)<;>try (exfalso;omega)) | simp -dsimp (disch:=omega) only [↓EA,EB,Nat.reduceEqDiff,↓reduceIte,eq_self, *]))
end Go.L.Try
set_option maxRecDepth 4000
namespace Go.L.Try
open Go Go.L
variable {E:Env}
theorem Alh (hE:Aw E) (h:Aa) (x n:Int) (hn:0<n) (hn':n<4611686018427387904):callW E (.func (.func Ch) #[] #[]) [.int .i64 x,.int .i64 n] h=some (.int .i64 (x % n),h,[]):=by
 have hb:=Yk x n hn
 refine Am hE.All rfl (by simp) ?_
 simp -dsimp (disch:=omega) only [↓EA,EB,Nat.reduceEqDiff,↓reduceIte,reduceCtorEq,eq_self,Ak,Azv x n hn]
def Ga (n turn:Int):Int:=if 2<n∧(turn.tdiv n) % 2=1 then n - 1 else 1
theorem Ay4 (hE:Aw E) (h:Aa) (n x:Int) (hn:0<n) (hn':n<4611686018427387904) (hx:Nj x):callW E (.func (.func Iz) #[] #[]) [.int .i64 n,.int .i64 x] h=some (.int .i64 (Ga n x),h,[]):=by
 refine Am hE.Ahv rfl (by simp) ?_
 simp only [Ak]
 have hr:=fun y => Alh hE h y 2 (by decide) (by decide)
 have hq:Nj (x.tdiv n):=Ay8 hn hx
 unfold Nj at hq
 unfold Ga
 (repeat' (first | (with_reducible refine A1 (fun _ => ?_) (fun _ => ?_)<;>try (exfalso;omega)) | (with_reducible refine A3 (fun _ => ?_) (fun _ => ?_)<;>try (exfalso;omega)) | simp -dsimp (disch:=omega) only [↓EA,EB,Nat.reduceEqDiff,↓reduceIte,reduceCtorEq,eq_self, *]))
 all_goals simp [*]
def Aae (i:Nat):ByteArray:=⟨#[116]⟩++⟨#[UInt8.ofNat (97+i)]⟩
def Bx (i:Nat) (s:Spec):Ab:=⟨Aae i,1+s.C % 4,1+s.C % 4+s.D % 11+s.T % 7,1+s.C % 4+s.D % 11,s.J % (1+s.C % 4+s.D % 11 - (1+s.C % 4)+1),1+s.Q % (1+s.C % 4),0⟩
theorem At6 (hE:Aw E) {W:Nat→Prop} {h0:Aa} (hW:∀ b,h0.length≤b→W b) {vl:Value} {l:List Spec} (hl:Rd 5 Y0 h0 vl l) {most turn:Int} (hm:0≤most) (hm2:most≤26) {Q:Ex→Fr→Aa→Prop} {fr:Fr}
  (g0:get fr 0=vl) (g1:get fr 1 = .int .i64 most) (g2:get fr 2 = .int .i64 turn) (g7:get fr 7 = .slice none 0 0) (g8:get fr 8 = .int .i64 0)
  (hq:∀ fr' h' vo,Pre h0 h'→get fr' 2 = .int .i64 turn→get fr' 7=vo→OwnT h0.length 7 A5 h' vo ((l.take most.toNat).mapIdx Bx)→Q (.exit 0) fr' h') :
  WO W (iterW (code (callW E) iterW 113 Nw) fr h0) Q:=by
 refine WO.loop (fun n fr h' => Pre h0 h'∧n≤l.length∧n≤most∧get fr 0=vl∧get fr 1 = .int .i64 most∧get fr 2 = .int .i64 turn∧get fr 8 = .int .i64 n∧OwnT h0.length 7 A5 h' (get fr 7) ((l.take n).mapIdx Bx)) (fun n => l.length - n) ?_ 0 ⟨Pre.refl _,Nat.zero_le _,by omega,g0,g1,g2,g8,by rw [g7];exact OwnT.nil⟩
 rintro n fr h' ⟨hp,hn,hn2,h1,h2,h3,h8,ho⟩
 have few:=hl.few
 have hl':=hl.pre hp
 unfold Nw
 generalize hvo:get fr 7=vo at ho
 have hj:=Fq (atI l ↑n).J (1+(atI l ↑n).C % 4+(atI l ↑n).D % 11 - (1+(atI l ↑n).C % 4)+1) (by omega)
 have hk:=Fq (atI l ↑n).Q (1+(atI l ↑n).C % 4) (by omega)
 have hs:∀ x:UInt8,binOp .add .other (.string ⟨#[116]⟩) (.string ⟨#[x]⟩)=some (.string (⟨#[116]⟩++⟨#[x]⟩)):=fun x => Acp (by simp [ByteArray.size])
 (repeat' (first | (with_reducible refine A1 (fun _ => ?_) (fun _ => ?_)<;>try (exfalso;omega)) | (with_reducible refine A3 (fun _ => ?_) (fun _ => ?_)<;>try (exfalso;omega)) | simp -dsimp (disch:=omega) only [↓EA,EB,Nat.reduceEqDiff,Nat.reduceAdd,Nat.reduceLeDiff,Nat.reduceMul,↓reduceIte,reduceCtorEq,Ac,Rq,eq_self, *,hl'.len,hl'.ixs,hl'.ld,hl'.ld0,Alh hE,Y0]))
 ·refine Zt (sz:=7) (bytes:=64) (ho.app _) (hp.app' _) (Nat.le_refl _) (by have:=hp.le;simp;omega) hW (Bx n (atI l n)) ?_ rfl (by decide) (by decide) ?_ ?_
  ·simp -dsimp (disch:=omega) only [EB,Nat.reduceAdd,Nat.reduceMul,↓reduceIte]
   simp [Bx,A5,Aae]
   rw [show (97+(n:Int)).toNat=97+n by omega,UInt8.ofNat_add];rfl
  ·simp;omega
  ·intro v' h'' h1 h2 h3 h4 h5
   (repeat' simp -dsimp (disch:=omega) only [↓EA,EB,Nat.reduceEqDiff,↓reduceIte,reduceCtorEq,eq_self, *])
   refine Next.mk (n+1) ⟨h2,by omega,by omega,rfl,rfl,rfl,rfl,?_⟩ (by omega)
   rw [take_snoc (by omega),List.mapIdx_append]
   simpa [get,Nat.min_eq_left hn] using h1
 ·refine hq _ _ _ hp rfl rfl ?_
  have:most.toNat=n:=by omega
  rw [this];exact ho
 ·refine hq _ _ _ hp rfl rfl ?_
  have:l.take most.toNat=l.take n:=by rw [List.take_of_length_le (by omega),List.take_of_length_le (by omega)]
  rw [this];exact ho
def prio (n turn:Int) (i:Nat):Int:=1+(i * Ga n turn+turn % n) % n
def setPs (n turn:Int) (k:Nat) (L:List Ab):List Ab:=L.mapIdx fun i t => if i<k then { t with P:=prio n turn i } else t
theorem Ak2 (n turn:Int) (L:List Ab):setPs n turn 0 L=L:=by unfold setPs;apply List.ext_getElem<;>simp
theorem Ak3 (n turn:Int) (k:Nat) (L:List Ab) (hk:k<L.length):setPs n turn (k+1) L=(setPs n turn k L).set k { atI (setPs n turn k L) (k:Int) with P:=prio n turn k }:=by
 have hl:k<(setPs n turn k L).length:=by simp [setPs];exact hk
 rw [By hl]
 apply List.ext_getElem
 ·simp [setPs]
 ·intro i h1 h2
  simp only [setPs,List.getElem_mapIdx,List.getElem_set]
  simp only [setPs,List.length_mapIdx] at h1
  by_cases e:k=i
  ·subst e;simp
  ·rw [if_neg e]
   by_cases hlt:i<k
   ·rw [if_pos (by omega),if_pos hlt]
   ·rw [if_neg (by omega),if_neg hlt]
theorem Atq (n x:Int) (hn:0<n) (hn2:n≤26):1≤Ga n x∧Ga n x≤26:=by unfold Ga;split<;>omega
theorem A3c (hE:Aw E) {W:Nat→Prop} {m:Nat} {h0:Aa} (hm0:m≤h0.length) (hW:∀ b,m≤b→W b) {L:List Ab} {vo:Value} (ho:OwnT m 7 A5 h0 vo L) {turn:Int} (ht:Nj turn) (hn:0<L.length) (hn2:L.length≤26) {Q:Ex→Fr→Aa→Prop} {fr:Fr}
  (g2:get fr 2 = .int .i64 turn) (g7:get fr 7=vo) (g14:get fr 14 = .int .i64 L.length) (g15:get fr 15 = .int .i64 0)
  (hq:∀ fr' h',(∀ b,b<m→h'[b]? = h0[b]?)→h'.length=h0.length→get fr' 7=vo→OwnT m 7 A5 h' vo (setPs L.length turn L.length L)→Q (.exit 2) fr' h') :
  WO W (iterW (code (callW E) iterW 113 Nv) fr h0) Q:=by
 have few:=ho.rd.few
 refine WO.loop (fun n fr h' => (∀ b,b<m→h'[b]? = h0[b]?)∧h'.length=h0.length∧n≤L.length∧get fr 2 = .int .i64 turn∧get fr 7=vo∧get fr 14 = .int .i64 L.length∧get fr 15 = .int .i64 n∧OwnT m 7 A5 h' vo (setPs L.length turn n L)) (fun n => L.length - n) ?_ 0 ⟨fun _ _ => rfl,rfl,Nat.zero_le _,g2,g7,g14,g15,by rw [Ak2];exact ho⟩
 rintro n fr h' ⟨hk,hlen,hn3,h2,h7,h14,h15,ho⟩
 have ln:(setPs L.length turn n L).length=L.length:=by simp [setPs]
 have hr:=ho.rd
 unfold Nv
 have ht':=Atq L.length turn (by omega) (by omega)
 have hm:=Fq turn L.length (by omega)
 have hmul:0≤(n:Int) * Ga L.length turn∧(n:Int) * Ga L.length turn≤26 * 26:=by
  constructor
  ·exact Int.mul_nonneg (by omega) (by omega)
  ·exact Int.mul_le_mul (by omega) (by omega) (by omega) (by omega)
 have hmod:=Fq (n * Ga L.length turn+turn % L.length) L.length (by omega)
 have e1:((n:Int) * Ga L.length turn+turn % L.length).tmod L.length=((n:Int) * Ga L.length turn+turn % L.length) % L.length:=Int.tmod_eq_emod_of_nonneg (by omega)
 have hturns:=fun h => Ay4 hE h L.length turn (by omega) (by omega) ht
 (repeat' (first | (with_reducible refine A3 (fun _ => ?_) (fun _ => ?_)<;>try (exfalso;omega)) | simp -dsimp (disch:=omega) only [↓EA,EB,Nat.reduceEqDiff,↓reduceIte,eq_self, *,hr.ixs,Alh hE]))
 ·refine Amx ho hW { atI (setPs L.length turn n L) (n:Int) with P:=prio L.length turn n } (by omega) (by omega) (by decide) rfl rfl fun h'' h1 h2 h3 => ?_
  (repeat' simp -dsimp (disch:=omega) only [↓EA,EB,Nat.reduceEqDiff,↓reduceIte,eq_self, *])
  have hne:setPs L.length turn n L≠[]:=by intro e;rw [e] at ln;simp at ln;omega
  refine Next.mk (n+1) ⟨fun b hb => by rw [h3 b (by have:=ho.ge hne;omega),hk b hb],by omega,by omega,rfl,rfl,rfl,rfl,?_⟩ (by omega)
  rw [Ak3 _ _ _ _ (by omega)];simpa using h1
 ·have:n=L.length:=by omega
  subst this
  exact hq _ _ hk hlen rfl ho
def setP (l:List Spec) (most turn:Int):List Ab :=
 let L:=((if l=[] then [⟨turn,0,0,0,0⟩] else l).take most.toNat).mapIdx Bx
 setPs L.length turn L.length L
theorem A3e (hE:Aw E) {h:Aa} {vl:Value} {l:List Spec} (hl:Rd 5 Y0 h vl l) {most turn:Int} (hm:1≤most) (hm2:most≤26) (ht:Nj turn) :
  ∃ v ys,callW E (.func (.func Ln) #[] #[]) [vl,.int .i64 most,.int .i64 turn] h=some (v,h++ys,[])∧RdO h.length 7 A5 (h++ys) v (setP l most turn):=by
 have few:=hl.few
 refine Ku hE.Arp rfl (RdO.movable A2j _) (by simp) ?_
 simp only [Ak]
 (repeat' (first | (with_reducible refine A3 (fun _ => ?_) (fun _ => ?_)<;>try (exfalso;omega)) | simp -dsimp (disch:=omega) only [↓EA,EB,Nat.reduceEqDiff,Nat.reduceAdd,Nat.reduceLeDiff,Nat.reduceMul,↓reduceIte,reduceCtorEq,Ac,Rq,eq_self, *,hl.len]))
 case' refine_1 =>
  refine At6 hE (fun b hb => by simp at hb;omega) (l:=[⟨turn,0,0,0,0⟩]) (Rd.lit _ (by rw [Bm];rfl) rfl (fun _ => rfl) (by simp) (by simp) (.inl rfl)) (by omega) hm2 rfl rfl rfl rfl rfl fun fr' h' vo hp g2 g7 ho => ?_
  have hp:=(Pre.app h _).trans hp
  have e:l=[]:=List.length_eq_zero_iff.1 (by omega)
  have hL:setP l most turn=setPs (List.mapIdx Bx (List.take most.toNat [⟨turn,0,0,0,0⟩])).length turn (List.mapIdx Bx (List.take most.toNat [⟨turn,0,0,0,0⟩])).length (List.mapIdx Bx (List.take most.toNat [⟨turn,0,0,0,0⟩])):=by simp [setP,e]
  have hn:0<(List.mapIdx Bx (List.take most.toNat [⟨turn,0,0,0,0⟩])).length:=by simp;omega
  have hn2:(List.mapIdx Bx (List.take most.toNat [⟨turn,0,0,0,0⟩])).length≤26:=by simp;omega
  replace ho:=ho.less (m':=h.length) (by simp)
 case' refine_2 =>
  refine At6 hE (fun b hb => hb) hl (by omega) hm2 rfl rfl rfl rfl rfl fun fr' h' vo hp g2 g7 ho => ?_
  have e:l≠[]:=fun e => by simp_all
  have hL:setP l most turn=setPs (List.mapIdx Bx (List.take most.toNat l)).length turn (List.mapIdx Bx (List.take most.toNat l)).length (List.mapIdx Bx (List.take most.toNat l)):=by simp [setP,e]
  have hn:0<(List.mapIdx Bx (List.take most.toNat l)).length:=by have:=List.length_pos_iff.2 e;simp;omega
  have hn2:(List.mapIdx Bx (List.take most.toNat l)).length≤26:=by simp;omega
  replace ho:=ho.less (Nat.le_refl _)
 all_goals
  rw [hL]
  revert ho hn hn2
  generalize List.mapIdx Bx _=L
  intro hn hn2 ho
  clear hL
  (repeat' simp -dsimp (disch:=omega) only [↓EA,EB,Nat.reduceEqDiff,↓reduceIte,eq_self, *,ho.rd.len])
  refine A3c hE hp.le (fun b hb => hb) ho ht hn hn2 rfl rfl rfl rfl fun fr'' h'' h1 h3 h4 h5 => ?_
  (repeat' simp -dsimp (disch:=omega) only [↓EA,EB,↓reduceIte,eq_self, *])
  exact ⟨Pre.ex fun b o hb => by rw [h1 b (GI.1 hb).1];exact hp b o hb,h5.rdO⟩
end Go.L.Try
set_option maxHeartbeats 1000000
namespace Go.L.Try
open Go Go.L
variable {E:Env}
def Le (c:UInt8):Bool:=decide ((97≤c.toNat∧c.toNat≤122)∨(65≤c.toNat∧c.toNat≤90)∨c.toNat=95)
def Agd (c:UInt8):Bool:=decide (48≤c.toNat∧c.toNat≤57)
def J0 (c:UInt8):Bool:=Le c || Agd c || decide (c.toNat=46) || decide (c.toNat=45)
def runEnd (p:UInt8→Bool) (s:ByteArray) (e:Nat):Nat:=e+(((bs s).drop e).takeWhile p).length
theorem Ahm {p:UInt8→Bool} {s:ByteArray} {e:Nat} (h:e<s.size) (hp:p (Gf s e)=true):runEnd p s e=runEnd p s (e+1):=by
 unfold runEnd
 have hl:e<(bs s).length:=by rw [Te];exact h
 have hb:Gf s e=(bs s)[e]:=by unfold Gf;rw [List.getD_eq_getElem?_getD,show ((e:Int)).toNat=e by omega,List.getElem?_eq_getElem hl];rfl
 rw [List.drop_eq_getElem_cons hl,List.takeWhile_cons,← hb,hp]
 simp only [if_true,List.length_cons];omega
theorem Ahl {p:UInt8→Bool} {s:ByteArray} {e:Nat} (h:e<s.size) (hp:p (Gf s e)=false):runEnd p s e=e:=by
 unfold runEnd
 have hl:e<(bs s).length:=by rw [Te];exact h
 have hb:Gf s e=(bs s)[e]:=by unfold Gf;rw [List.getD_eq_getElem?_getD,show ((e:Int)).toNat=e by omega,List.getElem?_eq_getElem hl];rfl
 rw [List.drop_eq_getElem_cons hl,List.takeWhile_cons,← hb,hp]
 simp
theorem Ald {p:UInt8→Bool} {s:ByteArray} {e:Nat} (h:s.size≤e):runEnd p s e=e:=by
 unfold runEnd
 rw [List.drop_of_length_le (by rw [Te];exact h)];simp
structure Tok where
 kind:Int
 at':Int
 text:ByteArray
 n:Int
instance:Inhabited Tok:=⟨⟨0,0,⟨#[]⟩,0⟩⟩
def Yi (s:ByteArray):Bool:=match bs s with
 | [] => false
 | c :: r => Le c && r.all J0
theorem Uf {α : Type} {p:α → Bool}:∀ {l:List α},(l.takeWhile p).length=l.length↔l.all p=true
 | [] => by simp
 | x :: r => by
  rw [List.takeWhile_cons,List.all_cons]
  by_cases h:p x=true
  ·rw [if_pos h,List.length_cons,List.length_cons,h,Bool.true_and,← Uf];omega
  ·rw [if_neg h];simp [h]
end Go.L.Try
namespace Go.L.Try
open Go Go.L
variable {E:Env}
def Ap (t:Ab):Prop:=Yi t.name=true∧t.name.size≤32∧(1≤t.C∧t.C≤2147483647)∧(1≤t.T∧t.T≤2147483647)∧(1≤t.D∧t.D≤2147483647)∧(1≤t.Q∧t.Q≤2147483647)∧(0≤t.J∧t.J≤2147483647)∧1≤t.P∧t.P≤1048576
instance (t:Ab):Decidable (Ap t):=by unfold Ap;infer_instance
def Eg (t:Ab):Prop:=t.Q≤t.C∧t.C+t.J≤t.D∧t.D≤t.T
instance (t:Ab):Decidable (Eg t):=by unfold Eg;infer_instance
def Lx (t:Ab):Int:=if Ap t then if Eg t then 0 else 12 else 11
def Uk (l:List Ab) (i:Int):Nat→Bool
  | 0 => false
  | k+1 => Uk l i k || decide (bs (atI l (k:Int)).name=bs (atI l i).name∨(atI l (k:Int)).P=(atI l i).P)
def Ct (l:List Ab):Nat→Int→Int × Int
  | 0,i => (i,0)
  | n+1,i => if Lx (atI l i)≠0 then (i,Lx (atI l i)) else if Uk l i i.toNat then (i,13) else Ct l n (i+1)
def Da (l:List Ab):Int × Int:=if l.length=0∨1024<l.length then (0,14) else Ct l l.length 0
def Cr (t:Ab):Prop:=Ap t∧Eg t
theorem Ww {l:List Ab}:∀ {n:Nat} {i:Int},(Ct l n i).2=0→∀ j:Nat,j<n→Lx (atI l (i+j))=0
  | 0,i,_,j,hj => by omega
  | n+1,i,h,j,hj => by
    unfold Ct at h
    split at h
    · rename_i h1;exact absurd h h1
    · split at h
      · cases h
      · rename_i h1 _
        cases j with
        | zero => have:Lx (atI l i)=0:=by simpa using h1
                  simpa using this
        | succ j =>
          have:=Ww h j (by omega)
          rw [show i+((j+1:Nat):Int)=i+1+(j:Int) by omega];exact this
theorem Bc {l:List Ab} (h:(Da l).2=0):0<l.length∧l.length≤1024∧∀ t∈l,Cr t:=by
  unfold Da at h
  split at h
  · cases h
  · rename_i hn
    refine ⟨by omega,by omega,fun t ht => ?_⟩
    obtain ⟨j,hj,rfl⟩:=List.getElem_of_mem ht
    have h1:=Ww h j hj
    rw [show (0:Int)+(j:Int)=(j:Int) by omega,By hj] at h1
    unfold Lx at h1
    split at h1
    · split at h1
      · exact ⟨‹_›,‹_›⟩
      · cases h1
    · cases h1
end Go.L.Try
set_option maxRecDepth 100000
namespace Go.L.Try
open Go Go.L
def B5 (l:List Ab):Prop:=(Da l).2=0
instance (l:List Ab):Decidable (B5 l):=inferInstanceAs (Decidable (_=_))
theorem Yc (l:List Ab) (i:Int):∀ k:Nat,Uk l i k=false↔∀ j:Nat,j<k→bs (atI l (j:Int)).name≠bs (atI l i).name∧(atI l (j:Int)).P≠(atI l i).P
 | 0 => by simp [Uk]
 | k+1 => by
  rw [Uk,Bool.or_eq_false_iff,Yc l i k,decide_eq_false_iff_not]
  constructor
  ·rintro ⟨h1,h2⟩ j hj
   rcases Nat.lt_or_ge j k with h | h
   ·exact h1 j h
   ·obtain rfl:j=k:=by omega
    exact ⟨fun e => h2 (.inl e),fun e => h2 (.inr e)⟩
  ·intro h
   exact ⟨fun j hj => h j (by omega),fun e => e.elim (h k (by omega)).1 (h k (by omega)).2⟩
theorem checkP_zero {t:Ab}:Lx t=0↔Cr t:=by
 unfold Lx Cr
 constructor
 ·intro h
  split at h
  ·split at h
   ·exact ⟨‹_›,‹_›⟩
   ·cases h
  ·cases h
 ·rintro ⟨h1,h2⟩;rw [if_pos h1,if_pos h2]
theorem Ul (l:List Ab):∀ (n:Nat) (i:Nat),(Ct l n (i:Int)).2=0↔∀ j:Nat,j<n→Cr (atI l ((i+j:Nat):Int))∧Uk l ((i+j:Nat):Int) (i+j)=false
 | 0,i => by simp [Ct]
 | n+1,i => by
  have ih:=Ul l n (i+1)
  unfold Ct
  constructor
  ·intro h j hj
   split at h
   ·rename_i h1;exact absurd h h1
   ·rename_i h1
    split at h
    ·cases h
    ·rename_i h2
     cases j with
     | zero => exact ⟨checkP_zero.1 (by simpa using h1),by simpa using h2⟩
     | succ j =>
      have:=ih.1 (by simpa using h) j (by omega)
      rw [show i+(j+1)=i+1+j by omega];exact this
  ·intro h
   have h0:=h 0 (by omega)
   simp only [Nat.add_zero] at h0
   rw [if_neg (by rw [checkP_zero.2 h0.1];simp),show ((i:Int)).toNat=i by omega,h0.2]
   simp only [Bool.false_eq_true,if_false]
   have:=ih.2 (fun j hj => by
    have:=h (j+1) (by omega)
    rw [show i+1+j=i+(j+1) by omega];exact this)
   simpa using this
theorem valid_iff {l:List Ab}:B5 l↔(1≤l.length∧l.length≤1024)∧(∀ t∈l,Cr t)∧∀ j k:Nat,j<k→k<l.length→bs (atI l (j:Int)).name≠bs (atI l (k:Int)).name∧(atI l (j:Int)).P≠(atI l (k:Int)).P:=by
 unfold B5 Da
 have hf:=Ul l l.length 0
 simp only [Nat.zero_add,Int.natCast_zero] at hf
 by_cases h:l.length=0∨1024<l.length
 ·rw [if_pos h]
  constructor
  ·intro e;cases e
  ·intro ⟨h1,_⟩;omega
 ·rw [if_neg h]
  have hf':(Ct l l.length 0).2=0↔_:=hf
  rw [hf']
  constructor
  ·intro h1
   refine ⟨by omega,fun t ht => ?_,fun j k hj hk => ?_⟩
   ·obtain ⟨j,hj,rfl⟩:=List.getElem_of_mem ht
    have:=(h1 j hj).1
    rw [By hj] at this;exact this
   ·exact (Yc l (k:Int) k).1 (h1 k hk).2 j hj
  ·rintro ⟨_,h2,h3⟩ j hj
   refine ⟨h2 _ (Aj (by omega) (by omega)),(Yc l (j:Int) j).2 fun k hk => h3 k j hk hj⟩
theorem Aq9 (n turn:Int) (k:Nat) (L:List Ab):(setPs n turn k L).length=L.length:=by simp [setPs]
theorem Aas (l:List Spec) {most turn:Int} (hm:1≤most):0<(setP l most turn).length∧((setP l most turn).length:Int)≤most:=by
 simp only [setP,Aq9,List.length_mapIdx,List.length_take]
 split
 ·simp;omega
 ·rename_i hl
  have:0<l.length:=List.length_pos_iff.2 hl
  omega
theorem Aat {l:List Spec} {most turn:Int} {i:Nat} (hi:i<(setP l most turn).length):∃ s:Spec,(setP l most turn)[i]={ Bx i s with P:=prio (setP l most turn).length turn i }:=by
 unfold setP at hi ⊢
 dsimp only at hi ⊢
 generalize (if l=[] then [(⟨turn,0,0,0,0⟩:Spec)] else l).take most.toNat=X at *
 have hx:i<X.length:=by simpa [setPs] using hi
 refine ⟨X[i],?_⟩
 have hi2:i<(List.mapIdx Bx X).length:=by simpa using hx
 simp only [setPs,List.getElem_mapIdx,List.length_mapIdx]
 rw [if_pos hx]
theorem Ane {n turn:Int} (hn:0<n) (i:Nat):1≤prio n turn i∧prio n turn i≤n:=by
 unfold prio
 have:=Fq (i * Ga n turn+turn % n) n hn
 omega
theorem Axf {n a b:Int} (ha:0≤a∧a<n) (hb:0≤b∧b<n) (h:n ∣ a - b):a=b:=by
 have:=Int.emod_eq_emod_iff_emod_sub_eq_zero.2 (Int.emod_eq_zero_of_dvd h)
 rwa [Int.emod_eq_of_lt ha.1 ha.2,Int.emod_eq_of_lt hb.1 hb.2] at this
theorem Auq {n turn:Int} (hn:0<n) {i j:Nat} (hi:(i:Int)<n) (hj:(j:Int)<n) (h:prio n turn i=prio n turn j):i=j:=by
 unfold prio at h
 have h1:((i:Int) * Ga n turn+turn % n) % n=((j:Int) * Ga n turn+turn % n) % n:=by omega
 have h2:=Int.dvd_of_emod_eq_zero (Int.emod_eq_emod_iff_emod_sub_eq_zero.1 h1)
 have e:(i:Int) * Ga n turn+turn % n - ((j:Int) * Ga n turn+turn % n)=((i:Int) - j) * Ga n turn:=by rw [Int.sub_mul];omega
 rw [e] at h2
 have h3:n ∣ (i:Int) - j:=by
  unfold Ga at h2
  split at h2
  ·have h4:n ∣ ((i:Int) - j) * n:=Int.dvd_mul_left _ _
   have h5:=Int.dvd_sub h4 h2
   have e2:((i:Int) - j) * n - ((i:Int) - j) * (n - 1)=(i:Int) - j:=by rw [← Int.mul_sub];rw [show n - (n - 1)=1 by omega,Int.mul_one]
   rwa [e2] at h5
  ·rwa [Int.mul_one] at h2
 have:=Axf (n:=n) (by omega) (by omega) h3
 omega
theorem Akr:∀ i:Nat,i<26→Yi (Aae i)=true∧(Aae i).size=2:=by decide +kernel
theorem Aq0:∀ i:Nat,i<26→∀ j:Nat,j<26→bs (Aae i)=bs (Aae j)→i=j:=by decide +kernel
theorem Ak1 (i:Nat) (hi:i<26) (s:Spec) {p:Int} (hp:1≤p∧p≤26):Cr { Bx i s with P:=p }:=by
 have h1:=Fq s.C 4 (by decide)
 have h2:=Fq s.D 11 (by decide)
 have h3:=Fq s.T 7 (by decide)
 have h4:=Fq s.J (1+s.C % 4+s.D % 11 - (1+s.C % 4)+1) (by omega)
 have h5:=Fq s.Q (1+s.C % 4) (by omega)
 obtain ⟨w1,w2⟩:=Akr i hi
 refine ⟨⟨w1,by show (Aae i).size≤32;omega,?_⟩,?_⟩
 ·simp only [Bx];omega
 ·simp only [Eg,Bx];omega
structure Amv (t:Ab):Prop where
 name:t.name.size=2
 C:1≤t.C∧t.C≤4
 D:t.C≤t.D∧t.D≤14
 J:0≤t.J∧t.C+t.J≤t.D
 Q:1≤t.Q∧t.Q≤t.C
 T:t.D≤t.T∧t.T≤20
 P:1≤t.P∧t.P≤26
theorem Ak5 {l:List Spec} {most turn:Int} (hm:1≤most) (hm2:most≤26) {t:Ab} (ht:t∈setP l most turn):Amv t:=by
 obtain ⟨i,hi,rfl⟩:=List.getElem_of_mem ht
 obtain ⟨s,e⟩:=Aat hi
 have hl:=Aas l (turn:=turn) hm
 have hp:=Ane (n:=(setP l most turn).length) (turn:=turn) (by omega) i
 rw [e]
 have h1:=Fq s.C 4 (by decide)
 have h2:=Fq s.D 11 (by decide)
 have h3:=Fq s.T 7 (by decide)
 have h4:=Fq s.J (1+s.C % 4+s.D % 11 - (1+s.C % 4)+1) (by omega)
 have h5:=Fq s.Q (1+s.C % 4) (by omega)
 exact ⟨rfl,by simp only [Bx];omega,by simp only [Bx];omega,by simp only [Bx];omega,by simp only [Bx];omega,by simp only [Bx];omega,by simp only [];omega⟩
theorem Ak4 (l:List Spec) {most:Int} (turn:Int) (hm:1≤most) (hm2:most≤26):B5 (setP l most turn):=by
 have hl:=Aas l (turn:=turn) hm
 have hat:∀ j:Nat,j<(setP l most turn).length→∃ s:Spec,atI (setP l most turn) (j:Int)={ Bx j s with P:=prio (setP l most turn).length turn j }:=fun j hj => by
  rw [By hj];exact Aat hj
 refine valid_iff.2 ⟨by omega,fun t ht => ?_,fun j k hj hk => ?_⟩
 ·obtain ⟨i,hi,rfl⟩:=List.getElem_of_mem ht
  obtain ⟨s,e⟩:=Aat hi
  rw [e]
  have hp:=Ane (n:=(setP l most turn).length) (turn:=turn) (by omega) i
  exact Ak1 i (by omega) s (by omega)
 ·obtain ⟨s,e1⟩:=hat j (by omega)
  obtain ⟨u,e2⟩:=hat k hk
  rw [e1,e2]
  refine ⟨fun h => ?_,fun h => ?_⟩
  ·have:=Aq0 j (by omega) k (by omega) h
   omega
  ·have:=Auq (n:=(setP l most turn).length) (turn:=turn) (by omega) (by omega) (by omega) h
   omega
end Go.L.Try
namespace Go.L.Try
open Go Go.L
def C4 (l:List Job) (task:Int):Nat→Int
 | 0 => -1
 | k+1 => if (atI l (k:Int)).task=task then k else C4 l task k
theorem Pu (l:List Job) (task:Int):∀ k,-1≤C4 l task k∧C4 l task k<k
 | 0 => by simp [C4]
 | k+1 => by have:=Pu l task k;unfold C4;split<;>omega
end Go.L.Try
