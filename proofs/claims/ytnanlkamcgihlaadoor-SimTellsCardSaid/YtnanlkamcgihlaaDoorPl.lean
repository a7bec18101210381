/- A SCENE's MORE URGENT JOBS: the loop of scene.Critical. -/
import Derived.Test.YtnanlkamcgihlaaDoorPk
set_option linter.unusedVariables false
set_option linter.unusedSimpArgs false
set_option maxRecDepth 100000
set_option maxHeartbeats 8000000
namespace Go.L.Try
open Go Go.L
variable {E:Env} {G:Nat}
def J2 (j:Job):NV Job:=⟨j,.slice none 0 0⟩
structure SC (m0:Nat) (Hb:Aa) (v0:Value) (lo:LObj) (LV:List (NV Job)) (hh:Aa):Prop where
 len:Hb.length < hh.length
 old:∀ y,y < Hb.length → y ≠ m0 + 1 → y ≠ blk v0 → hh[y]? = Hb[y]?
 bL:hh[Hb.length]? = some lo
 out:∃ v,hh[m0 + 1]? = some (.cells [v] false) ∧ OwnT (m0 + 4) 5 (Du hdJ) hh v LV ∧ (blk v = blk v0 ∨ Hb.length < blk v)
section
variable {m0:Nat} {Hb hh:Aa} {v0:Value} {lo:LObj} {LV:List (NV Job)}
theorem SC.setL (s:SC m0 Hb v0 lo LV hh) (hm:m0 + 4 ≤ Hb.length) (hv:blk v0 < Hb.length) (lo':LObj):SC m0 Hb v0 lo' LV (hh.set Hb.length lo'):=by
 obtain ⟨a,b,c,v,f,g,e⟩:=s
 exact ⟨by rw [List.length_set];exact a,fun y j h2 d => by rw [An (by omega)];exact b y j h2 d,Bq a,v,by rw [An (by omega)];exact f,g.keep fun l => An (by omega),e⟩
theorem SC.tr (s:SC m0 Hb v0 lo LV hh) (hm:m0 + 4 ≤ Hb.length) (hv:blk v0 < Hb.length) (hne:LV ≠ []) {H h3:Aa} (hH:Hb.length ≤ H.length) (hH2:H.length ≤ Hb.length + 1) (hL:H.length = Hb.length + 1 ∨ True) (h0:H[m0 + 1]? = some (.cells [v0] false)) (t:Tr H hh h3):(∃ v,h3[m0 + 1]? = some (.cells [v] false) ∧ OwnT (m0 + 4) 5 (Du hdJ) h3 v LV ∧ (blk v = blk v0 ∨ Hb.length < blk v)) ∧ ∀ b,b < H.length → h3[b]? = hh[b]?:=by
 obtain ⟨a,b,c,v,d,f,g⟩:=s
 rcases t with rfl | ⟨rfl,j⟩
 ·exact ⟨⟨v,d,f,g⟩,fun _ _ => rfl⟩
 ·have e:∀ b,b < H.length → (hh.take H.length)[b]? = hh[b]?:=fun b l => by rw [List.getElem?_take,if_pos l]
  refine ⟨⟨v,by rw [e _ (by omega)];exact d,f.keep fun _ => e _ ?_,g⟩,e⟩
  rcases j (m0 + 1) (by omega) with h4 | h4
  ·rw [d,h0] at h4
   cases h4
   omega
  ·rw [d] at h4
   exact Aco f hne h4
end
def loC (frL:Fr) (st:LoopState) (pd:Option (Option Nat)):LObj:=.loop { state:=st,pending:=pd,fr:=frL,sz:=132,params:=[86],assign:=Bm,body:=Bl }
structure Ao6 (m0 eb:Nat) (Hb:Aa) (vl:Value) (s e:Int) (v0:Value):Prop where
 hm:m0 + 4 ≤ Hb.length
 hv:blk v0 < Hb.length ∧ m0 + 4 ≤ blk v0
 hb:m0 + 4 ≤ eb ∧ eb < Hb.length ∧ eb ≠ blk v0
 b0:Hb[m0]? = some (.cells [vl] false)
 b2:Hb[m0 + 2]? = some (.cells [.func (.func Af) #[] #[.pointer (some ⟨m0 + 1,0,none⟩)]] false)
 b3:Hb[m0 + 3]? = some (.cells [.int .i64 s] false)
 be:Hb[eb]? = some (.cells [.int .i64 e] false)
theorem Ax5 (hE:As E) {W:Nat → Prop} {m0 eb:Nat} {Hb:Aa} {vl v0:Value} {s e:Int} (hb:Ao6 m0 eb Hb vl s e v0) (hW:∀ b,m0 ≤ b → b ≠ Hb.length → W b) {k:Nat} {t:Ac} (hok:Gm t) (hs:1 ≤ s ∧ s ≤ 4611686018427387904 ∧ t.J < s) (he:e - s ≤ 2147483647 ∧ s < e) {lo:LObj} {A:List (NV Job)} (hA:A ≠ []) (few:A.length + J5 t.T (e - s + t.J) ≤ 4096)
  {hh:Aa} {tb:Nat} (htb:Hb.length < tb) (st:SC m0 Hb v0 lo (A ++ (Id s k t 1).map J2) hh) (ht:hh[tb]? = some (.cells (Ar t) false)) (hvt:∀ v,hh[m0 + 1]? = some (.cells [v] false) → tb < blk v) {fr:Fr}
  (g8:get fr 8 = .pointer (some ⟨m0 + 2,0,none⟩)) (g13:get fr 13 = .pointer (some ⟨eb,0,none⟩)) (g14:get fr 14 = .int .i64 k) (g15:get fr 15 = .pointer (some ⟨tb,0,none⟩)) (g16:get fr 16 = .bool true) (g17:get fr 17 = .int .i64 (s - t.J + t.T)) {Q:Ex → Fr → Aa → Prop}
  (hq:∀ fr' h',get fr' 16 = .bool true → SC m0 Hb v0 lo (A ++ (Id s k t (J5 t.T (e - s + t.J))).map J2) h' → (∀ v,h'[m0 + 1]? = some (.cells [v] false) → tb < blk v) → Q (.exit 2) fr' h') :
  WO W (iterW (code (callW E) iterW 132 Ih) fr hh) Q:=by
 obtain ⟨rg,ft⟩:=hok
 simp only [Am,C9] at rg ft
 have r:=fun n => Yp (T:=t.T) (p:=e - s + t.J) (by omega) n
 have a5:1 ≤ J5 t.T (e - s + t.J) ∨ J5 t.T (e - s + t.J) = 0:=by omega
 have hC:(1 ≤ t.C ∧ t.C ≤ 2147483647) ∧ (1 ≤ t.T ∧ t.T ≤ 2147483647) ∧ (0 ≤ t.J ∧ t.J ≤ 2147483647):=by omega
 obtain ⟨hC,hT,hJ⟩:=hC
 obtain ⟨bm,bv,bb,b0,b2,b3,be⟩:=hb
 refine WO.loop (fun (n:Nat) fr h' => (1 ≤ n ∧ (n = 1 ∨ n ≤ J5 t.T (e - s + t.J))) ∧ SC m0 Hb v0 lo (A ++ (Id s k t n).map J2) h' ∧ h'[tb]? = some (.cells (Ar t) false) ∧ (∀ v,h'[m0 + 1]? = some (.cells [v] false) → tb < blk v) ∧ get fr 8 = .pointer (some ⟨m0 + 2,0,none⟩) ∧ get fr 13 = .pointer (some ⟨eb,0,none⟩) ∧ get fr 14 = .int .i64 k ∧ get fr 15 = .pointer (some ⟨tb,0,none⟩) ∧ get fr 16 = .bool true ∧ get fr 17 = .int .i64 (s - t.J + n * t.T)) (fun n => J5 t.T (e - s + t.J) - n) ?_ 1 ⟨⟨Nat.le_refl _,.inl rfl⟩,st,ht,hvt,g8,g13,g14,g15,g16,by rw [g17];simp⟩
 clear st ht hvt g8 g13 g14 g15 g16 g17
 rintro n fr hh ⟨hn,st,ht,hvt,g8,g13,g14,g15,g16,g17⟩
 have Hq:=Hid.mk hq
 clear hq
 unfold Ih
 have f:=r n
 obtain ⟨sl,z,sL,v,sv,sw,sx⟩:=st
 have c2:hh[m0 + 2]? = some (.cells [.func (.func Af) #[] #[.pointer (some ⟨m0 + 1,0,none⟩)]] false):=(z _ (by omega) (by omega) (by omega)).trans b2
 have ce:hh[eb]? = some (.cells [.int .i64 e] false):=(z _ bb.2.1 (by omega) bb.2.2).trans be
 have g:(A ++ (Id s k t n).map J2).length = A.length + n:=by simp [Id]
 have ae:(n:Int) * t.T ≤ e - s + t.J + t.T:=by
  have:=r (n - 1)
  rcases Nat.lt_or_ge (n - 1) (J5 t.T (e - s + t.J)) with h | h
  ·have h2:=this.1 h
   have e2:(n:Int) * t.T = ((n - 1:Nat):Int) * t.T + t.T:=by
    rw [show (n:Int) = ((n - 1:Nat):Int) + 1 by omega,Int.add_mul,Int.one_mul]
   omega
  ·have:n = 1:=by omega
   subst this;simp;omega
 have af:0 ≤ (n:Int) * t.T:=Int.mul_nonneg (by omega) (by omega)
 have a:((n + 1:Nat):Int) * t.T = (n:Int) * t.T + t.T:=by rw [Int.natCast_add,Int.natCast_one,Int.add_mul,Int.one_mul]
 have c:(Id s k t (n + 1)).map J2 = (Id s k t n).map J2 ++ [J2 ⟨k,s - t.J + n * t.T,s - t.J + n * t.T,t.C,[]⟩]:=by
  unfold Id
  rw [List.range_succ,List.map_append,List.map_append]
  simp [show n ≠ 0 by omega]
 have l:=ht
 unfold Ar at l
 by_cases a2:n < J5 t.T (e - s + t.J)
 ·have hx:=f.1 a2
  have d:=Aw9 hE (hh:=hh) (b:=m0 + 1) (m:=m0 + 4) (v:=v) (vc:=.slice none 0 0) (A:=A ++ (Id s k t n).map J2) sv sw (by omega) (by omega) (by omega) ⟨k,s - t.J + n * t.T,s - t.J + n * t.T,t.C,[]⟩ rfl rfl (W:=W) (hW _ (by omega) (by omega)) (fun _ => hW _ (by omega) (by omega))
  dsimp only at d
  have j:(decide ((A ++ (Id s k t n).map J2).length + 1 ≤ 4096)) = true:=decide_eq_true (by omega)
  rw [j] at d
  have Hs:=Hid.mk (AI a c)
  have HN:=Hid.mk r
  have a4:=Hid.mk d
  have a9:=Hid.mk (AI few (AI g j))
  have a0:=Hid.mk (AI z (AI sw hvt))
  clear r f a c d j few g z sw hvt a5
  generalize hxx:s - t.J + n * t.T = x at *
  have a7:=Hid.mk ht
  clear ht
  have ac:x < e:=by omega
  have a1:0 ≤ x ∧ x ≤ 4611686018427387904 + 8589934588:=by omega
  obtain ⟨a1,ad⟩:=a1
  (repeat' simp -dsimp (disch:=omega) only [↓EA,EB,Nat.reduceEqDiff,↓reduceIte,eq_self, *])
  refine WX.mono a4.out (fun b hb => hb) fun ag h2 a3 => ?_
  obtain ⟨rfl,v',q1,q2,q3,q4,q5⟩:=a3
  have a6:=Hid.mk (AI q4 q5)
  clear q4 q5
  have a8:h2[tb]? = some (.cells [.string t.name,.int .i64 t.C,.int .i64 t.T,.int .i64 t.D,.int .i64 t.J,.int .i64 t.Q,.int .i64 t.P] false):=by
   rw [a6.out.2 tb (GI.1 l).1 (by omega) (fun _ e2 => by have:=a0.out.2.2 v sv;omega)];exact l
  clear l
  (repeat' simp -dsimp (disch:=omega) only [↓EA,EB,Nat.reduceEqDiff,↓reduceIte,eq_self, *])
  obtain ⟨a,c⟩:=Hs.out
  obtain ⟨q4,q5⟩:=a6.out
  refine Next.mk (n + 1) ⟨⟨by omega,.inr (by omega)⟩,⟨by omega,fun y h1 h2 h3 => ?_,?_,v',q3,?_,.inr (by omega)⟩,a8,fun u hu => ?_,rfl,rfl,rfl,rfl,rfl,?_⟩ (by omega)
  ·rw [q5 y (by omega) h2 (fun _ => by rcases sx with h | h <;> omega)];exact a0.out.1 y h1 h2 h3
  ·rw [q5 _ (by omega) (by omega) (fun _ => by rcases sx with h | h <;> omega)];exact sL
  ·rw [c,← List.append_assoc];exact q4
  ·rw [q3] at hu
   cases hu
   have:=(GI.1 a7.out).1
   omega
  ·show Value.int .i64 (x + t.T) = _
   rw [a]
   congr 1;omega
 ·have hx:=fun h => a2 (f.2 h)
  have ab:¬ s - t.J + n * t.T < e:=by omega
  have o:SC m0 Hb v0 lo (A ++ (Id s k t n).map J2) hh:=⟨sl,z,sL,v,sv,sw,sx⟩
  have HN:=Hid.mk (AI r (AI f (AI hn (AI o hvt))))
  clear r f a c few g z sw hvt a5 hx o
  generalize hxx:s - t.J + n * t.T = x at *
  (repeat' simp -dsimp (disch:=omega) only [↓EA,EB,Nat.reduceEqDiff,↓reduceIte,eq_self, *])
  obtain ⟨r,f,hn,o,hvt⟩:=HN.out
  have aa:1 ≤ J5 t.T (e - s + t.J):=by
   have:=(r 0).2 (by simp;omega)
   omega
  have e1:n = J5 t.T (e - s + t.J):=by omega
  exact Hq.out _ hh rfl (by rw [← e1];exact o) hvt
end Go.L.Try
namespace Go.L.Try
open Go Go.L
variable {E:Env} {G:Nat}
theorem Awk {α : Type} {m sz:Nat} {enc:α → List Value} {hh h2 h3:Aa} {v v2:Value} {c:Nat} {l:List α} (hb:h2[c]? = some (.cells [v2] false)) (ho:OwnT m sz enc h2 v2 l) (hl:l ≠ []) (hf:hh.length ≤ blk v2) (hc:c < hh.length) (hold:hh[c]? = some (.cells [v] false)) (hv:v ≠ .slice none 0 0 → blk v < hh.length) (t:Tr hh h2 h3):h3 = h2:=by
 rcases t with rfl | ⟨rfl,a⟩
 ·rfl
 ·exfalso
  rcases a c hc with h4 | h4
  ·rw [hb,hold] at h4
   cases h4
   have:=hv fun e => hl (by rw [e] at ho;exact Axe ho)
   omega
  ·rw [hb] at h4
   have:=Aco ho hl h4
   omega
theorem Af2 (s:Int) (k:Nat) (t:Ac):Id s k t 1 = [⟨k,s - t.J,s,t.C,[]⟩]:=by
 unfold Id
 simp
theorem SC.rd {m0:Nat} {Hb hh:Aa} {v0:Value} {lo:LObj} {LV:List (NV Job)} (s:SC m0 Hb v0 lo LV hh) (hm:m0 + 4 ≤ Hb.length) (hv:m0 + 4 ≤ blk v0) {vl:Value} {l:List Ac} (hl:Rd 7 Ar Hb vl l) (hvl:vl ≠ .slice none 0 0 → blk vl < m0):Rd 7 Ar hh vl l :=
 hl.keep fun hn => s.old _ (by have:=hvl hn;omega) (by have:=hvl hn;omega) (by have:=hvl hn;omega)
theorem Akz (hE:As E) {m0 eb:Nat} {Hb:Aa} {vl v0:Value} {s e:Int} (hb:Ao6 m0 eb Hb vl s e v0) {l:List Ac} (hl:Rd 7 Ar Hb vl l) (hvl:vl ≠ .slice none 0 0 → blk vl < m0) {k:Nat} (hk:k < l.length) (hok:Gm (atI l (k:Int))) (hs:1 ≤ s ∧ s ≤ 4611686018427387904 ∧ (atI l (k:Int)).J < s) (he:e - s ≤ 2147483647 ∧ s < e)
  {A:List (NV Job)} (hA:A ≠ []) (few:A.length + J5 (atI l (k:Int)).T (e - s + (atI l (k:Int)).J) ≤ 4096) {frL:Fr} (f2:get frL 2 = .pointer (some ⟨m0,0,none⟩)) (f8:get frL 8 = .pointer (some ⟨m0 + 2,0,none⟩)) (f9:get frL 9 = .pointer (some ⟨m0 + 3,0,none⟩)) (f13:get frL 13 = .pointer (some ⟨eb,0,none⟩))
  {hh:Aa} (st:SC m0 Hb v0 (loC frL .ready none) A hh) :
  WX (fun b => m0 ≤ b) (callW E (.func (.yield Hb.length) #[] #[]) [.int .i64 k] hh) (fun v h' => v = .bool true ∧ SC m0 Hb v0 (loC frL .ready none) (A ++ (Id s k (atI l (k:Int)) (J5 (atI l (k:Int)).T (e - s + (atI l (k:Int)).J))).map J2) h'):=by
 generalize hlo:loC frL .ready none = lo at *
 have ah:=hb
 obtain ⟨bm,⟨bv,ag⟩,bb,b0,b2,b3,be⟩:=ah
 refine WX.mono (Ao7 hE.keep (r:={ state:=.ready,pending:=none,fr:=frL,sz:=132,params:=[86],assign:=Bm,body:=Bl }) (W:=fun b => m0 ≤ b ∧ b ≠ Hb.length) (Rr:=fun e' h3 => e' = .normal ∧ SC m0 Hb v0 lo (A ++ (Id s k (atI l (k:Int)) (J5 (atI l (k:Int)).T (e - s + (atI l (k:Int)).J))).map J2) h3) (st.bL.trans (congrArg some hlo.symm)) rfl rfl rfl rfl (fun b hb => hb.2) ?_) (fun b hb => by rcases hb with hb | hb;exact hb.1;omega) ?_
 ·dsimp only
  have al:=Hid.mk hlo
  rw [show (LObj.loop { state:=.ready,pending:=none,fr:=frL,sz:=132,params:=[86],assign:=Bm,body:=Bl }) = lo from hlo]
  generalize LObj.loop { state:=LoopState.busy,pending:=none,fr:=frL,sz:=132,params:=[86],assign:=Bm,body:=Bl } = lb
  clear hlo
  have f:hh[m0 + 1]? = some (.cells [_] false):=st.out.choose_spec.1
  have a7:=st.out.choose_spec.2
  generalize st.out.choose = vc at f a7
  obtain ⟨g,a4⟩:=a7
  have c:vc ≠ .slice none 0 0 → blk vc < hh.length:=fun hn => g.lt (g.ne hn)
  have s2:=st.setL bm bv lb
  have rl:=s2.rd bm ag hl hvl
  have a1:(hh.set Hb.length lb).length = hh.length:=List.length_set ..
  have ad:=Hid.mk (AI f (AI c a1))
  have ae:=st.len
  clear st f c a1 g a4
  unfold Bm
  (repeat' simp -dsimp (disch:=omega) only [↓EA,EB,Nat.reduceEqDiff,↓reduceIte,eq_self, *])
  obtain ⟨sl,so,sL,v,sv,sw,sx⟩:=s2
  generalize hh.set Hb.length lb = G1 at *
  obtain ⟨rg,ft⟩:=hok
  have z:Gm (atI l (k:Int)):=⟨rg,ft⟩
  simp only [Am,C9] at rg ft
  have hC:(1 ≤ (atI l (k:Int)).C ∧ (atI l (k:Int)).C ≤ 2147483647) ∧ (1 ≤ (atI l (k:Int)).T ∧ (atI l (k:Int)).T ≤ 2147483647) ∧ (0 ≤ (atI l (k:Int)).J ∧ (atI l (k:Int)).J ≤ 2147483647):=by omega
  obtain ⟨hC,hT,hJ⟩:=hC
  have ac:=Hid.mk z
  clear rg ft z
  have c0:G1[m0]? = some (.cells [vl] false):=(so _ (by omega) (by omega) (by omega)).trans b0
  have c2:G1[m0 + 2]? = some (.cells [.func (.func Af) #[] #[.pointer (some ⟨m0 + 1,0,none⟩)]] false):=(so _ (by omega) (by omega) (by omega)).trans b2
  have c3:G1[m0 + 3]? = some (.cells [.int .i64 s] false):=(so _ (by omega) (by omega) (by omega)).trans b3
  have an:(k:Int) < l.length:=by omega
  have ak:m0 ≤ G1.length:=by omega
  have af:G1.length ≠ Hb.length:=by omega
  have e2:∀ x,(G1 ++ x)[m0 + 2]? = some (.cells [.func (.func Af) #[] #[.pointer (some ⟨m0 + 1,0,none⟩)]] false):=fun x => by rw [GL (by omega)];exact c2
  have e3:∀ x,(G1 ++ x)[m0 + 3]? = some (.cells [.int .i64 s] false):=fun x => by rw [GL (by omega)];exact c3
  have a:=Aw9 hE (hh:=G1 ++ [.cells (Ar (atI l (k:Int))) false]) (b:=m0 + 1) (m:=m0 + 4) (v:=v) (vc:=.slice none 0 0) (A:=A) (by rw [GL (by omega)];exact sv) (sw.app _) (by omega) (by simp;omega) (by omega) ⟨k,s - (atI l (k:Int)).J,s,(atI l (k:Int)).C,[]⟩ rfl rfl (W:=fun b => m0 ≤ b ∧ b ≠ Hb.length) ⟨by omega,by omega⟩ (fun hn => by have:=sw.ge hn;exact ⟨by omega,by omega⟩)
  dsimp only at a
  have a8:1 ≤ J5 (atI l (k:Int)).T (e - s + (atI l (k:Int)).J):=by
   have:=(Yp (T:=(atI l (k:Int)).T) (p:=e - s + (atI l (k:Int)).J) (by omega) 0).2 (by simp;omega)
   omega
  have j:(decide (A.length + 1 ≤ 4096)) = true:=decide_eq_true (by omega)
  rw [j] at a
  have a6:=Hid.mk a
  have ab:=Hid.mk (AI so (AI sL (AI sw (AI sv sx))))
  have a2:=Hid.mk (AI few (AI a8 j))
  have ai:=Hid.mk b0
  clear a j few a8 so sL sw sv sx b0 b2 b3 be
  unfold Bl
  (repeat' simp -dsimp (disch:=omega) only [↓EA,EB,Nat.reduceEqDiff,Nat.reduceAdd,↓reduceIte,Ab,eq_self, *,rl.ixs,rl.lda,Ar])
  refine ⟨af,?_⟩
  change WX _ (callW _ _ _ (G1 ++ [LObj.cells (Ar (atI l (k:Int))) false])) _
  refine WX.mono a6.out (fun b hb => hb) fun am h2 a5 => ?_
  obtain ⟨rfl,v',q1,q2,q3,q4,q5⟩:=a5
  rw [LA,List.length_singleton] at q1 q2
  obtain ⟨so,sL,sw,sv,sx⟩:=ab.out
  have n:∀ y,y < G1.length → y ≠ m0 + 1 → y ≠ blk v → h2[y]? = G1[y]?:=fun y hy h1 h3 => by
   rw [q5 y (by simp;omega) h1 (fun _ => h3),GL hy]
  have a0:h2[G1.length]? = some (.cells (Ar (atI l (k:Int))) false):=by
   rw [q5 _ (by simp) (by omega) (fun hn => by have:=sw.lt hn;omega),Bh];rfl
  have d2:h2[m0 + 2]? = some (.cells [.func (.func Af) #[] #[.pointer (some ⟨m0 + 1,0,none⟩)]] false):=(n _ (by omega) (by omega) (by omega)).trans c2
  have d3:h2[m0 + 3]? = some (.cells [.int .i64 s] false):=(n _ (by omega) (by omega) (by omega)).trans c3
  have a9:SC m0 Hb v0 lb (A ++ (Id s k (atI l (k:Int)) 1).map J2) h2:=by
   refine ⟨by omega,fun y h1 h3 h4 => ?_,(n _ (by omega) (by omega) (by omega)).trans sL,v',q3,by rw [Af2];exact q4,.inr (by omega)⟩
   rw [n y (by omega) h3 (by omega)]
   exact so y h1 h3 h4
  have aa:∀ u,h2[m0 + 1]? = some (.cells [u] false) → G1.length < blk u:=fun u hu => by
   rw [q3] at hu;cases hu;omega
  have Ht:=Hid.mk (AI a0 (AI a9 aa))
  unfold Ar at a0
  clear q1 q3 q4 q5 n c0 c2 c3 e2 e3 so sL sw sv sx a9 aa
  (repeat' simp -dsimp (disch:=omega) only [↓EA,EB,Nat.reduceEqDiff,↓reduceIte,eq_self, *])
  refine Ax5 hE hb (fun b h1 h2 => ⟨h1,h2⟩) (t:=atI l (k:Int)) ac.out hs he hA a2.out.1 (tb:=G1.length) (by omega) Ht.out.2.1 Ht.out.1 Ht.out.2.2 rfl rfl rfl rfl rfl rfl fun ao h' ap o d => ?_
  have S3:=Hid.mk (AI o d)
  clear o d a0 d2 d3 rl
  (repeat' simp -dsimp (disch:=omega) only [↓EA,EB,↓reduceIte,eq_self, *])
  intro h3 t3
  obtain ⟨o,d⟩:=S3.out
  obtain ⟨f,c,a1⟩:=ad.out
  have s4:=o.setL bm bv lo
  obtain ⟨w,w1,w2,w3⟩:=s4.out
  have hw:G1.length < blk w:=d w (by rw [← w1,An (by omega)])
  have e:=Awk w1 w2 (by simp [hA]) (by omega) (by omega) f c t3
  rw [e];exact s4
 ·rintro v h' ⟨e',aj,⟨rfl,a3⟩,rfl,rfl⟩
  exact ⟨rfl,a3⟩
end Go.L.Try
namespace Go.L.Try
open Go Go.L
variable {E:Env} {G:Nat}
def Lz (l:List Ac) (i:Int) (a:List Job) (m:Nat):List Job:=a ++ Id (startP l i) m (atI l (m:Int)) (Jq l i m)
theorem Awg (l:List Ac) (i:Int):accL (Lz l i) [] (placesQ (Bu l i) l) (placesQ (Bu l i) l).length = upC l i l.length:=by
 rw [Abi]
 exact P0 (upC l i) rfl (fun k => by show (if _ then _ else _) = _;simp only [Bu,decide_eq_true_eq];rfl) _
theorem Adc {l:List Ac} {i:Int}:∀ (es:List Nat) (a:List Job),a.length ≤ (es.foldl (Lz l i) a).length
 | [],a => Nat.le_refl _
 | m :: r,a => by
  have:=Adc (l:=l) (i:=i) r (Lz l i a m)
  show _ ≤ (r.foldl (Lz l i) (Lz l i a m)).length
  unfold Lz at this ⊢
  rw [LA] at this
  omega
theorem Av6 {l:List Ac} {i:Int} (es:List Nat) (a:List Job) (k:Nat):(accL (Lz l i) a es k).length ≤ (accL (Lz l i) a es es.length).length:=by
 unfold accL
 rw [List.take_length]
 have e:es = es.take k ++ es.drop k:=(List.take_append_drop k es).symm
 have:=Adc (l:=l) (i:=i) (es.drop k) ((es.take k).foldl (Lz l i) a)
 rw [← List.foldl_append,← e] at this
 exact this
theorem SC.trL {m0:Nat} {Hb hh:Aa} {v0:Value} {lo:LObj} {LV:List (NV Job)} (s:SC m0 Hb v0 lo LV hh) (hm:m0 + 4 ≤ Hb.length) (hv:blk v0 < Hb.length) (hne:LV ≠ []) {H h3:Aa} (hH:H.length = Hb.length + 1) (h0:H[m0 + 1]? = some (.cells [v0] false)) (t:Tr H hh h3):SC m0 Hb v0 lo LV h3:=by
 obtain ⟨o,a⟩:=s.tr hm hv hne (H:=H) (by omega) (by omega) (.inr trivial) h0 t
 have c:=(a Hb.length (by omega)).trans s.bL
 exact ⟨(GI.1 c).1,fun y d h2 h3 => (a y (by omega)).trans (s.old y d h2 h3),c,o⟩
theorem Avd (hE:As E) (hZ:G6 E G) {h:Aa} (ht:Tab G h) {Hb:Aa} {vl v0:Value} {l:List Ac} {i:Nat} {eb bx:Nat} (hv:F7 l) (hi:i < l.length) (hl:Rd 7 Ar h vl l) (hvl:vl ≠ .slice none 0 0 → blk vl < h.length) (hp:Pre h Hb)
  (hb:Ao6 h.length eb Hb vl (startP l i) (startP l i + (atI l (i:Int)).D - (atI l (i:Int)).J) v0) (hbx:Hb[bx]? = some (.cells (Fx (thoseW (Bu l i) l l.length)) false)) (hbx2:h.length + 4 ≤ bx) (hbx3:bx ≠ blk v0)
  {A:List (NV Job)} (hA:A ≠ []) (hv0:Hb[h.length + 1]? = some (.cells [v0] false)) (hO:OwnT (h.length + 4) 5 (Du hdJ) Hb v0 A) (few:A.length + (upC l i l.length).length ≤ 4096)
  {W:Nat → Prop} (hW:∀ b,h.length ≤ b → W b) {fr:Fr} (f2:get fr 2 = .pointer (some ⟨h.length,0,none⟩)) (f8:get fr 8 = .pointer (some ⟨h.length + 2,0,none⟩)) (f9:get fr 9 = .pointer (some ⟨h.length + 3,0,none⟩)) (f13:get fr 13 = .pointer (some ⟨eb,0,none⟩)) (f85:get fr 85 = .func (.func Bi) #[] #[.pointer (some ⟨bx,0,none⟩)]) {Q:Ex → Fr → Aa → Prop}
  (hq:∀ h',Pre h h' → h.length + 4 ≤ h'.length → (∀ y,h.length + 4 ≤ y → y < Hb.length → y ≠ blk v0 → h'[y]? = Hb[y]?) → (∃ v,h'[h.length + 1]? = some (.cells [v] false) ∧ OwnT (h.length + 4) 5 (Du hdJ) h' v (A ++ (upC l i l.length).map J2) ∧ (blk v = blk v0 ∨ Hb.length < blk v)) → Q .normal fr h') :
  WO W (code (callW E) iterW 132 (.rng (.t 85) [86] Bm Bl) fr Hb) Q:=by
 have ae:=hb
 obtain ⟨bm,⟨bv,ah⟩,bb,b0,b2,b3,be⟩:=ae
 obtain ⟨_,a2,s⟩:=By hv
 have ab:=s _ (Al (l:=l) (i:=(i:Int)) (by omega) (by omega))
 obtain ⟨a9,ac⟩:=ab
 simp only [Am,C9] at a9 ac
 have a6:=Fv (i:=(i:Int)) s ⟨by omega,by omega⟩ l.length (Nat.le_refl _)
 have af:startP l i = 1 + mostJ l i l.length:=rfl
 have a3:=(GI.1 hbx).1
 have aa:=hl.pre hp
 refine Ax6 hE.keep (W':=fun b => h.length ≤ b) (show ev (get fr) (.t 85) = _ from f85) (fun x hx _ => hW x hx) ?_
 have ad:LObj.loop { state:=.ready,pending:=none,fr,sz:=132,params:=[86],assign:=Bm,body:=Bl } = loC fr .ready none:=rfl
 rw [ad]
 have ev:=P5 (Bu l i) a2
 have a4:(Hb ++ [loC fr .ready none])[h.length + 1]? = some (.cells [v0] false):=by rw [GL (by omega)];exact hv0
 have g:=Awg l (i:Int)
 refine WX.mono (Aq7 hE hZ (Fz (Bu l i) l l.length) bx (Hb ++ [loC fr .ready none]) Hb.length (fun b => h.length ≤ b)
  (fun k hh => SC h.length Hb v0 (loC fr .ready none) (A ++ (accL (Lz l i) [] (placesQ (Bu l i) l) k).map J2) hh) (fun _ => False) (fun k hh z => ⟨(z.old _ a3 (by omega) hbx3).trans hbx,ht.pre fun b o d => ?_⟩) ?_ (fun k hh u z t3 => z.trL bm bv (by simp [hA]) (by simp) a4 t3) (fun _ _ hf _ => hf.elim) ?_) (fun b hb => hb) ?_
 ·have a7:=(GI.1 d).1
  rw [z.old b (by omega) (by omega) (by omega)];exact hp b o d
 ·refine ⟨by simp,fun y h1 h2 u => GL h1,by rw [Bh];rfl,v0,a4,?_,.inl rfl⟩
  have:A ++ (accL (Lz l i) [] (placesQ (Bu l i) l) 0).map J2 = A:=by simp [accL]
  rw [this];exact hO.app _
 ·intro k hh a ha z
  rw [ev,List.getElem?_map] at ha
  obtain ⟨m,hm,rfl⟩:=OM.1 ha
  have a1:=Ud (List.mem_of_getElem? hm)
  have a8:(atI l (m:Int)).P < (atI l (i:Int)).P:=by
   have:=(List.mem_filter.1 (List.mem_of_getElem? hm)).2
   simpa [Bu] using this
  have n:=Tg (f:=Lz l i) (a0:=[]) hm
  have ag:=a6.2 m a1 a8
  have r:=Av6 (l:=l) (i:=i) (placesQ (Bu l i) l) [] (k + 1)
  rw [g,n] at r
  have p:Jq l i m = J5 (atI l (m:Int)).T (startP l i + (atI l (i:Int)).D - (atI l (i:Int)).J - startP l i + (atI l (m:Int)).J):=by
   unfold Jq
   congr 1;omega
  have a5:(accL (Lz l i) [] (placesQ (Bu l i) l) k).length + Jq l i m ≤ (upC l i l.length).length:=by
   have e3:∀ X:List Job,(Lz l (i:Int) X m).length = X.length + Jq l i m:=fun X => by
    show (X ++ Id (startP l i) m (atI l (m:Int)) (Jq l i m)).length = _
    rw [LA]
    simp [Id]
   rw [e3] at r
   exact r
  rw [p] at a5
  refine WX.mono (Akz hE hb aa (fun hn => by have:=hvl hn;omega) a1 (s _ (Al (l:=l) (i:=(m:Int)) (by omega) (by omega))) ⟨by omega,by omega,by omega⟩ ⟨by omega,by omega⟩ (A:=A ++ (accL (Lz l i) [] (placesQ (Bu l i) l) k).map J2) (by simp [hA]) (by rw [LA,List.length_map];omega) f2 f8 f9 f13 z) (fun b hb => hb) ?_
  rintro v h' ⟨rfl,q⟩
  refine .inl ⟨rfl,?_⟩
  rw [n,show ∀ X:List Job,Lz l (i:Int) X m = X ++ Id (startP l i) m (atI l (m:Int)) (Jq l i m) from fun _ => rfl,p,List.map_append,← List.append_assoc]
  exact q
 ·rintro v h' (j | hf)
  ·rw [ev,List.length_map,g] at j
   refine ⟨_,j.bL,(fun e => by cases e),fun u t3 => ?_⟩
   have s2:=j.setL bm bv .dead
   obtain ⟨o,hk⟩:=s2.tr bm bv (by simp [hA]) (H:=Hb) (Nat.le_refl _) (by omega) (.inr trivial) hv0 t3
   obtain ⟨v,o1,o2,o3⟩:=o
   have c:∀ y,y < Hb.length → y ≠ h.length + 1 → y ≠ blk v0 → u[y]? = Hb[y]?:=fun y h1 h2 h4 => (hk y h1).trans (s2.old y h1 h2 h4)
   have c2:u[h.length + 2]? = Hb[h.length + 2]?:=c _ (by omega) (by omega) (by omega)
   rw [b2] at c2
   have c3:u[h.length + 3]? = Hb[h.length + 3]?:=c _ (by omega) (by omega) (by omega)
   rw [b3] at c3
   refine hq u (fun b o d => ?_) (by have:=(GI.1 c3).1;omega) (fun y h1 h2 h4 => c y h2 (by omega) h4) ⟨v,o1,o2,o3⟩
   have a7:=(GI.1 d).1
   rw [c b (by omega) (by omega) (by omega)];exact hp b o d
  ·exact hf.elim
end Go.L.Try
namespace Go.L.Try
open Go Go.L
variable {E:Env} {G:Nat}
def CritR (m:Nat) (jobs:List Job) (a:Int) (h:Aa) (v:Value):Prop:=∃ vs,v = .tuple vs.toArray ∧ Each h [fun h v => RdNO m 5 hdJ Job.cuts h v jobs,fun _ v => v = .int .i64 a,fun _ v => v = .int .i64 0] vs
theorem CritR.movable {m:Nat} (jobs:List Job) (a:Int):Movable m (CritR m jobs a) 2 :=
 Movable.tuples (k:=1) (fun R hR => by
  simp only [List.mem_cons,List.not_mem_nil,or_false] at hR
  rcases hR with rfl | rfl | rfl
  ·exact RdNO.movable (hd:=hdJ) (cs:=Job.cuts) (sz:=5) (fun _ => rfl) (fun _ => rfl) _
  ·exact El rfl
  ·exact El rfl) (by simp)
structure A1e (m:Nat) (H:Aa) (v:Value) (LV:List (NV Job)) (jobs:List Job):Prop where
 own:OwnT m 5 (Du hdJ) H v LV
 is:LV.map (·.j) = jobs
 cut:∀ p ∈ LV,Rd 1 D7 H p.v p.j.cuts ∧ (p.v ≠ .slice none 0 0 → m ≤ blk p.v ∧ blk p.v < H.length ∧ blk p.v ≠ blk v)
def Gl:Nat → C → C
 | 0,c => c
 | n + 1,.seq _ b => Gl n b
 | _ + 1,c => c
theorem Ark {l:List Ac} {i:Int} {x:Job} {n:Nat} (h:x ∈ upC l i n):x.cuts = []:=by
 obtain ⟨a,k,_,_,_,rfl⟩:=Pj h
 rfl
theorem Aqq (hE:As E) (hZ:G6 E G) {h:Aa} (ht:Tab G h) {vl v0:Value} {l:List Ac} (hl:Rd 7 Ar h vl l) (hs:∀ t ∈ l,t.name.size < 1152921504606846976) {i:Nat} (hv:F7 l) (hi:i < l.length) (few:(Bg l i).length ≤ 4096)
  {H:Aa} (hp:Pre h H) (hm:h.length + 4 ≤ H.length) (b0:H[h.length]? = some (.cells [vl] false)) (b1:H[h.length + 1]? = some (.cells [v0] false)) (b2:H[h.length + 2]? = some (.cells [.func (.func Af) #[] #[.pointer (some ⟨h.length + 1,0,none⟩)]] false)) (b3:H[h.length + 3]? = some (.cells [.int .i64 (startP l i)] false))
  {LV:List (NV Job)} (hO:A1e (h.length + 4) H v0 LV (A9 l i)) {fr:Fr} (g1:get fr 1 = .int .i64 i) (g2:get fr 2 = .pointer (some ⟨h.length,0,none⟩)) (g7:get fr 7 = .pointer (some ⟨h.length + 1,0,none⟩)) (g8:get fr 8 = .pointer (some ⟨h.length + 2,0,none⟩)) (g9:get fr 9 = .pointer (some ⟨h.length + 3,0,none⟩)) :
  WO (fun b => h.length ≤ b) (code (callW E) iterW 132 (Gl 7 c_scene_Critical.body) fr H) (Res [(.t 4),(.t 5),(.t 6)] fun v h' => (∃ ys,h' = h ++ ys) ∧ CritR h.length (Bg l i) (A9 l i).length h' v):=by
 have hb:isP l (i:Int) = true:=Ace hv (by omega) (by omega)
 obtain ⟨_,a5,a9⟩:=By hv
 have aq:=a9 _ (Al (l:=l) (i:=(i:Int)) (by omega) (by omega))
 obtain ⟨ae,a8⟩:=aq
 simp only [Am,C9] at ae a8
 have ah:=(Fv (i:=(i:Int)) a9 ⟨by omega,by omega⟩ l.length (Nat.le_refl _)).1
 have a7:startP l i = 1 + mostJ l i l.length:=rfl
 have hC:(1 ≤ (atI l (i:Int)).C ∧ (atI l (i:Int)).C ≤ 2147483647) ∧ (1 ≤ (atI l (i:Int)).D ∧ (atI l (i:Int)).D ≤ 2147483647) ∧ (0 ≤ (atI l (i:Int)).J ∧ (atI l (i:Int)).J ≤ 2147483647) ∧ (atI l (i:Int)).J < (atI l (i:Int)).D ∧ (atI l (i:Int)).J < startP l i ∧ startP l i ≤ 2147483648:=by omega
 obtain ⟨hC,hD,hJ,b4,b6,b5⟩:=hC
 clear ae a8 ah a7
 have g:LV.length + 1 + (upC l i l.length).length ≤ 4096:=by
  have e1:LV.length = (A9 l i).length:=by rw [← hO.is,List.length_map]
  unfold Bg at few
  rw [LA,List.length_cons] at few
  omega
 have z:LV.length = (A9 l i).length:=by rw [← hO.is,List.length_map]
 have ap:blk vl < h.length:=by
  refine hl.lt' fun e => ?_
  have:=hl.len
  rw [e] at this
  simp [Ly] at this
  omega
 have ak:h.length ≤ H.length:=hp.le
 have ok:=Fz (Bu l (i:Int)) l l.length
 have a1:(decide (LV.length + 1 ≤ 4096)) = true:=decide_eq_true (by omega)
 have rl:=hl.pre hp
 have az:(i:Int) < l.length:=by omega
 have f:=Aw9 hE (hh:=H) (b:=h.length + 1) (m:=h.length + 4) (v:=v0) (vc:=.slice none 0 0) (A:=LV) b1 hO.own (by omega) hm (by omega) (Cf l i) rfl rfl (W:=fun b => h.length ≤ b) (by show h.length ≤ h.length + 1;omega) (fun d => by have:=hO.own.ge d;show h.length ≤ _;omega)
 rw [a1] at f
 unfold Cf at f
 dsimp only at f
 have aa:=Hid.mk f
 have av:=Hid.mk a1
 have HO:=Hid.mk hO
 have rO:=hO.own.rd
 have oO:=rO.one
 have cO:=rO.cv
 have HF:=Hid.mk (AI few (AI g (AI z b1)))
 clear f a1 hO few g z
 unfold c_scene_Critical
 simp only [Gl]
 (repeat' simp -dsimp (disch:=omega) only [↓EA,EB,Nat.reduceEqDiff,↓reduceIte,eq_self, *,rl.ixs,rl.ld,Ar,rO.len])
 refine WX.mono aa.out (fun b hb => hb) fun b8 h2 ac => ?_
 obtain ⟨rfl,v',q1,q2,q3,q4,q5⟩:=ac
 have hO:=HO.out
 have a6:LV ≠ [] → h.length + 4 ≤ blk v0 ∧ blk v0 < H.length:=fun d => ⟨hO.own.ge d,hO.own.lt d⟩
 have k2:∀ y,y < h.length + 4 → y ≠ h.length + 1 → h2[y]? = H[y]?:=fun y h1 h3 => q5 y (by omega) h3 (fun d => by have:=a6 d;omega)
 have d0:=(k2 _ (by omega) (by omega)).trans b0
 have d2:=(k2 _ (by omega) (by omega)).trans b2
 have d3:=(k2 _ (by omega) (by omega)).trans b3
 have a2:Pre h h2:=fun b o ab => by
  have b7:=(GI.1 ab).1
  rw [k2 b (by omega) (by omega)];exact hp b o ab
 have c:A1e (h.length + 4) h2 v' (LV ++ [⟨Cf l i,.slice none 0 0⟩]) (A9 l i ++ [Cf l i]):=by
  refine ⟨q4,by rw [List.map_append,hO.is];rfl,fun p hp3 => ?_⟩
  rcases List.mem_append.1 hp3 with hp3 | hp3
  ·obtain ⟨c1,c2⟩:=hO.cut p hp3
   refine ⟨c1.keep fun d => ?_,fun d => ?_⟩
   ·have:=c2 d
    exact q5 _ this.2.1 (by omega) fun _ => this.2.2
   ·have:=c2 d
    exact ⟨this.1,by omega,by omega⟩
  ·rw [List.mem_singleton.1 hp3]
   exact ⟨Rd.of_nil,fun d => absurd rfl d⟩
 have al:=Hid.mk (AI c (AI q1 q3))
 have au:=a2.le
 have r:=hl.pre a2
 have q:=fun x => Anw hE (r.app x) (i:=(i:Int)) ⟨by omega,by omega⟩ a5
 have a3:∀ x,(h2 ++ x)[h.length]? = some (.cells [vl] false):=fun x => by rw [GL (by omega)];exact d0
 have af:∀ x,(h2 ++ x)[h.length + 3]? = some (.cells [.int .i64 (startP l i)] false):=fun x => by rw [GL (by omega)];exact d3
 have am:(room h2 1)[h.length]? = some (.cells [vl] false):=a3 _
 have aj:(room h2 1)[h.length + 3]? = some (.cells [.int .i64 (startP l i)] false):=af _
 have ax:h.length + 4 ≤ h2.length:=by omega
 have D2:=Hid.mk d2
 clear q1 q2 q3 q4 q5 hO c k2 a6 b0 b1 b2 b3 rl hm hp ak d2 rO oO cO
 (repeat' simp -dsimp (disch:=omega) only [↓EA,EB,Nat.reduceEqDiff,↓reduceIte,eq_self, *])
 refine ⟨by simp [low];omega,?_⟩
 (repeat' simp -dsimp (disch:=omega) only [↓EA,EB,Nat.reduceEqDiff,↓reduceIte,eq_self, *])
 refine ⟨by simp [low];omega,?_⟩
 (repeat' simp -dsimp (disch:=omega) only [↓EA,EB,Nat.reduceEqDiff,↓reduceIte,eq_self, *,r.ixs])
 refine ⟨by simp [low];omega,?_⟩
 (repeat' simp -dsimp (disch:=omega) only [↓EA,EB,Nat.reduceEqDiff,↓reduceIte,eq_self, *,r.ldx,Ar])
 refine ⟨by simp [low];omega,?_⟩
 (repeat' simp -dsimp (disch:=omega) only [↓EA,EB,Nat.reduceEqDiff,↓reduceIte,eq_self, *,r.ixs])
 refine ⟨by simp [low];omega,?_⟩
 (repeat' simp -dsimp (disch:=omega) only [↓EA,EB,Nat.reduceEqDiff,↓reduceIte,Ab,eq_self, *,r.ldx,Ar])
 refine Gi (A1a hE _ ok) fun v ys hr ad => ?_
 obtain ⟨bx,rfl,ai,n⟩:=hr
 rw [LA,List.length_singleton] at ai
 have ay:=(GI.1 n).1
 obtain ⟨c,b9,a0⟩:=al.out
 have aw:=(c.own.lt (by simp))
 have a4:=(c.own.ge (by simp))
 have a:∀ y,y < h2.length → ((h2 ++ [LObj.cells [Value.int IntKind.i64 (startP l ↑i + (atI l ↑i).D - (atI l ↑i).J)] false]) ++ ys)[y]? = h2[y]?:=fun y hy => by rw [List.append_assoc,GL hy]
 have ag:((h2 ++ [LObj.cells [Value.int IntKind.i64 (startP l ↑i + (atI l ↑i).D - (atI l ↑i).J)] false]) ++ ys)[h2.length]? = some (.cells [Value.int IntKind.i64 (startP l ↑i + (atI l ↑i).D - (atI l ↑i).J)] false):=by rw [List.append_assoc,Bh];rfl
 have ar:h2.length + 1 ≤ ((h2 ++ [LObj.cells [Value.int IntKind.i64 (startP l ↑i + (atI l ↑i).D - (atI l ↑i).J)] false]) ++ ys).length:=by simp
 have hp3:Pre h ((h2 ++ [LObj.cells [Value.int IntKind.i64 (startP l ↑i + (atI l ↑i).D - (atI l ↑i).J)] false]) ++ ys):=(a2.app' _).app' _
 have hB:Ao6 h.length h2.length ((h2 ++ [LObj.cells [Value.int IntKind.i64 (startP l ↑i + (atI l ↑i).D - (atI l ↑i).J)] false]) ++ ys) vl (startP l i) (startP l i + (atI l (i:Int)).D - (atI l (i:Int)).J) v' :=
  ⟨by omega,⟨by omega,a4⟩,⟨by omega,by omega,by omega⟩,(a _ (by omega)).trans d0,(a _ (by omega)).trans D2.out,(a _ (by omega)).trans d3,ag⟩
 have u:=Hid.mk (AI hB (AI hp3 (AI n (AI a (AI c a0)))))
 clear hB hp3 n ag c a0 q d0 d3 a3 af am aj r a ad
 generalize (h2 ++ [LObj.cells [Value.int IntKind.i64 (startP l ↑i + (atI l ↑i).D - (atI l ↑i).J)] false]) ++ ys = H3 at *
 (repeat' simp -dsimp (disch:=omega) only [↓EA,EB,Nat.reduceEqDiff,↓reduceIte,eq_self, *])
 obtain ⟨hB,hp3,n,a,c,a0⟩:=u.out
 obtain ⟨few,g,z,_⟩:=HF.out
 refine Avd hE hZ ht hv hi hl (fun _ => ap) hp3 hB n (by omega) (by omega) (A:=LV ++ [⟨Cf l i,.slice none 0 0⟩]) (by simp) ((a _ (by omega)).trans a0) (c.own.keep fun _ => a _ (by omega)) (by rw [LA,List.length_singleton];omega) (fun b hb => hb) rfl rfl rfl rfl rfl fun h4 p4 l4 k4 o4 => ?_
 obtain ⟨w,w1,w2,w3⟩:=o4
 have ow:=w2.rd.one
 have cw:=w2.rd.cv
 have ao:=w2.rd.len
 have s:(LV ++ [(⟨Cf l i,.slice none 0 0⟩:NV Job)] ++ (upC l i l.length).map J2).length = (Bg l i).length:=by
  unfold Bg
  simp only [LA,List.length_map,List.length_cons,List.length_nil]
  omega
 rw [s] at ao
 have as:¬ (4096:Int) < ((Bg l i).length:Int):=by omega
 have W4:=Hid.mk (AI w2 (AI w3 (AI k4 (AI c (AI a p4)))))
 clear w2 w3 k4 c a hB n a0 hp3 u s g
 (repeat' simp -dsimp (disch:=omega) only [↓EA,EB,Nat.reduceEqDiff,↓reduceIte,eq_self, *])
 obtain ⟨w2,w3,k4,c,a,p4⟩:=W4.out
 refine ⟨p4.ex,_,rfl,.cons ⟨LV ++ [⟨Cf l i,.slice none 0 0⟩] ++ (upC l i l.length).map J2,?_,(w2.less (by omega)).rdO,fun p an => ?_⟩ (.cons rfl (.cons rfl .nil))⟩
 ·rw [List.map_append,c.is,List.map_map]
  unfold Bg
  rw [List.append_assoc]
  congr 1
  show [Cf l i] ++ (upC l i l.length).map id = _
  rw [List.map_id];rfl
 ·rcases List.mem_append.1 an with h6 | h6
  ·obtain ⟨c1,c2⟩:=c.cut p h6
   refine ⟨c1.keep fun d => ?_,fun d => ?_⟩
   ·obtain ⟨e1,e2,e3⟩:=c2 d
    rw [k4 _ e1 (by omega) e3];exact a _ e2
   ·obtain ⟨e1,e2,e3⟩:=c2 d
    omega
  ·obtain ⟨j,hj,rfl⟩:=List.mem_map.1 h6
   refine ⟨?_,fun d => absurd rfl d⟩
   rw [show (J2 j).j.cuts = [] from Ark hj]
   exact Rd.of_nil
end Go.L.Try
namespace Go.L.Try
open Go Go.L
variable {E:Env} {G:Nat}
theorem Aqn (hE:As E) (hZ:G6 E G) {h:Aa} (ht:Tab G h) {vl:Value} {l:List Ac} (hl:Rd 7 Ar h vl l) (hs:∀ t ∈ l,t.name.size < 1152921504606846976) {i:Nat} (hv:F7 l) (hi:i < l.length) (few:(Bg l i).length ≤ 4096) :
  ∃ v ys,callW E (.func (.func Dr) #[] #[]) [vl,.int .i64 i] h = some (v,h ++ ys,[]) ∧ CritR h.length (Bg l i) (A9 l i).length (h ++ ys) v:=by
 refine Lk hE.Rk rfl (CritR.movable _ _) (by simp) ?_
 have j:isP l (i:Int) = true:=Ace hv (by omega) (by omega)
 obtain ⟨_,a5,f⟩:=By hv
 have q1:=fun x => Yq hE (hl.app x) hs (i:Int)
 simp only [j] at q1
 have q2:=fun x => Azx hE hZ (ht.app x) (hl.app x) hs j
 have q3:=fun x => Avs hE hZ (ht.app x) (hl.app x) hs j
 have a3:=(Fv (i:=(i:Int)) f ⟨by omega,by omega⟩ l.length (Nat.le_refl _)).1
 have a4:=f _ (Al (l:=l) (i:=(i:Int)) (by omega) (by omega))
 obtain ⟨a0,a2⟩:=a4
 simp only [Am,C9] at a0 a2
 have a1:startP l i = 1 + mostJ l i l.length:=rfl
 have s:1 ≤ startP l i ∧ startP l i ≤ 2147483648:=by omega
 obtain ⟨s,a8⟩:=s
 have n:=(V6 (i:=(i:Int)) f l.length (Nat.le_refl _)).2
 have c:A9 l i = if (blkN l i l.length).2 = true then [⟨(blkN l i l.length).1,startP l i - 1,startP l i - 1,(atI l (blkN l i l.length).1).Q,[(atI l (blkN l i l.length).1).Q]⟩] else []:=rfl
 have hQ:(blkN l i l.length).2 = true → (1 ≤ (atI l (blkN l i l.length).1).Q ∧ (atI l (blkN l i l.length).1).Q ≤ 2147483647):=fun h2 => by
  have:=n h2
  have h3:=(f _ (Al (l:=l) (i:=(blkN l i l.length).1) this.1.1 (by omega))).1
  simp only [Am] at h3
  omega
 simp only [Ai]
 generalize hR:(C.seq (C.reg [1,2,7,8,9,12] _) _) = R
 have z:R = Gl 7 c_scene_Critical.body:=by rw [← hR];rfl
 have HR:=Hid.mk z
 have d:=Hid.mk (fun {H v0 LV fr} hp hm b0 b1 b2 b3 hO g1 g2 g7 g8 g9 => Aqq (H:=H) (v0:=v0) (LV:=LV) (fr:=fr) hE hZ ht hl hs hv hi few hp hm b0 b1 b2 b3 hO g1 g2 g7 g8 g9)
 have aa:=hl.cv
 have ae:=hl.one
 have af:blk vl < h.length:=by
  refine hl.lt' fun e => ?_
  have:=hl.len
  rw [e] at this
  simp [Ly] at this
  omega
 clear hR z a3 a0 a2 a1 f few j
 generalize blkN l i l.length = bk at *
 obtain ⟨a,g⟩:=bk
 dsimp only at *
 cases g
 ·rw [if_neg (by decide)] at c
  have r:=Hid.mk c
  clear c hQ n
  (repeat' simp -dsimp (disch:=omega) only [↓EA,EB,Nat.reduceEqDiff,Nat.reduceAdd,↓reduceIte,reduceCtorEq,Ab,eq_self, *])
  rw [HR.out]
  refine d.out (v0:=.slice none 0 0) (LV:=[]) (Pre.app h _) (by simp) (by rw [Bh];rfl) (by rw [Jr];rfl) (by rw [Jr];rfl) (by rw [Jr];rfl) ⟨OwnT.nil,by rw [r.out];rfl,by simp⟩ rfl rfl rfl rfl rfl
 ·rw [if_pos rfl] at c
  obtain ⟨ac,ad⟩:=hQ rfl
  obtain ⟨a7,a9⟩:=(n rfl).1
  have r:=Hid.mk c
  clear c hQ n
  have rl:=fun x => hl.app x
  have a6:=hl.app [LObj.cells [vl] false,LObj.cells [.slice none 0 0] false,LObj.cells [.func (.func Af) #[] #[.pointer (some ⟨h.length + 1,0,none⟩)]] false,LObj.cells [.int .i64 (startP l i)] false,LObj.dead]
  (repeat' simp -dsimp (disch:=omega) only [↓EA,EB,Nat.reduceEqDiff,Nat.reduceAdd,↓reduceIte,reduceCtorEq,Ab,eq_self, *])
  refine ⟨by first | (simp [low];done) | (simp [low];omega),?_⟩
  (repeat' simp -dsimp (disch:=omega) only [↓EA,EB,Nat.reduceEqDiff,Nat.reduceAdd,↓reduceIte,eq_self, *])
  refine ⟨by first | (simp [low];done) | (simp [low];omega),?_⟩
  (repeat' simp -dsimp (disch:=omega) only [↓EA,EB,Nat.reduceEqDiff,Nat.reduceAdd,↓reduceIte,eq_self, *])
  refine ⟨by first | (simp [low];done) | (simp [low];omega),?_⟩
  (repeat' simp -dsimp (disch:=omega) only [↓EA,EB,Nat.reduceEqDiff,Nat.reduceAdd,↓reduceIte,eq_self, *])
  refine ⟨by first | (simp [low];done) | (simp [low];omega),?_⟩
  (repeat' simp -dsimp (disch:=omega) only [↓EA,EB,Nat.reduceEqDiff,Nat.reduceAdd,↓reduceIte,eq_self, *,hl.ixs])
  refine ⟨by first | (simp [low];done) | (simp [low];omega),?_⟩
  (repeat' simp -dsimp (disch:=omega) only [↓EA,EB,Nat.reduceEqDiff,Nat.reduceAdd,Nat.reduceLeDiff,Nat.reduceMul,↓reduceIte,Ab,Q7,eq_self, *,hl.ixs,hl.ldx,Ar])
  have hj:[Value.int IntKind.i64 a,Value.int IntKind.i64 (startP l ↑i - 1),Value.int IntKind.i64 (startP l ↑i - 1),Value.int IntKind.i64 (atI l a).Q,Value.slice (some { block:=List.length h + 4,off:=0 }) 1 1] = [Value.int .i64 (⟨a,startP l ↑i - 1,startP l ↑i - 1,(atI l a).Q,[(atI l a).Q]⟩:Job).task,.int .i64 (⟨a,startP l ↑i - 1,startP l ↑i - 1,(atI l a).Q,[(atI l a).Q]⟩:Job).arrive,.int .i64 (⟨a,startP l ↑i - 1,startP l ↑i - 1,(atI l a).Q,[(atI l a).Q]⟩:Job).release,.int .i64 (⟨a,startP l ↑i - 1,startP l ↑i - 1,(atI l a).Q,[(atI l a).Q]⟩:Job).work,Value.slice (some { block:=List.length h + 4,off:=0 }) 1 1]:=rfl
  rw [hj]
  have k0:∀ x,x < h.length → (h ++ [LObj.cells [vl] false,LObj.cells [Value.slice none 0 0] false,LObj.cells [Value.func (Fn.func Af) #[] #[Value.pointer (some { block:=List.length h + 1,off:=0 })]] false,LObj.cells [Value.int IntKind.i64 (startP l ↑i)] false,LObj.cells [Value.int IntKind.i64 (atI l a).Q] false])[x]? = h[x]?:=fun x hx => GL hx
  have e0:(h ++ [LObj.cells [vl] false,LObj.cells [Value.slice none 0 0] false,LObj.cells [Value.func (Fn.func Af) #[] #[Value.pointer (some { block:=List.length h + 1,off:=0 })]] false,LObj.cells [Value.int IntKind.i64 (startP l ↑i)] false,LObj.cells [Value.int IntKind.i64 (atI l a).Q] false])[h.length]? = some (.cells [vl] false):=by rw [Bh];rfl
  have e1:(h ++ [LObj.cells [vl] false,LObj.cells [Value.slice none 0 0] false,LObj.cells [Value.func (Fn.func Af) #[] #[Value.pointer (some { block:=List.length h + 1,off:=0 })]] false,LObj.cells [Value.int IntKind.i64 (startP l ↑i)] false,LObj.cells [Value.int IntKind.i64 (atI l a).Q] false])[h.length + 1]? = some (.cells [.slice none 0 0] false):=by rw [Jr];rfl
  have e2:(h ++ [LObj.cells [vl] false,LObj.cells [Value.slice none 0 0] false,LObj.cells [Value.func (Fn.func Af) #[] #[Value.pointer (some { block:=List.length h + 1,off:=0 })]] false,LObj.cells [Value.int IntKind.i64 (startP l ↑i)] false,LObj.cells [Value.int IntKind.i64 (atI l a).Q] false])[h.length + 2]? = some (.cells [.func (.func Af) #[] #[.pointer (some ⟨h.length + 1,0,none⟩)]] false):=by rw [Jr];rfl
  have e3:(h ++ [LObj.cells [vl] false,LObj.cells [Value.slice none 0 0] false,LObj.cells [Value.func (Fn.func Af) #[] #[Value.pointer (some { block:=List.length h + 1,off:=0 })]] false,LObj.cells [Value.int IntKind.i64 (startP l ↑i)] false,LObj.cells [Value.int IntKind.i64 (atI l a).Q] false])[h.length + 3]? = some (.cells [.int .i64 (startP l i)] false):=by rw [Jr];rfl
  have e4:(h ++ [LObj.cells [vl] false,LObj.cells [Value.slice none 0 0] false,LObj.cells [Value.func (Fn.func Af) #[] #[Value.pointer (some { block:=List.length h + 1,off:=0 })]] false,LObj.cells [Value.int IntKind.i64 (startP l ↑i)] false,LObj.cells [Value.int IntKind.i64 (atI l a).Q] false])[h.length + 4]? = some (Ad [(atI l a).Q]):=by rw [Jr];rfl
  have e5:(h ++ [LObj.cells [vl] false,LObj.cells [Value.slice none 0 0] false,LObj.cells [Value.func (Fn.func Af) #[] #[Value.pointer (some { block:=List.length h + 1,off:=0 })]] false,LObj.cells [Value.int IntKind.i64 (startP l ↑i)] false,LObj.cells [Value.int IntKind.i64 (atI l a).Q] false]).length = h.length + 5:=by simp
  generalize hH:h ++ [LObj.cells [vl] false,LObj.cells [Value.slice none 0 0] false,LObj.cells [Value.func (Fn.func Af) #[] #[Value.pointer (some { block:=List.length h + 1,off:=0 })]] false,LObj.cells [Value.int IntKind.i64 (startP l ↑i)] false,LObj.cells [Value.int IntKind.i64 (atI l a).Q] false] = HQ at *
  refine WX.mono (Aw9 hE (A:=[]) (m:=h.length + 4) (v:=.slice none 0 0) e1 OwnT.nil (by omega) (by omega) (by simp) (⟨a,startP l ↑i - 1,startP l ↑i - 1,(atI l a).Q,[(atI l a).Q]⟩:Job) rfl rfl (W:=fun b => h.length ≤ b) (by show h.length ≤ h.length + 1;omega) (fun hn => absurd rfl hn)) (fun b j => j) fun ab h2 u => ?_
  obtain ⟨rfl,v',q5,q6,q7,q8,q9⟩:=u
  have g:∀ y,y < h.length + 5 → y ≠ h.length + 1 → h2[y]? = HQ[y]?:=fun y hy hn => q9 y (by omega) hn (fun hn => absurd rfl hn)
  have R1:=Hid.mk (AI q5 (AI q6 (AI q7 (AI q8 (AI g (AI k0 (AI e0 (AI e2 (AI e3 (AI e4 e5))))))))))
  clear q5 q6 q7 q8 q9 g k0 e0 e1 e2 e3 e4 e5 hH hj
  (repeat' simp -dsimp (disch:=omega) only [↓EA,EB,Nat.reduceEqDiff,↓reduceIte,eq_self, *])
  obtain ⟨q5,q6,q7,q8,g,k0,e0,e2,e3,e4,e5⟩:=R1.out
  rw [HR.out]
  refine d.out (v0:=v') (LV:=[⟨⟨a,startP l ↑i - 1,startP l ↑i - 1,(atI l a).Q,[(atI l a).Q]⟩,Value.slice (some { block:=List.length h + 4,off:=0 }) 1 1⟩]) (fun b o j => ?_) (by omega) ((g _ (by omega) (by omega)).trans e0) q7 ((g _ (by omega) (by omega)).trans e2) ((g _ (by omega) (by omega)).trans e3) ⟨q8,by rw [r.out];rfl,fun p hp => ?_⟩ rfl rfl rfl rfl rfl
  ·have:=(GI.1 j).1
   rw [g b (by omega) (by omega),k0 b this];exact j
  ·rw [List.mem_singleton.1 hp]
   refine ⟨Vb (l:=[(atI l a).Q]) ((g _ (by omega) (by omega)).trans e4) rfl (by simp) (by simp),fun _ => ?_⟩
   show h.length + 4 ≤ h.length + 4 ∧ h.length + 4 < h2.length ∧ h.length + 4 ≠ blk v'
   omega
end Go.L.Try
