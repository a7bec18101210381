/- A SCENE's MORE URGENT JOBS: the loop of scene.Critical. -/
import Derived.Test.YtifnlcajancfdaaGreatDoorPm
set_option linter.unusedVariables false
set_option linter.unusedSimpArgs false
set_option maxRecDepth 100000
set_option maxHeartbeats 8000000
namespace Go.L.Try
open Go Go.L
variable {E:Env} {G:Nat}
def Pf (j:Job):NV Job:=⟨j,.slice none 0 0⟩
structure SC (m0:Nat) (Hb:Aa) (v0:Value) (lo:LObj) (LV:List (NV Job)) (hh:Aa):Prop where
 len:Hb.length<hh.length
 old:∀ y,y<Hb.length→y≠m0+1→y≠blk v0→hh[y]? = Hb[y]?
 bL:hh[Hb.length]? = some lo
 out:∃ v,hh[m0+1]? = some (.cells [v] false)∧OwnT (m0+4) 5 (Ia hdJ) hh v LV∧(blk v=blk v0∨Hb.length<blk v)
section
variable {m0:Nat} {Hb hh:Aa} {v0:Value} {lo:LObj} {LV:List (NV Job)}
theorem SC.setL (s:SC m0 Hb v0 lo LV hh) (hm:m0+4≤Hb.length) (hv:blk v0<Hb.length) (lo':LObj):SC m0 Hb v0 lo' LV (hh.set Hb.length lo'):=by
 obtain ⟨a,b,c,v,o1,o2,o3⟩:=s
 exact ⟨by rw [List.length_set];exact a,fun y h1 h2 h3 => by rw [Ba (by omega)];exact b y h1 h2 h3,B9 a,v,by rw [Ba (by omega)];exact o1,o2.keep fun hn => Ba (by omega),o3⟩
theorem SC.tr (s:SC m0 Hb v0 lo LV hh) (hm:m0+4≤Hb.length) (hv:blk v0<Hb.length) (hne:LV≠[]) {H h3:Aa} (hH:Hb.length≤H.length) (hH2:H.length≤Hb.length+1) (hL:H.length=Hb.length+1∨True) (h0:H[m0+1]? = some (.cells [v0] false)) (t:Tr H hh h3):(∃ v,h3[m0+1]? = some (.cells [v] false)∧OwnT (m0+4) 5 (Ia hdJ) h3 v LV∧(blk v=blk v0∨Hb.length<blk v))∧∀ b,b<H.length→h3[b]? = hh[b]?:=by
 obtain ⟨a,b,c,v,o1,o2,o3⟩:=s
 rcases t with rfl | ⟨rfl,hw⟩
 ·exact ⟨⟨v,o1,o2,o3⟩,fun _ _ => rfl⟩
 ·have hk:∀ b,b<H.length→(hh.take H.length)[b]? = hh[b]?:=fun b hb => by rw [List.getElem?_take,if_pos hb]
  refine ⟨⟨v,by rw [hk _ (by omega)];exact o1,o2.keep fun _ => hk _ ?_,o3⟩,hk⟩
  rcases hw (m0+1) (by omega) with h4 | h4
  ·rw [o1,h0] at h4
   cases h4
   omega
  ·rw [o1] at h4
   exact Ad0 o2 hne h4
end
def loC (frL:Fr) (st:LoopState) (pd:Option (Option Nat)):LObj:=.loop { state:=st,pending:=pd,fr:=frL,sz:=132,params:=[86],assign:=Bo,body:=Bn }
structure Aqp (m0 eb:Nat) (Hb:Aa) (vl:Value) (s e:Int) (v0:Value):Prop where
 hm:m0+4≤Hb.length
 hv:blk v0<Hb.length∧m0+4≤blk v0
 hb:m0+4≤eb∧eb<Hb.length∧eb≠blk v0
 b0:Hb[m0]? = some (.cells [vl] false)
 b2:Hb[m0+2]? = some (.cells [.func (.func Ag) #[] #[.pointer (some ⟨m0+1,0,none⟩)]] false)
 b3:Hb[m0+3]? = some (.cells [.int .i64 s] false)
 be:Hb[eb]? = some (.cells [.int .i64 e] false)
theorem A05 (hE:Aw E) {W:Nat→Prop} {m0 eb:Nat} {Hb:Aa} {vl v0:Value} {s e:Int} (hb:Aqp m0 eb Hb vl s e v0) (hW:∀ b,m0≤b→b≠Hb.length→W b) {k:Nat} {t:Ab} (hok:Cr t) (hs:1≤s∧s≤4611686018427387904∧t.J<s) (he:e - s≤2147483647∧s<e) {lo:LObj} {A:List (NV Job)} (hA:A≠[]) (few:A.length+I0 t.T (e - s+t.J)≤4096)
  {hh:Aa} {tb:Nat} (htb:Hb.length<tb) (st:SC m0 Hb v0 lo (A++(Iv s k t 1).map Pf) hh) (ht:hh[tb]? = some (.cells (A5 t) false)) (hvt:∀ v,hh[m0+1]? = some (.cells [v] false)→tb<blk v) {fr:Fr}
  (g8:get fr 8 = .pointer (some ⟨m0+2,0,none⟩)) (g13:get fr 13 = .pointer (some ⟨eb,0,none⟩)) (g14:get fr 14 = .int .i64 k) (g15:get fr 15 = .pointer (some ⟨tb,0,none⟩)) (g16:get fr 16 = .bool true) (g17:get fr 17 = .int .i64 (s - t.J+t.T)) {Q:Ex→Fr→Aa→Prop}
  (hq:∀ fr' h',get fr' 16 = .bool true→SC m0 Hb v0 lo (A++(Iv s k t (I0 t.T (e - s+t.J))).map Pf) h'→(∀ v,h'[m0+1]? = some (.cells [v] false)→tb<blk v)→Q (.exit 2) fr' h') :
  WO W (iterW (code (callW E) iterW 132 Ip) fr hh) Q:=by
 obtain ⟨rg,ft⟩:=hok
 simp only [Ap,Eg] at rg ft
 have hN:=fun n => Tt (T:=t.T) (p:=e - s+t.J) (by omega) n
 have hN1:1≤I0 t.T (e - s+t.J)∨I0 t.T (e - s+t.J)=0:=by omega
 have hC:(1≤t.C∧t.C≤2147483647)∧(1≤t.T∧t.T≤2147483647)∧(0≤t.J∧t.J≤2147483647):=by omega
 obtain ⟨hC,hT,hJ⟩:=hC
 obtain ⟨bm,bv,bb,b0,b2,b3,be⟩:=hb
 refine WO.loop (fun (n:Nat) fr h' => (1≤n∧(n=1∨n≤I0 t.T (e - s+t.J)))∧SC m0 Hb v0 lo (A++(Iv s k t n).map Pf) h'∧h'[tb]? = some (.cells (A5 t) false)∧(∀ v,h'[m0+1]? = some (.cells [v] false)→tb<blk v)∧get fr 8 = .pointer (some ⟨m0+2,0,none⟩)∧get fr 13 = .pointer (some ⟨eb,0,none⟩)∧get fr 14 = .int .i64 k∧get fr 15 = .pointer (some ⟨tb,0,none⟩)∧get fr 16 = .bool true∧get fr 17 = .int .i64 (s - t.J+n * t.T)) (fun n => I0 t.T (e - s+t.J) - n) ?_ 1 ⟨⟨Nat.le_refl _,.inl rfl⟩,st,ht,hvt,g8,g13,g14,g15,g16,by rw [g17];simp⟩
 clear st ht hvt g8 g13 g14 g15 g16 g17
 rintro n fr hh ⟨hn,st,ht,hvt,g8,g13,g14,g15,g16,g17⟩
 have Hq:=Hid.mk hq
 clear hq
 unfold Ip
 have hNn:=hN n
 obtain ⟨sl,so,sL,v,sv,sw,sx⟩:=st
 have c2:hh[m0+2]? = some (.cells [.func (.func Ag) #[] #[.pointer (some ⟨m0+1,0,none⟩)]] false):=(so _ (by omega) (by omega) (by omega)).trans b2
 have ce:hh[eb]? = some (.cells [.int .i64 e] false):=(so _ bb.2.1 (by omega) bb.2.2).trans be
 have hlen:(A++(Iv s k t n).map Pf).length=A.length+n:=by simp [Iv]
 have hbd:(n:Int) * t.T≤e - s+t.J+t.T:=by
  have:=hN (n - 1)
  rcases Nat.lt_or_ge (n - 1) (I0 t.T (e - s+t.J)) with h | h
  ·have h2:=this.1 h
   have e2:(n:Int) * t.T=((n - 1:Nat):Int) * t.T+t.T:=by
    rw [show (n:Int)=((n - 1:Nat):Int)+1 by omega,Int.add_mul,Int.one_mul]
   omega
  ·have:n=1:=by omega
   subst this;simp;omega
 have hnn:0≤(n:Int) * t.T:=Int.mul_nonneg (by omega) (by omega)
 have hsucc:((n+1:Nat):Int) * t.T=(n:Int) * t.T+t.T:=by rw [Int.natCast_add,Int.natCast_one,Int.add_mul,Int.one_mul]
 have hrow:(Iv s k t (n+1)).map Pf=(Iv s k t n).map Pf++[Pf ⟨k,s - t.J+n * t.T,s - t.J+n * t.T,t.C,[]⟩]:=by
  unfold Iv
  rw [List.range_succ,List.map_append,List.map_append]
  simp [show n≠0 by omega]
 have ht':=ht
 unfold A5 at ht'
 by_cases hlt:n<I0 t.T (e - s+t.J)
 ·have hx:=hNn.1 hlt
  have hput:=Az0 hE (hh:=hh) (b:=m0+1) (m:=m0+4) (v:=v) (vc:=.slice none 0 0) (A:=A++(Iv s k t n).map Pf) sv sw (by omega) (by omega) (by omega) ⟨k,s - t.J+n * t.T,s - t.J+n * t.T,t.C,[]⟩ rfl rfl (W:=W) (hW _ (by omega) (by omega)) (fun _ => hW _ (by omega) (by omega))
  dsimp only at hput
  have hdec:(decide ((A++(Iv s k t n).map Pf).length+1≤4096))=true:=decide_eq_true (by omega)
  rw [hdec] at hput
  have Hs:=Hid.mk (AI hsucc hrow)
  have HN:=Hid.mk hN
  have Hput:=Hid.mk hput
  have Hfew:=Hid.mk (AI few (AI hlen hdec))
  have Hso:=Hid.mk (AI so (AI sw hvt))
  clear hN hNn hsucc hrow hput hdec few hlen so sw hvt hN1
  generalize hxx:s - t.J+n * t.T=x at *
  have Hht:=Hid.mk ht
  clear ht
  have hx2:x<e:=by omega
  have hx3:0≤x∧x≤4611686018427387904+8589934588:=by omega
  obtain ⟨hx3,hx4⟩:=hx3
  (repeat' simp -dsimp (disch:=omega) only [↓EA,EB,Nat.reduceEqDiff,↓reduceIte,eq_self, *])
  refine WX.mono Hput.out (fun b hb => hb) fun res h2 hres => ?_
  obtain ⟨rfl,v',q1,q2,q3,q4,q5⟩:=hres
  have Hq2:=Hid.mk (AI q4 q5)
  clear q4 q5
  have hC2:h2[tb]? = some (.cells [.string t.name,.int .i64 t.C,.int .i64 t.T,.int .i64 t.D,.int .i64 t.J,.int .i64 t.Q,.int .i64 t.P] false):=by
   rw [Hq2.out.2 tb (GI.1 ht').1 (by omega) (fun _ e2 => by have:=Hso.out.2.2 v sv;omega)];exact ht'
  clear ht'
  (repeat' simp -dsimp (disch:=omega) only [↓EA,EB,Nat.reduceEqDiff,↓reduceIte,eq_self, *])
  obtain ⟨hsucc,hrow⟩:=Hs.out
  obtain ⟨q4,q5⟩:=Hq2.out
  refine Next.mk (n+1) ⟨⟨by omega,.inr (by omega)⟩,⟨by omega,fun y h1 h2 h3 => ?_,?_,v',q3,?_,.inr (by omega)⟩,hC2,fun u hu => ?_,rfl,rfl,rfl,rfl,rfl,?_⟩ (by omega)
  ·rw [q5 y (by omega) h2 (fun _ => by rcases sx with h | h<;>omega)];exact Hso.out.1 y h1 h2 h3
  ·rw [q5 _ (by omega) (by omega) (fun _ => by rcases sx with h | h<;>omega)];exact sL
  ·rw [hrow,← List.append_assoc];exact q4
  ·rw [q3] at hu
   cases hu
   have:=(GI.1 Hht.out).1
   omega
  ·show Value.int .i64 (x+t.T)=_
   rw [hsucc]
   congr 1;omega
 ·have hx:=fun h => hlt (hNn.2 h)
  have hx':¬ s - t.J+n * t.T<e:=by omega
  have st2:SC m0 Hb v0 lo (A++(Iv s k t n).map Pf) hh:=⟨sl,so,sL,v,sv,sw,sx⟩
  have HN:=Hid.mk (AI hN (AI hNn (AI hn (AI st2 hvt))))
  clear hN hNn hsucc hrow few hlen so sw hvt hN1 hx st2
  generalize hxx:s - t.J+n * t.T=x at *
  (repeat' simp -dsimp (disch:=omega) only [↓EA,EB,Nat.reduceEqDiff,↓reduceIte,eq_self, *])
  obtain ⟨hN,hNn,hn,st2,hvt⟩:=HN.out
  have hpos:1≤I0 t.T (e - s+t.J):=by
   have:=(hN 0).2 (by simp;omega)
   omega
  have e1:n=I0 t.T (e - s+t.J):=by omega
  exact Hq.out _ hh rfl (by rw [← e1];exact st2) hvt
end Go.L.Try
namespace Go.L.Try
open Go Go.L
variable {E:Env} {G:Nat}
theorem Ay5 {α : Type} {m sz:Nat} {enc:α → List Value} {hh h2 h3:Aa} {v v2:Value} {c:Nat} {l:List α} (hb:h2[c]? = some (.cells [v2] false)) (ho:OwnT m sz enc h2 v2 l) (hl:l≠[]) (hf:hh.length≤blk v2) (hc:c<hh.length) (hold:hh[c]? = some (.cells [v] false)) (hv:v ≠ .slice none 0 0→blk v<hh.length) (t:Tr hh h2 h3):h3=h2:=by
 rcases t with rfl | ⟨rfl,hw⟩
 ·rfl
 ·exfalso
  rcases hw c hc with h4 | h4
  ·rw [hb,hold] at h4
   cases h4
   have:=hv fun e => hl (by rw [e] at ho;exact Az4 ho)
   omega
  ·rw [hb] at h4
   have:=Ad0 ho hl h4
   omega
theorem Auf (s:Int) (k:Nat) (t:Ab):Iv s k t 1=[⟨k,s - t.J,s,t.C,[]⟩]:=by
 unfold Iv
 simp
theorem SC.rd {m0:Nat} {Hb hh:Aa} {v0:Value} {lo:LObj} {LV:List (NV Job)} (s:SC m0 Hb v0 lo LV hh) (hm:m0+4≤Hb.length) (hv:m0+4≤blk v0) {vl:Value} {l:List Ab} (hl:Rd 7 A5 Hb vl l) (hvl:vl ≠ .slice none 0 0→blk vl<m0):Rd 7 A5 hh vl l :=
 hl.keep fun hn => s.old _ (by have:=hvl hn;omega) (by have:=hvl hn;omega) (by have:=hvl hn;omega)
theorem Amh (hE:Aw E) {m0 eb:Nat} {Hb:Aa} {vl v0:Value} {s e:Int} (hb:Aqp m0 eb Hb vl s e v0) {l:List Ab} (hl:Rd 7 A5 Hb vl l) (hvl:vl ≠ .slice none 0 0→blk vl<m0) {k:Nat} (hk:k<l.length) (hok:Cr (atI l (k:Int))) (hs:1≤s∧s≤4611686018427387904∧(atI l (k:Int)).J<s) (he:e - s≤2147483647∧s<e)
  {A:List (NV Job)} (hA:A≠[]) (few:A.length+I0 (atI l (k:Int)).T (e - s+(atI l (k:Int)).J)≤4096) {frL:Fr} (f2:get frL 2 = .pointer (some ⟨m0,0,none⟩)) (f8:get frL 8 = .pointer (some ⟨m0+2,0,none⟩)) (f9:get frL 9 = .pointer (some ⟨m0+3,0,none⟩)) (f13:get frL 13 = .pointer (some ⟨eb,0,none⟩))
  {hh:Aa} (st:SC m0 Hb v0 (loC frL .ready none) A hh) :
  WX (fun b => m0≤b) (callW E (.func (.yield Hb.length) #[] #[]) [.int .i64 k] hh) (fun v h' => v = .bool true∧SC m0 Hb v0 (loC frL .ready none) (A++(Iv s k (atI l (k:Int)) (I0 (atI l (k:Int)).T (e - s+(atI l (k:Int)).J))).map Pf) h'):=by
 generalize hlo:loC frL .ready none=lo at *
 have hb':=hb
 obtain ⟨bm,⟨bv,bv2⟩,bb,b0,b2,b3,be⟩:=hb'
 refine WX.mono (Aqq hE.keep (r:={ state:=.ready,pending:=none,fr:=frL,sz:=132,params:=[86],assign:=Bo,body:=Bn }) (W:=fun b => m0≤b∧b≠Hb.length) (Rr:=fun e' h3 => e' = .normal∧SC m0 Hb v0 lo (A++(Iv s k (atI l (k:Int)) (I0 (atI l (k:Int)).T (e - s+(atI l (k:Int)).J))).map Pf) h3) (st.bL.trans (congrArg some hlo.symm)) rfl rfl rfl rfl (fun b hb => hb.2) ?_) (fun b hb => by rcases hb with hb | hb;exact hb.1;omega) ?_
 ·dsimp only
  have Hlo:=Hid.mk hlo
  rw [show (LObj.loop { state:=.ready,pending:=none,fr:=frL,sz:=132,params:=[86],assign:=Bo,body:=Bn })=lo from hlo]
  generalize LObj.loop { state:=LoopState.busy,pending:=none,fr:=frL,sz:=132,params:=[86],assign:=Bo,body:=Bn }=lb
  clear hlo
  have hkb:hh[m0+1]? = some (.cells [_] false):=st.out.choose_spec.1
  have hvc:=st.out.choose_spec.2
  generalize st.out.choose=vc at hkb hvc
  obtain ⟨hvc1,hvc2⟩:=hvc
  have hvlt:vc ≠ .slice none 0 0→blk vc<hh.length:=fun hn => hvc1.lt (hvc1.ne hn)
  have s2:=st.setL bm bv lb
  have rl:=s2.rd bm bv2 hl hvl
  have hGl:(hh.set Hb.length lb).length=hh.length:=List.length_set ..
  have Hs0:=Hid.mk (AI hkb (AI hvlt hGl))
  have hlen0:=st.len
  clear st hkb hvlt hGl hvc1 hvc2
  unfold Bo
  (repeat' simp -dsimp (disch:=omega) only [↓EA,EB,Nat.reduceEqDiff,↓reduceIte,eq_self, *])
  obtain ⟨sl,so,sL,v,sv,sw,sx⟩:=s2
  generalize hh.set Hb.length lb=G1 at *
  obtain ⟨rg,ft⟩:=hok
  have hok':Cr (atI l (k:Int)):=⟨rg,ft⟩
  simp only [Ap,Eg] at rg ft
  have hC:(1≤(atI l (k:Int)).C∧(atI l (k:Int)).C≤2147483647)∧(1≤(atI l (k:Int)).T∧(atI l (k:Int)).T≤2147483647)∧(0≤(atI l (k:Int)).J∧(atI l (k:Int)).J≤2147483647):=by omega
  obtain ⟨hC,hT,hJ⟩:=hC
  have Hok:=Hid.mk hok'
  clear rg ft hok'
  have c0:G1[m0]? = some (.cells [vl] false):=(so _ (by omega) (by omega) (by omega)).trans b0
  have c2:G1[m0+2]? = some (.cells [.func (.func Ag) #[] #[.pointer (some ⟨m0+1,0,none⟩)]] false):=(so _ (by omega) (by omega) (by omega)).trans b2
  have c3:G1[m0+3]? = some (.cells [.int .i64 s] false):=(so _ (by omega) (by omega) (by omega)).trans b3
  have hki:(k:Int)<l.length:=by omega
  have hm1:m0≤G1.length:=by omega
  have hm2:G1.length≠Hb.length:=by omega
  have e2:∀ x,(G1++x)[m0+2]? = some (.cells [.func (.func Ag) #[] #[.pointer (some ⟨m0+1,0,none⟩)]] false):=fun x => by rw [GL (by omega)];exact c2
  have e3:∀ x,(G1++x)[m0+3]? = some (.cells [.int .i64 s] false):=fun x => by rw [GL (by omega)];exact c3
  have hput:=Az0 hE (hh:=G1++[.cells (A5 (atI l (k:Int))) false]) (b:=m0+1) (m:=m0+4) (v:=v) (vc:=.slice none 0 0) (A:=A) (by rw [GL (by omega)];exact sv) (sw.app _) (by omega) (by simp;omega) (by omega) ⟨k,s - (atI l (k:Int)).J,s,(atI l (k:Int)).C,[]⟩ rfl rfl (W:=fun b => m0≤b∧b≠Hb.length) ⟨by omega,by omega⟩ (fun hn => by have:=sw.ge hn;exact ⟨by omega,by omega⟩)
  dsimp only at hput
  have hN0:1≤I0 (atI l (k:Int)).T (e - s+(atI l (k:Int)).J):=by
   have:=(Tt (T:=(atI l (k:Int)).T) (p:=e - s+(atI l (k:Int)).J) (by omega) 0).2 (by simp;omega)
   omega
  have hdec:(decide (A.length+1≤4096))=true:=decide_eq_true (by omega)
  rw [hdec] at hput
  have Hput:=Hid.mk hput
  have Hso:=Hid.mk (AI so (AI sL (AI sw (AI sv sx))))
  have Hfew:=Hid.mk (AI few (AI hN0 hdec))
  have Hlo2:=Hid.mk b0
  clear hput hdec few hN0 so sL sw sv sx b0 b2 b3 be
  unfold Bn
  (repeat' simp -dsimp (disch:=omega) only [↓EA,EB,Nat.reduceEqDiff,Nat.reduceAdd,↓reduceIte,Ac,eq_self, *,rl.ixs,rl.lda,A5])
  refine ⟨hm2,?_⟩
  change WX _ (callW _ _ _ (G1++[LObj.cells (A5 (atI l (k:Int))) false])) _
  refine WX.mono Hput.out (fun b hb => hb) fun res h2 hres => ?_
  obtain ⟨rfl,v',q1,q2,q3,q4,q5⟩:=hres
  rw [LA,List.length_singleton] at q1 q2
  obtain ⟨so,sL,sw,sv,sx⟩:=Hso.out
  have hk':∀ y,y<G1.length→y≠m0+1→y≠blk v→h2[y]? = G1[y]?:=fun y hy h1 h3 => by
   rw [q5 y (by simp;omega) h1 (fun _ => h3),GL hy]
  have htb:h2[G1.length]? = some (.cells (A5 (atI l (k:Int))) false):=by
   rw [q5 _ (by simp) (by omega) (fun hn => by have:=sw.lt hn;omega),Bm];rfl
  have d2:h2[m0+2]? = some (.cells [.func (.func Ag) #[] #[.pointer (some ⟨m0+1,0,none⟩)]] false):=(hk' _ (by omega) (by omega) (by omega)).trans c2
  have d3:h2[m0+3]? = some (.cells [.int .i64 s] false):=(hk' _ (by omega) (by omega) (by omega)).trans c3
  have st2:SC m0 Hb v0 lb (A++(Iv s k (atI l (k:Int)) 1).map Pf) h2:=by
   refine ⟨by omega,fun y h1 h3 h4 => ?_,(hk' _ (by omega) (by omega) (by omega)).trans sL,v',q3,by rw [Auf];exact q4,.inr (by omega)⟩
   rw [hk' y (by omega) h3 (by omega)]
   exact so y h1 h3 h4
  have hvt:∀ u,h2[m0+1]? = some (.cells [u] false)→G1.length<blk u:=fun u hu => by
   rw [q3] at hu;cases hu;omega
  have Ht:=Hid.mk (AI htb (AI st2 hvt))
  unfold A5 at htb
  clear q1 q3 q4 q5 hk' c0 c2 c3 e2 e3 so sL sw sv sx st2 hvt
  (repeat' simp -dsimp (disch:=omega) only [↓EA,EB,Nat.reduceEqDiff,↓reduceIte,eq_self, *])
  refine A05 hE hb (fun b h1 h2 => ⟨h1,h2⟩) (t:=atI l (k:Int)) Hok.out hs he hA Hfew.out.1 (tb:=G1.length) (by omega) Ht.out.2.1 Ht.out.1 Ht.out.2.2 rfl rfl rfl rfl rfl rfl fun fr' h' g16 st3 hvt3 => ?_
  have S3:=Hid.mk (AI st3 hvt3)
  clear st3 hvt3 htb d2 d3 rl
  (repeat' simp -dsimp (disch:=omega) only [↓EA,EB,↓reduceIte,eq_self, *])
  intro h3 t3
  obtain ⟨st3,hvt3⟩:=S3.out
  obtain ⟨hkb,hvlt,hGl⟩:=Hs0.out
  have s4:=st3.setL bm bv lo
  obtain ⟨w,w1,w2,w3⟩:=s4.out
  have hw:G1.length<blk w:=hvt3 w (by rw [← w1,Ba (by omega)])
  have e:=Ay5 w1 w2 (by simp [hA]) (by omega) (by omega) hkb hvlt t3
  rw [e];exact s4
 ·rintro v h' ⟨e',h3',⟨rfl,a3⟩,rfl,rfl⟩
  exact ⟨rfl,a3⟩
end Go.L.Try
namespace Go.L.Try
open Go Go.L
variable {E:Env} {G:Nat}
def Me (l:List Ab) (i:Int) (a:List Job) (m:Nat):List Job:=a++Iv (Af l i) m (atI l (m:Int)) (Jy l i m)
theorem Ay2 (l:List Ab) (i:Int):accL (Me l i) [] (placesQ (A9 l i) l) (placesQ (A9 l i) l).length=upC l i l.length:=by
 rw [Tj]
 exact Kt (upC l i) rfl (fun k => by show (if _ then _ else _)=_;simp only [A9,decide_eq_true_eq];rfl) _
theorem Aen {l:List Ab} {i:Int}:∀ (es:List Nat) (a:List Job),a.length≤(es.foldl (Me l i) a).length
 | [],a => Nat.le_refl _
 | m :: r,a => by
  have:=Aen (l:=l) (i:=i) r (Me l i a m)
  show _≤(r.foldl (Me l i) (Me l i a m)).length
  unfold Me at this ⊢
  rw [LA] at this
  omega
theorem Ayp {l:List Ab} {i:Int} (es:List Nat) (a:List Job) (k:Nat):(accL (Me l i) a es k).length≤(accL (Me l i) a es es.length).length:=by
 unfold accL
 rw [List.take_length]
 have e:es=es.take k++es.drop k:=(List.take_append_drop k es).symm
 have:=Aen (l:=l) (i:=i) (es.drop k) ((es.take k).foldl (Me l i) a)
 rw [← List.foldl_append,← e] at this
 exact this
theorem SC.trL {m0:Nat} {Hb hh:Aa} {v0:Value} {lo:LObj} {LV:List (NV Job)} (s:SC m0 Hb v0 lo LV hh) (hm:m0+4≤Hb.length) (hv:blk v0<Hb.length) (hne:LV≠[]) {H h3:Aa} (hH:H.length=Hb.length+1) (h0:H[m0+1]? = some (.cells [v0] false)) (t:Tr H hh h3):SC m0 Hb v0 lo LV h3:=by
 obtain ⟨o,hk⟩:=s.tr hm hv hne (H:=H) (by omega) (by omega) (.inr trivial) h0 t
 have h5:=(hk Hb.length (by omega)).trans s.bL
 exact ⟨(GI.1 h5).1,fun y h1 h2 h3 => (hk y (by omega)).trans (s.old y h1 h2 h3),h5,o⟩
theorem Axl (hE:Aw E) (hZ:Dy E G) {h:Aa} (ht:Tab G h) {Hb:Aa} {vl v0:Value} {l:List Ab} {i:Nat} {eb bx:Nat} (hv:B5 l) (hi:i<l.length) (hl:Rd 7 A5 h vl l) (hvl:vl ≠ .slice none 0 0→blk vl<h.length) (hp:Pre h Hb)
  (hb:Aqp h.length eb Hb vl (Af l i) (Af l i+(atI l (i:Int)).D - (atI l (i:Int)).J) v0) (hbx:Hb[bx]? = some (.cells (Fy (thoseW (A9 l i) l l.length)) false)) (hbx2:h.length+4≤bx) (hbx3:bx≠blk v0)
  {A:List (NV Job)} (hA:A≠[]) (hv0:Hb[h.length+1]? = some (.cells [v0] false)) (hO:OwnT (h.length+4) 5 (Ia hdJ) Hb v0 A) (few:A.length+(upC l i l.length).length≤4096)
  {W:Nat→Prop} (hW:∀ b,h.length≤b→W b) {fr:Fr} (f2:get fr 2 = .pointer (some ⟨h.length,0,none⟩)) (f8:get fr 8 = .pointer (some ⟨h.length+2,0,none⟩)) (f9:get fr 9 = .pointer (some ⟨h.length+3,0,none⟩)) (f13:get fr 13 = .pointer (some ⟨eb,0,none⟩)) (f85:get fr 85 = .func (.func Bk) #[] #[.pointer (some ⟨bx,0,none⟩)]) {Q:Ex→Fr→Aa→Prop}
  (hq:∀ h',Pre h h'→h.length+4≤h'.length→(∀ y,h.length+4≤y→y<Hb.length→y≠blk v0→h'[y]? = Hb[y]?)→(∃ v,h'[h.length+1]? = some (.cells [v] false)∧OwnT (h.length+4) 5 (Ia hdJ) h' v (A++(upC l i l.length).map Pf)∧(blk v=blk v0∨Hb.length<blk v))→Q .normal fr h') :
  WO W (code (callW E) iterW 132 (.rng (.t 85) [86] Bo Bn) fr Hb) Q:=by
 have hb':=hb
 obtain ⟨bm,⟨bv,bv2⟩,bb,b0,b2,b3,be⟩:=hb'
 obtain ⟨_,hlen,hok⟩:=Bc hv
 have hit:=hok _ (Aj (l:=l) (i:=(i:Int)) (by omega) (by omega))
 obtain ⟨hrg,hft⟩:=hit
 simp only [Ap,Eg] at hrg hft
 have hst:=Jx (i:=(i:Int)) hok ⟨by omega,by omega⟩ l.length (Nat.le_refl _)
 have hst2:Af l i=1+mostJ l i l.length:=rfl
 have hbxl:=(GI.1 hbx).1
 have hl':=hl.pre hp
 refine A06 hE.keep (W':=fun b => h.length≤b) (show ev (get fr) (.t 85)=_ from f85) (fun x hx _ => hW x hx) ?_
 have hlo:LObj.loop { state:=.ready,pending:=none,fr,sz:=132,params:=[86],assign:=Bo,body:=Bn }=loC fr .ready none:=rfl
 rw [hlo]
 have ev:=J2 (A9 l i) hlen
 have hcl:(Hb++[loC fr .ready none])[h.length+1]? = some (.cells [v0] false):=by rw [GL (by omega)];exact hv0
 have hfold:=Ay2 l (i:Int)
 refine WX.mono (As0 hE hZ (D7 (A9 l i) l l.length) bx (Hb++[loC fr .ready none]) Hb.length (fun b => h.length≤b)
  (fun k hh => SC h.length Hb v0 (loC fr .ready none) (A++(accL (Me l i) [] (placesQ (A9 l i) l) k).map Pf) hh) (fun _ => False) (fun k hh hj => ⟨(hj.old _ hbxl (by omega) hbx3).trans hbx,ht.pre fun b o hb2 => ?_⟩) ?_ (fun k hh h3 hj t3 => hj.trL bm bv (by simp [hA]) (by simp) hcl t3) (fun _ _ hf _ => hf.elim) ?_) (fun b hb => hb) ?_
 ·have hlt:=(GI.1 hb2).1
  rw [hj.old b (by omega) (by omega) (by omega)];exact hp b o hb2
 ·refine ⟨by simp,fun y h1 h2 h3 => GL h1,by rw [Bm];rfl,v0,hcl,?_,.inl rfl⟩
  have:A++(accL (Me l i) [] (placesQ (A9 l i) l) 0).map Pf=A:=by simp [accL]
  rw [this];exact hO.app _
 ·intro k hh a ha hj
  rw [ev,List.getElem?_map] at ha
  obtain ⟨m,hm,rfl⟩:=OM.1 ha
  have hml:=Nf (List.mem_of_getElem? hm)
  have hmq:(atI l (m:Int)).P<(atI l (i:Int)).P:=by
   have:=(List.mem_filter.1 (List.mem_of_getElem? hm)).2
   simpa [A9] using this
  have hsucc:=Mx (f:=Me l i) (a0:=[]) hm
  have hJm:=hst.2 m hml hmq
  have hle:=Ayp (l:=l) (i:=i) (placesQ (A9 l i) l) [] (k+1)
  rw [hfold,hsucc] at hle
  have hmany:Jy l i m=I0 (atI l (m:Int)).T (Af l i+(atI l (i:Int)).D - (atI l (i:Int)).J - Af l i+(atI l (m:Int)).J):=by
   unfold Jy
   congr 1;omega
  have hle2:(accL (Me l i) [] (placesQ (A9 l i) l) k).length+Jy l i m≤(upC l i l.length).length:=by
   have e3:∀ X:List Job,(Me l (i:Int) X m).length=X.length+Jy l i m:=fun X => by
    show (X++Iv (Af l i) m (atI l (m:Int)) (Jy l i m)).length=_
    rw [LA]
    simp [Iv]
   rw [e3] at hle
   exact hle
  rw [hmany] at hle2
  refine WX.mono (Amh hE hb hl' (fun hn => by have:=hvl hn;omega) hml (hok _ (Aj (l:=l) (i:=(m:Int)) (by omega) (by omega))) ⟨by omega,by omega,by omega⟩ ⟨by omega,by omega⟩ (A:=A++(accL (Me l i) [] (placesQ (A9 l i) l) k).map Pf) (by simp [hA]) (by rw [LA,List.length_map];omega) f2 f8 f9 f13 hj) (fun b hb => hb) ?_
  rintro v h' ⟨rfl,q⟩
  refine .inl ⟨rfl,?_⟩
  rw [hsucc,show ∀ X:List Job,Me l (i:Int) X m=X++Iv (Af l i) m (atI l (m:Int)) (Jy l i m) from fun _ => rfl,hmany,List.map_append,← List.append_assoc]
  exact q
 ·rintro v h' (j | hf)
  ·rw [ev,List.length_map,hfold] at j
   refine ⟨_,j.bL,(fun e => by cases e),fun h3 t3 => ?_⟩
   have s2:=j.setL bm bv .dead
   obtain ⟨o,hk⟩:=s2.tr bm bv (by simp [hA]) (H:=Hb) (Nat.le_refl _) (by omega) (.inr trivial) hv0 t3
   obtain ⟨v,o1,o2,o3⟩:=o
   have hkeep:∀ y,y<Hb.length→y≠h.length+1→y≠blk v0→h3[y]? = Hb[y]?:=fun y h1 h2 h4 => (hk y h1).trans (s2.old y h1 h2 h4)
   have c2:h3[h.length+2]? = Hb[h.length+2]?:=hkeep _ (by omega) (by omega) (by omega)
   rw [b2] at c2
   have c3:h3[h.length+3]? = Hb[h.length+3]?:=hkeep _ (by omega) (by omega) (by omega)
   rw [b3] at c3
   refine hq h3 (fun b o hb2 => ?_) (by have:=(GI.1 c3).1;omega) (fun y h1 h2 h4 => hkeep y h2 (by omega) h4) ⟨v,o1,o2,o3⟩
   have hlt:=(GI.1 hb2).1
   rw [hkeep b (by omega) (by omega) (by omega)];exact hp b o hb2
  ·exact hf.elim
end Go.L.Try
namespace Go.L.Try
open Go Go.L
variable {E:Env} {G:Nat}
def CritR (m:Nat) (jobs:List Job) (a:Int) (h:Aa) (v:Value):Prop:=∃ vs,v = .tuple vs.toArray∧Each h [fun h v => RdNO m 5 hdJ Job.cuts h v jobs,fun _ v => v = .int .i64 a,fun _ v => v = .int .i64 0] vs
theorem CritR.movable {m:Nat} (jobs:List Job) (a:Int):Movable m (CritR m jobs a) 2 :=
 Movable.tuples (k:=1) (fun R hR => by
  simp only [List.mem_cons,List.not_mem_nil,or_false] at hR
  rcases hR with rfl | rfl | rfl
  ·exact RdNO.movable (hd:=hdJ) (cs:=Job.cuts) (sz:=5) (fun _ => rfl) (fun _ => rfl) _
  ·exact Gy rfl
  ·exact Gy rfl) (by simp)
structure A6b (m:Nat) (H:Aa) (v:Value) (LV:List (NV Job)) (jobs:List Job):Prop where
 own:OwnT m 5 (Ia hdJ) H v LV
 is:LV.map (·.j)=jobs
 cut:∀ p∈LV,Rd 1 Gk H p.v p.j.cuts∧(p.v ≠ .slice none 0 0→m≤blk p.v∧blk p.v<H.length∧blk p.v≠blk v)
def Anb:Nat→C→C
 | 0,c => c
 | n+1,.seq _ b => Anb n b
 | _+1,c => c
theorem Atl {l:List Ab} {i:Int} {x:Job} {n:Nat} (h:x∈upC l i n):x.cuts=[]:=by
 obtain ⟨a,k,_,_,_,rfl⟩:=Oa h
 rfl
theorem Asm (hE:Aw E) (hZ:Dy E G) {h:Aa} (ht:Tab G h) {vl v0:Value} {l:List Ab} (hl:Rd 7 A5 h vl l) (hs:∀ t∈l,t.name.size<1152921504606846976) {i:Nat} (hv:B5 l) (hi:i<l.length) (few:(A7 l i).length≤4096)
  {H:Aa} (hp:Pre h H) (hm:h.length+4≤H.length) (b0:H[h.length]? = some (.cells [vl] false)) (b1:H[h.length+1]? = some (.cells [v0] false)) (b2:H[h.length+2]? = some (.cells [.func (.func Ag) #[] #[.pointer (some ⟨h.length+1,0,none⟩)]] false)) (b3:H[h.length+3]? = some (.cells [.int .i64 (Af l i)] false))
  {LV:List (NV Job)} (hO:A6b (h.length+4) H v0 LV (Bi l i)) {fr:Fr} (g1:get fr 1 = .int .i64 i) (g2:get fr 2 = .pointer (some ⟨h.length,0,none⟩)) (g7:get fr 7 = .pointer (some ⟨h.length+1,0,none⟩)) (g8:get fr 8 = .pointer (some ⟨h.length+2,0,none⟩)) (g9:get fr 9 = .pointer (some ⟨h.length+3,0,none⟩)) :
  WO (fun b => h.length≤b) (code (callW E) iterW 132 (Anb 7 c_scene_Critical.body) fr H) (Res [(.t 4),(.t 5),(.t 6)] fun v h' => (∃ ys,h'=h++ys)∧CritR h.length (A7 l i) (Bi l i).length h' v):=by
 have hb:isP l (i:Int)=true:=Xe hv (by omega) (by omega)
 obtain ⟨_,hlen,hok⟩:=Bc hv
 have hit:=hok _ (Aj (l:=l) (i:=(i:Int)) (by omega) (by omega))
 obtain ⟨hrg,hft⟩:=hit
 simp only [Ap,Eg] at hrg hft
 have hst:=(Jx (i:=(i:Int)) hok ⟨by omega,by omega⟩ l.length (Nat.le_refl _)).1
 have hst2:Af l i=1+mostJ l i l.length:=rfl
 have hC:(1≤(atI l (i:Int)).C∧(atI l (i:Int)).C≤2147483647)∧(1≤(atI l (i:Int)).D∧(atI l (i:Int)).D≤2147483647)∧(0≤(atI l (i:Int)).J∧(atI l (i:Int)).J≤2147483647)∧(atI l (i:Int)).J<(atI l (i:Int)).D∧(atI l (i:Int)).J<Af l i∧Af l i≤2147483648:=by omega
 obtain ⟨hC,hD,hJ,hJD,hJs,hs3⟩:=hC
 clear hrg hft hst hst2
 have few2:LV.length+1+(upC l i l.length).length≤4096:=by
  have e1:LV.length=(Bi l i).length:=by rw [← hO.is,List.length_map]
  unfold A7 at few
  rw [LA,List.length_cons] at few
  omega
 have hLVn:LV.length=(Bi l i).length:=by rw [← hO.is,List.length_map]
 have hbl:blk vl<h.length:=by
  refine hl.lt' fun e => ?_
  have:=hl.len
  rw [e] at this
  simp [Pq] at this
  omega
 have hle:h.length≤H.length:=hp.le
 have ok:=D7 (A9 l (i:Int)) l l.length
 have hdec:(decide (LV.length+1≤4096))=true:=decide_eq_true (by omega)
 have rl:=hl.pre hp
 have hii:(i:Int)<l.length:=by omega
 have hput:=Az0 hE (hh:=H) (b:=h.length+1) (m:=h.length+4) (v:=v0) (vc:=.slice none 0 0) (A:=LV) b1 hO.own (by omega) hm (by omega) (Cx l i) rfl rfl (W:=fun b => h.length≤b) (by show h.length≤h.length+1;omega) (fun hn => by have:=hO.own.ge hn;show h.length≤_;omega)
 rw [hdec] at hput
 unfold Cx at hput
 dsimp only at hput
 have Hput:=Hid.mk hput
 have Hdec:=Hid.mk hdec
 have HO:=Hid.mk hO
 have rO:=hO.own.rd
 have oO:=rO.one
 have cO:=rO.cv
 have HF:=Hid.mk (AI few (AI few2 (AI hLVn b1)))
 clear hput hdec hO few few2 hLVn
 unfold c_scene_Critical
 simp only [Anb]
 (repeat' simp -dsimp (disch:=omega) only [↓EA,EB,Nat.reduceEqDiff,↓reduceIte,eq_self, *,rl.ixs,rl.ld,A5,rO.len])
 refine WX.mono Hput.out (fun b hb => hb) fun res h2 hres => ?_
 obtain ⟨rfl,v',q1,q2,q3,q4,q5⟩:=hres
 have hO:=HO.out
 have hvm:LV≠[]→h.length+4≤blk v0∧blk v0<H.length:=fun hn => ⟨hO.own.ge hn,hO.own.lt hn⟩
 have k2:∀ y,y<h.length+4→y≠h.length+1→h2[y]? = H[y]?:=fun y h1 h3 => q5 y (by omega) h3 (fun hn => by have:=hvm hn;omega)
 have d0:=(k2 _ (by omega) (by omega)).trans b0
 have d2:=(k2 _ (by omega) (by omega)).trans b2
 have d3:=(k2 _ (by omega) (by omega)).trans b3
 have hp2:Pre h h2:=fun b o hb2 => by
  have hlt:=(GI.1 hb2).1
  rw [k2 b (by omega) (by omega)];exact hp b o hb2
 have hO2:A6b (h.length+4) h2 v' (LV++[⟨Cx l i,.slice none 0 0⟩]) (Bi l i++[Cx l i]):=by
  refine ⟨q4,by rw [List.map_append,hO.is];rfl,fun p hp3 => ?_⟩
  rcases List.mem_append.1 hp3 with hp3 | hp3
  ·obtain ⟨c1,c2⟩:=hO.cut p hp3
   refine ⟨c1.keep fun hn => ?_,fun hn => ?_⟩
   ·have:=c2 hn
    exact q5 _ this.2.1 (by omega) fun _ => this.2.2
   ·have:=c2 hn
    exact ⟨this.1,by omega,by omega⟩
  ·rw [List.mem_singleton.1 hp3]
   exact ⟨Rd.of_nil,fun hn => absurd rfl hn⟩
 have HO2:=Hid.mk (AI hO2 (AI q1 q3))
 have hle2:=hp2.le
 have rl2:=hl.pre hp2
 have q:=fun x => Af4 hE (rl2.app x) (i:=(i:Int)) ⟨by omega,by omega⟩ hlen
 have d0':∀ x,(h2++x)[h.length]? = some (.cells [vl] false):=fun x => by rw [GL (by omega)];exact d0
 have d3':∀ x,(h2++x)[h.length+3]? = some (.cells [.int .i64 (Af l i)] false):=fun x => by rw [GL (by omega)];exact d3
 have d0r:(room h2 1)[h.length]? = some (.cells [vl] false):=d0' _
 have d3r:(room h2 1)[h.length+3]? = some (.cells [.int .i64 (Af l i)] false):=d3' _
 have hlt2:h.length+4≤h2.length:=by omega
 have D2:=Hid.mk d2
 clear q1 q2 q3 q4 q5 hO hO2 k2 hvm b0 b1 b2 b3 rl hm hp hle d2 rO oO cO
 (repeat' simp -dsimp (disch:=omega) only [↓EA,EB,Nat.reduceEqDiff,↓reduceIte,eq_self, *])
 refine ⟨by simp [low];omega,?_⟩
 (repeat' simp -dsimp (disch:=omega) only [↓EA,EB,Nat.reduceEqDiff,↓reduceIte,eq_self, *])
 refine ⟨by simp [low];omega,?_⟩
 (repeat' simp -dsimp (disch:=omega) only [↓EA,EB,Nat.reduceEqDiff,↓reduceIte,eq_self, *,rl2.ixs])
 refine ⟨by simp [low];omega,?_⟩
 (repeat' simp -dsimp (disch:=omega) only [↓EA,EB,Nat.reduceEqDiff,↓reduceIte,eq_self, *,rl2.ldx,A5])
 refine ⟨by simp [low];omega,?_⟩
 (repeat' simp -dsimp (disch:=omega) only [↓EA,EB,Nat.reduceEqDiff,↓reduceIte,eq_self, *,rl2.ixs])
 refine ⟨by simp [low];omega,?_⟩
 (repeat' simp -dsimp (disch:=omega) only [↓EA,EB,Nat.reduceEqDiff,↓reduceIte,Ac,eq_self, *,rl2.ldx,A5])
 refine F9 (Ayl hE _ ok) fun v ys hr hpre => ?_
 obtain ⟨bx,rfl,hge,hbx⟩:=hr
 rw [LA,List.length_singleton] at hge
 have hbxl:=(GI.1 hbx).1
 obtain ⟨hO2,hq1,hv1⟩:=HO2.out
 have hv1l:=(hO2.own.lt (by simp))
 have hv1g:=(hO2.own.ge (by simp))
 have hkeep:∀ y,y<h2.length→((h2++[LObj.cells [Value.int IntKind.i64 (Af l ↑i+(atI l ↑i).D - (atI l ↑i).J)] false])++ys)[y]? = h2[y]?:=fun y hy => by rw [List.append_assoc,GL hy]
 have heb:((h2++[LObj.cells [Value.int IntKind.i64 (Af l ↑i+(atI l ↑i).D - (atI l ↑i).J)] false])++ys)[h2.length]? = some (.cells [Value.int IntKind.i64 (Af l ↑i+(atI l ↑i).D - (atI l ↑i).J)] false):=by rw [List.append_assoc,Bm];rfl
 have hbl2:h2.length+1≤((h2++[LObj.cells [Value.int IntKind.i64 (Af l ↑i+(atI l ↑i).D - (atI l ↑i).J)] false])++ys).length:=by simp
 have hp3:Pre h ((h2++[LObj.cells [Value.int IntKind.i64 (Af l ↑i+(atI l ↑i).D - (atI l ↑i).J)] false])++ys):=(hp2.app' _).app' _
 have hB:Aqp h.length h2.length ((h2++[LObj.cells [Value.int IntKind.i64 (Af l ↑i+(atI l ↑i).D - (atI l ↑i).J)] false])++ys) vl (Af l i) (Af l i+(atI l (i:Int)).D - (atI l (i:Int)).J) v' :=
  ⟨by omega,⟨by omega,hv1g⟩,⟨by omega,by omega,by omega⟩,(hkeep _ (by omega)).trans d0,(hkeep _ (by omega)).trans D2.out,(hkeep _ (by omega)).trans d3,heb⟩
 have Hpack:=Hid.mk (AI hB (AI hp3 (AI hbx (AI hkeep (AI hO2 hv1)))))
 clear hB hp3 hbx heb hO2 hv1 q d0 d3 d0' d3' d0r d3r rl2 hkeep hpre
 generalize (h2++[LObj.cells [Value.int IntKind.i64 (Af l ↑i+(atI l ↑i).D - (atI l ↑i).J)] false])++ys=H3 at *
 (repeat' simp -dsimp (disch:=omega) only [↓EA,EB,Nat.reduceEqDiff,↓reduceIte,eq_self, *])
 obtain ⟨hB,hp3,hbx,hkeep,hO2,hv1⟩:=Hpack.out
 obtain ⟨few,few2,hLVn,_⟩:=HF.out
 refine Axl hE hZ ht hv hi hl (fun _ => hbl) hp3 hB hbx (by omega) (by omega) (A:=LV++[⟨Cx l i,.slice none 0 0⟩]) (by simp) ((hkeep _ (by omega)).trans hv1) (hO2.own.keep fun _ => hkeep _ (by omega)) (by rw [LA,List.length_singleton];omega) (fun b hb => hb) rfl rfl rfl rfl rfl fun h4 p4 l4 k4 o4 => ?_
 obtain ⟨w,w1,w2,w3⟩:=o4
 have ow:=w2.rd.one
 have cw:=w2.rd.cv
 have hlw:=w2.rd.len
 have hlen4:(LV++[(⟨Cx l i,.slice none 0 0⟩:NV Job)]++(upC l i l.length).map Pf).length=(A7 l i).length:=by
  unfold A7
  simp only [LA,List.length_map,List.length_cons,List.length_nil]
  omega
 rw [hlen4] at hlw
 have hnot:¬ (4096:Int)<((A7 l i).length:Int):=by omega
 have W4:=Hid.mk (AI w2 (AI w3 (AI k4 (AI hO2 (AI hkeep p4)))))
 clear w2 w3 k4 hO2 hkeep hB hbx hv1 hp3 Hpack hlen4 few2
 (repeat' simp -dsimp (disch:=omega) only [↓EA,EB,Nat.reduceEqDiff,↓reduceIte,eq_self, *])
 obtain ⟨w2,w3,k4,hO2,hkeep,p4⟩:=W4.out
 refine ⟨p4.ex,_,rfl,.cons ⟨LV++[⟨Cx l i,.slice none 0 0⟩]++(upC l i l.length).map Pf,?_,(w2.less (by omega)).rdO,fun p hp5 => ?_⟩ (.cons rfl (.cons rfl .nil))⟩
 ·rw [List.map_append,hO2.is,List.map_map]
  unfold A7
  rw [List.append_assoc]
  congr 1
  show [Cx l i]++(upC l i l.length).map id=_
  rw [List.map_id];rfl
 ·rcases List.mem_append.1 hp5 with h6 | h6
  ·obtain ⟨c1,c2⟩:=hO2.cut p h6
   refine ⟨c1.keep fun hn => ?_,fun hn => ?_⟩
   ·obtain ⟨e1,e2,e3⟩:=c2 hn
    rw [k4 _ e1 (by omega) e3];exact hkeep _ e2
   ·obtain ⟨e1,e2,e3⟩:=c2 hn
    omega
  ·obtain ⟨j,hj,rfl⟩:=List.mem_map.1 h6
   refine ⟨?_,fun hn => absurd rfl hn⟩
   rw [show (Pf j).j.cuts=[] from Atl hj]
   exact Rd.of_nil
end Go.L.Try
namespace Go.L.Try
open Go Go.L
variable {E:Env} {G:Nat}
theorem Ask (hE:Aw E) (hZ:Dy E G) {h:Aa} (ht:Tab G h) {vl:Value} {l:List Ab} (hl:Rd 7 A5 h vl l) (hs:∀ t∈l,t.name.size<1152921504606846976) {i:Nat} (hv:B5 l) (hi:i<l.length) (few:(A7 l i).length≤4096) :
  ∃ v ys,callW E (.func (.func Ez) #[] #[]) [vl,.int .i64 i] h=some (v,h++ys,[])∧CritR h.length (A7 l i) (Bi l i).length (h++ys) v:=by
 refine Ku hE.Aav rfl (CritR.movable _ _) (by simp) ?_
 have hb:isP l (i:Int)=true:=Xe hv (by omega) (by omega)
 obtain ⟨_,hlen,hok⟩:=Bc hv
 have q1:=fun x => Af3 hE (hl.app x) hs (i:Int)
 simp only [hb] at q1
 have q2:=fun x => A28 hE hZ (ht.app x) (hl.app x) hs hb
 have q3:=fun x => Ax2 hE hZ (ht.app x) (hl.app x) hs hb
 have hst:=(Jx (i:=(i:Int)) hok ⟨by omega,by omega⟩ l.length (Nat.le_refl _)).1
 have hit:=hok _ (Aj (l:=l) (i:=(i:Int)) (by omega) (by omega))
 obtain ⟨hrg,hft⟩:=hit
 simp only [Ap,Eg] at hrg hft
 have hst2:Af l i=1+mostJ l i l.length:=rfl
 have hs3:1≤Af l i∧Af l i≤2147483648:=by omega
 obtain ⟨hs3,hs4⟩:=hs3
 have hbk:=(W5 (i:=(i:Int)) hok l.length (Nat.le_refl _)).2
 have hbj:Bi l i=if (blkN l i l.length).2=true then [⟨(blkN l i l.length).1,Af l i - 1,Af l i - 1,(atI l (blkN l i l.length).1).Q,[(atI l (blkN l i l.length).1).Q]⟩] else []:=rfl
 have hQ:(blkN l i l.length).2=true→(1≤(atI l (blkN l i l.length).1).Q∧(atI l (blkN l i l.length).1).Q≤2147483647):=fun h2 => by
  have:=hbk h2
  have h3:=(hok _ (Aj (l:=l) (i:=(blkN l i l.length).1) this.1.1 (by omega))).1
  simp only [Ap] at h3
  omega
 simp only [Ak]
 generalize hR:(C.seq (C.reg [1,2,7,8,9,12] _) _)=R
 have hR2:R=Anb 7 c_scene_Critical.body:=by rw [← hR];rfl
 have HR:=Hid.mk hR2
 have Hrest:=Hid.mk (fun {H v0 LV fr} hp hm b0 b1 b2 b3 hO g1 g2 g7 g8 g9 => Asm (H:=H) (v0:=v0) (LV:=LV) (fr:=fr) hE hZ ht hl hs hv hi few hp hm b0 b1 b2 b3 hO g1 g2 g7 g8 g9)
 have hlc:=hl.cv
 have hlo:=hl.one
 have hbl:blk vl<h.length:=by
  refine hl.lt' fun e => ?_
  have:=hl.len
  rw [e] at this
  simp [Pq] at this
  omega
 clear hR hR2 hst hrg hft hst2 hok few hb
 generalize blkN l i l.length=bk at *
 obtain ⟨k1,k2⟩:=bk
 dsimp only at *
 cases k2
 ·rw [if_neg (by decide)] at hbj
  have Hbj:=Hid.mk hbj
  clear hbj hQ hbk
  (repeat' simp -dsimp (disch:=omega) only [↓EA,EB,Nat.reduceEqDiff,Nat.reduceAdd,↓reduceIte,reduceCtorEq,Ac,eq_self, *])
  rw [HR.out]
  refine Hrest.out (v0:=.slice none 0 0) (LV:=[]) (Pre.app h _) (by simp) (by rw [Bm];rfl) (by rw [Kr];rfl) (by rw [Kr];rfl) (by rw [Kr];rfl) ⟨OwnT.nil,by rw [Hbj.out];rfl,by simp⟩ rfl rfl rfl rfl rfl
 ·rw [if_pos rfl] at hbj
  obtain ⟨hQ1,hQ2⟩:=hQ rfl
  obtain ⟨hk1,hk2⟩:=(hbk rfl).1
  have Hbj:=Hid.mk hbj
  clear hbj hQ hbk
  have rl:=fun x => hl.app x
  have rlr:=hl.app [LObj.cells [vl] false,LObj.cells [.slice none 0 0] false,LObj.cells [.func (.func Ag) #[] #[.pointer (some ⟨h.length+1,0,none⟩)]] false,LObj.cells [.int .i64 (Af l i)] false,LObj.dead]
  (repeat' simp -dsimp (disch:=omega) only [↓EA,EB,Nat.reduceEqDiff,Nat.reduceAdd,↓reduceIte,reduceCtorEq,Ac,eq_self, *])
  refine ⟨by first | (simp [low];done) | (simp [low];omega),?_⟩
  (repeat' simp -dsimp (disch:=omega) only [↓EA,EB,Nat.reduceEqDiff,Nat.reduceAdd,↓reduceIte,eq_self, *])
  refine ⟨by first | (simp [low];done) | (simp [low];omega),?_⟩
  (repeat' simp -dsimp (disch:=omega) only [↓EA,EB,Nat.reduceEqDiff,Nat.reduceAdd,↓reduceIte,eq_self, *])
  refine ⟨by first | (simp [low];done) | (simp [low];omega),?_⟩
  (repeat' simp -dsimp (disch:=omega) only [↓EA,EB,Nat.reduceEqDiff,Nat.reduceAdd,↓reduceIte,eq_self, *])
  refine ⟨by first | (simp [low];done) | (simp [low];omega),?_⟩
  (repeat' simp -dsimp (disch:=omega) only [↓EA,EB,Nat.reduceEqDiff,Nat.reduceAdd,↓reduceIte,eq_self, *,hl.ixs])
  refine ⟨by first | (simp [low];done) | (simp [low];omega),?_⟩
  (repeat' simp -dsimp (disch:=omega) only [↓EA,EB,Nat.reduceEqDiff,Nat.reduceAdd,Nat.reduceLeDiff,Nat.reduceMul,↓reduceIte,Ac,Rq,eq_self, *,hl.ixs,hl.ldx,A5])
  have hj:[Value.int IntKind.i64 k1,Value.int IntKind.i64 (Af l ↑i - 1),Value.int IntKind.i64 (Af l ↑i - 1),Value.int IntKind.i64 (atI l k1).Q,Value.slice (some { block:=List.length h+4,off:=0 }) 1 1]=[Value.int .i64 (⟨k1,Af l ↑i - 1,Af l ↑i - 1,(atI l k1).Q,[(atI l k1).Q]⟩:Job).task,.int .i64 (⟨k1,Af l ↑i - 1,Af l ↑i - 1,(atI l k1).Q,[(atI l k1).Q]⟩:Job).arrive,.int .i64 (⟨k1,Af l ↑i - 1,Af l ↑i - 1,(atI l k1).Q,[(atI l k1).Q]⟩:Job).release,.int .i64 (⟨k1,Af l ↑i - 1,Af l ↑i - 1,(atI l k1).Q,[(atI l k1).Q]⟩:Job).work,Value.slice (some { block:=List.length h+4,off:=0 }) 1 1]:=rfl
  rw [hj]
  have k0:∀ x,x<h.length→(h++[LObj.cells [vl] false,LObj.cells [Value.slice none 0 0] false,LObj.cells [Value.func (Fn.func Ag) #[] #[Value.pointer (some { block:=List.length h+1,off:=0 })]] false,LObj.cells [Value.int IntKind.i64 (Af l ↑i)] false,LObj.cells [Value.int IntKind.i64 (atI l k1).Q] false])[x]? = h[x]?:=fun x hx => GL hx
  have e0:(h++[LObj.cells [vl] false,LObj.cells [Value.slice none 0 0] false,LObj.cells [Value.func (Fn.func Ag) #[] #[Value.pointer (some { block:=List.length h+1,off:=0 })]] false,LObj.cells [Value.int IntKind.i64 (Af l ↑i)] false,LObj.cells [Value.int IntKind.i64 (atI l k1).Q] false])[h.length]? = some (.cells [vl] false):=by rw [Bm];rfl
  have e1:(h++[LObj.cells [vl] false,LObj.cells [Value.slice none 0 0] false,LObj.cells [Value.func (Fn.func Ag) #[] #[Value.pointer (some { block:=List.length h+1,off:=0 })]] false,LObj.cells [Value.int IntKind.i64 (Af l ↑i)] false,LObj.cells [Value.int IntKind.i64 (atI l k1).Q] false])[h.length+1]? = some (.cells [.slice none 0 0] false):=by rw [Kr];rfl
  have e2:(h++[LObj.cells [vl] false,LObj.cells [Value.slice none 0 0] false,LObj.cells [Value.func (Fn.func Ag) #[] #[Value.pointer (some { block:=List.length h+1,off:=0 })]] false,LObj.cells [Value.int IntKind.i64 (Af l ↑i)] false,LObj.cells [Value.int IntKind.i64 (atI l k1).Q] false])[h.length+2]? = some (.cells [.func (.func Ag) #[] #[.pointer (some ⟨h.length+1,0,none⟩)]] false):=by rw [Kr];rfl
  have e3:(h++[LObj.cells [vl] false,LObj.cells [Value.slice none 0 0] false,LObj.cells [Value.func (Fn.func Ag) #[] #[Value.pointer (some { block:=List.length h+1,off:=0 })]] false,LObj.cells [Value.int IntKind.i64 (Af l ↑i)] false,LObj.cells [Value.int IntKind.i64 (atI l k1).Q] false])[h.length+3]? = some (.cells [.int .i64 (Af l i)] false):=by rw [Kr];rfl
  have e4:(h++[LObj.cells [vl] false,LObj.cells [Value.slice none 0 0] false,LObj.cells [Value.func (Fn.func Ag) #[] #[Value.pointer (some { block:=List.length h+1,off:=0 })]] false,LObj.cells [Value.int IntKind.i64 (Af l ↑i)] false,LObj.cells [Value.int IntKind.i64 (atI l k1).Q] false])[h.length+4]? = some (Ad [(atI l k1).Q]):=by rw [Kr];rfl
  have e5:(h++[LObj.cells [vl] false,LObj.cells [Value.slice none 0 0] false,LObj.cells [Value.func (Fn.func Ag) #[] #[Value.pointer (some { block:=List.length h+1,off:=0 })]] false,LObj.cells [Value.int IntKind.i64 (Af l ↑i)] false,LObj.cells [Value.int IntKind.i64 (atI l k1).Q] false]).length=h.length+5:=by simp
  generalize hH:h++[LObj.cells [vl] false,LObj.cells [Value.slice none 0 0] false,LObj.cells [Value.func (Fn.func Ag) #[] #[Value.pointer (some { block:=List.length h+1,off:=0 })]] false,LObj.cells [Value.int IntKind.i64 (Af l ↑i)] false,LObj.cells [Value.int IntKind.i64 (atI l k1).Q] false]=HQ at *
  refine WX.mono (Az0 hE (A:=[]) (m:=h.length+4) (v:=.slice none 0 0) e1 OwnT.nil (by omega) (by omega) (by simp) (⟨k1,Af l ↑i - 1,Af l ↑i - 1,(atI l k1).Q,[(atI l k1).Q]⟩:Job) rfl rfl (W:=fun b => h.length≤b) (by show h.length≤h.length+1;omega) (fun hn => absurd rfl hn)) (fun b hb => hb) fun res h2 hres => ?_
  obtain ⟨rfl,v',q5,q6,q7,q8,q9⟩:=hres
  have k2:∀ y,y<h.length+5→y≠h.length+1→h2[y]? = HQ[y]?:=fun y hy hn => q9 y (by omega) hn (fun hn => absurd rfl hn)
  have R1:=Hid.mk (AI q5 (AI q6 (AI q7 (AI q8 (AI k2 (AI k0 (AI e0 (AI e2 (AI e3 (AI e4 e5))))))))))
  clear q5 q6 q7 q8 q9 k2 k0 e0 e1 e2 e3 e4 e5 hH hj
  (repeat' simp -dsimp (disch:=omega) only [↓EA,EB,Nat.reduceEqDiff,↓reduceIte,eq_self, *])
  obtain ⟨q5,q6,q7,q8,k2,k0,e0,e2,e3,e4,e5⟩:=R1.out
  rw [HR.out]
  refine Hrest.out (v0:=v') (LV:=[⟨⟨k1,Af l ↑i - 1,Af l ↑i - 1,(atI l k1).Q,[(atI l k1).Q]⟩,Value.slice (some { block:=List.length h+4,off:=0 }) 1 1⟩]) (fun b o hb => ?_) (by omega) ((k2 _ (by omega) (by omega)).trans e0) q7 ((k2 _ (by omega) (by omega)).trans e2) ((k2 _ (by omega) (by omega)).trans e3) ⟨q8,by rw [Hbj.out];rfl,fun p hp => ?_⟩ rfl rfl rfl rfl rfl
  ·have:=(GI.1 hb).1
   rw [k2 b (by omega) (by omega),k0 b this];exact hb
  ·rw [List.mem_singleton.1 hp]
   refine ⟨Azx (l:=[(atI l k1).Q]) ((k2 _ (by omega) (by omega)).trans e4) rfl (by simp) (by simp),fun _ => ?_⟩
   show h.length+4≤h.length+4∧h.length+4<h2.length∧h.length+4≠blk v'
   omega
end Go.L.Try
