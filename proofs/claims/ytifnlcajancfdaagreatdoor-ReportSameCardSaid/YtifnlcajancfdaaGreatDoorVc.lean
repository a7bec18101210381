/- ITERATORS: what one tells; a loop over one that keeps its account in one variable. -/
import Derived.Test.YtifnlcajancfdaaGreatDoorVb
set_option linter.unusedVariables false
set_option linter.unusedSimpArgs false
namespace Go.L
open Go
variable {E:Env}
def Agt (E:Env) (g:Value) (base:Aa→Prop) (vals:List (List Value)):Prop :=
 ∀ (h1:Aa) (L:Nat) (W:Nat→Prop) (J:Nat→Aa→Prop) (Stop:Aa→Prop),(∀ k h,J k h→h.length=h1.length∧base h)→J 0 h1→(∀ h,Stop h→h.length=h1.length) →
  (∀ k h a,vals[k]? = some a→J k h→WX W (callW E (.func (.yield L) #[] #[]) a h) (fun v h' => (v = .bool true∧J (k+1) h')∨(v = .bool false∧Stop h'))) →
  WX W (callW E g [.func (.yield L) #[] #[]] h1) (fun _ h' => J vals.length h'∨Stop h')
theorem Je {m:Nat} {v:Value} (h:Vw v=true):Il m (some (.cells [v] false))=true:=by
 cases v<;>first | rfl | cases h
theorem Wt (hK:N6 E) {sz:Nat} {fr:Fr} {H:Aa} {g:X} {ps:List Nat} {assign body:C} {W:Nat→Prop} {Q:Ex→Fr→Aa→Prop} {f:FuncId} {ca cb:Array Value} {base:Aa→Prop} {vals:List (List Value)}
  (hg:ev (get fr) g = .func (.func f) ca cb) (hI:Agt E (.func (.func f) ca cb) base vals) {c:Nat} (hcl:c<H.length) (hWc:W c) (acc:Nat→Value) (hs:∀ k,Vw (acc k)=true) (h0:H[c]? = some (.cells [acc 0] false))
  (hps:ps.all (fun p => decide (p<sz))=true) (hbase:∀ hh:Aa,H.length≤hh.length→(∀ b,b<H.length→b≠c→hh[b]? = H[b]?)→base hh)
  (hstep:∀ k a,vals[k]? = some a→∃ fr0,setPs ps a fr=some fr0∧∀ hh:Aa,hh.length=H.length+1→hh[c]? = some (.cells [acc k] false)→(∀ b,b<H.length→b≠c→hh[b]? = H[b]?) →
   WO (fun b => b=c∨H.length<b) (code (callW E) iterW sz assign fr0 hh) (fun e fr1 h1 => e = .normal∧∃ zs,h1=hh++zs∧∀ hh2:Aa,hh2.length=H.length+1→hh2[c]? = some (.cells [acc k] false)→(∀ b,b<H.length→b≠c→hh2[b]? = H[b]?) →
    WO (fun b => b=c∨H.length<b) (code (callW E) iterW sz body fr1 (hh2++zs)) (fun e2 _ h2 => e2 = .normal∧∃ ys,h2=hh2.set c (.cells [acc (k+1)] false)++ys)))
  (hend:Q .normal fr (H.set c (.cells [acc vals.length] false))) :
  WO W (code (callW E) iterW sz (.rng g ps assign body) fr H) Q:=by
 refine Axr hK (W':=fun b => b=c∨H.length≤b) hg (fun x hx hlt => by rcases hx with rfl | hx;exact hWc;omega) ?_
 generalize hLr:LObj.loop _=lo
 have hget:∀ k,((H++[lo]).set c (.cells [acc k] false)).length=H.length+1∧((H++[lo]).set c (.cells [acc k] false))[c]? = some (.cells [acc k] false)∧∀ b,b<H.length→b≠c→((H++[lo]).set c (.cells [acc k] false))[b]? = H[b]?:=fun k => by
  refine ⟨by simp,B9 (by simp;omega),fun b hb hne => ?_⟩
  rw [Ba (Ne.symm hne),GL hb]
 refine WX.mono (hI (H++[lo]) H.length (fun b => b=c∨H.length≤b) (fun k hh => hh=(H++[lo]).set c (.cells [acc k] false)) (fun _ => False) ?_ ?_ (fun _ hf => hf.elim) ?_) (fun b hb => hb) ?_
 ·rintro k hh rfl
  obtain ⟨a,b,d⟩:=hget k
  exact ⟨by simp,hbase _ (by rw [a];omega) d⟩
 ·exact (Ds (by rw [GL hcl];exact h0)).symm
 ·rintro k hh a ha rfl
  obtain ⟨fr0,hset,hst⟩:=hstep k a ha
  obtain ⟨g1,g2,g3⟩:=hget k
  have hL:((H++[lo]).set c (.cells [acc k] false))[H.length]? = some lo:=by rw [Ba (by omega),Bm];rfl
  have hA:=hst _ g1 g2 g3
  have hset2:((H++[lo]).set c (.cells [acc k] false)).set c (.cells [acc (k+1)] false)=(H++[lo]).set c (.cells [acc (k+1)] false):=List.set_set ..
  generalize (H++[lo]).set c (.cells [acc k] false)=hh at *
  subst hLr
  refine WX.mono (Agw hK (W:=fun b => b=c∨H.length<b) (Rr:=fun e h3 => e = .normal∧h3=hh.set c (.cells [acc (k+1)] false)) hL rfl rfl hps hset (fun b hb => by omega) ?_) (fun b hb => by omega) ?_
  ·refine hA.mono (fun b hb => hb) ?_
   rintro e fr1 h1 ⟨rfl,zs,rfl,hB⟩
   refine ⟨rfl,?_⟩
   have hbusy:∀ x:LObj,(hh++zs).set H.length x=hh.set H.length x++zs:=fun x => by rw [List.set_append_left _ _ (by omega)]
   rw [hbusy]
   refine (hB (hh.set H.length _) (by rw [List.length_set];exact g1) (by rw [Ba (by omega)];exact g2) (fun b hb hne => by rw [Ba (by omega)];exact g3 b hb hne)).mono (fun b hb => hb) ?_
   rintro e2 fr2 h2 ⟨rfl,ys,rfl⟩
   have hsl:∀ (x y:LObj),(((hh.set H.length x).set c y)++ys).length=hh.length+ys.length:=fun x y => by simp
   refine ⟨fun b hb hw => ?_,rfl,?_⟩
   ·rcases hw with rfl | hw
    ·rw [GL (by simp;omega),B9 (by simp;omega)]
     exact Je (hs _)
    ·omega
   ·rw [List.set_append_left _ _ (by simp;omega),Ahd hL (by omega),List.take_left' (by simp)]
  ·rintro v h' ⟨e,h3,⟨rfl,rfl⟩,rfl,rfl⟩
   exact .inl ⟨rfl,hset2⟩
 ·rintro v h' (rfl | hf)
  ·refine ⟨_,by rw [Ba (by omega),Bm,← hLr];rfl,by simp,?_,?_⟩
   ·rintro b hb (rfl | hw)
    ·rw [B9 (by simp;omega)];exact Je (hs _)
    ·omega
   ·have e:((H++[lo]).set c (.cells [acc vals.length] false)).take H.length=H.set c (.cells [acc vals.length] false):=by
     rw [List.set_append_left _ _ hcl,List.take_left' (by simp)]
    rw [e];exact hend
  ·exact hf.elim
def Clo2 (m:Nat) (f:FuncId) (R1 R2:Aa→Value→Prop) (h:Aa) (v:Value):Prop:=∃ b1 b2 u1 u2,v = .func (.func f) #[] #[.pointer (some ⟨b1,0,none⟩),.pointer (some ⟨b2,0,none⟩)]∧(m≤b1∧m≤b2)∧(h[b1]? = some (.cells [u1] false)∧h[b2]? = some (.cells [u2] false))∧R1 h u1∧R2 h u2
theorem Clo2.movable {m:Nat} {f:FuncId} {R1 R2:Aa→Value→Prop} (h1:Movable m R1 1) (h2:Movable m R2 1):Movable m (Clo2 m f R1 R2) 2:=by
 refine ⟨fun ρ h h' d v v' hm hv ⟨b1,b2,u1,u2,e,⟨hg1,hg2⟩,⟨hb1,hb2⟩,hr1,hr2⟩ => ?_,fun h v ⟨b1,b2,u1,u2,e,_⟩ => by subst e;rfl⟩
 subst e
 cases d with
 | zero => simp [A6,List.mapM_cons] at hv
 | succ d =>
  simp only [A6,List.mapM_nil,List.mapM_cons] at hv
  cases hρ1:ρ b1 with
  | none => simp [hρ1] at hv
  | some c1 =>
   cases hρ2:ρ b2 with
   | none => simp [hρ1,hρ2] at hv
   | some c2 =>
    simp [hρ1,hρ2] at hv
    subst hv
    have key:∀ {b c:Nat} {u:Value} {R:Aa→Value→Prop},m≤b → ρ b=some c→h[b]? = some (.cells [u] false)→R h u→Movable m R 1→∃ u',h'[c]? = some (.cells [u'] false)∧R h' u':=by
     intro b c u R hge hρ hb hr hR
     obtain ⟨o,ho,hb'⟩:=hm.new b c hge hρ
     rw [List.getD_eq_getElem?_getD,hb] at ho
     simp only [Option.getD_some,Qi,Bool.false_eq_true,if_false,List.mapM_cons,List.mapM_nil] at ho
     cases hu:A6 ρ 4 u with
     | none => simp [hu] at ho
     | some u' =>
      simp [hu] at ho
      subst ho
      exact ⟨u',hb',hR.move ρ h h' 3 u u' hm hu hr⟩
    obtain ⟨w1,k1,k2⟩:=key hg1 hρ1 hb1 hr1 h1
    obtain ⟨w2,k3,k4⟩:=key hg2 hρ2 hb2 hr2 h2
    exact ⟨c1,c2,w1,w2,rfl,⟨hm.ge b1 c1 hg1 hρ1,hm.ge b2 c2 hg2 hρ2⟩,⟨k1,k3⟩,k2,k4⟩
end Go.L
namespace Go.L
open Go
structure RowO (m sz:Nat) (h:Aa) (v:Value) (L:List (List Value)):Prop where
 size:∀ e∈L,e.length=sz
 few:L.length<1152921504606846976
 is:(v = .slice none 0 0∧L=[])∨∃ b off sp cap c,m≤b∧v = .slice (some ⟨b,off,sp⟩) L.length cap∧h[b]? = some (.cells c false)∧off+L.length * sz≤c.length∧(c.drop off).take (L.length * sz)=L.flatten∧L.length≤cap∧(sp=none∨sp=some sz)
namespace RowO
variable {m sz:Nat} {h h':Aa} {v:Value} {L:List (List Value)}
theorem row (o:RowO m sz h v L):Row sz h v L:=by
 refine ⟨o.size,o.few,?_⟩
 rcases o.is with h1 | ⟨b,off,sp,cap,c,_,h1,h2,h3,h4,h5,h6⟩
 ·exact .inl h1
 ·exact .inr ⟨b,off,sp,cap,c,false,h1,h2,h3,h4,h5,h6⟩
theorem keep (o:RowO m sz h v L) (hk:L≠[]→h'[blk v]? = h[blk v]?):RowO m sz h' v L∨L=[]:=by
 by_cases hn:L=[]
 ·exact .inr hn
 ·refine .inl ⟨o.size,o.few,?_⟩
  rcases o.is with h1 | ⟨b,off,sp,cap,c,h0,rfl,h2,h3,h4,h5,h6⟩
  ·exact .inl h1
  ·refine .inr ⟨b,off,sp,cap,c,h0,rfl,?_,h3,h4,h5,h6⟩
   have:=hk hn
   simp only [blk] at this
   rw [this];exact h2
theorem pre (o:RowO m sz h v L) (p:Pre h h'):RowO m sz h' v L:=by
 refine ⟨o.size,o.few,?_⟩
 rcases o.is with h1 | ⟨b,off,sp,cap,c,h0,h1,h2,h3,h4,h5,h6⟩
 ·exact .inl h1
 ·exact .inr ⟨b,off,sp,cap,c,h0,h1,p _ _ h2,h3,h4,h5,h6⟩
theorem less (o:RowO m sz h v L) {m':Nat} (hm:m'≤m):RowO m' sz h v L:=by
 refine ⟨o.size,o.few,?_⟩
 rcases o.is with h1 | ⟨b,off,sp,cap,c,h0,h1,h2,h3,h4,h5,h6⟩
 ·exact .inl h1
 ·exact .inr ⟨b,off,sp,cap,c,by omega,h1,h2,h3,h4,h5,h6⟩
theorem ge (o:RowO m sz h v L) (hn:L≠[]):m≤blk v∧blk v<h.length:=by
 rcases o.is with ⟨_,h1⟩ | ⟨b,off,sp,cap,c,h0,rfl,h2,_⟩
 ·exact absurd h1 hn
 ·exact ⟨h0,(GI.1 h2).1⟩
end RowO
theorem Own.rowO {m sz:Nat} {h:Aa} {v:Value} {L:List (List Value)} (o:Own m sz h v L):RowO m sz h v L:=by
 cases o with
 | nil => exact ⟨by simp,by simp,.inl ⟨rfl,rfl⟩⟩
 | some hm hb hs hf hn => exact ⟨hs,hf,.inr ⟨_,0,_,_,_,hm,rfl,hb,by rw [Ef hs];omega,by rw [List.drop_zero,← Ef hs,List.take_length],Nat.le_refl _,.inr rfl⟩⟩
theorem A04 {α : Type} (c:List α) (off n k:Nat) (x:α) (hk:k<n):((c.set (off+k) x).drop off).take n=((c.drop off).take n).set k x:=by
 rw [List.drop_set]
 have e:¬ off+k<off:=by omega
 rw [if_neg e,Nat.add_sub_cancel_left,List.take_set]
theorem Ayz {W:Nat→Prop} {m sz:Nat} {h:Aa} {v:Value} {L:List (List Value)} (o:RowO m sz h v L) (hW:∀ b,m≤b→W b) {i:Int} {fo:Nat} {x:Value} {Q:Aa→Prop} (h1:0≤i) (h2:i<L.length) (hf:fo<sz) (hx:Ah x=true)
  (hq:∀ h',RowO m sz h' v (L.set i.toNat ((L.getD i.toNat []).set fo x))→h'.length=h.length→(∀ b,b≠blk v→h'[b]? = h[b]?)→Q h'):WH W (stO 1 h (blk v) (ofs v+i.toNat * sz+fo) [x] h[blk v]?) Q:=by
 rcases o.is with ⟨_,e⟩ | ⟨b,off,sp,cap,c,hm,rfl,hb,hl,hc,hcap,hsp⟩
 ·subst e;simp at h2;omega
 ·have hi:i.toNat<L.length:=by omega
  have hlt:i.toNat * sz+fo<L.length * sz:=by
   have:=Nat.mul_le_mul_right sz (show i.toNat+1≤L.length by omega)
   rw [Nat.succ_mul] at this;omega
  have hcond:[x].length=1∧off+i.toNat * sz+fo+1≤c.length∧[x].all Ah=true:=⟨rfl,by omega,by simp [hx]⟩
  refine ⟨h.set b (.cells (c.set (off+i.toNat * sz+fo) x) false),[b],?_,fun y hy => by rw [List.mem_singleton.1 hy];exact hW b hm,?_⟩
  ·simp only [blk,ofs,hb,Mt]
   rw [if_pos hcond,Ady]
  ·have hlen:(L.set i.toNat ((L.getD i.toNat []).set fo x)).length=L.length:=List.length_set ..
   refine hq _ ?_ (by simp) (fun y hy => Ba (Ne.symm hy))
   refine ⟨fun e he => ?_,by rw [hlen];exact o.few,.inr ⟨b,off,sp,cap,c.set (off+i.toNat * sz+fo) x,hm,by rw [hlen],?_,?_,?_,by rw [hlen];exact hcap,hsp⟩⟩
   ·rcases List.mem_or_eq_of_mem_set he with he | rfl
    ·exact o.size e he
    ·rw [List.length_set];exact o.size _ (Row.getD_mem hi)
   ·rw [List.getElem?_set_self (GI.1 hb).1]
   ·rw [hlen,List.length_set];exact hl
   ·rw [hlen,Nat.add_assoc,A04 _ _ _ _ _ hlt,hc,Sr o.size _ _ _ hi hf]
def RdO {α : Type} (m sz:Nat) (enc:α → List Value) (h:Aa) (v:Value) (l:List α):Prop:=RowO m sz h v (l.map enc)
namespace RdO
variable {α : Type} {m sz:Nat} {enc:α → List Value} {h h':Aa} {v:Value} {l:List α}
theorem rd (o:RdO m sz enc h v l):Rd sz enc h v l:=RowO.row o
theorem pre (o:RdO m sz enc h v l) (p:Pre h h'):RdO m sz enc h' v l:=RowO.pre o p
theorem app (o:RdO m sz enc h v l) (x:Aa):RdO m sz enc (h++x) v l:=o.pre (Pre.app h x)
theorem less (o:RdO m sz enc h v l) {m':Nat} (hm:m'≤m):RdO m' sz enc h v l:=RowO.less o hm
theorem ge (o:RdO m sz enc h v l) (hn:l≠[]):m≤blk v∧blk v<h.length:=RowO.ge o (by simpa using hn)
theorem keep (o:RdO m sz enc h v l) (hn:l≠[]) (hk:h'[blk v]? = h[blk v]?):RdO m sz enc h' v l:=by
 rcases RowO.keep o (h':=h') (fun _ => hk) with h1 | h1
 ·exact h1
 ·exact absurd (by simpa using h1) hn
theorem movable (hf:Agu enc) (l:List α):Movable m (fun h v => RdO m sz enc h v l):=by
 refine ⟨fun ρ h h' d v v' hm hv o => ?_,fun h v o => Row.noy (RowO.row o) 0⟩
 have hr:=(Rd.movable (m:=m) hf l).move ρ h h' d v v' hm hv o.rd
 refine ⟨o.size,o.few,?_⟩
 rcases o.is with ⟨rfl,e⟩ | ⟨b,off,sp,cap,c,hge,rfl,hb,hl,hc,hcap,hsp⟩
 ·simp only [A6,OI] at hv
  exact .inl ⟨hv.symm,e⟩
 ·simp only [A6] at hv
  cases hρ : ρ b with
  | none => rw [hρ] at hv;cases hv
  | some b' =>
   rw [hρ] at hv
   simp only [Option.map_some,OI] at hv
   subst hv
   obtain ⟨x,hx,hb'⟩:=hm.new b b' hge hρ
   rw [List.getD_eq_getElem?_getD,hb] at hx
   simp only [Option.getD_some,Qi,Bool.false_eq_true,if_false] at hx
   cases hcm:c.mapM (A6 ρ 4) with
   | none => rw [hcm] at hx;cases hx
   | some c' =>
    rw [hcm] at hx
    simp only [Option.map_some,OI] at hx
    subst hx
    have hcut:=Abq hcm off ((l.map enc).length * sz) hl
    rw [hc,Pn (Wf hf l)] at hcut
    exact .inr ⟨b',off,sp,cap,c',hm.ge b b' hge hρ,rfl,hb',by rw [Pp hcm];exact hl,(Option.some.inj hcut).symm,hcap,hsp⟩
end RdO
theorem OwnT.rdO {α : Type} {m sz:Nat} {enc:α → List Value} {h:Aa} {v:Value} {l:List α} (o:OwnT m sz enc h v l):RdO m sz enc h v l:=Own.rowO o
theorem A2w {α : Type} [Inhabited α] {W:Nat→Prop} {m sz:Nat} {enc:α → List Value} {h:Aa} {v:Value} {l:List α} (o:RdO m sz enc h v l) (hW:∀ b,m≤b→W b) {i:Int} {fo:Nat} {x:Value} {Q:Aa→Prop} (a:α) (h1:0≤i) (h2:i<l.length) (hf:fo<sz) (hx:Ah x=true) (ha:(enc (atI l i)).set fo x=enc a)
  (hq:∀ h',RdO m sz enc h' v (l.set i.toNat a)→h'.length=h.length→(∀ b,b≠blk v→h'[b]? = h[b]?)→Q h'):WH W (stO 1 h (blk v) (ofs v+i.toNat * sz+fo) [x] h[blk v]?) Q:=by
 refine Ayz o hW h1 (by simpa using h2) hf hx fun h' hh => hq h' ?_
 rw [Z6 enc l i h1 h2,ha,Ai2] at hh
 exact hh
theorem Ay0 {α : Type} [Inhabited α] {W:Nat→Prop} {m sz:Nat} {enc:α → List Value} {h:Aa} {v:Value} {l:List α} (o:RdO m sz enc h v l) (hW:∀ b,m≤b→W b) {i:Int} {x:Value} {Q:Aa→Prop} (a:α) (h1:0≤i) (h2:i<l.length) (hf:0<sz) (hx:Ah x=true) (ha:(enc (atI l i)).set 0 x=enc a)
  (hq:∀ h',RdO m sz enc h' v (l.set i.toNat a)→h'.length=h.length→(∀ b,b≠blk v→h'[b]? = h[b]?)→Q h'):WH W (stO 1 h (blk v) (ofs v+i.toNat * sz) [x] h[blk v]?) Q :=
 A2w o hW (fo:=0) a h1 h2 hf hx ha hq
structure RdNO {α : Type} (m sz:Nat) (hd:α → List Value) (cs:α → List Int) (h:Aa) (v:Value) (l:List α):Prop where
 is:∃ lv:List (NV α),lv.map (·.j)=l∧RdO m sz (Ia hd) h v lv∧∀ p∈lv,Rd 1 Gk h p.v (cs p.j)∧(p.v ≠ .slice none 0 0→blk p.v≠blk v)
theorem A1b {ρ : Nat→Option Nat} {v w:Value} {d:Nat} (hv:(∃ a n c,v = .slice a n c)) (hr:A6 ρ (d+1) v=some w):(v = .slice none 0 0↔w = .slice none 0 0)∧(v ≠ .slice none 0 0→(∃ a n c,v = .slice (some a) n c) → ρ (blk v)=some (blk w)):=by
 obtain ⟨a,n,c,rfl⟩:=hv
 cases a with
 | none => simp only [A6,OI] at hr;subst hr;exact ⟨Iff.rfl,fun _ ⟨_,_,_,e⟩ => by cases e⟩
 | some a =>
  obtain ⟨b,off,sp⟩:=a
  simp only [A6] at hr
  cases hρ : ρ b with
  | none => rw [hρ] at hr;cases hr
  | some b' =>
   rw [hρ] at hr
   simp only [Option.map_some,OI] at hr
   subst hr
   exact ⟨⟨fun e => (by cases e),fun e => (by cases e)⟩,fun _ _ => hρ⟩
theorem Rd.shape {α : Type} {sz:Nat} {enc:α → List Value} {h:Aa} {v:Value} {l:List α} (r:Rd sz enc h v l):(∃ a n c,v = .slice a n c)∧(v ≠ .slice none 0 0→∃ a n c,v = .slice (some a) n c):=by
 rcases r.is with ⟨rfl,_⟩ | ⟨b,off,sp,cap,c,ro,rfl,_⟩
 ·exact ⟨⟨_,_,_,rfl⟩,fun h => absurd rfl h⟩
 ·exact ⟨⟨_,_,_,rfl⟩,fun _ => ⟨_,_,_,rfl⟩⟩
theorem RdNO.movable {α : Type} {sz m:Nat} {hd:α → List Value} {cs:α → List Int} (hf:∀ a,(hd a).all Vw=true) (hsz:∀ a,(hd a).length+1=sz) (l:List α) :
  Movable m (fun h v => RdNO m sz hd cs h v l):=by
 refine ⟨fun ρ h h' d v v' hm hv ⟨⟨lv,h1,h2,h3⟩⟩ => ?_,fun h v ⟨⟨lv,h1,h2,h3⟩⟩ => Row.noy h2.rd 0⟩
 by_cases hl:l=[]
 ·subst hl
  have:lv=[]:=by simpa using h1
  subst this
  refine ⟨⟨[],rfl,⟨by simp,by simp,?_⟩,by simp⟩⟩
  rcases h2.is with ⟨rfl,_⟩ | ⟨b,off,sp,cap,c,hge,rfl,hb,hle,hc,hcap,hsp⟩
  ·simp only [A6,OI] at hv;exact .inl ⟨hv.symm,rfl⟩
  ·simp only [A6] at hv
   cases hρ : ρ b with
   | none => rw [hρ] at hv;cases hv
   | some b' =>
    rw [hρ] at hv
    simp only [Option.map_some,OI] at hv
    subst hv
    obtain ⟨x,hx,hb'⟩:=hm.new b b' hge hρ
    rw [List.getD_eq_getElem?_getD,hb] at hx
    simp only [Option.getD_some,Qi,Bool.false_eq_true,if_false] at hx
    cases hcm:c.mapM (A6 ρ 4) with
    | none => rw [hcm] at hx;cases hx
    | some c' =>
     rw [hcm] at hx
     simp only [Option.map_some,OI] at hx
     subst hx
     exact .inr ⟨b',off,sp,cap,c',hm.ge b b' hge hρ,rfl,hb',by rw [Pp hcm];exact hle,by simp,hcap,hsp⟩
 ·have hlv:lv≠[]:=by intro e;subst e;exact hl (by simpa using h1.symm)
  have hsv:=h2.rd.shape
  rcases h2.is with ⟨_,e⟩ | ⟨b,off,sp,cap,c,hge,rfl,hb,hle,hc,hcap,hsp⟩
  ·exact absurd (by simpa using e) hlv
  ·simp only [A6] at hv
   cases hρ : ρ b with
   | none => rw [hρ] at hv;cases hv
   | some b' =>
    rw [hρ] at hv
    simp only [Option.map_some,OI] at hv
    subst hv
    obtain ⟨x,hx,hb'⟩:=hm.new b b' hge hρ
    rw [List.getD_eq_getElem?_getD,hb] at hx
    simp only [Option.getD_some,Qi,Bool.false_eq_true,if_false] at hx
    cases hcm:c.mapM (A6 ρ 4) with
    | none => rw [hcm] at hx;cases hx
    | some c' =>
     rw [hcm] at hx
     simp only [Option.map_some,OI] at hx
     subst hx
     have hcut:=Abq hcm off ((lv.map (Ia hd)).length * sz) hle
     rw [hc] at hcut
     obtain ⟨lw,e1,e2,e3,e4⟩:=Kv hf lv hcut
     have el:(lw.map (Ia hd)).length=(lv.map (Ia hd)).length:=by simp [e3]
     refine ⟨⟨lw,by rw [e1,h1],⟨fun e he => by obtain ⟨p,_,rfl⟩:=List.mem_map.1 he;simp [Ia,hsz],by rw [el];exact h2.few,.inr ⟨b',off,sp,cap,c',hm.ge b b' hge hρ,by rw [el],hb',by rw [el,Pp hcm];exact hle,by rw [el];exact e2,by rw [el];exact hcap,hsp⟩⟩,fun q hq => ?_⟩⟩
     obtain ⟨p,hp,e5,e6⟩:=e4 q hq
     obtain ⟨r1,r2⟩:=h3 p hp
     have hs:=r1.shape
     have hb2:=A1b hs.1 e6
     rw [e5]
     refine ⟨(Row.moved hm e6 r1).1 (Wf Aeo _),fun hn he => ?_⟩
     have hn':p.v ≠ .slice none 0 0:=fun e => hn (hb2.1.1 e)
     have h5:=hb2.2 hn' (hs.2 hn')
     have h6:ρ b=some (blk q.v):=by rw [he];exact hρ
     exact r2 hn' (hm.one h5 h6)
namespace RdNO
variable {α : Type} {m sz:Nat} {hd:α → List Value} {cs:α → List Int} {h h':Aa} {v:Value} {l:List α}
theorem rd (o:RdNO m sz hd cs h v l):RdN sz hd cs h v l:=by
 obtain ⟨lv,h1,h2,h3⟩:=o.is
 exact ⟨lv,h1,h2.rd,fun p hp => (h3 p hp).1⟩
theorem pre (o:RdNO m sz hd cs h v l) (p:Pre h h'):RdNO m sz hd cs h' v l:=by
 obtain ⟨lv,h1,h2,h3⟩:=o.is
 exact ⟨lv,h1,h2.pre p,fun q hq => ⟨(h3 q hq).1.pre p,(h3 q hq).2⟩⟩
end RdNO
end Go.L
namespace Go.L
open Go
theorem Oo {a:Addr}:binOp .eql .ptr (.pointer (some a)) (.pointer none)=some (.bool false):=rfl
theorem A1c:binOp .eql .ptr (.pointer none) (.pointer none)=some (.bool true):=rfl
theorem Acq {a:Addr}:binOp .neq .ptr (.pointer (some a)) (.pointer none)=some (.bool true):=rfl
theorem Aka:binOp .neq .ptr (.pointer none) (.pointer none)=some (.bool false):=rfl
theorem A3a {b o n cap:Nat} {k:IntKind} {x:Int} (h1:0≤x) (h2:x≤n) (h3:n≤cap):Qa 1 (.slice (some ⟨b,o,none⟩) n cap) (some (.int k x)) none none=some (.slice (some ⟨b,o+x.toNat,none⟩) (n - x.toNat) (cap - x.toNat)):=by
 simp [Qa,De,h1,h2,h3]
theorem Azo {b o n cap:Nat} {k:IntKind} {x:Int} (h1:0≤x) (h2:x≤cap):Qa 1 (.slice (some ⟨b,o,none⟩) n cap) none (some (.int k x)) none=some (.slice (some ⟨b,o,none⟩) x.toNat cap):=by
 have:x.toNat≤cap:=by omega
 simp [Qa,De,h1,h2,this]
theorem Atx {b o n cap:Nat} {k k':IntKind} {x y:Int} (h1:0≤x) (h2:x≤y) (h3:y≤cap):Qa 1 (.slice (some ⟨b,o,none⟩) n cap) (some (.int k x)) (some (.int k' y)) none=some (.slice (some ⟨b,o+x.toNat,none⟩) (y.toNat - x.toNat) (cap - x.toNat)):=by
 have h4:y.toNat≤cap:=by omega
 have h5:x≤(y.toNat:Int):=by omega
 simp [Qa,De,h1,h3,h4,h5,show 0≤y by omega,show x≤max y 0 by omega]
theorem Aty {b o n cap:Nat} {k k':IntKind} {x y:Int} (h1:0≤x) (h2:x≤y) (h3:y≤cap):Qa 1 (.slice (some ⟨b,o,none⟩) n cap) none (some (.int k x)) (some (.int k' y))=some (.slice (some ⟨b,o,none⟩) x.toNat y.toNat):=by
 have h5:x≤(y.toNat:Int):=by omega
 simp [Qa,De,h1,h3,h5,show 0≤y by omega,show x≤max y 0 by omega]
theorem Azm {k:IntKind}:Qa 1 (.slice none 0 0) (some (.int k 0)) none none=some (.slice none 0 0):=rfl
theorem Azn {k:IntKind}:Qa 1 (.slice none 0 0) none (some (.int k 0)) none=some (.slice none 0 0):=rfl
theorem Yo:∀ (cs c:List Value) (o:Nat),o+cs.length≤c.length→setCells c o cs=c.take o++cs++c.drop (o+cs.length)
 | [],c,o,h => by simp [Jm]
 | v :: r,c,o,h => by
  simp only [List.length_cons] at h
  rw [F3,Yo r (c.set o v) (o+1) (by rw [List.length_set];omega)]
  have e1:(c.set o v).take (o+1)=c.take o++[v]:=by
   apply List.ext_getElem?
   intro i
   rw [List.getElem?_take]
   by_cases hi:i<o
   ·rw [if_pos (by omega),List.getElem?_set_ne (by omega),GL (by simp;omega),List.getElem?_take,if_pos hi]
   ·by_cases e:i=o
    ·subst e
     rw [if_pos (by omega),List.getElem?_set_self (by omega),List.getElem?_append_right (by simp;omega)]
     simp [Nat.min_eq_left (show i≤c.length by omega)]
    ·rw [if_neg (by omega),List.getElem?_eq_none (by simp;omega)]
  have e2:(c.set o v).drop (o+1+r.length)=c.drop (o+(r.length+1)):=by
   rw [List.drop_set_of_lt (by omega)]
   congr 1;omega
  rw [e1,e2]
  simp
theorem Zs {W:Nat→Prop} {h:Aa} {b n cap:Nat} {c new:List Value} {x:Value} {Q:Value→Aa→Prop} (hb:h[b]? = some (.cells c false)) (hlen:cap≤c.length) (hn:n+new.length≤cap) (hcap:cap≤1073741824) (hx:cellsOf 1 x h=some (new.length,new)) (hW:W b)
  (hq:Q (.slice (some ⟨b,0,none⟩) (n+new.length) cap) (h.set b (.cells (c.take n++new++c.drop (n+new.length)) false))) :
  WX W (Cn 1 8 (.slice (some ⟨b,0,none⟩) n cap) x h) Q:=by
 have hs:cellsOf 1 (.slice (some ⟨b,0,none⟩) n cap) h=some (n,(c.drop 0).take (n * 1)):=by
  rw [Ci,hb,Ff,if_pos (by show 0+n * 1≤c.length;omega)]
 by_cases h0:new.length=0
 ·have e:new=[]:=List.length_eq_zero_iff.1 h0
  subst e
  simp only [List.length_nil,Nat.add_zero,List.append_nil,List.take_append_drop] at hq
  rw [Ds hb] at hq
  refine ⟨.slice (some ⟨b,0,none⟩) n cap,h,[],?_,(fun b hb => nomatch hb),hq⟩
  have hf:Aw5 n (.slice (some ⟨b,0,none⟩) n cap)=true:=by simp only [Aw5];simp only [List.length_nil] at hn;simp;omega
  simp only [Cn,hx,hs,List.length_nil,if_true,hf]
 ·have hcond:(n+new.length) * 8≤140737488355328∧n+new.length<4611686018427387904∧(1:Nat)≠0∧(8:Nat)≠0:=⟨by omega,by omega,by decide,by decide⟩
  have hc2:0+(n+new.length) * 1≤c.length:=by omega
  have e3:setCells c (0+n * 1) new=c.take n++new++c.drop (n+new.length):=by
   rw [Yo new c (0+n * 1) (by omega)];simp
  refine ⟨_,_,[b],?_,fun y hy => by rw [List.mem_singleton.1 hy];exact hW,hq⟩
  simp only [Cn,hx,hs,h0,if_false,hcond,and_self,if_true,hn,hb,hc2,e3,ne_eq,not_false_eq_true]
structure Stp (F F':Nat→Prop) (h h':Aa):Prop where
 len:h.length≤h'.length
 own:∀ b,F' b→F b∨h.length≤b
 lt:∀ b,F' b→b<h'.length
 keep:∀ b,b<h.length→¬ F b→h'[b]? = h[b]?
theorem Stp.trans {F F' F'':Nat→Prop} {h h' h'':Aa} (a:Stp F F' h h') (b:Stp F' F'' h' h''):Stp F F'' h h'':=by
 refine ⟨Nat.le_trans a.len b.len,fun x hx => ?_,b.lt,fun x hx hn => ?_⟩
 ·rcases b.own x hx with h1 | h1
  ·exact a.own x h1
  ·exact .inr (Nat.le_trans a.len h1)
 ·rw [b.keep x (Nat.lt_of_lt_of_le hx a.len) (fun h1 => by rcases a.own x h1 with h2 | h2;exact hn h2;omega),a.keep x hx hn]
end Go.L
namespace Go.L
variable {E:Env}
open Go
def Tr (h h2 h3:Aa):Prop:=h3=h2∨(h3=h2.take h.length∧∀ b,b<h.length→h2[b]? = h[b]? ∨ Il h.length h2[b]? = true)
theorem Aw2 {h0 h:Aa} {v:Value} {ws:List Nat} (hk:Keeps h0.length h0 h ws) (hv:Ae h0.length 4 v=true) :
  ∃ h' ws',gc h0 v h ws=some (v,h',ws')∧(∀ b∈ws',b∈ws)∧Tr h0 h h':=by
 simp only [gc]
 split
 ·rename_i hf
  rw [if_pos hv]
  refine ⟨h0,[],rfl,by simp,.inr ⟨(hk.take hf).symm,fun b hb => .inl (hk.at_ b hb fun hm => ?_)⟩⟩
  have:b∈ws.filter (fun b => decide (b<h0.length)):=List.mem_filter.2 ⟨hm,by simpa using hb⟩
  rw [hf] at this;cases this
 ·rename_i w r hf
  have hsub:∀ b∈w :: r,b∈ws∧b<h0.length:=fun b hb => by
   rw [← hf,List.mem_filter] at hb;exact ⟨hb.1,by simpa using hb.2⟩
  split
  ·rename_i hall
   refine ⟨_,_,rfl,fun b hb => (hsub b hb).1,.inr ⟨rfl,fun b hb => ?_⟩⟩
   by_cases hm:b∈ws
   ·have:b∈w :: r:=by rw [← hf];exact List.mem_filter.2 ⟨hm,by simpa using hb⟩
    rw [hv,Bool.true_and] at hall
    exact .inr (List.all_eq_true.1 hall b this)
   ·exact .inl (hk.at_ b hb hm)
  ·exact ⟨_,_,rfl,fun b hb => (hsub b hb).1,.inl rfl⟩
theorem A5r (hK:N6 E) {g:FuncId} {c:FnC} (hE:E g = .text c) {sz:Nat} {res:List R} {body:C} (hc:c=⟨sz,res,body⟩) {a b:Array Value} {args:List Value} {h:Aa} {W:Nat→Prop} {Q:Value→Aa→Prop} (hl:(a.toList++args++b.toList).length≤sz)
  (hb:WO W (code (callW E) iterW sz body (Ak (a.toList++args++b.toList) 0) h) (Res res fun v h' => Ae h.length 4 v=true∧∀ h3,Tr h h' h3→Q v h3)) :
  WX W (callW E (.func (.func g) a b) args h) Q:=by
 subst hc
 rw [Qv hE]
 obtain ⟨e,fr,h',ws,he,hw,hq⟩:=hb
 have hk:=Kx hK sz body _ _ _ _ _ _ he
 have hfin:∀ e',Res res (fun v h' => Ae h.length 4 v=true∧∀ h3,Tr h h' h3→Q v h3) e' fr h'→WX W (fin res h (some (e',fr,h',ws))) Q:=by
  intro e' hr
  have key:W1 (M7 fr h' res) (fun vs => Ae h.length 4 (Rh vs)=true∧∀ h3,Tr h h' h3→Q (Rh vs) h3)→WX W (match M7 fr h' res with | some vs => gc h (Rh vs) h' ws | none => none) Q:=by
   rintro ⟨vs,h1,h2,h4⟩
   rw [h1]
   obtain ⟨h5,ws',h6,h7,h8⟩:=Aw2 hk h2
   exact ⟨_,_,_,h6,fun b hb => hw b (h7 b hb),h4 _ h8⟩
  cases e' with
  | exit _ => exact hr.elim
  | normal => exact key hr
  | ret => exact key hr
 simp only [Fz,hl,if_true]
 rw [he]
 exact hfin e hq
theorem Aqq (hK:N6 E) {l:Nat} {r:Ot} {args:List Value} {h:Aa} {fr0:Fr} {W:Nat→Prop} {Rr:Ex→Aa→Prop} (hl:h[l]? = some (.loop r)) (hs:r.state = .ready) (hp:r.pending=none) (hps:r.params.all (fun p => decide (p<r.sz))=true) (hset:setPs r.params args r.fr=some fr0) (hnl:∀ b,W b→b≠l)
  (hb:WO W (code (callW E) iterW r.sz r.assign fr0 h) (fun e fr1 h1 => e = .normal∧WO W (code (callW E) iterW r.sz r.body fr1 (h1.set l (.loop { r with state:=.busy }))) (fun e _ h2 => ∀ h3,Tr h (h2.set l (.loop r)) h3→Rr e h3))) :
  WX (fun b => W b∨b=l) (callW E (.func (.yield l) #[] #[]) args h) (fun v h' => ∃ e h3,Rr e h3∧v = .bool (Kq e).isNone∧h'=match Kq e with | none => h3 | some j => h3.set l (.loop { r with state:=.done,pending:=some j })):=by
 obtain ⟨st,pd,rfr,rsz,rps,ras,rbd⟩:=r
 dsimp only at hs hp hps hset hb
 subst hs hp
 obtain ⟨e1,fr1,h1,ws1,hc1,hw1,rfl,e2,fr2,h2,ws2,hc2,hw2,hR⟩:=hb
 have hk1:=Kx hK _ _ _ _ _ _ _ _ hc1
 have hk2:=Kx hK _ _ _ _ _ _ _ _ hc2
 have hlt:=(GI.1 hl).1
 have hnotin:¬ l∈ws1++ws2:=fun hm => by
  rcases List.mem_append.1 hm with hm | hm
  ·exact hnl l (hw1 l hm) rfl
  ·exact hnl l (hw2 l hm) rfl
 have hkeep:Keeps h.length h (h2.set l (.loop { state:=LoopState.ready,pending:=none,fr:=rfr,sz:=rsz,params:=rps,assign:=ras,body:=rbd:Ot })) (ws1++ws2):=by
  have h1l:h.length≤h1.length:=hk1.len
  rw [List.length_set] at hk2
  refine ⟨by have:=hk2.len;simp only [List.length_set] at this ⊢;omega,fun b hb hnb => ?_⟩
  by_cases e:l=b
  ·subst e
   rw [List.getElem?_set_self (by have:=hk2.len;simp only [List.length_set] at this;omega),hl]
  ·rw [Ba e,hk2.at_ b (by omega) (fun hm => hnb (List.mem_append.2 (.inr hm))),Ba e,hk1.at_ b hb (fun hm => hnb (List.mem_append.2 (.inl hm)))]
 obtain ⟨h5,ws',h6,h7,h8⟩:=Aw2 (v:=.bool (Kq e2).isNone) hkeep rfl
 have hws:∀ b∈ws',W b:=fun b hb => by
  rcases List.mem_append.1 (h7 b hb) with hm | hm
  ·exact hw1 b hm
  ·exact hw2 b hm
 have hcall:callW E (.func (.yield l) #[] #[]) args h=I2 (callW E) iterW l args h:=by
  rw [Nn];simp [J4]
 rw [hcall]
 simp only [I2,hl,hps,if_true,hset,hc1,hc2,hnotin,if_false,h6,Sc]
 cases hlv:Kq e2 with
 | none => exact ⟨_,_,ws',rfl,fun b hb => .inl (hws b hb),e2,h5,hR _ h8,by rw [hlv],by rw [hlv]⟩
 | some j =>
  refine ⟨_,_,l :: ws',rfl,fun b hb => ?_,e2,h5,hR _ h8,by rw [hlv],by rw [hlv]⟩
  rcases List.mem_cons.1 hb with hb | hb
  ·exact .inr hb
  ·exact .inl (hws b hb)
theorem A06 (hK:N6 E) {sz:Nat} {fr:Fr} {h:Aa} {g:X} {ps:List Nat} {assign body:C} {W W':Nat→Prop} {Q:Ex→Fr→Aa→Prop} {f:FuncId} {a b:Array Value} (hg:ev (get fr) g = .func (.func f) a b) (hW:∀ x,W' x→x<h.length→W x)
  (hc:WX W' (callW E (.func (.func f) a b) [.func (.yield h.length) #[] #[]] (h++[.loop { state:=.ready,pending:=none,fr,sz,params:=ps,assign,body }])) (fun _ h' => ∃ r,h'[h.length]? = some (.loop r)∧r.state ≠ .busy∧∀ h3,Tr h (h'.set h.length .dead) h3→Q (match r.pending with | none => .normal | some none => .ret | some (some id) => .exit id) fr h3)) :
  WO W (code (callW E) iterW sz (.rng g ps assign body) fr h) Q:=by
 obtain ⟨v,h',ws,hcall,hw,r,hr,hst,hq⟩:=hc
 have hk:=Ve hK _ _ _ _ _ _ hcall
 have hkeep:Keeps h.length h (h'.set h.length .dead) ws:=by
  simp only [LA,List.length_cons,List.length_nil] at hk
  refine ⟨by have:=hk.len;simp only [LA,List.length_cons,List.length_nil,List.length_set] at this ⊢;omega,fun x hx hnx => ?_⟩
  rw [Ba (by omega),hk.at_ x (by omega) hnx,GL hx]
 obtain ⟨h5,ws',h6,h7,h8⟩:=Aw2 (v:=undef) hkeep rfl
 have hws:∀ x∈ws',x<h.length:=fun x hx => by
  simp only [gc] at h6
  split at h6
  ·split at h6
   ·cases h6;cases hx
   ·simp [Ae,undef] at *
  ·rename_i w r' hf
   have:∀ y∈w :: r',y<h.length:=fun y hy => by rw [← hf,List.mem_filter] at hy;simpa using hy.2
   split at h6<;>(cases h6;exact this x hx)
 have hfc:J1 (callW E) (ev (get fr) g)=callW E (.func (.func f) a b):=by
  rw [hg];rfl
 have hcode:code (callW E) iterW sz (.rng g ps assign body) fr h=Ft h fr (J1 (callW E) (ev (get fr) g) [.func (.yield h.length) #[] #[]] (h++[.loop { state:=.ready,pending:=none,fr,sz,params:=ps,assign,body }])):=rfl
 rw [hcode,hfc,hcall]
 simp only [Ft,hr]
 have hW2:∀ x∈ws',W x:=fun x hx => hW x (hw x (h7 x hx)) (hws x hx)
 cases hs:r.state with
 | busy => exact absurd hs hst
 | _ =>
  simp only [h6]
  cases hp:r.pending with
  | none => rw [hp] at hq;exact ⟨_,_,_,_,rfl,hW2,hq _ h8⟩
  | some j => cases j with
   | none => rw [hp] at hq;exact ⟨_,_,_,_,rfl,hW2,hq _ h8⟩
   | some id => rw [hp] at hq;exact ⟨_,_,_,_,rfl,hW2,hq _ h8⟩
namespace Own
variable {m sz:Nat} {h h':Aa} {v:Value} {L:List (List Value)}
theorem append' (o:Own m sz h v L) (hmh:m≤h.length) {bytes:Nat} {x:Value} {X:List (List Value)} (hx:cellsOf sz x h=Option.some (X.length,X.flatten)) (hX:X≠[]) (hs:∀ e∈X,e.length=sz) (hsz:sz≠0) (hby:bytes≠0)
  (hb:(L.length+X.length) * bytes≤140737488355328):∃ h' ws v',Cn sz bytes v x h = .some (v',h',ws)∧(∀ b∈ws,L≠[]∧b=blk v)∧Own m sz h' v' (L++X)∧blk v'=h.length∧h'.length=h.length+1∧∀ b,b<h.length→(L≠[]→b≠blk v)→h'[b]? = h[b]?:=by
 have hle:L.length+X.length≤(L.length+X.length) * bytes:=Nat.le_mul_of_pos_right _ (by omega)
 have hXn:X.length≠0:=by intro e;exact hX (List.length_eq_zero_iff.1 e)
 have hsLX:∀ e∈L++X,e.length=sz:=by
  intro e he
  rcases List.mem_append.1 he with he | he
  ·exact o.row.size e he
  ·exact hs e he
 have hcond:(L.length+X.length) * bytes≤140737488355328∧L.length+X.length<4611686018427387904∧sz≠0∧bytes≠0:=⟨hb,by omega,hsz,hby⟩
 cases o with
 | nil =>
  refine ⟨h++[.cells X.flatten false],[],.slice (.some ⟨h.length,0,.some sz⟩) X.length X.length,?_,(fun b hb => nomatch hb),?_,rfl,by simp,fun b hlt _ => GL hlt⟩
  ·simp only [List.length_nil,Nat.zero_add] at hcond
   have hc:cellsOf sz (.slice none 0 0) h=Option.some (0,[]):=rfl
   simp only [Cn,hx,hc,if_true,hXn,if_false,Nat.zero_add,hcond,and_self,ne_eq,not_false_eq_true,List.nil_append]
  ·simp only [List.nil_append]
   exact .some hmh (by rw [Bm];rfl) hs (by simp at hb hle;omega) hX
 | some hm hb' hsL hf hn =>
  rename_i b
  have hlt:=(GI.1 hb').1
  refine ⟨h.set b .dead++[.cells (L.flatten++X.flatten) false],[b],.slice (.some ⟨h.length,0,.some sz⟩) (L.length+X.length) (L.length+X.length),?_,fun x hx => ⟨hn,List.mem_singleton.1 hx⟩,?_,rfl,by simp,fun x hlt' hne => ?_⟩
  ·have hc:cellsOf sz (.slice (.some ⟨b,0,.some sz⟩) L.length L.length) h = .some (L.length,L.flatten):=by
    rw [Ci,hb',Ff,Ef hsL,if_pos (by show 0+_≤_;omega),List.drop_zero,← Ef hsL,List.take_length]
   simp only [Cn,hx,hc,hXn,if_false,hcond,and_self,if_true,hb',ne_eq,not_false_eq_true]
  ·rw [← LA]
   refine .some hmh ?_ hsLX (by rw [LA];omega) (by simp [hX])
   rw [List.getElem?_append_right (by simp),List.length_set,Nat.sub_self,List.flatten_append];rfl
  ·have:=hne hn
   simp only [blk] at this
   rw [GL (by simpa using hlt'),Ba (Ne.symm this)]
end Own
theorem Afb {α : Type} {W:Nat→Prop} {m sz:Nat} {enc:α → List Value} {h0 h:Aa} {v:Value} {l:List α} (o:OwnT m sz enc h v l) (hp:Pre h0 h) (hm:h0.length≤m) (hmh:m≤h.length) (hW:l≠[]→W (blk v)) {bytes:Nat} {x:Value} (a:α) {Q:Value→Aa→Prop}
  (hx:cellsOf sz x h=some (1,enc a)) (hs:(enc a).length=sz) (hsz:sz≠0) (hby:bytes≠0) (hb:(l.length+1) * bytes≤140737488355328)
  (hq:∀ v' h',OwnT m sz enc h' v' (l++[a])→Pre h0 h'→blk v'=h.length→h'.length=h.length+1→(∀ b,b<h.length→(l≠[]→b≠blk v)→h'[b]? = h[b]?)→Q v' h'):WX W (Cn sz bytes v x h) Q:=by
 obtain ⟨h',ws,v',h1,h2,h3,h4,h5,h6⟩:=Own.append' o hmh (X:=[enc a]) (by simpa using hx) (by simp) (by simpa using hs) hsz hby (by simpa using hb)
 refine ⟨v',h',ws,h1,fun b hb => ?_,hq v' h' (by unfold OwnT;simpa using h3) (hp.of_keep hm o h6) h4 h5 fun b hb hn => h6 b hb fun hl => hn fun e => hl (by simp [e])⟩
 obtain ⟨hl,rfl⟩:=h2 b hb
 exact hW fun e => hl (by simp [e])
theorem Az4 {α : Type} {m sz:Nat} {enc:α → List Value} {h:Aa} {l:List α} (o:OwnT m sz enc h (.slice none 0 0) l):l=[]:=by
 unfold OwnT at o
 generalize hL:l.map enc=L at o
 cases o with
 | nil => simpa using hL
theorem Ad0 {α : Type} {m sz n:Nat} {enc:α → List Value} {h:Aa} {v:Value} {l:List α} (o:OwnT m sz enc h v l) (hl:l≠[]) (hn:Il n (some (.cells [v] false))=true):blk v<n:=by
 have hl':l.map enc≠[]:=by simpa using hl
 unfold OwnT at o
 generalize l.map enc=L at o hl'
 cases o with
 | nil => exact absurd rfl hl'
 | some hm hb hs hf hn2 => simp only [blk];simpa [Il,Ae] using hn
end Go.L
