/- ITERATORS: what one tells; a loop over one that keeps its account in one variable. -/
import Derived.Test.YtnanlkamcgihlaaDoorVb
set_option linter.unusedVariables false
set_option linter.unusedSimpArgs false
namespace Go.L
open Go
variable {E:Env}
def Ale (E:Env) (g:Value) (base:Aa → Prop) (vals:List (List Value)):Prop :=
 ∀ (h1:Aa) (L:Nat) (W:Nat → Prop) (J:Nat → Aa → Prop) (Stop:Aa → Prop),(∀ k h,J k h → h.length = h1.length ∧ base h) → J 0 h1 → (∀ h,Stop h → h.length = h1.length) →
  (∀ k h a,vals[k]? = some a → J k h → WX W (callW E (.func (.yield L) #[] #[]) a h) (fun v h' => (v = .bool true ∧ J (k + 1) h') ∨ (v = .bool false ∧ Stop h'))) →
  WX W (callW E g [.func (.yield L) #[] #[]] h1) (fun _ h' => J vals.length h' ∨ Stop h')
theorem I6 {m:Nat} {v:Value} (h:U6 v = true):F9 m (some (.cells [v] false)) = true:=by
 cases v <;> first | rfl | cases h
theorem Avm (hK:No E) {sz:Nat} {fr:Fr} {H:Aa} {g:X} {ps:List Nat} {assign body:C} {W:Nat → Prop} {Q:Ex → Fr → Aa → Prop} {f:FuncId} {ca cb:Array Value} {base:Aa → Prop} {vals:List (List Value)}
  (hg:ev (get fr) g = .func (.func f) ca cb) (hI:Ale E (.func (.func f) ca cb) base vals) {c:Nat} (hcl:c < H.length) (hWc:W c) (acc:Nat → Value) (hs:∀ k,U6 (acc k) = true) (h0:H[c]? = some (.cells [acc 0] false))
  (hps:ps.all (fun p => decide (p < sz)) = true) (hbase:∀ hh:Aa,H.length ≤ hh.length → (∀ b,b < H.length → b ≠ c → hh[b]? = H[b]?) → base hh)
  (hstep:∀ k a,vals[k]? = some a → ∃ fr0,setPs ps a fr = some fr0 ∧ ∀ hh:Aa,hh.length = H.length + 1 → hh[c]? = some (.cells [acc k] false) → (∀ b,b < H.length → b ≠ c → hh[b]? = H[b]?) →
   WO (fun b => b = c ∨ H.length < b) (code (callW E) iterW sz assign fr0 hh) (fun e fr1 h1 => e = .normal ∧ ∃ zs,h1 = hh ++ zs ∧ ∀ hh2:Aa,hh2.length = H.length + 1 → hh2[c]? = some (.cells [acc k] false) → (∀ b,b < H.length → b ≠ c → hh2[b]? = H[b]?) →
    WO (fun b => b = c ∨ H.length < b) (code (callW E) iterW sz body fr1 (hh2 ++ zs)) (fun e2 _ h2 => e2 = .normal ∧ ∃ ys,h2 = hh2.set c (.cells [acc (k + 1)] false) ++ ys)))
  (hend:Q .normal fr (H.set c (.cells [acc vals.length] false))) :
  WO W (code (callW E) iterW sz (.rng g ps assign body) fr H) Q:=by
 refine Avi hK (W':=fun b => b = c ∨ H.length ≤ b) hg (fun x hx a2 => by rcases hx with rfl | hx;exact hWc;omega) ?_
 generalize hLr:LObj.loop _ = lo
 have l:∀ k,((H ++ [lo]).set c (.cells [acc k] false)).length = H.length + 1 ∧ ((H ++ [lo]).set c (.cells [acc k] false))[c]? = some (.cells [acc k] false) ∧ ∀ b,b < H.length → b ≠ c → ((H ++ [lo]).set c (.cells [acc k] false))[b]? = H[b]?:=fun k => by
  refine ⟨by simp,Bq (by simp;omega),fun b j n => ?_⟩
  rw [An (Ne.symm n),GL j]
 refine WX.mono (hI (H ++ [lo]) H.length (fun b => b = c ∨ H.length ≤ b) (fun k hh => hh = (H ++ [lo]).set c (.cells [acc k] false)) (fun _ => False) ?_ ?_ (fun _ hf => hf.elim) ?_) (fun b j => j) ?_
 ·rintro k hh rfl
  obtain ⟨a,b,d⟩:=l k
  exact ⟨by simp,hbase _ (by rw [a];omega) d⟩
 ·exact (Dw (by rw [GL hcl];exact h0)).symm
 ·rintro k hh a ha rfl
  obtain ⟨fr0,r,s⟩:=hstep k a ha
  obtain ⟨g1,t,z⟩:=l k
  have hL:((H ++ [lo]).set c (.cells [acc k] false))[H.length]? = some lo:=by rw [An (by omega),Bh];rfl
  have hA:=s _ g1 t z
  have o:((H ++ [lo]).set c (.cells [acc k] false)).set c (.cells [acc (k + 1)] false) = (H ++ [lo]).set c (.cells [acc (k + 1)] false):=List.set_set ..
  generalize (H ++ [lo]).set c (.cells [acc k] false) = hh at *
  subst hLr
  refine WX.mono (Afe hK (W:=fun b => b = c ∨ H.length < b) (Rr:=fun e u => e = .normal ∧ u = hh.set c (.cells [acc (k + 1)] false)) hL rfl rfl hps r (fun b j => by omega) ?_) (fun b j => by omega) ?_
  ·refine hA.mono (fun b j => j) ?_
   rintro e fr1 h1 ⟨rfl,zs,rfl,hB⟩
   refine ⟨rfl,?_⟩
   have m:∀ x:LObj,(hh ++ zs).set H.length x = hh.set H.length x ++ zs:=fun x => by rw [List.set_append_left _ _ (by omega)]
   rw [m]
   refine (hB (hh.set H.length _) (by rw [List.length_set];exact g1) (by rw [An (by omega)];exact t) (fun b j n => by rw [An (by omega)];exact z b j n)).mono (fun b j => j) ?_
   rintro e2 a1 h2 ⟨rfl,ys,rfl⟩
   have a0:∀ (x y:LObj),(((hh.set H.length x).set c y) ++ ys).length = hh.length + ys.length:=fun x y => by simp
   refine ⟨fun b j hw => ?_,rfl,?_⟩
   ·rcases hw with rfl | hw
    ·rw [GL (by simp;omega),Bq (by simp;omega)]
     exact I6 (hs _)
    ·omega
   ·rw [List.set_append_left _ _ (by simp;omega),Afs hL (by omega),List.take_left' (by simp)]
  ·rintro v h' ⟨e,u,⟨rfl,rfl⟩,rfl,rfl⟩
   exact .inl ⟨rfl,o⟩
 ·rintro v h' (rfl | hf)
  ·refine ⟨_,by rw [An (by omega),Bh,← hLr];rfl,by simp,?_,?_⟩
   ·rintro b j (rfl | hw)
    ·rw [Bq (by simp;omega)];exact I6 (hs _)
    ·omega
   ·have e:((H ++ [lo]).set c (.cells [acc vals.length] false)).take H.length = H.set c (.cells [acc vals.length] false):=by
     rw [List.set_append_left _ _ hcl,List.take_left' (by simp)]
    rw [e];exact hend
  ·exact hf.elim
def Clo2 (m:Nat) (f:FuncId) (R1 R2:Aa → Value → Prop) (h:Aa) (v:Value):Prop:=∃ b1 b2 u1 u2,v = .func (.func f) #[] #[.pointer (some ⟨b1,0,none⟩),.pointer (some ⟨b2,0,none⟩)] ∧ (m ≤ b1 ∧ m ≤ b2) ∧ (h[b1]? = some (.cells [u1] false) ∧ h[b2]? = some (.cells [u2] false)) ∧ R1 h u1 ∧ R2 h u2
theorem Clo2.movable {m:Nat} {f:FuncId} {R1 R2:Aa → Value → Prop} (h1:Movable m R1 1) (h2:Movable m R2 1):Movable m (Clo2 m f R1 R2) 2:=by
 refine ⟨fun ρ h h' d v v' hm hv ⟨r,t,u1,u2,e,⟨g,j⟩,⟨y,p⟩,hr1,hr2⟩ => ?_,fun h v ⟨r,t,u1,u2,e,_⟩ => by subst e;rfl⟩
 subst e
 cases d with
 | zero => simp [A7,List.mapM_cons] at hv
 | succ d =>
  simp only [A7,List.mapM_nil,List.mapM_cons] at hv
  cases hρ1:ρ r with
  | none => simp [hρ1] at hv
  | some c1 =>
   cases hρ2:ρ t with
   | none => simp [hρ1,hρ2] at hv
   | some c2 =>
    simp [hρ1,hρ2] at hv
    subst hv
    have l:∀ {b c:Nat} {u:Value} {R:Aa → Value → Prop},m ≤ b → ρ b = some c → h[b]? = some (.cells [u] false) → R h u → Movable m R 1 → ∃ a,h'[c]? = some (.cells [a] false) ∧ R h' a:=by
     intro b c u R s hρ hb hr hR
     obtain ⟨o,n,x⟩:=hm.new b c s hρ
     rw [List.getD_eq_getElem?_getD,hb] at n
     simp only [Option.getD_some,Og,Bool.false_eq_true,if_false,List.mapM_cons,List.mapM_nil] at n
     cases hu:A7 ρ 4 u with
     | none => simp [hu] at n
     | some a =>
      simp [hu] at n
      subst n
      exact ⟨a,x,hR.move ρ h h' 3 u a hm hu hr⟩
    obtain ⟨w1,z,k2⟩:=l g hρ1 y hr1 h1
    obtain ⟨w2,k3,k4⟩:=l j hρ2 p hr2 h2
    exact ⟨c1,c2,w1,w2,rfl,⟨hm.ge r c1 g hρ1,hm.ge t c2 j hρ2⟩,⟨z,k3⟩,k2,k4⟩
end Go.L
namespace Go.L
open Go
structure RowO (m sz:Nat) (h:Aa) (v:Value) (L:List (List Value)):Prop where
 size:∀ e ∈ L,e.length = sz
 few:L.length < 1152921504606846976
 is:(v = .slice none 0 0 ∧ L = []) ∨ ∃ b off sp cap c,m ≤ b ∧ v = .slice (some ⟨b,off,sp⟩) L.length cap ∧ h[b]? = some (.cells c false) ∧ off + L.length * sz ≤ c.length ∧ (c.drop off).take (L.length * sz) = L.flatten ∧ L.length ≤ cap ∧ (sp = none ∨ sp = some sz)
namespace RowO
variable {m sz:Nat} {h h':Aa} {v:Value} {L:List (List Value)}
theorem row (o:RowO m sz h v L):Row sz h v L:=by
 refine ⟨o.size,o.few,?_⟩
 rcases o.is with d | ⟨b,off,j,a,c,_,d,h2,e,f,g,l⟩
 ·exact .inl d
 ·exact .inr ⟨b,off,j,a,c,false,d,h2,e,f,g,l⟩
theorem keep (o:RowO m sz h v L) (hk:L ≠ [] → h'[blk v]? = h[blk v]?):RowO m sz h' v L ∨ L = []:=by
 by_cases d:L = []
 ·exact .inr d
 ·refine .inl ⟨o.size,o.few,?_⟩
  rcases o.is with h1 | ⟨b,off,l,a,c,f,rfl,h2,e,g,j,n⟩
  ·exact .inl h1
  ·refine .inr ⟨b,off,l,a,c,f,rfl,?_,e,g,j,n⟩
   have:=hk d
   simp only [blk] at this
   rw [this];exact h2
theorem pre (o:RowO m sz h v L) (p:Pre h h'):RowO m sz h' v L:=by
 refine ⟨o.size,o.few,?_⟩
 rcases o.is with d | ⟨b,off,l,a,c,f,d,h2,e,g,j,n⟩
 ·exact .inl d
 ·exact .inr ⟨b,off,l,a,c,f,d,p _ _ h2,e,g,j,n⟩
theorem less (o:RowO m sz h v L) {m':Nat} (hm:m' ≤ m):RowO m' sz h v L:=by
 refine ⟨o.size,o.few,?_⟩
 rcases o.is with d | ⟨b,off,j,a,c,n,d,h2,e,f,g,l⟩
 ·exact .inl d
 ·exact .inr ⟨b,off,j,a,c,by omega,d,h2,e,f,g,l⟩
theorem ge (o:RowO m sz h v L) (hn:L ≠ []):m ≤ blk v ∧ blk v < h.length:=by
 rcases o.is with ⟨_,a⟩ | ⟨b,off,f,e,c,d,rfl,h2,_⟩
 ·exact absurd a hn
 ·exact ⟨d,(GI.1 h2).1⟩
end RowO
theorem Own.rowO {m sz:Nat} {h:Aa} {v:Value} {L:List (List Value)} (o:Own m sz h v L):RowO m sz h v L:=by
 cases o with
 | nil => exact ⟨by simp,by simp,.inl ⟨rfl,rfl⟩⟩
 | some c a hs hf hn => exact ⟨hs,hf,.inr ⟨_,0,_,_,_,c,rfl,a,by rw [Ee hs];omega,by rw [List.drop_zero,← Ee hs,List.take_length],Nat.le_refl _,.inr rfl⟩⟩
theorem Ax4 {α : Type} (c:List α) (off n k:Nat) (x:α) (hk:k < n):((c.set (off + k) x).drop off).take n = ((c.drop off).take n).set k x:=by
 rw [List.drop_set]
 have e:¬ off + k < off:=by omega
 rw [if_neg e,Nat.add_sub_cancel_left,List.take_set]
theorem Awd {W:Nat → Prop} {m sz:Nat} {h:Aa} {v:Value} {L:List (List Value)} (o:RowO m sz h v L) (hW:∀ b,m ≤ b → W b) {i:Int} {fo:Nat} {x:Value} {Q:Aa → Prop} (h1:0 ≤ i) (h2:i < L.length) (hf:fo < sz) (hx:Ag x = true)
  (hq:∀ h',RowO m sz h' v (L.set i.toNat ((L.getD i.toNat []).set fo x)) → h'.length = h.length → (∀ b,b ≠ blk v → h'[b]? = h[b]?) → Q h'):WH W (stO 1 h (blk v) (ofs v + i.toNat * sz + fo) [x] h[blk v]?) Q:=by
 rcases o.is with ⟨_,e⟩ | ⟨b,off,sp,j,c,r,rfl,s,z,u,f,l⟩
 ·subst e;simp at h2;omega
 ·have t:i.toNat < L.length:=by omega
  have p:i.toNat * sz + fo < L.length * sz:=by
   have:=Nat.mul_le_mul_right sz (show i.toNat + 1 ≤ L.length by omega)
   rw [Nat.succ_mul] at this;omega
  have d:[x].length = 1 ∧ off + i.toNat * sz + fo + 1 ≤ c.length ∧ [x].all Ag = true:=⟨rfl,by omega,by simp [hx]⟩
  refine ⟨h.set b (.cells (c.set (off + i.toNat * sz + fo) x) false),[b],?_,fun y n => by rw [List.mem_singleton.1 n];exact hW b r,?_⟩
  ·simp only [blk,ofs,s,Ml]
   rw [if_pos d,Ack]
  ·have a:(L.set i.toNat ((L.getD i.toNat []).set fo x)).length = L.length:=List.length_set ..
   refine hq _ ?_ (by simp) (fun y n => An (Ne.symm n))
   refine ⟨fun e g => ?_,by rw [a];exact o.few,.inr ⟨b,off,sp,j,c.set (off + i.toNat * sz + fo) x,r,by rw [a],?_,?_,?_,by rw [a];exact f,l⟩⟩
   ·rcases List.mem_or_eq_of_mem_set g with g | rfl
    ·exact o.size e g
    ·rw [List.length_set];exact o.size _ (Row.getD_mem t)
   ·rw [List.getElem?_set_self (GI.1 s).1]
   ·rw [a,List.length_set];exact z
   ·rw [a,Nat.add_assoc,Ax4 _ _ _ _ _ p,u,Sa o.size _ _ _ t hf]
def RdO {α : Type} (m sz:Nat) (enc:α → List Value) (h:Aa) (v:Value) (l:List α):Prop:=RowO m sz h v (l.map enc)
namespace RdO
variable {α : Type} {m sz:Nat} {enc:α → List Value} {h h':Aa} {v:Value} {l:List α}
theorem rd (o:RdO m sz enc h v l):Rd sz enc h v l:=RowO.row o
theorem pre (o:RdO m sz enc h v l) (p:Pre h h'):RdO m sz enc h' v l:=RowO.pre o p
theorem app (o:RdO m sz enc h v l) (x:Aa):RdO m sz enc (h ++ x) v l:=o.pre (Pre.app h x)
theorem less (o:RdO m sz enc h v l) {m':Nat} (hm:m' ≤ m):RdO m' sz enc h v l:=RowO.less o hm
theorem ge (o:RdO m sz enc h v l) (hn:l ≠ []):m ≤ blk v ∧ blk v < h.length:=RowO.ge o (by simpa using hn)
theorem keep (o:RdO m sz enc h v l) (hn:l ≠ []) (hk:h'[blk v]? = h[blk v]?):RdO m sz enc h' v l:=by
 rcases RowO.keep o (h':=h') (fun _ => hk) with h1 | h1
 ·exact h1
 ·exact absurd (by simpa using h1) hn
theorem movable (hf:Alf enc) (l:List α):Movable m (fun h v => RdO m sz enc h v l):=by
 refine ⟨fun ρ h h' d v v' hm hv o => ?_,fun h v o => Row.noy (RowO.row o) 0⟩
 have hr:=(Rd.movable (m:=m) hf l).move ρ h h' d v v' hm hv o.rd
 refine ⟨o.size,o.few,?_⟩
 rcases o.is with ⟨rfl,e⟩ | ⟨b,off,sp,n,c,g,rfl,y,t,z,j,p⟩
 ·simp only [A7,OI] at hv
  exact .inl ⟨hv.symm,e⟩
 ·simp only [A7] at hv
  cases hρ : ρ b with
  | none => rw [hρ] at hv;cases hv
  | some r =>
   rw [hρ] at hv
   simp only [Option.map_some,OI] at hv
   subst hv
   obtain ⟨x,f,s⟩:=hm.new b r g hρ
   rw [List.getD_eq_getElem?_getD,y] at f
   simp only [Option.getD_some,Og,Bool.false_eq_true,if_false] at f
   cases hcm:c.mapM (A7 ρ 4) with
   | none => rw [hcm] at f;cases f
   | some u =>
    rw [hcm] at f
    simp only [Option.map_some,OI] at f
    subst f
    have a:=Aag hcm off ((l.map enc).length * sz) t
    rw [z,O5 (Vo hf l)] at a
    exact .inr ⟨r,off,sp,n,u,hm.ge b r g hρ,rfl,s,by rw [O7 hcm];exact t,(Option.some.inj a).symm,j,p⟩
end RdO
theorem OwnT.rdO {α : Type} {m sz:Nat} {enc:α → List Value} {h:Aa} {v:Value} {l:List α} (o:OwnT m sz enc h v l):RdO m sz enc h v l:=Own.rowO o
theorem Azm {α : Type} [Inhabited α] {W:Nat → Prop} {m sz:Nat} {enc:α → List Value} {h:Aa} {v:Value} {l:List α} (o:RdO m sz enc h v l) (hW:∀ b,m ≤ b → W b) {i:Int} {fo:Nat} {x:Value} {Q:Aa → Prop} (a:α) (h1:0 ≤ i) (h2:i < l.length) (hf:fo < sz) (hx:Ag x = true) (ha:(enc (atI l i)).set fo x = enc a)
  (hq:∀ h',RdO m sz enc h' v (l.set i.toNat a) → h'.length = h.length → (∀ b,b ≠ blk v → h'[b]? = h[b]?) → Q h'):WH W (stO 1 h (blk v) (ofs v + i.toNat * sz + fo) [x] h[blk v]?) Q:=by
 refine Awd o hW h1 (by simpa using h2) hf hx fun h' c => hq h' ?_
 rw [Yv enc l i h1 h2,ha,Ahn] at c
 exact c
theorem Awe {α : Type} [Inhabited α] {W:Nat → Prop} {m sz:Nat} {enc:α → List Value} {h:Aa} {v:Value} {l:List α} (o:RdO m sz enc h v l) (hW:∀ b,m ≤ b → W b) {i:Int} {x:Value} {Q:Aa → Prop} (a:α) (h1:0 ≤ i) (h2:i < l.length) (hf:0 < sz) (hx:Ag x = true) (ha:(enc (atI l i)).set 0 x = enc a)
  (hq:∀ h',RdO m sz enc h' v (l.set i.toNat a) → h'.length = h.length → (∀ b,b ≠ blk v → h'[b]? = h[b]?) → Q h'):WH W (stO 1 h (blk v) (ofs v + i.toNat * sz) [x] h[blk v]?) Q :=
 Azm o hW (fo:=0) a h1 h2 hf hx ha hq
structure RdNO {α : Type} (m sz:Nat) (hd:α → List Value) (cs:α → List Int) (h:Aa) (v:Value) (l:List α):Prop where
 is:∃ lv:List (NV α),lv.map (·.j) = l ∧ RdO m sz (Du hd) h v lv ∧ ∀ p ∈ lv,Rd 1 D7 h p.v (cs p.j) ∧ (p.v ≠ .slice none 0 0 → blk p.v ≠ blk v)
theorem Ayb {ρ : Nat → Option Nat} {v w:Value} {d:Nat} (hv:(∃ a n c,v = .slice a n c)) (hr:A7 ρ (d + 1) v = some w):(v = .slice none 0 0 ↔ w = .slice none 0 0) ∧ (v ≠ .slice none 0 0 → (∃ a n c,v = .slice (some a) n c) → ρ (blk v) = some (blk w)):=by
 obtain ⟨a,n,c,rfl⟩:=hv
 cases a with
 | none => simp only [A7,OI] at hr;subst hr;exact ⟨Iff.rfl,fun _ ⟨_,_,_,e⟩ => by cases e⟩
 | some a =>
  obtain ⟨b,off,f⟩:=a
  simp only [A7] at hr
  cases hρ : ρ b with
  | none => rw [hρ] at hr;cases hr
  | some b' =>
   rw [hρ] at hr
   simp only [Option.map_some,OI] at hr
   subst hr
   exact ⟨⟨fun e => (by cases e),fun e => (by cases e)⟩,fun _ _ => hρ⟩
theorem Rd.shape {α : Type} {sz:Nat} {enc:α → List Value} {h:Aa} {v:Value} {l:List α} (r:Rd sz enc h v l):(∃ a n c,v = .slice a n c) ∧ (v ≠ .slice none 0 0 → ∃ a n c,v = .slice (some a) n c):=by
 rcases r.is with ⟨rfl,_⟩ | ⟨b,off,f,d,c,e,rfl,_⟩
 ·exact ⟨⟨_,_,_,rfl⟩,fun h => absurd rfl h⟩
 ·exact ⟨⟨_,_,_,rfl⟩,fun _ => ⟨_,_,_,rfl⟩⟩
theorem RdNO.movable {α : Type} {sz m:Nat} {hd:α → List Value} {cs:α → List Int} (hf:∀ a,(hd a).all U6 = true) (hsz:∀ a,(hd a).length + 1 = sz) (l:List α) :
  Movable m (fun h v => RdNO m sz hd cs h v l):=by
 refine ⟨fun ρ h h' d v v' hm hv ⟨⟨z,h1,h2,h3⟩⟩ => ?_,fun h v ⟨⟨z,h1,h2,h3⟩⟩ => Row.noy h2.rd 0⟩
 by_cases hl:l = []
 ·subst hl
  have:z = []:=by simpa using h1
  subst this
  refine ⟨⟨[],rfl,⟨by simp,by simp,?_⟩,by simp⟩⟩
  rcases h2.is with ⟨rfl,_⟩ | ⟨b,off,sp,r,c,g,rfl,hb,n,hc,j,t⟩
  ·simp only [A7,OI] at hv;exact .inl ⟨hv.symm,rfl⟩
  ·simp only [A7] at hv
   cases hρ : ρ b with
   | none => rw [hρ] at hv;cases hv
   | some u =>
    rw [hρ] at hv
    simp only [Option.map_some,OI] at hv
    subst hv
    obtain ⟨x,f,y⟩:=hm.new b u g hρ
    rw [List.getD_eq_getElem?_getD,hb] at f
    simp only [Option.getD_some,Og,Bool.false_eq_true,if_false] at f
    cases hcm:c.mapM (A7 ρ 4) with
    | none => rw [hcm] at f;cases f
    | some c' =>
     rw [hcm] at f
     simp only [Option.map_some,OI] at f
     subst f
     exact .inr ⟨u,off,sp,r,c',hm.ge b u g hρ,rfl,y,by rw [O7 hcm];exact n,by simp,j,t⟩
 ·have a1:z ≠ []:=by intro e;subst e;exact hl (by simpa using h1.symm)
  have a2:=h2.rd.shape
  rcases h2.is with ⟨_,e⟩ | ⟨b,off,sp,r,c,g,rfl,hb,n,hc,j,t⟩
  ·exact absurd (by simpa using e) a1
  ·simp only [A7] at hv
   cases hρ : ρ b with
   | none => rw [hρ] at hv;cases hv
   | some u =>
    rw [hρ] at hv
    simp only [Option.map_some,OI] at hv
    subst hv
    obtain ⟨x,f,y⟩:=hm.new b u g hρ
    rw [List.getD_eq_getElem?_getD,hb] at f
    simp only [Option.getD_some,Og,Bool.false_eq_true,if_false] at f
    cases hcm:c.mapM (A7 ρ 4) with
    | none => rw [hcm] at f;cases f
    | some c' =>
     rw [hcm] at f
     simp only [Option.map_some,OI] at f
     subst f
     have o:=Aag hcm off ((z.map (Du hd)).length * sz) n
     rw [hc] at o
     obtain ⟨lw,e1,e2,e3,e4⟩:=Kk hf z o
     have el:(lw.map (Du hd)).length = (z.map (Du hd)).length:=by simp [e3]
     refine ⟨⟨lw,by rw [e1,h1],⟨fun e he => by obtain ⟨p,_,rfl⟩:=List.mem_map.1 he;simp [Du,hsz],by rw [el];exact h2.few,.inr ⟨u,off,sp,r,c',hm.ge b u g hρ,by rw [el],y,by rw [el,O7 hcm];exact n,by rw [el];exact e2,by rw [el];exact j,t⟩⟩,fun q hq => ?_⟩⟩
     obtain ⟨p,hp,e5,e6⟩:=e4 q hq
     obtain ⟨r1,r2⟩:=h3 p hp
     have hs:=r1.shape
     have a0:=Ayb hs.1 e6
     rw [e5]
     refine ⟨(Row.moved hm e6 r1).1 (Vo Add _),fun hn he => ?_⟩
     have s:p.v ≠ .slice none 0 0:=fun e => hn (a0.1.1 e)
     have h5:=a0.2 s (hs.2 s)
     have h6:ρ b = some (blk q.v):=by rw [he];exact hρ
     exact r2 s (hm.one h5 h6)
namespace RdNO
variable {α : Type} {m sz:Nat} {hd:α → List Value} {cs:α → List Int} {h h':Aa} {v:Value} {l:List α}
theorem rd (o:RdNO m sz hd cs h v l):RdN sz hd cs h v l:=by
 obtain ⟨a,d,h2,c⟩:=o.is
 exact ⟨a,d,h2.rd,fun p e => (c p e).1⟩
theorem pre (o:RdNO m sz hd cs h v l) (p:Pre h h'):RdNO m sz hd cs h' v l:=by
 obtain ⟨d,e,h2,a⟩:=o.is
 exact ⟨d,e,h2.pre p,fun q c => ⟨(a q c).1.pre p,(a q c).2⟩⟩
end RdNO
end Go.L
namespace Go.L
open Go
theorem N9 {a:Addr}:binOp .eql .ptr (.pointer (some a)) (.pointer none) = some (.bool false):=rfl
theorem Ayc:binOp .eql .ptr (.pointer none) (.pointer none) = some (.bool true):=rfl
theorem Abd {a:Addr}:binOp .neq .ptr (.pointer (some a)) (.pointer none) = some (.bool true):=rfl
theorem Ai1:binOp .neq .ptr (.pointer none) (.pointer none) = some (.bool false):=rfl
theorem Azz {b o n cap:Nat} {k:IntKind} {x:Int} (h1:0 ≤ x) (h2:x ≤ n) (h3:n ≤ cap):Pp 1 (.slice (some ⟨b,o,none⟩) n cap) (some (.int k x)) none none = some (.slice (some ⟨b,o + x.toNat,none⟩) (n - x.toNat) (cap - x.toNat)):=by
 simp [Pp,Df,h1,h2,h3]
theorem Aw0 {b o n cap:Nat} {k:IntKind} {x:Int} (h1:0 ≤ x) (h2:x ≤ cap):Pp 1 (.slice (some ⟨b,o,none⟩) n cap) none (some (.int k x)) none = some (.slice (some ⟨b,o,none⟩) x.toNat cap):=by
 have:x.toNat ≤ cap:=by omega
 simp [Pp,Df,h1,h2,this]
theorem Ar0 {b o n cap:Nat} {k k':IntKind} {x y:Int} (h1:0 ≤ x) (h2:x ≤ y) (h3:y ≤ cap):Pp 1 (.slice (some ⟨b,o,none⟩) n cap) (some (.int k x)) (some (.int k' y)) none = some (.slice (some ⟨b,o + x.toNat,none⟩) (y.toNat - x.toNat) (cap - x.toNat)):=by
 have a:y.toNat ≤ cap:=by omega
 have c:x ≤ (y.toNat:Int):=by omega
 simp [Pp,Df,h1,h3,a,c,show 0 ≤ y by omega,show x ≤ max y 0 by omega]
theorem Ar1 {b o n cap:Nat} {k k':IntKind} {x y:Int} (h1:0 ≤ x) (h2:x ≤ y) (h3:y ≤ cap):Pp 1 (.slice (some ⟨b,o,none⟩) n cap) none (some (.int k x)) (some (.int k' y)) = some (.slice (some ⟨b,o,none⟩) x.toNat y.toNat):=by
 have a:x ≤ (y.toNat:Int):=by omega
 simp [Pp,Df,h1,h3,a,show 0 ≤ y by omega,show x ≤ max y 0 by omega]
theorem Awy {k:IntKind}:Pp 1 (.slice none 0 0) (some (.int k 0)) none none = some (.slice none 0 0):=rfl
theorem Awz {k:IntKind}:Pp 1 (.slice none 0 0) none (some (.int k 0)) none = some (.slice none 0 0):=rfl
theorem Xl:∀ (cs c:List Value) (o:Nat),o + cs.length ≤ c.length → setCells c o cs = c.take o ++ cs ++ c.drop (o + cs.length)
 | [],c,o,h => by simp [Jd]
 | v :: r,c,o,h => by
  simp only [List.length_cons] at h
  rw [F0,Xl r (c.set o v) (o + 1) (by rw [List.length_set];omega)]
  have d:(c.set o v).take (o + 1) = c.take o ++ [v]:=by
   apply List.ext_getElem?
   intro i
   rw [List.getElem?_take]
   by_cases a:i < o
   ·rw [if_pos (by omega),List.getElem?_set_ne (by omega),GL (by simp;omega),List.getElem?_take,if_pos a]
   ·by_cases e:i = o
    ·subst e
     rw [if_pos (by omega),List.getElem?_set_self (by omega),List.getElem?_append_right (by simp;omega)]
     simp [Nat.min_eq_left (show i ≤ c.length by omega)]
    ·rw [if_neg (by omega),List.getElem?_eq_none (by simp;omega)]
  have f:(c.set o v).drop (o + 1 + r.length) = c.drop (o + (r.length + 1)):=by
   rw [List.drop_set_of_lt (by omega)]
   congr 1;omega
  rw [d,f]
  simp
theorem Yi {W:Nat → Prop} {h:Aa} {b n cap:Nat} {c new:List Value} {x:Value} {Q:Value → Aa → Prop} (hb:h[b]? = some (.cells c false)) (hlen:cap ≤ c.length) (hn:n + new.length ≤ cap) (hcap:cap ≤ 1073741824) (hx:cellsOf 1 x h = some (new.length,new)) (hW:W b)
  (hq:Q (.slice (some ⟨b,0,none⟩) (n + new.length) cap) (h.set b (.cells (c.take n ++ new ++ c.drop (n + new.length)) false))) :
  WX W (B9 1 8 (.slice (some ⟨b,0,none⟩) n cap) x h) Q:=by
 have g:cellsOf 1 (.slice (some ⟨b,0,none⟩) n cap) h = some (n,(c.drop 0).take (n * 1)):=by
  rw [Ci,hb,Ff,if_pos (by show 0 + n * 1 ≤ c.length;omega)]
 by_cases f:new.length = 0
 ·have e:new = []:=List.length_eq_zero_iff.1 f
  subst e
  simp only [List.length_nil,Nat.add_zero,List.append_nil,List.take_append_drop] at hq
  rw [Dw hb] at hq
  refine ⟨.slice (some ⟨b,0,none⟩) n cap,h,[],?_,(fun b hb => nomatch hb),hq⟩
  have j:Aux n (.slice (some ⟨b,0,none⟩) n cap) = true:=by simp only [Aux];simp only [List.length_nil] at hn;simp;omega
  simp only [B9,hx,g,List.length_nil,if_true,j]
 ·have a:(n + new.length) * 8 ≤ 140737488355328 ∧ n + new.length < 4611686018427387904 ∧ (1:Nat) ≠ 0 ∧ (8:Nat) ≠ 0:=⟨by omega,by omega,by decide,by decide⟩
  have d:0 + (n + new.length) * 1 ≤ c.length:=by omega
  have l:setCells c (0 + n * 1) new = c.take n ++ new ++ c.drop (n + new.length):=by
   rw [Xl new c (0 + n * 1) (by omega)];simp
  refine ⟨_,_,[b],?_,fun y m => by rw [List.mem_singleton.1 m];exact hW,hq⟩
  simp only [B9,hx,g,f,if_false,a,and_self,if_true,hn,hb,d,l,ne_eq,not_false_eq_true]
structure Stp (F F':Nat → Prop) (h h':Aa):Prop where
 len:h.length ≤ h'.length
 own:∀ b,F' b → F b ∨ h.length ≤ b
 lt:∀ b,F' b → b < h'.length
 keep:∀ b,b < h.length → ¬ F b → h'[b]? = h[b]?
theorem Stp.trans {F F' F'':Nat → Prop} {h h' h'':Aa} (a:Stp F F' h h') (b:Stp F' F'' h' h''):Stp F F'' h h'':=by
 refine ⟨Nat.le_trans a.len b.len,fun x c => ?_,b.lt,fun x c d => ?_⟩
 ·rcases b.own x c with h1 | h1
  ·exact a.own x h1
  ·exact .inr (Nat.le_trans a.len h1)
 ·rw [b.keep x (Nat.lt_of_lt_of_le c a.len) (fun h1 => by rcases a.own x h1 with h2 | h2;exact d h2;omega),a.keep x c d]
end Go.L
namespace Go.L
variable {E:Env}
open Go
def Tr (h h2 h3:Aa):Prop:=h3 = h2 ∨ (h3 = h2.take h.length ∧ ∀ b,b < h.length → h2[b]? = h[b]? ∨ F9 h.length h2[b]? = true)
theorem Auv {h0 h:Aa} {v:Value} {ws:List Nat} (hk:Keeps h0.length h0 h ws) (hv:Ae h0.length 4 v = true) :
  ∃ h' ws',gc h0 v h ws = some (v,h',ws') ∧ (∀ b ∈ ws',b ∈ ws) ∧ Tr h0 h h':=by
 simp only [gc]
 split
 ·rename_i e
  rw [if_pos hv]
  refine ⟨h0,[],rfl,by simp,.inr ⟨(hk.take e).symm,fun b a => .inl (hk.at_ b a fun f => ?_)⟩⟩
  have:b ∈ ws.filter (fun b => decide (b < h0.length)):=List.mem_filter.2 ⟨f,by simpa using a⟩
  rw [e] at this;cases this
 ·rename_i w r e
  have c:∀ b ∈ w :: r,b ∈ ws ∧ b < h0.length:=fun b a => by
   rw [← e,List.mem_filter] at a;exact ⟨a.1,by simpa using a.2⟩
  split
  ·rename_i d
   refine ⟨_,_,rfl,fun b a => (c b a).1,.inr ⟨rfl,fun b a => ?_⟩⟩
   by_cases f:b ∈ ws
   ·have:b ∈ w :: r:=by rw [← e];exact List.mem_filter.2 ⟨f,by simpa using a⟩
    rw [hv,Bool.true_and] at d
    exact .inr (List.all_eq_true.1 d b this)
   ·exact .inl (hk.at_ b a f)
  ·exact ⟨_,_,rfl,fun b a => (c b a).1,.inl rfl⟩
theorem A2g (hK:No E) {g:FuncId} {c:FnC} (hE:E g = .text c) {sz:Nat} {res:List R} {body:C} (hc:c = ⟨sz,res,body⟩) {a b:Array Value} {args:List Value} {h:Aa} {W:Nat → Prop} {Q:Value → Aa → Prop} (hl:(a.toList ++ args ++ b.toList).length ≤ sz)
  (hb:WO W (code (callW E) iterW sz body (Ai (a.toList ++ args ++ b.toList) 0) h) (Res res fun v h' => Ae h.length 4 v = true ∧ ∀ h3,Tr h h' h3 → Q v h3)) :
  WX W (callW E (.func (.func g) a b) args h) Q:=by
 subst hc
 rw [Qc hE]
 obtain ⟨e,fr,h',o,n,s,p⟩:=hb
 have r:=Km hK sz body _ _ _ _ _ _ n
 have j:∀ l,Res res (fun v h' => Ae h.length 4 v = true ∧ ∀ h3,Tr h h' h3 → Q v h3) l fr h' → WX W (fin res h (some (l,fr,h',o))) Q:=by
  intro l m
  have f:W1 (Kc fr h' res) (fun d => Ae h.length 4 (Qx d) = true ∧ ∀ h3,Tr h h' h3 → Q (Qx d) h3) → WX W (match Kc fr h' res with | some d => gc h (Qx d) h' o | none => none) Q:=by
   rintro ⟨d,y,h2,t⟩
   rw [y]
   obtain ⟨h5,z,h6,u,x⟩:=Auv r h2
   exact ⟨_,_,_,h6,fun b hb => s b (u b hb),t _ x⟩
  cases l with
  | exit _ => exact m.elim
  | normal => exact f m
  | ret => exact f m
 simp only [Eo,hl,if_true]
 rw [n]
 exact j e p
theorem Ao7 (hK:No E) {l:Nat} {r:Ob} {args:List Value} {h:Aa} {fr0:Fr} {W:Nat → Prop} {Rr:Ex → Aa → Prop} (hl:h[l]? = some (.loop r)) (hs:r.state = .ready) (hp:r.pending = none) (hps:r.params.all (fun p => decide (p < r.sz)) = true) (hset:setPs r.params args r.fr = some fr0) (hnl:∀ b,W b → b ≠ l)
  (hb:WO W (code (callW E) iterW r.sz r.assign fr0 h) (fun e fr1 h1 => e = .normal ∧ WO W (code (callW E) iterW r.sz r.body fr1 (h1.set l (.loop { r with state:=.busy }))) (fun e _ h2 => ∀ h3,Tr h (h2.set l (.loop r)) h3 → Rr e h3))) :
  WX (fun b => W b ∨ b = l) (callW E (.func (.yield l) #[] #[]) args h) (fun v h' => ∃ e h3,Rr e h3 ∧ v = .bool (Ki e).isNone ∧ h' = match Ki e with | none => h3 | some j => h3.set l (.loop { r with state:=.done,pending:=some j })):=by
 obtain ⟨st,pd,a0,a2,a3,a1,a4⟩:=r
 dsimp only at hs hp hps hset hb
 subst hs hp
 obtain ⟨e1,fr1,h1,y,z,s,rfl,e2,a6,h2,t,u,o,hR⟩:=hb
 have n:=Km hK _ _ _ _ _ _ _ _ z
 have c:=Km hK _ _ _ _ _ _ _ _ u
 have a5:=(GI.1 hl).1
 have a:¬ l ∈ y ++ t:=fun hm => by
  rcases List.mem_append.1 hm with hm | hm
  ·exact hnl l (s l hm) rfl
  ·exact hnl l (o l hm) rfl
 have f:Keeps h.length h (h2.set l (.loop { state:=LoopState.ready,pending:=none,fr:=a0,sz:=a2,params:=a3,assign:=a1,body:=a4:Ob })) (y ++ t):=by
  have a7:h.length ≤ h1.length:=n.len
  rw [List.length_set] at c
  refine ⟨by have:=c.len;simp only [List.length_set] at this ⊢;omega,fun b hb m => ?_⟩
  by_cases e:l = b
  ·subst e
   rw [List.getElem?_set_self (by have:=c.len;simp only [List.length_set] at this;omega),hl]
  ·rw [An e,c.at_ b (by omega) (fun hm => m (List.mem_append.2 (.inr hm))),An e,n.at_ b hb (fun hm => m (List.mem_append.2 (.inl hm)))]
 obtain ⟨h5,g,h6,h7,h8⟩:=Auv (v:=.bool (Ki e2).isNone) f rfl
 have x:∀ b ∈ g,W b:=fun b hb => by
  rcases List.mem_append.1 (h7 b hb) with hm | hm
  ·exact s b hm
  ·exact o b hm
 have d:callW E (.func (.yield l) #[] #[]) args h = F8 (callW E) iterW l args h:=by
  rw [M4];simp [I9]
 rw [d]
 simp only [F8,hl,hps,if_true,hset,z,u,a,if_false,h6,O1]
 cases hlv:Ki e2 with
 | none => exact ⟨_,_,g,rfl,fun b hb => .inl (x b hb),e2,h5,hR _ h8,by rw [hlv],by rw [hlv]⟩
 | some j =>
  refine ⟨_,_,l :: g,rfl,fun b hb => ?_,e2,h5,hR _ h8,by rw [hlv],by rw [hlv]⟩
  rcases List.mem_cons.1 hb with hb | hb
  ·exact .inr hb
  ·exact .inl (x b hb)
theorem Ax6 (hK:No E) {sz:Nat} {fr:Fr} {h:Aa} {g:X} {ps:List Nat} {assign body:C} {W W':Nat → Prop} {Q:Ex → Fr → Aa → Prop} {f:FuncId} {a b:Array Value} (hg:ev (get fr) g = .func (.func f) a b) (hW:∀ x,W' x → x < h.length → W x)
  (hc:WX W' (callW E (.func (.func f) a b) [.func (.yield h.length) #[] #[]] (h ++ [.loop { state:=.ready,pending:=none,fr,sz,params:=ps,assign,body }])) (fun _ h' => ∃ r,h'[h.length]? = some (.loop r) ∧ r.state ≠ .busy ∧ ∀ h3,Tr h (h'.set h.length .dead) h3 → Q (match r.pending with | none => .normal | some none => .ret | some (some id) => .exit id) fr h3)) :
  WO W (code (callW E) iterW sz (.rng g ps assign body) fr h) Q:=by
 obtain ⟨v,h',ws,c,hw,r,hr,s,o⟩:=hc
 have hk:=Ur hK _ _ _ _ _ _ c
 have d:Keeps h.length h (h'.set h.length .dead) ws:=by
  simp only [LA,List.length_cons,List.length_nil] at hk
  refine ⟨by have:=hk.len;simp only [LA,List.length_cons,List.length_nil,List.length_set] at this ⊢;omega,fun x m a0 => ?_⟩
  rw [An (by omega),hk.at_ x (by omega) a0,GL m]
 obtain ⟨h5,p,e,h7,u⟩:=Auv (v:=undef) d rfl
 have z:∀ x ∈ p,x < h.length:=fun x m => by
  simp only [gc] at e
  split at e
  ·split at e
   ·cases e;cases m
   ·simp [Ae,undef] at *
  ·rename_i w r' hf
   have:∀ y ∈ w :: r',y < h.length:=fun y hy => by rw [← hf,List.mem_filter] at hy;simpa using hy.2
   split at e <;> (cases e;exact this x m)
 have t:Ie (callW E) (ev (get fr) g) = callW E (.func (.func f) a b):=by
  rw [hg];rfl
 have l:code (callW E) iterW sz (.rng g ps assign body) fr h = Ez h fr (Ie (callW E) (ev (get fr) g) [.func (.yield h.length) #[] #[]] (h ++ [.loop { state:=.ready,pending:=none,fr,sz,params:=ps,assign,body }])):=rfl
 rw [l,t,c]
 simp only [Ez,hr]
 have n:∀ x ∈ p,W x:=fun x m => hW x (hw x (h7 x m)) (z x m)
 cases hs:r.state with
 | busy => exact absurd hs s
 | _ =>
  simp only [e]
  cases hp:r.pending with
  | none => rw [hp] at o;exact ⟨_,_,_,_,rfl,n,o _ u⟩
  | some j => cases j with
   | none => rw [hp] at o;exact ⟨_,_,_,_,rfl,n,o _ u⟩
   | some id => rw [hp] at o;exact ⟨_,_,_,_,rfl,n,o _ u⟩
namespace Own
variable {m sz:Nat} {h h':Aa} {v:Value} {L:List (List Value)}
theorem append' (o:Own m sz h v L) (hmh:m ≤ h.length) {bytes:Nat} {x:Value} {X:List (List Value)} (hx:cellsOf sz x h = Option.some (X.length,X.flatten)) (hX:X ≠ []) (hs:∀ e ∈ X,e.length = sz) (hsz:sz ≠ 0) (hby:bytes ≠ 0)
  (hb:(L.length + X.length) * bytes ≤ 140737488355328):∃ h' ws v',B9 sz bytes v x h = .some (v',h',ws) ∧ (∀ b ∈ ws,L ≠ [] ∧ b = blk v) ∧ Own m sz h' v' (L ++ X) ∧ blk v' = h.length ∧ h'.length = h.length + 1 ∧ ∀ b,b < h.length → (L ≠ [] → b ≠ blk v) → h'[b]? = h[b]?:=by
 have n:L.length + X.length ≤ (L.length + X.length) * bytes:=Nat.le_mul_of_pos_right _ (by omega)
 have c:X.length ≠ 0:=by intro e;exact hX (List.length_eq_zero_iff.1 e)
 have g:∀ e ∈ L ++ X,e.length = sz:=by
  intro e he
  rcases List.mem_append.1 he with he | he
  ·exact o.row.size e he
  ·exact hs e he
 have a:(L.length + X.length) * bytes ≤ 140737488355328 ∧ L.length + X.length < 4611686018427387904 ∧ sz ≠ 0 ∧ bytes ≠ 0:=⟨hb,by omega,hsz,hby⟩
 cases o with
 | nil =>
  refine ⟨h ++ [.cells X.flatten false],[],.slice (.some ⟨h.length,0,.some sz⟩) X.length X.length,?_,(fun b hb => nomatch hb),?_,rfl,by simp,fun b f _ => GL f⟩
  ·simp only [List.length_nil,Nat.zero_add] at a
   have l:cellsOf sz (.slice none 0 0) h = Option.some (0,[]):=rfl
   simp only [B9,hx,l,if_true,c,if_false,Nat.zero_add,a,and_self,ne_eq,not_false_eq_true,List.nil_append]
  ·simp only [List.nil_append]
   exact .some hmh (by rw [Bh];rfl) hs (by simp at hb n;omega) hX
 | some hm hb' hsL hf p =>
  rename_i b
  have f:=(GI.1 hb').1
  refine ⟨h.set b .dead ++ [.cells (L.flatten ++ X.flatten) false],[b],.slice (.some ⟨h.length,0,.some sz⟩) (L.length + X.length) (L.length + X.length),?_,fun x hx => ⟨p,List.mem_singleton.1 hx⟩,?_,rfl,by simp,fun x d j => ?_⟩
  ·have l:cellsOf sz (.slice (.some ⟨b,0,.some sz⟩) L.length L.length) h = .some (L.length,L.flatten):=by
    rw [Ci,hb',Ff,Ee hsL,if_pos (by show 0 + _ ≤ _;omega),List.drop_zero,← Ee hsL,List.take_length]
   simp only [B9,hx,l,c,if_false,a,and_self,if_true,hb',ne_eq,not_false_eq_true]
  ·rw [← LA]
   refine .some hmh ?_ g (by rw [LA];omega) (by simp [hX])
   rw [List.getElem?_append_right (by simp),List.length_set,Nat.sub_self,List.flatten_append];rfl
  ·have:=j p
   simp only [blk] at this
   rw [GL (by simpa using d),An (Ne.symm this)]
end Own
theorem Pg {α : Type} {W:Nat → Prop} {m sz:Nat} {enc:α → List Value} {h0 h:Aa} {v:Value} {l:List α} (o:OwnT m sz enc h v l) (hp:Pre h0 h) (hm:h0.length ≤ m) (hmh:m ≤ h.length) (hW:l ≠ [] → W (blk v)) {bytes:Nat} {x:Value} (a:α) {Q:Value → Aa → Prop}
  (hx:cellsOf sz x h = some (1,enc a)) (hs:(enc a).length = sz) (hsz:sz ≠ 0) (hby:bytes ≠ 0) (hb:(l.length + 1) * bytes ≤ 140737488355328)
  (hq:∀ v' h',OwnT m sz enc h' v' (l ++ [a]) → Pre h0 h' → blk v' = h.length → h'.length = h.length + 1 → (∀ b,b < h.length → (l ≠ [] → b ≠ blk v) → h'[b]? = h[b]?) → Q v' h'):WX W (B9 sz bytes v x h) Q:=by
 obtain ⟨h',f,v',r,h2,g,n,p,d⟩:=Own.append' o hmh (X:=[enc a]) (by simpa using hx) (by simp) (by simpa using hs) hsz hby (by simpa using hb)
 refine ⟨v',h',f,r,fun b hb => ?_,hq v' h' (by unfold OwnT;simpa using g) (hp.of_keep hm o d) n p fun b hb j => d b hb fun c => j fun e => c (by simp [e])⟩
 obtain ⟨c,rfl⟩:=h2 b hb
 exact hW fun e => c (by simp [e])
theorem Axe {α : Type} {m sz:Nat} {enc:α → List Value} {h:Aa} {l:List α} (o:OwnT m sz enc h (.slice none 0 0) l):l = []:=by
 unfold OwnT at o
 generalize hL:l.map enc = L at o
 cases o with
 | nil => simpa using hL
theorem Aco {α : Type} {m sz n:Nat} {enc:α → List Value} {h:Aa} {v:Value} {l:List α} (o:OwnT m sz enc h v l) (hl:l ≠ []) (hn:F9 n (some (.cells [v] false)) = true):blk v < n:=by
 have a:l.map enc ≠ []:=by simpa using hl
 unfold OwnT at o
 generalize l.map enc = L at o a
 cases o with
 | nil => exact absurd rfl a
 | some hm hb hs hf hn2 => simp only [blk];simpa [F9,Ae] using hn
end Go.L
