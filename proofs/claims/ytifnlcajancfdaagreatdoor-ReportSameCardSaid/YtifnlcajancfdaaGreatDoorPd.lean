/- A RING OF CELLS, plain. -/
import Derived.Test.YtifnlcajancfdaaGreatDoorCode
import Derived.Test.YtifnlcajancfdaaGreatDoorVc
set_option linter.unusedVariables false
namespace Go.L
theorem Pk {N a i:Nat} (ha:a<N) (hi:i≤N):(a+i) % N=if a+i<N then a+i else a+i - N:=by
 split
 ·exact Nat.mod_eq_of_lt ‹_›
 ·rw [Nat.mod_eq_sub_mod (by omega),Nat.mod_eq_of_lt (by omega)]
structure RingL {α : Type} (R:List α) (f:Nat) (l:List α):Prop where
 few:l.length≤R.length
 from_:f<R.length
 nth:∀ i,i<l.length→R[(f+i) % R.length]? = l[i]?
namespace RingL
variable {α : Type} {R:List α} {f:Nat} {l:List α}
theorem push (r:RingL R f l) (h:l.length<R.length) (x:α):RingL (R.set ((f+l.length) % R.length) x) f (l++[x]):=by
 have hf:=r.from_
 refine ⟨by simp;omega,by simpa using hf,fun i hi => ?_⟩
 rw [LA,List.length_singleton] at hi
 rw [List.length_set]
 have e1:=Pk (i:=i) hf (by omega)
 have e2:=Pk (i:=l.length) hf (by omega)
 by_cases hlt:i<l.length
 ·rw [List.getElem?_set_ne (by rw [e1,e2];split<;>split<;>omega),GL hlt]
  exact r.nth i hlt
 ·have e:i=l.length:=by omega
  subst e
  rw [List.getElem?_set_self (Nat.mod_lt _ (by omega)),List.getElem?_append_right (Nat.le_refl _),Nat.sub_self];rfl
theorem pop (r:RingL R f l) {a:α} {s:List α} (h:l=a :: s) (x:α):RingL (R.set f x) ((f+1) % R.length) s∧R[f]? = some a:=by
 subst h
 have hf:=r.from_
 have hn:=r.few
 rw [List.length_cons] at hn
 refine ⟨⟨by rw [List.length_set];omega,by rw [List.length_set];exact Nat.mod_lt _ (by omega),fun i hi => ?_⟩,?_⟩
 ·rw [List.length_set]
  have e0:=Pk (i:=1) hf (by omega)
  have e1:=Pk (i:=i+1) hf (by omega)
  have e2:=Pk (a:=(f+1) % R.length) (i:=i) (Nat.mod_lt _ (by omega)) (by omega)
  have e3:((f+1) % R.length+i) % R.length=(f+(i+1)) % R.length:=by rw [e2,e1,e0];split<;>split<;>split<;>omega
  rw [e3,List.getElem?_set_ne (by rw [e1];split<;>omega),r.nth (i+1) (by simp;omega)]
  rfl
 ·have:=r.nth 0 (by simp)
  rw [Nat.add_zero,Nat.mod_eq_of_lt hf] at this
  exact this
theorem at0 (r:RingL R f l) {i:Nat} (h:i<l.length):R[(f+i) % R.length]? = some (l[i]):=by rw [r.nth i h,List.getElem?_eq_getElem h]
theorem grow (r:RingL R f l) (h:l.length=R.length) (m:Nat) (x:α):RingL (R.drop f++R.take f++List.replicate m x) 0 l:=by
 have hf:=r.from_
 have el:(R.drop f++R.take f).length=R.length:=by simp;omega
 refine ⟨by rw [LA,el];omega,by rw [LA,el];omega,fun i hi => ?_⟩
 rw [Nat.zero_add,Nat.mod_eq_of_lt (by rw [LA,el];omega),GL (by rw [el];omega),← r.nth i hi,Pk hf (by omega)]
 by_cases hc:f+i<R.length
 ·rw [if_pos hc,GL (by simp;omega),List.getElem?_drop]
 ·rw [if_neg hc,List.getElem?_append_right (by simp;omega),List.getElem?_take,List.length_drop,if_pos (by omega)]
  congr 1;omega
theorem new (m:Nat) (x:α) (hm:0<m):RingL (List.replicate m x) 0 ([]:List α):=⟨by simp,by simpa using hm,fun i hi => by simp at hi⟩
end RingL
end Go.L
namespace Go.L
variable {α : Type} [Inhabited α] {k:α → Int}
def gN (L:List α) (i:Nat):α:=L.getD i default
theorem Aem {L:List α} {i:Nat} (h:i<L.length):gN L i=L[i]:=by
 unfold gN;rw [List.getD_eq_getElem?_getD,List.getElem?_eq_getElem h];rfl
def D4 (L:List α) (i j:Nat):List α:=(L.set i (gN L j)).set j (gN L i)
theorem Cj (L:List α) (i j:Nat):(D4 L i j).length=L.length:=by simp [D4]
theorem Uo {L:List α} {i j:Nat} (hi:i<L.length) (hj:j<L.length):(D4 L i j).Perm L:=by
 unfold D4
 rw [Aem hi,Aem hj]
 exact List.set_set_perm hi hj
theorem Xg {L:List α} {i j:Nat} (hi:i<L.length) (hj:j<L.length) (x:Nat):gN (D4 L i j) x=if x=j then gN L i else if x=i then gN L j else gN L x:=by
 unfold D4
 by_cases h1:x=j
 ·subst h1
  rw [if_pos rfl]
  show ((L.set i (gN L x)).set x (gN L i)).getD x default=_
  rw [List.getD_eq_getElem?_getD,List.getElem?_set_self (by simpa using hj)];rfl
 ·rw [if_neg h1]
  show ((L.set i (gN L j)).set j (gN L i)).getD x default=_
  rw [List.getD_eq_getElem?_getD,List.getElem?_set_ne (fun e => h1 e.symm)]
  by_cases h2:x=i
  ·subst h2
   rw [if_pos rfl,List.getElem?_set_self hi];rfl
  ·rw [if_neg h2,List.getElem?_set_ne (fun e => h2 e.symm)];rfl
def Rf (k:α → Int) (L:List α):Prop:=∀ i,0<i→i<L.length→k (gN L ((i - 1) / 2))≤k (gN L i)
theorem Awx {L:List α} (h:Rf k L):∀ i,i<L.length→k (gN L 0)≤k (gN L i):=by
 intro i
 induction i using Nat.strongRecOn with
 | _ i ih =>
  intro hi
  by_cases e:i=0
  ·subst e;exact Int.le_refl _
  ·exact Int.le_trans (ih ((i - 1) / 2) (by omega) (by omega)) (h i (by omega) hi)
structure UpL (k:α → Int) (L:List α) (i:Nat):Prop where
 lt:i<L.length
 out:∀ j,0<j→j<L.length→j≠i→k (gN L ((j - 1) / 2))≤k (gN L j)
 ab:∀ c,0<c→c<L.length→(c - 1) / 2=i→0<i→k (gN L ((i - 1) / 2))≤k (gN L c)
theorem Atj {L:List α} {i:Nat} (u:UpL k L i) (h:0<i→¬ k (gN L i)<k (gN L ((i - 1) / 2))):Rf k L:=fun j hj hl => by
 by_cases e:j=i
 ·subst e;have:=h hj;omega
 ·exact u.out j hj hl e
theorem Ay1 {L:List α} {i:Nat} (u:UpL k L i) (hi:0<i) (h:k (gN L i)<k (gN L ((i - 1) / 2))):UpL k (D4 L i ((i - 1) / 2)) ((i - 1) / 2):=by
 have hl:=u.lt
 have hg:=Xg (L:=L) (i:=i) (j:=(i - 1) / 2) hl (by omega)
 refine ⟨by rw [Cj];omega,fun j h1 h2 h3 => ?_,fun c h1 h2 h3 h4 => ?_⟩
 ·rw [Cj] at h2
  rw [hg,hg,if_neg h3]
  by_cases e:j=i
  ·subst e
   rw [if_pos rfl,if_pos rfl];omega
  ·rw [if_neg e]
   have h5:=u.out j h1 h2 e
   split
   ·rename_i e2;rw [e2] at h5;omega
   ·split
    ·rename_i e2 e3
     have:=u.ab j h1 h2 e3 hi
     omega
    ·exact h5
 ·rw [Cj] at h2
  have h6:=u.out ((i - 1) / 2) h4 (by omega) (by omega)
  rw [hg,hg,if_neg (by omega),if_neg (by omega)]
  by_cases e:c=i
  ·subst e
   rw [if_neg (by omega),if_pos rfl];exact h6
  ·rw [if_neg (by omega),if_neg e]
   have h7:=u.out c h1 h2 e
   rw [h3] at h7
   omega
theorem Atk {L:List α} (h:Rf k L) (x:α):UpL k (L++[x]) L.length:=by
 have e:∀ i,i<L.length→gN (L++[x]) i=gN L i:=fun i hi => by
  unfold gN;rw [List.getD_eq_getElem?_getD,List.getD_eq_getElem?_getD,GL hi]
 refine ⟨by simp,fun j h1 h2 h3 => ?_,fun c h1 h2 h3 h4 => ?_⟩
 ·rw [LA,List.length_singleton] at h2
  rw [e _ (by omega),e _ (by omega)]
  exact h j h1 (by omega)
 ·rw [LA,List.length_singleton] at h2
  omega
structure Afa (k:α → Int) (L:List α) (i:Nat):Prop where
 out:∀ j,0<j→j<L.length→(j - 1) / 2≠i→k (gN L ((j - 1) / 2))≤k (gN L j)
 ab:∀ c,0<c→c<L.length→(c - 1) / 2=i→0<i→k (gN L ((i - 1) / 2))≤k (gN L c)
theorem Axi {L:List α} {i:Nat} (d:Afa k L i) (h:∀ c,0<c→c<L.length→(c - 1) / 2=i→k (gN L i)≤k (gN L c)):Rf k L:=fun j hj hl => by
 by_cases e:(j - 1) / 2=i
 ·rw [e];exact h j hj hl e
 ·exact d.out j hj hl e
theorem Ash {L:List α} {i m:Nat} (d:Afa k L i) (hm:0<m) (hl:m<L.length) (hp:(m - 1) / 2=i) (h1:k (gN L m)<k (gN L i)) (h2:∀ c,0<c→c<L.length→(c - 1) / 2=i→k (gN L m)≤k (gN L c)):Afa k (D4 L i m) m:=by
 have hg:=Xg (L:=L) (i:=i) (j:=m) (by omega) hl
 refine ⟨fun j a b c => ?_,fun c a b e f => ?_⟩
 ·rw [Cj] at b
  rw [hg,hg]
  by_cases e:j=m
  ·subst e
   rw [if_pos rfl,if_neg (by omega),if_pos hp];omega
  ·rw [if_neg e,if_neg c]
   by_cases e2:(j - 1) / 2=i
   ·rw [if_pos e2,if_neg (by omega)]
    exact h2 j a b e2
   ·rw [if_neg e2]
    have h5:=d.out j a b e2
    by_cases e3:j=i
    ·rw [if_pos e3]
     rw [e3] at e2 a ⊢
     exact d.ab m hm hl hp (by omega)
    ·rw [if_neg e3];exact h5
 ·rw [Cj] at b
  rw [hg,hg,if_neg (by omega),if_pos hp,if_neg (by omega),if_neg (by omega)]
  have h5:=d.out c a b (by omega)
  rw [e] at h5
  exact h5
theorem Amf {L:List α} (h:Rf k L) (hn:L≠[]):Afa k ((D4 L 0 (L.length - 1)).take (L.length - 1)) 0∧(gN L 0 :: (D4 L 0 (L.length - 1)).take (L.length - 1)).Perm L:=by
 have hl:0<L.length:=List.length_pos_iff.2 hn
 have hg:=Xg (L:=L) (i:=0) (j:=L.length - 1) hl (by omega)
 have el:((D4 L 0 (L.length - 1)).take (L.length - 1)).length=L.length - 1:=by rw [List.length_take,Cj];omega
 have e:∀ x,x<L.length - 1→gN ((D4 L 0 (L.length - 1)).take (L.length - 1)) x=if x=0 then gN L (L.length - 1) else gN L x:=fun x hx => by
  have:gN ((D4 L 0 (L.length - 1)).take (L.length - 1)) x=gN (D4 L 0 (L.length - 1)) x:=by
   unfold gN;rw [List.getD_eq_getElem?_getD,List.getD_eq_getElem?_getD,List.getElem?_take,if_pos hx]
  rw [this,hg,if_neg (by omega)]
 refine ⟨⟨fun j a b c => ?_,fun c a b e f => by omega⟩,?_⟩
 ·rw [el] at b
  rw [e _ (by omega),e _ (by omega),if_neg c,if_neg (by omega)]
  exact h j a (by omega)
 ·have hp:=Uo (L:=L) (i:=0) (j:=L.length - 1) hl (by omega)
  have hs:D4 L 0 (L.length - 1)=(D4 L 0 (L.length - 1)).take (L.length - 1)++[gN L 0]:=by
   have h1:=(List.take_append_drop (L.length - 1) (D4 L 0 (L.length - 1))).symm
   have h2:(D4 L 0 (L.length - 1)).drop (L.length - 1)=[gN L 0]:=by
    rw [List.drop_eq_getElem_cons (by rw [Cj];omega),List.drop_of_length_le (by rw [Cj];omega),← Aem (by rw [Cj];omega),hg,if_pos rfl]
   rw [h2] at h1;exact h1
  refine List.Perm.trans ?_ hp
  generalize hT:(D4 L 0 (L.length - 1)).take (L.length - 1)=T at hs ⊢
  rw [hs]
  exact (List.perm_append_singleton _ _).symm
end Go.L
set_option linter.unusedSimpArgs false
set_option maxRecDepth 100000
set_option maxHeartbeats 2000000
namespace Go.L.Try
open Go Go.L
variable {E:Env}
inductive RingH (h:Aa) (q:Nat):List Value→(Nat→Prop)→Nat→Prop
 | empty (hq:h[q]? = some (.cells [.slice none 0 0,.int .i64 0,.int .i64 0] false)):RingH h q [] (fun b => b=q) 0
 | full {l R:List Value} {f rb:Nat} (hq:h[q]? = some (.cells [.slice (some ⟨rb,0,none⟩) R.length R.length,.int .i64 f,.int .i64 l.length] false)) (hr:h[rb]? = some (.cells R false)) (hne:rb≠q) (hR:RingL R f l) (hs:R.length≤1048576) (ho:∀ x∈R,Ah x=true):RingH h q l (fun b => b=q∨b=rb) R.length
theorem RingH.len {h:Aa} {q:Nat} {l:List Value} {F:Nat→Prop} {N:Nat} (r:RingH h q l F N):∃ v f,h[q]? = some (.cells [v,f,.int .i64 l.length] false):=by
 cases r with
 | empty hq => exact ⟨_,_,hq⟩
 | full hq _ _ _ _ _ => exact ⟨_,_,hq⟩
theorem RingH.keep {h h':Aa} {q:Nat} {l:List Value} {F:Nat→Prop} {N:Nat} (r:RingH h q l F N) (hk:∀ b,F b→h'[b]? = h[b]?):RingH h' q l F N:=by
 cases r with
 | empty hq => exact .empty (by rw [hk q rfl];exact hq)
 | full hq hr hne hR hs ho => exact .full (by rw [hk q (.inl rfl)];exact hq) (by rw [hk _ (.inr rfl)];exact hr) hne hR hs ho
theorem RingH.lt {h:Aa} {q:Nat} {l:List Value} {F:Nat→Prop} {N:Nat} (r:RingH h q l F N):∀ b,F b→b<h.length:=by
 cases r with
 | empty hq => intro b hb;subst hb;exact (GI.1 hq).1
 | full hq hr hne hR hs ho =>
  rintro b (rfl | rfl)
  ·exact (GI.1 hq).1
  ·exact (GI.1 hr).1
theorem Apm (hE:Aw E) {h:Aa} {q:Nat} {l:List Value} {F:Nat→Prop} {N:Nat} (r:RingH h q l F N) :
  callW E (.func (.func Ar) #[] #[]) [.pointer (some ⟨q,0,none⟩)] h=some (.int .i64 l.length,h,[]):=by
 obtain ⟨v,f,hq⟩:=r.len
 refine Am hE.Mq rfl (by simp) ?_
 simp only [Ak]
 (repeat' simp -dsimp (disch:=omega) only [↓EA,EB,↓reduceIte,reduceCtorEq,eq_self, *,Oo])
theorem Aw8 (hE:Aw E) {h:Aa} {q:Nat} {l:List Value} {F:Nat→Prop} {N:Nat} (r:RingH h q l F N) (hv:∀ x∈l,Ae h.length 3 x=true∧Et x=true) (i:Int) :
  callW E (.func (.func Az) #[] #[]) [.pointer (some ⟨q,0,none⟩),.int .i64 i] h=some (if 0≤i∧i<l.length then .tuple #[l.getD i.toNat (.pointer none),.bool true] else .tuple #[.pointer none,.bool false],h,[]):=by
 have hL:=Apm hE r
 refine Am hE.Nk rfl (by simp) ?_
 simp only [Ak]
 by_cases hi:0≤i∧i<l.length
 ·rw [if_pos hi]
  cases r with
  | empty hq => simp at hi;omega
  | full hq hr hne hR hs ho =>
   rename_i R f rb
   have hN:=hR.from_
   have few:=hR.few
   have hidx:=hR.at0 (i:=i.toNat) (by omega)
   have hx:=hv _ (List.getElem_mem (l:=l) (n:=i.toNat) (by omega))
   have ex:l.getD i.toNat (.pointer none)=l[i.toNat]'(by omega):=by rw [List.getD_eq_getElem?_getD,List.getElem?_eq_getElem (by omega)];rfl
   rw [ex]
   generalize l[i.toNat]'(by omega)=x at *
   obtain ⟨hx1,hx2⟩:=hx
   obtain ⟨k,rfl⟩:=Int.eq_ofNat_of_zero_le hi.1
   rw [Int.toNat_natCast] at hidx
   have e1:((f:Int)+(k:Int)).tmod R.length=(((f+k) % R.length:Nat):Int):=by rw [Int.tmod_eq_emod_of_nonneg (by omega)];simp
   have hm:=Nat.mod_lt (f+k) (show 0<R.length by omega)
   generalize (f+k) % R.length=j at *
   have hj:(j:Int)<R.length:=by omega
   have hll:(l.length:Int)≤1048576:=by omega
   have hff:(f:Int)≤1048576:=by omega
   have hRl:(R.length:Int)≤1048576∧0<(R.length:Int):=by omega
   clear hR ex hv
   (repeat' (first | (with_reducible refine A2 (fun _ => ?_) (fun _ => ?_)<;>try (exfalso;omega)) | (with_reducible refine A3 (fun _ => ?_) (fun _ => ?_)<;>try (exfalso;omega)) | simp -dsimp (disch:=omega) only [↓EA,EB,Nat.reduceEqDiff,↓reduceIte,reduceCtorEq,eq_self, *,Int.toNat_natCast,Nat.mul_one]))
   skip
 ·rw [if_neg hi]
  (repeat' (first | (with_reducible refine A2 (fun _ => ?_) (fun _ => ?_)<;>try (exfalso;omega)) | (with_reducible refine A3 (fun _ => ?_) (fun _ => ?_)<;>try (exfalso;omega)) | simp -dsimp (disch:=omega) only [↓EA,EB,Nat.reduceEqDiff,↓reduceIte,reduceCtorEq,eq_self, *]))
  skip
theorem Ao6 {n:Nat} (h2:n≤1048576):Arv [.pointer none] 8 (.int .i64 0) (.int .i64 (n:Int))=some (.cells (List.replicate n (.pointer none)) false,fun b => .slice (some ⟨b,0,none⟩) 0 n):=by
 have e:(List.replicate n (Value.pointer none)).all Ah=true:=by
  rw [List.all_eq_true];intro v hv;rw [List.eq_of_mem_replicate hv];rfl
 simp [Arv]
 refine ⟨⟨by omega,by omega⟩,?_⟩
 rw [Ac,if_pos e]
theorem Ajs (hE:Aw E) {h:Aa} {q:Nat} {l:List Value} {F:Nat→Prop} {N:Nat} (r:RingH h q l F N) (hn:l.length=N) (hN:N≤4096) {W:Nat→Prop} (hW:∀ b,F b∨h.length≤b→W b) :
  WX W (callW E (.func (.func Bh) #[] #[]) [.pointer (some ⟨q,0,none⟩)] h) (fun v h' => ∃ F' N',RingH h' q l F' N'∧l.length<N'∧N'≤8192∧Stp F F' h h'):=by
 refine E9 hE.Lv rfl (by simp) ?_
 simp only [List.nil_append,List.cons_append,Ak]
 cases r with
 | empty hq =>
  have hlt:=(GI.1 hq).1
  have hM:(max 8 (2 * ((0:Nat):Int)):Int)=((8:Nat):Int):=by decide
  have hm:=Ao6 (n:=8) (by decide)
  have hcn:∀ hh,cellsOf 1 (.slice none 0 0) hh=some (([]:List Value).length,[]):=fun hh => rfl
  have hW1:=hW q (.inl rfl)
  have hW2:=hW h.length (.inr (Nat.le_refl _))
  have hqx:∀ x,(h++x)[q]? = some (.cells [.slice none 0 0,.int .i64 0,.int .i64 0] false):=fun x => by rw [GL hlt];exact hq
  generalize hrep:List.replicate 8 (Value.pointer none)=R8 at hm
  have hlR:R8.length=8:=by rw [← hrep,List.length_replicate]
  have Hrep:=Hid.mk hrep
  have HlR:=Hid.mk hlR
  clear hrep hlR
  (repeat' simp -dsimp (disch:=omega) only [↓EA,EB,Nat.reduceEqDiff,↓reduceIte,reduceCtorEq,eq_self, *,Azm])
  refine Zs (b:=h.length) (n:=0) (cap:=8) (c:=R8) (new:=[]) (by rw [Bm];rfl) (by rw [HlR.out];decide) (by decide) (by decide) rfl hW2 ?_
  simp only [List.length_nil,Nat.add_zero,List.take_zero,List.nil_append,List.append_nil,List.drop_zero]
  rw [Ds (by rw [Bm];rfl)]
  (repeat' simp -dsimp (disch:=omega) only [↓EA,EB,Nat.reduceEqDiff,↓reduceIte,reduceCtorEq,eq_self, *,Azn])
  refine Zs (b:=h.length) (n:=0) (cap:=8) (c:=R8) (new:=[]) (by rw [Bm];rfl) (by rw [HlR.out];decide) (by decide) (by decide) rfl hW2 ?_
  simp only [List.length_nil,Nat.add_zero,List.take_zero,List.nil_append,List.append_nil,List.drop_zero]
  rw [Ds (by rw [Bm];rfl)]
  have hmx:=Aty (b:=h.length) (o:=0) (n:=0) (cap:=8) (k:=.i64) (k':=.i64) (x:=((8:Nat):Int)) (y:=((8:Nat):Int)) (by decide) (by decide) (by decide)
  have hql:∀ x:LObj,q<(h++[x]).length:=fun x => by simp;omega
  (repeat' simp -dsimp (disch:=omega) only [↓EA,EB,Nat.reduceEqDiff,Nat.reduceAdd,Nat.reduceLeDiff,↓reduceIte,reduceCtorEq,eq_self, *,B9 (hql _)])
  rw [List.set_set]
  refine ⟨fun b => b=q∨b=h.length,8,?_,by decide,by decide,?_⟩
  ·have hfull:=RingH.full (h:=List.set (h++[LObj.cells R8 false]) q (LObj.cells [.slice (some ⟨h.length,0,none⟩) R8.length R8.length,.int .i64 ((0:Nat):Int),.int .i64 (([]:List Value).length:Int)] false)) (q:=q) (l:=[]) (R:=R8) (f:=0) (rb:=h.length) (B9 (hql _)) (by rw [Ba (by omega),Bm];rfl) (by omega) (by rw [← Hrep.out];exact RingL.new 8 _ (by decide)) (by rw [HlR.out];decide) (fun x hx => by rw [← Hrep.out] at hx;rw [List.eq_of_mem_replicate hx];rfl)
   rw [HlR.out] at hfull
   exact hfull
  ·refine ⟨by simp,fun b hb => by rcases hb with rfl | rfl;exact .inl rfl;exact .inr (Nat.le_refl _),fun b hb => by rw [List.length_set,LA,List.length_singleton];rcases hb with rfl | rfl<;>omega,fun b hb hn => ?_⟩
   rw [Ba (fun e => hn e.symm),GL hb]
 | full hq hr hne hR hs ho =>
  rename_i R f rb
  have hf:=hR.from_
  have hlt:=(GI.1 hq).1
  have hltr:=(GI.1 hr).1
  obtain ⟨M,hMd⟩:∃ M,M=max 8 (2 * R.length):=⟨_,rfl⟩
  have hM:(max 8 (2 * (R.length:Int)):Int)=(M:Int):=by omega
  have hM1:2 * R.length≤M∧8≤M∧M≤8192:=by omega
  have hm:=Ao6 (n:=M) (by omega)
  have hqx:∀ x,(h++x)[q]? = some (.cells [.slice (some ⟨rb,0,none⟩) R.length R.length,.int .i64 f,.int .i64 l.length] false):=fun x => by rw [GL hlt];exact hq
  have hW1:=hW q (.inl (.inl rfl))
  have hW2:=hW h.length (.inr (Nat.le_refl _))
  have hlo:=A3a (b:=rb) (o:=0) (n:=R.length) (cap:=R.length) (k:=.i64) (x:=(f:Int)) (by omega) (by omega) (Nat.le_refl _)
  have hhi:=Azo (b:=rb) (o:=0) (n:=R.length) (cap:=R.length) (k:=.i64) (x:=(f:Int)) (by omega) (by omega)
  rw [Int.toNat_natCast,Nat.zero_add] at hlo
  rw [Int.toNat_natCast] at hhi
  generalize hrep:List.replicate M (Value.pointer none)=RM at hm
  have hlR:RM.length=M:=by rw [← hrep,List.length_replicate]
  have Hrep:=Hid.mk hrep
  have HlR:=Hid.mk hlR
  have HR:=Hid.mk hR
  have Ho:=Hid.mk ho
  have Hn:=Hid.mk hn
  clear hrep hlR hR ho hn hMd
  (repeat' simp -dsimp (disch:=omega) only [↓EA,EB,Nat.reduceEqDiff,↓reduceIte,reduceCtorEq,eq_self, *])
  have hld:(R.drop f).length=R.length - f:=List.length_drop ..
  have hlt2:(R.take f).length=f:=by rw [List.length_take];omega
  have hrx:∀ hh:Aa,hh[rb]? = some (.cells R false)→cellsOf 1 (.slice (some ⟨rb,f,none⟩) (R.length - f) (R.length - f)) hh=some ((R.drop f).length,R.drop f)∧cellsOf 1 (.slice (some ⟨rb,0,none⟩) f R.length) hh=some ((R.take f).length,R.take f):=fun hh e => by
   constructor
   ·rw [Ci,e,Ff,if_pos (by show f+(R.length - f) * 1≤R.length;omega),Nat.mul_one,← hld,List.take_length]
   ·rw [Ci,e,Ff,if_pos (by show 0+f * 1≤R.length;omega),Nat.mul_one,hlt2,List.drop_zero]
  have hset:∀ x y:LObj,(h++[x]).set h.length y=h++[y]:=fun x y => by rw [List.set_append_right _ _ (Nat.le_refl _),Nat.sub_self];rfl
  refine Zs (b:=h.length) (n:=0) (cap:=M) (c:=RM) (new:=R.drop f) (by rw [Bm];rfl) (by rw [HlR.out];exact Nat.le_refl _) (by rw [hld];omega) (by omega) (hrx _ (by rw [GL hltr];exact hr)).1 hW2 ?_
  rw [hset,hld,List.take_zero,List.nil_append,Nat.zero_add]
  obtain ⟨C1,hC1⟩:∃ C1,C1=R.drop f++RM.drop (R.length - f):=⟨_,rfl⟩
  have c1:C1.length=M:=by rw [hC1,LA,hld,List.length_drop,HlR.out];omega
  have c2:C1.take (R.length - f)=R.drop f:=by rw [hC1,← hld,List.take_left]
  have c3:C1.drop (R.length - f+f)=List.replicate (M - R.length) (.pointer none):=by
   rw [hC1,List.drop_append,List.drop_of_length_le (by rw [hld];omega),List.nil_append,hld,List.drop_drop,← Hrep.out,List.drop_replicate]
   congr 1;omega
  rw [← hC1]
  have HC:=Hid.mk (AI c1 (AI c2 c3))
  clear hC1 c1 c2 c3
  (repeat' simp -dsimp (disch:=omega) only [↓EA,EB,Nat.reduceEqDiff,↓reduceIte,reduceCtorEq,eq_self, *])
  refine Zs (b:=h.length) (n:=R.length - f) (cap:=M) (c:=C1) (new:=R.take f) (by rw [Bm];rfl) (by rw [HC.out.1];exact Nat.le_refl _) (by rw [hlt2];omega) (by omega) (hrx _ (by rw [GL hltr];exact hr)).2 hW2 ?_
  rw [hset,hlt2,HC.out.2.1,HC.out.2.2,show R.length - f+f=R.length by omega]
  have hmx:=Aty (b:=h.length) (o:=0) (n:=R.length) (cap:=M) (k:=.i64) (k':=.i64) (x:=(M:Int)) (y:=(M:Int)) (by omega) (by omega) (by omega)
  rw [Int.toNat_natCast] at hmx
  have hql:∀ x:LObj,q<(h++[x]).length:=fun x => by simp;omega
  (repeat' simp -dsimp (disch:=omega) only [↓EA,EB,Nat.reduceEqDiff,Nat.reduceAdd,Nat.reduceLeDiff,↓reduceIte,reduceCtorEq,eq_self, *,B9 (hql _)])
  rw [List.set_set]
  refine ⟨fun b => b=q∨b=h.length,M,?_,by have:=Hn.out;omega,by omega,?_⟩
  ·have hRg:=HR.out.grow Hn.out (M - R.length) (Value.pointer none)
   have hlg:(R.drop f++R.take f++List.replicate (M - R.length) (Value.pointer none)).length=M:=by simp;omega
   have hfull:=RingH.full (h:=List.set (h++[LObj.cells (R.drop f++R.take f++List.replicate (M - R.length) (Value.pointer none)) false]) q (LObj.cells [.slice (some ⟨h.length,0,none⟩) (R.drop f++R.take f++List.replicate (M - R.length) (Value.pointer none)).length (R.drop f++R.take f++List.replicate (M - R.length) (Value.pointer none)).length,.int .i64 ((0:Nat):Int),.int .i64 (l.length:Int)] false)) (q:=q) (l:=l) (f:=0) (rb:=h.length) (B9 (hql _)) (by rw [Ba (by omega),Bm];rfl) (by omega) hRg (by rw [hlg];omega) (fun x hx => by
    rcases List.mem_append.1 hx with hx | hx
    ·rcases List.mem_append.1 hx with hx | hx
     ·exact Ho.out x (List.mem_of_mem_drop hx)
     ·exact Ho.out x (List.mem_of_mem_take hx)
    ·rw [List.eq_of_mem_replicate hx];rfl)
   rw [hlg] at hfull
   simp only [List.append_assoc] at hfull ⊢
   exact hfull
  ·refine ⟨by simp,fun b hb => by rcases hb with rfl | rfl;exact .inl (.inl rfl);exact .inr (Nat.le_refl _),fun b hb => by rw [List.length_set,LA,List.length_singleton];rcases hb with rfl | rfl<;>omega,fun b hb hn => ?_⟩
   rw [Ba (fun e => hn (.inl e.symm)),GL hb]
theorem Aw7 (hE:Aw E) {h:Aa} {q:Nat} {l:List Value} {F:Nat→Prop} {N:Nat} (r:RingH h q l F N) (hN:N≤8192) (hl:l.length≤4096) {x:Value} (hx:Ah x=true) (hcx:Bl x=[x]) {W:Nat→Prop} (hW:∀ b,F b∨h.length≤b→W b) :
  WX W (callW E (.func (.func Av) #[] #[]) [.pointer (some ⟨q,0,none⟩),x] h) (fun v h' => ∃ F' N',RingH h' q (l++[x]) F' N'∧N'≤8192∧Stp F F' h h'):=by
 refine E9 hE.Lw rfl (by simp) ?_
 simp only [List.nil_append,List.cons_append,Ak]
 by_cases hfull:l.length<N
 ·have hW1:=fun b hb => hW b (.inl hb)
  cases r with
  | empty hq => exact absurd hfull (by simp)
  | full hq hr hne hR hs ho =>
   rename_i R f rb
   have hf:=hR.from_
   have hlt:=(GI.1 hq).1
   have hltr:=(GI.1 hr).1
   have hpush:=hR.push hfull x
   have hm:=Nat.mod_lt (f+(l).length) (show 0<R.length by omega)
   have e1:((f:Int)+((l).length:Int)).tmod R.length=(((f+(l).length) % R.length:Nat):Int):=by rw [Int.tmod_eq_emod_of_nonneg (by omega)];simp
   generalize (f+(l).length) % R.length=j at *
   have hj:(j:Int)<R.length:=by omega
   have hb1:((l).length:Int)≤1048576∧(f:Int)≤1048576∧(R.length:Int)≤1048576∧0<(R.length:Int):=by omega
   have hWq:=hW1 q (.inl rfl)
   have hWr:=hW1 rb (.inr rfl)
   have hq2:((h).set rb (.cells (R.set j x) false))[q]? = some (.cells [.slice (some ⟨rb,0,none⟩) R.length R.length,.int .i64 f,.int .i64 (l).length] false):=(Ba hne).trans hq
   have hql:q<((h).set rb (.cells (R.set j x) false)).length:=by rw [List.length_set];exact hlt
   have hsc:setCells R j [x]=R.set j x:=rfl
   have hj2:j+1≤R.length:=hm
   have HP:=Hid.mk hpush
   have HR:=Hid.mk hR
   have Ho:=Hid.mk ho
   clear hpush hR ho
   (repeat' (first | (with_reducible refine A3 (fun _ => ?_) (fun _ => ?_)<;>try (exfalso;omega)) | simp -dsimp (disch:=omega) only [↓EA,EB,Nat.reduceEqDiff,Nat.reduceAdd,↓reduceIte,reduceCtorEq,eq_self, *,Oo,Int.toNat_natCast,Nat.mul_one]))
   have hst:Stp (fun b => b=q∨b=rb) (fun b => b=q∨b=rb) h ((List.set (h) rb (LObj.cells (R.set j x) false)).set q (LObj.cells [.slice (some ⟨rb,0,none⟩) R.length R.length,.int .i64 f,.int .i64 (((l).length:Int)+1)] false)):=by
    refine ⟨by simp,fun b hb => .inl hb,fun b hb => by simp only [List.length_set];rcases hb with rfl | rfl<;>assumption,fun b hb hn => ?_⟩
    rw [Ba (fun e => hn (.inl e.symm)),Ba (fun e => hn (.inr e.symm))]
   have hnew:=RingH.full (h:=(List.set (h) rb (LObj.cells (R.set j x) false)).set q (LObj.cells [.slice (some ⟨rb,0,none⟩) (R.set j x).length (R.set j x).length,.int .i64 f,.int .i64 ((l++[x]).length:Int)] false)) (q:=q) (l:=l++[x]) (R:=R.set j x) (f:=f) (rb:=rb) (B9 hql) (by rw [Ba (Ne.symm hne)];exact B9 hltr) hne HP.out (by rw [List.length_set];exact hs) (fun y hy => by
    rcases List.mem_or_eq_of_mem_set hy with hy | rfl
    ·exact Ho.out y hy
    ·exact hx)
   simp only [List.length_set,LA,List.length_singleton,Int.natCast_add,Int.natCast_one] at hnew
   refine ⟨_,_,hnew,by omega,hst⟩
 ·have r0:=r
  cases r with
  | empty hq =>
   have hg:=Ajs hE r0 rfl (by decide) hW
   clear r0
   (repeat' (first | (with_reducible refine A3 (fun _ => ?_) (fun _ => ?_)<;>try (exfalso;omega)) | simp -dsimp (disch:=omega) only [↓EA,EB,Nat.reduceEqDiff,↓reduceIte,reduceCtorEq,eq_self, *,Oo]))
   refine WX.mono hg (fun b hb => hb) fun v h1 ⟨F1,N1,r1,hlt1,hN1,st1⟩ => ?_
   have hW1:=fun b hb => hW b (st1.own b hb)
   (repeat' simp -dsimp (disch:=omega) only [↓EA,EB,Nat.reduceEqDiff,↓reduceIte,reduceCtorEq,eq_self, *])
   obtain ⟨l,hl0⟩:∃ l,l=([]:List Value):=⟨_,rfl⟩
   rw [show ([]:List Value)++[x]=l++[x] by rw [hl0]]
   rw [← hl0] at r1 hlt1
   have hll:l.length≤4096:=by rw [hl0];decide
   have Hl0:=Hid.mk hl0
   clear hl0 hg hq hl
   cases r1 with
   | empty hq => exact absurd hlt1 (by simp)
   | full hq hr hne hR hs ho =>
    rename_i R f rb
    have hf:=hR.from_
    have hlt:=(GI.1 hq).1
    have hltr:=(GI.1 hr).1
    have hpush:=hR.push hlt1 x
    have hm:=Nat.mod_lt (f+(l).length) (show 0<R.length by omega)
    have e1:((f:Int)+((l).length:Int)).tmod R.length=(((f+(l).length) % R.length:Nat):Int):=by rw [Int.tmod_eq_emod_of_nonneg (by omega)];simp
    generalize (f+(l).length) % R.length=j at *
    have hj:(j:Int)<R.length:=by omega
    have hb1:((l).length:Int)≤1048576∧(f:Int)≤1048576∧(R.length:Int)≤1048576∧0<(R.length:Int):=by omega
    have hWq:=hW1 q (.inl rfl)
    have hWr:=hW1 rb (.inr rfl)
    have hq2:((h1).set rb (.cells (R.set j x) false))[q]? = some (.cells [.slice (some ⟨rb,0,none⟩) R.length R.length,.int .i64 f,.int .i64 (l).length] false):=(Ba hne).trans hq
    have hql:q<((h1).set rb (.cells (R.set j x) false)).length:=by rw [List.length_set];exact hlt
    have hsc:setCells R j [x]=R.set j x:=rfl
    have hj2:j+1≤R.length:=hm
    have HP:=Hid.mk hpush
    have HR:=Hid.mk hR
    have Ho:=Hid.mk ho
    clear hpush hR ho
    (repeat' simp -dsimp (disch:=omega) only [↓EA,EB,Nat.reduceEqDiff,Nat.reduceAdd,↓reduceIte,reduceCtorEq,eq_self, *,Int.toNat_natCast,Nat.mul_one])
    have hst:Stp (fun b => b=q∨b=rb) (fun b => b=q∨b=rb) h1 ((List.set (h1) rb (LObj.cells (R.set j x) false)).set q (LObj.cells [.slice (some ⟨rb,0,none⟩) R.length R.length,.int .i64 f,.int .i64 (((l).length:Int)+1)] false)):=by
     refine ⟨by simp,fun b hb => .inl hb,fun b hb => by simp only [List.length_set];rcases hb with rfl | rfl<;>assumption,fun b hb hn => ?_⟩
     rw [Ba (fun e => hn (.inl e.symm)),Ba (fun e => hn (.inr e.symm))]
    have hnew:=RingH.full (h:=(List.set (h1) rb (LObj.cells (R.set j x) false)).set q (LObj.cells [.slice (some ⟨rb,0,none⟩) (R.set j x).length (R.set j x).length,.int .i64 f,.int .i64 ((l++[x]).length:Int)] false)) (q:=q) (l:=l++[x]) (R:=R.set j x) (f:=f) (rb:=rb) (B9 hql) (by rw [Ba (Ne.symm hne)];exact B9 hltr) hne HP.out (by rw [List.length_set];exact hs) (fun y hy => by
     rcases List.mem_or_eq_of_mem_set hy with hy | rfl
     ·exact Ho.out y hy
     ·exact hx)
    simp only [List.length_set,LA,List.length_singleton,Int.natCast_add,Int.natCast_one] at hnew
    refine ⟨_,_,hnew,by omega,(st1.trans hst)⟩
  | full hq hr hne hR hs ho =>
   have hn:=hR.few
   have hn2:((l.length:Nat):Int)=_:=congrArg Int.ofNat (show l.length=_ from Nat.le_antisymm hn (by omega))
   have hg:=Ajs hE r0 (by omega) (by omega) hW
   have hn3:=congrArg Int.toNat hn2
   clear hR hr ho hne hs
   (repeat' (first | (with_reducible refine A3 (fun _ => ?_) (fun _ => ?_)<;>try (exfalso;omega)) | simp -dsimp (disch:=omega) only [↓EA,EB,Nat.reduceEqDiff,↓reduceIte,reduceCtorEq,eq_self, *,Oo]))
   refine WX.mono hg (fun b hb => hb) fun v h1 ⟨F1,N1,r1,hlt1,hN1,st1⟩ => ?_
   have hW1:=fun b hb => hW b (st1.own b hb)
   (repeat' simp -dsimp (disch:=omega) only [↓EA,EB,Nat.reduceEqDiff,↓reduceIte,reduceCtorEq,eq_self, *])
   clear hn hn2 hn3 hg hq
   cases r1 with
   | empty hq => exact absurd hlt1 (by simp)
   | full hq hr hne hR hs ho =>
    rename_i R f rb
    have hf:=hR.from_
    have hlt:=(GI.1 hq).1
    have hltr:=(GI.1 hr).1
    have hpush:=hR.push hlt1 x
    have hm:=Nat.mod_lt (f+(l).length) (show 0<R.length by omega)
    have e1:((f:Int)+((l).length:Int)).tmod R.length=(((f+(l).length) % R.length:Nat):Int):=by rw [Int.tmod_eq_emod_of_nonneg (by omega)];simp
    generalize (f+(l).length) % R.length=j at *
    have hj:(j:Int)<R.length:=by omega
    have hb1:((l).length:Int)≤1048576∧(f:Int)≤1048576∧(R.length:Int)≤1048576∧0<(R.length:Int):=by omega
    have hWq:=hW1 q (.inl rfl)
    have hWr:=hW1 rb (.inr rfl)
    have hq2:((h1).set rb (.cells (R.set j x) false))[q]? = some (.cells [.slice (some ⟨rb,0,none⟩) R.length R.length,.int .i64 f,.int .i64 (l).length] false):=(Ba hne).trans hq
    have hql:q<((h1).set rb (.cells (R.set j x) false)).length:=by rw [List.length_set];exact hlt
    have hsc:setCells R j [x]=R.set j x:=rfl
    have hj2:j+1≤R.length:=hm
    have HP:=Hid.mk hpush
    have HR:=Hid.mk hR
    have Ho:=Hid.mk ho
    clear hpush hR ho
    (repeat' simp -dsimp (disch:=omega) only [↓EA,EB,Nat.reduceEqDiff,Nat.reduceAdd,↓reduceIte,reduceCtorEq,eq_self, *,Int.toNat_natCast,Nat.mul_one])
    have hst:Stp (fun b => b=q∨b=rb) (fun b => b=q∨b=rb) h1 ((List.set (h1) rb (LObj.cells (R.set j x) false)).set q (LObj.cells [.slice (some ⟨rb,0,none⟩) R.length R.length,.int .i64 f,.int .i64 (((l).length:Int)+1)] false)):=by
     refine ⟨by simp,fun b hb => .inl hb,fun b hb => by simp only [List.length_set];rcases hb with rfl | rfl<;>assumption,fun b hb hn => ?_⟩
     rw [Ba (fun e => hn (.inl e.symm)),Ba (fun e => hn (.inr e.symm))]
    have hnew:=RingH.full (h:=(List.set (h1) rb (LObj.cells (R.set j x) false)).set q (LObj.cells [.slice (some ⟨rb,0,none⟩) (R.set j x).length (R.set j x).length,.int .i64 f,.int .i64 ((l++[x]).length:Int)] false)) (q:=q) (l:=l++[x]) (R:=R.set j x) (f:=f) (rb:=rb) (B9 hql) (by rw [Ba (Ne.symm hne)];exact B9 hltr) hne HP.out (by rw [List.length_set];exact hs) (fun y hy => by
     rcases List.mem_or_eq_of_mem_set hy with hy | rfl
     ·exact Ho.out y hy
     ·exact hx)
    simp only [List.length_set,LA,List.length_singleton,Int.natCast_add,Int.natCast_one] at hnew
    refine ⟨_,_,hnew,by omega,(st1.trans hst)⟩
theorem A2s {W:Nat→Prop} {h:Aa} {b f cap:Nat} {R:List Value} {Q:Value→Aa→Prop} (hb:h[b]? = some (.cells R false)) (hf:f<R.length) (hW:W b) (hq:∀ v,Q v (h.set b (.cells (R.set f (.pointer none)) false))):WX W (Sw [.pointer none] (.slice (some ⟨b,f,none⟩) 1 cap) h) Q:=by
 refine ⟨.tuple #[],_,[b],?_,fun y hy => by rw [List.mem_singleton.1 hy];exact hW,hq _⟩
 simp [Sw,hb]
 exact ⟨⟨hf,rfl⟩,rfl⟩
theorem A01 (hE:Aw E) {h:Aa} {q:Nat} {x:Value} {l:List Value} {F:Nat→Prop} {N:Nat} (r:RingH h q (x :: l) F N) (hv:∀ y∈x :: l,Ae h.length 3 y=true∧Et y=true) {W:Nat→Prop} (hW:∀ b,F b∨h.length≤b→W b) :
  WX W (callW E (.func (.func A8) #[] #[]) [.pointer (some ⟨q,0,none⟩)] h) (fun v h' => v = .tuple #[x,.bool true]∧RingH h' q l F N∧Stp F F h h'):=by
 refine E9 hE.Mp rfl (by simp) ?_
 simp only [List.nil_append,List.cons_append,Ak]
 have hat:=Aw8 hE r hv 0
 rw [if_pos ⟨by decide,by simp⟩] at hat
 have e0:(x :: l).getD (0:Int).toNat (.pointer none)=x:=rfl
 rw [e0] at hat
 obtain ⟨hx1,hx2⟩:=hv x (by simp)
 cases r with
 | full hq hr hne hR hs ho =>
  rename_i R f rb
  obtain ⟨hpop,hRf⟩:=hR.pop rfl (.pointer none)
  have hf:=hR.from_
  have hlt:=(GI.1 hq).1
  have hltr:=(GI.1 hr).1
  have hlh:=Atx (b:=rb) (o:=0) (n:=R.length) (cap:=R.length) (k:=.i64) (k':=.i64) (x:=(f:Int)) (y:=(f:Int)+1) (by omega) (by omega) (by omega)
  rw [Int.toNat_natCast,Nat.zero_add,show ((f:Int)+1).toNat - f=1 by omega] at hlh
  have hW1:=hW q (.inl (.inl rfl))
  have hW2:=hW rb (.inl (.inr rfl))
  have e1:((f:Int)+1).tmod R.length=(((f+1) % R.length:Nat):Int):=by rw [Int.tmod_eq_emod_of_nonneg (by omega)];simp
  have hm:=Nat.mod_lt (f+1) (show 0<R.length by omega)
  have hq2:(h.set rb (.cells (R.set f (.pointer none)) false))[q]? = some (.cells [.slice (some ⟨rb,0,none⟩) R.length R.length,.int .i64 f,.int .i64 (x :: l).length] false):=(Ba hne).trans hq
  have hql:q<(h.set rb (.cells (R.set f (.pointer none)) false)).length:=by rw [List.length_set];exact hlt
  have HP:=Hid.mk hpop
  have Ho:=Hid.mk ho
  have hfew:=hR.few
  rw [List.length_cons] at hfew
  clear hpop hRf ho hR
  (repeat' simp -dsimp (disch:=omega) only [↓EA,EB,Nat.reduceEqDiff,↓reduceIte,reduceCtorEq,eq_self, *])
  refine A2s hr hf hW2 fun v => ?_
  generalize hj:(f+1) % R.length=j at *
  have Hj:=Hid.mk hj
  clear hj
  (repeat' simp -dsimp (disch:=omega) only [↓EA,EB,Nat.reduceEqDiff,Nat.reduceAdd,Nat.reduceLeDiff,↓reduceIte,reduceCtorEq,eq_self, *])
  have hP:RingL (R.set f (.pointer none)) j l:=HP.out
  rw [List.set_set,show ((l.length+1:Nat):Int) - 1=l.length by omega]
  refine ⟨?_,?_⟩
  ·have hnew:=RingH.full (h:=(h.set rb (LObj.cells (R.set f (.pointer none)) false)).set q (LObj.cells [.slice (some ⟨rb,0,none⟩) (R.set f (.pointer none)).length (R.set f (.pointer none)).length,.int .i64 j,.int .i64 (l.length:Int)] false)) (q:=q) (l:=l) (R:=R.set f (.pointer none)) (f:=j) (rb:=rb) (B9 hql) (by rw [Ba (Ne.symm hne)];exact B9 hltr) hne hP (by rw [List.length_set];exact hs) (fun y hy => by
    rcases List.mem_or_eq_of_mem_set hy with hy | rfl
    ·exact Ho.out y hy
    ·rfl)
   simp only [List.length_set] at hnew
   exact hnew
  ·refine ⟨by simp,fun b hb => .inl hb,fun b hb => by simp only [List.length_set];rcases hb with rfl | rfl<;>assumption,fun b hb hn => ?_⟩
   rw [Ba (fun e => hn (.inl e.symm)),Ba (fun e => hn (.inr e.symm))]
end Go.L.Try
namespace Go.L.Try
open Go Go.L
variable {E:Env}
theorem Ayr {m b off:Nat} {sp:Option Nat} {A:Prop} (h:b<m):WL m (.pointer (some ⟨b,off,sp⟩)) A=A:=by simp [WL,low,h]
theorem A4n {m b off:Nat} {sp:Option Nat} {A:Prop} (h:m≤b):WHi m (.pointer (some ⟨b,off,sp⟩)) A=A:=by simp [WHi,high,h]
def Dp (p:Int × Int):List Value:=[.int .i64 p.1,.int .u64 p.2]
theorem Kw (l:List (Int × Int)):(l.map Dp).flatten.length=l.length * 2:=by
  have:(l.map Dp).length=l.length:=List.length_map ..
  rw [Ef (sz:=2) (L:=l.map Dp) (fun e he => by obtain ⟨a,_,rfl⟩:=List.mem_map.1 he;rfl),this]
inductive HeapH (h:Aa) (q:Nat) (lv:Value):List (Int × Int)→(Nat→Prop)→Prop
  | nil {came:Int} (hq:h[q]? = some (.cells [lv,.slice none 0 0,.int .u64 came] false)):HeapH h q lv [] (fun b => b=q)
  | some {its:List (Int × Int)} {ib:Nat} {c:List Value} {came:Int} (hq:h[q]? = some (.cells [lv,.slice (some ⟨ib,0,some 2⟩) its.length its.length,.int .u64 came] false)) (hi:h[ib]? = some (.cells ((its.map Dp).flatten++c) false)) (hne:ib≠q) (few:its.length≤8192):HeapH h q lv its (fun b => b=q∨b=ib)
theorem HeapH.keep {h h':Aa} {q:Nat} {lv:Value} {l:List (Int × Int)} {F:Nat→Prop} (r:HeapH h q lv l F) (hk:∀ b,F b→h'[b]? = h[b]?):HeapH h' q lv l F:=by
  cases r with
  | nil hq => exact .nil (by rw [hk q rfl];exact hq)
  | some hq hi hne few => exact .some (by rw [hk q (.inl rfl)];exact hq) (by rw [hk _ (.inr rfl)];exact hi) hne few
theorem HeapH.lt {h:Aa} {q:Nat} {lv:Value} {l:List (Int × Int)} {F:Nat→Prop} (r:HeapH h q lv l F):∀ b,F b→b<h.length:=by
  cases r with
  | nil hq => intro b hb;subst hb;exact (GI.1 hq).1
  | some hq hi hne few =>
    rintro b (rfl | rfl)
    · exact (GI.1 hq).1
    · exact (GI.1 hi).1
theorem HeapH.head {h:Aa} {q:Nat} {lv:Value} {l:List (Int × Int)} {F:Nat→Prop} (r:HeapH h q lv l F):F q:=by
  cases r with
  | nil hq => rfl
  | some hq hi hne few => exact .inl rfl
theorem HeapH.open_ {h:Aa} {q:Nat} {lv:Value} {l:List (Int × Int)} {F:Nat→Prop} (r:HeapH h q lv l F) (hn:l≠[]):∃ ib c came,h[q]? = Option.some (LObj.cells [lv,.slice (Option.some ⟨ib,0,Option.some 2⟩) l.length l.length,.int .u64 came] false)∧h[ib]? = Option.some (LObj.cells ((l.map Dp).flatten++c) false)∧ib≠q∧l.length≤8192∧F=fun b => b=q∨b=ib:=by
  cases r with
  | nil hq => exact absurd rfl hn
  | some hq hi hne few => exact ⟨_,_,_,hq,hi,hne,few,rfl⟩
theorem Aln {h:Aa} {ib:Nat} {its:List (Int × Int)} {c:List Value} (hi:h[ib]? = some (.cells ((its.map Dp).flatten++c) false)) (few:its.length≤8192):Rd 2 Dp h (.slice (some ⟨ib,0,some 2⟩) its.length its.length) its:=by
  refine ⟨fun e he => by obtain ⟨a,_,rfl⟩:=List.mem_map.1 he;rfl,by rw [List.length_map];omega,.inr ⟨ib,0,some 2,its.length,_,false,by rw [List.length_map],hi,?_,?_,by rw [List.length_map];exact Nat.le_refl _,.inr rfl⟩⟩
  · rw [LA,Kw,List.length_map];omega
  · rw [List.drop_zero,List.length_map,← Kw,List.take_left]
theorem A1m {W:Nat→Prop} {h:Aa} {ib:Nat} {its:List (Int × Int)} {c:List Value} (hi:h[ib]? = some (.cells ((its.map Dp).flatten++c) false)) {i:Int} {x:Int × Int} {Q:Aa→Prop} (h1:0≤i) (h2:i<its.length) (hW:W ib)
    (hq:(h.set ib (.cells (((its.set i.toNat x).map Dp).flatten++c) false))[ib]? = some (.cells (((its.set i.toNat x).map Dp).flatten++c) false)→Q (h.set ib (.cells (((its.set i.toNat x).map Dp).flatten++c) false))):WH W (stO 2 h ib (0+i.toNat * 2) [.int .i64 x.1,.int .u64 x.2] h[ib]?) Q:=by
  have hlt:=(GI.1 hi).1
  have hs:∀ e∈its.map Dp,e.length=2:=fun e he => by obtain ⟨a,_,rfl⟩:=List.mem_map.1 he;rfl
  have e1:setCells ((its.map Dp).flatten++c) (0+i.toNat * 2) [.int .i64 x.1,.int .u64 x.2]=((its.set i.toNat x).map Dp).flatten++c:=by
    have hl:=Kw its
    rw [F3,F3,Jm,Nat.zero_add,List.set_append_left _ _ (by omega),List.set_append_left _ _ (by rw [List.length_set];omega)]
    congr 1
    have f1:=Sr hs i.toNat 0 (.int .i64 x.1) (by rw [List.length_map];omega) (by decide)
    rw [Nat.add_zero] at f1
    rw [f1]
    rw [Sr (L:=(its.map Dp).set i.toNat _) (fun e he => by
      rcases List.mem_or_eq_of_mem_set he with he | rfl
      · exact hs e he
      · rw [List.length_set];exact hs _ (Row.getD_mem (by rw [List.length_map];omega))) i.toNat 1 (.int .u64 x.2) (by rw [List.length_set,List.length_map];omega) (by decide)]
    rw [List.set_set,List.map_set]
    congr 2
    rw [List.getD_eq_getElem?_getD,List.getElem?_set_self (by rw [List.length_map];omega),Option.getD_some]
    have:its[i.toNat]? = some its[i.toNat]:=List.getElem?_eq_getElem (by omega)
    rw [List.getD_eq_getElem?_getD,List.getElem?_map,this]
    rfl
  rw [hi,Mt,if_pos ⟨rfl,by rw [LA,Kw];omega,rfl⟩,Acx,e1]
  exact ⟨hW,hq (B9 hlt)⟩
theorem Ayh (l:List (Int × Int)) (i:Nat):atI l (i:Int)=gN l i:=rfl
theorem Ab1 (hE:Aw E) {h:Aa} {q:Nat} {lv:Value} {its:List (Int × Int)} {F:Nat→Prop} (r:HeapH h q lv its F) {i k:Nat} (hi:i<its.length) (hk:k<its.length) {W:Nat→Prop} (hW:∀ b,F b→W b) :
    WX W (callW E (.func (.func Bv) #[] #[]) [.pointer (some ⟨q,0,none⟩),.int .i64 i,.int .i64 k] h) (fun _ h' => HeapH h' q lv (D4 its i k) F∧Stp F F h h'∧h'.length=h.length):=by
  refine E9 hE.U4 rfl (by simp) ?_
  simp only [List.nil_append,List.cons_append,Ak]
  cases r with
  | nil hq => simp at hi
  | some hq hib hne few =>
    rename_i ib c came
    have rd:=Aln hib few
    have hW2:=hW ib (.inr rfl)
    have a1:(0:Int)≤(i:Int)∧(i:Int)<its.length:=by omega
    have a2:(0:Int)≤(k:Int)∧(k:Int)<its.length:=by omega
    have Hib:=Hid.mk hib
    clear hib
    (repeat' simp -dsimp (disch:=omega) only [↓EA,EB,Nat.reduceEqDiff,Nat.reduceAdd,↓reduceIte,reduceCtorEq,eq_self, *,rd.ixs,rd.lda,Dp])
    refine A1m (c:=c) (i:=(i:Int)) (x:=atI its k) Hib.out a1.1 a1.2 hW2 fun hib2 => ?_
    have Hib2:=Hid.mk hib2
    clear hib2
    (repeat' simp -dsimp (disch:=omega) only [↓EA,EB,Nat.reduceEqDiff,↓reduceIte,eq_self, *,rd.ixs])
    refine A1m (c:=c) (i:=(k:Int)) (x:=atI its i) Hib2.out a2.1 (by rw [List.length_set];exact a2.2) hW2 fun hib3 => ?_
    have Hib3:=Hid.mk hib3
    clear hib3
    (repeat' simp -dsimp (disch:=omega) only [↓EA,EB,eq_self, *])
    have e:(its.set ((i:Int)).toNat (atI its k)).set ((k:Int)).toNat (atI its i)=D4 its i k:=rfl
    have hib3:=Hib3.out
    rw [List.set_set] at hib3 ⊢
    rw [e] at hib3 ⊢
    refine ⟨?_,⟨by rw [List.length_set];exact Nat.le_refl _,fun b hb => .inl hb,fun b hb => ?_,fun b hb hn => Ba fun e => hn (.inr e.symm)⟩⟩
    · have h1:=HeapH.some (h:=h.set ib (.cells ((List.map Dp (D4 its i k)).flatten++c) false)) (q:=q) (lv:=lv) (its:=D4 its i k) (ib:=ib) (c:=c) (came:=came) (by rw [Ba hne,Cj];exact hq) hib3 hne (by rw [Cj];exact few)
      exact h1
    · rw [List.length_set]
      exact HeapH.lt (HeapH.some hq Hib.out hne few) b hb
def Yh (E:Env) (h0:Aa) (lv:Value) (P:Int→Int) (n:Nat):Prop:=∀ hh,Pre h0 hh→∀ a b:Int,0≤a→a<n→0≤b→b<n→callW E lv [.int .i64 a,.int .i64 b] hh=some (.bool (decide (P a<P b)),hh,[])
theorem Ael (hE:Aw E) {h0 h:Aa} {q n:Nat} {lv:Value} {P:Int→Int} {its:List (Int × Int)} {F:Nat→Prop} (r:HeapH h q lv its F) (hp:Pre h0 h) (hlv:Ah lv=true) (hl:Yh E h0 lv P n) (hin:∀ p∈its,0≤p.1∧p.1<n) {i k:Nat} (hi:i<its.length) (hk:k<its.length) (hne:P (gN its i).1≠P (gN its k).1) :
    callW E (.func (.func B3) #[] #[]) [.pointer (some ⟨q,0,none⟩),.int .i64 i,.int .i64 k] h=some (.bool (decide (P (gN its i).1<P (gN its k).1)),h,[]):=by
  refine Am hE.T8 rfl (by simp) ?_
  simp only [Ak]
  cases r with
  | nil hq => simp at hi
  | some hq hib hne2 few =>
    rename_i ib c came
    have rd:=Aln hib few
    have a1:(0:Int)≤(i:Int)∧(i:Int)<its.length:=by omega
    have a2:(0:Int)≤(k:Int)∧(k:Int)<its.length:=by omega
    have m1:=hin _ (Aj (l:=its) (i:=(i:Int)) a1.1 a1.2)
    have m2:=hin _ (Aj (l:=its) (i:=(k:Int)) a2.1 a2.2)
    have c1:=fun x => hl (h++x) (hp.app' x) _ _ m1.1 m1.2 m2.1 m2.2
    have c2:=fun x => hl (h++x) (hp.app' x) _ _ m2.1 m2.2 m1.1 m1.2
    have hib':ib<h.length:=(GI.1 hib).1
    have hq':q<h.length:=(GI.1 hq).1
    have hbv:blk (.slice (some ⟨ib,0,some 2⟩) its.length its.length)<h.length:=hib'
    generalize Value.slice (some ⟨ib,0,some 2⟩) its.length its.length=v at *
    have hqx:∀ x,(h++x)[q]? = some (.cells [lv,v,.int .u64 came] false):=fun x => by rw [GL hq'];exact hq
    rw [← Ayh,← Ayh] at hne ⊢
    have Hne:=Hid.mk hne
    clear hin hl hib hne
    (repeat' (first | (with_reducible refine A3 (fun _ => ?_) (fun _ => ?_)<;>try (exfalso;omega)) | simp -dsimp (disch:=omega) only [↓EA,EB,Nat.reduceEqDiff,Nat.reduceAdd,↓reduceIte,reduceCtorEq,Ac,eq_self, *,rd.ixs,rd.ldxa,Dp,Ayr,A4n]))
    exfalso;have:=Hne.out;omega
theorem Apg (hE:Aw E) {h:Aa} {q:Nat} {lv:Value} {its:List (Int × Int)} {F:Nat→Prop} (r:HeapH h q lv its F) :
    callW E (.func (.func Dg) #[] #[]) [.pointer (some ⟨q,0,none⟩)] h=some (.int .i64 its.length,h,[]):=by
  refine Am hE.We rfl (by simp) ?_
  simp only [Ak]
  cases r with
  | nil hq => (repeat' simp -dsimp (disch:=omega) only [↓EA,EB,↓reduceIte,reduceCtorEq,eq_self, *,Oo])
  | some hq hib hne2 few => (repeat' simp -dsimp (disch:=omega) only [↓EA,EB,↓reduceIte,reduceCtorEq,eq_self, *,Oo])
theorem Awz (hE:Aw E) {h:Aa} {q:Nat} {lv:Value} {its:List (Int × Int)} {F:Nat→Prop} (r:HeapH h q lv its F) :
    callW E (.func (.func C0) #[] #[]) [.pointer (some ⟨q,0,none⟩)] h=some (if its=[] then .tuple #[.int .i64 0,.bool false] else .tuple #[.int .i64 (gN its 0).1,.bool true],h,[]):=by
  have hL:=Apg hE r
  refine Am hE.U7 rfl (by simp) ?_
  simp only [Ak]
  by_cases hn:its=[]
  · subst hn
    rw [if_pos rfl]
    (repeat' (first | (with_reducible refine A3 (fun _ => ?_) (fun _ => ?_)<;>try (exfalso;omega)) | simp -dsimp (disch:=omega) only [↓EA,EB,Nat.reduceEqDiff,↓reduceIte,reduceCtorEq,eq_self, *]))
  · rw [if_neg hn]
    have hpos:0<its.length:=List.length_pos_iff.2 hn
    cases r with
    | nil hq => exact absurd rfl hn
    | some hq hib hne2 few =>
      have rd:=Aln hib few
      have e0:atI its 0=gN its 0:=rfl
      (repeat' (first | (with_reducible refine A3 (fun _ => ?_) (fun _ => ?_)<;>try (exfalso;omega)) | simp -dsimp (disch:=omega) only [↓EA,EB,Nat.reduceEqDiff,↓reduceIte,reduceCtorEq,eq_self, *,rd.ixs,rd.ld0,Dp]))
theorem Akp {W:Nat→Prop} {h:Aa} {v:Value} {its:List (Int × Int)} {ib:Nat} {c:List Value} {a:Value} {x:Int × Int} {Q:Value→Aa→Prop} (hv:(v = .slice none 0 0∧its=[])∨(v = .slice (some ⟨ib,0,some 2⟩) its.length its.length∧h[ib]? = some (.cells ((its.map Dp).flatten++c) false)∧W ib)) (few:its.length≤8192)
    (ha:cellsOf 2 a h=some (1,Dp x))
    (hq:∀ h',h'.length=h.length+1→h'[h.length]? = some (.cells (((its++[x]).map Dp).flatten) false)→(∀ b,b<h.length→(its≠[]∨v ≠ .slice none 0 0→b≠ib)→h'[b]? = h[b]?)→Q (.slice (some ⟨h.length,0,some 2⟩) (its.length+1) (its.length+1)) h'):WX W (Cn 2 16 v a h) Q:=by
  have hcond:(its.length+1) * 16≤140737488355328∧its.length+1<4611686018427387904∧(2:Nat)≠0∧(16:Nat)≠0:=⟨by omega,by omega,by decide,by decide⟩
  have e1:((its++[x]).map Dp).flatten=(its.map Dp).flatten++Dp x:=by simp
  rcases hv with ⟨rfl,rfl⟩ | ⟨rfl,hib,hW⟩
  · refine ⟨_,_,[],?_,(fun b hb => nomatch hb),hq (h++[.cells (Dp x) false]) (by simp) (by rw [Bm];rfl) (fun b hb _ => GL hb)⟩
    have hc:cellsOf 2 (.slice none 0 0) h=some (0,[]):=rfl
    simp only [Cn,ha,hc,List.length_nil,Nat.zero_add,if_true,Nat.one_ne_zero,if_false,List.nil_append]
    rfl
  · have hlt:=(GI.1 hib).1
    refine ⟨_,_,[ib],?_,(fun b hb => by rw [List.mem_singleton.1 hb];exact hW),hq (h.set ib .dead++[.cells ((its.map Dp).flatten++Dp x) false]) (by simp) ?_ (fun b hb hn => ?_)⟩
    · have hc:cellsOf 2 (.slice (some ⟨ib,0,some 2⟩) its.length its.length) h=some (its.length,(its.map Dp).flatten):=by
        rw [Ci,hib,Ff,if_pos (by show 0+its.length * 2≤_;rw [LA,Kw];omega)]
        show some (its.length,(((its.map Dp).flatten++c).drop 0).take (its.length * 2))=_
        rw [List.drop_zero,← Kw,List.take_left]
      simp only [Cn,ha,hc,Nat.one_ne_zero,if_false,hcond,and_self,if_true,hib,ne_eq,not_false_eq_true]
    · rw [List.getElem?_append_right (by simp),List.length_set,Nat.sub_self,e1];rfl
    · rw [GL (by rw [List.length_set];exact hb),Ba]
      exact fun e => hn (.inr (by simp)) e.symm
theorem A2i {P:Int→Int} {L:List (Int × Int)} (h:(L.map fun p => P p.1).Nodup) {i j:Nat} (hi:i<L.length) (hj:j<L.length) (hij:i≠j):P (gN L i).1≠P (gN L j).1:=by
  rw [Aem hi,Aem hj]
  intro e
  have h1:=List.pairwise_iff_getElem.1 h
  rcases Nat.lt_or_ge i j with h2 | h2
  · exact h1 i j (by simpa using hi) (by simpa using hj) h2 (by simpa using e)
  · exact h1 j i (by simpa using hj) (by simpa using hi) (by omega) (by simpa using e.symm)
theorem A4s {i:Nat} (h:0<i):((i:Int) - 1).tdiv 2=(((i - 1) / 2:Nat):Int):=by
  rw [Int.tdiv_eq_ediv_of_nonneg (by omega)];omega
structure UpS (h0 h:Aa) (q:Nat) (lv:Value) (P:Int→Int) (n:Nat) (A:List (Int × Int)) (F:Nat→Prop) (L:List (Int × Int)) (F':Nat→Prop) (h':Aa):Prop where
  r:HeapH h' q lv L F'
  st:Stp F F' h h'
  perm:L.Perm A
theorem A30 (hE:Aw E) {h0 h:Aa} {q n:Nat} {lv:Value} {P:Int→Int} {A:List (Int × Int)} {F:Nat→Prop} (r:HeapH h q lv A F) (hp:Pre h0 h) (hge:∀ b,F b→h0.length≤b) (hlv:Ah lv=true) (hl:Yh E h0 lv P n) (hin:∀ p∈A,0≤p.1∧p.1<n) (hnd:(A.map fun p => P p.1).Nodup) (hu:UpL (fun p => P p.1) A (A.length - 1)) (hA:A.length≤8192) {W:Nat→Prop} (hW:∀ b,F b→W b) {fr:Fr} (g0:get fr 0 = .pointer (some ⟨q,0,none⟩)) (g4:get fr 4 = .int .i64 ((A.length - 1:Nat):Int)) {Q:Ex→Fr→Aa→Prop}
    (hq:∀ fr' h' L,HeapH h' q lv L F→Stp F F h h'→Rf (fun p => P p.1) L→L.Perm A→Q (.exit 0) fr' h'):WO W (iterW (code (callW E) iterW 54 Fb) fr h) Q:=by
  refine WO.loop (fun (a:Nat × List (Int × Int)) fr h' => HeapH h' q lv a.2 F∧Stp F F h h'∧UpL (fun p => P p.1) a.2 a.1∧a.2.Perm A∧get fr 0 = .pointer (some ⟨q,0,none⟩)∧get fr 4 = .int .i64 (a.1:Int)) (fun a => a.1) ?_ (A.length - 1,A) ⟨r,⟨Nat.le_refl _,fun b hb => .inl hb,r.lt,fun b _ _ => rfl⟩,hu,List.Perm.refl _,g0,g4⟩
  rintro ⟨i,L⟩ fr h' ⟨r',st,u,pm,g0,g4⟩
  dsimp only at r' st u pm g0 g4 ⊢
  have hlen:L.length=A.length:=pm.length_eq
  have hi:=u.lt
  have hpre:Pre h0 h':=fun b o hb => by
    have hlt:=(GI.1 hb).1
    rw [st.keep b (Nat.lt_of_lt_of_le hlt hp.le) (fun hf => by have:=hge b hf;omega)]
    exact hp b o hb
  have hin':∀ p∈L,0≤p.1∧p.1<n:=fun p hpp => hin p (pm.mem_iff.1 hpp)
  have hnd':(L.map fun p => P p.1).Nodup:=(pm.map _).nodup_iff.2 hnd
  have St:=Hid.mk st
  have Hlen:=Hid.mk hlen
  have Hnd:=Hid.mk hnd'
  have Hin:=Hid.mk hin'
  have Hq:=Hid.mk hq
  clear st hlen hnd' hin' hin hnd hq
  unfold Fb
  have hi2:(i:Int)<8192:=by have:=Hlen.out;omega
  by_cases h0i:0<i
  · have e1:=A4s h0i
    have ha:=Ael hE r' hpre hlv hl Hin.out (i:=i) (k:=(i - 1) / 2) hi (by omega) (A2i Hnd.out hi (by omega) (by omega))
    have hsw:=Ab1 hE r' (i:=i) (k:=(i - 1) / 2) hi (by omega) hW
    (repeat' (first | (with_reducible refine A1 (fun _ => ?_) (fun _ => ?_)<;>try (exfalso;omega)) | (with_reducible refine A3 (fun _ => ?_) (fun _ => ?_)<;>try (exfalso;omega)) | simp -dsimp (disch:=omega) only [↓EA,EB,Nat.reduceEqDiff,↓reduceIte,reduceCtorEq,eq_self, *]))
    · refine WX.mono hsw (fun b hb => hb) fun v h2 ⟨r2,st2,hl2⟩ => ?_
      (repeat' simp -dsimp (disch:=omega) only [↓EA,EB,Nat.reduceEqDiff,↓reduceIte,reduceCtorEq,eq_self, *])
      exact Next.mk ((i - 1) / 2,D4 L i ((i - 1) / 2)) ⟨r2,St.out.trans st2,Ay1 u h0i ‹_›,(Uo hi (by omega)).trans pm,rfl,rfl⟩ (by show (i - 1) / 2<i;omega)
    · exact Hq.out _ _ L r' St.out (Atj u fun _ => ‹_›) pm
  · (repeat' (first | (with_reducible refine A1 (fun _ => ?_) (fun _ => ?_)<;>try (exfalso;omega)) | simp -dsimp (disch:=omega) only [↓EA,EB,Nat.reduceEqDiff,↓reduceIte,reduceCtorEq,eq_self, *]))
    exact Hq.out _ _ L r' St.out (Atj u fun h => absurd h h0i) pm
theorem Awy (hE:Aw E) {h0 h:Aa} {q n:Nat} {lv:Value} {P:Int→Int} {A:List (Int × Int)} {F:Nat→Prop} (r:HeapH h q lv A F) (hp:Pre h0 h) (hge:∀ b,F b→h0.length≤b) (hlv:Ah lv=true) (hl:Yh E h0 lv P n) (hin:∀ p∈A,0≤p.1∧p.1<n) (hnd:(A.map fun p => P p.1).Nodup) {x:Int} (hx:0≤x∧x<n) (hxn:∀ p∈A,P p.1≠P x) (hh:Rf (fun p => P p.1) A) (few:A.length<8192) {W:Nat→Prop} (hW:∀ b,F b∨h.length≤b→W b) :
    WX W (callW E (.func (.func Bb) #[] #[]) [.pointer (some ⟨q,0,none⟩),.int .i64 x] h) (fun _ h' => ∃ L F',HeapH h' q lv L F'∧Stp F F' h h'∧Rf (fun p => P p.1) L∧(L.map Prod.fst).Perm (x :: A.map Prod.fst)):=by
  refine E9 hE.U6 rfl (by simp) ?_
  simp only [List.nil_append,List.cons_append,Ak]
  have hqlt:=r.lt q r.head
  have hWq:=hW q (.inl r.head)
  have hWn:=fun b (hb:h.length≤b) => hW b (.inr hb)
  have hWn1:=hWn (h.length+1) (by omega)
  obtain ⟨v,came,ib,c,hq,hv,hF⟩:∃ v came ib c,h[q]? = some (.cells [lv,v,.int .u64 came] false)∧((v = .slice none 0 0∧A=[])∨(v = .slice (some ⟨ib,0,some 2⟩) A.length A.length∧h[ib]? = some (.cells ((A.map Dp).flatten++c) false)∧W ib))∧(F=(fun b => b=q)∨(F=(fun b => b=q∨b=ib)∧ib≠q)):=by
    cases r with
    | nil hq => exact ⟨_,_,0,[],hq,.inl ⟨rfl,rfl⟩,.inl rfl⟩
    | some hq hib hne2 few2 => exact ⟨_,_,_,_,hq,.inr ⟨rfl,hib,hW _ (.inl (.inr rfl))⟩,.inr ⟨rfl,hne2⟩⟩
  have hvo:Ah v=true∧Pq false v=some (.int .i64 A.length):=by
    rcases hv with ⟨rfl,rfl⟩ | ⟨rfl,_⟩<;>exact ⟨rfl,rfl⟩
  have hvl:∀ X:Prop,WL h.length v X=X:=fun X => by
    rcases hv with ⟨rfl,_⟩ | ⟨rfl,hib,_⟩
    · simp [WL,low]
    · have:=(GI.1 hib).1
      simp [WL,low,this]
  have hvc:=Acf hvo.1
  obtain ⟨hvo1,hvo2⟩:=hvo
  have hqx:∀ y,(h++y)[q]? = some (.cells [lv,v,.int .u64 came] false):=fun y => by rw [GL hqlt];exact hq
  have Hv:=Hid.mk hv
  have Hl:=Hid.mk hl
  have HF:=Hid.mk hF
  have Hr:=Hid.mk r
  clear hv hl hF r
  (repeat' simp -dsimp (disch:=omega) only [↓EA,EB,Nat.reduceEqDiff,Nat.reduceAdd,Nat.reduceLeDiff,Nat.reduceMul,↓reduceIte,reduceCtorEq,Ac,Rq,eq_self, *,Oo,Ayr])
  refine Akp (its:=A) (ib:=ib) (c:=c) (x:=(x,came)) ?_ (by omega) ?_ fun h1 hl1 hb1 hk1 => ?_
  · rcases Hv.out with ⟨rfl,e⟩ | ⟨rfl,h3,h4⟩
    · exact .inl ⟨rfl,e⟩
    · exact .inr ⟨rfl,by rw [GL (GI.1 h3).1];exact h3,h4⟩
  · rw [Ci,Bm];rfl
  rw [LA,List.length_singleton] at hl1 hb1
  have hibq:A≠[]∨v ≠ .slice none 0 0→ib≠q:=fun hh => by
    rcases HF.out with e | ⟨_,e⟩
    · rcases Hv.out with ⟨rfl,e2⟩ | ⟨rfl,h3,h4⟩
      · rcases hh with hh | hh
        · exact absurd e2 hh
        · exact absurd rfl hh
      · cases Hr.out with
        | nil hq' => rw [hq] at hq';cases hq'
        | some hq' _ hne _ => rw [hq] at hq';cases hq';exact hne
    · exact e
  have hq1:h1[q]? = some (.cells [lv,v,.int .u64 came] false):=by
    rw [hk1 q (by simp;omega) fun hh => (hibq hh).symm];exact hqx _
  have hql1:q<h1.length:=by omega
  have Hb1:=Hid.mk hb1
  have Hk1:=Hid.mk hk1
  clear hb1 hk1 hqx hvl
  (repeat' simp -dsimp (disch:=omega) only [↓EA,EB,Nat.reduceEqDiff,Nat.reduceAdd,Nat.reduceLeDiff,↓reduceIte,reduceCtorEq,eq_self, *,B9 hql1,List.set_set])
  have hH2:HeapH (h1.set q (.cells [lv,.slice (some ⟨h.length+1,0,some 2⟩) (A.length+1) (A.length+1),.int .u64 (IntKind.u64.wrap (came+1))] false)) q lv (A++[(x,came)]) (fun b => b=q∨b=h.length+1):=by
    have h3:=HeapH.some (h:=h1.set q (.cells [lv,.slice (some ⟨h.length+1,0,some 2⟩) (A++[(x,came)]).length (A++[(x,came)]).length,.int .u64 (IntKind.u64.wrap (came+1))] false)) (q:=q) (lv:=lv) (its:=A++[(x,came)]) (ib:=h.length+1) (c:=[]) (came:=IntKind.u64.wrap (came+1)) (B9 hql1) (by rw [Ba (by omega),List.append_nil];exact Hb1.out) (by omega) (by rw [LA,List.length_singleton];omega)
    rw [LA,List.length_singleton] at h3
    exact h3
  have hst1:Stp F (fun b => b=q∨b=h.length+1) h (h1.set q (.cells [lv,.slice (some ⟨h.length+1,0,some 2⟩) (A.length+1) (A.length+1),.int .u64 (IntKind.u64.wrap (came+1))] false)):=by
    refine ⟨by rw [List.length_set];omega,fun b hb => ?_,fun b hb => by rw [List.length_set];rcases hb with rfl | rfl<;>omega,fun b hb hn => ?_⟩
    · rcases hb with rfl | rfl
      · exact .inl Hr.out.head
      · exact .inr (by omega)
    · rw [Ba (fun e => hn (by rw [← e];exact Hr.out.head):q≠b),Hk1.out b (by rw [LA];omega) (fun hh e => hn ?_),GL hb]
      subst e
      rcases HF.out with e | ⟨e,_⟩
      · exfalso
        rcases Hv.out with ⟨rfl,e2⟩ | ⟨rfl,h3,h4⟩
        · rcases hh with hh | hh
          · exact hh e2
          · exact hh rfl
        · cases Hr.out with
          | nil hq' => rw [hq] at hq';cases hq'
          | some hq' _ hne _ => have:=congrFun e b;simp at this;rw [hq] at hq';cases hq';exact hne (this rfl)
      · rw [e];exact .inr rfl
  generalize List.set h1 q _=h2 at hH2 hst1 ⊢
  have hp2:Pre h0 h2:=fun b o hb => by
    have hlt:=(GI.1 hb).1
    rw [hst1.keep b (Nat.lt_of_lt_of_le hlt hp.le) (fun hf => by have:=hge b hf;omega)]
    exact hp b o hb
  have hgN:∀ i,i<A.length→gN (A++[(x,came)]) i=gN A i:=fun i hi => by
    unfold gN;rw [List.getD_eq_getElem?_getD,List.getD_eq_getElem?_getD,GL hi]
  refine A30 hE hH2 hp2 (fun b hb => by rcases hb with rfl | rfl;exact hge _ Hr.out.head;have:=hp.le;omega) hlv Hl.out (fun p hpp => by rcases List.mem_append.1 hpp with h5 | h5;exact hin p h5;rw [List.mem_singleton.1 h5];exact hx) (by
    rw [List.map_append,List.nodup_append]
    refine ⟨hnd,by simp,fun a ha b hb => ?_⟩
    obtain ⟨p,hpp,rfl⟩:=List.mem_map.1 ha
    simp only [List.map_cons,List.map_nil,List.mem_singleton] at hb
    rw [hb];exact hxn p hpp) (by
    rw [LA,List.length_singleton,Nat.add_sub_cancel]
    exact Atk hh _) (by rw [LA,List.length_singleton];omega) (fun b hb => by rcases hb with rfl | rfl;exact hWq;exact hWn1) rfl (by
    rw [LA,List.length_singleton,Nat.add_sub_cancel]
    simp only [get];simp) fun fr' h' L r' st' hh' pm => ?_
  (repeat' simp -dsimp (disch:=omega) only [EB,↓reduceIte,eq_self, *])
  exact ⟨L,_,r',hst1.trans st',hh',by
    have:=pm.map Prod.fst
    rw [List.map_append] at this
    exact this.trans List.perm_append_comm⟩
theorem Stp.refl' {h:Aa} {q:Nat} {lv:Value} {L:List (Int × Int)} {F:Nat→Prop} (r:HeapH h q lv L F):Stp F F h h:=⟨Nat.le_refl _,fun b hb => .inl hb,r.lt,fun b _ _ => rfl⟩
theorem Aw0 (hE:Aw E) {h0 h:Aa} {q n:Nat} {lv:Value} {P:Int→Int} {A:List (Int × Int)} {F:Nat→Prop} (r:HeapH h q lv A F) (hp:Pre h0 h) (hge:∀ b,F b→h0.length≤b) (hlv:Ah lv=true) (hl:Yh E h0 lv P n) (hin:∀ p∈A,0≤p.1∧p.1<n) (hnd:(A.map fun p => P p.1).Nodup) (hd:Afa (fun p => P p.1) A 0) (hA:A.length≤8192) {W:Nat→Prop} (hW:∀ b,F b→W b) :
    WX W (callW E (.func (.func Cz) #[] #[]) [.pointer (some ⟨q,0,none⟩),.int .i64 0] h) (fun _ h' => ∃ L,HeapH h' q lv L F∧Stp F F h h'∧Rf (fun p => P p.1) L∧L.Perm A):=by
  refine E9 hE.U5 rfl (by simp) ?_
  simp only [List.nil_append,List.cons_append,Ak]
  have Hin:=Hid.mk hin
  have Hnd:=Hid.mk hnd
  have Hl:=Hid.mk hl
  have st0:=Stp.refl' r
  clear hin hnd hl
  (repeat' simp -dsimp (disch:=omega) only [↓EA,EB, *])
  refine WO.loop (fun (a:Nat × List (Int × Int)) fr h' => HeapH h' q lv a.2 F∧Stp F F h h'∧Afa (fun p => P p.1) a.2 a.1∧a.2.Perm A∧a.1≤a.2.length∧get fr 0 = .pointer (some ⟨q,0,none⟩)∧get fr 1 = .int .i64 (a.1:Int)) (fun a => a.2.length - a.1) ?_ (0,A) ⟨r,st0,hd,List.Perm.refl _,Nat.zero_le _,rfl,rfl⟩
  rintro ⟨i,L⟩ fr h' ⟨r',st,d,pm,hi,g0,g1⟩
  dsimp only at r' st d pm hi g0 g1 ⊢
  have hlen:L.length=A.length:=pm.length_eq
  have hpre:Pre h0 h':=fun b o hb => by
    have hlt:=(GI.1 hb).1
    rw [st.keep b (Nat.lt_of_lt_of_le hlt hp.le) (fun hf => by have:=hge b hf;omega)]
    exact hp b o hb
  have hin':∀ p∈L,0≤p.1∧p.1<n:=fun p hpp => Hin.out p (pm.mem_iff.1 hpp)
  have hnd':(L.map fun p => P p.1).Nodup:=(pm.map _).nodup_iff.2 Hnd.out
  have hL2:(L.length:Int)≤8192:=by omega
  have hi2:(i:Int)≤8192:=by omega
  have St:=Hid.mk st
  have Hlen:=Hid.mk hlen
  have Hnd':=Hid.mk hnd'
  have Hin':=Hid.mk hin'
  clear st hlen hnd' hin' st0 hd r
  unfold Jj
  (repeat' simp -dsimp (disch:=omega) only [↓EA,EB,Nat.reduceEqDiff,↓reduceIte,reduceCtorEq,eq_self, *])
  refine WO.loop (fun (a:Nat × Nat) fr h2 => h2=h'∧2 * i+1≤a.1∧a.1≤2 * i+3∧(a.2=i∨(2 * i+1≤a.2∧a.2<a.1∧a.2<L.length∧P (gN L a.2).1<P (gN L i).1))∧(∀ c,2 * i+1≤c→c<a.1→c<L.length→P (gN L a.2).1≤P (gN L c).1)∧get fr 0 = .pointer (some ⟨q,0,none⟩)∧get fr 1 = .int .i64 (i:Int)∧get fr 4 = .int .i64 (a.2:Int)∧get fr 5 = .int .i64 (a.1:Int)) (fun a => 2 * i+3 - a.1) ?_ (2 * i+1,i) ⟨rfl,Nat.le_refl _,by omega,.inl rfl,fun c h1 h2 => by omega,rfl,rfl,rfl,?_⟩
  · rintro ⟨k,m⟩ fr h2 ⟨rfl,k1,k2,hm,hb,g0,g1,g4,g5⟩
    dsimp only at k1 k2 hm hb g0 g1 g4 g5 ⊢
    have hk2:(2 * i+1:Int)≤k∧(k:Int)≤2 * i+3:=by omega
    have Hm:=Hid.mk hm
    have Hb:=Hid.mk hb
    have Hll:=Apg hE r'
    clear hm hb
    obtain ⟨vv,cc,hqq,hvv⟩:∃ vv cc,h2[q]? = some (.cells [lv,vv,cc] false)∧Pq false vv=some (.int .i64 L.length):=by
      cases r' with
      | nil hq => exact ⟨_,_,hq,rfl⟩
      | some hq _ _ _ => exact ⟨_,_,hq,rfl⟩
    unfold Jk
    by_cases hkl:k≤2 * i+2∧k<L.length
    · have hml:m<L.length∧m≠k:=by
        rcases Hm.out with e | e
        · omega
        · omega
      have ha:=Ael hE r' hpre hlv Hl.out Hin'.out (i:=k) (k:=m) hkl.2 hml.1 (A2i Hnd'.out hkl.2 hml.1 hml.2.symm)
      have hk3:(k:Int)≤2 * i+2∧(k:Int)<L.length:=by omega
      (repeat' (first | (with_reducible refine A3 (fun _ => ?_) (fun _ => ?_)<;>try (exfalso;omega)) | simp -dsimp (disch:=omega) only [↓EA,EB,Nat.reduceEqDiff,↓reduceIte,reduceCtorEq,eq_self, *]))
      · refine Next.mk (k+1,k) ⟨rfl,by dsimp only;omega,by dsimp only;omega,.inr ⟨by dsimp only;omega,by dsimp only;omega,hkl.2,?_⟩,fun c h1 h2 h3 => ?_,rfl,rfl,rfl,by dsimp only;simp [get]⟩ (by dsimp only;omega)
        · dsimp only
          rcases Hm.out with e | e
          · rw [← e];assumption
          · have:=e.2.2.2;omega
        · dsimp only at h1 h2 ⊢
          by_cases ek:c=k
          · rw [ek];exact Int.le_refl _
          · have:=Hb.out c h1 (by omega) h3;omega
      · refine Next.mk (k+1,m) ⟨rfl,by dsimp only;omega,by dsimp only;omega,?_,fun c h1 h2 h3 => ?_,rfl,rfl,rfl,by dsimp only;simp [get]⟩ (by dsimp only;omega)
        · dsimp only
          rcases Hm.out with e | e
          · exact .inl e
          · exact .inr ⟨e.1,by omega,e.2.2⟩
        · dsimp only at h1 h2 ⊢
          by_cases ek:c=k
          · rw [ek];omega
          · exact Hb.out c h1 (by omega) h3
    · have hall:∀ c,0<c→c<L.length→(c - 1) / 2=i→P (gN L m).1≤P (gN L c).1:=fun c c1 c2 c3 => Hb.out c (by omega) (by omega) c2
      have hsw:=fun (e:¬ m=i) => Ab1 hE r' (i:=i) (k:=m) (by rcases Hm.out with h5 | h5;exact absurd h5 e;omega) (by rcases Hm.out with h5 | h5;exact absurd h5 e;exact h5.2.2.1) hW
      have Hsw:=Hid.mk hsw
      clear hsw
      have Hkl:=Hid.mk hkl
      (repeat' (first | (with_reducible refine A1 (fun _ => ?_) (fun _ => ?_)<;>try (exfalso;omega)) | (with_reducible refine A3 (fun _ => ?_) (fun _ => ?_)<;>try (exfalso;omega)) | simp -dsimp (disch:=omega) only [↓EA,EB,Nat.reduceEqDiff,↓reduceIte,reduceCtorEq,eq_self, *]))
      all_goals first
        | (have hmi:m=i:=by omega
           subst hmi
           exact ⟨L,r',St.out,Axi d hall,pm⟩)
        | (have hmi:¬ m=i:=by omega
           refine WX.mono (Hsw.out hmi) (fun b hb => hb) fun v h3 ⟨r3,st3,hl3⟩ => ?_
           have hm2:=Hm.out.resolve_left hmi
           have hpm:(m - 1) / 2=i:=by omega
           have d3:=Ash d (by omega) hm2.2.2.1 hpm hm2.2.2.2 hall
           (repeat' simp -dsimp (disch:=omega) only [↓EA,EB,Nat.reduceEqDiff,↓reduceIte,reduceCtorEq,eq_self, *])
           exact Next.mk (m,D4 L i m) ⟨r3,St.out.trans st3,d3,(Uo (by omega) hm2.2.2.1).trans pm,by dsimp only;rw [Cj];omega,rfl,by dsimp only;simp [get]⟩ (by dsimp only;rw [Cj];omega))
  · simp [get]
theorem A29 {b n:Nat} {k:IntKind} {x:Int} (h1:0≤x) (h2:x≤n):Qa 2 (.slice (some ⟨b,0,some 2⟩) n n) none (some (.int k x)) none=some (.slice (some ⟨b,0,some 2⟩) x.toNat x.toNat):=by
  simp [Qa,De,h1,h2]
theorem A0v (hE:Aw E) {h0 h:Aa} {q n:Nat} {lv:Value} {P:Int→Int} {A:List (Int × Int)} {F:Nat→Prop} (r:HeapH h q lv A F) (hp:Pre h0 h) (hge:∀ b,F b→h0.length≤b) (hlv:Ah lv=true) (hl:Yh E h0 lv P n) (hin:∀ p∈A,0≤p.1∧p.1<n) (hnd:(A.map fun p => P p.1).Nodup) (hh:Rf (fun p => P p.1) A) {W:Nat→Prop} (hW:∀ b,F b→W b) :
    WX W (callW E (.func (.func Ck) #[] #[]) [.pointer (some ⟨q,0,none⟩)] h) (fun v h' => (A=[]∧v = .tuple #[.int .i64 0,.bool false]∧h'=h)∨∃ x L,v = .tuple #[.int .i64 x,.bool true]∧HeapH h' q lv L F∧Stp F F h h'∧Rf (fun p => P p.1) L∧(x :: L.map Prod.fst).Perm (A.map Prod.fst)∧∀ p∈A,P x≤P p.1):=by
  refine E9 hE.Wd rfl (by simp) ?_
  simp only [List.nil_append,List.cons_append,Ak]
  have hpk:=Awz hE r
  by_cases hn:A=[]
  · rw [if_pos hn] at hpk
    have Hn:=Hid.mk hn
    clear hn
    (repeat' simp -dsimp (disch:=omega) only [↓EA,EB,Nat.reduceEqDiff,↓reduceIte,reduceCtorEq,eq_self, *])
    exact .inl Hn.out
  · rw [if_neg hn] at hpk
    have hpos:0<A.length:=List.length_pos_iff.2 hn
    have hsw:=Ab1 hE r (i:=0) (k:=A.length - 1) hpos (by omega) hW
    have hst0:=Stp.refl' r
    have hWq:=hW q r.head
    have hA:A.length≤8192:=by
      cases r with
      | nil hq => exact absurd rfl hn
      | some hq hib hne few => exact few
    obtain ⟨vv,cc,hqq,hvv⟩:∃ vv cc,h[q]? = some (.cells [lv,vv,cc] false)∧Pq false vv=some (.int .i64 A.length):=by
      cases r with
      | nil hq => exact absurd rfl hn
      | some hq _ _ _ => exact ⟨_,_,hq,rfl⟩
    obtain ⟨hdn,hpm⟩:=Amf hh hn
    have hmin:=Awx hh
    have Hh:=Hid.mk (AI hdn (AI hpm (AI hmin (AI hin (AI hnd hl)))))
    have Hn:=Hid.mk hn
    clear hh hdn hpm hmin hin hnd hl hn
    have e1:((A.length:Int) - 1)=((A.length - 1:Nat):Int):=by omega
    have hAi:(A.length:Int)≤8192∧0<(A.length:Int):=by omega
    have H1:=Hid.mk e1
    generalize hk:A.length - 1=k at *
    rw [show (A.length:Int)=(k:Int)+1 by omega] at hvv
    have hk':(k:Int)+1 - 1=(k:Int):=by omega
    have hkk:(k:Int)≤8192:=by omega
    clear e1
    (repeat' simp -dsimp (disch:=omega) only [↓EA,EB,Nat.reduceEqDiff,↓reduceIte,reduceCtorEq,eq_self, *])
    refine WX.mono hsw (fun b hb => hb) fun v h1 ⟨r1,st1,hl1⟩ => ?_
    have hsl:(D4 A 0 k).length=A.length:=Cj _ _ _
    obtain ⟨ib,c,came,hq,hib,hne,few,hF⟩:=r1.open_ (fun e => by rw [e] at hsl;simp at hsl;omega)
    rw [hsl,show A.length=k+1 by omega] at hq
    have hsp:=A29 (b:=ib) (n:=k+1) (k:=.i64) (x:=(k:Int)) (by omega) (by omega)
    rw [Int.toNat_natCast] at hsp
    have hql:=(GI.1 hq).1
    have hle:((k+1:Nat):Int) - 1=(k:Int):=by omega
    have St1:=Hid.mk st1
    have Hib:=Hid.mk hib
    have HF:=Hid.mk hF
    clear st1 hib hF hqq hvv hsl
    (repeat' simp -dsimp (disch:=omega) only [↓EA,EB,Nat.reduceEqDiff,Nat.reduceAdd,Nat.reduceLeDiff,↓reduceIte,reduceCtorEq,eq_self, *])
    have hH:HeapH (h1.set q (.cells [lv,.slice (some ⟨ib,0,some 2⟩) k k,.int .u64 came] false)) q lv ((D4 A 0 k).take k) F:=by
      have e3:((D4 A 0 k).take k).length=k:=by rw [List.length_take,Cj];omega
      have h3:=HeapH.some (h:=h1.set q (.cells [lv,.slice (some ⟨ib,0,some 2⟩) k k,.int .u64 came] false)) (q:=q) (lv:=lv) (its:=(D4 A 0 k).take k) (ib:=ib) (c:=(((D4 A 0 k).drop k).map Dp).flatten++c) (came:=came) (by rw [e3];exact B9 hql) (by rw [Ba (Ne.symm hne),Hib.out,← List.append_assoc,← List.flatten_append,← List.map_append,List.take_append_drop]) hne (by omega)
      rw [HF.out];exact h3
    have hst:Stp F F h (h1.set q (.cells [lv,.slice (some ⟨ib,0,some 2⟩) k k,.int .u64 came] false)):=by
      refine St1.out.trans ⟨by rw [List.length_set];exact Nat.le_refl _,fun b hb => .inl hb,hH.lt,fun b hb hnf => Ba fun e => hnf ?_⟩
      rw [← e,HF.out];exact .inl rfl
    generalize h1.set q _=h2 at hH hst ⊢
    have hp2:Pre h0 h2:=fun b o hb => by
      have hlt:=(GI.1 hb).1
      rw [hst.keep b (Nat.lt_of_lt_of_le hlt hp.le) (fun hf => by have:=hge b hf;omega)]
      exact hp b o hb
    obtain ⟨hdn,hpm,hmin,hin,hnd,hl⟩:=Hh.out
    have hdw:=Aw0 hE hH hp2 hge hlv hl (fun p hpp => hin p (hpm.mem_iff.1 (List.mem_cons_of_mem _ hpp))) (by
      have h5:=((hpm.map fun p => P p.1).nodup_iff).2 hnd
      rw [List.map_cons,List.nodup_cons] at h5
      exact h5.2) hdn (by rw [List.length_take,Cj];omega) hW
    refine WX.mono hdw (fun b hb => hb) fun v2 h3 ⟨L,r3,st3,hh3,pm3⟩ => ?_
    (repeat' simp -dsimp (disch:=omega) only [↓EA,EB,Nat.reduceEqDiff,↓reduceIte,reduceCtorEq,eq_self, *])
    refine .inr ⟨_,L,rfl,r3,hst.trans st3,hh3,?_,fun p hpp => ?_⟩
    · have h6:=(pm3.map Prod.fst).cons (gN A 0).1
      exact h6.trans (by have:=hpm.map Prod.fst;rwa [List.map_cons] at this)
    · obtain ⟨j,hj,rfl⟩:=List.getElem_of_mem hpp
      have:=hmin j hj
      rw [Aem hj] at this;exact this
end Go.L.Try
