/- A TASK's CRITICAL SCENE (plain): its jobs; it is legal, and a scene. -/
import Derived.Test.YtifnlcajancfdaaGreatDoorPl
import Derived.Test.YtifnlcajancfdaaGreatDoorPg
import Derived.Test.YtifnlcajancfdaaGreatDoorPk
import Derived.Test.YtifnlcajancfdaaGreatDoorPj
set_option linter.unusedVariables false
set_option linter.unusedSimpArgs false
set_option maxRecDepth 100000
set_option maxHeartbeats 1000000
namespace Go.L.Try
open Go Go.L
def mostJ (l:List Ab) (i:Int):Nat→Int
 | 0 => (atI l i).J
 | n+1 => if (atI l (n:Int)).P<(atI l i).P then max (mostJ l i n) (atI l (n:Int)).J else mostJ l i n
def Af (l:List Ab) (i:Int):Int:=1+mostJ l i l.length
def blkN (l:List Ab) (i:Int):Nat→Int × Bool
 | 0 => (0,false)
 | n+1 => if (atI l i).P<(atI l (n:Int)).P∧1<(atI l (n:Int)).Q∧((blkN l i n).2=false∨(atI l (blkN l i n).1).Q<(atI l (n:Int)).Q) then ((n:Int),true) else blkN l i n
def Iv (s:Int) (h:Nat) (t:Ab) (N:Nat):List Job:=(List.range N).map fun (n:Nat) => ⟨h,s - t.J+n * t.T,if n=0 then s else s - t.J+n * t.T,t.C,[]⟩
def Jy (l:List Ab) (i:Int) (h:Nat):Nat:=I0 (atI l (h:Int)).T ((atI l i).D - (atI l i).J+(atI l (h:Int)).J)
def upC (l:List Ab) (i:Int):Nat→List Job
 | 0 => []
 | n+1 => if (atI l (n:Int)).P<(atI l i).P then upC l i n++Iv (Af l i) n (atI l (n:Int)) (Jy l i n) else upC l i n
def Bi (l:List Ab) (i:Int):List Job:=if (blkN l i l.length).2=true then [⟨(blkN l i l.length).1,Af l i - 1,Af l i - 1,(atI l (blkN l i l.length).1).Q,[(atI l (blkN l i l.length).1).Q]⟩] else []
def Cx (l:List Ab) (i:Int):Job:=⟨i,Af l i - (atI l i).J,Af l i,(atI l i).C,[]⟩
def A7 (l:List Ab) (i:Int):List Job:=Bi l i++Cx l i :: upC l i l.length
variable {l:List Ab} {i:Int}
theorem Jx (hok:∀ t∈l,Cr t) (hi:0≤i∧i<l.length):∀ n,n≤l.length→((atI l i).J≤mostJ l i n∧mostJ l i n≤2147483647)∧∀ h:Nat,h<n→(atI l (h:Int)).P<(atI l i).P→(atI l (h:Int)).J≤mostJ l i n
 | 0,_ => by
  have:=(hok _ (Aj hi.1 hi.2)).1
  simp only [Ap] at this
  exact ⟨⟨Int.le_refl _,by show (atI l i).J≤_;omega⟩,fun h hh => absurd hh (Nat.not_lt_zero _)⟩
 | n+1,hn => by
  obtain ⟨h1,h2⟩:=Jx hok hi n (by omega)
  have:=(hok _ (Aj (l:=l) (i:=(n:Int)) (by omega) (by omega))).1
  simp only [Ap] at this
  unfold mostJ
  split
  ·refine ⟨by omega,fun h hh hp => ?_⟩
   by_cases e:h=n
   ·subst e;omega
   ·have:=h2 h (by omega) hp;omega
  ·refine ⟨h1,fun h hh hp => ?_⟩
   by_cases e:h=n
   ·subst e;rename_i hc;exact absurd hp hc
   ·exact h2 h (by omega) hp
theorem W5 (hok:∀ t∈l,Cr t):∀ n,n≤l.length→((blkN l i n).2=false→Ja l i n=0)∧((blkN l i n).2=true→(0≤(blkN l i n).1∧(blkN l i n).1<n)∧(atI l i).P<(atI l (blkN l i n).1).P∧1<(atI l (blkN l i n).1).Q∧Ja l i n=(atI l (blkN l i n).1).Q - 1)
 | 0,_ => ⟨fun _ => rfl,fun h => by cases h⟩
 | n+1,hn => by
  obtain ⟨h1,h2⟩:=W5 hok n (by omega)
  have ht:=(hok _ (Aj (l:=l) (i:=(n:Int)) (by omega) (by omega))).1
  simp only [Ap] at ht
  unfold blkN Ja
  by_cases hc:(atI l i).P<(atI l (n:Int)).P∧1<(atI l (n:Int)).Q∧((blkN l i n).2=false∨(atI l (blkN l i n).1).Q<(atI l (n:Int)).Q)
  ·rw [if_pos hc,if_pos hc.1]
   refine ⟨fun h => (by cases h),fun _ => ⟨⟨by dsimp only;omega,by dsimp only;omega⟩,hc.1,hc.2.1,?_⟩⟩
   dsimp only
   rcases hc.2.2 with h | h
   ·rw [h1 h];omega
   ·cases hb:(blkN l i n).2 with
    | false => rw [h1 hb];omega
    | true => have:=(h2 hb).2.2.2;omega
  ·rw [if_neg hc]
   refine ⟨fun h => ?_,fun h => ?_⟩
   ·have e:=h1 h
    by_cases hp:(atI l i).P<(atI l (n:Int)).P
    ·rw [if_pos hp,e]
     have:¬ 1<(atI l (n:Int)).Q:=fun hq => hc ⟨hp,hq,.inl h⟩
     omega
    ·rw [if_neg hp,e]
   ·obtain ⟨a1,a2,a3,a4⟩:=h2 h
    refine ⟨by omega,a2,a3,?_⟩
    by_cases hp:(atI l i).P<(atI l (n:Int)).P
    ·rw [if_pos hp,a4]
     by_cases hq:1<(atI l (n:Int)).Q
     ·have:¬ (atI l (blkN l i n).1).Q<(atI l (n:Int)).Q:=fun hh => hc ⟨hp,hq,.inr hh⟩
      omega
     ·omega
    ·rw [if_neg hp,a4]
theorem Oa {j:Job}:∀ {n:Nat},j∈upC l i n→∃ h k:Nat,h<n∧(atI l (h:Int)).P<(atI l i).P∧k<Jy l i h∧j=⟨h,Af l i - (atI l (h:Int)).J+k * (atI l (h:Int)).T,if k=0 then Af l i else Af l i - (atI l (h:Int)).J+k * (atI l (h:Int)).T,(atI l (h:Int)).C,[]⟩
 | 0,h => by simp [upC] at h
 | n+1,h => by
  unfold upC at h
  split at h
  ·rename_i hp
   rcases List.mem_append.1 h with h | h
   ·obtain ⟨a,b,c,d⟩:=Oa h
    exact ⟨a,b,by omega,d⟩
   ·obtain ⟨k,hk,rfl⟩:=List.mem_map.1 h
    exact ⟨n,k,by omega,hp,List.mem_range.1 hk,rfl⟩
  ·obtain ⟨a,b,c,d⟩:=Oa h
   exact ⟨a,b,by omega,d⟩
def Agn (l:List Ab) (x y:Job):Prop:=x.task=y.task→x.arrive+(atI l y.task).T≤y.arrive
theorem Alf {s:Int} {h:Nat} (N:Nat) (hT:0≤(atI l (h:Int)).T):(Iv s h (atI l (h:Int)) N).Pairwise (Agn l):=by
 unfold Iv
 rw [List.pairwise_map]
 refine List.Pairwise.imp ?_ (List.pairwise_lt_range (n:=N))
 intro a b hab _
 dsimp only
 have:((a:Int)+1) * (atI l (h:Int)).T≤(b:Int) * (atI l (h:Int)).T:=Int.mul_le_mul_of_nonneg_right (by omega) hT
 rw [Int.add_mul,Int.one_mul] at this
 omega
theorem Adr (hok:∀ t∈l,Cr t):∀ n,n≤l.length→(upC l i n).Pairwise (Agn l)
 | 0,_ => List.Pairwise.nil
 | n+1,hn => by
  have ih:=Adr hok n (by omega)
  have ht:=(hok _ (Aj (l:=l) (i:=(n:Int)) (by omega) (by omega))).1
  simp only [Ap] at ht
  unfold upC
  split
  ·refine List.pairwise_append.2 ⟨ih,Alf _ (by omega),fun x hx y hy e => ?_⟩
   obtain ⟨a,b,c,_,_,rfl⟩:=Oa hx
   obtain ⟨k,hk,rfl⟩:=List.mem_map.1 hy
   have:(a:Int)=(n:Int):=e
   omega
  ·exact ih
theorem Az3 {r:Job→Job→Prop} {jobs:List Job} (h:jobs.Pairwise r) {a b:Nat} (hab:a<b) (hb:b<jobs.length):r (jb jobs a) (jb jobs b):=by
 have e1:jb jobs a=jobs[a]:=By (by omega)
 have e2:jb jobs b=jobs[b]:=By hb
 rw [e1,e2];exact List.pairwise_iff_getElem.1 h a b (by omega) hb hab
theorem X2 (hok:∀ t∈l,Cr t) (hi:0≤i∧i<l.length) {h:Nat} (hh:h<l.length):(1≤(atI l (h:Int)).T∧0≤(atI l (h:Int)).J∧(atI l (h:Int)).J+1≤(atI l (h:Int)).T)∧∀ k:Nat,k<Jy l i h↔(k:Int) * (atI l (h:Int)).T<(atI l i).D - (atI l i).J+(atI l (h:Int)).J:=by
 obtain ⟨h1,h2⟩:=hok _ (Aj (l:=l) (i:=(h:Int)) (by omega) (by omega))
 simp only [Ap,Eg] at h1 h2
 exact ⟨by omega,fun k => Tt (by omega) k⟩
theorem Amy:∀ {n h:Nat},h<n→(atI l (h:Int)).P<(atI l i).P→∃ A C,upC l i n=A++Iv (Af l i) h (atI l (h:Int)) (Jy l i h)++C
 | 0,h,hh,_ => absurd hh (Nat.not_lt_zero _)
 | n+1,h,hh,hp => by
  unfold upC
  by_cases e:h=n
  ·subst e
   rw [if_pos hp];exact ⟨_,[],by rw [List.append_nil]⟩
  ·obtain ⟨A,C,hA⟩:=Amy (n:=n) (h:=h) (by omega) hp
   split
   ·exact ⟨A,C++_,by rw [hA,List.append_assoc _ C]⟩
   ·exact ⟨A,C,hA⟩
theorem Ale {s x:Int} {h:Nat} {t:Ab} {c N:Nat} (hc:c≤N) (hx:∀ n:Nat,n<c→(if n=0 then s else s - t.J+n * t.T)<x):c≤cntB (Iv s h t N) h x:=by
 obtain ⟨d,rfl⟩:∃ d,N=c+d:=⟨N - c,by omega⟩
 have e:Iv s h t (c+d)=Iv s h t c++((List.range d).map fun n => ⟨h,s - t.J+((c+n:Nat):Int) * t.T,if c+n=0 then s else s - t.J+((c+n:Nat):Int) * t.T,t.C,[]⟩):=by
  unfold Iv
  rw [List.range_add,List.map_append,List.map_map];rfl
 rw [e,Wu]
 have:cntB (Iv s h t c) h x=(Iv s h t c).length:=by
  unfold cntB
  rw [List.countP_eq_length]
  intro j hj
  obtain ⟨k,hk,rfl⟩:=List.mem_map.1 hj
  exact decide_eq_true ⟨rfl,hx k (List.mem_range.1 hk)⟩
 rw [this]
 simp only [Iv,List.length_map,List.length_range];omega
end Go.L.Try
set_option maxHeartbeats 2000000
namespace Go.L.Try
open Go Go.L
variable {l:List Ab} {i:Nat}
theorem Apf {A R:List Job} {j:Job}:jb (A++j :: R) A.length=j:=by
 unfold jb atI
 rw [List.getD_eq_getElem?_getD,Int.toNat_natCast,List.getElem?_append_right (Nat.le_refl _),Nat.sub_self];rfl
theorem Ya {j:Job} (h:j∈A7 l i):((blkN l i l.length).2=true∧j=⟨(blkN l i l.length).1,Af l i - 1,Af l i - 1,(atI l (blkN l i l.length).1).Q,[(atI l (blkN l i l.length).1).Q]⟩)∨j=Cx l i∨∃ h k:Nat,h<l.length∧(atI l (h:Int)).P<(atI l (i:Int)).P∧k<Jy l i h∧j=⟨h,Af l i - (atI l (h:Int)).J+k * (atI l (h:Int)).T,if k=0 then Af l i else Af l i - (atI l (h:Int)).J+k * (atI l (h:Int)).T,(atI l (h:Int)).C,[]⟩:=by
 unfold A7 at h
 rcases List.mem_append.1 h with h | h
 ·unfold Bi at h
  split at h
  ·rename_i hb;exact .inl ⟨hb,by simpa using h⟩
  ·simp at h
 ·rcases List.mem_cons.1 h with h | h
  ·exact .inr (.inl h)
  ·exact .inr (.inr (Oa h))
theorem Qp (hv:B5 l) (hi:i<l.length) (hf:(A7 l i).length≤4096):legalB l (A7 l i)=true:=by
 obtain ⟨_,_,hok⟩:=Bc hv
 have mem:∀ h:Nat,h<l.length→atI l (h:Int)∈l:=fun h hh => Aj (by omega) (by omega)
 obtain ⟨⟨m0,m1⟩,m2⟩:=Jx (i:=(i:Int)) hok ⟨by omega,by omega⟩ l.length (Nat.le_refl _)
 have bk:=(W5 (i:=(i:Int)) hok l.length (Nat.le_refl _)).2
 have hs:Af l (i:Int)=1+mostJ l (i:Int) l.length:=rfl
 obtain ⟨ri,fi⟩:=hok _ (mem i hi)
 simp only [Ap,Eg] at ri fi
 refine Awk hv hf (fun j hj => ?_) fun a b hab hb => ?_
 ·rcases Ya hj with ⟨hb,rfl⟩ | rfl | ⟨h,k,h1,h2,h3,rfl⟩
  ·obtain ⟨b1,b2,b3,_⟩:=bk hb
   obtain ⟨rb,fb⟩:=hok _ (Aj b1.1 b1.2)
   simp only [Ap,Eg] at rb fb
   refine ⟨b1,⟨by dsimp only;omega,by dsimp only;omega⟩,⟨Int.le_refl _,by dsimp only;omega⟩,⟨by dsimp only;omega,by dsimp only;omega⟩,?_⟩
   simp [Dl];omega
  ·refine ⟨⟨by show (0:Int)≤(i:Int);omega,by show (i:Int)<l.length;omega⟩,⟨?_,?_⟩,⟨?_,?_⟩,⟨?_,?_⟩,rfl⟩
   ·show 0≤Af l (i:Int) - (atI l (i:Int)).J;omega
   ·show Af l (i:Int) - (atI l (i:Int)).J≤_;omega
   ·show Af l (i:Int) - (atI l (i:Int)).J≤Af l (i:Int);omega
   ·show Af l (i:Int)≤Af l (i:Int) - (atI l (i:Int)).J+(atI l (i:Int)).J;omega
   ·show 1≤(atI l (i:Int)).C;omega
   ·exact Int.le_refl _
  ·obtain ⟨rb,fb⟩:=hok _ (mem h h1)
   simp only [Ap,Eg] at rb fb
   have hj:=m2 h h1 h2
   have hk0:0≤(k:Int) * (atI l (h:Int)).T:=Int.mul_nonneg (by omega) (by omega)
   have hk1:=((X2 (i:=(i:Int)) hok ⟨by omega,by omega⟩ h1).2 k).1 h3
   refine ⟨⟨by dsimp only;omega,by dsimp only;omega⟩,⟨by dsimp only;omega,by dsimp only;omega⟩,?_,⟨by dsimp only;omega,Int.le_refl _⟩,rfl⟩
   dsimp only
   by_cases e:k=0
   ·subst e;rw [if_pos rfl];constructor<;>simp<;>omega
   ·rw [if_neg e];omega
 ·refine (Az3 (r:=Agn l) ?_ hab hb:Agn l _ _)
  unfold A7
  refine List.pairwise_append.2 ⟨?_,List.pairwise_cons.2 ⟨fun y hy e => ?_,Adr hok _ (Nat.le_refl _)⟩,fun x hx y hy e => ?_⟩
  ·unfold Bi;split
   ·exact List.pairwise_singleton _ _
   ·exact List.Pairwise.nil
  ·obtain ⟨h,k,h1,h2,_,rfl⟩:=Oa hy
   have e:(i:Int)=(h:Int):=e
   rw [e] at h2;omega
  ·unfold Bi at hx
   split at hx
   ·rename_i hbb
    obtain ⟨b1,b2,b3,_⟩:=bk hbb
    have hx:=List.mem_singleton.1 hx
    rcases List.mem_cons.1 hy with hy | hy
    ·rw [hx,hy] at e
     have e:(blkN l (i:Int) l.length).1=(i:Int):=e
     rw [e] at b2;omega
    ·obtain ⟨h,k,h1,h2,_,rfl⟩:=Oa hy
     rw [hx] at e
     have e:(blkN l (i:Int) l.length).1=(h:Int):=e
     rw [e] at b2;omega
   ·simp at hx
end Go.L.Try
namespace Go.L.Try
open Go Go.L
variable {l:List Ab} {i:Nat}
theorem Awq {A C:List Job} {x:Job} (m:Nat):jb (A++x :: C) (A.length+(m+1))=jb C m:=by
 unfold jb atI
 rw [List.getD_eq_getElem?_getD,List.getD_eq_getElem?_getD,Int.toNat_natCast,Int.toNat_natCast,List.getElem?_append_right (by omega),show A.length+(m+1) - A.length=m+1 by omega,List.getElem?_cons_succ]
theorem Amg (hv:B5 l) (hl:∀ t∈l,Mid t) (hn:l.length≤6) (hi:i<l.length) (hf:(A7 l i).length≤4096):Scene l (A7 l i) i (Bi l i).length (Af l i).toNat (blockP l i).toNat ((atI l (i:Int)).D - (atI l (i:Int)).J).toNat:=by
 have hb:=Qp hv hi hf
 have S:=Mu hb
 obtain ⟨_,_,hok⟩:=Bc hv
 have mem:∀ h:Nat,h<l.length→atI l (h:Int)∈l:=fun h hh => Aj (by omega) (by omega)
 obtain ⟨⟨m0,m1⟩,m2⟩:=Jx (i:=(i:Int)) hok ⟨by omega,by omega⟩ l.length (Nat.le_refl _)
 obtain ⟨bf,bt⟩:=W5 (i:=(i:Int)) hok l.length (Nat.le_refl _)
 have hs:Af l (i:Int)=1+mostJ l (i:Int) l.length:=rfl
 obtain ⟨ri,fi⟩:=hok _ (mem i hi)
 simp only [Ap,Eg] at ri fi
 have hp:isP l (i:Int)=true:=by unfold isP;exact decide_eq_true ⟨hv,by omega,by omega⟩
 have hbp:blockP l (i:Int)=Ja l (i:Int) l.length:=by unfold blockP;rw [if_pos hp]
 have hbn:=(P4 hok (i:Int) l.length (Nat.le_refl _)).1
 obtain ⟨s0,hs0⟩:∃ s0:Nat,Af l (i:Int)=s0:=⟨(Af l (i:Int)).toNat,by omega⟩
 obtain ⟨B,hB⟩:∃ B:Nat,blockP l (i:Int)=B:=⟨(blockP l (i:Int)).toNat,by omega⟩
 obtain ⟨M,hM⟩:∃ M:Nat,(atI l (i:Int)).D - (atI l (i:Int)).J=M:=⟨((atI l (i:Int)).D - (atI l (i:Int)).J).toNat,by omega⟩
 rw [hs0,hB,hM,Int.toNat_natCast,Int.toNat_natCast,Int.toNat_natCast]
 have hjk:jb (A7 l (i:Int)) (Bi l (i:Int)).length=Cx l (i:Int):=Apf
 have hk:(Bi l (i:Int)).length<(A7 l (i:Int)).length:=by unfold A7;simp only [LA,List.length_cons];omega
 have cases:∀ m,m<(A7 l (i:Int)).length→((blkN l (i:Int) l.length).2=true∧m=0∧jb (A7 l (i:Int)) m=⟨(blkN l (i:Int) l.length).1,Af l (i:Int) - 1,Af l (i:Int) - 1,(atI l (blkN l (i:Int) l.length).1).Q,[(atI l (blkN l (i:Int) l.length).1).Q]⟩)∨((m=(Bi l (i:Int)).length∨(atI l (jb (A7 l (i:Int)) m).task).P<(atI l (i:Int)).P)∧(s0:Int)≤(jb (A7 l (i:Int)) m).release∧(jb (A7 l (i:Int)) m).cuts=[]):=fun m hm => by
  by_cases hbl:(blkN l (i:Int) l.length).2=true∧m=0
  ·left
   refine ⟨hbl.1,hbl.2,?_⟩
   rw [hbl.2]
   unfold A7 Bi
   rw [if_pos hbl.1];rfl
  ·right
   have hget:∃ m',m=(Bi l (i:Int)).length+m':=by
    refine ⟨m - (Bi l (i:Int)).length,?_⟩
    unfold Bi at hbl ⊢
    split
    ·rename_i h
     have:m≠0:=fun e => hbl ⟨h,e⟩
     simp;omega
    ·simp
   obtain ⟨m',rfl⟩:=hget
   cases m' with
   | zero =>
    rw [Nat.add_zero,hjk]
    exact ⟨.inl rfl,by show (s0:Int)≤Af l (i:Int);omega,rfl⟩
   | succ m' =>
    have hl2:m'<(upC l (i:Int) l.length).length:=by unfold A7 at hm;simp only [LA,List.length_cons] at hm;omega
    have e:jb (A7 l (i:Int)) ((Bi l (i:Int)).length+(m'+1))=(upC l (i:Int) l.length)[m']:=by
     unfold A7
     rw [Awq]
     exact By hl2
    obtain ⟨h,k,h1,h2,h3,h4⟩:=Oa (List.getElem_mem hl2)
    rw [e,h4]
    obtain ⟨t1,t2,t3⟩:=(X2 (i:=(i:Int)) hok ⟨by omega,by omega⟩ h1).1
    refine ⟨.inr h2,?_,rfl⟩
    dsimp only
    by_cases ek:k=0
    ·rw [if_pos ek];omega
    ·rw [if_neg ek]
     have:1 * (atI l (h:Int)).T≤(k:Int) * (atI l (h:Int)).T:=Int.mul_le_mul_of_nonneg_right (by omega) (by omega)
     omega
 have hPk:(atI l (jb (A7 l (i:Int)) (Bi l (i:Int)).length).task).P=(atI l (i:Int)).P:=by rw [hjk];rfl
 have many:∀ h:Nat,h<l.length→(atI l (h:Int)).P<(atI l (i:Int)).P→∀ n:Nat,1≤n→n≤M→((n:Int)+(atI l (h:Int)).J+(atI l (h:Int)).T - 1) / (atI l (h:Int)).T≤cntB (A7 l (i:Int)) h ((s0+n:Nat):Int):=fun h hh hP n h1 h2 => by
  obtain ⟨⟨t1,t2,t3⟩,t4⟩:=X2 (i:=(i:Int)) hok ⟨by omega,by omega⟩ hh
  obtain ⟨A,C,hAC⟩:=Amy (n:=l.length) (i:=(i:Int)) hh hP
  have hc:I0 (atI l (h:Int)).T (n+(atI l (h:Int)).J)≤cntB (A7 l (i:Int)) h ((s0+n:Nat):Int):=by
   unfold A7
   rw [Wu,Aeu,hAC,Wu,Wu]
   have:=Ale (s:=Af l (i:Int)) (x:=((s0+n:Nat):Int)) (h:=h) (t:=atI l (h:Int)) (c:=I0 (atI l (h:Int)).T (n+(atI l (h:Int)).J)) (N:=Jy l (i:Int) h) (by
    apply Classical.byContradiction
    intro hh2
    have a1:=(Tt t1 (p:=(n:Int)+(atI l (h:Int)).J) (Jy l (i:Int) h)).1 (by omega)
    have a2:=(t4 (Jy l (i:Int) h)).2 (by omega)
    omega) (fun k hk => by
     have:=(Tt t1 k).1 hk
     by_cases e:k=0
     ·rw [if_pos e];omega
     ·rw [if_neg e];omega)
   omega
  unfold I0 at hc
  have h0:0≤((n:Int)+(atI l (h:Int)).J+(atI l (h:Int)).T - 1) / (atI l (h:Int)).T:=Int.ediv_nonneg (by omega) (by omega)
  omega
 have works:∀ j∈A7 l (i:Int),(atI l j.task).P<(atI l (i:Int)).P→j.work=(atI l j.task).C:=fun j hj hP => by
  rcases Ya hj with ⟨hbb,rfl⟩ | rfl | ⟨h,k,h1,h2,h3,rfl⟩
  ·have:=(bt hbb).2.1
   dsimp only at hP;omega
  ·have hP:(atI l (i:Int)).P<(atI l (i:Int)).P:=hP
   omega
  ·rfl
 have hbl0:(blkN l (i:Int) l.length).2=true→0<(Bi l (i:Int)).length:=fun h => by unfold Bi;rw [if_pos h];simp
 have hB1:(blkN l (i:Int) l.length).2=true→(atI l (blkN l (i:Int) l.length).1).Q=B+1:=fun h => by have:=(bt h).2.2.2;omega
 have hB0:(blkN l (i:Int) l.length).2=false→B=0:=fun h => by have:=bf h;omega
 have hPb:(blkN l (i:Int) l.length).2=true→(atI l (i:Int)).P<(atI l (blkN l (i:Int) l.length).1).P:=fun h => (bt h).2.1
 generalize hJ:A7 l (i:Int)=jobs at *
 generalize hkk:(Bi l (i:Int)).length=k at *
 generalize hbk:blkN l (i:Int) l.length=bk at *
 obtain ⟨b,sm⟩:=bk
 dsimp only at *
 have upI:∀ r,r<jobs.length→(upL l jobs k r∨(sm=true∧r=0)):=fun r hr => by
  rcases cases r hr with h | h
  ·exact .inr ⟨h.1,h.2.1⟩
  ·left
   unfold upL
   rw [hPk]
   exact h.1
 have notup:sm=true→¬ upL l jobs k 0:=fun h hu => by
  have h0:0<jobs.length:=by have:=hbl0 h;omega
  rcases cases 0 h0 with h1 | h1
  ·have hx:=hPb h
   rcases hu with hu | hu
   ·have:=hbl0 h;omega
   ·rw [h1.2.2,hPk] at hu
    dsimp only at hu;omega
  ·have e:jb jobs 0=⟨b,Af l (i:Int) - 1,Af l (i:Int) - 1,(atI l b).Q,[(atI l b).Q]⟩:=by
    rw [← hJ]
    unfold A7 Bi
    rw [hbk,if_pos h];rfl
   have:=h1.2.1
   rw [e] at this
   dsimp only at this;omega
 have sec:∀ r n,r<jobs.length→Pv l jobs r n=true→sm=true∧r=0:=fun r n hr h => by
  rcases cases r hr with h1 | h1
  ·exact ⟨h1.1,h1.2.1⟩
  ·unfold Pv at h
   rw [h1.2.2] at h;cases h
 have blk:sm=true→∀ m:Nat,m≤B+1→dn l jobs 0 (s0 - 1+m)=m∧(m<B+1→who l jobs (s0 - 1+m)=(0:Nat)):=fun h => by
  have h0:0<jobs.length:=by have:=hbl0 h;omega
  have e:jb jobs 0=⟨b,Af l (i:Int) - 1,Af l (i:Int) - 1,(atI l b).Q,[(atI l b).Q]⟩:=by
   rcases cases 0 h0 with h1 | h1
   ·exact h1.2.2
   ·rw [← hJ]
    unfold A7 Bi
    rw [hbk,if_pos h];rfl
  have hq:=hB1 h
  have start:dn l jobs 0 (s0 - 1)=0:=Agc S h0 (by rw [e];dsimp only;omega)
  have first:who l jobs (s0 - 1)=(0:Nat):=by
   refine Atd S (fun r hr => ?_) ⟨h0,by rw [e];dsimp only;omega,by rw [e,start];dsimp only;omega,fun r hr hrel hd => ?_⟩
   ·cases hh:Pv l jobs r (s0 - 1) with
    | false => rfl
    | true =>
     obtain ⟨_,rfl⟩:=sec r _ hr hh
     unfold Pv at hh
     rw [start,e] at hh
     simp [As] at hh
   ·rcases cases r hr with h1 | h1
    ·rw [h1.2.1];exact .inr ⟨Int.le_refl _,Nat.le_refl _⟩
    ·have:=h1.2.1;omega
  intro m
  induction m with
  | zero => intro _;exact ⟨start,fun _ => first⟩
  | succ m ih =>
   intro hm
   obtain ⟨a1,a2⟩:=ih (by omega)
   have a2:=a2 (by omega)
   have hd:=Ib S h0 (s0 - 1+m)
   rw [if_pos a2,a1] at hd
   have e2:s0 - 1+(m+1)=s0 - 1+m+1:=by omega
   rw [e2]
   refine ⟨by rw [hd];omega,fun hlt => ?_⟩
   refine Atc S h0 ?_
   unfold Pv
   rw [hd,e]
   simp [As];omega
 refine ⟨⟨S,hk,?_,fun j hj hu => ?_,fun n hn1 hn2 r hw hu => ?_,fun n hn1 hn2 hd => ?_,fun n hn2 hw j hj hu hne hrel => ?_⟩,hb,hl,hn,by rw [hjk];rfl,by omega,by omega,by rw [hjk];rfl,?_,works,many⟩
 ·rw [hjk];show Af l (i:Int)=s0;exact hs0
 ·rcases cases j hj with h | h
  ·have:=notup h.1
   rw [h.2.1] at hu;exact absurd hu this
  ·exact h.2.1
 ·cases hsm:sm with
  | false => have:=hB0 hsm;omega
  | true =>
   have:=(blk hsm (n+1) (by omega)).2 (by omega)
   rw [show s0 - 1+(n+1)=s0+n by omega] at this
   rw [this] at hw
   have:r=0:=by omega
   subst this
   exact notup hsm hu
 ·have hw0:0≤who l jobs (s0+n):=by
   rcases Int.lt_or_le (who l jobs (s0+n)) 0 with h | h
   ·have:=Ag0 S h hk (by rw [hjk];show Af l (i:Int)≤_;omega);omega
   ·exact h
  obtain ⟨r,hr⟩:∃ r:Nat,who l jobs (s0+n)=r:=⟨(who l jobs (s0+n)).toNat,by omega⟩
  have hrd:=Um S hr
  rcases upI r hrd.1 with h | h
  ·exact ⟨r,hr,h⟩
  ·exfalso
   obtain ⟨h1,rfl⟩:=h
   have hq:=hB1 h1
   have hfull:=(blk h1 (B+1) (Nat.le_refl _)).1
   have hmono:=Tw S hrd.1 (show s0 - 1+(B+1)≤s0+n by omega)
   have hwk:(jb jobs 0).work=(atI l b).Q:=by
    rcases cases 0 hrd.1 with h2 | h2
    ·rw [h2.2.2]
    ·rw [← hJ]
     unfold A7 Bi
     rw [hbk,if_pos h1];rfl
   have:=hrd.2
   omega
 ·have nosec:∀ r,r<jobs.length→Pv l jobs r (s0+n)=false:=fun r hr => by
   cases hh:Pv l jobs r (s0+n) with
   | false => rfl
   | true =>
    exfalso
    obtain ⟨h1,rfl⟩:=sec r _ hr hh
    have:=Atc S hr hh
    rw [this] at hw
    have:=hbl0 h1
    omega
  obtain ⟨b1,b2,b3,b4⟩:=A1f S nosec hw
  have hd:=(Q9 S hj (s0+n)).2
  by_cases hlt:dn l jobs j (s0+n)<(jb jobs j).work
  ·have h4:=b4 j hj hrel hlt
   rcases hu with hu | hu
   ·exact absurd hu hne
   ·omega
  ·omega
 ·rw [hjk];show Af l (i:Int) - _=_;rw [hs0]
end Go.L.Try
set_option maxHeartbeats 4000000
namespace Go.L.Try
open Go Go.L
variable {E:Env} {G:Nat}
theorem Af3 (hE:Aw E) {h:Aa} {vl:Value} {l:List Ab} (hl:Rd 7 A5 h vl l) (hs:∀ t∈l,t.name.size<1152921504606846976) (i:Int) :
  callW E (.func (.func I5) #[] #[]) [vl,.int .i64 i] h=some (.bool (isP l i),h,[]):=by
 have hc:=Mw hE hl hs
 have few:=hl.few
 refine Am hE.At8 rfl (by simp) ?_
 simp only [Ak]
 (repeat' (first | (with_reducible refine A1 (fun _ => ?_) (fun _ => ?_)<;>try (exfalso;omega)) | simp -dsimp (disch:=omega) only [↓EA,EB,Nat.reduceEqDiff,↓reduceIte,reduceCtorEq,eq_self, *,hl.len]))
 ·congr 1;unfold isP;exact decide_eq_decide.2 (by omega)
 ·congr 1;unfold isP;exact (decide_eq_false (by omega)).symm
 ·congr 1;unfold isP;exact (decide_eq_false (by omega)).symm
def Yy (l:List Ab) (a:Int) (m:Nat):Int:=max a (atI l (m:Int)).J
theorem Aky (l:List Ab) (i:Int):accL (Yy l) (atI l i).J (placesQ (A9 l i) l) (placesQ (A9 l i) l).length=mostJ l i l.length:=by
 rw [Tj]
 exact Kt (mostJ l i) rfl (fun k => by show (if _ then _ else _)=_;simp only [A9,decide_eq_true_eq];rfl) _
theorem A28 (hE:Aw E) (hZ:Dy E G) {h:Aa} (ht:Tab G h) {vl:Value} {l:List Ab} (hl:Rd 7 A5 h vl l) (hs:∀ t∈l,t.name.size<1152921504606846976) {i:Int} (hb:isP l i=true) :
  callW E (.func (.func Ix) #[] #[]) [vl,.int .i64 i] h=some (.int .i64 (Af l i),h,[]):=by
 have hi:=fun x => Af3 hE (hl.app x) hs i
 have hc:=hl.cv
 have ho:=hl.one
 refine Am hE.Ahg rfl (by simp) ?_
 simp only [Ak]
 rw [hb] at hi
 obtain ⟨hi2,hlen,hok⟩:=E8 hb
 have q:=fun x => Af4 hE (hl.app x) hi2 hlen
 have ok:=D7 (A9 l i) l l.length
 have ev:=J2 (A9 l i) hlen
 have Hf:=Hid.mk (Aky l i)
 have Hm:=Hid.mk (fun m (h:m∈placesQ (A9 l i) l) => Nf h)
 have hJi:=(hok _ (Aj hi2.1 hi2.2)).1
 simp only [Ap] at hJi
 have hJi2:0≤(atI l i).J∧(atI l i).J≤2147483647:=by omega
 clear hJi
 generalize placesQ (A9 l i) l=es at *
 generalize thoseW (A9 l i) l l.length=w at *
 have hrow:=fun x => hl.app x
 have hr1:=hl.app [LObj.cells [vl] false]
 (repeat' simp -dsimp (disch:=omega) only [↓EA,EB,Nat.reduceEqDiff,↓reduceIte,reduceCtorEq,Ac,eq_self, *,hr1.ixs,hr1.ld,A5])
 refine F9 (Ayl hE _ ok) fun v ys hr hpre => ?_
 obtain ⟨bx,rfl,hge,hbx⟩:=hr
 (repeat' simp -dsimp (disch:=omega) only [↓EA,EB,Nat.reduceEqDiff,↓reduceIte,eq_self, *])
 simp only [List.append_assoc,List.cons_append,List.nil_append,LA,List.length_cons,List.length_nil] at hbx hge
 have hbxl:=(GI.1 hbx).1
 have hpH:Pre h (h++LObj.cells [vl] false :: LObj.cells [Value.int IntKind.i64 (atI l i).J] false :: ys):=Pre.app h _
 have hbt:∀ m,m∈es→0≤(atI l (m:Int)).J∧(atI l (m:Int)).J≤2147483647:=fun m hm => by
  have hml:=Hm.out m hm
  have:=(hok _ (Aj (l:=l) (i:=(m:Int)) (by omega) (by omega))).1
  simp only [Ap] at this;omega
 have hac:∀ k,0≤accL (Yy l) (atI l i).J es k∧accL (Yy l) (atI l i).J es k≤2147483647:=P5 (fun a => 0≤a∧a≤2147483647) hJi2 (fun a m hm ⟨h1,h2⟩ => by
  have:=hbt m hm
  unfold Yy;omega)
 refine Wt hE.keep rfl (W7 hE hZ ok bx) (c:=h.length+1) (by simp) (by omega) (fun k => .int .i64 (accL (Yy l) (atI l i).J es k)) (fun _ => rfl) (by rw [Kr];rfl) rfl (fun hh e1 e2 => ⟨by rw [e2 bx hbxl (by omega)];exact hbx,ht.pre fun b o hb => by have hlt:=(GI.1 hb).1;rw [e2 b (by simp;omega) (by omega)];exact hpH b o hb⟩) ?_ ?_
 ·intro k a ha
  rw [ev,List.getElem?_map] at ha
  obtain ⟨m,hm,rfl⟩:=OM.1 ha
  have hmem:=List.mem_of_getElem? hm
  have hml:=Hm.out m hmem
  have hq:=hbt m hmem
  have hsucc:=Hid.mk (Mx (f:=Yy l) (a0:=(atI l i).J) hm)
  have hak:=hac k
  clear ha hm hac hbt Hf ev ok q hi hb hok hr1 hrow
  refine ⟨_,rfl,fun hh g1 g2 g3 => ?_⟩
  unfold Pz
  (repeat' simp -dsimp (disch:=omega) only [↓EA,EB,Nat.reduceEqDiff,Nat.reduceAdd,↓reduceIte,eq_self, *])
  refine ⟨[],(List.append_nil _).symm,fun hh2 k1 k2 k3 => ?_⟩
  have hp2:Pre h hh2:=fun b o hb => by
   have hlt:=(GI.1 hb).1
   rw [k3 b (by omega) (by omega)];exact hpH b o hb
  have hl2:=hl.pre hp2
  have b1:hh2[h.length]? = some (.cells [vl] false):=by rw [k3 h.length (by omega) (by omega),Bm];rfl
  generalize accL (Yy l) (atI l i).J es k=A at *
  have Hb:=Hid.mk (show Yy l A m=max A (atI l (m:Int)).J from rfl)
  unfold Py
  (repeat' simp -dsimp (disch:=omega) only [↓EA,EB,Nat.reduceEqDiff,↓reduceIte,eq_self, *,hl2.ixs,hl2.ld,A5,true_or])
  exact ⟨[],by rw [List.append_nil,hsucc.out,Hb.out]⟩
 ·rw [ev,List.length_map,Hf.out]
  have hse:Af l i=1+mostJ l i l.length:=rfl
  have hmj:=hac es.length
  rw [Hf.out] at hmj
  rw [hse]
  clear Hf hac hbt ev hr1 hrow
  generalize mostJ l i l.length=mj at *
  (repeat' simp -dsimp (disch:=omega) only [↓EA,EB,Nat.reduceEqDiff,↓reduceIte,eq_self, *])
end Go.L.Try
namespace Go.L.Try
open Go Go.L
variable {E:Env} {G:Nat}
theorem Axu (hK:N6 E) {sz:Nat} {fr:Fr} {H:Aa} {g:X} {ps:List Nat} {assign body:C} {W:Nat→Prop} {Q:Ex→Fr→Aa→Prop} {f:FuncId} {ca cb:Array Value} {base:Aa→Prop} {vals:List (List Value)}
  (hg:ev (get fr) g = .func (.func f) ca cb) (hI:Agt E (.func (.func f) ca cb) base vals) {c:Nat} (hcl:c+1<H.length) (hWc:W c) (hWd:W (c+1)) (acc acd:Nat→Value) (hs:∀ k,Vw (acc k)=true∧Vw (acd k)=true) (h0:H[c]? = some (.cells [acc 0] false)) (h1:H[c+1]? = some (.cells [acd 0] false))
  (hps:ps.all (fun p => decide (p<sz))=true) (hbase:∀ hh:Aa,H.length≤hh.length→(∀ b,b<H.length→b≠c→b≠c+1→hh[b]? = H[b]?)→base hh)
  (hstep:∀ k a,vals[k]? = some a→∃ fr0,Go.L.setPs ps a fr=some fr0∧∀ hh:Aa,hh.length=H.length+1→hh[c]? = some (.cells [acc k] false)→hh[c+1]? = some (.cells [acd k] false)→(∀ b,b<H.length→b≠c→b≠c+1→hh[b]? = H[b]?) →
   WO (fun b => (b=c∨b=c+1)∨H.length<b) (code (callW E) iterW sz assign fr0 hh) (fun e fr1 h1 => e = .normal∧∃ zs,h1=hh++zs∧∀ hh2:Aa,hh2.length=H.length+1→hh2[c]? = some (.cells [acc k] false)→hh2[c+1]? = some (.cells [acd k] false)→(∀ b,b<H.length→b≠c→b≠c+1→hh2[b]? = H[b]?) →
    WO (fun b => (b=c∨b=c+1)∨H.length<b) (code (callW E) iterW sz body fr1 (hh2++zs)) (fun e2 _ h2 => e2 = .normal∧∃ ys,h2=(hh2.set c (.cells [acc (k+1)] false)).set (c+1) (.cells [acd (k+1)] false)++ys)))
  (hend:Q .normal fr ((H.set c (.cells [acc vals.length] false)).set (c+1) (.cells [acd vals.length] false))) :
  WO W (code (callW E) iterW sz (.rng g ps assign body) fr H) Q:=by
 refine Axr hK (W':=fun b => (b=c∨b=c+1)∨H.length≤b) hg (fun x hx hlt => by rcases hx with (rfl | rfl) | hx;exact hWc;exact hWd;omega) ?_
 generalize hLr:LObj.loop _=lo
 have hget:∀ k,(((H++[lo]).set c (.cells [acc k] false)).set (c+1) (.cells [acd k] false)).length=H.length+1∧(((H++[lo]).set c (.cells [acc k] false)).set (c+1) (.cells [acd k] false))[c]? = some (.cells [acc k] false)∧(((H++[lo]).set c (.cells [acc k] false)).set (c+1) (.cells [acd k] false))[c+1]? = some (.cells [acd k] false)∧∀ b,b<H.length→b≠c→b≠c+1→(((H++[lo]).set c (.cells [acc k] false)).set (c+1) (.cells [acd k] false))[b]? = H[b]?:=fun k => by
  refine ⟨by simp,by rw [Ba (by omega)];exact B9 (by simp;omega),B9 (by simp;omega),fun b hb hne hnd => ?_⟩
  rw [Ba (Ne.symm hnd),Ba (Ne.symm hne),GL hb]
 refine WX.mono (hI (H++[lo]) H.length (fun b => (b=c∨b=c+1)∨H.length≤b) (fun k hh => hh=((H++[lo]).set c (.cells [acc k] false)).set (c+1) (.cells [acd k] false)) (fun _ => False) ?_ ?_ (fun _ hf => hf.elim) ?_) (fun b hb => hb) ?_
 ·rintro k hh rfl
  obtain ⟨a,b,d,e⟩:=hget k
  exact ⟨by simp,hbase _ (by rw [a];omega) e⟩
 ·have e1:(H++[lo]).set c (.cells [acc 0] false)=H++[lo]:=Ds (by rw [GL (by omega)];exact h0)
  rw [e1]
  exact (Ds (by rw [GL (by omega)];exact h1)).symm
 ·rintro k hh a ha rfl
  obtain ⟨fr0,hset,hst⟩:=hstep k a ha
  obtain ⟨g1,g2,g2',g3⟩:=hget k
  have hL:(((H++[lo]).set c (.cells [acc k] false)).set (c+1) (.cells [acd k] false))[H.length]? = some lo:=by rw [Ba (by omega),Ba (by omega),Bm];rfl
  have hA:=hst _ g1 g2 g2' g3
  have hset2:((((H++[lo]).set c (.cells [acc k] false)).set (c+1) (.cells [acd k] false)).set c (.cells [acc (k+1)] false)).set (c+1) (.cells [acd (k+1)] false)=((H++[lo]).set c (.cells [acc (k+1)] false)).set (c+1) (.cells [acd (k+1)] false):=by
   have e:(((H++[lo]).set c (.cells [acc k] false)).set (c+1) (.cells [acd k] false)).set c (.cells [acc (k+1)] false)=((H++[lo]).set c (.cells [acc (k+1)] false)).set (c+1) (.cells [acd k] false):=by
    rw [List.set_comm (LObj.cells [acd k] false) (LObj.cells [acc (k+1)] false) (show c+1≠c by omega),List.set_set]
   rw [e,List.set_set]
  generalize ((H++[lo]).set c (.cells [acc k] false)).set (c+1) (.cells [acd k] false)=hh at *
  subst hLr
  refine WX.mono (Agw hK (W:=fun b => (b=c∨b=c+1)∨H.length<b) (Rr:=fun e h3 => e = .normal∧h3=(hh.set c (.cells [acc (k+1)] false)).set (c+1) (.cells [acd (k+1)] false)) hL rfl rfl hps hset (fun b hb => by omega) ?_) (fun b hb => by omega) ?_
  ·refine hA.mono (fun b hb => hb) ?_
   rintro e fr1 h1 ⟨rfl,zs,rfl,hB⟩
   refine ⟨rfl,?_⟩
   have hbusy:∀ x:LObj,(hh++zs).set H.length x=hh.set H.length x++zs:=fun x => by rw [List.set_append_left _ _ (by omega)]
   rw [hbusy]
   refine (hB (hh.set H.length _) (by rw [List.length_set];exact g1) (by rw [Ba (by omega)];exact g2) (by rw [Ba (by omega)];exact g2') (fun b hb hne hnd => by rw [Ba (by omega)];exact g3 b hb hne hnd)).mono (fun b hb => hb) ?_
   rintro e2 fr2 h2 ⟨rfl,ys,rfl⟩
   refine ⟨fun b hb hw => ?_,rfl,?_⟩
   ·rcases hw with (rfl | rfl) | hw
    ·rw [GL (by simp;omega),Ba (by omega),B9 (by simp;omega)]
     exact Je (hs _).1
    ·rw [GL (by simp;omega),B9 (by simp;omega)]
     exact Je (hs _).2
    ·omega
   ·rw [List.set_append_left _ _ (by simp;omega),List.set_comm _ _ (show c+1≠H.length by omega),Ahd hL (by omega),List.take_left' (by simp)]
  ·rintro v h' ⟨e,h3,⟨rfl,rfl⟩,rfl,rfl⟩
   exact .inl ⟨rfl,hset2⟩
 ·rintro v h' (rfl | hf)
  ·refine ⟨_,by rw [Ba (by omega),Ba (by omega),Bm,← hLr];rfl,by simp,?_,?_⟩
   ·rintro b hb ((rfl | rfl) | hw)
    ·rw [Ba (by omega),B9 (by simp;omega)];exact Je (hs _).1
    ·rw [B9 (by simp;omega)];exact Je (hs _).2
    ·omega
   ·have e:(((H++[lo]).set c (.cells [acc vals.length] false)).set (c+1) (.cells [acd vals.length] false)).take H.length=(H.set c (.cells [acc vals.length] false)).set (c+1) (.cells [acd vals.length] false):=by
     rw [List.set_append_left _ _ (by omega),List.set_append_left _ _ (by simp;omega),List.take_left' (by simp)]
    rw [e];exact hend
  ·exact hf.elim
def Pb (l:List Ab) (a:Int × Bool) (m:Nat):Int × Bool:=if 1<(atI l (m:Int)).Q∧(a.2=false∨(atI l a.1).Q<(atI l (m:Int)).Q) then ((m:Int),true) else a
theorem Agj (l:List Ab) (i:Int):accL (Pb l) (0,false) (placesQ (Du l i) l) (placesQ (Du l i) l).length=blkN l i l.length:=by
 rw [Tj]
 refine Kt (blkN l i) rfl (fun k => ?_) _
 show (if _ then _ else _)=_
 simp only [Du,decide_eq_true_eq]
 unfold Pb
 by_cases h:(atI l i).P<(atI l (k:Int)).P
 ·rw [if_pos h]
  simp only [h,true_and]
 ·rw [if_neg h,if_neg fun hh => h hh.1]
theorem Ax2 (hE:Aw E) (hZ:Dy E G) {h:Aa} (ht:Tab G h) {vl:Value} {l:List Ab} (hl:Rd 7 A5 h vl l) (hs:∀ t∈l,t.name.size<1152921504606846976) {i:Int} (hb:isP l i=true) :
  callW E (.func (.func Fw) #[] #[]) [vl,.int .i64 i] h=some (.tuple #[.int .i64 (blkN l i l.length).1,.bool (blkN l i l.length).2],h,[]):=by
 have hi:=fun x => Af3 hE (hl.app x) hs i
 have hc:=hl.cv
 have ho:=hl.one
 refine Am hE.Ac6 rfl (by simp) ?_
 simp only [Ak]
 rw [hb] at hi
 obtain ⟨hi2,hlen,hok⟩:=E8 hb
 have q:=fun x => Awh hE (hl.app x) hi2 hlen
 have ok:=D7 (Du l i) l l.length
 have ev:=J2 (Du l i) hlen
 have Hf:=Hid.mk (Agj l i)
 have Hm:=Hid.mk (fun m (h:m∈placesQ (Du l i) l) => Nf h)
 generalize placesQ (Du l i) l=es at *
 generalize thoseW (Du l i) l l.length=w at *
 (repeat' simp -dsimp (disch:=omega) only [↓EA,EB,Nat.reduceEqDiff,Nat.reduceAdd,↓reduceIte,reduceCtorEq,Ac,eq_self, *])
 refine F9 (Ayl hE _ ok) fun v ys hr hpre => ?_
 obtain ⟨bx,rfl,hge,hbx⟩:=hr
 (repeat' simp -dsimp (disch:=omega) only [↓EA,EB,Nat.reduceEqDiff,↓reduceIte,eq_self, *])
 simp only [List.append_assoc,List.cons_append,List.nil_append,LA,List.length_cons,List.length_nil] at hbx hge
 have hbxl:=(GI.1 hbx).1
 have hpH:Pre h (h++LObj.cells [vl] false :: LObj.cells [Value.int IntKind.i64 0] false :: LObj.cells [Value.bool false] false :: ys):=Pre.app h _
 have hac:∀ k,0≤(accL (Pb l) (0,false) es k).1∧(accL (Pb l) (0,false) es k).1<l.length:=P5 (fun (a:Int × Bool) => 0≤a.1∧a.1<l.length) ⟨by dsimp only;omega,by dsimp only;omega⟩ (fun a m hm ⟨h1,h2⟩ => by
  have:=Hm.out m hm
  unfold Pb
  split
  ·dsimp only;omega
  ·exact ⟨h1,h2⟩)
 refine Axu hE.keep rfl (W7 hE hZ ok bx) (c:=h.length+1) (by simp;omega) (by omega) (by omega) (fun k => .int .i64 (accL (Pb l) (0,false) es k).1) (fun k => .bool (accL (Pb l) (0,false) es k).2) (fun _ => ⟨rfl,rfl⟩) (by rw [Kr];rfl) (by rw [show h.length+1+1=h.length+2 from rfl,Kr];rfl) rfl (fun hh e1 e2 => ⟨by rw [e2 bx hbxl (by omega) (by omega)];exact hbx,ht.pre fun b o hb => by have hlt:=(GI.1 hb).1;rw [e2 b (by simp;omega) (by omega) (by omega)];exact hpH b o hb⟩) ?_ ?_
 ·intro k a ha
  rw [ev,List.getElem?_map] at ha
  obtain ⟨m,hm,rfl⟩:=OM.1 ha
  have hmem:=List.mem_of_getElem? hm
  have hml:=Hm.out m hmem
  have hsucc:=Hid.mk (Mx (f:=Pb l) (a0:=(0,false)) hm)
  have hak:=hac k
  clear ha hm hac Hf ev ok q hi hb hok
  refine ⟨_,rfl,fun hh g1 g2 g2' g3 => ?_⟩
  unfold Nt
  (repeat' simp -dsimp (disch:=omega) only [↓EA,EB,Nat.reduceEqDiff,Nat.reduceAdd,↓reduceIte,eq_self, *])
  refine ⟨[],(List.append_nil _).symm,fun hh2 k1 k2 k2' k3 => ?_⟩
  have hp2:Pre h hh2:=fun b o hb => by
   have hlt:=(GI.1 hb).1
   rw [k3 b (by omega) (by omega) (by omega)];exact hpH b o hb
  have hl2:=hl.pre hp2
  have b1:hh2[h.length]? = some (.cells [vl] false):=by rw [k3 h.length (by omega) (by omega) (by omega),Bm];rfl
  generalize accL (Pb l) (0,false) es k=A at *
  obtain ⟨a1,a2⟩:=A
  have Hb:=Hid.mk (show Pb l (a1,a2) m=if 1<(atI l (m:Int)).Q∧(a2=false∨(atI l a1).Q<(atI l (m:Int)).Q) then ((m:Int),true) else (a1,a2) from rfl)
  unfold Ns
  dsimp only at *
  obtain ⟨hak1,hak2⟩:=hak
  rw [show h.length+1+1=h.length+2 from rfl] at *
  have hmi:(m:Int)<l.length:=by omega
  have hh3:h.length+2<hh2.length:=by omega
  have sm1:=Ds k2
  have sm2:=Ds k2'
  by_cases c1:1<(atI l (m:Int)).Q
  ·by_cases c2:a2=false
   ·subst c2
    (repeat' simp -dsimp (disch:=omega) only [↓EA,EB,Nat.reduceEqDiff,↓reduceIte,eq_self, *,hl2.ixs,hl2.ld,A5,true_or,or_true])
    refine ⟨[],?_⟩
    rw [List.append_nil,hsucc.out,Hb.out,if_pos ⟨c1,.inl rfl⟩]
   ·have c2':a2=true:=by cases a2;exact absurd rfl c2;rfl
    subst c2'
    by_cases c3:(atI l a1).Q<(atI l (m:Int)).Q
    ·(repeat' simp -dsimp (disch:=omega) only [↓EA,EB,Nat.reduceEqDiff,↓reduceIte,eq_self, *,hl2.ixs,hl2.ld,A5,true_or,or_true])
     refine ⟨[],?_⟩
     rw [List.append_nil,hsucc.out,Hb.out,if_pos ⟨c1,.inr c3⟩]
    ·(repeat' simp -dsimp (disch:=omega) only [↓EA,EB,Nat.reduceEqDiff,↓reduceIte,eq_self, *,hl2.ixs,hl2.ld,A5])
     refine ⟨[],?_⟩
     rw [List.append_nil,hsucc.out,Hb.out,if_neg fun hh => by rcases hh.2 with h1 | h1;cases h1;exact c3 h1]
     dsimp only
     rw [sm1,sm2]
  ·(repeat' simp -dsimp (disch:=omega) only [↓EA,EB,Nat.reduceEqDiff,↓reduceIte,eq_self, *,hl2.ixs,hl2.ld,A5])
   refine ⟨[],?_⟩
   rw [List.append_nil,hsucc.out,Hb.out,if_neg fun hh => c1 hh.1]
   dsimp only
   rw [sm1,sm2]
 ·rw [ev,List.length_map,Hf.out]
  clear Hf hac ev
  generalize blkN l i l.length=bk at *
  obtain ⟨b1,b2⟩:=bk
  dsimp only
  rw [show h.length+1+1=h.length+2 from rfl]
  (repeat' simp -dsimp (disch:=omega) only [↓EA,EB,Nat.reduceEqDiff,↓reduceIte,eq_self, *])
end Go.L.Try
namespace Go.L.Try
open Go Go.L
variable {E:Env} {G:Nat}
theorem Az0 (hE:Aw E) {hh:Aa} {b m:Nat} {v vc:Value} {A:List (NV Job)} (hb:hh[b]? = some (.cells [v] false)) (o:OwnT m 5 (Ia hdJ) hh v A) (hbm:b<m) (hml:m≤hh.length) (hA:A.length≤1048576) (j:Job) (hvc:Ah vc=true) (hvn:Bl vc=[vc]) {W:Nat→Prop} (hWb:W b) (hWv:A≠[]→W (blk v)) :
  WX W (callW E (.func (.func Ag) #[] #[.pointer (some ⟨b,0,none⟩)]) [.int .i64 j.task,.int .i64 j.arrive,.int .i64 j.release,.int .i64 j.work,vc] hh) (fun res h' => res = .bool (decide (A.length+1≤4096))∧∃ v',hh.length≤blk v'∧hh.length≤h'.length∧h'[b]? = some (.cells [v'] false)∧OwnT m 5 (Ia hdJ) h' v' (A++[⟨j,vc⟩])∧∀ y,y<hh.length→y≠b→(A≠[]→y≠blk v)→h'[y]? = hh[y]?):=by
 refine E9 hE.Vu rfl (by simp) ?_
 simp only [List.nil_append,List.cons_append,Ak]
 have hbl:=(GI.1 hb).1
 have hb':∀ x,(hh++x)[b]? = some (.cells [v] false):=fun x => by rw [GL hbl];exact hb
 have ov:=o.rd.one
 have cv:=o.rd.cv
 have hge:=o.ge
 have O:=Hid.mk o
 clear o
 (repeat' simp -dsimp (disch:=omega) only [↓EA,EB,Nat.reduceEqDiff,Nat.reduceAdd,Nat.reduceLeDiff,Nat.reduceMul,↓reduceIte,reduceCtorEq,Ac,Rq,eq_self, *])
 refine Afb (sz:=5) (bytes:=56) (h0:=[]) (O.out.app _) (fun b o hb => by simp at hb) (Nat.zero_le _) (by simp;omega) hWv (⟨j,vc⟩:NV Job) ?_ rfl (by decide) (by decide) (by omega) ?_
 ·simp -dsimp (disch:=omega) only [EB,Nat.reduceAdd,Nat.reduceMul,↓reduceIte]
  rfl
 ·intro v2 h2 k1 k2 k3 k4 k5
  rw [LA,List.length_singleton] at k3 k4 k5
  have hb2:h2[b]? = some (.cells [v] false):=by
   rw [k5 b (by omega) (fun hn e => by have:=hge hn;omega)];exact hb' _
  have hk:∀ y,y<hh.length→(A≠[]→y≠blk v)→h2[y]? = hh[y]?:=fun y hy hn => by
   rw [k5 y (by omega) hn,GL hy]
  have hbl2:=(GI.1 hb2).1
  have ov2:=k1.rd.one
  have cv2:=k1.rd.cv
  have hln:=k1.rd.len
  have K:=Hid.mk (AI k1 (AI hk k3))
  have hlA:(((A++[(⟨j,vc⟩:NV Job)]).length:Nat):Int)=(A.length:Int)+1:=by simp
  rw [hlA] at hln
  clear k1 k2 k3 k5 hk
  by_cases hc:A.length+1≤4096
  ·have hc':(A.length:Int)+1≤4096:=by omega
   (repeat' simp -dsimp (disch:=omega) only [↓EA,EB,Nat.reduceEqDiff,Nat.reduceAdd,↓reduceIte,reduceCtorEq,eq_self, *])
   obtain ⟨k1,hk,k3⟩:=K.out
   exact ⟨v2,by omega,rfl,k1.keep fun _ => Ba (by omega),fun y hy hn hv => by rw [Ba (Ne.symm hn)];exact hk y hy hv⟩
  ·have hc':¬ (A.length:Int)+1≤4096:=by omega
   (repeat' simp -dsimp (disch:=omega) only [↓EA,EB,Nat.reduceEqDiff,Nat.reduceAdd,↓reduceIte,reduceCtorEq,eq_self, *])
   obtain ⟨k1,hk,k3⟩:=K.out
   exact ⟨v2,by omega,rfl,k1.keep fun _ => Ba (by omega),fun y hy hn hv => by rw [Ba (Ne.symm hn)];exact hk y hy hv⟩
end Go.L.Try
