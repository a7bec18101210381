/- JOBS: cadencyref08.last, Few, Decode. -/
import Derived.Test.YtifnlcajancfdaaGreatDoorPa
import Derived.Test.YtifnlcajancfdaaGreatDoorVc
set_option linter.unusedVariables false
set_option linter.unusedSimpArgs false
set_option maxRecDepth 4000
set_option maxHeartbeats 1000000
namespace Go.L.Try
open Go Go.L
variable {E:Env}
end Go.L.Try
set_option maxRecDepth 100000
namespace Go.L.Try
open Go Go.L
variable {E:Env}
end Go.L.Try
set_option maxHeartbeats 2000000
namespace Go.L.Try
open Go Go.L
def Dl (q:Int):List Int→Int→Bool
 | [],_ => true
 | c :: r,left => decide (1≤c∧c≤q∧c≤left) && Dl q r (left - c)
def D0 (l:List Ab) (jobs:List Job) (i:Nat):Prop :=
 let j:=atI jobs (i:Int)
 let t:=atI l j.task
 let k:=C4 jobs j.task i
 (0≤j.task∧j.task<l.length)∧(0≤j.arrive∧j.arrive≤17592186044416)∧(0≤k→(atI jobs k).arrive+t.T≤j.arrive)∧j.arrive≤j.release∧j.release≤j.arrive+t.J∧1≤j.work∧j.work≤t.C
instance (l:List Ab) (jobs:List Job) (i:Nat):Decidable (D0 l jobs i):=by unfold D0;dsimp only;infer_instance
def E7 (l:List Ab) (jobs:List Job) (i:Nat):Bool:=decide (D0 l jobs i) && Dl (atI l (atI jobs (i:Int)).task).Q (atI jobs (i:Int)).cuts (atI jobs (i:Int)).work
def Ii (l:List Ab) (jobs:List Job):Nat→Bool
 | 0 => true
 | n+1 => Ii l jobs n && E7 l jobs n
def legalB (l:List Ab) (jobs:List Job):Bool:=decide ((Da l).2=0∧jobs.length≤4096) && Ii l jobs jobs.length
theorem Th {l:List Ab} {jobs:List Job}:∀ {n:Nat},Ii l jobs n=true→∀ i,i<n→E7 l jobs i=true
 | 0,_,i,hi => by omega
 | n+1,h,i,hi => by
  simp only [Ii,Bool.and_eq_true] at h
  rcases Nat.lt_or_ge i n with h1 | h1
  ·exact Th h.1 i h1
  ·have:i=n:=by omega
   subst this;exact h.2
theorem As1 {l:List Ab} {jobs:List Job} {n i:Nat} (hi:i<n) (h:E7 l jobs i=false):Ii l jobs n=false:=by
 cases hc:Ii l jobs n
 ·rfl
 ·rw [Th hc i hi] at h;cases h
theorem Abu {jobs:List Job} {task:Int}:∀ {k i:Nat},k≤i→C4 (jobs.take i) task k=C4 jobs task k
 | 0,i,_ => rfl
 | k+1,i,h => by
  have e:atI (jobs.take i) (k:Int)=atI jobs (k:Int):=by
   unfold atI
   rw [List.getD_eq_getElem?_getD,List.getD_eq_getElem?_getD,List.getElem?_take,if_pos (by omega)]
  simp only [C4,e,Abu (k:=k) (by omega:k≤i)]
theorem Nh {jobs:List Job} {task:Int}:∀ {n:Nat},0≤C4 jobs task n→(atI jobs (C4 jobs task n)).task=task
 | 0,h => by simp [C4] at h
 | n+1,h => by
  unfold C4 at h ⊢
  split
  ·assumption
  ·rename_i hn;rw [if_neg hn] at h;exact Nh h
end Go.L.Try
namespace Go.L.Try
open Go Go.L
def As:List Int→Int→Int→Bool
 | [],_,_ => false
 | c :: r,a,d => decide (a<d∧d<a+c) || As r (a+c) d
def Cf (l:List Ab) (jobs:List Job) (done:List Int) (t:Int):Nat→Int
| 0 => -1
| n+1 => if (atI jobs n).release≤t∧atI done n<(atI jobs n).work∧(Cf l jobs done t n<0∨(atI l (atI jobs n).task).P<(atI l (atI jobs (Cf l jobs done t n)).task).P) then n else Cf l jobs done t n
theorem Pe (l:List Ab) (jobs:List Job) (done:List Int) (t:Int):∀ n,-1≤Cf l jobs done t n∧Cf l jobs done t n<n
| 0 => by simp [Cf]
| n+1 => by have:=Pe l jobs done t n;unfold Cf;split<;>omega
end Go.L.Try
namespace Go.L.Try
open Go Go.L
def D6 (f:Nat→Int):Nat→Int
 | 0 => 0
 | n+1 => D6 f n+f n
theorem Tm {f g:Nat→Int}:∀ {n:Nat},(∀ i,i<n→g i=f i)→D6 g n=D6 f n
 | 0,_ => rfl
 | n+1,h => by simp only [D6];rw [Tm (n:=n) fun i hi => h i (by omega),h n (by omega)]
theorem Aal {f g:Nat→Int} {r:Nat}:∀ {n:Nat},(∀ i,i≠r→g i=f i)→r<n→D6 g n=D6 f n+(g r - f r)
 | 0,_,h => by omega
 | n+1,h,hr => by
  simp only [D6]
  by_cases e:r=n
  ·subst e
   rw [Tm (f:=f) (g:=g) fun i hi => h i (by omega)];omega
  ·rw [Aal h (by omega),h n (fun h => e h.symm)];omega
theorem Vo {f g:Nat→Int}:∀ {n:Nat},(∀ i,i<n→f i≤g i)→D6 f n≤D6 g n
 | 0,_ => Int.le_refl _
 | n+1,h => by have:=Vo (n:=n) fun i hi => h i (by omega);have:=h n (by omega);simp only [D6];omega
theorem Xh:∀ {n:Nat},D6 (fun _ => 0) n=0
 | 0 => rfl
 | n+1 => by simp only [D6,Xh (n:=n)];rfl
theorem Yl {f:Nat→Int} {n:Nat} (h:∀ i,i<n→0≤f i):0≤D6 f n:=by
 have:=Vo (f:=fun _ => 0) (g:=f) (n:=n) h;rw [Xh] at this;exact this
theorem Aam {f:Nat→Int}:∀ {n:Nat},0<D6 f n→∃ i,i<n∧0<f i
 | 0,h => by simp [D6] at h
 | n+1,h => by
  simp only [D6] at h
  by_cases e:0<f n
  ·exact ⟨n,by omega,e⟩
  ·obtain ⟨i,hi,h1⟩:=Aam (f:=f) (n:=n) (by omega);exact ⟨i,by omega,h1⟩
theorem T1 {α : Type} [Inhabited α] {l:List α} {r:Nat} {x:α} (hr:r<l.length) (i:Nat):atI (l.set r x) (i:Int)=if i=r then x else atI l (i:Int):=by
 unfold atI
 rw [List.getD_eq_getElem?_getD,List.getD_eq_getElem?_getD,show ((i:Int)).toNat=i by omega,List.getElem?_set]
 by_cases e:i=r
 ·subst e;simp [hr]
 ·rw [if_neg (fun h => e h.symm),if_neg e]
structure RS where
 t:Int
 runs:Int
 done:List Int
 ends:List Int
 left:Int
 L:List Span
def Bj (l:List Ab) (jobs:List Job) (s:RS):Int :=
 if s.runs<0∨As (atI jobs s.runs).cuts 0 (atI s.done s.runs)=false then Cf l jobs s.done s.t jobs.length else s.runs
def Gj (L:List Span) (r t:Int):List Span :=
 if 0<(L.length:Int)∧(atI L ((L.length:Int) - 1)).job=r∧(atI L ((L.length:Int) - 1)).to'=t then L.set ((L.length:Int) - 1).toNat { atI L ((L.length:Int) - 1) with to':=(atI L ((L.length:Int) - 1)).to'+1 } else L++[⟨r,t,t+1⟩]
def M6 (jobs:List Job) (s:RS) (r:Int):RS :=
 {t:=s.t+1,runs:=r,done:=s.done.set r.toNat (atI s.done r+1),L:=Gj s.L r s.t,
  ends:=if atI s.done r+1=(atI jobs r).work then s.ends.set r.toNat (s.t+1) else s.ends,
  left:=if atI s.done r+1=(atI jobs r).work then s.left - 1 else s.left }
def Ew (l:List Ab) (jobs:List Job) (s:RS):RS :=
 if Bj l jobs s<0 then { s with t:=s.t+1,runs:=Bj l jobs s } else M6 jobs s (Bj l jobs s)
def Qg (e:Int) (s:RS):Prop:=0<s.left∧(e<0∨s.t<e)
instance (e:Int) (s:RS):Decidable (Qg e s):=by unfold Qg;infer_instance
def Ys (l:List Ab) (jobs:List Job) (e:Int):Nat→RS→RS
 | 0,s => s
 | n+1,s => if Qg e s then Ys l jobs e n (Ew l jobs s) else s
def Fm (n:Nat):RS:=⟨0,-1,List.replicate n 0,List.replicate n (-1),n,[]⟩
def Eu:Int:=17594333528064
structure Q7 (l:List Ab) (jobs:List Job):Prop where
 task:∀ j∈jobs,0≤j.task∧j.task<l.length
 rel:∀ j∈jobs,0≤j.release∧j.release<Eu
 work:∀ j∈jobs,1≤j.work∧j.work≤2147483647
 cuts:∀ j∈jobs,∃ q,Dl q j.cuts j.work=true
structure RsInv (jobs:List Job) (s:RS):Prop where
 dlen:s.done.length=jobs.length
 elen:s.ends.length=jobs.length
 t0:0≤s.t
 t1:s.t≤Eu+D6 (fun i => atI s.done (i:Int)) jobs.length
 runs:-1≤s.runs∧s.runs<jobs.length
 done:∀ i:Nat,i<jobs.length→0≤atI s.done (i:Int)∧atI s.done (i:Int)≤(atI jobs (i:Int)).work
 left:s.left=D6 (fun i => if atI s.done (i:Int)<(atI jobs (i:Int)).work then 1 else 0) jobs.length
 L:(s.L.length:Int)≤D6 (fun i => atI s.done (i:Int)) jobs.length
def Hy (jobs:List Job):Int:=D6 (fun i => (atI jobs (i:Int)).work) jobs.length
def Ey (jobs:List Job) (s:RS):Nat:=(Eu - s.t).toNat+(Hy jobs - D6 (fun i => atI s.done (i:Int)) jobs.length).toNat
theorem RsInv.sum {jobs:List Job} {s:RS} (h:RsInv jobs s):0≤D6 (fun i => atI s.done (i:Int)) jobs.length∧D6 (fun i => atI s.done (i:Int)) jobs.length≤Hy jobs :=
 ⟨Yl fun i hi => (h.done i hi).1,Vo fun i hi => (h.done i hi).2⟩
theorem Qh (jobs:List Job) (hw:∀ j∈jobs,1≤j.work∧j.work≤2147483647):RsInv jobs (Fm jobs.length):=by
 have h0:∀ i:Nat,i<jobs.length→atI (List.replicate jobs.length (0:Int)) (i:Int)=0:=fun i hi => by
  rw [By (by simpa using hi)];simp
 have hs:D6 (fun i => atI (List.replicate jobs.length (0:Int)) (i:Int)) jobs.length=0:=by
  rw [Tm (f:=fun _ => 0) h0,Xh]
 refine ⟨by simp [Fm],by simp [Fm],Int.le_refl _,?_,⟨by simp [Fm],by simp [Fm];omega⟩,fun i hi => ?_,?_,?_⟩
 ·show (0:Int)≤Eu+D6 (fun i => atI (List.replicate jobs.length (0:Int)) (i:Int)) jobs.length
  rw [hs];decide
 ·show 0≤atI (List.replicate jobs.length (0:Int)) (i:Int)∧atI (List.replicate jobs.length (0:Int)) (i:Int)≤_
  rw [h0 i hi]
  have:=(hw _ (Aj (l:=jobs) (i:=i) (by omega) (by omega))).1
  omega
 ·show (jobs.length:Int)=D6 (fun i => if atI (List.replicate jobs.length (0:Int)) (i:Int)<(atI jobs (i:Int)).work then 1 else 0) jobs.length
  rw [Tm (f:=fun _ => 1) fun i hi => by
   have:=(hw _ (Aj (l:=jobs) (i:=i) (by omega) (by omega))).1
   rw [h0 i hi,if_pos (by omega)]]
  have:∀ n:Nat,(n:Int)=D6 (fun _ => 1) n:=by
   intro n
   induction n with
   | zero => rfl
   | succ n ih => simp only [D6];omega
  exact this _
 ·show ((List.length ([]:List Span):Nat):Int)≤D6 (fun i => atI (List.replicate jobs.length (0:Int)) (i:Int)) jobs.length
  rw [hs];decide
theorem Xd {q:Int}:∀ {cuts:List Int} {w a d:Int},Dl q cuts w=true→As cuts a d=true→d<a+w
 | [],w,a,d,_,h => by simp [As] at h
 | c :: r,w,a,d,h1,h2 => by
  simp only [Dl,Bool.and_eq_true,decide_eq_true_eq] at h1
  simp only [As,Bool.or_eq_true,decide_eq_true_eq] at h2
  rcases h2 with h2 | h2
  ·omega
  ·have:=Xd h1.2 h2;omega
theorem Kl {l:List Ab} {jobs:List Job} {done:List Int} {t:Int}:∀ {n:Nat},0≤Cf l jobs done t n→(atI jobs (Cf l jobs done t n)).release≤t∧atI done (Cf l jobs done t n)<(atI jobs (Cf l jobs done t n)).work
 | 0,h => by simp [Cf] at h
 | n+1,h => by
  unfold Cf at h ⊢
  split
  ·rename_i hc;exact ⟨hc.1,hc.2.1⟩
  ·rename_i hc
   rw [if_neg hc] at h
   exact Kl h
theorem M8 {l:List Ab} {jobs:List Job} {done:List Int} {t:Int}:∀ {n:Nat},Cf l jobs done t n<0→∀ i:Nat,i<n→¬ ((atI jobs (i:Int)).release≤t∧atI done (i:Int)<(atI jobs (i:Int)).work)
 | 0,_,i,hi => by omega
 | n+1,h,i,hi => by
  unfold Cf at h
  split at h
  ·omega
  ·rename_i hc
   rintro ⟨h1,h2⟩
   rcases Nat.lt_or_ge i n with hlt | hge
   ·exact M8 h i hlt ⟨h1,h2⟩
   ·have:i=n:=by omega
    subst this
    exact hc ⟨h1,h2,.inl h⟩
theorem Arj {l:List Ab} {jobs:List Job} {s:RS} (hj:Q7 l jobs) (hi:RsInv jobs s):-1≤Bj l jobs s∧Bj l jobs s<jobs.length∧(0≤Bj l jobs s→atI s.done (Bj l jobs s)<(atI jobs (Bj l jobs s)).work):=by
 unfold Bj
 split
 ·have:=Pe l jobs s.done s.t jobs.length
  exact ⟨this.1,this.2,fun h => (Kl h).2⟩
 ·rename_i hc
  have h0:0≤s.runs:=by omega
  have hw:As (atI jobs s.runs).cuts 0 (atI s.done s.runs)=true:=by simpa using fun h => hc (.inr h)
  refine ⟨by omega,hi.runs.2,fun _ => ?_⟩
  obtain ⟨q,hq⟩:=hj.cuts _ (Aj h0 hi.runs.2)
  have:=Xd hq hw;omega
theorem Akh (L:List Span) (r t:Int):(Gj L r t).length≤L.length+1:=by unfold Gj;split<;>simp
theorem Jd {l:List Ab} {jobs:List Job} {s:RS} {e:Int} (hj:Q7 l jobs) (hi:RsInv jobs s) (ho:Qg e s):RsInv jobs (Ew l jobs s)∧Ey jobs (Ew l jobs s)<Ey jobs s:=by
 obtain ⟨r1,r2,r3⟩:=Arj hj hi
 unfold Ew
 split
 ·rename_i hr
  have hlt:s.t<Eu:=by
   have:=ho.1
   rw [hi.left] at this
   obtain ⟨i,hin,hp⟩:=Aam this
   split at hp
   ·rename_i hd
    have hpn:Cf l jobs s.done s.t jobs.length<0:=by
     unfold Bj at hr
     split at hr
     ·exact hr
     ·rename_i hc;omega
    have h1:=M8 hpn i hin
    have h2:=(hj.rel _ (Aj (l:=jobs) (i:=i) (by omega) (by omega))).2
    omega
   ·omega
  have hs:=hi.sum
  refine ⟨⟨hi.dlen,hi.elen,by have:=hi.t0;show 0≤s.t+1;omega,?_,⟨r1,r2⟩,hi.done,hi.left,hi.L⟩,?_⟩
  ·show s.t+1≤Eu+D6 (fun i => atI s.done (i:Int)) jobs.length
   omega
  ·show (Eu - (s.t+1)).toNat+(Hy jobs - D6 (fun i => atI s.done (i:Int)) jobs.length).toNat<(Eu - s.t).toNat+(Hy jobs - D6 (fun i => atI s.done (i:Int)) jobs.length).toNat
   omega
 ·rename_i hr
  generalize hrr:Bj l jobs s=r at *
  have h0:0≤r:=by omega
  have hlt:=r3 h0
  obtain ⟨k,rfl⟩:∃ k:Nat,r=k:=⟨r.toNat,by omega⟩
  have hk:k<jobs.length:=by omega
  have hkd:k<s.done.length:=by rw [hi.dlen];exact hk
  have hat:∀ i:Nat,atI (s.done.set k (atI s.done (k:Int)+1)) (i:Int)=if i=k then atI s.done (k:Int)+1 else atI s.done (i:Int):=fun i => T1 hkd i
  have hsum:D6 (fun i => atI (s.done.set k (atI s.done (k:Int)+1)) (i:Int)) jobs.length=D6 (fun i => atI s.done (i:Int)) jobs.length+1:=by
   rw [Aal (f:=fun i => atI s.done (i:Int)) (r:=k) (fun i hik => by rw [hat,if_neg hik]) hk,hat,if_pos rfl];omega
  have hs:=hi.sum
  have hb:=hi.done k hk
  have hle:D6 (fun i => atI s.done (i:Int)) jobs.length+1≤Hy jobs:=by
   rw [← hsum]
   refine Vo fun i hin => ?_
   rw [hat]
   split
   ·rename_i e;subst e;omega
   ·exact (hi.done i hin).2
  have htk:((k:Int)).toNat=k:=by omega
  refine ⟨⟨?_,?_,?_,?_,⟨by show -1≤(k:Int);omega,r2⟩,?_,?_,?_⟩,?_⟩
  ·simp only [M6,List.length_set];exact hi.dlen
  ·simp only [M6];split
   ·rw [List.length_set];exact hi.elen
   ·exact hi.elen
  ·have:=hi.t0;show 0≤s.t+1;omega
  ·show s.t+1≤Eu+D6 (fun i => atI (s.done.set ((k:Int)).toNat (atI s.done (k:Int)+1)) (i:Int)) jobs.length
   rw [htk,hsum];have:=hi.t1;omega
  ·intro i hin
   show 0≤atI (s.done.set ((k:Int)).toNat (atI s.done (k:Int)+1)) (i:Int)∧atI (s.done.set ((k:Int)).toNat (atI s.done (k:Int)+1)) (i:Int)≤_
   rw [htk,hat]
   split
   ·rename_i e;subst e;omega
   ·exact hi.done i hin
  ·show (if atI s.done (k:Int)+1=(atI jobs (k:Int)).work then s.left - 1 else s.left)=D6 (fun i => if atI (s.done.set ((k:Int)).toNat (atI s.done (k:Int)+1)) (i:Int)<(atI jobs (i:Int)).work then 1 else 0) jobs.length
   rw [htk,Aal (f:=fun i => if atI s.done (i:Int)<(atI jobs (i:Int)).work then 1 else 0) (r:=k) (fun i hik => by rw [hat,if_neg hik]) hk,← hi.left,hat,if_pos rfl,if_pos hlt]
   split
   ·rw [if_neg (by omega)];omega
   ·rw [if_pos (by omega)];omega
  ·show (((Gj s.L (k:Int) s.t).length:Nat):Int)≤D6 (fun i => atI (s.done.set ((k:Int)).toNat (atI s.done (k:Int)+1)) (i:Int)) jobs.length
   rw [htk,hsum]
   have:=Akh s.L k s.t
   have:=hi.L
   omega
  ·show (Eu - (s.t+1)).toNat+(Hy jobs - D6 (fun i => atI (s.done.set ((k:Int)).toNat (atI s.done (k:Int)+1)) (i:Int)) jobs.length).toNat<(Eu - s.t).toNat+(Hy jobs - D6 (fun i => atI s.done (i:Int)) jobs.length).toNat
   rw [htk,hsum]
   omega
theorem Aaz {l:List Ab} {jobs:List Job} {e:Int} (hj:Q7 l jobs):∀ {n m:Nat} {s:RS},RsInv jobs s→Ey jobs s≤n→Ey jobs s≤m→Ys l jobs e n s=Ys l jobs e m s
 | 0,0,s,_,_,_ => rfl
 | 0,m+1,s,hi,h0,_ => by
  unfold Ys
  by_cases ho:Qg e s
  ·have:=(Jd hj hi ho).2;omega
  ·rw [if_neg ho]
 | n+1,0,s,hi,_,h0 => by
  unfold Ys
  by_cases ho:Qg e s
  ·have:=(Jd hj hi ho).2;omega
  ·rw [if_neg ho]
 | n+1,m+1,s,hi,h1,h2 => by
  unfold Ys
  by_cases ho:Qg e s
  ·have h3:=Jd hj hi ho
   rw [if_pos ho,if_pos ho]
   exact Aaz hj h3.1 (by omega) (by omega)
  ·rw [if_neg ho,if_neg ho]
def Bt (l:List Ab) (jobs:List Job) (e:Int) (s:RS):RS:=Ys l jobs e (Ey jobs s) s
theorem Rx {l:List Ab} {jobs:List Job} {e:Int} {s:RS} (hj:Q7 l jobs) (hi:RsInv jobs s) (ho:Qg e s):Bt l jobs e s=Bt l jobs e (Ew l jobs s):=by
 have h3:=Jd hj hi ho
 unfold Bt
 obtain ⟨k,hk⟩:∃ k,Ey jobs s=k+1:=⟨Ey jobs s - 1,by omega⟩
 rw [hk]
 show (if Qg e s then Ys l jobs e k (Ew l jobs s) else s)=_
 rw [if_pos ho]
 exact Aaz hj h3.1 (by omega) (Nat.le_refl _)
theorem Lf {l:List Ab} {jobs:List Job} {e:Int} {s:RS} (ho:¬ Qg e s):Bt l jobs e s=s:=by
 unfold Bt
 cases Ey jobs s with
 | zero => rfl
 | succ k => exact if_neg ho
theorem Un {l:List Ab} {jobs:List Job} {e:Int} (hj:Q7 l jobs) (p:RS→Prop) (hp:∀ s,RsInv jobs s→Qg e s→p s→p (Ew l jobs s)):∀ {s:RS},RsInv jobs s→p s→RsInv jobs (Bt l jobs e s)∧p (Bt l jobs e s)∧¬ Qg e (Bt l jobs e s):=by
 have key:∀ n (s:RS),Ey jobs s≤n→RsInv jobs s→p s→RsInv jobs (Bt l jobs e s)∧p (Bt l jobs e s)∧¬ Qg e (Bt l jobs e s):=by
  intro n
  induction n with
  | zero =>
   intro s hn hi h
   by_cases ho:Qg e s
   ·have:=(Jd hj hi ho).2;omega
   ·rw [Lf ho];exact ⟨hi,h,ho⟩
  | succ n ih =>
   intro s hn hi h
   by_cases ho:Qg e s
   ·have h3:=Jd hj hi ho
    rw [Rx hj hi ho]
    exact ih _ (by omega) h3.1 (hp s hi ho h)
   ·rw [Lf ho];exact ⟨hi,h,ho⟩
 intro s hi h
 exact key _ s (Nat.le_refl _) hi h
end Go.L.Try
