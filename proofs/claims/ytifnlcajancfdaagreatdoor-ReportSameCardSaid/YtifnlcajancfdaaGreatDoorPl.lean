/- SPANS HELD AGAINST ONE ANOTHER. -/
import Derived.Test.YtifnlcajancfdaaGreatDoorVb
import Derived.Test.YtifnlcajancfdaaGreatDoorPg
import Derived.Test.YtifnlcajancfdaaGreatDoorPi
import Derived.Test.YtifnlcajancfdaaGreatDoorPk
import Derived.Test.YtifnlcajancfdaaGreatDoorPa
set_option linter.unusedVariables false
set_option linter.unusedSimpArgs false
namespace Go.L.Try
open Go Go.L
theorem span_ext {x y:Span}:x=y↔(x.job=y.job∧x.from'=y.from'∧x.to'=y.to'):=by
 cases x;cases y;simp
instance:DecidableEq Span:=fun x y => decidable_of_iff _ span_ext.symm
end Go.L.Try
set_option maxRecDepth 100000
set_option maxHeartbeats 1000000
namespace Go.L.Try
open Go Go.L
def st (l:List Ab) (jobs:List Job):Nat→RS
  | 0 => Fm jobs.length
  | n+1 => Ew l jobs (st l jobs n)
def who (l:List Ab) (jobs:List Job) (n:Nat):Int:=Bj l jobs (st l jobs n)
def dn (l:List Ab) (jobs:List Job) (i n:Nat):Int:=atI (st l jobs n).done (i:Int)
variable {l:List Ab} {jobs:List Job}
structure Akn (jobs:List Job) (s:RS):Prop where
  dlen:s.done.length=jobs.length
  elen:s.ends.length=jobs.length
  runs:-1≤s.runs∧s.runs<jobs.length
  done:∀ i:Nat,i<jobs.length→0≤atI s.done (i:Int)∧atI s.done (i:Int)≤(jb jobs i).work
theorem Am5 (S:Script l jobs) {s:RS} (hi:Akn jobs s):-1≤Bj l jobs s∧Bj l jobs s<jobs.length∧(0≤Bj l jobs s→atI s.done (Bj l jobs s)<(atI jobs (Bj l jobs s)).work):=by
  unfold Bj
  split
  · have:=Pe l jobs s.done s.t jobs.length
    exact ⟨this.1,this.2,fun h => (Kl h).2⟩
  · rename_i hc
    have h0:0≤s.runs:=by omega
    have hw:As (atI jobs s.runs).cuts 0 (atI s.done s.runs)=true:=by simpa using fun h => hc (.inr h)
    refine ⟨by omega,hi.runs.2,fun _ => ?_⟩
    obtain ⟨q,hq⟩:=S.ok.cuts _ (Aj h0 hi.runs.2)
    have:=Xd hq hw;omega
theorem Kk (S:Script l jobs) {s:RS} (hi:Akn jobs s):(Bj l jobs s = -1∧Ew l jobs s={ s with t:=s.t+1,runs:=-1 })∨∃ r:Nat,r<jobs.length∧Bj l jobs s=r∧atI s.done (r:Int)<(jb jobs r).work∧Ew l jobs s=M6 jobs s r:=by
  obtain ⟨h1,h2,h3⟩:=Am5 S hi
  unfold Ew
  by_cases hr:Bj l jobs s<0
  · left
    have e:Bj l jobs s = -1:=by omega
    rw [if_pos hr,e];exact ⟨rfl,rfl⟩
  · right
    obtain ⟨r,hr2⟩:∃ r:Nat,Bj l jobs s=r:=⟨(Bj l jobs s).toNat,by omega⟩
    rw [if_neg hr,hr2]
    rw [hr2] at h2 h3
    exact ⟨r,by omega,rfl,h3 (by omega),rfl⟩
theorem Adq {s:RS} {r:Nat} (hr:r<s.done.length) (i:Nat):atI (M6 jobs s r).done (i:Int)=if i=r then atI s.done (r:Int)+1 else atI s.done (i:Int):=by
  show atI (s.done.set ((r:Int)).toNat (atI s.done (r:Int)+1)) (i:Int)=_
  rw [Int.toNat_natCast];exact T1 hr i
theorem Aqv {s:RS} {r:Nat} (hr:r<s.ends.length) (i:Nat):atI (M6 jobs s r).ends (i:Int)=if i=r∧atI s.done (r:Int)+1=(jb jobs r).work then s.t+1 else atI s.ends (i:Int):=by
  show atI (if atI s.done (r:Int)+1=(atI jobs (r:Int)).work then s.ends.set ((r:Int)).toNat (s.t+1) else s.ends) (i:Int)=_
  rw [Int.toNat_natCast]
  by_cases h:atI s.done (r:Int)+1=(jb jobs r).work
  · have h':atI s.done (r:Int)+1=(atI jobs (r:Int)).work:=h
    rw [if_pos h',T1 hr]
    by_cases e:i=r
    · rw [if_pos e,if_pos ⟨e,h⟩]
    · rw [if_neg e,if_neg fun h => e h.1]
  · have h':¬ atI s.done (r:Int)+1=(atI jobs (r:Int)).work:=h
    rw [if_neg h',if_neg fun hh => h hh.2]
theorem Akz (S:Script l jobs) {s:RS} (hi:Akn jobs s):Akn jobs (Ew l jobs s):=by
  rcases Kk S hi with ⟨_,h⟩ | ⟨r,h1,h2,h3,h⟩
  · rw [h];exact ⟨hi.dlen,hi.elen,⟨Int.le_refl _,by show (-1:Int)<_;omega⟩,hi.done⟩
  · rw [h]
    refine ⟨by simp [M6,hi.dlen],?_,⟨by show -1≤(r:Int);omega,by show (r:Int)<_;omega⟩,fun i hin => ?_⟩
    · simp only [M6];split
      · rw [List.length_set];exact hi.elen
      · exact hi.elen
    · rw [Adq (by rw [hi.dlen];exact h1)]
      split
      · rename_i e;subst e;have:=hi.done i hin;omega
      · exact hi.done i hin
theorem Alj {n:Nat} {x:Int} (i:Nat) (hi:i<n):atI (List.replicate n x) (i:Int)=x:=by
  rw [By (by simpa using hi)];simp
theorem M0 (S:Script l jobs):∀ n,Akn jobs (st l jobs n)
  | 0 => by
    refine ⟨by simp [st,Fm],by simp [st,Fm],⟨by simp [st,Fm],by simp [st,Fm];omega⟩,fun i hi => ?_⟩
    show 0≤atI (List.replicate jobs.length (0:Int)) (i:Int)∧atI (List.replicate jobs.length (0:Int)) (i:Int)≤_
    rw [Alj i hi]
    have:=(S.ok.work _ (Dk hi)).1
    omega
  | n+1 => Akz S (M0 S n)
theorem Ac4 (S:Script l jobs):∀ n,(st l jobs n).t=n
  | 0 => rfl
  | n+1 => by
    have ih:=Ac4 S n
    show (Ew l jobs (st l jobs n)).t=_
    rcases Kk S (M0 S n) with ⟨_,h⟩ | ⟨r,h1,h2,h3,h⟩
    · rw [h];show (st l jobs n).t+1=_;omega
    · rw [h];show (st l jobs n).t+1=_;omega
theorem Ib (S:Script l jobs) {i:Nat} (hi:i<jobs.length) (n:Nat):dn l jobs i (n+1)=dn l jobs i n+if who l jobs n=i then 1 else 0:=by
  show atI (Ew l jobs (st l jobs n)).done (i:Int)=atI (st l jobs n).done (i:Int)+if Bj l jobs (st l jobs n)=i then 1 else 0
  have hv:=M0 S n
  rcases Kk S hv with ⟨h0,h⟩ | ⟨r,h1,h2,h3,h⟩
  · rw [h,h0,if_neg (by omega)];show atI (st l jobs n).done (i:Int)=_;omega
  · rw [h,h2,Adq (by rw [hv.dlen];exact h1)]
    by_cases e:i=r
    · rw [if_pos e,if_pos (by omega),e]
    · rw [if_neg e,if_neg (by omega)];omega
theorem Z3 {i:Nat} (hi:i<jobs.length):dn l jobs i 0=0:=Alj i hi
theorem Q9 (S:Script l jobs) {i:Nat} (hi:i<jobs.length) (n:Nat):0≤dn l jobs i n∧dn l jobs i n≤(jb jobs i).work:=(M0 S n).done i hi
theorem Tw (S:Script l jobs) {i:Nat} (hi:i<jobs.length) {m n:Nat} (h:m≤n):dn l jobs i m≤dn l jobs i n:=by
  induction n with
  | zero => have:m=0:=by omega
            subst this;exact Int.le_refl _
  | succ n ih =>
    by_cases e:m=n+1
    · subst e;exact Int.le_refl _
    · have:=ih (by omega)
      rw [Ib S hi n]
      split<;>omega
theorem Um (S:Script l jobs) {n i:Nat} (h:who l jobs n=i):i<jobs.length∧dn l jobs i n<(jb jobs i).work:=by
  have h1:=Am5 S (M0 S n)
  have h2:Bj l jobs (st l jobs n)=i:=h
  rw [h2] at h1
  exact ⟨by omega,h1.2.2 (by omega)⟩
theorem Xm (S:Script l jobs) (n:Nat):(st l jobs (n+1)).runs=who l jobs n:=by
  show (Ew l jobs (st l jobs n)).runs=Bj l jobs (st l jobs n)
  rcases Kk S (M0 S n) with ⟨h0,h⟩ | ⟨r,h1,h2,h3,h⟩
  · rw [h,h0]
  · rw [h,h2];rfl
theorem Jb (n:Nat):(0≤(st l jobs n).runs∧As (atI jobs (st l jobs n).runs).cuts 0 (atI (st l jobs n).done (st l jobs n).runs)=true∧who l jobs n=(st l jobs n).runs)∨((st l jobs n).runs<0∨As (atI jobs (st l jobs n).runs).cuts 0 (atI (st l jobs n).done (st l jobs n).runs)=false)∧who l jobs n=Cf l jobs (st l jobs n).done (st l jobs n).t jobs.length:=by
  unfold who Bj
  by_cases h:(st l jobs n).runs<0∨As (atI jobs (st l jobs n).runs).cuts 0 (atI (st l jobs n).done (st l jobs n).runs)=false
  · right;rw [if_pos h];exact ⟨h,rfl⟩
  · left
    rw [if_neg h]
    exact ⟨by omega,by cases hw:As (atI jobs (st l jobs n).runs).cuts 0 (atI (st l jobs n).done (st l jobs n).runs) with | true => rfl | false => exact absurd (.inr hw) h,rfl⟩
theorem Afd (S:Script l jobs):∀ {n i:Nat},who l jobs n=i→(jb jobs i).release≤n
  | 0,i,h => by
    rcases Jb (l:=l) (jobs:=jobs) 0 with ⟨h1,_⟩ | ⟨_,h2⟩
    · simp [st,Fm] at h1
    · rw [h2] at h
      have:=(Kl (l:=l) (jobs:=jobs) (done:=(st l jobs 0).done) (t:=(st l jobs 0).t) (n:=jobs.length) (by omega)).1
      rw [h] at this
      exact this
  | n+1,i,h => by
    rcases Jb (l:=l) (jobs:=jobs) (n+1) with ⟨h1,_,h3⟩ | ⟨_,h2⟩
    · rw [h3,Xm S] at h
      have:=Afd S h;omega
    · rw [h2] at h
      have:=(Kl (l:=l) (jobs:=jobs) (done:=(st l jobs (n+1)).done) (t:=(st l jobs (n+1)).t) (n:=jobs.length) (by omega)).1
      rw [h,Ac4 S] at this
      exact this
theorem Ag0 (S:Script l jobs) {n:Nat} (h:who l jobs n<0) {i:Nat} (hi:i<jobs.length) (hr:(jb jobs i).release≤n):dn l jobs i n=(jb jobs i).work:=by
  rcases Jb (l:=l) (jobs:=jobs) n with ⟨h1,_,h3⟩ | ⟨_,h2⟩
  · omega
  · rw [h2] at h
    have h5:=M8 h i hi
    rw [Ac4 S] at h5
    have h6:=Q9 S hi n
    have:¬ dn l jobs i n<(jb jobs i).work:=fun hd => h5 ⟨hr,hd⟩
    omega
theorem M9 {l:List Ab} {jobs:List Job} {done:List Int} {t:Int}:∀ {n:Nat} {r:Nat},Cf l jobs done t n=r→∀ i:Nat,i<n→(jb jobs i).release≤t→atI done (i:Int)<(jb jobs i).work→(atI l (jb jobs r).task).P≤(atI l (jb jobs i).task).P∧((atI l (jb jobs r).task).P=(atI l (jb jobs i).task).P→r≤i)
  | 0,r,h,i,hi,_,_ => by omega
  | n+1,r,h,i,hi,h1,h2 => by
    unfold Cf at h
    split at h
    · rename_i hc
      have hrn:r=n:=by omega
      subst hrn
      by_cases e:i=r
      · subst e;exact ⟨Int.le_refl _,fun _ => Nat.le_refl _⟩
      · have hlt:i<r:=by omega
        rcases hc.2.2 with h3 | h3
        · exact absurd ⟨h1,h2⟩ (M8 h3 i hlt)
        · have h0:0≤Cf l jobs done t r:=by
            rcases Int.lt_or_le (Cf l jobs done t r) 0 with h4 | h4
            · exact absurd ⟨h1,h2⟩ (M8 h4 i hlt)
            · exact h4
          obtain ⟨p,hp⟩:∃ p:Nat,Cf l jobs done t r=p:=⟨(Cf l jobs done t r).toNat,by omega⟩
          have h5:=M9 hp i hlt h1 h2
          rw [hp] at h3
          have h3':(atI l (jb jobs r).task).P<(atI l (jb jobs p).task).P:=h3
          exact ⟨by omega,fun e => by omega⟩
    · rename_i hc
      by_cases e:i=n
      · subst e
        have h3:¬ (Cf l jobs done t i<0∨(atI l (atI jobs (i:Int)).task).P<(atI l (atI jobs (Cf l jobs done t i)).task).P):=fun h4 => hc ⟨h1,h2,h4⟩
        rw [h] at h3
        have hb:=(Pe l jobs done t i).2
        rw [h] at hb
        have h4:¬ (atI l (jb jobs i).task).P<(atI l (jb jobs r).task).P:=fun h5 => h3 (.inr h5)
        exact ⟨by omega,fun _ => by omega⟩
      · exact M9 h i (by omega) h1 h2
structure A59 (l:List Ab) (jobs:List Job) (i n σ : Nat):Prop where
  lt:σ < n
  run:∀ k,σ ≤ k→k<n→who l jobs k=i
  best:∀ k,k<jobs.length→(jb jobs k).release ≤ σ → dn l jobs k σ < (jb jobs k).work→(atI l (jb jobs i).task).P≤(atI l (jb jobs k).task).P∧((atI l (jb jobs i).task).P=(atI l (jb jobs k).task).P→i≤k)
  sec:∃ pre c post,(jb jobs i).cuts=pre++c :: post∧Gb pre=dn l jobs i σ ∧ Gb pre+(n - σ : Nat)=dn l jobs i n∧dn l jobs i n<Gb pre+c
theorem Vm:∀ {cs:List Int} {a d:Int},As cs a d=true→∃ pre c post,cs=pre++c :: post∧a+Gb pre<d∧d<a+Gb pre+c
  | [],a,d,h => by simp [As] at h
  | c :: r,a,d,h => by
    simp only [As,Bool.or_eq_true,decide_eq_true_eq] at h
    rcases h with h | h
    · exact ⟨[],c,r,rfl,by simp only [Rz];omega,by simp only [Rz];omega⟩
    · obtain ⟨pre,c',post,h1,h2,h3⟩:=Vm h
      exact ⟨c :: pre,c',post,by rw [h1];rfl,by rw [Jc];omega,by rw [Jc];omega⟩
theorem Z9 {pre post:List Int} {c d:Int} (hp:∀ x∈pre++c :: post,1≤x) (h1:Gb pre≤d) (h2:d≤Gb pre+c):As (pre++c :: post) 0 d=decide (Gb pre<d∧d<Gb pre+c):=by
  rw [P8,Mg (fun x hx => hp x (by simp [hx])) (by omega),Bool.false_or,Int.zero_add]
  show (decide (Gb pre<d∧d<Gb pre+c) || As post (Gb pre+c) d)=_
  rw [P7 (fun x hx => hp x (by simp [hx])) h2,Bool.or_false]
theorem Xr (S:Script l jobs) {i:Nat} (hi:i<jobs.length):∀ {n:Nat},As (jb jobs i).cuts 0 (dn l jobs i n)=true→(st l jobs n).runs=i
  | 0,hw => by
    rw [Z3 hi,P7 (S.cuts hi).1 (Int.le_refl _)] at hw
    cases hw
  | n+1,hw => by
    rw [Xm S]
    by_cases e:who l jobs n=i
    · exact e
    · have hd:=Ib S hi n
      rw [if_neg e] at hd
      rw [show dn l jobs i (n+1)=dn l jobs i n by omega] at hw
      have hr:=Xr S hi hw
      rcases Jb (l:=l) (jobs:=jobs) n with ⟨h1,h2,h3⟩ | ⟨hout,h2⟩
      · rw [h3];exact hr
      · rw [hr] at hout
        rcases hout with h4 | h4
        · omega
        · have h5:As (jb jobs i).cuts 0 (dn l jobs i n)=false:=h4
          rw [hw] at h5;cases h5
theorem At7 (S:Script l jobs):∀ {n i:Nat},(st l jobs n).runs=i→As (jb jobs i).cuts 0 (dn l jobs i n)=true→∃ σ,A59 l jobs i n σ
  | 0,i,h,_ => by
    have:(-1:Int)=i:=h
    omega
  | n+1,i,h,hw => by
    rw [Xm S] at h
    obtain ⟨hi,hlt⟩:=Um S h
    have hc:=(S.cuts hi).1
    have hd:=Ib S hi n
    rw [if_pos h] at hd
    rcases Jb (l:=l) (jobs:=jobs) n with ⟨h1,h2,h3⟩ | ⟨hout,h2⟩
    · rw [h] at h3
      rw [← h3] at h2
      obtain ⟨σ,q1,q2,q3,pre,c,post,q4,q5,q6,q7⟩:=At7 S h3.symm h2
      rw [q4] at hc hw
      rw [Z9 hc (by omega) (by omega),decide_eq_true_eq] at hw
      exact ⟨σ,by omega,fun k k1 k2 => by
        by_cases e:k=n
        · subst e;exact h
        · exact q2 k k1 (by omega),q3,pre,c,post,q4,q5,by omega,hw.2⟩
    · refine ⟨n,Nat.lt_succ_self n,fun k k1 k2 => by rw [show k=n by omega];exact h,fun k hk hr hdk => ?_,?_⟩
      · rw [h2] at h
        have:=M9 h k hk (by rw [Ac4 S];exact hr) hdk
        exact this
      · obtain ⟨pre,c,post,e1,e2,e3⟩:=Vm hw
        have hnot:As (jb jobs i).cuts 0 (dn l jobs i n)=false:=by
          cases hwn:As (jb jobs i).cuts 0 (dn l jobs i n) with
          | false => rfl
          | true =>
            have hr:=Xr S hi hwn
            rw [hr] at hout
            rcases hout with h4 | h4
            · omega
            · have h5:As (jb jobs i).cuts 0 (dn l jobs i n)=false:=h4
              rw [hwn] at h5;exact h5
        rw [e1] at hnot hc
        rw [Int.zero_add] at e2 e3
        by_cases e:Gb pre=dn l jobs i n
        · exact ⟨pre,c,post,e1,e,by omega,by omega⟩
        · rw [Z9 hc (by omega) (by omega),decide_eq_false_iff_not] at hnot
          omega
end Go.L.Try
namespace Go.L.Try
open Go Go.L
variable {l:List Ab} {jobs:List Job}
theorem Zu (n:Nat):st l jobs (n+1)=Ew l jobs (st l jobs n):=rfl
structure EndAt (l:List Ab) (jobs:List Job) (i e:Nat):Prop where
 pos:0<e
 run:who l jobs (e - 1)=i
 fin:dn l jobs i (e - 1)+1=(jb jobs i).work
theorem EndAt.lt (S:Script l jobs) {i e:Nat} (h:EndAt l jobs i e) (hi:i<jobs.length) (n:Nat):dn l jobs i n=(jb jobs i).work↔e≤n:=by
 have h1:=Ib S hi (e - 1)
 rw [if_pos h.run,show e - 1+1=e by have:=h.pos;omega] at h1
 have h2:=h.fin
 constructor
 ·intro hd
  rcases Nat.lt_or_ge n e with h3 | h3
  ·have:=Tw S hi (show n≤e - 1 by omega);omega
  ·exact h3
 ·intro hd
  have:=Tw S hi hd
  have:=(Q9 S hi n).2
  omega
theorem Aga (S:Script l jobs) {i:Nat} (hi:i<jobs.length):∀ n,(dn l jobs i n<(jb jobs i).work→atI (st l jobs n).ends (i:Int) = -1)∧(dn l jobs i n=(jb jobs i).work→∃ e:Nat,atI (st l jobs n).ends (i:Int)=e∧e≤n∧EndAt l jobs i e)
 | 0 => by
  have hw:=(S.ok.work _ (Dk hi)).1
  rw [Z3 hi]
  exact ⟨fun _ => Alj i hi,fun h => by omega⟩
 | n+1 => by
  obtain ⟨h1,h2⟩:=Aga S hi n
  have hv:=M0 S n
  have hd:=Ib S hi n
  rcases Kk S hv with ⟨h0,h⟩ | ⟨r,hr,hr2,hr3,h⟩
  ·have hw:who l jobs n = -1:=h0
   rw [hw,if_neg (by omega)] at hd
   rw [Zu,h]
   rw [Int.add_zero] at hd
   rw [hd]
   exact ⟨h1,fun hh => by obtain ⟨e,a,b,c⟩:=h2 hh;exact ⟨e,a,by omega,c⟩⟩
  ·have hw:who l jobs n=r:=hr2
   rw [Zu,h,Aqv (by rw [hv.elen];exact hr)]
   by_cases e:i=r
   ·subst e
    rw [hw,if_pos rfl] at hd
    have hdd:atI (st l jobs n).done (i:Int)=dn l jobs i n:=rfl
    by_cases hf:atI (st l jobs n).done (i:Int)+1=(jb jobs i).work
    ·rw [if_pos ⟨rfl,hf⟩]
     refine ⟨fun hh => by omega,fun _ => ⟨n+1,by rw [Ac4 S];omega,Nat.le_refl _,by omega,by rw [Nat.add_sub_cancel];exact hw,by rw [Nat.add_sub_cancel];omega⟩⟩
    ·rw [if_neg (fun hh => hf hh.2)]
     exact ⟨fun _ => h1 (by omega),fun hh => by omega⟩
   ·rw [if_neg (fun hh => e hh.1)]
    rw [hw,if_neg (by omega),Int.add_zero] at hd
    rw [hd]
    exact ⟨h1,fun hh => by obtain ⟨x,a,b,c⟩:=h2 hh;exact ⟨x,a,by omega,c⟩⟩
theorem A1j (S:Script l jobs) {e:Int} (he:e<0):∃ T,Bt l jobs e (Fm jobs.length)=st l jobs T∧∀ i,i<jobs.length→dn l jobs i T=(jb jobs i).work:=by
 obtain ⟨h1,⟨T,h2⟩,h3⟩:=Un (e:=e) S.ok (fun s => ∃ n,s=st l jobs n) (fun s _ _ ⟨n,hn⟩ => ⟨n+1,by rw [hn];rfl⟩) (Qh jobs S.ok.work) ⟨0,rfl⟩
 refine ⟨T,h2,fun i hi => ?_⟩
 have hl:¬ 0<(Bt l jobs e (Fm jobs.length)).left:=fun h => h3 ⟨h,.inl he⟩
 have hd:=(Q9 S hi T).2
 rcases Int.lt_or_le (dn l jobs i T) (jb jobs i).work with h4 | h4
 ·exfalso
  apply hl
  refine So h1 hi ?_
  rw [h2];exact h4
 ·omega
theorem Atm (S:Script l jobs) {e:Int}:∃ T,Bt l jobs e (Fm jobs.length)=st l jobs T∧(¬ Qg e (st l jobs T))∧(0≤e→(T:Int)≤e):=by
 obtain ⟨h1,⟨T,h2,h4⟩,h3⟩:=Un (e:=e) S.ok (fun s => ∃ n,s=st l jobs n∧(0≤e→(n:Int)≤e)) (fun s _ ho ⟨n,hn,hle⟩ => ⟨n+1,by rw [hn];rfl,fun h0 => by have:=ho.2;rw [hn,Ac4 S] at this;omega⟩) (Qh jobs S.ok.work) ⟨0,rfl,fun h => h⟩
 exact ⟨T,h2,by rw [← h2];exact h3,h4⟩
def Aao (L:List Span) (k:Int):Int:=L.foldr (fun x a => (if x.job=k then x.to' - x.from' else 0)+a) 0
theorem Xj (k:Int):Aao [] k=0:=rfl
theorem M3 (x:Span) (L:List Span) (k:Int):Aao (x :: L) k=(if x.job=k then x.to' - x.from' else 0)+Aao L k:=rfl
theorem Xk (A B:List Span) (k:Int):Aao (A++B) k=Aao A k+Aao B k:=by
 induction A with
 | nil => simp [Xj]
 | cons x r ih => rw [List.cons_append,M3,M3,ih];omega
theorem Ary {α : Type} [Inhabited α] {L:List α} (h:0<(L.length:Int)):∃ A x,L=A++[x]∧atI L ((L.length:Int) - 1)=x∧∀ y,L.set ((L.length:Int) - 1).toNat y=A++[y]:=by
 rcases List.eq_nil_or_concat L with e | ⟨A,x,e⟩
 ·rw [e] at h;simp at h
 ·rw [List.concat_eq_append] at e
  subst e
  refine ⟨A,x,rfl,Acs A x,fun y => ?_⟩
  rw [LA,List.length_singleton,show (((A.length+1:Nat):Int) - 1).toNat=A.length by omega,List.set_append_right _ _ (Nat.le_refl _),Nat.sub_self];rfl
theorem Ado (L:List Span) (r t:Int):(∃ A x,L=A++[x]∧x.job=r∧x.to'=t∧Gj L r t=A++[{ x with to':=x.to'+1 }])∨((∀ A x,L=A++[x]→¬ (x.job=r∧x.to'=t))∧Gj L r t=L++[⟨r,t,t+1⟩]):=by
 unfold Gj
 by_cases hc:0<(L.length:Int)∧(atI L ((L.length:Int) - 1)).job=r∧(atI L ((L.length:Int) - 1)).to'=t
 ·left
  rw [if_pos hc]
  obtain ⟨A,x,h1,h2,h3⟩:=Ary hc.1
  rw [h2] at hc ⊢
  exact ⟨A,x,h1,hc.2.1,hc.2.2,h3 _⟩
 ·right
  rw [if_neg hc]
  refine ⟨fun A x h => ?_,rfl⟩
  rintro ⟨h1,h2⟩
  apply hc
  subst h
  rw [Acs]
  exact ⟨by simp,h1,h2⟩
structure A58 (l:List Ab) (jobs:List Job) (n:Nat) (L:List Span):Prop where
 run:∀ x∈L,∃ j a b:Nat,x=⟨j,a,b⟩∧a<b∧b≤n∧∀ k,a≤k→k<b→who l jobs k=j
 sort:L.Pairwise fun x y => x.to'≤y.from'
 apart:L.Pairwise fun x y => x.to'=y.from'→x.job≠y.job
 all:∀ k:Nat,k<n→0≤who l jobs k→∃ x∈L,x.from'≤k∧(k:Int)<x.to'
 sum:∀ k:Nat,k<jobs.length→Aao L k=dn l jobs k n
theorem A1n (S:Script l jobs):∀ n,A58 l jobs n (st l jobs n).L
 | 0 => ⟨(fun x hx => by cases hx),List.Pairwise.nil,List.Pairwise.nil,(fun k hk => by omega),fun k hk => by rw [Z3 hk];rfl⟩
 | n+1 => by
  have ih:=A1n S n
  have hv:=M0 S n
  rcases Kk S hv with ⟨h0,h⟩ | ⟨r,hr,hr2,hr3,h⟩
  ·have hw:who l jobs n = -1:=h0
   rw [Zu,h]
   refine ⟨fun x hx => ?_,ih.sort,ih.apart,fun k hk hk0 => ?_,fun k hk => ?_⟩
   ·obtain ⟨j,a,b,e,h1,h2,h3⟩:=ih.run x hx
    exact ⟨j,a,b,e,h1,by omega,h3⟩
   ·by_cases e:k=n
    ·subst e;omega
    ·exact ih.all k (by omega) hk0
   ·rw [Ib S hk,hw,if_neg (by omega),Int.add_zero];exact ih.sum k hk
  ·have hw:who l jobs n=r:=hr2
   rw [Zu,h]
   have eL:(M6 jobs (st l jobs n) r).L=Gj (st l jobs n).L r n:=by show Gj _ _ (st l jobs n).t=_;rw [Ac4 S]
   rw [eL]
   generalize (st l jobs n).L=L at ih ⊢
   have hle:∀ x∈L,x.to'≤n:=fun x hx => by
    obtain ⟨j,a,b,e,h1,h2,h3⟩:=ih.run x hx
    rw [e];dsimp only;omega
   rcases Ado L r n with ⟨A,x,hL,hxj,hxt,he⟩ | ⟨hno,he⟩
   ·rw [he]
    subst hL
    obtain ⟨j,a,b,e,h1,h2,h3⟩:=ih.run x (by simp)
    subst e
    dsimp only at hxj hxt
    have hb:b=n:=by omega
    subst hb
    have hj:j=r:=by omega
    subst hj
    have hs:=List.pairwise_append.1 ih.sort
    have hp:=List.pairwise_append.1 ih.apart
    refine ⟨fun y hy => ?_,?_,?_,fun k hk hk0 => ?_,fun k hk => ?_⟩
    ·rcases List.mem_append.1 hy with hy | hy
     ·obtain ⟨j',a',b',e',h1',h2',h3'⟩:=ih.run y (by simp [hy])
      exact ⟨j',a',b',e',h1',by omega,h3'⟩
     ·rw [List.mem_singleton.1 hy]
      refine ⟨j,a,b+1,by simp,by omega,Nat.le_refl _,fun k k1 k2 => ?_⟩
      by_cases e:k=b
      ·rw [e];exact hw
      ·exact h3 k k1 (by omega)
    ·refine List.pairwise_append.2 ⟨hs.1,List.pairwise_singleton _ _,fun y hy z hz => ?_⟩
     rw [List.mem_singleton.1 hz]
     exact hs.2.2 y hy ⟨j,a,b⟩ (List.mem_singleton.2 rfl)
    ·refine List.pairwise_append.2 ⟨hp.1,List.pairwise_singleton _ _,fun y hy z hz => ?_⟩
     rw [List.mem_singleton.1 hz]
     exact hp.2.2 y hy ⟨j,a,b⟩ (List.mem_singleton.2 rfl)
    ·by_cases e:k=b
     ·subst e
      exact ⟨_,List.mem_append_right _ (List.mem_singleton.2 rfl),by dsimp only;omega,by dsimp only;omega⟩
     ·obtain ⟨y,hy,q1,q2⟩:=ih.all k (by omega) hk0
      rcases List.mem_append.1 hy with hy | hy
      ·exact ⟨y,List.mem_append_left _ hy,q1,q2⟩
      ·rw [List.mem_singleton.1 hy] at q1 q2
       exact ⟨_,List.mem_append_right _ (List.mem_singleton.2 rfl),q1,by dsimp only at q2 ⊢;omega⟩
    ·rw [Ib S hk,← ih.sum k hk,Xk,Xk,M3,M3,Xj,hw]
     dsimp only
     by_cases e:(j:Int)=k
     ·rw [if_pos e,if_pos e,if_pos (by omega)];omega
     ·rw [if_neg e,if_neg e,if_neg (by omega)];omega
   ·rw [he]
    refine ⟨fun y hy => ?_,?_,?_,fun k hk hk0 => ?_,fun k hk => ?_⟩
    ·rcases List.mem_append.1 hy with hy | hy
     ·obtain ⟨j',a',b',e',h1',h2',h3'⟩:=ih.run y hy
      exact ⟨j',a',b',e',h1',by omega,h3'⟩
     ·rw [List.mem_singleton.1 hy]
      exact ⟨r,n,n+1,by simp,by omega,Nat.le_refl _,fun k k1 k2 => by rw [show k=n by omega];exact hw⟩
    ·refine List.pairwise_append.2 ⟨ih.sort,List.pairwise_singleton _ _,fun y hy z hz => ?_⟩
     rw [List.mem_singleton.1 hz]
     exact hle y hy
    ·refine List.pairwise_append.2 ⟨ih.apart,List.pairwise_singleton _ _,fun y hy z hz => ?_⟩
     rw [List.mem_singleton.1 hz]
     dsimp only
     intro h1 h2
     rcases List.eq_nil_or_concat L with e | ⟨A,x,e⟩
     ·rw [e] at hy;cases hy
     ·rw [List.concat_eq_append] at e
      have hs:=ih.sort
      rw [e] at hy hs
      rcases List.mem_append.1 hy with hy | hy
      ·have h3:=(List.pairwise_append.1 hs).2.2 y hy x (List.mem_singleton.2 rfl)
       obtain ⟨j',a',b',e',h1',h2',h3'⟩:=ih.run x (by rw [e];simp)
       have h4:=hle x (by rw [e];simp)
       rw [e'] at h3 h4
       dsimp only at h3 h4
       omega
      ·rw [List.mem_singleton.1 hy] at h1 h2
       exact hno A x e ⟨h2,h1⟩
    ·by_cases e:k=n
     ·subst e
      exact ⟨_,List.mem_append_right _ (List.mem_singleton.2 rfl),by dsimp only;omega,by dsimp only;omega⟩
     ·obtain ⟨y,hy,q1,q2⟩:=ih.all k (by omega) hk0
      exact ⟨y,List.mem_append_left _ hy,q1,q2⟩
    ·rw [Ib S hk,← ih.sum k hk,Xk,M3,Xj,hw]
     dsimp only
     by_cases e:(r:Int)=k
     ·rw [if_pos e,if_pos e];omega
     ·rw [if_neg e,if_neg e];omega
structure A6a (l:List Ab) (jobs:List Job) (R:RS) (T:Nat):Prop where
 is:R=st l jobs T
 done:∀ i,i<jobs.length→dn l jobs i T=(jb jobs i).work
 sp:A58 l jobs T R.L
 elen:R.ends.length=jobs.length
 ends:∀ i,i<jobs.length→∃ e:Nat,atI R.ends (i:Int)=e∧e≤T∧EndAt l jobs i e
theorem A3g (S:Script l jobs) {e:Int} (he:e<0):∃ T,A6a l jobs (Bt l jobs e (Fm jobs.length)) T:=by
 obtain ⟨T,h1,h2⟩:=A1j S he
 rw [h1]
 exact ⟨T,rfl,h2,A1n S T,(M0 S T).elen,fun i hi => (Aga S hi T).2 (h2 i hi)⟩
end Go.L.Try
namespace Go.L.Try
open Go Go.L
variable {l:List Ab} {jobs:List Job} {R:RS} {T:Nat}
theorem Apn (S:Script l jobs) {i:Nat} (hi:i<jobs.length):∀ n:Nat,dn l jobs i n≤max 0 (n - (jb jobs i).release)
 | 0 => by rw [Z3 hi];omega
 | n+1 => by
  have ih:=Apn S hi n
  have hd:=Ib S hi n
  by_cases e:who l jobs n=i
  ·have:=Afd S e
   rw [if_pos e] at hd;omega
  ·rw [if_neg e] at hd;omega
theorem EndAt.late (S:Script l jobs) {i e:Nat} (h:EndAt l jobs i e) (hi:i<jobs.length):(jb jobs i).release+(jb jobs i).work≤e:=by
 have h1:=(h.lt S hi e).2 (Nat.le_refl _)
 have h2:=Apn S hi e
 have:=(S.ok.work _ (Dk hi)).1
 omega
theorem A4u (S:Script l jobs) {q:Int→Int} (hq:∀ i:Nat,i<jobs.length→∀ c∈(jb jobs i).cuts,c≤q i) {n i:Nat} (h:who l jobs n=i):∃ σ,σ ≤ n∧(∀ k,σ ≤ k→k≤n→who l jobs k=i)∧(n = σ ∨ ((n - σ : Nat):Int)<q i) ∧
  ∀ k,k<jobs.length→(jb jobs k).release ≤ σ → dn l jobs k σ < (jb jobs k).work→(atI l (jb jobs i).task).P≤(atI l (jb jobs k).task).P∧((atI l (jb jobs i).task).P=(atI l (jb jobs k).task).P→i≤k):=by
 rcases Jb (l:=l) (jobs:=jobs) n with ⟨h1,h2,h3⟩ | ⟨_,h2⟩
 ·rw [h] at h3
  rw [← h3] at h2
  obtain ⟨σ,s1,s2,s3,pre,c,post,e1,e2,e3,e4⟩:=At7 S h3.symm h2
  refine ⟨σ,by omega,fun k k1 k2 => ?_,.inr ?_,s3⟩
  ·by_cases e:k=n
   ·rw [e];exact h
   ·exact s2 k k1 (by omega)
  ·have:=hq i (Um S h).1 c (by rw [e1];simp)
   omega
 ·refine ⟨n,Nat.le_refl _,fun k k1 k2 => by rw [show k=n by omega];exact h,.inl rfl,fun k hk hr hd => ?_⟩
  rw [h2] at h
  exact M9 h k hk (by rw [Ac4 S];exact hr) hd
end Go.L.Try
namespace Go.L.Try
open Go Go.L
variable {l l':List Ab} {jobs jobs':List Job}
def Pv (l:List Ab) (jobs:List Job) (i n:Nat):Bool:=As (jb jobs i).cuts 0 (dn l jobs i n)
def Ax9 (l:List Ab) (jobs:List Job) (i n:Nat):Prop:=i<jobs.length∧(jb jobs i).release≤n∧dn l jobs i n<(jb jobs i).work∧∀ k:Nat,k<jobs.length→(jb jobs k).release≤n→dn l jobs k n<(jb jobs k).work→(atI l (jb jobs i).task).P<(atI l (jb jobs k).task).P∨((atI l (jb jobs i).task).P≤(atI l (jb jobs k).task).P∧i≤k)
theorem Atc (S:Script l jobs) {i n:Nat} (hi:i<jobs.length) (h:Pv l jobs i n=true):who l jobs n=i:=by
 have h1:=Xr S hi h
 rcases Jb (l:=l) (jobs:=jobs) n with ⟨_,_,h3⟩ | ⟨hout,_⟩
 ·rw [h3];exact h1
 ·rw [h1] at hout
  rcases hout with h4 | h4
  ·omega
  ·have h5:Pv l jobs i n=false:=h4
   rw [h] at h5;cases h5
theorem Agz (S:Script l jobs) {n:Nat} (h:∀ i,i<jobs.length→Pv l jobs i n=false):who l jobs n=Cf l jobs (st l jobs n).done n jobs.length:=by
 rcases Jb (l:=l) (jobs:=jobs) n with ⟨h1,h2,h3⟩ | ⟨_,h2⟩
 ·obtain ⟨r,hr⟩:∃ r:Nat,(st l jobs n).runs=r:=⟨(st l jobs n).runs.toNat,by omega⟩
  have hlt:=(M0 S n).runs.2
  rw [hr] at h2 hlt
  have:=h r (by omega)
  unfold Pv at this
  have h2':As (jb jobs r).cuts 0 (dn l jobs r n)=true:=h2
  rw [this] at h2';cases h2'
 ·rw [h2,Ac4 S]
theorem Atd (S:Script l jobs) {i n:Nat} (h:∀ i,i<jobs.length→Pv l jobs i n=false) (hb:Ax9 l jobs i n):who l jobs n=i:=by
 rw [Agz S h]
 exact Aa5 ⟨hb.2.1,hb.2.2.1⟩ hb.1 hb.2.2.2
theorem A1f (S:Script l jobs) {i n:Nat} (h:∀ i,i<jobs.length→Pv l jobs i n=false) (hw:who l jobs n=i):Ax9 l jobs i n:=by
 obtain ⟨hi,hd⟩:=Um S hw
 refine ⟨hi,Afd S hw,hd,fun k hk hr hdk => ?_⟩
 have h1:=hw
 rw [Agz S h] at h1
 have h2:=M9 h1 k hk hr hdk
 by_cases e:(atI l (jb jobs i).task).P=(atI l (jb jobs k).task).P
 ·exact .inr ⟨h2.1,h2.2 e⟩
 ·left;omega
def Awo (k:Int) (j:Job):Job:={ j with arrive:=j.arrive+k,release:=j.release+k }
def A3y (k:Int) (x:Span):Span:=⟨x.job,x.from'+k,x.to'+k⟩
structure A6e (l:List Ab) (jobs:List Job) (k n:Nat):Prop where
 dn:∀ i,i<jobs.length→Try.dn l (jobs.map (Awo k)) i (n+k)=Try.dn l jobs i n
 L:(st l (jobs.map (Awo k)) (n+k)).L=((st l jobs n).L).map (A3y k)
end Go.L.Try
namespace Go.L.Try
open Go Go.L
variable {l l':List Ab} {jobs jobs':List Job}
def Ev (f:Nat→Int):Nat→Int
 | 0 => 0
 | n+1 => Ev f n+f n
theorem Vq {f g:Nat→Int}:∀ {m:Nat},(∀ i,i<m→f i≤g i)→Ev f m≤Ev g m
 | 0,_ => Int.le_refl _
 | m+1,h => by
  have h1:=Vq (m:=m) fun i hi => h i (by omega)
  have h2:=h m (by omega)
  show Ev f m+f m≤Ev g m+g m
  omega
theorem Tn {f g:Nat→Int}:∀ {m:Nat},(∀ i,i<m→f i=g i)→Ev f m=Ev g m
 | 0,_ => rfl
 | m+1,h => by
  show Ev f m+f m=Ev g m+g m
  rw [Tn (m:=m) fun i hi => h i (by omega),h m (by omega)]
variable {R R':RS} {T T':Nat}
end Go.L.Try
namespace Go.L.Try
open Go Go.L
theorem A4f {l:List Ab} {jobs:List Job} (hb:legalB l jobs=true) (i:Nat) (hi:i<jobs.length):∀ c∈(jb jobs i).cuts,c≤(atI l (jb jobs i).task).Q:=by
 have h3:=(Pr hb hi).2.2
 have key:∀ {q:Int} {cs:List Int} {w:Int},Dl q cs w=true→∀ c∈cs,c≤q:=by
  intro q cs
  induction cs with
  | nil => intro w _ c hc;cases hc
  | cons x r ih =>
   intro w h c hc
   simp only [Dl,Bool.and_eq_true,decide_eq_true_eq] at h
   rcases List.mem_cons.1 hc with rfl | hc
   ·exact h.1.2.1
   ·exact ih h.2 c hc
 exact key h3
theorem RdJ.open_ {h:Aa} {v:Value} {jobs:List Job} (r:RdJ h v jobs):∃ jl:List (NV Job),jobs=jl.map NV.j∧Rd 5 (Ia hdJ) h v jl:=by
 obtain ⟨jl,h1,h2,_⟩:=r.is
 exact ⟨jl,h1.symm,h2⟩
end Go.L.Try
namespace Go.L.Try
open Go Go.L
variable {l:List Ab} {jobs:List Job} {i:Nat}
theorem P9 {f g:Nat→Int} {r:Nat} {c:Int}:∀ {m:Nat},r<m→(∀ h,h<m→g h=f h+if h=r then c else 0)→Ev g m=Ev f m+c
 | 0,h,_ => by omega
 | m+1,h,he => by
  show Ev g m+g m=Ev f m+f m+c
  have h1:=he m (by omega)
  by_cases e:m=r
  ·subst e
   rw [if_pos rfl] at h1
   rw [Tn (f:=g) (g:=f) fun i hi => by have:=he i (by omega);rw [if_neg (by omega)] at this;omega]
   omega
  ·rw [if_neg e] at h1
   rw [P9 (m:=m) (by omega) fun i hi => he i (by omega)];omega
theorem Ym {f g:Nat→Int} {r:Nat}:∀ {m:Nat},r<m→(∀ h,h<m→g h≤f h)→g r+1≤f r→Ev g m+1≤Ev f m
 | 0,h,_,_ => by omega
 | m+1,h,he,hr => by
  show Ev g m+g m+1≤Ev f m+f m
  have h1:=he m (by omega)
  by_cases e:m=r
  ·subst e
   have:=Vq (f:=g) (g:=f) (m:=m) fun i hi => he i (by omega)
   omega
  ·have:=Ym (m:=m) (by omega) (fun i hi => he i (by omega)) hr
   omega
def lev (l:List Ab) (jobs:List Job) (i m:Nat):Prop:=(atI l (jb jobs m).task).P≤(atI l (i:Int)).P
instance (l:List Ab) (jobs:List Job) (i m:Nat):Decidable (lev l jobs i m):=by unfold lev;infer_instance
def quiet (l:List Ab) (jobs:List Job) (i t:Nat):Prop:=∀ m,m<jobs.length→lev l jobs i m→(jb jobs m).release<t→dn l jobs m t=(jb jobs m).work
theorem Alo (S:Script l jobs):quiet l jobs i 0:=fun m hm _ hr => by
 have:=(S.ok.rel _ (Dk hm)).1
 have hr':(jb jobs m).release<((0:Nat):Int):=hr
 omega
theorem Ad7 {t:Nat} (h:¬ quiet l jobs i t) (S:Script l jobs):∃ m,m<jobs.length∧lev l jobs i m∧(jb jobs m).release<t∧dn l jobs m t<(jb jobs m).work:=by
 apply Classical.byContradiction
 intro hn
 apply h
 intro m hm hl hr
 have h1:=(Q9 S hm t).2
 have h2:¬ dn l jobs m t<(jb jobs m).work:=fun hd => hn ⟨m,hm,hl,hr,hd⟩
 omega
theorem Abt (S:Script l jobs):∀ R:Nat,∃ t0,t0≤R∧quiet l jobs i t0∧∀ t,t0<t→t≤R→¬ quiet l jobs i t
 | 0 => ⟨0,Nat.le_refl _,Alo S,fun t h1 h2 => by omega⟩
 | R+1 => by
  by_cases h:quiet l jobs i (R+1)
  ·exact ⟨R+1,Nat.le_refl _,h,fun t h1 h2 => by omega⟩
  ·obtain ⟨t0,h1,h2,h3⟩:=Abt S R
   refine ⟨t0,by omega,h2,fun t h4 h5 => ?_⟩
   by_cases e:t=R+1
   ·rw [e];exact h
   ·exact h3 t h4 (by omega)
def wrk (l:List Ab) (jobs:List Job) (i t0 n:Nat):Int:=Ev (fun m => if lev l jobs i m then dn l jobs m (t0+n) - dn l jobs m t0 else 0) jobs.length
open Classical in
theorem As9 (S:Script l jobs) (t0 n:Nat):wrk l jobs i t0 (n+1)=wrk l jobs i t0 n+if ∃ r:Nat,who l jobs (t0+n)=r∧lev l jobs i r then 1 else 0:=by
 unfold wrk
 have key:∀ m,m<jobs.length→dn l jobs m (t0+(n+1))=dn l jobs m (t0+n)+if who l jobs (t0+n)=m then 1 else 0:=fun m hm => by
  rw [← Nat.add_assoc];exact Ib S hm _
 by_cases h:∃ r:Nat,who l jobs (t0+n)=r∧lev l jobs i r
 ·rw [if_pos h]
  obtain ⟨r,h1,h2⟩:=h
  refine P9 (r:=r) (Um S h1).1 fun m hm => ?_
  rw [key m hm,h1]
  by_cases e:m=r
  ·subst e;rw [if_pos h2,if_pos h2,if_pos rfl,if_pos rfl];omega
  ·have e2:¬ ((r:Int)=(m:Int)):=by omega
   rw [if_neg e,if_neg e2];split<;>omega
 ·rw [if_neg h,Int.add_zero]
  refine Tn fun m hm => ?_
  rw [key m hm]
  split
  ·rename_i hl
   rw [if_neg fun e => h ⟨m,e,hl⟩];omega
  ·rfl
theorem Aab (hb:legalB l jobs=true) {B:Int} (hB:0≤B) (hq:∀ m,m<jobs.length→¬ lev l jobs i m→(atI l (jb jobs m).task).Q - 1≤B) {t0:Nat}:∀ n:Nat,(∀ t,t0<t→t≤t0+n→¬ quiet l jobs i t)→(n:Int)≤wrk l jobs i t0 n+min (n:Int) B
 | 0,_ => by
  have:wrk l jobs i t0 0=0:=by
   unfold wrk
   have h0:∀ m,Ev (fun m => if lev l jobs i m then dn l jobs m (t0+0) - dn l jobs m t0 else 0) m=0:=by
    intro m
    induction m with
    | zero => rfl
    | succ m ih => show _+_=(0:Int);rw [ih,Nat.add_zero];dsimp only;split<;>omega
   exact h0 _
  rw [this];omega
 | n+1,hn => by
  have S:=Mu hb
  have ih:=Aab hb hB hq (t0:=t0) n fun t h1 h2 => hn t h1 (by omega)
  have hs:=As9 (i:=i) S t0 n
  by_cases h:∃ r:Nat,who l jobs (t0+n)=r∧lev l jobs i r
  ·rw [if_pos h] at hs;omega
  ·rw [if_neg h] at hs
   have pend:∀ t,t0≤t→t≤t0+n→∃ m,m<jobs.length∧lev l jobs i m∧(jb jobs m).release≤t∧dn l jobs m t<(jb jobs m).work:=fun t h1 h2 => by
    obtain ⟨m,m1,m2,m3,m4⟩:=Ad7 (hn (t+1) (by omega) (by omega)) S
    have:=Tw S m1 (show t≤t+1 by omega)
    exact ⟨m,m1,m2,by omega,by omega⟩
   obtain ⟨m,m1,m2,m3,m4⟩:=pend (t0+n) (by omega) (Nat.le_refl _)
   have hw:0≤who l jobs (t0+n):=by
    rcases Int.lt_or_le (who l jobs (t0+n)) 0 with h1 | h1
    ·have:=Ag0 S h1 m1 m3;omega
    ·exact h1
   obtain ⟨r,hr⟩:∃ r:Nat,who l jobs (t0+n)=r:=⟨(who l jobs (t0+n)).toNat,by omega⟩
   have hnl:¬ lev l jobs i r:=fun hl => h ⟨r,hr,hl⟩
   have hrl:=(Um S hr).1
   obtain ⟨σ,s1,s2,s3,s4⟩:=A4u S (q:=fun j => (atI l (atI jobs j).task).Q) (fun j hj c hc => A4f hb j hj c hc) hr
   have hσ : σ < t0:=by
    rcases Nat.lt_or_ge σ t0 with h1 | h1
    ·exact h1
    ·exfalso
     obtain ⟨k,k1,k2,k3,k4⟩:=pend σ h1 s1
     have h5:=(s4 k k1 k3 k4).1
     unfold lev at k2 hnl
     omega
   have h6:=hq r hrl hnl
   have h7:((t0+n - σ : Nat):Int)<(atI l (jb jobs r).task).Q:=by
    rcases s3 with h8 | h8
    ·omega
    ·exact h8
   omega
def inW (jobs:List Job) (h t0 w m:Nat):Prop:=(jb jobs m).task=h∧(t0:Int)≤(jb jobs m).release∧(jb jobs m).release<((t0+w:Nat):Int)
instance (jobs:List Job) (h t0 w m:Nat):Decidable (inW jobs h t0 w m):=by unfold inW;infer_instance
def Qr (jobs:List Job) (h t0 w:Nat):Nat→Int
 | 0 => 0
 | m+1 => Qr jobs h t0 w m+if inW jobs h t0 w m then 1 else 0
theorem Aet (jobs:List Job) (h t0 w m:Nat):Qr jobs h t0 w (m+1)=Qr jobs h t0 w m+if inW jobs h t0 w m then 1 else 0:=rfl
theorem Apx (hb:legalB l jobs=true) (h t0 w:Nat):∀ M,M≤jobs.length→0≤Qr jobs h t0 w M∧(Qr jobs h t0 w M=0∨∃ m,m<M∧inW jobs h t0 w m∧(t0:Int) - (atI l (h:Int)).J+(Qr jobs h t0 w M - 1) * (atI l (h:Int)).T≤(jb jobs m).arrive)
 | 0,_ => ⟨Int.le_refl _,.inl rfl⟩
 | M+1,hM => by
  obtain ⟨h0,ih⟩:=Apx hb h t0 w M (by omega)
  have hj:=Ni hb (show M<jobs.length by omega)
  unfold Qr
  by_cases hc:inW jobs h t0 w M
  ·rw [if_pos hc]
   refine ⟨by omega,.inr ⟨M,by omega,hc,?_⟩⟩
   have hrel:=hj.release.2
   rw [hc.1] at hrel
   rcases ih with ih | ⟨m,m1,m2,m3⟩
   ·rw [ih]
    have:=hc.2.1
    simp only [Int.zero_add,Int.sub_self,Int.zero_mul]
    omega
   ·have h5:=Ae7 hb M m1 (by omega) (by show (jb jobs m).task=(jb jobs M).task;rw [m2.1,hc.1])
    have h6:(jb jobs m).arrive+(atI l (jb jobs M).task).T≤(jb jobs M).arrive:=h5
    rw [hc.1] at h6
    have e:(Qr jobs h t0 w M+1 - 1) * (atI l (h:Int)).T=(Qr jobs h t0 w M - 1) * (atI l (h:Int)).T+(atI l (h:Int)).T:=by
     rw [Int.add_sub_cancel,Int.sub_mul,Int.one_mul];omega
    rw [e];omega
  ·rw [if_neg hc,Int.add_zero]
   refine ⟨h0,?_⟩
   rcases ih with ih | ⟨m,m1,m2,m3⟩
   ·exact .inl ih
   ·exact .inr ⟨m,by omega,m2,m3⟩
theorem A07 (hb:legalB l jobs=true) {h t0 w:Nat} (hT:1≤(atI l (h:Int)).T) (hJ:0≤(atI l (h:Int)).J) (hw:1≤w):0≤Qr jobs h t0 w jobs.length∧(Qr jobs h t0 w jobs.length - 1) * (atI l (h:Int)).T<w+(atI l (h:Int)).J:=by
 obtain ⟨h0,h1⟩:=Apx hb h t0 w jobs.length (Nat.le_refl _)
 refine ⟨h0,?_⟩
 rcases h1 with h1 | ⟨m,m1,m2,m3⟩
 ·rw [h1]
  have:(0 - 1:Int) * (atI l (h:Int)).T = -(atI l (h:Int)).T:=by rw [Int.zero_sub,Int.neg_mul,Int.one_mul]
  rw [this];omega
 ·have hj:=(Ni hb m1).release.1
  have:=m2.2.2
  omega
def Ayi (l:List Ab) (i:Nat) (w:Int):Nat→Int:=Ev fun h => if (atI l (h:Int)).P<(atI l (i:Int)).P then ((w+(atI l (h:Int)).J+(atI l (h:Int)).T - 1) / (atI l (h:Int)).T) * (atI l (h:Int)).C else 0
def Af7 (l:List Ab) (jobs:List Job) (i t0 w M:Nat) (h:Nat):Int:=if (atI l (h:Int)).P≤(atI l (i:Int)).P then Qr jobs h t0 w M * (atI l (h:Int)).C else 0
theorem Aw1 (hb:legalB l jobs=true) (t0 w:Nat):∀ M,M≤jobs.length→Ev (fun m => if lev l jobs i m∧(t0:Int)≤(jb jobs m).release∧(jb jobs m).release<((t0+w:Nat):Int) then (jb jobs m).work else 0) M≤Ev (Af7 l jobs i t0 w M) l.length
 | 0,_ => by
  have:Ev (Af7 l jobs i t0 w 0) l.length=Ev (fun _ => 0) l.length:=Tn fun h _ => by
   unfold Af7 Qr;split<;>simp
  rw [this]
  have h0:∀ n,Ev (fun _ => (0:Int)) n=0:=fun n => by
   induction n with
   | zero => rfl
   | succ n ih => show Ev (fun _ => (0:Int)) n+0=0;rw [ih];rfl
  rw [h0];exact Int.le_refl _
 | M+1,hM => by
  have ih:=Aw1 hb t0 w M (by omega)
  have hj:=Ni hb (show M<jobs.length by omega)
  obtain ⟨r,hr⟩:∃ r:Nat,(jb jobs M).task=r:=⟨(jb jobs M).task.toNat,by have:=hj.task;omega⟩
  have hrl:r<l.length:=by have:=hj.task;omega
  have hC:=hj.work.2
  rw [hr] at hC
  show _+(if _ then _ else _)≤_
  by_cases hc:lev l jobs i M∧(t0:Int)≤(jb jobs M).release∧(jb jobs M).release<((t0+w:Nat):Int)
  ·rw [if_pos hc]
   have hin:inW jobs r t0 w M:=⟨hr,hc.2⟩
   have e:Ev (Af7 l jobs i t0 w (M+1)) l.length=Ev (Af7 l jobs i t0 w M) l.length+(atI l (r:Int)).C:=P9 hrl fun h hh => by
    unfold Af7
    by_cases eh:h=r
    ·subst eh
     have hl:(atI l (h:Int)).P≤(atI l (i:Int)).P:=by have:=hc.1;unfold lev at this;rw [hr] at this;exact this
     rw [if_pos hl,if_pos hl,if_pos rfl]
     rw [Aet,if_pos hin,Int.add_mul,Int.one_mul]
    ·rw [if_neg eh,Int.add_zero]
     have:¬ inW jobs h t0 w M:=fun hi => eh (by have:=hi.1;omega)
     rw [Aet,if_neg this,Int.add_zero]
   rw [e];omega
  ·rw [if_neg hc,Int.add_zero]
   refine Int.le_trans ih (Vq fun h hh => ?_)
   unfold Af7
   split
   ·rename_i hP
    have hC0:0≤(atI l (h:Int)).C:=by
     have:=(Ng hb).2.2
     obtain ⟨_,_,hok⟩:=Bc this
     have:=(hok _ (Aj (l:=l) (i:=(h:Int)) (by omega) (by omega))).1
     simp only [Ap] at this;omega
    have:Qr jobs h t0 w M≤Qr jobs h t0 w (M+1):=by
     show _≤_+(if _ then _ else _)
     split<;>omega
    exact Int.mul_le_mul_of_nonneg_right this hC0
   ·exact Int.le_refl _
theorem A2v (hb:legalB l jobs=true) (hi:i<l.length) {B:Int} {w:Nat} (hB:0≤B) (hq:∀ m,m<jobs.length→¬ lev l jobs i m→(atI l (jb jobs m).task).Q - 1≤B) (hw1:1≤w) (hwT:(w:Int)+(atI l (i:Int)).J≤(atI l (i:Int)).T) (hneed:(atI l (i:Int)).C+B+Ayi l i w l.length≤w) {k e:Nat} (hk:k<jobs.length) (ht:(jb jobs k).task=i) (he:EndAt l jobs k e):(e:Int)≤(jb jobs k).release+w:=by
 have S:=Mu hb
 have hr0:=(S.ok.rel _ (Dk hk)).1
 obtain ⟨R,hR⟩:∃ R:Nat,(jb jobs k).release=R:=⟨(jb jobs k).release.toNat,by omega⟩
 have hlk:lev l jobs i k:=by unfold lev;rw [ht];exact Int.le_refl _
 obtain ⟨t0,h1,h2,h3⟩:=Abt (i:=i) S R
 by_cases hex:∃ t,t0<t∧t≤t0+w∧quiet l jobs i t
 ·obtain ⟨t,a1,a2,a3⟩:=hex
  have hRt:R<t:=by
   rcases Nat.lt_or_ge R t with h | h
   ·exact h
   ·exact absurd a3 (h3 t a1 h)
  have:=(he.lt S hk t).1 (a3 k hk hlk (by omega))
  omega
 ·exfalso
  have hnq:∀ t,t0<t→t≤t0+w→¬ quiet l jobs i t:=fun t a b c => hex ⟨t,a,b,c⟩
  have hlen:=Aab hb hB hq (t0:=t0) w hnq
  obtain ⟨m,m1,m2,m3,m4⟩:=Ad7 (hnq (t0+w) (by omega) (Nat.le_refl _)) S
  have hstep:∀ x,x<jobs.length→(if lev l jobs i x then dn l jobs x (t0+w) - dn l jobs x t0 else 0)≤if lev l jobs i x∧(t0:Int)≤(jb jobs x).release∧(jb jobs x).release<((t0+w:Nat):Int) then (jb jobs x).work else 0:=fun x hx => by
   have d0:=Q9 S hx t0
   have d1:=Q9 S hx (t0+w)
   by_cases hl:lev l jobs i x
   ·rw [if_pos hl]
    by_cases hra:(t0:Int)≤(jb jobs x).release
    ·by_cases hrb:(jb jobs x).release<((t0+w:Nat):Int)
     ·rw [if_pos ⟨hl,hra,hrb⟩];omega
     ·rw [if_neg fun h => hrb h.2.2]
      have:=Apn S hx (t0+w)
      omega
    ·rw [if_neg fun h => hra h.2.1]
     have:=h2 x hx hl (by omega)
     omega
   ·rw [if_neg hl,if_neg fun h => hl h.1];exact Int.le_refl _
  have hmr:(t0:Int)≤(jb jobs m).release:=by
   rcases Int.lt_or_le (jb jobs m).release (t0:Int) with h | h
   ·have:=h2 m m1 m2 h
    have:=Tw S m1 (show t0≤t0+w by omega)
    omega
   ·exact h
  have hstr:=Ym m1 hstep (by
   rw [if_pos m2,if_pos ⟨m2,hmr,m3⟩]
   have:=(Q9 S m1 t0).1
   omega)
  have hgot:=Aw1 (i:=i) hb t0 w jobs.length (Nat.le_refl _)
  have hok:∀ h:Nat,h<l.length→(1≤(atI l (h:Int)).T∧0≤(atI l (h:Int)).J)∧1≤(atI l (h:Int)).C:=fun h hh => by
   obtain ⟨_,_,hok⟩:=Bc (Ng hb).2.2
   have:=(hok _ (Aj (l:=l) (i:=(h:Int)) (by omega) (by omega))).1
   simp only [Ap] at this;omega
  have hsum:Ev (Af7 l jobs i t0 w jobs.length) l.length≤Ayi l i w l.length+(atI l (i:Int)).C:=by
   have e:=P9 (f:=fun h => if (atI l (h:Int)).P<(atI l (i:Int)).P then (((w:Int)+(atI l (h:Int)).J+(atI l (h:Int)).T - 1) / (atI l (h:Int)).T) * (atI l (h:Int)).C else 0) (g:=fun h => (if (atI l (h:Int)).P<(atI l (i:Int)).P then (((w:Int)+(atI l (h:Int)).J+(atI l (h:Int)).T - 1) / (atI l (h:Int)).T) * (atI l (h:Int)).C else 0)+if h=i then (atI l (i:Int)).C else 0) (c:=(atI l (i:Int)).C) hi fun h hh => rfl
   unfold Ayi
   rw [← e]
   refine Vq fun h hh => ?_
   obtain ⟨⟨hT,hJ⟩,hC⟩:=hok h hh
   obtain ⟨c0,c1⟩:=A07 (t0:=t0) hb hT hJ hw1
   unfold Af7
   by_cases hlt:(atI l (h:Int)).P<(atI l (i:Int)).P
   ·have hne:h≠i:=fun e => by rw [e] at hlt;omega
    rw [if_pos (by omega),if_pos hlt,if_neg hne,Int.add_zero]
    refine Int.mul_le_mul_of_nonneg_right ?_ (by omega)
    refine Int.le_ediv_of_mul_le (by omega) ?_
    rw [Int.sub_mul,Int.one_mul] at c1
    omega
   ·rw [if_neg hlt,Int.zero_add]
    by_cases hle:(atI l (h:Int)).P≤(atI l (i:Int)).P
    ·have hhi:(h:Int)=i:=S.prio h i (by omega) (by omega) (by omega) (by omega) (by omega)
     have hhi2:h=i:=by omega
     subst hhi2
     rw [if_pos hle,if_pos rfl]
     have hone:Qr jobs h t0 w jobs.length≤1:=by
      rcases Int.lt_or_le 1 (Qr jobs h t0 w jobs.length) with hh2 | hh2
      ·exfalso
       have h5:1 * (atI l (h:Int)).T≤(Qr jobs h t0 w jobs.length - 1) * (atI l (h:Int)).T:=Int.mul_le_mul_of_nonneg_right (by omega) (by omega)
       omega
      ·exact hh2
     have h6:Qr jobs h t0 w jobs.length * (atI l (h:Int)).C≤1 * (atI l (h:Int)).C:=Int.mul_le_mul_of_nonneg_right hone (by omega)
     omega
    ·rw [if_neg hle]
     have hCi:=(hok i hi).2
     split<;>omega
  unfold wrk at hlen
  omega
end Go.L.Try
namespace Go.L.Try
open Go Go.L
theorem Agl (l:List Ab) (i:Nat) (w:Int):∀ n,Ayi l i w n=hN l (i:Int) w n
 | 0 => rfl
 | n+1 => by
  have ih:=Agl l i w n
  show Ayi l i w n+(if _ then _ else _)=_
  rw [ih,hN]
  split<;>simp
theorem Ae1 {l:List Ab} {i:Int} (hok:∀ t∈l,Cr t):∀ n,n≤l.length→∀ k:Nat,k<n→(atI l i).P<(atI l (k:Int)).P→(atI l (k:Int)).Q - 1≤Ja l i n
 | 0,_,k,hk,_ => by omega
 | n+1,hn,k,hk,hp => by
  have ih:=Ae1 (i:=i) hok n (by omega)
  unfold Ja
  by_cases e:k=n
  ·subst e;rw [if_pos hp];omega
  ·have:=ih k (by omega) hp
   split<;>omega
theorem Aef {l:List Ab} {i:Int} (hb:isP l i=true) (hl:∀ t∈l,Mid t) (hn:l.length≤6) {w:Int} (hw:1≤w∧w≤1073741824):Ce l i w=(atI l i).C+blockP l i+hN l i w l.length:=by
 obtain ⟨hi,_,hok⟩:=E8 hb
 obtain ⟨e,h1,h2⟩:=A18 hl hn (i:=i) (w:=w) (by omega) l.length (Nat.le_refl _)
 have hC:=(hl _ (Aj hi.1 hi.2)).C
 have hB:0≤blockP l i∧blockP l i≤2147483647:=by unfold blockP;rw [if_pos hb];exact P4 hok i _ (Nat.le_refl _)
 have eh:higherP l i w=hN l i w l.length:=by unfold higherP;rw [if_pos ⟨hb,by omega⟩];exact e
 rw [Wc hb,eh]
 have e2:sat ((atI l i).C+blockP l i)=(atI l i).C+blockP l i:=by unfold sat;rw [if_pos (by omega)]
 rw [e2]
 unfold sat
 rw [if_pos (by omega)]
theorem Y7 {l:List Ab} {jobs:List Job} (hb:legalB l jobs=true) (hl:∀ t∈l,Mid t) (hn:l.length≤6) {k e:Nat} (hk:k<jobs.length) (he:EndAt l jobs k e) (hr:(boundP l (jb jobs k).task).2=0):(e:Int) - (jb jobs k).arrive≤(boundP l (jb jobs k).task).1∧(boundP l (jb jobs k).task).1≤(atI l (jb jobs k).task).D:=by
 have hj:=Ni hb hk
 obtain ⟨i,hi⟩:∃ i:Nat,(jb jobs k).task=i:=⟨(jb jobs k).task.toNat,by have:=hj.task;omega⟩
 rw [hi] at hr ⊢
 have hil:i<l.length:=by have:=hj.task;omega
 obtain ⟨_,_,hok⟩:=Bc (Ng hb).2.2
 have hp:isP l (i:Int)=true:=by unfold isP;exact decide_eq_true ⟨(Ng hb).2.2,by omega,by omega⟩
 unfold boundP at hr ⊢
 rw [if_pos hp] at hr ⊢
 cases hls:Lu l (i:Int) with
 | none => rw [hls] at hr;simp at hr
 | some w =>
  dsimp only
  unfold Lu at hls
  obtain ⟨h1,h2,_⟩:=Og hls
  have hit:=hok _ (Aj (l:=l) (i:=(i:Int)) (by omega) (by omega))
  obtain ⟨hrg,hft⟩:=hit
  simp only [Ap,Eg] at hrg hft
  have hmost:w≤(atI l (i:Int)).D - (atI l (i:Int)).J:=by unfold Ig at h1;omega
  obtain ⟨W,hW⟩:∃ W:Nat,w=W:=⟨w.toNat,by omega⟩
  subst hW
  have hmid:=hl _ (Aj (l:=l) (i:=(i:Int)) (by omega) (by omega))
  have hT:=hmid.T
  rw [Aef hp hl hn (by omega)] at h2
  have hB:0≤blockP l (i:Int):=by unfold blockP;rw [if_pos hp];exact (P4 hok _ _ (Nat.le_refl _)).1
  have hq:∀ m,m<jobs.length→¬ lev l jobs i m→(atI l (jb jobs m).task).Q - 1≤blockP l (i:Int):=fun m hm hnl => by
   have hjm:=(Ni hb hm).task
   obtain ⟨t,ht⟩:∃ t:Nat,(jb jobs m).task=t:=⟨(jb jobs m).task.toNat,by omega⟩
   unfold lev at hnl
   rw [ht] at hnl hjm ⊢
   unfold blockP
   rw [if_pos hp]
   exact Ae1 hok l.length (Nat.le_refl _) t (by omega) (by omega)
  have hwin:=A2v hb hil hB hq (w:=W) (by omega) (by omega) (by rw [Agl];omega) hk hi he
  have hrel:=hj.release.2
  rw [hi] at hrel
  omega
end Go.L.Try
namespace Go.L.Try
open Go Go.L
variable {l:List Ab} {jobs:List Job} {k s0 B M:Nat}
def upL (l:List Ab) (jobs:List Job) (k m:Nat):Prop:=m=k∨(atI l (jb jobs m).task).P<(atI l (jb jobs k).task).P
instance (l:List Ab) (jobs:List Job) (k m:Nat):Decidable (upL l jobs k m):=by unfold upL;infer_instance
structure Ayv (l:List Ab) (jobs:List Job) (k s0 B M:Nat):Prop where
 script:Script l jobs
 hk:k<jobs.length
 rel:(jb jobs k).release=s0
 before:∀ j,j<jobs.length→upL l jobs k j→(s0:Int)≤(jb jobs j).release
 low:∀ n,n<B→n<M→∀ r:Nat,who l jobs (s0+n)=r→¬ upL l jobs k r
 high:∀ n,B≤n→n<M→dn l jobs k (s0+n)<(jb jobs k).work→∃ r:Nat,who l jobs (s0+n)=r∧upL l jobs k r
 best:∀ n,n<M→who l jobs (s0+n)=k→∀ j,j<jobs.length→upL l jobs k j→j≠k→(jb jobs j).release≤((s0+n:Nat):Int)→dn l jobs j (s0+n)=(jb jobs j).work
def Aqu (l:List Ab) (jobs:List Job) (k s0 n:Nat):Int:=Ev (fun m => if upL l jobs k m then dn l jobs m (s0+n) else 0) jobs.length
def Azw (l:List Ab) (jobs:List Job) (k s0 n:Nat):Int:=Ev (fun m => if upL l jobs k m∧(jb jobs m).release<((s0+n:Nat):Int) then (jb jobs m).work else 0) jobs.length
theorem Xi {f:Nat→Int}:∀ {m:Nat},(∀ i,i<m→f i=0)→Ev f m=0
 | 0,_ => rfl
 | m+1,h => by
  show Ev f m+f m=0
  rw [Xi (m:=m) fun i hi => h i (by omega),h m (by omega)];rfl
theorem Agc (S:Script l jobs) {m n:Nat} (hm:m<jobs.length) (h:(n:Int)≤(jb jobs m).release):dn l jobs m n=0:=by
 have h1:=Apn S hm n
 have h2:=(Q9 S hm n).1
 omega
theorem Aqs (C:Ayv l jobs k s0 B M):Aqu l jobs k s0 0=0 :=
 Xi fun m hm => by
  split
  ·rename_i h;exact Agc C.script hm (by rw [Nat.add_zero];exact C.before m hm h)
  ·rfl
open Classical in
theorem Aqt (S:Script l jobs) (n:Nat):Aqu l jobs k s0 (n+1)=Aqu l jobs k s0 n+if ∃ r:Nat,who l jobs (s0+n)=r∧upL l jobs k r then 1 else 0:=by
 unfold Aqu
 have key:∀ m,m<jobs.length→dn l jobs m (s0+(n+1))=dn l jobs m (s0+n)+if who l jobs (s0+n)=m then 1 else 0:=fun m hm => by
  rw [← Nat.add_assoc];exact Ib S hm _
 by_cases h:∃ r:Nat,who l jobs (s0+n)=r∧upL l jobs k r
 ·rw [if_pos h]
  obtain ⟨r,h1,h2⟩:=h
  refine P9 (r:=r) (Um S h1).1 fun m hm => ?_
  rw [key m hm,h1]
  by_cases e:m=r
  ·subst e;rw [if_pos h2,if_pos h2,if_pos rfl,if_pos rfl]
  ·have e2:¬ ((r:Int)=(m:Int)):=by omega
   rw [if_neg e,if_neg e2];split<;>omega
 ·rw [if_neg h,Int.add_zero]
  refine Tn fun m hm => ?_
  rw [key m hm]
  split
  ·rename_i hl
   rw [if_neg fun e => h ⟨m,e,hl⟩];omega
  ·rfl
theorem Adp (C:Ayv l jobs k s0 B M):∀ n,n≤M→(∀ n',n'<n→dn l jobs k (s0+n')<(jb jobs k).work)→Aqu l jobs k s0 n=if n≤B then 0 else (n:Int) - B
 | 0,_,_ => by rw [Aqs C,if_pos (Nat.zero_le _)]
 | n+1,hn,hp => by
  have ih:=Adp C n (by omega) fun n' h => hp n' (by omega)
  rw [Aqt C.script,ih]
  by_cases h:n<B
  ·rw [if_neg (c:=∃ r:Nat,who l jobs (s0+n)=r∧upL l jobs k r) (by rintro ⟨r,h1,h2⟩;exact C.low n h (by omega) r h1 h2)]
   split<;>split<;>omega
  ·rw [if_pos (c:=∃ r:Nat,who l jobs (s0+n)=r∧upL l jobs k r) (C.high n (by omega) (by omega) (hp n (by omega)))]
   split<;>split<;>omega
theorem Axm (C:Ayv l jobs k s0 B M) {n:Nat} (h1:1≤n) (hn:n≤M) (he:EndAt l jobs k (s0+n)):Azw l jobs k s0 n+B=n:=by
 have S:=C.script
 have hk:upL l jobs k k:=.inl rfl
 have hlt:∀ n',n'<n→dn l jobs k (s0+n')<(jb jobs k).work:=fun n' h => by
  have h2:=(he.lt S C.hk (s0+n')).1
  have h3:=(Q9 S C.hk (s0+n')).2
  by_cases e:dn l jobs k (s0+n')=(jb jobs k).work
  ·have:=h2 e;omega
  ·omega
 have hd:=(he.lt S C.hk (s0+n)).2 (Nat.le_refl _)
 have hsucc:=Ib S C.hk (s0+(n - 1))
 rw [show s0+(n - 1)+1=s0+n by omega] at hsucc
 have hl1:=hlt (n - 1) (by omega)
 have hwho:who l jobs (s0+(n - 1))=k:=by
  apply Classical.byContradiction
  intro hh
  rw [if_neg hh] at hsucc;omega
 have hB:B≤n - 1:=by
  apply Classical.byContradiction
  intro hh
  exact C.low (n - 1) (by omega) (by omega) k hwho hk
 have hw:=Adp C n hn hlt
 rw [if_neg (by omega)] at hw
 have hs:Aqu l jobs k s0 n=Azw l jobs k s0 n:=by
  refine Tn fun m hm => ?_
  by_cases hu:upL l jobs k m
  ·rw [if_pos hu]
   by_cases hrl:(jb jobs m).release<((s0+n:Nat):Int)
   ·rw [if_pos ⟨hu,hrl⟩]
    by_cases e:m=k
    ·rw [e];exact hd
    ·have h2:=C.best (n - 1) (by omega) hwho m hm hu e (by omega)
     have h3:=Tw S hm (show s0+(n - 1)≤s0+n by omega)
     have h4:=(Q9 S hm (s0+n)).2
     omega
   ·rw [if_neg fun h => hrl h.2,Agc S hm (by omega)]
  ·rw [if_neg hu,if_neg fun h => hu h.1]
 omega
end Go.L.Try
namespace Go.L.Try
open Go Go.L
variable {l:List Ab} {jobs:List Job} {k s0 B M:Nat}
def cntB (jobs:List Job) (h:Nat) (x:Int):Nat:=jobs.countP fun j => decide (j.task=(h:Int)∧j.release<x)
theorem Wu (A C:List Job) (h:Nat) (x:Int):cntB (A++C) h x=cntB A h x+cntB C h x:=List.countP_append
theorem Aeu (j:Job) (A:List Job) (h:Nat) (x:Int):cntB (j :: A) h x=cntB A h x+if j.task=(h:Int)∧j.release<x then 1 else 0:=by
 unfold cntB
 rw [List.countP_cons]
 by_cases hc:j.task=(h:Int)∧j.release<x<;>simp [hc]
def upW (l:List Ab) (p:Int) (x:Int) (j:Job):Int:=if (atI l j.task).P<p∧j.release<x then j.work else 0
theorem Adv (g:Job→Int):∀ (A:List Job),Ev (fun m => g (jb A m)) A.length=(A.map g).foldr (· + ·) 0
 | [] => rfl
 | j :: A => by
  have ih:=Adv g A
  have key:∀ n,Ev (fun m => g (jb (j :: A) m)) (n+1)=g j+Ev (fun m => g (jb A m)) n:=by
   intro n
   induction n with
   | zero => show (0:Int)+g j=g j+0;omega
   | succ n ih2 =>
    show Ev (fun m => g (jb (j :: A) m)) (n+1)+g (jb (j :: A) (n+1))=g j+(Ev (fun m => g (jb A m)) n+g (jb A n))
    rw [ih2]
    have:jb (j :: A) (n+1)=jb A n:=rfl
    rw [this];omega
  rw [List.length_cons,key,ih];rfl
theorem Ath {l:List Ab} {p x:Int}:∀ (A:List Job),(∀ j∈A,(0≤j.task∧j.task<l.length)∧((atI l j.task).P<p→j.work=(atI l j.task).C))→(A.map (upW l p x)).foldr (· + ·) 0=Ev (fun h => if (atI l (h:Int)).P<p then (cntB A h x:Int) * (atI l (h:Int)).C else 0) l.length
 | [],_ => by
  rw [Xi fun h _ => by unfold cntB;split<;>simp];rfl
 | j :: A,hA => by
  have ih:=Ath (p:=p) (x:=x) A fun j hj => hA j (by simp [hj])
  obtain ⟨ht,hw⟩:=hA j (by simp)
  show upW l p x j+(A.map (upW l p x)).foldr (· + ·) 0=_
  rw [ih]
  obtain ⟨r,hr⟩:∃ r:Nat,j.task=r:=⟨j.task.toNat,by omega⟩
  have e:=P9 (f:=fun h => if (atI l (h:Int)).P<p then (cntB A h x:Int) * (atI l (h:Int)).C else 0) (g:=fun h => if (atI l (h:Int)).P<p then (cntB (j :: A) h x:Int) * (atI l (h:Int)).C else 0) (r:=r) (c:=upW l p x j) (m:=l.length) (by omega) fun h hh => by
   rw [Aeu]
   by_cases eh:h=r
   ·subst eh
    rw [if_pos rfl]
    unfold upW
    rw [hr] at hw ⊢
    by_cases hp:(atI l (h:Int)).P<p
    ·rw [if_pos hp,if_pos hp]
     by_cases hx:j.release<x
     ·rw [if_pos ⟨rfl,hx⟩,if_pos ⟨hp,hx⟩,hw hp,Int.natCast_add,Int.natCast_one,Int.add_mul,Int.one_mul]
     ·rw [if_neg fun h => hx h.2,if_neg fun h => hx h.2,Nat.add_zero,Int.add_zero]
    ·rw [if_neg hp,if_neg hp,if_neg fun h => hp h.1];rfl
   ·rw [if_neg eh,Int.add_zero,if_neg (c:=j.task=(h:Int)∧j.release<x) (fun h2 => eh (by omega)),Nat.add_zero]
  rw [e];omega
theorem Aun (C:Ayv l jobs k s0 B M) (hw:∀ j∈jobs,(0≤j.task∧j.task<l.length)∧((atI l j.task).P<(atI l (jb jobs k).task).P→j.work=(atI l j.task).C)) {n:Nat} (hn:1≤n) :
  Azw l jobs k s0 n=(jb jobs k).work+Ev (fun h => if (atI l (h:Int)).P<(atI l (jb jobs k).task).P then (cntB jobs h ((s0+n:Nat):Int):Int) * (atI l (h:Int)).C else 0) l.length:=by
 rw [← Ath (x:=((s0+n:Nat):Int)) jobs hw,← Adv]
 unfold Azw
 rw [Int.add_comm]
 refine P9 (r:=k) C.hk fun m hm => ?_
 unfold upW
 by_cases e:m=k
 ·subst e
  rw [if_pos rfl,if_pos ⟨.inl rfl,by rw [C.rel];omega⟩,if_neg fun h => by have:=h.1;omega];omega
 ·rw [if_neg e,Int.add_zero]
  by_cases hc:(atI l (jb jobs m).task).P<(atI l (jb jobs k).task).P∧(jb jobs m).release<((s0+n:Nat):Int)
  ·rw [if_pos hc,if_pos ⟨.inr hc.1,hc.2⟩]
  ·rw [if_neg hc,if_neg]
   rintro ⟨h1 | h1,h2⟩
   ·exact e h1
   ·exact hc ⟨h1,h2⟩
structure Scene (l:List Ab) (jobs:List Job) (i k s0 B M:Nat):Prop where
 crit:Ayv l jobs k s0 B M
 legal:legalB l jobs=true
 mid:∀ t∈l,Mid t
 six:l.length≤6
 task:(jb jobs k).task=i
 most:(M:Int)=(atI l (i:Int)).D - (atI l (i:Int)).J
 block:(B:Int)=blockP l (i:Int)
 work:(jb jobs k).work=(atI l (i:Int)).C
 arrive:(jb jobs k).arrive=(s0:Int) - (atI l (i:Int)).J
 works:∀ j∈jobs,(atI l j.task).P<(atI l (i:Int)).P→j.work=(atI l j.task).C
 many:∀ h:Nat,h<l.length→(atI l (h:Int)).P<(atI l (i:Int)).P→∀ n:Nat,1≤n→n≤M→((n:Int)+(atI l (h:Int)).J+(atI l (h:Int)).T - 1) / (atI l (h:Int)).T≤cntB jobs h ((s0+n:Nat):Int)
theorem Scene.isP {i:Nat} (s:Scene l jobs i k s0 B M):isP l (i:Int)=true:=by
 have:=(Ni s.legal s.crit.hk).task
 rw [s.task] at this
 unfold Try.isP;exact decide_eq_true ⟨(Ng s.legal).2.2,by omega,by omega⟩
theorem Scene.enough {i:Nat} (s:Scene l jobs i k s0 B M) {n:Nat} (h1:1≤n) (hn:n≤M) (he:EndAt l jobs k (s0+n)):Ce l (i:Int) n≤n:=by
 have hp:=s.isP
 obtain ⟨hi,_,hok⟩:=E8 hp
 have hit:=hok _ (Aj (l:=l) (i:=(i:Int)) hi.1 hi.2)
 obtain ⟨hrg,hft⟩:=hit
 simp only [Ap,Eg] at hrg hft
 have hmid:=(s.mid _ (Aj (l:=l) (i:=(i:Int)) hi.1 hi.2)).T
 have hmost:=s.most
 rw [Aef hp s.mid s.six (by omega)]
 have hce:=Axm s.crit h1 hn he
 rw [Aun s.crit (fun j hj => by
  obtain ⟨m,hm,rfl⟩:=List.getElem_of_mem hj
  have h3:=(Ni s.legal hm).task
  have h4:=s.works _ (List.getElem_mem hm)
  rw [s.task]
  refine ⟨?_,h4⟩
  have e:jb jobs m=jobs[m]:=By hm
  rwa [e] at h3) h1,s.task,s.work] at hce
 have hask:hN l (i:Int) n l.length≤Ev (fun h => if (atI l (h:Int)).P<(atI l (i:Int)).P then (cntB jobs h ((s0+n:Nat):Int):Int) * (atI l (h:Int)).C else 0) l.length:=by
  rw [← Agl]
  refine Vq fun h hh => ?_
  by_cases hc:(atI l (h:Int)).P<(atI l (i:Int)).P
  ·rw [if_pos hc,if_pos hc]
   have hC:=(s.mid _ (Aj (l:=l) (i:=(h:Int)) (by omega) (by omega))).C
   exact Int.mul_le_mul_of_nonneg_right (s.many h hh hc n h1 hn) (by omega)
  ·rw [if_neg hc,if_neg hc];exact Int.le_refl _
 have:=s.block
 omega
theorem Scene.after {i:Nat} (s:Scene l jobs i k s0 B M) {e:Nat} (he:EndAt l jobs k e):∃ n,1≤n∧e=s0+n:=by
 have h1:=he.late s.crit.script s.crit.hk
 rw [s.crit.rel,s.work] at h1
 have:=(s.mid _ (Aj (l:=l) (i:=(i:Int)) (E8 s.isP).1.1 (E8 s.isP).1.2)).C
 exact ⟨e - s0,by omega,by omega⟩
theorem Scene.just {i:Nat} (s:Scene l jobs i k s0 B M) {e:Nat} (he:EndAt l jobs k e) (hb:(boundP l (i:Int)).2=0):(e:Int) - (jb jobs k).arrive=(boundP l (i:Int)).1:=by
 have hs:=Y7 s.legal s.mid s.six s.crit.hk he (by rw [s.task];exact hb)
 rw [s.task] at hs
 obtain ⟨n,h1,rfl⟩:=s.after he
 have hp:=s.isP
 unfold boundP at hb hs ⊢
 rw [if_pos hp] at hb hs ⊢
 cases hls:Lu l (i:Int) with
 | none => rw [hls] at hb;simp at hb
 | some w =>
  rw [hls] at hs
  dsimp only at hs ⊢
  unfold Lu at hls
  obtain ⟨h2,h3,h4⟩:=Og hls
  have hm:n≤M:=by have:=s.most;have:=s.arrive;omega
  have hen:=s.enough h1 hm he
  have:w≤n:=by
   rcases Int.lt_or_le (n:Int) w with h | h
   ·have:=h4 n (by omega) h;omega
   ·exact h
  have:=s.arrive
  omega
theorem Scene.late {i:Nat} (s:Scene l jobs i k s0 B M) {e:Nat} (he:EndAt l jobs k e) (hb:(boundP l (i:Int)).2≠0):(atI l (i:Int)).D<(e:Int) - (jb jobs k).arrive:=by
 obtain ⟨n,h1,rfl⟩:=s.after he
 have hp:=s.isP
 have hm1:=Sl hp
 rcases Int.lt_or_le (atI l (i:Int)).D (((s0+n:Nat):Int) - (jb jobs k).arrive) with h | h
 ·exact h
 ·exfalso
  have hm:n≤M:=by have:=s.most;have:=s.arrive;omega
  have hen:=s.enough h1 hm he
  apply hb
  unfold boundP
  rw [if_pos hp]
  cases hls:Lu l (i:Int) with
  | some w => rfl
  | none =>
   unfold Lu at hls
   have hmost:Ig l (i:Int)=M:=by unfold Ig;rw [s.most]
   have:=Yx hls n (by omega) (by omega)
   omega
end Go.L.Try
