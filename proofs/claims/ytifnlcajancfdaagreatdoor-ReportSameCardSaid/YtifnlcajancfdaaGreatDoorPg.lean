/- THE EXECUTIVE, PLAIN: what it does, step by step, is what the document's machine does tick by tick. -/
import Derived.Test.YtifnlcajancfdaaGreatDoorPb
import Derived.Test.YtifnlcajancfdaaGreatDoorPa
set_option linter.unusedVariables false
set_option linter.unusedSimpArgs false
set_option maxRecDepth 100000
set_option maxHeartbeats 1000000
namespace Go.L.Try
open Go Go.L
structure XS where
 coming:List Nat
 now:Int
 spans:List Span
 ends:List Int
 running:Option Nat
 Q:Int→Option (List Nat)
 ready:List Int
 left:Nat→Int
 sec:Nat→Int
 cuts:Nat→List Int
def XS.q (s:XS) (t:Int):List Nat:=(s.Q t).getD []
def at1 {α β : Type} [DecidableEq α] (f:α → β) (a:α) (b:β):α → β:=fun x => if x=a then b else f x
theorem At {α β : Type} [DecidableEq α] {f:α → β} {a:α} {b:β}:at1 f a b a=b:=if_pos rfl
theorem Bz {α β : Type} [DecidableEq α] {f:α → β} {a x:α} {b:β} (h:x≠a):at1 f a b x=f x:=if_neg h
abbrev jb (jobs:List Job) (i:Nat):Job:=atI jobs (i:Int)
def Ei (jobs:List Job) (s:XS) (i:Nat) (r:List Nat):XS :=
 { s with coming:=r,Q:=at1 s.Q (jb jobs i).task (some (s.q (jb jobs i).task++[i])),ready:=if s.q (jb jobs i).task=[] then (jb jobs i).task :: s.ready else s.ready,left:=at1 s.left i (jb jobs i).work,sec:=at1 s.sec i 0,cuts:=at1 s.cuts i (jb jobs i).cuts }
def back (jobs:List Job) (s:XS):XS:=match s.running with
 | some i => { s with running:=none,ready:=(jb jobs i).task :: s.ready }
 | none => s
def chosen (s:XS) (rd:List Int) (i:Nat):XS:=match s.cuts i with
 | [] => { s with ready:=rd,running:=some i }
 | c :: cs => { s with ready:=rd,running:=some i,sec:=at1 s.sec i c,cuts:=at1 s.cuts i cs }
def Dm (L:List Span) (r t n:Int):List Span :=
 if 0<(L.length:Int)∧(atI L ((L.length:Int) - 1)).job=r∧(atI L ((L.length:Int) - 1)).to'=t then L.set ((L.length:Int) - 1).toNat { atI L ((L.length:Int) - 1) with to':=(atI L ((L.length:Int) - 1)).to'+n } else L++[⟨r,t,t+n⟩]
def P6 (jobs:List Job) (s:XS) (i:Nat) (n:Int):XS :=
 if s.left i - n=0 then
  { s with now:=s.now+n,spans:=Dm s.spans i s.now n,left:=at1 s.left i (s.left i - n),sec:=at1 s.sec i (max (s.sec i - n) 0),ends:=s.ends.set i (s.now+n),running:=none,Q:=at1 s.Q (jb jobs i).task (some (s.q (jb jobs i).task).tail),ready:=if (s.q (jb jobs i).task).tail=[] then s.ready else (jb jobs i).task :: s.ready }
 else { s with now:=s.now+n,spans:=Dm s.spans i s.now n,left:=at1 s.left i (s.left i - n),sec:=at1 s.sec i (max (s.sec i - n) 0) }
def Em (jobs:List Job) (s:XS):Int:=match s.coming with
 | [] => 9223372036854775807
 | i :: _ => (jb jobs i).release
def Gb (l:List Int):Int:=l.foldr (· + ·) 0
theorem Vp (a b:List Int):Gb (a++b)=Gb a+Gb b:=by
 induction a with
 | nil => simp [Gb]
 | cons x r ih => simp only [Gb,List.cons_append,List.foldr_cons] at ih ⊢;omega
theorem Jc (a:Int) (b:List Int):Gb (a :: b)=a+Gb b:=rfl
theorem Rz:Gb []=0:=rfl
structure CutInv (cs:List Int) (done sec:Int) (rem:List Int):Prop where
 is:∃ pre,cs=pre++rem∧((done+sec=Gb pre)∨(rem=[]∧sec=0∧Gb pre≤done))∧(0<sec→∃ pre' c,pre=pre'++[c]∧sec≤c)
 nn:0≤sec
theorem Aca {q:Int}:∀ {cs:List Int} {w:Int},Dl q cs w=true→∀ c∈cs,1≤c
 | [],_,_,c,hc => by cases hc
 | x :: r,w,h,c,hc => by
  simp only [Dl,Bool.and_eq_true,decide_eq_true_eq] at h
  rcases List.mem_cons.1 hc with rfl | hc
  ·exact h.1.1
  ·exact Aca h.2 c hc
theorem Ob {l:List Int} (h:∀ c∈l,1≤c):0≤Gb l:=by
 induction l with
 | nil => exact Int.le_refl _
 | cons x r ih => have:=h x (by simp);have:=ih fun c hc => h c (by simp [hc]);rw [Jc];omega
theorem P8 (pre rest:List Int) (a d:Int):As (pre++rest) a d=(As pre a d || As rest (a+Gb pre) d):=by
 induction pre generalizing a with
 | nil => simp [As,Rz]
 | cons x r ih => simp only [List.cons_append,As,ih,Jc,Bool.or_assoc];congr 2;rw [Int.add_assoc]
theorem P7 {l:List Int} {a d:Int} (h:∀ c∈l,1≤c) (hd:d≤a):As l a d=false:=by
 induction l generalizing a with
 | nil => rfl
 | cons x r ih => have:=h x (by simp);simp only [As,Bool.or_eq_false_iff,decide_eq_false_iff_not];exact ⟨by omega,ih (fun c hc => h c (by simp [hc])) (by omega)⟩
theorem Mg {l:List Int} {a d:Int} (h:∀ c∈l,1≤c) (hd:a+Gb l≤d):As l a d=false:=by
 induction l generalizing a with
 | nil => rfl
 | cons x r ih =>
  rw [Jc] at hd
  have h1:=h x (by simp)
  have:=Ob fun c hc => h c (List.mem_cons_of_mem x hc)
  simp only [As,Bool.or_eq_false_iff,decide_eq_false_iff_not];exact ⟨by omega,ih (fun c hc => h c (by simp [hc])) (by omega)⟩
theorem CutInv.out {cs:List Int} {done sec:Int} {rem:List Int} (h:CutInv cs done sec rem) (hc:∀ c∈cs,1≤c) (h0:sec=0):As cs 0 done=false:=by
 obtain ⟨pre,rfl,h1,h2⟩:=h.is
 rw [P8,Bool.or_eq_false_iff,Int.zero_add]
 rcases h1 with h1 | ⟨rfl,_,h1⟩
 ·exact ⟨Mg (fun c h => hc c (by simp [h])) (by omega),P7 (fun c h => hc c (by simp [h])) (by omega)⟩
 ·exact ⟨Mg (fun c h => hc c (by simp [h])) (by omega),rfl⟩
theorem CutInv.in_ {cs:List Int} {done sec:Int} {rem:List Int} (h:CutInv cs done sec rem) (h0:0<sec) {k:Int} (hk:0<k) (hk2:k<sec):As cs 0 (done+k)=true:=by
 obtain ⟨pre,rfl,h1,h2⟩:=h.is
 obtain ⟨pre',c,rfl,hc⟩:=h2 h0
 rw [P8,P8]
 rcases h1 with h1 | ⟨_,h1,_⟩
 ·rw [Vp,Jc,Rz] at h1
  have:As [c] (0+Gb pre') (done+k)=true:=by simp only [As,Bool.or_false,decide_eq_true_eq];omega
  rw [this];simp
 ·omega
theorem CutInv.work {cs:List Int} {done sec:Int} {rem:List Int} (h:CutInv cs done sec rem) {n:Int} (hn:0<n) (hh:n≤sec∨(sec=0∧rem=[])):CutInv cs (done+n) (max (sec - n) 0) rem:=by
 obtain ⟨pre,e,h1,h2⟩:=h.is
 have h3:=h.nn
 refine ⟨⟨pre,e,?_,fun h4 => ?_⟩,by omega⟩
 ·rcases hh with hh | ⟨hh,hr⟩
  ·rcases h1 with h1 | ⟨_,h1,_⟩
   ·left;omega
   ·omega
  ·right
   refine ⟨hr,by omega,?_⟩
   rcases h1 with h1 | ⟨_,_,h1⟩<;>omega
 ·obtain ⟨p',c,e2,h5⟩:=h2 (by omega)
  exact ⟨p',c,e2,by omega⟩
theorem CutInv.next {cs:List Int} {done c:Int} {rem:List Int} (h:CutInv cs done 0 (c :: rem)) (hc:0≤c):CutInv cs done c rem:=by
 obtain ⟨pre,e,h1,h2⟩:=h.is
 refine ⟨⟨pre++[c],by simp [e],.inl ?_,fun _ => ⟨pre,c,rfl,Int.le_refl _⟩⟩,hc⟩
 rw [Vp,Jc,Rz]
 rcases h1 with h1 | ⟨h1,_⟩
 ·omega
 ·cases h1
theorem CutInv.new (cs:List Int):CutInv cs 0 0 cs:=⟨⟨[],rfl,.inl rfl,fun h => absurd h (by decide)⟩,Int.le_refl _⟩
theorem Akg (L:List Span) (r t:Int):Gj L r t=Dm L r t 1:=rfl
theorem Acs {α : Type} [Inhabited α] (L:List α) (x:α):atI (L++[x]) (((L++[x]).length:Int) - 1)=x:=by
 unfold atI
 rw [List.getD_eq_getElem?_getD,LA,List.length_singleton,show (((L.length+1:Nat):Int) - 1).toNat=L.length by omega,List.getElem?_append_right (Nat.le_refl _),Nat.sub_self];rfl
theorem Agk {α : Type} [Inhabited α] {L:List α} (x:α) (h:0<(L.length:Int)):atI (L.set ((L.length:Int) - 1).toNat x) ((L.length:Int) - 1)=x:=by
 unfold atI
 rw [List.getD_eq_getElem?_getD,List.getElem?_set_self (by omega)];rfl
theorem Agq (L:List Span) (r t k:Int):Gj (Dm L r t k) r (t+k)=Dm L r t (k+1):=by
 unfold Dm
 split
 ·rename_i h
  obtain ⟨h1,h2,h3⟩:=h
  unfold Gj
  rw [List.length_set,Agk _ h1,if_pos ⟨h1,h2,by show (atI L ((L.length:Int) - 1)).to'+k=t+k;omega⟩,List.set_set]
  congr 1
  simp only [Span.mk.injEq,true_and];omega
 ·unfold Gj
  rw [Acs,if_pos ⟨by simp,rfl,rfl⟩]
  rw [LA,List.length_singleton,show (((L.length+1:Nat):Int) - 1).toNat=L.length by omega,List.set_append_right _ _ (Nat.le_refl _),Nat.sub_self]
  simp only [List.set_cons_zero]
  congr 3
  omega
def rsK (jobs:List Job) (r:RS) (i:Nat) (k:Nat):RS :=
 {t:=r.t+k,runs:=if k=0 then r.runs else i,done:=r.done.set i (atI r.done (i:Int)+k),L:=if k=0 then r.L else Dm r.L i r.t k,
  ends:=if atI r.done (i:Int)+k=(jb jobs i).work then r.ends.set i (r.t+k) else r.ends,
  left:=if atI r.done (i:Int)+k=(jb jobs i).work then r.left - 1 else r.left }
theorem Ahb {l:List Int} {i:Nat} (h:i<l.length):l.set i (atI l (i:Int))=l:=by
 rw [By h];exact List.set_getElem_self h
theorem Aho {jobs:List Job} {r:RS} {i:Nat} (hi:i<r.done.length) (h:atI r.done (i:Int)≠(jb jobs i).work):rsK jobs r i 0=r:=by
 unfold rsK
 rw [show ((0:Nat):Int)=0 from rfl,Int.add_zero,Int.add_zero,if_pos rfl,if_pos rfl,if_neg h,if_neg h,Ahb hi]
theorem Aue {jobs:List Job} {r:RS} {i k:Nat} (hi:i<r.done.length) (h:atI r.done (i:Int)+k<(jb jobs i).work):M6 jobs (rsK jobs r i k) i=rsK jobs r i (k+1):=by
 have e1:atI (rsK jobs r i k).done (i:Int)=atI r.done (i:Int)+k:=by
  show atI (r.done.set i (atI r.done (i:Int)+k)) (i:Int)=_
  rw [T1 hi,if_pos rfl]
 unfold M6
 rw [e1]
 have e2:(rsK jobs r i k).ends=r.ends:=by show (if _ then _ else _)=_;rw [if_neg (by omega)]
 have e3:(rsK jobs r i k).left=r.left:=by show (if _ then _ else _)=_;rw [if_neg (by omega)]
 have e4:(rsK jobs r i k).t=r.t+k:=rfl
 have e5:((i:Int)).toNat=i:=by omega
 rw [e2,e3,e4,e5]
 unfold rsK
 simp only [List.set_set]
 have e6:r.t+(k:Int)+1=r.t+((k+1:Nat):Int):=by omega
 have e7:atI r.done (i:Int)+(k:Int)+1=atI r.done (i:Int)+((k+1:Nat):Int):=by omega
 rw [e6,e7,if_neg (Nat.succ_ne_zero k)]
 have e8:Gj (if k=0 then r.L else Dm r.L i r.t k) i (r.t+k)=if k+1=0 then r.L else Dm r.L i r.t ((k+1:Nat):Int):=by
  rw [if_neg (Nat.succ_ne_zero k)]
  by_cases hk:k=0
  ·subst hk;rw [if_pos rfl,Akg];congr 1;simp
  ·rw [if_neg hk,Agq];congr 1
 rw [e8]
theorem Am9 {l:List Ab} {jobs:List Job} {e:Int} (hj:Q7 l jobs) {r:RS} (hi:RsInv jobs r) {i:Nat} (hin:i<jobs.length) :
  ∀ n:Nat,(∀ k:Nat,k<n→Qg e (rsK jobs r i k)∧Bj l jobs (rsK jobs r i k)=i∧atI r.done (i:Int)+k<(jb jobs i).work)→atI r.done (i:Int)<(jb jobs i).work →
   RsInv jobs (rsK jobs r i n)∧Bt l jobs e r=Bt l jobs e (rsK jobs r i n)∧Ey jobs (rsK jobs r i n)+n≤Ey jobs r
 | 0,_,h0 => by rw [Aho (by rw [hi.dlen];exact hin) (by omega)];exact ⟨hi,rfl,Nat.le_refl _⟩
 | n+1,h,h0 => by
  obtain ⟨h1,h2,h3⟩:=Am9 hj hi hin n (fun k hk => h k (by omega)) h0
  obtain ⟨h4,h5,h6⟩:=h n (by omega)
  have hs:Ew l jobs (rsK jobs r i n)=rsK jobs r i (n+1):=by
   unfold Ew
   rw [h5,if_neg (by omega),Aue (by rw [hi.dlen];exact hin) h6]
  have h7:=Jd hj h1 h4
  have h8:=Rx hj h1 h4
  rw [hs] at h7 h8
  exact ⟨h7.1,h2.trans h8,by omega⟩
theorem Afl {l:List Ab} {jobs:List Job} {e:Int} (hj:Q7 l jobs) {r:RS} (hi:RsInv jobs r) (hr:r.runs<0∨As (atI jobs r.runs).cuts 0 (atI r.done r.runs)=false) :
  ∀ n:Nat,(∀ k:Nat,k<n→(e<0∨r.t+k<e)∧0<r.left∧Cf l jobs r.done (r.t+k) jobs.length<0) →
   let r':=if n=0 then r else { r with t:=r.t+n,runs:=-1 }
   RsInv jobs r'∧Bt l jobs e r=Bt l jobs e r'∧Ey jobs r'+n≤Ey jobs r
 | 0,_ => ⟨hi,rfl,Nat.le_refl _⟩
 | n+1,h => by
  obtain ⟨h1,h2,h3⟩:=Afl hj hi hr n (fun k hk => h k (by omega))
  obtain ⟨h4,h5,h6⟩:=h n (by omega)
  dsimp only at h1 h2 h3 ⊢
  rw [if_neg (Nat.succ_ne_zero n)]
  generalize hr':(if n=0 then r else { r with t:=r.t+n,runs:=-1 }:RS)=r' at h1 h2 h3
  have ht:r'.t=r.t+n:=by
   rw [← hr'];split
   ·rename_i e;subst e;simp
   ·rfl
  have hl:r'.left=r.left:=by rw [← hr'];split<;>rfl
  have hd:r'.done=r.done:=by rw [← hr'];split<;>rfl
  have hL:r'.L=r.L:=by rw [← hr'];split<;>rfl
  have he:r'.ends=r.ends:=by rw [← hr'];split<;>rfl
  have hrr:r'.runs<0∨As (atI jobs r'.runs).cuts 0 (atI r'.done r'.runs)=false:=by
   rw [← hr'];split
   ·exact hr
   ·exact .inl (by show (-1:Int)<0;decide)
  have hon:Qg e r':=⟨by omega,by rw [ht];exact h4⟩
  have hruns:Bj l jobs r' = -1:=by
   unfold Bj
   rw [if_pos hrr,hd,ht]
   have:=(Pe l jobs r.done (r.t+n) jobs.length).1
   omega
  have hs:Ew l jobs r'={ r with t:=r.t+((n+1:Nat):Int),runs:=-1 }:=by
   unfold Ew
   rw [hruns,if_pos (by decide),ht]
   cases r;cases r'
   simp only at hl hd hL he ⊢
   subst hl hd hL he
   simp only [RS.mk.injEq,and_true]
   omega
  have h7:=Jd hj h1 hon
  have h8:=Rx hj h1 hon
  rw [hs] at h7 h8
  exact ⟨h7.1,h2.trans h8,by omega⟩
theorem Aa5 {l:List Ab} {jobs:List Job} {done:List Int} {t:Int} {i:Nat} (hc:(jb jobs i).release≤t∧atI done (i:Int)<(jb jobs i).work) {n:Nat} (hi:i<n)
  (hb:∀ k:Nat,k<n→(jb jobs k).release≤t→atI done (k:Int)<(jb jobs k).work→(atI l (jb jobs i).task).P<(atI l (jb jobs k).task).P∨((atI l (jb jobs i).task).P≤(atI l (jb jobs k).task).P∧i≤k)):Cf l jobs done t n=i:=by
 have low:∀ m:Nat,m≤i→Cf l jobs done t m<0∨(atI l (jb jobs i).task).P<(atI l (atI jobs (Cf l jobs done t m)).task).P:=by
  intro m
  induction m with
  | zero => intro _;exact .inl (by simp [Cf])
  | succ m ih =>
   intro hm
   unfold Cf
   split
   ·rename_i h
    right
    rcases hb m (by omega) h.1 h.2.1 with h1 | h1
    ·exact h1
    ·omega
   ·exact ih (by omega)
 have up:∀ m:Nat,i<m→m≤n→Cf l jobs done t m=i:=by
  intro m
  induction m with
  | zero => intro h;omega
  | succ m ih =>
   intro h1 h2
   unfold Cf
   by_cases e:m=i
   ·subst e
    rw [if_pos ⟨hc.1,hc.2,low m (Nat.le_refl _)⟩]
   ·rw [ih (by omega) (by omega),if_neg]
    rintro ⟨h3,h4,h5 | h5⟩
    ·omega
    ·rcases hb m (by omega) h3 h4 with h6 | h6
     ·have:(atI l (jb jobs m).task).P<(atI l (jb jobs i).task).P:=h5
      omega
     ·have:(atI l (jb jobs m).task).P<(atI l (jb jobs i).task).P:=h5
      omega
 exact up n hi (Nat.le_refl _)
theorem Ahy {l:List Ab} {jobs:List Job} {done:List Int} {t:Int} {n:Nat} (h:∀ k:Nat,k<n→(jb jobs k).release≤t→¬ atI done (k:Int)<(jb jobs k).work):Cf l jobs done t n<0:=by
 rcases Int.lt_or_le (Cf l jobs done t n) 0 with h1 | h1
 ·exact h1
 ·have h2:=Kl h1
  have h3:=(Pe l jobs done t n).2
  obtain ⟨k,hk⟩:∃ k:Nat,Cf l jobs done t n=k:=⟨(Cf l jobs done t n).toNat,by omega⟩
  rw [hk] at h2 h3
  exact absurd h2.2 (h k (by omega) h2.1)
end Go.L.Try
namespace Go.L.Try
open Go Go.L
structure Script (l:List Ab) (jobs:List Job):Prop where
 ok:Q7 l jobs
 mono:∀ a b:Nat,a<b→b<jobs.length→(jb jobs a).task=(jb jobs b).task→(jb jobs a).release<(jb jobs b).release
 prio:∀ t u:Int,0≤t→t<l.length→0≤u→u<l.length→(atI l t).P=(atI l u).P→t=u
def ltO (jobs:List Job) (a b:Nat):Prop:=(jb jobs a).release<(jb jobs b).release∨((jb jobs a).release=(jb jobs b).release∧a<b)
structure SimC (jobs:List Job) (s:XS) (r:RS):Prop where
 t:r.t=s.now
 L:r.L=s.spans
 ends:r.ends=s.ends
 coming:∀ i∈s.coming,i<jobs.length∧atI r.done (i:Int)=0
 sorted:s.coming.Pairwise (ltO jobs)
 ord:∀ k,k<jobs.length→k ∉ s.coming→∀ i∈s.coming,ltO jobs k i
 mem:∀ t i,i∈s.q t↔(i<jobs.length∧(jb jobs i).task=t∧i ∉ s.coming∧atI r.done (i:Int)<(jb jobs i).work)
 asc:∀ t,(s.q t).Pairwise (· < ·)
 rel:∀ i,i<jobs.length→i ∉ s.coming→(jb jobs i).release≤s.now
 run:∀ i,s.running=some i→∃ rest,s.q (jb jobs i).task=i :: rest
 nodup:s.ready.Nodup
 ready:∀ t,t∈s.ready↔(s.q t≠[]∧∀ i,s.running=some i→(jb jobs i).task≠t)
 left:∀ t,∀ i∈s.q t,s.left i=(jb jobs i).work - atI r.done (i:Int)
 cut:∀ t,∀ i∈s.q t,CutInv (jb jobs i).cuts (atI r.done (i:Int)) (s.sec i) (s.cuts i)
 sec0:∀ t,∀ i∈s.q t,s.running≠some i→s.sec i=0
structure Tk (jobs:List Job) (s:XS) (r:RS):Prop extends SimC jobs s r where
 runs:∀ i,s.running=some i→r.runs=i
 norun:s.running=none→(r.runs<0∨As (atI jobs r.runs).cuts 0 (atI r.done r.runs)=false)
 within:∀ i,s.running=some i→0<s.sec i→As (jb jobs i).cuts 0 (atI r.done (i:Int))=true
theorem Ao9 {jobs:List Job} {a:Nat}:¬ ltO jobs a a:=by unfold ltO;omega
theorem Ab9 {q:Int}:∀ {cs:List Int} {w:Int},Dl q cs w=true→0≤w→Gb cs≤w
 | [],w,_,h => h
 | x :: r,w,h,hw => by
  simp only [Dl,Bool.and_eq_true,decide_eq_true_eq] at h
  have:=Ab9 h.2 (by omega)
  rw [Jc];omega
variable {l:List Ab} {jobs:List Job} {s:XS} {r:RS} {e:Int}
theorem Dk {i:Nat} (h:i<jobs.length):jb jobs i∈jobs:=Aj (by omega) (by omega)
theorem Script.cuts (S:Script l jobs) {i:Nat} (h:i<jobs.length):(∀ c∈(jb jobs i).cuts,1≤c)∧Gb (jb jobs i).cuts≤(jb jobs i).work:=by
 obtain ⟨q,hq⟩:=S.ok.cuts _ (Dk h)
 exact ⟨Aca hq,Ab9 hq (by have:=(S.ok.work _ (Dk h)).1;omega)⟩
theorem Azq (S:Script l jobs) (h:SimC jobs s r) {i:Nat} {rest:List Nat} (hc:s.coming=i :: rest) (hr:(jb jobs i).release≤s.now):SimC jobs (Ei jobs s i rest) r:=by
 have hi:=h.coming i (by rw [hc];simp)
 have hs:=h.sorted
 rw [hc,List.pairwise_cons] at hs
 have hnot:i ∉ rest:=fun hm => Ao9 (hs.1 i hm)
 have hw:=(S.ok.work _ (Dk hi.1)).1
 have hq:∀ t,(Ei jobs s i rest).q t=if t=(jb jobs i).task then s.q (jb jobs i).task++[i] else s.q t:=fun t => by
  unfold XS.q Ei
  by_cases e:t=(jb jobs i).task
  ·subst e;rw [if_pos rfl];dsimp only;rw [At];rfl
  ·rw [if_neg e];dsimp only;rw [Bz e]
 have hni:∀ t,i ∉ s.q t:=fun t hm => ((h.mem t i).1 hm).2.2.1 (by rw [hc];simp)
 have hmq:∀ {t k},k∈(Ei jobs s i rest).q t→k=i∨(k≠i∧k∈s.q t):=fun {t k} hm => by
  rw [hq] at hm
  by_cases e:k=i
  ·exact .inl e
  ·right
   refine ⟨e,?_⟩
   split at hm
   ·rename_i et
    subst et
    rcases List.mem_append.1 hm with hm | hm
    ·exact hm
    ·exact absurd (List.mem_singleton.1 hm) e
   ·exact hm
 refine { t:=h.t,L:=h.L,ends:=h.ends,coming:=fun k hk => h.coming k (by rw [hc];exact List.mem_cons_of_mem _ hk),sorted:=hs.2,ord:=?_,mem:=?_,asc:=?_,rel:=?_,run:=?_,nodup:=?_,ready:=?_,left:=?_,cut:=?_,sec0:=?_ }
 ·intro k hk hn j hj
  by_cases e:k=i
  ·subst e;exact hs.1 j hj
  ·exact h.ord k hk (by rw [hc];intro hm;rcases List.mem_cons.1 hm with hm | hm;exact e hm;exact hn hm) j (by rw [hc];exact List.mem_cons_of_mem _ hj)
 ·intro t k
  rw [hq]
  by_cases e:k=i
  ·subst e
   constructor
   ·intro hm
    split at hm
    ·rename_i et;exact ⟨hi.1,et.symm,hnot,by rw [hi.2];omega⟩
    ·exact absurd hm (hni t)
   ·rintro ⟨_,et,_,_⟩
    rw [if_pos et.symm];simp
  ·have hm0:=h.mem t k
   rw [hc] at hm0
   constructor
   ·intro hm
    have:k∈s.q t:=by
     split at hm
     ·rename_i et
      subst et
      rcases List.mem_append.1 hm with hm | hm
      ·exact hm
      ·exact absurd (List.mem_singleton.1 hm) e
     ·exact hm
    obtain ⟨a,b,c,d⟩:=hm0.1 this
    exact ⟨a,b,fun hm => c (List.mem_cons_of_mem _ hm),d⟩
   ·rintro ⟨a,b,c,d⟩
    have hm:=hm0.2 ⟨a,b,fun hm => by rcases List.mem_cons.1 hm with hm | hm;exact e hm;exact c hm,d⟩
    split
    ·rename_i et;subst et;exact List.mem_append_left _ hm
    ·exact hm
 ·intro t
  rw [hq]
  split
  ·refine List.pairwise_append.2 ⟨h.asc _,List.pairwise_singleton _ _,fun k hk j hj => ?_⟩
   rw [List.mem_singleton.1 hj]
   obtain ⟨a,b,c,d⟩:=(h.mem _ _).1 hk
   have h1:=h.ord k a c i (by rw [hc];simp)
   rcases Nat.lt_trichotomy k i with h2 | h2 | h2
   ·exact h2
   ·subst h2;exact absurd h1 Ao9
   ·have:=S.mono i k h2 a b.symm
    unfold ltO at h1;omega
  ·exact h.asc t
 ·intro k hk hn
  by_cases e:k=i
  ·subst e;exact hr
  ·exact h.rel k hk (by rw [hc];intro hm;rcases List.mem_cons.1 hm with hm | hm;exact e hm;exact hn hm)
 ·intro k hk
  obtain ⟨rest',h1⟩:=h.run k hk
  rw [hq]
  split
  ·rename_i et
   rw [← et,h1];exact ⟨rest'++[i],rfl⟩
  ·exact ⟨rest',h1⟩
 ·show (if s.q (jb jobs i).task=[] then (jb jobs i).task :: s.ready else s.ready).Nodup
  split
  ·rename_i hq0
   exact List.nodup_cons.2 ⟨fun hm => ((h.ready _).1 hm).1 hq0,h.nodup⟩
  ·exact h.nodup
 ·intro t
  show t∈(if s.q (jb jobs i).task=[] then (jb jobs i).task :: s.ready else s.ready)↔_
  rw [hq]
  have hr0:=h.ready t
  by_cases e:t=(jb jobs i).task
  ·subst e
   rw [if_pos rfl]
   constructor
   ·intro hm
    refine ⟨by simp,fun k hk he => ?_⟩
    obtain ⟨rest',h1⟩:=h.run k hk
    rw [he] at h1
    rw [if_neg (by rw [h1];simp)] at hm
    exact (hr0.1 hm).2 k hk he
   ·rintro ⟨_,h2⟩
    split
    ·simp
    ·rename_i hq0;exact hr0.2 ⟨hq0,h2⟩
  ·rw [if_neg e]
   have:t∈(if s.q (jb jobs i).task=[] then (jb jobs i).task :: s.ready else s.ready)↔t∈s.ready:=by
    split
    ·simp [e]
    ·rfl
   rw [this];exact hr0
 ·intro t k hk
  show at1 s.left i (jb jobs i).work k=_
  rcases hmq hk with rfl | ⟨e,hm⟩
  ·rw [At,hi.2];omega
  ·rw [Bz e];exact h.left t k hm
 ·intro t k hk
  show CutInv _ _ (at1 s.sec i 0 k) (at1 s.cuts i (jb jobs i).cuts k)
  rcases hmq hk with rfl | ⟨e,hm⟩
  ·rw [At,At,hi.2];exact CutInv.new _
  ·rw [Bz e,Bz e];exact h.cut t k hm
 ·intro t k hk hn
  show at1 s.sec i 0 k=0
  rcases hmq hk with rfl | ⟨e,hm⟩
  ·rw [At]
  ·rw [Bz e];exact h.sec0 t k hm hn
theorem Vr (S:Script l jobs) (h:Tk jobs s r) {i:Nat} {rest:List Nat} (hc:s.coming=i :: rest) (hr:(jb jobs i).release≤s.now):Tk jobs (Ei jobs s i rest) r:=by
 refine { Azq S h.toSimC hc hr with runs:=h.runs,norun:=h.norun,within:=fun k hk hs => ?_ }
 have hk':s.running=some k:=hk
 obtain ⟨rest',h1⟩:=h.run k hk'
 have hm:=((h.mem _ k).1 (by rw [h1];simp:k∈s.q (jb jobs k).task)).2.2.1
 have e:k≠i:=fun e => hm (by rw [hc,e];simp)
 have hs':0<at1 s.sec i 0 k:=hs
 rw [Bz e] at hs'
 exact h.within k hk' hs'
theorem Aaq (S:Script l jobs) (h:Tk jobs s r) (hn:∀ i∈s.coming,s.now<(jb jobs i).release) (hin:∀ i,s.running=some i→s.sec i=0) {t:Int} {rd:List Int} (hp:(t :: rd).Perm (back jobs s).ready) (hmin:∀ u∈(back jobs s).ready,(atI l t).P≤(atI l u).P) :
  ∃ i rest,s.q t=i :: rest∧(jb jobs i).task=t∧SimC jobs (chosen (back jobs s) rd i) r∧Bj l jobs r=i∧(chosen (back jobs s) rd i).running=some i∧(∀ u,s.q u≠[]→(atI l t).P≤(atI l u).P)∧(0<(chosen (back jobs s) rd i).sec i∨((chosen (back jobs s) rd i).sec i=0∧(chosen (back jobs s) rd i).cuts i=[])):=by
 have hq:∀ u,(back jobs s).q u=s.q u:=fun u => by unfold back;split<;>rfl
 have hb:∀ u,u∈(back jobs s).ready↔s.q u≠[]:=fun u => by
  unfold back
  cases hr:s.running with
  | none =>
   have:=h.ready u
   simp only [hr] at this ⊢
   rw [this];simp
  | some i =>
   obtain ⟨rest,h1⟩:=h.run i hr
   have:=h.ready u
   simp only [hr] at this ⊢
   rw [List.mem_cons,this]
   constructor
   ·rintro (rfl | h2)
    ·rw [h1];simp
    ·exact h2.1
   ·intro h2
    by_cases e:u=(jb jobs i).task
    ·exact .inl e
    ·exact .inr ⟨h2,fun k hk => by cases hk;exact fun e' => e e'.symm⟩
 have ht:t∈(back jobs s).ready:=hp.mem_iff.1 (by simp)
 have htq:=(hb t).1 ht
 obtain ⟨i,rest,hqt⟩:∃ i rest,s.q t=i :: rest:=by
  cases hh:s.q t with
  | nil => exact absurd hh htq
  | cons i rest => exact ⟨i,rest,rfl⟩
 have him:i∈s.q t:=by rw [hqt];simp
 obtain ⟨hi1,hi2,hi3,hi4⟩:=(h.mem t i).1 him
 have hsec:∀ u,∀ k∈s.q u,s.sec k=0:=fun u k hk => by
  by_cases e:s.running=some k
  ·exact hin k e
  ·exact h.sec0 u k hk e
 have hnd:(back jobs s).ready.Nodup:=by
  unfold back
  cases hr:s.running with
  | none => exact h.nodup
  | some k => exact List.nodup_cons.2 ⟨fun hm => ((h.ready _).1 hm).2 k hr rfl,h.nodup⟩
 have hnd2:=hp.nodup_iff.2 hnd
 rw [List.nodup_cons] at hnd2
 have hrd:∀ u,u∈rd↔s.q u≠[]∧t≠u:=fun u => by
  have:=hp.mem_iff (a:=u)
  rw [hb,List.mem_cons] at this
  rw [← this]
  constructor
  ·intro hu;exact ⟨.inr hu,fun e => hnd2.1 (by rw [e];exact hu)⟩
  ·rintro ⟨rfl | hu,e⟩
   ·exact absurd rfl e
   ·exact hu
 have hmin2:∀ u,s.q u≠[]→(atI l t).P≤(atI l u).P:=fun u hu => hmin u ((hb u).2 hu)
 have hruns:Bj l jobs r=i:=by
  have hout:r.runs<0∨As (atI jobs r.runs).cuts 0 (atI r.done r.runs)=false:=by
   cases hr:s.running with
   | none => exact h.norun hr
   | some k =>
    obtain ⟨rest',h1⟩:=h.run k hr
    have hk:k∈s.q (jb jobs k).task:=by rw [h1];simp
    have h2:=h.cut _ k hk
    rw [h.runs k hr]
    exact .inr (h2.out (S.cuts ((h.mem _ _).1 hk).1).1 (hin k hr))
  unfold Bj
  rw [if_pos hout]
  refine Aa5 ⟨by rw [h.t];exact h.rel i hi1 hi3,hi4⟩ hi1 fun k hk h1 h2 => ?_
  have hkc:k ∉ s.coming:=fun hm => by have:=hn k hm;rw [h.t] at h1;omega
  have hkm:k∈s.q (jb jobs k).task:=(h.mem _ _).2 ⟨hk,rfl,hkc,h2⟩
  have hle:=hmin2 (jb jobs k).task (by intro e;rw [e] at hkm;cases hkm)
  rw [hi2]
  by_cases e:(jb jobs k).task=t
  ·right
   rw [e] at hkm ⊢
   refine ⟨Int.le_refl _,?_⟩
   rw [hqt] at hkm
   rcases List.mem_cons.1 hkm with rfl | hkm
   ·exact Nat.le_refl _
   ·have:=h.asc t
    rw [hqt,List.pairwise_cons] at this
    exact Nat.le_of_lt (this.1 k hkm)
  ·left
   have ht1:=S.ok.task _ (Dk hi1)
   have ht2:=S.ok.task _ (Dk hk)
   rw [hi2] at ht1
   have hne:¬ (atI l (jb jobs k).task).P=(atI l t).P:=fun h => e (S.prio _ _ ht2.1 ht2.2 ht1.1 ht1.2 h)
   omega
 have hcv:=h.cut t i him
 rw [hsec t i him] at hcv
 have hbn:∀ k,(back jobs s).running=some k→False:=fun k => by unfold back;split<;>simp_all
 have hbs:(back jobs s).sec=s.sec∧(back jobs s).cuts=s.cuts∧(back jobs s).left=s.left∧(back jobs s).coming=s.coming∧(back jobs s).now=s.now∧(back jobs s).spans=s.spans∧(back jobs s).ends=s.ends:=by unfold back;split<;>exact ⟨rfl,rfl,rfl,rfl,rfl,rfl,rfl⟩
 generalize hB:back jobs s=B at *
 obtain ⟨b1,b2,b3,b4,b5,b6,b7⟩:=hbs
 have hready:∀ u,u∈rd↔(B.q u≠[]∧∀ k,some i=some k→(jb jobs k).task≠u):=fun u => by
  rw [hrd,hq]
  constructor
  ·rintro ⟨h1,h2⟩;exact ⟨h1,fun k hk => by cases hk;rw [hi2];exact h2⟩
  ·rintro ⟨h1,h2⟩;exact ⟨h1,by have:=h2 i rfl;rwa [hi2] at this⟩
 refine ⟨i,rest,hqt,hi2,?_⟩
 unfold chosen
 rw [b2]
 cases hcc:s.cuts i with
 | nil =>
  refine ⟨?_,hruns,rfl,hmin2,.inr ⟨by show B.sec i=0;rw [b1];exact hsec t i him,by show s.cuts i=[];exact hcc⟩⟩
  refine { t:=by rw [h.t];exact b5.symm,L:=by rw [h.L];exact b6.symm,ends:=by rw [h.ends];exact b7.symm,coming:=?_,sorted:=?_,ord:=?_,mem:=?_,asc:=?_,rel:=?_,run:=?_,nodup:=hnd2.2,ready:=hready,left:=?_,cut:=?_,sec0:=?_ }
  ·dsimp only;rw [b4];exact h.coming
  ·dsimp only;rw [b4];exact h.sorted
  ·dsimp only;rw [b4];exact h.ord
  ·intro u k;show k∈B.q u↔_;dsimp only;rw [hq,b4];exact h.mem u k
  ·intro u;show (B.q u).Pairwise _;rw [hq];exact h.asc u
  ·dsimp only;rw [b4,b5];exact h.rel
  ·intro k hk;cases hk;show ∃ rest,B.q _=_;rw [hi2,hq,hqt];exact ⟨rest,rfl⟩
  ·intro u k hk;have hk':k∈B.q u:=hk;rw [hq] at hk';show B.left k=_;rw [b3];exact h.left u k hk'
  ·intro u k hk;have hk':k∈B.q u:=hk;rw [hq] at hk';show CutInv _ _ (B.sec k) (s.cuts k);rw [b1];exact h.cut u k hk'
  ·intro u k hk _;have hk':k∈B.q u:=hk;rw [hq] at hk';show B.sec k=0;rw [b1];exact hsec u k hk'
 | cons c cs =>
  rw [hcc] at hcv
  have hc1:1≤c:=by
   obtain ⟨pre,e,_⟩:=hcv.is
   exact (S.cuts hi1).1 c (by rw [e];simp)
  refine ⟨?_,hruns,rfl,hmin2,.inl (by show 0<at1 B.sec i c i;rw [At];omega)⟩
  refine { t:=by rw [h.t];exact b5.symm,L:=by rw [h.L];exact b6.symm,ends:=by rw [h.ends];exact b7.symm,coming:=?_,sorted:=?_,ord:=?_,mem:=?_,asc:=?_,rel:=?_,run:=?_,nodup:=hnd2.2,ready:=hready,left:=?_,cut:=?_,sec0:=?_ }
  ·dsimp only;rw [b4];exact h.coming
  ·dsimp only;rw [b4];exact h.sorted
  ·dsimp only;rw [b4];exact h.ord
  ·intro u k;show k∈B.q u↔_;dsimp only;rw [hq,b4];exact h.mem u k
  ·intro u;show (B.q u).Pairwise _;rw [hq];exact h.asc u
  ·dsimp only;rw [b4,b5];exact h.rel
  ·intro k hk;cases hk;show ∃ rest,B.q _=_;rw [hi2,hq,hqt];exact ⟨rest,rfl⟩
  ·intro u k hk;have hk':k∈B.q u:=hk;rw [hq] at hk';show B.left k=_;rw [b3];exact h.left u k hk'
  ·intro u k hk
   have hk':k∈B.q u:=hk
   rw [hq] at hk'
   show CutInv _ _ (at1 B.sec i c k) (at1 s.cuts i cs k)
   by_cases ek:k=i
   ·subst ek;rw [At,At];exact hcv.next (by omega)
   ·rw [Bz ek,Bz ek,b1];exact h.cut u k hk'
  ·intro u k hk hne
   have hk':k∈B.q u:=hk
   rw [hq] at hk'
   have ek:k≠i:=fun e => hne (by rw [e])
   show at1 B.sec i c k=0
   rw [Bz ek,b1];exact hsec u k hk'
theorem Ak0 (h:Tk jobs s r) {i:Nat} (hr:s.running=some i) (hs:0<s.sec i):Bj l jobs r=i:=by
 have h1:=h.runs i hr
 have h2:=h.within i hr hs
 unfold Bj
 rw [h1,if_neg]
 rintro (h3 | h3)
 ·omega
 ·have:As (jb jobs i).cuts 0 (atI r.done (i:Int))=false:=h3
  rw [h2] at this;cases this
theorem Azh {f:Nat→Int} {n i:Nat} (h:∀ k,k<n→0≤f k) (hi:i<n):f i≤D6 f n:=by
 induction n with
 | zero => omega
 | succ n ih =>
  have h1:=Yl (f:=f) (n:=n) fun k hk => h k (by omega)
  have h2:=h n (by omega)
  simp only [D6]
  by_cases e:i=n
  ·subst e;omega
  ·have:=ih (fun k hk => h k (by omega)) (by omega);omega
theorem So (hi:RsInv jobs r) {i:Nat} (h:i<jobs.length) (hd:atI r.done (i:Int)<(jb jobs i).work):0<r.left:=by
 rw [hi.left]
 have:=Azh (f:=fun i => if atI r.done (i:Int)<(atI jobs (i:Int)).work then 1 else 0) (n:=jobs.length) (i:=i) (fun k _ => by split<;>decide) h
 have h2:atI r.done (i:Int)<(atI jobs (i:Int)).work:=hd
 rw [if_pos h2] at this
 omega
theorem At0 (S:Script l jobs) (h:SimC jobs s r) (hi:RsInv jobs r) {i:Nat} (hr:s.running=some i) (hp:Bj l jobs r=i) (hmin:s.sec i=0→∀ u,s.q u≠[]→(atI l (jb jobs i).task).P≤(atI l u).P) {N:Nat} (hN:0<N)
  (hn:(N:Int)≤s.sec i∨(s.sec i=0∧s.cuts i=[]∧(N:Int)≤s.left i∧∀ k∈s.coming,s.now+N≤(jb jobs k).release)) (he:e<0∨s.now+N≤e) :
  ∃ r',Tk jobs (P6 jobs s i N) r'∧RsInv jobs r'∧Bt l jobs e r=Bt l jobs e r'∧Ey jobs r'<Ey jobs r:=by
 obtain ⟨rest,hq⟩:=h.run i hr
 have him:i∈s.q (jb jobs i).task:=by rw [hq];simp
 obtain ⟨hi1,_,hi3,hi4⟩:=(h.mem _ i).1 him
 have hcv:=h.cut _ i him
 have hlf:=h.left _ i him
 obtain ⟨hc1,hc2⟩:=S.cuts hi1
 have hdl:i<r.done.length:=by rw [hi.dlen];exact hi1
 have hsl:s.sec i≤s.left i:=by
  obtain ⟨pre,e1,h1,h2⟩:=hcv.is
  have hpre:Gb pre≤(jb jobs i).work:=by
   have:Gb (jb jobs i).cuts=Gb pre+Gb (s.cuts i):=by rw [e1,Vp]
   have:=Ob fun c hc => hc1 c (show c∈(jb jobs i).cuts by rw [e1];exact List.mem_append_right _ hc)
   omega
  rcases h1 with h1 | ⟨_,h1,_⟩<;>omega
 have hNl:(N:Int)≤s.left i:=by rcases hn with hn | hn<;>omega
 have hticks:∀ k:Nat,k<N→Qg e (rsK jobs r i k)∧Bj l jobs (rsK jobs r i k)=i∧atI r.done (i:Int)+k<(jb jobs i).work:=by
  intro k hk
  have hlt:atI r.done (i:Int)+k<(jb jobs i).work:=by omega
  have hd:∀ j:Nat,atI (rsK jobs r i k).done (j:Int)=if j=i then atI r.done (i:Int)+k else atI r.done (j:Int):=fun j => T1 hdl j
  refine ⟨⟨?_,?_⟩,?_,hlt⟩
  ·show 0<(if atI r.done (i:Int)+k=(jb jobs i).work then r.left - 1 else r.left)
   rw [if_neg (by omega)];exact So hi hi1 hi4
  ·show e<0∨r.t+k<e
   rw [h.t];omega
  ·by_cases k0:k=0
   ·subst k0;rw [Aho hdl (by omega)];exact hp
   ·have hruns:(rsK jobs r i k).runs=i:=if_neg k0
    have hdi:atI (rsK jobs r i k).done ((rsK jobs r i k).runs)=atI r.done (i:Int)+k:=by rw [hruns,hd,if_pos rfl]
    unfold Bj
    rw [hdi,hruns]
    rcases hn with hn | ⟨hn1,hn2,hn3,hn4⟩
    ·have hw:=hcv.in_ (by omega) (k:=(k:Int)) (by omega) (by omega)
     have hw':As (atI jobs (i:Int)).cuts 0 (atI r.done (i:Int)+k)=true:=hw
     rw [if_neg (by rw [hw'];rintro (h | h);omega;cases h)]
    ·have hw:As (atI jobs (i:Int)).cuts 0 (atI r.done (i:Int)+k)=false:=by
      have h1:=hcv.work (n:=(k:Int)) (by omega) (.inr ⟨hn1,hn2⟩)
      refine h1.out hc1 ?_
      omega
     rw [if_pos (.inr hw)]
     have ht:(rsK jobs r i k).t=s.now+k:=by show r.t+k=_;rw [h.t]
     rw [ht]
     refine Aa5 ⟨by have:=h.rel i hi1 hi3;omega,by rw [hd,if_pos rfl];exact hlt⟩ hi1 fun j hj h1 h2 => ?_
     have hjc:j ∉ s.coming:=fun hm => by have:=hn4 j hm;omega
     have hjm:j∈s.q (jb jobs j).task:=by
      by_cases ej:j=i
      ·subst ej;exact him
      ·rw [hd,if_neg ej] at h2
       exact (h.mem _ _).2 ⟨hj,rfl,hjc,h2⟩
     have hle:=hmin hn1 (jb jobs j).task (by intro e;rw [e] at hjm;cases hjm)
     by_cases ej:(jb jobs j).task=(jb jobs i).task
     ·right
      rw [ej] at hjm ⊢
      refine ⟨Int.le_refl _,?_⟩
      rw [hq] at hjm
      rcases List.mem_cons.1 hjm with rfl | hjm
      ·exact Nat.le_refl _
      ·have:=h.asc (jb jobs i).task
       rw [hq,List.pairwise_cons] at this
       exact Nat.le_of_lt (this.1 j hjm)
     ·left
      have ht1:=S.ok.task _ (Dk hi1)
      have ht2:=S.ok.task _ (Dk hj)
      have hne:¬ (atI l (jb jobs j).task).P=(atI l (jb jobs i).task).P:=fun h => ej (S.prio _ _ ht2.1 ht2.2 ht1.1 ht1.2 h)
      omega
 obtain ⟨k1,k2,k3⟩:=Am9 S.ok hi hi1 N hticks hi4
 refine ⟨rsK jobs r i N,?_,k1,k2,by omega⟩
 have hd:∀ j:Nat,atI (rsK jobs r i N).done (j:Int)=if j=i then atI r.done (i:Int)+N else atI r.done (j:Int):=fun j => T1 hdl j
 have hL:(rsK jobs r i N).L=Dm s.spans i s.now N:=by
  show (if N=0 then r.L else Dm r.L i r.t N)=_
  rw [if_neg (by omega),h.L,h.t]
 have hruns:(rsK jobs r i N).runs=i:=if_neg (by omega)
 have hasc:=h.asc (jb jobs i).task
 rw [hq,List.pairwise_cons] at hasc
 have hirest:i ∉ rest:=fun hm => absurd (hasc.1 i hm) (Nat.lt_irrefl _)
 have hnc:∀ k∈s.coming,k≠i:=fun k hk e => hi3 (e ▸ hk)
 have hcut2:=hcv.work (n:=(N:Int)) (by omega) (by rcases hn with hn | hn;exact .inl hn;exact .inr ⟨hn.1,hn.2.1⟩)
 unfold P6
 split
 ·rename_i hz
  have hwk:atI r.done (i:Int)+N=(jb jobs i).work:=by omega
  have hq':∀ u,(at1 s.Q (jb jobs i).task (some (s.q (jb jobs i).task).tail) u).getD []=if u=(jb jobs i).task then rest else s.q u:=fun u => by
   by_cases eu:u=(jb jobs i).task
   ·subst eu;rw [if_pos rfl,At,hq];rfl
   ·rw [if_neg eu,Bz eu];rfl
  have hsub:∀ {u k},k∈(if u=(jb jobs i).task then rest else s.q u)→k≠i∧k∈s.q u:=fun {u k} hk => by
   split at hk
   ·rename_i eu
    subst eu
    exact ⟨fun e => hirest (e ▸ hk),by rw [hq];exact List.mem_cons_of_mem _ hk⟩
   ·rename_i eu
    refine ⟨fun e => eu ?_,hk⟩
    subst e
    exact ((h.mem _ _).1 hk).2.1.symm
  refine { t:=by show r.t+N=s.now+N;rw [h.t],L:=hL,ends:=?_,coming:=?_,sorted:=h.sorted,ord:=h.ord,mem:=?_,asc:=?_,rel:=?_,run:=?_,nodup:=?_,ready:=?_,left:=?_,cut:=?_,sec0:=?_,runs:=?_,norun:=?_,within:=?_ }
  ·show (if atI r.done (i:Int)+N=(jb jobs i).work then r.ends.set i (r.t+N) else r.ends)=s.ends.set i (s.now+N)
   rw [if_pos hwk,h.ends,h.t]
  ·intro k hk;have:=h.coming k hk;rw [hd,if_neg (hnc k hk)];exact this
  ·intro u k
   show k∈(at1 s.Q (jb jobs i).task (some (s.q (jb jobs i).task).tail) u).getD []↔_
   rw [hq',hd]
   constructor
   ·intro hk
    obtain ⟨ek,hm⟩:=hsub hk
    rw [if_neg ek];exact (h.mem u k).1 hm
   ·rintro ⟨a,b,c,d⟩
    split at d
    ·rename_i ek;subst ek;omega
    ·rename_i ek
     have hm:=(h.mem u k).2 ⟨a,b,c,d⟩
     split
     ·rename_i eu
      subst eu
      rw [hq] at hm
      rcases List.mem_cons.1 hm with hm | hm
      ·exact absurd hm ek
      ·exact hm
     ·exact hm
  ·intro u
   show ((at1 s.Q (jb jobs i).task (some (s.q (jb jobs i).task).tail) u).getD []).Pairwise _
   rw [hq']
   split
   ·exact hasc.2
   ·exact h.asc u
  ·intro k hk hkc;have:=h.rel k hk hkc;show _≤s.now+(N:Int);omega
  ·intro k hk;cases hk
  ·show (if (s.q (jb jobs i).task).tail=[] then s.ready else (jb jobs i).task :: s.ready).Nodup
   split
   ·exact h.nodup
   ·exact List.nodup_cons.2 ⟨fun hm => ((h.ready _).1 hm).2 i hr rfl,h.nodup⟩
  ·intro u
   show u∈(if (s.q (jb jobs i).task).tail=[] then s.ready else (jb jobs i).task :: s.ready)↔((at1 s.Q (jb jobs i).task (some (s.q (jb jobs i).task).tail) u).getD []≠[]∧_)
   rw [hq',hq,List.tail_cons]
   have h0:=h.ready u
   by_cases eu:u=(jb jobs i).task
   ·subst eu
    rw [if_pos rfl]
    constructor
    ·intro hm
     refine ⟨fun hre => ?_,fun k hk => by cases hk⟩
     rw [if_pos hre] at hm
     exact (h0.1 hm).2 i hr rfl
    ·rintro ⟨hre,_⟩
     rw [if_neg hre];simp
   ·rw [if_neg eu]
    have h1:u∈(if rest=[] then s.ready else (jb jobs i).task :: s.ready)↔u∈s.ready:=by
     split
     ·rfl
     ·simp [eu]
    rw [h1,h0]
    constructor
    ·rintro ⟨a,b⟩;exact ⟨a,fun k hk => by cases hk⟩
    ·rintro ⟨a,b⟩;exact ⟨a,fun k hk => by rw [hr] at hk;cases hk;exact fun e => eu e.symm⟩
  ·intro u k hk
   have hk':k∈(at1 s.Q (jb jobs i).task (some (s.q (jb jobs i).task).tail) u).getD []:=hk
   rw [hq'] at hk'
   obtain ⟨ek,hm⟩:=hsub hk'
   show at1 s.left i _ k=_
   rw [Bz ek,hd,if_neg ek];exact h.left u k hm
  ·intro u k hk
   have hk':k∈(at1 s.Q (jb jobs i).task (some (s.q (jb jobs i).task).tail) u).getD []:=hk
   rw [hq'] at hk'
   obtain ⟨ek,hm⟩:=hsub hk'
   show CutInv _ _ (at1 s.sec i _ k) (s.cuts k)
   rw [Bz ek,hd,if_neg ek];exact h.cut u k hm
  ·intro u k hk _
   have hk':k∈(at1 s.Q (jb jobs i).task (some (s.q (jb jobs i).task).tail) u).getD []:=hk
   rw [hq'] at hk'
   obtain ⟨ek,hm⟩:=hsub hk'
   show at1 s.sec i _ k=0
   rw [Bz ek]
   exact h.sec0 u k hm fun e => by rw [hr] at e;cases e;exact ek rfl
  ·intro k hk;cases hk
  ·intro _
   right
   rw [hruns,hd,if_pos rfl,hwk]
   exact Mg hc1 (by rw [Int.zero_add];exact hc2)
  ·intro k hk;cases hk
 ·rename_i hz
  have hwk:atI r.done (i:Int)+N<(jb jobs i).work:=by omega
  refine { t:=by show r.t+N=s.now+N;rw [h.t],L:=hL,ends:=?_,coming:=?_,sorted:=h.sorted,ord:=h.ord,mem:=?_,asc:=h.asc,rel:=?_,run:=h.run,nodup:=h.nodup,ready:=h.ready,left:=?_,cut:=?_,sec0:=?_,runs:=?_,norun:=?_,within:=?_ }
  ·show (if atI r.done (i:Int)+N=(jb jobs i).work then r.ends.set i (r.t+N) else r.ends)=s.ends
   rw [if_neg (by omega),h.ends]
  ·intro k hk;have:=h.coming k hk;rw [hd,if_neg (hnc k hk)];exact this
  ·intro u k
   rw [hd]
   show k∈s.q u↔_
   rw [h.mem]
   by_cases ek:k=i
   ·subst ek
    rw [if_pos rfl]
    constructor
    ·rintro ⟨a,b,c,d⟩;exact ⟨a,b,c,hwk⟩
    ·rintro ⟨a,b,c,d⟩;exact ⟨a,b,c,hi4⟩
   ·rw [if_neg ek]
  ·intro k hk hkc;have:=h.rel k hk hkc;show _≤s.now+(N:Int);omega
  ·intro u k hk
   show at1 s.left i _ k=_
   have:=h.left u k hk
   by_cases ek:k=i
   ·subst ek;rw [At,hd,if_pos rfl];omega
   ·rw [Bz ek,hd,if_neg ek];exact this
  ·intro u k hk
   show CutInv _ _ (at1 s.sec i _ k) (s.cuts k)
   by_cases ek:k=i
   ·subst ek;rw [At,hd,if_pos rfl];exact hcut2
   ·rw [Bz ek,hd,if_neg ek];exact h.cut u k hk
  ·intro u k hk hne
   show at1 s.sec i _ k=0
   have hne':s.running≠some k:=hne
   have ek:k≠i:=fun e => hne' (by rw [e];exact hr)
   rw [Bz ek];exact h.sec0 u k hk hne'
  ·intro k hk
   have hk':s.running=some k:=hk
   rw [hr] at hk';cases hk';exact hruns
  ·intro hk
   have hk':s.running=none:=hk
   rw [hr] at hk';cases hk'
  ·intro k hk hs
   have hk':s.running=some k:=hk
   rw [hr] at hk';cases hk'
   have hs':0<at1 s.sec i (max (s.sec i - N) 0) i:=hs
   rw [At] at hs'
   rw [hd,if_pos rfl]
   exact hcv.in_ (by omega) (by omega) (by omega)
theorem Ag9 (h:Tk jobs s r) (hr:s.running=none) (hn:s.ready=[]):∀ u,s.q u=[]:=fun u => by
 cases hq:s.q u with
 | nil => rfl
 | cons i rest =>
  have:=(h.ready u).2 ⟨by rw [hq];simp,fun k hk => by rw [hr] at hk;cases hk⟩
  rw [hn] at this;cases this
theorem Aha (S:Script l jobs) (h:Tk jobs s r) (hi:RsInv jobs r) (hr:s.running=none) (hn:s.ready=[]) {c:Nat} {rest:List Nat} (hc:s.coming=c :: rest) (hlt:s.now<(jb jobs c).release) (he:e<0∨(jb jobs c).release≤e) :
  ∃ r',Tk jobs { s with now:=(jb jobs c).release } r'∧RsInv jobs r'∧Bt l jobs e r=Bt l jobs e r'∧Ey jobs r'<Ey jobs r:=by
 have hq:=Ag9 h hr hn
 obtain ⟨N,hN⟩:∃ N:Nat,(jb jobs c).release - s.now=N:=⟨((jb jobs c).release - s.now).toNat,by omega⟩
 have hcl:=h.coming c (by rw [hc];simp)
 have hs:=h.sorted
 rw [hc,List.pairwise_cons] at hs
 have hge:∀ k∈s.coming,(jb jobs c).release≤(jb jobs k).release:=fun k hk => by
  rw [hc] at hk
  rcases List.mem_cons.1 hk with rfl | hk
  ·exact Int.le_refl _
  ·have:=hs.1 k hk;unfold ltO at this;omega
 have hw:=(S.ok.work _ (Dk hcl.1)).1
 obtain ⟨k1,k2,k3⟩:=Afl (e:=e) S.ok hi (h.norun hr) N fun k hk => ⟨by rw [h.t];omega,So hi hcl.1 (by rw [hcl.2];omega),Ahy fun j hj h1 h2 => by
  rw [h.t] at h1
  have hjc:j ∉ s.coming:=fun hm => by have:=hge j hm;omega
  have:=(h.mem (jb jobs j).task j).2 ⟨hj,rfl,hjc,h2⟩
  rw [hq] at this;cases this⟩
 have hN0:N≠0:=by omega
 try dsimp only at k1 k2 k3
 rw [if_neg hN0] at k1 k2 k3
 refine ⟨_,?_,k1,k2,by omega⟩
 refine { t:=by show r.t+N=_;rw [h.t];dsimp only;omega,L:=h.L,ends:=h.ends,coming:=h.coming,sorted:=h.sorted,ord:=h.ord,mem:=h.mem,asc:=h.asc,rel:=fun k hk hkc => ?_,run:=h.run,nodup:=h.nodup,ready:=h.ready,left:=h.left,cut:=h.cut,sec0:=h.sec0,runs:=fun k hk => ?_,norun:=fun _ => .inl (by show (-1:Int)<0;decide),within:=h.within }
 ·have:=h.rel k hk hkc;show _≤(jb jobs c).release;omega
 ·have hk':s.running=some k:=hk
  rw [hr] at hk';cases hk'
theorem Am3 (S:Script l jobs) (h:Tk jobs s r) (hi:RsInv jobs r) (hr:s.running=none) (hn:s.ready=[]) (he:∀ k∈s.coming,0≤e∧e≤(jb jobs k).release):(Bt l jobs e r).L=s.spans∧(Bt l jobs e r).ends=s.ends:=by
 have hq:=Ag9 h hr hn
 cases hc:s.coming with
 | nil =>
  have hz:¬ 0<r.left:=by
   rw [hi.left]
   intro hp
   obtain ⟨i,h1,h2⟩:=Aam hp
   try dsimp only at h2
   split at h2
   ·rename_i h3
    have:=(h.mem (jb jobs i).task i).2 ⟨h1,rfl,by rw [hc];simp,h3⟩
    rw [hq] at this;cases this
   ·omega
  rw [Lf (fun ho => hz ho.1)]
  exact ⟨h.L,h.ends⟩
 | cons c rest =>
  have hcl:=h.coming c (by rw [hc];simp)
  have hw:=(S.ok.work _ (Dk hcl.1)).1
  have hec:=he c (by rw [hc];simp)
  obtain ⟨N,hN⟩:∃ N:Nat,(e - s.now).toNat=N:=⟨_,rfl⟩
  obtain ⟨k1,k2,k3⟩:=Afl (e:=e) S.ok hi (h.norun hr) N fun k hk => ⟨by rw [h.t];omega,So hi hcl.1 (by rw [hcl.2];omega),Ahy fun j hj h1 h2 => by
   rw [h.t] at h1
   have hjc:j ∉ s.coming:=fun hm => by have:=(he j hm).2;omega
   have:=(h.mem (jb jobs j).task j).2 ⟨hj,rfl,hjc,h2⟩
   rw [hq] at this;cases this⟩
  try dsimp only at k1 k2 k3
  rw [k2,Lf]
  ·split
   ·exact ⟨h.L,h.ends⟩
   ·exact ⟨h.L,h.ends⟩
  ·rintro ⟨_,h2⟩
   have ht:(if N=0 then r else { r with t:=r.t+N,runs:=-1 }:RS).t=s.now+N:=by
    split
    ·rename_i e0;rw [e0,h.t];simp
    ·show r.t+N=_;rw [h.t]
   rw [ht] at h2
   omega
theorem At1 (h:Tk jobs s r) (h0:0≤e) (he:e≤s.now):(Bt l jobs e r).L=s.spans∧(Bt l jobs e r).ends=s.ends:=by
 rw [Lf (fun ho => by have:=ho.2;rw [h.t] at this;omega)]
 exact ⟨h.L,h.ends⟩
def As5 (n:Nat) (o:List Nat):XS:=⟨o,0,[],List.replicate n (-1),none,fun _ => none,[],fun _ => 0,fun _ => 0,fun _ => []⟩
theorem At4 {o:List Nat} (ho:∀ i,i∈o↔i<jobs.length) (hs:o.Pairwise (ltO jobs)):Tk jobs (As5 jobs.length o) (Fm jobs.length):=by
 have h0:∀ i:Nat,i<jobs.length→atI (List.replicate jobs.length (0:Int)) (i:Int)=0:=fun i hi => by
  rw [By (by simpa using hi)];simp
 refine { t:=rfl,L:=rfl,ends:=rfl,coming:=fun i hi => ⟨(ho i).1 hi,h0 i ((ho i).1 hi)⟩,sorted:=hs,ord:=fun k hk hn => absurd ((ho k).2 hk) hn,mem:=fun t i => ⟨fun h => (by cases h),fun ⟨a,_,c,_⟩ => absurd ((ho i).2 a) c⟩,asc:=fun _ => List.Pairwise.nil,rel:=fun k hk hn => absurd ((ho k).2 hk) hn,run:=fun i h => (by cases h),nodup:=List.nodup_nil,ready:=fun t => ⟨fun h => (by cases h),fun h => absurd rfl h.1⟩,left:=fun t i h => (by cases h),cut:=fun t i h => (by cases h),sec0:=fun t i h => (by cases h),runs:=fun i h => (by cases h),norun:=fun _ => .inl (by show (-1:Int)<0;decide),within:=fun i h => (by cases h) }
end Go.L.Try
namespace Go.L.Try
open Go Go.L
theorem Ng {l:List Ab} {jobs:List Job} (h:legalB l jobs=true):Q7 l jobs∧jobs.length≤4096∧(Da l).2=0:=by
 simp only [legalB,Bool.and_eq_true,decide_eq_true_eq] at h
 obtain ⟨⟨h1,h2⟩,h3⟩:=h
 obtain ⟨_,_,hok⟩:=Bc h1
 have key:∀ j∈jobs,(0≤j.task∧j.task<l.length)∧(0≤j.arrive∧j.arrive≤17592186044416)∧j.arrive≤j.release∧j.release≤j.arrive+(atI l j.task).J∧1≤j.work∧j.work≤(atI l j.task).C∧Dl (atI l j.task).Q j.cuts j.work=true∧Cr (atI l j.task):=by
  intro j hj
  obtain ⟨i,hi,rfl⟩:=List.getElem_of_mem hj
  have h4:=Th h3 i hi
  simp only [E7,Bool.and_eq_true,decide_eq_true_eq] at h4
  obtain ⟨h5,h6⟩:=h4
  unfold D0 at h5
  dsimp only at h5
  rw [By hi] at h5 h6
  exact ⟨h5.1,h5.2.1,h5.2.2.2.1,h5.2.2.2.2.1,h5.2.2.2.2.2.1,h5.2.2.2.2.2.2,h6,hok _ (Aj h5.1.1 h5.1.2)⟩
 refine ⟨⟨fun j hj => (key j hj).1,fun j hj => ?_,fun j hj => ?_,fun j hj => ⟨_,(key j hj).2.2.2.2.2.2.1⟩⟩,h2,h1⟩
 ·obtain ⟨a,b,c,d,e,f,g,⟨hr,_⟩⟩:=key j hj
  simp only [Ap] at hr
  unfold Eu;omega
 ·obtain ⟨a,b,c,d,e,f,g,⟨hr,_⟩⟩:=key j hj
  simp only [Ap] at hr
  omega
theorem Pr {l:List Ab} {jobs:List Job} (h:legalB l jobs=true) {i:Nat} (hi:i<jobs.length):D0 l jobs i∧Cr (atI l (atI jobs (i:Int)).task)∧Dl (atI l (atI jobs (i:Int)).task).Q (atI jobs (i:Int)).cuts (atI jobs (i:Int)).work=true:=by
 simp only [legalB,Bool.and_eq_true,decide_eq_true_eq] at h
 obtain ⟨⟨h1,h2⟩,h3⟩:=h
 obtain ⟨_,_,hok⟩:=Bc h1
 have h4:=Th h3 i hi
 simp only [E7,Bool.and_eq_true,decide_eq_true_eq] at h4
 obtain ⟨h5,h6⟩:=h4
 have h7:=h5
 unfold D0 at h7
 dsimp only at h7
 exact ⟨h5,hok _ (Aj h7.1.1 h7.1.2),h6⟩
theorem Ajb {jobs:List Job} {t:Int} {a:Nat} (ha:(atI jobs (a:Int)).task=t):∀ {b:Nat},a<b→(a:Int)≤C4 jobs t b
 | 0,h => by omega
 | b+1,h => by
  unfold C4
  split
  ·omega
  ·rename_i hn
   have:a≠b:=fun e => hn (by rw [← e];exact ha)
   exact Ajb ha (by omega)
theorem Ae7 {l:List Ab} {jobs:List Job} (h:legalB l jobs=true) {a:Nat}:∀ (b:Nat),a<b→b<jobs.length→(atI jobs (a:Int)).task=(atI jobs (b:Int)).task→(atI jobs (a:Int)).arrive+(atI l (atI jobs (b:Int)).task).T≤(atI jobs (b:Int)).arrive:=by
 intro b
 induction b using Nat.strongRecOn with
 | _ b ih =>
  intro hab hb ht
  obtain ⟨h1,h2,h3⟩:=Pr h hb
  unfold D0 at h1
  dsimp only at h1
  have hge:=Ajb (jobs:=jobs) ht hab
  have hin:=Pu jobs (atI jobs (b:Int)).task b
  have htk:=Nh (jobs:=jobs) (task:=(atI jobs (b:Int)).task) (n:=b) (by omega)
  obtain ⟨k,hk⟩:∃ k:Nat,C4 jobs (atI jobs (b:Int)).task b=k:=⟨(C4 jobs (atI jobs (b:Int)).task b).toNat,by omega⟩
  rw [hk] at h1 hge hin htk
  have h5:=h1.2.2.1 (by omega)
  by_cases e:a=k
  ·subst e;exact h5
  ·have h6:=ih k (by omega) (by omega) (by omega) (by rw [ht,htk])
   rw [htk] at h6
   obtain ⟨⟨hr,_⟩,_⟩:=AI h2 h3
   simp only [Ap] at hr
   omega
theorem Mu {l:List Ab} {jobs:List Job} (h:legalB l jobs=true):Script l jobs:=by
 obtain ⟨h1,h2,h3⟩:=Ng h
 refine ⟨h1,fun a b hab hb ht => ?_,fun t u ht1 ht2 hu1 hu2 hp => ?_⟩
 ·obtain ⟨n1,n2,n3⟩:=Pr h hb
  obtain ⟨m1,m2,m3⟩:=Pr h (show a<jobs.length by omega)
  have h4:=Ae7 h b hab hb ht
  unfold D0 at n1 m1
  dsimp only at n1 m1
  have ht':(atI jobs (a:Int)).task=(atI jobs (b:Int)).task:=ht
  rw [ht'] at m1
  obtain ⟨hr,hf⟩:=n2
  simp only [Ap] at hr
  unfold Eg at hf
  show (atI jobs (a:Int)).release<(atI jobs (b:Int)).release
  omega
 ·obtain ⟨_,_,h5⟩:=valid_iff.1 (show B5 l from h3)
  obtain ⟨a,rfl⟩:∃ a:Nat,t=a:=⟨t.toNat,by omega⟩
  obtain ⟨b,rfl⟩:∃ b:Nat,u=b:=⟨u.toNat,by omega⟩
  rcases Nat.lt_trichotomy a b with h6 | h6 | h6
  ·exact absurd hp (h5 a b h6 (by omega)).2
  ·rw [h6]
  ·exact absurd hp.symm (h5 b a h6 (by omega)).2
end Go.L.Try
namespace Go.L.Try
open Go Go.L
def I0 (T p:Int):Nat:=((p+T - 1) / T).toNat
def Af2 (i:Nat) (t:Ab) (k:Nat):Job:=⟨i,k * t.T,k * t.T,t.C,[]⟩
theorem Tt {T p:Int} (hT:1≤T) (k:Nat):k<I0 T p↔(k:Int) * T<p:=by
 unfold I0
 have h1:(k:Int) * T<p↔(k:Int)+1≤(p+T - 1) / T:=by
  rw [Int.le_ediv_iff_mul_le (by omega)]
  rw [Int.add_mul]
  omega
 omega
theorem Aei {A B:List Job} {t:Int} {k:Nat} (hk:k≤A.length):C4 (A++B) t k=C4 A t k:=by
 have h1:=Abu (jobs:=A++B) (task:=t) hk
 rw [List.take_left] at h1
 exact h1.symm
theorem W6 {A B:List Job} {i:Int} (h0:0≤i) (h:i<A.length):atI (A++B) i=atI A i:=by
 unfold atI
 rw [List.getD_eq_getElem?_getD,List.getD_eq_getElem?_getD,GL (by omega)]
theorem Al2 {l:List Ab} {A B:List Job} {i:Nat} (hi:i<A.length):E7 l (A++B) i=E7 l A i:=by
 have e1:atI (A++B) (i:Int)=atI A (i:Int):=W6 (by omega) (by omega)
 have e2:C4 (A++B) (atI A (i:Int)).task i=C4 A (atI A (i:Int)).task i:=Aei (by omega)
 have e3:D0 l (A++B) i↔D0 l A i:=by
  unfold D0
  dsimp only
  rw [e1,e2]
  have h5:=Pu A (atI A (i:Int)).task i
  constructor
  ·rintro ⟨a,b,c,d⟩
   exact ⟨a,b,fun hk => by have:=c hk;rwa [W6 hk (by omega)] at this,d⟩
  ·rintro ⟨a,b,c,d⟩
   exact ⟨a,b,fun hk => by rw [W6 hk (by omega)];exact c hk,d⟩
 unfold E7
 rw [e1]
 congr 1
 exact decide_eq_decide.2 e3
theorem Ae9 {l:List Ab} {A B:List Job}:∀ {n:Nat},n≤A.length→Ii l (A++B) n=Ii l A n
 | 0,_ => rfl
 | n+1,h => by
  show (Ii l (A++B) n && E7 l (A++B) n)=(Ii l A n && E7 l A n)
  rw [Ae9 (by omega),Al2 (by omega)]
theorem Ams {l:List Ab} {A:List Job} {j:Job} (hA:Ii l A A.length=true) (h1:0≤j.task∧j.task<l.length) (h2:0≤j.arrive∧j.arrive≤17592186044416) (h3:∀ x∈A,x.task=j.task→x.arrive+(atI l j.task).T≤j.arrive) (h4:j.arrive≤j.release) (h5:j.release≤j.arrive+(atI l j.task).J) (h6:1≤j.work) (h7:j.work≤(atI l j.task).C) (h8:Dl (atI l j.task).Q j.cuts j.work=true):Ii l (A++[j]) (A++[j]).length=true:=by
 rw [LA,List.length_singleton]
 show (Ii l (A++[j]) A.length && E7 l (A++[j]) A.length)=true
 rw [Ae9 (Nat.le_refl _),hA,Bool.true_and]
 have e:atI (A++[j]) (A.length:Int)=j:=by rw [By (by simp)];simp
 unfold E7
 rw [e,h8,Bool.and_true,decide_eq_true_eq]
 unfold D0
 dsimp only
 rw [e,Aei (Nat.le_refl _)]
 have h9:=Pu A j.task A.length
 refine ⟨h1,h2,fun hk => ?_,h4,h5,h6,h7⟩
 rw [W6 hk (by omega)]
 exact h3 _ (Aj hk (by omega)) (Nh hk)
def ofT (A:List Job) (t:Int):Nat:=A.countP fun j => decide (j.task=t)
structure Laid17 (l:List Ab) (A:List Job):Prop where
 ok:Ii l A A.length=true
 nth:∀ n:Nat,n<A.length→(atI A (n:Int)).release=(atI A (n:Int)).arrive∧(atI A (n:Int)).arrive=ofT (A.take n) (atI A (n:Int)).task * (atI l (atI A (n:Int)).task).T∧(atI A (n:Int)).work=(atI l (atI A (n:Int)).task).C∧(atI A (n:Int)).cuts=[]
theorem Laid17.nil (l:List Ab):Laid17 l []:=⟨rfl,fun n hn => by simp at hn⟩
theorem Laid17.snoc {l:List Ab} {A:List Job} (hA:Laid17 l A) {i:Nat} (hi:i<l.length) (hok:Cr (atI l (i:Int))) {k:Nat} (hk:ofT A i=k) (hx:∀ x∈A,x.task=i→x.arrive+(atI l (i:Int)).T≤k * (atI l (i:Int)).T) (hb:(k:Int) * (atI l (i:Int)).T≤17592186044416):Laid17 l (A++[Af2 i (atI l (i:Int)) k]):=by
 obtain ⟨⟨_,_,tC,tT,tD,tQ,tJ,tP⟩,tf1,tf2,tf3⟩:=hok
 have hpos:0≤(k:Int) * (atI l (i:Int)).T:=Int.mul_nonneg (by omega) (by omega)
 refine ⟨Ams hA.ok ⟨by simp [Af2],by simp [Af2];omega⟩ ⟨hpos,hb⟩ hx (Int.le_refl _) (by simp only [Af2];omega) (by simp only [Af2];omega) (by simp only [Af2];omega) rfl,fun n hn => ?_⟩
 rw [LA,List.length_singleton] at hn
 by_cases h:n<A.length
 ·rw [W6 (by omega) (by omega),List.take_append_of_le_length (by omega)]
  exact hA.nth n h
 ·have e:n=A.length:=by omega
  subst e
  have e:atI (A++[Af2 i (atI l (i:Int)) k]) (A.length:Int)=Af2 i (atI l (i:Int)) k:=by rw [By (by simp)];simp
  rw [e,List.take_left]
  exact ⟨rfl,by rw [show (Af2 i (atI l (i:Int)) k).task=i from rfl,hk];rfl,rfl,rfl⟩
end Go.L.Try
namespace Go.L.Try
open Go Go.L
theorem Ag4 {k:Int}:∀ n:Nat,D6 (fun _ => k) n=k * n
 | 0 => by simp [D6]
 | n+1 => by simp only [D6,Ag4 n,Int.natCast_add,Int.natCast_one,Int.mul_add,Int.mul_one]
theorem Akw {jobs:List Job} {k:Int} (h:∀ j∈jobs,j.work≤k):Hy jobs≤k * jobs.length:=by
 rw [← Ag4]
 exact Vo fun i hi => h _ (Aj (by omega) (by omega))
structure A4p (s:List Ab) (jobs:List Job) (m:Nat):Prop where
 legal:legalB s jobs=true
 len:jobs.length≤m
 sum:Hy jobs≤4 * m
 work:∀ j∈jobs,1≤j.work∧j.work≤4
 task:∀ j∈jobs,0≤j.task∧j.task<s.length
 small:∀ j∈jobs,0≤j.arrive∧j.arrive≤m * 4294967296
end Go.L.Try
namespace Go.L.Try
open Go Go.L
structure A2r (l:List Ab) (j:Job):Prop where
 task:0≤j.task∧j.task<l.length
 arrive:0≤j.arrive∧j.arrive≤17592186044416
 release:j.arrive≤j.release∧j.release≤j.arrive+(atI l j.task).J
 work:1≤j.work∧j.work≤(atI l j.task).C
 cuts:Dl (atI l j.task).Q j.cuts j.work=true
theorem Akf {l:List Ab} {jobs:List Job}:∀ {n:Nat},(∀ i,i<n→E7 l jobs i=true)→Ii l jobs n=true
 | 0,_ => rfl
 | n+1,h => by
  show (Ii l jobs n && E7 l jobs n)=true
  rw [Akf fun i hi => h i (by omega),h n (by omega)];rfl
theorem Awk {l:List Ab} {jobs:List Job} (hv:B5 l) (hn:jobs.length≤4096) (hj:∀ j∈jobs,A2r l j) (hp:∀ a b:Nat,a<b→b<jobs.length→(jb jobs a).task=(jb jobs b).task→(jb jobs a).arrive+(atI l (jb jobs b).task).T≤(jb jobs b).arrive):legalB l jobs=true:=by
 simp only [legalB,Bool.and_eq_true,decide_eq_true_eq]
 refine ⟨⟨hv,hn⟩,Akf fun i hi => ?_⟩
 have h:=hj _ (Dk hi)
 simp only [E7,Bool.and_eq_true,decide_eq_true_eq]
 refine ⟨?_,h.cuts⟩
 unfold D0
 dsimp only
 refine ⟨h.task,h.arrive,fun hk => ?_,h.release.1,h.release.2,h.work.1,h.work.2⟩
 have h1:=Pu jobs (atI jobs (i:Int)).task i
 have h2:=Nh (jobs:=jobs) (task:=(atI jobs (i:Int)).task) (n:=i) hk
 obtain ⟨k,hk2⟩:∃ k:Nat,C4 jobs (atI jobs (i:Int)).task i=k:=⟨(C4 jobs (atI jobs (i:Int)).task i).toNat,by omega⟩
 rw [hk2] at h1 h2 ⊢
 exact hp k i (by omega) hi h2
theorem Ni {l:List Ab} {jobs:List Job} (h:legalB l jobs=true) {i:Nat} (hi:i<jobs.length):A2r l (jb jobs i):=by
 obtain ⟨h1,_,h3⟩:=Pr h hi
 unfold D0 at h1
 dsimp only at h1
 exact ⟨h1.1,h1.2.1,⟨h1.2.2.2.1,h1.2.2.2.2.1⟩,h1.2.2.2.2.2,h3⟩
end Go.L.Try
