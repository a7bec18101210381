/- THE EXECUTIVE, PLAIN: what it does, step by step, is what the document's machine does tick by tick. -/
import Derived.Test.YtnanlkamcgihlaaDoorPb
import Derived.Test.YtnanlkamcgihlaaDoorPa
set_option linter.unusedVariables false
set_option linter.unusedSimpArgs false
set_option maxRecDepth 100000
set_option maxHeartbeats 1000000
namespace Go.L.Try
open Go Go.L
structure XS where
 coming:List Nat
 now:Int
 spans:List Span
 ends:List Int
 running:Option Nat
 Q:Int → Option (List Nat)
 ready:List Int
 left:Nat → Int
 sec:Nat → Int
 cuts:Nat → List Int
def XS.q (s:XS) (t:Int):List Nat:=(s.Q t).getD []
def at1 {α β : Type} [DecidableEq α] (f:α → β) (a:α) (b:β):α → β:=fun x => if x = a then b else f x
theorem Au {α β : Type} [DecidableEq α] {f:α → β} {a:α} {b:β}:at1 f a b a = b:=if_pos rfl
theorem B0 {α β : Type} [DecidableEq α] {f:α → β} {a x:α} {b:β} (h:x ≠ a):at1 f a b x = f x:=if_neg h
abbrev jb (jobs:List Job) (i:Nat):Job:=atI jobs (i:Int)
def Ei (jobs:List Job) (s:XS) (i:Nat) (r:List Nat):XS :=
 { s with coming:=r,Q:=at1 s.Q (jb jobs i).task (some (s.q (jb jobs i).task ++ [i])),ready:=if s.q (jb jobs i).task = [] then (jb jobs i).task :: s.ready else s.ready,left:=at1 s.left i (jb jobs i).work,sec:=at1 s.sec i 0,cuts:=at1 s.cuts i (jb jobs i).cuts }
def back (jobs:List Job) (s:XS):XS:=match s.running with
 | some i => { s with running:=none,ready:=(jb jobs i).task :: s.ready }
 | none => s
def chosen (s:XS) (rd:List Int) (i:Nat):XS:=match s.cuts i with
 | [] => { s with ready:=rd,running:=some i }
 | c :: cs => { s with ready:=rd,running:=some i,sec:=at1 s.sec i c,cuts:=at1 s.cuts i cs }
def Dm (L:List Span) (r t n:Int):List Span :=
 if 0 < (L.length:Int) ∧ (atI L ((L.length:Int) - 1)).job = r ∧ (atI L ((L.length:Int) - 1)).to' = t then L.set ((L.length:Int) - 1).toNat { atI L ((L.length:Int) - 1) with to':=(atI L ((L.length:Int) - 1)).to' + n } else L ++ [⟨r,t,t + n⟩]
def Ph (jobs:List Job) (s:XS) (i:Nat) (n:Int):XS :=
 if s.left i - n = 0 then
  { s with now:=s.now + n,spans:=Dm s.spans i s.now n,left:=at1 s.left i (s.left i - n),sec:=at1 s.sec i (max (s.sec i - n) 0),ends:=s.ends.set i (s.now + n),running:=none,Q:=at1 s.Q (jb jobs i).task (some (s.q (jb jobs i).task).tail),ready:=if (s.q (jb jobs i).task).tail = [] then s.ready else (jb jobs i).task :: s.ready }
 else { s with now:=s.now + n,spans:=Dm s.spans i s.now n,left:=at1 s.left i (s.left i - n),sec:=at1 s.sec i (max (s.sec i - n) 0) }
def En (jobs:List Job) (s:XS):Int:=match s.coming with
 | [] => 9223372036854775807
 | i :: _ => (jb jobs i).release
def J9 (l:List Int):Int:=l.foldr (· + ·) 0
theorem U0 (a b:List Int):J9 (a ++ b) = J9 a + J9 b:=by
 induction a with
 | nil => simp [J9]
 | cons x r ih => simp only [J9,List.cons_append,List.foldr_cons] at ih ⊢;omega
theorem Mj (a:Int) (b:List Int):J9 (a :: b) = a + J9 b:=rfl
theorem Zc:J9 [] = 0:=rfl
structure CutInv (cs:List Int) (done sec:Int) (rem:List Int):Prop where
 is:∃ pre,cs = pre ++ rem ∧ ((done + sec = J9 pre) ∨ (rem = [] ∧ sec = 0 ∧ J9 pre ≤ done)) ∧ (0 < sec → ∃ pre' c,pre = pre' ++ [c] ∧ sec ≤ c)
 nn:0 ≤ sec
theorem Aaz {q:Int}:∀ {cs:List Int} {w:Int},Dc q cs w = true → ∀ c ∈ cs,1 ≤ c
 | [],_,_,c,hc => by cases hc
 | x :: r,w,h,c,hc => by
  simp only [Dc,Bool.and_eq_true,decide_eq_true_eq] at h
  rcases List.mem_cons.1 hc with rfl | hc
  ·exact h.1.1
  ·exact Aaz h.2 c hc
theorem Nx {l:List Int} (h:∀ c ∈ l,1 ≤ c):0 ≤ J9 l:=by
 induction l with
 | nil => exact Int.le_refl _
 | cons x r ih => have:=h x (by simp);have:=ih fun c a => h c (by simp [a]);rw [Mj];omega
theorem Ty (pre rest:List Int) (a d:Int):A5 (pre ++ rest) a d = (A5 pre a d || A5 rest (a + J9 pre) d):=by
 induction pre generalizing a with
 | nil => simp [A5,Zc]
 | cons x r ih => simp only [List.cons_append,A5,ih,Mj,Bool.or_assoc];congr 2;rw [Int.add_assoc]
theorem Adz {l:List Int} {a d:Int} (h:∀ c ∈ l,1 ≤ c) (hd:d ≤ a):A5 l a d = false:=by
 induction l generalizing a with
 | nil => rfl
 | cons x r ih => have:=h x (by simp);simp only [A5,Bool.or_eq_false_iff,decide_eq_false_iff_not];exact ⟨by omega,ih (fun c e => h c (by simp [e])) (by omega)⟩
theorem Pi {l:List Int} {a d:Int} (h:∀ c ∈ l,1 ≤ c) (hd:a + J9 l ≤ d):A5 l a d = false:=by
 induction l generalizing a with
 | nil => rfl
 | cons x r ih =>
  rw [Mj] at hd
  have f:=h x (by simp)
  have:=Nx fun c e => h c (List.mem_cons_of_mem x e)
  simp only [A5,Bool.or_eq_false_iff,decide_eq_false_iff_not];exact ⟨by omega,ih (fun c e => h c (by simp [e])) (by omega)⟩
theorem CutInv.out {cs:List Int} {done sec:Int} {rem:List Int} (h:CutInv cs done sec rem) (hc:∀ c ∈ cs,1 ≤ c) (h0:sec = 0):A5 cs 0 done = false:=by
 obtain ⟨pre,rfl,a,h2⟩:=h.is
 rw [Ty,Bool.or_eq_false_iff,Int.zero_add]
 rcases a with a | ⟨rfl,_,a⟩
 ·exact ⟨Pi (fun c h => hc c (by simp [h])) (by omega),Adz (fun c h => hc c (by simp [h])) (by omega)⟩
 ·exact ⟨Pi (fun c h => hc c (by simp [h])) (by omega),rfl⟩
theorem CutInv.in_ {cs:List Int} {done sec:Int} {rem:List Int} (h:CutInv cs done sec rem) (h0:0 < sec) {k:Int} (hk:0 < k) (hk2:k < sec):A5 cs 0 (done + k) = true:=by
 obtain ⟨pre,rfl,d,h2⟩:=h.is
 obtain ⟨a,c,rfl,e⟩:=h2 h0
 rw [Ty,Ty]
 rcases d with d | ⟨_,d,_⟩
 ·rw [U0,Mj,Zc] at d
  have:A5 [c] (0 + J9 a) (done + k) = true:=by simp only [A5,Bool.or_false,decide_eq_true_eq];omega
  rw [this];simp
 ·omega
theorem CutInv.work {cs:List Int} {done sec:Int} {rem:List Int} (h:CutInv cs done sec rem) {n:Int} (hn:0 < n) (hh:n ≤ sec ∨ (sec = 0 ∧ rem = [])):CutInv cs (done + n) (max (sec - n) 0) rem:=by
 obtain ⟨pre,e,a,h2⟩:=h.is
 have j:=h.nn
 refine ⟨⟨pre,e,?_,fun l => ?_⟩,by omega⟩
 ·rcases hh with hh | ⟨hh,f⟩
  ·rcases a with a | ⟨_,a,_⟩
   ·left;omega
   ·omega
  ·right
   refine ⟨f,by omega,?_⟩
   rcases a with a | ⟨_,_,a⟩ <;> omega
 ·obtain ⟨d,c,g,m⟩:=h2 (by omega)
  exact ⟨d,c,g,by omega⟩
theorem CutInv.next {cs:List Int} {done c:Int} {rem:List Int} (h:CutInv cs done 0 (c :: rem)) (hc:0 ≤ c):CutInv cs done c rem:=by
 obtain ⟨pre,e,a,h2⟩:=h.is
 refine ⟨⟨pre ++ [c],by simp [e],.inl ?_,fun _ => ⟨pre,c,rfl,Int.le_refl _⟩⟩,hc⟩
 rw [U0,Mj,Zc]
 rcases a with a | ⟨a,_⟩
 ·omega
 ·cases a
theorem CutInv.new (cs:List Int):CutInv cs 0 0 cs:=⟨⟨[],rfl,.inl rfl,fun h => absurd h (by decide)⟩,Int.le_refl _⟩
theorem Ai9 (L:List Span) (r t:Int):D0 L r t = Dm L r t 1:=rfl
theorem Abf {α : Type} [Inhabited α] (L:List α) (x:α):atI (L ++ [x]) (((L ++ [x]).length:Int) - 1) = x:=by
 unfold atI
 rw [List.getD_eq_getElem?_getD,LA,List.length_singleton,show (((L.length + 1:Nat):Int) - 1).toNat = L.length by omega,List.getElem?_append_right (Nat.le_refl _),Nat.sub_self];rfl
theorem Ae4 {α : Type} [Inhabited α] {L:List α} (x:α) (h:0 < (L.length:Int)):atI (L.set ((L.length:Int) - 1).toNat x) ((L.length:Int) - 1) = x:=by
 unfold atI
 rw [List.getD_eq_getElem?_getD,List.getElem?_set_self (by omega)];rfl
theorem Ae8 (L:List Span) (r t k:Int):D0 (Dm L r t k) r (t + k) = Dm L r t (k + 1):=by
 unfold Dm
 split
 ·rename_i h
  obtain ⟨a,h2,c⟩:=h
  unfold D0
  rw [List.length_set,Ae4 _ a,if_pos ⟨a,h2,by show (atI L ((L.length:Int) - 1)).to' + k = t + k;omega⟩,List.set_set]
  congr 1
  simp only [Span.mk.injEq,true_and];omega
 ·unfold D0
  rw [Abf,if_pos ⟨by simp,rfl,rfl⟩]
  rw [LA,List.length_singleton,show (((L.length + 1:Nat):Int) - 1).toNat = L.length by omega,List.set_append_right _ _ (Nat.le_refl _),Nat.sub_self]
  simp only [List.set_cons_zero]
  congr 3
  omega
def rsK (jobs:List Job) (r:RS) (i:Nat) (k:Nat):RS :=
 {t:=r.t + k,runs:=if k = 0 then r.runs else i,done:=r.done.set i (atI r.done (i:Int) + k),L:=if k = 0 then r.L else Dm r.L i r.t k,
  ends:=if atI r.done (i:Int) + k = (jb jobs i).work then r.ends.set i (r.t + k) else r.ends,
  left:=if atI r.done (i:Int) + k = (jb jobs i).work then r.left - 1 else r.left }
theorem Afq {l:List Int} {i:Nat} (h:i < l.length):l.set i (atI l (i:Int)) = l:=by
 rw [B8 h];exact List.set_getElem_self h
theorem Af1 {jobs:List Job} {r:RS} {i:Nat} (hi:i < r.done.length) (h:atI r.done (i:Int) ≠ (jb jobs i).work):rsK jobs r i 0 = r:=by
 unfold rsK
 rw [show ((0:Nat):Int) = 0 from rfl,Int.add_zero,Int.add_zero,if_pos rfl,if_pos rfl,if_neg h,if_neg h,Afq hi]
theorem Ash {jobs:List Job} {r:RS} {i k:Nat} (hi:i < r.done.length) (h:atI r.done (i:Int) + k < (jb jobs i).work):Kb jobs (rsK jobs r i k) i = rsK jobs r i (k + 1):=by
 have c:atI (rsK jobs r i k).done (i:Int) = atI r.done (i:Int) + k:=by
  show atI (r.done.set i (atI r.done (i:Int) + k)) (i:Int) = _
  rw [Te hi,if_pos rfl]
 unfold Kb
 rw [c]
 have m:(rsK jobs r i k).ends = r.ends:=by show (if _ then _ else _) = _;rw [if_neg (by omega)]
 have d:(rsK jobs r i k).left = r.left:=by show (if _ then _ else _) = _;rw [if_neg (by omega)]
 have f:(rsK jobs r i k).t = r.t + k:=rfl
 have e:((i:Int)).toNat = i:=by omega
 rw [m,d,f,e]
 unfold rsK
 simp only [List.set_set]
 have j:r.t + (k:Int) + 1 = r.t + ((k + 1:Nat):Int):=by omega
 have g:atI r.done (i:Int) + (k:Int) + 1 = atI r.done (i:Int) + ((k + 1:Nat):Int):=by omega
 rw [j,g,if_neg (Nat.succ_ne_zero k)]
 have l:D0 (if k = 0 then r.L else Dm r.L i r.t k) i (r.t + k) = if k + 1 = 0 then r.L else Dm r.L i r.t ((k + 1:Nat):Int):=by
  rw [if_neg (Nat.succ_ne_zero k)]
  by_cases a:k = 0
  ·subst a;rw [if_pos rfl,Ai9];congr 1;simp
  ·rw [if_neg a,Ae8];congr 1
 rw [l]
theorem Alq {l:List Ac} {jobs:List Job} {e:Int} (hj:Nq l jobs) {r:RS} (hi:RsInv jobs r) {i:Nat} (hin:i < jobs.length) :
  ∀ n:Nat,(∀ k:Nat,k < n → Nr e (rsK jobs r i k) ∧ rsRuns l jobs (rsK jobs r i k) = i ∧ atI r.done (i:Int) + k < (jb jobs i).work) → atI r.done (i:Int) < (jb jobs i).work →
   RsInv jobs (rsK jobs r i n) ∧ Bb l jobs e r = Bb l jobs e (rsK jobs r i n) ∧ Eh jobs (rsK jobs r i n) + n ≤ Eh jobs r
 | 0,_,h0 => by rw [Af1 (by rw [hi.dlen];exact hin) (by omega)];exact ⟨hi,rfl,Nat.le_refl _⟩
 | n + 1,h,h0 => by
  obtain ⟨f,h2,o⟩:=Alq hj hi hin n (fun k p => h k (by omega)) h0
  obtain ⟨a,g,m⟩:=h n (by omega)
  have j:Eg l jobs (rsK jobs r i n) = rsK jobs r i (n + 1):=by
   unfold Eg
   rw [g,if_neg (by omega),Ash (by rw [hi.dlen];exact hin) m]
  have c:=G8 hj f a
  have d:=Nw hj f a
  rw [j] at c d
  exact ⟨c.1,h2.trans d,by omega⟩
theorem Aea {l:List Ac} {jobs:List Job} {e:Int} (hj:Nq l jobs) {r:RS} (hi:RsInv jobs r) (hr:r.runs < 0 ∨ A5 (atI jobs r.runs).cuts 0 (atI r.done r.runs) = false) :
  ∀ n:Nat,(∀ k:Nat,k < n → (e < 0 ∨ r.t + k < e) ∧ 0 < r.left ∧ Bs l jobs r.done (r.t + k) jobs.length < 0) →
   let r':=if n = 0 then r else { r with t:=r.t + n,runs:=-1 }
   RsInv jobs r' ∧ Bb l jobs e r = Bb l jobs e r' ∧ Eh jobs r' + n ≤ Eh jobs r
 | 0,_ => ⟨hi,rfl,Nat.le_refl _⟩
 | n + 1,h => by
  obtain ⟨d,h2,m⟩:=Aea hj hi hr n (fun k z => h k (by omega))
  obtain ⟨x,h5,h6⟩:=h n (by omega)
  dsimp only at d h2 m ⊢
  rw [if_neg (Nat.succ_ne_zero n)]
  generalize hr':(if n = 0 then r else { r with t:=r.t + n,runs:=-1 }:RS) = r' at d h2 m
  have f:r'.t = r.t + n:=by
   rw [← hr'];split
   ·rename_i e;subst e;simp
   ·rfl
  have v:r'.left = r.left:=by rw [← hr'];split <;> rfl
  have j:r'.done = r.done:=by rw [← hr'];split <;> rfl
  have s:r'.L = r.L:=by rw [← hr'];split <;> rfl
  have o:r'.ends = r.ends:=by rw [← hr'];split <;> rfl
  have g:r'.runs < 0 ∨ A5 (atI jobs r'.runs).cuts 0 (atI r'.done r'.runs) = false:=by
   rw [← hr'];split
   ·exact hr
   ·exact .inl (by show (-1:Int) < 0;decide)
  have c:Nr e r':=⟨by omega,by rw [f];exact x⟩
  have a:rsRuns l jobs r' = -1:=by
   unfold rsRuns
   rw [if_pos g,j,f]
   have:=(O2 l jobs r.done (r.t + n) jobs.length).1
   omega
  have y:Eg l jobs r' = { r with t:=r.t + ((n + 1:Nat):Int),runs:=-1 }:=by
   unfold Eg
   rw [a,if_pos (by decide),f]
   cases r;cases r'
   simp only at v j s o ⊢
   subst v j s o
   simp only [RS.mk.injEq,and_true]
   omega
  have p:=G8 hj d c
  have u:=Nw hj d c
  rw [y] at p u
  exact ⟨p.1,h2.trans u,by omega⟩
theorem Agh {l:List Ac} {jobs:List Job} {done:List Int} {t:Int} {i:Nat} (hc:(jb jobs i).release ≤ t ∧ atI done (i:Int) < (jb jobs i).work) {n:Nat} (hi:i < n)
  (hb:∀ k:Nat,k < n → (jb jobs k).release ≤ t → atI done (k:Int) < (jb jobs k).work → (atI l (jb jobs i).task).P < (atI l (jb jobs k).task).P ∨ ((atI l (jb jobs i).task).P ≤ (atI l (jb jobs k).task).P ∧ i ≤ k)):Bs l jobs done t n = i:=by
 have low:∀ m:Nat,m ≤ i → Bs l jobs done t m < 0 ∨ (atI l (jb jobs i).task).P < (atI l (atI jobs (Bs l jobs done t m)).task).P:=by
  intro m
  induction m with
  | zero => intro _;exact .inl (by simp [Bs])
  | succ m ih =>
   intro d
   unfold Bs
   split
   ·rename_i h
    right
    rcases hb m (by omega) h.1 h.2.1 with h1 | h1
    ·exact h1
    ·omega
   ·exact ih (by omega)
 have up:∀ m:Nat,i < m → m ≤ n → Bs l jobs done t m = i:=by
  intro m
  induction m with
  | zero => intro h;omega
  | succ m ih =>
   intro h1 h2
   unfold Bs
   by_cases e:m = i
   ·subst e
    rw [if_pos ⟨hc.1,hc.2,low m (Nat.le_refl _)⟩]
   ·rw [ih (by omega) (by omega),if_neg]
    rintro ⟨a,c,h5 | h5⟩
    ·omega
    ·rcases hb m (by omega) a c with h6 | h6
     ·have:(atI l (jb jobs m).task).P < (atI l (jb jobs i).task).P:=h5
      omega
     ·have:(atI l (jb jobs m).task).P < (atI l (jb jobs i).task).P:=h5
      omega
 exact up n hi (Nat.le_refl _)
theorem Agg {l:List Ac} {jobs:List Job} {done:List Int} {t:Int} {n:Nat} (h:∀ k:Nat,k < n → (jb jobs k).release ≤ t → ¬ atI done (k:Int) < (jb jobs k).work):Bs l jobs done t n < 0:=by
 rcases Int.lt_or_le (Bs l jobs done t n) 0 with h1 | h1
 ·exact h1
 ·have h2:=Kd h1
  have a:=(O2 l jobs done t n).2
  obtain ⟨k,c⟩:∃ k:Nat,Bs l jobs done t n = k:=⟨(Bs l jobs done t n).toNat,by omega⟩
  rw [c] at h2 a
  exact absurd h2.2 (h k (by omega) h2.1)
end Go.L.Try
namespace Go.L.Try
open Go Go.L
structure Script (l:List Ac) (jobs:List Job):Prop where
 ok:Nq l jobs
 mono:∀ a b:Nat,a < b → b < jobs.length → (jb jobs a).task = (jb jobs b).task → (jb jobs a).release < (jb jobs b).release
 prio:∀ t u:Int,0 ≤ t → t < l.length → 0 ≤ u → u < l.length → (atI l t).P = (atI l u).P → t = u
def ltO (jobs:List Job) (a b:Nat):Prop:=(jb jobs a).release < (jb jobs b).release ∨ ((jb jobs a).release = (jb jobs b).release ∧ a < b)
structure SimC (jobs:List Job) (s:XS) (r:RS):Prop where
 t:r.t = s.now
 L:r.L = s.spans
 ends:r.ends = s.ends
 coming:∀ i ∈ s.coming,i < jobs.length ∧ atI r.done (i:Int) = 0
 sorted:s.coming.Pairwise (ltO jobs)
 ord:∀ k,k < jobs.length → k ∉ s.coming → ∀ i ∈ s.coming,ltO jobs k i
 mem:∀ t i,i ∈ s.q t ↔ (i < jobs.length ∧ (jb jobs i).task = t ∧ i ∉ s.coming ∧ atI r.done (i:Int) < (jb jobs i).work)
 asc:∀ t,(s.q t).Pairwise (· < ·)
 rel:∀ i,i < jobs.length → i ∉ s.coming → (jb jobs i).release ≤ s.now
 run:∀ i,s.running = some i → ∃ rest,s.q (jb jobs i).task = i :: rest
 nodup:s.ready.Nodup
 ready:∀ t,t ∈ s.ready ↔ (s.q t ≠ [] ∧ ∀ i,s.running = some i → (jb jobs i).task ≠ t)
 left:∀ t,∀ i ∈ s.q t,s.left i = (jb jobs i).work - atI r.done (i:Int)
 cut:∀ t,∀ i ∈ s.q t,CutInv (jb jobs i).cuts (atI r.done (i:Int)) (s.sec i) (s.cuts i)
 sec0:∀ t,∀ i ∈ s.q t,s.running ≠ some i → s.sec i = 0
structure Sr (jobs:List Job) (s:XS) (r:RS):Prop extends SimC jobs s r where
 runs:∀ i,s.running = some i → r.runs = i
 norun:s.running = none → (r.runs < 0 ∨ A5 (atI jobs r.runs).cuts 0 (atI r.done r.runs) = false)
 within:∀ i,s.running = some i → 0 < s.sec i → A5 (jb jobs i).cuts 0 (atI r.done (i:Int)) = true
theorem Anr {jobs:List Job} {a:Nat}:¬ ltO jobs a a:=by unfold ltO;omega
theorem Aay {q:Int}:∀ {cs:List Int} {w:Int},Dc q cs w = true → 0 ≤ w → J9 cs ≤ w
 | [],w,_,h => h
 | x :: r,w,h,hw => by
  simp only [Dc,Bool.and_eq_true,decide_eq_true_eq] at h
  have:=Aay h.2 (by omega)
  rw [Mj];omega
variable {l:List Ac} {jobs:List Job} {s:XS} {r:RS} {e:Int}
theorem D6 {i:Nat} (h:i < jobs.length):jb jobs i ∈ jobs:=Al (by omega) (by omega)
theorem Script.cuts (S:Script l jobs) {i:Nat} (h:i < jobs.length):(∀ c ∈ (jb jobs i).cuts,1 ≤ c) ∧ J9 (jb jobs i).cuts ≤ (jb jobs i).work:=by
 obtain ⟨q,a⟩:=S.ok.cuts _ (D6 h)
 exact ⟨Aaz a,Aay a (by have:=(S.ok.work _ (D6 h)).1;omega)⟩
theorem Aw2 (S:Script l jobs) (h:SimC jobs s r) {i:Nat} {rest:List Nat} (hc:s.coming = i :: rest) (hr:(jb jobs i).release ≤ s.now):SimC jobs (Ei jobs s i rest) r:=by
 have hi:=h.coming i (by rw [hc];simp)
 have hs:=h.sorted
 rw [hc,List.pairwise_cons] at hs
 have z:i ∉ rest:=fun hm => Anr (hs.1 i hm)
 have hw:=(S.ok.work _ (D6 hi.1)).1
 have x:∀ t,(Ei jobs s i rest).q t = if t = (jb jobs i).task then s.q (jb jobs i).task ++ [i] else s.q t:=fun t => by
  unfold XS.q Ei
  by_cases e:t = (jb jobs i).task
  ·subst e;rw [if_pos rfl];dsimp only;rw [Au];rfl
  ·rw [if_neg e];dsimp only;rw [B0 e]
 have a0:∀ t,i ∉ s.q t:=fun t hm => ((h.mem t i).1 hm).2.2.1 (by rw [hc];simp)
 have u:∀ {t k},k ∈ (Ei jobs s i rest).q t → k = i ∨ (k ≠ i ∧ k ∈ s.q t):=fun {t k} hm => by
  rw [x] at hm
  by_cases e:k = i
  ·exact .inl e
  ·right
   refine ⟨e,?_⟩
   split at hm
   ·rename_i m
    subst m
    rcases List.mem_append.1 hm with hm | hm
    ·exact hm
    ·exact absurd (List.mem_singleton.1 hm) e
   ·exact hm
 refine { t:=h.t,L:=h.L,ends:=h.ends,coming:=fun k f => h.coming k (by rw [hc];exact List.mem_cons_of_mem _ f),sorted:=hs.2,ord:=?_,mem:=?_,asc:=?_,rel:=?_,run:=?_,nodup:=?_,ready:=?_,left:=?_,cut:=?_,sec0:=?_ }
 ·intro k f y j hj
  by_cases e:k = i
  ·subst e;exact hs.1 j hj
  ·exact h.ord k f (by rw [hc];intro hm;rcases List.mem_cons.1 hm with hm | hm;exact e hm;exact y hm) j (by rw [hc];exact List.mem_cons_of_mem _ hj)
 ·intro t k
  rw [x]
  by_cases e:k = i
  ·subst e
   constructor
   ·intro hm
    split at hm
    ·rename_i m;exact ⟨hi.1,m.symm,z,by rw [hi.2];omega⟩
    ·exact absurd hm (a0 t)
   ·rintro ⟨_,m,_,_⟩
    rw [if_pos m.symm];simp
  ·have v:=h.mem t k
   rw [hc] at v
   constructor
   ·intro hm
    have:k ∈ s.q t:=by
     split at hm
     ·rename_i m
      subst m
      rcases List.mem_append.1 hm with hm | hm
      ·exact hm
      ·exact absurd (List.mem_singleton.1 hm) e
     ·exact hm
    obtain ⟨a,b,c,d⟩:=v.1 this
    exact ⟨a,b,fun hm => c (List.mem_cons_of_mem _ hm),d⟩
   ·rintro ⟨a,b,c,d⟩
    have hm:=v.2 ⟨a,b,fun hm => by rcases List.mem_cons.1 hm with hm | hm;exact e hm;exact c hm,d⟩
    split
    ·rename_i m;subst m;exact List.mem_append_left _ hm
    ·exact hm
 ·intro t
  rw [x]
  split
  ·refine List.pairwise_append.2 ⟨h.asc _,List.pairwise_singleton _ _,fun k f j hj => ?_⟩
   rw [List.mem_singleton.1 hj]
   obtain ⟨a,b,c,d⟩:=(h.mem _ _).1 f
   have n:=h.ord k a c i (by rw [hc];simp)
   rcases Nat.lt_trichotomy k i with h2 | h2 | h2
   ·exact h2
   ·subst h2;exact absurd n Anr
   ·have:=S.mono i k h2 a b.symm
    unfold ltO at n;omega
  ·exact h.asc t
 ·intro k f y
  by_cases e:k = i
  ·subst e;exact hr
  ·exact h.rel k f (by rw [hc];intro hm;rcases List.mem_cons.1 hm with hm | hm;exact e hm;exact y hm)
 ·intro k f
  obtain ⟨g,n⟩:=h.run k f
  rw [x]
  split
  ·rename_i m
   rw [← m,n];exact ⟨g ++ [i],rfl⟩
  ·exact ⟨g,n⟩
 ·show (if s.q (jb jobs i).task = [] then (jb jobs i).task :: s.ready else s.ready).Nodup
  split
  ·rename_i o
   exact List.nodup_cons.2 ⟨fun hm => ((h.ready _).1 hm).1 o,h.nodup⟩
  ·exact h.nodup
 ·intro t
  show t ∈ (if s.q (jb jobs i).task = [] then (jb jobs i).task :: s.ready else s.ready) ↔ _
  rw [x]
  have p:=h.ready t
  by_cases e:t = (jb jobs i).task
  ·subst e
   rw [if_pos rfl]
   constructor
   ·intro hm
    refine ⟨by simp,fun k f he => ?_⟩
    obtain ⟨g,n⟩:=h.run k f
    rw [he] at n
    rw [if_neg (by rw [n];simp)] at hm
    exact (p.1 hm).2 k f he
   ·rintro ⟨_,h2⟩
    split
    ·simp
    ·rename_i o;exact p.2 ⟨o,h2⟩
  ·rw [if_neg e]
   have:t ∈ (if s.q (jb jobs i).task = [] then (jb jobs i).task :: s.ready else s.ready) ↔ t ∈ s.ready:=by
    split
    ·simp [e]
    ·rfl
   rw [this];exact p
 ·intro t k f
  show at1 s.left i (jb jobs i).work k = _
  rcases u f with rfl | ⟨e,hm⟩
  ·rw [Au,hi.2];omega
  ·rw [B0 e];exact h.left t k hm
 ·intro t k f
  show CutInv _ _ (at1 s.sec i 0 k) (at1 s.cuts i (jb jobs i).cuts k)
  rcases u f with rfl | ⟨e,hm⟩
  ·rw [Au,Au,hi.2];exact CutInv.new _
  ·rw [B0 e,B0 e];exact h.cut t k hm
 ·intro t k f y
  show at1 s.sec i 0 k = 0
  rcases u f with rfl | ⟨e,hm⟩
  ·rw [Au]
  ·rw [B0 e];exact h.sec0 t k hm y
theorem U1 (S:Script l jobs) (h:Sr jobs s r) {i:Nat} {rest:List Nat} (hc:s.coming = i :: rest) (hr:(jb jobs i).release ≤ s.now):Sr jobs (Ei jobs s i rest) r:=by
 refine { Aw2 S h.toSimC hc hr with runs:=h.runs,norun:=h.norun,within:=fun k f m => ?_ }
 have c:s.running = some k:=f
 obtain ⟨d,j⟩:=h.run k c
 have g:=((h.mem _ k).1 (by rw [j];simp:k ∈ s.q (jb jobs k).task)).2.2.1
 have e:k ≠ i:=fun e => g (by rw [hc,e];simp)
 have a:0 < at1 s.sec i 0 k:=m
 rw [B0 e] at a
 exact h.within k c a
theorem Zh (S:Script l jobs) (h:Sr jobs s r) (hn:∀ i ∈ s.coming,s.now < (jb jobs i).release) (hin:∀ i,s.running = some i → s.sec i = 0) {t:Int} {rd:List Int} (hp:(t :: rd).Perm (back jobs s).ready) (hmin:∀ u ∈ (back jobs s).ready,(atI l t).P ≤ (atI l u).P) :
  ∃ i rest,s.q t = i :: rest ∧ (jb jobs i).task = t ∧ SimC jobs (chosen (back jobs s) rd i) r ∧ rsRuns l jobs r = i ∧ (chosen (back jobs s) rd i).running = some i ∧ (∀ u,s.q u ≠ [] → (atI l t).P ≤ (atI l u).P) ∧ (0 < (chosen (back jobs s) rd i).sec i ∨ ((chosen (back jobs s) rd i).sec i = 0 ∧ (chosen (back jobs s) rd i).cuts i = [])):=by
 have hq:∀ u,(back jobs s).q u = s.q u:=fun u => by unfold back;split <;> rfl
 have hb:∀ u,u ∈ (back jobs s).ready ↔ s.q u ≠ []:=fun u => by
  unfold back
  cases hr:s.running with
  | none =>
   have:=h.ready u
   simp only [hr] at this ⊢
   rw [this];simp
  | some i =>
   obtain ⟨rest,h1⟩:=h.run i hr
   have:=h.ready u
   simp only [hr] at this ⊢
   rw [List.mem_cons,this]
   constructor
   ·rintro (rfl | h2)
    ·rw [h1];simp
    ·exact h2.1
   ·intro h2
    by_cases e:u = (jb jobs i).task
    ·exact .inl e
    ·exact .inr ⟨h2,fun k hk => by cases hk;exact fun e' => e e'.symm⟩
 have ht:t ∈ (back jobs s).ready:=hp.mem_iff.1 (by simp)
 have htq:=(hb t).1 ht
 obtain ⟨i,rest,hqt⟩:∃ i rest,s.q t = i :: rest:=by
  cases hh:s.q t with
  | nil => exact absurd hh htq
  | cons i rest => exact ⟨i,rest,rfl⟩
 have him:i ∈ s.q t:=by rw [hqt];simp
 obtain ⟨hi1,hi2,hi3,hi4⟩:=(h.mem t i).1 him
 have hsec:∀ u,∀ k ∈ s.q u,s.sec k = 0:=fun u k hk => by
  by_cases e:s.running = some k
  ·exact hin k e
  ·exact h.sec0 u k hk e
 have hnd:(back jobs s).ready.Nodup:=by
  unfold back
  cases hr:s.running with
  | none => exact h.nodup
  | some k => exact List.nodup_cons.2 ⟨fun hm => ((h.ready _).1 hm).2 k hr rfl,h.nodup⟩
 have hnd2:=hp.nodup_iff.2 hnd
 rw [List.nodup_cons] at hnd2
 have hrd:∀ u,u ∈ rd ↔ s.q u ≠ [] ∧ t ≠ u:=fun u => by
  have:=hp.mem_iff (a:=u)
  rw [hb,List.mem_cons] at this
  rw [← this]
  constructor
  ·intro hu;exact ⟨.inr hu,fun e => hnd2.1 (by rw [e];exact hu)⟩
  ·rintro ⟨rfl | hu,e⟩
   ·exact absurd rfl e
   ·exact hu
 have hmin2:∀ u,s.q u ≠ [] → (atI l t).P ≤ (atI l u).P:=fun u hu => hmin u ((hb u).2 hu)
 have hruns:rsRuns l jobs r = i:=by
  have hout:r.runs < 0 ∨ A5 (atI jobs r.runs).cuts 0 (atI r.done r.runs) = false:=by
   cases hr:s.running with
   | none => exact h.norun hr
   | some k =>
    obtain ⟨rest',h1⟩:=h.run k hr
    have hk:k ∈ s.q (jb jobs k).task:=by rw [h1];simp
    have h2:=h.cut _ k hk
    rw [h.runs k hr]
    exact .inr (h2.out (S.cuts ((h.mem _ _).1 hk).1).1 (hin k hr))
  unfold rsRuns
  rw [if_pos hout]
  refine Agh ⟨by rw [h.t];exact h.rel i hi1 hi3,hi4⟩ hi1 fun k hk h1 h2 => ?_
  have hkc:k ∉ s.coming:=fun hm => by have:=hn k hm;rw [h.t] at h1;omega
  have hkm:k ∈ s.q (jb jobs k).task:=(h.mem _ _).2 ⟨hk,rfl,hkc,h2⟩
  have hle:=hmin2 (jb jobs k).task (by intro e;rw [e] at hkm;cases hkm)
  rw [hi2]
  by_cases e:(jb jobs k).task = t
  ·right
   rw [e] at hkm ⊢
   refine ⟨Int.le_refl _,?_⟩
   rw [hqt] at hkm
   rcases List.mem_cons.1 hkm with rfl | hkm
   ·exact Nat.le_refl _
   ·have:=h.asc t
    rw [hqt,List.pairwise_cons] at this
    exact Nat.le_of_lt (this.1 k hkm)
  ·left
   have ht1:=S.ok.task _ (D6 hi1)
   have ht2:=S.ok.task _ (D6 hk)
   rw [hi2] at ht1
   have hne:¬ (atI l (jb jobs k).task).P = (atI l t).P:=fun h => e (S.prio _ _ ht2.1 ht2.2 ht1.1 ht1.2 h)
   omega
 have hcv:=h.cut t i him
 rw [hsec t i him] at hcv
 have hbn:∀ k,(back jobs s).running = some k → False:=fun k => by unfold back;split <;> simp_all
 have hbs:(back jobs s).sec = s.sec ∧ (back jobs s).cuts = s.cuts ∧ (back jobs s).left = s.left ∧ (back jobs s).coming = s.coming ∧ (back jobs s).now = s.now ∧ (back jobs s).spans = s.spans ∧ (back jobs s).ends = s.ends:=by unfold back;split <;> exact ⟨rfl,rfl,rfl,rfl,rfl,rfl,rfl⟩
 generalize hB:back jobs s = B at *
 obtain ⟨b1,b2,b3,b4,b5,b6,b7⟩:=hbs
 have hready:∀ u,u ∈ rd ↔ (B.q u ≠ [] ∧ ∀ k,some i = some k → (jb jobs k).task ≠ u):=fun u => by
  rw [hrd,hq]
  constructor
  ·rintro ⟨h1,h2⟩;exact ⟨h1,fun k hk => by cases hk;rw [hi2];exact h2⟩
  ·rintro ⟨h1,h2⟩;exact ⟨h1,by have:=h2 i rfl;rwa [hi2] at this⟩
 refine ⟨i,rest,hqt,hi2,?_⟩
 unfold chosen
 rw [b2]
 cases hcc:s.cuts i with
 | nil =>
  refine ⟨?_,hruns,rfl,hmin2,.inr ⟨by show B.sec i = 0;rw [b1];exact hsec t i him,by show s.cuts i = [];exact hcc⟩⟩
  refine { t:=by rw [h.t];exact b5.symm,L:=by rw [h.L];exact b6.symm,ends:=by rw [h.ends];exact b7.symm,coming:=?_,sorted:=?_,ord:=?_,mem:=?_,asc:=?_,rel:=?_,run:=?_,nodup:=hnd2.2,ready:=hready,left:=?_,cut:=?_,sec0:=?_ }
  ·dsimp only;rw [b4];exact h.coming
  ·dsimp only;rw [b4];exact h.sorted
  ·dsimp only;rw [b4];exact h.ord
  ·intro u k;show k ∈ B.q u ↔ _;dsimp only;rw [hq,b4];exact h.mem u k
  ·intro u;show (B.q u).Pairwise _;rw [hq];exact h.asc u
  ·dsimp only;rw [b4,b5];exact h.rel
  ·intro k hk;cases hk;show ∃ rest,B.q _ = _;rw [hi2,hq,hqt];exact ⟨rest,rfl⟩
  ·intro u k hk;have hk':k ∈ B.q u:=hk;rw [hq] at hk';show B.left k = _;rw [b3];exact h.left u k hk'
  ·intro u k hk;have hk':k ∈ B.q u:=hk;rw [hq] at hk';show CutInv _ _ (B.sec k) (s.cuts k);rw [b1];exact h.cut u k hk'
  ·intro u k hk _;have hk':k ∈ B.q u:=hk;rw [hq] at hk';show B.sec k = 0;rw [b1];exact hsec u k hk'
 | cons c cs =>
  rw [hcc] at hcv
  have hc1:1 ≤ c:=by
   obtain ⟨pre,e,_⟩:=hcv.is
   exact (S.cuts hi1).1 c (by rw [e];simp)
  refine ⟨?_,hruns,rfl,hmin2,.inl (by show 0 < at1 B.sec i c i;rw [Au];omega)⟩
  refine { t:=by rw [h.t];exact b5.symm,L:=by rw [h.L];exact b6.symm,ends:=by rw [h.ends];exact b7.symm,coming:=?_,sorted:=?_,ord:=?_,mem:=?_,asc:=?_,rel:=?_,run:=?_,nodup:=hnd2.2,ready:=hready,left:=?_,cut:=?_,sec0:=?_ }
  ·dsimp only;rw [b4];exact h.coming
  ·dsimp only;rw [b4];exact h.sorted
  ·dsimp only;rw [b4];exact h.ord
  ·intro u k;show k ∈ B.q u ↔ _;dsimp only;rw [hq,b4];exact h.mem u k
  ·intro u;show (B.q u).Pairwise _;rw [hq];exact h.asc u
  ·dsimp only;rw [b4,b5];exact h.rel
  ·intro k hk;cases hk;show ∃ rest,B.q _ = _;rw [hi2,hq,hqt];exact ⟨rest,rfl⟩
  ·intro u k hk;have hk':k ∈ B.q u:=hk;rw [hq] at hk';show B.left k = _;rw [b3];exact h.left u k hk'
  ·intro u k hk
   have hk':k ∈ B.q u:=hk
   rw [hq] at hk'
   show CutInv _ _ (at1 B.sec i c k) (at1 s.cuts i cs k)
   by_cases ek:k = i
   ·subst ek;rw [Au,Au];exact hcv.next (by omega)
   ·rw [B0 ek,B0 ek,b1];exact h.cut u k hk'
  ·intro u k hk hne
   have hk':k ∈ B.q u:=hk
   rw [hq] at hk'
   have ek:k ≠ i:=fun e => hne (by rw [e])
   show at1 B.sec i c k = 0
   rw [B0 ek,b1];exact hsec u k hk'
theorem Ajv (h:Sr jobs s r) {i:Nat} (hr:s.running = some i) (hs:0 < s.sec i):rsRuns l jobs r = i:=by
 have a:=h.runs i hr
 have h2:=h.within i hr hs
 unfold rsRuns
 rw [a,if_neg]
 rintro (h3 | h3)
 ·omega
 ·have:A5 (jb jobs i).cuts 0 (atI r.done (i:Int)) = false:=h3
  rw [h2] at this;cases this
theorem Awv {f:Nat → Int} {n i:Nat} (h:∀ k,k < n → 0 ≤ f k) (hi:i < n):f i ≤ Dq f n:=by
 induction n with
 | zero => omega
 | succ n ih =>
  have c:=Xk (f:=f) (n:=n) fun k a => h k (by omega)
  have h2:=h n (by omega)
  simp only [Dq]
  by_cases e:i = n
  ·subst e;omega
  ·have:=ih (fun k a => h k (by omega)) (by omega);omega
theorem R0 (hi:RsInv jobs r) {i:Nat} (h:i < jobs.length) (hd:atI r.done (i:Int) < (jb jobs i).work):0 < r.left:=by
 rw [hi.left]
 have:=Awv (f:=fun i => if atI r.done (i:Int) < (atI jobs (i:Int)).work then 1 else 0) (n:=jobs.length) (i:=i) (fun k _ => by split <;> decide) h
 have h2:atI r.done (i:Int) < (atI jobs (i:Int)).work:=hd
 rw [if_pos h2] at this
 omega
theorem Ar3 (S:Script l jobs) (h:SimC jobs s r) (hi:RsInv jobs r) {i:Nat} (hr:s.running = some i) (hp:rsRuns l jobs r = i) (hmin:s.sec i = 0 → ∀ u,s.q u ≠ [] → (atI l (jb jobs i).task).P ≤ (atI l u).P) {N:Nat} (hN:0 < N)
  (hn:(N:Int) ≤ s.sec i ∨ (s.sec i = 0 ∧ s.cuts i = [] ∧ (N:Int) ≤ s.left i ∧ ∀ k ∈ s.coming,s.now + N ≤ (jb jobs k).release)) (he:e < 0 ∨ s.now + N ≤ e) :
  ∃ r',Sr jobs (Ph jobs s i N) r' ∧ RsInv jobs r' ∧ Bb l jobs e r = Bb l jobs e r' ∧ Eh jobs r' < Eh jobs r:=by
 obtain ⟨z,hq⟩:=h.run i hr
 have a6:i ∈ s.q (jb jobs i).task:=by rw [hq];simp
 obtain ⟨v,_,ae,a8⟩:=(h.mem _ i).1 a6
 have a2:=h.cut _ i a6
 have au:=h.left _ i a6
 obtain ⟨ad,am⟩:=S.cuts v
 have ac:i < r.done.length:=by rw [hi.dlen];exact v
 have ay:s.sec i ≤ s.left i:=by
  obtain ⟨pre,e1,h1,h2⟩:=a2.is
  have as:J9 pre ≤ (jb jobs i).work:=by
   have:J9 (jb jobs i).cuts = J9 pre + J9 (s.cuts i):=by rw [e1,U0]
   have:=Nx fun c hc => ad c (show c ∈ (jb jobs i).cuts by rw [e1];exact List.mem_append_right _ hc)
   omega
  rcases h1 with h1 | ⟨_,h1,_⟩ <;> omega
 have ax:(N:Int) ≤ s.left i:=by rcases hn with hn | hn <;> omega
 have a4:∀ k:Nat,k < N → Nr e (rsK jobs r i k) ∧ rsRuns l jobs (rsK jobs r i k) = i ∧ atI r.done (i:Int) + k < (jb jobs i).work:=by
  intro k f
  have af:atI r.done (i:Int) + k < (jb jobs i).work:=by omega
  have p:∀ j:Nat,atI (rsK jobs r i k).done (j:Int) = if j = i then atI r.done (i:Int) + k else atI r.done (j:Int):=fun j => Te ac j
  refine ⟨⟨?_,?_⟩,?_,af⟩
  ·show 0 < (if atI r.done (i:Int) + k = (jb jobs i).work then r.left - 1 else r.left)
   rw [if_neg (by omega)];exact R0 hi v a8
  ·show e < 0 ∨ r.t + k < e
   rw [h.t];omega
  ·by_cases k0:k = 0
   ·subst k0;rw [Af1 ac (by omega)];exact hp
   ·have o:(rsK jobs r i k).runs = i:=if_neg k0
    have an:atI (rsK jobs r i k).done ((rsK jobs r i k).runs) = atI r.done (i:Int) + k:=by rw [o,p,if_pos rfl]
    unfold rsRuns
    rw [an,o]
    rcases hn with hn | ⟨ai,al,av,ar⟩
    ·have hw:=a2.in_ (by omega) (k:=(k:Int)) (by omega) (by omega)
     have aq:A5 (atI jobs (i:Int)).cuts 0 (atI r.done (i:Int) + k) = true:=hw
     rw [if_neg (by rw [aq];rintro (h | h);omega;cases h)]
    ·have hw:A5 (atI jobs (i:Int)).cuts 0 (atI r.done (i:Int) + k) = false:=by
      have h1:=a2.work (n:=(k:Int)) (by omega) (.inr ⟨ai,al⟩)
      refine h1.out ad ?_
      omega
     rw [if_pos (.inr hw)]
     have ht:(rsK jobs r i k).t = s.now + k:=by show r.t + k = _;rw [h.t]
     rw [ht]
     refine Agh ⟨by have:=h.rel i v ae;omega,by rw [p,if_pos rfl];exact af⟩ v fun j hj h1 h2 => ?_
     have ap:j ∉ s.coming:=fun hm => by have:=ar j hm;omega
     have hjm:j ∈ s.q (jb jobs j).task:=by
      by_cases ej:j = i
      ·subst ej;exact a6
      ·rw [p,if_neg ej] at h2
       exact (h.mem _ _).2 ⟨hj,rfl,ap,h2⟩
     have aw:=hmin ai (jb jobs j).task (by intro e;rw [e] at hjm;cases hjm)
     by_cases ej:(jb jobs j).task = (jb jobs i).task
     ·right
      rw [ej] at hjm ⊢
      refine ⟨Int.le_refl _,?_⟩
      rw [hq] at hjm
      rcases List.mem_cons.1 hjm with rfl | hjm
      ·exact Nat.le_refl _
      ·have:=h.asc (jb jobs i).task
       rw [hq,List.pairwise_cons] at this
       exact Nat.le_of_lt (this.1 j hjm)
     ·left
      have ag:=S.ok.task _ (D6 v)
      have ak:=S.ok.task _ (D6 hj)
      have ah:¬ (atI l (jb jobs j).task).P = (atI l (jb jobs i).task).P:=fun h => ej (S.prio _ _ ak.1 ak.2 ag.1 ag.2 h)
      omega
 obtain ⟨k1,k2,k3⟩:=Alq S.ok hi v N a4 a8
 refine ⟨rsK jobs r i N,?_,k1,k2,by omega⟩
 have p:∀ j:Nat,atI (rsK jobs r i N).done (j:Int) = if j = i then atI r.done (i:Int) + N else atI r.done (j:Int):=fun j => Te ac j
 have hL:(rsK jobs r i N).L = Dm s.spans i s.now N:=by
  show (if N = 0 then r.L else Dm r.L i r.t N) = _
  rw [if_neg (by omega),h.L,h.t]
 have o:(rsK jobs r i N).runs = i:=if_neg (by omega)
 have a1:=h.asc (jb jobs i).task
 rw [hq,List.pairwise_cons] at a1
 have a5:i ∉ z:=fun hm => absurd (a1.1 i hm) (Nat.lt_irrefl _)
 have aj:∀ k ∈ s.coming,k ≠ i:=fun k f e => ae (e ▸ f)
 have aa:=a2.work (n:=(N:Int)) (by omega) (by rcases hn with hn | hn;exact .inl hn;exact .inr ⟨hn.1,hn.2.1⟩)
 unfold Ph
 split
 ·rename_i hz
  have a3:atI r.done (i:Int) + N = (jb jobs i).work:=by omega
  have a0:∀ u,(at1 s.Q (jb jobs i).task (some (s.q (jb jobs i).task).tail) u).getD [] = if u = (jb jobs i).task then z else s.q u:=fun u => by
   by_cases y:u = (jb jobs i).task
   ·subst y;rw [if_pos rfl,Au,hq];rfl
   ·rw [if_neg y,B0 y];rfl
  have x:∀ {u k},k ∈ (if u = (jb jobs i).task then z else s.q u) → k ≠ i ∧ k ∈ s.q u:=fun {u k} f => by
   split at f
   ·rename_i y
    subst y
    exact ⟨fun e => a5 (e ▸ f),by rw [hq];exact List.mem_cons_of_mem _ f⟩
   ·rename_i y
    refine ⟨fun e => y ?_,f⟩
    subst e
    exact ((h.mem _ _).1 f).2.1.symm
  refine { t:=by show r.t + N = s.now + N;rw [h.t],L:=hL,ends:=?_,coming:=?_,sorted:=h.sorted,ord:=h.ord,mem:=?_,asc:=?_,rel:=?_,run:=?_,nodup:=?_,ready:=?_,left:=?_,cut:=?_,sec0:=?_,runs:=?_,norun:=?_,within:=?_ }
  ·show (if atI r.done (i:Int) + N = (jb jobs i).work then r.ends.set i (r.t + N) else r.ends) = s.ends.set i (s.now + N)
   rw [if_pos a3,h.ends,h.t]
  ·intro k f;have:=h.coming k f;rw [p,if_neg (aj k f)];exact this
  ·intro u k
   show k ∈ (at1 s.Q (jb jobs i).task (some (s.q (jb jobs i).task).tail) u).getD [] ↔ _
   rw [a0,p]
   constructor
   ·intro f
    obtain ⟨m,hm⟩:=x f
    rw [if_neg m];exact (h.mem u k).1 hm
   ·rintro ⟨a,b,c,d⟩
    split at d
    ·rename_i m;subst m;omega
    ·rename_i m
     have hm:=(h.mem u k).2 ⟨a,b,c,d⟩
     split
     ·rename_i y
      subst y
      rw [hq] at hm
      rcases List.mem_cons.1 hm with hm | hm
      ·exact absurd hm m
      ·exact hm
     ·exact hm
  ·intro u
   show ((at1 s.Q (jb jobs i).task (some (s.q (jb jobs i).task).tail) u).getD []).Pairwise _
   rw [a0]
   split
   ·exact a1.2
   ·exact h.asc u
  ·intro k f a9;have:=h.rel k f a9;show _ ≤ s.now + (N:Int);omega
  ·intro k f;cases f
  ·show (if (s.q (jb jobs i).task).tail = [] then s.ready else (jb jobs i).task :: s.ready).Nodup
   split
   ·exact h.nodup
   ·exact List.nodup_cons.2 ⟨fun hm => ((h.ready _).1 hm).2 i hr rfl,h.nodup⟩
  ·intro u
   show u ∈ (if (s.q (jb jobs i).task).tail = [] then s.ready else (jb jobs i).task :: s.ready) ↔ ((at1 s.Q (jb jobs i).task (some (s.q (jb jobs i).task).tail) u).getD [] ≠ [] ∧ _)
   rw [a0,hq,List.tail_cons]
   have h0:=h.ready u
   by_cases y:u = (jb jobs i).task
   ·subst y
    rw [if_pos rfl]
    constructor
    ·intro hm
     refine ⟨fun ab => ?_,fun k f => by cases f⟩
     rw [if_pos ab] at hm
     exact (h0.1 hm).2 i hr rfl
    ·rintro ⟨ab,_⟩
     rw [if_neg ab];simp
   ·rw [if_neg y]
    have h1:u ∈ (if z = [] then s.ready else (jb jobs i).task :: s.ready) ↔ u ∈ s.ready:=by
     split
     ·rfl
     ·simp [y]
    rw [h1,h0]
    constructor
    ·rintro ⟨a,b⟩;exact ⟨a,fun k f => by cases f⟩
    ·rintro ⟨a,b⟩;exact ⟨a,fun k f => by rw [hr] at f;cases f;exact fun e => y e.symm⟩
  ·intro u k f
   have g:k ∈ (at1 s.Q (jb jobs i).task (some (s.q (jb jobs i).task).tail) u).getD []:=f
   rw [a0] at g
   obtain ⟨m,hm⟩:=x g
   show at1 s.left i _ k = _
   rw [B0 m,p,if_neg m];exact h.left u k hm
  ·intro u k f
   have g:k ∈ (at1 s.Q (jb jobs i).task (some (s.q (jb jobs i).task).tail) u).getD []:=f
   rw [a0] at g
   obtain ⟨m,hm⟩:=x g
   show CutInv _ _ (at1 s.sec i _ k) (s.cuts k)
   rw [B0 m,p,if_neg m];exact h.cut u k hm
  ·intro u k f _
   have g:k ∈ (at1 s.Q (jb jobs i).task (some (s.q (jb jobs i).task).tail) u).getD []:=f
   rw [a0] at g
   obtain ⟨m,hm⟩:=x g
   show at1 s.sec i _ k = 0
   rw [B0 m]
   exact h.sec0 u k hm fun e => by rw [hr] at e;cases e;exact m rfl
  ·intro k f;cases f
  ·intro _
   right
   rw [o,p,if_pos rfl,a3]
   exact Pi ad (by rw [Int.zero_add];exact am)
  ·intro k f;cases f
 ·rename_i hz
  have a3:atI r.done (i:Int) + N < (jb jobs i).work:=by omega
  refine { t:=by show r.t + N = s.now + N;rw [h.t],L:=hL,ends:=?_,coming:=?_,sorted:=h.sorted,ord:=h.ord,mem:=?_,asc:=h.asc,rel:=?_,run:=h.run,nodup:=h.nodup,ready:=h.ready,left:=?_,cut:=?_,sec0:=?_,runs:=?_,norun:=?_,within:=?_ }
  ·show (if atI r.done (i:Int) + N = (jb jobs i).work then r.ends.set i (r.t + N) else r.ends) = s.ends
   rw [if_neg (by omega),h.ends]
  ·intro k f;have:=h.coming k f;rw [p,if_neg (aj k f)];exact this
  ·intro u k
   rw [p]
   show k ∈ s.q u ↔ _
   rw [h.mem]
   by_cases m:k = i
   ·subst m
    rw [if_pos rfl]
    constructor
    ·rintro ⟨a,b,c,d⟩;exact ⟨a,b,c,a3⟩
    ·rintro ⟨a,b,c,d⟩;exact ⟨a,b,c,a8⟩
   ·rw [if_neg m]
  ·intro k f a9;have:=h.rel k f a9;show _ ≤ s.now + (N:Int);omega
  ·intro u k f
   show at1 s.left i _ k = _
   have:=h.left u k f
   by_cases m:k = i
   ·subst m;rw [Au,p,if_pos rfl];omega
   ·rw [B0 m,p,if_neg m];exact this
  ·intro u k f
   show CutInv _ _ (at1 s.sec i _ k) (s.cuts k)
   by_cases m:k = i
   ·subst m;rw [Au,p,if_pos rfl];exact aa
   ·rw [B0 m,p,if_neg m];exact h.cut u k f
  ·intro u k f ah
   show at1 s.sec i _ k = 0
   have a7:s.running ≠ some k:=ah
   have m:k ≠ i:=fun e => a7 (by rw [e];exact hr)
   rw [B0 m];exact h.sec0 u k f a7
  ·intro k f
   have g:s.running = some k:=f
   rw [hr] at g;cases g;exact o
  ·intro f
   have g:s.running = none:=f
   rw [hr] at g;cases g
  ·intro k f hs
   have g:s.running = some k:=f
   rw [hr] at g;cases g
   have ao:0 < at1 s.sec i (max (s.sec i - N) 0) i:=hs
   rw [Au] at ao
   rw [p,if_pos rfl]
   exact a2.in_ (by omega) (by omega) (by omega)
theorem Afo (h:Sr jobs s r) (hr:s.running = none) (hn:s.ready = []):∀ u,s.q u = []:=fun u => by
 cases hq:s.q u with
 | nil => rfl
 | cons i rest =>
  have:=(h.ready u).2 ⟨by rw [hq];simp,fun k a => by rw [hr] at a;cases a⟩
  rw [hn] at this;cases this
theorem Afp (S:Script l jobs) (h:Sr jobs s r) (hi:RsInv jobs r) (hr:s.running = none) (hn:s.ready = []) {c:Nat} {rest:List Nat} (hc:s.coming = c :: rest) (hlt:s.now < (jb jobs c).release) (he:e < 0 ∨ (jb jobs c).release ≤ e) :
  ∃ r',Sr jobs { s with now:=(jb jobs c).release } r' ∧ RsInv jobs r' ∧ Bb l jobs e r = Bb l jobs e r' ∧ Eh jobs r' < Eh jobs r:=by
 have x:=Afo h hr hn
 obtain ⟨N,hN⟩:∃ N:Nat,(jb jobs c).release - s.now = N:=⟨((jb jobs c).release - s.now).toNat,by omega⟩
 have a:=h.coming c (by rw [hc];simp)
 have v:=h.sorted
 rw [hc,List.pairwise_cons] at v
 have g:∀ k ∈ s.coming,(jb jobs c).release ≤ (jb jobs k).release:=fun k hk => by
  rw [hc] at hk
  rcases List.mem_cons.1 hk with rfl | hk
  ·exact Int.le_refl _
  ·have:=v.1 k hk;unfold ltO at this;omega
 have hw:=(S.ok.work _ (D6 a.1)).1
 obtain ⟨f,m,u⟩:=Aea (e:=e) S.ok hi (h.norun hr) N fun k hk => ⟨by rw [h.t];omega,R0 hi a.1 (by rw [a.2];omega),Agg fun j y h1 h2 => by
  rw [h.t] at h1
  have o:j ∉ s.coming:=fun z => by have:=g j z;omega
  have:=(h.mem (jb jobs j).task j).2 ⟨y,rfl,o,h2⟩
  rw [x] at this;cases this⟩
 have p:N ≠ 0:=by omega
 try dsimp only at f m u
 rw [if_neg p] at f m u
 refine ⟨_,?_,f,m,by omega⟩
 refine { t:=by show r.t + N = _;rw [h.t];dsimp only;omega,L:=h.L,ends:=h.ends,coming:=h.coming,sorted:=h.sorted,ord:=h.ord,mem:=h.mem,asc:=h.asc,rel:=fun k hk n => ?_,run:=h.run,nodup:=h.nodup,ready:=h.ready,left:=h.left,cut:=h.cut,sec0:=h.sec0,runs:=fun k hk => ?_,norun:=fun _ => .inl (by show (-1:Int) < 0;decide),within:=h.within }
 ·have:=h.rel k hk n;show _ ≤ (jb jobs c).release;omega
 ·have d:s.running = some k:=hk
  rw [hr] at d;cases d
theorem All (S:Script l jobs) (h:Sr jobs s r) (hi:RsInv jobs r) (hr:s.running = none) (hn:s.ready = []) (he:∀ k ∈ s.coming,0 ≤ e ∧ e ≤ (jb jobs k).release):(Bb l jobs e r).L = s.spans ∧ (Bb l jobs e r).ends = s.ends:=by
 have g:=Afo h hr hn
 cases hc:s.coming with
 | nil =>
  have x:¬ 0 < r.left:=by
   rw [hi.left]
   intro hp
   obtain ⟨i,f,h2⟩:=Za hp
   try dsimp only at h2
   split at h2
   ·rename_i p
    have:=(h.mem (jb jobs i).task i).2 ⟨f,rfl,by rw [hc];simp,p⟩
    rw [g] at this;cases this
   ·omega
  rw [I5 (fun ho => x ho.1)]
  exact ⟨h.L,h.ends⟩
 | cons c rest =>
  have a:=h.coming c (by rw [hc];simp)
  have hw:=(S.ok.work _ (D6 a.1)).1
  have v:=he c (by rw [hc];simp)
  obtain ⟨N,hN⟩:∃ N:Nat,(e - s.now).toNat = N:=⟨_,rfl⟩
  obtain ⟨n,m,z⟩:=Aea (e:=e) S.ok hi (h.norun hr) N fun k hk => ⟨by rw [h.t];omega,R0 hi a.1 (by rw [a.2];omega),Agg fun j hj f h2 => by
   rw [h.t] at f
   have d:j ∉ s.coming:=fun u => by have:=(he j u).2;omega
   have:=(h.mem (jb jobs j).task j).2 ⟨hj,rfl,d,h2⟩
   rw [g] at this;cases this⟩
  try dsimp only at n m z
  rw [m,I5]
  ·split
   ·exact ⟨h.L,h.ends⟩
   ·exact ⟨h.L,h.ends⟩
  ·rintro ⟨_,h2⟩
   have o:(if N = 0 then r else { r with t:=r.t + N,runs:=-1 }:RS).t = s.now + N:=by
    split
    ·rename_i y;rw [y,h.t];simp
    ·show r.t + N = _;rw [h.t]
   rw [o] at h2
   omega
theorem Ar4 (h:Sr jobs s r) (h0:0 ≤ e) (he:e ≤ s.now):(Bb l jobs e r).L = s.spans ∧ (Bb l jobs e r).ends = s.ends:=by
 rw [I5 (fun a => by have:=a.2;rw [h.t] at this;omega)]
 exact ⟨h.L,h.ends⟩
def Ara (n:Nat) (o:List Nat):XS:=⟨o,0,[],List.replicate n (-1),none,fun _ => none,[],fun _ => 0,fun _ => 0,fun _ => []⟩
theorem Ar6 {o:List Nat} (ho:∀ i,i ∈ o ↔ i < jobs.length) (hs:o.Pairwise (ltO jobs)):Sr jobs (Ara jobs.length o) (Cq jobs.length):=by
 have g:∀ i:Nat,i < jobs.length → atI (List.replicate jobs.length (0:Int)) (i:Int) = 0:=fun i d => by
  rw [B8 (by simpa using d)];simp
 refine { t:=rfl,L:=rfl,ends:=rfl,coming:=fun i d => ⟨(ho i).1 d,g i ((ho i).1 d)⟩,sorted:=hs,ord:=fun k e f => absurd ((ho k).2 e) f,mem:=fun t i => ⟨fun h => (by cases h),fun ⟨a,_,c,_⟩ => absurd ((ho i).2 a) c⟩,asc:=fun _ => List.Pairwise.nil,rel:=fun k e f => absurd ((ho k).2 e) f,run:=fun i h => (by cases h),nodup:=List.nodup_nil,ready:=fun t => ⟨fun h => (by cases h),fun h => absurd rfl h.1⟩,left:=fun t i h => (by cases h),cut:=fun t i h => (by cases h),sec0:=fun t i h => (by cases h),runs:=fun i h => (by cases h),norun:=fun _ => .inl (by show (-1:Int) < 0;decide),within:=fun i h => (by cases h) }
end Go.L.Try
namespace Go.L.Try
open Go Go.L
theorem Ahu {l:List Ac} {jobs:List Job} (h:legalB l jobs = true):Nq l jobs ∧ jobs.length ≤ 4096 ∧ (Bz l).2 = 0:=by
 simp only [legalB,Bool.and_eq_true,decide_eq_true_eq] at h
 obtain ⟨⟨t,h2⟩,h3⟩:=h
 obtain ⟨_,_,r⟩:=By t
 have o:∀ j ∈ jobs,(0 ≤ j.task ∧ j.task < l.length) ∧ (0 ≤ j.arrive ∧ j.arrive ≤ 17592186044416) ∧ j.arrive ≤ j.release ∧ j.release ≤ j.arrive + (atI l j.task).J ∧ 1 ≤ j.work ∧ j.work ≤ (atI l j.task).C ∧ Dc (atI l j.task).Q j.cuts j.work = true ∧ Gm (atI l j.task):=by
  intro j n
  obtain ⟨i,u,rfl⟩:=List.getElem_of_mem n
  have s:=Sp h3 i u
  simp only [E7,Bool.and_eq_true,decide_eq_true_eq] at s
  obtain ⟨m,v⟩:=s
  unfold Ec at m
  dsimp only at m
  rw [B8 u] at m v
  exact ⟨m.1,m.2.1,m.2.2.2.1,m.2.2.2.2.1,m.2.2.2.2.2.1,m.2.2.2.2.2.2,v,r _ (Al m.1.1 m.1.2)⟩
 refine ⟨⟨fun j n => (o j n).1,fun j n => ?_,fun j n => ?_,fun j n => ⟨_,(o j n).2.2.2.2.2.2.1⟩⟩,h2,t⟩
 ·obtain ⟨a,b,c,d,e,f,g,⟨p,_⟩⟩:=o j n
  simp only [Am] at p
  unfold Eb;omega
 ·obtain ⟨a,b,c,d,e,f,g,⟨p,_⟩⟩:=o j n
  simp only [Am] at p
  omega
theorem W7 {l:List Ac} {jobs:List Job} (h:legalB l jobs = true) {i:Nat} (hi:i < jobs.length):Ec l jobs i ∧ Gm (atI l (atI jobs (i:Int)).task) ∧ Dc (atI l (atI jobs (i:Int)).task).Q (atI jobs (i:Int)).cuts (atI jobs (i:Int)).work = true:=by
 simp only [legalB,Bool.and_eq_true,decide_eq_true_eq] at h
 obtain ⟨⟨f,h2⟩,h3⟩:=h
 obtain ⟨_,_,c⟩:=By f
 have d:=Sp h3 i hi
 simp only [E7,Bool.and_eq_true,decide_eq_true_eq] at d
 obtain ⟨e,g⟩:=d
 have a:=e
 unfold Ec at a
 dsimp only at a
 exact ⟨e,c _ (Al a.1.1 a.1.2),g⟩
theorem Ahx {jobs:List Job} {t:Int} {a:Nat} (ha:(atI jobs (a:Int)).task = t):∀ {b:Nat},a < b → (a:Int) ≤ Cz jobs t b
 | 0,h => by omega
 | b + 1,h => by
  unfold Cz
  split
  ·omega
  ·rename_i c
   have:a ≠ b:=fun e => c (by rw [← e];exact ha)
   exact Ahx ha (by omega)
theorem Aq5 {l:List Ac} {jobs:List Job} (h:legalB l jobs = true) {a:Nat}:∀ (b:Nat),a < b → b < jobs.length → (atI jobs (a:Int)).task = (atI jobs (b:Int)).task → (atI jobs (a:Int)).arrive + (atI l (atI jobs (b:Int)).task).T ≤ (atI jobs (b:Int)).arrive:=by
 intro b
 induction b using Nat.strongRecOn with
 | _ b ih =>
  intro g t m
  obtain ⟨d,h2,o⟩:=W7 h t
  unfold Ec at d
  dsimp only at d
  have j:=Ahx (jobs:=jobs) m g
  have f:=O9 jobs (atI jobs (b:Int)).task b
  have c:=Mv (jobs:=jobs) (task:=(atI jobs (b:Int)).task) (n:=b) (by omega)
  obtain ⟨k,p⟩:∃ k:Nat,Cz jobs (atI jobs (b:Int)).task b = k:=⟨(Cz jobs (atI jobs (b:Int)).task b).toNat,by omega⟩
  rw [p] at d j f c
  have r:=d.2.2.1 (by omega)
  by_cases e:a = k
  ·subst e;exact r
  ·have u:=ih k (by omega) (by omega) (by omega) (by rw [m,c])
   rw [c] at u
   obtain ⟨⟨s,_⟩,_⟩:=AI h2 o
   simp only [Am] at s
   omega
theorem Sx {l:List Ac} {jobs:List Job} (h:legalB l jobs = true):Script l jobs:=by
 obtain ⟨x,h2,s⟩:=Ahu h
 refine ⟨x,fun a b d j f => ?_,fun t u r z o p n => ?_⟩
 ·obtain ⟨m,y,n3⟩:=W7 h j
  obtain ⟨e,m2,m3⟩:=W7 h (show a < jobs.length by omega)
  have h4:=Aq5 h b d j f
  unfold Ec at m e
  dsimp only at m e
  have c:(atI jobs (a:Int)).task = (atI jobs (b:Int)).task:=f
  rw [c] at e
  obtain ⟨v,hf⟩:=y
  simp only [Am] at v
  unfold C9 at hf
  show (atI jobs (a:Int)).release < (atI jobs (b:Int)).release
  omega
 ·obtain ⟨_,_,g⟩:=valid_iff.1 (show F7 l from s)
  obtain ⟨a,rfl⟩:∃ a:Nat,t = a:=⟨t.toNat,by omega⟩
  obtain ⟨b,rfl⟩:∃ b:Nat,u = b:=⟨u.toNat,by omega⟩
  rcases Nat.lt_trichotomy a b with h6 | h6 | h6
  ·exact absurd n (g a b h6 (by omega)).2
  ·rw [h6]
  ·exact absurd n.symm (g b a h6 (by omega)).2
end Go.L.Try
namespace Go.L.Try
open Go Go.L
def J5 (T p:Int):Nat:=((p + T - 1) / T).toNat
def Aeo (i:Nat) (t:Ac) (k:Nat):Job:=⟨i,k * t.T,k * t.T,t.C,[]⟩
theorem Yp {T p:Int} (hT:1 ≤ T) (k:Nat):k < J5 T p ↔ (k:Int) * T < p:=by
 unfold J5
 have a:(k:Int) * T < p ↔ (k:Int) + 1 ≤ (p + T - 1) / T:=by
  rw [Int.le_ediv_iff_mul_le (by omega)]
  rw [Int.add_mul]
  omega
 omega
theorem Ac7 {A B:List Job} {t:Int} {k:Nat} (hk:k ≤ A.length):Cz (A ++ B) t k = Cz A t k:=by
 have a:=Aaj (jobs:=A ++ B) (task:=t) hk
 rw [List.take_left] at a
 exact a.symm
theorem V7 {A B:List Job} {i:Int} (h0:0 ≤ i) (h:i < A.length):atI (A ++ B) i = atI A i:=by
 unfold atI
 rw [List.getD_eq_getElem?_getD,List.getD_eq_getElem?_getD,GL (by omega)]
theorem Akn {l:List Ac} {A B:List Job} {i:Nat} (hi:i < A.length):E7 l (A ++ B) i = E7 l A i:=by
 have f:atI (A ++ B) (i:Int) = atI A (i:Int):=V7 (by omega) (by omega)
 have j:Cz (A ++ B) (atI A (i:Int)).task i = Cz A (atI A (i:Int)).task i:=Ac7 (by omega)
 have g:Ec l (A ++ B) i ↔ Ec l A i:=by
  unfold Ec
  dsimp only
  rw [f,j]
  have m:=O9 A (atI A (i:Int)).task i
  constructor
  ·rintro ⟨a,b,c,d⟩
   exact ⟨a,b,fun e => by have:=c e;rwa [V7 e (by omega)] at this,d⟩
  ·rintro ⟨a,b,c,d⟩
   exact ⟨a,b,fun e => by rw [V7 e (by omega)];exact c e,d⟩
 unfold E7
 rw [f]
 congr 1
 exact decide_eq_decide.2 g
theorem Adv {l:List Ac} {A B:List Job}:∀ {n:Nat},n ≤ A.length → Ib l (A ++ B) n = Ib l A n
 | 0,_ => rfl
 | n + 1,h => by
  show (Ib l (A ++ B) n && E7 l (A ++ B) n) = (Ib l A n && E7 l A n)
  rw [Adv (by omega),Akn (by omega)]
theorem Alc {l:List Ac} {A:List Job} {j:Job} (hA:Ib l A A.length = true) (h1:0 ≤ j.task ∧ j.task < l.length) (h2:0 ≤ j.arrive ∧ j.arrive ≤ 17592186044416) (h3:∀ x ∈ A,x.task = j.task → x.arrive + (atI l j.task).T ≤ j.arrive) (h4:j.arrive ≤ j.release) (h5:j.release ≤ j.arrive + (atI l j.task).J) (h6:1 ≤ j.work) (h7:j.work ≤ (atI l j.task).C) (h8:Dc (atI l j.task).Q j.cuts j.work = true):Ib l (A ++ [j]) (A ++ [j]).length = true:=by
 rw [LA,List.length_singleton]
 show (Ib l (A ++ [j]) A.length && E7 l (A ++ [j]) A.length) = true
 rw [Adv (Nat.le_refl _),hA,Bool.true_and]
 have e:atI (A ++ [j]) (A.length:Int) = j:=by rw [B8 (by simp)];simp
 unfold E7
 rw [e,h8,Bool.and_true,decide_eq_true_eq]
 unfold Ec
 dsimp only
 rw [e,Ac7 (Nat.le_refl _)]
 have c:=O9 A j.task A.length
 refine ⟨h1,h2,fun a => ?_,h4,h5,h6,h7⟩
 rw [V7 a (by omega)]
 exact h3 _ (Al a (by omega)) (Mv a)
def ofT (A:List Job) (t:Int):Nat:=A.countP fun j => decide (j.task = t)
structure Laid17 (l:List Ac) (A:List Job):Prop where
 ok:Ib l A A.length = true
 nth:∀ n:Nat,n < A.length → (atI A (n:Int)).release = (atI A (n:Int)).arrive ∧ (atI A (n:Int)).arrive = ofT (A.take n) (atI A (n:Int)).task * (atI l (atI A (n:Int)).task).T ∧ (atI A (n:Int)).work = (atI l (atI A (n:Int)).task).C ∧ (atI A (n:Int)).cuts = []
theorem Laid17.nil (l:List Ac):Laid17 l []:=⟨rfl,fun n hn => by simp at hn⟩
theorem Laid17.snoc {l:List Ac} {A:List Job} (hA:Laid17 l A) {i:Nat} (hi:i < l.length) (hok:Gm (atI l (i:Int))) {k:Nat} (hk:ofT A i = k) (hx:∀ x ∈ A,x.task = i → x.arrive + (atI l (i:Int)).T ≤ k * (atI l (i:Int)).T) (hb:(k:Int) * (atI l (i:Int)).T ≤ 17592186044416):Laid17 l (A ++ [Aeo i (atI l (i:Int)) k]):=by
 obtain ⟨⟨_,_,j,d,f,o,g,m⟩,tf1,tf2,tf3⟩:=hok
 have a:0 ≤ (k:Int) * (atI l (i:Int)).T:=Int.mul_nonneg (by omega) (by omega)
 refine ⟨Alc hA.ok ⟨by simp [Aeo],by simp [Aeo];omega⟩ ⟨a,hb⟩ hx (Int.le_refl _) (by simp only [Aeo];omega) (by simp only [Aeo];omega) (by simp only [Aeo];omega) rfl,fun n c => ?_⟩
 rw [LA,List.length_singleton] at c
 by_cases h:n < A.length
 ·rw [V7 (by omega) (by omega),List.take_append_of_le_length (by omega)]
  exact hA.nth n h
 ·have e:n = A.length:=by omega
  subst e
  have e:atI (A ++ [Aeo i (atI l (i:Int)) k]) (A.length:Int) = Aeo i (atI l (i:Int)) k:=by rw [B8 (by simp)];simp
  rw [e,List.take_left]
  exact ⟨rfl,by rw [show (Aeo i (atI l (i:Int)) k).task = i from rfl,hk];rfl,rfl,rfl⟩
end Go.L.Try
namespace Go.L.Try
open Go Go.L
theorem Afj {k:Int}:∀ n:Nat,Dq (fun _ => k) n = k * n
 | 0 => by simp [Dq]
 | n + 1 => by simp only [Dq,Afj n,Int.natCast_add,Int.natCast_one,Int.mul_add,Int.mul_one]
theorem Ajq {jobs:List Job} {k:Int} (h:∀ j ∈ jobs,j.work ≤ k):Ev jobs ≤ k * jobs.length:=by
 rw [← Afj]
 exact Pm fun i a => h _ (Al (by omega) (by omega))
structure A1g (s:List Ac) (jobs:List Job) (m:Nat):Prop where
 legal:legalB s jobs = true
 len:jobs.length ≤ m
 sum:Ev jobs ≤ 4 * m
 work:∀ j ∈ jobs,1 ≤ j.work ∧ j.work ≤ 4
 task:∀ j ∈ jobs,0 ≤ j.task ∧ j.task < s.length
 small:∀ j ∈ jobs,0 ≤ j.arrive ∧ j.arrive ≤ m * 4294967296
end Go.L.Try
namespace Go.L.Try
open Go Go.L
structure A2y (l:List Ac) (j:Job):Prop where
 task:0 ≤ j.task ∧ j.task < l.length
 arrive:0 ≤ j.arrive ∧ j.arrive ≤ 17592186044416
 release:j.arrive ≤ j.release ∧ j.release ≤ j.arrive + (atI l j.task).J
 work:1 ≤ j.work ∧ j.work ≤ (atI l j.task).C
 cuts:Dc (atI l j.task).Q j.cuts j.work = true
theorem Ai8 {l:List Ac} {jobs:List Job}:∀ {n:Nat},(∀ i,i < n → E7 l jobs i = true) → Ib l jobs n = true
 | 0,_ => rfl
 | n + 1,h => by
  show (Ib l jobs n && E7 l jobs n) = true
  rw [Ai8 fun i a => h i (by omega),h n (by omega)];rfl
theorem Auj {l:List Ac} {jobs:List Job} (hv:F7 l) (hn:jobs.length ≤ 4096) (hj:∀ j ∈ jobs,A2y l j) (hp:∀ a b:Nat,a < b → b < jobs.length → (jb jobs a).task = (jb jobs b).task → (jb jobs a).arrive + (atI l (jb jobs b).task).T ≤ (jb jobs b).arrive):legalB l jobs = true:=by
 simp only [legalB,Bool.and_eq_true,decide_eq_true_eq]
 refine ⟨⟨hv,hn⟩,Ai8 fun i d => ?_⟩
 have h:=hj _ (D6 d)
 simp only [E7,Bool.and_eq_true,decide_eq_true_eq]
 refine ⟨?_,h.cuts⟩
 unfold Ec
 dsimp only
 refine ⟨h.task,h.arrive,fun f => ?_,h.release.1,h.release.2,h.work.1,h.work.2⟩
 have e:=O9 jobs (atI jobs (i:Int)).task i
 have h2:=Mv (jobs:=jobs) (task:=(atI jobs (i:Int)).task) (n:=i) f
 obtain ⟨k,c⟩:∃ k:Nat,Cz jobs (atI jobs (i:Int)).task i = k:=⟨(Cz jobs (atI jobs (i:Int)).task i).toNat,by omega⟩
 rw [c] at e h2 ⊢
 exact hp k i (by omega) d h2
end Go.L.Try
