/- THE EXECUTIVE's STATE IN THE HEAP: parts, each with blocks of its own. -/
import Derived.Test.YtnanlkamcgihlaaDoorPd
import Derived.Test.YtnanlkamcgihlaaDoorPg
set_option linter.unusedVariables false
set_option linter.unusedSimpArgs false
set_option maxRecDepth 100000
set_option maxHeartbeats 2000000
namespace Go.L.Try
open Go Go.L
variable {E:Env}
def J3 (tag:Nat → Nat) (n c:Nat):Nat → Nat:=fun b => if b < n then tag b else c
structure Foot (tag tag':Nat → Nat) (c:Nat) (h h':Aa):Prop where
  len:h.length ≤ h'.length
  keep:∀ b,b < h.length → tag b ≠ c → h'[b]? = h[b]?
  tg:∀ b,b < h.length → tag' b = tag b
theorem Foot.of {tag:Nat → Nat} {c:Nat} {h h':Aa} {F F':Nat → Prop} (s:Stp F F' h h') (hF:∀ b,F b → tag b = c):Foot tag (J3 tag h.length c) c h h' ∧ ∀ b,F' b → J3 tag h.length c b = c:=by
  refine ⟨⟨s.len,fun b a d => s.keep b a fun e => d (hF b e),fun b a => if_pos a⟩,fun b a => ?_⟩
  unfold J3
  split
  · rename_i f
    rcases s.own b a with h1 | h1
    · exact hF b h1
    · omega
  · rfl
theorem Foot.set {tag:Nat → Nat} {h:Aa} {b:Nat} {o:LObj}:Foot tag tag (tag b) h (h.set b o):=⟨by simp,fun x hx hn => An (fun e => hn (by rw [e])),fun _ _ => rfl⟩
theorem Foot.push {tag:Nat → Nat} {h l:Aa} (c:Nat):Foot tag (J3 tag h.length c) c h (h ++ l):=⟨by simp,fun x hx hn => GL hx,fun b hb => if_pos hb⟩
theorem Foot.get {tag tag':Nat → Nat} {c:Nat} {h h':Aa} (f:Foot tag tag' c h h') {b:Nat} {o:LObj} (hb:h[b]? = some o) (hn:tag b ≠ c):h'[b]? = some o ∧ tag' b = tag b:=by
  have a:=(GI.1 hb).1
  exact ⟨by rw [f.keep b a hn];exact hb,f.tg b a⟩
theorem Foot.trans {t0 t1 t2:Nat → Nat} {c:Nat} {h0 h1 h2:Aa} (f:Foot t0 t1 c h0 h1) (g:Foot t1 t2 c h1 h2):Foot t0 t2 c h0 h2:=by
  refine ⟨Nat.le_trans f.len g.len,fun b a d => ?_,fun b a => ?_⟩
  · rw [g.keep b (Nat.lt_of_lt_of_le a f.len) (by rw [f.tg b a];exact d),f.keep b a d]
  · rw [g.tg b (Nat.lt_of_lt_of_le a f.len),f.tg b a]
abbrev Aq (b:Nat):Value:=.pointer (some ⟨b,0,none⟩)
structure CB (h0:Aa) (tag:Nat → Nat) (h:Aa):Prop where
  pre:Pre h0 h
  tag:∀ b,b < h0.length → tag b = 5
theorem CB.fr {h0:Aa} {tag tag':Nat → Nat} {c:Nat} {h h':Aa} (k:CB h0 tag h) (f:Foot tag tag' c h h') (hc:5 ≠ c):CB h0 tag' h':=by
  refine ⟨fun b o a => ?_,fun b a => ?_⟩
  · have d:=(GI.1 a).1
    exact (f.get (k.pre b o a) (by rw [k.tag b d];exact hc)).1
  · rw [f.tg b (Nat.lt_of_lt_of_le a k.pre.le)];exact k.tag b a
theorem CB.ge {h0:Aa} {tag:Nat → Nat} {h:Aa} (k:CB h0 tag h) {b:Nat} (h5:tag b ≠ 5):h0.length ≤ b:=by
  rcases Nat.lt_or_ge b h0.length with h1 | h1
  · exact absurd (k.tag b h1) h5
  · exact h1
structure CX (tag:Nat → Nat) (h:Aa) (x:Nat) (cs:List Value):Prop where
  is:h[x]? = some (.cells cs false)
  tag:tag x = 0
theorem CX.fr {tag tag':Nat → Nat} {c:Nat} {h h':Aa} {x:Nat} {cs:List Value} (k:CX tag h x cs) (f:Foot tag tag' c h h') (hc:0 ≠ c):CX tag' h' x cs:=by
  obtain ⟨a,h2⟩:=f.get k.is (by rw [k.tag];exact hc)
  exact ⟨a,by rw [h2];exact k.tag⟩
def CH (tag:Nat → Nat) (h:Aa) (hb:Nat) (lv:Value) (P:Int → Int) (ready:List Int):Prop:=∃ its F,HeapH h hb lv its F ∧ (∀ b,F b → tag b = 1) ∧ Qw (fun p => P p.1) its ∧ (its.map Prod.fst).Perm ready
theorem CH.fr {tag tag':Nat → Nat} {c:Nat} {h h':Aa} {hb:Nat} {lv:Value} {P:Int → Int} {ready:List Int} (k:CH tag h hb lv P ready) (f:Foot tag tag' c h h') (hc:1 ≠ c):CH tag' h' hb lv P ready:=by
  obtain ⟨e,F,d,h2,g,j⟩:=k
  exact ⟨e,F,d.keep fun b a => f.keep b (d.lt b a) (by rw [h2 b a];exact hc),fun b a => by rw [f.tg b (d.lt b a)];exact h2 b a,g,j⟩
def CM (tag:Nat → Nat) (h:Aa) (mb:Nat) (q:Int → Nat) (Q:Int → Option (List Nat)):Prop:=∃ es,h[mb]? = some (.map es) ∧ X1 .i64 es ∧ (∀ t,Tj .i64 es t = (Q t).map fun _ => Aq (q t)) ∧ tag mb = 2
theorem CM.fr {tag tag':Nat → Nat} {c:Nat} {h h':Aa} {mb:Nat} {q:Int → Nat} {Q:Int → Option (List Nat)} (k:CM tag h mb q Q) (f:Foot tag tag' c h h') (hc:2 ≠ c):CM tag' h' mb q Q:=by
  obtain ⟨j,g,h2,d,a⟩:=k
  obtain ⟨e,l⟩:=f.get g (by rw [a];exact hc)
  exact ⟨j,e,h2,d,by rw [l];exact a⟩
def CQ (tag:Nat → Nat) (h:Aa) (qb:Nat) (w:Nat → Nat) (t:Int) (l:List Nat):Prop:=∃ F N,RingH h qb (l.map fun i => Aq (w i)) F N ∧ N ≤ 8192 ∧ ∀ b,F b → tag b = 6 + 2 * t.toNat
theorem CQ.fr {tag tag':Nat → Nat} {c:Nat} {h h':Aa} {qb:Nat} {w:Nat → Nat} {t:Int} {l:List Nat} (k:CQ tag h qb w t l) (f:Foot tag tag' c h h') (hc:6 + 2 * t.toNat ≠ c):CQ tag' h' qb w t l:=by
  obtain ⟨F,N,d,h2,e⟩:=k
  exact ⟨F,N,d.keep fun b a => f.keep b (d.lt b a) (by rw [e b a];exact hc),h2,fun b a => by rw [f.tg b (d.lt b a)];exact e b a⟩
def CW (tag:Nat → Nat) (h0 h:Aa) (wb:Nat) (i:Nat) (task left sec:Int) (cuts:List Int):Prop:=∃ vc,h[wb]? = some (.cells [.int .i64 i,.int .i64 task,.int .i64 left,.int .i64 sec,vc] false) ∧ Rd 1 D7 h0 vc cuts ∧ tag wb = 7 + 2 * i
theorem CW.fr {tag tag':Nat → Nat} {c:Nat} {h0 h h':Aa} {wb i:Nat} {task left sec:Int} {cuts:List Int} (k:CW tag h0 h wb i task left sec cuts) (f:Foot tag tag' c h h') (hc:7 + 2 * i ≠ c):CW tag' h0 h' wb i task left sec cuts:=by
  obtain ⟨d,g,h2,a⟩:=k
  obtain ⟨e,j⟩:=f.get g (by rw [a];exact hc)
  exact ⟨d,e,h2,by rw [j];exact a⟩
structure CS (tag:Nat → Nat) (h0 h:Aa) (vs:Value) (spans:List Span):Prop where
  own:OwnT h0.length 3 Nt h vs spans
  tag:spans ≠ [] → tag (blk vs) = 3
theorem OwnT.lt {α : Type} {m sz:Nat} {enc:α → List Value} {h:Aa} {v:Value} {l:List α} (o:OwnT m sz enc h v l) (hn:l ≠ []):blk v < h.length:=Own.lt o (by simpa using hn)
theorem OwnT.keep {α : Type} {m sz:Nat} {enc:α → List Value} {h h':Aa} {v:Value} {l:List α} (o:OwnT m sz enc h v l) (hk:l ≠ [] → h'[blk v]? = h[blk v]?):OwnT m sz enc h' v l:=Own.keep o fun hn => hk (by simpa using hn)
theorem CS.fr {tag tag':Nat → Nat} {c:Nat} {h0 h h':Aa} {vs:Value} {spans:List Span} (k:CS tag h0 h vs spans) (f:Foot tag tag' c h h') (hc:3 ≠ c):CS tag' h0 h' vs spans:=by
  refine ⟨k.own.keep fun a => f.keep _ (k.own.lt a) (by rw [k.tag a];exact hc),fun a => ?_⟩
  rw [f.tg _ (k.own.lt a)];exact k.tag a
theorem RdO.nil' {α : Type} {m sz:Nat} {enc:α → List Value} {h h':Aa} {v:Value} (o:RdO m sz enc h v []) (hk:v ≠ .slice none 0 0 → h'[blk v]? = h[blk v]?):RdO m sz enc h' v []:=by
  refine ⟨o.size,RowO.few o,?_⟩
  rcases o.is with h1 | ⟨b,off,l,a,c,f,rfl,h2,d,g,j,n⟩
  · exact .inl h1
  · refine .inr ⟨b,off,l,a,c,f,rfl,?_,d,g,j,n⟩
    have:=hk (by intro e;cases e)
    simp only [blk] at this
    rw [this];exact h2
theorem RdO.lt' {α : Type} {m sz:Nat} {enc:α → List Value} {h:Aa} {v:Value} {l:List α} (o:RdO m sz enc h v l) (hn:v ≠ .slice none 0 0):blk v < h.length:=o.rd.lt' hn
structure CE (tag:Nat → Nat) (h0 h:Aa) (ve:Value) (ends:List Int):Prop where
  own:RdO h0.length 1 D7 h ve ends
  tag:ve ≠ .slice none 0 0 → tag (blk ve) = 4
theorem RdO.ne {α : Type} {m sz:Nat} {enc:α → List Value} {h:Aa} {v:Value} {l:List α} (o:RdO m sz enc h v l) (hn:l ≠ []):v ≠ .slice none 0 0:=by
  rintro rfl
  rcases o.is with ⟨_,a⟩ | ⟨b,off,f,d,c,e,a,_⟩
  · exact hn (by simpa using a)
  · cases a
theorem CE.fr {tag tag':Nat → Nat} {c:Nat} {h0 h h':Aa} {ve:Value} {ends:List Int} (k:CE tag h0 h ve ends) (f:Foot tag tag' c h h') (hc:4 ≠ c):CE tag' h0 h' ve ends:=by
  have d:ve ≠ .slice none 0 0 → h'[blk ve]? = h[blk ve]?:=fun a => f.keep _ (RdO.lt' k.own a) (by rw [k.tag a];exact hc)
  refine ⟨?_,fun a => by rw [f.tg _ (RdO.lt' k.own a)];exact k.tag a⟩
  by_cases a:ends = []
  · subst a;exact RdO.nil' k.own d
  · exact k.own.keep a (d (RdO.ne k.own a))
structure Gh where
  x:Nat
  hb:Nat
  mb:Nat
  q:Int → Nat
  w:Nat → Nat
  tag:Nat → Nat
  vj:Value
  vc:Value
  vs:Value
  ve:Value
structure A1b (h0:Aa) (lv:Value) (P:Int → Int) (jobs:List Job) (g:Gh) (h:Aa) (s:XS):Prop where
  B:CB h0 g.tag h
  H:CH g.tag h g.hb lv P s.ready
  M:CM g.tag h g.mb g.q s.Q
  Q:∀ t l,s.Q t = some l → 0 ≤ t ∧ CQ g.tag h (g.q t) g.w t l
  W:∀ t,∀ i ∈ s.q t,CW g.tag h0 h (g.w i) i (jb jobs i).task (s.left i) (s.sec i) (s.cuts i)
  S:CS g.tag h0 h g.vs s.spans
  E:CE g.tag h0 h g.ve s.ends
def D3 (g:Gh) (s:XS):Value:=match s.running with
  | none => .pointer none
  | some i => Aq (g.w i)
theorem Asg (g:Gh) (s:XS):Ag (D3 g s) = true:=by unfold D3;split <;> rfl
def Lg (g:Gh) (s:XS):List Value:=[g.vj,g.vc,Aq g.hb,.map (some g.mb),.int .i64 s.now,g.vs,g.ve,D3 g s]
structure XInv (h0:Aa) (lv:Value) (P:Int → Int) (jobs:List Job) (g:Gh) (h:Aa) (s:XS):Prop extends A1b h0 lv P jobs g h s where
  X:CX g.tag h g.x (Lg g s)
  jr:RdJ h0 g.vj jobs
  cr:Rd 1 D7 h0 g.vc (s.coming.map Int.ofNat)
variable {h0 h h':Aa} {lv:Value} {P:Int → Int} {jobs:List Job} {g:Gh} {s:XS} {tag':Nat → Nat}
namespace XInv
theorem ready (k:XInv h0 lv P jobs g h s) (f:Foot g.tag tag' 1 h h') {rd:List Int} (hH:CH tag' h' g.hb lv P rd):XInv h0 lv P jobs { g with tag:=tag' } h' { s with ready:=rd } where
  B:=k.B.fr f (by decide)
  H:=hH
  M:=k.M.fr f (by decide)
  Q:=fun t l h => ⟨(k.Q t l h).1,(k.Q t l h).2.fr f (by omega)⟩
  W:=fun t i h => (k.W t i h).fr f (by omega)
  S:=k.S.fr f (by decide)
  E:=k.E.fr f (by decide)
  X:=k.X.fr f (by decide)
  jr:=k.jr
  cr:=k.cr
theorem junk (k:XInv h0 lv P jobs g h s) (ys:Aa):XInv h0 lv P jobs { g with tag:=J3 g.tag h.length 5 } (h ++ ys) s:=by
  have f:∀ c,Foot g.tag (J3 g.tag h.length 5) c h (h ++ ys):=fun c => ⟨by simp,fun x d e => GL d,fun b a => if_pos a⟩
  exact { B:=k.B.fr (f 0) (by decide),H:=k.H.fr (f 5) (by decide),M:=k.M.fr (f 5) (by decide),Q:=fun t l h => ⟨(k.Q t l h).1,(k.Q t l h).2.fr (f 5) (by omega)⟩,W:=fun t i h => (k.W t i h).fr (f 5) (by omega),S:=k.S.fr (f 5) (by decide),E:=k.E.fr (f 5) (by decide),X:=k.X.fr (f 5) (by decide),jr:=k.jr,cr:=k.cr }
theorem setX (k:XInv h0 lv P jobs g h s) {vc:Value} {now:Int} {running:Option Nat} {coming:List Nat} (hc:Rd 1 D7 h0 vc (coming.map Int.ofNat)) :
    XInv h0 lv P jobs { g with vc:=vc } (h.set g.x (LObj.cells (Lg { g with vc:=vc } { s with now:=now,running:=running,coming:=coming }) false)) { s with now:=now,running:=running,coming:=coming }:=by
  have f:Foot g.tag g.tag 0 h (h.set g.x (LObj.cells (Lg { g with vc:=vc } { s with now:=now,running:=running,coming:=coming }) false)):=by
    have:=Foot.set (tag:=g.tag) (h:=h) (b:=g.x) (o:=LObj.cells (Lg { g with vc:=vc } { s with now:=now,running:=running,coming:=coming }) false)
    rw [k.X.tag] at this;exact this
  exact { B:=k.B.fr f (by decide),H:=k.H.fr f (by decide),M:=k.M.fr f (by decide),Q:=fun t l h => ⟨(k.Q t l h).1,(k.Q t l h).2.fr f (by omega)⟩,W:=fun t i h => (k.W t i h).fr f (by omega),S:=k.S.fr f (by decide),E:=k.E.fr f (by decide),X:=⟨Bq (GI.1 k.X.is).1,k.X.tag⟩,jr:=k.jr,cr:=hc }
theorem spans (k:XInv h0 lv P jobs g h s) (f:Foot g.tag tag' 3 h h') {vs:Value} {L:List Span} (hS:CS tag' h0 h' vs L) :
    XInv h0 lv P jobs { g with vs:=vs,tag:=tag' } (h'.set g.x (LObj.cells (Lg { g with vs:=vs } { s with spans:=L }) false)) { s with spans:=L }:=by
  have c:=k.X.fr f (by decide)
  have a:Foot tag' tag' 0 h' (h'.set g.x (LObj.cells (Lg { g with vs:=vs } { s with spans:=L }) false)):=by
    have:=Foot.set (tag:=tag') (h:=h') (b:=g.x) (o:=LObj.cells (Lg { g with vs:=vs } { s with spans:=L }) false)
    rw [c.tag] at this;exact this
  exact { B:=(k.B.fr f (by decide)).fr a (by decide),H:=(k.H.fr f (by decide)).fr a (by decide),M:=(k.M.fr f (by decide)).fr a (by decide),Q:=fun t l h => ⟨(k.Q t l h).1,((k.Q t l h).2.fr f (by omega)).fr a (by omega)⟩,W:=fun t i h => ((k.W t i h).fr f (by omega)).fr a (by omega),S:=hS.fr a (by decide),E:=(k.E.fr f (by decide)).fr a (by decide),X:=⟨Bq (GI.1 c.is).1,c.tag⟩,jr:=k.jr,cr:=k.cr }
theorem ends (k:XInv h0 lv P jobs g h s) (f:Foot g.tag tag' 4 h h') {L:List Int} (hE:CE tag' h0 h' g.ve L):XInv h0 lv P jobs { g with tag:=tag' } h' { s with ends:=L } where
  B:=k.B.fr f (by decide)
  H:=k.H.fr f (by decide)
  M:=k.M.fr f (by decide)
  Q:=fun t l h => ⟨(k.Q t l h).1,(k.Q t l h).2.fr f (by omega)⟩
  W:=fun t i h => (k.W t i h).fr f (by omega)
  S:=k.S.fr f (by decide)
  E:=hE
  X:=k.X.fr f (by decide)
  jr:=k.jr
  cr:=k.cr
theorem queue (k:XInv h0 lv P jobs g h s) {t:Int} {l l':List Nat} (hQ:s.Q t = some l) (f:Foot g.tag tag' (6 + 2 * t.toNat) h h') (hq:CQ tag' h' (g.q t) g.w t l') (hw:∀ i ∈ l',CW g.tag h0 h (g.w i) i (jb jobs i).task (s.left i) (s.sec i) (s.cuts i)) :
    XInv h0 lv P jobs { g with tag:=tag' } h' { s with Q:=at1 s.Q t (some l') } where
  B:=k.B.fr f (by omega)
  H:=k.H.fr f (by omega)
  M:=by
    obtain ⟨p,d,h2,j,n⟩:=k.M.fr f (by omega)
    refine ⟨p,d,h2,fun u => ?_,n⟩
    rw [j u]
    show (s.Q u).map _ = (at1 s.Q t (some l') u).map _
    by_cases e:u = t
    · subst e;rw [Au,hQ];rfl
    · rw [B0 e]
  Q:=fun u m r => by
    have a:at1 s.Q t (some l') u = some m:=r
    by_cases e:u = t
    · subst e;rw [Au] at a;cases a;exact ⟨(k.Q u l hQ).1,hq⟩
    · rw [B0 e] at a
      obtain ⟨d,h2⟩:=k.Q u m a
      have j:=(k.Q t l hQ).1
      exact ⟨d,h2.fr f (by omega)⟩
  W:=fun u i o => by
    have c:i ∈ (at1 s.Q t (some l') u).getD []:=o
    by_cases e:u = t
    · subst e;rw [Au] at c;exact (hw i c).fr f (by omega)
    · rw [B0 e] at c;exact (k.W u i c).fr f (by omega)
  S:=k.S.fr f (by omega)
  E:=k.E.fr f (by omega)
  X:=k.X.fr f (by omega)
  jr:=k.jr
  cr:=k.cr
theorem newq (k:XInv h0 lv P jobs g h s) {t:Int} (ht:0 ≤ t) (hQ:s.Q t = none) {ys:Aa} {qb:Nat} (hqb:h.length ≤ qb) (hys:(h ++ ys)[qb]? = some (.cells [.slice none 0 0,.int .i64 0,.int .i64 0] false)) {es es':List (Value × Value)} (hes:h[g.mb]? = some (.map es)) (hk':X1 .i64 es') (hput:∀ j,Tj .i64 es' j = if j = t then some (Aq qb) else Tj .i64 es j) :
    XInv h0 lv P jobs { g with q:=at1 g.q t qb,tag:=J3 g.tag h.length (6 + 2 * t.toNat) } ((h ++ ys).set g.mb (.map es')) { s with Q:=at1 s.Q t (some []) }:=by
  have f:Foot g.tag (J3 g.tag h.length (6 + 2 * t.toNat)) (6 + 2 * t.toNat) h (h ++ ys):=Foot.push _
  obtain ⟨v,m1,m2,m3,p⟩:=k.M.fr f (by omega)
  obtain ⟨a0,r,n2,y,n4⟩:=k.M
  rw [hes] at r;cases r
  have m:=(GI.1 m1).1
  have d:Foot (J3 g.tag h.length (6 + 2 * t.toNat)) (J3 g.tag h.length (6 + 2 * t.toNat)) 2 (h ++ ys) ((h ++ ys).set g.mb (.map es')):=by
    have:=Foot.set (tag:=J3 g.tag h.length (6 + 2 * t.toNat)) (h:=h ++ ys) (b:=g.mb) (o:=.map es')
    rw [p] at this;exact this
  have l:CQ (J3 g.tag h.length (6 + 2 * t.toNat)) (h ++ ys) qb g.w t []:=⟨_,_,.empty hys,by decide,fun b z => by subst z;unfold J3;rw [if_neg (by omega)]⟩
  exact { B:=(k.B.fr f (by omega)).fr d (by omega),H:=(k.H.fr f (by omega)).fr d (by omega)
          M:=by
            refine ⟨es',Bq m,hk',fun u => ?_,p⟩
            rw [hput u]
            show _ = (at1 s.Q t (some []) u).map fun _ => Aq (at1 g.q t qb u)
            by_cases e:u = t
            · subst e;rw [if_pos rfl,Au,Au];rfl
            · rw [if_neg e,B0 e,B0 e];exact y u
          Q:=fun u n hu => by
            have a:at1 s.Q t (some []) u = some n:=hu
            show 0 ≤ u ∧ CQ _ _ (at1 g.q t qb u) g.w u n
            by_cases e:u = t
            · subst e;rw [Au] at a ⊢;cases a;exact ⟨ht,l.fr d (by omega)⟩
            · rw [B0 e] at a ⊢
              obtain ⟨h1,h2⟩:=k.Q u n a
              exact ⟨h1,(h2.fr f (by omega)).fr d (by omega)⟩
          W:=fun u i x => by
            have c:i ∈ (at1 s.Q t (some []) u).getD []:=x
            by_cases e:u = t
            · subst e;rw [Au] at c;cases c
            · rw [B0 e] at c;exact ((k.W u i c).fr f (by omega)).fr d (by omega)
          S:=(k.S.fr f (by omega)).fr d (by omega),E:=(k.E.fr f (by omega)).fr d (by omega),X:=(k.X.fr f (by omega)).fr d (by omega),jr:=k.jr,cr:=k.cr }
theorem newj (k:XInv h0 lv P jobs g h s) {i:Nat} (hi:∀ t,i ∉ s.q t) (hr:s.running ≠ some i) {left sec:Int} {cuts:List Int} {vc:Value} (hc:Rd 1 D7 h0 vc cuts) :
    XInv h0 lv P jobs { g with w:=at1 g.w i h.length,tag:=J3 g.tag h.length (7 + 2 * i) } (h ++ [LObj.cells [.int .i64 i,.int .i64 (jb jobs i).task,.int .i64 left,.int .i64 sec,vc] false]) { s with left:=at1 s.left i left,sec:=at1 s.sec i sec,cuts:=at1 s.cuts i cuts } ∧ CW (J3 g.tag h.length (7 + 2 * i)) h0 (h ++ [LObj.cells [.int .i64 i,.int .i64 (jb jobs i).task,.int .i64 left,.int .i64 sec,vc] false]) h.length i (jb jobs i).task left sec cuts:=by
  have f:Foot g.tag (J3 g.tag h.length (7 + 2 * i)) (7 + 2 * i) h (h ++ [LObj.cells [.int .i64 i,.int .i64 (jb jobs i).task,.int .i64 left,.int .i64 sec,vc] false]):=Foot.push _
  refine ⟨{ B:=k.B.fr f (by omega),H:=k.H.fr f (by omega),M:=k.M.fr f (by omega),Q:=fun t l c => ⟨(k.Q t l c).1,?_⟩,W:=fun t j a => ?_,S:=k.S.fr f (by omega),E:=k.E.fr f (by omega),X:=?_,jr:=k.jr,cr:=k.cr },⟨vc,by rw [Bh];rfl,hc,by unfold J3;rw [if_neg (Nat.lt_irrefl _)]⟩⟩
  · obtain ⟨F,N,n,h2,m⟩:=(k.Q t l c).2.fr f (by omega)
    refine ⟨F,N,?_,h2,m⟩
    have:(l.map fun j => Aq (at1 g.w i h.length j)) = l.map fun j => Aq (g.w j):=List.map_congr_left fun j a => by
      rw [B0];rintro rfl
      exact hi t (by unfold XS.q;rw [c];exact a)
    show RingH _ _ (l.map fun j => Aq (at1 g.w i h.length j)) _ _
    rw [this];exact n
  · have e:j ≠ i:=by rintro rfl;exact hi t a
    show CW _ _ _ (at1 g.w i h.length j) _ _ (at1 s.left i left j) (at1 s.sec i sec j) (at1 s.cuts i cuts j)
    rw [B0 e,B0 e,B0 e,B0 e]
    exact (k.W t j a).fr f (by omega)
  · have:=k.X.fr f (by omega)
    refine ⟨?_,this.tag⟩
    rw [this.is]
    unfold Lg D3
    dsimp only
    cases d:s.running with
    | none => rfl
    | some j => dsimp only;rw [B0 (by rintro rfl;exact hr d)]
theorem setW (k:XInv h0 lv P jobs g h s) {t:Int} {i:Nat} (hi:i ∈ s.q t) {left sec:Int} {cuts:List Int} {vc:Value} (hc:Rd 1 D7 h0 vc cuts) :
    XInv h0 lv P jobs g (h.set (g.w i) (LObj.cells [.int .i64 i,.int .i64 (jb jobs i).task,.int .i64 left,.int .i64 sec,vc] false)) { s with left:=at1 s.left i left,sec:=at1 s.sec i sec,cuts:=at1 s.cuts i cuts }:=by
  obtain ⟨m,d,n,a⟩:=k.W t i hi
  have f:Foot g.tag g.tag (7 + 2 * i) h (h.set (g.w i) (LObj.cells [.int .i64 i,.int .i64 (jb jobs i).task,.int .i64 left,.int .i64 sec,vc] false)):=by
    have:=Foot.set (tag:=g.tag) (h:=h) (b:=g.w i) (o:=LObj.cells [.int .i64 i,.int .i64 (jb jobs i).task,.int .i64 left,.int .i64 sec,vc] false)
    rw [a] at this;exact this
  refine { B:=k.B.fr f (by omega),H:=k.H.fr f (by omega),M:=k.M.fr f (by omega),Q:=fun t l h => ⟨(k.Q t l h).1,(k.Q t l h).2.fr f (by omega)⟩,W:=fun u j c => ?_,S:=k.S.fr f (by omega),E:=k.E.fr f (by omega),X:=k.X.fr f (by omega),jr:=k.jr,cr:=k.cr }
  show CW _ _ _ (g.w j) _ _ (at1 s.left i left j) (at1 s.sec i sec j) (at1 s.cuts i cuts j)
  by_cases e:j = i
  · subst e
    rw [Au,Au,Au]
    exact ⟨vc,Bq (GI.1 d).1,hc,a⟩
  · rw [B0 e,B0 e,B0 e]
    exact (k.W u j c).fr f (by omega)
end XInv
end Go.L.Try
namespace Go.L.Try
open Go Go.L
variable {E:Env}
theorem Rd.sls_tail {α : Type} {enc:α → List Value} {h:Aa} {v:Value} {a:α} {l:List α} (r:Rd 1 enc h v (a :: l)) {k:IntKind}:∃ v',Pp 1 v (some (.int k 1)) none none = some v' ∧ Rd 1 enc h v' l:=by
 have j:=r.size
 have y:=Row.few r
 rcases r.is with ⟨_,s⟩ | ⟨b,off,z,f,c,m,rfl,h2,x,o,p,u⟩
 ·simp at s
 ·rw [List.length_map,List.length_cons] at *
  have t:(enc a).length = 1:=j (enc a) (by simp)
  have g:(c.drop (off + 1)).take (l.length * 1) = (l.map enc).flatten:=by
   rw [List.map_cons,List.flatten_cons] at o
   have:=congrArg (List.drop 1) o
   rw [List.drop_take,List.drop_drop,List.drop_append_of_le_length (by omega),List.drop_of_length_le (by omega:(enc a).length ≤ 1),List.nil_append] at this
   rw [← this]
   congr 1
   try omega
  have n:(1:Int) ≤ (l.length:Int) + 1:=by omega
  rcases u with rfl | rfl
  ·refine ⟨.slice (some ⟨b,off + 1 * 1,none⟩) (l.length + 1 - 1) (f - 1),?_,fun e d => j e (by simp at d ⊢;exact .inr d),by rw [List.length_map];omega,.inr ⟨b,off + 1,none,f - 1,c,m,by simp,h2,by rw [List.length_map];omega,by rw [List.length_map];exact g,by rw [List.length_map];omega,.inl rfl⟩⟩
   simp [Pp,Df,p,n]
  ·refine ⟨.slice (some ⟨b,off + 1 * 1,some 1⟩) (l.length + 1 - 1) (l.length + 1 - 1),?_,fun e d => j e (by simp at d ⊢;exact .inr d),by rw [List.length_map];omega,.inr ⟨b,off + 1,some 1,l.length,c,m,by simp,h2,by rw [List.length_map];omega,by rw [List.length_map];exact g,by rw [List.length_map];exact Nat.le_refl _,.inr rfl⟩⟩
   simp [Pp,Df,n]
structure Ctx (E:Env) (h0:Aa) (lv:Value) (P:Int → Int) (n:Nat) (l:List Ac) (jobs:List Job):Prop where
 S:Script l jobs
 nl:n = l.length
 nle:n ≤ 1024
 Pl:∀ t,P t = (atI l t).P
 one:Ag lv = true
 less:Xi E h0 lv P n
 few:jobs.length ≤ 4096
variable {h0 h h':Aa} {lv:Value} {P:Int → Int} {n:Nat} {l:List Ac} {jobs:List Job} {g:Gh} {s:XS} {r:RS}
theorem Ctx.inj (c:Ctx E h0 lv P n l jobs) {a b:Int} (ha:0 ≤ a ∧ a < n) (hb:0 ≤ b ∧ b < n) (h:P a = P b):a = b:=by
 rw [c.Pl,c.Pl] at h
 exact c.S.prio a b ha.1 (by rw [← c.nl];exact ha.2) hb.1 (by rw [← c.nl];exact hb.2) h
theorem Ctx.task (c:Ctx E h0 lv P n l jobs) {i:Nat} (hi:i < jobs.length):0 ≤ (jb jobs i).task ∧ (jb jobs i).task < n:=by rw [c.nl];exact c.S.ok.task _ (D6 hi)
theorem Acw:∀ {n:Nat} {L:List Int},L.Nodup → (∀ x ∈ L,0 ≤ x ∧ x < n) → L.length ≤ n:=by
 intro n
 induction n with
 | zero => intro L _ h;cases L with | nil => exact Nat.le_refl _ | cons x r => have:=h x (by simp);omega
 | succ n ih =>
  intro L f h
  have g:(L.erase (n:Int)).length ≤ n:=ih (f.erase _) fun x c => by
   have h2:=h x (List.mem_of_mem_erase c)
   have j:x ≠ n:=fun e => by rw [e] at c;exact absurd c (List.Nodup.not_mem_erase f)
   omega
  have h2:=List.length_erase_le (a:=(n:Int)) (l:=L)
  by_cases d:(n:Int) ∈ L
  ·have:=List.length_erase_of_mem d;omega
  ·rw [List.erase_of_not_mem d] at g;omega
theorem Ae5:∀ {L:List Nat} {n:Nat},L.Pairwise (· < ·) → (∀ x ∈ L,x < n) → L.length ≤ n:=by
 intro L n f d
 have g:=Acw (n:=n) (L:=L.map Int.ofNat) (by
  rw [List.nodup_iff_pairwise_ne,List.pairwise_map]
  refine f.imp fun {a b} hab e => ?_
  have:(a:Int) = b:=e
  omega) fun x j => by
   obtain ⟨k,c,rfl⟩:=List.mem_map.1 j
   have:=d k c
   show 0 ≤ (k:Int) ∧ (k:Int) < n
   omega
 rwa [List.length_map] at g
structure Abm (n:Nat) (ready:List Int):Prop where
 nodup:ready.Nodup
 in_:∀ u ∈ ready,0 ≤ u ∧ u < n
theorem Auo (c:Ctx E h0 lv P n l jobs) {ready:List Int} (hr:Abm n ready) {its:List (Int × Int)} (hp:(its.map Prod.fst).Perm ready):(∀ p ∈ its,0 ≤ p.1 ∧ p.1 < n) ∧ (its.map fun p => P p.1).Nodup ∧ its.length ≤ 1024:=by
 have f:∀ p ∈ its,0 ≤ p.1 ∧ p.1 < n:=fun p g => hr.in_ _ (hp.mem_iff.1 (List.mem_map_of_mem g))
 have h2:=hp.nodup_iff.2 hr.nodup
 refine ⟨f,?_,?_⟩
 ·rw [List.nodup_iff_pairwise_ne,List.pairwise_map] at h2 ⊢
  refine List.Pairwise.imp_of_mem ?_ h2
  intro a b j o d e
  exact d (c.inj (f a j) (f b o) e)
 ·have r:=Acw hr.nodup hr.in_
  have m:=hp.length_eq
  rw [List.length_map] at m
  have:=c.nle;omega
theorem S4 (hE:As E) (c:Ctx E h0 lv P n l jobs) (B:CB h0 g.tag h) {ready:List Int} (k:CH g.tag h g.hb lv P ready) (hr:Abm n ready) {t:Int} (ht:0 ≤ t ∧ t < n) (hnt:t ∉ ready) {W:Nat → Prop} (hW:∀ b,h0.length ≤ b → W b) :
  WX W (callW E (.func (.func Ba) #[] #[]) [Aq g.hb,.int .i64 t] h) (fun _ h' => ∃ tag',Foot g.tag tag' 1 h h' ∧ CH tag' h' g.hb lv P (t :: ready)):=by
 obtain ⟨z,F,y,h2,o,j⟩:=k
 obtain ⟨m,v,k3⟩:=Auo c hr j
 have a:∀ b,F b → h0.length ≤ b:=fun b hb => B.ge (by rw [h2 b hb];decide)
 refine WX.mono (Aus hE y B.pre a c.one c.less m v ht (fun p d e => ?_) o (by omega) (W:=W) fun b hb => hW b ?_) (fun b hb => hb) fun _ h' ⟨L,F',x,r,s,q4⟩ => ?_
 ·have:=c.inj (m p d) ht e
  exact hnt (this ▸ j.mem_iff.1 (List.mem_map_of_mem d))
 ·rcases hb with hb | hb
  ·exact a b hb
  ·exact Nat.le_trans B.pre.le hb
 ·obtain ⟨f,u⟩:=Foot.of (c:=1) r h2
  exact ⟨_,f,L,F',x,u,s,q4.trans (j.cons t)⟩
theorem Zt (hE:As E) (c:Ctx E h0 lv P n l jobs) (B:CB h0 g.tag h) {ready:List Int} (k:CH g.tag h g.hb lv P ready) (hr:Abm n ready) {W:Nat → Prop} (hW:∀ b,h0.length ≤ b → W b) :
  WX W (callW E (.func (.func Ck) #[] #[]) [Aq g.hb] h) (fun v h' => (ready = [] ∧ v = .tuple #[.int .i64 0,.bool false] ∧ h' = h) ∨ ∃ t rd tag',v = .tuple #[.int .i64 t,.bool true] ∧ (t :: rd).Perm ready ∧ (∀ u ∈ ready,P t ≤ P u) ∧ Foot g.tag tag' 1 h h' ∧ CH tag' h' g.hb lv P rd):=by
 obtain ⟨a0,F,h1,h2,o,d⟩:=k
 obtain ⟨m,k2,k3⟩:=Auo c hr d
 have a:∀ b,F b → h0.length ≤ b:=fun b hb => B.ge (by rw [h2 b hb];decide)
 refine WX.mono (Axx hE h1 B.pre a c.one c.less m k2 o (W:=W) fun b hb => hW b (a b hb)) (fun b hb => hb) fun v h' r => ?_
 rcases r with ⟨rfl,j,e⟩ | ⟨x,L,j,e,y,q4,s,q6⟩
 ·exact .inl ⟨List.perm_nil.1 d.symm,j,e⟩
 ·obtain ⟨f,z⟩:=Foot.of (c:=1) y h2
  refine .inr ⟨x,L.map Prod.fst,_,j,s.trans d,fun u hu => ?_,f,L,F,e,z,q4,List.Perm.refl _⟩
  obtain ⟨p,hp,rfl⟩:=List.mem_map.1 (d.mem_iff.2 hu)
  exact q6 p hp
theorem Ayw (hE:As E) (B:CB h0 g.tag h) {qb:Nat} {w:Nat → Nat} {t:Int} {q:List Nat} (k:CQ g.tag h qb w t q) (hq:q.length ≤ 4096) (i:Nat) {W:Nat → Prop} (hW:∀ b,h0.length ≤ b → W b) :
  WX W (callW E (.func (.func Aw) #[] #[]) [Aq qb,Aq (w i)] h) (fun _ h' => ∃ tag',Foot g.tag tag' (6 + 2 * t.toNat) h h' ∧ CQ tag' h' qb w t (q ++ [i])):=by
 obtain ⟨F,N,m,h2,d⟩:=k
 have a:∀ b,F b → h0.length ≤ b:=fun b hb => B.ge (by rw [d b hb];omega)
 refine WX.mono (Au0 hE m h2 (by rw [List.length_map];exact hq) (x:=Aq (w i)) rfl rfl (W:=W) fun b hb => hW b ?_) (fun b hb => hb) fun _ h' ⟨F',N',n,e,j⟩ => ?_
 ·rcases hb with hb | hb
  ·exact a b hb
  ·exact Nat.le_trans B.pre.le hb
 ·obtain ⟨f,l⟩:=Foot.of (c:=6 + 2 * t.toNat) j d
  exact ⟨_,f,F',N',by rw [List.map_append];exact n,e,l⟩
theorem A20 (hE:As E) (B:CB h0 g.tag h) {qb:Nat} {w:Nat → Nat} {t:Int} {i:Nat} {q:List Nat} (k:CQ g.tag h qb w t (i :: q)) (hw:∀ j ∈ i :: q,w j < h.length) {W:Nat → Prop} (hW:∀ b,h0.length ≤ b → W b) :
  WX W (callW E (.func (.func A8) #[] #[]) [Aq qb] h) (fun _ h' => ∃ tag',Foot g.tag tag' (6 + 2 * t.toNat) h h' ∧ CQ tag' h' qb w t q):=by
 obtain ⟨F,N,l,h2,e⟩:=k
 have a:∀ b,F b → h0.length ≤ b:=fun b hb => B.ge (by rw [e b hb];omega)
 rw [List.map_cons] at l
 refine WX.mono (Ax1 hE l (fun y d => ?_) (W:=W) fun b hb => hW b ?_) (fun b hb => hb) fun _ h' ⟨_,p,m⟩ => ?_
 ·have d:y ∈ (i :: q).map fun i => Aq (w i):=d
  obtain ⟨j,n,rfl⟩:=List.mem_map.1 d
  have:=hw j n
  exact ⟨by simp [Ae,this],rfl⟩
 ·rcases hb with hb | hb
  ·exact a b hb
  ·exact Nat.le_trans B.pre.le hb
 ·obtain ⟨f,o⟩:=Foot.of (c:=6 + 2 * t.toNat) m e
  exact ⟨_,f,F,N,p,h2,o⟩
theorem A0k (hE:As E) {tag:Nat → Nat} {qb:Nat} {w:Nat → Nat} {t:Int} {q:List Nat} (k:CQ tag h qb w t q):callW E (.func (.func At) #[] #[]) [Aq qb] h = some (.int .i64 q.length,h,[]):=by
 obtain ⟨F,N,a,h2,c⟩:=k
 have:=An4 hE a
 rw [List.length_map] at this;exact this
theorem atQ (hE:As E) {tag:Nat → Nat} {qb:Nat} {w:Nat → Nat} {t:Int} {i:Nat} {q:List Nat} (k:CQ tag h qb w t (i :: q)) (hw:∀ j ∈ i :: q,w j < h.length):callW E (.func (.func Az) #[] #[]) [Aq qb,.int .i64 0] h = some (.tuple #[Aq (w i),.bool true],h,[]):=by
 obtain ⟨F,N,a,h2,e⟩:=k
 have:=Au1 hE a (fun y c => by
  obtain ⟨j,d,rfl⟩:=List.mem_map.1 c
  have:=hw j d
  exact ⟨by simp [Ae,this],rfl⟩) 0
 rw [if_pos ⟨by decide,by simp⟩] at this
 exact this
theorem CW.lt {tag:Nat → Nat} {wb i:Nat} {task left sec:Int} {cuts:List Int} (k:CW tag h0 h wb i task left sec cuts):wb < h.length:=by
 obtain ⟨c,a,_⟩:=k;exact (GI.1 a).1
theorem Xq {m:Nat} {cs:List Value} (hc:∀ ρ : Nat → Option Nat,(∀ b,b < m → ρ b = some b) → cs.mapM (A7 ρ 4) = some cs):Movable m (fun hh v => ∃ b,v = Aq b ∧ m ≤ b ∧ hh[b]? = some (.cells cs false)) 1:=by
 refine ⟨fun ρ h h' d v v' hm hv ⟨b,e,a,j⟩ => ?_,fun h v ⟨b,e,_⟩ => by subst e;rfl⟩
 subst e
 simp only [A7] at hv
 cases hρ : ρ b with
 | none => simp [hρ] at hv
 | some c =>
  simp [hρ] at hv
  subst hv
  obtain ⟨o,g,f⟩:=hm.new b c a hρ
  rw [List.getD_eq_getElem?_getD,j] at g
  simp only [Option.getD_some,Og,Bool.false_eq_true,if_false,hc ρ hm.old,Option.map_some,OI] at g
  subst g
  exact ⟨c,rfl,hm.ge b c a hρ,f⟩
theorem Ax2 (hE:As E) (h:Aa):∃ v ys,callW E (.func (.func Cb) #[] #[]) [.slice none 0 0] h = some (v,h ++ ys,[]) ∧ ∃ b,v = Aq b ∧ h.length ≤ b ∧ (h ++ ys)[b]? = some (.cells [.slice none 0 0,.int .i64 0,.int .i64 0] false):=by
 refine Lk hE.Q4 rfl (Xq fun ρ _ => rfl) (by simp) ?_
 simp only [Ai]
 (repeat' simp -dsimp (disch:=omega) only [↓EA,EB,Nat.reduceEqDiff,↓reduceIte,reduceCtorEq,Ab,eq_self, *])
 refine WO.loop (fun (_:Unit) fr h' => h' = h ++ [.cells [.slice none 0 0,.int .i64 0,.int .i64 0] false] ∧ get fr 3 = Aq h.length ∧ get fr 9 = .int .i64 0 ∧ get fr 10 = .int .i64 0) (fun _ => 0) ?_ () ⟨rfl,rfl,rfl,rfl⟩
 rintro _ fr h' ⟨rfl,c,d,a⟩
 unfold Gz
 (repeat' (first | (with_reducible refine A3 (fun _ => ?_) (fun _ => ?_) <;> try (exfalso;omega)) | simp -dsimp (disch:=omega) only [↓EA,EB,Nat.reduceEqDiff,↓reduceIte,eq_self, *]))
 exact ⟨⟨_,rfl⟩,h.length,rfl,Nat.le_refl _,by rw [Bh];rfl⟩
theorem Axy (hE:As E) {h:Aa} {f:FuncId} {bx:Nat} (hbx:bx < h.length):∃ v ys,callW E (.func (.func Gs) #[] #[]) [.func (.func f) #[] #[Aq bx],.slice none 0 0] h = some (v,h ++ ys,[]) ∧ ∃ b,v = Aq b ∧ h.length ≤ b ∧ (h ++ ys)[b]? = some (.cells [.func (.func f) #[] #[Aq bx],.slice none 0 0,.int .u64 0] false):=by
 refine Lk hE.Aeq rfl (Xq fun ρ ho => by simp [List.mapM_cons,A7,Aq,ho bx hbx]) (by simp) ?_
 simp only [Ai]
 (repeat' simp -dsimp (disch:=omega) only [↓EA,EB,Nat.reduceEqDiff,Nat.reduceAdd,Nat.reduceLeDiff,↓reduceIte,reduceCtorEq,Ab,eq_self, *])
 refine WO.loop (fun (_:Unit) fr h' => h' = h ++ [.cells [.func (.func f) #[] #[Aq bx],.slice none 0 0,.int .u64 0] false] ∧ get fr 5 = Aq h.length ∧ get fr 12 = .int .i64 0 ∧ get fr 13 = .int .i64 0) (fun _ => 0) ?_ () ⟨rfl,rfl,rfl,rfl⟩
 rintro _ fr h' ⟨rfl,c,d,a⟩
 unfold N8
 (repeat' (first | (with_reducible refine A3 (fun _ => ?_) (fun _ => ?_) <;> try (exfalso;omega)) | simp -dsimp (disch:=omega) only [↓EA,EB,Nat.reduceEqDiff,↓reduceIte,eq_self, *]))
 exact ⟨⟨_,rfl⟩,h.length,rfl,Nat.le_refl _,by rw [Bh];rfl⟩
theorem Aum {jl:List (NV Job)} {i:Nat} (hi:i < jl.length):jb (jl.map NV.j) i = (atI jl (i:Int)).j:=by
 rw [G5 NV.j jl (i:Int) (by omega) (by omega)]
theorem Vs (hE:As E) (k:XInv h0 lv P jobs g h s) (hin:∀ i ∈ s.coming,i < jobs.length):callW E (.func (.func Bn) #[] #[]) [Aq g.x] h = some (.int .i64 (En jobs s),h,[]):=by
 have r:h[g.x]? = some (.cells [g.vj,g.vc,Aq g.hb,.map (some g.mb),.int .i64 s.now,g.vs,g.ve,D3 g s] false):=k.X.is
 have cr:=k.cr.pre k.B.pre
 obtain ⟨m,c,e,_⟩:=(k.jr.pre k.B.pre).is
 refine Ak hE.Tm rfl (by simp) ?_
 simp only [Ai]
 unfold En
 cases hc:s.coming with
 | nil =>
  rw [hc] at cr
  (repeat' (first | (with_reducible refine A3 (fun _ => ?_) (fun _ => ?_) <;> try (exfalso;omega)) | simp -dsimp (disch:=omega) only [↓EA,EB,↓reduceIte,reduceCtorEq,eq_self, *,cr.len]))
 | cons i rest =>
  rw [hc] at cr
  have j:=hin i (by rw [hc];simp)
  subst c
  rw [List.length_map] at j
  have l:atI ((i :: rest).map Int.ofNat) 0 = (i:Int):=rfl
  have a:(((i :: rest).map Int.ofNat).length:Int) = (rest.length:Int) + 1:=by simp
  have d:=Aum j
  dsimp only
  rw [d]
  have n:(i:Int) < m.length:=by omega
  have p:=cr.ixs .i64 0 (by decide) (by rw [a];omega)
  have f:=cr.ld0 (i:=0) (by decide) (by rw [a];omega) (by decide)
  rw [l] at f
  have o:=cr.len
  rw [a] at o
  simp only [D7] at f
  have few:(rest.length:Int) < 4611686018427387904:=by have:=cr.few;simp at this;omega
  clear cr d a hc k
  (repeat' (first | (with_reducible refine A3 (fun _ => ?_) (fun _ => ?_) <;> try (exfalso;omega)) | simp -dsimp (disch:=omega) only [↓EA,EB,Nat.reduceEqDiff,↓reduceIte,reduceCtorEq,eq_self, *,e.ixs,e.ld,Du,hdJ]))
theorem Aou {α β : Type} [DecidableEq α] {f:α → β} {a:α} {b c:β}:at1 (at1 f a b) a c = at1 f a c:=by
 funext x;unfold at1;split <;> rfl
theorem Ys {tag:Nat → Nat} {m c b:Nat} (hb:b < m):J3 tag m c b = tag b:=if_pos hb
theorem Aii (hE:As E) (c:Ctx E h0 lv P n l jobs) (k:XInv h0 lv P jobs g h s) (sim:Sr jobs s r) {W:Nat → Prop} (hW:∀ b,h0.length ≤ b → W b) :
  WX W (callW E (.func (.func B6) #[] #[]) [Aq g.x] h) (fun _ h' => ∃ g' s',XInv h0 lv P jobs g' h' s' ∧ Sr jobs s' r ∧ g'.x = g.x ∧ s'.now = s.now ∧ ∀ i ∈ s'.coming,s.now < (jb jobs i).release):=by
 refine E8 hE.P4 rfl (by simp) ?_
 simp only [List.nil_append,List.cons_append,Ai]
 (repeat' simp -dsimp (disch:=omega) only [↓EA, *])
 refine WO.loop (fun (a:Gh × XS) fr h' => XInv h0 lv P jobs a.1 h' a.2 ∧ Sr jobs a.2 r ∧ a.1.x = g.x ∧ a.2.now = s.now ∧ get fr 0 = Aq g.x) (fun a => a.2.coming.length) ?_ (g,s) ⟨k,sim,rfl,rfl,rfl⟩
 clear k sim
 rintro ⟨d,f⟩ fr h1 ⟨k,sim,ao,a8,g0⟩
 dsimp only at k sim ao a8 g0 ⊢
 rw [← ao] at g0 ⊢
 rw [← a8]
 have c6:=Hid.mk ao
 have c4:=Hid.mk a8
 clear ao a8
 have hx:h1[d.x]? = some (.cells [d.vj,d.vc,Aq d.hb,.map (some d.mb),.int .i64 f.now,d.vs,d.ve,D3 d f] false):=k.X.is
 have cr:=k.cr.pre k.B.pre
 obtain ⟨jl,am,b1,ad⟩:=k.jr.is
 have hj:=b1.pre k.B.pre
 have HJ:=Hid.mk b1
 have ay:=Hid.mk ad
 have ac:jobs.length = jl.length:=by rw [← am,List.length_map]
 have bi:∀ i:Nat,i < jl.length → jb jobs i = (atI jl (i:Int)).j:=fun i hi => by rw [← am];exact Aum hi
 have c9:=Hid.mk am
 have bw:=Hid.mk bi
 have aw:=Hid.mk ac
 clear b1 ad am bi ac
 have K:=Hid.mk k
 have Sim:=Hid.mk sim
 clear k sim
 unfold Gg
 cases hc:f.coming with
 | nil =>
  rw [hc] at cr
  (repeat' (first | (with_reducible refine A1 (fun _ => ?_) (fun _ => ?_) <;> try (exfalso;omega)) | simp -dsimp (disch:=omega) only [↓EA,EB,Nat.reduceEqDiff,↓reduceIte,reduceCtorEq,eq_self, *,cr.len]))
  exact ⟨d,f,K.out,Sim.out,rfl,rfl,by rw [hc];simp⟩
 | cons i rest =>
  rw [hc] at cr
  have hi:=(Sim.out.coming i (by rw [hc];simp)).1
  have hw:=(c.S.ok.work _ (D6 hi))
  have bl:=(c.S.ok.rel _ (D6 hi))
  have an:=c.task hi
  have e0:atI ((i :: rest).map Int.ofNat) 0 = (i:Int):=rfl
  have hl:(((i :: rest).map Int.ofNat).length:Int) = (rest.length:Int) + 1:=by simp
  have bq:i < jl.length:=by have:=aw.out;omega
  have e1:=bw.out i bq
  rw [e1] at hw bl an
  have c0:(i:Int) < jl.length:=by omega
  have i0:=cr.ixs .i64 0 (by decide) (by rw [hl];omega)
  have l0:=cr.ld0 (i:=0) (by decide) (by rw [hl];omega) (by decide)
  rw [e0] at l0
  have ll:=cr.len
  rw [hl] at ll
  simp only [D7] at l0
  have few:(rest.length:Int) < 4611686018427387904:=by have:=cr.few;simp at this;omega
  have ba:Rd 1 D7 h0 d.vc ((i:Int) :: rest.map Int.ofNat):=by have:=K.out.cr;rw [hc] at this;exact this
  obtain ⟨a0,bo,a7⟩:=Rd.sls_tail ba (k:=.i64)
  have ca:=a7.one
  have cb:=a7.cv
  have bh:=Hid.mk a7
  have Hc:=Hid.mk hc
  have E1:=Hid.mk e1
  clear cr e1 hl hc ba a7
  by_cases ae:(atI jl (i:Int)).j.release ≤ f.now
  ·have bc:=(GI.1 hx).1
   have cc:=hW d.x (K.out.B.ge (by rw [K.out.X.tag];decide))
   (repeat' (first | (with_reducible refine A1 (fun _ => ?_) (fun _ => ?_) <;> try (exfalso;omega)) | simp -dsimp (disch:=omega) only [↓EA,EB,Nat.reduceEqDiff,Nat.reduceAdd,Nat.reduceLeDiff,↓reduceIte,reduceCtorEq,eq_self, *,hj.ixs,hj.ld,Du,hdJ,Bq bc]))
   have k1:=K.out.setX (vc:=a0) (now:=f.now) (running:=f.running) (coming:=rest) bh.out
   obtain ⟨h2,ai⟩:∃ h2,h2 = h1.set d.x (LObj.cells (Lg { d with vc:=a0 } { f with now:=f.now,running:=f.running,coming:=rest }) false):=⟨_,rfl⟩
   have b3:List.set h1 d.x (LObj.cells [d.vj,a0,Aq d.hb,Value.map (some d.mb),Value.int IntKind.i64 f.now,d.vs,d.ve,D3 d f] false) = h2:=by rw [ai];rfl
   rw [← ai] at k1
   rw [b3]
   have be:=HJ.out.pre k1.B.pre
   have bv:h2[d.x]? = some (.cells [d.vj,a0,Aq d.hb,.map (some d.mb),.int .i64 f.now,d.vs,d.ve,D3 d f] false):=k1.X.is
   have k2:=k1.junk [LObj.cells (Du hdJ (atI jl (i:Int))) false]
   obtain ⟨es,m1,m2,m3,m4⟩:=k2.M
   dsimp only at m1 m3 m4
   have a9:=ay.out _ (Al (l:=jl) (i:=(i:Int)) (by omega) c0)
   have cf:=a9.one
   have ce:=a9.cv
   have K1:=Hid.mk k1
   have K2:=Hid.mk k2
   have aq:h1.length = h2.length:=by rw [ai,List.length_set]
   have c7:=Hid.mk (AI ai (AI b3 aq))
   clear ai b3 k1 k2 aq hx hj i0 l0 bc bo
   have c8:=hW h2.length K1.out.B.pre.le
   obtain ⟨h3,aa⟩:∃ h3,h3 = h2 ++ [LObj.cells (Du hdJ (atI jl (i:Int))) false]:=⟨_,rfl⟩
   have bj:h2 ++ [LObj.cells [Value.int IntKind.i64 (atI jl (i:Int)).j.task,Value.int IntKind.i64 (atI jl (i:Int)).j.arrive,Value.int IntKind.i64 (atI jl (i:Int)).j.release,Value.int IntKind.i64 (atI jl (i:Int)).j.work,(atI jl (i:Int)).v] false] = h3:=by rw [aa];rfl
   have a3:h3[h2.length]? = some (.cells [Value.int IntKind.i64 (jb jobs i).task,Value.int IntKind.i64 (jb jobs i).arrive,Value.int IntKind.i64 (jb jobs i).release,Value.int IntKind.i64 (jb jobs i).work,(atI jl (i:Int)).v] false):=by rw [aa,Bh,E1.out];rfl
   have Eh3:=Hid.mk bj
   have c1:=Hid.mk aa
   have br:=Hid.mk a3
   rw [← aa] at m1
   have K3:Hid (XInv h0 lv P jobs { d with vc:=a0,tag:=J3 d.tag h2.length 5 } h3 { f with now:=f.now,running:=f.running,coming:=rest }):=⟨by rw [aa];exact K2.out⟩
   clear bj aa K2 a3
   have M1:=Hid.mk m1
   have lk:=Ue m2 (.pointer none) (jb jobs i).task
   rw [m3] at lk
   clear m1
   have az:∀ t,i ∉ f.q t:=fun t hm => ((Sim.out.mem t i).1 hm).2.2.1 (by rw [Hc.out];simp)
   have bm:f.running ≠ some i:=fun e => by
    obtain ⟨rr,h5⟩:=Sim.out.run i e
    exact az _ (by rw [h5];simp)
   have ap:=Hid.mk (AI az bm)
   clear az bm
   (repeat' simp -dsimp (disch:=omega) only [↓EA,EB,Nat.reduceEqDiff,Nat.reduceAdd,↓reduceIte,reduceCtorEq,Ab,eq_self, *,be.lda,Du,hdJ])
   rw [Eh3.out]
   have a3:=br.out
   have b5:h3[d.x]? = some (.cells [d.vj,a0,Aq d.hb,.map (some d.mb),.int .i64 f.now,d.vs,d.ve,D3 d f] false):=K3.out.X.is
   have m1:=M1.out
   clear bv be M1
   cases hQ:f.Q (jb jobs i).task with
   | none =>
    rw [hQ] at lk
    simp only [Option.map_none,Option.getD_none] at lk
    have a2:f.q (jb jobs i).task = []:=by unfold XS.q;rw [hQ];rfl
    have HQ:=Hid.mk hQ
    have z:=Hid.mk a2
    clear hQ a2
    rw [← E1.out] at a9
    (repeat' simp -dsimp (disch:=omega) only [↓EA,EB,Nat.reduceEqDiff,↓reduceIte,reduceCtorEq,eq_self, *,Ayc])
    refine Gi (Ax2 hE h3) fun vq ys ⟨qb,e,c2,b7⟩ pq => ?_
    subst e
    obtain ⟨b4,av,bf,aj⟩:=Yn (k:=.i64) (Aq qb) m2 (jb jobs i).task
    have bt:=fun hh r => Akk av hh r
    have bd:=pq _ _ m1
    have ar:=pq _ _ a3
    have as:=pq _ _ b5
    have cd:=hW d.mb (K3.out.B.ge (by
     show J3 d.tag h2.length 5 d.mb ≠ 5
     have:J3 d.tag h2.length 5 d.mb = 2:=m4
     omega))
    have k4:=K3.out.newq (t:=(jb jobs i).task) (by rw [E1.out];exact an.1) HQ.out c2 b7 m1 bf aj
    have c5:=(GI.1 bd).1
    have af:d.mb ≠ d.x ∧ d.mb ≠ h2.length:=by
     constructor
     ·intro e;rw [e] at m1;rw [b5] at m1;cases m1
     ·intro e;rw [e] at m1;rw [a3] at m1;cases m1
    have bg:(List.set (h3 ++ ys) d.mb (.map b4))[h2.length]? = some (.cells [Value.int IntKind.i64 (jb jobs i).task,Value.int IntKind.i64 (jb jobs i).arrive,Value.int IntKind.i64 (jb jobs i).release,Value.int IntKind.i64 (jb jobs i).work,(atI jl (i:Int)).v] false):=by rw [An af.2];exact ar
    have b6:(List.set (h3 ++ ys) d.mb (.map b4))[d.x]? = some (.cells [d.vj,a0,Aq d.hb,.map (some d.mb),.int .i64 f.now,d.vs,d.ve,D3 d f] false):=by rw [An af.1];exact as
    have K4:=Hid.mk k4
    clear k4 av bf aj b7 m1 a3 b5 lk
    have bz:h2.length < h3.length:=by rw [c1.out];simp
    have ax:=Hid.mk (AI bg b6)
    clear bg b6 af
    (repeat' simp -dsimp (disch:=omega) only [↓EA,EB,Nat.reduceEqDiff,↓reduceIte,reduceCtorEq,eq_self, *])
    generalize hh4:List.set (h3 ++ ys) d.mb (LObj.map b4) = h4 at ax K4 ⊢
    obtain ⟨y,b6⟩:=ax.out
    clear bd ar as bt ax
    (repeat' simp -dsimp (disch:=omega) only [↓EA,EB,Nat.reduceEqDiff,Nat.reduceAdd,Nat.reduceLeDiff,↓reduceIte,reduceCtorEq,Ab,eq_self, *])
    obtain ⟨q,hq⟩:∃ q:List Nat,([]:List Nat) = q:=⟨_,rfl⟩
    rw [hq] at K4
    have a2:=z.out.trans hq
    have z:=Hid.mk a2
    clear a2
    have au:∀ t,i ∉ (at1 f.Q (jb jobs i).task (some q) t).getD []:=fun t hm => by
     by_cases e:t = (jb jobs i).task
     ·subst e;rw [Au,← hq] at hm;cases hm
     ·rw [B0 e] at hm;exact ap.out.1 t hm
    have bk:J3 (J3 d.tag h2.length 5) h3.length (6 + 2 * (jb jobs i).task.toNat) h2.length = 5:=by rw [Ys bz];exact if_neg (Nat.lt_irrefl _)
    have bu:=Hid.mk bk
    clear bk
    have b9:=Hid.mk au
    clear au hq
    have kw:=(K4.out).newj (i:=i) b9.out ap.out.2 (left:=(jb jobs i).work) (sec:=0) (cuts:=(jb jobs i).cuts) a9
    obtain ⟨k5,w5⟩:=kw
    have ak:=(k5.Q _ q Au).2
    have p:(q).length ≤ 4096:=by
     have h5:=Ae5 (Sim.out.asc (jb jobs i).task) (fun x hx => ((Sim.out.mem _ x).1 hx).1)
     have h6:=c.few
     rw [z.out] at h5
     omega
    have a1:=Ayw hE k5.B ak p i hW
    try dsimp only at a1
    simp only [Au] at a1
    refine WX.mono a1 (fun b hb => hb) fun v6 h6 ⟨bb,f6,al⟩ => ?_
    have bn:h6[h2.length]? = _:=(f6.get (b:=h2.length) (by rw [GL (GI.1 y).1];exact y) (by
     have h7:=(GI.1 y).1
     try dsimp only
     rw [Ys h7,bu.out];omega)).1
    have k6:=k5.queue (t:=(jb jobs i).task) (l':=q ++ [i]) Au f6 al (fun j hj => by
     rcases List.mem_append.1 hj with hj | hj
     ·refine k5.W (jb jobs i).task j ?_
      unfold XS.q
      try dsimp only
      rw [Au];exact hj
     ·rw [List.mem_singleton.1 hj];try dsimp only
      rw [Au,Au,Au,Au];exact w5)
    have ab:=A0k hE (k6.Q (jb jobs i).task (q ++ [i]) Au).2
    have bx:h6[d.x]? = some (.cells [d.vj,a0,Aq d.hb,.map (some d.mb),.int .i64 f.now,d.vs,d.ve,_] false):=k6.X.is
    have a4:Abm n f.ready:=⟨Sim.out.nodup,fun u hu => by
     have h7:=((Sim.out.ready u).1 hu).1
     cases hqu:f.q u with
     | nil => exact absurd hqu h7
     | cons j rr =>
      have h8:=(Sim.out.mem u j).1 (by rw [hqu];simp)
      have:=c.task h8.1
      rw [h8.2.1] at this;exact this⟩
    have o:(((q ++ [i]).length:Nat):Int) = ((q).length:Int) + 1:=by rw [LA,List.length_singleton];omega
    rw [o] at ab
    try simp only [Au] at ab
    have K6:=Hid.mk k6
    have ah:=Hid.mk a4
    have b0:((q).length:Int) ≤ 4096:=by omega
    clear k5 k6 w5 ak al a1 a4 o p
    by_cases m:q = []
    ·have b2:((q).length:Int) = 0:=by rw [m];rfl
     have ag:=S4 hE c K6.out.B K6.out.H ah.out (t:=(jb jobs i).task) (by rw [E1.out];exact an) (fun hm => ((Sim.out.ready _).1 hm).1 (by rw [z.out,m])) hW
     try dsimp only at ag
     have a5:=Hid.mk m
     clear m
     (repeat' (first | (with_reducible refine A3 (fun _ => ?_) (fun _ => ?_) <;> try (exfalso;omega)) | simp -dsimp (disch:=omega) only [↓EA,EB,Nat.reduceEqDiff,↓reduceIte,reduceCtorEq,eq_self, *]))
     refine WX.mono ag (fun b hb => hb) fun v8 h8 ⟨b8,f8,H8⟩ => ?_
     have k8:=K6.out.ready f8 H8
     have K8:=Hid.mk k8
     clear k8 f8 H8
     (repeat' simp -dsimp (disch:=omega) only [↓EA,EB,↓reduceIte,reduceCtorEq,eq_self, *])
     obtain ⟨g8,a6,kf⟩:∃ g8,XInv h0 lv P jobs g8 h8 (Ei jobs f i rest) ∧ g8.x = d.x:=by
      refine ⟨?_,?_,?_⟩
      rotate_left
      ·have k8:=K8.out
       try simp only [Aou] at k8
       unfold Ei
       rw [z.out,if_pos a5.out]
       exact k8
      ·rfl
     exact Next.mk (g8,Ei jobs f i rest) ⟨a6,U1 c.S Sim.out Hc.out (by rw [E1.out];exact ae),kf,rfl,rfl⟩ (by dsimp only [Ei];rw [Hc.out];simp)
    ·have b2:¬ ((q).length:Int) = 0:=by
      intro h7
      exact m (List.length_eq_zero_iff.1 (by omega))
     have a5:=Hid.mk m
     clear m
     (repeat' (first | (with_reducible refine A3 (fun _ => ?_) (fun _ => ?_) <;> try (exfalso;omega)) | simp -dsimp (disch:=omega) only [↓EA,EB,Nat.reduceEqDiff,↓reduceIte,reduceCtorEq,eq_self, *]))
     obtain ⟨g8,a6,kf⟩:∃ g8,XInv h0 lv P jobs g8 h6 (Ei jobs f i rest) ∧ g8.x = d.x:=by
      refine ⟨?_,?_,?_⟩
      rotate_left
      ·have k8:=K6.out
       try simp only [Aou] at k8
       unfold Ei
       rw [z.out,if_neg a5.out]
       exact k8
      ·rfl
     exact Next.mk (g8,Ei jobs f i rest) ⟨a6,U1 c.S Sim.out Hc.out (by rw [E1.out];exact ae),kf,rfl,rfl⟩ (by dsimp only [Ei];rw [Hc.out];simp)
   | some q =>
    rw [hQ] at lk
    simp only [Option.map_some,Option.getD_some] at lk
    have a2:f.q (jb jobs i).task = q:=by unfold XS.q;rw [hQ];rfl
    have HQ:=Hid.mk hQ
    have z:=Hid.mk a2
    clear hQ a2
    rw [← E1.out] at a9
    (repeat' simp -dsimp (disch:=omega) only [↓EA,EB,Nat.reduceEqDiff,Nat.reduceAdd,Nat.reduceLeDiff,↓reduceIte,reduceCtorEq,Ab,eq_self, *,N9])
    have y:=a3
    clear a3
    have kw:=(K3.out).newj (i:=i) ap.out.1 ap.out.2 (left:=(jb jobs i).work) (sec:=0) (cuts:=(jb jobs i).cuts) a9
    obtain ⟨k5,w5⟩:=kw
    have ak:=(k5.Q _ q HQ.out).2
    have p:(q).length ≤ 4096:=by
     have h5:=Ae5 (Sim.out.asc (jb jobs i).task) (fun x hx => ((Sim.out.mem _ x).1 hx).1)
     have h6:=c.few
     rw [z.out] at h5
     omega
    have a1:=Ayw hE k5.B ak p i hW
    try dsimp only at a1
    simp only [Au] at a1
    refine WX.mono a1 (fun b hb => hb) fun v6 h6 ⟨bb,f6,al⟩ => ?_
    have bn:h6[h2.length]? = _:=(f6.get (b:=h2.length) (by rw [GL (GI.1 y).1];exact y) (by
     have h7:=(GI.1 y).1
     try dsimp only
     rw [Ys h7,(show J3 d.tag h2.length 5 h2.length = 5 from if_neg (Nat.lt_irrefl _))];omega)).1
    have k6:=k5.queue (t:=(jb jobs i).task) (l':=q ++ [i]) HQ.out f6 al (fun j hj => by
     rcases List.mem_append.1 hj with hj | hj
     ·refine k5.W (jb jobs i).task j ?_
      unfold XS.q
      try dsimp only
      rw [HQ.out];exact hj
     ·rw [List.mem_singleton.1 hj];try dsimp only
      rw [Au,Au,Au,Au];exact w5)
    have ab:=A0k hE (k6.Q (jb jobs i).task (q ++ [i]) Au).2
    have bx:h6[d.x]? = some (.cells [d.vj,a0,Aq d.hb,.map (some d.mb),.int .i64 f.now,d.vs,d.ve,_] false):=k6.X.is
    have a4:Abm n f.ready:=⟨Sim.out.nodup,fun u hu => by
     have h7:=((Sim.out.ready u).1 hu).1
     cases hqu:f.q u with
     | nil => exact absurd hqu h7
     | cons j rr =>
      have h8:=(Sim.out.mem u j).1 (by rw [hqu];simp)
      have:=c.task h8.1
      rw [h8.2.1] at this;exact this⟩
    have o:(((q ++ [i]).length:Nat):Int) = ((q).length:Int) + 1:=by rw [LA,List.length_singleton];omega
    rw [o] at ab
    try simp only [] at ab
    have K6:=Hid.mk k6
    have ah:=Hid.mk a4
    have b0:((q).length:Int) ≤ 4096:=by omega
    clear k5 k6 w5 ak al a1 a4 o p
    by_cases m:q = []
    ·have b2:((q).length:Int) = 0:=by rw [m];rfl
     have ag:=S4 hE c K6.out.B K6.out.H ah.out (t:=(jb jobs i).task) (by rw [E1.out];exact an) (fun hm => ((Sim.out.ready _).1 hm).1 (by rw [z.out,m])) hW
     try dsimp only at ag
     have a5:=Hid.mk m
     clear m
     (repeat' (first | (with_reducible refine A3 (fun _ => ?_) (fun _ => ?_) <;> try (exfalso;omega)) | simp -dsimp (disch:=omega) only [↓EA,EB,Nat.reduceEqDiff,↓reduceIte,reduceCtorEq,eq_self, *]))
     refine WX.mono ag (fun b hb => hb) fun v8 h8 ⟨b8,f8,H8⟩ => ?_
     have k8:=K6.out.ready f8 H8
     have K8:=Hid.mk k8
     clear k8 f8 H8
     (repeat' simp -dsimp (disch:=omega) only [↓EA,EB,↓reduceIte,reduceCtorEq,eq_self, *])
     obtain ⟨g8,a6,kf⟩:∃ g8,XInv h0 lv P jobs g8 h8 (Ei jobs f i rest) ∧ g8.x = d.x:=by
      refine ⟨?_,?_,?_⟩
      rotate_left
      ·have k8:=K8.out
       try simp only [] at k8
       unfold Ei
       rw [z.out,if_pos a5.out]
       exact k8
      ·rfl
     exact Next.mk (g8,Ei jobs f i rest) ⟨a6,U1 c.S Sim.out Hc.out (by rw [E1.out];exact ae),kf,rfl,rfl⟩ (by dsimp only [Ei];rw [Hc.out];simp)
    ·have b2:¬ ((q).length:Int) = 0:=by
      intro h7
      exact m (List.length_eq_zero_iff.1 (by omega))
     have a5:=Hid.mk m
     clear m
     (repeat' (first | (with_reducible refine A3 (fun _ => ?_) (fun _ => ?_) <;> try (exfalso;omega)) | simp -dsimp (disch:=omega) only [↓EA,EB,Nat.reduceEqDiff,↓reduceIte,reduceCtorEq,eq_self, *]))
     obtain ⟨g8,a6,kf⟩:∃ g8,XInv h0 lv P jobs g8 h6 (Ei jobs f i rest) ∧ g8.x = d.x:=by
      refine ⟨?_,?_,?_⟩
      rotate_left
      ·have k8:=K6.out
       try simp only [] at k8
       unfold Ei
       rw [z.out,if_neg a5.out]
       exact k8
      ·rfl
     exact Next.mk (g8,Ei jobs f i rest) ⟨a6,U1 c.S Sim.out Hc.out (by rw [E1.out];exact ae),kf,rfl,rfl⟩ (by dsimp only [Ei];rw [Hc.out];simp)
  ·have c3:decide ((atI jl (i:Int)).j.release ≤ f.now) = false:=by simpa using ae
   (repeat' (first | (with_reducible refine A1 (fun _ => ?_) (fun _ => ?_) <;> try (exfalso;omega)) | simp -dsimp (disch:=omega) only [↓EA,EB,Nat.reduceEqDiff,↓reduceIte,reduceCtorEq,eq_self, *,hj.ixs,hj.ld,Du,hdJ]))
   refine ⟨d,f,K.out,Sim.out,rfl,rfl,fun k hk => ?_⟩
   have hs:=Sim.out.sorted
   rw [Hc.out] at hk hs
   rw [List.pairwise_cons] at hs
   have bp:f.now < (jb jobs i).release:=by rw [E1.out];omega
   rcases List.mem_cons.1 hk with rfl | hk
   ·exact bp
   ·have:=hs.1 k hk;unfold ltO at this;omega
end Go.L.Try
namespace Go.L.Try
open Go Go.L
variable {E:Env}
variable {h0 h h':Aa} {lv:Value} {P:Int → Int} {n:Nat} {l:List Ac} {jobs:List Job} {g:Gh} {s:XS} {r:RS}
theorem Abg {α β : Type} [DecidableEq α] {f:α → β} {a:α}:at1 f a (f a) = f:=by
 funext x;unfold at1;split
 ·rename_i e;rw [e]
 ·rfl
theorem Aed (c:Ctx E h0 lv P n l jobs) (sim:SimC jobs s r):Abm n s.ready:=⟨sim.nodup,fun u hu => by
 have h7:=((sim.ready u).1 hu).1
 cases hqu:s.q u with
 | nil => exact absurd hqu h7
 | cons j rr =>
  have a:=(sim.mem u j).1 (by rw [hqu];simp)
  have:=c.task a.1
  rw [a.2.1] at this;exact this⟩
theorem Fy (sim:SimC jobs s r) {i:Nat} (hr:s.running = some i):i < jobs.length ∧ (jb jobs i).task ∉ s.ready ∧ i ∈ s.q (jb jobs i).task:=by
 obtain ⟨c,d⟩:=sim.run i hr
 have a:i ∈ s.q (jb jobs i).task:=by rw [d];simp
 exact ⟨((sim.mem _ _).1 a).1,fun a => ((sim.ready _).1 a).2 i hr rfl,a⟩
theorem Aot (c:Ctx E h0 lv P n l jobs) (sim:SimC jobs s r):Abm n (back jobs s).ready:=by
 have a:=Aed c sim
 unfold back
 cases hr:s.running with
 | none => exact a
 | some i =>
  obtain ⟨h2,d,e⟩:=Fy sim hr
  refine ⟨List.nodup_cons.2 ⟨d,a.nodup⟩,fun u hu => ?_⟩
  rcases List.mem_cons.1 hu with rfl | hu
  ·exact c.task h2
  ·exact a.in_ u hu
theorem Akg {t:Int} {i:Nat} (h:i ∈ s.q t):s.Q t = some (s.q t):=by
 unfold XS.q at h ⊢
 cases hq:s.Q t with
 | none => rw [hq] at h;cases h
 | some l => rfl
theorem Aat (hE:As E) (c:Ctx E h0 lv P n l jobs) (k:XInv h0 lv P jobs g h s) (sim:SimC jobs s r) {W:Nat → Prop} (hW:∀ b,h0.length ≤ b → W b) :
  WX W (callW E (.func (.func Cc) #[] #[]) [Aq g.x] h) (fun v h' => (v = .bool false ∧ (back jobs s).ready = [] ∧ ∃ g',XInv h0 lv P jobs g' h' s ∧ g'.x = g.x) ∨ (v = .bool true ∧ ∃ g' t rd i rest,(t :: rd).Perm (back jobs s).ready ∧ (∀ u ∈ (back jobs s).ready,P t ≤ P u) ∧ s.q t = i :: rest ∧ XInv h0 lv P jobs g' h' (chosen (back jobs s) rd i) ∧ g'.x = g.x)):=by
 refine E8 hE.Q5 rfl (by simp) ?_
 simp only [List.nil_append,List.cons_append,Ai]
 have hx:h[g.x]? = some (.cells [g.vj,g.vc,Aq g.hb,.map (some g.mb),.int .i64 s.now,g.vs,g.ve,D3 g s] false):=k.X.is
 have b1:=(GI.1 hx).1
 have b9:=hW g.x (k.B.ge (by rw [k.X.tag];decide))
 have K:=Hid.mk k
 have Sim:=Hid.mk sim
 have b8:=Hid.mk (Asg g s)
 clear k sim
 cases hr:s.running with
 | none =>
  have aj:D3 g s = .pointer none:=by unfold D3;rw [hr]
  have a9:back jobs s = s:=by unfold back;rw [hr]
  rw [aj] at hx
  have o:=Zt hE c K.out.B K.out.H (Aed c Sim.out) hW
  have KB:Hid (XInv h0 lv P jobs g h (back jobs s)):=⟨by rw [a9];exact K.out⟩
  have ba:=Hid.mk a9
  clear a9
  (repeat' simp -dsimp (disch:=omega) only [↓EA,EB,↓reduceIte,reduceCtorEq,eq_self, *,Ai1])
  have o:=Zt hE c (KB.out).B (KB.out).H (Aot c Sim.out) hW
  refine WX.mono o (fun b hb => hb) fun v h2 hv => ?_
  rcases hv with ⟨hz,rfl,rfl⟩ | ⟨t,rd,a6,rfl,f,a7,f2,H2⟩
  ·have Hz:=Hid.mk hz
   clear hz o
   (repeat' simp -dsimp (disch:=omega) only [↓EA,EB,Nat.reduceEqDiff,↓reduceIte,reduceCtorEq,eq_self, *])
   exact .inl ⟨Hz.out,g,K.out,rfl⟩
  ·have p:=(KB.out).ready f2 H2
   have htr:t ∈ (back jobs s).ready:=f.mem_iff.1 (by simp)
   have ae:(back jobs s).Q = s.Q:=by unfold back;split <;> rfl
   have aw:(back jobs s).cuts = s.cuts:=by unfold back;split <;> rfl
   obtain ⟨i,rest,a3⟩:∃ i rest,s.q t = i :: rest:=by
    cases hh:s.q t with
    | cons i rest => exact ⟨i,rest,rfl⟩
    | nil =>
     exfalso
     unfold back at htr
     cases hr2:s.running with
     | none => rw [hr2] at htr;exact ((Sim.out.ready t).1 htr).1 hh
     | some k =>
      rw [hr2] at htr
      rcases List.mem_cons.1 htr with rfl | htr
      ·obtain ⟨h5,h6,h7⟩:=Fy Sim.out hr2
       rw [hh] at h7;cases h7
      ·exact ((Sim.out.ready t).1 htr).1 hh
   have a2:(back jobs s).Q t = some (i :: rest):=by rw [ae,← a3];exact Akg (i:=i) (by rw [a3];simp)
   have a1:(back jobs s).q t = i :: rest:=by unfold XS.q;rw [a2];rfl
   obtain ⟨es,m1,m2,m3,m4⟩:=p.M
   have lk:=Ue m2 (.pointer none) t
   rw [m3] at lk
   try dsimp only at lk m1
   rw [a2] at lk
   simp only [Option.map_some,Option.getD_some] at lk
   have ah:=atQ hE (p.Q t (i :: rest) a2).2 (fun j hj => (p.W t j (by show j ∈ (back jobs s).q t;rw [a1];exact hj)).lt)
   obtain ⟨vc,w1,w2,w3⟩:=p.W t i (by show i ∈ (back jobs s).q t;rw [a1];simp)
   have k3:=p.setX (vc:=g.vc) (now:=(back jobs s).now) (running:=some i) (coming:=(back jobs s).coming) p.cr
   try dsimp only at ah w1 w2 w3
   have af:h2[g.x]? = some (.cells [g.vj,g.vc,Aq g.hb,.map (some g.mb),.int .i64 (back jobs s).now,g.vs,g.ve,_] false):=p.X.is
   have a4:=(GI.1 af).1
   have a0:g.w i ≠ g.x:=by
    intro e
    rw [e] at w3
    have:a6 g.x = 0:=p.X.tag
    omega
   obtain ⟨h3,z⟩:∃ h3:Aa,h3 = List.set h2 g.x (LObj.cells [g.vj,g.vc,Aq g.hb,.map (some g.mb),.int .i64 (back jobs s).now,g.vs,g.ve,Aq (g.w i)] false):=⟨_,rfl⟩
   have K3:=Hid.mk k3
   change Hid (XInv h0 lv P jobs _ (List.set h2 g.x (LObj.cells [g.vj,g.vc,Aq g.hb,.map (some g.mb),.int .i64 (back jobs s).now,g.vs,g.ve,Aq (g.w i)] false)) _) at K3
   rw [← z] at K3
   have y:h3[g.w i]? = h2[g.w i]?:=by rw [z,An (Ne.symm a0)]
   rw [w1] at y
   have ab:h3[g.x]? = some (LObj.cells [g.vj,g.vc,Aq g.hb,.map (some g.mb),.int .i64 (back jobs s).now,g.vs,g.ve,Aq (g.w i)] false):=by rw [z];exact Bq a4
   have aq:=Hid.mk z.symm
   have an:=Hid.mk a1
   have ap:=Hid.mk a0
   have Hq:=Hid.mk (AI a3 (AI f a7))
   have az:=hW (g.w i) (p.B.ge (by show a6 (g.w i) ≠ 5;rw [w3];omega))
   have ac:=Hid.mk (AI ab y)
   have ao:=(GI.1 y).1
   have ad:=w2.len
   have d:=w2.pre K3.out.B.pre
   have al:=Hid.mk w2
   clear p k3 z a3 f a7 htr ae a1 a2 f2 H2 o w1 y ab w2 a0 a4
   (repeat' simp -dsimp (disch:=omega) only [↓EA,EB,Nat.reduceEqDiff,Nat.reduceAdd,↓reduceIte,reduceCtorEq,eq_self, *])
   rw [aq.out]
   obtain ⟨ab,y⟩:=ac.out
   clear af m1 lk ah
   cases hcu:(back jobs s).cuts i with
   | nil =>
    rw [hcu] at ad d
    have aa:=Hid.mk hcu
    clear hcu
    (repeat' (first | (with_reducible refine A3 (fun _ => ?_) (fun _ => ?_) <;> try (exfalso;omega)) | simp -dsimp (disch:=omega) only [↓EA,EB,↓reduceIte,reduceCtorEq,eq_self, *,d.len]))
    obtain ⟨g',kf,a8⟩:∃ g',XInv h0 lv P jobs g' h3 (chosen (back jobs s) rd i) ∧ g'.x = g.x:=by
     refine ⟨?_,?_,?_⟩
     rotate_left
     ·unfold chosen
      rw [aa.out]
      exact K3.out
     ·rfl
    exact .inr ⟨g',t,rd,i,rest,Hq.out.2.1,Hq.out.2.2,Hq.out.1,kf,a8⟩
   | cons a cs =>
    rw [hcu] at ad d
    have a5:Rd 1 D7 h0 vc (a :: cs):=by have:=al.out;rw [hcu] at this;exact this
    obtain ⟨am,ax,m⟩:=Rd.sls_tail a5 (k:=.i64)
    have b5:=m.one
    have b6:=m.cv
    have e0:atI (a :: cs) 0 = a:=rfl
    have hl:((a :: cs).length:Int) = (cs.length:Int) + 1:=by simp
    have i0:=d.ixs .i64 0 (by decide) (by rw [hl];omega)
    have l0:=d.ld0 (i:=0) (by decide) (by rw [hl];omega) (by decide)
    rw [e0] at l0
    simp only [D7] at l0
    rw [hl] at ad
    have few:(cs.length:Int) < 4611686018427387904:=by have:=d.few;simp at this;omega
    have kw:=K3.out.setW (t:=t) (i:=i) (by show i ∈ (back jobs s).q t;unfold XS.q;have:=an.out;unfold XS.q at this;rw [this];simp) (left:=(back jobs s).left i) (sec:=a) (cuts:=cs) m
    have KW:=Hid.mk kw
    have aa:=Hid.mk hcu
    have a0:=ap.out
    have ix:=Ne.symm a0
    clear hcu d a5 m kw e0 hl
    (repeat' (first | (with_reducible refine A3 (fun _ => ?_) (fun _ => ?_) <;> try (exfalso;omega)) | simp -dsimp (disch:=omega) only [↓EA,EB,Nat.reduceEqDiff,Nat.reduceAdd,Nat.reduceLeDiff,↓reduceIte,reduceCtorEq,eq_self, *,Bq ao,List.set_set]))
    obtain ⟨g',kf,a8⟩:∃ g',XInv h0 lv P jobs g' (h3.set (g.w i) (LObj.cells [.int .i64 i,.int .i64 (jb jobs i).task,.int .i64 ((back jobs s).left i),.int .i64 a,am] false)) (chosen (back jobs s) rd i) ∧ g'.x = g.x:=by
     refine ⟨?_,?_,?_⟩
     rotate_left
     ·unfold chosen
      rw [aa.out]
      have k9:=KW.out
      rw [show at1 (back jobs s).left i ((back jobs s).left i) = (back jobs s).left from Abg] at k9
      exact k9
     ·rfl
    exact .inr ⟨g',t,rd,i,rest,Hq.out.2.1,Hq.out.2.2,Hq.out.1,kf,a8⟩
 | some i =>
  have aj:D3 g s = Aq (g.w i):=by unfold D3;rw [hr]
  rw [aj] at hx
  obtain ⟨ay,b7,b2⟩:=Fy Sim.out hr
  obtain ⟨vc,w1,w2,w3⟩:=K.out.W _ i b2
  have ag:=S4 hE c K.out.B K.out.H (Aed c Sim.out) (c.task ay) b7 hW
  have W1f:=Hid.mk w1
  have av:g.w i ≠ g.x:=by
   intro e
   rw [e] at w3
   have:=K.out.X.tag
   omega
  clear w3
  (repeat' simp -dsimp (disch:=omega) only [↓EA,EB,Nat.reduceEqDiff,↓reduceIte,reduceCtorEq,eq_self, *,Abd])
  refine WX.mono ag (fun b hb => hb) fun v1 h1 ⟨au,f1,H1⟩ => ?_
  have k1:=K.out.ready f1 H1
  have ar:h1[g.x]? = some (.cells [g.vj,g.vc,Aq g.hb,.map (some g.mb),.int .i64 s.now,g.vs,g.ve,D3 g s] false):=k1.X.is
  rw [aj] at ar
  have ak:=(GI.1 ar).1
  have p:=k1.setX (vc:=g.vc) (now:=s.now) (running:=none) (coming:=s.coming) k1.cr
  obtain ⟨hB,ai⟩:∃ hB:Aa,hB = List.set h1 g.x (LObj.cells [g.vj,g.vc,Aq g.hb,.map (some g.mb),.int .i64 s.now,g.vs,g.ve,.pointer none] false):=⟨_,rfl⟩
  have a9:back jobs s = { s with running:=none,ready:=(jb jobs i).task :: s.ready }:=by unfold back;rw [hr]
  have KB:Hid (XInv h0 lv P jobs { g with tag:=au } hB (back jobs s)):=⟨by rw [a9,ai];exact p⟩
  have b4:=Hid.mk ai.symm
  have as:hB[g.x]? = some (LObj.cells [g.vj,g.vc,Aq g.hb,.map (some g.mb),.int .i64 s.now,g.vs,g.ve,.pointer none] false):=by rw [ai];exact Bq ak
  have b3:=Hid.mk as
  have b0:(back jobs s).ready ≠ []:=by rw [a9];simp
  clear k1 p ai as hx w1 b1 ak ag f1 H1 a9
  (repeat' simp -dsimp (disch:=omega) only [↓EA,EB,Nat.reduceAdd,↓reduceIte,reduceCtorEq,eq_self, *])
  rw [b4.out]
  have hx:=b3.out
  clear ar av
  (repeat' simp -dsimp (disch:=omega) only [↓EA,EB,↓reduceIte,eq_self, *])
  have o:=Zt hE c (KB.out).B (KB.out).H (Aot c Sim.out) hW
  refine WX.mono o (fun b hb => hb) fun v h2 hv => ?_
  rcases hv with ⟨hz,rfl,rfl⟩ | ⟨t,rd,a6,rfl,f,a7,f2,H2⟩
  ·have Hz:=Hid.mk hz
   clear hz o
   (repeat' simp -dsimp (disch:=omega) only [↓EA,EB,Nat.reduceEqDiff,↓reduceIte,reduceCtorEq,eq_self, *])
   exact absurd Hz.out b0
  ·have p:=(KB.out).ready f2 H2
   have htr:t ∈ (back jobs s).ready:=f.mem_iff.1 (by simp)
   have ae:(back jobs s).Q = s.Q:=by unfold back;split <;> rfl
   have aw:(back jobs s).cuts = s.cuts:=by unfold back;split <;> rfl
   obtain ⟨i,rest,a3⟩:∃ i rest,s.q t = i :: rest:=by
    cases hh:s.q t with
    | cons i rest => exact ⟨i,rest,rfl⟩
    | nil =>
     exfalso
     unfold back at htr
     cases hr2:s.running with
     | none => rw [hr2] at htr;exact ((Sim.out.ready t).1 htr).1 hh
     | some k =>
      rw [hr2] at htr
      rcases List.mem_cons.1 htr with rfl | htr
      ·obtain ⟨h5,h6,h7⟩:=Fy Sim.out hr2
       rw [hh] at h7;cases h7
      ·exact ((Sim.out.ready t).1 htr).1 hh
   have a2:(back jobs s).Q t = some (i :: rest):=by rw [ae,← a3];exact Akg (i:=i) (by rw [a3];simp)
   have a1:(back jobs s).q t = i :: rest:=by unfold XS.q;rw [a2];rfl
   obtain ⟨es,m1,m2,m3,m4⟩:=p.M
   have lk:=Ue m2 (.pointer none) t
   rw [m3] at lk
   try dsimp only at lk m1
   rw [a2] at lk
   simp only [Option.map_some,Option.getD_some] at lk
   have ah:=atQ hE (p.Q t (i :: rest) a2).2 (fun j hj => (p.W t j (by show j ∈ (back jobs s).q t;rw [a1];exact hj)).lt)
   obtain ⟨vc,w1,w2,w3⟩:=p.W t i (by show i ∈ (back jobs s).q t;rw [a1];simp)
   have k3:=p.setX (vc:=g.vc) (now:=(back jobs s).now) (running:=some i) (coming:=(back jobs s).coming) p.cr
   try dsimp only at ah w1 w2 w3
   have af:h2[g.x]? = some (.cells [g.vj,g.vc,Aq g.hb,.map (some g.mb),.int .i64 (back jobs s).now,g.vs,g.ve,_] false):=p.X.is
   have a4:=(GI.1 af).1
   have a0:g.w i ≠ g.x:=by
    intro e
    rw [e] at w3
    have:a6 g.x = 0:=p.X.tag
    omega
   obtain ⟨h3,z⟩:∃ h3:Aa,h3 = List.set h2 g.x (LObj.cells [g.vj,g.vc,Aq g.hb,.map (some g.mb),.int .i64 (back jobs s).now,g.vs,g.ve,Aq (g.w i)] false):=⟨_,rfl⟩
   have K3:=Hid.mk k3
   change Hid (XInv h0 lv P jobs _ (List.set h2 g.x (LObj.cells [g.vj,g.vc,Aq g.hb,.map (some g.mb),.int .i64 (back jobs s).now,g.vs,g.ve,Aq (g.w i)] false)) _) at K3
   rw [← z] at K3
   have y:h3[g.w i]? = h2[g.w i]?:=by rw [z,An (Ne.symm a0)]
   rw [w1] at y
   have ab:h3[g.x]? = some (LObj.cells [g.vj,g.vc,Aq g.hb,.map (some g.mb),.int .i64 (back jobs s).now,g.vs,g.ve,Aq (g.w i)] false):=by rw [z];exact Bq a4
   have aq:=Hid.mk z.symm
   have an:=Hid.mk a1
   have ap:=Hid.mk a0
   have Hq:=Hid.mk (AI a3 (AI f a7))
   have az:=hW (g.w i) (p.B.ge (by show a6 (g.w i) ≠ 5;rw [w3];omega))
   have ac:=Hid.mk (AI ab y)
   have ao:=(GI.1 y).1
   have ad:=w2.len
   have d:=w2.pre K3.out.B.pre
   have al:=Hid.mk w2
   clear p k3 z a3 f a7 htr ae a1 a2 f2 H2 o w1 y ab w2 a0 a4
   (repeat' simp -dsimp (disch:=omega) only [↓EA,EB,Nat.reduceEqDiff,Nat.reduceAdd,↓reduceIte,reduceCtorEq,eq_self, *])
   rw [aq.out]
   obtain ⟨ab,y⟩:=ac.out
   clear af m1 lk ah
   cases hcu:(back jobs s).cuts i with
   | nil =>
    rw [hcu] at ad d
    have aa:=Hid.mk hcu
    clear hcu
    (repeat' (first | (with_reducible refine A3 (fun _ => ?_) (fun _ => ?_) <;> try (exfalso;omega)) | simp -dsimp (disch:=omega) only [↓EA,EB,↓reduceIte,reduceCtorEq,eq_self, *,d.len]))
    obtain ⟨g',kf,a8⟩:∃ g',XInv h0 lv P jobs g' h3 (chosen (back jobs s) rd i) ∧ g'.x = g.x:=by
     refine ⟨?_,?_,?_⟩
     rotate_left
     ·unfold chosen
      rw [aa.out]
      exact K3.out
     ·rfl
    exact .inr ⟨g',t,rd,i,rest,Hq.out.2.1,Hq.out.2.2,Hq.out.1,kf,a8⟩
   | cons a cs =>
    rw [hcu] at ad d
    have a5:Rd 1 D7 h0 vc (a :: cs):=by have:=al.out;rw [hcu] at this;exact this
    obtain ⟨am,ax,m⟩:=Rd.sls_tail a5 (k:=.i64)
    have b5:=m.one
    have b6:=m.cv
    have e0:atI (a :: cs) 0 = a:=rfl
    have hl:((a :: cs).length:Int) = (cs.length:Int) + 1:=by simp
    have i0:=d.ixs .i64 0 (by decide) (by rw [hl];omega)
    have l0:=d.ld0 (i:=0) (by decide) (by rw [hl];omega) (by decide)
    rw [e0] at l0
    simp only [D7] at l0
    rw [hl] at ad
    have few:(cs.length:Int) < 4611686018427387904:=by have:=d.few;simp at this;omega
    have kw:=K3.out.setW (t:=t) (i:=i) (by show i ∈ (back jobs s).q t;unfold XS.q;have:=an.out;unfold XS.q at this;rw [this];simp) (left:=(back jobs s).left i) (sec:=a) (cuts:=cs) m
    have KW:=Hid.mk kw
    have aa:=Hid.mk hcu
    have a0:=ap.out
    have ix:=Ne.symm a0
    clear hcu d a5 m kw e0 hl
    (repeat' (first | (with_reducible refine A3 (fun _ => ?_) (fun _ => ?_) <;> try (exfalso;omega)) | simp -dsimp (disch:=omega) only [↓EA,EB,Nat.reduceEqDiff,Nat.reduceAdd,Nat.reduceLeDiff,↓reduceIte,reduceCtorEq,eq_self, *,Bq ao,List.set_set]))
    obtain ⟨g',kf,a8⟩:∃ g',XInv h0 lv P jobs g' (h3.set (g.w i) (LObj.cells [.int .i64 i,.int .i64 (jb jobs i).task,.int .i64 ((back jobs s).left i),.int .i64 a,am] false)) (chosen (back jobs s) rd i) ∧ g'.x = g.x:=by
     refine ⟨?_,?_,?_⟩
     rotate_left
     ·unfold chosen
      rw [aa.out]
      have k9:=KW.out
      rw [show at1 (back jobs s).left i ((back jobs s).left i) = (back jobs s).left from Abg] at k9
      exact k9
     ·rfl
    exact .inr ⟨g',t,rd,i,rest,Hq.out.2.1,Hq.out.2.2,Hq.out.1,kf,a8⟩
end Go.L.Try
