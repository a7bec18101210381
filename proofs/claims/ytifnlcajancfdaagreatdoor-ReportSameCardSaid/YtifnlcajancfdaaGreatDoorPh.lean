/- THE EXECUTIVE's STATE IN THE HEAP: parts, each with blocks of its own. -/
import Derived.Test.YtifnlcajancfdaaGreatDoorPd
import Derived.Test.YtifnlcajancfdaaGreatDoorPg
set_option linter.unusedVariables false
set_option linter.unusedSimpArgs false
set_option maxRecDepth 100000
set_option maxHeartbeats 2000000
namespace Go.L.Try
open Go Go.L
variable {E:Env}
def Kg (tag:Nat→Nat) (n c:Nat):Nat→Nat:=fun b => if b<n then tag b else c
structure Foot (tag tag':Nat→Nat) (c:Nat) (h h':Aa):Prop where
  len:h.length≤h'.length
  keep:∀ b,b<h.length→tag b≠c→h'[b]? = h[b]?
  tg:∀ b,b<h.length→tag' b=tag b
theorem Foot.of {tag:Nat→Nat} {c:Nat} {h h':Aa} {F F':Nat→Prop} (s:Stp F F' h h') (hF:∀ b,F b→tag b=c):Foot tag (Kg tag h.length c) c h h'∧∀ b,F' b→Kg tag h.length c b=c:=by
  refine ⟨⟨s.len,fun b hb hn => s.keep b hb fun hf => hn (hF b hf),fun b hb => if_pos hb⟩,fun b hb => ?_⟩
  unfold Kg
  split
  · rename_i hlt
    rcases s.own b hb with h1 | h1
    · exact hF b h1
    · omega
  · rfl
theorem Foot.set {tag:Nat→Nat} {h:Aa} {b:Nat} {o:LObj}:Foot tag tag (tag b) h (h.set b o):=⟨by simp,fun x hx hn => Ba (fun e => hn (by rw [e])),fun _ _ => rfl⟩
theorem Foot.push {tag:Nat→Nat} {h l:Aa} (c:Nat):Foot tag (Kg tag h.length c) c h (h++l):=⟨by simp,fun x hx hn => GL hx,fun b hb => if_pos hb⟩
theorem Foot.get {tag tag':Nat→Nat} {c:Nat} {h h':Aa} (f:Foot tag tag' c h h') {b:Nat} {o:LObj} (hb:h[b]? = some o) (hn:tag b≠c):h'[b]? = some o∧tag' b=tag b:=by
  have hlt:=(GI.1 hb).1
  exact ⟨by rw [f.keep b hlt hn];exact hb,f.tg b hlt⟩
theorem Foot.trans {t0 t1 t2:Nat→Nat} {c:Nat} {h0 h1 h2:Aa} (f:Foot t0 t1 c h0 h1) (g:Foot t1 t2 c h1 h2):Foot t0 t2 c h0 h2:=by
  refine ⟨Nat.le_trans f.len g.len,fun b hb hn => ?_,fun b hb => ?_⟩
  · rw [g.keep b (Nat.lt_of_lt_of_le hb f.len) (by rw [f.tg b hb];exact hn),f.keep b hb hn]
  · rw [g.tg b (Nat.lt_of_lt_of_le hb f.len),f.tg b hb]
abbrev Aq (b:Nat):Value:=.pointer (some ⟨b,0,none⟩)
structure CB (h0:Aa) (tag:Nat→Nat) (h:Aa):Prop where
  pre:Pre h0 h
  tag:∀ b,b<h0.length→tag b=5
theorem CB.fr {h0:Aa} {tag tag':Nat→Nat} {c:Nat} {h h':Aa} (k:CB h0 tag h) (f:Foot tag tag' c h h') (hc:5≠c):CB h0 tag' h':=by
  refine ⟨fun b o hb => ?_,fun b hb => ?_⟩
  · have hlt:=(GI.1 hb).1
    exact (f.get (k.pre b o hb) (by rw [k.tag b hlt];exact hc)).1
  · rw [f.tg b (Nat.lt_of_lt_of_le hb k.pre.le)];exact k.tag b hb
theorem CB.ge {h0:Aa} {tag:Nat→Nat} {h:Aa} (k:CB h0 tag h) {b:Nat} (h5:tag b≠5):h0.length≤b:=by
  rcases Nat.lt_or_ge b h0.length with h1 | h1
  · exact absurd (k.tag b h1) h5
  · exact h1
structure CX (tag:Nat→Nat) (h:Aa) (x:Nat) (cs:List Value):Prop where
  is:h[x]? = some (.cells cs false)
  tag:tag x=0
theorem CX.fr {tag tag':Nat→Nat} {c:Nat} {h h':Aa} {x:Nat} {cs:List Value} (k:CX tag h x cs) (f:Foot tag tag' c h h') (hc:0≠c):CX tag' h' x cs:=by
  obtain ⟨h1,h2⟩:=f.get k.is (by rw [k.tag];exact hc)
  exact ⟨h1,by rw [h2];exact k.tag⟩
def CH (tag:Nat→Nat) (h:Aa) (hb:Nat) (lv:Value) (P:Int→Int) (ready:List Int):Prop:=∃ its F,HeapH h hb lv its F∧(∀ b,F b→tag b=1)∧Rf (fun p => P p.1) its∧(its.map Prod.fst).Perm ready
theorem CH.fr {tag tag':Nat→Nat} {c:Nat} {h h':Aa} {hb:Nat} {lv:Value} {P:Int→Int} {ready:List Int} (k:CH tag h hb lv P ready) (f:Foot tag tag' c h h') (hc:1≠c):CH tag' h' hb lv P ready:=by
  obtain ⟨its,F,h1,h2,h3,h4⟩:=k
  exact ⟨its,F,h1.keep fun b hF => f.keep b (h1.lt b hF) (by rw [h2 b hF];exact hc),fun b hF => by rw [f.tg b (h1.lt b hF)];exact h2 b hF,h3,h4⟩
def CM (tag:Nat→Nat) (h:Aa) (mb:Nat) (q:Int→Nat) (Q:Int→Option (List Nat)):Prop:=∃ es,h[mb]? = some (.map es)∧Y8 .i64 es∧(∀ t,T7 .i64 es t=(Q t).map fun _ => Aq (q t))∧tag mb=2
theorem CM.fr {tag tag':Nat→Nat} {c:Nat} {h h':Aa} {mb:Nat} {q:Int→Nat} {Q:Int→Option (List Nat)} (k:CM tag h mb q Q) (f:Foot tag tag' c h h') (hc:2≠c):CM tag' h' mb q Q:=by
  obtain ⟨es,h1,h2,h3,h4⟩:=k
  obtain ⟨h5,h6⟩:=f.get h1 (by rw [h4];exact hc)
  exact ⟨es,h5,h2,h3,by rw [h6];exact h4⟩
def CQ (tag:Nat→Nat) (h:Aa) (qb:Nat) (w:Nat→Nat) (t:Int) (l:List Nat):Prop:=∃ F N,RingH h qb (l.map fun i => Aq (w i)) F N∧N≤8192∧∀ b,F b→tag b=6+2 * t.toNat
theorem CQ.fr {tag tag':Nat→Nat} {c:Nat} {h h':Aa} {qb:Nat} {w:Nat→Nat} {t:Int} {l:List Nat} (k:CQ tag h qb w t l) (f:Foot tag tag' c h h') (hc:6+2 * t.toNat≠c):CQ tag' h' qb w t l:=by
  obtain ⟨F,N,h1,h2,h3⟩:=k
  exact ⟨F,N,h1.keep fun b hF => f.keep b (h1.lt b hF) (by rw [h3 b hF];exact hc),h2,fun b hF => by rw [f.tg b (h1.lt b hF)];exact h3 b hF⟩
def CW (tag:Nat→Nat) (h0 h:Aa) (wb:Nat) (i:Nat) (task left sec:Int) (cuts:List Int):Prop:=∃ vc,h[wb]? = some (.cells [.int .i64 i,.int .i64 task,.int .i64 left,.int .i64 sec,vc] false)∧Rd 1 Gk h0 vc cuts∧tag wb=7+2 * i
theorem CW.fr {tag tag':Nat→Nat} {c:Nat} {h0 h h':Aa} {wb i:Nat} {task left sec:Int} {cuts:List Int} (k:CW tag h0 h wb i task left sec cuts) (f:Foot tag tag' c h h') (hc:7+2 * i≠c):CW tag' h0 h' wb i task left sec cuts:=by
  obtain ⟨vc,h1,h2,h3⟩:=k
  obtain ⟨h5,h6⟩:=f.get h1 (by rw [h3];exact hc)
  exact ⟨vc,h5,h2,by rw [h6];exact h3⟩
structure CS (tag:Nat→Nat) (h0 h:Aa) (vs:Value) (spans:List Span):Prop where
  own:OwnT h0.length 3 Ajy h vs spans
  tag:spans≠[]→tag (blk vs)=3
theorem OwnT.lt {α : Type} {m sz:Nat} {enc:α → List Value} {h:Aa} {v:Value} {l:List α} (o:OwnT m sz enc h v l) (hn:l≠[]):blk v<h.length:=Own.lt o (by simpa using hn)
theorem OwnT.keep {α : Type} {m sz:Nat} {enc:α → List Value} {h h':Aa} {v:Value} {l:List α} (o:OwnT m sz enc h v l) (hk:l≠[]→h'[blk v]? = h[blk v]?):OwnT m sz enc h' v l:=Own.keep o fun hn => hk (by simpa using hn)
theorem CS.fr {tag tag':Nat→Nat} {c:Nat} {h0 h h':Aa} {vs:Value} {spans:List Span} (k:CS tag h0 h vs spans) (f:Foot tag tag' c h h') (hc:3≠c):CS tag' h0 h' vs spans:=by
  refine ⟨k.own.keep fun hn => f.keep _ (k.own.lt hn) (by rw [k.tag hn];exact hc),fun hn => ?_⟩
  rw [f.tg _ (k.own.lt hn)];exact k.tag hn
theorem RdO.nil' {α : Type} {m sz:Nat} {enc:α → List Value} {h h':Aa} {v:Value} (o:RdO m sz enc h v []) (hk:v ≠ .slice none 0 0→h'[blk v]? = h[blk v]?):RdO m sz enc h' v []:=by
  refine ⟨o.size,RowO.few o,?_⟩
  rcases o.is with h1 | ⟨b,off,sp,cap,c,h0,rfl,h2,h3,h4,h5,h6⟩
  · exact .inl h1
  · refine .inr ⟨b,off,sp,cap,c,h0,rfl,?_,h3,h4,h5,h6⟩
    have:=hk (by intro e;cases e)
    simp only [blk] at this
    rw [this];exact h2
theorem RdO.lt' {α : Type} {m sz:Nat} {enc:α → List Value} {h:Aa} {v:Value} {l:List α} (o:RdO m sz enc h v l) (hn:v ≠ .slice none 0 0):blk v<h.length:=o.rd.lt' hn
structure CE (tag:Nat→Nat) (h0 h:Aa) (ve:Value) (ends:List Int):Prop where
  own:RdO h0.length 1 Gk h ve ends
  tag:ve ≠ .slice none 0 0→tag (blk ve)=4
theorem RdO.ne {α : Type} {m sz:Nat} {enc:α → List Value} {h:Aa} {v:Value} {l:List α} (o:RdO m sz enc h v l) (hn:l≠[]):v ≠ .slice none 0 0:=by
  rintro rfl
  rcases o.is with ⟨_,h1⟩ | ⟨b,off,sp,cap,c,h0,h1,_⟩
  · exact hn (by simpa using h1)
  · cases h1
theorem CE.fr {tag tag':Nat→Nat} {c:Nat} {h0 h h':Aa} {ve:Value} {ends:List Int} (k:CE tag h0 h ve ends) (f:Foot tag tag' c h h') (hc:4≠c):CE tag' h0 h' ve ends:=by
  have hk:ve ≠ .slice none 0 0→h'[blk ve]? = h[blk ve]?:=fun hn => f.keep _ (RdO.lt' k.own hn) (by rw [k.tag hn];exact hc)
  refine ⟨?_,fun hn => by rw [f.tg _ (RdO.lt' k.own hn)];exact k.tag hn⟩
  by_cases hn:ends=[]
  · subst hn;exact RdO.nil' k.own hk
  · exact k.own.keep hn (hk (RdO.ne k.own hn))
structure Gh where
  x:Nat
  hb:Nat
  mb:Nat
  q:Int→Nat
  w:Nat→Nat
  tag:Nat→Nat
  vj:Value
  vc:Value
  vs:Value
  ve:Value
structure A4m (h0:Aa) (lv:Value) (P:Int→Int) (jobs:List Job) (g:Gh) (h:Aa) (s:XS):Prop where
  B:CB h0 g.tag h
  H:CH g.tag h g.hb lv P s.ready
  M:CM g.tag h g.mb g.q s.Q
  Q:∀ t l,s.Q t=some l→0≤t∧CQ g.tag h (g.q t) g.w t l
  W:∀ t,∀ i∈s.q t,CW g.tag h0 h (g.w i) i (jb jobs i).task (s.left i) (s.sec i) (s.cuts i)
  S:CS g.tag h0 h g.vs s.spans
  E:CE g.tag h0 h g.ve s.ends
def D3 (g:Gh) (s:XS):Value:=match s.running with
  | none => .pointer none
  | some i => Aq (g.w i)
theorem Auc (g:Gh) (s:XS):Ah (D3 g s)=true:=by unfold D3;split<;>rfl
def Lq (g:Gh) (s:XS):List Value:=[g.vj,g.vc,Aq g.hb,.map (some g.mb),.int .i64 s.now,g.vs,g.ve,D3 g s]
structure XInv (h0:Aa) (lv:Value) (P:Int→Int) (jobs:List Job) (g:Gh) (h:Aa) (s:XS):Prop extends A4m h0 lv P jobs g h s where
  X:CX g.tag h g.x (Lq g s)
  jr:RdJ h0 g.vj jobs
  cr:Rd 1 Gk h0 g.vc (s.coming.map Int.ofNat)
variable {h0 h h':Aa} {lv:Value} {P:Int→Int} {jobs:List Job} {g:Gh} {s:XS} {tag':Nat→Nat}
namespace XInv
theorem ready (k:XInv h0 lv P jobs g h s) (f:Foot g.tag tag' 1 h h') {rd:List Int} (hH:CH tag' h' g.hb lv P rd):XInv h0 lv P jobs { g with tag:=tag' } h' { s with ready:=rd } where
  B:=k.B.fr f (by decide)
  H:=hH
  M:=k.M.fr f (by decide)
  Q:=fun t l h => ⟨(k.Q t l h).1,(k.Q t l h).2.fr f (by omega)⟩
  W:=fun t i h => (k.W t i h).fr f (by omega)
  S:=k.S.fr f (by decide)
  E:=k.E.fr f (by decide)
  X:=k.X.fr f (by decide)
  jr:=k.jr
  cr:=k.cr
theorem junk (k:XInv h0 lv P jobs g h s) (ys:Aa):XInv h0 lv P jobs { g with tag:=Kg g.tag h.length 5 } (h++ys) s:=by
  have f:∀ c,Foot g.tag (Kg g.tag h.length 5) c h (h++ys):=fun c => ⟨by simp,fun x hx hn => GL hx,fun b hb => if_pos hb⟩
  exact { B:=k.B.fr (f 0) (by decide),H:=k.H.fr (f 5) (by decide),M:=k.M.fr (f 5) (by decide),Q:=fun t l h => ⟨(k.Q t l h).1,(k.Q t l h).2.fr (f 5) (by omega)⟩,W:=fun t i h => (k.W t i h).fr (f 5) (by omega),S:=k.S.fr (f 5) (by decide),E:=k.E.fr (f 5) (by decide),X:=k.X.fr (f 5) (by decide),jr:=k.jr,cr:=k.cr }
theorem setX (k:XInv h0 lv P jobs g h s) {vc:Value} {now:Int} {running:Option Nat} {coming:List Nat} (hc:Rd 1 Gk h0 vc (coming.map Int.ofNat)) :
    XInv h0 lv P jobs { g with vc:=vc } (h.set g.x (LObj.cells (Lq { g with vc:=vc } { s with now:=now,running:=running,coming:=coming }) false)) { s with now:=now,running:=running,coming:=coming }:=by
  have f:Foot g.tag g.tag 0 h (h.set g.x (LObj.cells (Lq { g with vc:=vc } { s with now:=now,running:=running,coming:=coming }) false)):=by
    have:=Foot.set (tag:=g.tag) (h:=h) (b:=g.x) (o:=LObj.cells (Lq { g with vc:=vc } { s with now:=now,running:=running,coming:=coming }) false)
    rw [k.X.tag] at this;exact this
  exact { B:=k.B.fr f (by decide),H:=k.H.fr f (by decide),M:=k.M.fr f (by decide),Q:=fun t l h => ⟨(k.Q t l h).1,(k.Q t l h).2.fr f (by omega)⟩,W:=fun t i h => (k.W t i h).fr f (by omega),S:=k.S.fr f (by decide),E:=k.E.fr f (by decide),X:=⟨B9 (GI.1 k.X.is).1,k.X.tag⟩,jr:=k.jr,cr:=hc }
theorem spans (k:XInv h0 lv P jobs g h s) (f:Foot g.tag tag' 3 h h') {vs:Value} {L:List Span} (hS:CS tag' h0 h' vs L) :
    XInv h0 lv P jobs { g with vs:=vs,tag:=tag' } (h'.set g.x (LObj.cells (Lq { g with vs:=vs } { s with spans:=L }) false)) { s with spans:=L }:=by
  have kx:=k.X.fr f (by decide)
  have f2:Foot tag' tag' 0 h' (h'.set g.x (LObj.cells (Lq { g with vs:=vs } { s with spans:=L }) false)):=by
    have:=Foot.set (tag:=tag') (h:=h') (b:=g.x) (o:=LObj.cells (Lq { g with vs:=vs } { s with spans:=L }) false)
    rw [kx.tag] at this;exact this
  exact { B:=(k.B.fr f (by decide)).fr f2 (by decide),H:=(k.H.fr f (by decide)).fr f2 (by decide),M:=(k.M.fr f (by decide)).fr f2 (by decide),Q:=fun t l h => ⟨(k.Q t l h).1,((k.Q t l h).2.fr f (by omega)).fr f2 (by omega)⟩,W:=fun t i h => ((k.W t i h).fr f (by omega)).fr f2 (by omega),S:=hS.fr f2 (by decide),E:=(k.E.fr f (by decide)).fr f2 (by decide),X:=⟨B9 (GI.1 kx.is).1,kx.tag⟩,jr:=k.jr,cr:=k.cr }
theorem ends (k:XInv h0 lv P jobs g h s) (f:Foot g.tag tag' 4 h h') {L:List Int} (hE:CE tag' h0 h' g.ve L):XInv h0 lv P jobs { g with tag:=tag' } h' { s with ends:=L } where
  B:=k.B.fr f (by decide)
  H:=k.H.fr f (by decide)
  M:=k.M.fr f (by decide)
  Q:=fun t l h => ⟨(k.Q t l h).1,(k.Q t l h).2.fr f (by omega)⟩
  W:=fun t i h => (k.W t i h).fr f (by omega)
  S:=k.S.fr f (by decide)
  E:=hE
  X:=k.X.fr f (by decide)
  jr:=k.jr
  cr:=k.cr
theorem queue (k:XInv h0 lv P jobs g h s) {t:Int} {l l':List Nat} (hQ:s.Q t=some l) (f:Foot g.tag tag' (6+2 * t.toNat) h h') (hq:CQ tag' h' (g.q t) g.w t l') (hw:∀ i∈l',CW g.tag h0 h (g.w i) i (jb jobs i).task (s.left i) (s.sec i) (s.cuts i)) :
    XInv h0 lv P jobs { g with tag:=tag' } h' { s with Q:=at1 s.Q t (some l') } where
  B:=k.B.fr f (by omega)
  H:=k.H.fr f (by omega)
  M:=by
    obtain ⟨es,h1,h2,h3,h4⟩:=k.M.fr f (by omega)
    refine ⟨es,h1,h2,fun u => ?_,h4⟩
    rw [h3 u]
    show (s.Q u).map _=(at1 s.Q t (some l') u).map _
    by_cases e:u=t
    · subst e;rw [At,hQ];rfl
    · rw [Bz e]
  Q:=fun u lu hu => by
    have hu':at1 s.Q t (some l') u=some lu:=hu
    by_cases e:u=t
    · subst e;rw [At] at hu';cases hu';exact ⟨(k.Q u l hQ).1,hq⟩
    · rw [Bz e] at hu'
      obtain ⟨h1,h2⟩:=k.Q u lu hu'
      have h3:=(k.Q t l hQ).1
      exact ⟨h1,h2.fr f (by omega)⟩
  W:=fun u i hi => by
    have hi':i∈(at1 s.Q t (some l') u).getD []:=hi
    by_cases e:u=t
    · subst e;rw [At] at hi';exact (hw i hi').fr f (by omega)
    · rw [Bz e] at hi';exact (k.W u i hi').fr f (by omega)
  S:=k.S.fr f (by omega)
  E:=k.E.fr f (by omega)
  X:=k.X.fr f (by omega)
  jr:=k.jr
  cr:=k.cr
theorem newq (k:XInv h0 lv P jobs g h s) {t:Int} (ht:0≤t) (hQ:s.Q t=none) {ys:Aa} {qb:Nat} (hqb:h.length≤qb) (hys:(h++ys)[qb]? = some (.cells [.slice none 0 0,.int .i64 0,.int .i64 0] false)) {es es':List (Value × Value)} (hes:h[g.mb]? = some (.map es)) (hk':Y8 .i64 es') (hput:∀ j,T7 .i64 es' j=if j=t then some (Aq qb) else T7 .i64 es j) :
    XInv h0 lv P jobs { g with q:=at1 g.q t qb,tag:=Kg g.tag h.length (6+2 * t.toNat) } ((h++ys).set g.mb (.map es')) { s with Q:=at1 s.Q t (some []) }:=by
  have f:Foot g.tag (Kg g.tag h.length (6+2 * t.toNat)) (6+2 * t.toNat) h (h++ys):=Foot.push _
  obtain ⟨es0,m1,m2,m3,m4⟩:=k.M.fr f (by omega)
  obtain ⟨es1,n1,n2,n3,n4⟩:=k.M
  rw [hes] at n1;cases n1
  have hmlt:=(GI.1 m1).1
  have f2:Foot (Kg g.tag h.length (6+2 * t.toNat)) (Kg g.tag h.length (6+2 * t.toNat)) 2 (h++ys) ((h++ys).set g.mb (.map es')):=by
    have:=Foot.set (tag:=Kg g.tag h.length (6+2 * t.toNat)) (h:=h++ys) (b:=g.mb) (o:=.map es')
    rw [m4] at this;exact this
  have hnew:CQ (Kg g.tag h.length (6+2 * t.toNat)) (h++ys) qb g.w t []:=⟨_,_,.empty hys,by decide,fun b hb => by subst hb;unfold Kg;rw [if_neg (by omega)]⟩
  exact { B:=(k.B.fr f (by omega)).fr f2 (by omega),H:=(k.H.fr f (by omega)).fr f2 (by omega)
          M:=by
            refine ⟨es',B9 hmlt,hk',fun u => ?_,m4⟩
            rw [hput u]
            show _=(at1 s.Q t (some []) u).map fun _ => Aq (at1 g.q t qb u)
            by_cases e:u=t
            · subst e;rw [if_pos rfl,At,At];rfl
            · rw [if_neg e,Bz e,Bz e];exact n3 u
          Q:=fun u lu hu => by
            have hu':at1 s.Q t (some []) u=some lu:=hu
            show 0≤u∧CQ _ _ (at1 g.q t qb u) g.w u lu
            by_cases e:u=t
            · subst e;rw [At] at hu' ⊢;cases hu';exact ⟨ht,hnew.fr f2 (by omega)⟩
            · rw [Bz e] at hu' ⊢
              obtain ⟨h1,h2⟩:=k.Q u lu hu'
              exact ⟨h1,(h2.fr f (by omega)).fr f2 (by omega)⟩
          W:=fun u i hi => by
            have hi':i∈(at1 s.Q t (some []) u).getD []:=hi
            by_cases e:u=t
            · subst e;rw [At] at hi';cases hi'
            · rw [Bz e] at hi';exact ((k.W u i hi').fr f (by omega)).fr f2 (by omega)
          S:=(k.S.fr f (by omega)).fr f2 (by omega),E:=(k.E.fr f (by omega)).fr f2 (by omega),X:=(k.X.fr f (by omega)).fr f2 (by omega),jr:=k.jr,cr:=k.cr }
theorem newj (k:XInv h0 lv P jobs g h s) {i:Nat} (hi:∀ t,i ∉ s.q t) (hr:s.running≠some i) {left sec:Int} {cuts:List Int} {vc:Value} (hc:Rd 1 Gk h0 vc cuts) :
    XInv h0 lv P jobs { g with w:=at1 g.w i h.length,tag:=Kg g.tag h.length (7+2 * i) } (h++[LObj.cells [.int .i64 i,.int .i64 (jb jobs i).task,.int .i64 left,.int .i64 sec,vc] false]) { s with left:=at1 s.left i left,sec:=at1 s.sec i sec,cuts:=at1 s.cuts i cuts }∧CW (Kg g.tag h.length (7+2 * i)) h0 (h++[LObj.cells [.int .i64 i,.int .i64 (jb jobs i).task,.int .i64 left,.int .i64 sec,vc] false]) h.length i (jb jobs i).task left sec cuts:=by
  have f:Foot g.tag (Kg g.tag h.length (7+2 * i)) (7+2 * i) h (h++[LObj.cells [.int .i64 i,.int .i64 (jb jobs i).task,.int .i64 left,.int .i64 sec,vc] false]):=Foot.push _
  refine ⟨{ B:=k.B.fr f (by omega),H:=k.H.fr f (by omega),M:=k.M.fr f (by omega),Q:=fun t l hh => ⟨(k.Q t l hh).1,?_⟩,W:=fun t j hj => ?_,S:=k.S.fr f (by omega),E:=k.E.fr f (by omega),X:=?_,jr:=k.jr,cr:=k.cr },⟨vc,by rw [Bm];rfl,hc,by unfold Kg;rw [if_neg (Nat.lt_irrefl _)]⟩⟩
  · obtain ⟨F,N,h1,h2,h3⟩:=(k.Q t l hh).2.fr f (by omega)
    refine ⟨F,N,?_,h2,h3⟩
    have:(l.map fun j => Aq (at1 g.w i h.length j))=l.map fun j => Aq (g.w j):=List.map_congr_left fun j hj => by
      rw [Bz];rintro rfl
      exact hi t (by unfold XS.q;rw [hh];exact hj)
    show RingH _ _ (l.map fun j => Aq (at1 g.w i h.length j)) _ _
    rw [this];exact h1
  · have e:j≠i:=by rintro rfl;exact hi t hj
    show CW _ _ _ (at1 g.w i h.length j) _ _ (at1 s.left i left j) (at1 s.sec i sec j) (at1 s.cuts i cuts j)
    rw [Bz e,Bz e,Bz e,Bz e]
    exact (k.W t j hj).fr f (by omega)
  · have:=k.X.fr f (by omega)
    refine ⟨?_,this.tag⟩
    rw [this.is]
    unfold Lq D3
    dsimp only
    cases hrr:s.running with
    | none => rfl
    | some j => dsimp only;rw [Bz (by rintro rfl;exact hr hrr)]
theorem setW (k:XInv h0 lv P jobs g h s) {t:Int} {i:Nat} (hi:i∈s.q t) {left sec:Int} {cuts:List Int} {vc:Value} (hc:Rd 1 Gk h0 vc cuts) :
    XInv h0 lv P jobs g (h.set (g.w i) (LObj.cells [.int .i64 i,.int .i64 (jb jobs i).task,.int .i64 left,.int .i64 sec,vc] false)) { s with left:=at1 s.left i left,sec:=at1 s.sec i sec,cuts:=at1 s.cuts i cuts }:=by
  obtain ⟨vc0,w1,w2,w3⟩:=k.W t i hi
  have f:Foot g.tag g.tag (7+2 * i) h (h.set (g.w i) (LObj.cells [.int .i64 i,.int .i64 (jb jobs i).task,.int .i64 left,.int .i64 sec,vc] false)):=by
    have:=Foot.set (tag:=g.tag) (h:=h) (b:=g.w i) (o:=LObj.cells [.int .i64 i,.int .i64 (jb jobs i).task,.int .i64 left,.int .i64 sec,vc] false)
    rw [w3] at this;exact this
  refine { B:=k.B.fr f (by omega),H:=k.H.fr f (by omega),M:=k.M.fr f (by omega),Q:=fun t l h => ⟨(k.Q t l h).1,(k.Q t l h).2.fr f (by omega)⟩,W:=fun u j hj => ?_,S:=k.S.fr f (by omega),E:=k.E.fr f (by omega),X:=k.X.fr f (by omega),jr:=k.jr,cr:=k.cr }
  show CW _ _ _ (g.w j) _ _ (at1 s.left i left j) (at1 s.sec i sec j) (at1 s.cuts i cuts j)
  by_cases e:j=i
  · subst e
    rw [At,At,At]
    exact ⟨vc,B9 (GI.1 w1).1,hc,w3⟩
  · rw [Bz e,Bz e,Bz e]
    exact (k.W u j hj).fr f (by omega)
end XInv
end Go.L.Try
namespace Go.L.Try
open Go Go.L
variable {E:Env}
theorem Rd.sls_tail {α : Type} {enc:α → List Value} {h:Aa} {v:Value} {a:α} {l:List α} (r:Rd 1 enc h v (a :: l)) {k:IntKind}:∃ v',Qa 1 v (some (.int k 1)) none none=some v'∧Rd 1 enc h v' l:=by
 have hs:=r.size
 have hf:=Row.few r
 rcases r.is with ⟨_,h1⟩ | ⟨b,off,sp,cap,c,ro,rfl,h2,h3,h4,h5,h6⟩
 ·simp at h1
 ·rw [List.length_map,List.length_cons] at *
  have hea:(enc a).length=1:=hs (enc a) (by simp)
  have htl:(c.drop (off+1)).take (l.length * 1)=(l.map enc).flatten:=by
   rw [List.map_cons,List.flatten_cons] at h4
   have:=congrArg (List.drop 1) h4
   rw [List.drop_take,List.drop_drop,List.drop_append_of_le_length (by omega),List.drop_of_length_le (by omega:(enc a).length≤1),List.nil_append] at this
   rw [← this]
   congr 1
   try omega
  have h7:(1:Int)≤(l.length:Int)+1:=by omega
  rcases h6 with rfl | rfl
  ·refine ⟨.slice (some ⟨b,off+1 * 1,none⟩) (l.length+1 - 1) (cap - 1),?_,fun e he => hs e (by simp at he ⊢;exact .inr he),by rw [List.length_map];omega,.inr ⟨b,off+1,none,cap - 1,c,ro,by simp,h2,by rw [List.length_map];omega,by rw [List.length_map];exact htl,by rw [List.length_map];omega,.inl rfl⟩⟩
   simp [Qa,De,h5,h7]
  ·refine ⟨.slice (some ⟨b,off+1 * 1,some 1⟩) (l.length+1 - 1) (l.length+1 - 1),?_,fun e he => hs e (by simp at he ⊢;exact .inr he),by rw [List.length_map];omega,.inr ⟨b,off+1,some 1,l.length,c,ro,by simp,h2,by rw [List.length_map];omega,by rw [List.length_map];exact htl,by rw [List.length_map];exact Nat.le_refl _,.inr rfl⟩⟩
   simp [Qa,De,h7]
structure Ctx (E:Env) (h0:Aa) (lv:Value) (P:Int→Int) (n:Nat) (l:List Ab) (jobs:List Job):Prop where
 S:Script l jobs
 nl:n=l.length
 nle:n≤1024
 Pl:∀ t,P t=(atI l t).P
 one:Ah lv=true
 less:Yh E h0 lv P n
 few:jobs.length≤4096
variable {h0 h h':Aa} {lv:Value} {P:Int→Int} {n:Nat} {l:List Ab} {jobs:List Job} {g:Gh} {s:XS} {r:RS}
theorem Ctx.inj (c:Ctx E h0 lv P n l jobs) {a b:Int} (ha:0≤a∧a<n) (hb:0≤b∧b<n) (h:P a=P b):a=b:=by
 rw [c.Pl,c.Pl] at h
 exact c.S.prio a b ha.1 (by rw [← c.nl];exact ha.2) hb.1 (by rw [← c.nl];exact hb.2) h
theorem Ctx.task (c:Ctx E h0 lv P n l jobs) {i:Nat} (hi:i<jobs.length):0≤(jb jobs i).task∧(jb jobs i).task<n:=by rw [c.nl];exact c.S.ok.task _ (Dk hi)
theorem Ad8:∀ {n:Nat} {L:List Int},L.Nodup→(∀ x∈L,0≤x∧x<n)→L.length≤n:=by
 intro n
 induction n with
 | zero => intro L _ h;cases L with | nil => exact Nat.le_refl _ | cons x r => have:=h x (by simp);omega
 | succ n ih =>
  intro L hd h
  have h1:(L.erase (n:Int)).length≤n:=ih (hd.erase _) fun x hx => by
   have h2:=h x (List.mem_of_mem_erase hx)
   have h3:x≠n:=fun e => by rw [e] at hx;exact absurd hx (List.Nodup.not_mem_erase hd)
   omega
  have h2:=List.length_erase_le (a:=(n:Int)) (l:=L)
  by_cases hm:(n:Int)∈L
  ·have:=List.length_erase_of_mem hm;omega
  ·rw [List.erase_of_not_mem hm] at h1;omega
theorem Agm:∀ {L:List Nat} {n:Nat},L.Pairwise (· < ·)→(∀ x∈L,x<n)→L.length≤n:=by
 intro L n hp hb
 have h1:=Ad8 (n:=n) (L:=L.map Int.ofNat) (by
  rw [List.nodup_iff_pairwise_ne,List.pairwise_map]
  refine hp.imp fun {a b} hab e => ?_
  have:(a:Int)=b:=e
  omega) fun x hx => by
   obtain ⟨k,hk,rfl⟩:=List.mem_map.1 hx
   have:=hb k hk
   show 0≤(k:Int)∧(k:Int)<n
   omega
 rwa [List.length_map] at h1
structure Acz (n:Nat) (ready:List Int):Prop where
 nodup:ready.Nodup
 in_:∀ u∈ready,0≤u∧u<n
theorem Awt (c:Ctx E h0 lv P n l jobs) {ready:List Int} (hr:Acz n ready) {its:List (Int × Int)} (hp:(its.map Prod.fst).Perm ready):(∀ p∈its,0≤p.1∧p.1<n)∧(its.map fun p => P p.1).Nodup∧its.length≤1024:=by
 have h1:∀ p∈its,0≤p.1∧p.1<n:=fun p hpp => hr.in_ _ (hp.mem_iff.1 (List.mem_map_of_mem hpp))
 have h2:=hp.nodup_iff.2 hr.nodup
 refine ⟨h1,?_,?_⟩
 ·rw [List.nodup_iff_pairwise_ne,List.pairwise_map] at h2 ⊢
  refine List.Pairwise.imp_of_mem ?_ h2
  intro a b ha hb hab e
  exact hab (c.inj (h1 a ha) (h1 b hb) e)
 ·have h3:=Ad8 hr.nodup hr.in_
  have h4:=hp.length_eq
  rw [List.length_map] at h4
  have:=c.nle;omega
theorem Tq (hE:Aw E) (c:Ctx E h0 lv P n l jobs) (B:CB h0 g.tag h) {ready:List Int} (k:CH g.tag h g.hb lv P ready) (hr:Acz n ready) {t:Int} (ht:0≤t∧t<n) (hnt:t ∉ ready) {W:Nat→Prop} (hW:∀ b,h0.length≤b→W b) :
  WX W (callW E (.func (.func Bb) #[] #[]) [Aq g.hb,.int .i64 t] h) (fun _ h' => ∃ tag',Foot g.tag tag' 1 h h'∧CH tag' h' g.hb lv P (t :: ready)):=by
 obtain ⟨its,F,h1,h2,h3,h4⟩:=k
 obtain ⟨k1,k2,k3⟩:=Awt c hr h4
 have hge:∀ b,F b→h0.length≤b:=fun b hb => B.ge (by rw [h2 b hb];decide)
 refine WX.mono (Awy hE h1 B.pre hge c.one c.less k1 k2 ht (fun p hpp e => ?_) h3 (by omega) (W:=W) fun b hb => hW b ?_) (fun b hb => hb) fun _ h' ⟨L,F',q1,q2,q3,q4⟩ => ?_
 ·have:=c.inj (k1 p hpp) ht e
  exact hnt (this ▸ h4.mem_iff.1 (List.mem_map_of_mem hpp))
 ·rcases hb with hb | hb
  ·exact hge b hb
  ·exact Nat.le_trans B.pre.le hb
 ·obtain ⟨f,hf⟩:=Foot.of (c:=1) q2 h2
  exact ⟨_,f,L,F',q1,hf,q3,q4.trans (h4.cons t)⟩
theorem Aa4 (hE:Aw E) (c:Ctx E h0 lv P n l jobs) (B:CB h0 g.tag h) {ready:List Int} (k:CH g.tag h g.hb lv P ready) (hr:Acz n ready) {W:Nat→Prop} (hW:∀ b,h0.length≤b→W b) :
  WX W (callW E (.func (.func Ck) #[] #[]) [Aq g.hb] h) (fun v h' => (ready=[]∧v = .tuple #[.int .i64 0,.bool false]∧h'=h)∨∃ t rd tag',v = .tuple #[.int .i64 t,.bool true]∧(t :: rd).Perm ready∧(∀ u∈ready,P t≤P u)∧Foot g.tag tag' 1 h h'∧CH tag' h' g.hb lv P rd):=by
 obtain ⟨its,F,h1,h2,h3,h4⟩:=k
 obtain ⟨k1,k2,k3⟩:=Awt c hr h4
 have hge:∀ b,F b→h0.length≤b:=fun b hb => B.ge (by rw [h2 b hb];decide)
 refine WX.mono (A0v hE h1 B.pre hge c.one c.less k1 k2 h3 (W:=W) fun b hb => hW b (hge b hb)) (fun b hb => hb) fun v h' hq => ?_
 rcases hq with ⟨rfl,q1,q2⟩ | ⟨x,L,q1,q2,q3,q4,q5,q6⟩
 ·exact .inl ⟨List.perm_nil.1 h4.symm,q1,q2⟩
 ·obtain ⟨f,hf⟩:=Foot.of (c:=1) q3 h2
  refine .inr ⟨x,L.map Prod.fst,_,q1,q5.trans h4,fun u hu => ?_,f,L,F,q2,hf,q4,List.Perm.refl _⟩
  obtain ⟨p,hp,rfl⟩:=List.mem_map.1 (h4.mem_iff.2 hu)
  exact q6 p hp
theorem A10 (hE:Aw E) (B:CB h0 g.tag h) {qb:Nat} {w:Nat→Nat} {t:Int} {q:List Nat} (k:CQ g.tag h qb w t q) (hq:q.length≤4096) (i:Nat) {W:Nat→Prop} (hW:∀ b,h0.length≤b→W b) :
  WX W (callW E (.func (.func Av) #[] #[]) [Aq qb,Aq (w i)] h) (fun _ h' => ∃ tag',Foot g.tag tag' (6+2 * t.toNat) h h'∧CQ tag' h' qb w t (q++[i])):=by
 obtain ⟨F,N,h1,h2,h3⟩:=k
 have hge:∀ b,F b→h0.length≤b:=fun b hb => B.ge (by rw [h3 b hb];omega)
 refine WX.mono (Aw7 hE h1 h2 (by rw [List.length_map];exact hq) (x:=Aq (w i)) rfl rfl (W:=W) fun b hb => hW b ?_) (fun b hb => hb) fun _ h' ⟨F',N',q1,q2,q3⟩ => ?_
 ·rcases hb with hb | hb
  ·exact hge b hb
  ·exact Nat.le_trans B.pre.le hb
 ·obtain ⟨f,hf⟩:=Foot.of (c:=6+2 * t.toNat) q3 h3
  exact ⟨_,f,F',N',by rw [List.map_append];exact q1,q2,hf⟩
theorem A6f (hE:Aw E) (B:CB h0 g.tag h) {qb:Nat} {w:Nat→Nat} {t:Int} {i:Nat} {q:List Nat} (k:CQ g.tag h qb w t (i :: q)) (hw:∀ j∈i :: q,w j<h.length) {W:Nat→Prop} (hW:∀ b,h0.length≤b→W b) :
  WX W (callW E (.func (.func A8) #[] #[]) [Aq qb] h) (fun _ h' => ∃ tag',Foot g.tag tag' (6+2 * t.toNat) h h'∧CQ tag' h' qb w t q):=by
 obtain ⟨F,N,h1,h2,h3⟩:=k
 have hge:∀ b,F b→h0.length≤b:=fun b hb => B.ge (by rw [h3 b hb];omega)
 rw [List.map_cons] at h1
 refine WX.mono (A01 hE h1 (fun y hy => ?_) (W:=W) fun b hb => hW b ?_) (fun b hb => hb) fun _ h' ⟨_,q1,q3⟩ => ?_
 ·have hy:y∈(i :: q).map fun i => Aq (w i):=hy
  obtain ⟨j,hj,rfl⟩:=List.mem_map.1 hy
  have:=hw j hj
  exact ⟨by simp [Ae,this],rfl⟩
 ·rcases hb with hb | hb
  ·exact hge b hb
  ·exact Nat.le_trans B.pre.le hb
 ·obtain ⟨f,hf⟩:=Foot.of (c:=6+2 * t.toNat) q3 h3
  exact ⟨_,f,F,N,q1,h2,hf⟩
theorem A3u (hE:Aw E) {tag:Nat→Nat} {qb:Nat} {w:Nat→Nat} {t:Int} {q:List Nat} (k:CQ tag h qb w t q):callW E (.func (.func Ar) #[] #[]) [Aq qb] h=some (.int .i64 q.length,h,[]):=by
 obtain ⟨F,N,h1,h2,h3⟩:=k
 have:=Apm hE h1
 rw [List.length_map] at this;exact this
theorem atQ (hE:Aw E) {tag:Nat→Nat} {qb:Nat} {w:Nat→Nat} {t:Int} {i:Nat} {q:List Nat} (k:CQ tag h qb w t (i :: q)) (hw:∀ j∈i :: q,w j<h.length):callW E (.func (.func Az) #[] #[]) [Aq qb,.int .i64 0] h=some (.tuple #[Aq (w i),.bool true],h,[]):=by
 obtain ⟨F,N,h1,h2,h3⟩:=k
 have:=Aw8 hE h1 (fun y hy => by
  obtain ⟨j,hj,rfl⟩:=List.mem_map.1 hy
  have:=hw j hj
  exact ⟨by simp [Ae,this],rfl⟩) 0
 rw [if_pos ⟨by decide,by simp⟩] at this
 exact this
theorem CW.lt {tag:Nat→Nat} {wb i:Nat} {task left sec:Int} {cuts:List Int} (k:CW tag h0 h wb i task left sec cuts):wb<h.length:=by
 obtain ⟨vc,h1,_⟩:=k;exact (GI.1 h1).1
theorem Yt {m:Nat} {cs:List Value} (hc:∀ ρ : Nat→Option Nat,(∀ b,b<m → ρ b=some b)→cs.mapM (A6 ρ 4)=some cs):Movable m (fun hh v => ∃ b,v=Aq b∧m≤b∧hh[b]? = some (.cells cs false)) 1:=by
 refine ⟨fun ρ h h' d v v' hm hv ⟨b,e,hge,hb⟩ => ?_,fun h v ⟨b,e,_⟩ => by subst e;rfl⟩
 subst e
 simp only [A6] at hv
 cases hρ : ρ b with
 | none => simp [hρ] at hv
 | some b' =>
  simp [hρ] at hv
  subst hv
  obtain ⟨o,ho,hb'⟩:=hm.new b b' hge hρ
  rw [List.getD_eq_getElem?_getD,hb] at ho
  simp only [Option.getD_some,Qi,Bool.false_eq_true,if_false,hc ρ hm.old,Option.map_some,OI] at ho
  subst ho
  exact ⟨b',rfl,hm.ge b b' hge hρ,hb'⟩
theorem A02 (hE:Aw E) (h:Aa):∃ v ys,callW E (.func (.func Cb) #[] #[]) [.slice none 0 0] h=some (v,h++ys,[])∧∃ b,v=Aq b∧h.length≤b∧(h++ys)[b]? = some (.cells [.slice none 0 0,.int .i64 0,.int .i64 0] false):=by
 refine Ku hE.Rn rfl (Yt fun ρ _ => rfl) (by simp) ?_
 simp only [Ak]
 (repeat' simp -dsimp (disch:=omega) only [↓EA,EB,Nat.reduceEqDiff,↓reduceIte,reduceCtorEq,Ac,eq_self, *])
 refine WO.loop (fun (_:Unit) fr h' => h'=h++[.cells [.slice none 0 0,.int .i64 0,.int .i64 0] false]∧get fr 3=Aq h.length∧get fr 9 = .int .i64 0∧get fr 10 = .int .i64 0) (fun _ => 0) ?_ () ⟨rfl,rfl,rfl,rfl⟩
 rintro _ fr h' ⟨rfl,g3,g9,g10⟩
 unfold G8
 (repeat' (first | (with_reducible refine A3 (fun _ => ?_) (fun _ => ?_)<;>try (exfalso;omega)) | simp -dsimp (disch:=omega) only [↓EA,EB,Nat.reduceEqDiff,↓reduceIte,eq_self, *]))
 exact ⟨⟨_,rfl⟩,h.length,rfl,Nat.le_refl _,by rw [Bm];rfl⟩
theorem A0w (hE:Aw E) {h:Aa} {f:FuncId} {bx:Nat} (hbx:bx<h.length):∃ v ys,callW E (.func (.func Gu) #[] #[]) [.func (.func f) #[] #[Aq bx],.slice none 0 0] h=some (v,h++ys,[])∧∃ b,v=Aq b∧h.length≤b∧(h++ys)[b]? = some (.cells [.func (.func f) #[] #[Aq bx],.slice none 0 0,.int .u64 0] false):=by
 refine Ku hE.Af6 rfl (Yt fun ρ ho => by simp [List.mapM_cons,A6,Aq,ho bx hbx]) (by simp) ?_
 simp only [Ak]
 (repeat' simp -dsimp (disch:=omega) only [↓EA,EB,Nat.reduceEqDiff,Nat.reduceAdd,Nat.reduceLeDiff,↓reduceIte,reduceCtorEq,Ac,eq_self, *])
 refine WO.loop (fun (_:Unit) fr h' => h'=h++[.cells [.func (.func f) #[] #[Aq bx],.slice none 0 0,.int .u64 0] false]∧get fr 5=Aq h.length∧get fr 12 = .int .i64 0∧get fr 13 = .int .i64 0) (fun _ => 0) ?_ () ⟨rfl,rfl,rfl,rfl⟩
 rintro _ fr h' ⟨rfl,g3,g9,g10⟩
 unfold Ol
 (repeat' (first | (with_reducible refine A3 (fun _ => ?_) (fun _ => ?_)<;>try (exfalso;omega)) | simp -dsimp (disch:=omega) only [↓EA,EB,Nat.reduceEqDiff,↓reduceIte,eq_self, *]))
 exact ⟨⟨_,rfl⟩,h.length,rfl,Nat.le_refl _,by rw [Bm];rfl⟩
theorem Awp {jl:List (NV Job)} {i:Nat} (hi:i<jl.length):jb (jl.map NV.j) i=(atI jl (i:Int)).j:=by
 rw [Tg NV.j jl (i:Int) (by omega) (by omega)]
theorem Wj (hE:Aw E) (k:XInv h0 lv P jobs g h s) (hin:∀ i∈s.coming,i<jobs.length):callW E (.func (.func Bq) #[] #[]) [Aq g.x] h=some (.int .i64 (Em jobs s),h,[]):=by
 have hx:h[g.x]? = some (.cells [g.vj,g.vc,Aq g.hb,.map (some g.mb),.int .i64 s.now,g.vs,g.ve,D3 g s] false):=k.X.is
 have cr:=k.cr.pre k.B.pre
 obtain ⟨jl,hjl,hj,_⟩:=(k.jr.pre k.B.pre).is
 refine Am hE.Ua rfl (by simp) ?_
 simp only [Ak]
 unfold Em
 cases hc:s.coming with
 | nil =>
  rw [hc] at cr
  (repeat' (first | (with_reducible refine A3 (fun _ => ?_) (fun _ => ?_)<;>try (exfalso;omega)) | simp -dsimp (disch:=omega) only [↓EA,EB,↓reduceIte,reduceCtorEq,eq_self, *,cr.len]))
 | cons i rest =>
  rw [hc] at cr
  have hi:=hin i (by rw [hc];simp)
  subst hjl
  rw [List.length_map] at hi
  have e0:atI ((i :: rest).map Int.ofNat) 0=(i:Int):=rfl
  have hl:(((i :: rest).map Int.ofNat).length:Int)=(rest.length:Int)+1:=by simp
  have e1:=Awp hi
  dsimp only
  rw [e1]
  have hi2:(i:Int)<jl.length:=by omega
  have i0:=cr.ixs .i64 0 (by decide) (by rw [hl];omega)
  have l0:=cr.ld0 (i:=0) (by decide) (by rw [hl];omega) (by decide)
  rw [e0] at l0
  have ll:=cr.len
  rw [hl] at ll
  simp only [Gk] at l0
  have few:(rest.length:Int)<4611686018427387904:=by have:=cr.few;simp at this;omega
  clear cr e1 hl hc k
  (repeat' (first | (with_reducible refine A3 (fun _ => ?_) (fun _ => ?_)<;>try (exfalso;omega)) | simp -dsimp (disch:=omega) only [↓EA,EB,Nat.reduceEqDiff,↓reduceIte,reduceCtorEq,eq_self, *,hj.ixs,hj.ld,Ia,hdJ]))
theorem Aqg {α β : Type} [DecidableEq α] {f:α → β} {a:α} {b c:β}:at1 (at1 f a b) a c=at1 f a c:=by
 funext x;unfold at1;split<;>rfl
theorem Z1 {tag:Nat→Nat} {m c b:Nat} (hb:b<m):Kg tag m c b=tag b:=if_pos hb
theorem Ajt (hE:Aw E) (c:Ctx E h0 lv P n l jobs) (k:XInv h0 lv P jobs g h s) (sim:Tk jobs s r) {W:Nat→Prop} (hW:∀ b,h0.length≤b→W b) :
  WX W (callW E (.func (.func B6) #[] #[]) [Aq g.x] h) (fun _ h' => ∃ g' s',XInv h0 lv P jobs g' h' s'∧Tk jobs s' r∧g'.x=g.x∧s'.now=s.now∧∀ i∈s'.coming,s.now<(jb jobs i).release):=by
 refine E9 hE.Qo rfl (by simp) ?_
 simp only [List.nil_append,List.cons_append,Ak]
 (repeat' simp -dsimp (disch:=omega) only [↓EA, *])
 refine WO.loop (fun (a:Gh × XS) fr h' => XInv h0 lv P jobs a.1 h' a.2∧Tk jobs a.2 r∧a.1.x=g.x∧a.2.now=s.now∧get fr 0=Aq g.x) (fun a => a.2.coming.length) ?_ (g,s) ⟨k,sim,rfl,rfl,rfl⟩
 clear k sim
 rintro ⟨g1,s1⟩ fr h1 ⟨k,sim,hgx,hnow,g0⟩
 dsimp only at k sim hgx hnow g0 ⊢
 rw [← hgx] at g0 ⊢
 rw [← hnow]
 have Hgx:=Hid.mk hgx
 have Hnow:=Hid.mk hnow
 clear hgx hnow
 have hx:h1[g1.x]? = some (.cells [g1.vj,g1.vc,Aq g1.hb,.map (some g1.mb),.int .i64 s1.now,g1.vs,g1.ve,D3 g1 s1] false):=k.X.is
 have cr:=k.cr.pre k.B.pre
 obtain ⟨jl,hjl,hj0,hcuts⟩:=k.jr.is
 have hj:=hj0.pre k.B.pre
 have HJ:=Hid.mk hj0
 have HCuts:=Hid.mk hcuts
 have hjlen:jobs.length=jl.length:=by rw [← hjl,List.length_map]
 have hjb:∀ i:Nat,i<jl.length→jb jobs i=(atI jl (i:Int)).j:=fun i hi => by rw [← hjl];exact Awp hi
 have HJL:=Hid.mk hjl
 have HJB:=Hid.mk hjb
 have HJlen:=Hid.mk hjlen
 clear hj0 hcuts hjl hjb hjlen
 have K:=Hid.mk k
 have Sim:=Hid.mk sim
 clear k sim
 unfold Gi
 cases hc:s1.coming with
 | nil =>
  rw [hc] at cr
  (repeat' (first | (with_reducible refine A1 (fun _ => ?_) (fun _ => ?_)<;>try (exfalso;omega)) | simp -dsimp (disch:=omega) only [↓EA,EB,Nat.reduceEqDiff,↓reduceIte,reduceCtorEq,eq_self, *,cr.len]))
  exact ⟨g1,s1,K.out,Sim.out,rfl,rfl,by rw [hc];simp⟩
 | cons i rest =>
  rw [hc] at cr
  have hi:=(Sim.out.coming i (by rw [hc];simp)).1
  have hw:=(c.S.ok.work _ (Dk hi))
  have hrel:=(c.S.ok.rel _ (Dk hi))
  have htk:=c.task hi
  have e0:atI ((i :: rest).map Int.ofNat) 0=(i:Int):=rfl
  have hl:(((i :: rest).map Int.ofNat).length:Int)=(rest.length:Int)+1:=by simp
  have hic:i<jl.length:=by have:=HJlen.out;omega
  have e1:=HJB.out i hic
  rw [e1] at hw hrel htk
  have hi2:(i:Int)<jl.length:=by omega
  have i0:=cr.ixs .i64 0 (by decide) (by rw [hl];omega)
  have l0:=cr.ld0 (i:=0) (by decide) (by rw [hl];omega) (by decide)
  rw [e0] at l0
  have ll:=cr.len
  rw [hl] at ll
  simp only [Gk] at l0
  have few:(rest.length:Int)<4611686018427387904:=by have:=cr.few;simp at this;omega
  have hcr:Rd 1 Gk h0 g1.vc ((i:Int) :: rest.map Int.ofNat):=by have:=K.out.cr;rw [hc] at this;exact this
  obtain ⟨vc',hsl,hcr'⟩:=Rd.sls_tail hcr (k:=.i64)
  have ovc:=hcr'.one
  have cvc:=hcr'.cv
  have Hcr':=Hid.mk hcr'
  have Hc:=Hid.mk hc
  have E1:=Hid.mk e1
  clear cr e1 hl hc hcr hcr'
  by_cases hle:(atI jl (i:Int)).j.release≤s1.now
  ·have hgl:=(GI.1 hx).1
   have hWx:=hW g1.x (K.out.B.ge (by rw [K.out.X.tag];decide))
   (repeat' (first | (with_reducible refine A1 (fun _ => ?_) (fun _ => ?_)<;>try (exfalso;omega)) | simp -dsimp (disch:=omega) only [↓EA,EB,Nat.reduceEqDiff,Nat.reduceAdd,Nat.reduceLeDiff,↓reduceIte,reduceCtorEq,eq_self, *,hj.ixs,hj.ld,Ia,hdJ,B9 hgl]))
   have k1:=K.out.setX (vc:=vc') (now:=s1.now) (running:=s1.running) (coming:=rest) Hcr'.out
   obtain ⟨h2,hh2⟩:∃ h2,h2=h1.set g1.x (LObj.cells (Lq { g1 with vc:=vc' } { s1 with now:=s1.now,running:=s1.running,coming:=rest }) false):=⟨_,rfl⟩
   have eh2:List.set h1 g1.x (LObj.cells [g1.vj,vc',Aq g1.hb,Value.map (some g1.mb),Value.int IntKind.i64 s1.now,g1.vs,g1.ve,D3 g1 s1] false)=h2:=by rw [hh2];rfl
   rw [← hh2] at k1
   rw [eh2]
   have hj2:=HJ.out.pre k1.B.pre
   have hx2:h2[g1.x]? = some (.cells [g1.vj,vc',Aq g1.hb,.map (some g1.mb),.int .i64 s1.now,g1.vs,g1.ve,D3 g1 s1] false):=k1.X.is
   have k2:=k1.junk [LObj.cells (Ia hdJ (atI jl (i:Int))) false]
   obtain ⟨es,m1,m2,m3,m4⟩:=k2.M
   dsimp only at m1 m3 m4
   have hvc:=HCuts.out _ (Aj (l:=jl) (i:=(i:Int)) (by omega) hi2)
   have ojv:=hvc.one
   have cjv:=hvc.cv
   have K1:=Hid.mk k1
   have K2:=Hid.mk k2
   have hgl2:h1.length=h2.length:=by rw [hh2,List.length_set]
   have Hh2:=Hid.mk (AI hh2 (AI eh2 hgl2))
   clear hh2 eh2 k1 k2 hgl2 hx hj i0 l0 hgl hsl
   have hWn:=hW h2.length K1.out.B.pre.le
   obtain ⟨h3,hh3⟩:∃ h3,h3=h2++[LObj.cells (Ia hdJ (atI jl (i:Int))) false]:=⟨_,rfl⟩
   have eh3:h2++[LObj.cells [Value.int IntKind.i64 (atI jl (i:Int)).j.task,Value.int IntKind.i64 (atI jl (i:Int)).j.arrive,Value.int IntKind.i64 (atI jl (i:Int)).j.release,Value.int IntKind.i64 (atI jl (i:Int)).j.work,(atI jl (i:Int)).v] false]=h3:=by rw [hh3];rfl
   have hb3:h3[h2.length]? = some (.cells [Value.int IntKind.i64 (jb jobs i).task,Value.int IntKind.i64 (jb jobs i).arrive,Value.int IntKind.i64 (jb jobs i).release,Value.int IntKind.i64 (jb jobs i).work,(atI jl (i:Int)).v] false):=by rw [hh3,Bm,E1.out];rfl
   have Eh3:=Hid.mk eh3
   have Hh3:=Hid.mk hh3
   have Hb3:=Hid.mk hb3
   rw [← hh3] at m1
   have K3:Hid (XInv h0 lv P jobs { g1 with vc:=vc',tag:=Kg g1.tag h2.length 5 } h3 { s1 with now:=s1.now,running:=s1.running,coming:=rest }):=⟨by rw [hh3];exact K2.out⟩
   clear eh3 hh3 K2 hb3
   have M1:=Hid.mk m1
   have lk:=U1 m2 (.pointer none) (jb jobs i).task
   rw [m3] at lk
   clear m1
   have hni:∀ t,i ∉ s1.q t:=fun t hm => ((Sim.out.mem t i).1 hm).2.2.1 (by rw [Hc.out];simp)
   have hnr:s1.running≠some i:=fun e => by
    obtain ⟨rr,h5⟩:=Sim.out.run i e
    exact hni _ (by rw [h5];simp)
   have Hni:=Hid.mk (AI hni hnr)
   clear hni hnr
   (repeat' simp -dsimp (disch:=omega) only [↓EA,EB,Nat.reduceEqDiff,Nat.reduceAdd,↓reduceIte,reduceCtorEq,Ac,eq_self, *,hj2.lda,Ia,hdJ])
   rw [Eh3.out]
   have hb3:=Hb3.out
   have hx3:h3[g1.x]? = some (.cells [g1.vj,vc',Aq g1.hb,.map (some g1.mb),.int .i64 s1.now,g1.vs,g1.ve,D3 g1 s1] false):=K3.out.X.is
   have m1:=M1.out
   clear hx2 hj2 M1
   cases hQ:s1.Q (jb jobs i).task with
   | none =>
    rw [hQ] at lk
    simp only [Option.map_none,Option.getD_none] at lk
    have hqq:s1.q (jb jobs i).task=[]:=by unfold XS.q;rw [hQ];rfl
    have HQ:=Hid.mk hQ
    have Hqq:=Hid.mk hqq
    clear hQ hqq
    rw [← E1.out] at hvc
    (repeat' simp -dsimp (disch:=omega) only [↓EA,EB,Nat.reduceEqDiff,↓reduceIte,reduceCtorEq,eq_self, *,A1c])
    refine F9 (A02 hE h3) fun vq ys ⟨qb,e,hqb,hys⟩ pq => ?_
    subst e
    obtain ⟨es',hput,hk',hmapI⟩:=Zy (k:=.i64) (Aq qb) m2 (jb jobs i).task
    have hmp:=fun hh r => Alz hput hh r
    have m1x:=pq _ _ m1
    have hb3x:=pq _ _ hb3
    have hx3x:=pq _ _ hx3
    have hWm:=hW g1.mb (K3.out.B.ge (by
     show Kg g1.tag h2.length 5 g1.mb≠5
     have:Kg g1.tag h2.length 5 g1.mb=2:=m4
     omega))
    have k4:=K3.out.newq (t:=(jb jobs i).task) (by rw [E1.out];exact htk.1) HQ.out hqb hys m1 hk' hmapI
    have hmlt:=(GI.1 m1x).1
    have hmne:g1.mb≠g1.x∧g1.mb≠h2.length:=by
     constructor
     ·intro e;rw [e] at m1;rw [hx3] at m1;cases m1
     ·intro e;rw [e] at m1;rw [hb3] at m1;cases m1
    have hb4:(List.set (h3++ys) g1.mb (.map es'))[h2.length]? = some (.cells [Value.int IntKind.i64 (jb jobs i).task,Value.int IntKind.i64 (jb jobs i).arrive,Value.int IntKind.i64 (jb jobs i).release,Value.int IntKind.i64 (jb jobs i).work,(atI jl (i:Int)).v] false):=by rw [Ba hmne.2];exact hb3x
    have hx4:(List.set (h3++ys) g1.mb (.map es'))[g1.x]? = some (.cells [g1.vj,vc',Aq g1.hb,.map (some g1.mb),.int .i64 s1.now,g1.vs,g1.ve,D3 g1 s1] false):=by rw [Ba hmne.1];exact hx3x
    have K4:=Hid.mk k4
    clear k4 hput hk' hmapI hys m1 hb3 hx3 lk
    have hl2:h2.length<h3.length:=by rw [Hh3.out];simp
    have HB4:=Hid.mk (AI hb4 hx4)
    clear hb4 hx4 hmne
    (repeat' simp -dsimp (disch:=omega) only [↓EA,EB,Nat.reduceEqDiff,↓reduceIte,reduceCtorEq,eq_self, *])
    generalize hh4:List.set (h3++ys) g1.mb (LObj.map es')=h4 at HB4 K4 ⊢
    obtain ⟨hb3',hx4⟩:=HB4.out
    clear m1x hb3x hx3x hmp HB4
    (repeat' simp -dsimp (disch:=omega) only [↓EA,EB,Nat.reduceEqDiff,Nat.reduceAdd,Nat.reduceLeDiff,↓reduceIte,reduceCtorEq,Ac,eq_self, *])
    obtain ⟨q,hq⟩:∃ q:List Nat,([]:List Nat)=q:=⟨_,rfl⟩
    rw [hq] at K4
    have hqq:=Hqq.out.trans hq
    have Hqq:=Hid.mk hqq
    clear hqq
    have hni4:∀ t,i ∉ (at1 s1.Q (jb jobs i).task (some q) t).getD []:=fun t hm => by
     by_cases e:t=(jb jobs i).task
     ·subst e;rw [At,← hq] at hm;cases hm
     ·rw [Bz e] at hm;exact Hni.out.1 t hm
    have ht4:Kg (Kg g1.tag h2.length 5) h3.length (6+2 * (jb jobs i).task.toNat) h2.length=5:=by rw [Z1 hl2];exact if_neg (Nat.lt_irrefl _)
    have Ht4:=Hid.mk ht4
    clear ht4
    have Hni4:=Hid.mk hni4
    clear hni4 hq
    have kw:=(K4.out).newj (i:=i) Hni4.out Hni.out.2 (left:=(jb jobs i).work) (sec:=0) (cuts:=(jb jobs i).cuts) hvc
    obtain ⟨k5,w5⟩:=kw
    have cq5:=(k5.Q _ q At).2
    have hlen5:(q).length≤4096:=by
     have h5:=Agm (Sim.out.asc (jb jobs i).task) (fun x hx => ((Sim.out.mem _ x).1 hx).1)
     have h6:=c.few
     rw [Hqq.out] at h5
     omega
    have hp5:=A10 hE k5.B cq5 hlen5 i hW
    try dsimp only at hp5
    simp only [At] at hp5
    refine WX.mono hp5 (fun b hb => hb) fun v6 h6 ⟨tag6,f6,cq6⟩ => ?_
    have hb6:h6[h2.length]? = _:=(f6.get (b:=h2.length) (by rw [GL (GI.1 hb3').1];exact hb3') (by
     have h7:=(GI.1 hb3').1
     try dsimp only
     rw [Z1 h7,Ht4.out];omega)).1
    have k6:=k5.queue (t:=(jb jobs i).task) (l':=q++[i]) At f6 cq6 (fun j hj => by
     rcases List.mem_append.1 hj with hj | hj
     ·refine k5.W (jb jobs i).task j ?_
      unfold XS.q
      try dsimp only
      rw [At];exact hj
     ·rw [List.mem_singleton.1 hj];try dsimp only
      rw [At,At,At,At];exact w5)
    have hl6:=A3u hE (k6.Q (jb jobs i).task (q++[i]) At).2
    have hx6:h6[g1.x]? = some (.cells [g1.vj,vc',Aq g1.hb,.map (some g1.mb),.int .i64 s1.now,g1.vs,g1.ve,_] false):=k6.X.is
    have hrdy:Acz n s1.ready:=⟨Sim.out.nodup,fun u hu => by
     have h7:=((Sim.out.ready u).1 hu).1
     cases hqu:s1.q u with
     | nil => exact absurd hqu h7
     | cons j rr =>
      have h8:=(Sim.out.mem u j).1 (by rw [hqu];simp)
      have:=c.task h8.1
      rw [h8.2.1] at this;exact this⟩
    have hqlen:(((q++[i]).length:Nat):Int)=((q).length:Int)+1:=by rw [LA,List.length_singleton];omega
    rw [hqlen] at hl6
    try simp only [At] at hl6
    have K6:=Hid.mk k6
    have Hrdy:=Hid.mk hrdy
    have hlen6:((q).length:Int)≤4096:=by omega
    clear k5 k6 w5 cq5 cq6 hp5 hrdy hqlen hlen5
    by_cases hq0:q=[]
    ·have hl7:((q).length:Int)=0:=by rw [hq0];rfl
     have hpr:=Tq hE c K6.out.B K6.out.H Hrdy.out (t:=(jb jobs i).task) (by rw [E1.out];exact htk) (fun hm => ((Sim.out.ready _).1 hm).1 (by rw [Hqq.out,hq0])) hW
     try dsimp only at hpr
     have Hq0:=Hid.mk hq0
     clear hq0
     (repeat' (first | (with_reducible refine A3 (fun _ => ?_) (fun _ => ?_)<;>try (exfalso;omega)) | simp -dsimp (disch:=omega) only [↓EA,EB,Nat.reduceEqDiff,↓reduceIte,reduceCtorEq,eq_self, *]))
     refine WX.mono hpr (fun b hb => hb) fun v8 h8 ⟨tag8,f8,H8⟩ => ?_
     have k8:=K6.out.ready f8 H8
     have K8:=Hid.mk k8
     clear k8 f8 H8
     (repeat' simp -dsimp (disch:=omega) only [↓EA,EB,↓reduceIte,reduceCtorEq,eq_self, *])
     obtain ⟨g8,hg8,kf⟩:∃ g8,XInv h0 lv P jobs g8 h8 (Ei jobs s1 i rest)∧g8.x=g1.x:=by
      refine ⟨?_,?_,?_⟩
      rotate_left
      ·have k8:=K8.out
       try simp only [Aqg] at k8
       unfold Ei
       rw [Hqq.out,if_pos Hq0.out]
       exact k8
      ·rfl
     exact Next.mk (g8,Ei jobs s1 i rest) ⟨hg8,Vr c.S Sim.out Hc.out (by rw [E1.out];exact hle),kf,rfl,rfl⟩ (by dsimp only [Ei];rw [Hc.out];simp)
    ·have hl7:¬ ((q).length:Int)=0:=by
      intro h7
      exact hq0 (List.length_eq_zero_iff.1 (by omega))
     have Hq0:=Hid.mk hq0
     clear hq0
     (repeat' (first | (with_reducible refine A3 (fun _ => ?_) (fun _ => ?_)<;>try (exfalso;omega)) | simp -dsimp (disch:=omega) only [↓EA,EB,Nat.reduceEqDiff,↓reduceIte,reduceCtorEq,eq_self, *]))
     obtain ⟨g8,hg8,kf⟩:∃ g8,XInv h0 lv P jobs g8 h6 (Ei jobs s1 i rest)∧g8.x=g1.x:=by
      refine ⟨?_,?_,?_⟩
      rotate_left
      ·have k8:=K6.out
       try simp only [Aqg] at k8
       unfold Ei
       rw [Hqq.out,if_neg Hq0.out]
       exact k8
      ·rfl
     exact Next.mk (g8,Ei jobs s1 i rest) ⟨hg8,Vr c.S Sim.out Hc.out (by rw [E1.out];exact hle),kf,rfl,rfl⟩ (by dsimp only [Ei];rw [Hc.out];simp)
   | some q =>
    rw [hQ] at lk
    simp only [Option.map_some,Option.getD_some] at lk
    have hqq:s1.q (jb jobs i).task=q:=by unfold XS.q;rw [hQ];rfl
    have HQ:=Hid.mk hQ
    have Hqq:=Hid.mk hqq
    clear hQ hqq
    rw [← E1.out] at hvc
    (repeat' simp -dsimp (disch:=omega) only [↓EA,EB,Nat.reduceEqDiff,Nat.reduceAdd,Nat.reduceLeDiff,↓reduceIte,reduceCtorEq,Ac,eq_self, *,Oo])
    have hb3':=hb3
    clear hb3
    have kw:=(K3.out).newj (i:=i) Hni.out.1 Hni.out.2 (left:=(jb jobs i).work) (sec:=0) (cuts:=(jb jobs i).cuts) hvc
    obtain ⟨k5,w5⟩:=kw
    have cq5:=(k5.Q _ q HQ.out).2
    have hlen5:(q).length≤4096:=by
     have h5:=Agm (Sim.out.asc (jb jobs i).task) (fun x hx => ((Sim.out.mem _ x).1 hx).1)
     have h6:=c.few
     rw [Hqq.out] at h5
     omega
    have hp5:=A10 hE k5.B cq5 hlen5 i hW
    try dsimp only at hp5
    simp only [At] at hp5
    refine WX.mono hp5 (fun b hb => hb) fun v6 h6 ⟨tag6,f6,cq6⟩ => ?_
    have hb6:h6[h2.length]? = _:=(f6.get (b:=h2.length) (by rw [GL (GI.1 hb3').1];exact hb3') (by
     have h7:=(GI.1 hb3').1
     try dsimp only
     rw [Z1 h7,(show Kg g1.tag h2.length 5 h2.length=5 from if_neg (Nat.lt_irrefl _))];omega)).1
    have k6:=k5.queue (t:=(jb jobs i).task) (l':=q++[i]) HQ.out f6 cq6 (fun j hj => by
     rcases List.mem_append.1 hj with hj | hj
     ·refine k5.W (jb jobs i).task j ?_
      unfold XS.q
      try dsimp only
      rw [HQ.out];exact hj
     ·rw [List.mem_singleton.1 hj];try dsimp only
      rw [At,At,At,At];exact w5)
    have hl6:=A3u hE (k6.Q (jb jobs i).task (q++[i]) At).2
    have hx6:h6[g1.x]? = some (.cells [g1.vj,vc',Aq g1.hb,.map (some g1.mb),.int .i64 s1.now,g1.vs,g1.ve,_] false):=k6.X.is
    have hrdy:Acz n s1.ready:=⟨Sim.out.nodup,fun u hu => by
     have h7:=((Sim.out.ready u).1 hu).1
     cases hqu:s1.q u with
     | nil => exact absurd hqu h7
     | cons j rr =>
      have h8:=(Sim.out.mem u j).1 (by rw [hqu];simp)
      have:=c.task h8.1
      rw [h8.2.1] at this;exact this⟩
    have hqlen:(((q++[i]).length:Nat):Int)=((q).length:Int)+1:=by rw [LA,List.length_singleton];omega
    rw [hqlen] at hl6
    try simp only [] at hl6
    have K6:=Hid.mk k6
    have Hrdy:=Hid.mk hrdy
    have hlen6:((q).length:Int)≤4096:=by omega
    clear k5 k6 w5 cq5 cq6 hp5 hrdy hqlen hlen5
    by_cases hq0:q=[]
    ·have hl7:((q).length:Int)=0:=by rw [hq0];rfl
     have hpr:=Tq hE c K6.out.B K6.out.H Hrdy.out (t:=(jb jobs i).task) (by rw [E1.out];exact htk) (fun hm => ((Sim.out.ready _).1 hm).1 (by rw [Hqq.out,hq0])) hW
     try dsimp only at hpr
     have Hq0:=Hid.mk hq0
     clear hq0
     (repeat' (first | (with_reducible refine A3 (fun _ => ?_) (fun _ => ?_)<;>try (exfalso;omega)) | simp -dsimp (disch:=omega) only [↓EA,EB,Nat.reduceEqDiff,↓reduceIte,reduceCtorEq,eq_self, *]))
     refine WX.mono hpr (fun b hb => hb) fun v8 h8 ⟨tag8,f8,H8⟩ => ?_
     have k8:=K6.out.ready f8 H8
     have K8:=Hid.mk k8
     clear k8 f8 H8
     (repeat' simp -dsimp (disch:=omega) only [↓EA,EB,↓reduceIte,reduceCtorEq,eq_self, *])
     obtain ⟨g8,hg8,kf⟩:∃ g8,XInv h0 lv P jobs g8 h8 (Ei jobs s1 i rest)∧g8.x=g1.x:=by
      refine ⟨?_,?_,?_⟩
      rotate_left
      ·have k8:=K8.out
       try simp only [] at k8
       unfold Ei
       rw [Hqq.out,if_pos Hq0.out]
       exact k8
      ·rfl
     exact Next.mk (g8,Ei jobs s1 i rest) ⟨hg8,Vr c.S Sim.out Hc.out (by rw [E1.out];exact hle),kf,rfl,rfl⟩ (by dsimp only [Ei];rw [Hc.out];simp)
    ·have hl7:¬ ((q).length:Int)=0:=by
      intro h7
      exact hq0 (List.length_eq_zero_iff.1 (by omega))
     have Hq0:=Hid.mk hq0
     clear hq0
     (repeat' (first | (with_reducible refine A3 (fun _ => ?_) (fun _ => ?_)<;>try (exfalso;omega)) | simp -dsimp (disch:=omega) only [↓EA,EB,Nat.reduceEqDiff,↓reduceIte,reduceCtorEq,eq_self, *]))
     obtain ⟨g8,hg8,kf⟩:∃ g8,XInv h0 lv P jobs g8 h6 (Ei jobs s1 i rest)∧g8.x=g1.x:=by
      refine ⟨?_,?_,?_⟩
      rotate_left
      ·have k8:=K6.out
       try simp only [] at k8
       unfold Ei
       rw [Hqq.out,if_neg Hq0.out]
       exact k8
      ·rfl
     exact Next.mk (g8,Ei jobs s1 i rest) ⟨hg8,Vr c.S Sim.out Hc.out (by rw [E1.out];exact hle),kf,rfl,rfl⟩ (by dsimp only [Ei];rw [Hc.out];simp)
  ·have hle2:decide ((atI jl (i:Int)).j.release≤s1.now)=false:=by simpa using hle
   (repeat' (first | (with_reducible refine A1 (fun _ => ?_) (fun _ => ?_)<;>try (exfalso;omega)) | simp -dsimp (disch:=omega) only [↓EA,EB,Nat.reduceEqDiff,↓reduceIte,reduceCtorEq,eq_self, *,hj.ixs,hj.ld,Ia,hdJ]))
   refine ⟨g1,s1,K.out,Sim.out,rfl,rfl,fun k hk => ?_⟩
   have hs:=Sim.out.sorted
   rw [Hc.out] at hk hs
   rw [List.pairwise_cons] at hs
   have hri:s1.now<(jb jobs i).release:=by rw [E1.out];omega
   rcases List.mem_cons.1 hk with rfl | hk
   ·exact hri
   ·have:=hs.1 k hk;unfold ltO at this;omega
end Go.L.Try
namespace Go.L.Try
open Go Go.L
variable {E:Env}
variable {h0 h h':Aa} {lv:Value} {P:Int→Int} {n:Nat} {l:List Ab} {jobs:List Job} {g:Gh} {s:XS} {r:RS}
theorem Acu {α β : Type} [DecidableEq α] {f:α → β} {a:α}:at1 f a (f a)=f:=by
 funext x;unfold at1;split
 ·rename_i e;rw [e]
 ·rfl
theorem Afn (c:Ctx E h0 lv P n l jobs) (sim:SimC jobs s r):Acz n s.ready:=⟨sim.nodup,fun u hu => by
 have h7:=((sim.ready u).1 hu).1
 cases hqu:s.q u with
 | nil => exact absurd hqu h7
 | cons j rr =>
  have h8:=(sim.mem u j).1 (by rw [hqu];simp)
  have:=c.task h8.1
  rw [h8.2.1] at this;exact this⟩
theorem F0 (sim:SimC jobs s r) {i:Nat} (hr:s.running=some i):i<jobs.length∧(jb jobs i).task ∉ s.ready∧i∈s.q (jb jobs i).task:=by
 obtain ⟨rest,h1⟩:=sim.run i hr
 have hm:i∈s.q (jb jobs i).task:=by rw [h1];simp
 exact ⟨((sim.mem _ _).1 hm).1,fun hm => ((sim.ready _).1 hm).2 i hr rfl,hm⟩
theorem Aqf (c:Ctx E h0 lv P n l jobs) (sim:SimC jobs s r):Acz n (back jobs s).ready:=by
 have h1:=Afn c sim
 unfold back
 cases hr:s.running with
 | none => exact h1
 | some i =>
  obtain ⟨h2,h3,h4⟩:=F0 sim hr
  refine ⟨List.nodup_cons.2 ⟨h3,h1.nodup⟩,fun u hu => ?_⟩
  rcases List.mem_cons.1 hu with rfl | hu
  ·exact c.task h2
  ·exact h1.in_ u hu
theorem Alp {t:Int} {i:Nat} (h:i∈s.q t):s.Q t=some (s.q t):=by
 unfold XS.q at h ⊢
 cases hq:s.Q t with
 | none => rw [hq] at h;cases h
 | some l => rfl
theorem Ab5 (hE:Aw E) (c:Ctx E h0 lv P n l jobs) (k:XInv h0 lv P jobs g h s) (sim:SimC jobs s r) {W:Nat→Prop} (hW:∀ b,h0.length≤b→W b) :
  WX W (callW E (.func (.func Cc) #[] #[]) [Aq g.x] h) (fun v h' => (v = .bool false∧(back jobs s).ready=[]∧∃ g',XInv h0 lv P jobs g' h' s∧g'.x=g.x)∨(v = .bool true∧∃ g' t rd i rest,(t :: rd).Perm (back jobs s).ready∧(∀ u∈(back jobs s).ready,P t≤P u)∧s.q t=i :: rest∧XInv h0 lv P jobs g' h' (chosen (back jobs s) rd i)∧g'.x=g.x)):=by
 refine E9 hE.Ro rfl (by simp) ?_
 simp only [List.nil_append,List.cons_append,Ak]
 have hx:h[g.x]? = some (.cells [g.vj,g.vc,Aq g.hb,.map (some g.mb),.int .i64 s.now,g.vs,g.ve,D3 g s] false):=k.X.is
 have hgl:=(GI.1 hx).1
 have hWx:=hW g.x (k.B.ge (by rw [k.X.tag];decide))
 have K:=Hid.mk k
 have Sim:=Hid.mk sim
 have Hrun:=Hid.mk (Auc g s)
 clear k sim
 cases hr:s.running with
 | none =>
  have hrv:D3 g s = .pointer none:=by unfold D3;rw [hr]
  have hbk:back jobs s=s:=by unfold back;rw [hr]
  rw [hrv] at hx
  have hpop:=Aa4 hE c K.out.B K.out.H (Afn c Sim.out) hW
  have KB:Hid (XInv h0 lv P jobs g h (back jobs s)):=⟨by rw [hbk];exact K.out⟩
  have Hbk:=Hid.mk hbk
  clear hbk
  (repeat' simp -dsimp (disch:=omega) only [↓EA,EB,↓reduceIte,reduceCtorEq,eq_self, *,Aka])
  have hpop:=Aa4 hE c (KB.out).B (KB.out).H (Aqf c Sim.out) hW
  refine WX.mono hpop (fun b hb => hb) fun v h2 hv => ?_
  rcases hv with ⟨hz,rfl,rfl⟩ | ⟨t,rd,tag2,rfl,hperm,hmin,f2,H2⟩
  ·have Hz:=Hid.mk hz
   clear hz hpop
   (repeat' simp -dsimp (disch:=omega) only [↓EA,EB,Nat.reduceEqDiff,↓reduceIte,reduceCtorEq,eq_self, *])
   exact .inl ⟨Hz.out,g,K.out,rfl⟩
  ·have k2:=(KB.out).ready f2 H2
   have htr:t∈(back jobs s).ready:=hperm.mem_iff.1 (by simp)
   have hBQ:(back jobs s).Q=s.Q:=by unfold back;split<;>rfl
   have hBc:(back jobs s).cuts=s.cuts:=by unfold back;split<;>rfl
   obtain ⟨i,rest,hqt⟩:∃ i rest,s.q t=i :: rest:=by
    cases hh:s.q t with
    | cons i rest => exact ⟨i,rest,rfl⟩
    | nil =>
     exfalso
     unfold back at htr
     cases hr2:s.running with
     | none => rw [hr2] at htr;exact ((Sim.out.ready t).1 htr).1 hh
     | some k =>
      rw [hr2] at htr
      rcases List.mem_cons.1 htr with rfl | htr
      ·obtain ⟨h5,h6,h7⟩:=F0 Sim.out hr2
       rw [hh] at h7;cases h7
      ·exact ((Sim.out.ready t).1 htr).1 hh
   have hQt:(back jobs s).Q t=some (i :: rest):=by rw [hBQ,← hqt];exact Alp (i:=i) (by rw [hqt];simp)
   have hqB:(back jobs s).q t=i :: rest:=by unfold XS.q;rw [hQt];rfl
   obtain ⟨es,m1,m2,m3,m4⟩:=k2.M
   have lk:=U1 m2 (.pointer none) t
   rw [m3] at lk
   try dsimp only at lk m1
   rw [hQt] at lk
   simp only [Option.map_some,Option.getD_some] at lk
   have hat:=atQ hE (k2.Q t (i :: rest) hQt).2 (fun j hj => (k2.W t j (by show j∈(back jobs s).q t;rw [hqB];exact hj)).lt)
   obtain ⟨vc,w1,w2,w3⟩:=k2.W t i (by show i∈(back jobs s).q t;rw [hqB];simp)
   have k3:=k2.setX (vc:=g.vc) (now:=(back jobs s).now) (running:=some i) (coming:=(back jobs s).coming) k2.cr
   try dsimp only at hat w1 w2 w3
   have hx2:h2[g.x]? = some (.cells [g.vj,g.vc,Aq g.hb,.map (some g.mb),.int .i64 (back jobs s).now,g.vs,g.ve,_] false):=k2.X.is
   have hgl2:=(GI.1 hx2).1
   have hne:g.w i≠g.x:=by
    intro e
    rw [e] at w3
    have:tag2 g.x=0:=k2.X.tag
    omega
   obtain ⟨h3,hh3⟩:∃ h3:Aa,h3=List.set h2 g.x (LObj.cells [g.vj,g.vc,Aq g.hb,.map (some g.mb),.int .i64 (back jobs s).now,g.vs,g.ve,Aq (g.w i)] false):=⟨_,rfl⟩
   have K3:=Hid.mk k3
   change Hid (XInv h0 lv P jobs _ (List.set h2 g.x (LObj.cells [g.vj,g.vc,Aq g.hb,.map (some g.mb),.int .i64 (back jobs s).now,g.vs,g.ve,Aq (g.w i)] false)) _) at K3
   rw [← hh3] at K3
   have w1':h3[g.w i]? = h2[g.w i]?:=by rw [hh3,Ba (Ne.symm hne)]
   rw [w1] at w1'
   have hx3:h3[g.x]? = some (LObj.cells [g.vj,g.vc,Aq g.hb,.map (some g.mb),.int .i64 (back jobs s).now,g.vs,g.ve,Aq (g.w i)] false):=by rw [hh3];exact B9 hgl2
   have Hh3:=Hid.mk hh3.symm
   have Hqb:=Hid.mk hqB
   have Hne:=Hid.mk hne
   have Hq:=Hid.mk (AI hqt (AI hperm hmin))
   have hWw:=hW (g.w i) (k2.B.ge (by show tag2 (g.w i)≠5;rw [w3];omega))
   have Hrest:=Hid.mk (AI hx3 w1')
   have hwl:=(GI.1 w1').1
   have hlk:=w2.len
   have w2h:=w2.pre K3.out.B.pre
   have Hw2:=Hid.mk w2
   clear k2 k3 hh3 hqt hperm hmin htr hBQ hqB hQt f2 H2 hpop w1 w1' hx3 w2 hne hgl2
   (repeat' simp -dsimp (disch:=omega) only [↓EA,EB,Nat.reduceEqDiff,Nat.reduceAdd,↓reduceIte,reduceCtorEq,eq_self, *])
   rw [Hh3.out]
   obtain ⟨hx3,w1'⟩:=Hrest.out
   clear hx2 m1 lk hat
   cases hcu:(back jobs s).cuts i with
   | nil =>
    rw [hcu] at hlk w2h
    have Hcu:=Hid.mk hcu
    clear hcu
    (repeat' (first | (with_reducible refine A3 (fun _ => ?_) (fun _ => ?_)<;>try (exfalso;omega)) | simp -dsimp (disch:=omega) only [↓EA,EB,↓reduceIte,reduceCtorEq,eq_self, *,w2h.len]))
    obtain ⟨g',kf,hgx⟩:∃ g',XInv h0 lv P jobs g' h3 (chosen (back jobs s) rd i)∧g'.x=g.x:=by
     refine ⟨?_,?_,?_⟩
     rotate_left
     ·unfold chosen
      rw [Hcu.out]
      exact K3.out
     ·rfl
    exact .inr ⟨g',t,rd,i,rest,Hq.out.2.1,Hq.out.2.2,Hq.out.1,kf,hgx⟩
   | cons a cs =>
    rw [hcu] at hlk w2h
    have hw2c:Rd 1 Gk h0 vc (a :: cs):=by have:=Hw2.out;rw [hcu] at this;exact this
    obtain ⟨vc',hsl,hcr'⟩:=Rd.sls_tail hw2c (k:=.i64)
    have ovc:=hcr'.one
    have cvc:=hcr'.cv
    have e0:atI (a :: cs) 0=a:=rfl
    have hl:((a :: cs).length:Int)=(cs.length:Int)+1:=by simp
    have i0:=w2h.ixs .i64 0 (by decide) (by rw [hl];omega)
    have l0:=w2h.ld0 (i:=0) (by decide) (by rw [hl];omega) (by decide)
    rw [e0] at l0
    simp only [Gk] at l0
    rw [hl] at hlk
    have few:(cs.length:Int)<4611686018427387904:=by have:=w2h.few;simp at this;omega
    have kw:=K3.out.setW (t:=t) (i:=i) (by show i∈(back jobs s).q t;unfold XS.q;have:=Hqb.out;unfold XS.q at this;rw [this];simp) (left:=(back jobs s).left i) (sec:=a) (cuts:=cs) hcr'
    have KW:=Hid.mk kw
    have Hcu:=Hid.mk hcu
    have hne:=Hne.out
    have ix:=Ne.symm hne
    clear hcu w2h hw2c hcr' kw e0 hl
    (repeat' (first | (with_reducible refine A3 (fun _ => ?_) (fun _ => ?_)<;>try (exfalso;omega)) | simp -dsimp (disch:=omega) only [↓EA,EB,Nat.reduceEqDiff,Nat.reduceAdd,Nat.reduceLeDiff,↓reduceIte,reduceCtorEq,eq_self, *,B9 hwl,List.set_set]))
    obtain ⟨g',kf,hgx⟩:∃ g',XInv h0 lv P jobs g' (h3.set (g.w i) (LObj.cells [.int .i64 i,.int .i64 (jb jobs i).task,.int .i64 ((back jobs s).left i),.int .i64 a,vc'] false)) (chosen (back jobs s) rd i)∧g'.x=g.x:=by
     refine ⟨?_,?_,?_⟩
     rotate_left
     ·unfold chosen
      rw [Hcu.out]
      have k9:=KW.out
      rw [show at1 (back jobs s).left i ((back jobs s).left i)=(back jobs s).left from Acu] at k9
      exact k9
     ·rfl
    exact .inr ⟨g',t,rd,i,rest,Hq.out.2.1,Hq.out.2.2,Hq.out.1,kf,hgx⟩
 | some i =>
  have hrv:D3 g s=Aq (g.w i):=by unfold D3;rw [hr]
  rw [hrv] at hx
  obtain ⟨hi1,hi2,hi3⟩:=F0 Sim.out hr
  obtain ⟨vc,w1,w2,w3⟩:=K.out.W _ i hi3
  have hpush:=Tq hE c K.out.B K.out.H (Afn c Sim.out) (c.task hi1) hi2 hW
  have W1f:=Hid.mk w1
  have hwne:g.w i≠g.x:=by
   intro e
   rw [e] at w3
   have:=K.out.X.tag
   omega
  clear w3
  (repeat' simp -dsimp (disch:=omega) only [↓EA,EB,Nat.reduceEqDiff,↓reduceIte,reduceCtorEq,eq_self, *,Acq])
  refine WX.mono hpush (fun b hb => hb) fun v1 h1 ⟨tag1,f1,H1⟩ => ?_
  have k1:=K.out.ready f1 H1
  have hx1:h1[g.x]? = some (.cells [g.vj,g.vc,Aq g.hb,.map (some g.mb),.int .i64 s.now,g.vs,g.ve,D3 g s] false):=k1.X.is
  rw [hrv] at hx1
  have hgl1:=(GI.1 hx1).1
  have k2:=k1.setX (vc:=g.vc) (now:=s.now) (running:=none) (coming:=s.coming) k1.cr
  obtain ⟨hB,hhB⟩:∃ hB:Aa,hB=List.set h1 g.x (LObj.cells [g.vj,g.vc,Aq g.hb,.map (some g.mb),.int .i64 s.now,g.vs,g.ve,.pointer none] false):=⟨_,rfl⟩
  have hbk:back jobs s={ s with running:=none,ready:=(jb jobs i).task :: s.ready }:=by unfold back;rw [hr]
  have KB:Hid (XInv h0 lv P jobs { g with tag:=tag1 } hB (back jobs s)):=⟨by rw [hbk,hhB];exact k2⟩
  have HhB:=Hid.mk hhB.symm
  have hxB:hB[g.x]? = some (LObj.cells [g.vj,g.vc,Aq g.hb,.map (some g.mb),.int .i64 s.now,g.vs,g.ve,.pointer none] false):=by rw [hhB];exact B9 hgl1
  have HxB:=Hid.mk hxB
  have hbz:(back jobs s).ready≠[]:=by rw [hbk];simp
  clear k1 k2 hhB hxB hx w1 hgl hgl1 hpush f1 H1 hbk
  (repeat' simp -dsimp (disch:=omega) only [↓EA,EB,Nat.reduceAdd,↓reduceIte,reduceCtorEq,eq_self, *])
  rw [HhB.out]
  have hx:=HxB.out
  clear hx1 hwne
  (repeat' simp -dsimp (disch:=omega) only [↓EA,EB,↓reduceIte,eq_self, *])
  have hpop:=Aa4 hE c (KB.out).B (KB.out).H (Aqf c Sim.out) hW
  refine WX.mono hpop (fun b hb => hb) fun v h2 hv => ?_
  rcases hv with ⟨hz,rfl,rfl⟩ | ⟨t,rd,tag2,rfl,hperm,hmin,f2,H2⟩
  ·have Hz:=Hid.mk hz
   clear hz hpop
   (repeat' simp -dsimp (disch:=omega) only [↓EA,EB,Nat.reduceEqDiff,↓reduceIte,reduceCtorEq,eq_self, *])
   exact absurd Hz.out hbz
  ·have k2:=(KB.out).ready f2 H2
   have htr:t∈(back jobs s).ready:=hperm.mem_iff.1 (by simp)
   have hBQ:(back jobs s).Q=s.Q:=by unfold back;split<;>rfl
   have hBc:(back jobs s).cuts=s.cuts:=by unfold back;split<;>rfl
   obtain ⟨i,rest,hqt⟩:∃ i rest,s.q t=i :: rest:=by
    cases hh:s.q t with
    | cons i rest => exact ⟨i,rest,rfl⟩
    | nil =>
     exfalso
     unfold back at htr
     cases hr2:s.running with
     | none => rw [hr2] at htr;exact ((Sim.out.ready t).1 htr).1 hh
     | some k =>
      rw [hr2] at htr
      rcases List.mem_cons.1 htr with rfl | htr
      ·obtain ⟨h5,h6,h7⟩:=F0 Sim.out hr2
       rw [hh] at h7;cases h7
      ·exact ((Sim.out.ready t).1 htr).1 hh
   have hQt:(back jobs s).Q t=some (i :: rest):=by rw [hBQ,← hqt];exact Alp (i:=i) (by rw [hqt];simp)
   have hqB:(back jobs s).q t=i :: rest:=by unfold XS.q;rw [hQt];rfl
   obtain ⟨es,m1,m2,m3,m4⟩:=k2.M
   have lk:=U1 m2 (.pointer none) t
   rw [m3] at lk
   try dsimp only at lk m1
   rw [hQt] at lk
   simp only [Option.map_some,Option.getD_some] at lk
   have hat:=atQ hE (k2.Q t (i :: rest) hQt).2 (fun j hj => (k2.W t j (by show j∈(back jobs s).q t;rw [hqB];exact hj)).lt)
   obtain ⟨vc,w1,w2,w3⟩:=k2.W t i (by show i∈(back jobs s).q t;rw [hqB];simp)
   have k3:=k2.setX (vc:=g.vc) (now:=(back jobs s).now) (running:=some i) (coming:=(back jobs s).coming) k2.cr
   try dsimp only at hat w1 w2 w3
   have hx2:h2[g.x]? = some (.cells [g.vj,g.vc,Aq g.hb,.map (some g.mb),.int .i64 (back jobs s).now,g.vs,g.ve,_] false):=k2.X.is
   have hgl2:=(GI.1 hx2).1
   have hne:g.w i≠g.x:=by
    intro e
    rw [e] at w3
    have:tag2 g.x=0:=k2.X.tag
    omega
   obtain ⟨h3,hh3⟩:∃ h3:Aa,h3=List.set h2 g.x (LObj.cells [g.vj,g.vc,Aq g.hb,.map (some g.mb),.int .i64 (back jobs s).now,g.vs,g.ve,Aq (g.w i)] false):=⟨_,rfl⟩
   have K3:=Hid.mk k3
   change Hid (XInv h0 lv P jobs _ (List.set h2 g.x (LObj.cells [g.vj,g.vc,Aq g.hb,.map (some g.mb),.int .i64 (back jobs s).now,g.vs,g.ve,Aq (g.w i)] false)) _) at K3
   rw [← hh3] at K3
   have w1':h3[g.w i]? = h2[g.w i]?:=by rw [hh3,Ba (Ne.symm hne)]
   rw [w1] at w1'
   have hx3:h3[g.x]? = some (LObj.cells [g.vj,g.vc,Aq g.hb,.map (some g.mb),.int .i64 (back jobs s).now,g.vs,g.ve,Aq (g.w i)] false):=by rw [hh3];exact B9 hgl2
   have Hh3:=Hid.mk hh3.symm
   have Hqb:=Hid.mk hqB
   have Hne:=Hid.mk hne
   have Hq:=Hid.mk (AI hqt (AI hperm hmin))
   have hWw:=hW (g.w i) (k2.B.ge (by show tag2 (g.w i)≠5;rw [w3];omega))
   have Hrest:=Hid.mk (AI hx3 w1')
   have hwl:=(GI.1 w1').1
   have hlk:=w2.len
   have w2h:=w2.pre K3.out.B.pre
   have Hw2:=Hid.mk w2
   clear k2 k3 hh3 hqt hperm hmin htr hBQ hqB hQt f2 H2 hpop w1 w1' hx3 w2 hne hgl2
   (repeat' simp -dsimp (disch:=omega) only [↓EA,EB,Nat.reduceEqDiff,Nat.reduceAdd,↓reduceIte,reduceCtorEq,eq_self, *])
   rw [Hh3.out]
   obtain ⟨hx3,w1'⟩:=Hrest.out
   clear hx2 m1 lk hat
   cases hcu:(back jobs s).cuts i with
   | nil =>
    rw [hcu] at hlk w2h
    have Hcu:=Hid.mk hcu
    clear hcu
    (repeat' (first | (with_reducible refine A3 (fun _ => ?_) (fun _ => ?_)<;>try (exfalso;omega)) | simp -dsimp (disch:=omega) only [↓EA,EB,↓reduceIte,reduceCtorEq,eq_self, *,w2h.len]))
    obtain ⟨g',kf,hgx⟩:∃ g',XInv h0 lv P jobs g' h3 (chosen (back jobs s) rd i)∧g'.x=g.x:=by
     refine ⟨?_,?_,?_⟩
     rotate_left
     ·unfold chosen
      rw [Hcu.out]
      exact K3.out
     ·rfl
    exact .inr ⟨g',t,rd,i,rest,Hq.out.2.1,Hq.out.2.2,Hq.out.1,kf,hgx⟩
   | cons a cs =>
    rw [hcu] at hlk w2h
    have hw2c:Rd 1 Gk h0 vc (a :: cs):=by have:=Hw2.out;rw [hcu] at this;exact this
    obtain ⟨vc',hsl,hcr'⟩:=Rd.sls_tail hw2c (k:=.i64)
    have ovc:=hcr'.one
    have cvc:=hcr'.cv
    have e0:atI (a :: cs) 0=a:=rfl
    have hl:((a :: cs).length:Int)=(cs.length:Int)+1:=by simp
    have i0:=w2h.ixs .i64 0 (by decide) (by rw [hl];omega)
    have l0:=w2h.ld0 (i:=0) (by decide) (by rw [hl];omega) (by decide)
    rw [e0] at l0
    simp only [Gk] at l0
    rw [hl] at hlk
    have few:(cs.length:Int)<4611686018427387904:=by have:=w2h.few;simp at this;omega
    have kw:=K3.out.setW (t:=t) (i:=i) (by show i∈(back jobs s).q t;unfold XS.q;have:=Hqb.out;unfold XS.q at this;rw [this];simp) (left:=(back jobs s).left i) (sec:=a) (cuts:=cs) hcr'
    have KW:=Hid.mk kw
    have Hcu:=Hid.mk hcu
    have hne:=Hne.out
    have ix:=Ne.symm hne
    clear hcu w2h hw2c hcr' kw e0 hl
    (repeat' (first | (with_reducible refine A3 (fun _ => ?_) (fun _ => ?_)<;>try (exfalso;omega)) | simp -dsimp (disch:=omega) only [↓EA,EB,Nat.reduceEqDiff,Nat.reduceAdd,Nat.reduceLeDiff,↓reduceIte,reduceCtorEq,eq_self, *,B9 hwl,List.set_set]))
    obtain ⟨g',kf,hgx⟩:∃ g',XInv h0 lv P jobs g' (h3.set (g.w i) (LObj.cells [.int .i64 i,.int .i64 (jb jobs i).task,.int .i64 ((back jobs s).left i),.int .i64 a,vc'] false)) (chosen (back jobs s) rd i)∧g'.x=g.x:=by
     refine ⟨?_,?_,?_⟩
     rotate_left
     ·unfold chosen
      rw [Hcu.out]
      have k9:=KW.out
      rw [show at1 (back jobs s).left i ((back jobs s).left i)=(back jobs s).left from Acu] at k9
      exact k9
     ·rfl
    exact .inr ⟨g',t,rd,i,rest,Hq.out.2.1,Hq.out.2.2,Hq.out.1,kf,hgx⟩
end Go.L.Try
