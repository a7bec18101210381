/- LEGAL SCRIPTS: cadencyref08.Legal. -/
import Derived.Test.YtnanlkamcgihlaaDoorPb
import Derived.Test.YtnanlkamcgihlaaDoorPg
import Derived.Test.YtnanlkamcgihlaaDoorPm
import Derived.Test.YtnanlkamcgihlaaDoorPn
set_option linter.unusedVariables false
set_option linter.unusedSimpArgs false
set_option maxRecDepth 100000
set_option maxHeartbeats 2000000
namespace Go.L.Try
open Go Go.L
variable {E:Env}
end Go.L.Try
namespace Go.L.Try
open Go Go.L
variable {E:Env}
theorem Arc (hE:As E) {h:Aa} {j:NV Job} (hc:Rd 1 D7 h j.v j.j.cuts) {q w:Int} (hok:Dc q j.j.cuts w = true) (hw:w ≤ 2147483647) (d:Int) :
  callW E (.func (.func E2) #[] #[]) [.agg (Du hdJ j).toArray,.int .i64 d] h = some (.bool (A5 j.j.cuts 0 d),h,[]):=by
 refine Ak hE.Aeb rfl (by simp) ?_
 have few:=hc.few
 have t:=hc.one
 have m:=fun x => hc.app x
 simp only [Ai]
 (repeat' simp -dsimp (disch:=omega) only [↓EA,EB,Nat.reduceEqDiff,↓reduceIte,reduceCtorEq,Ab,eq_self, *,Du,hdJ])
 refine WO.loop (fun c fr h' => h' = h ++ [.cells [.int .i64 j.j.task,.int .i64 j.j.arrive,.int .i64 j.j.release,.int .i64 j.j.work,j.v] false] ∧ c ≤ j.j.cuts.length ∧ get fr 1 = .int .i64 d ∧ get fr 2 = .pointer (some ⟨h.length,0,none⟩) ∧ get fr 6 = .int .i64 c ∧ ∃ a,get fr 5 = .int .i64 a ∧ 0 ≤ a ∧ Dc q (j.j.cuts.drop c) (w - a) = true ∧ A5 j.j.cuts 0 d = A5 (j.j.cuts.drop c) a d) (fun c => j.j.cuts.length - c) ?_ 0 ⟨rfl,Nat.zero_le _,rfl,rfl,rfl,0,rfl,Int.le_refl _,by simpa using hok,rfl⟩
 rintro c fr h' ⟨rfl,n,r,o,u,a,p,s,hok,f⟩
 unfold N7
 rcases Nat.lt_or_ge c j.j.cuts.length with hlt | hge
 ·rw [List.drop_eq_getElem_cons hlt,← B8 hlt] at hok f
  simp only [Dc,Bool.and_eq_true,decide_eq_true_eq] at hok
  simp only [A5] at f
  obtain ⟨l,g⟩:=hok
  have Hw:=Hid.mk f
  have H2:=Hid.mk g
  rw [f]
  clear f g
  (repeat' (first | (with_reducible refine A1 (fun _ => ?_) (fun _ => ?_) <;> try (exfalso;omega)) | (with_reducible refine A3 (fun _ => ?_) (fun _ => ?_) <;> try (exfalso;omega)) | simp -dsimp (disch:=omega) only [↓EA,EB,Nat.reduceEqDiff,↓reduceIte,eq_self, *,hc.ixs,hc.ldx0,hc.len,D7]))
  ·simp
  all_goals
   refine Next.mk (c + 1) ⟨rfl,by omega,rfl,rfl,rfl,_,rfl,by omega,?_,?_⟩ (by omega)
   ·have:=H2.out
    rw [show w - (a + atI j.j.cuts (c:Int)) = w - a - atI j.j.cuts (c:Int) by omega];exact this
   ·rw [decide_eq_false (by omega),Bool.false_or]
 ·have e:j.j.cuts.drop c = []:=List.drop_of_length_le (by omega)
  rw [f,e]
  (repeat' (first | (with_reducible refine A3 (fun _ => ?_) (fun _ => ?_) <;> try (exfalso;omega)) | simp -dsimp (disch:=omega) only [↓EA,EB,Nat.reduceEqDiff,↓reduceIte,eq_self, *,hc.len,A5]))
theorem Az7 (hE:As E) {h:Aa} {vl vj vd:Value} {l:List Ac} {lv:List (NV Job)} {done:List Int} {t:Int}
  (hl:Rd 7 Ar h vl l) (hj:Rd 5 (Du hdJ) h vj lv) (hd:Rd 1 D7 h vd done) (hlen:done.length = lv.length) (ht:∀ j ∈ lv,0 ≤ j.j.task ∧ j.j.task < l.length) :
  callW E (.func (.func Hy) #[] #[]) [vl,vj,vd,.int .i64 t] h = some (.int .i64 (Bs l (lv.map (·.j)) done t lv.length),h,[]):=by
 refine Ak hE.Akb rfl (by simp) ?_
 have few:=hj.few
 have e:done.length ≤ lv.length:=by omega
 have c:lv.length ≤ done.length:=by omega
 clear hlen
 simp only [Ai]
 (repeat' simp -dsimp (disch:=omega) only [↓EA,EB,Nat.reduceEqDiff,Nat.reduceAdd,↓reduceIte,reduceCtorEq,eq_self, *])
 refine WO.loop (fun n fr h' => h' = h ∧ n ≤ lv.length ∧ get fr 0 = vl ∧ get fr 1 = vj ∧ get fr 2 = vd ∧ get fr 3 = .int .i64 t ∧ get fr 9 = .int .i64 (Bs l (lv.map (·.j)) done t n) ∧ get fr 10 = .int .i64 n) (fun n => lv.length - n) ?_ 0 ⟨rfl,Nat.zero_le _,rfl,rfl,rfl,rfl,rfl,rfl⟩
 rintro n fr h' ⟨rfl,u,x,h1,h2,v,y,m⟩
 unfold Qu
 rcases Nat.lt_or_ge n lv.length with hlt | hge
 ·have o:=ht _ (Al (l:=lv) (i:=n) (by omega) (by omega))
  have z:=O2 l (lv.map (·.j)) done t n
  have r:0 ≤ Bs l (lv.map (·.j)) done t n → 0 ≤ (atI lv (Bs l (lv.map (·.j)) done t n)).j.task ∧ (atI lv (Bs l (lv.map (·.j)) done t n)).j.task < l.length:=fun a => ht _ (Al a (by omega))
  have s:atI (lv.map (·.j)) (n:Int) = (atI lv n).j:=(G5 (fun p:NV Job => p.j) lv n (by omega) (by omega)).symm
  have f:0 ≤ Bs l (lv.map (·.j)) done t n → atI (lv.map (·.j)) (Bs l (lv.map (·.j)) done t n) = (atI lv (Bs l (lv.map (·.j)) done t n)).j:=fun a => (G5 (fun p:NV Job => p.j) lv _ a (by omega)).symm
  have g:Bs l (lv.map (·.j)) done t (n + 1) = if (atI lv n).j.release ≤ t ∧ atI done n < (atI lv n).j.work ∧ (Bs l (lv.map (·.j)) done t n < 0 ∨ (atI l (atI lv n).j.task).P < (atI l (atI lv (Bs l (lv.map (·.j)) done t n)).j.task).P) then (n:Int) else Bs l (lv.map (·.j)) done t n:=by
   simp only [Bs,s]
   by_cases a:0 ≤ Bs l (lv.map (·.j)) done t n
   ·rw [f a]
   ·have d:Bs l (lv.map (·.j)) done t n < 0:=by omega
    simp only [d,true_or]
  have Hs:=Hid.mk g
  clear g ht f
  (repeat' (first | (with_reducible refine A1 (fun _ => ?_) (fun _ => ?_) <;> try (exfalso;omega)) | (with_reducible refine A2 (fun _ => ?_) (fun _ => ?_) <;> try (exfalso;omega)) | (with_reducible refine A3 (fun _ => ?_) (fun _ => ?_) <;> try (exfalso;omega)) | simp -dsimp (disch:=omega) only [↓EA,EB,Nat.reduceEqDiff,↓reduceIte,reduceCtorEq,eq_self, *,hj.len,hj.ixs,hj.ld,hj.ld0,hd.ixs,hd.ld0,hl.ixs,hl.ld,Du,hdJ,D7,Ar]))
  all_goals refine Next.mk (n + 1) ⟨rfl,by omega,rfl,rfl,rfl,rfl,?_,rfl⟩ (by omega)
  all_goals rw [Hs.out]
  all_goals first
   | (rw [if_pos (by omega)];rfl)
   | (rw [if_neg (by omega)];rfl)
 ·have:n = lv.length:=by omega
  subst this
  (repeat' (first | (with_reducible refine A3 (fun _ => ?_) (fun _ => ?_) <;> try (exfalso;omega)) | simp -dsimp (disch:=omega) only [↓EA,EB,Nat.reduceEqDiff,↓reduceIte,reduceCtorEq,eq_self, *,hj.len]))
end Go.L.Try
set_option maxHeartbeats 1000000
namespace Go.L.Try
open Go Go.L
variable {E:Env}
theorem Aw6 {n k:Nat} (h:k < n) (x y:Int):(List.replicate k x ++ List.replicate (n - k) y).set k x = List.replicate (k + 1) x ++ List.replicate (n - (k + 1)) y:=by
 rw [show n - k = (n - (k + 1)) + 1 by omega,List.replicate_succ,List.set_append_right _ _ (by simp),List.length_replicate,Nat.sub_self,List.set_cons_zero,List.replicate_succ',List.append_assoc];rfl
theorem Arn (hE:As E) {W:Nat → Prop} {h0:Aa} {vj:Value} {lv:List (NV Job)} (hj:Rd 5 (Du hdJ) h0 vj lv) {b bg:Nat} (hne:b ≠ bg) (hjb:vj ≠ .slice none 0 0 → blk vj ≠ b) (hW:W b) {n:Nat} {x0 x2:Value} (hn:n = lv.length) (hb:h0[b]? = some (Ad (List.replicate n 0))) (hg:h0[bg]? = some (.cells [x0,.slice (some ⟨b,0,none⟩) n n,x2] false)) {v0 v2 v6 v8:Value} {Q:Ex → Fr → Aa → Prop} {fr:Fr}
  (g0:get fr 0 = v0) (g1:get fr 1 = vj) (g2:get fr 2 = v2) (g6:get fr 6 = v6) (g7:get fr 7 = .pointer (some ⟨bg,0,none⟩)) (g8:get fr 8 = v8) (g9:get fr 9 = .int .i64 0)
  (hq:∀ fr',get fr' 0 = v0 → get fr' 1 = vj → get fr' 2 = v2 → get fr' 6 = v6 → get fr' 7 = .pointer (some ⟨bg,0,none⟩) → get fr' 8 = v8 → Q (.exit 0) fr' (h0.set b (Ad (List.replicate n (-1))))) :
  WO W (iterW (code (callW E) iterW 142 Kp) fr h0) Q:=by
 have few:=hj.few
 have d:=(GI.1 hb).1
 have a:∀ k,k ≤ n → (List.replicate k (-1:Int) ++ List.replicate (n - k) 0).length = n:=fun k m => by simp;omega
 have c:h0 = h0.set b (Ad (List.replicate 0 (-1:Int) ++ List.replicate (n - 0) 0)):=by
  apply List.ext_getElem?
  intro j
  by_cases e:b = j
  ·subst e;rw [List.getElem?_set_self d];simpa using hb
  ·rw [An e]
 refine WO.loop (fun k fr h' => h' = h0.set b (Ad (List.replicate k (-1:Int) ++ List.replicate (n - k) 0)) ∧ k ≤ n ∧ get fr 0 = v0 ∧ get fr 1 = vj ∧ get fr 2 = v2 ∧ get fr 6 = v6 ∧ get fr 7 = .pointer (some ⟨bg,0,none⟩) ∧ get fr 8 = v8 ∧ get fr 9 = .int .i64 k) (fun k => n - k) ?_ 0 ⟨c,Nat.zero_le _,g0,g1,g2,g6,g7,g8,g9⟩
 clear c
 rintro k fr h' ⟨rfl,m,g0,g1,g2,g6,g7,g8,g9⟩
 have t:(h0.set b (Ad (List.replicate k (-1:Int) ++ List.replicate (n - k) 0)))[b]? = some (Ad (List.replicate k (-1:Int) ++ List.replicate (n - k) 0)):=List.getElem?_set_self d
 have p:(h0.set b (Ad (List.replicate k (-1:Int) ++ List.replicate (n - k) 0)))[bg]? = some (.cells [x0,.slice (some ⟨b,0,none⟩) n n,x2] false):=by rw [An hne];exact hg
 have r:n ≤ lv.length:=by omega
 have o:lv.length ≤ n:=by omega
 have f:=Hid.mk (a k m)
 clear hn a
 unfold Kp
 rcases Nat.lt_or_ge k n with hlt' | hge
 ·have g:=f.out
  have s:=fun (h:Aa) => Ix (h:=h) (b:=b) (l:=List.replicate k (-1:Int) ++ List.replicate (n - k) 0) (i:=k) (x:=-1) (by omega) (by omega)
  clear g
  (repeat' (first | (with_reducible refine A3 (fun _ => ?_) (fun _ => ?_) <;> try (exfalso;omega)) | simp -dsimp (disch:=omega) only [↓EA,EB,Nat.reduceEqDiff,↓reduceIte,reduceCtorEq,eq_self, *,hj.len,List.set_set]))
  refine Next.mk (k + 1) ⟨?_,by omega,rfl,rfl,rfl,rfl,rfl,rfl,rfl⟩ (by omega)
  rw [show ((k:Int)).toNat = k by omega,Aw6 hlt']
 ·have:k = n:=by omega
  subst this
  simp only [Nat.sub_self,List.replicate_zero,List.append_nil] at *
  (repeat' (first | (with_reducible refine A3 (fun _ => ?_) (fun _ => ?_) <;> try (exfalso;omega)) | simp -dsimp (disch:=omega) only [↓EA,EB,Nat.reduceEqDiff,↓reduceIte,reduceCtorEq,eq_self, *,hj.len]))
  exact hq _ rfl rfl rfl rfl rfl rfl
structure Afa (h h':Aa) (n:Nat) (s:RS) (vL:Value):Prop where
 pre:Pre h h'
 len:h.length + 4 ≤ h'.length
 res:h'[h.length]? = some (.cells [.slice none 0 0,.slice none 0 0,.slice none 0 0] false)
 ends:h'[h.length + 1]? = some (Ad s.ends)
 done:h'[h.length + 2]? = some (Ad s.done)
 got:h'[h.length + 3]? = some (.cells [vL,.slice (some ⟨h.length + 1,0,none⟩) n n,.slice (some ⟨h.length + 2,0,none⟩) n n] false)
 L:OwnT (h.length + 4) 3 Nt h' vL s.L
theorem Arm (hE:As E) {h:Aa} {vl vj:Value} {l:List Ac} {lv:List (NV Job)} (hl:Rd 7 Ar h vl l) (hlv:Rd 5 (Du hdJ) h vj lv) (hc:∀ p ∈ lv,Rd 1 D7 h p.v p.j.cuts) (hok:Nq l (lv.map (·.j))) (hsum:Ev (lv.map (·.j)) ≤ 1099511627776) (e:Int) {s0:RS} {vL0:Value} {h0:Aa} (hi0:RsInv (lv.map (·.j)) s0) (hh0:Afa h h0 lv.length s0 vL0) {Q:Ex → Fr → Aa → Prop} {fr:Fr}
  (g0:get fr 0 = vl) (g1:get fr 1 = vj) (g2:get fr 2 = .int .i64 e) (g6:get fr 6 = .pointer (some ⟨h.length,0,none⟩)) (g7:get fr 7 = .pointer (some ⟨h.length + 3,0,none⟩)) (g8:get fr 8 = .int .i64 s0.left) (g10:get fr 10 = .int .i64 s0.runs) (g11:get fr 11 = .int .i64 s0.t)
  (hq:∀ fr' h' vL,get fr' 6 = .pointer (some ⟨h.length,0,none⟩) → get fr' 7 = .pointer (some ⟨h.length + 3,0,none⟩) → Afa h h' lv.length (Bb l (lv.map (·.j)) e s0) vL → Q (.exit 2) fr' h') :
  WO (fun b => h.length ≤ b) (iterW (code (callW E) iterW 142 Ko) fr h0) Q:=by
 have few:=hlv.few
 refine WO.loop (α:=RS) (fun s fr h' => RsInv (lv.map (·.j)) s ∧ Bb l (lv.map (·.j)) e s0 = Bb l (lv.map (·.j)) e s ∧ get fr 0 = vl ∧ get fr 1 = vj ∧ get fr 2 = .int .i64 e ∧ get fr 6 = .pointer (some ⟨h.length,0,none⟩) ∧ get fr 7 = .pointer (some ⟨h.length + 3,0,none⟩) ∧ get fr 8 = .int .i64 s.left ∧ get fr 10 = .int .i64 s.runs ∧ get fr 11 = .int .i64 s.t ∧ ∃ vL,Afa h h' lv.length s vL) (fun s => Eh (lv.map (·.j)) s) ?_ s0 ⟨hi0,rfl,g0,g1,g2,g6,g7,g8,g10,g11,vL0,hh0⟩
 clear hh0 g0 g1 g2 g6 g7 g8 g10 g11 hi0
 rintro s fr h' ⟨hi,hu,g0,g1,g2,g6,g7,g8,g10,g11,vL,hh⟩
 have Hu:=Hid.mk hu
 clear hu
 have hs:=hi.sum
 have ht0:=hi.t0
 have ht1:=hi.t1
 unfold Eb at ht1
 have hruns:=hi.runs
 have ht2:s.t < 70368744177664:=by omega
 have hdl:s.done.length = lv.length:=by rw [hi.dlen];simp
 have hel:s.ends.length = lv.length:=by rw [hi.elen];simp
 have hdl1:s.done.length ≤ lv.length:=by omega
 have hdl2:lv.length ≤ s.done.length:=by omega
 have hel1:s.ends.length ≤ lv.length:=by omega
 have hel2:lv.length ≤ s.ends.length:=by omega
 have hll:(s.L.length:Int) ≤ 1099511627776:=by have:=hi.L;omega
 have hlm:((lv.map (·.j)).length:Int) = lv.length:=by simp
 have hrr:=Acm hok hi
 have hleft:=hi.left_le
 have hll2:s.left ≤ lv.length:=by omega
 have Hi:=Hid.mk hi
 have Hok:=Hid.mk hok
 clear hdl hel hs hok hi
 unfold Ko
 by_cases ho:Nr e s
 ·have hst:=Hid.mk (G8 Hok.out Hi.out ho)
  have hus:=Hid.mk (Nw Hok.out Hi.out ho)
  have Ho:=Hid.mk ho
  unfold Nr at ho
  clear hq
  refine WO.cut (fun fr' h1 => h1 = h' ∧ get fr' 0 = vl ∧ get fr' 1 = vj ∧ get fr' 2 = .int .i64 e ∧ get fr' 6 = .pointer (some ⟨h.length,0,none⟩) ∧ get fr' 7 = .pointer (some ⟨h.length + 3,0,none⟩) ∧ get fr' 8 = .int .i64 s.left ∧ get fr' 10 = .int .i64 s.runs ∧ get fr' 11 = .int .i64 s.t) ?_ ?_
  ·(repeat' (first | (with_reducible refine A2 (fun _ => ?_) (fun _ => ?_) <;> try (exfalso;omega)) | (with_reducible refine A3 (fun _ => ?_) (fun _ => ?_) <;> try (exfalso;omega)) | simp -dsimp (disch:=omega) only [↓EA,EB,Nat.reduceEqDiff,↓reduceIte,reduceCtorEq,eq_self, *]))
  ·rintro fr1 h1 ⟨rfl,g0,g1,g2,g6,g7,g8,g10,g11⟩
   have hl':=hl.pre hh.pre
   have hlv':=hlv.pre hh.pre
   have hdr:Rd 1 D7 h1 (.slice (some ⟨h.length + 2,0,none⟩) lv.length lv.length) s.done:=Vb hh.done (by omega) (by omega) (by omega)
   have hg:=hh.got
   have hwi:0 ≤ s.runs → callW E (.func (.func E2) #[] #[]) [.agg (Du hdJ (atI lv s.runs)).toArray,.int .i64 (atI s.done s.runs)] h1 = some (.bool (A5 (atI lv s.runs).j.cuts 0 (atI s.done s.runs)),h1,[]):=fun h0 => by
    have hm:=Al (l:=lv) h0 (by omega)
    obtain ⟨q,hq⟩:=Hok.out.cuts _ (List.mem_map_of_mem hm)
    exact Arc hE ((hc _ hm).pre hh.pre) hq (Hok.out.work _ (List.mem_map_of_mem hm)).2 _
   have hpk:callW E (.func (.func Hy) #[] #[]) [vl,vj,.slice (some ⟨h.length + 2,0,none⟩) lv.length lv.length,.int .i64 s.t] h1 = some (.int .i64 (Bs l (lv.map (·.j)) s.done s.t lv.length),h1,[]) :=
    Az7 hE hl' hlv' hdr (by omega) fun j hj => Hok.out.task _ (List.mem_map_of_mem hj)
   have e2:0 ≤ s.runs → atI (lv.map (·.j)) s.runs = (atI lv s.runs).j:=fun h0 => (G5 (fun p:NV Job => p.j) lv s.runs h0 (by omega)).symm
   rw [Ae0,M0]
   refine WO.cut (fun fr' h2 => h2 = h1 ∧ get fr' 0 = vl ∧ get fr' 1 = vj ∧ get fr' 2 = .int .i64 e ∧ get fr' 6 = .pointer (some ⟨h.length,0,none⟩) ∧ get fr' 7 = .pointer (some ⟨h.length + 3,0,none⟩) ∧ get fr' 8 = .int .i64 s.left ∧ get fr' 10 = .int .i64 (rsRuns l (lv.map (·.j)) s) ∧ get fr' 11 = .int .i64 s.t) ?_ ?_
   ·clear hrr
    have hlen':(lv.map (·.j)).length = lv.length:=by simp
    have hrl:s.runs < lv.length:=by omega
    rcases Int.lt_or_le s.runs 0 with hneg | hpos
    ·have hr:rsRuns l (lv.map (·.j)) s = Bs l (lv.map (·.j)) s.done s.t lv.length:=by unfold rsRuns;rw [if_pos (.inl hneg),hlen']
     rw [hr]
     clear hwi e2 hlen' hlm hr
     (repeat' simp -dsimp (disch:=omega) only [↓EA,EB,Nat.reduceEqDiff,↓reduceIte,reduceCtorEq,eq_self, *])
    ·have hwi:=hwi hpos
     have e2:=e2 hpos
     simp only [Du,hdJ,List.cons_append,List.nil_append] at hwi
     cases hwb:A5 (atI lv s.runs).j.cuts 0 (atI s.done s.runs) <;> rw [hwb] at hwi
     ·have hr:rsRuns l (lv.map (·.j)) s = Bs l (lv.map (·.j)) s.done s.t lv.length:=by unfold rsRuns;rw [e2,if_pos (.inr hwb),hlen']
      rw [hr]
      clear hlen' hlm hr e2
      (repeat' (first | (with_reducible refine A2 (fun _ => ?_) (fun _ => ?_) <;> try (exfalso;omega)) | simp -dsimp (disch:=omega) only [↓EA,EB,Nat.reduceEqDiff,↓reduceIte,reduceCtorEq,eq_self, *,hdr.ixs,hdr.ld0,hlv'.ixs,hlv'.lda,Du,hdJ,D7]))
     ·have hr:rsRuns l (lv.map (·.j)) s = s.runs:=by unfold rsRuns;rw [e2,hwb,if_neg (by simp;omega)]
      rw [hr]
      clear hlen' hlm hr e2
      (repeat' (first | (with_reducible refine A2 (fun _ => ?_) (fun _ => ?_) <;> try (exfalso;omega)) | simp -dsimp (disch:=omega) only [↓EA,EB,Nat.reduceEqDiff,↓reduceIte,reduceCtorEq,eq_self, *,hdr.ixs,hdr.ld0,hlv'.ixs,hlv'.lda,Du,hdJ,D7]))
   ·rintro fr2 h2 ⟨rfl,g0,g1,g2,g6,g7,g8,g10,g11⟩
    have hrs:Eg l (lv.map (·.j)) s = if rsRuns l (lv.map (·.j)) s < 0 then { s with t:=s.t + 1,runs:=rsRuns l (lv.map (·.j)) s } else Kb (lv.map (·.j)) s (rsRuns l (lv.map (·.j)) s):=rfl
    generalize rsRuns l (lv.map (·.j)) s = r at *
    have hrl:r < lv.length:=by omega
    have hbj:blk vj < h.length ∨ r < 0:=by
     rcases Int.lt_or_le r 0 with h1 | h1
     ·exact .inr h1
     ·exact .inl (Row.lt hlv (by intro e;simp at e;rw [e] at hrl;simp at hrl;omega))
    clear hwi hpk hruns hl hl'
    rcases Int.lt_or_le r 0 with hneg | hpos
    ·rw [if_pos hneg] at hrs
     have Hrs:=Hid.mk hrs
     clear hrs hrr e2 hlm
     (repeat' simp -dsimp (disch:=omega) only [↓EA,EB,Nat.reduceEqDiff,↓reduceIte,reduceCtorEq,eq_self, *])
     have hst':=hst.out
     have hus':=Hu.out.trans hus.out
     rw [Hrs.out] at hst' hus'
     refine Next.mk _ ⟨hst'.1,hus',rfl,rfl,rfl,rfl,rfl,rfl,rfl,rfl,vL,?_⟩ hst'.2
     exact ⟨hh.pre,hh.len,hh.res,hh.ends,hh.done,hh.got,hh.L⟩
    ·rw [if_neg (by omega)] at hrs
     have hrr:=hrr.2.2 hpos
     have e3:atI (lv.map (·.j)) r = (atI lv r).j:=(G5 (fun p:NV Job => p.j) lv r hpos hrl).symm
     rw [e3] at hrr
     unfold Kb at hrs
     rw [e3] at hrs
     have Hrs:=Hid.mk hrs
     have hdb:=(Hi.out.done r.toNat (by omega)).1
     rw [show ((r.toNat:Nat):Int) = r by omega] at hdb
     have hwb:=(Hok.out.work _ (List.mem_map_of_mem (Al (l:=lv) hpos hrl))).2
     clear hrs e2 hlm e3
     refine WO.cut (fun fr' h3 => h3 = h2 ∧ get fr' 0 = vl ∧ get fr' 1 = vj ∧ get fr' 2 = .int .i64 e ∧ get fr' 6 = .pointer (some ⟨h.length,0,none⟩) ∧ get fr' 7 = .pointer (some ⟨h.length + 3,0,none⟩) ∧ get fr' 8 = .int .i64 s.left ∧ get fr' 10 = .int .i64 r ∧ get fr' 11 = .int .i64 s.t) ?_ ?_
     ·(repeat' (first | (with_reducible refine A3 (fun _ => ?_) (fun _ => ?_) <;> try (exfalso;omega)) | simp -dsimp (disch:=omega) only [↓EA,EB,Nat.reduceEqDiff,↓reduceIte,reduceCtorEq,eq_self, *]))
     rintro fr3 h3 ⟨rfl,g0,g1,g2,g6,g7,g8,g10,g11⟩
     refine WO.cut (fun fr' h4 => h4 = h3 ∧ get fr' 0 = vl ∧ get fr' 1 = vj ∧ get fr' 2 = .int .i64 e ∧ get fr' 6 = .pointer (some ⟨h.length,0,none⟩) ∧ get fr' 7 = .pointer (some ⟨h.length + 3,0,none⟩) ∧ get fr' 8 = .int .i64 s.left ∧ get fr' 10 = .int .i64 r ∧ get fr' 11 = .int .i64 s.t ∧ get fr' 12 = .int .i64 s.L.length) ?_ ?_
     ·(repeat' simp -dsimp (disch:=omega) only [↓EA,EB,Nat.reduceEqDiff,↓reduceIte,reduceCtorEq,eq_self, *,hh.L.rd.len])
     rintro fr4 h4 ⟨rfl,g0,g1,g2,g6,g7,g8,g10,g11,g12⟩
     have hblk:s.L ≠ [] → h.length + 4 ≤ blk vL:=fun hn => hh.L.ge hn
     refine WO.cut (fun fr' h5 => get fr' 0 = vl ∧ get fr' 1 = vj ∧ get fr' 2 = .int .i64 e ∧ get fr' 6 = .pointer (some ⟨h.length,0,none⟩) ∧ get fr' 7 = .pointer (some ⟨h.length + 3,0,none⟩) ∧ get fr' 8 = .int .i64 s.left ∧ get fr' 10 = .int .i64 r ∧ get fr' 11 = .int .i64 s.t ∧ ∃ vL',Afa h h5 lv.length { s with L:=D0 s.L r s.t } vL') ?_ ?_
     ·have hadd:D0 s.L r s.t = if 0 < (s.L.length:Int) ∧ (atI s.L ((s.L.length:Int) - 1)).job = r ∧ (atI s.L ((s.L.length:Int) - 1)).to' = s.t then s.L.set ((s.L.length:Int) - 1).toNat { atI s.L ((s.L.length:Int) - 1) with to':=(atI s.L ((s.L.length:Int) - 1)).to' + 1 } else s.L ++ [⟨r,s.t,s.t + 1⟩]:=rfl
      have Hadd:=Hid.mk hadd
      clear hadd hdr hc
      (repeat' (first | (with_reducible refine A1 (fun _ => ?_) (fun _ => ?_) <;> try (exfalso;omega)) | (with_reducible refine A3 (fun _ => ?_) (fun _ => ?_) <;> try (exfalso;omega)) | simp -dsimp (disch:=omega) only [↓EA,EB,Nat.reduceEqDiff,Nat.reduceAdd,Nat.reduceLeDiff,Nat.reduceMul,↓reduceIte,reduceCtorEq,Ab,Q7,eq_self, *,hh.L.rd.ixs,hh.L.rd.ld,hh.L.rd.ld0,Nt]))
      case' refine_1.refine_1.refine_1 =>
       have hne:s.L ≠ []:=by intro e;have:s.L.length = 0:=(by rw [e];rfl);omega
       have hb4:=hblk hne
       refine Ad0 hh.L (fun b hb => by omega) { atI s.L ((s.L.length:Int) - 1) with to':=s.t + 1 } (by omega) (by omega) (by decide) rfl rfl fun h5 k1 k2 k3 => ?_
       have Hadd':D0 s.L r s.t = s.L.set ((s.L.length:Int) - 1).toNat { atI s.L ((s.L.length:Int) - 1) with to':=s.t + 1 }:=by
        rw [Hadd.out,if_pos ⟨by omega,by assumption,by assumption⟩,‹(atI s.L ((s.L.length:Int) - 1)).to' = s.t›]
       replace Hadd':=Hid.mk Hadd'
       (repeat' simp -dsimp (disch:=omega) only [↓EA,EB,Nat.reduceEqDiff,↓reduceIte,reduceCtorEq,eq_self, *])
       refine ⟨vL,⟨fun b o hb => ?_,by rw [k2];exact hh.len,?_,?_,?_,?_,?_⟩⟩
       ·rw [k3 b (by have:=(GI.1 hb).1;omega)];exact hh.pre b o hb
       ·rw [k3 _ (by omega)];exact hh.res
       ·rw [k3 _ (by omega)];exact hh.ends
       ·rw [k3 _ (by omega)];exact hh.done
       ·rw [k3 _ (by omega)];exact hh.got
       ·rw [Hadd'.out];exact k1
      all_goals
       have hlen4:=hh.len
       refine Adx (sz:=3) (bytes:=24) (hh.L.app _) (hh.pre.app' _) (m:=h.length + 4) (by omega) (by simp;omega) (fun b hb => by omega) ⟨r,s.t,s.t + 1⟩ ?_ rfl (by decide) (by decide) (by omega) ?_
       ·simp -dsimp (disch:=omega) only [EB,Nat.reduceAdd,Nat.reduceMul,↓reduceIte]
        rfl
       ·intro v2 h5 k1 k2 k3 k4 k5
        have hat:∀ b,b < h.length + 4 → h5[b]? = h4[b]?:=fun b hb => by
         rw [k5 b (by simp;omega) (fun hn => by have:=hblk hn;omega),GL (by omega)]
        have Hadd':D0 s.L r s.t = s.L ++ [⟨r,s.t,s.t + 1⟩]:=by
         rw [Hadd.out,if_neg (by rintro ⟨a,b,c⟩;simp_all)]
        have hg5:h5[h.length + 3]? = some (.cells [vL,.slice (some ⟨h.length + 1,0,none⟩) lv.length lv.length,.slice (some ⟨h.length + 2,0,none⟩) lv.length lv.length] false):=by rw [hat _ (by omega)];exact hh.got
        have hv:=k1.rd.one
        have hv2:=k1.rd.cv
        simp only [LA,List.length_cons,List.length_nil] at k3 k4
        clear k5 hg
        replace Hadd':=Hid.mk Hadd'
        replace hat:=Hid.mk hat
        (repeat' simp -dsimp (disch:=omega) only [↓EA,EB,Nat.reduceEqDiff,Nat.reduceAdd,Nat.reduceLeDiff,↓reduceIte,reduceCtorEq,eq_self, *])
        refine ⟨v2,⟨k2.set (by omega) _,by rw [List.length_set];omega,?_,?_,?_,?_,?_⟩⟩
        ·rw [An (by omega),hat.out _ (by omega)];exact hh.res
        ·rw [An (by omega),hat.out _ (by omega)];exact hh.ends
        ·rw [An (by omega),hat.out _ (by omega)];exact hh.done
        ·exact Bq (by omega)
        ·rw [Hadd'.out];exact k1.keep fun hn => An (by omega)
     ·rintro fr5 h5 ⟨g0,g1,g2,g6,g7,g8,g10,g11,vL',hh'⟩
      have hlen5:=hh'.len
      have hd5:=hh'.done
      have he5:=hh'.ends
      have hg5:=hh'.got
      have hr5:=hh'.res
      have hL5:=hh'.L.rd.one
      simp only at hd5 he5
      have hlv5:=hlv.pre hh'.pre
      clear hg hdr hblk
      have hll3:=Ho.out.1
      (repeat' (first | (with_reducible refine A3 (fun _ => ?_) (fun _ => ?_) <;> try (exfalso;omega)) | simp -dsimp (disch:=omega) only [↓EA,EB,Nat.reduceEqDiff,↓reduceIte,reduceCtorEq,eq_self, *,hlv5.ixs,hlv5.ld,Du,hdJ]))
      case' refine_1 => simp only [if_pos ‹atI s.done r + 1 = (atI lv r).j.work›] at Hrs
      case' refine_2 => simp only [if_neg ‹¬ atI s.done r + 1 = (atI lv r).j.work›] at Hrs
      all_goals
       have hst':=hst.out
       have hus':=Hu.out.trans hus.out
       rw [Hrs.out] at hst' hus'
       refine Next.mk _ ⟨hst'.1,hus',rfl,rfl,rfl,rfl,rfl,rfl,rfl,rfl,vL',?_⟩ hst'.2
      ·refine ⟨hh'.pre.set (by omega) _,by simp only [List.length_set];omega,?_,?_,?_,?_,?_⟩
       ·rw [An (by omega)];exact hr5
       ·rw [An (by omega)];exact he5
       ·exact Bq (by omega)
       ·rw [An (by omega)];exact hg5
       ·exact hh'.L.keep fun hn => by have:=hh'.L.ge hn;rw [An (by omega)]
      ·refine ⟨(hh'.pre.set (by omega) _).set (by omega) _,by simp only [List.length_set];omega,?_,?_,?_,?_,?_⟩
       ·rw [An (by omega),An (by omega)];exact hr5
       ·exact Bq (by simp only [List.length_set];omega)
       ·rw [An (by omega),Bq (by omega),‹atI s.done r + 1 = (atI lv r).j.work›]
       ·rw [An (by omega),An (by omega)];exact hg5
       ·exact hh'.L.keep fun hn => by have:=hh'.L.ge hn;rw [An (by omega),An (by omega)]
 ·rw [I5 ho] at Hu
  unfold Nr at ho
  (repeat' (first | (with_reducible refine A1 (fun _ => ?_) (fun _ => ?_) <;> try (exfalso;omega)) | (with_reducible refine A2 (fun _ => ?_) (fun _ => ?_) <;> try (exfalso;omega)) | (with_reducible refine A3 (fun _ => ?_) (fun _ => ?_) <;> try (exfalso;omega)) | simp -dsimp (disch:=omega) only [↓EA,EB,Nat.reduceEqDiff,↓reduceIte,reduceCtorEq,eq_self, *]))
  all_goals exact hq _ _ vL rfl rfl (by rw [Hu.out];exact hh)
def GotR (m:Nat) (s:RS) (h:Aa) (v:Value):Prop:=∃ vs,v = .agg vs.toArray ∧ Each h [fun h v => RdM m 3 Nt h v s.L,fun h v => RdM m 1 D7 h v s.ends,fun h v => RdM m 1 D7 h v s.done] vs
theorem GotR.movable {m:Nat} (s:RS):Movable m (GotR m s) 2 :=
 Movable.aggs (k:=1) (fun R hR => by
  simp only [List.mem_cons,List.not_mem_nil,or_false] at hR
  rcases hR with rfl | rfl | rfl
  ·exact RdM.movable Ah9 _
  ·exact RdM.movable Add _
  ·exact RdM.movable Add _) (by simp)
theorem Awh (hE:As E) {h:Aa} {vl vj:Value} {l:List Ac} {jobs:List Job} (hl:Rd 7 Ar h vl l) (hj:RdJ h vj jobs) (hok:Nq l jobs) (hsum:Ev jobs ≤ 1099511627776) (e:Int) :
  ∃ v ys,callW E (.func (.func Iu) #[] #[]) [vl,vj,.int .i64 e] h = some (v,h ++ ys,[]) ∧ GotR h.length (Bb l jobs e (Cq jobs.length)) (h ++ ys) v:=by
 refine Lk hE.Aga rfl (GotR.movable _) (by simp) ?_
 obtain ⟨d,rfl,c,hc⟩:=hj.is
 have few:=c.few
 have u:(d.length:Int) ≤ 1099511627776:=by
  have z:Dq (fun _ => 1) (d.map (·.j)).length ≤ Ev (d.map (·.j)):=Pm fun i hi => (hok.work _ (Al (by omega) (by omega))).1
  rw [Zb,List.length_map] at z;omega
 have y:((d.length:Int)).toNat = d.length:=by omega
 have f:=Mr (d.map (·.j)) hok.work
 simp only [Ai]
 (repeat' simp -dsimp (disch:=omega) only [↓EA,EB,Nat.reduceEqDiff,Nat.reduceAdd,Nat.reduceLeDiff,↓reduceIte,reduceCtorEq,Ab,eq_self, *,c.len])
 refine Arn hE (c.app _) (b:=h.length + 1) (bg:=h.length + 3) (by omega) (fun n => by have:=c.lt' n;omega) (by omega) rfl (by rw [Jr];rfl) (by rw [Jr];rfl) rfl rfl rfl rfl rfl rfl rfl fun a0 g0 g1 g2 g6 g7 g8 => ?_
 (repeat' simp -dsimp (disch:=omega) only [↓EA,EB,Nat.reduceEqDiff,↓reduceIte,reduceCtorEq,eq_self, *])
 refine Arm hE hl c hc hok hsum e f (vL0:=.slice none 0 0) ⟨Pre.app _ _,by simp,by rw [Bh];rfl,?_,?_,by rw [Jr];rfl,OwnT.nil⟩ rfl rfl rfl rfl rfl ?_ rfl rfl fun s h' vL q6 q7 a => ?_
 ·rw [Jr];simp [Cq]
 ·rw [Jr];simp [Cq]
 ·simp [Cq,get]
 ·have t:=a.res
  have x:=a.got
  have a1:=a.L.rd.one
  have r:=a.len
  (repeat' simp -dsimp (disch:=omega) only [↓EA,EB,Nat.reduceEqDiff,Nat.reduceAdd,↓reduceIte,eq_self, *])
  have m:=a.pre.set (Nat.le_refl h.length) (.cells [vL,.slice (some ⟨h.length + 1,0,none⟩) d.length d.length,.slice (some ⟨h.length + 2,0,none⟩) d.length d.length] false)
  have g:=(Pk (e:=e) hok (fun _ => True) (fun _ _ _ _ => trivial) f trivial).1
  have o:=g.elen
  have p:=g.dlen
  simp only [List.length_map] at o p a ⊢
  refine ⟨m.ex,_,rfl,.cons ?_ (.cons ?_ (.cons ?_ .nil))⟩
  ·exact ⟨(a.L.keep fun n => An (by have:=a.L.ge n;omega)).rd,fun n => by have:=a.L.ge (a.L.ne n);omega⟩
  ·exact ⟨Vb (by rw [An (by omega)];exact a.ends) o.symm (by rw [o];exact few) (by rw [o];exact Nat.le_refl _),fun _ => Nat.le_add_right _ _⟩
  ·exact ⟨Vb (by rw [An (by omega)];exact a.done) p.symm (by rw [p];exact few) (by rw [p];exact Nat.le_refl _),fun _ => Nat.le_add_right _ _⟩
end Go.L.Try
set_option maxHeartbeats 2000000
namespace Go.L.Try
open Go Go.L
variable {E:Env}
theorem Az5 (hE:As E) {h:Aa} {va vb:Value} {a b:List Span} (ha:Rd 3 Nt h va a) (hb:Rd 3 Nt h vb b) :
  callW E (.func (.func Jn) #[] #[]) [va,vb] h = some (.bool (decide (a = b)),h,[]):=by
 refine Ak hE.Akc rfl (by simp) ?_
 have few:=ha.few
 have d:=hb.few
 simp only [Ai]
 (repeat' (first | (with_reducible refine A3 (fun _ => ?_) (fun _ => ?_) <;> try (exfalso;omega)) | simp -dsimp (disch:=omega) only [↓EA,EB,Nat.reduceEqDiff,↓reduceIte,reduceCtorEq,eq_self, *,ha.len,hb.len]))
 ·have:a ≠ b:=fun e => by subst e;simp_all
  simp [this]
 ·have g:a.length ≤ b.length:=by omega
  have f:b.length ≤ a.length:=by omega
  refine WO.loop (fun n fr h' => h' = h ∧ n ≤ a.length ∧ get fr 0 = va ∧ get fr 1 = vb ∧ get fr 5 = .int .i64 n ∧ a.take n = b.take n) (fun n => a.length - n) ?_ 0 ⟨rfl,Nat.zero_le _,rfl,rfl,rfl,rfl⟩
  rintro n fr h' ⟨rfl,j,p,m,l,c⟩
  have Ht:=Hid.mk c
  clear c
  unfold Qv
  rcases Nat.lt_or_ge n a.length with hlt | hge
  ·(repeat' (first | (with_reducible refine A3 (fun _ => ?_) (fun _ => ?_) <;> try (exfalso;omega)) | simp -dsimp (disch:=omega) only [↓EA,EB,Nat.reduceEqDiff,↓reduceIte,reduceCtorEq,eq_self, *,ha.len,ha.ixs,ha.lda,hb.ixs,hb.lda,Nt,Aq0]))
   ·have:a ≠ b:=fun e => by subst e;simp_all
    simp [this]
   ·refine Next.mk (n + 1) ⟨rfl,by omega,rfl,rfl,rfl,?_⟩ (by omega)
    rw [Go.L.take_snoc hlt,Go.L.take_snoc (by omega),Ht.out]
    congr 2
    exact span_ext.2 (by rename_i o;omega)
  ·have:a = b:=by
    have:=Ht.out
    rwa [List.take_of_length_le (by omega),List.take_of_length_le (by omega)] at this
   (repeat' (first | (with_reducible refine A3 (fun _ => ?_) (fun _ => ?_) <;> try (exfalso;omega)) | simp -dsimp (disch:=omega) only [↓EA,EB,Nat.reduceEqDiff,↓reduceIte,reduceCtorEq,eq_self, *,ha.len]))
end Go.L.Try
set_option maxHeartbeats 8000000
namespace Go.L.Try
open Go Go.L
variable {E:Env}
def Play16 (m:Nat) (l:List Ac) (i:Int) (h:Aa) (v:Value):Prop:=∃ vs,v = .agg vs.toArray ∧ Each h [fun h v => RdM m 3 Nt h v (plL l i),fun _ v => v = .int .i64 (plE l i)] vs
theorem Play16.movable {m:Nat} (l:List Ac) (i:Int):Movable m (Play16 m l i) 2 :=
 Movable.aggs (k:=1) (fun R hR => by
  simp only [List.mem_cons,List.not_mem_nil,or_false] at hR
  rcases hR with rfl | rfl
  ·exact RdM.movable Ah9 _
  ·exact El rfl) (by simp)
theorem Xw {m:Nat} {l:List Ac} {i:Int} {h:Aa} {v:Value} (r:Crit15 m l i h v):∃ vr,v = .agg #[vr,.int .i64 (crA l i),.int .i64 (plX l i)] ∧ RdNO m 5 hdJ Job.cuts h vr (crL l i):=by
 obtain ⟨e,rfl,a⟩:=r
 rcases a with _ | ⟨c,_ | ⟨rb,_ | ⟨d,_ | _⟩⟩⟩
 subst rb;subst d
 exact ⟨_,rfl,c⟩
theorem Asu (hE:As E) {h:Aa} {vl:Value} {l:List Ac} (hl:Rd 7 Ar h vl l) (hs:∀ t ∈ l,t.name.size < 1152921504606846976) (f:Fit l) (i:Int) :
  ∃ v ys,callW E (.func (.func Ha) #[] #[]) [vl,.int .i64 i] h = some (v,h ++ ys,[]) ∧ Play16 h.length l i (h ++ ys) v:=by
 refine Lk hE.Aka rfl (Play16.movable _ _) (by simp) ?_
 have b3:=hl.cv
 have az:=hl.one
 simp only [Ai]
 (repeat' simp -dsimp (disch:=omega) only [↓EA,EB,Nat.reduceEqDiff,↓reduceIte,reduceCtorEq,Ab,eq_self, *])
 refine Gi (Ave hE (hl.app _) hs f i) fun v1 ys r1 p1 => ?_
 obtain ⟨g,rfl,rr⟩:=Xw r1
 obtain ⟨jl,u,d⟩:=RdJ.open_ rr.rd
 have aw:=d.one
 have b8:=d.cv
 have b4:(h ++ [LObj.cells [.slice none 0 0,.int .i64 0] false] ++ ys)[h.length]? = some (.cells [.slice none 0 0,.int .i64 0] false):=p1 _ _ (by rw [Bh];rfl)
 have pp:Pre h (h ++ [LObj.cells [.slice none 0 0,.int .i64 0] false] ++ ys):=(Pre.app h _).trans p1
 have rl:=hl.pre pp
 have ay:h.length + 1 ≤ (h ++ [LObj.cells [.slice none 0 0,.int .i64 0] false] ++ ys).length:=by simp
 have m:=rr.rd
 clear r1 p1 rr
 generalize h ++ [LObj.cells [.slice none 0 0,.int .i64 0] false] ++ ys = H1 at *
 have am:h.length < H1.length:=by omega
 have b6:h.length ≤ H1.length:=by omega
 have c4:∀ x,(H1 ++ x)[h.length]? = some (.cells [.slice none 0 0,.int .i64 0] false):=fun x => by rw [GL am];exact b4
 cases hb:isP l i
 ·have hx:plX l i = 1:=by unfold plX;rw [hb];rfl
  rw [hx]
  have a4:=Hid.mk (AI pp m)
  clear pp m d u
  have g4:∀ x y,((H1 ++ [x]).set h.length y)[h.length]? = some y:=fun x y => Bq (by simp;omega)
  (repeat' (first | (with_reducible refine A3 (fun _ => ?_) (fun _ => ?_) <;> try (exfalso;omega)) | simp -dsimp (disch:=omega) only [↓EA,EB,Nat.reduceEqDiff,Nat.reduceAdd,↓reduceIte,reduceCtorEq,Ab,eq_self, *]))
  obtain ⟨pp,_⟩:=a4.out
  refine ⟨((pp.app' _).set (Nat.le_refl _) _).ex,_,rfl,.cons ?_ (.cons ?_ .nil)⟩
  ·unfold plL;rw [hb];exact ⟨Rd.of_nil,fun hn => absurd rfl hn⟩
  ·unfold plE;rw [hb];rfl
 ·have hx:plX l i = 0:=by unfold plX;rw [if_pos hb]
  rw [hx]
  obtain ⟨k,rfl,hk,aj⟩:=Aep hb
  have hv:=S7 hb
  obtain ⟨_,a6,a1⟩:=By hv
  have few:=f.few hv (i:=(k:Int)) ⟨by omega,by omega⟩
  have a:=P7 hv hk (by omega)
  have S:=Sx a
  obtain ⟨af,s⟩:=Yu (l:=l) (i:=k)
  have z:=Aip hv (f.mid hv) hk (by omega)
  have an:=a1 _ (Al (l:=l) (i:=(k:Int)) (by omega) (by omega))
  obtain ⟨ae,a9⟩:=an
  simp only [Am,C9] at ae a9
  have ag:=(Fv (i:=(k:Int)) a1 ⟨by omega,by omega⟩ l.length (Nat.le_refl _)).1
  have a8:(Cf l k).arrive = startP l k - (atI l (k:Int)).J:=rfl
  have a7:startP l k = 1 + mostJ l k l.length:=rfl
  have ha:1 ≤ (Cf l k).arrive ∧ (Cf l k).arrive ≤ 2147483648:=by omega
  have hD:1 ≤ (atI l (k:Int)).D ∧ (atI l (k:Int)).D ≤ 2147483647:=by omega
  obtain ⟨b1,ar⟩:=ha
  obtain ⟨av,b7⟩:=hD
  have e1:crL l k = Bg l k:=by unfold crL;rw [if_pos hb]
  have e2:crA l k = (A9 l k).length:=by unfold crA;rw [if_pos hb]
  rw [e1] at u m
  rw [e2]
  have ab:jl.length = (Bg l k).length:=by rw [u,List.length_map]
  have ap:(atI jl ((A9 l k).length:Int)).j = Cf l k:=by
   rw [← s]
   show _ = atI (Bg l k) _
   rw [u,← G5 NV.j jl _ (by omega) (by rw [ab];omega)]
  have aq:((A9 l k).length:Int) < jl.length:=by rw [ab];omega
  have ac:=fun x => Awh hE (rl.app x) (m.pre (Pre.app H1 x)) S.ok z ((Cf l k).arrive + (atI l (k:Int)).D)
  have as:(k:Int) < l.length:=by omega
  have ad:=fun x => rl.app x
  have a3:=fun x => d.app x
  have ax:blk g < H1.length:=by
   refine d.lt' fun e => ?_
   have:=d.len
   rw [e] at this
   simp [Ly] at this
   omega
  have b5:blk vl < H1.length:=by
   refine rl.lt' fun e => ?_
   have:=rl.len
   rw [e] at this
   simp [Ly] at this
   omega
  have a0:=a
  have a2:(Lx l k).ends.length = (Bg l k).length:=(Aex a (e:=(Cf l k).arrive + (atI l (k:Int)).D) (by omega) af (Akv a af).choose_spec).1
  have a5:=Hid.mk ac
  have a4:=Hid.mk (AI pp m)
  have b2:=Rd.nt d
  clear ae a9 ag a8 a7 a6 a1 ac pp m S z few a s hv aj
  generalize (A9 l k).length = at' at *
  generalize hsj:Cf l k = sj at *
  have aa:=a3 [LObj.cells [g,.int .i64 (at':Int),.int .i64 0] false]
  have p:=a3 [LObj.cells [g,.int .i64 (at':Int),.int .i64 0] false,.dead]
  have r:=ad [LObj.cells [g,.int .i64 (at':Int),.int .i64 0] false,.dead]
  (repeat' simp -dsimp (disch:=omega) only [↓EA,EB,Nat.reduceEqDiff,Nat.reduceAdd,↓reduceIte,reduceCtorEq,Ab,eq_self, *])
  refine ⟨by simp [low],?_⟩
  (repeat' simp -dsimp (disch:=omega) only [↓EA,EB,Nat.reduceEqDiff,↓reduceIte,reduceCtorEq,eq_self, *])
  refine ⟨by simp [low],?_⟩
  (repeat' simp -dsimp (disch:=omega) only [↓EA,EB,Nat.reduceEqDiff,↓reduceIte,reduceCtorEq,eq_self, *])
  refine ⟨by simp [low],?_⟩
  (repeat' simp -dsimp (disch:=omega) only [↓EA,EB,Nat.reduceEqDiff,↓reduceIte,eq_self, *,p.ixs])
  refine ⟨by simp [low];omega,?_⟩
  (repeat' simp -dsimp (disch:=omega) only [↓EA,EB,Nat.reduceEqDiff,↓reduceIte,reduceCtorEq,eq_self, *,p.ld,r.ixs,Du,hdJ])
  refine ⟨by simp [low];omega,?_⟩
  (repeat' simp -dsimp (disch:=omega) only [↓EA,EB,Nat.reduceEqDiff,↓reduceIte,eq_self, *,r.ld,Ar])
  refine Gi (a5.out _) fun v3 c r3 p3 => ?_
  obtain ⟨va,vb,vd,rfl,n,o,rd⟩:=(by
   obtain ⟨vs,rfl,hv⟩:=r3
   rcases hv with _ | ⟨n,_ | ⟨o,_ | ⟨rc,_ | _⟩⟩⟩
   exact ⟨_,_,_,rfl,n,o,rc⟩:∃ va vb vd,v3 = .agg #[va,vb,vd] ∧ RdM (H1 ++ [LObj.cells [g,.int .i64 (at':Int),.int .i64 0] false,.dead]).length 3 Nt (H1 ++ [LObj.cells [g,.int .i64 (at':Int),.int .i64 0] false,.dead] ++ c) va (Bb l (Bg l k) (sj.arrive + (atI l (k:Int)).D) (Cq (Bg l k).length)).L ∧ RdM (H1 ++ [LObj.cells [g,.int .i64 (at':Int),.int .i64 0] false,.dead]).length 1 D7 (H1 ++ [LObj.cells [g,.int .i64 (at':Int),.int .i64 0] false,.dead] ++ c) vb (Bb l (Bg l k) (sj.arrive + (atI l (k:Int)).D) (Cq (Bg l k).length)).ends ∧ RdM (H1 ++ [LObj.cells [g,.int .i64 (at':Int),.int .i64 0] false,.dead]).length 1 D7 (H1 ++ [LObj.cells [g,.int .i64 (at':Int),.int .i64 0] false,.dead] ++ c) vd (Bb l (Bg l k) (sj.arrive + (atI l (k:Int)).D) (Cq (Bg l k).length)).done)
  have ah:Bb l (Bg l k) (sj.arrive + (atI l (k:Int)).D) (Cq (Bg l k).length) = Lx l k:=by
   unfold Lx T3
   rw [hsj,if_pos a0,show max (sj.arrive + (atI l (k:Int)).D) 0 = sj.arrive + (atI l (k:Int)).D by omega]
  rw [ah] at n o rd
  have d5:(H1 ++ [LObj.cells [g,.int .i64 (at':Int),.int .i64 0] false,.dead] ++ c)[H1.length]? = some (.cells [g,.int .i64 (at':Int),.int .i64 0] false):=p3 _ _ (by rw [Bh];rfl)
  have d4:(H1 ++ [LObj.cells [g,.int .i64 (at':Int),.int .i64 0] false,.dead] ++ c)[h.length]? = some (.cells [.slice none 0 0,.int .i64 0] false):=p3 _ _ (c4 _)
  have dl:H1.length + 2 ≤ (H1 ++ [LObj.cells [g,.int .i64 (at':Int),.int .i64 0] false,.dead] ++ c).length:=by simp
  have dp:Pre h (H1 ++ [LObj.cells [g,.int .i64 (at':Int),.int .i64 0] false,.dead] ++ c):=(a4.out.1.app' _).app' _
  have oa:=n.1.one
  have ca:=n.1.cv
  have ob:=o.1.one
  have cb:=o.1.cv
  have od:=rd.1.one
  have cd:=rd.1.cv
  have na:=Rd.nt n.1
  have nb:=Rd.nt o.1
  have nd:=Rd.nt rd.1
  rw [LA] at n o rd
  have ai:=Hid.mk (AI n (AI o dp))
  clear n rd p3 r3 aa p r ad a3 a5 rl d c4 b4 dp
  generalize H1 ++ [LObj.cells [g,.int .i64 (at':Int),.int .i64 0] false,.dead] ++ c = K at *
  have s5:∀ x,(K.set (H1.length + 1) x)[H1.length]? = some (.cells [g,.int .i64 (at':Int),.int .i64 0] false):=fun x => by rw [An (by omega)];exact d5
  have s4:∀ x,(K.set (H1.length + 1) x)[h.length]? = some (.cells [.slice none 0 0,.int .i64 0] false):=fun x => by rw [An (by omega)];exact d4
  have s6:∀ x,(K.set (H1.length + 1) x)[H1.length + 1]? = some x:=fun x => Bq (by omega)
  have sb:Rd 1 D7 (K.set (H1.length + 1) (.cells [va,vb,vd] false)) vb (Lx l k).ends:=o.1.keep fun hn => An (by have:=o.2 hn;simp at this;omega)
  have au:(at':Int) < (Lx l k).ends.length:=by rw [a2];omega
  have b0:∀ x y,(K.set (H1.length + 1) x).set (H1.length + 1) y = K.set (H1.length + 1) y:=fun x y => List.set_set ..
  have g4:∀ x y,((K.set (H1.length + 1) x).set h.length y)[h.length]? = some y:=fun x y => Bq (by rw [List.length_set];omega)
  have al:h.length ≤ H1.length + 1:=by omega
  clear o
  (repeat' simp -dsimp (disch:=omega) only [↓EA,EB,Nat.reduceEqDiff,Nat.reduceAdd,Nat.reduceLeDiff,↓reduceIte,reduceCtorEq,Ab,eq_self, *,sb.ixs,sb.ld0,D7])
  obtain ⟨n,o,dp⟩:=ai.out
  have ak:plL l (k:Int) = (Lx l k).L:=by unfold plL;rw [if_pos hb,Int.toNat_natCast]
  have ao:plE l (k:Int) = atI (Lx l k).ends at':=by unfold plE;rw [if_pos hb,Int.toNat_natCast];exact congrArg _ (by rw [← e2];unfold crA;rw [if_pos hb])
  refine ⟨((dp.set al _).set (Nat.le_refl _) _).ex,_,rfl,.cons ?_ (.cons (by rw [ao]) .nil)⟩
  rw [ak]
  refine ⟨n.1.keep fun hn => ?_,fun hn => ?_⟩
  ·have:=n.2 hn
   simp only [List.length_cons,List.length_nil] at this
   rw [An (by omega),An (by omega)]
  ·have:=n.2 hn
   simp only [List.length_cons,List.length_nil] at this
   omega
end Go.L.Try
namespace Go.L.Try
open Go Go.L
variable {E:Env} {G:Nat}
theorem Aya (hE:As E) {h:Aa} {vl:Value} {l:List Ac} (hl:Rd 7 Ar h vl l) (hs:∀ t ∈ l,t.name.size < 1152921504606846976) (f:Fit l) (i:Int) :
  callW E (.func (.func Ir) #[] #[]) [vl,.int .i64 i] h = some (.agg #[.int .i64 (bdR l i),.int .i64 (bdX l i)],h,[]):=by
 refine Ak hE.Af8 rfl (by simp) ?_
 have af:=hl.cv
 have ae:=hl.one
 simp only [Ai]
 (repeat' simp -dsimp (disch:=omega) only [↓EA,EB,Nat.reduceEqDiff,↓reduceIte,reduceCtorEq,Ab,eq_self, *])
 refine Gi (Ave hE (hl.app _) hs f i) fun v1 u r1 p1 => ?_
 obtain ⟨m,rfl,rr⟩:=Xw r1
 obtain ⟨p,g,a⟩:=RdJ.open_ rr.rd
 have a7:=a.one
 have ac:=a.cv
 have b4:(h ++ [LObj.cells [.int .i64 0,.int .i64 0] false] ++ u)[h.length]? = some (.cells [.int .i64 0,.int .i64 0] false):=p1 _ _ (by rw [Bh];rfl)
 have pp:Pre h (h ++ [LObj.cells [.int .i64 0,.int .i64 0] false] ++ u):=(Pre.app h _).trans p1
 have rl:=hl.pre pp
 have a8:h.length + 1 ≤ (h ++ [LObj.cells [.int .i64 0,.int .i64 0] false] ++ u).length:=by simp
 clear r1 p1 rr
 generalize h ++ [LObj.cells [.int .i64 0,.int .i64 0] false] ++ u = H1 at *
 have a3:h.length < H1.length:=by omega
 have ab:h.length ≤ H1.length:=by omega
 have c4:∀ x,(H1 ++ x)[h.length]? = some (.cells [.int .i64 0,.int .i64 0] false):=fun x => by rw [GL a3];exact b4
 have g4:∀ x y,((H1 ++ x).set h.length y)[h.length]? = some y:=fun x y => Bq (by simp;omega)
 unfold bdR bdX
 cases hb:isP l i
 ·have hx:plX l i = 1:=by unfold plX;rw [hb];rfl
  rw [hx]
  clear pp a g
  (repeat' (first | (with_reducible refine A3 (fun _ => ?_) (fun _ => ?_) <;> try (exfalso;omega)) | simp -dsimp (disch:=omega) only [↓EA,EB,Nat.reduceEqDiff,Nat.reduceAdd,↓reduceIte,reduceCtorEq,Ab,eq_self, *]))
 ·have hx:plX l i = 0:=by unfold plX;rw [if_pos hb]
  rw [hx]
  obtain ⟨⟨a1,a2⟩,q1,q2,q3⟩:=Ayy f hb
  obtain ⟨k,rfl,hk,a0⟩:=Aep hb
  have e1:crL l k = Bg l k:=by unfold crL;rw [if_pos hb]
  have e2:crA l k = (A9 l k).length:=by unfold crA;rw [if_pos hb]
  have e3:plA l k = (Cf l k).arrive:=by unfold plA;rw [if_pos hb]
  obtain ⟨ad,c⟩:=Yu (l:=l) (i:=k)
  rw [e1] at g
  rw [e2]
  have o:p.length = (Bg l k).length:=by rw [g,List.length_map]
  have n:(atI p ((A9 l k).length:Int)).j = Cf l k:=by
   rw [← c]
   show _ = atI (Bg l k) _
   rw [g,← G5 NV.j p _ (by omega) (by rw [o];omega)]
  have a4:((A9 l k).length:Int) < p.length:=by rw [o];omega
  have a5:(atI p ((A9 l k).length:Int)).j.arrive = plA l k:=by rw [n,e3]
  clear a0 c e3 n
  generalize (A9 l k).length = at' at *
  (repeat' simp -dsimp (disch:=omega) only [↓EA,EB,Nat.reduceEqDiff,Nat.reduceAdd,↓reduceIte,reduceCtorEq,Ab,eq_self, *])
  refine Gi (Asu hE (rl.app _) hs f k) fun v2 d r2 z => ?_
  obtain ⟨va,rfl,s⟩:=(by
   obtain ⟨vs,rfl,hv⟩:=r2
   rcases hv with _ | ⟨s,_ | ⟨rb,_ | _⟩⟩
   subst rb
   exact ⟨_,rfl,s⟩:∃ va,v2 = .agg #[va,.int .i64 (plE l k)] ∧ RdM (H1 ++ [LObj.cells [m,.int .i64 (at':Int),.int .i64 0] false]).length 3 Nt (H1 ++ [LObj.cells [m,.int .i64 (at':Int),.int .i64 0] false] ++ d) va (plL l k))
  have d5:(H1 ++ [LObj.cells [m,.int .i64 (at':Int),.int .i64 0] false] ++ d)[H1.length]? = some (.cells [m,.int .i64 (at':Int),.int .i64 0] false):=z _ _ (by rw [Bh];rfl)
  have d4:(H1 ++ [LObj.cells [m,.int .i64 (at':Int),.int .i64 0] false] ++ d)[h.length]? = some (.cells [.int .i64 0,.int .i64 0] false):=z _ _ (c4 _)
  have dl:H1.length + 1 ≤ (H1 ++ [LObj.cells [m,.int .i64 (at':Int),.int .i64 0] false] ++ d).length:=by simp
  have dj:=a.pre ((Pre.app H1 _).trans z)
  have oa:=s.1.one
  have ca:=s.1.cv
  clear s r2 z rl a c4 g4 b4 pp
  generalize H1 ++ [LObj.cells [m,.int .i64 (at':Int),.int .i64 0] false] ++ d = K at *
  have a6:=fun x => dj.app x
  have r:=dj.app [LObj.cells [va,.int .i64 (plE l k)] false]
  have s5:∀ x,(K ++ x)[H1.length]? = some (.cells [m,.int .i64 (at':Int),.int .i64 0] false):=fun x => by rw [GL (by omega)];exact d5
  have s4:∀ x,(K ++ x)[h.length]? = some (.cells [.int .i64 0,.int .i64 0] false):=fun x => by rw [GL (by omega)];exact d4
  have g4:∀ x y,((K ++ x).set h.length y)[h.length]? = some y:=fun x y => Bq (by simp;omega)
  have a9:h.length ≤ K.length:=by omega
  generalize plE l (k:Int) = e at *
  generalize plA l (k:Int) = ar at *
  simp only []
  by_cases v:e < 0
  ·rw [if_pos v,if_pos v]
   (repeat' simp -dsimp (disch:=omega) only [↓EA,EB,Nat.reduceEqDiff,Nat.reduceAdd,↓reduceIte,reduceCtorEq,Ab,eq_self, *])
  ·rw [if_neg v,if_neg v]
   have aa:=q3 (by omega)
   (repeat' simp -dsimp (disch:=omega) only [↓EA,EB,Nat.reduceEqDiff,Nat.reduceAdd,Nat.reduceLeDiff,↓reduceIte,reduceCtorEq,Ab,eq_self, *,r.ixs,r.ld,Du,hdJ])
end Go.L.Try
namespace Go.L.Try
open Go Go.L
variable {E:Env} {G:Nat}
theorem Alj (hE:As E) (hZ:G6 E G) {h:Aa} (ht:Tab G h) {vl:Value} {l:List Ac} (hl:Rd 7 Ar h vl l) (hs:∀ t ∈ l,t.name.size < 1152921504606846976) (f:Fit l) (i:Int) :
  callW E (.func (.func Ek) #[] #[]) [vl,.int .i64 i] h = some (.bool true,h,[]):=by
 refine Ak hE.Ahw rfl (by simp) ?_
 have a4:=hl.cv
 have a2:=hl.one
 have q1:=Apl hE hZ ht hl hs f i
 have q2:=Aya hE hl hs f i
 simp only [Ai]
 (repeat' simp -dsimp (disch:=omega) only [↓EA,EB,Nat.reduceEqDiff,Nat.reduceAdd,↓reduceIte,reduceCtorEq,Ab,eq_self, *])
 refine Gi (Ar9 hE hZ (ht.app _) (hl.app _) hs f i) fun v1 j r1 y => ?_
 obtain ⟨p,rfl,a⟩:=(by
  obtain ⟨vs,rfl,u⟩:=r1
  rcases u with _ | ⟨a,_ | ⟨c,_ | ⟨rc,_ | _⟩⟩⟩
  subst c;subst rc
  exact ⟨_,rfl,a⟩:∃ p,v1 = .tuple #[p,.int .i64 (plE l i),.bool (decide (0 ≤ plE l i))] ∧ RdM (h ++ [LObj.cells [.int .i64 (bdR l i),.int .i64 (bdX l i)] false]).length 3 Nt (h ++ [LObj.cells [.int .i64 (bdR l i),.int .i64 (bdX l i)] false] ++ j) p (plL l i))
 have d0:(h ++ [LObj.cells [.int .i64 (bdR l i),.int .i64 (bdX l i)] false] ++ j)[h.length]? = some (.cells [.int .i64 (bdR l i),.int .i64 (bdX l i)] false):=y _ _ (by rw [Bh];rfl)
 have rl:=hl.pre ((Pre.app h _).trans y)
 have na:=Rd.nt a.1
 have oa:=a.1.one
 have ca:=a.1.cv
 have dl:h.length + 1 ≤ (h ++ [LObj.cells [.int .i64 (bdR l i),.int .i64 (bdX l i)] false] ++ j).length:=by simp
 have g:=a.1
 clear r1 y a q1 q2
 generalize h ++ [LObj.cells [.int .i64 (bdR l i),.int .i64 (bdX l i)] false] ++ j = K at *
 (repeat' simp -dsimp (disch:=omega) only [↓EA,EB,Nat.reduceEqDiff,↓reduceIte,reduceCtorEq,eq_self, *])
 refine Gi (Asu hE rl hs f i) fun v2 d z o => ?_
 obtain ⟨m,rfl,c⟩:=(by
  obtain ⟨vs,rfl,u⟩:=z
  rcases u with _ | ⟨a,_ | ⟨c,_ | _⟩⟩
  subst c
  exact ⟨_,rfl,a⟩:∃ m,v2 = .agg #[m,.int .i64 (plE l i)] ∧ RdM K.length 3 Nt (K ++ d) m (plL l i))
 have d1:=o _ _ d0
 have n:=g.pre o
 have ob:=c.1.one
 have cb:=c.1.cv
 have s:=c.1
 have a3:h.length + 1 ≤ (K ++ d).length:=by simp;omega
 clear z o c g rl d0
 generalize K ++ d = M at *
 have v:=fun x => Az5 hE (n.app x) (s.app x)
 rw [decide_eq_true rfl] at v
 have a1:∀ x,(M ++ x)[h.length]? = some (.cells [.int .i64 (bdR l i),.int .i64 (bdX l i)] false):=fun x => by rw [GL (by omega)];exact d1
 generalize plE l i = e at *
 generalize bdR l i = r at *
 generalize bdX l i = x at *
 have a0:h.length ≤ M.length:=by omega
 by_cases h0:0 ≤ e
 ·rw [decide_eq_true h0]
  (repeat' simp -dsimp (disch:=omega) only [↓EA,EB,Nat.reduceEqDiff,Nat.reduceAdd,↓reduceIte,reduceCtorEq,Ab,eq_self, *])
 ·rw [decide_eq_false h0]
  (repeat' simp -dsimp (disch:=omega) only [↓EA,EB,Nat.reduceEqDiff,Nat.reduceAdd,↓reduceIte,reduceCtorEq,Ab,eq_self, *])
theorem Asl (hE:As E) (h:Aa) (x n:Int) (hn:0 < n) (hn':n < 4611686018427387904):callW E (.func (.func H5) #[] #[]) [.int .i64 x,.int .i64 n] h = some (.int .i64 (x % n),h,[]):=by
 have a:=Kw x n hn
 refine Ak hE.Akm rfl (by simp) ?_
 simp -dsimp (disch:=omega) only [↓EA,EB,Nat.reduceEqDiff,↓reduceIte,reduceCtorEq,eq_self,Ai,Als x n hn]
theorem Ar8 (hE:As E) (hZ:G6 E G) {h:Aa} (ht:Tab G h) (ha:callW E (.func (.func Cv) #[] #[]) [] h = some (.bool true,h,[])) {vl vr:Value} {l:List Spec} {raw:List Ac} (hl:Rd 5 Xv h vl l) (hr:Rd 7 Ar h vr raw) (hs:∀ t ∈ raw,t.name.size < 1152921504606846976) {turn:Int} (hturn:Mw turn) :
  callW E (.func (.func H7) #[] #[]) [vl,vr,.int .i64 turn] h = some (.bool true,h,[]):=by
 refine Ak hE.R5 rfl (by simp) ?_
 simp only [Ai]
 have few:=hr.few
 (repeat' simp -dsimp (disch:=omega) only [↓EA,EB,Nat.reduceEqDiff,Nat.reduceAdd,↓reduceIte,reduceCtorEq,eq_self, *])
 refine WO.loop (fun (n:Nat) fr h' => Pre h h' ∧ n ≤ raw.length ∧ n ≤ 4 ∧ get fr 0 = vl ∧ get fr 1 = vr ∧ get fr 2 = .int .i64 turn ∧ get fr 7 = .bool true ∧ get fr 9 = .int .i64 n ∧ OwnT h.length 7 Ar h' (get fr 8) ((raw.take n).map Po)) (fun n => raw.length - n) ?_ 0 ⟨Pre.refl _,Nat.zero_le _,by omega,rfl,rfl,rfl,rfl,rfl,OwnT.nil⟩
 rintro n fr h' ⟨z,hn,al,g0,g1,g2,g7,g9,o⟩
 generalize hvo:get fr 8 = vo at o
 unfold L7
 have c:=hr.pre z
 have aa:=z.le
 by_cases e:n < raw.length ∧ n < 4
 ·obtain ⟨e,a5⟩:=e
  have b1:=Kw (atI raw (n:Int)).C 40 (by decide)
  have ae:((raw.take n).map Po).length ≤ 4:=by rw [List.length_map,List.length_take];omega
  have g:=Hid.mk (show (raw.take (n + 1)).map Po = (raw.take n).map Po ++ [Po (atI raw (n:Int))] by rw [Go.L.take_snoc e,List.map_append];rfl)
  have Ho:=Hid.mk o
  have oo:=o.rd.one
  have oc:=o.rd.cv
  clear o
  have a7:(n:Int) < raw.length:=by omega
  have a4:(n:Int) < 4:=by omega
  (repeat' simp -dsimp (disch:=omega) only [↓EA,EB,Nat.reduceEqDiff,Nat.reduceAdd,Nat.reduceLeDiff,Nat.reduceMul,↓reduceIte,reduceCtorEq,Ab,Q7,eq_self, *,c.len,c.ixs,c.lda,Ar])
  refine Adx (sz:=7) (bytes:=64) (Ho.out.app _) (z.app' _) (Nat.le_refl _) (by simp;omega) (fun b hb => hb) (Po (atI raw (n:Int))) (by simp -dsimp (disch:=omega) only [EB,Nat.reduceAdd,Nat.reduceMul,↓reduceIte];rfl) rfl (by decide) (by decide) (by omega) ?_
  intro v2 h2 k1 k2 k3 k4 k5
  clear k5
  (repeat' simp -dsimp (disch:=omega) only [↓EA,EB,Nat.reduceEqDiff,↓reduceIte,reduceCtorEq,eq_self, *])
  refine Next.mk (n + 1) ⟨k2,by omega,by omega,rfl,rfl,rfl,rfl,rfl,?_⟩ (by omega)
  rw [g.out];exact k1
 ·have a6:¬ ((n:Int) < raw.length ∧ (n:Int) < 4):=fun h => e ⟨by omega,by omega⟩
  have rv:=o.rd
  have a2:∀ t ∈ (raw.take n).map Po,t.name.size < 1152921504606846976:=fun t ht => by
   obtain ⟨u,hu,rfl⟩:=List.mem_map.1 ht
   exact hs u (List.mem_of_mem_take hu)
  have a3:Fit ((raw.take n).map Po):=⟨by rw [List.length_map,List.length_take];omega,fun t ht => by
   obtain ⟨u,hu,rfl⟩:=List.mem_map.1 ht
   have:=Kw u.T 40 (by decide)
   show u.T.tmod 40 ≤ 40
   omega⟩
  have ah:=rv.one
  have a8:=rv.cv
  have a:=Afu l (most:=6) (turn:=turn) (by decide)
  have d:∀ t ∈ Of l 6 turn,t.name.size < 1152921504606846976:=fun t ht => by have:=(Zi (l:=l) (most:=6) (turn:=turn) (t:=t) (by decide) (by decide) ht).name;omega
  have f:Fit (Of l 6 turn):=⟨by omega,fun t ht => by have:=(Zi (l:=l) (most:=6) (turn:=turn) (t:=t) (by decide) (by decide) ht).T;omega⟩
  have s:=hl.pre z
  have m:=ht.pre z
  generalize (raw.take n).map Po = sm at *
  have g:=Hid.mk (Az3 hE s (most:=6) (by decide) (by decide) hturn)
  have j:=Hid.mk (AI a (AI d f))
  have y:=fun x => Asl hE x turn 6 (by decide) (by decide)
  have a1:0 ≤ turn % 6 ∧ turn % 6 < 6:=⟨Int.emod_nonneg _ (by decide),Int.emod_lt_of_pos _ (by decide)⟩
  clear o a d e f
  (repeat' (first | (with_reducible refine A1 (fun _ => ?_) (fun _ => ?_) <;> try (exfalso;omega)) | (with_reducible refine A3 (fun _ => ?_) (fun _ => ?_) <;> try (exfalso;omega)) | simp -dsimp (disch:=omega) only [↓EA,EB,Nat.reduceEqDiff,↓reduceIte,reduceCtorEq,eq_self, *,c.len]))
  all_goals
   refine Gi g.out fun v ys r p => ?_
   obtain ⟨a,d,f⟩:=j.out
   have m1:=fun i => Alj hE hZ (m.pre p) r.rd d f i
   have m3:=fun i => Alj hE hZ (m.pre p) (rv.pre p) a2 a3 i
   have m2:=Asl hE (h' ++ ys) turn ((Of l 6 turn).length + 2) (by omega) (by omega)
   have m4:=y (h' ++ ys)
   have aj:=r.rd.len
   have ad:=r.rd.one
   have ak:=r.rd.cv
   have a0:0 ≤ turn % ((Of l 6 turn).length + 2) ∧ turn % ((Of l 6 turn).length + 2) < (Of l 6 turn).length + 2:=⟨Int.emod_nonneg _ (by omega),Int.emod_lt_of_pos _ (by omega)⟩
   obtain ⟨ac,ab⟩:=a1
   obtain ⟨ag,af⟩:=a0
   obtain ⟨a9,ai⟩:=a
   clear r p d f y g j rv m s c
   generalize h' ++ ys = K at *
   generalize (Of l 6 turn).length = N6 at *
   generalize turn % ((N6:Int) + 2) = t7 at *
   generalize turn % 6 = t6 at *
   (repeat' simp -dsimp (disch:=omega) only [↓EA,EB,Nat.reduceEqDiff,↓reduceIte,reduceCtorEq,eq_self, *])
end Go.L.Try
