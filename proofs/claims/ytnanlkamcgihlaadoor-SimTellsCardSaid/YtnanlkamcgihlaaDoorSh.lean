/- THE LOGICAL MACHINE AND THE MODEL: loops over functions; code, whole. -/
import Derived.Test.YtnanlkamcgihlaaDoorSg
set_option linter.unusedVariables false
set_option linter.unusedSimpArgs false
namespace Go.L
open Go
variable {P:Program}
section
variable {F:Fence} {n:Nat} {cf:A0} {sz:Nat}
theorem Ans {n0:Nat} {x:Code} {K:Fr → Aa → Out} (hx:Su F n P n0 x K sz) (hK:Nn K):∀ (k:Nat) (Q:Exit → Act → World → Prop) {ι : Inj} {h:Aa} {w:World} {fr:Fr} {a:Act} {e:Ex} {fr':Fr} {h':Aa} {ws:List Nat},
  Gt k K fr h = some (e,fr',h',ws) → Sim P ι h w → FFR ι sz (get fr) a.tmps → Marks n0 w a.defers → n0 ≤ w.heap.size → InR F ι h ws →
  (∀ ι' a' w',St P ι h w ι' h' w' → Old ι h ι' → FFR ι' sz (get fr') a'.tmps → Marks n0 w' a'.defers → Q (Au3 e) a' w') → Afb F n P x Q a w
 | 0,Q,ι,h,w,fr,a,e,fr',h',ws,hv,hs,hf,hm,hn,hi,hq => by simp [Gt] at hv
 | k + 1,Q,ι,h,w,fr,a,e,fr',h',ws,hv,hs,hf,hm,hn,hi,hq => by
  refine Aen ?_
  simp only [Gt,Ew] at hv
  split at hv
  ·rename_i l r j c
   split at hv
   ·rename_i p m h2 o f
    simp only [OI,Prod.mk.injEq] at hv
    obtain ⟨rfl,rfl,rfl,rfl⟩:=hv
    have g:=hK _ _ _ _ _ _ c
    refine hx _ c hs hf hm hn hi.left fun ι1 a1 w1 st1 old1 hf1 hm1 => ?_
    exact Ans hx hK k Q f st1.sim hf1 hm1 (Nat.le_trans hn st1.size) (hi.right g st1.sub) fun ι2 a2 w2 st2 old2 hf2 hm2 => hq ι2 a2 w2 (st1.trans st2) (old1.trans g.len old2) hf2 hm2
   ·cases hv
  ·rename_i d
   refine hx _ hv hs hf hm hn hi fun ι1 a1 w1 st1 old1 hf1 hm1 => ?_
   cases e with
   | normal => exact absurd hv (d _ _ _)
   | exit id => exact hq ι1 a1 w1 st1 old1 hf1 hm1
   | ret => exact hq ι1 a1 w1 st1 old1 hf1 hm1
theorem Apu (F:Fence) (fn:FuncId) (tmps:Array Value) (ps:Array Tmp) (assign body:Code) {ι : Inj} {h:Aa} {w:World} {ws:List Nat} (hs:Sim P ι h w) (hi:InR F ι h ws) :
  ∃ mark w0 df,(Instr.enterLoop fn tmps ps assign body F.round).run P w = .ok (w0.heap.size,mark) (w0.alloc (.loop { state:=.ready,pending:=none,fn,tmps,params:=ps,assign,body,defers:=df })) ∧
   St P ι h w ι h w0 ∧ (∀ n0 ds,n0 ≤ w.heap.size → Marks n0 w ds → Marks n0 w0 (mark ++ ds)):=by
 cases e:F.round with
 | none =>
  refine ⟨[{ target:=.collected w.heap.size,args:=#[] }],w.alloc (.deferred (some [])),w.heap.size,?_,St.garbage hs _,fun n0 ds o a => ?_⟩
  ·rw [run_enterLoop_outer]
   simp [World.size_alloc]
  ·refine ⟨⟨w.heap.size,rfl,Ms,o,fun d hd j => ?_⟩,a.step hs (St.garbage hs _)⟩
   have lt:∀ {ds:List Deferred},Marks n0 w ds → ∀ d ∈ ds,∀ r,d.target = .collected r → r < w.heap.size:=by
    intro ds
    induction ds with
    | nil => intro _ d hd;cases hd
    | cons x ds ih =>
     intro a d hd r e
     rcases List.mem_cons.1 hd with rfl | hd
     ·obtain ⟨⟨s,g,h2,_⟩,_⟩:=a
      rw [g] at e;cases e
      exact (Array.getElem?_eq_some_iff.1 h2).1
     ·exact ih a.2 d hd r e
   exact Nat.lt_irrefl _ (lt a d hd _ j)
 | some lr =>
  obtain ⟨l,r,m,g,h2,n,_⟩:=hi lr e
  obtain ⟨p,f,c⟩:=hs.obj l _ g (by simp)
  rw [h2] at f;cases f
  cases c with
  | @loop _ _ R hw h5 h6 h7 h8 h9 h10 =>
   rw [n] at hw
   refine ⟨[],w,R.defers,?_,St.refl hs,fun n0 ds _ a => a⟩
   unfold Instr.enterLoop
   simp only [Sem.run_bind,run_getLoop hw,run_newObj_alloc,Result.andThen,Sem.run_pure]
theorem Ast {lo:Bool} (hW:Wide F) (hcf:Ku P cf) (hk:Wc cf) {n0:Nat} {g:Operand} {gx:X} {ps:Array Tmp} {assign body:Code} {ca cb:C} (hg:cX g = some gx) (ha:J4 P lo sz assign = some (Eu ca)) (hb:J4 P lo sz body = some (Eu cb)) :
  Su F n P n0 (.rangeFunc g ps assign body) (fun fr h => Ez h fr (Ie cf (ev (get fr) gx) [.func (.yield h.length) #[] #[]] (h ++ [.loop { state:=.ready,pending:=none,fr,sz,params:=ps.toList,assign:=ca,body:=cb }]))) sz:=by
 intro Q ι h w fr a e fr' h' ws hv hs hf hm hn hir hq
 simp only [Ez] at hv
 split at hv
 ·rename_i vr h2 af hc
  have ao:∃ f0 a0 b0,ev (get fr) gx = .func (.func f0) a0 b0 ∧ cf (ev (get fr) gx) [.func (.yield h.length) #[] #[]] (h ++ [.loop { state:=.ready,pending:=none,fr,sz,params:=ps.toList,assign:=ca,body:=cb }]) = some (vr,h2,af):=by
   unfold Ie at hc
   split at hc
   ·rename_i f0 a0 b0 eg;exact ⟨f0,a0,b0,eg,by rw [eg];exact hc⟩
   ·cases hc
  obtain ⟨f0,a0,b0,eg,s⟩:=ao
  split at hv
  ·rename_i r2 ag
   split at hv
   ·cases hv
   ·rename_i a3
    split at hv
    ·rename_i vg ar au hgc
     refine wpIn_rangeFunc fun fn _ => ?_
     obtain ⟨f,r,df,v,a8,u⟩:=Apu F fn a.tmps ps assign body hs hir
     have ab:ObjR P (ι.put h.length ⟨r.heap.size,0,0⟩) (r.alloc (.loop { state:=.ready,pending:=none,fn,tmps:=a.tmps,params:=ps,assign,body,defers:=df })) ⟨r.heap.size,0,0⟩
       (.loop { state:=.ready,pending:=none,fr,sz,params:=ps.toList,assign:=ca,body:=cb }) :=
      .loop Ms rfl rfl rfl (hf.mono (Inj.put_sub (hs.dom _ (Nat.le_refl _)) _)) ha hb
     have a5:=St.push (P:=P) (m:=⟨r.heap.size,0,0⟩) (o:=.loop { state:=.ready,pending:=none,fr,sz,params:=ps.toList,assign:=ca,body:=cb }) a8.sim rfl (fun _ => ab)
     have a2:=a8.trans a5
     have rg:=(Av hf hg).mono a2.sub
     obtain ⟨d,hd,aj⟩:=hcf _ _ _ _ _ _ s F (n - 1) hW _ _ (a.eval g) [.func (.yield r.heap.size) #[] #[]] a5.sim rg
      (.cons (VR.yield (l:=h.length) (m:=⟨r.heap.size,0,0⟩) (Inj.put_same _ _ _) (a:=[]) (b:=[]) .nil .nil) .nil)
     rcases aj with (⟨fe,as,a9,y⟩ | ⟨⟨_,_,_,hy⟩,_⟩) | ⟨an,_⟩
     ·refine ⟨r.heap.size,f,_,d,_,fe,as,_,v,?_,fun f' _ => hW.fn f',a9,(fun hh => by rw [hW.depth] at hh;cases hh),y.mono fun en w' ah => ?_⟩
      ·simp only [resolve,rangeCall]
       simpa [Act.eval] using hd
      ·obtain ⟨ι2,v',rfl,x,a1,av⟩:=ah
       have ak:h.length < (h ++ [LObj.loop { state:=.ready,pending:=none,fr,sz,params:=ps.toList,assign:=ca,body:=cb }]).length:=by simp
       obtain ⟨m2,a7,a6⟩:=x.sim.obj h.length _ ag (by simp)
       have ai:m2 = ⟨r.heap.size,0,0⟩:=by
        rw [a1 _ ak,Inj.put_same] at a7;cases a7;rfl
       subst ai
       cases a6 with
       | loop hw hst hp hps hfr hca hcb =>
        rename_i R2
        have al:R2.state ≠ .busy:=by rw [hst];intro h;exact a3 h
        have ad:=run_endLoop (P:=P) hw al
        have aq:=(Array.getElem?_eq_some_iff.1 hw).1
        have ac:=St.write (P:=P) (o':=.dead) x.sim ag rfl a7 (w':=w'.putObj r.heap.size (.loop { R2 with state:=.exhausted })) (by simp) (fun rb ap => World.putObj_heap_other ap) rfl rfl rfl (fun hh => absurd rfl hh) (.inr rfl)
        have a4:=a2.trans (x.trans ac)
        have z:Old ι h ι2:=fun b hb => (a1 b (by omega)).trans (Old.put ι h _ b hb)
        have ae:Keeps h.length h (h2.set h.length .dead) af:=by
         have k0:=Keeps.push (Nat.le_refl h.length) [LObj.loop { state:=.ready,pending:=none,fr,sz,params:=ps.toList,assign:=ca,body:=cb }] []
         have k1:=k0.trans ((hk.keep _ _ _ _ _ _ s).less (by simp))
         simpa using k1.trans (Keeps.set_high (Nat.le_refl _) LObj.dead [])
        obtain ⟨ι3,p,t,_⟩:=Auw hs a4 z ae VR.undef hgc
        have aa:Marks n0 (w'.putObj r.heap.size (.loop { R2 with state:=.exhausted })) (f ++ a.defers) :=
         (u n0 _ hn hm).step a8.sim (a5.trans (x.trans ac))
        refine ⟨R2.pending,_,ad,?_⟩
        suffices key:∀ pj:Option Code,pj = r2.pending.map W9 → (match (generalizing:=false) pj with
          | none => Q .normal { a with defers:=f ++ a.defers } (w'.putObj r.heap.size (.loop { R2 with state:=.exhausted }))
          | some c => c.wpIn F n P Q { a with defers:=f ++ a.defers } (w'.putObj r.heap.size (.loop { R2 with state:=.exhausted }))) from key _ hp
        intro pj am
        subst am
        cases hpd:r2.pending with
        | none =>
         rw [hpd] at hv
         simp only [OI,Prod.mk.injEq] at hv;obtain ⟨rfl,rfl,rfl,rfl⟩:=hv
         exact hq ι3 _ _ p t (hf.mono p.sub) aa
        | some j =>
         rw [hpd] at hv
         cases j with
         | none =>
          simp only [OI,Prod.mk.injEq] at hv;obtain ⟨rfl,rfl,rfl,rfl⟩:=hv
          exact wpIn_ret (hq ι3 _ _ p t (hf.mono p.sub) aa)
         | some id =>
          simp only [OI,Prod.mk.injEq] at hv;obtain ⟨rfl,rfl,rfl,rfl⟩:=hv
          exact wpIn_exit (hq ι3 _ _ p t (hf.mono p.sub) aa)
     ·rw [eg] at hy;cases hy
     ·exact absurd (List.mem_singleton.2 rfl) (an h.length #[] #[])
    ·cases hv
  ·cases hv
 ·cases hv
theorem H9 {lo:Bool} (hW:Wide F) (hcf:Ku P cf) (hk:Wc cf) (hmix:P.follows .mixedOrders = true) (n0 k:Nat):∀ (g:Code) (c:C),J4 P lo sz g = some (Eu c) → Su F n P n0 g (code cf (Gt k) sz c) sz
 | .skip,c,d => by
  simp only [J4,OI] at d
  rw [Adr d.symm]
  intro Q ι h w fr a e fr' h' ws hv hs hf hm hn f hq
  simp only [code,OI,Prod.mk.injEq] at hv;obtain ⟨rfl,rfl,rfl,rfl⟩:=hv
  exact wpIn_skip (hq ι a w (St.refl hs) (Old.refl _ _) hf hm)
 | .label l,c,d => by
  simp only [J4,OI] at d
  rw [Adr d.symm]
  intro Q ι h w fr a e fr' h' ws hv hs hf hm hn f hq
  simp only [code,OI,Prod.mk.injEq] at hv;obtain ⟨rfl,rfl,rfl,rfl⟩:=hv
  exact wpIn_label (hq ι a w (St.refl hs) (Old.refl _ _) hf hm)
 | .scope b,c,d => by
  simp only [J4] at d
  intro Q ι h w fr a e fr' h' ws hv hs hf hm hn f hq
  refine Ajj (H9 hW hcf hk hmix n0 k b c d _ hv hs hf hm hn f fun ι' a' w' st old hf' hm' => ?_)
  have:=hq ι' a' w' st old hf' hm'
  cases e <;> exact this
 | .region id ops draw,c,d => by
  simp only [J4,OB] at d
  obtain ⟨a4,f,d⟩:=d
  cases draw with
  | true =>
   simp only [if_true,OM] at d
   obtain ⟨⟨nn,r⟩,hd,d⟩:=d
   obtain ⟨l,rfl⟩:=Av2 d.symm
   exact Au9 hW hcf hk hmix f hd l
  | false =>
   simp only [Bool.false_eq_true,if_false,OI] at d
   obtain ⟨l,rfl⟩:=Av1 d.symm
   exact Apy hW hcf hk f l
 | .seq x y,c,d => by
  simp only [J4,OB,OM] at d
  obtain ⟨x',z,y',hy,d⟩:=d
  obtain ⟨u,cy,rfl,rfl,rfl⟩:=Avy d.symm
  exact Az4 (H9 hW hcf hk hmix n0 k x u z) (B5 hk.keep (fun K hK => F6 hK k) sz u) (H9 hW hcf hk hmix n0 k y cy hy)
 | .cond v x y,c,d => by
  simp only [J4,OB,OM] at d
  obtain ⟨v',a1,x',z,y',hy,d⟩:=d
  obtain ⟨u,cy,rfl,rfl,rfl⟩:=Aq3 d.symm
  intro Q ι h w fr a e fr' h' ws hv hs hf hm hn f hq
  simp only [code,Tv] at hv
  split at hv
  ·rename_i t et
   have hr:=Av hf a1
   rw [et] at hr
   refine wpIn_cond hr.bool_inv ?_
   cases t with
   | true => exact H9 hW hcf hk hmix n0 k x u z Q hv hs hf hm hn f hq
   | false => exact H9 hW hcf hk hmix n0 k y cy hy Q hv hs hf hm hn f hq
  ·cases hv
 | .block id b,c,d => by
  simp only [J4,OM] at d
  obtain ⟨b',o,d⟩:=d
  obtain ⟨m,rfl,rfl⟩:=Ala d.symm
  intro Q ι h w fr a e fr' h' ws hv hs hf hm hn f hq
  simp only [code,inBlock] at hv
  refine wpIn_block ?_
  split at hv
  ·rename_i j a3 h1 a2 p
   by_cases hj:j = id
   ·rw [if_pos hj] at hv
    simp only [OI,Prod.mk.injEq] at hv;obtain ⟨rfl,rfl,rfl,rfl⟩:=hv
    refine H9 hW hcf hk hmix n0 k b m o _ p hs hf hm hn f fun ι' a' w' st old hf' hm' => ?_
    simp only [Au3,Exit.inBlock,hj,if_true]
    exact hq ι' a' w' st old hf' hm'
   ·rw [if_neg hj] at hv
    simp only [OI,Prod.mk.injEq] at hv;obtain ⟨rfl,rfl,rfl,rfl⟩:=hv
    refine H9 hW hcf hk hmix n0 k b m o _ p hs hf hm hn f fun ι' a' w' st old hf' hm' => ?_
    simp only [Au3,Exit.inBlock,hj,if_false]
    exact hq ι' a' w' st old hf' hm'
  ·rename_i a0
   refine H9 hW hcf hk hmix n0 k b m o _ hv hs hf hm hn f fun ι' a' w' st old hf' hm' => ?_
   have:=hq ι' a' w' st old hf' hm'
   cases e with
   | exit j => exact absurd hv (a0 _ _ _ _)
   | normal => exact this
   | ret => exact this
 | .loop b,c,d => by
  simp only [J4,OM] at d
  obtain ⟨b',o,d⟩:=d
  obtain ⟨m,rfl,rfl⟩:=Aq1 d.symm
  intro Q ι h w fr a e fr' h' ws hv hs hf hm hn f hq
  exact Aff (Ans (H9 hW hcf hk hmix n0 k b m o) (B5 hk.keep (fun K hK => F6 hK k) sz m) k Q hv hs hf hm hn f hq)
 | .exit id,c,d => by
  simp only [J4,OI] at d
  rw [Aq2 d.symm]
  intro Q ι h w fr a e fr' h' ws hv hs hf hm hn f hq
  simp only [code,OI,Prod.mk.injEq] at hv;obtain ⟨rfl,rfl,rfl,rfl⟩:=hv
  exact wpIn_exit (hq ι a w (St.refl hs) (Old.refl _ _) hf hm)
 | .ret,c,d => by
  simp only [J4,OI] at d
  rw [Av0 d.symm]
  intro Q ι h w fr a e fr' h' ws hv hs hf hm hn f hq
  simp only [code,OI,Prod.mk.injEq] at hv;obtain ⟨rfl,rfl,rfl,rfl⟩:=hv
  exact wpIn_ret (hq ι a w (St.refl hs) (Old.refl _ _) hf hm)
 | .rangeFunc g ps x y,c,d => by
  simp only [J4,OB,OM] at d
  obtain ⟨g',hg,x',z,y',hy,d⟩:=d
  obtain ⟨u,cy,rfl,rfl,rfl⟩:=Avz d.symm
  exact Ast hW hcf hk hg z hy
 | .goto l,c,d => by simp [J4] at d
 | .refuse s,c,d => by simp [J4] at d
end
end Go.L
namespace Go.L
open Go
variable {P:Program} {ι ι1:Inj} {h h1:Aa} {w w1:World}
theorem St.shut (st:St P ι h w ι1 h1 w1) {r:Nat} {ds:Option (List Deferred)} (hr:w1.heap[r]? = some (.deferred ds)) (hge:w.heap.size ≤ r):St P ι h w ι1 h1 (w1.putObj r (.deferred none)):=by
 refine ⟨st.sub,⟨st.sim.dom,fun b o j l => ?_,st.sim.glob,st.sim.inj⟩,by simpa using st.size,st.os,st.tape,st.output,fun f n d => ?_,st.new⟩
 ·obtain ⟨m,g,c⟩:=st.sim.obj b o j l
  refine ⟨m,g,c.world (World.putObj_heap_other fun e => ?_)⟩
  subst e
  cases c with
  | cells a => rw [hr] at a;cases a
  | map a => rw [hr] at a;cases a
  | loop a => rw [hr] at a;cases a
  | bld a => rw [hr] at a;cases a
  | bytes a => rw [hr] at a;cases a
 ·rw [World.putObj_heap_other (by omega)];exact st.keep f n d
section
variable {F:Fence} {n:Nat} {cf:A0}
theorem T5 {fr:Fr} {tmps:Array Value} {sz:Nat} (hs:Sim P ι h w) (hf:FFR ι sz (get fr) tmps):∀ {rs:List ResultVar} {res:List R} {vs:List Value},rs.mapM (cR P) = some res → Kc fr h res = some vs →
  ∃ vs',(rs.mapM (m:=Sem) fun | .tmp t => pure (tmps.getD t undef) | .cell a t => do loadVar t (← asAddr (tmps.getD a undef))).run P w = .ok vs' w ∧ VRs ι vs vs'
 | [],res,vs,hr,hl => by
  simp at hr;subst hr
  simp [Kc] at hl;subst hl
  exact ⟨[],by simp,.nil⟩
 | r :: rs,res,vs,hr,hl => by
  simp only [List.mapM_cons,Option.bind_eq_bind,OB,Option.pure_def,OI] at hr
  obtain ⟨q,e,z,d,rfl⟩:=hr
  cases r with
  | tmp t =>
   simp only [cR,OI] at e;subst e
   simp only [Kc,OM] at hl
   obtain ⟨l,c,rfl⟩:=hl
   obtain ⟨vs',f,h2⟩:=T5 hs hf d c
   exact ⟨_,by simp only [List.mapM_cons,Sem.run_bind,Sem.run_pure,Result.andThen_ok,f],.cons (hf.at_ t) h2⟩
  | cell ad t =>
   simp only [cR,OM] at e
   obtain ⟨g,s,rfl⟩:=e
   simp only [Kc,OB,OM] at hl
   obtain ⟨v,u,l,c,rfl⟩:=hl
   obtain ⟨vs',f,h2⟩:=T5 hs hf d c
   obtain ⟨j,x,n,y,o⟩:=Xn hs s (hf.at_ ad) u
   refine ⟨x :: vs',?_,.cons o h2⟩
   have p:(asAddr (tmps.getD ad undef)).run P w = .ok j w:=by rw [n];rfl
   simp only [List.mapM_cons,Sem.run_bind,Sem.run_pure,Result.andThen_ok,f,p,y]
theorem Asm {vs vs':List Value} (h:VRs ι vs vs'):VR ι (Qx vs) (if h:vs'.toArray.size = 1 then vs'.toArray[0] else .tuple vs'.toArray):=by
 cases h with
 | nil => exact .tuple .nil
 | cons h1 h2 =>
  cases h2 with
  | nil => exact h1
  | cons h2 h3 => exact .tuple (.cons h1 (.cons h2 h3))
theorem Xm {fn:Func} {fr:Fr} {tmps:Array Value} {sz:Nat} (hs:Sim P ι h w) (hf:FFR ι sz (get fr) tmps) {res:List R} {vs:List Value} (hr:fn.results.toList.mapM (cR P) = some res) (hl:Kc fr h res = some vs) :
  ∃ vr,(results fn tmps).run P w = .ok vr w ∧ VR ι (Qx vs) vr:=by
 obtain ⟨d,c,h2⟩:=T5 hs hf hr hl
 refine ⟨_,?_,Asm h2⟩
 unfold results
 rw [Array.mapM_eq_mapM_toList]
 have a:∀ {α β : Type} (g:α → β) (x:Sem α) (y:α) (w':World),x.run P w = .ok y w' → (g <$> x).run P w = .ok (g y) w':=by
  intro α β g x y w' hx
  rw [map_eq_pure_bind]
  simp only [Sem.run_bind,hx,Result.andThen];rfl
 have e:=a List.toArray _ _ _ c
 rw [Sem.run_bind]
 exact Eq.trans (congrArg (fun x => Result.andThen x _) e) rfl
theorem Adu:∀ (l:List Value) (i s:Nat),get (Ai l i) s = if i ≤ s then (l[s - i]?).getD Kj else Kj
 | [],i,s => by simp [Ai,get]
 | v :: l,i,s => by
  simp only [Ai,get]
  by_cases e:s = i
  ·subst e;simp
  ·rw [if_neg e,Adu l (i + 1) s]
   by_cases a:i ≤ s
   ·rw [if_pos (by omega),if_pos a]
    have:s - i = (s - (i + 1)) + 1:=by omega
    rw [this];rfl
   ·rw [if_neg (by omega),if_neg a]
theorem Ai4 {sz:Nat} {args args':List Value} (ha:VRs ι args args') (hl:args.length ≤ sz):FFR ι sz (get (Ai args 0)) (args'.toArray ++ Array.replicate (sz - args'.toArray.size) undef):=by
 have d:=ha.length
 refine ⟨by simp;omega,fun s => ?_⟩
 rw [Adu]
 simp only [Nat.zero_le,if_true,Nat.sub_zero]
 cases hs:args[s]? with
 | none => exact .any _
 | some v =>
  obtain ⟨r,e,a⟩:=ha.at_ hs
  have c:s < args'.length:=(GI.1 e).1
  rw [Array.getD_eq_getD_getElem?,Array.getElem?_append_left (by simpa using c)]
  simp only [List.getElem?_toArray,e,Option.getD_some]
  exact a
theorem W8 {fn:Func} {tmps:Array Value} {R:Ending → World → Prop} {n0:Nat} (hn0:w.heap.size ≤ n0):∀ {ds:List Deferred} {w1:World},St P ι h w ι1 h1 w1 → Marks n0 w1 ds →
  (∀ w2,St P ι h w ι1 h1 w2 → ∃ v,(results fn tmps).run P w2 = .ok v w2 ∧ R (.returned v) w2) → LeavesInM F n P fn tmps R ds .returning w1
 | [],w1,st,_,hq => hq w1 st
 | d :: ds,w1,st,c,hq => by
  obtain ⟨⟨r,j,h2,u,o⟩,h5⟩:=c
  refine ⟨by simp,.inl ⟨r,w1.putObj r (.deferred none),j,run_takeDeferred h2,W8 hn0 (st.shut h2 (by omega)) ?_ hq⟩⟩
  have step:∀ {ds:List Deferred},Marks n0 w1 ds → (∀ f ∈ ds,f.target ≠ .collected r) → Marks n0 (w1.putObj r (.deferred none)) ds:=by
   intro ds
   induction ds with
   | nil => intro _ _;trivial
   | cons x ds ih =>
    intro c a
    obtain ⟨⟨t,l,m,p,s⟩,k5⟩:=c
    refine ⟨⟨t,l,?_,p,s⟩,ih k5 fun f g => a f (by simp [g])⟩
    rw [World.putObj_heap_other (fun e => a x (by simp) (by rw [l,e]))]
    exact m
  exact step h5 o
theorem Awl (hW:Wide F) (hcf:Ku P cf) (hk:Wc cf) (hmix:P.follows .mixedOrders = true) {f:FuncId} {c:FnC} (hc:FnC.of P f c) {k:Nat} {args args':List Value} {v:Value} {h':Aa} {ws:List Nat} (hv:Eo cf (Gt k) (.text c) args h = some (v,h',ws))
  (hs:Sim P ι h w) (ha:VRs ι args args'):CallsIn F n P f args'.toArray w (Ret P ι h w v h'):=by
 have a0:CallsIn { F with round:=none } n P f args'.toArray w (Ret P ι h w v h'):=by
  have a3:Wide { F with round:=none }:=⟨hW.fn,hW.depth,hW.alive⟩
  obtain ⟨lo,hc⟩:=hc
  simp only [OB] at hc
  obtain ⟨fn,a5,hc⟩:=hc
  unfold An8 at hc
  split at hc
  ·cases hc
  ·simp only [OB,OM] at hc
   obtain ⟨g,l,r,m,b,hb,hc⟩:=hc
   obtain ⟨aa,a9,d⟩:=c
   simp only [FnC.mk.injEq] at hc
   obtain ⟨rfl,rfl,rfl⟩:=hc
   simp only [Eo] at hv
   split at hv
   ·rename_i o
    refine callsIn_of_wp_marks a5 l (hW.fn f) ?_
    cases hx:code cf (Gt k) fn.ntmps d (Ai args 0) h with
    | none => rw [hx] at hv;cases hv
    | some p =>
     obtain ⟨e,u,s,y⟩:=p
     rw [hx] at hv
     have kk:=B5 hk.keep (fun K hK => F6 hK k) _ _ _ _ _ _ _ _ hx
     refine H9 a3 hcf hk hmix w.heap.size k g d hb _ hx hs (Ai4 ha o) trivial (Nat.le_refl _) (fun lr hl => by cases hl) fun ι1 a1 w1 st old hf1 hm1 => ?_
     have a2:∀ t,t ≠ Ex.normal → t ≠ Ex.ret → fin r h (some (t,u,s,y)) = none:=by
      intro t s h2;cases t <;> first | rfl | exact absurd rfl s | exact absurd rfl h2
     have ends:(∃ j,Kc u s r = some j ∧ gc h (Qx j) s y = some (v,h',ws)) → LeavesInM { F with round:=none } n P fn a1.tmps (Ret P ι h w v h') a1.defers .returning w1:=by
      rintro ⟨j,a,hg⟩
      refine W8 (Nat.le_refl _) st hm1 fun w2 x => ?_
      obtain ⟨vr,a6,a4⟩:=Xm x.sim hf1 m a
      obtain ⟨ι3,a8,z,a7⟩:=Auw hs x old kk a4 hg
      exact ⟨vr,a6,ι3,vr,rfl,a8,z,a7⟩
     cases e with
     | exit id => rw [a2 _ (by simp) (by simp)] at hv;cases hv
     | normal =>
      refine ends ?_
      simp only [fin] at hv
      split at hv
      ·rename_i j a;exact ⟨j,a,hv⟩
      ·cases hv
     | ret =>
      refine ends ?_
      simp only [fin] at hv
      split at hv
      ·rename_i j a;exact ⟨j,a,hv⟩
      ·cases hv
   ·cases hv
 exact a0
theorem Arv (hW:Wide F) (hcf:Ku P cf) (hk:Wc cf) (hmix:P.follows .mixedOrders = true) {f:FuncId} {c:FnC} (hc:FnC.of P f c) {k:Nat} {args args':List Value} {v:Value} {h':Aa} {ws:List Nat} (hv:Eo cf (Gt k) (.textK c) args h = some (v,h',ws))
  (hs:Sim P ι h w) (ha:VRs ι args args'):CallsIn F n P f args'.toArray w (Ret P ι h w v h'):=by
 have z:CallsIn { F with round:=none } n P f args'.toArray w (Ret P ι h w v h'):=by
  have a2:Wide { F with round:=none }:=⟨hW.fn,hW.depth,hW.alive⟩
  obtain ⟨lo,hc⟩:=hc
  simp only [OB] at hc
  obtain ⟨fn,a4,hc⟩:=hc
  unfold An8 at hc
  split at hc
  ·cases hc
  ·simp only [OB,OM] at hc
   obtain ⟨g,l,r,m,b,hb,hc⟩:=hc
   obtain ⟨a8,a7,d⟩:=c
   simp only [FnC.mk.injEq] at hc
   obtain ⟨rfl,rfl,rfl⟩:=hc
   simp only [Eo] at hv
   split at hv
   ·rename_i o
    refine callsIn_of_wp_marks a4 l (hW.fn f) ?_
    cases hx:code cf (Gt k) fn.ntmps d (Ai args 0) h with
    | none => rw [hx] at hv;cases hv
    | some p =>
     obtain ⟨e,t,s,y⟩:=p
     rw [hx] at hv
     have kk:=B5 hk.keep (fun K hK => F6 hK k) _ _ _ _ _ _ _ _ hx
     refine H9 a2 hcf hk hmix w.heap.size k g d hb _ hx hs (Ai4 ha o) trivial (Nat.le_refl _) (fun lr hl => by cases hl) fun ι1 a1 w1 st a6 hf1 hm1 => ?_
     have a0:∀ u,u ≠ Ex.normal → u ≠ Ex.ret → Sb r (some (u,t,s,y)) = none:=by
      intro u s h2;cases u <;> first | rfl | exact absurd rfl s | exact absurd rfl h2
     have ends:(∃ j,Kc t s r = some j ∧ some (Qx j,s,y) = some (v,h',ws)) → LeavesInM { F with round:=none } n P fn a1.tmps (Ret P ι h w v h') a1.defers .returning w1:=by
      rintro ⟨j,a,hg⟩
      refine W8 (Nat.le_refl _) st hm1 fun w2 x => ?_
      obtain ⟨vr,a5,a3⟩:=Xm x.sim hf1 m a
      simp only [OI,Prod.mk.injEq] at hg
      obtain ⟨rfl,rfl,rfl⟩:=hg
      exact ⟨vr,a5,ι1,vr,rfl,x,a6,a3⟩
     cases e with
     | exit id => rw [a0 _ (by simp) (by simp)] at hv;cases hv
     | normal =>
      refine ends ?_
      simp only [Sb] at hv
      split at hv
      ·rename_i j a;exact ⟨j,a,hv⟩
      ·cases hv
     | ret =>
      refine ends ?_
      simp only [Sb] at hv
      split at hv
      ·rename_i j a;exact ⟨j,a,hv⟩
      ·cases hv
   ·cases hv
 exact z
end
end Go.L
namespace Go.L
open Go
variable {P:Program} {ι ι1:Inj} {h h1:Aa} {w w1:World}
theorem A1x {h0 h h':Aa} {v v':Value} {ws ws':List Nat} (hv:gc h0 v h ws = some (v',h',ws')):∀ b ∈ ws',b ∈ ws:=by
 unfold gc at hv
 split at hv
 ·split at hv
  ·simp only [OI,Prod.mk.injEq] at hv;obtain ⟨_,_,rfl⟩:=hv;intro b a;cases a
  ·unfold Tb at hv
   simp only at hv
   split at hv <;> (simp only [OI,Prod.mk.injEq] at hv;obtain ⟨_,_,rfl⟩:=hv;intro b a;cases a)
 ·rename_i u d c
  have:∀ b ∈ u :: d,b ∈ ws:=fun b a => (List.mem_filter.1 (by rw [c];exact a)).1
  split at hv <;> (simp only [OI,Prod.mk.injEq] at hv;obtain ⟨_,_,rfl⟩:=hv;exact this)
section
variable {F:Fence} {n:Nat} {cf:A0}
theorem Aft {ι : Inj} {sz:Nat}:∀ {ts:List Nat} {vs vs':List Value} {fr fr':Fr} {tmps:Array Value},(∀ t ∈ ts,t < sz) → VRs ι vs vs' → FFR ι sz (get fr) tmps → setPs ts vs fr = some fr' →
  ts.length = vs.length ∧ FFR ι sz (get fr') ((ts.zip vs').foldl (fun tmps (x:Nat × Value) => tmps.setIfInBounds x.1 x.2) tmps)
 | [],[],vs',fr,fr',tmps,_,hv,c,hp => by
  simp only [setPs,OI] at hp;subst hp
  exact ⟨rfl,c⟩
 | t :: ts,v :: vs,_,fr,fr',tmps,ht,.cons (b:=r) (m:=vs') h1 h2,c,hp => by
  simp only [setPs] at hp
  have a:FFR ι sz (get ((t,v) :: fr)) (tmps.setIfInBounds t r):=c.put (ht t (by simp)) h1
  obtain ⟨d,f⟩:=Aft (fun x e => ht x (by simp [e])) h2 a hp
  exact ⟨by simp [d],f⟩
 | [],_ :: _,_,_,_,_,_,_,_,hp => by simp [setPs] at hp
 | _ :: _,[],_,_,_,_,_,_,_,hp => by simp [setPs] at hp
theorem Asj (hW:Wide F) (hcf:Ku P cf) (hk:Wc cf) (hmix:P.follows .mixedOrders = true) {k l:Nat} {args args':List Value} {v:Value} {h':Aa} {ws:List Nat} (hv:F8 cf (Gt k) l args h = some (v,h',ws))
  (hs:Sim P ι h w) (ha:VRs ι args args') {m:Img} (hm:ι l = some m) :
  ∃ fn tmps assign body,(Instr.yield m.rb args'.toArray).run P w = .ok (.round m.rb fn tmps assign body) w ∧ RoundIn F n P m.rb fn tmps assign body w (Ret P ι h w v h'):=by
 unfold F8 at hv
 split at hv <;> try (cases hv;done)
 rename_i r hl
 split at hv <;> try (cases hv;done)
 rename_i ah b2
 split at hv <;> try (cases hv;done)
 rename_i am
 split at hv <;> try (cases hv;done)
 rename_i fr b3
 split at hv <;> try (cases hv;done)
 rename_i b7 h1 ab ap
 split at hv <;> try (cases hv;done)
 rename_i e b6 h2 a4 aq
 split at hv <;> try (cases hv;done)
 rename_i f
 have ao:l ∉ ab:=fun hm => f (List.mem_append_left _ hm)
 have af:l ∉ a4:=fun hm => f (List.mem_append_right _ hm)
 have o:l < h.length:=(GI.1 hl).1
 have k1:=B5 hk.keep (fun K hK => F6 hK k) _ _ _ _ _ _ _ _ ap
 have k2:=B5 hk.keep (fun K hK => F6 hK k) _ _ _ _ _ _ _ _ aq
 simp only [List.length_set] at k2
 have ae:h1[l]? = some (.loop r):=(k1.at_ l o ao).trans hl
 have d:l < h1.length:=Nat.lt_of_lt_of_le o k1.len
 have a6:h2[l]? = some (.loop { r with state:=.busy }):=(k2.at_ l d af).trans (List.getElem?_set_self d)
 have ar:l < h2.length:=(GI.1 a6).1
 obtain ⟨m',as,ag⟩:=hs.obj l _ hl (by simp)
 rw [hm] at as;cases as
 cases ag with
 | @loop _ _ R hw gst gp gps gfr ga gb =>
  have a7:∀ t ∈ r.params,t < r.sz:=by
   intro t ht;simpa using List.all_eq_true.1 am t ht
  obtain ⟨aw,av⟩:=Aft a7 ha gfr b3
  have b4:args'.toArray.size = R.params.size:=by
   have:=ha.length
   have h3:R.params.size = r.params.length:=by rw [← gps];simp
   simp;omega
  refine ⟨R.fn,_,R.assign,R.body,run_yield hw b4,roundIn_of_wpIn (hW.fn _) ?_⟩
  have b1:FFR ι r.sz (get fr) ((R.params.zip args'.toArray).foldl (fun tmps (x:Tmp × Value) => tmps.setIfInBounds x.1 x.2) R.tmps):=by
   have:(R.params.zip args'.toArray).toList = r.params.zip args':=by rw [Array.toList_zip,gps]
   rw [← Array.foldl_toList,this];exact av
  have az:InR (F.inRound m.rb) ι h ab:=fun lr ad => by cases ad;exact ⟨l,r,m,hl,hm,rfl,ao⟩
  refine H9 (hW.inRound m.rb) hcf hk hmix 0 k R.assign r.assign ga _ ap hs b1 trivial (Nat.zero_le _) az fun ι1 a1 w1 st1 old1 hf1 hmk => ?_
  simp only [Au3,Exit.then]
  have s:ι1 l = some m:=st1.sub _ _ hm
  obtain ⟨m1,z,a9⟩:=st1.sim.obj l _ ae (by simp)
  rw [s] at z;cases z
  cases a9 with
  | @loop _ _ R1 hw1 gst1 gp1 gps1 gfr1 ga1 gb1 =>
   refine ⟨_,run_beginRound hw1 (by rw [gst1,ah]),?_⟩
   have au:=(Array.getElem?_eq_some_iff.1 hw1).1
   have a3:=St.write (P:=P) (o':=.loop { r with state:=.busy }) st1.sim ae rfl s (w':=w1.putObj m.rb (.loop { R1 with state:=.busy })) (by simp) (fun rb a => World.putObj_heap_other a) rfl rfl rfl
    (fun _ => .loop (World.putObj_heap_same au) rfl gp1 gps1 gfr1 ga1 gb1) (.inl rfl)
   have aj:InR (F.inRound m.rb) ι1 (h1.set l (.loop { r with state:=.busy })) a4:=fun lr ad => by
    cases ad
    exact ⟨l,_,m,List.getElem?_set_self d,s,rfl,af⟩
   refine H9 (hW.inRound m.rb) hcf hk hmix 0 k R.body r.body gb _ aq a3.sim hf1 (hmk.step st1.sim a3) (Nat.zero_le _) aj fun ι2 a2 w2 st2 old2 hf2 _ => ?_
   have an:ι2 l = some m:=st2.sub _ _ s
   obtain ⟨m2,a0,a8⟩:=st2.sim.obj l _ a6 (by simp)
   rw [an] at a0;cases a0
   cases a8 with
   | @loop _ _ R2 hw2 gst2 gp2 gps2 gfr2 ga2 gb2 =>
    have c:=(Array.getElem?_eq_some_iff.1 hw2).1
    have u:∀ ds,St P ι2 h2 w2 ι2 (h2.set l (.loop r)) (w2.putObj m.rb (.loop { R2 with state:=.ready,pending:=none,defers:=ds })):=fun ds =>
     St.write (P:=P) (o':=.loop r) st2.sim a6 rfl an (by simp) (fun rb a => World.putObj_heap_other a) rfl rfl rfl
      (fun _ => .loop (World.putObj_heap_same c) ah.symm (by rw [b2];rfl) gps2 gfr2 ga2 gb2) (.inl rfl)
    have ac:=(st1.trans a3).trans (st2.trans (u R2.defers))
    have p:Old ι h ι2:=fun b hb => (old2 b (by simp only [List.length_set];exact Nat.lt_of_lt_of_le hb k1.len)).trans (old1 b hb)
    have k3:Keeps h.length h (h2.set l (.loop r)) (ab ++ a4):=by
     refine ⟨by have:=k1.len;have:=k2.len;simp only [List.length_set] at *;omega,fun b hb hn => ?_⟩
     by_cases e:b = l
     ·subst e
      rw [List.getElem?_set_self ar,hl]
     ·rw [List.getElem?_set_ne (Ne.symm e),k2.at_ b (Nat.lt_of_lt_of_le hb k1.len) (fun hm => hn (List.mem_append_right _ hm)),List.getElem?_set_ne (Ne.symm e),k1.at_ b hb (fun hm => hn (List.mem_append_left _ hm))]
    unfold O1 at hv
    split at hv <;> try (cases hv;done)
    rename_i v3 h3 b5 hg
    obtain ⟨ι3,y,g,aa⟩:=Auw hs ac p k3 (VR.bool _) hg
    have kg:=Yr k3 hg
    have ai:h3[l]? = some (.loop r):=(kg.at_ l o fun hm => f (A1x hg l hm)).trans hl
    have al:ι3 l = some m:=(g l o).trans hm
    have done:∀ (j:Option Nat),Ki e = some j → ∃ v' w',(Instr.endRound m.rb (some (W9 j))).run P w2 = .ok v' w' ∧ Ret P ι h w v h' (.returned v') w':=by
     intro j hj
     rw [hj] at hv
     simp only [OI,Prod.mk.injEq] at hv
     obtain ⟨rfl,rfl,rfl⟩:=hv
     refine ⟨_,_,run_endRound (some (W9 j)) hw2,?_⟩
     have hb:(some (W9 j)).isNone = false:=rfl
     obtain ⟨m4,ak,a5⟩:=y.sim.obj l _ ai (by simp)
     rw [al] at ak;cases ak
     cases a5 with
     | @loop _ _ R4 hw4 gst4 gp4 gps4 gfr4 ga4 gb4 =>
      have b0:R4 = { R2 with state:=.ready,pending:=none,defers:=R2.defers }:=by
       have:(w2.putObj m.rb (.loop { R2 with state:=.ready,pending:=none,defers:=R2.defers })).heap[m.rb]? = some (.loop { R2 with state:=.ready,pending:=none,defers:=R2.defers }):=World.putObj_heap_same c
       rw [hw4] at this;simpa using this
      subst b0
      have ay:=St.write (P:=P) (o':=.loop { r with state:=.done,pending:=some j }) y.sim ai rfl al (w':=w2.putObj m.rb (.loop { R2 with state:=.done,pending:=some (W9 j) })) (by simp)
       (fun rb a => (World.putObj_heap_other a).trans (World.putObj_heap_other a).symm) rfl rfl rfl
       (fun _ => .loop (World.putObj_heap_same c) rfl rfl gps4 gfr4 ga4 gb4) (.inl rfl)
      refine ⟨ι3,_,rfl,y.trans ay,g,?_⟩
      rw [hb]
      have ax:(Ki e).isNone = false:=by rw [hj];rfl
      rw [ax] at aa
      exact aa
    cases e with
    | normal =>
     simp only [Ki,OI,Prod.mk.injEq] at hv
     obtain ⟨rfl,rfl,rfl⟩:=hv
     exact ⟨_,_,run_endRound none hw2,ι3,_,rfl,y,g,aa⟩
    | ret => exact done none rfl
    | exit id => exact done (some id) rfl
end
def Ao3 (P:Program) (f:FuncId) (e:List Value → Aa → Option (Value × Aa × List Nat)):Prop :=
 ∀ args h v h' ws,e args h = some (v,h',ws) → ∀ (F:Fence) (n:Nat),Wide F → ∀ (ι : Inj) (w:World) (args':List Value),Sim P ι h w → VRs ι args args' → CallsIn F n P f args'.toArray w (Ret P ι h w v h')
def A2u (P:Program) (f:FuncId) (e:List Value → Aa → Option (Value × Aa × List Nat)):Prop :=
 ∀ args h v h' ws,e args h = some (v,h',ws) → (∀ l0 a0 b0,Value.func (.yield l0) a0 b0 ∉ args) ∧ ∀ (ι : Inj) (w:World) (args':List Value),Sim P ι h w → VRs ι args args' → ∃ v' w',(callFunc f args'.toArray).run P w = .ok (.value v') w' ∧ Ret P ι h w v h' (.returned v') w'
theorem Wide.fenced {F:Fence} (hW:Wide F) (m:Machine):m.fenced P F:=by
 intro g _
 refine ⟨fun h => ?_,Or.inl (hW.fn _),fun _ _ => hW.fn _,fun _ h => ?_⟩
 ·rw [hW.alive] at h;cases h
 ·rw [hW.depth] at h;cases h
theorem Ak6 {F:Fence} {n:Nat} (hW:Wide F) {f:FuncId} {args:Array Value} {w:World} {R:Ending → World → Prop} (h:Calls P f args w R):CallsIn F n P f args w R :=
 ⟨hW.fn f,fun cs _ => let ⟨e,w',fr,r,s,x⟩:=h cs;⟨e,w',fr,r,(by
  cases e with
  | returned v => exact (StepsIn.of_steps s).mono fun m _ => hW.fenced m
  | panicked chain => exact (StepsIn.of_steps s).mono fun m _ => hW.fenced m
  | outgrown => exact s),x⟩⟩
structure Abn (P:Program) (E:Env):Prop where
 mix:P.follows .mixedOrders = true
 keep:No E
 dead:Ao5 E
 text:∀ f c,E f = .text c → FnC.of P f c
 textK:∀ f c,E f = .textK c → FnC.of P f c
 ext:∀ f e,E f = .ext e → (∃ fn,P.funcs[f]? = some fn ∧ fn.body.isNone = false ∧ (fn.name == "runtime.NumGoroutine") = false) ∧ Ao3 P f e ∨ A2u P f e
theorem Au6 {f:FuncId} {fn:Func} (hf:P.funcs[f]? = some fn) (hb:fn.body.isNone = false) (hn:(fn.name == "runtime.NumGoroutine") = false) (args:Array Value) (w:World):(callFunc f args).run P w = .ok (.enter f args) w:=by
 simp only [callFunc,Sem.run_bind,run_program,Result.andThen_ok,hf,hn,hb,Bool.false_eq_true,if_false,Sem.run_pure]
theorem Mm {f:FuncId} {c:FnC} (hc:FnC.of P f c) (args:Array Value) (w:World):(callFunc f args).run P w = .ok (.enter f args) w:=by
 obtain ⟨j,hc⟩:=hc
 simp only [OB] at hc
 obtain ⟨l,a,hc⟩:=hc
 unfold An8 at hc
 split at hc
 ·cases hc
 ·rename_i d
  simp only [OB] at hc
  obtain ⟨g,e,_⟩:=hc
  exact Au6 a (by rw [e];rfl) (by simpa using d) args w
theorem Aa8 {E:Env} (hE:Abn P E):∀ k,Ku P (C3 E k)
 | 0 => fun g args h v h' ws j => by simp [C3] at j
 | k + 1 => fun g args h v h' ws j F n hW ι w g' args' hs hg ha => by
  have ih:=Aa8 hE k
  have hk:Wc (C3 E k):=⟨Qa hE.keep k,Uq hE.dead k⟩
  simp only [C3,I9] at j
  split at j
  ·rename_i f first r
   obtain ⟨fl⟩:=first
   obtain ⟨cl⟩:=r
   obtain ⟨a,d,rfl,s,a1⟩:=hg.func_inv
   have o:VRs ι (fl ++ args ++ cl) (a ++ args' ++ d):=(s.append ha).append a1
   have e1:a.toArray ++ args'.toArray ++ d.toArray = (a ++ args' ++ d).toArray:=by apply Array.ext';simp
   refine ⟨{ target:=.fn (.func f) d.toArray,args:=a.toArray ++ args'.toArray },rfl,?_⟩
   have e2:invoke (.fn (.func f) d.toArray) (a.toArray ++ args'.toArray) = callFunc f (a ++ args' ++ d).toArray:=by rw [← e1];rfl
   simp only [e2]
   cases hE':E f with
   | none => rw [hE'] at j;cases j
   | text c =>
    rw [hE'] at j
    exact .inl (.inl ⟨f,_,Mm (hE.text f c hE') _ w,Awl hW ih hk hE.mix (hE.text f c hE') j hs o⟩)
   | textK c =>
    rw [hE'] at j
    exact .inl (.inl ⟨f,_,Mm (hE.textK f c hE') _ w,Arv hW ih hk hE.mix (hE.textK f c hE') j hs o⟩)
   | ext e =>
    rw [hE'] at j
    rcases hE.ext f e hE' with ⟨⟨fn,h1,h2,h3⟩,hx⟩ | hx
    ·exact .inl (.inl ⟨f,_,Au6 h1 h2 h3 _ w,hx _ _ _ _ _ j F n hW ι w _ hs o⟩)
    ·obtain ⟨a2,t⟩:=hx _ _ _ _ _ j
     exact .inr ⟨fun l0 a0 b0 hm => a2 l0 a0 b0 (by simp [hm]),t ι w _ hs o⟩
  ·rename_i l first r
   obtain ⟨fl⟩:=first
   obtain ⟨cl⟩:=r
   split at j
   ·rename_i x
    have z:cl = []:=by simpa using x
    subst z
    obtain ⟨m,a,d,hm,rfl,s,a1⟩:=hg.yield_inv
    obtain ⟨fn,u,p,y,h1,h2⟩:=Asj (F:=F) (n:=n) hW ih hk hE.mix j hs (s.append ha) hm
    refine ⟨{ target:=.fn (.yield m.rb) d.toArray,args:=a.toArray ++ args'.toArray },rfl,.inl (.inr ⟨⟨_,_,_,rfl⟩,m.rb,fn,u,p,y,?_,h2⟩)⟩
    have e1:a.toArray ++ args'.toArray = (a ++ args').toArray:=by apply Array.ext';simp
    show (Instr.yield m.rb (a.toArray ++ args'.toArray)).run P w = _
    rw [e1];exact h1
   ·cases j
  ·cases j
theorem Avp {E:Env} (hE:Abn P E):Ku P (callW E):=by
 intro g a h v h' d c
 obtain ⟨k,e⟩:=callW_some.1 c
 exact Aa8 hE k g a h v h' d e
end Go.L
namespace Go.L
open Go
variable {P:Program}
def LObj.readOnly:LObj → Bool
 | .cells _ true => true
 | .dead => true
 | _ => false
theorem Ay6 {ι : Inj} {h:Aa} (hr:h.all LObj.readOnly = true) (rb:Nat):¬ Wr ι h rb:=by
 rintro ⟨b,o,m,d,a,_,_⟩
 have:=List.all_eq_true.1 hr o (List.mem_of_getElem? d)
 cases o with
 | cells c ro => cases ro <;> simp [LObj.readOnly,LObj.wr] at this a
 | map es => simp [LObj.readOnly] at this
 | loop r => simp [LObj.readOnly] at this
 | bld r => simp [LObj.readOnly] at this
 | bytes r => simp [LObj.readOnly] at this
 | dead => simp [LObj.wr] at a
structure Awb (w w':World):Prop where
 size:w.heap.size ≤ w'.heap.size
 keep:∀ k,k < w.heap.size → w'.heap[k]? = w.heap[k]?
 os:w'.os = w.os
 tape:w'.tape = w.tape
 output:w'.output = w.output
theorem Aqa {E:Env} (hE:Abn P E) {f:FuncId} {c:FnC} (hf:E f = .text c) {h h':Aa} {args args':List Value} {b:Bool} {ws:List Nat} {ι : Inj} {w:World} (hro:h.all LObj.readOnly = true)
  (hv:callW E (.func (.func f) #[] #[]) args h = some (.bool b,h',ws)) (hs:Sim P ι h w) (ha:VRs ι args args'):Calls P f args'.toArray w fun e w' => e = .returned (.bool b) ∧ Awb w w':=by
 obtain ⟨d,p,j⟩:=Avp hE _ _ _ _ _ _ hv Fence.wide 0 ⟨fun _ => trivial,rfl,rfl⟩ ι w (.func (.func f) #[] #[]) args' hs (VR.func f (a:=[]) (b:=[]) .nil .nil) ha
 have m:d = { target:=.fn (.func f) #[],args:=#[] ++ args'.toArray }:=by
  have:(Deferred.ofValue (.func (.func f) #[] #[]) args'.toArray).run P w = .ok { target:=.fn (.func f) #[],args:=#[] ++ args'.toArray } w:=rfl
  rw [this] at p;simpa using p.symm
 subst m
 rcases j with (⟨u,s,n,h2⟩ | ⟨⟨_,_,_,x⟩,_⟩) | ⟨_,v,wr,n,_⟩
 ·have g:(callFunc f (#[] ++ args'.toArray ++ #[])).run P w = .ok (.enter u s) w:=n
  rw [Mm (hE.text f c hf)] at g
  simp only [Result.ok.injEq,Next.enter.injEq,and_true] at g
  obtain ⟨rfl,rfl⟩:=g
  have o:=callsIn_wide.1 h2
  have y:#[] ++ args'.toArray ++ #[] = args'.toArray:=by simp
  rw [y] at o
  refine o.mono fun e w' t => ?_
  obtain ⟨ι',z,rfl,st,_,l⟩:=t
  rw [l.bool_inv]
  exact ⟨rfl,st.size,fun k r => st.keep k r (Ay6 hro k),st.os,st.tape,st.output⟩
 ·cases x
 ·have g:(callFunc f (#[] ++ args'.toArray ++ #[])).run P w = .ok (.value v) wr:=n
  rw [Mm (hE.text f c hf)] at g
  cases g
theorem Ar5 {ι : Inj} {h:Aa} {w:World} (hs:Sim P ι h w) (hro:h.all LObj.readOnly = true) {c:List Value} {m:Img} {arr:Array Value} {t:TypeId} {fz:Nat × Nat} (hw:w.heap[m.rb]? = some (.cells arr t fz)) (hsz:arr.size = m.size)
  (hl:m.off + c.length ≤ m.size) (hc:∀ i v,c[i]? = some v → ∃ r,arr[m.off + i]? = some r ∧ VR ι v r) (ho:c.all Ag = true):Sim P (ι.put h.length m) (h ++ [.cells c true]) w:=by
 have a:=Inj.put_sub (hs.dom h.length (Nat.le_refl _)) m
 have l:∀ (x:Nat) (o:LObj),(h ++ [LObj.cells c true])[x]? = some o → (x < h.length ∧ h[x]? = some o) ∨ (x = h.length ∧ o = .cells c true):=by
  intro x o d
  rcases Nat.lt_or_ge x h.length with hl | hl
  ·rw [GL hl] at d;exact .inl ⟨hl,d⟩
  ·rw [List.getElem?_append_right hl] at d
   by_cases e:x = h.length
   ·subst e;simp at d;exact .inr ⟨rfl,d.symm⟩
   ·rw [List.getElem?_eq_none (by simp;omega)] at d;cases d
 refine ⟨fun b p => ?_,fun b o p hd => ?_,fun g hg => let ⟨s,h⟩:=hs.glob g hg;⟨s,a _ _ h⟩,?_⟩
 ·simp at p;rw [Inj.put_ne m (by omega)];exact hs.dom b (by omega)
 ·rcases l b o p with ⟨a1,a0⟩ | ⟨rfl,rfl⟩
  ·obtain ⟨m',u,j⟩:=hs.obj b o a0 hd
   exact ⟨m',a _ _ u,j.sub a⟩
  ·exact ⟨m,Inj.put_same _ _ _,.cells hw hsz hl (fun i v hv => let ⟨r,h1,h2⟩:=hc i v hv;⟨r,h1,h2.mono a⟩) (fun h => by cases h) ho⟩
 ·intro x y z o2 m1 m2 d hy f _ _ _ _
  rcases l x z d with ⟨_,n⟩ | ⟨_,rfl⟩
  ·have:=List.all_eq_true.1 hro z (List.mem_of_getElem? n)
   cases z with
   | cells c ro => cases ro <;> simp [LObj.readOnly,LObj.wr] at this f
   | map es => simp [LObj.readOnly] at this
   | loop r => simp [LObj.readOnly] at this
   | bld r => simp [LObj.readOnly] at this
   | bytes r => simp [LObj.readOnly] at this
   | dead => simp [LObj.wr] at f
  ·simp [LObj.wr] at f
theorem Alr {h:Aa} (hro:h.all LObj.readOnly = true) (c:List Value):(h ++ [LObj.cells c true]).all LObj.readOnly = true:=by
 rw [List.all_append,hro];rfl
end Go.L
namespace Go.L
open Go
variable {P:Program}
theorem St.of_left {ι : Inj} {h:Aa} {w w':World} (hs:Sim P ι h w) (hl:Awb w w'):St P ι h w ι h w' :=
 ⟨Sub.refl _,⟨hs.dom,fun b o hb hd => let ⟨m,hm,hr⟩:=hs.obj b o hb hd;⟨m,hm,hr.world (hl.keep _ hr.lt)⟩,hs.glob,hs.inj⟩,hl.size,hl.os,hl.tape,hl.output,fun rb hlt _ => hl.keep rb hlt,fun _ h _ => h⟩
def Alg (G h:Aa):Prop:=∀ (g:Nat) (o:LObj),G[g]? = some o → o ≠ .dead → h[g]? = some o
open Classical in
noncomputable def constE (G:Aa) (b:Value):List Value → Aa → Option (Value × Aa × List Nat):=fun args h => match args with
 | [] => if Alg G h then some (b,h,[]) else none
 | _ :: _ => none
theorem Adj {G h:Aa} {b:Value} (hb:Alg G h):constE G b [] h = some (b,h,[]):=by simp [constE,hb]
theorem Un {G h h':Aa} {b v:Value} {args:List Value} {ws:List Nat} (hv:constE G b args h = some (v,h',ws)):args = [] ∧ Alg G h ∧ v = b ∧ h' = h ∧ ws = []:=by
 cases args with
 | cons x r => cases hv
 | nil =>
  simp only [constE] at hv
  split at hv
  ·rename_i a
   simp only [OI,Prod.mk.injEq] at hv
   exact ⟨rfl,a,hv.1.symm,hv.2.1.symm,hv.2.2.symm⟩
  ·cases hv
theorem Ais (G:Aa) (b:Value):∀ args h v h' ws,constE G b args h = some (v,h',ws) → Keeps h.length h h' ws:=by
 intro args h v h' ws a
 obtain ⟨_,_,_,rfl,rfl⟩:=Un a
 exact Keeps.refl _ _ _
theorem Ait (G:Aa) (b:Value):Ao4 (constE G b):=by
 intro p o c h d v h' l j
 obtain ⟨rfl,a,rfl,rfl,rfl⟩:=Un j
 exact ⟨d,by simp,Adj fun g x f e => Sees.set d o _ _ (a g x f e) e⟩
theorem Ak2 {E:Env} (hE:Abn P E) {f:FuncId} {c:FnC} (hf:E f = .text c) {n:Nat} {b:Value} {G G':Aa} {ws:List Nat} (hb:Ae 0 4 b = true) (hlen:G.length = P.globals.size) (hro:G.all LObj.readOnly = true) (hG:G.all (fun o => F9 0 (some o)) = true)
  (hv:C3 E n (.func (.func f) #[] #[]) [] G = some (b,G',ws)):Ao3 P f (constE G b):=by
 intro args h v h' a4 hc F nn hW ι w args' hs ha
 obtain ⟨rfl,z,rfl,rfl,rfl⟩:=Un hc
 cases ha
 have a1:Sim P (fun x => if x < P.globals.size then ι x else none) G w:=by
  refine ⟨fun x p => if_neg (by omega),fun x o p l => ?_,fun g hg => ?_,fun x y o o' m m' p _ hw => ?_⟩
  ·have hl:x < P.globals.size:=by have:=(GI.1 p).1;omega
   obtain ⟨m,hm,t⟩:=hs.obj x o (z x o p l) l
   exact ⟨m,by simp [hl,hm],ObjR.low (n:=0) (fun b hb => absurd hb (Nat.not_lt_zero _)) (List.all_eq_true.1 hG o (List.mem_of_getElem? p)) l t⟩
  ·obtain ⟨s,u⟩:=hs.glob g hg
   exact ⟨s,by simp [hg,u]⟩
  ·have:=List.all_eq_true.1 hro o (List.mem_of_getElem? p)
   cases o with
   | cells c ro => cases ro <;> simp [LObj.readOnly,LObj.wr] at this hw
   | map es => simp [LObj.readOnly] at this
   | loop r => simp [LObj.readOnly] at this
   | bld r => simp [LObj.readOnly] at this
   | bytes r => simp [LObj.readOnly] at this
   | dead => simp [LObj.wr] at hw
 obtain ⟨d,l,a0⟩:=Aa8 hE n _ _ _ _ _ _ hv F nn hW _ w (.func (.func f) #[] #[]) [] a1 (VR.func f (a:=[]) (b:=[]) .nil .nil) .nil
 have a3:d = { target:=.fn (.func f) #[],args:=#[] ++ #[] }:=by
  have:(Deferred.ofValue (.func (.func f) #[] #[]) ([]:List Value).toArray).run P w = .ok { target:=.fn (.func f) #[],args:=#[] ++ #[] } w:=rfl
  rw [this] at l;simpa using l.symm
 subst a3
 rcases a0 with (⟨fe,as,u,h2⟩ | ⟨⟨_,_,_,hy⟩,_⟩) | ⟨_,vr,wr,u,_⟩
 ·have j:(callFunc f (#[] ++ #[] ++ #[])).run P w = .ok (.enter fe as) w:=u
  rw [Mm (hE.text f c hf)] at j
  simp only [Result.ok.injEq,Next.enter.injEq,and_true] at j
  obtain ⟨rfl,rfl⟩:=j
  refine CallsIn.mono (R:=Ret P (fun x => if x < P.globals.size then ι x else none) G w v G') (by simpa using h2) fun e w' hr => ?_
  obtain ⟨ι',v',rfl,st,_,a2⟩:=hr
  have hl:Awb w w':=⟨st.size,fun k hk => st.keep k hk (Ay6 hro k),st.os,st.tape,st.output⟩
  exact ⟨ι,v',rfl,St.of_left hs hl,Old.refl _ _,VR.low (m:=0) (fun b hb => absurd hb (Nat.not_lt_zero _)) 4 hb a2⟩
 ·cases hy
 ·have j:(callFunc f (#[] ++ #[] ++ #[])).run P w = .ok (.value vr) wr:=u
  rw [Mm (hE.text f c hf)] at j
  cases j
end Go.L
