/- THE LOGICAL MACHINE AND THE MODEL: loops over functions; code, whole. -/
import Derived.Test.YtifnlcajancfdaaGreatDoorSg
set_option linter.unusedVariables false
set_option linter.unusedSimpArgs false
namespace Go.L
open Go
variable {P:Program}
section
variable {F:Fence} {n:Nat} {cf:Be} {sz:Nat}
theorem Apa {n0:Nat} {x:Code} {K:Fr→Aa→Out} (hx:Tl F n P n0 x K sz) (hK:N5 K):∀ (k:Nat) (Q:Exit→Act→World→Prop) {ι : Inj} {h:Aa} {w:World} {fr:Fr} {a:Act} {e:Ex} {fr':Fr} {h':Aa} {ws:List Nat},
  Io k K fr h=some (e,fr',h',ws)→Sim P ι h w→FFR ι sz (get fr) a.tmps→Marks n0 w a.defers→n0≤w.heap.size→InR F ι h ws →
  (∀ ι' a' w',St P ι h w ι' h' w'→Old ι h ι'→FFR ι' sz (get fr') a'.tmps→Marks n0 w' a'.defers→Q (Axb e) a' w')→Ags F n P x Q a w
 | 0,Q,ι,h,w,fr,a,e,fr',h',ws,hv,hs,hf,hm,hn,hi,hq => by simp [Io] at hv
 | k+1,Q,ι,h,w,fr,a,e,fr',h',ws,hv,hs,hf,hm,hn,hi,hq => by
  refine Af1 ?_
  simp only [Io,Gl] at hv
  split at hv
  ·rename_i fr1 h1 ws1 h1e
   split at hv
   ·rename_i e2 fr2 h2 ws2 h2e
    simp only [OI,Prod.mk.injEq] at hv
    obtain ⟨rfl,rfl,rfl,rfl⟩:=hv
    have kk:=hK _ _ _ _ _ _ h1e
    refine hx _ h1e hs hf hm hn hi.left fun ι1 a1 w1 st1 old1 hf1 hm1 => ?_
    exact Apa hx hK k Q h2e st1.sim hf1 hm1 (Nat.le_trans hn st1.size) (hi.right kk st1.sub) fun ι2 a2 w2 st2 old2 hf2 hm2 => hq ι2 a2 w2 (st1.trans st2) (old1.trans kk.len old2) hf2 hm2
   ·cases hv
  ·rename_i hne
   refine hx _ hv hs hf hm hn hi fun ι1 a1 w1 st1 old1 hf1 hm1 => ?_
   cases e with
   | normal => exact absurd hv (hne _ _ _)
   | exit id => exact hq ι1 a1 w1 st1 old1 hf1 hm1
   | ret => exact hq ι1 a1 w1 st1 old1 hf1 hm1
theorem Arg (F:Fence) (fn:FuncId) (tmps:Array Value) (ps:Array Tmp) (assign body:Code) {ι : Inj} {h:Aa} {w:World} {ws:List Nat} (hs:Sim P ι h w) (hi:InR F ι h ws) :
  ∃ mark w0 df,(Instr.enterLoop fn tmps ps assign body F.round).run P w = .ok (w0.heap.size,mark) (w0.alloc (.loop { state:=.ready,pending:=none,fn,tmps,params:=ps,assign,body,defers:=df })) ∧
   St P ι h w ι h w0∧(∀ n0 ds,n0≤w.heap.size→Marks n0 w ds→Marks n0 w0 (mark++ds)):=by
 cases hr:F.round with
 | none =>
  refine ⟨[{ target:=.collected w.heap.size,args:=#[] }],w.alloc (.deferred (some [])),w.heap.size,?_,St.garbage hs _,fun n0 ds hn hm => ?_⟩
  ·rw [run_enterLoop_outer]
   simp [World.size_alloc]
  ·refine ⟨⟨w.heap.size,rfl,Lh,hn,fun d hd ht => ?_⟩,hm.step hs (St.garbage hs _)⟩
   have lt:∀ {ds:List Deferred},Marks n0 w ds→∀ d∈ds,∀ r,d.target = .collected r→r<w.heap.size:=by
    intro ds
    induction ds with
    | nil => intro _ d hd;cases hd
    | cons x ds ih =>
     intro hm d hd r hr
     rcases List.mem_cons.1 hd with rfl | hd
     ·obtain ⟨⟨r',h1,h2,_⟩,_⟩:=hm
      rw [h1] at hr;cases hr
      exact (Array.getElem?_eq_some_iff.1 h2).1
     ·exact ih hm.2 d hd r hr
   exact Nat.lt_irrefl _ (lt hm d hd _ ht)
 | some lr =>
  obtain ⟨l,r,m,h1,h2,h3,_⟩:=hi lr hr
  obtain ⟨m',hm',hobj⟩:=hs.obj l _ h1 (by simp)
  rw [h2] at hm';cases hm'
  cases hobj with
  | @loop _ _ R hw h5 h6 h7 h8 h9 h10 =>
   rw [h3] at hw
   refine ⟨[],w,R.defers,?_,St.refl hs,fun n0 ds _ hm => hm⟩
   unfold Instr.enterLoop
   simp only [Sem.run_bind,run_getLoop hw,run_newObj_alloc,Result.andThen,Sem.run_pure]
theorem Aup {lo:Bool} (hW:Wide F) (hcf:Lc P cf) (hk:Fk cf) {n0:Nat} {g:Operand} {gx:X} {ps:Array Tmp} {assign body:Code} {ca cb:C} (hg:cX g=some gx) (ha:Kh P lo sz assign=some (Es ca)) (hb:Kh P lo sz body=some (Es cb)) :
  Tl F n P n0 (.rangeFunc g ps assign body) (fun fr h => Ft h fr (J1 cf (ev (get fr) gx) [.func (.yield h.length) #[] #[]] (h++[.loop { state:=.ready,pending:=none,fr,sz,params:=ps.toList,assign:=ca,body:=cb }]))) sz:=by
 intro Q ι h w fr a e fr' h' ws hv hs hf hm hn hir hq
 simp only [Ft] at hv
 split at hv
 ·rename_i vr h2 ws2 hc
  have hc':∃ f0 a0 b0,ev (get fr) gx = .func (.func f0) a0 b0∧cf (ev (get fr) gx) [.func (.yield h.length) #[] #[]] (h++[.loop { state:=.ready,pending:=none,fr,sz,params:=ps.toList,assign:=ca,body:=cb }])=some (vr,h2,ws2):=by
   unfold J1 at hc
   split at hc
   ·rename_i f0 a0 b0 eg;exact ⟨f0,a0,b0,eg,by rw [eg];exact hc⟩
   ·cases hc
  obtain ⟨f0,a0,b0,eg,hcall⟩:=hc'
  split at hv
  ·rename_i r2 hr2
   split at hv
   ·cases hv
   ·rename_i hbusy
    split at hv
    ·rename_i vg hg2 wsg hgc
     refine wpIn_rangeFunc fun fn _ => ?_
     obtain ⟨mark,w0,df,henter,st0,hmarks⟩:=Arg F fn a.tmps ps assign body hs hir
     have hobj:ObjR P (ι.put h.length ⟨w0.heap.size,0,0⟩) (w0.alloc (.loop { state:=.ready,pending:=none,fn,tmps:=a.tmps,params:=ps,assign,body,defers:=df })) ⟨w0.heap.size,0,0⟩
       (.loop { state:=.ready,pending:=none,fr,sz,params:=ps.toList,assign:=ca,body:=cb }) :=
      .loop Lh rfl rfl rfl (hf.mono (Inj.put_sub (hs.dom _ (Nat.le_refl _)) _)) ha hb
     have st1:=St.push (P:=P) (m:=⟨w0.heap.size,0,0⟩) (o:=.loop { state:=.ready,pending:=none,fr,sz,params:=ps.toList,assign:=ca,body:=cb }) st0.sim rfl (fun _ => hobj)
     have st01:=st0.trans st1
     have rg:=(Au hf hg).mono st01.sub
     obtain ⟨d,hd,hinv⟩:=hcf _ _ _ _ _ _ hcall F (n - 1) hW _ _ (a.eval g) [.func (.yield w0.heap.size) #[] #[]] st1.sim rg
      (.cons (VR.yield (l:=h.length) (m:=⟨w0.heap.size,0,0⟩) (Inj.put_same _ _ _) (a:=[]) (b:=[]) .nil .nil) .nil)
     rcases hinv with (⟨fe,as,hinv1,hcalls⟩ | ⟨⟨_,_,_,hy⟩,_⟩) | ⟨hny,_⟩
     ·refine ⟨w0.heap.size,mark,_,d,_,fe,as,_,henter,?_,fun f' _ => hW.fn f',hinv1,(fun hh => by rw [hW.depth] at hh;cases hh),hcalls.mono fun en w' hret => ?_⟩
      ·simp only [resolve,rangeCall]
       simpa [Act.eval] using hd
      ·obtain ⟨ι2,v',rfl,stc,oldc,hvr⟩:=hret
       have hl1:h.length<(h++[LObj.loop { state:=.ready,pending:=none,fr,sz,params:=ps.toList,assign:=ca,body:=cb }]).length:=by simp
       obtain ⟨m2,hm2,hobj2⟩:=stc.sim.obj h.length _ hr2 (by simp)
       have hm2':m2=⟨w0.heap.size,0,0⟩:=by
        rw [oldc _ hl1,Inj.put_same] at hm2;cases hm2;rfl
       subst hm2'
       cases hobj2 with
       | loop hw hst hp hps hfr hca hcb =>
        rename_i R2
        have hnb:R2.state ≠ .busy:=by rw [hst];intro h;exact hbusy h
        have hend:=run_endLoop (P:=P) hw hnb
        have hlt:=(Array.getElem?_eq_some_iff.1 hw).1
        have stw:=St.write (P:=P) (o':=.dead) stc.sim hr2 rfl hm2 (w':=w'.putObj w0.heap.size (.loop { R2 with state:=.exhausted })) (by simp) (fun rb hne => World.putObj_heap_other hne) rfl rfl rfl (fun hh => absurd rfl hh) (.inr rfl)
        have stall:=st01.trans (stc.trans stw)
        have oldall:Old ι h ι2:=fun b hb => (oldc b (by omega)).trans (Old.put ι h _ b hb)
        have kall:Keeps h.length h (h2.set h.length .dead) ws2:=by
         have k0:=Keeps.push (Nat.le_refl h.length) [LObj.loop { state:=.ready,pending:=none,fr,sz,params:=ps.toList,assign:=ca,body:=cb }] []
         have k1:=k0.trans ((hk _ _ _ _ _ _ hcall).less (by simp))
         simpa using k1.trans (Keeps.set_high (Nat.le_refl _) LObj.dead [])
        obtain ⟨ι3,st3,old3,_⟩:=Aw3 hs stall oldall kall VR.undef hgc
        have hmk:Marks n0 (w'.putObj w0.heap.size (.loop { R2 with state:=.exhausted })) (mark++a.defers) :=
         (hmarks n0 _ hn hm).step st0.sim (st1.trans (stc.trans stw))
        refine ⟨R2.pending,_,hend,?_⟩
        suffices key:∀ pj:Option Code,pj=r2.pending.map X5→(match (generalizing:=false) pj with
          | none => Q .normal { a with defers:=mark++a.defers } (w'.putObj w0.heap.size (.loop { R2 with state:=.exhausted }))
          | some c => c.wpIn F n P Q { a with defers:=mark++a.defers } (w'.putObj w0.heap.size (.loop { R2 with state:=.exhausted }))) from key _ hp
        intro pj hpj
        subst hpj
        cases hpd:r2.pending with
        | none =>
         rw [hpd] at hv
         simp only [OI,Prod.mk.injEq] at hv;obtain ⟨rfl,rfl,rfl,rfl⟩:=hv
         exact hq ι3 _ _ st3 old3 (hf.mono st3.sub) hmk
        | some j =>
         rw [hpd] at hv
         cases j with
         | none =>
          simp only [OI,Prod.mk.injEq] at hv;obtain ⟨rfl,rfl,rfl,rfl⟩:=hv
          exact wpIn_ret (hq ι3 _ _ st3 old3 (hf.mono st3.sub) hmk)
         | some id =>
          simp only [OI,Prod.mk.injEq] at hv;obtain ⟨rfl,rfl,rfl,rfl⟩:=hv
          exact wpIn_exit (hq ι3 _ _ st3 old3 (hf.mono st3.sub) hmk)
     ·rw [eg] at hy;cases hy
     ·exact absurd (List.mem_singleton.2 rfl) (hny h.length #[] #[])
    ·cases hv
  ·cases hv
 ·cases hv
theorem Ic {lo:Bool} (hW:Wide F) (hcf:Lc P cf) (hk:Fk cf) (hmix:P.follows .mixedOrders=true) (n0 k:Nat):∀ (g:Code) (c:C),Kh P lo sz g=some (Es c)→Tl F n P n0 g (code cf (Io k) sz c) sz
 | .skip,c,hc => by
  simp only [Kh,OI] at hc
  rw [Ae4 hc.symm]
  intro Q ι h w fr a e fr' h' ws hv hs hf hm hn hi hq
  simp only [code,OI,Prod.mk.injEq] at hv;obtain ⟨rfl,rfl,rfl,rfl⟩:=hv
  exact wpIn_skip (hq ι a w (St.refl hs) (Old.refl _ _) hf hm)
 | .label l,c,hc => by
  simp only [Kh,OI] at hc
  rw [Ae4 hc.symm]
  intro Q ι h w fr a e fr' h' ws hv hs hf hm hn hi hq
  simp only [code,OI,Prod.mk.injEq] at hv;obtain ⟨rfl,rfl,rfl,rfl⟩:=hv
  exact wpIn_label (hq ι a w (St.refl hs) (Old.refl _ _) hf hm)
 | .scope b,c,hc => by
  simp only [Kh] at hc
  intro Q ι h w fr a e fr' h' ws hv hs hf hm hn hi hq
  refine Akq (Ic hW hcf hk hmix n0 k b c hc _ hv hs hf hm hn hi fun ι' a' w' st old hf' hm' => ?_)
  have:=hq ι' a' w' st old hf' hm'
  cases e<;>exact this
 | .region id ops draw,c,hc => by
  simp only [Kh,OB] at hc
  obtain ⟨ins,hi,hc⟩:=hc
  cases draw with
  | true =>
   simp only [if_true,OM] at hc
   obtain ⟨⟨nn,r⟩,hd,hc⟩:=hc
   obtain ⟨l,rfl⟩:=Aye hc.symm
   exact Axh hW hcf hk hmix hi hd l
  | false =>
   simp only [Bool.false_eq_true,if_false,OI] at hc
   obtain ⟨l,rfl⟩:=Ayd hc.symm
   exact Aro hW hcf hk hi l
 | .seq x y,c,hc => by
  simp only [Kh,OB,OM] at hc
  obtain ⟨x',hx,y',hy,hc⟩:=hc
  obtain ⟨cx,cy,rfl,rfl,rfl⟩:=Aya hc.symm
  exact A3f (Ic hW hcf hk hmix n0 k x cx hx) (B4 hk (fun K hK => F8 hK k) sz cx) (Ic hW hcf hk hmix n0 k y cy hy)
 | .cond v x y,c,hc => by
  simp only [Kh,OB,OM] at hc
  obtain ⟨v',hv',x',hx,y',hy,hc⟩:=hc
  obtain ⟨cx,cy,rfl,rfl,rfl⟩:=Asx hc.symm
  intro Q ι h w fr a e fr' h' ws hv hs hf hm hn hi hq
  simp only [code,Wp] at hv
  split at hv
  ·rename_i t et
   have hr:=Au hf hv'
   rw [et] at hr
   refine wpIn_cond hr.bool_inv ?_
   cases t with
   | true => exact Ic hW hcf hk hmix n0 k x cx hx Q hv hs hf hm hn hi hq
   | false => exact Ic hW hcf hk hmix n0 k y cy hy Q hv hs hf hm hn hi hq
  ·cases hv
 | .block id b,c,hc => by
  simp only [Kh,OM] at hc
  obtain ⟨b',hb,hc⟩:=hc
  obtain ⟨cb,rfl,rfl⟩:=Amq hc.symm
  intro Q ι h w fr a e fr' h' ws hv hs hf hm hn hi hq
  simp only [code,inBlock] at hv
  refine wpIn_block ?_
  split at hv
  ·rename_i j fr1 h1 ws1 h1e
   by_cases hj:j=id
   ·rw [if_pos hj] at hv
    simp only [OI,Prod.mk.injEq] at hv;obtain ⟨rfl,rfl,rfl,rfl⟩:=hv
    refine Ic hW hcf hk hmix n0 k b cb hb _ h1e hs hf hm hn hi fun ι' a' w' st old hf' hm' => ?_
    simp only [Axb,Exit.inBlock,hj,if_true]
    exact hq ι' a' w' st old hf' hm'
   ·rw [if_neg hj] at hv
    simp only [OI,Prod.mk.injEq] at hv;obtain ⟨rfl,rfl,rfl,rfl⟩:=hv
    refine Ic hW hcf hk hmix n0 k b cb hb _ h1e hs hf hm hn hi fun ι' a' w' st old hf' hm' => ?_
    simp only [Axb,Exit.inBlock,hj,if_false]
    exact hq ι' a' w' st old hf' hm'
  ·rename_i hne
   refine Ic hW hcf hk hmix n0 k b cb hb _ hv hs hf hm hn hi fun ι' a' w' st old hf' hm' => ?_
   have:=hq ι' a' w' st old hf' hm'
   cases e with
   | exit j => exact absurd hv (hne _ _ _ _)
   | normal => exact this
   | ret => exact this
 | .loop b,c,hc => by
  simp only [Kh,OM] at hc
  obtain ⟨b',hb,hc⟩:=hc
  obtain ⟨cb,rfl,rfl⟩:=Asv hc.symm
  intro Q ι h w fr a e fr' h' ws hv hs hf hm hn hi hq
  exact Agy (Apa (Ic hW hcf hk hmix n0 k b cb hb) (B4 hk (fun K hK => F8 hK k) sz cb) k Q hv hs hf hm hn hi hq)
 | .exit id,c,hc => by
  simp only [Kh,OI] at hc
  rw [Asw hc.symm]
  intro Q ι h w fr a e fr' h' ws hv hs hf hm hn hi hq
  simp only [code,OI,Prod.mk.injEq] at hv;obtain ⟨rfl,rfl,rfl,rfl⟩:=hv
  exact wpIn_exit (hq ι a w (St.refl hs) (Old.refl _ _) hf hm)
 | .ret,c,hc => by
  simp only [Kh,OI] at hc
  rw [Ayc hc.symm]
  intro Q ι h w fr a e fr' h' ws hv hs hf hm hn hi hq
  simp only [code,OI,Prod.mk.injEq] at hv;obtain ⟨rfl,rfl,rfl,rfl⟩:=hv
  exact wpIn_ret (hq ι a w (St.refl hs) (Old.refl _ _) hf hm)
 | .rangeFunc g ps x y,c,hc => by
  simp only [Kh,OB,OM] at hc
  obtain ⟨g',hg,x',hx,y',hy,hc⟩:=hc
  obtain ⟨cx,cy,rfl,rfl,rfl⟩:=Ayb hc.symm
  exact Aup hW hcf hk hg hx hy
 | .goto l,c,hc => by simp [Kh] at hc
 | .refuse s,c,hc => by simp [Kh] at hc
end
end Go.L
namespace Go.L
open Go
variable {P:Program} {ι ι1:Inj} {h h1:Aa} {w w1:World}
theorem St.shut (st:St P ι h w ι1 h1 w1) {r:Nat} {ds:Option (List Deferred)} (hr:w1.heap[r]? = some (.deferred ds)) (hge:w.heap.size≤r):St P ι h w ι1 h1 (w1.putObj r (.deferred none)):=by
 refine ⟨st.sub,⟨st.sim.dom,fun b o hb hd => ?_,st.sim.glob,st.sim.inj⟩,by simpa using st.size,st.os,st.tape,st.output,fun rb hl hn => ?_,st.new⟩
 ·obtain ⟨m,hm,hobj⟩:=st.sim.obj b o hb hd
  refine ⟨m,hm,hobj.world (World.putObj_heap_other fun e => ?_)⟩
  subst e
  cases hobj with
  | cells a => rw [hr] at a;cases a
  | map a => rw [hr] at a;cases a
  | loop a => rw [hr] at a;cases a
  | bld a => rw [hr] at a;cases a
  | bytes a => rw [hr] at a;cases a
 ·rw [World.putObj_heap_other (by omega)];exact st.keep rb hl hn
section
variable {F:Fence} {n:Nat} {cf:Be}
theorem Ur {fr:Fr} {tmps:Array Value} {sz:Nat} (hs:Sim P ι h w) (hf:FFR ι sz (get fr) tmps):∀ {rs:List ResultVar} {res:List R} {vs:List Value},rs.mapM (cR P)=some res→M7 fr h res=some vs →
  ∃ vs',(rs.mapM (m:=Sem) fun | .tmp t => pure (tmps.getD t undef) | .cell a t => do loadVar t (← asAddr (tmps.getD a undef))).run P w = .ok vs' w∧VRs ι vs vs'
 | [],res,vs,hr,hl => by
  simp at hr;subst hr
  simp [M7] at hl;subst hl
  exact ⟨[],by simp,.nil⟩
 | r :: rs,res,vs,hr,hl => by
  simp only [List.mapM_cons,Option.bind_eq_bind,OB,Option.pure_def,OI] at hr
  obtain ⟨q,hq,qs,hqs,rfl⟩:=hr
  cases r with
  | tmp t =>
   simp only [cR,OI] at hq;subst hq
   simp only [M7,OM] at hl
   obtain ⟨l2,hl2,rfl⟩:=hl
   obtain ⟨vs',h1,h2⟩:=Ur hs hf hqs hl2
   exact ⟨_,by simp only [List.mapM_cons,Sem.run_bind,Sem.run_pure,Result.andThen_ok,h1],.cons (hf.at_ t) h2⟩
  | cell ad t =>
   simp only [cR,OM] at hq
   obtain ⟨g,hg,rfl⟩:=hq
   simp only [M7,OB,OM] at hl
   obtain ⟨v,hv,l2,hl2,rfl⟩:=hl
   obtain ⟨vs',h1,h2⟩:=Ur hs hf hqs hl2
   obtain ⟨pa,v',e1,e2,e3⟩:=Yq hs hg (hf.at_ ad) hv
   refine ⟨v' :: vs',?_,.cons e3 h2⟩
   have e4:(asAddr (tmps.getD ad undef)).run P w = .ok pa w:=by rw [e1];rfl
   simp only [List.mapM_cons,Sem.run_bind,Sem.run_pure,Result.andThen_ok,h1,e4,e2]
theorem Aui {vs vs':List Value} (h:VRs ι vs vs'):VR ι (Rh vs) (if h:vs'.toArray.size=1 then vs'.toArray[0] else .tuple vs'.toArray):=by
 cases h with
 | nil => exact .tuple .nil
 | cons h1 h2 =>
  cases h2 with
  | nil => exact h1
  | cons h2 h3 => exact .tuple (.cons h1 (.cons h2 h3))
theorem Yp {fn:Func} {fr:Fr} {tmps:Array Value} {sz:Nat} (hs:Sim P ι h w) (hf:FFR ι sz (get fr) tmps) {res:List R} {vs:List Value} (hr:fn.results.toList.mapM (cR P)=some res) (hl:M7 fr h res=some vs) :
  ∃ vr,(results fn tmps).run P w = .ok vr w∧VR ι (Rh vs) vr:=by
 obtain ⟨vs',h1,h2⟩:=Ur hs hf hr hl
 refine ⟨_,?_,Aui h2⟩
 unfold results
 rw [Array.mapM_eq_mapM_toList]
 have map_run:∀ {α β : Type} (g:α → β) (x:Sem α) (y:α) (w':World),x.run P w = .ok y w'→(g <$> x).run P w = .ok (g y) w':=by
  intro α β g x y w' hx
  rw [map_eq_pure_bind]
  simp only [Sem.run_bind,hx,Result.andThen];rfl
 have e:=map_run List.toArray _ _ _ h1
 rw [Sem.run_bind]
 exact Eq.trans (congrArg (fun x => Result.andThen x _) e) rfl
theorem Ae8:∀ (l:List Value) (i s:Nat),get (Ak l i) s=if i≤s then (l[s - i]?).getD Ks else Ks
 | [],i,s => by simp [Ak,get]
 | v :: l,i,s => by
  simp only [Ak,get]
  by_cases e:s=i
  ·subst e;simp
  ·rw [if_neg e,Ae8 l (i+1) s]
   by_cases hl:i≤s
   ·rw [if_pos (by omega),if_pos hl]
    have:s - i=(s - (i+1))+1:=by omega
    rw [this];rfl
   ·rw [if_neg (by omega),if_neg hl]
theorem Akd {sz:Nat} {args args':List Value} (ha:VRs ι args args') (hl:args.length≤sz):FFR ι sz (get (Ak args 0)) (args'.toArray++Array.replicate (sz - args'.toArray.size) undef):=by
 have hlen:=ha.length
 refine ⟨by simp;omega,fun s => ?_⟩
 rw [Ae8]
 simp only [Nat.zero_le,if_true,Nat.sub_zero]
 cases hs:args[s]? with
 | none => exact .any _
 | some v =>
  obtain ⟨r,hr,hvr⟩:=ha.at_ hs
  have hlt:s<args'.length:=(GI.1 hr).1
  rw [Array.getD_eq_getD_getElem?,Array.getElem?_append_left (by simpa using hlt)]
  simp only [List.getElem?_toArray,hr,Option.getD_some]
  exact hvr
theorem X4 {fn:Func} {tmps:Array Value} {R:Ending→World→Prop} {n0:Nat} (hn0:w.heap.size≤n0):∀ {ds:List Deferred} {w1:World},St P ι h w ι1 h1 w1→Marks n0 w1 ds →
  (∀ w2,St P ι h w ι1 h1 w2→∃ v,(results fn tmps).run P w2 = .ok v w2∧R (.returned v) w2)→LeavesInM F n P fn tmps R ds .returning w1
 | [],w1,st,_,hq => hq w1 st
 | d :: ds,w1,st,hm,hq => by
  obtain ⟨⟨r,h1',h2,h3,h4⟩,h5⟩:=hm
  refine ⟨by simp,.inl ⟨r,w1.putObj r (.deferred none),h1',run_takeDeferred h2,X4 hn0 (st.shut h2 (by omega)) ?_ hq⟩⟩
  have step:∀ {ds:List Deferred},Marks n0 w1 ds→(∀ d'∈ds,d'.target ≠ .collected r)→Marks n0 (w1.putObj r (.deferred none)) ds:=by
   intro ds
   induction ds with
   | nil => intro _ _;trivial
   | cons x ds ih =>
    intro hm hne
    obtain ⟨⟨r',k1,k2,k3,k4⟩,k5⟩:=hm
    refine ⟨⟨r',k1,?_,k3,k4⟩,ih k5 fun d' hd' => hne d' (by simp [hd'])⟩
    rw [World.putObj_heap_other (fun e => hne x (by simp) (by rw [k1,e]))]
    exact k2
  exact step h5 h4
theorem Ay6 (hW:Wide F) (hcf:Lc P cf) (hk:Fk cf) (hmix:P.follows .mixedOrders=true) {f:FuncId} {c:FnC} (hc:FnC.of P f c) {k:Nat} {args args':List Value} {v:Value} {h':Aa} {ws:List Nat} (hv:Fz cf (Io k) (.text c) args h=some (v,h',ws))
  (hs:Sim P ι h w) (ha:VRs ι args args'):CallsIn F n P f args'.toArray w (Ret P ι h w v h'):=by
 have main:CallsIn { F with round:=none } n P f args'.toArray w (Ret P ι h w v h'):=by
  have hW':Wide { F with round:=none }:=⟨hW.fn,hW.depth,hW.alive⟩
  obtain ⟨lo,hc⟩:=hc
  simp only [OB] at hc
  obtain ⟨fn,hfn,hc⟩:=hc
  unfold Aps at hc
  split at hc
  ·cases hc
  ·simp only [OB,OM] at hc
   obtain ⟨g,hbody,res,hres,b,hb,hc⟩:=hc
   obtain ⟨csz,cres,cbody⟩:=c
   simp only [FnC.mk.injEq] at hc
   obtain ⟨rfl,rfl,rfl⟩:=hc
   simp only [Fz] at hv
   split at hv
   ·rename_i hlen
    refine callsIn_of_wp_marks hfn hbody (hW.fn f) ?_
    cases hx:code cf (Io k) fn.ntmps cbody (Ak args 0) h with
    | none => rw [hx] at hv;cases hv
    | some p =>
     obtain ⟨e,fr',h1,ws1⟩:=p
     rw [hx] at hv
     have kk:=B4 hk (fun K hK => F8 hK k) _ _ _ _ _ _ _ _ hx
     refine Ic hW' hcf hk hmix w.heap.size k g cbody hb _ hx hs (Akd ha hlen) trivial (Nat.le_refl _) (fun lr hl => by cases hl) fun ι1 a1 w1 st old hf1 hm1 => ?_
     have fin_:∀ e',e'≠Ex.normal→e'≠Ex.ret→fin res h (some (e',fr',h1,ws1))=none:=by
      intro e' h1 h2;cases e'<;>first | rfl | exact absurd rfl h1 | exact absurd rfl h2
     have ends:(∃ vs,M7 fr' h1 res=some vs∧gc h (Rh vs) h1 ws1=some (v,h',ws))→LeavesInM { F with round:=none } n P fn a1.tmps (Ret P ι h w v h') a1.defers .returning w1:=by
      rintro ⟨vs,hvs,hg⟩
      refine X4 (Nat.le_refl _) st hm1 fun w2 st2 => ?_
      obtain ⟨vr,hr1,hr2⟩:=Yp st2.sim hf1 hres hvs
      obtain ⟨ι3,st3,old3,hv3⟩:=Aw3 hs st2 old kk hr2 hg
      exact ⟨vr,hr1,ι3,vr,rfl,st3,old3,hv3⟩
     cases e with
     | exit id => rw [fin_ _ (by simp) (by simp)] at hv;cases hv
     | normal =>
      refine ends ?_
      simp only [fin] at hv
      split at hv
      ·rename_i vs hvs;exact ⟨vs,hvs,hv⟩
      ·cases hv
     | ret =>
      refine ends ?_
      simp only [fin] at hv
      split at hv
      ·rename_i vs hvs;exact ⟨vs,hvs,hv⟩
      ·cases hv
   ·cases hv
 exact main
theorem Atr (hW:Wide F) (hcf:Lc P cf) (hk:Fk cf) (hmix:P.follows .mixedOrders=true) {f:FuncId} {c:FnC} (hc:FnC.of P f c) {k:Nat} {args args':List Value} {v:Value} {h':Aa} {ws:List Nat} (hv:Fz cf (Io k) (.textK c) args h=some (v,h',ws))
  (hs:Sim P ι h w) (ha:VRs ι args args'):CallsIn F n P f args'.toArray w (Ret P ι h w v h'):=by
 have main:CallsIn { F with round:=none } n P f args'.toArray w (Ret P ι h w v h'):=by
  have hW':Wide { F with round:=none }:=⟨hW.fn,hW.depth,hW.alive⟩
  obtain ⟨lo,hc⟩:=hc
  simp only [OB] at hc
  obtain ⟨fn,hfn,hc⟩:=hc
  unfold Aps at hc
  split at hc
  ·cases hc
  ·simp only [OB,OM] at hc
   obtain ⟨g,hbody,res,hres,b,hb,hc⟩:=hc
   obtain ⟨csz,cres,cbody⟩:=c
   simp only [FnC.mk.injEq] at hc
   obtain ⟨rfl,rfl,rfl⟩:=hc
   simp only [Fz] at hv
   split at hv
   ·rename_i hlen
    refine callsIn_of_wp_marks hfn hbody (hW.fn f) ?_
    cases hx:code cf (Io k) fn.ntmps cbody (Ak args 0) h with
    | none => rw [hx] at hv;cases hv
    | some p =>
     obtain ⟨e,fr',h1,ws1⟩:=p
     rw [hx] at hv
     have kk:=B4 hk (fun K hK => F8 hK k) _ _ _ _ _ _ _ _ hx
     refine Ic hW' hcf hk hmix w.heap.size k g cbody hb _ hx hs (Akd ha hlen) trivial (Nat.le_refl _) (fun lr hl => by cases hl) fun ι1 a1 w1 st old hf1 hm1 => ?_
     have fin_:∀ e',e'≠Ex.normal→e'≠Ex.ret→Zp res (some (e',fr',h1,ws1))=none:=by
      intro e' h1 h2;cases e'<;>first | rfl | exact absurd rfl h1 | exact absurd rfl h2
     have ends:(∃ vs,M7 fr' h1 res=some vs∧some (Rh vs,h1,ws1)=some (v,h',ws))→LeavesInM { F with round:=none } n P fn a1.tmps (Ret P ι h w v h') a1.defers .returning w1:=by
      rintro ⟨vs,hvs,hg⟩
      refine X4 (Nat.le_refl _) st hm1 fun w2 st2 => ?_
      obtain ⟨vr,hr1,hr2⟩:=Yp st2.sim hf1 hres hvs
      simp only [OI,Prod.mk.injEq] at hg
      obtain ⟨rfl,rfl,rfl⟩:=hg
      exact ⟨vr,hr1,ι1,vr,rfl,st2,old,hr2⟩
     cases e with
     | exit id => rw [fin_ _ (by simp) (by simp)] at hv;cases hv
     | normal =>
      refine ends ?_
      simp only [Zp] at hv
      split at hv
      ·rename_i vs hvs;exact ⟨vs,hvs,hv⟩
      ·cases hv
     | ret =>
      refine ends ?_
      simp only [Zp] at hv
      split at hv
      ·rename_i vs hvs;exact ⟨vs,hvs,hv⟩
      ·cases hv
   ·cases hv
 exact main
end
end Go.L
namespace Go.L
open Go
variable {P:Program} {ι ι1:Inj} {h h1:Aa} {w w1:World}
theorem A48 {h0 h h':Aa} {v v':Value} {ws ws':List Nat} (hv:gc h0 v h ws=some (v',h',ws')):∀ b∈ws',b∈ws:=by
 unfold gc at hv
 split at hv
 ·split at hv
  ·simp only [OI,Prod.mk.injEq] at hv;obtain ⟨_,_,rfl⟩:=hv;intro b hb;cases hb
  ·unfold Wq at hv
   simp only at hv
   split at hv<;>(simp only [OI,Prod.mk.injEq] at hv;obtain ⟨_,_,rfl⟩:=hv;intro b hb;cases hb)
 ·rename_i u us hf
  have:∀ b∈u :: us,b∈ws:=fun b hb => (List.mem_filter.1 (by rw [hf];exact hb)).1
  split at hv<;>(simp only [OI,Prod.mk.injEq] at hv;obtain ⟨_,_,rfl⟩:=hv;exact this)
section
variable {F:Fence} {n:Nat} {cf:Be}
theorem Ahe {ι : Inj} {sz:Nat}:∀ {ts:List Nat} {vs vs':List Value} {fr fr':Fr} {tmps:Array Value},(∀ t∈ts,t<sz)→VRs ι vs vs'→FFR ι sz (get fr) tmps→setPs ts vs fr=some fr' →
  ts.length=vs.length∧FFR ι sz (get fr') ((ts.zip vs').foldl (fun tmps (x:Nat × Value) => tmps.setIfInBounds x.1 x.2) tmps)
 | [],[],vs',fr,fr',tmps,_,hv,hf,hp => by
  simp only [setPs,OI] at hp;subst hp
  exact ⟨rfl,hf⟩
 | t :: ts,v :: vs,_,fr,fr',tmps,ht,.cons (b:=r) (m:=vs') h1 h2,hf,hp => by
  simp only [setPs] at hp
  have hf':FFR ι sz (get ((t,v) :: fr)) (tmps.setIfInBounds t r):=hf.put (ht t (by simp)) h1
  obtain ⟨e1,e2⟩:=Ahe (fun x hx => ht x (by simp [hx])) h2 hf' hp
  exact ⟨by simp [e1],e2⟩
 | [],_ :: _,_,_,_,_,_,_,_,hp => by simp [setPs] at hp
 | _ :: _,[],_,_,_,_,_,_,_,hp => by simp [setPs] at hp
theorem Aug (hW:Wide F) (hcf:Lc P cf) (hk:Fk cf) (hmix:P.follows .mixedOrders=true) {k l:Nat} {args args':List Value} {v:Value} {h':Aa} {ws:List Nat} (hv:I2 cf (Io k) l args h=some (v,h',ws))
  (hs:Sim P ι h w) (ha:VRs ι args args') {m:Img} (hm:ι l=some m) :
  ∃ fn tmps assign body,(Instr.yield m.rb args'.toArray).run P w = .ok (.round m.rb fn tmps assign body) w∧RoundIn F n P m.rb fn tmps assign body w (Ret P ι h w v h'):=by
 unfold I2 at hv
 split at hv<;>try (cases hv;done)
 rename_i r hl
 split at hv<;>try (cases hv;done)
 rename_i hst hpd
 split at hv<;>try (cases hv;done)
 rename_i hpar
 split at hv<;>try (cases hv;done)
 rename_i fr hfr
 split at hv<;>try (cases hv;done)
 rename_i fr1 h1 ws1 h1e
 split at hv<;>try (cases hv;done)
 rename_i e fr2 h2 ws2 h2e
 split at hv<;>try (cases hv;done)
 rename_i hnot
 have hn1:l ∉ ws1:=fun hm => hnot (List.mem_append_left _ hm)
 have hn2:l ∉ ws2:=fun hm => hnot (List.mem_append_right _ hm)
 have hll:l<h.length:=(GI.1 hl).1
 have k1:=B4 hk (fun K hK => F8 hK k) _ _ _ _ _ _ _ _ h1e
 have k2:=B4 hk (fun K hK => F8 hK k) _ _ _ _ _ _ _ _ h2e
 simp only [List.length_set] at k2
 have hl1:h1[l]? = some (.loop r):=(k1.at_ l hll hn1).trans hl
 have hll1:l<h1.length:=Nat.lt_of_lt_of_le hll k1.len
 have hl2:h2[l]? = some (.loop { r with state:=.busy }):=(k2.at_ l hll1 hn2).trans (List.getElem?_set_self hll1)
 have hll2:l<h2.length:=(GI.1 hl2).1
 obtain ⟨m',hm',hobj⟩:=hs.obj l _ hl (by simp)
 rw [hm] at hm';cases hm'
 cases hobj with
 | @loop _ _ R hw gst gp gps gfr ga gb =>
  have hpar':∀ t∈r.params,t<r.sz:=by
   intro t ht;simpa using List.all_eq_true.1 hpar t ht
  obtain ⟨hplen,hpf⟩:=Ahe hpar' ha gfr hfr
  have hsz:args'.toArray.size=R.params.size:=by
   have:=ha.length
   have h3:R.params.size=r.params.length:=by rw [← gps];simp
   simp;omega
  refine ⟨R.fn,_,R.assign,R.body,run_yield hw hsz,roundIn_of_wpIn (hW.fn _) ?_⟩
  have htm:FFR ι r.sz (get fr) ((R.params.zip args'.toArray).foldl (fun tmps (x:Tmp × Value) => tmps.setIfInBounds x.1 x.2) R.tmps):=by
   have:(R.params.zip args'.toArray).toList=r.params.zip args':=by rw [Array.toList_zip,gps]
   rw [← Array.foldl_toList,this];exact hpf
  have inr:InR (F.inRound m.rb) ι h ws1:=fun lr hlr => by cases hlr;exact ⟨l,r,m,hl,hm,rfl,hn1⟩
  refine Ic (hW.inRound m.rb) hcf hk hmix 0 k R.assign r.assign ga _ h1e hs htm trivial (Nat.zero_le _) inr fun ι1 a1 w1 st1 old1 hf1 hmk => ?_
  simp only [Axb,Exit.then]
  have hm1:ι1 l=some m:=st1.sub _ _ hm
  obtain ⟨m1,hm1',hobj1⟩:=st1.sim.obj l _ hl1 (by simp)
  rw [hm1] at hm1';cases hm1'
  cases hobj1 with
  | @loop _ _ R1 hw1 gst1 gp1 gps1 gfr1 ga1 gb1 =>
   refine ⟨_,run_beginRound hw1 (by rw [gst1,hst]),?_⟩
   have hlt1:=(Array.getElem?_eq_some_iff.1 hw1).1
   have stb:=St.write (P:=P) (o':=.loop { r with state:=.busy }) st1.sim hl1 rfl hm1 (w':=w1.putObj m.rb (.loop { R1 with state:=.busy })) (by simp) (fun rb hne => World.putObj_heap_other hne) rfl rfl rfl
    (fun _ => .loop (World.putObj_heap_same hlt1) rfl gp1 gps1 gfr1 ga1 gb1) (.inl rfl)
   have inr2:InR (F.inRound m.rb) ι1 (h1.set l (.loop { r with state:=.busy })) ws2:=fun lr hlr => by
    cases hlr
    exact ⟨l,_,m,List.getElem?_set_self hll1,hm1,rfl,hn2⟩
   refine Ic (hW.inRound m.rb) hcf hk hmix 0 k R.body r.body gb _ h2e stb.sim hf1 (hmk.step st1.sim stb) (Nat.zero_le _) inr2 fun ι2 a2 w2 st2 old2 hf2 _ => ?_
   have hm2:ι2 l=some m:=st2.sub _ _ hm1
   obtain ⟨m2,hm2',hobj2⟩:=st2.sim.obj l _ hl2 (by simp)
   rw [hm2] at hm2';cases hm2'
   cases hobj2 with
   | @loop _ _ R2 hw2 gst2 gp2 gps2 gfr2 ga2 gb2 =>
    have hlt2:=(Array.getElem?_eq_some_iff.1 hw2).1
    have hready:∀ ds,St P ι2 h2 w2 ι2 (h2.set l (.loop r)) (w2.putObj m.rb (.loop { R2 with state:=.ready,pending:=none,defers:=ds })):=fun ds =>
     St.write (P:=P) (o':=.loop r) st2.sim hl2 rfl hm2 (by simp) (fun rb hne => World.putObj_heap_other hne) rfl rfl rfl
      (fun _ => .loop (World.putObj_heap_same hlt2) hst.symm (by rw [hpd];rfl) gps2 gfr2 ga2 gb2) (.inl rfl)
    have stAll:=(st1.trans stb).trans (st2.trans (hready R2.defers))
    have oldAll:Old ι h ι2:=fun b hb => (old2 b (by simp only [List.length_set];exact Nat.lt_of_lt_of_le hb k1.len)).trans (old1 b hb)
    have k3:Keeps h.length h (h2.set l (.loop r)) (ws1++ws2):=by
     refine ⟨by have:=k1.len;have:=k2.len;simp only [List.length_set] at *;omega,fun b hb hn => ?_⟩
     by_cases e:b=l
     ·subst e
      rw [List.getElem?_set_self hll2,hl]
     ·rw [List.getElem?_set_ne (Ne.symm e),k2.at_ b (Nat.lt_of_lt_of_le hb k1.len) (fun hm => hn (List.mem_append_right _ hm)),List.getElem?_set_ne (Ne.symm e),k1.at_ b hb (fun hm => hn (List.mem_append_left _ hm))]
    unfold Sc at hv
    split at hv<;>try (cases hv;done)
    rename_i v3 h3 ws3 hg
    obtain ⟨ι3,st3,old3,hv3⟩:=Aw3 hs stAll oldAll k3 (VR.bool _) hg
    have kg:=Z0 k3 hg
    have hl3:h3[l]? = some (.loop r):=(kg.at_ l hll fun hm => hnot (A48 hg l hm)).trans hl
    have hm3:ι3 l=some m:=(old3 l hll).trans hm
    have done:∀ (j:Option Nat),Kq e=some j→∃ v' w',(Instr.endRound m.rb (some (X5 j))).run P w2 = .ok v' w'∧Ret P ι h w v h' (.returned v') w':=by
     intro j hj
     rw [hj] at hv
     simp only [OI,Prod.mk.injEq] at hv
     obtain ⟨rfl,rfl,rfl⟩:=hv
     refine ⟨_,_,run_endRound (some (X5 j)) hw2,?_⟩
     have hb:(some (X5 j)).isNone=false:=rfl
     obtain ⟨m4,hm4,hobj4⟩:=st3.sim.obj l _ hl3 (by simp)
     rw [hm3] at hm4;cases hm4
     cases hobj4 with
     | @loop _ _ R4 hw4 gst4 gp4 gps4 gfr4 ga4 gb4 =>
      have hR4:R4={ R2 with state:=.ready,pending:=none,defers:=R2.defers }:=by
       have:(w2.putObj m.rb (.loop { R2 with state:=.ready,pending:=none,defers:=R2.defers })).heap[m.rb]? = some (.loop { R2 with state:=.ready,pending:=none,defers:=R2.defers }):=World.putObj_heap_same hlt2
       rw [hw4] at this;simpa using this
      subst hR4
      have st4:=St.write (P:=P) (o':=.loop { r with state:=.done,pending:=some j }) st3.sim hl3 rfl hm3 (w':=w2.putObj m.rb (.loop { R2 with state:=.done,pending:=some (X5 j) })) (by simp)
       (fun rb hne => (World.putObj_heap_other hne).trans (World.putObj_heap_other hne).symm) rfl rfl rfl
       (fun _ => .loop (World.putObj_heap_same hlt2) rfl rfl gps4 gfr4 ga4 gb4) (.inl rfl)
      refine ⟨ι3,_,rfl,st3.trans st4,old3,?_⟩
      rw [hb]
      have hle:(Kq e).isNone=false:=by rw [hj];rfl
      rw [hle] at hv3
      exact hv3
    cases e with
    | normal =>
     simp only [Kq,OI,Prod.mk.injEq] at hv
     obtain ⟨rfl,rfl,rfl⟩:=hv
     exact ⟨_,_,run_endRound none hw2,ι3,_,rfl,st3,old3,hv3⟩
    | ret => exact done none rfl
    | exit id => exact done (some id) rfl
end
def Ac0 (P:Program) (f:FuncId) (e:List Value→Aa→Option (Value × Aa × List Nat)):Prop :=
 ∀ args h v h' ws,e args h=some (v,h',ws)→∀ (F:Fence) (n:Nat),Wide F→∀ (ι : Inj) (w:World) (args':List Value),Sim P ι h w→VRs ι args args'→CallsIn F n P f args'.toArray w (Ret P ι h w v h')
def A2q (P:Program) (f:FuncId) (e:List Value→Aa→Option (Value × Aa × List Nat)):Prop :=
 ∀ args h v h' ws,e args h=some (v,h',ws)→(∀ l0 a0 b0,Value.func (.yield l0) a0 b0 ∉ args)∧∀ (ι : Inj) (w:World) (args':List Value),Sim P ι h w→VRs ι args args'→∃ v' w',(callFunc f args'.toArray).run P w = .ok (.value v') w'∧Ret P ι h w v h' (.returned v') w'
theorem Wide.fenced {F:Fence} (hW:Wide F) (m:Machine):m.fenced P F:=by
 intro g _
 refine ⟨fun h => ?_,Or.inl (hW.fn _),fun _ _ => hW.fn _,fun _ h => ?_⟩
 ·rw [hW.alive] at h;cases h
 ·rw [hW.depth] at h;cases h
theorem I6 {F:Fence} {n:Nat} (hW:Wide F) {f:FuncId} {args:Array Value} {w:World} {R:Ending→World→Prop} (h:Calls P f args w R):CallsIn F n P f args w R :=
 ⟨hW.fn f,fun cs _ => let ⟨e,w',fr,r,s,x⟩:=h cs;⟨e,w',fr,r,(by
  cases e with
  | returned v => exact (StepsIn.of_steps s).mono fun m _ => hW.fenced m
  | panicked chain => exact (StepsIn.of_steps s).mono fun m _ => hW.fenced m
  | outgrown => exact s),x⟩⟩
structure Ac1 (P:Program) (E:Env):Prop where
 mix:P.follows .mixedOrders=true
 keep:N6 E
 text:∀ f c,E f = .text c→FnC.of P f c
 textK:∀ f c,E f = .textK c→FnC.of P f c
 ext:∀ f e,E f = .ext e→(∃ fn,P.funcs[f]? = some fn∧fn.body.isNone=false∧(fn.name == "runtime.NumGoroutine")=false)∧Ac0 P f e∨A2q P f e
theorem Amb {f:FuncId} {fn:Func} (hf:P.funcs[f]? = some fn) (hb:fn.body.isNone=false) (hn:(fn.name == "runtime.NumGoroutine")=false) (args:Array Value) (w:World):(callFunc f args).run P w = .ok (.enter f args) w:=by
 simp only [callFunc,Sem.run_bind,run_program,Result.andThen_ok,hf,hn,hb,Bool.false_eq_true,if_false,Sem.run_pure]
theorem Mv {f:FuncId} {c:FnC} (hc:FnC.of P f c) (args:Array Value) (w:World):(callFunc f args).run P w = .ok (.enter f args) w:=by
 obtain ⟨lo,hc⟩:=hc
 simp only [OB] at hc
 obtain ⟨fn,hfn,hc⟩:=hc
 unfold Aps at hc
 split at hc
 ·cases hc
 ·rename_i hn
  simp only [OB] at hc
  obtain ⟨g,hb,_⟩:=hc
  exact Amb hfn (by rw [hb];rfl) (by simpa using hn) args w
theorem Ack {E:Env} (hE:Ac1 P E):∀ k,Lc P (Dv E k)
 | 0 => fun g args h v h' ws hv => by simp [Dv] at hv
 | k+1 => fun g args h v h' ws hv F n hW ι w g' args' hs hg ha => by
  have ih:=Ack hE k
  have hk:=Qt hE.keep k
  simp only [Dv,J4] at hv
  split at hv
  ·rename_i f first cap
   obtain ⟨fl⟩:=first
   obtain ⟨cl⟩:=cap
   obtain ⟨fl',cl',rfl,hfl,hcl⟩:=hg.func_inv
   have hall:VRs ι (fl++args++cl) (fl'++args'++cl'):=(hfl.append ha).append hcl
   have e1:fl'.toArray++args'.toArray++cl'.toArray=(fl'++args'++cl').toArray:=by apply Array.ext';simp
   refine ⟨{ target:=.fn (.func f) cl'.toArray,args:=fl'.toArray++args'.toArray },rfl,?_⟩
   have e2:invoke (.fn (.func f) cl'.toArray) (fl'.toArray++args'.toArray)=callFunc f (fl'++args'++cl').toArray:=by rw [← e1];rfl
   simp only [e2]
   cases hE':E f with
   | none => rw [hE'] at hv;cases hv
   | text c =>
    rw [hE'] at hv
    exact .inl (.inl ⟨f,_,Mv (hE.text f c hE') _ w,Ay6 hW ih hk hE.mix (hE.text f c hE') hv hs hall⟩)
   | textK c =>
    rw [hE'] at hv
    exact .inl (.inl ⟨f,_,Mv (hE.textK f c hE') _ w,Atr hW ih hk hE.mix (hE.textK f c hE') hv hs hall⟩)
   | ext e =>
    rw [hE'] at hv
    rcases hE.ext f e hE' with ⟨⟨fn,h1,h2,h3⟩,hx⟩ | hx
    ·exact .inl (.inl ⟨f,_,Amb h1 h2 h3 _ w,hx _ _ _ _ _ hv F n hW ι w _ hs hall⟩)
    ·obtain ⟨hny,hrun⟩:=hx _ _ _ _ _ hv
     exact .inr ⟨fun l0 a0 b0 hm => hny l0 a0 b0 (by simp [hm]),hrun ι w _ hs hall⟩
  ·rename_i l first cap
   obtain ⟨fl⟩:=first
   obtain ⟨cl⟩:=cap
   split at hv
   ·rename_i hcap
    have hcl0:cl=[]:=by simpa using hcap
    subst hcl0
    obtain ⟨m,fl',cl',hm,rfl,hfl,hcl⟩:=hg.yield_inv
    obtain ⟨fn,tmps,assign,body,h1,h2⟩:=Aug (F:=F) (n:=n) hW ih hk hE.mix hv hs (hfl.append ha) hm
    refine ⟨{ target:=.fn (.yield m.rb) cl'.toArray,args:=fl'.toArray++args'.toArray },rfl,.inl (.inr ⟨⟨_,_,_,rfl⟩,m.rb,fn,tmps,assign,body,?_,h2⟩)⟩
    have e1:fl'.toArray++args'.toArray=(fl'++args').toArray:=by apply Array.ext';simp
    show (Instr.yield m.rb (fl'.toArray++args'.toArray)).run P w=_
    rw [e1];exact h1
   ·cases hv
  ·cases hv
theorem Axx {E:Env} (hE:Ac1 P E):Lc P (callW E):=by
 intro g args h v h' ws hv
 obtain ⟨k,hk⟩:=callW_some.1 hv
 exact Ack hE k g args h v h' ws hk
end Go.L
namespace Go.L
open Go
variable {P:Program}
def LObj.readOnly:LObj→Bool
 | .cells _ true => true
 | .dead => true
 | _ => false
theorem A19 {ι : Inj} {h:Aa} (hr:h.all LObj.readOnly=true) (rb:Nat):¬ Wr ι h rb:=by
 rintro ⟨b,o,m,hb,hw,_,_⟩
 have:=List.all_eq_true.1 hr o (List.mem_of_getElem? hb)
 cases o with
 | cells c ro => cases ro<;>simp [LObj.readOnly,LObj.wr] at this hw
 | map es => simp [LObj.readOnly] at this
 | loop r => simp [LObj.readOnly] at this
 | bld r => simp [LObj.readOnly] at this
 | bytes r => simp [LObj.readOnly] at this
 | dead => simp [LObj.wr] at hw
structure Ayu (w w':World):Prop where
 size:w.heap.size≤w'.heap.size
 keep:∀ k,k<w.heap.size→w'.heap[k]? = w.heap[k]?
 os:w'.os=w.os
 tape:w'.tape=w.tape
 output:w'.output=w.output
theorem Ar2 {E:Env} (hE:Ac1 P E) {f:FuncId} {c:FnC} (hf:E f = .text c) {h h':Aa} {args args':List Value} {b:Bool} {ws:List Nat} {ι : Inj} {w:World} (hro:h.all LObj.readOnly=true)
  (hv:callW E (.func (.func f) #[] #[]) args h=some (.bool b,h',ws)) (hs:Sim P ι h w) (ha:VRs ι args args'):Calls P f args'.toArray w fun e w' => e = .returned (.bool b)∧Ayu w w':=by
 obtain ⟨d,hd,hinv⟩:=Axx hE _ _ _ _ _ _ hv Fence.wide 0 ⟨fun _ => trivial,rfl,rfl⟩ ι w (.func (.func f) #[] #[]) args' hs (VR.func f (a:=[]) (b:=[]) .nil .nil) ha
 have hd':d={ target:=.fn (.func f) #[],args:=#[]++args'.toArray }:=by
  have:(Deferred.ofValue (.func (.func f) #[] #[]) args'.toArray).run P w = .ok { target:=.fn (.func f) #[],args:=#[]++args'.toArray } w:=rfl
  rw [this] at hd;simpa using hd.symm
 subst hd'
 rcases hinv with (⟨fe,as,h1,h2⟩ | ⟨⟨_,_,_,hy⟩,_⟩) | ⟨_,vr,wr,h1,_⟩
 ·have he:(callFunc f (#[]++args'.toArray ++ #[])).run P w = .ok (.enter fe as) w:=h1
  rw [Mv (hE.text f c hf)] at he
  simp only [Result.ok.injEq,Next.enter.injEq,and_true] at he
  obtain ⟨rfl,rfl⟩:=he
  have h3:=callsIn_wide.1 h2
  have e2:#[]++args'.toArray ++ #[]=args'.toArray:=by simp
  rw [e2] at h3
  refine h3.mono fun e w' hr => ?_
  obtain ⟨ι',v',rfl,st,_,hvr⟩:=hr
  rw [hvr.bool_inv]
  exact ⟨rfl,st.size,fun k hk => st.keep k hk (A19 hro k),st.os,st.tape,st.output⟩
 ·cases hy
 ·have he:(callFunc f (#[]++args'.toArray ++ #[])).run P w = .ok (.value vr) wr:=h1
  rw [Mv (hE.text f c hf)] at he
  cases he
theorem At2 {ι : Inj} {h:Aa} {w:World} (hs:Sim P ι h w) (hro:h.all LObj.readOnly=true) {c:List Value} {m:Img} {arr:Array Value} {t:TypeId} {fz:Nat × Nat} (hw:w.heap[m.rb]? = some (.cells arr t fz)) (hsz:arr.size=m.size)
  (hl:m.off+c.length≤m.size) (hc:∀ i v,c[i]? = some v→∃ r,arr[m.off+i]? = some r∧VR ι v r) (ho:c.all Ah=true):Sim P (ι.put h.length m) (h++[.cells c true]) w:=by
 have hsub:=Inj.put_sub (hs.dom h.length (Nat.le_refl _)) m
 have old:∀ (x:Nat) (o:LObj),(h++[LObj.cells c true])[x]? = some o→(x<h.length∧h[x]? = some o)∨(x=h.length∧o = .cells c true):=by
  intro x o hx
  rcases Nat.lt_or_ge x h.length with hl | hl
  ·rw [GL hl] at hx;exact .inl ⟨hl,hx⟩
  ·rw [List.getElem?_append_right hl] at hx
   by_cases e:x=h.length
   ·subst e;simp at hx;exact .inr ⟨rfl,hx.symm⟩
   ·rw [List.getElem?_eq_none (by simp;omega)] at hx;cases hx
 refine ⟨fun b hb => ?_,fun b o hb hd => ?_,fun g hg => let ⟨s,h⟩:=hs.glob g hg;⟨s,hsub _ _ h⟩,?_⟩
 ·simp at hb;rw [Inj.put_ne m (by omega)];exact hs.dom b (by omega)
 ·rcases old b o hb with ⟨hl',hb'⟩ | ⟨rfl,rfl⟩
  ·obtain ⟨m',hm',hobj⟩:=hs.obj b o hb' hd
   exact ⟨m',hsub _ _ hm',hobj.sub hsub⟩
  ·exact ⟨m,Inj.put_same _ _ _,.cells hw hsz hl (fun i v hv => let ⟨r,h1,h2⟩:=hc i v hv;⟨r,h1,h2.mono hsub⟩) (fun h => by cases h) ho⟩
 ·intro x y o1 o2 m1 m2 hx hy hw1 _ _ _ _
  rcases old x o1 hx with ⟨_,hx'⟩ | ⟨_,rfl⟩
  ·have:=List.all_eq_true.1 hro o1 (List.mem_of_getElem? hx')
   cases o1 with
   | cells c ro => cases ro<;>simp [LObj.readOnly,LObj.wr] at this hw1
   | map es => simp [LObj.readOnly] at this
   | loop r => simp [LObj.readOnly] at this
   | bld r => simp [LObj.readOnly] at this
   | bytes r => simp [LObj.readOnly] at this
   | dead => simp [LObj.wr] at hw1
  ·simp [LObj.wr] at hw1
theorem Ana {h:Aa} (hro:h.all LObj.readOnly=true) (c:List Value):(h++[LObj.cells c true]).all LObj.readOnly=true:=by
 rw [List.all_append,hro];rfl
end Go.L
namespace Go.L
open Go
variable {P:Program}
theorem St.of_left {ι : Inj} {h:Aa} {w w':World} (hs:Sim P ι h w) (hl:Ayu w w'):St P ι h w ι h w' :=
 ⟨Sub.refl _,⟨hs.dom,fun b o hb hd => let ⟨m,hm,hr⟩:=hs.obj b o hb hd;⟨m,hm,hr.world (hl.keep _ hr.lt)⟩,hs.glob,hs.inj⟩,hl.size,hl.os,hl.tape,hl.output,fun rb hlt _ => hl.keep rb hlt,fun _ h _ => h⟩
def Amw (G h:Aa):Prop:=∀ (g:Nat) (o:LObj),G[g]? = some o→o ≠ .dead→h[g]? = some o
open Classical in
noncomputable def constE (G:Aa) (b:Value):List Value→Aa→Option (Value × Aa × List Nat):=fun args h => match args with
 | [] => if Amw G h then some (b,h,[]) else none
 | _ :: _ => none
theorem Asp {G h:Aa} {b:Value} (hb:Amw G h):constE G b [] h=some (b,h,[]):=by simp [constE,hb]
theorem Acc {G h h':Aa} {b v:Value} {args:List Value} {ws:List Nat} (hv:constE G b args h=some (v,h',ws)):args=[]∧Amw G h∧v=b∧h'=h∧ws=[]:=by
 cases args with
 | cons x r => cases hv
 | nil =>
  simp only [constE] at hv
  split at hv
  ·rename_i hb
   simp only [OI,Prod.mk.injEq] at hv
   exact ⟨rfl,hb,hv.1.symm,hv.2.1.symm,hv.2.2.symm⟩
  ·cases hv
theorem Aj4 (G:Aa) (b:Value):∀ args h v h' ws,constE G b args h=some (v,h',ws)→Keeps h.length h h' ws:=by
 intro args h v h' ws hv
 obtain ⟨_,_,_,rfl,rfl⟩:=Acc hv
 exact Keeps.refl _ _ _
theorem Aml {E:Env} (hE:Ac1 P E) {f:FuncId} {c:FnC} (hf:E f = .text c) {n:Nat} {b:Value} {G G':Aa} {ws:List Nat} (hb:Ae 0 4 b=true) (hlen:G.length=P.globals.size) (hro:G.all LObj.readOnly=true) (hG:G.all (fun o => Il 0 (some o))=true)
  (hv:Dv E n (.func (.func f) #[] #[]) [] G=some (b,G',ws)):Ac0 P f (constE G b):=by
 intro args h v h' ws' hc F nn hW ι w args' hs ha
 obtain ⟨rfl,hbeg,rfl,rfl,rfl⟩:=Acc hc
 cases ha
 have hs0:Sim P (fun x => if x<P.globals.size then ι x else none) G w:=by
  refine ⟨fun x hx => if_neg (by omega),fun x o hx hd => ?_,fun g hg => ?_,fun x y o o' m m' hx _ hw => ?_⟩
  ·have hl:x<P.globals.size:=by have:=(GI.1 hx).1;omega
   obtain ⟨m,hm,hobj⟩:=hs.obj x o (hbeg x o hx hd) hd
   exact ⟨m,by simp [hl,hm],ObjR.low (n:=0) (fun b hb => absurd hb (Nat.not_lt_zero _)) (List.all_eq_true.1 hG o (List.mem_of_getElem? hx)) hd hobj⟩
  ·obtain ⟨s,h1⟩:=hs.glob g hg
   exact ⟨s,by simp [hg,h1]⟩
  ·have:=List.all_eq_true.1 hro o (List.mem_of_getElem? hx)
   cases o with
   | cells c ro => cases ro<;>simp [LObj.readOnly,LObj.wr] at this hw
   | map es => simp [LObj.readOnly] at this
   | loop r => simp [LObj.readOnly] at this
   | bld r => simp [LObj.readOnly] at this
   | bytes r => simp [LObj.readOnly] at this
   | dead => simp [LObj.wr] at hw
 obtain ⟨d,hd,hinv⟩:=Ack hE n _ _ _ _ _ _ hv F nn hW _ w (.func (.func f) #[] #[]) [] hs0 (VR.func f (a:=[]) (b:=[]) .nil .nil) .nil
 have hd':d={ target:=.fn (.func f) #[],args:=#[] ++ #[] }:=by
  have:(Deferred.ofValue (.func (.func f) #[] #[]) ([]:List Value).toArray).run P w = .ok { target:=.fn (.func f) #[],args:=#[] ++ #[] } w:=rfl
  rw [this] at hd;simpa using hd.symm
 subst hd'
 rcases hinv with (⟨fe,as,h1,h2⟩ | ⟨⟨_,_,_,hy⟩,_⟩) | ⟨_,vr,wr,h1,_⟩
 ·have he:(callFunc f (#[] ++ #[] ++ #[])).run P w = .ok (.enter fe as) w:=h1
  rw [Mv (hE.text f c hf)] at he
  simp only [Result.ok.injEq,Next.enter.injEq,and_true] at he
  obtain ⟨rfl,rfl⟩:=he
  refine CallsIn.mono (R:=Ret P (fun x => if x<P.globals.size then ι x else none) G w v G') (by simpa using h2) fun e w' hr => ?_
  obtain ⟨ι',v',rfl,st,_,hvr⟩:=hr
  have hl:Ayu w w':=⟨st.size,fun k hk => st.keep k hk (A19 hro k),st.os,st.tape,st.output⟩
  exact ⟨ι,v',rfl,St.of_left hs hl,Old.refl _ _,VR.low (m:=0) (fun b hb => absurd hb (Nat.not_lt_zero _)) 4 hb hvr⟩
 ·cases hy
 ·have he:(callFunc f (#[] ++ #[] ++ #[])).run P w = .ok (.value vr) wr:=h1
  rw [Mv (hE.text f c hf)] at he
  cases he
end Go.L
