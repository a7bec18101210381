/- THE LOGICAL MACHINE AND THE MODEL: loops over functions; code, whole. -/
import Derived.Test.YtdklgcjbjphadaaS22
set_option linter.unusedVariables false
set_option linter.unusedSimpArgs false
namespace Go.L
open Go
variable {P : Program}
section
variable {F : Fence} {n : Nat} {cf : CallT} {sz : Nat}
theorem loop_ok {n0 : Nat} {x : Code} {K : Fr → Heap → Out} (hx : CodeOK F n P n0 x K sz) (hK : KeepF K) : ∀ (k : Nat) (Q : Exit → Act → World → Prop) {ι : Inj} {h : Heap} {w : World} {fr : Fr} {a : Act} {e : Ex} {fr' : Fr} {h' : Heap} {ws : List Nat},
    iter k K fr h = some (e, fr', h', ws) → Sim P ι h w → FFR ι sz (get fr) a.tmps → Marks n0 w a.defers → n0 ≤ w.heap.size → InR F ι h ws →
    (∀ ι' a' w', St P ι h w ι' h' w' → Old ι h ι' → FFR ι' sz (get fr') a'.tmps → Marks n0 w' a'.defers → Q (exOf e) a' w') → LoopAt F n P x Q a w
  | 0, Q, ι, h, w, fr, a, e, fr', h', ws, hv, hs, hf, hm, hn, hi, hq => by simp [iter] at hv
  | k + 1, Q, ι, h, w, fr, a, e, fr', h', ws, hv, hs, hf, hm, hn, hi, hq => by
    refine loopAt_round ?_
    simp only [iter, thenN] at hv
    split at hv
    · rename_i fr1 h1 ws1 h1e
      split at hv
      · rename_i e2 fr2 h2 ws2 h2e
        simp only [Option.some.injEq, Prod.mk.injEq] at hv
        obtain ⟨rfl, rfl, rfl, rfl⟩ := hv
        have kk := hK _ _ _ _ _ _ h1e
        refine hx _ h1e hs hf hm hn hi.left fun ι1 a1 w1 st1 old1 hf1 hm1 => ?_
        exact loop_ok hx hK k Q h2e st1.sim hf1 hm1 (Nat.le_trans hn st1.size) (hi.right kk st1.sub) fun ι2 a2 w2 st2 old2 hf2 hm2 => hq ι2 a2 w2 (st1.trans st2) (old1.trans kk.len old2) hf2 hm2
      · cases hv
    · rename_i hne
      refine hx _ hv hs hf hm hn hi fun ι1 a1 w1 st1 old1 hf1 hm1 => ?_
      cases e with
      | normal => exact absurd hv (hne _ _ _)
      | exit id => exact hq ι1 a1 w1 st1 old1 hf1 hm1
      | ret => exact hq ι1 a1 w1 st1 old1 hf1 hm1
/-- Entering a loop over a function. -/
theorem run_enter (F : Fence) (fn : FuncId) (tmps : Array Value) (ps : Array Tmp) (assign body : Code) {ι : Inj} {h : Heap} {w : World} {ws : List Nat} (hs : Sim P ι h w) (hi : InR F ι h ws) :
    ∃ mark w0 df, (Instr.enterLoop fn tmps ps assign body F.round).run P w = .ok (w0.heap.size, mark) (w0.alloc (.loop { state := .ready, pending := none, fn, tmps, params := ps, assign, body, defers := df })) ∧
      St P ι h w ι h w0 ∧ (∀ n0 ds, n0 ≤ w.heap.size → Marks n0 w ds → Marks n0 w0 (mark ++ ds)) := by
  cases hr : F.round with
  | none =>
    refine ⟨[{ target := .collected w.heap.size, args := #[] }], w.alloc (.deferred (some [])), w.heap.size, ?_, St.garbage hs _, fun n0 ds hn hm => ?_⟩
    · rw [run_enterLoop_outer]
      simp [World.size_alloc]
    · refine ⟨⟨w.heap.size, rfl, push_new, hn, fun d hd ht => ?_⟩, hm.step hs (St.garbage hs _)⟩
      have lt : ∀ {ds : List Deferred}, Marks n0 w ds → ∀ d ∈ ds, ∀ r, d.target = .collected r → r < w.heap.size := by
        intro ds
        induction ds with
        | nil => intro _ d hd; cases hd
        | cons x ds ih =>
          intro hm d hd r hr
          rcases List.mem_cons.1 hd with rfl | hd
          · obtain ⟨⟨r', h1, h2, _⟩, _⟩ := hm
            rw [h1] at hr; cases hr
            exact (Array.getElem?_eq_some_iff.1 h2).1
          · exact ih hm.2 d hd r hr
      exact Nat.lt_irrefl _ (lt hm d hd _ ht)
  | some lr =>
    obtain ⟨l, r, m, h1, h2, h3, _⟩ := hi lr hr
    obtain ⟨m', hm', hobj⟩ := hs.obj l _ h1 (by simp)
    rw [h2] at hm'; cases hm'
    cases hobj with
    | @loop _ R hw h5 h6 h7 h8 h9 h10 =>
      rw [h3] at hw
      refine ⟨[], w, R.defers, ?_, St.refl hs, fun n0 ds _ hm => hm⟩
      unfold Instr.enterLoop
      simp only [Sem.run_bind, run_getLoop hw, run_newObj_alloc, Result.andThen, Sem.run_pure]
theorem range_ok (hW : Wide F) (hcf : CallOK P cf) (hk : KeepC cf) {n0 : Nat} {g : Operand} {gx : X} {ps : Array Tmp} {assign body : Code} {ca cb : C} (hg : cX g = some gx) (ha : comp P sz assign = some (bare ca)) (hb : comp P sz body = some (bare cb)) :
    CodeOK F n P n0 (.rangeFunc g ps assign body) (fun fr h => rangeEnd h fr (fnCall cf (ev (get fr) gx) [.func (.yield h.length) #[] #[]] (h ++ [.loop { state := .ready, pending := none, fr, sz, params := ps.toList, assign := ca, body := cb }]))) sz := by
  intro Q ι h w fr a e fr' h' ws hv hs hf hm hn hir hq
  simp only [rangeEnd] at hv
  split at hv
  · rename_i vr h2 ws2 hc
    have hc' : ∃ f0 a0 b0, ev (get fr) gx = .func (.func f0) a0 b0 ∧ cf (ev (get fr) gx) [.func (.yield h.length) #[] #[]] (h ++ [.loop { state := .ready, pending := none, fr, sz, params := ps.toList, assign := ca, body := cb }]) = some (vr, h2, ws2) := by
      unfold fnCall at hc
      split at hc
      · rename_i f0 a0 b0 eg; exact ⟨f0, a0, b0, eg, by rw [eg]; exact hc⟩
      · cases hc
    obtain ⟨f0, a0, b0, eg, hcall⟩ := hc'
    split at hv
    · rename_i r2 hr2
      split at hv
      · cases hv
      · rename_i hbusy
        split at hv
        · rename_i vg hg2 wsg hgc
          refine wpIn_rangeFunc fun fn _ => ?_
          obtain ⟨mark, w0, df, henter, st0, hmarks⟩ := run_enter F fn a.tmps ps assign body hs hir
          have hobj : ObjR P (ι.put h.length ⟨w0.heap.size, 0, 0⟩) (w0.alloc (.loop { state := .ready, pending := none, fn, tmps := a.tmps, params := ps, assign, body, defers := df })) ⟨w0.heap.size, 0, 0⟩
              (.loop { state := .ready, pending := none, fr, sz, params := ps.toList, assign := ca, body := cb }) :=
            .loop push_new rfl rfl rfl (hf.mono (Inj.put_sub (hs.dom _ (Nat.le_refl _)) _)) ha hb
          have st1 := St.push (P := P) (m := ⟨w0.heap.size, 0, 0⟩) (o := .loop { state := .ready, pending := none, fr, sz, params := ps.toList, assign := ca, body := cb }) st0.sim rfl (fun _ => hobj)
          have st01 := st0.trans st1
          have rg := (ev_rel hf hg).mono st01.sub
          obtain ⟨d, hd, hinv⟩ := hcf _ _ _ _ _ _ hcall F (n - 1) hW _ _ (a.eval g) [.func (.yield w0.heap.size) #[] #[]] st1.sim rg
            (.cons (VR.yield (l := h.length) (m := ⟨w0.heap.size, 0, 0⟩) (Inj.put_same _ _ _) (a := []) (b := []) .nil .nil) .nil)
          rcases hinv with (⟨fe, as, hinv1, hcalls⟩ | ⟨⟨_, _, _, hy⟩, _⟩) | ⟨hny, _⟩
          · refine ⟨w0.heap.size, mark, _, d, _, fe, as, _, henter, ?_, fun f' _ => hW.fn f', hinv1, (fun hh => by rw [hW.depth] at hh; cases hh), hcalls.mono fun en w' hret => ?_⟩
            · simp only [resolve, rangeCall]
              simpa [Act.eval] using hd
            · obtain ⟨ι2, v', rfl, stc, oldc, hvr⟩ := hret
              have hl1 : h.length < (h ++ [LObj.loop { state := .ready, pending := none, fr, sz, params := ps.toList, assign := ca, body := cb }]).length := by simp
              obtain ⟨m2, hm2, hobj2⟩ := stc.sim.obj h.length _ hr2 (by simp)
              have hm2' : m2 = ⟨w0.heap.size, 0, 0⟩ := by
                rw [oldc _ hl1, Inj.put_same] at hm2; cases hm2; rfl
              subst hm2'
              cases hobj2 with
              | loop hw hst hp hps hfr hca hcb =>
                rename_i R2
                have hnb : R2.state ≠ .busy := by rw [hst]; intro h; exact hbusy h
                have hend := run_endLoop (P := P) hw hnb
                have hlt := (Array.getElem?_eq_some_iff.1 hw).1
                have stw := St.write (P := P) (o' := .dead) stc.sim hr2 rfl hm2 (w' := w'.putObj w0.heap.size (.loop { R2 with state := .exhausted })) (by simp) (fun rb hne => World.putObj_heap_other hne) rfl rfl rfl (fun hh => absurd rfl hh) (.inr rfl)
                have stall := st01.trans (stc.trans stw)
                have oldall : Old ι h ι2 := fun b hb => (oldc b (by omega)).trans (Old.put ι h _ b hb)
                have kall : Keeps h.length h (h2.set h.length .dead) ws2 := by
                  have k0 := Keeps.push (Nat.le_refl h.length) [LObj.loop { state := .ready, pending := none, fr, sz, params := ps.toList, assign := ca, body := cb }] []
                  have k1 := k0.trans ((hk _ _ _ _ _ _ hcall).less (by simp))
                  simpa using k1.trans (Keeps.set_high (Nat.le_refl _) LObj.dead [])
                obtain ⟨ι3, st3, old3, _⟩ := gc_ok hs stall oldall kall VR.undef hgc
                have hmk : Marks n0 (w'.putObj w0.heap.size (.loop { R2 with state := .exhausted })) (mark ++ a.defers) :=
                  (hmarks n0 _ hn hm).step st0.sim (st1.trans (stc.trans stw))
                refine ⟨R2.pending, _, hend, ?_⟩
                suffices key : ∀ pj : Option Code, pj = r2.pending.map jumpOf → (match (generalizing := false) pj with
                    | none => Q .normal { a with defers := mark ++ a.defers } (w'.putObj w0.heap.size (.loop { R2 with state := .exhausted }))
                    | some c => c.wpIn F n P Q { a with defers := mark ++ a.defers } (w'.putObj w0.heap.size (.loop { R2 with state := .exhausted }))) from key _ hp
                intro pj hpj
                subst hpj
                cases hpd : r2.pending with
                | none =>
                  rw [hpd] at hv
                  simp only [Option.some.injEq, Prod.mk.injEq] at hv; obtain ⟨rfl, rfl, rfl, rfl⟩ := hv
                  exact hq ι3 _ _ st3 old3 (hf.mono st3.sub) hmk
                | some j =>
                  rw [hpd] at hv
                  cases j with
                  | none =>
                    simp only [Option.some.injEq, Prod.mk.injEq] at hv; obtain ⟨rfl, rfl, rfl, rfl⟩ := hv
                    exact wpIn_ret (hq ι3 _ _ st3 old3 (hf.mono st3.sub) hmk)
                  | some id =>
                    simp only [Option.some.injEq, Prod.mk.injEq] at hv; obtain ⟨rfl, rfl, rfl, rfl⟩ := hv
                    exact wpIn_exit (hq ι3 _ _ st3 old3 (hf.mono st3.sub) hmk)
          · rw [eg] at hy; cases hy
          · exact absurd (List.mem_singleton.2 rfl) (hny h.length #[] #[])
        · cases hv
    · cases hv
  · cases hv
theorem code_ok (hW : Wide F) (hcf : CallOK P cf) (hk : KeepC cf) (hmix : P.follows .mixedOrders = true) (n0 k : Nat) : ∀ (g : Code) (c : C), comp P sz g = some (bare c) → CodeOK F n P n0 g (code cf (iter k) sz c) sz
  | .skip, c, hc => by
    simp only [comp, Option.some.injEq] at hc
    rw [bare_skip hc.symm]
    intro Q ι h w fr a e fr' h' ws hv hs hf hm hn hi hq
    simp only [code, Option.some.injEq, Prod.mk.injEq] at hv; obtain ⟨rfl, rfl, rfl, rfl⟩ := hv
    exact wpIn_skip (hq ι a w (St.refl hs) (Old.refl _ _) hf hm)
  | .label l, c, hc => by
    simp only [comp, Option.some.injEq] at hc
    rw [bare_skip hc.symm]
    intro Q ι h w fr a e fr' h' ws hv hs hf hm hn hi hq
    simp only [code, Option.some.injEq, Prod.mk.injEq] at hv; obtain ⟨rfl, rfl, rfl, rfl⟩ := hv
    exact wpIn_label (hq ι a w (St.refl hs) (Old.refl _ _) hf hm)
  | .scope b, c, hc => by
    simp only [comp] at hc
    intro Q ι h w fr a e fr' h' ws hv hs hf hm hn hi hq
    refine wpIn_scope (code_ok hW hcf hk hmix n0 k b c hc _ hv hs hf hm hn hi fun ι' a' w' st old hf' hm' => ?_)
    have := hq ι' a' w' st old hf' hm'
    cases e <;> exact this
  | .region id ops draw, c, hc => by
    simp only [comp, Option.bind_eq_some_iff] at hc
    obtain ⟨ins, hi, hc⟩ := hc
    cases draw with
    | true =>
      simp only [if_true, Option.map_eq_some_iff] at hc
      obtain ⟨⟨nn, r⟩, hd, hc⟩ := hc
      obtain ⟨l, rfl⟩ := bare_drw hc.symm
      exact drawn_ok hW hcf hk hmix hi hd l
    | false =>
      simp only [Bool.false_eq_true, if_false, Option.some.injEq] at hc
      obtain ⟨l, rfl⟩ := bare_reg hc.symm
      exact region_ok hW hcf hk hi l
  | .seq x y, c, hc => by
    simp only [comp, Option.bind_eq_some_iff, Option.map_eq_some_iff] at hc
    obtain ⟨x', hx, y', hy, hc⟩ := hc
    obtain ⟨cx, cy, rfl, rfl, rfl⟩ := bare_seq hc.symm
    exact seq_ok (code_ok hW hcf hk hmix n0 k x cx hx) (code_keep hk (fun K hK => iter_keep hK k) sz cx) (code_ok hW hcf hk hmix n0 k y cy hy)
  | .cond v x y, c, hc => by
    simp only [comp, Option.bind_eq_some_iff, Option.map_eq_some_iff] at hc
    obtain ⟨v', hv', x', hx, y', hy, hc⟩ := hc
    obtain ⟨cx, cy, rfl, rfl, rfl⟩ := bare_cond hc.symm
    intro Q ι h w fr a e fr' h' ws hv hs hf hm hn hi hq
    simp only [code, condO] at hv
    split at hv
    · rename_i t et
      have hr := ev_rel hf hv'
      rw [et] at hr
      refine wpIn_cond hr.bool_inv ?_
      cases t with
      | true => exact code_ok hW hcf hk hmix n0 k x cx hx Q hv hs hf hm hn hi hq
      | false => exact code_ok hW hcf hk hmix n0 k y cy hy Q hv hs hf hm hn hi hq
    · cases hv
  | .block id b, c, hc => by
    simp only [comp, Option.map_eq_some_iff] at hc
    obtain ⟨b', hb, hc⟩ := hc
    obtain ⟨cb, rfl, rfl⟩ := bare_block hc.symm
    intro Q ι h w fr a e fr' h' ws hv hs hf hm hn hi hq
    simp only [code, inBlock] at hv
    refine wpIn_block ?_
    split at hv
    · rename_i j fr1 h1 ws1 h1e
      by_cases hj : j = id
      · rw [if_pos hj] at hv
        simp only [Option.some.injEq, Prod.mk.injEq] at hv; obtain ⟨rfl, rfl, rfl, rfl⟩ := hv
        refine code_ok hW hcf hk hmix n0 k b cb hb _ h1e hs hf hm hn hi fun ι' a' w' st old hf' hm' => ?_
        simp only [exOf, Exit.inBlock, hj, if_true]
        exact hq ι' a' w' st old hf' hm'
      · rw [if_neg hj] at hv
        simp only [Option.some.injEq, Prod.mk.injEq] at hv; obtain ⟨rfl, rfl, rfl, rfl⟩ := hv
        refine code_ok hW hcf hk hmix n0 k b cb hb _ h1e hs hf hm hn hi fun ι' a' w' st old hf' hm' => ?_
        simp only [exOf, Exit.inBlock, hj, if_false]
        exact hq ι' a' w' st old hf' hm'
    · rename_i hne
      refine code_ok hW hcf hk hmix n0 k b cb hb _ hv hs hf hm hn hi fun ι' a' w' st old hf' hm' => ?_
      have := hq ι' a' w' st old hf' hm'
      cases e with
      | exit j => exact absurd hv (hne _ _ _ _)
      | normal => exact this
      | ret => exact this
  | .loop b, c, hc => by
    simp only [comp, Option.map_eq_some_iff] at hc
    obtain ⟨b', hb, hc⟩ := hc
    obtain ⟨cb, rfl, rfl⟩ := bare_loop hc.symm
    intro Q ι h w fr a e fr' h' ws hv hs hf hm hn hi hq
    exact wpIn_loopAt (loop_ok (code_ok hW hcf hk hmix n0 k b cb hb) (code_keep hk (fun K hK => iter_keep hK k) sz cb) k Q hv hs hf hm hn hi hq)
  | .exit id, c, hc => by
    simp only [comp, Option.some.injEq] at hc
    rw [bare_exit hc.symm]
    intro Q ι h w fr a e fr' h' ws hv hs hf hm hn hi hq
    simp only [code, Option.some.injEq, Prod.mk.injEq] at hv; obtain ⟨rfl, rfl, rfl, rfl⟩ := hv
    exact wpIn_exit (hq ι a w (St.refl hs) (Old.refl _ _) hf hm)
  | .ret, c, hc => by
    simp only [comp, Option.some.injEq] at hc
    rw [bare_ret hc.symm]
    intro Q ι h w fr a e fr' h' ws hv hs hf hm hn hi hq
    simp only [code, Option.some.injEq, Prod.mk.injEq] at hv; obtain ⟨rfl, rfl, rfl, rfl⟩ := hv
    exact wpIn_ret (hq ι a w (St.refl hs) (Old.refl _ _) hf hm)
  | .rangeFunc g ps x y, c, hc => by
    simp only [comp, Option.bind_eq_some_iff, Option.map_eq_some_iff] at hc
    obtain ⟨g', hg, x', hx, y', hy, hc⟩ := hc
    obtain ⟨cx, cy, rfl, rfl, rfl⟩ := bare_rng hc.symm
    exact range_ok hW hcf hk hg hx hy
  | .goto l, c, hc => by simp [comp] at hc
  | .refuse s, c, hc => by simp [comp] at hc
end
end Go.L
