/- THE LOGICAL MACHINE AND THE MODEL: loops over functions; code, whole. -/
import Derived.Test.YtlmadipiopnfeaaDoorSg
set_option linter.unusedVariables false
set_option linter.unusedSimpArgs false
namespace Go.L
open Go
variable {P : Program}
section
variable {F : Fence} {n : Nat} {cf : Bk} {sz : Nat}
theorem Ank {n0 : Nat} {x : Code} {K : Fr → Aa → Out} (hx : Ss F n P n0 x K sz) (hK : Nh K) : ∀ (k : Nat) (Q : Exit → Act → World → Prop) {ι : Inj} {h : Aa} {w : World} {fr : Fr} {a : Act} {e : Ex} {fr' : Fr} {h' : Aa} {ws : List Nat},
  Hy k K fr h = some (e, fr', h', ws) → Sim P ι h w → FFR ι sz (get fr) a.tmps → Marks n0 w a.defers → n0 ≤ w.heap.size → InR F ι h ws →
  (∀ ι' a' w', St P ι h w ι' h' w' → Old ι h ι' → FFR ι' sz (get fr') a'.tmps → Marks n0 w' a'.defers → Q (Au4 e) a' w') → Afc F n P x Q a w
 | 0, Q, ι, h, w, fr, a, e, fr', h', ws, hv, hs, hf, hm, hn, hi, hq => by simp [Hy] at hv
 | k + 1, Q, ι, h, w, fr, a, e, fr', h', ws, hv, hs, hf, hm, hn, hi, hq => by
  refine Ael ?_
  simp only [Hy, Gf] at hv
  split at hv
  ·rename_i o p m c
   split at hv
   ·rename_i r j h2 l d
    simp only [OI, Prod.mk.injEq] at hv
    obtain ⟨rfl, rfl, rfl, rfl⟩ := hv
    have g := hK _ _ _ _ _ _ c
    refine hx _ c hs hf hm hn hi.left fun ι1 a1 w1 st1 old1 hf1 hm1 => ?_
    exact Ank hx hK k Q d st1.sim hf1 hm1 (Nat.le_trans hn st1.size) (hi.right g st1.sub) fun ι2 a2 w2 st2 old2 hf2 hm2 => hq ι2 a2 w2 (st1.trans st2) (old1.trans g.len old2) hf2 hm2
   ·cases hv
  ·rename_i f
   refine hx _ hv hs hf hm hn hi fun ι1 a1 w1 st1 old1 hf1 hm1 => ?_
   cases e with
   | normal => exact absurd hv (f _ _ _)
   | exit id => exact hq ι1 a1 w1 st1 old1 hf1 hm1
   | ret => exact hq ι1 a1 w1 st1 old1 hf1 hm1
theorem App (F : Fence) (fn : FuncId) (tmps : Array Value) (ps : Array Tmp) (assign body : Code) {ι : Inj} {h : Aa} {w : World} {ws : List Nat} (hs : Sim P ι h w) (hi : InR F ι h ws) :
  ∃ mark w0 df, (Instr.enterLoop fn tmps ps assign body F.round).run P w = .ok (w0.heap.size, mark) (w0.alloc (.loop { state := .ready, pending := none, fn, tmps, params := ps, assign, body, defers := df })) ∧
   St P ι h w ι h w0 ∧ (∀ n0 ds, n0 ≤ w.heap.size → Marks n0 w ds → Marks n0 w0 (mark ++ ds)) := by
 cases f : F.round with
 | none =>
  refine ⟨[{ target := .collected w.heap.size, args := #[] }], w.alloc (.deferred (some [])), w.heap.size, ?_, St.garbage hs _, fun n0 ds j a => ?_⟩
  ·rw [run_enterLoop_outer]
   simp [World.size_alloc]
  ·refine ⟨⟨w.heap.size, rfl, Ol, j, fun d hd o => ?_⟩, a.step hs (St.garbage hs _)⟩
   have lt : ∀ {ds : List Deferred}, Marks n0 w ds → ∀ d ∈ ds, ∀ r, d.target = .collected r → r < w.heap.size := by
    intro ds
    induction ds with
    | nil => intro _ d hd; cases hd
    | cons x ds ih =>
     intro a d hd r f
     rcases List.mem_cons.1 hd with rfl | hd
     ·obtain ⟨⟨s, g, h2, _⟩, _⟩ := a
      rw [g] at f; cases f
      exact (Array.getElem?_eq_some_iff.1 h2).1
     ·exact ih a.2 d hd r f
   exact Nat.lt_irrefl _ (lt a d hd _ o)
 | some lr =>
  obtain ⟨l, r, m, g, h2, n, _⟩ := hi lr f
  obtain ⟨p, c, e⟩ := hs.obj l _ g (by simp)
  rw [h2] at c; cases c
  cases e with
  | @loop _ R hw h5 h6 h7 h8 h9 h10 =>
   rw [n] at hw
   refine ⟨[], w, R.defers, ?_, St.refl hs, fun n0 ds _ a => a⟩
   unfold Instr.enterLoop
   simp only [Sem.run_bind, run_getLoop hw, run_newObj_alloc, Result.andThen, Sem.run_pure]
theorem Asn (hW : Wide F) (hcf : Kn P cf) (hk : Ge cf) {n0 : Nat} {g : Operand} {gx : X} {ps : Array Tmp} {assign body : Code} {ca cb : C} (hg : cX g = some gx) (ha : J1 P sz assign = some (Eu ca)) (hb : J1 P sz body = some (Eu cb)) :
  Ss F n P n0 (.rangeFunc g ps assign body) (fun fr h => Fm h fr (Jo cf (ev (get fr) gx) [.func (.yield h.length) #[] #[]] (h ++ [.loop { state := .ready, pending := none, fr, sz, params := ps.toList, assign := ca, body := cb }]))) sz := by
 intro Q ι h w fr a e fr' h' ws hv hs hf hm hn hir hq
 simp only [Fm] at hv
 split at hv
 ·rename_i vr h2 ad hc
  have an : ∃ f0 a0 b0, ev (get fr) gx = .func (.func f0) a0 b0 ∧ cf (ev (get fr) gx) [.func (.yield h.length) #[] #[]] (h ++ [.loop { state := .ready, pending := none, fr, sz, params := ps.toList, assign := ca, body := cb }]) = some (vr, h2, ad) := by
   unfold Jo at hc
   split at hc
   ·rename_i f0 a0 b0 eg; exact ⟨f0, a0, b0, eg, by rw [eg]; exact hc⟩
   ·cases hc
  obtain ⟨f0, a0, b0, eg, s⟩ := an
  split at hv
  ·rename_i r2 ah
   split at hv
   ·cases hv
   ·rename_i a6
    split at hv
    ·rename_i vg ar au hgc
     refine wpIn_rangeFunc fun fn _ => ?_
     obtain ⟨f, r, df, u, a5, x⟩ := App F fn a.tmps ps assign body hs hir
     have ag : ObjR P (ι.put h.length ⟨r.heap.size, 0, 0⟩) (r.alloc (.loop { state := .ready, pending := none, fn, tmps := a.tmps, params := ps, assign, body, defers := df })) ⟨r.heap.size, 0, 0⟩
       (.loop { state := .ready, pending := none, fr, sz, params := ps.toList, assign := ca, body := cb }) :=
      .loop Ol rfl rfl rfl (hf.mono (Inj.put_sub (hs.dom _ (Nat.le_refl _)) _)) ha hb
     have aa := St.push (P := P) (m := ⟨r.heap.size, 0, 0⟩) (o := .loop { state := .ready, pending := none, fr, sz, params := ps.toList, assign := ca, body := cb }) a5.sim rfl (fun _ => ag)
     have a2 := a5.trans aa
     have rg := (Au hf hg).mono a2.sub
     obtain ⟨d, hd, af⟩ := hcf _ _ _ _ _ _ s F (n - 1) hW _ _ (a.eval g) [.func (.yield r.heap.size) #[] #[]] aa.sim rg
      (.cons (VR.yield (l := h.length) (m := ⟨r.heap.size, 0, 0⟩) (Inj.put_same _ _ _) (a := []) (b := []) .nil .nil) .nil)
     rcases af with (⟨fe, as, a9, z⟩ | ⟨⟨_, _, _, hy⟩, _⟩) | ⟨am, _⟩
     ·refine ⟨r.heap.size, f, _, d, _, fe, as, _, u, ?_, fun f' _ => hW.fn f', a9, (fun hh => by rw [hW.depth] at hh; cases hh), z.mono fun en w' ai => ?_⟩
      ·simp only [resolve, rangeCall]
       simpa [Act.eval] using hd
      ·obtain ⟨ι2, v', rfl, v, a1, av⟩ := ai
       have ak : h.length < (h ++ [LObj.loop { state := .ready, pending := none, fr, sz, params := ps.toList, assign := ca, body := cb }]).length := by simp
       obtain ⟨m2, a3, a4⟩ := v.sim.obj h.length _ ah (by simp)
       have ab : m2 = ⟨r.heap.size, 0, 0⟩ := by
        rw [a1 _ ak, Inj.put_same] at a3; cases a3; rfl
       subst ab
       cases a4 with
       | loop hw hst hp hps hfr hca hcb =>
        rename_i R2
        have ap : R2.state ≠ .busy := by rw [hst]; intro h; exact a6 h
        have ac := run_endLoop (P := P) hw ap
        have aq := (Array.getElem?_eq_some_iff.1 hw).1
        have aj := St.write (P := P) (o' := .dead) v.sim ah rfl a3 (w' := w'.putObj r.heap.size (.loop { R2 with state := .exhausted })) (by simp) (fun rb al => World.putObj_heap_other al) rfl rfl rfl (fun hh => absurd rfl hh) (.inr rfl)
        have a7 := a2.trans (v.trans aj)
        have y : Old ι h ι2 := fun b hb => (a1 b (by omega)).trans (Old.put ι h _ b hb)
        have ae : Keeps h.length h (h2.set h.length .dead) ad := by
         have k0 := Keeps.push (Nat.le_refl h.length) [LObj.loop { state := .ready, pending := none, fr, sz, params := ps.toList, assign := ca, body := cb }] []
         have k1 := k0.trans ((hk _ _ _ _ _ _ s).less (by simp))
         simpa using k1.trans (Keeps.set_high (Nat.le_refl _) LObj.dead [])
        obtain ⟨ι3, p, t, _⟩ := Auw hs a7 y ae VR.undef hgc
        have a8 : Marks n0 (w'.putObj r.heap.size (.loop { R2 with state := .exhausted })) (f ++ a.defers) :=
         (x n0 _ hn hm).step a5.sim (aa.trans (v.trans aj))
        refine ⟨R2.pending, _, ac, ?_⟩
        suffices key : ∀ pj : Option Code, pj = r2.pending.map Xd → (match (generalizing := false) pj with
          | none => Q .normal { a with defers := f ++ a.defers } (w'.putObj r.heap.size (.loop { R2 with state := .exhausted }))
          | some c => c.wpIn F n P Q { a with defers := f ++ a.defers } (w'.putObj r.heap.size (.loop { R2 with state := .exhausted }))) from key _ hp
        intro pj ao
        subst ao
        cases hpd : r2.pending with
        | none =>
         rw [hpd] at hv
         simp only [OI, Prod.mk.injEq] at hv; obtain ⟨rfl, rfl, rfl, rfl⟩ := hv
         exact hq ι3 _ _ p t (hf.mono p.sub) a8
        | some j =>
         rw [hpd] at hv
         cases j with
         | none =>
          simp only [OI, Prod.mk.injEq] at hv; obtain ⟨rfl, rfl, rfl, rfl⟩ := hv
          exact wpIn_ret (hq ι3 _ _ p t (hf.mono p.sub) a8)
         | some id =>
          simp only [OI, Prod.mk.injEq] at hv; obtain ⟨rfl, rfl, rfl, rfl⟩ := hv
          exact wpIn_exit (hq ι3 _ _ p t (hf.mono p.sub) a8)
     ·rw [eg] at hy; cases hy
     ·exact absurd (List.mem_singleton.2 rfl) (am h.length #[] #[])
    ·cases hv
  ·cases hv
 ·cases hv
theorem G7 (hW : Wide F) (hcf : Kn P cf) (hk : Ge cf) (hmix : P.follows .mixedOrders = true) (n0 k : Nat) : ∀ (g : Code) (c : C), J1 P sz g = some (Eu c) → Ss F n P n0 g (code cf (Hy k) sz c) sz
 | .skip, c, d => by
  simp only [J1, OI] at d
  rw [Ado d.symm]
  intro Q ι h w fr a e fr' h' ws hv hs hf hm hn f hq
  simp only [code, OI, Prod.mk.injEq] at hv; obtain ⟨rfl, rfl, rfl, rfl⟩ := hv
  exact wpIn_skip (hq ι a w (St.refl hs) (Old.refl _ _) hf hm)
 | .label l, c, d => by
  simp only [J1, OI] at d
  rw [Ado d.symm]
  intro Q ι h w fr a e fr' h' ws hv hs hf hm hn f hq
  simp only [code, OI, Prod.mk.injEq] at hv; obtain ⟨rfl, rfl, rfl, rfl⟩ := hv
  exact wpIn_label (hq ι a w (St.refl hs) (Old.refl _ _) hf hm)
 | .scope b, c, d => by
  simp only [J1] at d
  intro Q ι h w fr a e fr' h' ws hv hs hf hm hn f hq
  refine Ai9 (G7 hW hcf hk hmix n0 k b c d _ hv hs hf hm hn f fun ι' a' w' st old hf' hm' => ?_)
  have := hq ι' a' w' st old hf' hm'
  cases e <;> exact this
 | .region id ops draw, c, d => by
  simp only [J1, OB] at d
  obtain ⟨a5, f, d⟩ := d
  cases draw with
  | true =>
   simp only [if_true, OM] at d
   obtain ⟨⟨nn, r⟩, hd, d⟩ := d
   obtain ⟨l, rfl⟩ := Av8 d.symm
   exact Avc hW hcf hk hmix f hd l
  | false =>
   simp only [Bool.false_eq_true, if_false, OI] at d
   obtain ⟨l, rfl⟩ := Av7 d.symm
   exact Apv hW hcf hk f l
 | .seq x y, c, d => by
  simp only [J1, OB, OM] at d
  obtain ⟨x', p, y', z, d⟩ := d
  obtain ⟨u, cy, rfl, rfl, rfl⟩ := Av4 d.symm
  exact A0m (G7 hW hcf hk hmix n0 k x u p) (B6 hk (fun K hK => F3 hK k) sz u) (G7 hW hcf hk hmix n0 k y cy z)
 | .cond v x y, c, d => by
  simp only [J1, OB, OM] at d
  obtain ⟨v', a1, x', p, y', z, d⟩ := d
  obtain ⟨u, cy, rfl, rfl, rfl⟩ := Aq1 d.symm
  intro Q ι h w fr a e fr' h' ws hv hs hf hm hn f hq
  simp only [code, Vz] at hv
  split at hv
  ·rename_i t et
   have hr := Au hf a1
   rw [et] at hr
   refine wpIn_cond hr.bool_inv ?_
   cases t with
   | true => exact G7 hW hcf hk hmix n0 k x u p Q hv hs hf hm hn f hq
   | false => exact G7 hW hcf hk hmix n0 k y cy z Q hv hs hf hm hn f hq
  ·cases hv
 | .block id b, c, d => by
  simp only [J1, OM] at d
  obtain ⟨b', o, d⟩ := d
  obtain ⟨m, rfl, rfl⟩ := Ak3 d.symm
  intro Q ι h w fr a e fr' h' ws hv hs hf hm hn f hq
  simp only [code, inBlock] at hv
  refine wpIn_block ?_
  split at hv
  ·rename_i j a3 h1 a4 a0
   by_cases hj : j = id
   ·rw [if_pos hj] at hv
    simp only [OI, Prod.mk.injEq] at hv; obtain ⟨rfl, rfl, rfl, rfl⟩ := hv
    refine G7 hW hcf hk hmix n0 k b m o _ a0 hs hf hm hn f fun ι' a' w' st old hf' hm' => ?_
    simp only [Au4, Exit.inBlock, hj, if_true]
    exact hq ι' a' w' st old hf' hm'
   ·rw [if_neg hj] at hv
    simp only [OI, Prod.mk.injEq] at hv; obtain ⟨rfl, rfl, rfl, rfl⟩ := hv
    refine G7 hW hcf hk hmix n0 k b m o _ a0 hs hf hm hn f fun ι' a' w' st old hf' hm' => ?_
    simp only [Au4, Exit.inBlock, hj, if_false]
    exact hq ι' a' w' st old hf' hm'
  ·rename_i a2
   refine G7 hW hcf hk hmix n0 k b m o _ hv hs hf hm hn f fun ι' a' w' st old hf' hm' => ?_
   have := hq ι' a' w' st old hf' hm'
   cases e with
   | exit j => exact absurd hv (a2 _ _ _ _)
   | normal => exact this
   | ret => exact this
 | .loop b, c, d => by
  simp only [J1, OM] at d
  obtain ⟨b', o, d⟩ := d
  obtain ⟨m, rfl, rfl⟩ := Aqz d.symm
  intro Q ι h w fr a e fr' h' ws hv hs hf hm hn f hq
  exact Afi (Ank (G7 hW hcf hk hmix n0 k b m o) (B6 hk (fun K hK => F3 hK k) sz m) k Q hv hs hf hm hn f hq)
 | .exit id, c, d => by
  simp only [J1, OI] at d
  rw [Aq0 d.symm]
  intro Q ι h w fr a e fr' h' ws hv hs hf hm hn f hq
  simp only [code, OI, Prod.mk.injEq] at hv; obtain ⟨rfl, rfl, rfl, rfl⟩ := hv
  exact wpIn_exit (hq ι a w (St.refl hs) (Old.refl _ _) hf hm)
 | .ret, c, d => by
  simp only [J1, OI] at d
  rw [Av6 d.symm]
  intro Q ι h w fr a e fr' h' ws hv hs hf hm hn f hq
  simp only [code, OI, Prod.mk.injEq] at hv; obtain ⟨rfl, rfl, rfl, rfl⟩ := hv
  exact wpIn_ret (hq ι a w (St.refl hs) (Old.refl _ _) hf hm)
 | .rangeFunc g ps x y, c, d => by
  simp only [J1, OB, OM] at d
  obtain ⟨g', hg, x', p, y', z, d⟩ := d
  obtain ⟨u, cy, rfl, rfl, rfl⟩ := Av5 d.symm
  exact Asn hW hcf hk hg p z
 | .goto l, c, d => by simp [J1] at d
 | .refuse s, c, d => by simp [J1] at d
end
end Go.L
namespace Go.L
open Go
variable {P : Program} {ι ι1 : Inj} {h h1 : Aa} {w w1 : World}
theorem St.shut (st : St P ι h w ι1 h1 w1) {r : Nat} {ds : Option (List Deferred)} (hr : w1.heap[r]? = some (.deferred ds)) (hge : w.heap.size ≤ r) : St P ι h w ι1 h1 (w1.putObj r (.deferred none)) := by
 refine ⟨st.sub, ⟨st.sim.dom, fun b o l d => ?_, st.sim.glob, st.sim.inj⟩, by simpa using st.size, st.os, st.tape, st.output, fun f j g => ?_, st.new⟩
 ·obtain ⟨m, n, c⟩ := st.sim.obj b o l d
  refine ⟨m, n, c.world (World.putObj_heap_other fun e => ?_)⟩
  subst e
  cases c with
  | cells a => rw [hr] at a; cases a
  | map a => rw [hr] at a; cases a
  | loop a => rw [hr] at a; cases a
 ·rw [World.putObj_heap_other (by omega)]; exact st.keep f j g
section
variable {F : Fence} {n : Nat} {cf : Bk}
theorem T4 {fr : Fr} {tmps : Array Value} {sz : Nat} (hs : Sim P ι h w) (hf : FFR ι sz (get fr) tmps) : ∀ {rs : List ResultVar} {res : List R} {vs : List Value}, rs.mapM (cR P) = some res → Mm fr h res = some vs →
  ∃ vs', (rs.mapM (m := Sem) fun | .tmp t => pure (tmps.getD t undef) | .cell a t => do loadVar t (← asAddr (tmps.getD a undef))).run P w = .ok vs' w ∧ VRs ι vs vs'
 | [], res, vs, hr, hl => by
  simp at hr; subst hr
  simp [Mm] at hl; subst hl
  exact ⟨[], by simp, .nil⟩
 | r :: rs, res, vs, hr, hl => by
  simp only [List.mapM_cons, Option.bind_eq_bind, OB, Option.pure_def, OI] at hr
  obtain ⟨q, e, z, d, rfl⟩ := hr
  cases r with
  | tmp t =>
   simp only [cR, OI] at e; subst e
   simp only [Mm, OM] at hl
   obtain ⟨l, c, rfl⟩ := hl
   obtain ⟨vs', f, h2⟩ := T4 hs hf d c
   exact ⟨_, by simp only [List.mapM_cons, Sem.run_bind, Sem.run_pure, Result.andThen_ok, f], .cons (hf.at_ t) h2⟩
  | cell ad t =>
   simp only [cR, OM] at e
   obtain ⟨g, j, rfl⟩ := e
   simp only [Mm, OB, OM] at hl
   obtain ⟨v, p, l, c, rfl⟩ := hl
   obtain ⟨vs', f, h2⟩ := T4 hs hf d c
   obtain ⟨o, n, y, x, s⟩ := Xv hs j (hf.at_ ad) p
   refine ⟨n :: vs', ?_, .cons s h2⟩
   have u : (asAddr (tmps.getD ad undef)).run P w = .ok o w := by rw [y]; rfl
   simp only [List.mapM_cons, Sem.run_bind, Sem.run_pure, Result.andThen_ok, f, u, x]
theorem Ash {vs vs' : List Value} (h : VRs ι vs vs') : VR ι (Qp vs) (if h : vs'.toArray.size = 1 then vs'.toArray[0] else .tuple vs'.toArray) := by
 cases h with
 | nil => exact .tuple .nil
 | cons h1 h2 =>
  cases h2 with
  | nil => exact h1
  | cons h2 h3 => exact .tuple (.cons h1 (.cons h2 h3))
theorem Xu {fn : Func} {fr : Fr} {tmps : Array Value} {sz : Nat} (hs : Sim P ι h w) (hf : FFR ι sz (get fr) tmps) {res : List R} {vs : List Value} (hr : fn.results.toList.mapM (cR P) = some res) (hl : Mm fr h res = some vs) :
  ∃ vr, (results fn tmps).run P w = .ok vr w ∧ VR ι (Qp vs) vr := by
 obtain ⟨c, d, h2⟩ := T4 hs hf hr hl
 refine ⟨_, ?_, Ash h2⟩
 unfold results
 rw [Array.mapM_eq_mapM_toList]
 have a : ∀ {α β : Type} (g : α → β) (x : Sem α) (y : α) (w' : World), x.run P w = .ok y w' → (g <$> x).run P w = .ok (g y) w' := by
  intro α β g x y w' hx
  rw [map_eq_pure_bind]
  simp only [Sem.run_bind, hx, Result.andThen]; rfl
 have e := a List.toArray _ _ _ d
 rw [Sem.run_bind]
 exact Eq.trans (congrArg (fun x => Result.andThen x _) e) rfl
theorem Ads : ∀ (l : List Value) (i s : Nat), get (Ak l i) s = if i ≤ s then (l[s - i]?).getD Kf else Kf
 | [], i, s => by simp [Ak, get]
 | v :: l, i, s => by
  simp only [Ak, get]
  by_cases e : s = i
  ·subst e; simp
  ·rw [if_neg e, Ads l (i + 1) s]
   by_cases a : i ≤ s
   ·rw [if_pos (by omega), if_pos a]
    have : s - i = (s - (i + 1)) + 1 := by omega
    rw [this]; rfl
   ·rw [if_neg (by omega), if_neg a]
theorem Ait {sz : Nat} {args args' : List Value} (ha : VRs ι args args') (hl : args.length ≤ sz) : FFR ι sz (get (Ak args 0)) (args'.toArray ++ Array.replicate (sz - args'.toArray.size) undef) := by
 have e := ha.length
 refine ⟨by simp; omega, fun s => ?_⟩
 rw [Ads]
 simp only [Nat.zero_le, if_true, Nat.sub_zero]
 cases hs : args[s]? with
 | none => exact .any _
 | some v =>
  obtain ⟨r, d, c⟩ := ha.at_ hs
  have a : s < args'.length := (GI.1 d).1
  rw [Array.getD_eq_getD_getElem?, Array.getElem?_append_left (by simpa using a)]
  simp only [List.getElem?_toArray, d, Option.getD_some]
  exact c
theorem Xb {fn : Func} {tmps : Array Value} {R : Ending → World → Prop} {n0 : Nat} (hn0 : w.heap.size ≤ n0) : ∀ {ds : List Deferred} {w1 : World}, St P ι h w ι1 h1 w1 → Marks n0 w1 ds →
  (∀ w2, St P ι h w ι1 h1 w2 → ∃ v, (results fn tmps).run P w2 = .ok v w2 ∧ R (.returned v) w2) → LeavesInM F n P fn tmps R ds .returning w1
 | [], w1, st, _, hq => hq w1 st
 | d :: ds, w1, st, g, hq => by
  obtain ⟨⟨r, f, h2, u, s⟩, h5⟩ := g
  refine ⟨by simp, .inl ⟨r, w1.putObj r (.deferred none), f, run_takeDeferred h2, Xb hn0 (st.shut h2 (by omega)) ?_ hq⟩⟩
  have step : ∀ {ds : List Deferred}, Marks n0 w1 ds → (∀ j ∈ ds, j.target ≠ .collected r) → Marks n0 (w1.putObj r (.deferred none)) ds := by
   intro ds
   induction ds with
   | nil => intro _ _; trivial
   | cons x ds ih =>
    intro g a
    obtain ⟨⟨t, l, p, m, o⟩, k5⟩ := g
    refine ⟨⟨t, l, ?_, m, o⟩, ih k5 fun j c => a j (by simp [c])⟩
    rw [World.putObj_heap_other (fun e => a x (by simp) (by rw [l, e]))]
    exact p
  exact step h5 s
theorem Aws (hW : Wide F) (hcf : Kn P cf) (hk : Ge cf) (hmix : P.follows .mixedOrders = true) {f : FuncId} {c : FnC} (hc : FnC.of P f c) {k : Nat} {args args' : List Value} {v : Value} {h' : Aa} {ws : List Nat} (hv : Gb cf (Hy k) (.text c) args h = some (v, h', ws))
  (hs : Sim P ι h w) (ha : VRs ι args args') : CallsIn F n P f args'.toArray w (Ret P ι h w v h') := by
 have s : CallsIn { F with round := none } n P f args'.toArray w (Ret P ι h w v h') := by
  have a5 : Wide { F with round := none } := ⟨hW.fn, hW.depth, hW.alive⟩
  unfold FnC.of at hc
  simp only [OB] at hc
  obtain ⟨fn, a4, hc⟩ := hc
  unfold An4 at hc
  split at hc
  ·cases hc
  ·simp only [OB, OM] at hc
   obtain ⟨g, l, o, y, b, hb, hc⟩ := hc
   obtain ⟨aa, a9, d⟩ := c
   simp only [FnC.mk.injEq] at hc
   obtain ⟨rfl, rfl, rfl⟩ := hc
   simp only [Gb] at hv
   split at hv
   ·rename_i r
    refine callsIn_of_wp_marks a4 l (hW.fn f) ?_
    cases hx : code cf (Hy k) fn.ntmps d (Ak args 0) h with
    | none => rw [hx] at hv; cases hv
    | some p =>
     obtain ⟨e, a2, t, x⟩ := p
     rw [hx] at hv
     have kk := B6 hk (fun K hK => F3 hK k) _ _ _ _ _ _ _ _ hx
     refine G7 a5 hcf hk hmix w.heap.size k g d hb _ hx hs (Ait ha r) trivial (Nat.le_refl _) (fun lr hl => by cases hl) fun ι1 a1 w1 st old hf1 hm1 => ?_
     have a0 : ∀ m, m ≠ Ex.normal → m ≠ Ex.ret → fin o h (some (m, a2, t, x)) = none := by
      intro m t h2; cases m <;> first | rfl | exact absurd rfl t | exact absurd rfl h2
     have ends : (∃ j, Mm a2 t o = some j ∧ gc h (Qp j) t x = some (v, h', ws)) → LeavesInM { F with round := none } n P fn a1.tmps (Ret P ι h w v h') a1.defers .returning w1 := by
      rintro ⟨j, a, hg⟩
      refine Xb (Nat.le_refl _) st hm1 fun w2 z => ?_
      obtain ⟨vr, a6, a7⟩ := Xu z.sim hf1 y a
      obtain ⟨ι3, a3, u, a8⟩ := Auw hs z old kk a7 hg
      exact ⟨vr, a6, ι3, vr, rfl, a3, u, a8⟩
     cases e with
     | exit id => rw [a0 _ (by simp) (by simp)] at hv; cases hv
     | normal =>
      refine ends ?_
      simp only [fin] at hv
      split at hv
      ·rename_i j a; exact ⟨j, a, hv⟩
      ·cases hv
     | ret =>
      refine ends ?_
      simp only [fin] at hv
      split at hv
      ·rename_i j a; exact ⟨j, a, hv⟩
      ·cases hv
   ·cases hv
 exact s
theorem Ars (hW : Wide F) (hcf : Kn P cf) (hk : Ge cf) (hmix : P.follows .mixedOrders = true) {f : FuncId} {c : FnC} (hc : FnC.of P f c) {k : Nat} {args args' : List Value} {v : Value} {h' : Aa} {ws : List Nat} (hv : Gb cf (Hy k) (.textK c) args h = some (v, h', ws))
  (hs : Sim P ι h w) (ha : VRs ι args args') : CallsIn F n P f args'.toArray w (Ret P ι h w v h') := by
 have s : CallsIn { F with round := none } n P f args'.toArray w (Ret P ι h w v h') := by
  have a3 : Wide { F with round := none } := ⟨hW.fn, hW.depth, hW.alive⟩
  unfold FnC.of at hc
  simp only [OB] at hc
  obtain ⟨fn, a2, hc⟩ := hc
  unfold An4 at hc
  split at hc
  ·cases hc
  ·simp only [OB, OM] at hc
   obtain ⟨g, l, o, x, b, hb, hc⟩ := hc
   obtain ⟨a8, a7, d⟩ := c
   simp only [FnC.mk.injEq] at hc
   obtain ⟨rfl, rfl, rfl⟩ := hc
   simp only [Gb] at hv
   split at hv
   ·rename_i r
    refine callsIn_of_wp_marks a2 l (hW.fn f) ?_
    cases hx : code cf (Hy k) fn.ntmps d (Ak args 0) h with
    | none => rw [hx] at hv; cases hv
    | some p =>
     obtain ⟨e, a0, t, u⟩ := p
     rw [hx] at hv
     have kk := B6 hk (fun K hK => F3 hK k) _ _ _ _ _ _ _ _ hx
     refine G7 a3 hcf hk hmix w.heap.size k g d hb _ hx hs (Ait ha r) trivial (Nat.le_refl _) (fun lr hl => by cases hl) fun ι1 a1 w1 st a4 hf1 hm1 => ?_
     have z : ∀ m, m ≠ Ex.normal → m ≠ Ex.ret → Yq o (some (m, a0, t, u)) = none := by
      intro m t h2; cases m <;> first | rfl | exact absurd rfl t | exact absurd rfl h2
     have ends : (∃ j, Mm a0 t o = some j ∧ some (Qp j, t, u) = some (v, h', ws)) → LeavesInM { F with round := none } n P fn a1.tmps (Ret P ι h w v h') a1.defers .returning w1 := by
      rintro ⟨j, a, hg⟩
      refine Xb (Nat.le_refl _) st hm1 fun w2 y => ?_
      obtain ⟨vr, a5, a6⟩ := Xu y.sim hf1 x a
      simp only [OI, Prod.mk.injEq] at hg
      obtain ⟨rfl, rfl, rfl⟩ := hg
      exact ⟨vr, a5, ι1, vr, rfl, y, a4, a6⟩
     cases e with
     | exit id => rw [z _ (by simp) (by simp)] at hv; cases hv
     | normal =>
      refine ends ?_
      simp only [Yq] at hv
      split at hv
      ·rename_i j a; exact ⟨j, a, hv⟩
      ·cases hv
     | ret =>
      refine ends ?_
      simp only [Yq] at hv
      split at hv
      ·rename_i j a; exact ⟨j, a, hv⟩
      ·cases hv
   ·cases hv
 exact s
end
end Go.L
namespace Go.L
open Go
variable {P : Program} {ι ι1 : Inj} {h h1 : Aa} {w w1 : World}
theorem A2o {h0 h h' : Aa} {v v' : Value} {ws ws' : List Nat} (hv : gc h0 v h ws = some (v', h', ws')) : ∀ b ∈ ws', b ∈ ws := by
 unfold gc at hv
 split at hv
 ·split at hv
  ·simp only [OI, Prod.mk.injEq] at hv; obtain ⟨_, _, rfl⟩ := hv; intro b a; cases a
  ·unfold V0 at hv
   simp only at hv
   split at hv <;> (simp only [OI, Prod.mk.injEq] at hv; obtain ⟨_, _, rfl⟩ := hv; intro b a; cases a)
 ·rename_i u c d
  have : ∀ b ∈ u :: c, b ∈ ws := fun b a => (List.mem_filter.1 (by rw [d]; exact a)).1
  split at hv <;> (simp only [OI, Prod.mk.injEq] at hv; obtain ⟨_, _, rfl⟩ := hv; exact this)
section
variable {F : Fence} {n : Nat} {cf : Bk}
theorem Afx {ι : Inj} {sz : Nat} : ∀ {ts : List Nat} {vs vs' : List Value} {fr fr' : Fr} {tmps : Array Value}, (∀ t ∈ ts, t < sz) → VRs ι vs vs' → FFR ι sz (get fr) tmps → setPs ts vs fr = some fr' →
  ts.length = vs.length ∧ FFR ι sz (get fr') ((ts.zip vs').foldl (fun tmps (x : Nat × Value) => tmps.setIfInBounds x.1 x.2) tmps)
 | [], [], vs', fr, fr', tmps, _, hv, c, hp => by
  simp only [setPs, OI] at hp; subst hp
  exact ⟨rfl, c⟩
 | t :: ts, v :: vs, _, fr, fr', tmps, ht, .cons (b := r) (m := vs') h1 h2, c, hp => by
  simp only [setPs] at hp
  have a : FFR ι sz (get ((t, v) :: fr)) (tmps.setIfInBounds t r) := c.put (ht t (by simp)) h1
  obtain ⟨f, e⟩ := Afx (fun x d => ht x (by simp [d])) h2 a hp
  exact ⟨by simp [f], e⟩
 | [], _ :: _, _, _, _, _, _, _, _, hp => by simp [setPs] at hp
 | _ :: _, [], _, _, _, _, _, _, _, hp => by simp [setPs] at hp
theorem Asf (hW : Wide F) (hcf : Kn P cf) (hk : Ge cf) (hmix : P.follows .mixedOrders = true) {k l : Nat} {args args' : List Value} {v : Value} {h' : Aa} {ws : List Nat} (hv : Im cf (Hy k) l args h = some (v, h', ws))
  (hs : Sim P ι h w) (ha : VRs ι args args') {m : Img} (hm : ι l = some m) :
  ∃ fn tmps assign body, (Instr.yield m.rb args'.toArray).run P w = .ok (.round m.rb fn tmps assign body) w ∧ RoundIn F n P m.rb fn tmps assign body w (Ret P ι h w v h') := by
 unfold Im at hv
 split at hv <;> try (cases hv; done)
 rename_i r hl
 split at hv <;> try (cases hv; done)
 rename_i ar b1
 split at hv <;> try (cases hv; done)
 rename_i au
 split at hv <;> try (cases hv; done)
 rename_i fr av
 split at hv <;> try (cases hv; done)
 rename_i b6 h1 aa as
 split at hv <;> try (cases hv; done)
 rename_i e b5 h2 a8 ai
 split at hv <;> try (cases hv; done)
 rename_i g
 have aq : l ∉ aa := fun hm => g (List.mem_append_left _ hm)
 have aj : l ∉ a8 := fun hm => g (List.mem_append_right _ hm)
 have y : l < h.length := (GI.1 hl).1
 have k1 := B6 hk (fun K hK => F3 hK k) _ _ _ _ _ _ _ _ as
 have k2 := B6 hk (fun K hK => F3 hK k) _ _ _ _ _ _ _ _ ai
 simp only [List.length_set] at k2
 have ae : h1[l]? = some (.loop r) := (k1.at_ l y aq).trans hl
 have c : l < h1.length := Nat.lt_of_lt_of_le y k1.len
 have a9 : h2[l]? = some (.loop { r with state := .busy }) := (k2.at_ l c aj).trans (List.getElem?_set_self c)
 have ao : l < h2.length := (GI.1 a9).1
 obtain ⟨m', al, am⟩ := hs.obj l _ hl (by simp)
 rw [hm] at al; cases al
 cases am with
 | @loop _ R hw gst gp gps gfr ga gb =>
  have a5 : ∀ t ∈ r.params, t < r.sz := by
   intro t ht; simpa using List.all_eq_true.1 au t ht
  obtain ⟨b3, b2⟩ := Afx a5 ha gfr av
  have ay : args'.toArray.size = R.params.size := by
   have := ha.length
   have h3 : R.params.size = r.params.length := by rw [← gps]; simp
   simp; omega
  refine ⟨R.fn, _, R.assign, R.body, run_yield hw ay, roundIn_of_wpIn (hW.fn _) ?_⟩
  have b4 : FFR ι r.sz (get fr) ((R.params.zip args'.toArray).foldl (fun tmps (x : Tmp × Value) => tmps.setIfInBounds x.1 x.2) R.tmps) := by
   have : (R.params.zip args'.toArray).toList = r.params.zip args' := by rw [Array.toList_zip, gps]
   rw [← Array.foldl_toList, this]; exact b2
  have ax : InR (F.inRound m.rb) ι h aa := fun lr ac => by cases ac; exact ⟨l, r, m, hl, hm, rfl, aq⟩
  refine G7 (hW.inRound m.rb) hcf hk hmix 0 k R.assign r.assign ga _ as hs b4 trivial (Nat.zero_le _) ax fun ι1 a1 w1 st1 old1 hf1 hmk => ?_
  simp only [Au4, Exit.then]
  have p : ι1 l = some m := st1.sub _ _ hm
  obtain ⟨m1, a0, a6⟩ := st1.sim.obj l _ ae (by simp)
  rw [p] at a0; cases a0
  cases a6 with
  | @loop _ R1 hw1 gst1 gp1 gps1 gfr1 ga1 gb1 =>
   refine ⟨_, run_beginRound hw1 (by rw [gst1, ar]), ?_⟩
   have ag := (Array.getElem?_eq_some_iff.1 hw1).1
   have ab := St.write (P := P) (o' := .loop { r with state := .busy }) st1.sim ae rfl p (w' := w1.putObj m.rb (.loop { R1 with state := .busy })) (by simp) (fun rb a => World.putObj_heap_other a) rfl rfl rfl
    (fun _ => .loop (World.putObj_heap_same ag) rfl gp1 gps1 gfr1 ga1 gb1) (.inl rfl)
   have an : InR (F.inRound m.rb) ι1 (h1.set l (.loop { r with state := .busy })) a8 := fun lr ac => by
    cases ac
    exact ⟨l, _, m, List.getElem?_set_self c, p, rfl, aj⟩
   refine G7 (hW.inRound m.rb) hcf hk hmix 0 k R.body r.body gb _ ai ab.sim hf1 (hmk.step st1.sim ab) (Nat.zero_le _) an fun ι2 a2 w2 st2 old2 hf2 _ => ?_
   have af : ι2 l = some m := st2.sub _ _ p
   obtain ⟨m2, z, a3⟩ := st2.sim.obj l _ a9 (by simp)
   rw [af] at z; cases z
   cases a3 with
   | @loop _ R2 hw2 gst2 gp2 gps2 gfr2 ga2 gb2 =>
    have d := (Array.getElem?_eq_some_iff.1 hw2).1
    have s : ∀ ds, St P ι2 h2 w2 ι2 (h2.set l (.loop r)) (w2.putObj m.rb (.loop { R2 with state := .ready, pending := none, defers := ds })) := fun ds =>
     St.write (P := P) (o' := .loop r) st2.sim a9 rfl af (by simp) (fun rb a => World.putObj_heap_other a) rfl rfl rfl
      (fun _ => .loop (World.putObj_heap_same d) ar.symm (by rw [b1]; rfl) gps2 gfr2 ga2 gb2) (.inl rfl)
    have a4 := (st1.trans ab).trans (st2.trans (s R2.defers))
    have u : Old ι h ι2 := fun b hb => (old2 b (by simp only [List.length_set]; exact Nat.lt_of_lt_of_le hb k1.len)).trans (old1 b hb)
    have k3 : Keeps h.length h (h2.set l (.loop r)) (aa ++ a8) := by
     refine ⟨by have := k1.len; have := k2.len; simp only [List.length_set] at *; omega, fun b hb hn => ?_⟩
     by_cases e : b = l
     ·subst e
      rw [List.getElem?_set_self ao, hl]
     ·rw [List.getElem?_set_ne (Ne.symm e), k2.at_ b (Nat.lt_of_lt_of_le hb k1.len) (fun hm => hn (List.mem_append_right _ hm)), List.getElem?_set_ne (Ne.symm e), k1.at_ b hb (fun hm => hn (List.mem_append_left _ hm))]
    unfold Rh at hv
    split at hv <;> try (cases hv; done)
    rename_i v3 h3 b7 hg
    obtain ⟨ι3, o, f, ad⟩ := Auw hs a4 u k3 (VR.bool _) hg
    have kg := Y0 k3 hg
    have ak : h3[l]? = some (.loop r) := (kg.at_ l y fun hm => g (A2o hg l hm)).trans hl
    have ap : ι3 l = some m := (f l y).trans hm
    have done : ∀ (j : Option Nat), Kd e = some j → ∃ v' w', (Instr.endRound m.rb (some (Xd j))).run P w2 = .ok v' w' ∧ Ret P ι h w v h' (.returned v') w' := by
     intro j hj
     rw [hj] at hv
     simp only [OI, Prod.mk.injEq] at hv
     obtain ⟨rfl, rfl, rfl⟩ := hv
     refine ⟨_, _, run_endRound (some (Xd j)) hw2, ?_⟩
     have hb : (some (Xd j)).isNone = false := rfl
     obtain ⟨m4, ah, a7⟩ := o.sim.obj l _ ak (by simp)
     rw [ap] at ah; cases ah
     cases a7 with
     | @loop _ R4 hw4 gst4 gp4 gps4 gfr4 ga4 gb4 =>
      have az : R4 = { R2 with state := .ready, pending := none, defers := R2.defers } := by
       have : (w2.putObj m.rb (.loop { R2 with state := .ready, pending := none, defers := R2.defers })).heap[m.rb]? = some (.loop { R2 with state := .ready, pending := none, defers := R2.defers }) := World.putObj_heap_same d
       rw [hw4] at this; simpa using this
      subst az
      have aw := St.write (P := P) (o' := .loop { r with state := .done, pending := some j }) o.sim ak rfl ap (w' := w2.putObj m.rb (.loop { R2 with state := .done, pending := some (Xd j) })) (by simp)
       (fun rb a => (World.putObj_heap_other a).trans (World.putObj_heap_other a).symm) rfl rfl rfl
       (fun _ => .loop (World.putObj_heap_same d) rfl rfl gps4 gfr4 ga4 gb4) (.inl rfl)
      refine ⟨ι3, _, rfl, o.trans aw, f, ?_⟩
      rw [hb]
      have b0 : (Kd e).isNone = false := by rw [hj]; rfl
      rw [b0] at ad
      exact ad
    cases e with
    | normal =>
     simp only [Kd, OI, Prod.mk.injEq] at hv
     obtain ⟨rfl, rfl, rfl⟩ := hv
     exact ⟨_, _, run_endRound none hw2, ι3, _, rfl, o, f, ad⟩
    | ret => exact done none rfl
    | exit id => exact done (some id) rfl
end
def Az0 (P : Program) (f : FuncId) (e : List Value → Aa → Option (Value × Aa × List Nat)) : Prop :=
 ∀ args h v h' ws, e args h = some (v, h', ws) → ∀ (F : Fence) (n : Nat), Wide F → ∀ (ι : Inj) (w : World) (args' : List Value), Sim P ι h w → VRs ι args args' → CallsIn F n P f args'.toArray w (Ret P ι h w v h')
def Azy (P : Program) (f : FuncId) (e : List Value → Aa → Option (Value × Aa × List Nat)) : Prop :=
 ∀ args h v h' ws, e args h = some (v, h', ws) → (∀ l0 a0 b0, Value.func (.yield l0) a0 b0 ∉ args) ∧ ∀ (ι : Inj) (w : World) (args' : List Value), Sim P ι h w → VRs ι args args' → ∃ v' w', (callFunc f args'.toArray).run P w = .ok (.value v') w' ∧ Ret P ι h w v h' (.returned v') w'
theorem Wide.fenced {F : Fence} (hW : Wide F) (m : Machine) : m.fenced P F := by
 intro g _
 refine ⟨fun h => ?_, Or.inl (hW.fn _), fun _ _ => hW.fn _, fun _ h => ?_⟩
 ·rw [hW.alive] at h; cases h
 ·rw [hW.depth] at h; cases h
theorem Akz {F : Fence} {n : Nat} (hW : Wide F) {f : FuncId} {args : Array Value} {w : World} {R : Ending → World → Prop} (h : Calls P f args w R) : CallsIn F n P f args w R :=
 ⟨hW.fn f, fun cs _ => let ⟨e, w', fr, r, s, x⟩ := h cs; ⟨e, w', fr, r, (by
  cases e with
  | returned v => exact (StepsIn.of_steps s).mono fun m _ => hW.fenced m
  | panicked chain => exact (StepsIn.of_steps s).mono fun m _ => hW.fenced m
  | outgrown => exact s), x⟩⟩
structure Ai7 (P : Program) (E : Env) : Prop where
 mix : P.follows .mixedOrders = true
 keep : N2 E
 text : ∀ f c, E f = .text c → FnC.of P f c
 textK : ∀ f c, E f = .textK c → FnC.of P f c
 ext : ∀ f e, E f = .ext e → (∃ fn, P.funcs[f]? = some fn ∧ fn.body.isNone = false ∧ (fn.name == "runtime.NumGoroutine") = false) ∧ Az0 P f e ∨ Azy P f e
theorem Au7 {f : FuncId} {fn : Func} (hf : P.funcs[f]? = some fn) (hb : fn.body.isNone = false) (hn : (fn.name == "runtime.NumGoroutine") = false) (args : Array Value) (w : World) : (callFunc f args).run P w = .ok (.enter f args) w := by
 simp only [callFunc, Sem.run_bind, run_program, Result.andThen_ok, hf, hn, hb, Bool.false_eq_true, if_false, Sem.run_pure]
theorem Sz {f : FuncId} {c : FnC} (hc : FnC.of P f c) (args : Array Value) (w : World) : (callFunc f args).run P w = .ok (.enter f args) w := by
 unfold FnC.of at hc
 simp only [OB] at hc
 obtain ⟨j, a, hc⟩ := hc
 unfold An4 at hc
 split at hc
 ·cases hc
 ·rename_i e
  simp only [OB] at hc
  obtain ⟨g, d, _⟩ := hc
  exact Au7 a (by rw [d]; rfl) (by simpa using e) args w
theorem Aim {E : Env} (hE : Ai7 P E) : ∀ k, Kn P (Ej E k)
 | 0 => fun g args h v h' ws j => by simp [Ej] at j
 | k + 1 => fun g args h v h' ws j F n hW ι w g' args' hs hg ha => by
  have ih := Aim hE k
  have hk := P5 hE.keep k
  simp only [Ej, J3] at j
  split at j
  ·rename_i f first r
   obtain ⟨fl⟩ := first
   obtain ⟨cl⟩ := r
   obtain ⟨a, d, rfl, s, a1⟩ := hg.func_inv
   have o : VRs ι (fl ++ args ++ cl) (a ++ args' ++ d) := (s.append ha).append a1
   have e1 : a.toArray ++ args'.toArray ++ d.toArray = (a ++ args' ++ d).toArray := by apply Array.ext'; simp
   refine ⟨{ target := .fn (.func f) d.toArray, args := a.toArray ++ args'.toArray }, rfl, ?_⟩
   have e2 : invoke (.fn (.func f) d.toArray) (a.toArray ++ args'.toArray) = callFunc f (a ++ args' ++ d).toArray := by rw [← e1]; rfl
   simp only [e2]
   cases hE' : E f with
   | none => rw [hE'] at j; cases j
   | text c =>
    rw [hE'] at j
    exact .inl (.inl ⟨f, _, Sz (hE.text f c hE') _ w, Aws hW ih hk hE.mix (hE.text f c hE') j hs o⟩)
   | textK c =>
    rw [hE'] at j
    exact .inl (.inl ⟨f, _, Sz (hE.textK f c hE') _ w, Ars hW ih hk hE.mix (hE.textK f c hE') j hs o⟩)
   | ext e =>
    rw [hE'] at j
    rcases hE.ext f e hE' with ⟨⟨fn, h1, h2, h3⟩, hx⟩ | hx
    ·exact .inl (.inl ⟨f, _, Au7 h1 h2 h3 _ w, hx _ _ _ _ _ j F n hW ι w _ hs o⟩)
    ·obtain ⟨a2, x⟩ := hx _ _ _ _ _ j
     exact .inr ⟨fun l0 a0 b0 hm => a2 l0 a0 b0 (by simp [hm]), x ι w _ hs o⟩
  ·rename_i l first r
   obtain ⟨fl⟩ := first
   obtain ⟨cl⟩ := r
   split at j
   ·rename_i u
    have t : cl = [] := by simpa using u
    subst t
    obtain ⟨m, a, d, hm, rfl, s, a1⟩ := hg.yield_inv
    obtain ⟨fn, y, p, z, h1, h2⟩ := Asf (F := F) (n := n) hW ih hk hE.mix j hs (s.append ha) hm
    refine ⟨{ target := .fn (.yield m.rb) d.toArray, args := a.toArray ++ args'.toArray }, rfl, .inl (.inr ⟨⟨_, _, _, rfl⟩, m.rb, fn, y, p, z, ?_, h2⟩)⟩
    have e1 : a.toArray ++ args'.toArray = (a ++ args').toArray := by apply Array.ext'; simp
    show (Instr.yield m.rb (a.toArray ++ args'.toArray)).run P w = _
    rw [e1]; exact h1
   ·cases j
  ·cases j
theorem Avs {E : Env} (hE : Ai7 P E) : Kn P (callW E) := by
 intro g a h v h' e c
 obtain ⟨k, d⟩ := callW_some.1 c
 exact Aim hE k g a h v h' e d
end Go.L
namespace Go.L
open Go
variable {P : Program}
def LObj.readOnly : LObj → Bool
 | .cells _ true => true
 | .dead => true
 | _ => false
theorem A2b {ι : Inj} {h : Aa} (hr : h.all LObj.readOnly = true) (rb : Nat) : ¬ Wr ι h rb := by
 rintro ⟨b, o, m, d, a, _, _⟩
 have := List.all_eq_true.1 hr o (List.mem_of_getElem? d)
 cases o with
 | cells c ro => cases ro <;> simp [LObj.readOnly, LObj.wr] at this a
 | map es => simp [LObj.readOnly] at this
 | loop r => simp [LObj.readOnly] at this
 | dead => simp [LObj.wr] at a
structure A3n (w w' : World) : Prop where
 size : w.heap.size ≤ w'.heap.size
 keep : ∀ k, k < w.heap.size → w'.heap[k]? = w.heap[k]?
 os : w'.os = w.os
 tape : w'.tape = w.tape
 output : w'.output = w.output
theorem Ap8 {E : Env} (hE : Ai7 P E) {f : FuncId} {c : FnC} (hf : E f = .text c) {h h' : Aa} {args args' : List Value} {b : Bool} {ws : List Nat} {ι : Inj} {w : World} (hro : h.all LObj.readOnly = true)
  (hv : callW E (.func (.func f) #[] #[]) args h = some (.bool b, h', ws)) (hs : Sim P ι h w) (ha : VRs ι args args') : Calls P f args'.toArray w fun e w' => e = .returned (.bool b) ∧ A3n w w' := by
 obtain ⟨d, o, j⟩ := Avs hE _ _ _ _ _ _ hv Fence.wide 0 ⟨fun _ => trivial, rfl, rfl⟩ ι w (.func (.func f) #[] #[]) args' hs (VR.func f (a := []) (b := []) .nil .nil) ha
 have l : d = { target := .fn (.func f) #[], args := #[] ++ args'.toArray } := by
  have : (Deferred.ofValue (.func (.func f) #[] #[]) args'.toArray).run P w = .ok { target := .fn (.func f) #[], args := #[] ++ args'.toArray } w := rfl
  rw [this] at o; simpa using o.symm
 subst l
 rcases j with (⟨t, r, m, h2⟩ | ⟨⟨_, _, _, v⟩, _⟩) | ⟨_, s, wr, m, _⟩
 ·have g : (callFunc f (#[] ++ args'.toArray ++ #[])).run P w = .ok (.enter t r) w := m
  rw [Sz (hE.text f c hf)] at g
  simp only [Result.ok.injEq, Next.enter.injEq, and_true] at g
  obtain ⟨rfl, rfl⟩ := g
  have p := callsIn_wide.1 h2
  have x : #[] ++ args'.toArray ++ #[] = args'.toArray := by simp
  rw [x] at p
  refine p.mono fun e w' u => ?_
  obtain ⟨ι', z, rfl, st, _, n⟩ := u
  rw [n.bool_inv]
  exact ⟨rfl, st.size, fun k y => st.keep k y (A2b hro k), st.os, st.tape, st.output⟩
 ·cases v
 ·have g : (callFunc f (#[] ++ args'.toArray ++ #[])).run P w = .ok (.value s) wr := m
  rw [Sz (hE.text f c hf)] at g
  cases g
def Ans (P : Program) : Inj := fun b => if b < P.globals.size then some ⟨b, 0, 0⟩ else none
theorem Apf (w : World) : Sim P (Ans P) (List.replicate P.globals.size .dead) w :=
 ⟨fun b hb => by simp at hb; simp [Ans]; omega, fun b o hb hd => absurd (List.eq_of_mem_replicate (List.mem_of_getElem? hb)) hd, fun g hg => ⟨0, by simp [Ans, hg]⟩,
 fun b b' o o' m m' hb _ hw => by rw [List.eq_of_mem_replicate (List.mem_of_getElem? hb)] at hw; simp [LObj.wr] at hw⟩
theorem Ar2 {ι : Inj} {h : Aa} {w : World} (hs : Sim P ι h w) (hro : h.all LObj.readOnly = true) {c : List Value} {m : Img} {arr : Array Value} {t : TypeId} {fz : Nat × Nat} (hw : w.heap[m.rb]? = some (.cells arr t fz)) (hsz : arr.size = m.size)
  (hl : m.off + c.length ≤ m.size) (hc : ∀ i v, c[i]? = some v → ∃ r, arr[m.off + i]? = some r ∧ VR ι v r) (ho : c.all Ag = true) : Sim P (ι.put h.length m) (h ++ [.cells c true]) w := by
 have a := Inj.put_sub (hs.dom h.length (Nat.le_refl _)) m
 have j : ∀ (x : Nat) (o : LObj), (h ++ [LObj.cells c true])[x]? = some o → (x < h.length ∧ h[x]? = some o) ∨ (x = h.length ∧ o = .cells c true) := by
  intro x o d
  rcases Nat.lt_or_ge x h.length with hl | hl
  ·rw [GL hl] at d; exact .inl ⟨hl, d⟩
  ·rw [List.getElem?_append_right hl] at d
   by_cases e : x = h.length
   ·subst e; simp at d; exact .inr ⟨rfl, d.symm⟩
   ·rw [List.getElem?_eq_none (by simp; omega)] at d; cases d
 refine ⟨fun b p => ?_, fun b o p hd => ?_, fun g hg => let ⟨s, h⟩ := hs.glob g hg; ⟨s, a _ _ h⟩, ?_⟩
 ·simp at p; rw [Inj.put_ne m (by omega)]; exact hs.dom b (by omega)
 ·rcases j b o p with ⟨a1, n⟩ | ⟨rfl, rfl⟩
  ·obtain ⟨m', u, l⟩ := hs.obj b o n hd
   exact ⟨m', a _ _ u, l.sub a⟩
  ·exact ⟨m, Inj.put_same _ _ _, .cells hw hsz hl (fun i v hv => let ⟨r, h1, h2⟩ := hc i v hv; ⟨r, h1, h2.mono a⟩) (fun h => by cases h) ho⟩
 ·intro x y z o2 m1 m2 d hy f _ _ _ _
  rcases j x z d with ⟨_, a0⟩ | ⟨_, rfl⟩
  ·have := List.all_eq_true.1 hro z (List.mem_of_getElem? a0)
   cases z with
   | cells c ro => cases ro <;> simp [LObj.readOnly, LObj.wr] at this f
   | map es => simp [LObj.readOnly] at this
   | loop r => simp [LObj.readOnly] at this
   | dead => simp [LObj.wr] at f
  ·simp [LObj.wr] at f
theorem All {h : Aa} (hro : h.all LObj.readOnly = true) (c : List Value) : (h ++ [LObj.cells c true]).all LObj.readOnly = true := by
 rw [List.all_append, hro]; rfl
end Go.L
