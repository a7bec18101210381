/- THE LOGICAL MACHINE AND THE MODEL: loops over functions; code, whole. -/
import Derived.Test.YtifnlcajancfdaaSg
set_option linter.unusedVariables false
set_option linter.unusedSimpArgs false
namespace Go.L
open Go
variable {P : Program}
section
variable {F : Fence} {n : Nat} {cf : Ba} {sz : Nat}
theorem Am0 {n0 : Nat} {x : Code} {K : Fr → Aa → Out} (hx : Sg F n P n0 x K sz) (hK : Mt K) : ∀ (k : Nat) (Q : Exit → Act → World → Prop) {ι : Inj} {h : Aa} {w : World} {fr : Fr} {a : Act} {e : Ex} {fr' : Fr} {h' : Aa} {ws : List Nat},
  G4 k K fr h = some (e, fr', h', ws) → Sim P ι h w → FFR ι sz (get fr) a.tmps → Marks n0 w a.defers → n0 ≤ w.heap.size → InR F ι h ws →
  (∀ ι' a' w', St P ι h w ι' h' w' → Old ι h ι' → FFR ι' sz (get fr') a'.tmps → Marks n0 w' a'.defers → Q (Aue e) a' w') → Ael F n P x Q a w
 | 0, Q, ι, h, w, fr, a, e, fr', h', ws, hv, hs, hf, hm, hn, hi, hq => by simp [G4] at hv
 | k + 1, Q, ι, h, w, fr, a, e, fr', h', ws, hv, hs, hf, hm, hn, hi, hq => by
  refine Ad7 ?_
  simp only [G4, F4] at hv
  split at hv
  ·rename_i j p o c
   split at hv
   ·rename_i r m h2 l f
    simp only [OI, Prod.mk.injEq] at hv
    obtain ⟨rfl, rfl, rfl, rfl⟩ := hv
    have g := hK _ _ _ _ _ _ c
    refine hx _ c hs hf hm hn hi.left fun ι1 a1 w1 st1 old1 hf1 hm1 => ?_
    exact Am0 hx hK k Q f st1.sim hf1 hm1 (Nat.le_trans hn st1.size) (hi.right g st1.sub) fun ι2 a2 w2 st2 old2 hf2 hm2 => hq ι2 a2 w2 (st1.trans st2) (old1.trans g.len old2) hf2 hm2
   ·cases hv
  ·rename_i d
   refine hx _ hv hs hf hm hn hi fun ι1 a1 w1 st1 old1 hf1 hm1 => ?_
   cases e with
   | normal => exact absurd hv (d _ _ _)
   | exit id => exact hq ι1 a1 w1 st1 old1 hf1 hm1
   | ret => exact hq ι1 a1 w1 st1 old1 hf1 hm1
theorem Ao6 (F : Fence) (fn : FuncId) (tmps : Array Value) (ps : Array Tmp) (assign body : Code) {ι : Inj} {h : Aa} {w : World} {ws : List Nat} (hs : Sim P ι h w) (hi : InR F ι h ws) :
  ∃ mark w0 df, (Instr.enterLoop fn tmps ps assign body F.round).run P w = .ok (w0.heap.size, mark) (w0.alloc (.loop { state := .ready, pending := none, fn, tmps, params := ps, assign, body, defers := df })) ∧
   St P ι h w ι h w0 ∧ (∀ n0 ds, n0 ≤ w.heap.size → Marks n0 w ds → Marks n0 w0 (mark ++ ds)) := by
 cases e : F.round with
 | none =>
  refine ⟨[{ target := .collected w.heap.size, args := #[] }], w.alloc (.deferred (some [])), w.heap.size, ?_, St.garbage hs _, fun n0 ds j a => ?_⟩
  ·rw [run_enterLoop_outer]
   simp [World.size_alloc]
  ·refine ⟨⟨w.heap.size, rfl, L7, j, fun d hd n => ?_⟩, a.step hs (St.garbage hs _)⟩
   have lt : ∀ {ds : List Deferred}, Marks n0 w ds → ∀ d ∈ ds, ∀ r, d.target = .collected r → r < w.heap.size := by
    intro ds
    induction ds with
    | nil => intro _ d hd; cases hd
    | cons x ds ih =>
     intro a d hd r e
     rcases List.mem_cons.1 hd with rfl | hd
     ·obtain ⟨⟨s, g, h2, _⟩, _⟩ := a
      rw [g] at e; cases e
      exact (Array.getElem?_eq_some_iff.1 h2).1
     ·exact ih a.2 d hd r e
   exact Nat.lt_irrefl _ (lt a d hd _ n)
 | some lr =>
  obtain ⟨l, r, m, g, h2, o, _⟩ := hi lr e
  obtain ⟨p, c, f⟩ := hs.obj l _ g (by simp)
  rw [h2] at c; cases c
  cases f with
  | @loop _ _ R hw h5 h6 h7 h8 h9 h10 =>
   rw [o] at hw
   refine ⟨[], w, R.defers, ?_, St.refl hs, fun n0 ds _ a => a⟩
   unfold Instr.enterLoop
   simp only [Sem.run_bind, run_getLoop hw, run_newObj_alloc, Result.andThen, Sem.run_pure]
theorem Aru {lo : Bool} (hW : Wide F) (hcf : Kf P cf) (hk : Fa cf) {n0 : Nat} {g : Operand} {gx : X} {ps : Array Tmp} {assign body : Code} {ca cb : C} (hg : cX g = some gx) (ha : Jp P lo sz assign = some (En ca)) (hb : Jp P lo sz body = some (En cb)) :
  Sg F n P n0 (.rangeFunc g ps assign body) (fun fr h => Fi h fr (Jb cf (ev (get fr) gx) [.func (.yield h.length) #[] #[]] (h ++ [.loop { state := .ready, pending := none, fr, sz, params := ps.toList, assign := ca, body := cb }]))) sz := by
 intro Q ι h w fr a e fr' h' ws hv hs hf hm hn hir hq
 simp only [Fi] at hv
 split at hv
 ·rename_i vr h2 ad hc
  have am : ∃ f0 a0 b0, ev (get fr) gx = .func (.func f0) a0 b0 ∧ cf (ev (get fr) gx) [.func (.yield h.length) #[] #[]] (h ++ [.loop { state := .ready, pending := none, fr, sz, params := ps.toList, assign := ca, body := cb }]) = some (vr, h2, ad) := by
   unfold Jb at hc
   split at hc
   ·rename_i f0 a0 b0 eg; exact ⟨f0, a0, b0, eg, by rw [eg]; exact hc⟩
   ·cases hc
  obtain ⟨f0, a0, b0, eg, t⟩ := am
  split at hv
  ·rename_i r2 ag
   split at hv
   ·cases hv
   ·rename_i a9
    split at hv
    ·rename_i vg aq ar hgc
     refine wpIn_rangeFunc fun fn _ => ?_
     obtain ⟨f, r, df, z, a8, u⟩ := Ao6 F fn a.tmps ps assign body hs hir
     have ah : ObjR P (ι.put h.length ⟨r.heap.size, 0, 0⟩) (r.alloc (.loop { state := .ready, pending := none, fn, tmps := a.tmps, params := ps, assign, body, defers := df })) ⟨r.heap.size, 0, 0⟩
       (.loop { state := .ready, pending := none, fr, sz, params := ps.toList, assign := ca, body := cb }) :=
      .loop L7 rfl rfl rfl (hf.mono (Inj.put_sub (hs.dom _ (Nat.le_refl _)) _)) ha hb
     have aa := St.push (P := P) (m := ⟨r.heap.size, 0, 0⟩) (o := .loop { state := .ready, pending := none, fr, sz, params := ps.toList, assign := ca, body := cb }) a8.sim rfl (fun _ => ah)
     have a1 := a8.trans aa
     have rg := (Ar hf hg).mono a1.sub
     obtain ⟨d, hd, ae⟩ := hcf _ _ _ _ _ _ t F (n - 1) hW _ _ (a.eval g) [.func (.yield r.heap.size) #[] #[]] aa.sim rg
      (.cons (VR.yield (l := h.length) (m := ⟨r.heap.size, 0, 0⟩) (Inj.put_same _ _ _) (a := []) (b := []) .nil .nil) .nil)
     rcases ae with (⟨fe, as, a7, y⟩ | ⟨⟨_, _, _, hy⟩, _⟩) | ⟨ak, _⟩
     ·refine ⟨r.heap.size, f, _, d, _, fe, as, _, z, ?_, fun f' _ => hW.fn f', a7, (fun hh => by rw [hW.depth] at hh; cases hh), y.mono fun en w' ac => ?_⟩
      ·simp only [resolve, rangeCall]
       simpa [Act.eval] using hd
      ·obtain ⟨ι2, v', rfl, v, a2, au⟩ := ac
       have an : h.length < (h ++ [LObj.loop { state := .ready, pending := none, fr, sz, params := ps.toList, assign := ca, body := cb }]).length := by simp
       obtain ⟨m2, a3, a5⟩ := v.sim.obj h.length _ ag (by simp)
       have ai : m2 = ⟨r.heap.size, 0, 0⟩ := by
        rw [a2 _ an, Inj.put_same] at a3; cases a3; rfl
       subst ai
       cases a5 with
       | loop hw hst hp hps hfr hca hcb =>
        rename_i R2
        have al : R2.state ≠ .busy := by rw [hst]; intro h; exact a9 h
        have af := run_endLoop (P := P) hw al
        have av := (Array.getElem?_eq_some_iff.1 hw).1
        have aj := St.write (P := P) (o' := .dead) v.sim ag rfl a3 (w' := w'.putObj r.heap.size (.loop { R2 with state := .exhausted })) (by simp) (fun rb ap => World.putObj_heap_other ap) rfl rfl rfl (fun hh => absurd rfl hh) (.inr rfl)
        have a4 := a1.trans (v.trans aj)
        have x : Old ι h ι2 := fun b hb => (a2 b (by omega)).trans (Old.put ι h _ b hb)
        have ab : Keeps h.length h (h2.set h.length .dead) ad := by
         have k0 := Keeps.push (Nat.le_refl h.length) [LObj.loop { state := .ready, pending := none, fr, sz, params := ps.toList, assign := ca, body := cb }] []
         have k1 := k0.trans ((hk _ _ _ _ _ _ t).less (by simp))
         simpa using k1.trans (Keeps.set_high (Nat.le_refl _) LObj.dead [])
        obtain ⟨ι3, p, s, _⟩ := At5 hs a4 x ab VR.undef hgc
        have a6 : Marks n0 (w'.putObj r.heap.size (.loop { R2 with state := .exhausted })) (f ++ a.defers) :=
         (u n0 _ hn hm).step a8.sim (aa.trans (v.trans aj))
        refine ⟨R2.pending, _, af, ?_⟩
        suffices key : ∀ pj : Option Code, pj = r2.pending.map Wd → (match (generalizing := false) pj with
          | none => Q .normal { a with defers := f ++ a.defers } (w'.putObj r.heap.size (.loop { R2 with state := .exhausted }))
          | some c => c.wpIn F n P Q { a with defers := f ++ a.defers } (w'.putObj r.heap.size (.loop { R2 with state := .exhausted }))) from key _ hp
        intro pj ao
        subst ao
        cases hpd : r2.pending with
        | none =>
         rw [hpd] at hv
         simp only [OI, Prod.mk.injEq] at hv; obtain ⟨rfl, rfl, rfl, rfl⟩ := hv
         exact hq ι3 _ _ p s (hf.mono p.sub) a6
        | some j =>
         rw [hpd] at hv
         cases j with
         | none =>
          simp only [OI, Prod.mk.injEq] at hv; obtain ⟨rfl, rfl, rfl, rfl⟩ := hv
          exact wpIn_ret (hq ι3 _ _ p s (hf.mono p.sub) a6)
         | some id =>
          simp only [OI, Prod.mk.injEq] at hv; obtain ⟨rfl, rfl, rfl, rfl⟩ := hv
          exact wpIn_exit (hq ι3 _ _ p s (hf.mono p.sub) a6)
     ·rw [eg] at hy; cases hy
     ·exact absurd (List.mem_singleton.2 rfl) (ak h.length #[] #[])
    ·cases hv
  ·cases hv
 ·cases hv
theorem Gw {lo : Bool} (hW : Wide F) (hcf : Kf P cf) (hk : Fa cf) (hmix : P.follows .mixedOrders = true) (n0 k : Nat) : ∀ (g : Code) (c : C), Jp P lo sz g = some (En c) → Sg F n P n0 g (code cf (G4 k) sz c) sz
 | .skip, c, d => by
  simp only [Jp, OI] at d
  rw [Ac4 d.symm]
  intro Q ι h w fr a e fr' h' ws hv hs hf hm hn f hq
  simp only [code, OI, Prod.mk.injEq] at hv; obtain ⟨rfl, rfl, rfl, rfl⟩ := hv
  exact wpIn_skip (hq ι a w (St.refl hs) (Old.refl _ _) hf hm)
 | .label l, c, d => by
  simp only [Jp, OI] at d
  rw [Ac4 d.symm]
  intro Q ι h w fr a e fr' h' ws hv hs hf hm hn f hq
  simp only [code, OI, Prod.mk.injEq] at hv; obtain ⟨rfl, rfl, rfl, rfl⟩ := hv
  exact wpIn_label (hq ι a w (St.refl hs) (Old.refl _ _) hf hm)
 | .scope b, c, d => by
  simp only [Jp] at d
  intro Q ι h w fr a e fr' h' ws hv hs hf hm hn f hq
  refine Aik (Gw hW hcf hk hmix n0 k b c d _ hv hs hf hm hn f fun ι' a' w' st old hf' hm' => ?_)
  have := hq ι' a' w' st old hf' hm'
  cases e <;> exact this
 | .region id ops draw, c, d => by
  simp only [Jp, OB] at d
  obtain ⟨a5, f, d⟩ := d
  cases draw with
  | true =>
   simp only [if_true, OM] at d
   obtain ⟨⟨nn, r⟩, hd, d⟩ := d
   obtain ⟨l, rfl⟩ := Au5 d.symm
   exact Auk hW hcf hk hmix f hd l
  | false =>
   simp only [Bool.false_eq_true, if_false, OI] at d
   obtain ⟨l, rfl⟩ := Au4 d.symm
   exact Apa hW hcf hk f l
 | .seq x y, c, d => by
  simp only [Jp, OB, OM] at d
  obtain ⟨x', o, y', u, d⟩ := d
  obtain ⟨z, cy, rfl, rfl, rfl⟩ := Au1 d.symm
  exact Ayz (Gw hW hcf hk hmix n0 k x z o) (B4 hk (fun K hK => Fu hK k) sz z) (Gw hW hcf hk hmix n0 k y cy u)
 | .cond v x y, c, d => by
  simp only [Jp, OB, OM] at d
  obtain ⟨v', a1, x', o, y', u, d⟩ := d
  obtain ⟨z, cy, rfl, rfl, rfl⟩ := Aqb d.symm
  intro Q ι h w fr a e fr' h' ws hv hs hf hm hn f hq
  simp only [code, U9] at hv
  split at hv
  ·rename_i t et
   have hr := Ar hf a1
   rw [et] at hr
   refine wpIn_cond hr.bool_inv ?_
   cases t with
   | true => exact Gw hW hcf hk hmix n0 k x z o Q hv hs hf hm hn f hq
   | false => exact Gw hW hcf hk hmix n0 k y cy u Q hv hs hf hm hn f hq
  ·cases hv
 | .block id b, c, d => by
  simp only [Jp, OM] at d
  obtain ⟨b', p, d⟩ := d
  obtain ⟨m, rfl, rfl⟩ := Aki d.symm
  intro Q ι h w fr a e fr' h' ws hv hs hf hm hn f hq
  simp only [code, inBlock] at hv
  refine wpIn_block ?_
  split at hv
  ·rename_i j a3 h1 a4 a0
   by_cases hj : j = id
   ·rw [if_pos hj] at hv
    simp only [OI, Prod.mk.injEq] at hv; obtain ⟨rfl, rfl, rfl, rfl⟩ := hv
    refine Gw hW hcf hk hmix n0 k b m p _ a0 hs hf hm hn f fun ι' a' w' st old hf' hm' => ?_
    simp only [Aue, Exit.inBlock, hj, if_true]
    exact hq ι' a' w' st old hf' hm'
   ·rw [if_neg hj] at hv
    simp only [OI, Prod.mk.injEq] at hv; obtain ⟨rfl, rfl, rfl, rfl⟩ := hv
    refine Gw hW hcf hk hmix n0 k b m p _ a0 hs hf hm hn f fun ι' a' w' st old hf' hm' => ?_
    simp only [Aue, Exit.inBlock, hj, if_false]
    exact hq ι' a' w' st old hf' hm'
  ·rename_i a2
   refine Gw hW hcf hk hmix n0 k b m p _ hv hs hf hm hn f fun ι' a' w' st old hf' hm' => ?_
   have := hq ι' a' w' st old hf' hm'
   cases e with
   | exit j => exact absurd hv (a2 _ _ _ _)
   | normal => exact this
   | ret => exact this
 | .loop b, c, d => by
  simp only [Jp, OM] at d
  obtain ⟨b', p, d⟩ := d
  obtain ⟨m, rfl, rfl⟩ := Ap9 d.symm
  intro Q ι h w fr a e fr' h' ws hv hs hf hm hn f hq
  exact Aes (Am0 (Gw hW hcf hk hmix n0 k b m p) (B4 hk (fun K hK => Fu hK k) sz m) k Q hv hs hf hm hn f hq)
 | .exit id, c, d => by
  simp only [Jp, OI] at d
  rw [Aqa d.symm]
  intro Q ι h w fr a e fr' h' ws hv hs hf hm hn f hq
  simp only [code, OI, Prod.mk.injEq] at hv; obtain ⟨rfl, rfl, rfl, rfl⟩ := hv
  exact wpIn_exit (hq ι a w (St.refl hs) (Old.refl _ _) hf hm)
 | .ret, c, d => by
  simp only [Jp, OI] at d
  rw [Au3 d.symm]
  intro Q ι h w fr a e fr' h' ws hv hs hf hm hn f hq
  simp only [code, OI, Prod.mk.injEq] at hv; obtain ⟨rfl, rfl, rfl, rfl⟩ := hv
  exact wpIn_ret (hq ι a w (St.refl hs) (Old.refl _ _) hf hm)
 | .rangeFunc g ps x y, c, d => by
  simp only [Jp, OB, OM] at d
  obtain ⟨g', hg, x', o, y', u, d⟩ := d
  obtain ⟨z, cy, rfl, rfl, rfl⟩ := Au2 d.symm
  exact Aru hW hcf hk hg o u
 | .goto l, c, d => by simp [Jp] at d
 | .refuse s, c, d => by simp [Jp] at d
end
end Go.L
namespace Go.L
open Go
variable {P : Program} {ι ι1 : Inj} {h h1 : Aa} {w w1 : World}
theorem St.shut (st : St P ι h w ι1 h1 w1) {r : Nat} {ds : Option (List Deferred)} (hr : w1.heap[r]? = some (.deferred ds)) (hge : w.heap.size ≤ r) : St P ι h w ι1 h1 (w1.putObj r (.deferred none)) := by
 refine ⟨st.sub, ⟨st.sim.dom, fun b o l f => ?_, st.sim.glob, st.sim.inj⟩, by simpa using st.size, st.os, st.tape, st.output, fun n j g => ?_, st.new⟩
 ·obtain ⟨m, d, c⟩ := st.sim.obj b o l f
  refine ⟨m, d, c.world (World.putObj_heap_other fun e => ?_)⟩
  subst e
  cases c with
  | cells a => rw [hr] at a; cases a
  | map a => rw [hr] at a; cases a
  | loop a => rw [hr] at a; cases a
  | bld a => rw [hr] at a; cases a
  | bytes a => rw [hr] at a; cases a
 ·rw [World.putObj_heap_other (by omega)]; exact st.keep n j g
section
variable {F : Fence} {n : Nat} {cf : Ba}
theorem Tk {fr : Fr} {tmps : Array Value} {sz : Nat} (hs : Sim P ι h w) (hf : FFR ι sz (get fr) tmps) : ∀ {rs : List ResultVar} {res : List R} {vs : List Value}, rs.mapM (cR P) = some res → L6 fr h res = some vs →
  ∃ vs', (rs.mapM (m := Sem) fun | .tmp t => pure (tmps.getD t undef) | .cell a t => do loadVar t (← asAddr (tmps.getD a undef))).run P w = .ok vs' w ∧ VRs ι vs vs'
 | [], res, vs, hr, hl => by
  simp at hr; subst hr
  simp [L6] at hl; subst hl
  exact ⟨[], by simp, .nil⟩
 | r :: rs, res, vs, hr, hl => by
  simp only [List.mapM_cons, Option.bind_eq_bind, OB, Option.pure_def, OI] at hr
  obtain ⟨q, e, z, d, rfl⟩ := hr
  cases r with
  | tmp t =>
   simp only [cR, OI] at e; subst e
   simp only [L6, OM] at hl
   obtain ⟨u, c, rfl⟩ := hl
   obtain ⟨vs', f, h2⟩ := Tk hs hf d c
   exact ⟨_, by simp only [List.mapM_cons, Sem.run_bind, Sem.run_pure, Result.andThen_ok, f], .cons (hf.at_ t) h2⟩
  | cell ad t =>
   simp only [cR, OM] at e
   obtain ⟨g, n, rfl⟩ := e
   simp only [L6, OB, OM] at hl
   obtain ⟨v, x, u, c, rfl⟩ := hl
   obtain ⟨vs', f, h2⟩ := Tk hs hf d c
   obtain ⟨p, j, o, s, l⟩ := Wz hs n (hf.at_ ad) x
   refine ⟨j :: vs', ?_, .cons l h2⟩
   have y : (asAddr (tmps.getD ad undef)).run P w = .ok p w := by rw [o]; rfl
   simp only [List.mapM_cons, Sem.run_bind, Sem.run_pure, Result.andThen_ok, f, y, s]
theorem Aro {vs vs' : List Value} (h : VRs ι vs vs') : VR ι (Qf vs) (if h : vs'.toArray.size = 1 then vs'.toArray[0] else .tuple vs'.toArray) := by
 cases h with
 | nil => exact .tuple .nil
 | cons h1 h2 =>
  cases h2 with
  | nil => exact h1
  | cons h2 h3 => exact .tuple (.cons h1 (.cons h2 h3))
theorem Wy {fn : Func} {fr : Fr} {tmps : Array Value} {sz : Nat} (hs : Sim P ι h w) (hf : FFR ι sz (get fr) tmps) {res : List R} {vs : List Value} (hr : fn.results.toList.mapM (cR P) = some res) (hl : L6 fr h res = some vs) :
  ∃ vr, (results fn tmps).run P w = .ok vr w ∧ VR ι (Qf vs) vr := by
 obtain ⟨c, d, h2⟩ := Tk hs hf hr hl
 refine ⟨_, ?_, Aro h2⟩
 unfold results
 rw [Array.mapM_eq_mapM_toList]
 have a : ∀ {α β : Type} (g : α → β) (x : Sem α) (y : α) (w' : World), x.run P w = .ok y w' → (g <$> x).run P w = .ok (g y) w' := by
  intro α β g x y w' hx
  rw [map_eq_pure_bind]
  simp only [Sem.run_bind, hx, Result.andThen]; rfl
 have e := a List.toArray _ _ _ d
 rw [Sem.run_bind]
 exact Eq.trans (congrArg (fun x => Result.andThen x _) e) rfl
theorem Ac7 : ∀ (l : List Value) (i s : Nat), get (Ah l i) s = if i ≤ s then (l[s - i]?).getD J4 else J4
 | [], i, s => by simp [Ah, get]
 | v :: l, i, s => by
  simp only [Ah, get]
  by_cases e : s = i
  ·subst e; simp
  ·rw [if_neg e, Ac7 l (i + 1) s]
   by_cases a : i ≤ s
   ·rw [if_pos (by omega), if_pos a]
    have : s - i = (s - (i + 1)) + 1 := by omega
    rw [this]; rfl
   ·rw [if_neg (by omega), if_neg a]
theorem Ah5 {sz : Nat} {args args' : List Value} (ha : VRs ι args args') (hl : args.length ≤ sz) : FFR ι sz (get (Ah args 0)) (args'.toArray ++ Array.replicate (sz - args'.toArray.size) undef) := by
 have e := ha.length
 refine ⟨by simp; omega, fun s => ?_⟩
 rw [Ac7]
 simp only [Nat.zero_le, if_true, Nat.sub_zero]
 cases hs : args[s]? with
 | none => exact .any _
 | some v =>
  obtain ⟨r, d, c⟩ := ha.at_ hs
  have a : s < args'.length := (GI.1 d).1
  rw [Array.getD_eq_getD_getElem?, Array.getElem?_append_left (by simpa using a)]
  simp only [List.getElem?_toArray, d, Option.getD_some]
  exact c
theorem Wb {fn : Func} {tmps : Array Value} {R : Ending → World → Prop} {n0 : Nat} (hn0 : w.heap.size ≤ n0) : ∀ {ds : List Deferred} {w1 : World}, St P ι h w ι1 h1 w1 → Marks n0 w1 ds →
  (∀ w2, St P ι h w ι1 h1 w2 → ∃ v, (results fn tmps).run P w2 = .ok v w2 ∧ R (.returned v) w2) → LeavesInM F n P fn tmps R ds .returning w1
 | [], w1, st, _, hq => hq w1 st
 | d :: ds, w1, st, c, hq => by
  obtain ⟨⟨r, j, h2, u, o⟩, h5⟩ := c
  refine ⟨by simp, .inl ⟨r, w1.putObj r (.deferred none), j, run_takeDeferred h2, Wb hn0 (st.shut h2 (by omega)) ?_ hq⟩⟩
  have step : ∀ {ds : List Deferred}, Marks n0 w1 ds → (∀ g ∈ ds, g.target ≠ .collected r) → Marks n0 (w1.putObj r (.deferred none)) ds := by
   intro ds
   induction ds with
   | nil => intro _ _; trivial
   | cons x ds ih =>
    intro c a
    obtain ⟨⟨s, l, t, m, p⟩, k5⟩ := c
    refine ⟨⟨s, l, ?_, m, p⟩, ih k5 fun g f => a g (by simp [f])⟩
    rw [World.putObj_heap_other (fun e => a x (by simp) (by rw [l, e]))]
    exact t
  exact step h5 o
theorem Avq (hW : Wide F) (hcf : Kf P cf) (hk : Fa cf) (hmix : P.follows .mixedOrders = true) {f : FuncId} {c : FnC} (hc : FnC.of P f c) {k : Nat} {args args' : List Value} {v : Value} {h' : Aa} {ws : List Nat} (hv : F0 cf (G4 k) (.text c) args h = some (v, h', ws))
  (hs : Sim P ι h w) (ha : VRs ι args args') : CallsIn F n P f args'.toArray w (Ret P ι h w v h') := by
 have t : CallsIn { F with round := none } n P f args'.toArray w (Ret P ι h w v h') := by
  have a2 : Wide { F with round := none } := ⟨hW.fn, hW.depth, hW.alive⟩
  obtain ⟨lo, hc⟩ := hc
  simp only [OB] at hc
  obtain ⟨fn, a7, hc⟩ := hc
  unfold Anm at hc
  split at hc
  ·cases hc
  ·simp only [OB, OM] at hc
   obtain ⟨g, l, u, r, b, hb, hc⟩ := hc
   obtain ⟨a9, a8, a⟩ := c
   simp only [FnC.mk.injEq] at hc
   obtain ⟨rfl, rfl, rfl⟩ := hc
   simp only [F0] at hv
   split at hv
   ·rename_i m
    refine callsIn_of_wp_marks a7 l (hW.fn f) ?_
    cases hx : code cf (G4 k) fn.ntmps a (Ah args 0) h with
    | none => rw [hx] at hv; cases hv
    | some p =>
     obtain ⟨e, o, z, x⟩ := p
     rw [hx] at hv
     have kk := B4 hk (fun K hK => Fu hK k) _ _ _ _ _ _ _ _ hx
     refine Gw a2 hcf hk hmix w.heap.size k g a hb _ hx hs (Ah5 ha m) trivial (Nat.le_refl _) (fun lr hl => by cases hl) fun ι1 a1 w1 st old hf1 hm1 => ?_
     have s : ∀ e', e' ≠ Ex.normal → e' ≠ Ex.ret → fin u h (some (e', o, z, x)) = none := by
      intro e' z h2; cases e' <;> first | rfl | exact absurd rfl z | exact absurd rfl h2
     have ends : (∃ j, L6 o z u = some j ∧ gc h (Qf j) z x = some (v, h', ws)) → LeavesInM { F with round := none } n P fn a1.tmps (Ret P ι h w v h') a1.defers .returning w1 := by
      rintro ⟨j, d, hg⟩
      refine Wb (Nat.le_refl _) st hm1 fun w2 a0 => ?_
      obtain ⟨vr, a3, a4⟩ := Wy a0.sim hf1 r d
      obtain ⟨ι3, a6, y, a5⟩ := At5 hs a0 old kk a4 hg
      exact ⟨vr, a3, ι3, vr, rfl, a6, y, a5⟩
     cases e with
     | exit id => rw [s _ (by simp) (by simp)] at hv; cases hv
     | normal =>
      refine ends ?_
      simp only [fin] at hv
      split at hv
      ·rename_i j d; exact ⟨j, d, hv⟩
      ·cases hv
     | ret =>
      refine ends ?_
      simp only [fin] at hv
      split at hv
      ·rename_i j d; exact ⟨j, d, hv⟩
      ·cases hv
   ·cases hv
 exact t
theorem Aq0 (hW : Wide F) (hcf : Kf P cf) (hk : Fa cf) (hmix : P.follows .mixedOrders = true) {f : FuncId} {c : FnC} (hc : FnC.of P f c) {k : Nat} {args args' : List Value} {v : Value} {h' : Aa} {ws : List Nat} (hv : F0 cf (G4 k) (.textK c) args h = some (v, h', ws))
  (hs : Sim P ι h w) (ha : VRs ι args args') : CallsIn F n P f args'.toArray w (Ret P ι h w v h') := by
 have t : CallsIn { F with round := none } n P f args'.toArray w (Ret P ι h w v h') := by
  have a2 : Wide { F with round := none } := ⟨hW.fn, hW.depth, hW.alive⟩
  obtain ⟨lo, hc⟩ := hc
  simp only [OB] at hc
  obtain ⟨fn, a6, hc⟩ := hc
  unfold Anm at hc
  split at hc
  ·cases hc
  ·simp only [OB, OM] at hc
   obtain ⟨g, l, u, r, b, hb, hc⟩ := hc
   obtain ⟨a8, a7, a⟩ := c
   simp only [FnC.mk.injEq] at hc
   obtain ⟨rfl, rfl, rfl⟩ := hc
   simp only [F0] at hv
   split at hv
   ·rename_i m
    refine callsIn_of_wp_marks a6 l (hW.fn f) ?_
    cases hx : code cf (G4 k) fn.ntmps a (Ah args 0) h with
    | none => rw [hx] at hv; cases hv
    | some p =>
     obtain ⟨e, o, y, x⟩ := p
     rw [hx] at hv
     have kk := B4 hk (fun K hK => Fu hK k) _ _ _ _ _ _ _ _ hx
     refine Gw a2 hcf hk hmix w.heap.size k g a hb _ hx hs (Ah5 ha m) trivial (Nat.le_refl _) (fun lr hl => by cases hl) fun ι1 a1 w1 st a5 hf1 hm1 => ?_
     have s : ∀ z, z ≠ Ex.normal → z ≠ Ex.ret → Xy u (some (z, o, y, x)) = none := by
      intro z y h2; cases z <;> first | rfl | exact absurd rfl y | exact absurd rfl h2
     have ends : (∃ j, L6 o y u = some j ∧ some (Qf j, y, x) = some (v, h', ws)) → LeavesInM { F with round := none } n P fn a1.tmps (Ret P ι h w v h') a1.defers .returning w1 := by
      rintro ⟨j, d, hg⟩
      refine Wb (Nat.le_refl _) st hm1 fun w2 a0 => ?_
      obtain ⟨vr, a3, a4⟩ := Wy a0.sim hf1 r d
      simp only [OI, Prod.mk.injEq] at hg
      obtain ⟨rfl, rfl, rfl⟩ := hg
      exact ⟨vr, a3, ι1, vr, rfl, a0, a5, a4⟩
     cases e with
     | exit id => rw [s _ (by simp) (by simp)] at hv; cases hv
     | normal =>
      refine ends ?_
      simp only [Xy] at hv
      split at hv
      ·rename_i j d; exact ⟨j, d, hv⟩
      ·cases hv
     | ret =>
      refine ends ?_
      simp only [Xy] at hv
      split at hv
      ·rename_i j d; exact ⟨j, d, hv⟩
      ·cases hv
   ·cases hv
 exact t
end
end Go.L
namespace Go.L
open Go
variable {P : Program} {ι ι1 : Inj} {h h1 : Aa} {w w1 : World}
theorem A09 {h0 h h' : Aa} {v v' : Value} {ws ws' : List Nat} (hv : gc h0 v h ws = some (v', h', ws')) : ∀ b ∈ ws', b ∈ ws := by
 unfold gc at hv
 split at hv
 ·split at hv
  ·simp only [OI, Prod.mk.injEq] at hv; obtain ⟨_, _, rfl⟩ := hv; intro b a; cases a
  ·unfold Va at hv
   simp only at hv
   split at hv <;> (simp only [OI, Prod.mk.injEq] at hv; obtain ⟨_, _, rfl⟩ := hv; intro b a; cases a)
 ·rename_i u d c
  have : ∀ b ∈ u :: d, b ∈ ws := fun b a => (List.mem_filter.1 (by rw [c]; exact a)).1
  split at hv <;> (simp only [OI, Prod.mk.injEq] at hv; obtain ⟨_, _, rfl⟩ := hv; exact this)
section
variable {F : Fence} {n : Nat} {cf : Ba}
theorem Ae9 {ι : Inj} {sz : Nat} : ∀ {ts : List Nat} {vs vs' : List Value} {fr fr' : Fr} {tmps : Array Value}, (∀ t ∈ ts, t < sz) → VRs ι vs vs' → FFR ι sz (get fr) tmps → setPs ts vs fr = some fr' →
  ts.length = vs.length ∧ FFR ι sz (get fr') ((ts.zip vs').foldl (fun tmps (x : Nat × Value) => tmps.setIfInBounds x.1 x.2) tmps)
 | [], [], vs', fr, fr', tmps, _, hv, a, hp => by
  simp only [setPs, OI] at hp; subst hp
  exact ⟨rfl, a⟩
 | t :: ts, v :: vs, _, fr, fr', tmps, ht, .cons (b := r) (m := vs') h1 h2, a, hp => by
  simp only [setPs] at hp
  have c : FFR ι sz (get ((t, v) :: fr)) (tmps.setIfInBounds t r) := a.put (ht t (by simp)) h1
  obtain ⟨e, f⟩ := Ae9 (fun x d => ht x (by simp [d])) h2 c hp
  exact ⟨by simp [e], f⟩
 | [], _ :: _, _, _, _, _, _, _, _, hp => by simp [setPs] at hp
 | _ :: _, [], _, _, _, _, _, _, _, hp => by simp [setPs] at hp
theorem Arl (hW : Wide F) (hcf : Kf P cf) (hk : Fa cf) (hmix : P.follows .mixedOrders = true) {k l : Nat} {args args' : List Value} {v : Value} {h' : Aa} {ws : List Nat} (hv : Ie cf (G4 k) l args h = some (v, h', ws))
  (hs : Sim P ι h w) (ha : VRs ι args args') {m : Img} (hm : ι l = some m) :
  ∃ fn tmps assign body, (Instr.yield m.rb args'.toArray).run P w = .ok (.round m.rb fn tmps assign body) w ∧ RoundIn F n P m.rb fn tmps assign body w (Ret P ι h w v h') := by
 unfold Ie at hv
 split at hv <;> try (cases hv; done)
 rename_i r hl
 split at hv <;> try (cases hv; done)
 rename_i ao b3
 split at hv <;> try (cases hv; done)
 rename_i ag
 split at hv <;> try (cases hv; done)
 rename_i fr b1
 split at hv <;> try (cases hv; done)
 rename_i b6 h1 a9 au
 split at hv <;> try (cases hv; done)
 rename_i e b7 h2 a7 am
 split at hv <;> try (cases hv; done)
 rename_i f
 have ae : l ∉ a9 := fun hm => f (List.mem_append_left _ hm)
 have ar : l ∉ a7 := fun hm => f (List.mem_append_right _ hm)
 have s : l < h.length := (GI.1 hl).1
 have k1 := B4 hk (fun K hK => Fu hK k) _ _ _ _ _ _ _ _ au
 have k2 := B4 hk (fun K hK => Fu hK k) _ _ _ _ _ _ _ _ am
 simp only [List.length_set] at k2
 have an : h1[l]? = some (.loop r) := (k1.at_ l s ae).trans hl
 have g : l < h1.length := Nat.lt_of_lt_of_le s k1.len
 have a8 : h2[l]? = some (.loop { r with state := .busy }) := (k2.at_ l g ar).trans (List.getElem?_set_self g)
 have ak : l < h2.length := (GI.1 a8).1
 obtain ⟨m', aj, aq⟩ := hs.obj l _ hl (by simp)
 rw [hm] at aj; cases aj
 cases aq with
 | @loop _ _ R hw gst gp gps gfr ga gb =>
  have ab : ∀ t ∈ r.params, t < r.sz := by
   intro t ht; simpa using List.all_eq_true.1 ag t ht
  obtain ⟨aw, az⟩ := Ae9 ab ha gfr b1
  have av : args'.toArray.size = R.params.size := by
   have := ha.length
   have h3 : R.params.size = r.params.length := by rw [← gps]; simp
   simp; omega
  refine ⟨R.fn, _, R.assign, R.body, run_yield hw av, roundIn_of_wpIn (hW.fn _) ?_⟩
  have b4 : FFR ι r.sz (get fr) ((R.params.zip args'.toArray).foldl (fun tmps (x : Tmp × Value) => tmps.setIfInBounds x.1 x.2) R.tmps) := by
   have : (R.params.zip args'.toArray).toList = r.params.zip args' := by rw [Array.toList_zip, gps]
   rw [← Array.foldl_toList, this]; exact az
  have ax : InR (F.inRound m.rb) ι h a9 := fun lr a5 => by cases a5; exact ⟨l, r, m, hl, hm, rfl, ae⟩
  refine Gw (hW.inRound m.rb) hcf hk hmix 0 k R.assign r.assign ga _ au hs b4 trivial (Nat.zero_le _) ax fun ι1 a1 w1 st1 old1 hf1 hmk => ?_
  simp only [Aue, Exit.then]
  have o : ι1 l = some m := st1.sub _ _ hm
  obtain ⟨m1, a0, a6⟩ := st1.sim.obj l _ an (by simp)
  rw [o] at a0; cases a0
  cases a6 with
  | @loop _ _ R1 hw1 gst1 gp1 gps1 gfr1 ga1 gb1 =>
   refine ⟨_, run_beginRound hw1 (by rw [gst1, ao]), ?_⟩
   have ai := (Array.getElem?_eq_some_iff.1 hw1).1
   have a3 := St.write (P := P) (o' := .loop { r with state := .busy }) st1.sim an rfl o (w' := w1.putObj m.rb (.loop { R1 with state := .busy })) (by simp) (fun rb a => World.putObj_heap_other a) rfl rfl rfl
    (fun _ => .loop (World.putObj_heap_same ai) rfl gp1 gps1 gfr1 ga1 gb1) (.inl rfl)
   have ap : InR (F.inRound m.rb) ι1 (h1.set l (.loop { r with state := .busy })) a7 := fun lr a5 => by
    cases a5
    exact ⟨l, _, m, List.getElem?_set_self g, o, rfl, ar⟩
   refine Gw (hW.inRound m.rb) hcf hk hmix 0 k R.body r.body gb _ am a3.sim hf1 (hmk.step st1.sim a3) (Nat.zero_le _) ap fun ι2 a2 w2 st2 old2 hf2 _ => ?_
   have af : ι2 l = some m := st2.sub _ _ o
   obtain ⟨m2, z, a4⟩ := st2.sim.obj l _ a8 (by simp)
   rw [af] at z; cases z
   cases a4 with
   | @loop _ _ R2 hw2 gst2 gp2 gps2 gfr2 ga2 gb2 =>
    have c := (Array.getElem?_eq_some_iff.1 hw2).1
    have y : ∀ ds, St P ι2 h2 w2 ι2 (h2.set l (.loop r)) (w2.putObj m.rb (.loop { R2 with state := .ready, pending := none, defers := ds })) := fun ds =>
     St.write (P := P) (o' := .loop r) st2.sim a8 rfl af (by simp) (fun rb a => World.putObj_heap_other a) rfl rfl rfl
      (fun _ => .loop (World.putObj_heap_same c) ao.symm (by rw [b3]; rfl) gps2 gfr2 ga2 gb2) (.inl rfl)
    have ac := (st1.trans a3).trans (st2.trans (y R2.defers))
    have p : Old ι h ι2 := fun b hb => (old2 b (by simp only [List.length_set]; exact Nat.lt_of_lt_of_le hb k1.len)).trans (old1 b hb)
    have k3 : Keeps h.length h (h2.set l (.loop r)) (a9 ++ a7) := by
     refine ⟨by have := k1.len; have := k2.len; simp only [List.length_set] at *; omega, fun b hb hn => ?_⟩
     by_cases e : b = l
     ·subst e
      rw [List.getElem?_set_self ak, hl]
     ·rw [List.getElem?_set_ne (Ne.symm e), k2.at_ b (Nat.lt_of_lt_of_le hb k1.len) (fun hm => hn (List.mem_append_right _ hm)), List.getElem?_set_ne (Ne.symm e), k1.at_ b hb (fun hm => hn (List.mem_append_left _ hm))]
    unfold Q7 at hv
    split at hv <;> try (cases hv; done)
    rename_i v3 h3 b5 hg
    obtain ⟨ι3, u, d, aa⟩ := At5 hs ac p k3 (VR.bool _) hg
    have kg := X9 k3 hg
    have al : h3[l]? = some (.loop r) := (kg.at_ l s fun hm => f (A09 hg l hm)).trans hl
    have ah : ι3 l = some m := (d l s).trans hm
    have done : ∀ (j : Option Nat), J3 e = some j → ∃ v' w', (Instr.endRound m.rb (some (Wd j))).run P w2 = .ok v' w' ∧ Ret P ι h w v h' (.returned v') w' := by
     intro j hj
     rw [hj] at hv
     simp only [OI, Prod.mk.injEq] at hv
     obtain ⟨rfl, rfl, rfl⟩ := hv
     refine ⟨_, _, run_endRound (some (Wd j)) hw2, ?_⟩
     have hb : (some (Wd j)).isNone = false := rfl
     obtain ⟨m4, as, ad⟩ := u.sim.obj l _ al (by simp)
     rw [ah] at as; cases as
     cases ad with
     | @loop _ _ R4 hw4 gst4 gp4 gps4 gfr4 ga4 gb4 =>
      have ay : R4 = { R2 with state := .ready, pending := none, defers := R2.defers } := by
       have : (w2.putObj m.rb (.loop { R2 with state := .ready, pending := none, defers := R2.defers })).heap[m.rb]? = some (.loop { R2 with state := .ready, pending := none, defers := R2.defers }) := World.putObj_heap_same c
       rw [hw4] at this; simpa using this
      subst ay
      have b2 := St.write (P := P) (o' := .loop { r with state := .done, pending := some j }) u.sim al rfl ah (w' := w2.putObj m.rb (.loop { R2 with state := .done, pending := some (Wd j) })) (by simp)
       (fun rb a => (World.putObj_heap_other a).trans (World.putObj_heap_other a).symm) rfl rfl rfl
       (fun _ => .loop (World.putObj_heap_same c) rfl rfl gps4 gfr4 ga4 gb4) (.inl rfl)
      refine ⟨ι3, _, rfl, u.trans b2, d, ?_⟩
      rw [hb]
      have b0 : (J3 e).isNone = false := by rw [hj]; rfl
      rw [b0] at aa
      exact aa
    cases e with
    | normal =>
     simp only [J3, OI, Prod.mk.injEq] at hv
     obtain ⟨rfl, rfl, rfl⟩ := hv
     exact ⟨_, _, run_endRound none hw2, ι3, _, rfl, u, d, aa⟩
    | ret => exact done none rfl
    | exit id => exact done (some id) rfl
end
def Avg (P : Program) (f : FuncId) (e : List Value → Aa → Option (Value × Aa × List Nat)) : Prop :=
 ∀ args h v h' ws, e args h = some (v, h', ws) → ∀ (F : Fence) (n : Nat), Wide F → ∀ (ι : Inj) (w : World) (args' : List Value), Sim P ι h w → VRs ι args args' → CallsIn F n P f args'.toArray w (Ret P ι h w v h')
def A18 (P : Program) (f : FuncId) (e : List Value → Aa → Option (Value × Aa × List Nat)) : Prop :=
 ∀ args h v h' ws, e args h = some (v, h', ws) → (∀ l0 a0 b0, Value.func (.yield l0) a0 b0 ∉ args) ∧ ∀ (ι : Inj) (w : World) (args' : List Value), Sim P ι h w → VRs ι args args' → ∃ v' w', (callFunc f args'.toArray).run P w = .ok (.value v') w' ∧ Ret P ι h w v h' (.returned v') w'
theorem Wide.fenced {F : Fence} (hW : Wide F) (m : Machine) : m.fenced P F := by
 intro g _
 refine ⟨fun h => ?_, Or.inl (hW.fn _), fun _ _ => hW.fn _, fun _ h => ?_⟩
 ·rw [hW.alive] at h; cases h
 ·rw [hW.depth] at h; cases h
theorem Az6 {F : Fence} {n : Nat} (hW : Wide F) {f : FuncId} {args : Array Value} {w : World} {R : Ending → World → Prop} (h : Calls P f args w R) : CallsIn F n P f args w R :=
 ⟨hW.fn f, fun cs _ => let ⟨e, w', fr, r, s, x⟩ := h cs; ⟨e, w', fr, r, (by
  cases e with
  | returned v => exact (StepsIn.of_steps s).mono fun m _ => hW.fenced m
  | panicked chain => exact (StepsIn.of_steps s).mono fun m _ => hW.fenced m
  | outgrown => exact s), x⟩⟩
structure Aa8 (P : Program) (E : Env) : Prop where
 mix : P.follows .mixedOrders = true
 keep : Oq E
 text : ∀ f c, E f = .text c → FnC.of P f c
 textK : ∀ f c, E f = .textK c → FnC.of P f c
 ext : ∀ f e, E f = .ext e → (∃ fn, P.funcs[f]? = some fn ∧ fn.body.isNone = false ∧ (fn.name == "runtime.NumGoroutine") = false) ∧ Avg P f e ∨ A18 P f e
theorem Auh {f : FuncId} {fn : Func} (hf : P.funcs[f]? = some fn) (hb : fn.body.isNone = false) (hn : (fn.name == "runtime.NumGoroutine") = false) (args : Array Value) (w : World) : (callFunc f args).run P w = .ok (.enter f args) w := by
 simp only [callFunc, Sem.run_bind, run_program, Result.andThen_ok, hf, hn, hb, Bool.false_eq_true, if_false, Sem.run_pure]
theorem Lw {f : FuncId} {c : FnC} (hc : FnC.of P f c) (args : Array Value) (w : World) : (callFunc f args).run P w = .ok (.enter f args) w := by
 obtain ⟨l, hc⟩ := hc
 simp only [OB] at hc
 obtain ⟨j, a, hc⟩ := hc
 unfold Anm at hc
 split at hc
 ·cases hc
 ·rename_i d
  simp only [OB] at hc
  obtain ⟨g, e, _⟩ := hc
  exact Auh a (by rw [e]; rfl) (by simpa using d) args w
theorem Aat {E : Env} (hE : Aa8 P E) : ∀ k, Kf P (Dr E k)
 | 0 => fun g args h v h' ws j => by simp [Dr] at j
 | k + 1 => fun g args h v h' ws j F n hW ι w g' args' hs hg ha => by
  have ih := Aat hE k
  have hk := Pf hE.keep k
  simp only [Dr, Js] at j
  split at j
  ·rename_i f first s
   obtain ⟨fl⟩ := first
   obtain ⟨cl⟩ := s
   obtain ⟨a, d, rfl, r, z⟩ := hg.func_inv
   have o : VRs ι (fl ++ args ++ cl) (a ++ args' ++ d) := (r.append ha).append z
   have e1 : a.toArray ++ args'.toArray ++ d.toArray = (a ++ args' ++ d).toArray := by apply Array.ext'; simp
   refine ⟨{ target := .fn (.func f) d.toArray, args := a.toArray ++ args'.toArray }, rfl, ?_⟩
   have e2 : invoke (.fn (.func f) d.toArray) (a.toArray ++ args'.toArray) = callFunc f (a ++ args' ++ d).toArray := by rw [← e1]; rfl
   simp only [e2]
   cases hE' : E f with
   | none => rw [hE'] at j; cases j
   | text c =>
    rw [hE'] at j
    exact .inl (.inl ⟨f, _, Lw (hE.text f c hE') _ w, Avq hW ih hk hE.mix (hE.text f c hE') j hs o⟩)
   | textK c =>
    rw [hE'] at j
    exact .inl (.inl ⟨f, _, Lw (hE.textK f c hE') _ w, Aq0 hW ih hk hE.mix (hE.textK f c hE') j hs o⟩)
   | ext e =>
    rw [hE'] at j
    rcases hE.ext f e hE' with ⟨⟨fn, h1, h2, h3⟩, hx⟩ | hx
    ·exact .inl (.inl ⟨f, _, Auh h1 h2 h3 _ w, hx _ _ _ _ _ j F n hW ι w _ hs o⟩)
    ·obtain ⟨a2, t⟩ := hx _ _ _ _ _ j
     exact .inr ⟨fun l0 a0 b0 hm => a2 l0 a0 b0 (by simp [hm]), t ι w _ hs o⟩
  ·rename_i l first s
   obtain ⟨fl⟩ := first
   obtain ⟨cl⟩ := s
   split at j
   ·rename_i u
    have x : cl = [] := by simpa using u
    subst x
    obtain ⟨m, a, d, hm, rfl, r, z⟩ := hg.yield_inv
    obtain ⟨fn, y, p, a1, h1, h2⟩ := Arl (F := F) (n := n) hW ih hk hE.mix j hs (r.append ha) hm
    refine ⟨{ target := .fn (.yield m.rb) d.toArray, args := a.toArray ++ args'.toArray }, rfl, .inl (.inr ⟨⟨_, _, _, rfl⟩, m.rb, fn, y, p, a1, ?_, h2⟩)⟩
    have e1 : a.toArray ++ args'.toArray = (a ++ args').toArray := by apply Array.ext'; simp
    show (Instr.yield m.rb (a.toArray ++ args'.toArray)).run P w = _
    rw [e1]; exact h1
   ·cases j
  ·cases j
theorem Auw {E : Env} (hE : Aa8 P E) : Kf P (callW E) := by
 intro g a h v h' c e
 obtain ⟨k, d⟩ := callW_some.1 e
 exact Aat hE k g a h v h' c d
end Go.L
namespace Go.L
open Go
variable {P : Program}
def LObj.readOnly : LObj → Bool
 | .cells _ true => true
 | .dead => true
 | _ => false
theorem Ax4 {ι : Inj} {h : Aa} (hr : h.all LObj.readOnly = true) (rb : Nat) : ¬ Wr ι h rb := by
 rintro ⟨b, o, m, d, a, _, _⟩
 have := List.all_eq_true.1 hr o (List.mem_of_getElem? d)
 cases o with
 | cells c ro => cases ro <;> simp [LObj.readOnly, LObj.wr] at this a
 | map es => simp [LObj.readOnly] at this
 | loop r => simp [LObj.readOnly] at this
 | bld r => simp [LObj.readOnly] at this
 | bytes r => simp [LObj.readOnly] at this
 | dead => simp [LObj.wr] at a
structure Avf (w w' : World) : Prop where
 size : w.heap.size ≤ w'.heap.size
 keep : ∀ k, k < w.heap.size → w'.heap[k]? = w.heap[k]?
 os : w'.os = w.os
 tape : w'.tape = w.tape
 output : w'.output = w.output
theorem App {E : Env} (hE : Aa8 P E) {f : FuncId} {c : FnC} (hf : E f = .text c) {h h' : Aa} {args args' : List Value} {b : Bool} {ws : List Nat} {ι : Inj} {w : World} (hro : h.all LObj.readOnly = true)
  (hv : callW E (.func (.func f) #[] #[]) args h = some (.bool b, h', ws)) (hs : Sim P ι h w) (ha : VRs ι args args') : Calls P f args'.toArray w fun e w' => e = .returned (.bool b) ∧ Avf w w' := by
 obtain ⟨d, o, j⟩ := Auw hE _ _ _ _ _ _ hv Fence.wide 0 ⟨fun _ => trivial, rfl, rfl⟩ ι w (.func (.func f) #[] #[]) args' hs (VR.func f (a := []) (b := []) .nil .nil) ha
 have m : d = { target := .fn (.func f) #[], args := #[] ++ args'.toArray } := by
  have : (Deferred.ofValue (.func (.func f) #[] #[]) args'.toArray).run P w = .ok { target := .fn (.func f) #[], args := #[] ++ args'.toArray } w := rfl
  rw [this] at o; simpa using o.symm
 subst m
 rcases j with (⟨s, x, l, h2⟩ | ⟨⟨_, _, _, u⟩, _⟩) | ⟨_, r, wr, l, _⟩
 ·have g : (callFunc f (#[] ++ args'.toArray ++ #[])).run P w = .ok (.enter s x) w := l
  rw [Lw (hE.text f c hf)] at g
  simp only [Result.ok.injEq, Next.enter.injEq, and_true] at g
  obtain ⟨rfl, rfl⟩ := g
  have p := callsIn_wide.1 h2
  have v : #[] ++ args'.toArray ++ #[] = args'.toArray := by simp
  rw [v] at p
  refine p.mono fun e w' t => ?_
  obtain ⟨ι', z, rfl, st, _, n⟩ := t
  rw [n.bool_inv]
  exact ⟨rfl, st.size, fun k y => st.keep k y (Ax4 hro k), st.os, st.tape, st.output⟩
 ·cases u
 ·have g : (callFunc f (#[] ++ args'.toArray ++ #[])).run P w = .ok (.value r) wr := l
  rw [Lw (hE.text f c hf)] at g
  cases g
def Am8 (P : Program) : Inj := fun b => if b < P.globals.size then some ⟨b, 0, 0⟩ else none
theorem Aox (w : World) : Sim P (Am8 P) (List.replicate P.globals.size .dead) w :=
 ⟨fun b hb => by simp at hb; simp [Am8]; omega, fun b o hb hd => absurd (List.eq_of_mem_replicate (List.mem_of_getElem? hb)) hd, fun g hg => ⟨0, by simp [Am8, hg]⟩,
 fun b b' o o' m m' hb _ hw => by rw [List.eq_of_mem_replicate (List.mem_of_getElem? hb)] at hw; simp [LObj.wr] at hw⟩
theorem Ara {ι : Inj} {h : Aa} {w : World} (hs : Sim P ι h w) (hro : h.all LObj.readOnly = true) {c : List Value} {m : Img} {arr : Array Value} {t : TypeId} {fz : Nat × Nat} (hw : w.heap[m.rb]? = some (.cells arr t fz)) (hsz : arr.size = m.size)
  (hl : m.off + c.length ≤ m.size) (hc : ∀ i v, c[i]? = some v → ∃ r, arr[m.off + i]? = some r ∧ VR ι v r) (ho : c.all Ae = true) : Sim P (ι.put h.length m) (h ++ [.cells c true]) w := by
 have a := Inj.put_sub (hs.dom h.length (Nat.le_refl _)) m
 have j : ∀ (x : Nat) (o : LObj), (h ++ [LObj.cells c true])[x]? = some o → (x < h.length ∧ h[x]? = some o) ∨ (x = h.length ∧ o = .cells c true) := by
  intro x o d
  rcases Nat.lt_or_ge x h.length with hl | hl
  ·rw [GL hl] at d; exact .inl ⟨hl, d⟩
  ·rw [List.getElem?_append_right hl] at d
   by_cases e : x = h.length
   ·subst e; simp at d; exact .inr ⟨rfl, d.symm⟩
   ·rw [List.getElem?_eq_none (by simp; omega)] at d; cases d
 refine ⟨fun b n => ?_, fun b o n hd => ?_, fun g hg => let ⟨s, h⟩ := hs.glob g hg; ⟨s, a _ _ h⟩, ?_⟩
 ·simp at n; rw [Inj.put_ne m (by omega)]; exact hs.dom b (by omega)
 ·rcases j b o n with ⟨a1, z⟩ | ⟨rfl, rfl⟩
  ·obtain ⟨m', p, l⟩ := hs.obj b o z hd
   exact ⟨m', a _ _ p, l.sub a⟩
  ·exact ⟨m, Inj.put_same _ _ _, .cells hw hsz hl (fun i v hv => let ⟨r, h1, h2⟩ := hc i v hv; ⟨r, h1, h2.mono a⟩) (fun h => by cases h) ho⟩
 ·intro x y u o2 m1 m2 d hy f _ _ _ _
  rcases j x u d with ⟨_, a0⟩ | ⟨_, rfl⟩
  ·have := List.all_eq_true.1 hro u (List.mem_of_getElem? a0)
   cases u with
   | cells c ro => cases ro <;> simp [LObj.readOnly, LObj.wr] at this f
   | map es => simp [LObj.readOnly] at this
   | loop r => simp [LObj.readOnly] at this
   | bld r => simp [LObj.readOnly] at this
   | bytes r => simp [LObj.readOnly] at this
   | dead => simp [LObj.wr] at f
  ·simp [LObj.wr] at f
theorem Ak0 {h : Aa} (hro : h.all LObj.readOnly = true) (c : List Value) : (h ++ [LObj.cells c true]).all LObj.readOnly = true := by
 rw [List.all_append, hro]; rfl
end Go.L
namespace Go.L
open Go
variable {P : Program}
theorem St.of_left {ι : Inj} {h : Aa} {w w' : World} (hs : Sim P ι h w) (hl : Avf w w') : St P ι h w ι h w' :=
 ⟨Sub.refl _, ⟨hs.dom, fun b o hb hd => let ⟨m, hm, hr⟩ := hs.obj b o hb hd; ⟨m, hm, hr.world (hl.keep _ hr.lt)⟩, hs.glob, hs.inj⟩, hl.size, hl.os, hl.tape, hl.output, fun rb hlt _ => hl.keep rb hlt, fun _ h _ => h⟩
def Akn (G h : Aa) : Prop := ∀ (g : Nat) (o : LObj), G[g]? = some o → o ≠ .dead → h[g]? = some o
open Classical in
noncomputable def constE (G : Aa) (b : Value) : List Value → Aa → Option (Value × Aa × List Nat) := fun args h => match args with
 | [] => if Akn G h then some (b, h, []) else none
 | _ :: _ => none
theorem Ap3 {G h : Aa} {b : Value} (hb : Akn G h) : constE G b [] h = some (b, h, []) := by simp [constE, hb]
theorem Aal {G h h' : Aa} {b v : Value} {args : List Value} {ws : List Nat} (hv : constE G b args h = some (v, h', ws)) : args = [] ∧ Akn G h ∧ v = b ∧ h' = h ∧ ws = [] := by
 cases args with
 | cons x r => cases hv
 | nil =>
  simp only [constE] at hv
  split at hv
  ·rename_i a
   simp only [OI, Prod.mk.injEq] at hv
   exact ⟨rfl, a, hv.1.symm, hv.2.1.symm, hv.2.2.symm⟩
  ·cases hv
theorem Ahx (G : Aa) (b : Value) : ∀ args h v h' ws, constE G b args h = some (v, h', ws) → Keeps h.length h h' ws := by
 intro args h v h' ws a
 obtain ⟨_, _, _, rfl, rfl⟩ := Aal a
 exact Keeps.refl _ _ _
theorem Akb {E : Env} (hE : Aa8 P E) {f : FuncId} {c : FnC} (hf : E f = .text c) {n : Nat} {b : Value} {G G' : Aa} {ws : List Nat} (hb : Ac 0 4 b = true) (hlen : G.length = P.globals.size) (hro : G.all LObj.readOnly = true) (hG : G.all (fun o => G3 0 (some o)) = true)
  (hv : Dr E n (.func (.func f) #[] #[]) [] G = some (b, G', ws)) : Avg P f (constE G b) := by
 intro args h v h' a3 hc F nn hW ι w args' hs ha
 obtain ⟨rfl, t, rfl, rfl, rfl⟩ := Aal hc
 cases ha
 have a2 : Sim P (fun x => if x < P.globals.size then ι x else none) G w := by
  refine ⟨fun x l => if_neg (by omega), fun x o l j => ?_, fun g hg => ?_, fun x y o o' m m' l _ hw => ?_⟩
  ·have hl : x < P.globals.size := by have := (GI.1 l).1; omega
   obtain ⟨m, hm, z⟩ := hs.obj x o (t x o l j) j
   exact ⟨m, by simp [hl, hm], ObjR.low (n := 0) (fun b hb => absurd hb (Nat.not_lt_zero _)) (List.all_eq_true.1 hG o (List.mem_of_getElem? l)) j z⟩
  ·obtain ⟨s, h1⟩ := hs.glob g hg
   exact ⟨s, by simp [hg, h1]⟩
  ·have := List.all_eq_true.1 hro o (List.mem_of_getElem? l)
   cases o with
   | cells c ro => cases ro <;> simp [LObj.readOnly, LObj.wr] at this hw
   | map es => simp [LObj.readOnly] at this
   | loop r => simp [LObj.readOnly] at this
   | bld r => simp [LObj.readOnly] at this
   | bytes r => simp [LObj.readOnly] at this
   | dead => simp [LObj.wr] at hw
 obtain ⟨d, j, u⟩ := Aat hE n _ _ _ _ _ _ hv F nn hW _ w (.func (.func f) #[] #[]) [] a2 (VR.func f (a := []) (b := []) .nil .nil) .nil
 have a0 : d = { target := .fn (.func f) #[], args := #[] ++ #[] } := by
  have : (Deferred.ofValue (.func (.func f) #[] #[]) ([] : List Value).toArray).run P w = .ok { target := .fn (.func f) #[], args := #[] ++ #[] } w := rfl
  rw [this] at j; simpa using j.symm
 subst a0
 rcases u with (⟨fe, as, h1, h2⟩ | ⟨⟨_, _, _, hy⟩, _⟩) | ⟨_, vr, wr, h1, _⟩
 ·have p : (callFunc f (#[] ++ #[] ++ #[])).run P w = .ok (.enter fe as) w := h1
  rw [Lw (hE.text f c hf)] at p
  simp only [Result.ok.injEq, Next.enter.injEq, and_true] at p
  obtain ⟨rfl, rfl⟩ := p
  refine CallsIn.mono (R := Ret P (fun x => if x < P.globals.size then ι x else none) G w v G') (by simpa using h2) fun e w' hr => ?_
  obtain ⟨ι', v', rfl, st, _, a1⟩ := hr
  have hl : Avf w w' := ⟨st.size, fun k hk => st.keep k hk (Ax4 hro k), st.os, st.tape, st.output⟩
  exact ⟨ι, v', rfl, St.of_left hs hl, Old.refl _ _, VR.low (m := 0) (fun b hb => absurd hb (Nat.not_lt_zero _)) 4 hb a1⟩
 ·cases hy
 ·have p : (callFunc f (#[] ++ #[] ++ #[])).run P w = .ok (.value vr) wr := h1
  rw [Lw (hE.text f c hf)] at p
  cases p
end Go.L
