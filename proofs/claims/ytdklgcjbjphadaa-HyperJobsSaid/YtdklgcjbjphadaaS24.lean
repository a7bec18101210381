/- THE LOGICAL MACHINE AND THE MODEL: functions. -/
import Derived.Test.YtdklgcjbjphadaaS23
set_option linter.unusedVariables false
set_option linter.unusedSimpArgs false
namespace Go.L
open Go
variable {P : Program} {ι ι1 : Inj} {h h1 : Heap} {w w1 : World}
theorem St.shut (st : St P ι h w ι1 h1 w1) {r : Nat} {ds : Option (List Deferred)} (hr : w1.heap[r]? = some (.deferred ds)) (hge : w.heap.size ≤ r) : St P ι h w ι1 h1 (w1.putObj r (.deferred none)) := by
  refine ⟨st.sub, ⟨st.sim.dom, fun b o hb hd => ?_, st.sim.glob, st.sim.inj⟩, by simpa using st.size, st.os, st.tape, st.output, fun rb hl hn => ?_, st.new⟩
  · obtain ⟨m, hm, hobj⟩ := st.sim.obj b o hb hd
    refine ⟨m, hm, hobj.world (World.putObj_heap_other fun e => ?_)⟩
    subst e
    cases hobj with
    | cells a => rw [hr] at a; cases a
    | map a => rw [hr] at a; cases a
    | loop a => rw [hr] at a; cases a
  · rw [World.putObj_heap_other (by omega)]; exact st.keep rb hl hn
section
variable {F : Fence} {n : Nat} {cf : CallT}
theorem results_ok {fr : Fr} {tmps : Array Value} {sz : Nat} (hs : Sim P ι h w) (hf : FFR ι sz (get fr) tmps) : ∀ {rs : List ResultVar} {res : List R} {vs : List Value}, rs.mapM (cR P) = some res → resL fr h res = some vs →
    ∃ vs', (rs.mapM (m := Sem) fun | .tmp t => pure (tmps.getD t undef) | .cell a t => do loadVar t (← asAddr (tmps.getD a undef))).run P w = .ok vs' w ∧ VRs ι vs vs'
  | [], res, vs, hr, hl => by
    simp at hr; subst hr
    simp [resL] at hl; subst hl
    exact ⟨[], by simp, .nil⟩
  | r :: rs, res, vs, hr, hl => by
    simp only [List.mapM_cons, Option.bind_eq_bind, Option.bind_eq_some_iff, Option.pure_def, Option.some.injEq] at hr
    obtain ⟨q, hq, qs, hqs, rfl⟩ := hr
    cases r with
    | tmp t =>
      simp only [cR, Option.some.injEq] at hq; subst hq
      simp only [resL, Option.map_eq_some_iff] at hl
      obtain ⟨l2, hl2, rfl⟩ := hl
      obtain ⟨vs', h1, h2⟩ := results_ok hs hf hqs hl2
      exact ⟨_, by simp only [List.mapM_cons, Sem.run_bind, Sem.run_pure, Result.andThen_ok, h1], .cons (hf.at_ t) h2⟩
    | cell ad t =>
      simp only [cR, Option.map_eq_some_iff] at hq
      obtain ⟨g, hg, rfl⟩ := hq
      simp only [resL, Option.bind_eq_some_iff, Option.map_eq_some_iff] at hl
      obtain ⟨v, hv, l2, hl2, rfl⟩ := hl
      obtain ⟨vs', h1, h2⟩ := results_ok hs hf hqs hl2
      obtain ⟨pa, v', e1, e2, e3⟩ := run_loadVar hs hg (hf.at_ ad) hv
      refine ⟨v' :: vs', ?_, .cons e3 h2⟩
      have e4 : (asAddr (tmps.getD ad undef)).run P w = .ok pa w := by rw [e1]; rfl
      simp only [List.mapM_cons, Sem.run_bind, Sem.run_pure, Result.andThen_ok, h1, e4, e2]
theorem resV_rel {vs vs' : List Value} (h : VRs ι vs vs') : VR ι (resV vs) (if h : vs'.toArray.size = 1 then vs'.toArray[0] else .tuple vs'.toArray) := by
  cases h with
  | nil => exact .tuple .nil
  | cons h1 h2 =>
    cases h2 with
    | nil => exact h1
    | cons h2 h3 => exact .tuple (.cons h1 (.cons h2 h3))
theorem run_results {fn : Func} {fr : Fr} {tmps : Array Value} {sz : Nat} (hs : Sim P ι h w) (hf : FFR ι sz (get fr) tmps) {res : List R} {vs : List Value} (hr : fn.results.toList.mapM (cR P) = some res) (hl : resL fr h res = some vs) :
    ∃ vr, (results fn tmps).run P w = .ok vr w ∧ VR ι (resV vs) vr := by
  obtain ⟨vs', h1, h2⟩ := results_ok hs hf hr hl
  refine ⟨_, ?_, resV_rel h2⟩
  unfold results
  rw [Array.mapM_eq_mapM_toList]
  have map_run : ∀ {α β : Type} (g : α → β) (x : Sem α) (y : α) (w' : World), x.run P w = .ok y w' → (g <$> x).run P w = .ok (g y) w' := by
    intro α β g x y w' hx
    rw [map_eq_pure_bind]
    simp only [Sem.run_bind, hx, Result.andThen]; rfl
  have e := map_run List.toArray _ _ _ h1
  rw [Sem.run_bind]
  exact Eq.trans (congrArg (fun x => Result.andThen x _) e) rfl
theorem argsF_get : ∀ (l : List Value) (i s : Nat), get (argsF l i) s = if i ≤ s then (l[s - i]?).getD forgot else forgot
  | [], i, s => by simp [argsF, get]
  | v :: l, i, s => by
    simp only [argsF, get]
    by_cases e : s = i
    · subst e; simp
    · rw [if_neg e, argsF_get l (i + 1) s]
      by_cases hl : i ≤ s
      · rw [if_pos (by omega), if_pos hl]
        have : s - i = (s - (i + 1)) + 1 := by omega
        rw [this]; rfl
      · rw [if_neg (by omega), if_neg hl]
theorem args_rel {sz : Nat} {args args' : List Value} (ha : VRs ι args args') (hl : args.length ≤ sz) : FFR ι sz (get (argsF args 0)) (args'.toArray ++ Array.replicate (sz - args'.toArray.size) undef) := by
  have hlen := ha.length
  refine ⟨by simp; omega, fun s => ?_⟩
  rw [argsF_get]
  simp only [Nat.zero_le, if_true, Nat.sub_zero]
  cases hs : args[s]? with
  | none => exact .any _
  | some v =>
    obtain ⟨r, hr, hvr⟩ := ha.at_ hs
    have hlt : s < args'.length := (List.getElem?_eq_some_iff.1 hr).1
    rw [Array.getD_eq_getD_getElem?, Array.getElem?_append_left (by simpa using hlt)]
    simp only [List.getElem?_toArray, hr, Option.getD_some]
    exact hvr
theorem leaves_ok {fn : Func} {tmps : Array Value} {R : Ending → World → Prop} {n0 : Nat} (hn0 : w.heap.size ≤ n0) : ∀ {ds : List Deferred} {w1 : World}, St P ι h w ι1 h1 w1 → Marks n0 w1 ds →
    (∀ w2, St P ι h w ι1 h1 w2 → ∃ v, (results fn tmps).run P w2 = .ok v w2 ∧ R (.returned v) w2) → LeavesInM F n P fn tmps R ds .returning w1
  | [], w1, st, _, hq => hq w1 st
  | d :: ds, w1, st, hm, hq => by
    obtain ⟨⟨r, h1', h2, h3, h4⟩, h5⟩ := hm
    refine ⟨by simp, .inl ⟨r, w1.putObj r (.deferred none), h1', run_takeDeferred h2, leaves_ok hn0 (st.shut h2 (by omega)) ?_ hq⟩⟩
    have step : ∀ {ds : List Deferred}, Marks n0 w1 ds → (∀ d' ∈ ds, d'.target ≠ .collected r) → Marks n0 (w1.putObj r (.deferred none)) ds := by
      intro ds
      induction ds with
      | nil => intro _ _; trivial
      | cons x ds ih =>
        intro hm hne
        obtain ⟨⟨r', k1, k2, k3, k4⟩, k5⟩ := hm
        refine ⟨⟨r', k1, ?_, k3, k4⟩, ih k5 fun d' hd' => hne d' (by simp [hd'])⟩
        rw [World.putObj_heap_other (fun e => hne x (by simp) (by rw [k1, e]))]
        exact k2
    exact step h5 h4
/-- A function, by its text. -/
theorem text_ok (hW : Wide F) (hcf : CallOK P cf) (hk : KeepC cf) (hmix : P.follows .mixedOrders = true) {f : FuncId} {c : FnC} (hc : FnC.of P f c) {k : Nat} {args args' : List Value} {v : Value} {h' : Heap} {ws : List Nat} (hv : callF cf (iter k) (.text c) args h = some (v, h', ws))
    (hs : Sim P ι h w) (ha : VRs ι args args') : CallsIn F n P f args'.toArray w (Ret P ι h w v h') := by
  have main : CallsIn { F with round := none } n P f args'.toArray w (Ret P ι h w v h') := by
    have hW' : Wide { F with round := none } := ⟨hW.fn, hW.depth, hW.alive⟩
    unfold FnC.of at hc
    simp only [Option.bind_eq_some_iff] at hc
    obtain ⟨fn, hfn, hc⟩ := hc
    unfold compF at hc
    split at hc
    · cases hc
    · simp only [Option.bind_eq_some_iff, Option.map_eq_some_iff] at hc
      obtain ⟨g, hbody, res, hres, b, hb, hc⟩ := hc
      obtain ⟨csz, cres, cbody⟩ := c
      simp only [FnC.mk.injEq] at hc
      obtain ⟨rfl, rfl, rfl⟩ := hc
      simp only [callF] at hv
      split at hv
      · rename_i hlen
        refine callsIn_of_wp_marks hfn hbody (hW.fn f) ?_
        cases hx : code cf (iter k) fn.ntmps cbody (argsF args 0) h with
        | none => rw [hx] at hv; cases hv
        | some p =>
          obtain ⟨e, fr', h1, ws1⟩ := p
          rw [hx] at hv
          have kk := code_keep hk (fun K hK => iter_keep hK k) _ _ _ _ _ _ _ _ hx
          refine code_ok hW' hcf hk hmix w.heap.size k g cbody hb _ hx hs (args_rel ha hlen) trivial (Nat.le_refl _) (fun lr hl => by cases hl) fun ι1 a1 w1 st old hf1 hm1 => ?_
          have fin_ : ∀ e', e' ≠ Ex.normal → e' ≠ Ex.ret → fin res h (some (e', fr', h1, ws1)) = none := by
            intro e' h1 h2; cases e' <;> first | rfl | exact absurd rfl h1 | exact absurd rfl h2
          have ends : (∃ vs, resL fr' h1 res = some vs ∧ gc h (resV vs) h1 ws1 = some (v, h', ws)) → LeavesInM { F with round := none } n P fn a1.tmps (Ret P ι h w v h') a1.defers .returning w1 := by
            rintro ⟨vs, hvs, hg⟩
            refine leaves_ok (Nat.le_refl _) st hm1 fun w2 st2 => ?_
            obtain ⟨vr, hr1, hr2⟩ := run_results st2.sim hf1 hres hvs
            obtain ⟨ι3, st3, old3, hv3⟩ := gc_ok hs st2 old kk hr2 hg
            exact ⟨vr, hr1, ι3, vr, rfl, st3, old3, hv3⟩
          cases e with
          | exit id => rw [fin_ _ (by simp) (by simp)] at hv; cases hv
          | normal =>
            refine ends ?_
            simp only [fin] at hv
            split at hv
            · rename_i vs hvs; exact ⟨vs, hvs, hv⟩
            · cases hv
          | ret =>
            refine ends ?_
            simp only [fin] at hv
            split at hv
            · rename_i vs hvs; exact ⟨vs, hvs, hv⟩
            · cases hv
      · cases hv
  exact main
/-- A function, by its text, where all is kept. -/
theorem textK_ok (hW : Wide F) (hcf : CallOK P cf) (hk : KeepC cf) (hmix : P.follows .mixedOrders = true) {f : FuncId} {c : FnC} (hc : FnC.of P f c) {k : Nat} {args args' : List Value} {v : Value} {h' : Heap} {ws : List Nat} (hv : callF cf (iter k) (.textK c) args h = some (v, h', ws))
    (hs : Sim P ι h w) (ha : VRs ι args args') : CallsIn F n P f args'.toArray w (Ret P ι h w v h') := by
  have main : CallsIn { F with round := none } n P f args'.toArray w (Ret P ι h w v h') := by
    have hW' : Wide { F with round := none } := ⟨hW.fn, hW.depth, hW.alive⟩
    unfold FnC.of at hc
    simp only [Option.bind_eq_some_iff] at hc
    obtain ⟨fn, hfn, hc⟩ := hc
    unfold compF at hc
    split at hc
    · cases hc
    · simp only [Option.bind_eq_some_iff, Option.map_eq_some_iff] at hc
      obtain ⟨g, hbody, res, hres, b, hb, hc⟩ := hc
      obtain ⟨csz, cres, cbody⟩ := c
      simp only [FnC.mk.injEq] at hc
      obtain ⟨rfl, rfl, rfl⟩ := hc
      simp only [callF] at hv
      split at hv
      · rename_i hlen
        refine callsIn_of_wp_marks hfn hbody (hW.fn f) ?_
        cases hx : code cf (iter k) fn.ntmps cbody (argsF args 0) h with
        | none => rw [hx] at hv; cases hv
        | some p =>
          obtain ⟨e, fr', h1, ws1⟩ := p
          rw [hx] at hv
          have kk := code_keep hk (fun K hK => iter_keep hK k) _ _ _ _ _ _ _ _ hx
          refine code_ok hW' hcf hk hmix w.heap.size k g cbody hb _ hx hs (args_rel ha hlen) trivial (Nat.le_refl _) (fun lr hl => by cases hl) fun ι1 a1 w1 st old hf1 hm1 => ?_
          have fin_ : ∀ e', e' ≠ Ex.normal → e' ≠ Ex.ret → finK res (some (e', fr', h1, ws1)) = none := by
            intro e' h1 h2; cases e' <;> first | rfl | exact absurd rfl h1 | exact absurd rfl h2
          have ends : (∃ vs, resL fr' h1 res = some vs ∧ some (resV vs, h1, ws1) = some (v, h', ws)) → LeavesInM { F with round := none } n P fn a1.tmps (Ret P ι h w v h') a1.defers .returning w1 := by
            rintro ⟨vs, hvs, hg⟩
            refine leaves_ok (Nat.le_refl _) st hm1 fun w2 st2 => ?_
            obtain ⟨vr, hr1, hr2⟩ := run_results st2.sim hf1 hres hvs
            simp only [Option.some.injEq, Prod.mk.injEq] at hg
            obtain ⟨rfl, rfl, rfl⟩ := hg
            exact ⟨vr, hr1, ι1, vr, rfl, st2, old, hr2⟩
          cases e with
          | exit id => rw [fin_ _ (by simp) (by simp)] at hv; cases hv
          | normal =>
            refine ends ?_
            simp only [finK] at hv
            split at hv
            · rename_i vs hvs; exact ⟨vs, hvs, hv⟩
            · cases hv
          | ret =>
            refine ends ?_
            simp only [finK] at hv
            split at hv
            · rename_i vs hvs; exact ⟨vs, hvs, hv⟩
            · cases hv
      · cases hv
  exact main
end
end Go.L
