/- THE LOGICAL MACHINE AND THE MODEL: rounds; all calls. -/
import Derived.Test.YtdklgcjbjphadaaS24
set_option linter.unusedVariables false
set_option linter.unusedSimpArgs false
namespace Go.L
open Go
variable {P : Program} {ι ι1 : Inj} {h h1 : Heap} {w w1 : World}
theorem gc_ws {h0 h h' : Heap} {v v' : Value} {ws ws' : List Nat} (hv : gc h0 v h ws = some (v', h', ws')) : ∀ b ∈ ws', b ∈ ws := by
  unfold gc at hv
  split at hv
  · split at hv
    · simp only [Option.some.injEq, Prod.mk.injEq] at hv; obtain ⟨_, _, rfl⟩ := hv; intro b hb; cases hb
    · unfold compact at hv
      simp only at hv
      split at hv <;> (simp only [Option.some.injEq, Prod.mk.injEq] at hv; obtain ⟨_, _, rfl⟩ := hv; intro b hb; cases hb)
  · rename_i u us hf
    have : ∀ b ∈ u :: us, b ∈ ws := fun b hb => (List.mem_filter.1 (by rw [hf]; exact hb)).1
    split at hv <;> (simp only [Option.some.injEq, Prod.mk.injEq] at hv; obtain ⟨_, _, rfl⟩ := hv; exact this)
section
variable {F : Fence} {n : Nat} {cf : CallT}
theorem setPs_ok {ι : Inj} {sz : Nat} : ∀ {ts : List Nat} {vs vs' : List Value} {fr fr' : Fr} {tmps : Array Value}, (∀ t ∈ ts, t < sz) → VRs ι vs vs' → FFR ι sz (get fr) tmps → setPs ts vs fr = some fr' →
    ts.length = vs.length ∧ FFR ι sz (get fr') ((ts.zip vs').foldl (fun tmps (x : Nat × Value) => tmps.setIfInBounds x.1 x.2) tmps)
  | [], [], vs', fr, fr', tmps, _, hv, hf, hp => by
    simp only [setPs, Option.some.injEq] at hp; subst hp
    exact ⟨rfl, hf⟩
  | t :: ts, v :: vs, _, fr, fr', tmps, ht, .cons (b := r) (m := vs') h1 h2, hf, hp => by
    simp only [setPs] at hp
    have hf' : FFR ι sz (get ((t, v) :: fr)) (tmps.setIfInBounds t r) := hf.put (ht t (by simp)) h1
    obtain ⟨e1, e2⟩ := setPs_ok (fun x hx => ht x (by simp [hx])) h2 hf' hp
    exact ⟨by simp [e1], e2⟩
  | [], _ :: _, _, _, _, _, _, _, _, hp => by simp [setPs] at hp
  | _ :: _, [], _, _, _, _, _, _, _, hp => by simp [setPs] at hp
/-- One round of a loop over a function. -/
theorem round_ok (hW : Wide F) (hcf : CallOK P cf) (hk : KeepC cf) (hmix : P.follows .mixedOrders = true) {k l : Nat} {args args' : List Value} {v : Value} {h' : Heap} {ws : List Nat} (hv : roundV cf (iter k) l args h = some (v, h', ws))
    (hs : Sim P ι h w) (ha : VRs ι args args') {m : Img} (hm : ι l = some m) :
    ∃ fn tmps assign body, (Instr.yield m.rb args'.toArray).run P w = .ok (.round m.rb fn tmps assign body) w ∧ RoundIn F n P m.rb fn tmps assign body w (Ret P ι h w v h') := by
  unfold roundV at hv
  split at hv <;> try (cases hv; done)
  rename_i r hl
  split at hv <;> try (cases hv; done)
  rename_i hst hpd
  split at hv <;> try (cases hv; done)
  rename_i hpar
  split at hv <;> try (cases hv; done)
  rename_i fr hfr
  split at hv <;> try (cases hv; done)
  rename_i fr1 h1 ws1 h1e
  split at hv <;> try (cases hv; done)
  rename_i e fr2 h2 ws2 h2e
  split at hv <;> try (cases hv; done)
  rename_i hnot
  have hn1 : l ∉ ws1 := fun hm => hnot (List.mem_append_left _ hm)
  have hn2 : l ∉ ws2 := fun hm => hnot (List.mem_append_right _ hm)
  have hll : l < h.length := (List.getElem?_eq_some_iff.1 hl).1
  have k1 := code_keep hk (fun K hK => iter_keep hK k) _ _ _ _ _ _ _ _ h1e
  have k2 := code_keep hk (fun K hK => iter_keep hK k) _ _ _ _ _ _ _ _ h2e
  simp only [List.length_set] at k2
  have hl1 : h1[l]? = some (.loop r) := (k1.at_ l hll hn1).trans hl
  have hll1 : l < h1.length := Nat.lt_of_lt_of_le hll k1.len
  have hl2 : h2[l]? = some (.loop { r with state := .busy }) := (k2.at_ l hll1 hn2).trans (List.getElem?_set_self hll1)
  have hll2 : l < h2.length := (List.getElem?_eq_some_iff.1 hl2).1
  obtain ⟨m', hm', hobj⟩ := hs.obj l _ hl (by simp)
  rw [hm] at hm'; cases hm'
  cases hobj with
  | @loop _ R hw gst gp gps gfr ga gb =>
    have hpar' : ∀ t ∈ r.params, t < r.sz := by
      intro t ht; simpa using List.all_eq_true.1 hpar t ht
    obtain ⟨hplen, hpf⟩ := setPs_ok hpar' ha gfr hfr
    have hsz : args'.toArray.size = R.params.size := by
      have := ha.length
      have h3 : R.params.size = r.params.length := by rw [← gps]; simp
      simp; omega
    refine ⟨R.fn, _, R.assign, R.body, run_yield hw hsz, roundIn_of_wpIn (hW.fn _) ?_⟩
    have htm : FFR ι r.sz (get fr) ((R.params.zip args'.toArray).foldl (fun tmps (x : Tmp × Value) => tmps.setIfInBounds x.1 x.2) R.tmps) := by
      have : (R.params.zip args'.toArray).toList = r.params.zip args' := by rw [Array.toList_zip, gps]
      rw [← Array.foldl_toList, this]; exact hpf
    have inr : InR (F.inRound m.rb) ι h ws1 := fun lr hlr => by cases hlr; exact ⟨l, r, m, hl, hm, rfl, hn1⟩
    refine code_ok (hW.inRound m.rb) hcf hk hmix 0 k R.assign r.assign ga _ h1e hs htm trivial (Nat.zero_le _) inr fun ι1 a1 w1 st1 old1 hf1 hmk => ?_
    simp only [exOf, Exit.then]
    -- the record is busy
    have hm1 : ι1 l = some m := st1.sub _ _ hm
    obtain ⟨m1, hm1', hobj1⟩ := st1.sim.obj l _ hl1 (by simp)
    rw [hm1] at hm1'; cases hm1'
    cases hobj1 with
    | @loop _ R1 hw1 gst1 gp1 gps1 gfr1 ga1 gb1 =>
      refine ⟨_, run_beginRound hw1 (by rw [gst1, hst]), ?_⟩
      have hlt1 := (Array.getElem?_eq_some_iff.1 hw1).1
      have stb := St.write (P := P) (o' := .loop { r with state := .busy }) st1.sim hl1 rfl hm1 (w' := w1.putObj m.rb (.loop { R1 with state := .busy })) (by simp) (fun rb hne => World.putObj_heap_other hne) rfl rfl rfl
        (fun _ => .loop (World.putObj_heap_same hlt1) rfl gp1 gps1 gfr1 ga1 gb1) (.inl rfl)
      have inr2 : InR (F.inRound m.rb) ι1 (h1.set l (.loop { r with state := .busy })) ws2 := fun lr hlr => by
        cases hlr
        exact ⟨l, _, m, List.getElem?_set_self hll1, hm1, rfl, hn2⟩
      refine code_ok (hW.inRound m.rb) hcf hk hmix 0 k R.body r.body gb _ h2e stb.sim hf1 (hmk.step st1.sim stb) (Nat.zero_le _) inr2 fun ι2 a2 w2 st2 old2 hf2 _ => ?_
      have hm2 : ι2 l = some m := st2.sub _ _ hm1
      obtain ⟨m2, hm2', hobj2⟩ := st2.sim.obj l _ hl2 (by simp)
      rw [hm2] at hm2'; cases hm2'
      cases hobj2 with
      | @loop _ R2 hw2 gst2 gp2 gps2 gfr2 ga2 gb2 =>
        have hlt2 := (Array.getElem?_eq_some_iff.1 hw2).1
        have hready : ∀ ds, St P ι2 h2 w2 ι2 (h2.set l (.loop r)) (w2.putObj m.rb (.loop { R2 with state := .ready, pending := none, defers := ds })) := fun ds =>
          St.write (P := P) (o' := .loop r) st2.sim hl2 rfl hm2 (by simp) (fun rb hne => World.putObj_heap_other hne) rfl rfl rfl
            (fun _ => .loop (World.putObj_heap_same hlt2) hst.symm (by rw [hpd]; rfl) gps2 gfr2 ga2 gb2) (.inl rfl)
        have stAll := (st1.trans stb).trans (st2.trans (hready R2.defers))
        have oldAll : Old ι h ι2 := fun b hb => (old2 b (by simp only [List.length_set]; exact Nat.lt_of_lt_of_le hb k1.len)).trans (old1 b hb)
        have k3 : Keeps h.length h (h2.set l (.loop r)) (ws1 ++ ws2) := by
          refine ⟨by have := k1.len; have := k2.len; simp only [List.length_set] at *; omega, fun b hb hn => ?_⟩
          by_cases e : b = l
          · subst e
            rw [List.getElem?_set_self hll2, hl]
          · rw [List.getElem?_set_ne (Ne.symm e), k2.at_ b (Nat.lt_of_lt_of_le hb k1.len) (fun hm => hn (List.mem_append_right _ hm)), List.getElem?_set_ne (Ne.symm e), k1.at_ b hb (fun hm => hn (List.mem_append_left _ hm))]
        unfold roundEnd at hv
        split at hv <;> try (cases hv; done)
        rename_i v3 h3 ws3 hg
        obtain ⟨ι3, st3, old3, hv3⟩ := gc_ok hs stAll oldAll k3 (VR.bool _) hg
        have kg := gc_keep k3 hg
        have hl3 : h3[l]? = some (.loop r) := (kg.at_ l hll fun hm => hnot (gc_ws hg l hm)).trans hl
        have hm3 : ι3 l = some m := (old3 l hll).trans hm
        have done : ∀ (j : Option Nat), leaves e = some j → ∃ v' w', (Instr.endRound m.rb (some (jumpOf j))).run P w2 = .ok v' w' ∧ Ret P ι h w v h' (.returned v') w' := by
          intro j hj
          rw [hj] at hv
          simp only [Option.some.injEq, Prod.mk.injEq] at hv
          obtain ⟨rfl, rfl, rfl⟩ := hv
          refine ⟨_, _, run_endRound (some (jumpOf j)) hw2, ?_⟩
          have hb : (some (jumpOf j)).isNone = false := rfl
          obtain ⟨m4, hm4, hobj4⟩ := st3.sim.obj l _ hl3 (by simp)
          rw [hm3] at hm4; cases hm4
          cases hobj4 with
          | @loop _ R4 hw4 gst4 gp4 gps4 gfr4 ga4 gb4 =>
            have hR4 : R4 = { R2 with state := .ready, pending := none, defers := R2.defers } := by
              have : (w2.putObj m.rb (.loop { R2 with state := .ready, pending := none, defers := R2.defers })).heap[m.rb]? = some (.loop { R2 with state := .ready, pending := none, defers := R2.defers }) := World.putObj_heap_same hlt2
              rw [hw4] at this; simpa using this
            subst hR4
            have st4 := St.write (P := P) (o' := .loop { r with state := .done, pending := some j }) st3.sim hl3 rfl hm3 (w' := w2.putObj m.rb (.loop { R2 with state := .done, pending := some (jumpOf j) })) (by simp)
              (fun rb hne => (World.putObj_heap_other hne).trans (World.putObj_heap_other hne).symm) rfl rfl rfl
              (fun _ => .loop (World.putObj_heap_same hlt2) rfl rfl gps4 gfr4 ga4 gb4) (.inl rfl)
            refine ⟨ι3, _, rfl, st3.trans st4, old3, ?_⟩
            rw [hb]
            have hle : (leaves e).isNone = false := by rw [hj]; rfl
            rw [hle] at hv3
            exact hv3
        cases e with
        | normal =>
          simp only [leaves, Option.some.injEq, Prod.mk.injEq] at hv
          obtain ⟨rfl, rfl, rfl⟩ := hv
          exact ⟨_, _, run_endRound none hw2, ι3, _, rfl, st3, old3, hv3⟩
        | ret => exact done none rfl
        | exit id => exact done (some id) rfl
end
/-- A contract that stands for a function. -/
def ExtOK (P : Program) (f : FuncId) (e : List Value → Heap → Option (Value × Heap × List Nat)) : Prop :=
  ∀ args h v h' ws, e args h = some (v, h', ws) → ∀ (F : Fence) (n : Nat), Wide F → ∀ (ι : Inj) (w : World) (args' : List Value), Sim P ι h w → VRs ι args args' → CallsIn F n P f args'.toArray w (Ret P ι h w v h')
/-- A contract that stands for a function without a Go body. -/
def ValOK (P : Program) (f : FuncId) (e : List Value → Heap → Option (Value × Heap × List Nat)) : Prop :=
  ∀ args h v h' ws, e args h = some (v, h', ws) → (∀ l0 a0 b0, Value.func (.yield l0) a0 b0 ∉ args) ∧ ∀ (ι : Inj) (w : World) (args' : List Value), Sim P ι h w → VRs ι args args' → ∃ v' w', (callFunc f args'.toArray).run P w = .ok (.value v') w' ∧ Ret P ι h w v h' (.returned v') w'
theorem Wide.fenced {F : Fence} (hW : Wide F) (m : Machine) : m.fenced P F := by
  intro g _
  refine ⟨fun h => ?_, Or.inl (hW.fn _), fun _ _ => hW.fn _, fun _ h => ?_⟩
  · rw [hW.alive] at h; cases h
  · rw [hW.depth] at h; cases h
/-- A contract of the kit's, under a wide fence. -/
theorem callsIn_of {F : Fence} {n : Nat} (hW : Wide F) {f : FuncId} {args : Array Value} {w : World} {R : Ending → World → Prop} (h : Calls P f args w R) : CallsIn F n P f args w R :=
  ⟨hW.fn f, fun cs _ => let ⟨e, w', fr, r, s, x⟩ := h cs; ⟨e, w', fr, r, (by
    cases e with
    | returned v => exact (StepsIn.of_steps s).mono fun m _ => hW.fenced m
    | panicked chain => exact (StepsIn.of_steps s).mono fun m _ => hW.fenced m
    | outgrown => exact s), x⟩⟩
/-- What is asked of a table of functions. -/
structure EnvOK (P : Program) (E : Env) : Prop where
  mix : P.follows .mixedOrders = true
  keep : KeepE E
  text : ∀ f c, E f = .text c → FnC.of P f c
  textK : ∀ f c, E f = .textK c → FnC.of P f c
  ext : ∀ f e, E f = .ext e → (∃ fn, P.funcs[f]? = some fn ∧ fn.body.isNone = false ∧ (fn.name == "runtime.NumGoroutine") = false) ∧ ExtOK P f e ∨ ValOK P f e
theorem enters {f : FuncId} {fn : Func} (hf : P.funcs[f]? = some fn) (hb : fn.body.isNone = false) (hn : (fn.name == "runtime.NumGoroutine") = false) (args : Array Value) (w : World) : (callFunc f args).run P w = .ok (.enter f args) w := by
  simp only [callFunc, Sem.run_bind, run_program, Result.andThen_ok, hf, hn, hb, Bool.false_eq_true, if_false, Sem.run_pure]
theorem of_enters {f : FuncId} {c : FnC} (hc : FnC.of P f c) (args : Array Value) (w : World) : (callFunc f args).run P w = .ok (.enter f args) w := by
  unfold FnC.of at hc
  simp only [Option.bind_eq_some_iff] at hc
  obtain ⟨fn, hfn, hc⟩ := hc
  unfold compF at hc
  split at hc
  · cases hc
  · rename_i hn
    simp only [Option.bind_eq_some_iff] at hc
    obtain ⟨g, hb, _⟩ := hc
    exact enters hfn (by rw [hb]; rfl) (by simpa using hn) args w
/-- ALL CALLS THAT THE LOGICAL MACHINE TELLS GO, IN THE MODEL, AS IT TELLS. -/
theorem callv_ok {E : Env} (hE : EnvOK P E) : ∀ k, CallOK P (callv E k)
  | 0 => fun g args h v h' ws hv => by simp [callv] at hv
  | k + 1 => fun g args h v h' ws hv F n hW ι w g' args' hs hg ha => by
    have ih := callv_ok hE k
    have hk := callv_keep hE.keep k
    simp only [callv, callG] at hv
    split at hv
    · rename_i f first cap
      obtain ⟨fl⟩ := first
      obtain ⟨cl⟩ := cap
      obtain ⟨fl', cl', rfl, hfl, hcl⟩ := hg.func_inv
      have hall : VRs ι (fl ++ args ++ cl) (fl' ++ args' ++ cl') := (hfl.append ha).append hcl
      have e1 : fl'.toArray ++ args'.toArray ++ cl'.toArray = (fl' ++ args' ++ cl').toArray := by apply Array.ext'; simp
      refine ⟨{ target := .fn (.func f) cl'.toArray, args := fl'.toArray ++ args'.toArray }, rfl, ?_⟩
      have e2 : invoke (.fn (.func f) cl'.toArray) (fl'.toArray ++ args'.toArray) = callFunc f (fl' ++ args' ++ cl').toArray := by rw [← e1]; rfl
      simp only [e2]
      cases hE' : E f with
      | none => rw [hE'] at hv; cases hv
      | text c =>
        rw [hE'] at hv
        exact .inl (.inl ⟨f, _, of_enters (hE.text f c hE') _ w, text_ok hW ih hk hE.mix (hE.text f c hE') hv hs hall⟩)
      | textK c =>
        rw [hE'] at hv
        exact .inl (.inl ⟨f, _, of_enters (hE.textK f c hE') _ w, textK_ok hW ih hk hE.mix (hE.textK f c hE') hv hs hall⟩)
      | ext e =>
        rw [hE'] at hv
        rcases hE.ext f e hE' with ⟨⟨fn, h1, h2, h3⟩, hx⟩ | hx
        · exact .inl (.inl ⟨f, _, enters h1 h2 h3 _ w, hx _ _ _ _ _ hv F n hW ι w _ hs hall⟩)
        · obtain ⟨hny, hrun⟩ := hx _ _ _ _ _ hv
          exact .inr ⟨fun l0 a0 b0 hm => hny l0 a0 b0 (by simp [hm]), hrun ι w _ hs hall⟩
    · rename_i l first cap
      obtain ⟨fl⟩ := first
      obtain ⟨cl⟩ := cap
      split at hv
      · rename_i hcap
        have hcl0 : cl = [] := by simpa using hcap
        subst hcl0
        obtain ⟨m, fl', cl', hm, rfl, hfl, hcl⟩ := hg.yield_inv
        obtain ⟨fn, tmps, assign, body, h1, h2⟩ := round_ok (F := F) (n := n) hW ih hk hE.mix hv hs (hfl.append ha) hm
        refine ⟨{ target := .fn (.yield m.rb) cl'.toArray, args := fl'.toArray ++ args'.toArray }, rfl, .inl (.inr ⟨⟨_, _, _, rfl⟩, m.rb, fn, tmps, assign, body, ?_, h2⟩)⟩
        have e1 : fl'.toArray ++ args'.toArray = (fl' ++ args').toArray := by apply Array.ext'; simp
        show (Instr.yield m.rb (fl'.toArray ++ args'.toArray)).run P w = _
        rw [e1]; exact h1
      · cases hv
    · cases hv
theorem callW_ok {E : Env} (hE : EnvOK P E) : CallOK P (callW E) := by
  intro g args h v h' ws hv
  obtain ⟨k, hk⟩ := callW_some.1 hv
  exact callv_ok hE k g args h v h' ws hk
end Go.L
