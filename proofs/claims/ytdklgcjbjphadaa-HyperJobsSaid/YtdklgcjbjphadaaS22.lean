/- THE LOGICAL MACHINE AND THE MODEL: code, whole. -/
import Derived.Test.YtdklgcjbjphadaaS21
set_option linter.unusedVariables false
set_option linter.unusedSimpArgs false
namespace Go.L
open Go
variable {P : Program}
theorem bare_skip {c : C} (h : bare c = .skip) : c = .skip := by cases c <;> simp [bare] at h; rfl
theorem bare_reg {c : C} {i : List Ins} (h : bare c = .reg [] i) : ∃ l, c = .reg l i := by cases c <;> simp [bare] at h; subst h; exact ⟨_, rfl⟩
theorem bare_drw {c : C} {n : Nat} {i : List Ins} (h : bare c = .drw [] n i) : ∃ l, c = .drw l n i := by cases c <;> simp [bare] at h; obtain ⟨rfl, rfl⟩ := h; exact ⟨_, rfl⟩
theorem bare_seq {c x y : C} (h : bare c = .seq x y) : ∃ a b, c = .seq a b ∧ bare a = x ∧ bare b = y := by cases c <;> simp [bare] at h; exact ⟨_, _, rfl, h.1, h.2⟩
theorem bare_cond {c x y : C} {v : X} (h : bare c = .cond v x y) : ∃ a b, c = .cond v a b ∧ bare a = x ∧ bare b = y := by cases c <;> simp [bare] at h; obtain ⟨rfl, h⟩ := h; exact ⟨_, _, rfl, h.1, h.2⟩
theorem bare_block {c x : C} {id : Nat} (h : bare c = .block id x) : ∃ a, c = .block id a ∧ bare a = x := by cases c <;> simp [bare] at h; obtain ⟨rfl, h⟩ := h; exact ⟨_, rfl, h⟩
theorem bare_loop {c x : C} (h : bare c = .loop x) : ∃ a, c = .loop a ∧ bare a = x := by cases c <;> simp [bare] at h; exact ⟨_, rfl, h⟩
theorem bare_exit {c : C} {id : Nat} (h : bare c = .exit id) : c = .exit id := by cases c <;> simp [bare] at h; subst h; rfl
theorem bare_ret {c : C} (h : bare c = .ret) : c = .ret := by cases c <;> simp [bare] at h; rfl
theorem bare_rng {c x y : C} {g : X} {ps : List Nat} (h : bare c = .rng g ps x y) : ∃ a b, c = .rng g ps a b ∧ bare a = x ∧ bare b = y := by cases c <;> simp [bare] at h; obtain ⟨rfl, rfl, h⟩ := h; exact ⟨_, _, rfl, h.1, h.2⟩
section
variable {F : Fence} {n : Nat} {cf : CallT} {sz : Nat}
/-- The law of code: of the model's, and the logical machine's. -/
def CodeOK (F : Fence) (n : Nat) (P : Program) (n0 : Nat) (g : Code) (K : Fr → Heap → Out) (sz : Nat) : Prop :=
  ∀ (Q : Exit → Act → World → Prop) {ι : Inj} {h : Heap} {w : World} {fr : Fr} {a : Act} {e : Ex} {fr' : Fr} {h' : Heap} {ws : List Nat}, K fr h = some (e, fr', h', ws) → Sim P ι h w → FFR ι sz (get fr) a.tmps → Marks n0 w a.defers → n0 ≤ w.heap.size → InR F ι h ws →
    (∀ ι' a' w', St P ι h w ι' h' w' → Old ι h ι' → FFR ι' sz (get fr') a'.tmps → Marks n0 w' a'.defers → Q (exOf e) a' w') → g.wpIn F n P Q a w
theorem Old.trans {ι ι1 ι2 : Inj} {h h1 : Heap} (a : Old ι h ι1) (hl : h.length ≤ h1.length) (b : Old ι1 h1 ι2) : Old ι h ι2 := fun x hx => (b x (Nat.lt_of_lt_of_le hx hl)).trans (a x hx)
/-- In a row. -/
theorem seq_ok {n0 : Nat} {x y : Code} {K L : Fr → Heap → Out} (hx : CodeOK F n P n0 x K sz) (hK : KeepF K) (hy : CodeOK F n P n0 y L sz) : CodeOK F n P n0 (.seq x y) (fun fr h => thenN (K fr h) L) sz := by
  intro Q ι h w fr a e fr' h' ws hv hs hf hm hn hi hq
  refine wpIn_seq ?_
  simp only [thenN] at hv
  split at hv
  · rename_i fr1 h1 ws1 h1e
    split at hv
    · rename_i e2 fr2 h2 ws2 h2e
      simp only [Option.some.injEq, Prod.mk.injEq] at hv
      obtain ⟨rfl, rfl, rfl, rfl⟩ := hv
      have kk := hK _ _ _ _ _ _ h1e
      refine hx _ h1e hs hf hm hn hi.left fun ι1 a1 w1 st1 old1 hf1 hm1 => ?_
      exact hy Q h2e st1.sim hf1 hm1 (Nat.le_trans hn st1.size) (hi.right kk st1.sub) fun ι2 a2 w2 st2 old2 hf2 hm2 => hq ι2 a2 w2 (st1.trans st2) (old1.trans kk.len old2) hf2 hm2
    · cases hv
  · rename_i hne
    refine hx _ hv hs hf hm hn hi fun ι1 a1 w1 st1 old1 hf1 hm1 => ?_
    cases e with
    | normal => exact absurd hv (hne _ _ _)
    | exit id => exact hq ι1 a1 w1 st1 old1 hf1 hm1
    | ret => exact hq ι1 a1 w1 st1 old1 hf1 hm1
theorem region_ok (hW : Wide F) (hcf : CallOK P cf) (hk : KeepC cf) {n0 : Nat} {id : Nat} {ops : Array Oper} {ins : List Ins} (hi : ops.toList.mapM (cI P sz ops) = some ins) (live : List Nat) :
    CodeOK F n P n0 (.region id ops false) (fun fr h => regO live (runN cf ins (get fr) h)) sz := by
  intro Q ι h w fr a e fr' h' ws hv hs hf hm hn hir hq
  refine wpIn_region ?_
  simp only [regO] at hv
  split at hv
  · rename_i f2 h2 ws2 hr
    simp only [Option.some.injEq, Prod.mk.injEq] at hv
    obtain ⟨rfl, rfl, rfl, rfl⟩ := hv
    obtain ⟨hlen, hat⟩ := mapM_at hi
    have hops : Ops P sz ops (List.range ops.size) ins := by
      refine All2.of_at (by simpa using hlen) fun i j x hj hx => ?_
      have hlt : i < ops.size := by have := (List.getElem?_eq_some_iff.1 hj).1; simpa using this
      rw [List.getElem?_range hlt] at hj
      cases hj
      obtain ⟨b, hb1, hb2⟩ := hat i ops[i] (by simp [hlt])
      rw [hx] at hb1; cases hb1
      exact ⟨ops[i], by simp [hlt], hb2⟩
    refine runN_ok hW hcf hk hops hs hf hr fun ι' a' w' st old hf' hd => hq ι' a' w' st old (hf'.live live) ?_
    rw [hd]; exact hm.step hs st
  · cases hv
theorem map_getD_range (r : List Ins) : (List.range r.length).map (fun j => r.getD j dfl) = r := by
  apply List.ext_getElem?
  intro i
  rw [List.getElem?_map]
  rcases Nat.lt_or_ge i r.length with hl | hl
  · rw [List.getElem?_range hl, List.getElem?_eq_getElem hl]
    simp [hl]
  · rw [List.getElem?_eq_none hl, List.getElem?_eq_none (by simpa using hl)]; rfl
theorem drawn_ok (hW : Wide F) (hcf : CallOK P cf) (hk : KeepC cf) (hmix : P.follows .mixedOrders = true) {n0 : Nat} {id : Nat} {ops : Array Oper} {ins r : List Ins} {nn : Nat} (hi : ops.toList.mapM (cI P sz ops) = some ins) (hd : drawn ops ins = some (nn, r)) (live : List Nat) :
    CodeOK F n P n0 (.region id ops true) (fun fr h => regO live (runD cf h.length r (get fr) (room h nn))) sz := by
  intro Q ι h w fr a e fr' h' ws hv hs hf hm hn hir hq
  refine wpIn_region_any hmix ?_
  simp only [regO] at hv
  split at hv
  · rename_i f2 h2 ws2 hr
    simp only [Option.some.injEq, Prod.mk.injEq] at hv
    obtain ⟨rfl, rfl, rfl, rfl⟩ := hv
    obtain ⟨hfree, hlen⟩ := drawn_free hi hd
    have st0 : St P ι h w ι (room h nn) { w with drawn := w.drawn + 1 } := (St.quiet hs (Quiet.drew w)).trans (St.room (St.quiet hs (Quiet.drew w)).sim nn)
    have hrl := room_len h nn
    have hrun : runD cf h.length ((List.range ops.size).map fun j => r.getD j dfl) (get fr) (room h nn) = some (f2, h2, ws2) := by
      rw [← hlen, map_getD_range]; exact hr
    refine any_ok hW hcf hk hfree (m := h.length) ops.size (Array.replicate ops.size false) (List.range ops.size) (by simp) (by simp) (fun j => ?_) List.pairwise_lt_range (fun k hk1 hk2 => ?_) st0.sim hf (by omega) (fun j hj hA => ?_) hrun fun ι' a' w' st old hf' hd' => ?_
    · rw [List.mem_range]
      constructor
      · intro hj; exact ⟨hj, by simp [Array.getD_eq_getD_getElem?, hj]⟩
      · exact fun h => h.1
    · rw [Array.getD_eq_getD_getElem?] at hk2; simp [hk1] at hk2
    · have := hfree.rank j (List.mem_range.1 hj) hA
      exact ⟨by omega, hs.dom _ (by omega)⟩
    · refine hq ι' a' w' (st0.trans st) (fun b hb => old b hb) (hf'.live live) ?_
      rw [hd']; exact hm.step hs (st0.trans st)
  · cases hv
end
end Go.L
