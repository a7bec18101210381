/- THE LOGICAL MACHINE: what is written is told; the heap grows. -/
import Derived.Test.YtifnlcajancfdaaGreatDoorW
set_option linter.unusedVariables false
set_option linter.unusedSimpArgs false
namespace Go.L
open Go
structure Keeps (m : Nat) (h h' : Heap) (ws : List Nat) : Prop where
  len : h.length ≤ h'.length
  at_ : ∀ b, b < m → b ∉ ws → h'[b]? = h[b]?
theorem Keeps.refl (m : Nat) (h : Heap) (ws : List Nat) : Keeps m h h ws := ⟨Nat.le_refl _, fun _ _ _ => rfl⟩
theorem Keeps.trans {m : Nat} {h h1 h2 : Heap} {ws ws' : List Nat} (a : Keeps m h h1 ws) (b : Keeps m h1 h2 ws') : Keeps m h h2 (ws ++ ws') :=
  ⟨Nat.le_trans a.len b.len, fun x hx hn => (b.at_ x hx fun hm => hn (List.mem_append_right _ hm)).trans (a.at_ x hx fun hm => hn (List.mem_append_left _ hm))⟩
theorem Keeps.less {m m' : Nat} {h h' : Heap} {ws : List Nat} (a : Keeps m h h' ws) (hm : m' ≤ m) : Keeps m' h h' ws := ⟨a.len, fun b hb hn => a.at_ b (Nat.lt_of_lt_of_le hb hm) hn⟩
theorem Keeps.set {m : Nat} {h : Heap} (b : Nat) (o : LObj) : Keeps m h (h.set b o) [b] :=
  ⟨by simp, fun x _ hn => List.getElem?_set_ne (fun e => hn (by simp [e]))⟩
theorem Keeps.set_high {m : Nat} {h : Heap} {b : Nat} (hb : m ≤ b) (o : LObj) (ws : List Nat) : Keeps m h (h.set b o) ws :=
  ⟨by simp, fun x hx _ => List.getElem?_set_ne (by omega)⟩
theorem Keeps.push {m : Nat} {h : Heap} (hm : m ≤ h.length) (l : List LObj) (ws : List Nat) : Keeps m h (h ++ l) ws :=
  ⟨by simp, fun x hx _ => List.getElem?_append_left (by omega)⟩
theorem Keeps.mono {m : Nat} {h h' : Heap} {ws ws' : List Nat} (a : Keeps m h h' ws) (hs : ∀ b, b ∈ ws → b ∈ ws') : Keeps m h h' ws' := ⟨a.len, fun b hb hn => a.at_ b hb fun h => hn (hs b h)⟩
def KeepC (cf : CallT) : Prop := ∀ g args h v h' ws, cf g args h = some (v, h', ws) → Keeps h.length h h' ws
theorem store_keep {m n : Nat} {x v : Value} {h h' : Heap} {ws : List Nat} (hv : storeV n x v h = some (h', ws)) : Keeps m h h' ws := by
  unfold storeV at hv
  split at hv <;> try (cases hv; done)
  split at hv <;> try (cases hv; done)
  split at hv <;> try (cases hv; done)
  simp only [Option.some.injEq, Prod.mk.injEq] at hv
  obtain ⟨rfl, rfl⟩ := hv
  exact Keeps.set _ _
theorem Keeps.set_push {m : Nat} {h : Heap} (hm : m ≤ h.length) (b : Nat) (o : LObj) (l : List LObj) : Keeps m h (h.set b o ++ l) [b] :=
  ⟨by simp, fun x hx hn => by rw [List.getElem?_append_left (by simp; omega), List.getElem?_set_ne (fun e => hn (by simp [e]))]⟩
theorem eff_keep {f : FF} {o : O} {h h' : Heap} {v : Value} {ws : List Nat} {m : Nat} (hm : m ≤ h.length) (hv : effV f h o = some (v, h', ws)) : Keeps m h h' ws := by
  unfold effV at hv
  split at hv
  · (repeat' split at hv) <;> try (cases hv; done)
    simp only [Option.map_eq_some_iff, Prod.mk.injEq] at hv
    obtain ⟨_, _, _, rfl, rfl⟩ := hv
    exact Keeps.set _ _
  · unfold appendV at hv
    (repeat' split at hv) <;> (try (cases hv; done)) <;> (simp only [Option.some.injEq, Prod.mk.injEq] at hv; obtain ⟨_, rfl, rfl⟩ := hv) <;>
      first
        | exact Keeps.refl _ _ _
        | exact Keeps.set _ _
        | exact Keeps.push hm _ _
        | exact Keeps.set_push hm _ _ _
  · unfold copyV at hv
    (repeat' split at hv) <;> (try (cases hv; done)) <;> (simp only [Option.some.injEq, Prod.mk.injEq] at hv; obtain ⟨_, rfl, rfl⟩ := hv) <;>
      first
        | exact Keeps.refl _ _ _
        | exact Keeps.set _ _
  · unfold clearV at hv
    (repeat' split at hv) <;> (try (cases hv; done)) <;> (simp only [Option.some.injEq, Prod.mk.injEq] at hv; obtain ⟨_, rfl, rfl⟩ := hv) <;>
      first
        | exact Keeps.refl _ _ _
        | exact Keeps.set _ _
  · (repeat' split at hv) <;> try (cases hv; done)
    simp only [Option.map_eq_some_iff, Prod.mk.injEq] at hv
    obtain ⟨_, _, _, rfl, rfl⟩ := hv
    exact Keeps.set _ _
  · cases hv
theorem opN_keep {cf : CallT} (hcf : KeepC cf) {f : FF} {o : O} {h h' : Heap} {v : Value} {ws : List Nat} (hv : opN cf f h o = some (v, h', ws)) : Keeps h.length h h' ws := by
  unfold opN at hv
  split at hv
  · split at hv
    · simp only [Option.some.injEq, Prod.mk.injEq] at hv; obtain ⟨_, rfl, rfl⟩ := hv; exact Keeps.refl _ _ _
    · cases hv
  · split at hv
    · simp only [Option.some.injEq, Prod.mk.injEq] at hv; obtain ⟨_, rfl, rfl⟩ := hv; exact Keeps.refl _ _ _
    · cases hv
  · split at hv
    · simp only [Option.some.injEq, Prod.mk.injEq] at hv; obtain ⟨_, rfl, rfl⟩ := hv; exact Keeps.push (Nat.le_refl _) _ _
    · cases hv
  · split at hv
    · split at hv
      · rename_i hr
        simp only [Option.some.injEq, Prod.mk.injEq] at hv; obtain ⟨_, rfl, rfl⟩ := hv; exact store_keep hr
      · cases hv
    · cases hv
  · split at hv
    · exact hcf _ _ _ _ _ _ hv
    · cases hv
  · exact eff_keep (Nat.le_refl _) hv
theorem runN_keep {cf : CallT} (hcf : KeepC cf) : ∀ {ins : List Ins} {f f' : FF} {h h' : Heap} {ws : List Nat}, runN cf ins f h = some (f', h', ws) → Keeps h.length h h' ws
  | [], f, f', h, h', ws, hv => by simp only [runN, Option.some.injEq, Prod.mk.injEq] at hv; obtain ⟨_, rfl, rfl⟩ := hv; exact Keeps.refl _ _ _
  | i :: r, f, f', h, h', ws, hv => by
    simp only [runN] at hv
    split at hv
    · split at hv
      · rename_i v h1 ws1 h1e
        unfold addw at hv
        split at hv
        · rename_i hr
          simp only [Option.some.injEq, Prod.mk.injEq] at hv; obtain ⟨rfl, rfl, rfl⟩ := hv
          have k1 := opN_keep hcf h1e
          exact k1.trans ((runN_keep hcf hr).less k1.len)
        · cases hv
      · cases hv
    · exact runN_keep hcf hv
    · cases hv
theorem opD_keep {cf : CallT} (hcf : KeepC cf) {m : Nat} {f : FF} {i : Ins} {h h' : Heap} {v : Value} {ws : List Nat} (hm : m ≤ h.length) (hv : opD cf m f h i = some (v, h', ws)) : Keeps m h h' ws := by
  unfold opD at hv
  split at hv
  · split at hv
    · simp only [Option.some.injEq, Prod.mk.injEq] at hv; obtain ⟨_, rfl, rfl⟩ := hv; exact Keeps.refl _ _ _
    · cases hv
  · split at hv
    · cases hv
    · split at hv
      · simp only [Option.some.injEq, Prod.mk.injEq] at hv; obtain ⟨_, rfl, rfl⟩ := hv; exact Keeps.refl _ _ _
      · cases hv
  · split at hv
    · simp only [Option.some.injEq, Prod.mk.injEq] at hv; obtain ⟨_, rfl, rfl⟩ := hv; exact Keeps.set_high (by omega) _ _
    · cases hv
  · split at hv
    · split at hv
      · cases hv
      · split at hv
        · rename_i hr
          simp only [Option.some.injEq, Prod.mk.injEq] at hv; obtain ⟨_, rfl, rfl⟩ := hv; exact store_keep hr
        · cases hv
    · cases hv
  · split at hv
    · split at hv
      · rename_i hr
        split at hv
        · cases hv
        · simp only [Option.some.injEq, Prod.mk.injEq] at hv; obtain ⟨_, rfl, rfl⟩ := hv; exact (hcf _ _ _ _ _ _ hr).less hm
      · cases hv
    · cases hv
  · split at hv
    · rename_i hr
      split at hv
      · cases hv
      · simp only [Option.some.injEq, Prod.mk.injEq] at hv; obtain ⟨_, rfl, rfl⟩ := hv; exact eff_keep hm hr
    · cases hv
theorem runD_keep {cf : CallT} (hcf : KeepC cf) {m : Nat} : ∀ {ins : List Ins} {f f' : FF} {h h' : Heap} {ws : List Nat}, m ≤ h.length → runD cf m ins f h = some (f', h', ws) → Keeps m h h' ws
  | [], f, f', h, h', ws, hm, hv => by simp only [runD, Option.some.injEq, Prod.mk.injEq] at hv; obtain ⟨_, rfl, rfl⟩ := hv; exact Keeps.refl _ _ _
  | i :: r, f, f', h, h', ws, hm, hv => by
    simp only [runD] at hv
    split at hv
    · split at hv
      · rename_i v h1 ws1 h1e
        unfold addw at hv
        split at hv
        · rename_i hr
          simp only [Option.some.injEq, Prod.mk.injEq] at hv; obtain ⟨rfl, rfl, rfl⟩ := hv
          have k1 := opD_keep hcf hm h1e
          exact k1.trans (runD_keep hcf (Nat.le_trans hm k1.len) hr)
        · cases hv
      · cases hv
    · exact runD_keep hcf hm hv
    · cases hv
theorem room_keep (h : Heap) (n : Nat) : Keeps h.length h (room h n) [] := by
  cases n with
  | zero => exact Keeps.refl _ _ _
  | succ n => exact Keeps.push (Nat.le_refl _) _ _
theorem gc_keep {h0 h h' : Heap} {v v' : Value} {ws ws' : List Nat} (hk : Keeps h0.length h0 h ws) (hv : gc h0 v h ws = some (v', h', ws')) : Keeps h0.length h0 h' ws' := by
  unfold gc at hv
  split at hv
  · rename_i hf
    have hnone : ∀ b, b < h0.length → b ∉ ws := by
      intro b hb hm
      have : b ∈ ws.filter (fun b => decide (b < h0.length)) := List.mem_filter.2 ⟨hm, by simpa using hb⟩
      rw [hf] at this; cases this
    split at hv
    · simp only [Option.some.injEq, Prod.mk.injEq] at hv; obtain ⟨_, rfl, rfl⟩ := hv; exact Keeps.refl _ _ _
    · unfold compact at hv
      simp only at hv
      split at hv
      · simp only [Option.some.injEq, Prod.mk.injEq] at hv; obtain ⟨_, rfl, rfl⟩ := hv; exact Keeps.push (Nat.le_refl _) _ _
      · simp only [Option.some.injEq, Prod.mk.injEq] at hv; obtain ⟨_, rfl, rfl⟩ := hv
        exact ⟨hk.len, fun b hb _ => hk.at_ b hb (hnone b hb)⟩
  · rename_i w r hf
    have hsub : ∀ b, b < h0.length → b ∉ w :: r → b ∉ ws := by
      intro b hb hn hm
      have : b ∈ ws.filter (fun b => decide (b < h0.length)) := List.mem_filter.2 ⟨hm, by simpa using hb⟩
      rw [hf] at this; exact hn this
    split at hv
    · simp only [Option.some.injEq, Prod.mk.injEq] at hv; obtain ⟨_, rfl, rfl⟩ := hv
      refine ⟨by have := hk.len; simp; omega, fun b hb hn => ?_⟩
      rw [List.getElem?_take_of_lt hb]
      exact hk.at_ b hb (hsub b hb hn)
    · simp only [Option.some.injEq, Prod.mk.injEq] at hv; obtain ⟨_, rfl, rfl⟩ := hv
      exact ⟨hk.len, fun b hb hn => hk.at_ b hb (hsub b hb hn)⟩
def KeepF (K : Fr → Heap → Out) : Prop := ∀ fr h e fr' h' ws, K fr h = some (e, fr', h', ws) → Keeps h.length h h' ws
theorem thenN_keep {x : Out} {k : Fr → Heap → Out} {h : Heap} (hx : ∀ e fr' h' ws, x = some (e, fr', h', ws) → Keeps h.length h h' ws) (hk : KeepF k) : ∀ e fr' h' ws, thenN x k = some (e, fr', h', ws) → Keeps h.length h h' ws := by
  intro e fr' h' ws hv
  unfold thenN at hv
  split at hv
  · rename_i fr1 h1 ws1
    split at hv
    · rename_i hr
      simp only [Option.some.injEq, Prod.mk.injEq] at hv; obtain ⟨_, _, rfl, rfl⟩ := hv
      have k1 := hx _ _ _ _ rfl
      exact k1.trans ((hk _ _ _ _ _ _ hr).less k1.len)
    · cases hv
  · exact hx _ _ _ _ hv
theorem iter_keep {K : Fr → Heap → Out} (hK : KeepF K) : ∀ n, KeepF (iter n K)
  | 0 => fun fr h e fr' h' ws hv => by simp [iter] at hv
  | n + 1 => fun fr h => thenN_keep (fun e fr' h' ws hv => hK _ _ _ _ _ _ hv) (iter_keep hK n)
theorem fnCall_keep {cf : CallT} (hcf : KeepC cf) : KeepC (fnCall cf) := by
  intro g args h v h' ws hv
  unfold fnCall at hv
  split at hv
  · exact hcf _ _ _ _ _ _ hv
  · cases hv
theorem code_keep {cf : CallT} {it : It} (hcf : KeepC cf) (hit : ∀ K, KeepF K → KeepF (it K)) (sz : Nat) : ∀ c, KeepF (code cf it sz c)
  | .skip => fun fr h e fr' h' ws hv => by simp only [code, Option.some.injEq, Prod.mk.injEq] at hv; obtain ⟨_, _, rfl, rfl⟩ := hv; exact Keeps.refl _ _ _
  | .reg live ins => fun fr h e fr' h' ws hv => by
    simp only [code, regO] at hv
    split at hv
    · rename_i hr; simp only [Option.some.injEq, Prod.mk.injEq] at hv; obtain ⟨_, _, rfl, rfl⟩ := hv; exact runN_keep hcf hr
    · cases hv
  | .drw live n ins => fun fr h e fr' h' ws hv => by
    simp only [code, regO] at hv
    split at hv
    · rename_i hr; simp only [Option.some.injEq, Prod.mk.injEq] at hv; obtain ⟨_, _, rfl, rfl⟩ := hv
      have k0 := room_keep h n
      simpa using k0.trans (runD_keep hcf k0.len hr)
    · cases hv
  | .seq x y => fun fr h => thenN_keep (fun e fr' h' ws hv => code_keep hcf hit sz x _ _ _ _ _ _ hv) (code_keep hcf hit sz y)
  | .cond v x y => fun fr h e fr' h' ws hv => by
    simp only [code, condO] at hv
    split at hv
    · split at hv
      · exact code_keep hcf hit sz x _ _ _ _ _ _ hv
      · exact code_keep hcf hit sz y _ _ _ _ _ _ hv
    · cases hv
  | .block id b => fun fr h e fr' h' ws hv => by
    simp only [code, inBlock] at hv
    split at hv
    · rename_i hr
      split at hv <;> (simp only [Option.some.injEq, Prod.mk.injEq] at hv; obtain ⟨_, _, rfl, rfl⟩ := hv; exact code_keep hcf hit sz b _ _ _ _ _ _ hr)
    · exact code_keep hcf hit sz b _ _ _ _ _ _ hv
  | .loop b => fun fr h e fr' h' ws hv => hit _ (code_keep hcf hit sz b) _ _ _ _ _ _ hv
  | .exit id => fun fr h e fr' h' ws hv => by simp only [code, Option.some.injEq, Prod.mk.injEq] at hv; obtain ⟨_, _, rfl, rfl⟩ := hv; exact Keeps.refl _ _ _
  | .ret => fun fr h e fr' h' ws hv => by simp only [code, Option.some.injEq, Prod.mk.injEq] at hv; obtain ⟨_, _, rfl, rfl⟩ := hv; exact Keeps.refl _ _ _
  | .rng g ps a b => fun fr h e fr' h' ws hv => by
    simp only [code, rangeEnd] at hv
    split at hv
    · rename_i v h1 ws1 hc
      split at hv
      · rename_i r hr
        split at hv
        · cases hv
        · split at hv
          · rename_i v2 h2 ws2 hg
            have k1 : Keeps h.length h h1 ws1 := by
              have k0 := Keeps.push (Nat.le_refl h.length) [LObj.loop { state := .ready, pending := none, fr, sz, params := ps, assign := a, body := b }] []
              have := k0.trans ((fnCall_keep hcf _ _ _ _ _ _ hc).less (by simp))
              simpa using this
            have k2 : Keeps h.length h (h1.set h.length .dead) ws1 := by simpa using k1.trans (Keeps.set_high (Nat.le_refl _) LObj.dead [])
            have k3 := gc_keep k2 hg
            split at hv <;> (simp only [Option.some.injEq, Prod.mk.injEq] at hv; obtain ⟨_, _, rfl, rfl⟩ := hv; exact k3)
          · cases hv
      · cases hv
    · cases hv
theorem fin_keep {res : List R} {h0 : Heap} {x : Out} (hx : ∀ e fr' h' ws, x = some (e, fr', h', ws) → Keeps h0.length h0 h' ws) {v : Value} {h' : Heap} {ws : List Nat} (hv : fin res h0 x = some (v, h', ws)) : Keeps h0.length h0 h' ws := by
  unfold fin at hv
  split at hv
  · cases hv
  · split at hv
    · exact gc_keep (hx _ _ _ _ rfl) hv
    · cases hv
  · cases hv
theorem finK_keep {res : List R} {h0 : Heap} {x : Out} (hx : ∀ e fr' h' ws, x = some (e, fr', h', ws) → Keeps h0.length h0 h' ws) {v : Value} {h' : Heap} {ws : List Nat} (hv : finK res x = some (v, h', ws)) : Keeps h0.length h0 h' ws := by
  unfold finK at hv
  split at hv
  · cases hv
  · split at hv
    · simp only [Option.some.injEq, Prod.mk.injEq] at hv
      obtain ⟨_, rfl, rfl⟩ := hv
      exact hx _ _ _ _ rfl
    · cases hv
  · cases hv
def KeepE (E : Env) : Prop := ∀ f e, E f = .ext e → ∀ args h v h' ws, e args h = some (v, h', ws) → Keeps h.length h h' ws
theorem callF_keep {cf : CallT} {it : It} (hcf : KeepC cf) (hit : ∀ K, KeepF K → KeepF (it K)) {d : Def} (hd : ∀ e, d = .ext e → ∀ args h v h' ws, e args h = some (v, h', ws) → Keeps h.length h h' ws) {args : List Value} {h : Heap} {v : Value} {h' : Heap} {ws : List Nat}
    (hv : callF cf it d args h = some (v, h', ws)) : Keeps h.length h h' ws := by
  unfold callF at hv
  split at hv
  · exact hd _ rfl _ _ _ _ _ hv
  · split at hv
    · exact fin_keep (fun e fr' h' ws he => code_keep hcf hit _ _ _ _ _ _ _ _ he) hv
    · cases hv
  · split at hv
    · exact finK_keep (fun e fr' h' ws he => code_keep hcf hit _ _ _ _ _ _ _ _ he) hv
    · cases hv
  · cases hv
theorem round_keep {cf : CallT} {it : It} (hcf : KeepC cf) (hit : ∀ K, KeepF K → KeepF (it K)) {l : Nat} {args : List Value} {h : Heap} {v : Value} {h' : Heap} {ws : List Nat} (hv : roundV cf it l args h = some (v, h', ws)) : Keeps h.length h h' ws := by
  unfold roundV at hv
  split at hv <;> try (cases hv; done)
  rename_i r hl
  split at hv <;> try (cases hv; done)
  split at hv <;> try (cases hv; done)
  split at hv <;> try (cases hv; done)
  split at hv <;> try (cases hv; done)
  rename_i fr1 h1 ws1 h1e
  split at hv <;> try (cases hv; done)
  rename_i e fr2 h2 ws2 h2e
  split at hv <;> try (cases hv; done)
  rename_i hnot
  have k1 := code_keep hcf hit _ _ _ _ _ _ _ _ h1e
  have k2 := code_keep hcf hit _ _ _ _ _ _ _ _ h2e
  simp only [List.length_set] at k2
  have k3 : Keeps h.length h (h2.set l (.loop r)) (ws1 ++ ws2) := by
    refine ⟨by have := k1.len; have := k2.len; simp only [List.length_set] at *; omega, fun b hb hn => ?_⟩
    by_cases e : b = l
    · subst e
      rw [List.getElem?_set_self (by have := k1.len; have := k2.len; simp only [List.length_set] at *; omega), hl]
    · rw [List.getElem?_set_ne (Ne.symm e), k2.at_ b (Nat.lt_of_lt_of_le hb k1.len) (fun hm => hn (List.mem_append_right _ hm)), List.getElem?_set_ne (Ne.symm e), k1.at_ b hb (fun hm => hn (List.mem_append_left _ hm))]
  unfold roundEnd at hv
  split at hv <;> try (cases hv; done)
  rename_i v3 h3 ws3 hg
  have k4 := gc_keep k3 hg
  split at hv
  · simp only [Option.some.injEq, Prod.mk.injEq] at hv; obtain ⟨_, rfl, rfl⟩ := hv; exact k4
  · simp only [Option.some.injEq, Prod.mk.injEq] at hv; obtain ⟨_, rfl, rfl⟩ := hv
    exact (k4.trans (Keeps.set _ _)).mono (fun b hb => by
      rcases List.mem_append.1 hb with h | h
      · exact List.mem_cons_of_mem _ h
      · rw [List.mem_singleton.1 h]; exact List.mem_cons_self)
theorem callv_keep {E : Env} (hE : KeepE E) : ∀ n, KeepC (callv E n)
  | 0 => fun g args h v h' ws hv => by simp [callv] at hv
  | n + 1 => fun g args h v h' ws hv => by
    simp only [callv, callG] at hv
    split at hv
    · rename_i f _ _
      exact callF_keep (callv_keep hE n) (fun K hK => iter_keep hK n) (fun e he => hE f e he) hv
    · split at hv
      · exact round_keep (callv_keep hE n) (fun K hK => iter_keep hK n) hv
      · cases hv
    · cases hv
end Go.L
