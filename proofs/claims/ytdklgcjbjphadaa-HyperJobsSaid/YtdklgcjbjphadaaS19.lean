/- THE LOGICAL MACHINE AND THE MODEL: a statement whose order is open, whole; code but for loops over functions. -/
import Derived.Test.YtdklgcjbjphadaaS18
set_option linter.unusedVariables false
set_option linter.unusedSimpArgs false
namespace Go.L
open Go
variable {P : Program} {ι : Inj} {h : Heap} {w : World}
def dfl : Ins := { d := none, g := none, o := .lena 0 }
/-- What holds of a statement's operations, whose order is open, and their instructions. -/
structure Free (P : Program) (sz : Nat) (ops : Array Oper) (r : List Ins) (n : Nat) : Prop where
  ins : ∀ i, i < ops.size → ∃ o i0, ops[i]? = some o ∧ cI P sz ops o = some i0 ∧ (r.getD i dfl).d = i0.d ∧ (r.getD i dfl).g = i0.g ∧ (r.getD i dfl).o = i0.o
  comm : ∀ i j, i < j → j < ops.size → ((Region.before ops).getD j 0).testBit i = false → comm (r.getD i dfl) (r.getD j dfl) = true
  back : ∀ (i : Nat) o, ops[i]? = some o → ∀ e ∈ o.after, Region.binds .any e = true → e.on < i
  rank : ∀ i, i < ops.size → cls (r.getD i dfl).o = .A → (r.getD i dfl).rank < n
  ranks : ∀ i j, i < ops.size → j < ops.size → i ≠ j → cls (r.getD i dfl).o = .A → cls (r.getD j dfl).o = .A → (r.getD i dfl).rank ≠ (r.getD j dfl).rank
section
variable {sz : Nat} {a : Act} {h' : Heap} {ws : List Nat} {F : Fence} {n nn : Nat} {cf : CallT} {Q : Exit → Act → World → Prop} {ops : Array Oper}
theorem any_ok (hW : Wide F) (hcf : CallOK P cf) (hk : KeepC cf) {r : List Ins} (hr : Free P sz ops r nn) {m : Nat} : ∀ (fuel : Nat) (listed : Array Bool) (c : List Nat) {ι : Inj} {h : Heap} {w : World} {f : FF} {a : Act}, fuel = c.length → listed.size = ops.size →
    (∀ j : Nat, j ∈ c ↔ j < ops.size ∧ listed.getD j true = false) → c.Pairwise (· < ·) → (∀ k : Nat, k < ops.size → listed.getD k true = true → ∀ j : Nat, ((Region.before ops).getD k 0).testBit j = true → listed.getD j false = true) →
    Sim P ι h w → FFR ι sz f a.tmps → m ≤ h.length → (∀ j ∈ c, cls (r.getD j dfl).o = .A → m + (r.getD j dfl).rank < h.length ∧ ι (m + (r.getD j dfl).rank) = none) →
    ∀ {f' h' ws}, runD cf m (c.map fun j => r.getD j dfl) f h = some (f', h', ws) →
    (∀ ι' a' w', St P ι h w ι' h' w' → (∀ b, b < m → ι' b = ι b) → FFR ι' sz f' a'.tmps → a'.defers = a.defers → Q .normal a' w') → wpAnyIn F n P .any ops Q fuel listed a w := by
  intro fuel
  induction fuel with
  | zero =>
    intro listed c ι h w f a hfuel hsz hc hsort hclo hs hf hm hroom f' h' ws hv hq
    have hcn : c = [] := List.eq_nil_of_length_eq_zero hfuel.symm
    subst hcn
    simp only [List.map_nil, runD, Option.some.injEq, Prod.mk.injEq] at hv
    obtain ⟨rfl, rfl, rfl⟩ := hv
    refine ⟨?_, hq ι a w (St.refl hs) (fun _ _ => rfl) hf rfl⟩
    cases hrd : Region.ready .any ops listed with
    | nil => rfl
    | cons i l =>
      have hi : i ∈ Region.ready .any ops listed := by rw [hrd]; simp
      obtain ⟨h1, o, h2, _⟩ := mem_ready.1 hi
      have := (hc i).2 ⟨(Array.getElem?_eq_some_iff.1 h2).1, h1⟩
      cases this
  | succ fuel ih =>
    intro listed c ι h w f a hfuel hsz hc hsort hclo hs hf hm hroom f' h' ws hv hq
    refine ⟨fun hnone => ?_, fun i hi => ?_⟩
    · exfalso
      cases c with
      | nil => simp at hfuel
      | cons i c =>
        obtain ⟨hlt, hun⟩ := (hc i).1 (by simp)
        have : i ∈ Region.ready .any ops listed := by
          refine mem_ready.2 ⟨hun, ops[i], by simp [hlt], fun e he hb => ?_⟩
          have hlt2 := hr.back i ops[i] (by simp [hlt]) e he hb
          have hlt3 : e.on < listed.size := by omega
          cases hl : listed.getD e.on true with
          | true => rw [Array.getD_eq_getD_getElem?] at hl ⊢; simpa [hlt3] using hl
          | false =>
            have hmem := (hc e.on).2 ⟨by omega, hl⟩
            rcases List.mem_cons.1 hmem with e1 | h1
            · omega
            · have := (List.pairwise_cons.1 hsort).1 _ h1; omega
        rw [hnone] at this; cases this
    · obtain ⟨hun, o, ho, hedge⟩ := mem_ready.1 hi
      have hiN : i < ops.size := (Array.getElem?_eq_some_iff.1 ho).1
      have hic := (hc i).2 ⟨hiN, hun⟩
      obtain ⟨c1, c2, rfl⟩ := List.append_of_mem hic
      have hp := List.pairwise_append.1 hsort
      have hbits : ∀ j : Nat, ((Region.before ops).getD i 0).testBit j = true → listed.getD j false = true := by
        intro j hj
        obtain ⟨o', e, h1, h2, h3, h4⟩ := before_bit ops i j hj
        rw [ho] at h1; cases h1
        have hl := hedge e h2 h3
        rcases h4 with rfl | h4
        · exact hl
        · have hlt := hr.back i o ho e h2 h3
          have hlt3 : e.on < listed.size := by omega
          exact hclo e.on (by omega) (by rw [Array.getD_eq_getD_getElem?] at hl ⊢; simpa [hlt3] using hl) j h4
      have hcomm : ∀ x ∈ c1.map (fun j => r.getD j dfl), comm x (r.getD i dfl) = true := by
        intro x hx
        obtain ⟨j, hj, rfl⟩ := List.mem_map.1 hx
        have hji : j < i := hp.2.2 j hj i (by simp)
        refine hr.comm j i hji hiN ?_
        cases hb : ((Region.before ops).getD i 0).testBit j with
        | false => rfl
        | true =>
          have h1 := hbits j hb
          have h2 := ((hc j).1 (by simp [hj])).2
          have hlt3 : j < listed.size := by omega
          rw [Array.getD_eq_getD_getElem?] at h1 h2
          simp [hlt3] at h1 h2
          rw [h1] at h2; cases h2
      rw [List.map_append, List.map_cons] at hv
      have hv2 := runD_front hk hcomm hv
      rw [← List.map_append, runD_cons] at hv2
      obtain ⟨o2, i0, ho2, hci, ed, eg, eo⟩ := hr.ins i hiN
      rw [ho] at ho2; cases ho2
      obtain ⟨hd, ed0, hg, hop⟩ := cI_inv hci
      rw [← eg] at hg
      rw [← eo] at hop
      rw [ed0] at ed
      -- the rest
      have rest : ∀ {ι1 : Inj} {h1 : Heap} {w1 : World} {f1 : FF} {a1 : Act} {ws1 : List Nat}, St P ι h w ι1 h1 w1 → h.length ≤ h1.length → (∀ b, b < h.length → (cls (r.getD i dfl).o = .A → b ≠ m + (r.getD i dfl).rank) → ι1 b = ι b) →
          (∀ b, b < m → ι1 b = ι b) → FFR ι1 sz f1 a1.tmps → a1.defers = a.defers → addw ws1 (runD cf m ((c1 ++ c2).map fun j => r.getD j dfl) f1 h1) = some (f', h', ws) → wpAnyIn F n P .any ops Q fuel (listed.setIfInBounds i true) a1 w1 := by
        intro ι1 h1 w1 f1 a1 ws1 st hlen hold hlow hf1 hdef hadd
        cases hr2 : runD cf m ((c1 ++ c2).map fun j => r.getD j dfl) f1 h1 with
        | none => rw [hr2] at hadd; cases hadd
        | some p =>
          obtain ⟨f2, h2, ws2⟩ := p
          rw [hr2] at hadd
          simp only [addw, Option.some.injEq, Prod.mk.injEq] at hadd
          obtain ⟨rfl, rfl, _⟩ := hadd
          have hnd : ∀ j, j ∈ c1 ++ c2 → j ≠ i := by
            intro j hj
            rcases List.mem_append.1 hj with hj | hj
            · have := hp.2.2 j hj i (by simp); omega
            · have := (List.pairwise_cons.1 hp.2.1).1 j hj; omega
          have hget : ∀ (j : Nat) (d : Bool), j ≠ i → (listed.setIfInBounds i true).getD j d = listed.getD j d := by
            intro j d hj
            rw [Array.getD_eq_getD_getElem?, Array.getD_eq_getD_getElem?, Array.getElem?_setIfInBounds_ne (Ne.symm hj)]
          have hgeti : ∀ d : Bool, (listed.setIfInBounds i true).getD i d = true := by
            intro d
            rw [Array.getD_eq_getD_getElem?]; simp [hsz, hiN]
          refine ih (listed.setIfInBounds i true) (c1 ++ c2) (by simp at hfuel ⊢; omega) (by simpa using hsz) (fun j => ?_) ?_ (fun k hk1 hk2 j hj => ?_) st.sim hf1 (by omega) (fun j hj hA => ?_) hr2 fun ι2 a2 w2 st2 old2 hf2 hd2 => hq ι2 a2 w2 (st.trans st2) (fun b hb => (old2 b hb).trans (hlow b hb)) hf2 (hd2.trans hdef)
          · by_cases e : j = i
            · subst e
              rw [hgeti]
              exact ⟨fun hm => absurd rfl (hnd j hm), fun hm => by simp at hm⟩
            · rw [hget j true e, ← hc j]
              simp [e]
          · exact List.pairwise_append.2 ⟨hp.1, (List.pairwise_cons.1 hp.2.1).2, fun x hx y hy => hp.2.2 x hx y (by simp [hy])⟩
          · by_cases e : k = i
            · subst e
              have := hbits j hj
              by_cases e2 : j = k
              · rw [e2]; exact hgeti _
              · rw [hget j false e2]; exact this
            · rw [hget k true e] at hk2
              have := hclo k hk1 hk2 j hj
              by_cases e2 : j = i
              · rw [e2]; exact hgeti _
              · rw [hget j false e2]; exact this
          · have hj' : j ∈ c1 ++ i :: c2 := by simp at hj ⊢; rcases hj with h | h; exact .inl h; exact .inr (.inr h)
            obtain ⟨k1, k2⟩ := hroom j hj' hA
            refine ⟨by omega, (hold _ k1 fun hAi => ?_).trans k2⟩
            have := hr.ranks j i ((hc j).1 hj').1 hiN (hnd j hj) hA hAi
            omega
      unfold wpOpIn
      simp only [ho]
      unfold stepD at hv2
      cases hw : wanted f (r.getD i dfl).g with
      | none => rw [hw] at hv2; cases hv2
      | some b =>
        rw [hw] at hv2
        have hreal := wanted_rel (o := o) (ops := ops) hf hg hw
        cases b with
        | true =>
          rw [if_pos hreal]
          simp only at hv2
          cases hv1 : opD cf m f h (r.getD i dfl) with
          | none => rw [hv1] at hv2; cases hv2
          | some p =>
            obtain ⟨v, h1, ws1⟩ := p
            rw [hv1] at hv2
            simp only at hv2
            refine opD_ok hW hcf hs hf hop hv1 (fun hA => hroom i hic hA) fun ι' w' v' st old hvr => ?_
            refine rest st (opD_keep hk hm hv1).len old (fun b hb => old b (by omega) fun hA => by omega) (f1 := putD f (r.getD i dfl).d v) (by rw [ed]; exact put_rel (a := a) (hf.mono st.sub) hd hvr) ?_ hv2
            cases o.dst <;> rfl
        | false =>
          rw [if_neg (by rw [hreal]; simp)]
          refine ⟨fun f _ => hW.fn f, ?_⟩
          simp only at hv2
          refine rest (St.refl hs) (Nat.le_refl _) (fun _ _ _ => rfl) (fun _ _ => rfl) (f1 := putD f (r.getD i dfl).d undef) (by rw [ed]; exact put_rel (a := a) hf hd VR.undef) ?_ hv2
          cases o.dst <;> rfl
end
end Go.L
