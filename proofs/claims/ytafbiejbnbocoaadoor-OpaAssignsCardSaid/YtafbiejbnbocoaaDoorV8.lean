/- ITERATORS: what one tells; a loop over one that keeps its account in one variable. -/
import Derived.Test.YtafbiejbnbocoaaDoorV7
set_option linter.unusedVariables false
set_option linter.unusedSimpArgs false
namespace Go.L
open Go
variable {E : Env}
def IterOK (E : Env) (g : Value) (base : Heap → Prop) (vals : List (List Value)) : Prop :=
  ∀ (h1 : Heap) (L : Nat) (W : Nat → Prop) (J : Nat → Heap → Prop) (Stop : Heap → Prop), (∀ k h, J k h → h.length = h1.length ∧ base h) → J 0 h1 → (∀ h, Stop h → h.length = h1.length) →
    (∀ k h a, vals[k]? = some a → J k h → WX W (callW E (.func (.yield L) #[] #[]) a h) (fun v h' => (v = .bool true ∧ J (k + 1) h') ∨ (v = .bool false ∧ Stop h'))) →
    WX W (callW E g [.func (.yield L) #[] #[]] h1) (fun _ h' => J vals.length h' ∨ Stop h')
theorem noNewO_scal {m : Nat} {v : Value} (h : scal v = true) : noNewO m (some (.cells [v] false)) = true := by
  cases v <;> first | rfl | cases h
theorem co_iter1 (hK : KeepE E) {sz : Nat} {fr : Fr} {H : Heap} {g : X} {ps : List Nat} {assign body : C} {W : Nat → Prop} {Q : Ex → Fr → Heap → Prop} {f : FuncId} {ca cb : Array Value} {base : Heap → Prop} {vals : List (List Value)}
    (hg : ev (get fr) g = .func (.func f) ca cb) (hI : IterOK E (.func (.func f) ca cb) base vals) {c : Nat} (hcl : c < H.length) (hWc : W c) (acc : Nat → Value) (hs : ∀ k, scal (acc k) = true) (h0 : H[c]? = some (.cells [acc 0] false))
    (hps : ps.all (fun p => decide (p < sz)) = true) (hbase : ∀ hh : Heap, H.length ≤ hh.length → (∀ b, b < H.length → b ≠ c → hh[b]? = H[b]?) → base hh)
    (hstep : ∀ k a, vals[k]? = some a → ∃ fr0, setPs ps a fr = some fr0 ∧ ∀ hh : Heap, hh.length = H.length + 1 → hh[c]? = some (.cells [acc k] false) → (∀ b, b < H.length → b ≠ c → hh[b]? = H[b]?) →
      WO (fun b => b = c ∨ H.length < b) (code (callW E) iterW sz assign fr0 hh) (fun e fr1 h1 => e = .normal ∧ ∃ zs, h1 = hh ++ zs ∧ ∀ hh2 : Heap, hh2.length = H.length + 1 → hh2[c]? = some (.cells [acc k] false) → (∀ b, b < H.length → b ≠ c → hh2[b]? = H[b]?) →
        WO (fun b => b = c ∨ H.length < b) (code (callW E) iterW sz body fr1 (hh2 ++ zs)) (fun e2 _ h2 => e2 = .normal ∧ ∃ ys, h2 = hh2.set c (.cells [acc (k + 1)] false) ++ ys)))
    (hend : Q .normal fr (H.set c (.cells [acc vals.length] false))) :
    WO W (code (callW E) iterW sz (.rng g ps assign body) fr H) Q := by
  refine co_rng hK (W' := fun b => b = c ∨ H.length ≤ b) hg (fun x hx hlt => by rcases hx with rfl | hx; exact hWc; omega) ?_
  generalize hLr : LObj.loop _ = lo
  have hget : ∀ k, ((H ++ [lo]).set c (.cells [acc k] false)).length = H.length + 1 ∧ ((H ++ [lo]).set c (.cells [acc k] false))[c]? = some (.cells [acc k] false) ∧ ∀ b, b < H.length → b ≠ c → ((H ++ [lo]).set c (.cells [acc k] false))[b]? = H[b]? := fun k => by
    refine ⟨by simp, gset (by simp; omega), fun b hb hne => ?_⟩
    rw [gets (Ne.symm hne), List.getElem?_append_left hb]
  refine WX.mono (hI (H ++ [lo]) H.length (fun b => b = c ∨ H.length ≤ b) (fun k hh => hh = (H ++ [lo]).set c (.cells [acc k] false)) (fun _ => False) ?_ ?_ (fun _ hf => hf.elim) ?_) (fun b hb => hb) ?_
  · rintro k hh rfl
    obtain ⟨a, b, d⟩ := hget k
    exact ⟨by simp, hbase _ (by rw [a]; omega) d⟩
  · exact (set_same (by rw [List.getElem?_append_left hcl]; exact h0)).symm
  · rintro k hh a ha rfl
    obtain ⟨fr0, hset, hst⟩ := hstep k a ha
    obtain ⟨g1, g2, g3⟩ := hget k
    have hL : ((H ++ [lo]).set c (.cells [acc k] false))[H.length]? = some lo := by rw [gets (by omega), geta0]; rfl
    have hA := hst _ g1 g2 g3
    have hset2 : ((H ++ [lo]).set c (.cells [acc k] false)).set c (.cells [acc (k + 1)] false) = (H ++ [lo]).set c (.cells [acc (k + 1)] false) := List.set_set ..
    generalize (H ++ [lo]).set c (.cells [acc k] false) = hh at *
    subst hLr
    refine WX.mono (wx_round hK (W := fun b => b = c ∨ H.length < b) (Rr := fun e h3 => e = .normal ∧ h3 = hh.set c (.cells [acc (k + 1)] false)) hL rfl rfl hps hset (fun b hb => by omega) ?_) (fun b hb => by omega) ?_
    · refine hA.mono (fun b hb => hb) ?_
      rintro e fr1 h1 ⟨rfl, zs, rfl, hB⟩
      refine ⟨rfl, ?_⟩
      have hbusy : ∀ x : LObj, (hh ++ zs).set H.length x = hh.set H.length x ++ zs := fun x => by rw [List.set_append_left _ _ (by omega)]
      rw [hbusy]
      refine (hB (hh.set H.length _) (by rw [List.length_set]; exact g1) (by rw [gets (by omega)]; exact g2) (fun b hb hne => by rw [gets (by omega)]; exact g3 b hb hne)).mono (fun b hb => hb) ?_
      rintro e2 fr2 h2 ⟨rfl, ys, rfl⟩
      have hsl : ∀ (x y : LObj), (((hh.set H.length x).set c y) ++ ys).length = hh.length + ys.length := fun x y => by simp
      refine ⟨fun b hb hw => ?_, rfl, ?_⟩
      · rcases hw with rfl | hw
        · rw [List.getElem?_append_left (by simp; omega), gset (by simp; omega)]
          exact noNewO_scal (hs _)
        · omega
      · rw [List.set_append_left _ _ (by simp; omega), set_back hL (by omega), List.take_left' (by simp)]
    · rintro v h' ⟨e, h3, ⟨rfl, rfl⟩, rfl, rfl⟩
      exact .inl ⟨rfl, hset2⟩
  · rintro v h' (rfl | hf)
    · refine ⟨_, by rw [gets (by omega), geta0, ← hLr]; rfl, by simp, ?_, ?_⟩
      · rintro b hb (rfl | hw)
        · rw [gset (by simp; omega)]; exact noNewO_scal (hs _)
        · omega
      · have e : ((H ++ [lo]).set c (.cells [acc vals.length] false)).take H.length = H.set c (.cells [acc vals.length] false) := by
          rw [List.set_append_left _ _ hcl, List.take_left' (by simp)]
        rw [e]; exact hend
    · exact hf.elim
def Clo2 (m : Nat) (f : FuncId) (R1 R2 : Heap → Value → Prop) (h : Heap) (v : Value) : Prop := ∃ b1 b2 u1 u2, v = .func (.func f) #[] #[.pointer (some ⟨b1, 0, none⟩), .pointer (some ⟨b2, 0, none⟩)] ∧ (m ≤ b1 ∧ m ≤ b2) ∧ (h[b1]? = some (.cells [u1] false) ∧ h[b2]? = some (.cells [u2] false)) ∧ R1 h u1 ∧ R2 h u2
theorem Clo2.movable {m : Nat} {f : FuncId} {R1 R2 : Heap → Value → Prop} (h1 : Movable m R1 1) (h2 : Movable m R2 1) : Movable m (Clo2 m f R1 R2) 2 := by
  refine ⟨fun ρ h h' d v v' hm hv ⟨b1, b2, u1, u2, e, ⟨hg1, hg2⟩, ⟨hb1, hb2⟩, hr1, hr2⟩ => ?_, fun h v ⟨b1, b2, u1, u2, e, _⟩ => by subst e; rfl⟩
  subst e
  cases d with
  | zero => simp [renV, List.mapM_cons] at hv
  | succ d =>
    simp only [renV, List.mapM_nil, List.mapM_cons] at hv
    cases hρ1 : ρ b1 with
    | none => simp [hρ1] at hv
    | some c1 =>
      cases hρ2 : ρ b2 with
      | none => simp [hρ1, hρ2] at hv
      | some c2 =>
        simp [hρ1, hρ2] at hv
        subst hv
        have key : ∀ {b c : Nat} {u : Value} {R : Heap → Value → Prop}, m ≤ b → ρ b = some c → h[b]? = some (.cells [u] false) → R h u → Movable m R 1 → ∃ u', h'[c]? = some (.cells [u'] false) ∧ R h' u' := by
          intro b c u R hge hρ hb hr hR
          obtain ⟨o, ho, hb'⟩ := hm.new b c hge hρ
          rw [List.getD_eq_getElem?_getD, hb] at ho
          simp only [Option.getD_some, renO, Bool.false_eq_true, if_false, List.mapM_cons, List.mapM_nil] at ho
          cases hu : renV ρ 4 u with
          | none => simp [hu] at ho
          | some u' =>
            simp [hu] at ho
            subst ho
            exact ⟨u', hb', hR.move ρ h h' 3 u u' hm hu hr⟩
        obtain ⟨w1, k1, k2⟩ := key hg1 hρ1 hb1 hr1 h1
        obtain ⟨w2, k3, k4⟩ := key hg2 hρ2 hb2 hr2 h2
        exact ⟨c1, c2, w1, w2, rfl, ⟨hm.ge b1 c1 hg1 hρ1, hm.ge b2 c2 hg2 hρ2⟩, ⟨k1, k3⟩, k2, k4⟩
end Go.L
