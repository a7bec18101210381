/- CALLS THAT WRITE WHAT WAS THERE; LOOPS OVER FUNCTIONS. -/
import Derived.Test.YtafbiejbnbocoaaDoorV6
set_option linter.unusedVariables false
set_option linter.unusedSimpArgs false
namespace Go.L
open Go
variable {E : Env}
theorem callW_keep (hE : KeepE E) : KeepC (callW E) := fun g args h v h' ws hv => by
  obtain ⟨n, hn⟩ := callW_some.1 hv; exact callv_keep hE n g args h v h' ws hn
theorem iterW_keep {K : Fr → Heap → Out} (hK : KeepF K) : KeepF (iterW K) := fun fr h e fr' h' ws hv => by
  obtain ⟨n, hn⟩ := iterW_some.1 hv; exact iter_keep hK n fr h e fr' h' ws hn
theorem codeW_keep (hE : KeepE E) (sz : Nat) (c : C) : KeepF (code (callW E) iterW sz c) := code_keep (callW_keep hE) (fun _ hK => iterW_keep hK) sz c
theorem Keeps.take {h h' : Heap} {ws : List Nat} (k : Keeps h.length h h' ws) (hw : ws.filter (fun b => decide (b < h.length)) = []) : h'.take h.length = h := by
  apply List.ext_getElem?
  intro i
  rcases Nat.lt_or_ge i h.length with hi | hi
  · rw [List.getElem?_take, if_pos hi]
    refine k.at_ i hi fun hm => ?_
    rw [List.filter_eq_nil_iff] at hw
    exact hw i hm (by simpa using hi)
  · rw [List.getElem?_eq_none (by simp; omega), List.getElem?_eq_none hi]
theorem gc_eff {h0 h : Heap} {v : Value} {ws : List Nat} (hk : Keeps h0.length h0 h ws) (hv : noNew h0.length 4 v = true) :
    ∃ h' ws', gc h0 v h ws = some (v, h', ws') ∧ (∀ b ∈ ws', b ∈ ws) ∧ (h' = h.take h0.length ∨ (h' = h ∧ ∃ b ∈ ws, b < h0.length ∧ noNewO h0.length h[b]? = false)) := by
  simp only [gc]
  split
  · rename_i hf
    rw [if_pos hv]
    exact ⟨h0, [], rfl, by simp, .inl (hk.take hf).symm⟩
  · rename_i w r hf
    have hsub : ∀ b ∈ w :: r, b ∈ ws ∧ b < h0.length := fun b hb => by
      rw [← hf, List.mem_filter] at hb; exact ⟨hb.1, by simpa using hb.2⟩
    split
    · exact ⟨_, _, rfl, fun b hb => (hsub b hb).1, .inl rfl⟩
    · rename_i hn
      refine ⟨_, _, rfl, fun b hb => (hsub b hb).1, .inr ⟨rfl, ?_⟩⟩
      rw [hv, Bool.true_and] at hn
      have : ∃ b ∈ w :: r, noNewO h0.length h[b]? = false := by
        cases hall : (w :: r).all fun b => noNewO h0.length h[b]?
        · rw [List.all_eq_false] at hall
          obtain ⟨b, hb, hb2⟩ := hall
          exact ⟨b, hb, by simpa using hb2⟩
        · exact absurd hall hn
      obtain ⟨b, hb, hb2⟩ := this
      exact ⟨b, (hsub b hb).1, (hsub b hb).2, hb2⟩
theorem fn_eff (hK : KeepE E) {g : FuncId} {c : FnC} (hE : E g = .text c) {sz : Nat} {res : List R} {body : C} (hc : c = ⟨sz, res, body⟩) {a b : Array Value} {args : List Value} {h : Heap} {W : Nat → Prop} {Q : Value → Heap → Prop} (hl : (a.toList ++ args ++ b.toList).length ≤ sz)
    (hb : WO W (code (callW E) iterW sz body (argsF (a.toList ++ args ++ b.toList) 0) h) (Res res fun v h' => noNew h.length 4 v = true ∧ h'.length = h.length ∧ Q v h')) :
    WX W (callW E (.func (.func g) a b) args h) Q := by
  subst hc
  rw [callW_func hE]
  obtain ⟨e, fr, h', ws, he, hw, hq⟩ := hb
  have hk := codeW_keep hK sz body _ _ _ _ _ _ he
  have hfin : ∀ e', Res res (fun v h' => noNew h.length 4 v = true ∧ h'.length = h.length ∧ Q v h') e' fr h' → WX W (fin res h (some (e', fr, h', ws))) Q := by
    intro e' hr
    have key : W1 (resL fr h' res) (fun vs => noNew h.length 4 (resV vs) = true ∧ h'.length = h.length ∧ Q (resV vs) h') → WX W (match resL fr h' res with | some vs => gc h (resV vs) h' ws | none => none) Q := by
      rintro ⟨vs, h1, h2, h3, h4⟩
      rw [h1]
      obtain ⟨h5, ws', h6, h7, h8⟩ := gc_eff hk h2
      refine ⟨_, _, _, h6, fun b hb => hw b (h7 b hb), ?_⟩
      rcases h8 with h8 | h8
      · rw [h8, ← h3, List.take_length]; exact h4
      · rw [h8.1]; exact h4
    cases e' with
    | exit _ => exact hr.elim
    | normal => exact key hr
    | ret => exact key hr
  simp only [callF, hl, if_true]
  rw [he]
  exact hfin e hq
theorem wx_round (hK : KeepE E) {l : Nat} {r : LoopRec} {args : List Value} {h : Heap} {fr0 : Fr} {W : Nat → Prop} {Rr : Ex → Heap → Prop} (hl : h[l]? = some (.loop r)) (hs : r.state = .ready) (hp : r.pending = none) (hps : r.params.all (fun p => decide (p < r.sz)) = true) (hset : setPs r.params args r.fr = some fr0) (hnl : ∀ b, W b → b ≠ l)
    (hb : WO W (code (callW E) iterW r.sz r.assign fr0 h) (fun e fr1 h1 => e = .normal ∧ WO W (code (callW E) iterW r.sz r.body fr1 (h1.set l (.loop { r with state := .busy }))) (fun e _ h2 => (∀ b, b < h.length → W b → noNewO h.length h2[b]? = true) ∧ Rr e ((h2.set l (.loop r)).take h.length)))) :
    WX (fun b => W b ∨ b = l) (callW E (.func (.yield l) #[] #[]) args h) (fun v h' => ∃ e h3, Rr e h3 ∧ v = .bool (leaves e).isNone ∧ h' = match leaves e with | none => h3 | some j => h3.set l (.loop { r with state := .done, pending := some j })) := by
  obtain ⟨st, pd, rfr, rsz, rps, ras, rbd⟩ := r
  dsimp only at hs hp hps hset hb
  subst hs hp
  obtain ⟨e1, fr1, h1, ws1, hc1, hw1, rfl, e2, fr2, h2, ws2, hc2, hw2, hn2, hR⟩ := hb
  have hk1 := codeW_keep hK _ _ _ _ _ _ _ _ hc1
  have hk2 := codeW_keep hK _ _ _ _ _ _ _ _ hc2
  have hlt := (List.getElem?_eq_some_iff.1 hl).1
  have hnotin : ¬ l ∈ ws1 ++ ws2 := fun hm => by
    rcases List.mem_append.1 hm with hm | hm
    · exact hnl l (hw1 l hm) rfl
    · exact hnl l (hw2 l hm) rfl
  have hkeep : Keeps h.length h (h2.set l (.loop { state := LoopState.ready, pending := none, fr := rfr, sz := rsz, params := rps, assign := ras, body := rbd : LoopRec })) (ws1 ++ ws2) := by
    have h1l : h.length ≤ h1.length := hk1.len
    rw [List.length_set] at hk2
    refine ⟨by have := hk2.len; simp only [List.length_set] at this ⊢; omega, fun b hb hnb => ?_⟩
    by_cases e : l = b
    · subst e
      rw [List.getElem?_set_self (by have := hk2.len; simp only [List.length_set] at this; omega), hl]
    · rw [gets e, hk2.at_ b (by omega) (fun hm => hnb (List.mem_append.2 (.inr hm))), gets e, hk1.at_ b hb (fun hm => hnb (List.mem_append.2 (.inl hm)))]
  obtain ⟨h5, ws', h6, h7, h8⟩ := gc_eff (v := .bool (leaves e2).isNone) hkeep rfl
  have h9 : h5 = (h2.set l (.loop { state := LoopState.ready, pending := none, fr := rfr, sz := rsz, params := rps, assign := ras, body := rbd : LoopRec })).take h.length := by
    rcases h8 with h8 | ⟨_, b, hb1, hb2, hb3⟩
    · exact h8
    · have hbl : l ≠ b := fun e => hnotin (by rw [e]; exact hb1)
      rw [gets hbl] at hb3
      have hWb : W b := by
        rcases List.mem_append.1 hb1 with hm | hm
        · exact hw1 b hm
        · exact hw2 b hm
      rw [hn2 b hb2 hWb] at hb3; cases hb3
  have hws : ∀ b ∈ ws', W b := fun b hb => by
    rcases List.mem_append.1 (h7 b hb) with hm | hm
    · exact hw1 b hm
    · exact hw2 b hm
  have hcall : callW E (.func (.yield l) #[] #[]) args h = roundV (callW E) iterW l args h := by
    rw [callW_eq]; simp [callG]
  rw [hcall]
  simp only [roundV, hl, hps, if_true, hset, hc1, hc2, hnotin, if_false, h6, roundEnd]
  cases hlv : leaves e2 with
  | none => exact ⟨_, _, ws', rfl, fun b hb => .inl (hws b hb), e2, h5, by rw [h9]; exact hR, by rw [hlv], by rw [hlv]⟩
  | some j =>
    refine ⟨_, _, l :: ws', rfl, fun b hb => ?_, e2, h5, by rw [h9]; exact hR, by rw [hlv], by rw [hlv]⟩
    rcases List.mem_cons.1 hb with hb | hb
    · exact .inr hb
    · exact .inl (hws b hb)
theorem co_rng (hK : KeepE E) {sz : Nat} {fr : Fr} {h : Heap} {g : X} {ps : List Nat} {assign body : C} {W W' : Nat → Prop} {Q : Ex → Fr → Heap → Prop} {f : FuncId} {a b : Array Value} (hg : ev (get fr) g = .func (.func f) a b) (hW : ∀ x, W' x → x < h.length → W x)
    (hc : WX W' (callW E (.func (.func f) a b) [.func (.yield h.length) #[] #[]] (h ++ [.loop { state := .ready, pending := none, fr, sz, params := ps, assign, body }])) (fun _ h' => ∃ r, h'[h.length]? = some (.loop r) ∧ r.state ≠ .busy ∧ (∀ b, b < h.length → W' b → noNewO h.length h'[b]? = true) ∧ Q (match r.pending with | none => .normal | some none => .ret | some (some id) => .exit id) fr (h'.take h.length))) :
    WO W (code (callW E) iterW sz (.rng g ps assign body) fr h) Q := by
  obtain ⟨v, h', ws, hcall, hw, r, hr, hst, hnn, hq⟩ := hc
  have hk := callW_keep hK _ _ _ _ _ _ hcall
  have hkeep : Keeps h.length h (h'.set h.length .dead) ws := by
    simp only [List.length_append, List.length_cons, List.length_nil] at hk
    refine ⟨by have := hk.len; simp only [List.length_append, List.length_cons, List.length_nil, List.length_set] at this ⊢; omega, fun x hx hnx => ?_⟩
    rw [gets (by omega), hk.at_ x (by omega) hnx, List.getElem?_append_left hx]
  obtain ⟨h5, ws', h6, h7, h8⟩ := gc_eff (v := undef) hkeep rfl
  have htake : (h'.set h.length .dead).take h.length = h'.take h.length := by
    apply List.ext_getElem?
    intro i
    rw [List.getElem?_take, List.getElem?_take]
    split
    · rw [gets (by omega)]
    · rfl
  have hlen : h.length < h'.length := (List.getElem?_eq_some_iff.1 hr).1
  have h9 : h5 = h'.take h.length := by
    rcases h8 with h8 | ⟨_, x, hx1, hx2, hx3⟩
    · rw [h8, htake]
    · rw [gets (by omega), hnn x hx2 (hw x hx1)] at hx3; cases hx3
  have hws : ∀ x ∈ ws', x < h.length := fun x hx => by
    simp only [gc] at h6
    split at h6
    · split at h6
      · cases h6; cases hx
      · simp [noNew, undef] at *
    · rename_i w r' hf
      have : ∀ y ∈ w :: r', y < h.length := fun y hy => by rw [← hf, List.mem_filter] at hy; simpa using hy.2
      split at h6 <;> (cases h6; exact this x hx)
  have hfc : fnCall (callW E) (ev (get fr) g) = callW E (.func (.func f) a b) := by
    rw [hg]; rfl
  have hcode : code (callW E) iterW sz (.rng g ps assign body) fr h = rangeEnd h fr (fnCall (callW E) (ev (get fr) g) [.func (.yield h.length) #[] #[]] (h ++ [.loop { state := .ready, pending := none, fr, sz, params := ps, assign, body }])) := rfl
  rw [hcode, hfc, hcall]
  simp only [rangeEnd, hr]
  have hW2 : ∀ x ∈ ws', W x := fun x hx => hW x (hw x (h7 x hx)) (hws x hx)
  cases hs : r.state with
  | busy => exact absurd hs hst
  | _ =>
    simp only [h6]
    cases hp : r.pending with
    | none => rw [hp] at hq; exact ⟨_, _, _, _, rfl, hW2, by rw [h9]; exact hq⟩
    | some j => cases j with
      | none => rw [hp] at hq; exact ⟨_, _, _, _, rfl, hW2, by rw [h9]; exact hq⟩
      | some id => rw [hp] at hq; exact ⟨_, _, _, _, rfl, hW2, by rw [h9]; exact hq⟩
def Clo1 (m : Nat) (f : FuncId) (R1 : Heap → Value → Prop) (h : Heap) (v : Value) : Prop := ∃ bx u, v = .func (.func f) #[] #[.pointer (some ⟨bx, 0, none⟩)] ∧ m ≤ bx ∧ h[bx]? = some (.cells [u] false) ∧ R1 h u
theorem Clo1.movable {m : Nat} {f : FuncId} {R1 : Heap → Value → Prop} (h1 : Movable m R1 1) : Movable m (Clo1 m f R1) 2 := by
  refine ⟨fun ρ h h' d v v' hm hv ⟨bx, u, e, hge, hb, hr⟩ => ?_, fun h v ⟨bx, u, e, _⟩ => by subst e; rfl⟩
  subst e
  cases d with
  | zero => simp [renV, List.mapM_cons] at hv
  | succ d =>
    simp only [renV, List.mapM_nil, List.mapM_cons] at hv
    cases hρ : ρ bx with
    | none => simp [hρ] at hv
    | some b' =>
      simp [hρ] at hv
      subst hv
      obtain ⟨o, ho, hb'⟩ := hm.new bx b' hge hρ
      rw [List.getD_eq_getElem?_getD, hb] at ho
      simp only [Option.getD_some, renO, Bool.false_eq_true, if_false, List.mapM_cons, List.mapM_nil] at ho
      cases hu : renV ρ 4 u with
      | none => simp [hu] at ho
      | some u' =>
        simp [hu] at ho
        subst ho
        exact ⟨b', u', rfl, hm.ge bx b' hge hρ, hb', h1.move ρ h h' 3 u u' hm hu hr⟩
theorem Rd.old_movable {α : Type} {sz : Nat} {enc : α → List Value} (hf : Flat enc) {h0 : Heap} {vs : Value} {l : List α} (hl : Rd sz enc h0 vs l) : Movable h0.length (fun h v => v = vs ∧ Rd sz enc h vs l) := by
  refine ⟨fun ρ h h' d v v' hm hv ⟨e, hr⟩ => ?_, fun h v ⟨e, hr⟩ => by subst e; exact Row.noy hr 0⟩
  subst e
  have h2 := (Rd.movable (m := h0.length) hf l).move ρ h h' d v v' hm hv hr
  have h3 : v' = v := by
    rcases hl.is with ⟨rfl, e⟩ | ⟨b, off, sp, cap, c, ro, rfl, hb, _⟩
    · simp only [renV, Option.some.injEq] at hv; exact hv.symm
    · have hlt := (List.getElem?_eq_some_iff.1 hb).1
      simp only [renV, hm.old b hlt, Option.map_some, Option.some.injEq] at hv
      exact hv.symm
  subst h3
  exact ⟨rfl, h2⟩
theorem set_same {h : Heap} {b : Nat} {o : LObj} (hb : h[b]? = some o) : h.set b o = h := by
  apply List.ext_getElem?
  intro i
  by_cases e : b = i
  · subst e; rw [List.getElem?_set_self (List.getElem?_eq_some_iff.1 hb).1, hb]
  · rw [gets e]
theorem set_back {h : Heap} {l b : Nat} {x y c : LObj} (hl : h[l]? = some x) (hne : b ≠ l) : ((h.set l y).set b c).set l x = h.set b c := by
  apply List.ext_getElem?
  intro i
  by_cases e : l = i
  · subst e; rw [List.getElem?_set_self (by simp; exact (List.getElem?_eq_some_iff.1 hl).1), gets hne, hl]
  · rw [gets e]
    by_cases e2 : b = i
    · subst e2
      by_cases hb : b < h.length
      · rw [gset (by simpa using hb), gset hb]
      · rw [List.getElem?_eq_none (by simp; omega), List.getElem?_eq_none (by simp; omega)]
    · rw [gets e2, gets e2, gets e]
theorem set_back0 {h : Heap} {l : Nat} {x y : LObj} (hl : h[l]? = some x) : (h.set l y).set l x = h := by rw [List.set_set]; exact set_same hl
theorem wx_new {W : Nat → Prop} {x : Option (Value × Heap × List Nat)} {H : Heap} {P : Value → Heap → Prop} {Q : Value → Heap → Prop} (hx : ∃ v ys, x = some (v, H ++ ys, []) ∧ P v ys) (hq : ∀ v ys, P v ys → Pre H (H ++ ys) → Q v (H ++ ys)) : WX W x Q := by
  obtain ⟨v, ys, rfl, hr⟩ := hx
  exact ⟨v, _, [], rfl, (fun b hb => nomatch hb), hq v _ hr (Pre.app H ys)⟩
theorem bin_fnil {g : Fn} {a b : Array Value} : binOp .eql .func (.func g a b) .nilFunc = some (.bool false) := rfl
theorem bin_ffnil {g : Fn} {a b : Array Value} : binOp .neq .func (.func g a b) .nilFunc = some (.bool true) := rfl
end Go.L
