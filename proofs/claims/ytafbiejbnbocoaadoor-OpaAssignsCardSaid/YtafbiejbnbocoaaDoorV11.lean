/- ROUNDS, AND CALLS, THAT LAY WHAT STAYS. -/
import Derived.Test.YtafbiejbnbocoaaDoorV10
set_option linter.unusedVariables false
set_option linter.unusedSimpArgs false
namespace Go.L
variable {E : Env}
open Go
def Tr (h h2 h3 : Heap) : Prop := h3 = h2 ∨ (h3 = h2.take h.length ∧ ∀ b, b < h.length → h2[b]? = h[b]? ∨ noNewO h.length h2[b]? = true)
theorem gc_tr {h0 h : Heap} {v : Value} {ws : List Nat} (hk : Keeps h0.length h0 h ws) (hv : noNew h0.length 4 v = true) :
    ∃ h' ws', gc h0 v h ws = some (v, h', ws') ∧ (∀ b ∈ ws', b ∈ ws) ∧ Tr h0 h h' := by
  simp only [gc]
  split
  · rename_i hf
    rw [if_pos hv]
    refine ⟨h0, [], rfl, by simp, .inr ⟨(hk.take hf).symm, fun b hb => .inl (hk.at_ b hb fun hm => ?_)⟩⟩
    have : b ∈ ws.filter (fun b => decide (b < h0.length)) := List.mem_filter.2 ⟨hm, by simpa using hb⟩
    rw [hf] at this; cases this
  · rename_i w r hf
    have hsub : ∀ b ∈ w :: r, b ∈ ws ∧ b < h0.length := fun b hb => by
      rw [← hf, List.mem_filter] at hb; exact ⟨hb.1, by simpa using hb.2⟩
    split
    · rename_i hall
      refine ⟨_, _, rfl, fun b hb => (hsub b hb).1, .inr ⟨rfl, fun b hb => ?_⟩⟩
      by_cases hm : b ∈ ws
      · have : b ∈ w :: r := by rw [← hf]; exact List.mem_filter.2 ⟨hm, by simpa using hb⟩
        rw [hv, Bool.true_and] at hall
        exact .inr (List.all_eq_true.1 hall b this)
      · exact .inl (hk.at_ b hb hm)
    · exact ⟨_, _, rfl, fun b hb => (hsub b hb).1, .inl rfl⟩
theorem fn_tr (hK : KeepE E) {g : FuncId} {c : FnC} (hE : E g = .text c) {sz : Nat} {res : List R} {body : C} (hc : c = ⟨sz, res, body⟩) {a b : Array Value} {args : List Value} {h : Heap} {W : Nat → Prop} {Q : Value → Heap → Prop} (hl : (a.toList ++ args ++ b.toList).length ≤ sz)
    (hb : WO W (code (callW E) iterW sz body (argsF (a.toList ++ args ++ b.toList) 0) h) (Res res fun v h' => noNew h.length 4 v = true ∧ ∀ h3, Tr h h' h3 → Q v h3)) :
    WX W (callW E (.func (.func g) a b) args h) Q := by
  subst hc
  rw [callW_func hE]
  obtain ⟨e, fr, h', ws, he, hw, hq⟩ := hb
  have hk := codeW_keep hK sz body _ _ _ _ _ _ he
  have hfin : ∀ e', Res res (fun v h' => noNew h.length 4 v = true ∧ ∀ h3, Tr h h' h3 → Q v h3) e' fr h' → WX W (fin res h (some (e', fr, h', ws))) Q := by
    intro e' hr
    have key : W1 (resL fr h' res) (fun vs => noNew h.length 4 (resV vs) = true ∧ ∀ h3, Tr h h' h3 → Q (resV vs) h3) → WX W (match resL fr h' res with | some vs => gc h (resV vs) h' ws | none => none) Q := by
      rintro ⟨vs, h1, h2, h4⟩
      rw [h1]
      obtain ⟨h5, ws', h6, h7, h8⟩ := gc_tr hk h2
      exact ⟨_, _, _, h6, fun b hb => hw b (h7 b hb), h4 _ h8⟩
    cases e' with
    | exit _ => exact hr.elim
    | normal => exact key hr
    | ret => exact key hr
  simp only [callF, hl, if_true]
  rw [he]
  exact hfin e hq
theorem wx_roundT (hK : KeepE E) {l : Nat} {r : LoopRec} {args : List Value} {h : Heap} {fr0 : Fr} {W : Nat → Prop} {Rr : Ex → Heap → Prop} (hl : h[l]? = some (.loop r)) (hs : r.state = .ready) (hp : r.pending = none) (hps : r.params.all (fun p => decide (p < r.sz)) = true) (hset : setPs r.params args r.fr = some fr0) (hnl : ∀ b, W b → b ≠ l)
    (hb : WO W (code (callW E) iterW r.sz r.assign fr0 h) (fun e fr1 h1 => e = .normal ∧ WO W (code (callW E) iterW r.sz r.body fr1 (h1.set l (.loop { r with state := .busy }))) (fun e _ h2 => ∀ h3, Tr h (h2.set l (.loop r)) h3 → Rr e h3))) :
    WX (fun b => W b ∨ b = l) (callW E (.func (.yield l) #[] #[]) args h) (fun v h' => ∃ e h3, Rr e h3 ∧ v = .bool (leaves e).isNone ∧ h' = match leaves e with | none => h3 | some j => h3.set l (.loop { r with state := .done, pending := some j })) := by
  obtain ⟨st, pd, rfr, rsz, rps, ras, rbd⟩ := r
  dsimp only at hs hp hps hset hb
  subst hs hp
  obtain ⟨e1, fr1, h1, ws1, hc1, hw1, rfl, e2, fr2, h2, ws2, hc2, hw2, hR⟩ := hb
  have hk1 := codeW_keep hK _ _ _ _ _ _ _ _ hc1
  have hk2 := codeW_keep hK _ _ _ _ _ _ _ _ hc2
  have hlt := (List.getElem?_eq_some_iff.1 hl).1
  have hnotin : ¬ l ∈ ws1 ++ ws2 := fun hm => by
    rcases List.mem_append.1 hm with hm | hm
    · exact hnl l (hw1 l hm) rfl
    · exact hnl l (hw2 l hm) rfl
  have hkeep : Keeps h.length h (h2.set l (.loop { state := LoopState.ready, pending := none, fr := rfr, sz := rsz, params := rps, assign := ras, body := rbd : LoopRec })) (ws1 ++ ws2) := by
    have h1l : h.length ≤ h1.length := hk1.len
    rw [List.length_set] at hk2
    refine ⟨by have := hk2.len; simp only [List.length_set] at this ⊢; omega, fun b hb hnb => ?_⟩
    by_cases e : l = b
    · subst e
      rw [List.getElem?_set_self (by have := hk2.len; simp only [List.length_set] at this; omega), hl]
    · rw [gets e, hk2.at_ b (by omega) (fun hm => hnb (List.mem_append.2 (.inr hm))), gets e, hk1.at_ b hb (fun hm => hnb (List.mem_append.2 (.inl hm)))]
  obtain ⟨h5, ws', h6, h7, h8⟩ := gc_tr (v := .bool (leaves e2).isNone) hkeep rfl
  have hws : ∀ b ∈ ws', W b := fun b hb => by
    rcases List.mem_append.1 (h7 b hb) with hm | hm
    · exact hw1 b hm
    · exact hw2 b hm
  have hcall : callW E (.func (.yield l) #[] #[]) args h = roundV (callW E) iterW l args h := by
    rw [callW_eq]; simp [callG]
  rw [hcall]
  simp only [roundV, hl, hps, if_true, hset, hc1, hc2, hnotin, if_false, h6, roundEnd]
  cases hlv : leaves e2 with
  | none => exact ⟨_, _, ws', rfl, fun b hb => .inl (hws b hb), e2, h5, hR _ h8, by rw [hlv], by rw [hlv]⟩
  | some j =>
    refine ⟨_, _, l :: ws', rfl, fun b hb => ?_, e2, h5, hR _ h8, by rw [hlv], by rw [hlv]⟩
    rcases List.mem_cons.1 hb with hb | hb
    · exact .inr hb
    · exact .inl (hws b hb)
theorem co_rngT (hK : KeepE E) {sz : Nat} {fr : Fr} {h : Heap} {g : X} {ps : List Nat} {assign body : C} {W W' : Nat → Prop} {Q : Ex → Fr → Heap → Prop} {f : FuncId} {a b : Array Value} (hg : ev (get fr) g = .func (.func f) a b) (hW : ∀ x, W' x → x < h.length → W x)
    (hc : WX W' (callW E (.func (.func f) a b) [.func (.yield h.length) #[] #[]] (h ++ [.loop { state := .ready, pending := none, fr, sz, params := ps, assign, body }])) (fun _ h' => ∃ r, h'[h.length]? = some (.loop r) ∧ r.state ≠ .busy ∧ ∀ h3, Tr h (h'.set h.length .dead) h3 → Q (match r.pending with | none => .normal | some none => .ret | some (some id) => .exit id) fr h3)) :
    WO W (code (callW E) iterW sz (.rng g ps assign body) fr h) Q := by
  obtain ⟨v, h', ws, hcall, hw, r, hr, hst, hq⟩ := hc
  have hk := callW_keep hK _ _ _ _ _ _ hcall
  have hkeep : Keeps h.length h (h'.set h.length .dead) ws := by
    simp only [List.length_append, List.length_cons, List.length_nil] at hk
    refine ⟨by have := hk.len; simp only [List.length_append, List.length_cons, List.length_nil, List.length_set] at this ⊢; omega, fun x hx hnx => ?_⟩
    rw [gets (by omega), hk.at_ x (by omega) hnx, List.getElem?_append_left hx]
  obtain ⟨h5, ws', h6, h7, h8⟩ := gc_tr (v := undef) hkeep rfl
  have hws : ∀ x ∈ ws', x < h.length := fun x hx => by
    simp only [gc] at h6
    split at h6
    · split at h6
      · cases h6; cases hx
      · simp [noNew, undef] at *
    · rename_i w r' hf
      have : ∀ y ∈ w :: r', y < h.length := fun y hy => by rw [← hf, List.mem_filter] at hy; simpa using hy.2
      split at h6 <;> (cases h6; exact this x hx)
  have hfc : fnCall (callW E) (ev (get fr) g) = callW E (.func (.func f) a b) := by
    rw [hg]; rfl
  have hcode : code (callW E) iterW sz (.rng g ps assign body) fr h = rangeEnd h fr (fnCall (callW E) (ev (get fr) g) [.func (.yield h.length) #[] #[]] (h ++ [.loop { state := .ready, pending := none, fr, sz, params := ps, assign, body }])) := rfl
  rw [hcode, hfc, hcall]
  simp only [rangeEnd, hr]
  have hW2 : ∀ x ∈ ws', W x := fun x hx => hW x (hw x (h7 x hx)) (hws x hx)
  cases hs : r.state with
  | busy => exact absurd hs hst
  | _ =>
    simp only [h6]
    cases hp : r.pending with
    | none => rw [hp] at hq; exact ⟨_, _, _, _, rfl, hW2, hq _ h8⟩
    | some j => cases j with
      | none => rw [hp] at hq; exact ⟨_, _, _, _, rfl, hW2, hq _ h8⟩
      | some id => rw [hp] at hq; exact ⟨_, _, _, _, rfl, hW2, hq _ h8⟩
namespace Own
variable {m sz : Nat} {h h' : Heap} {v : Value} {L : List (List Value)}
theorem append' (o : Own m sz h v L) (hmh : m ≤ h.length) {bytes : Nat} {x : Value} {X : List (List Value)} (hx : cellsOf sz x h = Option.some (X.length, X.flatten)) (hX : X ≠ []) (hs : ∀ e ∈ X, e.length = sz) (hsz : sz ≠ 0) (hby : bytes ≠ 0)
    (hb : (L.length + X.length) * bytes ≤ 140737488355328) : ∃ h' ws v', appendV sz bytes v x h = .some (v', h', ws) ∧ (∀ b ∈ ws, L ≠ [] ∧ b = blk v) ∧ Own m sz h' v' (L ++ X) ∧ blk v' = h.length ∧ h'.length = h.length + 1 ∧ ∀ b, b < h.length → (L ≠ [] → b ≠ blk v) → h'[b]? = h[b]? := by
  have hle : L.length + X.length ≤ (L.length + X.length) * bytes := Nat.le_mul_of_pos_right _ (by omega)
  have hXn : X.length ≠ 0 := by intro e; exact hX (List.length_eq_zero_iff.1 e)
  have hsLX : ∀ e ∈ L ++ X, e.length = sz := by
    intro e he
    rcases List.mem_append.1 he with he | he
    · exact o.row.size e he
    · exact hs e he
  have hcond : (L.length + X.length) * bytes ≤ 140737488355328 ∧ L.length + X.length < 4611686018427387904 ∧ sz ≠ 0 ∧ bytes ≠ 0 := ⟨hb, by omega, hsz, hby⟩
  cases o with
  | nil =>
    refine ⟨h ++ [.cells X.flatten false], [], .slice (.some ⟨h.length, 0, .some sz⟩) X.length X.length, ?_, (fun b hb => nomatch hb), ?_, rfl, by simp, fun b hlt _ => List.getElem?_append_left hlt⟩
    · simp only [List.length_nil, Nat.zero_add] at hcond
      have hc : cellsOf sz (.slice none 0 0) h = Option.some (0, []) := rfl
      simp only [appendV, hx, hc, if_true, hXn, if_false, Nat.zero_add, hcond, and_self, ne_eq, not_false_eq_true, List.nil_append]
    · simp only [List.nil_append]
      exact .some hmh (by rw [geta0]; rfl) hs (by simp at hb hle; omega) hX
  | some hm hb' hsL hf hn =>
    rename_i b
    have hlt := (List.getElem?_eq_some_iff.1 hb').1
    refine ⟨h.set b .dead ++ [.cells (L.flatten ++ X.flatten) false], [b], .slice (.some ⟨h.length, 0, .some sz⟩) (L.length + X.length) (L.length + X.length), ?_, fun x hx => ⟨hn, List.mem_singleton.1 hx⟩, ?_, rfl, by simp, fun x hlt' hne => ?_⟩
    · have hc : cellsOf sz (.slice (.some ⟨b, 0, .some sz⟩) L.length L.length) h = .some (L.length, L.flatten) := by
        rw [cellsOf_some, hb', cellO_cells, flat_len hsL, if_pos (by show 0 + _ ≤ _; omega), List.drop_zero, ← flat_len hsL, List.take_length]
      simp only [appendV, hx, hc, hXn, if_false, hcond, and_self, if_true, hb', ne_eq, not_false_eq_true]
    · rw [← List.length_append]
      refine .some hmh ?_ hsLX (by rw [List.length_append]; omega) (by simp [hX])
      rw [List.getElem?_append_right (by simp), List.length_set, Nat.sub_self, List.flatten_append]; rfl
    · have := hne hn
      simp only [blk] at this
      rw [List.getElem?_append_left (by simpa using hlt'), gets (Ne.symm this)]
end Own
theorem wx_app2 {α : Type} {W : Nat → Prop} {m sz : Nat} {enc : α → List Value} {h0 h : Heap} {v : Value} {l : List α} (o : OwnT m sz enc h v l) (hp : Pre h0 h) (hm : h0.length ≤ m) (hmh : m ≤ h.length) (hW : l ≠ [] → W (blk v)) {bytes : Nat} {x : Value} (a : α) {Q : Value → Heap → Prop}
    (hx : cellsOf sz x h = some (1, enc a)) (hs : (enc a).length = sz) (hsz : sz ≠ 0) (hby : bytes ≠ 0) (hb : (l.length + 1) * bytes ≤ 140737488355328)
    (hq : ∀ v' h', OwnT m sz enc h' v' (l ++ [a]) → Pre h0 h' → blk v' = h.length → h'.length = h.length + 1 → (∀ b, b < h.length → (l ≠ [] → b ≠ blk v) → h'[b]? = h[b]?) → Q v' h') : WX W (appendV sz bytes v x h) Q := by
  obtain ⟨h', ws, v', h1, h2, h3, h4, h5, h6⟩ := Own.append' o hmh (X := [enc a]) (by simpa using hx) (by simp) (by simpa using hs) hsz hby (by simpa using hb)
  refine ⟨v', h', ws, h1, fun b hb => ?_, hq v' h' (by unfold OwnT; simpa using h3) (hp.of_keep hm o h6) h4 h5 fun b hb hn => h6 b hb fun hl => hn fun e => hl (by simp [e])⟩
  obtain ⟨hl, rfl⟩ := h2 b hb
  exact hW fun e => hl (by simp [e])
theorem own_nil {α : Type} {m sz : Nat} {enc : α → List Value} {h : Heap} {l : List α} (o : OwnT m sz enc h (.slice none 0 0) l) : l = [] := by
  unfold OwnT at o
  generalize hL : l.map enc = L at o
  cases o with
  | nil => simpa using hL
theorem own_noNew {α : Type} {m sz n : Nat} {enc : α → List Value} {h : Heap} {v : Value} {l : List α} (o : OwnT m sz enc h v l) (hl : l ≠ []) (hn : noNewO n (some (.cells [v] false)) = true) : blk v < n := by
  have hl' : l.map enc ≠ [] := by simpa using hl
  unfold OwnT at o
  generalize l.map enc = L at o hl'
  cases o with
  | nil => exact absurd rfl hl'
  | some hm hb hs hf hn2 => simp only [blk]; simpa [noNewO, noNew] using hn
end Go.L
