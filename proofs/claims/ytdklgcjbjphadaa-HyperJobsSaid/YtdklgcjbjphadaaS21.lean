/- THE LOGICAL MACHINE AND THE MODEL: code. -/
import Derived.Test.YtdklgcjbjphadaaS20
import Derived.Scope
set_option linter.unusedVariables false
set_option linter.unusedSimpArgs false
namespace Go.L
open Go
variable {P : Program} {ι : Inj} {h : Heap} {w : World}
def exOf : Ex → Exit
  | .normal => .normal
  | .exit id => .exit id
  | .ret => .ret
/-! ### Rules that the kit has not -/
section
variable {F : Fence} {n : Nat} {Q : Exit → Act → World → Prop} {a : Act}
theorem wpIn_scope {c : Code} (h : c.wpIn F n P (Exit.noGoto Q) a w) : (Code.scope c).wpIn F n P Q a w := by
  intro b k cs hro hb hr
  have h0 : (lone (b.atR a (.code (.scope c) :: k)) cs w).fenced P F := fenced_calm hb hr rfl
  have s0 : step P (lone (b.atR a (.code (.scope c) :: k)) cs w) = .next (lone (b.atR a (.code c :: .inScope c :: k)) cs w) := step_lone_go (by simp [stepG, stepG.exec, Frame.atR])
  obtain ⟨e, a₁, w₁, hq, harr⟩ := h b (.inScope c :: k) cs hro hb hr
  cases e with
  | normal =>
    have s1 : step P (lone (b.atR a₁ (.inScope c :: k)) cs w₁) = .next (lone (b.atR a₁ k) cs w₁) := step_lone_go (by simp [stepG, stepG.exec, Frame.atR])
    exact ⟨.normal, a₁, w₁, hq, .head h0 s0 (StepsIn.trans harr (.one (fenced_calm hb hr rfl) s1))⟩
  | exit id =>
    have hx : exitTo id (.inScope c :: k) = exitTo id k := by simp [exitTo]
    exact ⟨.exit id, a₁, w₁, hq, fun k' hk => .head h0 s0 (harr.1 k' (by rw [hx]; exact hk)), fun hr' hk => let ⟨k₁, h1, h2⟩ := harr.2 hr' (by rw [hx]; exact hk); ⟨k₁, h1, .head h0 s0 h2⟩⟩
  | goto l => exact hq.elim
  | ret => exact ⟨_, a₁, w₁, hq, .of_steps (.one h0 s0) harr⟩
  | panic ch => exact ⟨_, a₁, w₁, hq, .of_steps (.one h0 s0) harr⟩
  | outgrown => exact ⟨_, a₁, w₁, hq, .of_steps (.one h0 s0) harr⟩
/-- At a loop's head. -/
def LoopAt (F : Fence) (n : Nat) (P : Program) (c : Code) (Q : Exit → Act → World → Prop) (a : Act) (w : World) : Prop :=
  ∀ (b : Frame) (k : List Item) (cs : List Frame), b.roundOf = F.round → F.fn b.fn → F.room (cs.length + 1 + n) →
    ∃ e a' w', Q e a' w' ∧ ArrivesIn (Machine.fenced P F) P (lone (b.atR a (.code c :: .inLoop c :: k)) cs w) b k cs e a' w'
theorem loopAt_round {c : Code} (h : c.wpIn F n P (Exit.then (LoopAt F n P c Q) Q) a w) : LoopAt F n P c Q a w := by
  intro b k cs hro hb hr
  obtain ⟨e, a₁, w₁, hq, harr⟩ := h b (.inLoop c :: k) cs hro hb hr
  cases e with
  | normal =>
    obtain ⟨e₂, a₂, w₂, hq₂, harr₂⟩ := hq b k cs hro hb hr
    exact ⟨e₂, a₂, w₂, hq₂, .of_steps (StepsIn.trans harr (.one (fenced_calm hb hr rfl) stepR_inLoop)) harr₂⟩
  | exit id => exact ⟨_, a₁, w₁, hq, .pass (x := .inLoop c) rfl (fun _ _ => .inl (by simp)) harr⟩
  | goto l => exact ⟨_, a₁, w₁, hq, .pass (x := .inLoop c) rfl (fun _ _ => .inl (by simp)) harr⟩
  | ret => exact ⟨_, a₁, w₁, hq, .pass (x := .inLoop c) rfl (fun _ _ => .inl (by simp)) harr⟩
  | panic ch => exact ⟨_, a₁, w₁, hq, .pass (x := .inLoop c) rfl (fun _ _ => .inl (by simp)) harr⟩
  | outgrown => exact ⟨_, a₁, w₁, hq, .pass (x := .inLoop c) rfl (fun _ _ => .inl (by simp)) harr⟩
theorem wpIn_loopAt {c : Code} (h : LoopAt F n P c Q a w) : (Code.loop c).wpIn F n P Q a w := by
  intro b k cs hro hb hr
  obtain ⟨e, a', w', hq, harr⟩ := h b k cs hro hb hr
  exact ⟨e, a', w', hq, .of_steps (.one (fenced_calm hb hr rfl) stepR_loop) harr⟩
end
/-! ### Marks -/
/-- The deferred calls are marks of loops over functions, whose blocks hold no calls. -/
def Marks (n0 : Nat) (w : World) : List Deferred → Prop
  | [] => True
  | d :: ds => (∃ r, d.target = .collected r ∧ w.heap[r]? = some (.deferred (some [])) ∧ n0 ≤ r ∧ ∀ d' ∈ ds, d'.target ≠ .collected r) ∧ Marks n0 w ds
theorem not_wr {r : Nat} {ds : Option (List Deferred)} (hs : Sim P ι h w) (hr : w.heap[r]? = some (.deferred ds)) : ¬ Wr ι h r := by
  rintro ⟨b, o, m, hb, hw, hm, rfl⟩
  obtain ⟨m', hm', hobj⟩ := hs.obj b o hb (LObj.live_of_wr hw)
  rw [hm] at hm'; cases hm'
  cases hobj with
  | cells a => rw [hr] at a; cases a
  | map a => rw [hr] at a; cases a
  | loop a => rw [hr] at a; cases a
theorem St.deferred {ι' : Inj} {h' : Heap} {w' : World} (hs : Sim P ι h w) (st : St P ι h w ι' h' w') {r : Nat} {ds : Option (List Deferred)} (hr : w.heap[r]? = some (.deferred ds)) : w'.heap[r]? = some (.deferred ds) :=
  (st.keep r (Array.getElem?_eq_some_iff.1 hr).1 (not_wr hs hr)).trans hr
theorem Marks.step {n0 : Nat} {ι' : Inj} {h' : Heap} {w' : World} (hs : Sim P ι h w) (st : St P ι h w ι' h' w') : ∀ {ds : List Deferred}, Marks n0 w ds → Marks n0 w' ds
  | [], _ => trivial
  | d :: ds, ⟨⟨r, h1, h2, h3, h4⟩, h5⟩ => ⟨⟨r, h1, st.deferred hs h2, h3, h4⟩, Marks.step hs st h5⟩
/-- In a round: the loop's record is there, and is not written. -/
def InR (F : Fence) (ι : Inj) (h : Heap) (ws : List Nat) : Prop := ∀ lr, F.round = some lr → ∃ l r m, h[l]? = some (.loop r) ∧ ι l = some m ∧ m.rb = lr ∧ l ∉ ws
theorem InR.left {F : Fence} {ws ws' : List Nat} (hi : InR F ι h (ws ++ ws')) : InR F ι h ws := fun lr hl =>
  let ⟨l, r, m, h1, h2, h3, h4⟩ := hi lr hl; ⟨l, r, m, h1, h2, h3, fun hm => h4 (List.mem_append_left _ hm)⟩
theorem InR.right {F : Fence} {ι' : Inj} {h' : Heap} {ws ws' : List Nat} (hi : InR F ι h (ws ++ ws')) (hk : Keeps h.length h h' ws) (hs : Sub ι ι') : InR F ι' h' ws' := fun lr hl =>
  let ⟨l, r, m, h1, h2, h3, h4⟩ := hi lr hl
  ⟨l, r, m, (hk.at_ l (List.getElem?_eq_some_iff.1 h1).1 fun hm => h4 (List.mem_append_left _ hm)).trans h1, hs _ _ h2, h3, fun hm => h4 (List.mem_append_right _ hm)⟩
/-! ### Statements whose order is open -/
theorem St.room (hs : Sim P ι h w) (n : Nat) : St P ι h w ι (room h n) w := by
  cases n with
  | zero => exact St.refl hs
  | succ n =>
    have old : ∀ (x : Nat) (o : LObj), (h ++ List.replicate (n + 1) LObj.dead)[x]? = some o → o ≠ .dead → h[x]? = some o := by
      intro x o hx hd
      rcases Nat.lt_or_ge x h.length with hl | hl
      · rwa [List.getElem?_append_left hl] at hx
      · rw [List.getElem?_append_right hl] at hx
        exact absurd (List.eq_of_mem_replicate (List.mem_of_getElem? hx)) hd
    refine ⟨Sub.refl _, ⟨fun b hb => hs.dom b (by simp [Go.L.room] at hb; omega), fun x o hx hd => hs.obj x o (old x o hx hd) hd, hs.glob, ?_⟩, Nat.le_refl _, rfl, rfl, rfl, fun _ _ _ => rfl, ?_⟩
    · intro x y o1 o2 m1 m2 hx hy hw1 hl2 h1 h2 hne
      exact hs.inj x y o1 o2 m1 m2 (old x o1 hx (LObj.live_of_wr hw1)) (old y o2 hy hl2) hw1 hl2 h1 h2 hne
    · rintro rb ⟨x, o, m, hx, hw, hm, rfl⟩ _
      exact ⟨x, o, m, old x o hx (LObj.live_of_wr hw), hw, hm, rfl⟩
theorem room_len (h : Heap) (n : Nat) : (room h n).length = h.length + n := by
  cases n with
  | zero => rfl
  | succ n => simp [room]
theorem ranks_spec : ∀ {r : List Ins} {n : Nat}, ranksOk r n = true → (∀ (i : Nat) (x : Ins), r[i]? = some x → cls x.o = .A → x.rank < n) ∧ ∀ (i j : Nat) (x y : Ins), r[i]? = some x → r[j]? = some y → i < j → cls x.o = .A → cls y.o = .A → x.rank ≠ y.rank
  | [], n, _ => ⟨fun i x h => by simp at h, fun i j x y h => by simp at h⟩
  | z :: r, n, h => by
    simp only [ranksOk, Bool.and_eq_true] at h
    obtain ⟨h1, h2⟩ := h
    obtain ⟨i1, i2⟩ := ranks_spec h2
    refine ⟨fun i x hx hA => ?_, fun i j x y hx hy hij hA hB => ?_⟩
    · cases i with
      | zero =>
        simp at hx; subst hx
        rw [hA] at h1; simp only [Bool.and_eq_true, decide_eq_true_eq] at h1
        exact h1.1
      | succ i => exact i1 i x (by simpa using hx) hA
    · cases j with
      | zero => omega
      | succ j =>
        cases i with
        | zero =>
          simp at hx; subst hx
          rw [hA] at h1; simp only [Bool.and_eq_true, decide_eq_true_eq] at h1
          have := List.all_eq_true.1 h1.2 y (List.mem_of_getElem? (by simpa using hy))
          rw [hB] at this
          simp at this
          exact fun e => this e.symm
        | succ i => exact i2 i j x y (by simpa using hx) (by simpa using hy) (by omega) hA hB
theorem mapM_at {α β : Type} {g : α → Option β} {l : List α} {m : List β} (h : l.mapM g = some m) : l.length = m.length ∧ ∀ (i : Nat) a, l[i]? = some a → ∃ b, m[i]? = some b ∧ g a = some b := by
  have := mapM_rel h
  exact ⟨this.length, fun i a ha => this.at_ ha⟩
theorem drawn_free {sz : Nat} {ops : Array Oper} {ins r : List Ins} {n : Nat} (hi : ops.toList.mapM (cI P sz ops) = some ins) (hd : drawn ops ins = some (n, r)) : Free P sz ops r n ∧ r.length = ops.size := by
  unfold drawn at hd
  simp only at hd
  obtain ⟨hlen, hat⟩ := mapM_at hi
  generalize hz : (List.zip ((ins.map fun i => cls i.o).zipIdx.map fun x => (ins.map fun i => cls i.o).zipIdx.any fun y => unord (Region.before ops) x.2 y.2 && apart x.1 y.1) (ranks (ins.map fun i => cls i.o) 0)) = zz at hd
  split at hd
  · rename_i hc
    simp only [Option.some.injEq, Prod.mk.injEq] at hd
    obtain ⟨rfl, rfl⟩ := hd
    simp only [Bool.and_eq_true, decide_eq_true_eq] at hc
    obtain ⟨⟨⟨c1, c2⟩, c3⟩, c4⟩ := hc
    have hget : ∀ i, i < ops.size → ∃ i0 z, ins[i]? = some i0 ∧ zz[i]? = some z ∧ (List.zipWith (fun (i : Ins) (x : Bool × Nat) => { i with flag := x.1, rank := x.2 }) ins zz)[i]? = some { i0 with flag := z.1, rank := z.2 } := by
      intro i hi
      have hl : i < (List.zipWith (fun (i : Ins) (x : Bool × Nat) => { i with flag := x.1, rank := x.2 }) ins zz).length := by omega
      have hl2 := hl
      rw [List.length_zipWith] at hl2
      refine ⟨ins[i]'(by omega), zz[i]'(by omega), by simp, by simp, ?_⟩
      rw [List.getElem?_eq_getElem hl]
      simp
    have hD : ∀ (i : Nat) x, (List.zipWith (fun (i : Ins) (x : Bool × Nat) => { i with flag := x.1, rank := x.2 }) ins zz)[i]? = some x → (List.zipWith (fun (i : Ins) (x : Bool × Nat) => { i with flag := x.1, rank := x.2 }) ins zz).getD i dfl = x := by
      intro i x hx; rw [List.getD_eq_getElem?_getD, hx]; rfl
    have hsome : ∀ i, i < ops.size → (List.zipWith (fun (i : Ins) (x : Bool × Nat) => { i with flag := x.1, rank := x.2 }) ins zz)[i]? = some ((List.zipWith (fun (i : Ins) (x : Bool × Nat) => { i with flag := x.1, rank := x.2 }) ins zz).getD i dfl) := by
      intro i hi
      obtain ⟨i0, z, _, _, h3⟩ := hget i hi
      rw [hD i _ h3]; exact h3
    obtain ⟨r1, r2⟩ := ranks_spec c2
    refine ⟨⟨fun i hi => ?_, fun i j hij hj hb => ?_, fun i o ho e he hb => ?_, fun i hi hA => r1 i _ (hsome i hi) hA, fun i j hi hj hij hA hB => ?_⟩, c3⟩
    · obtain ⟨i0, z, h1, h2, h3⟩ := hget i hi
      obtain ⟨b, hb1, hb2⟩ := hat i ops[i] (by simp [hi])
      rw [h1] at hb1; cases hb1
      rw [hD i _ h3]
      exact ⟨ops[i], i0, by simp [hi], hb2, rfl, rfl, rfl⟩
    · have hx : ∀ k, k < ops.size → ((List.zipWith (fun (i : Ins) (x : Bool × Nat) => { i with flag := x.1, rank := x.2 }) ins zz).getD k dfl, k) ∈ (List.zipWith (fun (i : Ins) (x : Bool × Nat) => { i with flag := x.1, rank := x.2 }) ins zz).zipIdx := by
        intro k hk
        rw [List.mem_zipIdx_iff_getElem?]
        simpa using hsome k hk
      have := List.all_eq_true.1 (List.all_eq_true.1 c1 _ (hx i (by omega))) _ (hx j hj)
      simp only [unord, Bool.or_eq_true, Bool.not_eq_true', Bool.and_eq_false_iff, decide_eq_false_iff_not] at this
      rcases this with (h1 | h1) | h1
      · exact absurd hij h1
      · rw [Nat.max_eq_right (Nat.le_of_lt hij), Nat.min_eq_left (Nat.le_of_lt hij), hb] at h1
        simp at h1; omega
      · exact h1
    · have := List.all_eq_true.1 (List.all_eq_true.1 c4 (o, i) (by rw [List.mem_zipIdx_iff_getElem?]; simpa using ho)) e (by simpa using he)
      simpa [hb] using this
    · rcases Nat.lt_or_gt_of_ne hij with hl | hl
      · exact r2 i j _ _ (hsome i hi) (hsome j hj) hl hA hB
      · exact fun e => r2 j i _ _ (hsome j hj) (hsome i hi) hl hB hA e.symm
  · cases hd
end Go.L
