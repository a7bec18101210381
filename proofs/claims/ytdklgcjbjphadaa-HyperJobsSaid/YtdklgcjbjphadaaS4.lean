/- THE LOGICAL MACHINE AND THE MODEL: operations that look at no heap (2). -/
import Derived.Test.YtdklgcjbjphadaaS3
set_option linter.unusedVariables false
set_option linter.unusedSimpArgs false
namespace Go.L
open Go
variable {P : Program} {ι : Inj} {w : World}
theorem oneCell_all {v : Value} (h : (cellsV v).all oneCell = true) : oneCell v = true ∨ ∃ cs, v = .agg cs := by
  cases v <;> first | exact .inl rfl | exact .inr ⟨_, rfl⟩ | (simp [cellsV, oneCell] at h; done)
theorem cells_one {v : Value} (h : oneCell v = true) : cellsV v = [v] ∧ v.cells = #[v] := by
  cases v <;> first | exact ⟨rfl, rfl⟩ | (simp [oneCell] at h; done)
theorem oneCell_rel {v r : Value} (h : VR ι v r) (hv : oneCell v = true) : oneCell r = true := by
  cases h <;> first | rfl | (simp [oneCell, forgot] at hv; done)
theorem cellsV_rel {v r : Value} (h : VR ι v r) (hv : oneCell v = true ∨ ∃ cs, v = .agg cs) : VRs ι (cellsV v) r.cells.toList := by
  rcases hv with hv | ⟨cs, rfl⟩
  · rw [(cells_one hv).1, (cells_one (oneCell_rel h hv)).2]
    exact .cons h .nil
  · obtain ⟨cs', rfl, hc⟩ := h.agg_inv
    exact hc
theorem setCells_length (c : List Value) (off : Nat) (vs : List Value) : (setCells c off vs).length = c.length := by
  induction vs generalizing c off with
  | nil => rfl
  | cons v r ih => simp [setCells, ih]
theorem setCells_rel {c c' : List Value} (h : VRs ι c c') {vs vs' : List Value} (hv : VRs ι vs vs') (off : Nat) : VRs ι (setCells c off vs) (setCells c' off vs') := by
  induction hv generalizing c c' off with
  | nil => exact h
  | cons h1 _ ih => exact ih (h.set off h1) (off + 1)
theorem foldl_setCells (vs : List Value) : ∀ (cells : Array Value) (off k : Nat), (vs.zipIdx k).foldl (fun cs (x : Value × Nat) => cs.setIfInBounds (off + x.2) x.1) cells = (setCells cells.toList (off + k) vs).toArray := by
  induction vs with
  | nil => intro cells off k; simp [setCells]
  | cons v r ih =>
    intro cells off k
    simp only [List.zipIdx_cons, List.foldl_cons, setCells]
    rw [ih]
    congr 1
    simp [Nat.add_assoc]
/-- Parts laid into cells. -/
theorem fill_rel {sz : Nat} {f : FF} {a : Act} (hf : FFR ι sz f a.tmps) {place : Nat → Option (Nat × Nat)} : ∀ {ps : List (Nat × Operand)} {qs : List (Nat × Nat × X)} (hq : cParts place ps = some qs)
    {c c' : List Value} (hc : VRs ι c c') {r : List Value} (hr : fillC f qs c = some r), ∃ r', Instr.fill place c'.toArray (ps.map fun p => (p.1, a.eval p.2)) = some r'.toArray ∧ VRs ι r r'
  | [], qs, hq, c, c', hc, r, hr => by
    simp [cParts] at hq; subst hq
    simp [fillC] at hr; subst hr
    exact ⟨c', by simp [Instr.fill], hc⟩
  | (i, y) :: ps, qs, hq, c, c', hc, r, hr => by
    simp only [cParts, Option.bind_eq_some_iff, Option.map_eq_some_iff] at hq
    obtain ⟨p, hp, x, hx, qs', hq', rfl⟩ := hq
    simp only [fillC] at hr
    split at hr
    · rename_i hlen
      have hv := ev_rel hf hx
      have hone := oneCell_all hlen.2.2
      have hcv := cellsV_rel hv hone
      have hl : (a.eval y).cells.size = p.2 := by rw [← hlen.1, hcv.length]; simp
      have hc'l : c'.length = c.length := hc.length.symm
      obtain ⟨r', h1, h2⟩ := fill_rel hf hq' (setCells_rel hc hcv p.1) hr
      refine ⟨r', ?_, h2⟩
      simp only [List.map_cons, Instr.fill, hp]
      rw [if_neg (by simp [hl]; omega)]
      rw [← h1]
      congr 1
      have := foldl_setCells (a.eval y).cells.toList c'.toArray p.1 0
      simp only [Nat.add_zero] at this
      rw [← this]
      rw [← Array.toList_zipIdx, Array.foldl_toList]
    · cases hr

/-! ### One operation that looks at no heap -/
theorem run_bound {f : FF} {sz : Nat} {a : Act} (hf : FFR ι sz f a.tmps) {x : Operand} {q : X} (hx : cX x = some q) {d high n : Nat} (h : bound f (some q) d high = some n) (code : BoundsCode) (w : World) :
    (Instr.sliceBound (a.eval x) high code).run P w = .ok n w := by
  simp only [bound] at h
  split at h
  · rename_i k i he
    have := ev_rel hf hx
    rw [he] at this
    rw [this.int_inv]
    split at h
    · rename_i hb
      simp only [Option.some.injEq] at h; subst h
      simp [Instr.sliceBound, asIntOf, Sem.run_bind, Result.andThen, hb]
    · cases h
  · cases h
def Gives (P : Program) (ι : Inj) (a : Act) (o : Oper) (v : Value) (w : World) : Prop := ∃ v', (execOp a.eval o).run P w = .ok (.value v') w ∧ VR ι v v'
section
variable {sz : Nat} {f : FF} {a : Act} {o : Oper} {q : O} {v : Value}
theorem run_v (s : Sem Value) {v' : Value} {w w' : World} (h : s.run P w = .ok v' w') : (do pure (Next.value (← s)) : Sem Next).run P w = .ok (.value v') w' := by
  simp [Sem.run_bind, h, Result.andThen]
theorem g_mov {x : Operand} (hf : FFR ι sz f a.tmps) (ho : o.op = .move x ∨ o.op = .assign x) {x' : X} (hx : cX x = some x') (hv : pureV f (.mov x') = some v) : Gives P ι a o v w := by
  simp only [pureV, Option.some.injEq] at hv; subst hv
  refine ⟨a.eval x, ?_, ev_rel hf hx⟩
  rcases ho with ho | ho <;> simp [execOp, ho]
theorem g_pick {c x y : Operand} (hf : FFR ι sz f a.tmps) (ho : o.op = .pick c x y) {c' x' y' : X} (hc : cX c = some c') (hx : cX x = some x') (hy : cX y = some y') (hv : pureV f (.pick c' x' y') = some v) : Gives P ι a o v w := by
  simp only [pureV] at hv
  split at hv
  · rename_i t ht
    have hcr := ev_rel hf hc
    rw [ht] at hcr
    simp only [Option.some.injEq] at hv; subst hv
    refine ⟨if t then a.eval x else a.eval y, ?_, ?_⟩
    · simp [execOp, ho, hcr.bool_inv, asBool, Sem.run_bind, Result.andThen]
    · cases t
      · exact ev_rel hf hy
      · exact ev_rel hf hx
  · cases hv
theorem run_eqGuard_other {op : BinOp} {t : TypeId} {x y : Operand} {u v : Value} (h1 : ¬ (u = .nilIface ∧ v = .nilIface)) (h2 : ∀ xs ys, ¬ (u = .agg xs ∧ v = .agg ys)) (w : World) :
    (eqGuard op t x y u v).run P w = .ok () w := by
  unfold eqGuard
  cases op <;> simp only [] <;> first | rfl | skip
  all_goals
    cases u <;> first | rfl | skip
    all_goals cases v <;> first | rfl | (exact absurd ⟨rfl, rfl⟩ h1) | (exact absurd ⟨rfl, rfl⟩ (h2 _ _)) | skip
theorem run_eqGuard_nil {op : BinOp} {t : TypeId} {x y : Operand} (h : (isC x || isC y) = true) (w : World) : (eqGuard op t x y .nilIface .nilIface).run P w = .ok () w := by
  unfold eqGuard
  cases x <;> cases y <;> first | (simp [isC] at h; done) | (cases op <;> rfl)
theorem run_eqGuard_agg {op : BinOp} {t : TypeId} {x y : Operand} {xs ys : Array Value} (h : P.eqGuardType P.depth t = false) (w : World) : (eqGuard op t x y (.agg xs) (.agg ys)).run P w = .ok () w := by
  unfold eqGuard
  cases op <;> simp [Sem.run_bind, Result.andThen, h]
theorem flatO_guard {t : TypeId} {l : List FK} (h : flatO P t = some l) : P.eqGuardType P.depth t = false := by
  unfold flatO at h
  split at h
  · split at h
    · rename_i hh; exact hh.2
    · cases h
  · cases h
theorem eqAny_guard {op : BinOp} {t : TypeId} {x y : Operand} {u v u' v' : Value} {b : Bool} (h : eqAny (eqK P t (isC x || isC y)) u v = some b) (hu : VR ι u u') (hv : VR ι v v') (w : World) :
    (eqGuard op t x y u' v').run P w = .ok () w := by
  by_cases h1 : u' = .nilIface ∧ v' = .nilIface
  · obtain ⟨rfl, rfl⟩ := h1
    refine run_eqGuard_nil ?_ w
    cases hc : (isC x || isC y) with
    | true => rfl
    | false =>
      rw [hc] at h
      exfalso
      cases hu with
      | any => unfold eqAny at h; split at h <;> first | (cases h; done) | (rename_i e; cases e; done) | contradiction | skip
      | nili =>
        cases hv with
        | any => unfold eqAny at h; split at h <;> first | (cases h; done) | contradiction | skip
        | nili => unfold eqAny at h; split at h <;> first | (cases h; done) | contradiction | (rename_i hq _ _; unfold eqK at hq; split at hq <;> first | (cases hq; done) | (split at hq <;> cases hq; done))
  · by_cases h2 : ∃ xs ys, u' = .agg xs ∧ v' = .agg ys
    · obtain ⟨xs, ys, rfl, rfl⟩ := h2
      refine run_eqGuard_agg ?_ w
      unfold eqK at h
      split at h <;> try (exfalso; cases hu <;> cases hv <;> simp [eqAny, forgot] at h; done)
      split at h
      · rename_i l hl; exact flatO_guard hl
      · exfalso; cases hu <;> cases hv <;> simp [eqAny, forgot] at h
    · exact run_eqGuard_other h1 (fun xs ys e => h2 ⟨xs, ys, e⟩) w
theorem binOp_general {op : BinOp} {t : TypeId} {u v : Value} (hi : ∀ k a k' b, ¬ (u = .int k a ∧ v = .int k' b)) (hs : ∀ a b, ¬ (u = .string a ∧ v = .string b)) (hf : ∀ k a k' b, ¬ (u = .float k a ∧ v = .float k' b)) (hc : ∀ k a b k' c d, ¬ (u = .complex k a b ∧ v = .complex k' c d)) :
    Go.binOp .eql t u v = (do pure (.bool (← Op.equal t u v))) ∧ Go.binOp .neq t u v = (do pure (.bool (!(← Op.equal t u v)))) := by
  cases u <;> cases v <;> first | exact ⟨rfl, rfl⟩ | (exact absurd ⟨rfl, rfl⟩ (hi _ _ _ _)) | (exact absurd ⟨rfl, rfl⟩ (hs _ _)) | (exact absurd ⟨rfl, rfl⟩ (hf _ _ _ _)) | (exact absurd ⟨rfl, rfl⟩ (hc _ _ _ _ _ _))
theorem eqAny_shape {q : EqK} {x y x' y' : Value} {b : Bool} (h : eqAny q x y = some b) (hx : VR ι x x') (hy : VR ι y y') :
    (∀ k a k' b, ¬ (x' = .int k a ∧ y' = .int k' b)) ∧ (∀ a b, ¬ (x' = .string a ∧ y' = .string b)) ∧ (∀ k a k' b, ¬ (x' = .float k a ∧ y' = .float k' b)) ∧ (∀ k a b k' c d, ¬ (x' = .complex k a b ∧ y' = .complex k' c d)) := by
  unfold eqAny at h
  split at h <;> first | (cases h; done) | (cases hx <;> refine ⟨?_, ?_, ?_, ?_⟩ <;> (intros; rintro ⟨e, _⟩; cases e))
theorem g_bin {op : BinOp} {t yt : TypeId} {x y : Operand} (hf : FFR ι sz f a.tmps) (ho : o.op = .binOp op t x y yt) {x' y' : X} (hx : cX x = some x') (hy : cX y = some y')
    (hv : pureV f (.bin op (eqK P t (isC x || isC y)) x' y') = some v) : Gives P ι a o v w := by
  have rx := ev_rel hf hx
  have ry := ev_rel hf hy
  simp only [pureV] at hv
  unfold binOp at hv
  split at hv
  · rename_i k n k' m ex ey
    rw [ex] at rx; rw [ey] at ry
    refine ⟨v, ?_, ?_⟩
    · simp only [execOp, ho, rx.int_inv, ry.int_inv]
      refine run_v _ ?_
      simp only [Sem.run_bind, run_eqGuard_other (P := P) (u := .int k n) (v := .int k' m) (by rintro ⟨h, _⟩; cases h) (by rintro _ _ ⟨h, _⟩; cases h) w, Result.andThen]
      exact run_binInt hv w
    · have : ∃ k n, v = .int k n ∨ ∃ b, v = .bool b := by
        cases op <;> simp only [intOp] at hv <;> (repeat' split at hv) <;> first | (cases hv; done) | (simp only [Option.some.injEq] at hv; subst hv; first | exact ⟨_, _, .inl rfl⟩ | exact ⟨.i8, 0, .inr ⟨_, rfl⟩⟩)
      obtain ⟨k, n, rfl | ⟨b, rfl⟩⟩ := this
      · exact .int _ _
      · exact .bool _
  · rename_i s s' ex ey
    rw [ex] at rx; rw [ey] at ry
    refine ⟨v, ?_, ?_⟩
    · simp only [execOp, ho, rx.string_inv, ry.string_inv]
      refine run_v _ ?_
      simp only [Sem.run_bind, run_eqGuard_other (P := P) (u := .string s) (v := .string s') (by rintro ⟨h, _⟩; cases h) (by rintro _ _ ⟨h, _⟩; cases h) w, Result.andThen]
      exact run_binStr hv w
    · have : (∃ s, v = .string s) ∨ ∃ b, v = .bool b := by
        cases op <;> simp only [strOp] at hv <;> (repeat' split at hv) <;> first | (cases hv; done) | (simp only [Option.some.injEq] at hv; subst hv; first | exact .inl ⟨_, rfl⟩ | exact .inr ⟨_, rfl⟩)
      obtain ⟨s, rfl⟩ | ⟨b, rfl⟩ := this
      · exact .string _
      · exact .bool _
  · have key : ∀ b, eqAny (eqK P t (isC x || isC y)) (ev f x') (ev f y') = some b → (op = .eql → v = .bool b) → (op = .neq → v = .bool (!b)) → (op = .eql ∨ op = .neq) → Gives P ι a o v w := by
      intro b hb h1 h2 h3
      have hrun := run_eqAny hb rx ry w
      have hg := eqAny_guard (op := op) hb rx ry w
      obtain ⟨s1, s2, s3, s4⟩ := eqAny_shape hb rx ry
      obtain ⟨b1, b2⟩ := binOp_general (op := op) (t := t) s1 s2 s3 s4
      rcases h3 with rfl | rfl
      · refine ⟨.bool b, ?_, by rw [h1 rfl]; exact .bool b⟩
        simp only [execOp, ho]
        refine run_v _ ?_
        simp only [Sem.run_bind, hg, Result.andThen, b1, hrun]; rfl
      · refine ⟨.bool (!b), ?_, by rw [h2 rfl]; exact .bool _⟩
        simp only [execOp, ho]
        refine run_v _ ?_
        simp only [Sem.run_bind, hg, Result.andThen, b2, hrun]; rfl
    split at hv
    · simp only [Option.map_eq_some_iff] at hv
      obtain ⟨b, hb, rfl⟩ := hv
      exact key b hb (fun _ => rfl) (fun h => by cases h) (.inl rfl)
    · simp only [Option.map_eq_some_iff] at hv
      obtain ⟨b, hb, rfl⟩ := hv
      exact key b hb (fun h => by cases h) (fun _ => rfl) (.inr rfl)
    · cases hv
end
end Go.L
