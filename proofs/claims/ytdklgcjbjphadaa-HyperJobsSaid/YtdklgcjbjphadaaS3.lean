/- THE LOGICAL MACHINE AND THE MODEL: operations that look at no heap. -/
import Derived.Test.YtdklgcjbjphadaaS2
set_option linter.unusedVariables false
set_option linter.unusedSimpArgs false
namespace Go.L
open Go
variable {P : Program} {ι : Inj} {w : World}
theorem szO_info {t n : Nat} (h : szO P t = some n) : ∃ i, P.info? t = some i ∧ i.size = n := by
  unfold szO at h
  cases hi : P.info? t with
  | none => simp [hi] at h
  | some i => simp [hi] at h; exact ⟨i, rfl, h⟩
theorem run_szO {t n : Nat} (h : szO P t = some n) (w : World) : (sizeOf t).run P w = .ok n w := by
  obtain ⟨i, hi, hn⟩ := szO_info h
  simp [sizeOf, Sem.run_bind, run_typeInfo w hi, Result.andThen, hn]
theorem run_isAgg_some {t n : Nat} (h : aggO P t = some (some n)) (w : World) : (isAgg t).run P w = .ok true w ∧ szO P t = some n := by
  unfold aggO at h
  split at h
  · rename_i fs hu
    cases hi : P.info? t with
    | none => simp [hi] at h
    | some i => simp [hi] at h; exact ⟨by simp [isAgg, Sem.run_bind, run_underlying hu, Result.andThen], by simp [szO, hi, h]⟩
  · rename_i a b hu
    cases hi : P.info? t with
    | none => simp [hi] at h
    | some i => simp [hi] at h; exact ⟨by simp [isAgg, Sem.run_bind, run_underlying hu, Result.andThen], by simp [szO, hi, h]⟩
  · cases h
  · cases h
theorem run_isAgg_none {t : Nat} (h : aggO P t = some none) (w : World) : (isAgg t).run P w = .ok false w := by
  unfold aggO at h
  split at h
  · rename_i fs hu; cases hi : P.info? t <;> simp [hi] at h
  · rename_i a b hu; cases hi : P.info? t <;> simp [hi] at h
  · rename_i d h1 h2 hu
    simp only [isAgg, Sem.run_bind, run_underlying hu, Result.andThen]
    rfl
  · cases h
/-- A part of a struct's cells. -/
theorem run_part {t : Nat} {g : Option Nat} (hg : aggO P t = some g) {cs cs' : List Value} (hr : VRs ι cs cs') {off : Nat} {v : Value} (hv : part cs off g = some v) (w : World) :
    ∃ v', (Go.part t cs'.toArray off).run P w = .ok v' w ∧ VR ι v v' := by
  cases g with
  | none =>
    simp only [part] at hv
    obtain ⟨r, hr', hvr⟩ := hr.at_ hv
    exact ⟨r, by simp [Go.part, Sem.run_bind, run_isAgg_none hg, Result.andThen, hr'], hvr⟩
  | some n =>
    obtain ⟨h1, h2⟩ := run_isAgg_some hg w
    simp only [part] at hv
    split at hv
    · rename_i hle
      simp only [Option.some.injEq] at hv; subst hv
      refine ⟨.agg ((cs'.drop off).take n).toArray, ?_, .agg ((hr.drop off).take n)⟩
      simp only [Go.part, Sem.run_bind, h1, Result.andThen, if_true, run_szO h2]
      have : (cs'.toArray.extract off (off + n)) = ((cs'.drop off).take n).toArray := by
        simp [List.extract_toArray, List.extract_eq_take_drop]
      rw [this]; rfl
    · cases hv

theorem run_binInt {op : BinOp} {t : TypeId} {k k' : IntKind} {a b : Int} {v : Value} (h : intOp op k a k' b = some v) (w : World) : (Go.binOp op t (.int k a) (.int k' b)).run P w = .ok v w := by
  cases op <;> simp only [intOp] at h
  case shl =>
    split at h
    · cases h
    · simp only [Option.some.injEq] at h; subst h; rename_i hb; simp [Go.binOp, Op.shift, hb]
  case shr =>
    split at h
    · cases h
    · simp only [Option.some.injEq] at h; subst h; rename_i hb; simp [Go.binOp, Op.shift, hb]
  case quo =>
    split at h
    · split at h
      · cases h
      · rename_i hk hb; subst hk; simp only [Option.some.injEq] at h; subst h; simp [Go.binOp, Op.intDiv, hb]
    · cases h
  case rem =>
    split at h
    · split at h
      · cases h
      · rename_i hk hb; subst hk; simp only [Option.some.injEq] at h; subst h; simp [Go.binOp, Op.intDiv, hb]
    · cases h
  all_goals
    split at h
    · rename_i hk
      subst hk
      simp only [Option.some.injEq] at h
      subst h
      simp only [Go.binOp, ne_eq, not_true_eq_false, if_false]
      rfl
    · cases h
theorem run_binStr {op : BinOp} {t : TypeId} {a b : ByteArray} {v : Value} (h : strOp op a b = some v) (w : World) : (Go.binOp op t (.string a) (.string b)).run P w = .ok v w := by
  cases op <;> simp only [strOp] at h
  case add =>
    split at h
    · cases h
    · simp only [Option.some.injEq] at h; subst h; rename_i hb; simp only [Go.binOp, Op.stringOp, hb, if_false]; rfl
  all_goals first | (cases h; done) | (simp only [Option.some.injEq] at h; subst h; rfl)

/-! ### '==' -/
theorem equal_unfold (t : TypeId) (x y : Value) : Op.equal t x y = Op.equalIn (9999 + 1) t x y := rfl
theorem scalK_agg {t : TypeId} {k : SK} (h : scalK P t = some k) : aggO P t = some none ∧ ∃ d, P.underlying t = some d ∧ ((∃ i, d = .int i) ∧ k = .i ∨ d = .string ∧ k = .s ∨ d = .bool ∧ k = .b) := by
  unfold scalK at h
  split at h <;> first | (cases h; done) | skip
  all_goals
    rename_i hu
    simp only [Option.some.injEq] at h; subst h
    refine ⟨by simp [aggO, hu], _, hu, ?_⟩
  · exact .inl ⟨⟨_, rfl⟩, rfl⟩
  · exact .inr (.inl ⟨rfl, rfl⟩)
  · exact .inr (.inr ⟨rfl, rfl⟩)
theorem run_sameS {t : TypeId} {k : SK} (hk : scalK P t = some k) {x y : Value} {b : Bool} (h : sameS k x y = some b) (d : Nat) (w : World) : (Op.equalIn (d + 1) t x y).run P w = .ok b w := by
  obtain ⟨_, D, hu, hd⟩ := scalK_agg hk
  unfold sameS at h
  split at h <;> first | (cases h; done) | skip
  · split at h
    · rename_i e; subst e
      simp only [Option.some.injEq] at h; subst h
      obtain ⟨⟨i, rfl⟩, _⟩ | ⟨_, hh⟩ | ⟨_, hh⟩ := hd
      · simp [Op.equalIn, Sem.run_bind, run_underlying hu, Result.andThen]
      · cases hh
      · cases hh
    · cases h
  · simp only [Option.some.injEq] at h; subst h
    obtain ⟨_, hh⟩ | ⟨rfl, _⟩ | ⟨_, hh⟩ := hd
    · cases hh
    · simp [Op.equalIn, Sem.run_bind, run_underlying hu, Result.andThen]
    · cases hh
  · simp only [Option.some.injEq] at h; subst h
    obtain ⟨_, hh⟩ | ⟨_, hh⟩ | ⟨rfl, _⟩ := hd
    · cases hh
    · cases hh
    · simp [Op.equalIn, Sem.run_bind, run_underlying hu, Result.andThen]
theorem run_part_scal {t : TypeId} {k : SK} (hk : scalK P t = some k) {cs : List Value} {off : Nat} {v : Value} (hv : cs[off]? = some v) (w : World) : (Go.part t cs.toArray off).run P w = .ok v w := by
  simp [Go.part, Sem.run_bind, run_isAgg_none (scalK_agg hk).1, Result.andThen, hv]
theorem run_eqItems {e : TypeId} {k : SK} (hk : scalK P e = some k) (d : Nat) {xs ys : List Value} : ∀ (n j : Nat) {us vs : List Value} {b : Bool}, sameA k n us vs = some b → (∀ i, i < n → xs[j + i]? = us[i]?) → (∀ i, i < n → ys[j + i]? = vs[i]?) → ∀ (w : World),
    (Op.eqItems (d + 1) e 1 xs.toArray ys.toArray (List.range' j n)).run P w = .ok b w
  | 0, j, us, vs, b, h, hx, hy, w => by
    unfold sameA at h
    split at h <;> first | (cases h; done) | skip
    · simp only [Option.some.injEq] at h; subst h; simp [Op.eqItems]
    · contradiction
  | n + 1, j, us, vs, b, h, hx, hy, w => by
    cases us with
    | nil => simp [sameA] at h
    | cons u us =>
    cases vs with
    | nil => simp [sameA] at h
    | cons v vs =>
    simp only [sameA, Option.bind_eq_some_iff, Option.map_eq_some_iff] at h
    obtain ⟨r, hr, s, hs, rfl⟩ := h
    have h1 := run_part_scal hk (cs := xs) (off := j * 1) (v := u) (by simpa using hx 0 (by omega)) w
    have h2 := run_part_scal hk (cs := ys) (off := j * 1) (v := v) (by simpa using hy 0 (by omega)) w
    have ih := run_eqItems hk d n (j + 1) hs (fun i hi => by have := hx (i + 1) (by omega); simpa [Nat.add_assoc, Nat.add_comm 1] using this) (fun i hi => by have := hy (i + 1) (by omega); simpa [Nat.add_assoc, Nat.add_comm 1] using this) w
    simp only [List.range'_succ, Op.eqItems, Sem.run_bind, h1, h2, run_sameS hk hr d w, Result.andThen]
    cases r
    · simp
    · simpa using ih
theorem run_eqFields {d : Nat} {xs ys : List Value} : ∀ (fs : List Field) (n : Nat) {l : List FK} {b : Bool}, flatF P fs n = some l → sameF l (xs.drop n) (ys.drop n) = some b → ∀ (w : World), (Op.eqFields (d + 2) xs.toArray ys.toArray fs).run P w = .ok b w
  | [], n, l, b, hl, h, w => by
    simp only [flatF, Option.some.injEq] at hl; subst hl
    generalize xs.drop n = us at h
    generalize ys.drop n = vs at h
    unfold sameF at h
    split at h <;> first | (cases h; done) | contradiction | skip
    simp only [Option.some.injEq] at h; subst h; simp [Op.eqFields]
  | f :: fs, n, l, b, hl, h, w => by
    simp only [flatF] at hl
    split at hl
    · rename_i hf
      simp only [Option.bind_eq_some_iff, Option.map_eq_some_iff] at hl
      obtain ⟨⟨kk, m⟩, hk, r, hr, rfl⟩ := hl
      unfold fieldK at hk
      split at hk
      · rename_i na e hu
        split at hk
        · rename_i hsz
          simp only [Option.map_eq_some_iff, Prod.mk.injEq] at hk
          obtain ⟨k, hk, rfl, rfl⟩ := hk
          simp only [sameF, Option.bind_eq_some_iff, Option.map_eq_some_iff, List.drop_drop] at h
          obtain ⟨r1, h1, r2, h2, rfl⟩ := h
          have ih := run_eqFields (d := d) fs (n + na) hr h2 w
          have hagg : aggO P f.type = some (some na) := by
            obtain ⟨i, hi, hin⟩ := szO_info hsz.2
            simp [aggO, hu, hi, hin]
          have pt : ∀ cs : List Value, na ≤ (cs.drop n).length → (Go.part f.type cs.toArray f.offset).run P w = .ok (.agg ((cs.drop n).take na).toArray) w := by
            intro cs hc
            obtain ⟨g1, g2⟩ := run_isAgg_some hagg w
            simp only [Go.part, Sem.run_bind, g1, Result.andThen, if_true, run_szO g2, hf.1]
            have : (cs.toArray.extract n (n + na)) = ((cs.drop n).take na).toArray := by simp [List.extract_toArray, List.extract_eq_take_drop]
            rw [this]; rfl
          have len : ∀ (na : Nat) (us vs : List Value) (b : Bool), sameA k na us vs = some b → us.length = na ∧ vs.length = na := by
            intro na
            induction na with
            | zero => intro us vs b h; unfold sameA at h; split at h <;> first | (cases h; done) | contradiction | exact ⟨rfl, rfl⟩
            | succ na ih =>
              intro us vs b h
              cases us with
              | nil => simp [sameA] at h
              | cons u us =>
              cases vs with
              | nil => simp [sameA] at h
              | cons v vs =>
              simp only [sameA, Option.bind_eq_some_iff, Option.map_eq_some_iff] at h
              obtain ⟨r, _, s, hs, _⟩ := h
              have := ih _ _ _ hs
              simp [this.1, this.2]
          have hl := len _ _ _ _ h1
          simp only [List.length_take] at hl
          obtain ⟨i, hi, hin⟩ := szO_info hsz.1
          have he : (Op.equalIn (d + 2) f.type (.agg ((xs.drop n).take na).toArray) (.agg ((ys.drop n).take na).toArray)).run P w = .ok r1 w := by
            have hco : P.cellsOf e = 1 := by simp [Program.cellsOf, hi, hin]
            rw [run_equalIn_array (P := P) (w := w) (d + 1) (i := i) _ _ hu hi, hco, List.range_eq_range']
            exact run_eqItems hk d na 0 h1 (fun i hi => by simp) (fun i hi => by simp) w
          simp only [Op.eqFields, hf.2, ne_eq, not_false_eq_true, if_true, Sem.run_bind, pt xs (by omega), pt ys (by omega), he, Result.andThen]
          cases r1
          · simp
          · simpa using ih
        · cases hk
      · split at hk
        · simp only [Option.map_eq_some_iff, Prod.mk.injEq] at hk
          obtain ⟨k, hk, rfl, rfl⟩ := hk
          cases hxs : xs.drop n with
          | nil => rw [hxs] at h; simp [sameF] at h
          | cons x xr =>
          cases hys : ys.drop n with
          | nil => rw [hxs, hys] at h; simp [sameF] at h
          | cons y yr =>
          rw [hxs, hys] at h
          simp only [sameF, Option.bind_eq_some_iff, Option.map_eq_some_iff] at h
          obtain ⟨r1, h1, r2, h2, rfl⟩ := h
          have e1 : xs.drop (n + 1) = xr := by rw [← List.drop_drop, hxs]; rfl
          have e2 : ys.drop (n + 1) = yr := by rw [← List.drop_drop, hys]; rfl
          have h2' : sameF r (xs.drop (n + 1)) (ys.drop (n + 1)) = some r2 := by rw [e1, e2]; exact h2
          have ih := run_eqFields (d := d) fs (n + 1) hr h2' w
          have p1 := run_part_scal hk (cs := xs) (off := n) (v := x) (by have := congrArg (fun l => l[0]?) hxs; simpa using this) w
          have p2 := run_part_scal hk (cs := ys) (off := n) (v := y) (by have := congrArg (fun l => l[0]?) hys; simpa using this) w
          simp only [Op.eqFields, hf.2, ne_eq, not_false_eq_true, if_true, Sem.run_bind, hf.1, p1, p2, run_sameS hk h1 (d + 1) w, Result.andThen]
          cases r1
          · simp
          · simpa using ih
        · cases hk
    · cases hl
theorem run_equal_flat {t : TypeId} {l : List FK} (hl : flatO P t = some l) {xs ys : List Value} {b : Bool} (h : sameF l xs ys = some b) (d : Nat) (w : World) :
    (Op.equalIn (d + 2 + 1) t (.agg xs.toArray) (.agg ys.toArray)).run P w = .ok b w := by
  unfold flatO at hl
  split at hl
  · rename_i fs hu
    split at hl
    · rename_i hg
      have hf : P.fieldsOf t = fs := by simp [Program.fieldsOf, hu]
      rw [run_equalIn_struct (P := P) w (d + 2) t xs.toArray ys.toArray (by rw [hf]; exact hu) hg.1, hf]
      exact run_eqFields fs.toList 0 hl h w
    · cases hl
  · cases hl
theorem sameS_eq {k : SK} {x y x' y' : Value} {b : Bool} (h : sameS k x y = some b) (hx : VR ι x x') (hy : VR ι y y') : x' = x ∧ y' = y := by
  unfold sameS at h
  split at h <;> first | (cases h; done) | skip
  · exact ⟨hx.int_inv, hy.int_inv⟩
  · exact ⟨hx.string_inv, hy.string_inv⟩
  · exact ⟨hx.bool_inv, hy.bool_inv⟩
theorem sameA_eq {k : SK} : ∀ {n : Nat} {xs ys xs' ys' : List Value} {b : Bool}, sameA k n xs ys = some b → VRs ι xs xs' → VRs ι ys ys' → xs' = xs ∧ ys' = ys
  | 0, [], [], _, _, _, _, hx, hy => by cases hx; cases hy; exact ⟨rfl, rfl⟩
  | n + 1, x :: xs, y :: ys, _, _, b, h, hx, hy => by
    cases hx with | cons hx1 hx2 => cases hy with | cons hy1 hy2 =>
    simp only [sameA, Option.bind_eq_some_iff, Option.map_eq_some_iff] at h
    obtain ⟨c, hc, d, hd, _⟩ := h
    obtain ⟨rfl, rfl⟩ := sameS_eq hc hx1 hy1
    obtain ⟨rfl, rfl⟩ := sameA_eq hd hx2 hy2
    exact ⟨rfl, rfl⟩
  | 0, _ :: _, _, _, _, _, h, _, _ => by simp [sameA] at h
  | 0, [], _ :: _, _, _, _, h, _, _ => by simp [sameA] at h
  | n + 1, [], _, _, _, _, h, _, _ => by simp [sameA] at h
  | n + 1, _ :: _, [], _, _, _, h, _, _ => by simp [sameA] at h
theorem sameF_eq : ∀ {l : List FK} {xs ys xs' ys' : List Value} {b : Bool}, sameF l xs ys = some b → VRs ι xs xs' → VRs ι ys ys' → xs' = xs ∧ ys' = ys
  | [], [], [], _, _, _, _, hx, hy => by cases hx; cases hy; exact ⟨rfl, rfl⟩
  | .one k :: r, x :: xs, y :: ys, _, _, b, h, hx, hy => by
    cases hx with | cons hx1 hx2 => cases hy with | cons hy1 hy2 =>
    simp only [sameF, Option.bind_eq_some_iff, Option.map_eq_some_iff] at h
    obtain ⟨c, hc, d, hd, _⟩ := h
    obtain ⟨rfl, rfl⟩ := sameS_eq hc hx1 hy1
    obtain ⟨rfl, rfl⟩ := sameF_eq hd hx2 hy2
    exact ⟨rfl, rfl⟩
  | .arr n k :: r, xs, ys, xs', ys', b, h, hx, hy => by
    simp only [sameF, Option.bind_eq_some_iff, Option.map_eq_some_iff] at h
    obtain ⟨c, hc, d, hd, _⟩ := h
    obtain ⟨e1, e2⟩ := sameA_eq hc (hx.take n) (hy.take n)
    obtain ⟨e3, e4⟩ := sameF_eq hd (hx.drop n) (hy.drop n)
    exact ⟨by rw [← List.take_append_drop n xs', e1, e3, List.take_append_drop], by rw [← List.take_append_drop n ys', e2, e4, List.take_append_drop]⟩
  | [], _ :: _, _, _, _, _, h, _, _ => by simp [sameF] at h
  | [], [], _ :: _, _, _, _, h, _, _ => by simp [sameF] at h
  | .one k :: r, [], _, _, _, _, h, _, _ => by simp [sameF] at h
  | .one k :: r, _ :: _, [], _, _, _, h, _, _ => by simp [sameF] at h
theorem sameF_vr {l : List FK} {xs ys xs' ys' : List Value} {b : Bool} (h : sameF l xs ys = some b) (hx : VRs ι xs xs') (hy : VRs ι ys ys') : sameF l xs' ys' = some b := by
  obtain ⟨rfl, rfl⟩ := sameF_eq h hx hy; exact h
set_option maxHeartbeats 1000000 in
theorem run_eqAny {t : TypeId} {c : Bool} {x y x' y' : Value} {b : Bool} (h : eqAny (eqK P t c) x y = some b) (hx : VR ι x x') (hy : VR ι y y') (w : World) : (Op.equal t x' y').run P w = .ok b w := by
  rw [equal_unfold]
  have hD : ∃ e, 9999 = e + 2 := ⟨9997, rfl⟩
  generalize 9999 = d at hD ⊢
  unfold eqK at h
  split at h
  · rename_i hu
    unfold eqAny at h; split at h <;> try contradiction
    simp only [Option.some.injEq] at h; subst h
    rw [hx.bool_inv, hy.bool_inv]
    (simp only [Op.equalIn, Sem.run_bind, run_underlying hu, Result.andThen]; rfl)
  · rename_i e hu
    unfold eqAny at h; split at h <;> try contradiction
    · simp only [Option.some.injEq] at h; subst h
      cases hx
      cases hy <;> (simp only [Op.equalIn, Sem.run_bind, run_underlying hu, Result.andThen]; rfl)
    · simp only [Option.some.injEq] at h; subst h
      cases hx; cases hy
      (simp only [Op.equalIn, Sem.run_bind, run_underlying hu, Result.andThen]; rfl)
  · rename_i e hu
    unfold eqAny at h; split at h <;> try contradiction
    · simp only [Option.some.injEq] at h; subst h
      cases hx
      cases hy <;> (simp only [Op.equalIn, Sem.run_bind, run_underlying hu, Result.andThen]; rfl)
    · simp only [Option.some.injEq] at h; subst h
      cases hy
      cases hx <;> (simp only [Op.equalIn, Sem.run_bind, run_underlying hu, Result.andThen]; rfl)
  · rename_i k e hu
    unfold eqAny at h; split at h <;> try contradiction
    · simp only [Option.some.injEq] at h; subst h
      cases hx
      cases hy <;> (simp only [Op.equalIn, Sem.run_bind, run_underlying hu, Result.andThen]; rfl)
    · simp only [Option.some.injEq] at h; subst h
      cases hx; cases hy
      (simp only [Op.equalIn, Sem.run_bind, run_underlying hu, Result.andThen]; rfl)
  · rename_i a e v hu
    unfold eqAny at h; split at h <;> try contradiction
    · simp only [Option.some.injEq] at h; subst h
      cases hx; cases hy
      (simp only [Op.equalIn, Sem.run_bind, run_underlying hu, Result.andThen]; rfl)
    · simp only [Option.some.injEq] at h; subst h
      cases hx
      cases hy <;> (simp only [Op.equalIn, Sem.run_bind, run_underlying hu, Result.andThen]; rfl)
    · simp only [Option.some.injEq] at h; subst h
      cases hy
      cases hx <;> (simp only [Op.equalIn, Sem.run_bind, run_underlying hu, Result.andThen]; rfl)
  · rename_i ms hu
    unfold eqAny at h; split at h <;> try contradiction
    · simp only [Option.some.injEq] at h; subst h
      cases hx; cases hy
      (simp only [Op.equalIn, Sem.run_bind, run_underlying hu, Result.andThen]; rfl)
    · simp only [Option.some.injEq] at h; subst h
      cases hx; cases hy
      (simp only [Op.equalIn, Sem.run_bind, run_underlying hu, Result.andThen]; rfl)
    · simp only [Option.some.injEq] at h; subst h
      cases hx; cases hy
      (simp only [Op.equalIn, Sem.run_bind, run_underlying hu, Result.andThen]; rfl)
  · split at h
    · rename_i l hl
      have : ∃ xs ys, x = .agg xs ∧ y = .agg ys ∧ sameF l xs.toList ys.toList = some b := by
        cases x <;> cases y <;> first | (simp [eqAny] at h; done) | exact ⟨_, _, rfl, rfl, h⟩
      obtain ⟨xs, ys, rfl, rfl, h⟩ := this
      obtain ⟨xs, rfl, hxs⟩ := hx.agg_inv
      obtain ⟨ys, rfl, hys⟩ := hy.agg_inv
      obtain ⟨e, rfl⟩ := hD
      exact run_equal_flat hl (sameF_vr h hxs hys) e w
    · exfalso; cases x <;> cases y <;> simp [eqAny] at h
  · exfalso; cases x <;> cases y <;> simp [eqAny] at h
end Go.L
