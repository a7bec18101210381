/- THE PROGRAM's DATA, and small laws on whole numbers. -/
import Derived.Test.YtafbiejbnbocoaaDoorV5
import Derived.Laws.Strings
set_option linter.unusedVariables false
set_option linter.unusedSimpArgs false
namespace Go.L
open Go
structure Hid (p : Prop) : Prop where
  out : p
structure Task where
  name : ByteArray
  C : Int
  T : Int
  D : Int
  J : Int
  Q : Int
  P : Int
instance : Inhabited Task := ⟨⟨ByteArray.empty, 0, 0, 0, 0, 0, 0⟩⟩
def encT (t : Task) : List Value := [.string t.name, .int .i64 t.C, .int .i64 t.T, .int .i64 t.D, .int .i64 t.J, .int .i64 t.Q, .int .i64 t.P]
theorem flatT : Flat encT := fun _ => rfl
structure Job where
  task : Int
  arrive : Int
  release : Int
  work : Int
  cuts : List Int
instance : Inhabited Job := ⟨⟨0, 0, 0, 0, []⟩⟩
def hdJ (j : Job) : List Value := [.int .i64 j.task, .int .i64 j.arrive, .int .i64 j.release, .int .i64 j.work]
structure Raw where
  task : Int
  gap : Int
  late : Int
  work : Int
  cuts : List Int
instance : Inhabited Raw := ⟨⟨0, 0, 0, 0, []⟩⟩
def hdR (r : Raw) : List Value := [.int .i64 r.task, .int .i64 r.gap, .int .i64 r.late, .int .i64 r.work]
abbrev RdJ (h : Heap) (v : Value) (l : List Job) : Prop := RdN 5 hdJ Job.cuts h v l
abbrev RdR (h : Heap) (v : Value) (l : List Raw) : Prop := RdN 5 hdR Raw.cuts h v l
structure Span where
  job : Int
  from' : Int
  to' : Int
instance : Inhabited Span := ⟨⟨0, 0, 0⟩⟩
def encS (s : Span) : List Value := [.int .i64 s.job, .int .i64 s.from', .int .i64 s.to']
theorem flatS : Flat encS := fun _ => rfl
structure Spec where
  C : Int
  D : Int
  J : Int
  Q : Int
  T : Int
instance : Inhabited Spec := ⟨⟨0, 0, 0, 0, 0⟩⟩
def encSp (s : Spec) : List Value := [.int .i64 s.C, .int .i64 s.D, .int .i64 s.J, .int .i64 s.Q, .int .i64 s.T]
theorem flatSp : Flat encSp := fun _ => rfl
theorem RdN.pre {α : Type} {sz : Nat} {hd : α → List Value} {cs : α → List Int} {h h' : Heap} {v : Value} {l : List α} (r : RdN sz hd cs h v l) (p : Pre h h') : RdN sz hd cs h' v l :=
  let ⟨lv, h1, h2, h3⟩ := r.is; ⟨lv, h1, h2.pre p, fun q hq => (h3 q hq).pre p⟩
theorem RdN.few {α : Type} {sz : Nat} {hd : α → List Value} {cs : α → List Int} {h : Heap} {v : Value} {l : List α} (r : RdN sz hd cs h v l) : l.length < 1152921504606846976 := by
  obtain ⟨lv, rfl, h2, _⟩ := r.is; simpa using h2.few
theorem Rd.keep {α : Type} {sz : Nat} {enc : α → List Value} {h h' : Heap} {v : Value} {l : List α} (r : Rd sz enc h v l) (hk : v ≠ .slice none 0 0 → h'[blk v]? = h[blk v]?) : Rd sz enc h' v l := by
  refine ⟨r.size, Row.few r, ?_⟩
  rcases r.is with ⟨rfl, e⟩ | ⟨b, off, sp, cap, c, ro, rfl, h1, h2⟩
  · exact .inl ⟨rfl, e⟩
  · refine .inr ⟨b, off, sp, cap, c, ro, rfl, ?_, h2⟩
    have := hk (by intro e; cases e)
    simp only [blk] at this
    rw [this]; exact h1
theorem Rd.lt' {α : Type} {sz : Nat} {enc : α → List Value} {h : Heap} {v : Value} {l : List α} (r : Rd sz enc h v l) (hn : v ≠ .slice none 0 0) : blk v < h.length := by
  rcases r.is with ⟨rfl, e⟩ | ⟨b, off, sp, cap, c, ro, rfl, h1, h2⟩
  · exact absurd rfl hn
  · exact (List.getElem?_eq_some_iff.1 h1).1
theorem Rd.one {α : Type} {sz : Nat} {enc : α → List Value} {h : Heap} {v : Value} {l : List α} (r : Rd sz enc h v l) : oneCell v = true := by
  rcases r.is with ⟨rfl, e⟩ | ⟨b, off, sp, cap, c, ro, rfl, h1, h2⟩ <;> rfl
theorem Rd.cv {α : Type} {sz : Nat} {enc : α → List Value} {h : Heap} {v : Value} {l : List α} (r : Rd sz enc h v l) : cellsV v = [v] := cellsV_one r.one
theorem Pre.le_add {h h' : Heap} (p : Pre h h') (k : Nat) : h.length ≤ h'.length + k := Nat.le_trans p.le (Nat.le_add_right _ _)
theorem Rd.of_nil {α : Type} {sz : Nat} {enc : α → List Value} {h : Heap} : Rd sz enc h (.slice none 0 0) ([] : List α) := ⟨by simp, by simp, .inl ⟨rfl, rfl⟩⟩
theorem Rd.lit {α : Type} {sz : Nat} {enc : α → List Value} {h : Heap} {b : Nat} {sp : Option Nat} {cap : Nat} {c : List Value} {ro : Bool} (l : List α) (hb : h[b]? = some (.cells c ro)) (hc : c = (l.map enc).flatten) (hs : ∀ a, (enc a).length = sz) (hf : l.length < 1152921504606846976) (hcap : l.length ≤ cap) (hsp : sp = none ∨ sp = some sz) :
    Rd sz enc h (.slice (some ⟨b, 0, sp⟩) l.length cap) l := by
  have hs' : ∀ e ∈ l.map enc, e.length = sz := fun e he => by obtain ⟨a, _, rfl⟩ := List.mem_map.1 he; exact hs a
  refine ⟨hs', by simpa using hf, .inr ⟨b, 0, sp, cap, c, ro, by simp, hb, ?_, ?_, by simpa using hcap, hsp⟩⟩
  · rw [hc, flat_len hs']; omega
  · rw [List.drop_zero, hc, ← flat_len hs', List.take_length]
def i64in (x : Int) : Prop := -9223372036854775808 ≤ x ∧ x < 9223372036854775808
theorem tmod_bounds (x n : Int) (hn : 0 < n) : -n < x.tmod n ∧ x.tmod n < n := by
  constructor
  · rcases Int.le_total 0 x with h | h
    · have := Int.tmod_nonneg n h; omega
    · have e : x.tmod n = - ((-x).tmod n) := by rw [Int.neg_tmod, Int.neg_neg]
      have := Int.tmod_lt_of_pos (-x) hn; omega
  · exact Int.tmod_lt_of_pos x hn
theorem rest_eq (x n : Int) (hn : 0 < n) : (x.tmod n + n).tmod n = x % n := by
  have hb := tmod_bounds x n hn
  rw [Int.tmod_eq_emod_of_nonneg (by omega)]
  show (x.tmod n + n) % n = x % n
  rw [Int.add_emod_right]
  rcases Int.le_total 0 x with h | h
  · rw [Int.tmod_eq_emod_of_nonneg h, Int.emod_emod_of_dvd _ (Int.dvd_refl n)]
  · have e : x.tmod n = - ((-x) % n) := by
      have := Int.tmod_eq_emod_of_nonneg (a := -x) (b := n) (by omega)
      rw [Int.neg_tmod] at this; omega
    rw [e]
    have h1 : -x % n = (-x) % n := rfl
    have h2 : (- ((-x) % n)) % n = (- (-x)) % n := by
      rw [Int.neg_emod_eq_sub_emod, Int.neg_emod_eq_sub_emod (a := -x)]
      rw [Int.sub_emod n ((-x) % n), Int.emod_emod_of_dvd _ (Int.dvd_refl n), ← Int.sub_emod]
    rw [h2, Int.neg_neg]
theorem emod_in (x n : Int) (hn : 0 < n) : 0 ≤ x % n ∧ x % n < n := ⟨Int.emod_nonneg x (by omega), Int.emod_lt_of_pos x hn⟩
theorem atI_mem {α : Type} [Inhabited α] {l : List α} {i : Int} (h1 : 0 ≤ i) (h2 : i < l.length) : atI l i ∈ l := by
  unfold atI; rw [List.getD_eq_getElem?_getD, List.getElem?_eq_getElem (by omega)]; exact List.getElem_mem _
theorem atI_map' {α β : Type} [Inhabited α] [Inhabited β] (f : α → β) (l : List α) (i : Int) (h1 : 0 ≤ i) (h2 : i < l.length) : f (atI l i) = atI (l.map f) i := by
  unfold atI
  rw [List.getD_eq_getElem?_getD, List.getD_eq_getElem?_getD, List.getElem?_map, List.getElem?_eq_getElem (by omega)]; rfl
theorem atI_nat {α : Type} [Inhabited α] {l : List α} {n : Nat} (h : n < l.length) : atI l (n : Int) = l[n] := by
  unfold atI; rw [List.getD_eq_getElem?_getD, show ((n : Int)).toNat = n by omega, List.getElem?_eq_getElem h]; rfl
theorem take_snoc {α : Type} [Inhabited α] {l : List α} {n : Nat} (h : n < l.length) : l.take (n + 1) = l.take n ++ [atI l (n : Int)] := by
  rw [List.take_succ_eq_append_getElem h, atI_nat h]
theorem tdiv_in {x n : Int} (hn : 0 < n) (hx : i64in x) : i64in (x.tdiv n) := by
  unfold i64in at *
  rcases Int.le_total 0 x with h | h
  · have h1 := Int.tdiv_nonneg h (Int.le_of_lt hn)
    have h2 : x.tdiv n ≤ x := by rw [Int.tdiv_eq_ediv_of_nonneg h]; exact Int.ediv_le_self n h
    omega
  · have e : x.tdiv n = - ((-x).tdiv n) := by rw [Int.neg_tdiv, Int.neg_neg]
    have h1 := Int.tdiv_nonneg (show 0 ≤ -x by omega) (Int.le_of_lt hn)
    have h2 : (-x).tdiv n ≤ -x := by rw [Int.tdiv_eq_ediv_of_nonneg (by omega)]; exact Int.ediv_le_self n (by omega)
    omega
theorem dnot {p : Prop} [Decidable p] : (!(decide p)) = decide (¬ p) := by by_cases h : p <;> simp [h]
def ints (l : List Int) : List Value := l.map (Value.int .i64)
theorem ints_len (l : List Int) : (ints l).length = l.length := by simp [ints]
theorem ints_flat (l : List Int) : ints l = (l.map encI).flatten := by
  induction l with
  | nil => rfl
  | cons x r ih => simp only [ints, encI, List.map_cons, List.flatten_cons, List.cons_append, List.nil_append] at ih ⊢; rw [← ih]
def icells (l : List Int) : LObj := .cells (ints l) false
theorem rd_ints {h : Heap} {b : Nat} {l : List Int} {n cap : Nat} (hb : h[b]? = some (icells l)) (hn : n = l.length) (hf : l.length < 1152921504606846976) (hc : l.length ≤ cap) : Rd 1 encI h (.slice (some ⟨b, 0, none⟩) n cap) l := by
  subst hn; exact Rd.lit l hb (ints_flat l) (fun _ => rfl) hf hc (.inl rfl)
theorem ints_ld {l : List Int} {i : Int} (h1 : 0 ≤ i) (h2 : i < l.length) : ldO (some (icells l)) (i.toNat * 1) none = some (.int .i64 (atI l i)) := by
  unfold icells
  rw [ldO_cells, part_none]
  unfold ints atI
  rw [Nat.mul_one, List.getElem?_map, List.getD_eq_getElem?_getD, List.getElem?_eq_getElem (by omega)]; rfl
theorem ints_lds {l : List Int} {i x : Int} (h1 : 0 ≤ i) (h2 : i < l.length) : ldO (some (icells (l.set i.toNat x))) (i.toNat * 1) none = some (.int .i64 x) := by
  rw [ints_ld h1 (by rw [List.length_set]; exact h2)]
  unfold atI
  rw [List.getD_eq_getElem?_getD, List.getElem?_set_self (by omega)]; rfl
theorem ints_st {h : Heap} {b : Nat} {l : List Int} {i x : Int} (h1 : 0 ≤ i) (h2 : i < l.length) : stO 1 h b (i.toNat * 1) [.int .i64 x] (some (icells l)) = some (h.set b (icells (l.set i.toNat x)), [b]) := by
  unfold icells
  rw [stO_cells, if_pos ⟨rfl, by rw [ints_len]; omega, rfl⟩, Nat.mul_one]
  unfold ints
  rw [List.map_set]; rfl
theorem msl_ints {bytes : Nat} {n : Int} (h1 : 0 ≤ n) (h2 : bytes * n ≤ 140737488355328) (h3 : n < 9223372036854775808) : mslV [.int .i64 0] bytes (.int .i64 n) (.int .i64 n) = some (icells (List.replicate n.toNat 0), fun b => .slice (some ⟨b, 0, none⟩) n.toNat n.toNat) := by
  have e : (List.replicate n.toNat [Value.int .i64 0]).flatten = ints (List.replicate n.toNat 0) := by
    rw [ints_flat, List.map_replicate]; rfl
  have e2 : (ints (List.replicate n.toNat 0)).all oneCell = true := by
    rw [List.all_eq_true]; intro v hv; unfold ints at hv; obtain ⟨x, _, rfl⟩ := List.mem_map.1 hv; rfl
  simp only [mslV]
  rw [if_pos ⟨h1, Int.le_refl _, h2, h3⟩, e, newCells, if_pos e2]; rfl
theorem hadd {h : Heap} {a b : Nat} : h.length + a + b = h.length + (a + b) := Nat.add_assoc _ _ _
theorem gset {h : Heap} {b : Nat} {o : LObj} (hb : b < h.length) : (h.set b o)[b]? = some o := List.getElem?_set_self hb
theorem WO.cut {W : Nat → Prop} {cf : CallT} {it : It} {sz : Nat} {fr : Fr} {h : Heap} {a b : C} {Q : Ex → Fr → Heap → Prop} (p : Fr → Heap → Prop) (ha : WO W (code cf it sz a fr h) (fun e fr' h' => e = .normal ∧ p fr' h')) (hb : ∀ fr' h', p fr' h' → WO W (code cf it sz b fr' h') Q) : WO W (code cf it sz (.seq a b) fr h) Q := by
  rw [co_seq]
  refine ha.mono (fun _ h => h) fun e f h ⟨he, hp⟩ => ?_
  subst he; exact hb f h hp
theorem foldl_inv {α β : Type} {f : β → α → β} (p : β → Prop) : ∀ {l : List α} {s : β}, (∀ s x, x ∈ l → p s → p (f s x)) → p s → p (l.foldl f s)
  | [], s, _, h => h
  | x :: r, s, hs, h => foldl_inv p (l := r) (fun s y hy => hs s y (by simp [hy])) (hs s x (by simp) h)
def lkO (q : EqK) (z k : Value) (ok : Bool) : Option LObj → Option Value
  | some (.map es) => if keyV q k then (find q k es).map fun r => match r with
    | some v => if ok then .tuple #[v, .bool true] else v
    | none => if ok then .tuple #[z, .bool false] else z else none
  | _ => none
theorem look_map {q : EqK} {z k : Value} {r : Nat} {ok : Bool} {h : Heap} : lookV q z (.map (some r)) k ok h = lkO q z k ok h[r]? := by
  simp only [lookV]
  by_cases hk : keyV q k = true
  · simp only [hk, if_true]
    cases h[r]? with
    | none => rfl
    | some o => cases o <;> simp only [lkO, hk, if_true, Option.map_none] <;> rfl
  · simp only [hk]
    cases h[r]? with
    | none => rfl
    | some o => cases o <;> simp [lkO, hk]
theorem lk_int {k : IntKind} {es : List (Value × Value)} (hk : IKeys k es) (z : Value) (n : Int) : lkO .int z (.int k n) false (some (.map es)) = some ((mapI k es n).getD z) := by
  simp only [lkO, key_int, if_true, find_int hk, Option.map_some]
  cases mapI k es n <;> rfl
def mpO (q : EqK) (k v : Value) (h : Heap) (r : Nat) : Option LObj → Option (Value × Heap × List Nat)
  | some (.map es) => if keyV q k then (putE q k v es).map fun es' => (undef, h.set r (.map es'), [r]) else none
  | _ => none
theorem mup_map {q : EqK} {k v : Value} {r : Nat} {h : Heap} : mupV q (.map (some r)) k v h = mpO q k v h r h[r]? := by
  simp only [mupV]
  cases h[r]? with
  | none => rfl
  | some o => cases o <;> rfl
theorem mp_int {k : IntKind} {n : Int} {v : Value} {es es' : List (Value × Value)} (h1 : putE .int (.int k n) v es = some es') (h : Heap) (r : Nat) : mpO .int (.int k n) v h r (some (.map es)) = some (undef, h.set r (.map es'), [r]) := by
  simp only [mpO, key_int, if_true, h1, Option.map_some]
theorem bin_sadd {q : EqK} {x y : ByteArray} (h : x.size + y.size < 9223372036854775808) : binOp .add q (.string x) (.string y) = some (.string (x ++ y)) := by
  simp only [binOp, strOp]
  rw [if_neg]; simp [IntKind.max, IntKind.bits, IntKind.signed]; omega
theorem b2s_slice {a : Option Addr} {n c : Nat} {h : Heap} : b2sV (.slice a n c) h = (cellsOf 1 (.slice a n c) h).bind fun p => (bytesOf p.2).map fun b => .string ⟨b.toArray⟩ := by
  simp only [b2sV]; cases cellsOf 1 (.slice a n c) h <;> rfl
theorem bytes_nil : bytesOf [] = some [] := rfl
theorem bytes_cons {n : Int} {r : List Value} : bytesOf (.int .u8 n :: r) = (bytesOf r).map (UInt8.ofNat n.toNat :: ·) := rfl
theorem slt_some {s : ByteArray} {k k' : IntKind} {a b : Int} (h1 : 0 ≤ a) (h2 : a ≤ b) (h3 : b ≤ s.size) : sltV (.string s) (some (.int k a)) (some (.int k' b)) = some (.string (s.extract a.toNat b.toNat)) := by
  simp only [sltV, boundV]
  rw [if_pos ⟨by omega, h3⟩, Option.bind_some, if_pos ⟨h1, by omega⟩, Option.bind_some]
def bs (s : ByteArray) : List UInt8 := s.data.toList
theorem bs_len (s : ByteArray) : (bs s).length = s.size := by simp [bs]
def byteAt (s : ByteArray) (j : Int) : UInt8 := (bs s).getD j.toNat 0
theorem ixt_at {s : ByteArray} {k : IntKind} {j : Int} (h1 : 0 ≤ j) (h2 : j < s.size) : ixtV (.string s) (.int k j) = some (.int .u8 ((byteAt s j).toNat : Int)) := by
  rw [ixt_some h1]
  have e : s[j.toNat]? = some (byteAt s j) := by
    have hlt : j.toNat < s.size := by omega
    rw [getElem?_pos s j.toNat hlt]
    unfold byteAt
    rw [List.getD_eq_getElem?_getD, List.getElem?_eq_getElem (by rw [bs_len]; exact hlt)]
    rfl
  rw [e]; rfl
theorem bs_eq {s t : ByteArray} : (s.toList == t.toList) = decide (bs s = bs t) := by
  rw [ByteArray.toList_eq s, ByteArray.toList_eq t, Bool.eq_iff_iff]
  simp only [beq_iff_eq, decide_eq_true_eq]; rfl
theorem bs_inj {s t : ByteArray} (h : bs s = bs t) : s = t := by
  unfold bs at h; exact congrArg ByteArray.mk (Array.toList_inj.1 h)
theorem wh_own {W : Nat → Prop} {m sz : Nat} {h : Heap} {v : Value} {L : List (List Value)} (o : Own m sz h v L) (hW : ∀ b, m ≤ b → W b) {i : Int} {fo : Nat} {x : Value} {Q : Heap → Prop} (h1 : 0 ≤ i) (h2 : i < L.length) (hf : fo < sz) (hx : oneCell x = true)
    (hq : ∀ h', Own m sz h' v (L.set i.toNat ((L.getD i.toNat []).set fo x)) → h'.length = h.length → (∀ b, b ≠ blk v → h'[b]? = h[b]?) → Q h') : WH W (stO 1 h (blk v) (ofs v + i.toNat * sz + fo) [x] h[blk v]?) Q := by
  cases o with
  | nil => simp at h2; omega
  | some hm hb hs hl hn =>
    rename_i b
    have hi : i.toNat < L.length := by omega
    have hlt : i.toNat * sz + fo < L.length * sz := by
      have := Nat.mul_le_mul_right sz (show i.toNat + 1 ≤ L.length by omega)
      rw [Nat.succ_mul] at this; omega
    have hc : [x].length = 1 ∧ 0 + i.toNat * sz + fo + 1 ≤ L.flatten.length ∧ [x].all oneCell = true := ⟨rfl, by rw [flat_len hs]; omega, by simp [hx]⟩
    refine ⟨h.set b (.cells (L.set i.toNat ((L.getD i.toNat []).set fo x)).flatten false), [b], ?_, fun y hy => by rw [List.mem_singleton.1 hy]; exact hW b hm, ?_⟩
    · simp only [blk, ofs, hb, stO_cells]
      rw [if_pos hc, setCells1, Nat.zero_add, flat_set hs _ _ _ hi hf]
    · have hlen : (L.set i.toNat ((L.getD i.toNat []).set fo x)).length = L.length := List.length_set ..
      have hb' : (h.set b (LObj.cells (L.set i.toNat ((L.getD i.toNat []).set fo x)).flatten false))[b]? = Option.some (LObj.cells (L.set i.toNat ((L.getD i.toNat []).set fo x)).flatten false) := by
        rw [List.getElem?_set_self (List.getElem?_eq_some_iff.1 hb).1]
      refine hq _ ?_ (by simp) (fun c hc => gets (Ne.symm hc))
      have := Own.some (m := m) (sz := sz) hm hb' (fun e he => ?_) (by rw [hlen]; exact hl) (by intro e; rw [e] at hlen; simp at hlen; omega)
      · rw [hlen] at this; exact this
      · rcases List.mem_or_eq_of_mem_set he with he | rfl
        · exact hs e he
        · rw [List.length_set]; exact hs _ (Row.getD_mem hi)
theorem wh_own0 {W : Nat → Prop} {m sz : Nat} {h : Heap} {v : Value} {L : List (List Value)} (o : Own m sz h v L) (hW : ∀ b, m ≤ b → W b) {i : Int} {x : Value} {Q : Heap → Prop} (h1 : 0 ≤ i) (h2 : i < L.length) (hf : 0 < sz) (hx : oneCell x = true)
    (hq : ∀ h', Own m sz h' v (L.set i.toNat ((L.getD i.toNat []).set 0 x)) → h'.length = h.length → (∀ b, b ≠ blk v → h'[b]? = h[b]?) → Q h') : WH W (stO 1 h (blk v) (ofs v + i.toNat * sz) [x] h[blk v]?) Q :=
  wh_own o hW (fo := 0) h1 h2 hf hx hq
theorem Own.less {m m' sz : Nat} {h : Heap} {v : Value} {L : List (List Value)} (o : Own m sz h v L) (hm : m' ≤ m) : Own m' sz h v L := by
  cases o with
  | nil => exact .nil
  | some h1 h2 h3 h4 h5 => exact .some (by omega) h2 h3 h4 h5
def OwnT {α : Type} (m sz : Nat) (enc : α → List Value) (h : Heap) (v : Value) (l : List α) : Prop := Own m sz h v (l.map enc)
namespace OwnT
variable {α : Type} {m sz : Nat} {enc : α → List Value} {h h' : Heap} {v : Value} {l : List α}
theorem nil : OwnT m sz enc h (.slice none 0 0) ([] : List α) := Own.nil
theorem rd (o : OwnT m sz enc h v l) : Rd sz enc h v l := Own.row o
theorem less (o : OwnT m sz enc h v l) {m' : Nat} (hm : m' ≤ m) : OwnT m' sz enc h v l := Own.less o hm
theorem pre (o : OwnT m sz enc h v l) (p : Pre h h') : OwnT m sz enc h' v l := Own.pre o p
theorem app (o : OwnT m sz enc h v l) (x : Heap) : OwnT m sz enc (h ++ x) v l := Own.app o x
theorem keep (o : OwnT m sz enc h v l) (hk : l ≠ [] → h'[blk v]? = h[blk v]?) : OwnT m sz enc h' v l := Own.keep o fun hn => hk fun e => hn (by rw [e]; rfl)
theorem ge (o : OwnT m sz enc h v l) (hn : l ≠ []) : m ≤ blk v := Own.ge o (by simpa using hn)
theorem lt (o : OwnT m sz enc h v l) (hn : l ≠ []) : blk v < h.length := Own.lt o (by simpa using hn)
end OwnT
theorem OwnT.ne {α : Type} {m sz : Nat} {enc : α → List Value} {h : Heap} {v : Value} {l : List α} (o : OwnT m sz enc h v l) (hv : v ≠ .slice none 0 0) : l ≠ [] := by
  intro e
  subst e
  unfold OwnT at o
  generalize hL : List.map enc [] = L at o
  cases o with
  | nil => exact hv rfl
  | some h1 h2 h3 h4 h5 => exact h5 (by simpa using hL.symm)
theorem wx_app1 {α : Type} {W : Nat → Prop} {m sz : Nat} {enc : α → List Value} {h0 h : Heap} {v : Value} {l : List α} (o : OwnT m sz enc h v l) (hp : Pre h0 h) (hm : h0.length ≤ m) (hmh : m ≤ h.length) (hW : ∀ b, m ≤ b → W b) {bytes : Nat} {x : Value} (a : α) {Q : Value → Heap → Prop}
    (hx : cellsOf sz x h = some (1, enc a)) (hs : (enc a).length = sz) (hsz : sz ≠ 0) (hby : bytes ≠ 0) (hb : (l.length + 1) * bytes ≤ 140737488355328)
    (hq : ∀ v' h', OwnT m sz enc h' v' (l ++ [a]) → Pre h0 h' → blk v' = h.length → h'.length = h.length + 1 → (∀ b, b < h.length → (l ≠ [] → b ≠ blk v) → h'[b]? = h[b]?) → Q v' h') : WX W (appendV sz bytes v x h) Q :=
  wx_append o hmh hW [enc a] (by simpa using hx) (by simp) (by simpa using hs) hsz hby (by simpa using hb) fun v' h' h1 h2 h3 h4 => hq v' h' (by unfold OwnT; simpa using h1) (hp.of_keep hm o h4) h2 h3 fun b hb hn => h4 b hb fun hl => hn fun e => hl (by simp [e])
theorem OwnT.other {α β : Type} {m m' sz sz' : Nat} {enc : α → List Value} {enc' : β → List Value} {h h' : Heap} {v u : Value} {l : List α} {k : List β} (o : OwnT m sz enc h v l) (hne : l ≠ [] → k ≠ [] → blk v ≠ blk u) (hk : ∀ b, b < h.length → (k ≠ [] → b ≠ blk u) → h'[b]? = h[b]?) : OwnT m sz enc h' v l :=
  o.keep fun hn => hk _ (o.lt hn) (hne hn)
theorem map_set' {α β : Type} (f : α → β) (l : List α) (n : Nat) (a : α) : (l.map f).set n (f a) = (l.set n a).map f := by rw [List.map_set]
theorem wh_ownT {α : Type} [Inhabited α] {W : Nat → Prop} {m sz : Nat} {enc : α → List Value} {h : Heap} {v : Value} {l : List α} (o : OwnT m sz enc h v l) (hW : ∀ b, m ≤ b → W b) {i : Int} {fo : Nat} {x : Value} {Q : Heap → Prop} (a : α) (h1 : 0 ≤ i) (h2 : i < l.length) (hf : fo < sz) (hx : oneCell x = true) (ha : (enc (atI l i)).set fo x = enc a)
    (hq : ∀ h', OwnT m sz enc h' v (l.set i.toNat a) → h'.length = h.length → (∀ b, b ≠ blk v → h'[b]? = h[b]?) → Q h') : WH W (stO 1 h (blk v) (ofs v + i.toNat * sz + fo) [x] h[blk v]?) Q := by
  refine wh_own o hW h1 (by simpa using h2) hf hx fun h' hh => hq h' ?_
  rw [atI_map enc l i h1 h2, ha, map_set'] at hh
  exact hh
theorem wh_ownT0 {α : Type} [Inhabited α] {W : Nat → Prop} {m sz : Nat} {enc : α → List Value} {h : Heap} {v : Value} {l : List α} (o : OwnT m sz enc h v l) (hW : ∀ b, m ≤ b → W b) {i : Int} {x : Value} {Q : Heap → Prop} (a : α) (h1 : 0 ≤ i) (h2 : i < l.length) (hf : 0 < sz) (hx : oneCell x = true) (ha : (enc (atI l i)).set 0 x = enc a)
    (hq : ∀ h', OwnT m sz enc h' v (l.set i.toNat a) → h'.length = h.length → (∀ b, b ≠ blk v → h'[b]? = h[b]?) → Q h') : WH W (stO 1 h (blk v) (ofs v + i.toNat * sz) [x] h[blk v]?) Q :=
  wh_ownT o hW (fo := 0) a h1 h2 hf hx ha hq
end Go.L
