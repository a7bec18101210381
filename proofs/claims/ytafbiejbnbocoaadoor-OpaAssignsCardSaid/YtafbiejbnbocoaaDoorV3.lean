/- VALUES, CELLS, ROWS: how the rules' operations come out; what a slice reads as. -/
import Derived.Test.YtafbiejbnbocoaaDoorV2
set_option linter.unusedVariables false
set_option linter.unusedSimpArgs false
namespace Go.L
open Go
theorem ev_t {f : FF} {s : Nat} : ev f (.t s) = f s := rfl
theorem ev_c {f : FF} {v : Value} : ev f (.c v) = v := rfl
theorem ev_f {f : FF} {g : Nat} : ev f (.f g) = .func (.func g) #[] #[] := rfl
theorem upd_at {f : FF} {d s : Nat} {v : Value} : upd f d v s = if s = d then v else f s := rfl
theorem get_cons {k s : Nat} {v : Value} {r : Fr} : get ((k, v) :: r) s = if s = k then v else get r s := rfl
section
variable {q : EqK} {k k' : IntKind} {a b : Int}
theorem bin_add : binOp .add q (.int k a) (.int k b) = some (.int k (k.wrap (a + b))) := by simp [binOp, intOp]
theorem bin_sub : binOp .sub q (.int k a) (.int k b) = some (.int k (k.wrap (a - b))) := by simp [binOp, intOp]
theorem bin_mul : binOp .mul q (.int k a) (.int k b) = some (.int k (k.wrap (a * b))) := by simp [binOp, intOp]
theorem bin_quo (h : b ≠ 0) : binOp .quo q (.int k a) (.int k b) = some (.int k (k.wrap (a.tdiv b))) := by simp [binOp, intOp, h]
theorem bin_rem (h : b ≠ 0) : binOp .rem q (.int k a) (.int k b) = some (.int k (a.tmod b)) := by simp [binOp, intOp, h]
theorem bin_eql : binOp .eql q (.int k a) (.int k b) = some (.bool (decide (a = b))) := by simp [binOp, intOp]; rfl
theorem bin_neq : binOp .neq q (.int k a) (.int k b) = some (.bool (decide (¬ a = b))) := by
  simp only [binOp, intOp, if_true]; congr 2; by_cases h : a = b <;> simp [h]
theorem bin_lss : binOp .lss q (.int k a) (.int k b) = some (.bool (decide (a < b))) := by simp [binOp, intOp]
theorem bin_leq : binOp .leq q (.int k a) (.int k b) = some (.bool (decide (a ≤ b))) := by simp [binOp, intOp]
theorem bin_gtr : binOp .gtr q (.int k a) (.int k b) = some (.bool (decide (b < a))) := by simp [binOp, intOp]
theorem bin_geq : binOp .geq q (.int k a) (.int k b) = some (.bool (decide (b ≤ a))) := by simp [binOp, intOp]
theorem bin_shl (h : 0 ≤ b) : binOp .shl q (.int k a) (.int k' b) = some (.int k (k.wrap (a * 2 ^ (min b.toNat k.bits)))) := by simp [binOp, intOp]; omega
theorem bin_shr (h : 0 ≤ b) : binOp .shr q (.int k a) (.int k' b) = some (.int k (a.fdiv (2 ^ (min b.toNat k.bits)))) := by simp [binOp, intOp]; omega
theorem un_neg : unOp .neg (.int k a) = some (.int k (k.wrap (0 - a))) := rfl
theorem un_not {t : Bool} : unOp .not (.bool t) = some (.bool (!t)) := rfl
theorem bin_beq {x y : Bool} : binOp .eql .bool (.bool x) (.bool y) = some (.bool (x == y)) := rfl
theorem bin_bne {x y : Bool} : binOp .neq .bool (.bool x) (.bool y) = some (.bool (!(x == y))) := rfl
theorem bin_seq {x y : ByteArray} : binOp .eql q (.string x) (.string y) = some (.bool (x.toList == y.toList)) := rfl
theorem bin_sne {x y : ByteArray} : binOp .neq q (.string x) (.string y) = some (.bool (!(x.toList == y.toList))) := rfl
end
theorem wrap_i64 {x : Int} (h1 : -9223372036854775808 ≤ x) (h2 : x < 9223372036854775808) : IntKind.i64.wrap x = x := by
  simp [IntKind.wrap, IntKind.bits, IntKind.signed]; omega
theorem wrap_u64 {x : Int} (h1 : 0 ≤ x) (h2 : x < 18446744073709551616) : IntKind.u64.wrap x = x := by
  simp [IntKind.wrap, IntKind.bits, IntKind.signed]; omega
theorem wrap_u8 {x : Int} (h1 : 0 ≤ x) (h2 : x < 256) : IntKind.u8.wrap x = x := by
  simp [IntKind.wrap, IntKind.bits, IntKind.signed]; omega
theorem cvi_int {k k' : IntKind} {n : Int} : cviV k (.int k' n) = some (.int k (k.wrap n)) := rfl
theorem cvs_str {s : ByteArray} : cvsV (.string s) = some (.string s) := rfl
theorem pick_t {a b : Value} : pickV (.bool true) a b = some a := rfl
theorem pick_f {a b : Value} : pickV (.bool false) a b = some b := rfl
theorem cellsV_int {k : IntKind} {n : Int} : cellsV (.int k n) = [.int k n] := rfl
theorem cellsV_bool {b : Bool} : cellsV (.bool b) = [.bool b] := rfl
theorem cellsV_str {b : ByteArray} : cellsV (.string b) = [.string b] := rfl
theorem cellsV_ptr {b : Option Addr} : cellsV (.pointer b) = [.pointer b] := rfl
theorem cellsV_slice {b : Option Addr} {n c : Nat} : cellsV (.slice b n c) = [.slice b n c] := rfl
theorem cellsV_map {b : Option Nat} : cellsV (.map b) = [.map b] := rfl
theorem cellsV_func {g : Fn} {a b : Array Value} : cellsV (.func g a b) = [.func g a b] := rfl
theorem cellsV_agg {a : Array Value} : cellsV (.agg a) = a.toList := rfl
theorem one_int {k : IntKind} {n : Int} : oneCell (.int k n) = true := rfl
theorem one_bool {b : Bool} : oneCell (.bool b) = true := rfl
theorem one_str {b : ByteArray} : oneCell (.string b) = true := rfl
theorem one_ptr {b : Option Addr} : oneCell (.pointer b) = true := rfl
theorem one_slice {b : Option Addr} {n c : Nat} : oneCell (.slice b n c) = true := rfl
theorem one_map {b : Option Nat} : oneCell (.map b) = true := rfl
theorem one_func {g : Fn} {a b : Array Value} : oneCell (.func g a b) = true := rfl
theorem one_nilf : oneCell .nilFunc = true := rfl
theorem cellsV_nilf : cellsV .nilFunc = [.nilFunc] := rfl
theorem cellsV_one {v : Value} (h : oneCell v = true) : cellsV v = [v] := by cases v <;> first | rfl | cases h
theorem fillV_nil {c : List Value} : fillV [] c = some c := rfl
theorem fillV_cons {o n : Nat} {x : Value} {r : List (Nat × Nat × Value)} {c : List Value} : fillV ((o, n, x) :: r) c = if (cellsV x).length = n ∧ o + n ≤ c.length ∧ (cellsV x).all oneCell then fillV r (setCells c o (cellsV x)) else none := rfl
theorem setCells_nil {c : List Value} {o : Nat} : setCells c o [] = c := rfl
theorem setCells_cons {c : List Value} {o : Nat} {v : Value} {r : List Value} : setCells c o (v :: r) = setCells (c.set o v) (o + 1) r := rfl
def ldO : Option LObj → Nat → Option Nat → Option Value
  | some (.cells c _), off, agg => part c off agg
  | _, _, _ => none
theorem load_ptr {b off : Nat} {sp : Option Nat} {agg : Option Nat} {h : Heap} : loadV agg (.pointer (some ⟨b, off, sp⟩)) h = ldO h[b]? off agg := by
  simp only [loadV]; cases h[b]? with
  | none => rfl
  | some o => cases o <;> rfl
theorem ldO_cells {c : List Value} {ro : Bool} {off : Nat} {agg : Option Nat} : ldO (some (.cells c ro)) off agg = part c off agg := rfl
theorem part_none {c : List Value} {off : Nat} : part c off none = c[off]? := rfl
theorem part_some {c : List Value} {off n : Nat} : part c off (some n) = if off + n ≤ c.length then some (.agg ((c.drop off).take n).toArray) else none := rfl
def stO (n : Nat) (h : Heap) (b off : Nat) (cs : List Value) : Option LObj → Option (Heap × List Nat)
  | some (.cells c false) => if cs.length = n ∧ off + n ≤ c.length ∧ cs.all oneCell then some (h.set b (.cells (setCells c off cs) false), [b]) else none
  | _ => none
theorem store_ptr {n b off : Nat} {sp : Option Nat} {v : Value} {h : Heap} : storeV n (.pointer (some ⟨b, off, sp⟩)) v h = stO n h b off (cellsV v) h[b]? := by
  simp only [storeV]; cases h[b]? with
  | none => rfl
  | some o => cases o with
    | cells c ro => cases ro <;> rfl
    | map _ => rfl
    | loop _ => rfl
    | dead => rfl
theorem stO_cells {n b off : Nat} {h : Heap} {cs c : List Value} : stO n h b off cs (some (.cells c false)) = if cs.length = n ∧ off + n ≤ c.length ∧ cs.all oneCell then some (h.set b (.cells (setCells c off cs) false), [b]) else none := rfl
theorem fld_ptr {off b o : Nat} {sp : Option Nat} : fldV off (.pointer (some ⟨b, o, sp⟩)) = some (.pointer (some ⟨b, o + off, none⟩)) := rfl
theorem fof_agg {off : Nat} {agg : Option Nat} {cs : Array Value} : fofV off agg (.agg cs) = part cs.toList off agg := rfl
theorem nil_ptr {a : Addr} : nilV (.pointer (some a)) = some (.pointer (some a)) := rfl
theorem nil_func {g : FuncId} {a b : Array Value} : nilV (.func (.func g) a b) = some (.func (.func g) a b) := rfl
theorem lens_slice {a : Option Addr} {n c : Nat} : lensV false (.slice a n c) = some (.int .i64 n) := rfl
theorem lens_str {s : ByteArray} : lensV true (.string s) = some (.int .i64 s.size) := rfl
theorem ext_tuple {vs : Array Value} {j : Nat} : extV (.tuple vs) j = match vs.toList[j]? with | some v => if noTuple v then some v else none | none => none := rfl
theorem nt_int {k : IntKind} {n : Int} : noTuple (.int k n) = true := rfl
theorem nt_bool {b : Bool} : noTuple (.bool b) = true := rfl
theorem nt_str {b : ByteArray} : noTuple (.string b) = true := rfl
theorem nt_slice {b : Option Addr} {n c : Nat} : noTuple (.slice b n c) = true := rfl
theorem nt_ptr {b : Option Addr} : noTuple (.pointer b) = true := rfl
theorem nt_agg {b : Array Value} : noTuple (.agg b) = true := rfl
theorem nt_map {b : Option Nat} : noTuple (.map b) = true := rfl
theorem nt_func {g : Fn} {a b : Array Value} : noTuple (.func g a b) = true := rfl
theorem ixs_some {size n c b o : Nat} {sp : Option Nat} {k : IntKind} {j : Int} (h1 : 0 ≤ j) (h2 : j < n) : ixsV size (.slice (some ⟨b, o, sp⟩) n c) (.int k j) = some (.pointer (some ⟨b, o + j.toNat * size, none⟩)) := by
  simp [ixsV, addrOf, h1, h2]
theorem ixa_some {size n b o : Nat} {sp : Option Nat} {k : IntKind} {j : Int} (h1 : 0 ≤ j) (h2 : j < n) : ixaV n size (.pointer (some ⟨b, o, sp⟩)) (.int k j) = some (.pointer (some ⟨b, o + j.toNat * size, none⟩)) := by
  simp [ixaV, addrOf, h1, h2]
theorem ixt_some {s : ByteArray} {k : IntKind} {j : Int} (h1 : 0 ≤ j) : ixtV (.string s) (.int k j) = (s[j.toNat]?).map fun b => .int .u8 b.toNat := by simp [ixtV, h1]
theorem min_1 {x : Value} : foldO min2 x [] = some x := rfl
theorem min_2 {k : IntKind} {a b : Int} {r : List Value} : foldO min2 (.int k a) (.int k b :: r) = foldO min2 (.int k (min a b)) r := by
  simp only [foldO, min2, Option.bind_some]; congr 2; omega
theorem max_1 {x : Value} : foldO max2 x [] = some x := rfl
theorem max_2 {k : IntKind} {a b : Int} {r : List Value} : foldO max2 (.int k a) (.int k b :: r) = foldO max2 (.int k (max a b)) r := by
  simp only [foldO, max2, Option.bind_some]; congr 2; omega
theorem resL_nil {fr : Fr} {h : Heap} : resL fr h [] = some [] := rfl
theorem resL_t {fr : Fr} {h : Heap} {s : Nat} {r : List R} : resL fr h (.t s :: r) = (resL fr h r).map (get fr s :: ·) := rfl
theorem resL_v {fr : Fr} {h : Heap} {s : Nat} {agg : Option Nat} {r : List R} : resL fr h (.v agg s :: r) = (loadV agg (get fr s) h).bind fun v => (resL fr h r).map (v :: ·) := rfl
theorem resV_one {v : Value} : resV [v] = v := rfl
theorem resV_two {v w : Value} {r : List Value} : resV (v :: w :: r) = .tuple (v :: w :: r).toArray := rfl
theorem resV_nil : resV [] = .tuple #[] := rfl
theorem nn4_int {m : Nat} {k : IntKind} {n : Int} : noNew m 4 (.int k n) = true := rfl
theorem nn4_bool {m : Nat} {b : Bool} : noNew m 4 (.bool b) = true := rfl
theorem nn4_str {m : Nat} {b : ByteArray} : noNew m 4 (.string b) = true := rfl
theorem nn4_slice {m n c : Nat} {a : Addr} : noNew m 4 (.slice (some a) n c) = decide (a.block < m) := rfl
theorem nn4_nils {m n c : Nat} : noNew m 4 (.slice none n c) = true := rfl
theorem nn4_ptr {m : Nat} {a : Addr} : noNew m 4 (.pointer (some a)) = decide (a.block < m) := rfl
theorem nn4_nilp {m : Nat} : noNew m 4 (.pointer none) = true := rfl
theorem nn4_agg {m : Nat} {vs : Array Value} : noNew m 4 (.agg vs) = vs.toList.all (noNew m 3) := rfl
theorem nn4_tuple {m : Nat} {vs : Array Value} : noNew m 4 (.tuple vs) = vs.toList.all (noNew m 3) := rfl
theorem nn4_func {m : Nat} {g : FuncId} {a b : Array Value} : noNew m 4 (.func (.func g) a b) = (a.toList.all (noNew m 3) && b.toList.all (noNew m 3)) := by simp [noNew]
theorem nn3_int {m : Nat} {k : IntKind} {n : Int} : noNew m 3 (.int k n) = true := rfl
theorem nn3_bool {m : Nat} {b : Bool} : noNew m 3 (.bool b) = true := rfl
theorem nn3_str {m : Nat} {b : ByteArray} : noNew m 3 (.string b) = true := rfl
theorem nn3_slice {m n c : Nat} {a : Addr} : noNew m 3 (.slice (some a) n c) = decide (a.block < m) := rfl
theorem nn3_nils {m n c : Nat} : noNew m 3 (.slice none n c) = true := rfl
theorem nn3_ptr {m : Nat} {a : Addr} : noNew m 3 (.pointer (some a)) = decide (a.block < m) := rfl
theorem nn3_nilp {m : Nat} : noNew m 3 (.pointer none) = true := rfl
theorem nn3_agg {m : Nat} {vs : Array Value} : noNew m 3 (.agg vs) = vs.toList.all (noNew m 2) := rfl
theorem nn3_tuple {m : Nat} {vs : Array Value} : noNew m 3 (.tuple vs) = vs.toList.all (noNew m 2) := rfl
theorem nn3_func {m : Nat} {g : FuncId} {a b : Array Value} : noNew m 3 (.func (.func g) a b) = (a.toList.all (noNew m 2) && b.toList.all (noNew m 2)) := by simp [noNew]
theorem nn2_int {m : Nat} {k : IntKind} {n : Int} : noNew m 2 (.int k n) = true := rfl
theorem nn2_bool {m : Nat} {b : Bool} : noNew m 2 (.bool b) = true := rfl
theorem nn2_str {m : Nat} {b : ByteArray} : noNew m 2 (.string b) = true := rfl
theorem nn2_slice {m n c : Nat} {a : Addr} : noNew m 2 (.slice (some a) n c) = decide (a.block < m) := rfl
theorem nn2_nils {m n c : Nat} : noNew m 2 (.slice none n c) = true := rfl
theorem nn2_ptr {m : Nat} {a : Addr} : noNew m 2 (.pointer (some a)) = decide (a.block < m) := rfl
theorem nn2_nilp {m : Nat} : noNew m 2 (.pointer none) = true := rfl
theorem nn2_agg {m : Nat} {vs : Array Value} : noNew m 2 (.agg vs) = vs.toList.all (noNew m 1) := rfl
theorem nn2_tuple {m : Nat} {vs : Array Value} : noNew m 2 (.tuple vs) = vs.toList.all (noNew m 1) := rfl
theorem nn2_func {m : Nat} {g : FuncId} {a b : Array Value} : noNew m 2 (.func (.func g) a b) = (a.toList.all (noNew m 1) && b.toList.all (noNew m 1)) := by simp [noNew]
theorem nn1_int {m : Nat} {k : IntKind} {n : Int} : noNew m 1 (.int k n) = true := rfl
theorem nn1_bool {m : Nat} {b : Bool} : noNew m 1 (.bool b) = true := rfl
theorem nn1_str {m : Nat} {b : ByteArray} : noNew m 1 (.string b) = true := rfl
theorem nn1_slice {m n c : Nat} {a : Addr} : noNew m 1 (.slice (some a) n c) = decide (a.block < m) := rfl
theorem nn1_nils {m n c : Nat} : noNew m 1 (.slice none n c) = true := rfl
theorem nn1_ptr {m : Nat} {a : Addr} : noNew m 1 (.pointer (some a)) = decide (a.block < m) := rfl
theorem nn1_nilp {m : Nat} : noNew m 1 (.pointer none) = true := rfl
theorem nn1_agg {m : Nat} {vs : Array Value} : noNew m 1 (.agg vs) = vs.toList.all (noNew m 0) := rfl
theorem nn1_tuple {m : Nat} {vs : Array Value} : noNew m 1 (.tuple vs) = vs.toList.all (noNew m 0) := rfl
theorem nn1_func {m : Nat} {g : FuncId} {a b : Array Value} : noNew m 1 (.func (.func g) a b) = (a.toList.all (noNew m 0) && b.toList.all (noNew m 0)) := by simp [noNew]
section
variable {h l : Heap} {o : LObj}
theorem geta {n : Nat} : (h ++ l)[h.length + n]? = l[n]? := by rw [List.getElem?_append_right (by omega)]; congr 1; omega
theorem geta0 : (h ++ l)[h.length]? = l[0]? := by rw [List.getElem?_append_right (by omega)]; congr 1; omega
theorem seta {n : Nat} : (h ++ l).set (h.length + n) o = h ++ l.set n o := by rw [List.set_append_right _ _ (by omega)]; congr 2; omega
theorem seta0 : (h ++ l).set h.length o = h ++ l.set 0 o := by rw [List.set_append_right _ _ (by omega)]; congr 2; omega
theorem gets {b c : Nat} (hb : b ≠ c) : (h.set b o)[c]? = h[c]? := List.getElem?_set_ne hb
theorem room0 : room h 0 = h := rfl
theorem room1 : room h 1 = h ++ [.dead] := rfl
theorem room2 : room h 2 = h ++ [.dead, .dead] := rfl
theorem room3 : room h 3 = h ++ [.dead, .dead, .dead] := rfl
theorem room4 : room h 4 = h ++ [.dead, .dead, .dead, .dead] := rfl
end
def blk : Value → Nat
  | .slice (some a) _ _ => a.block
  | _ => 0
def ofs : Value → Nat
  | .slice (some a) _ _ => a.off
  | _ => 0
structure Row (sz : Nat) (h : Heap) (v : Value) (L : List (List Value)) : Prop where
  size : ∀ e ∈ L, e.length = sz
  few : L.length < 1152921504606846976
  is : (v = .slice none 0 0 ∧ L = []) ∨ ∃ b off sp cap c ro, v = .slice (some ⟨b, off, sp⟩) L.length cap ∧ h[b]? = some (.cells c ro) ∧ off + L.length * sz ≤ c.length ∧ (c.drop off).take (L.length * sz) = L.flatten ∧ L.length ≤ cap ∧ (sp = none ∨ sp = some sz)
namespace Row
variable {sz : Nat} {h : Heap} {v : Value} {L : List (List Value)}
theorem len (r : Row sz h v L) : lensV false v = some (.int .i64 L.length) := by
  rcases r.is with ⟨rfl, rfl⟩ | ⟨b, off, sp, cap, c, ro, rfl, _⟩ <;> rfl
theorem ixs (r : Row sz h v L) (k : IntKind) (i : Int) (h1 : 0 ≤ i) (h2 : i < L.length) : ixsV sz v (.int k i) = some (.pointer (some ⟨blk v, ofs v + i.toNat * sz, none⟩)) := by
  rcases r.is with ⟨rfl, rfl⟩ | ⟨b, off, sp, cap, c, ro, rfl, _⟩
  · simp at h2; omega
  · exact ixs_some h1 h2
theorem flat_get : ∀ {L : List (List Value)} (hs : ∀ e ∈ L, e.length = sz) (i fo : Nat) (hi : i < L.length) (hf : fo < sz), L.flatten[i * sz + fo]? = some ((L.getD i []).getD fo undef) := by
  intro L
  induction L with
  | nil => intro hs i fo hi; simp at hi
  | cons x r ih =>
    intro hs i fo hi hf
    have hx : x.length = sz := hs x (by simp)
    cases i with
    | zero =>
      simp only [Nat.zero_mul, Nat.zero_add, List.flatten_cons, List.getD_cons_zero]
      rw [List.getElem?_append_left (by omega), List.getD_eq_getElem?_getD, List.getElem?_eq_getElem (by omega)]; rfl
    | succ i =>
      have e : (i + 1) * sz + fo = x.length + (i * sz + fo) := by rw [hx, Nat.succ_mul]; omega
      rw [List.flatten_cons, e, List.getElem?_append_right (by omega), Nat.add_sub_cancel_left, List.getD_cons_succ]
      exact ih (fun e he => hs e (by simp [he])) i fo (by simpa using hi) hf
theorem at_ (r : Row sz h v L) (i fo : Nat) (hi : i < L.length) (hf : fo < sz) : ∃ c ro, h[blk v]? = some (.cells c ro) ∧ ofs v + i * sz + fo < c.length ∧ c[ofs v + i * sz + fo]? = some ((L.getD i []).getD fo undef) := by
  rcases r.is with ⟨rfl, rfl⟩ | ⟨b, off, sp, cap, c, ro, rfl, hb, hl, hc, hcap⟩
  · simp at hi
  · have hlt : i * sz + fo < L.length * sz := by
      have := Nat.mul_le_mul_right sz (show i + 1 ≤ L.length by omega)
      rw [Nat.succ_mul] at this; omega
    refine ⟨c, ro, hb, ?_, ?_⟩
    · simp only [ofs]; omega
    · simp only [ofs]
      rw [← flat_get r.size i fo hi hf, ← hc, List.getElem?_take, if_pos hlt, List.getElem?_drop, Nat.add_assoc]
theorem ld (r : Row sz h v L) (i : Int) (fo : Nat) (h1 : 0 ≤ i) (h2 : i < L.length) (hf : fo < sz) : ldO h[blk v]? (ofs v + i.toNat * sz + fo) none = some ((L.getD i.toNat []).getD fo undef) := by
  obtain ⟨c, ro, hb, _, hc⟩ := r.at_ i.toNat fo (by omega) hf
  rw [hb, ldO_cells, part_none, hc]
theorem ld0 (r : Row sz h v L) (i : Int) (h1 : 0 ≤ i) (h2 : i < L.length) (hf : 0 < sz) : ldO h[blk v]? (ofs v + i.toNat * sz) none = some ((L.getD i.toNat []).getD 0 undef) := r.ld i 0 h1 h2 hf
theorem getD_mem {L : List (List Value)} {i : Nat} (hi : i < L.length) : L.getD i [] ∈ L := by
  rw [List.getD_eq_getElem?_getD, List.getElem?_eq_getElem hi]; exact List.getElem_mem hi
theorem lda (r : Row sz h v L) (i : Int) (h1 : 0 ≤ i) (h2 : i < L.length) (hz : 0 < sz) : ldO h[blk v]? (ofs v + i.toNat * sz) (some sz) = some (.agg (L.getD i.toNat []).toArray) := by
  have hi : i.toNat < L.length := by omega
  have hlen : (L.getD i.toNat []).length = sz := r.size _ (getD_mem hi)
  obtain ⟨c, ro, hb, hlt, _⟩ := r.at_ i.toNat (sz - 1) hi (by omega)
  rw [hb, ldO_cells, part_some, if_pos (by omega)]
  congr 3
  apply List.ext_getElem?
  intro j
  by_cases hj : j < sz
  · obtain ⟨c', ro', hb', _, hc⟩ := r.at_ i.toNat j hi hj
    rw [hb] at hb'; cases hb'
    rw [List.getElem?_take, if_pos hj, List.getElem?_drop, hc, List.getD_eq_getElem?_getD (l := L.getD i.toNat []), List.getElem?_eq_getElem (by omega)]; rfl
  · rw [List.getElem?_eq_none (by simp; omega), List.getElem?_eq_none (by omega)]
theorem ext (r : Row sz h v L) {h' : Heap} (hx : ∀ (b : Nat) (o : LObj), h[b]? = some o → o ≠ LObj.dead → h'[b]? = some o) : Row sz h' v L :=
  ⟨r.size, r.few, r.is.imp id fun ⟨b, off, sp, cap, c, ro, h1, h2, h3⟩ => ⟨b, off, sp, cap, c, ro, h1, hx _ _ h2 (by intro h; cases h), h3⟩⟩
theorem app (r : Row sz h v L) (l : Heap) : Row sz (h ++ l) v L := r.ext fun b o hb _ => by
  rw [List.getElem?_append_left (List.getElem?_eq_some_iff.1 hb).1]; exact hb
theorem set (r : Row sz h v L) {b : Nat} {o : LObj} (hb : b ≠ blk v) : Row sz (h.set b o) v L :=
  ⟨r.size, r.few, r.is.imp id fun ⟨b', off, sp, cap, c, ro, h1, h2, h3⟩ => ⟨b', off, sp, cap, c, ro, h1, by rw [gets (by rw [h1] at hb; exact hb)]; exact h2, h3⟩⟩
theorem sls_hi (r : Row sz h v L) {k : IntKind} {n : Int} (h1 : 0 ≤ n) (h2 : n ≤ L.length) : ∃ v', slsV sz v none (some (.int k n)) none = some v' ∧ Row sz h v' (L.take n.toNat) ∧ blk v' = blk v ∧ (v = .slice none 0 0 → v' = .slice none 0 0) := by
  have hsz : ∀ e ∈ L.take n.toNat, e.length = sz := fun e he => r.size e (List.mem_of_mem_take he)
  have few' : (L.take n.toNat).length < 1152921504606846976 := by have := r.few; rw [List.length_take]; omega
  have hlen : (L.take n.toNat).length = n.toNat := by rw [List.length_take]; omega
  rcases r.is with ⟨rfl, rfl⟩ | ⟨b, off, sp, cap, c, ro, rfl, hb, hl, hc, hcap⟩
  · have : n = 0 := by simp at h2; omega
    subst this
    exact ⟨.slice none 0 0, by simp [slsV, boundV], ⟨hsz, few', .inl ⟨rfl, by simp⟩⟩, rfl, fun _ => rfl⟩
  · have hmul : n.toNat * sz ≤ L.length * sz := Nat.mul_le_mul_right sz (by omega)
    have hcut : (c.drop off).take (n.toNat * sz) = (L.take n.toNat).flatten := by
      have e : L.flatten = (L.take n.toNat).flatten ++ (L.drop n.toNat).flatten := by rw [← List.flatten_append, List.take_append_drop]
      have e3 : (L.take n.toNat).flatten.length = n.toNat * sz := by
        have : ∀ {M : List (List Value)}, (∀ e ∈ M, e.length = sz) → M.flatten.length = M.length * sz := by
          intro M
          induction M with
          | nil => intro _; simp
          | cons x r ih => intro hs; rw [List.flatten_cons, List.length_append, ih (fun e he => hs e (by simp [he])), hs x (by simp), List.length_cons, Nat.succ_mul]; omega
        rw [this hsz, hlen]
      have e2 : (c.drop off).take (n.toNat * sz) = ((c.drop off).take (L.length * sz)).take (n.toNat * sz) := by rw [List.take_take, Nat.min_eq_left hmul]
      rw [e2, hc, e, ← e3, List.take_left']
      rfl
    obtain ⟨hcap, rfl | rfl⟩ := hcap
    · refine ⟨.slice (some ⟨b, off, none⟩) n.toNat cap, ?_, ⟨hsz, few', .inr ⟨b, off, none, cap, c, ro, by rw [hlen], hb, by rw [hlen]; omega, by rw [hlen]; exact hcut, by rw [hlen]; omega, .inl rfl⟩⟩, rfl, fun e => by cases e⟩
      simp only [slsV, boundV]
      rw [if_pos (by omega), Option.bind_some, Option.bind_some, if_pos (by omega)]
      simp
    · refine ⟨.slice (some ⟨b, off, some sz⟩) n.toNat n.toNat, ?_, ⟨hsz, few', .inr ⟨b, off, some sz, n.toNat, c, ro, by rw [hlen], hb, by rw [hlen]; omega, by rw [hlen]; exact hcut, by rw [hlen]; exact Nat.le_refl _, .inr rfl⟩⟩, rfl, fun e => by cases e⟩
      simp only [slsV, boundV, if_true]
      rw [if_pos (by omega), Option.bind_some, Option.bind_some]
      simp
theorem lt (r : Row sz h v L) (hl : L ≠ []) : blk v < h.length := by
  rcases r.is with ⟨_, rfl⟩ | ⟨b, off, sp, cap, c, ro, rfl, hb, _⟩
  · exact absurd rfl hl
  · exact (List.getElem?_eq_some_iff.1 hb).1
theorem cells (r : Row sz h v L) : cellsOf sz v h = some (L.length, L.flatten) := by
  rcases r.is with ⟨rfl, rfl⟩ | ⟨b, off, sp, cap, c, ro, rfl, hb, hl, hc, hcap⟩
  · rfl
  · simp [cellsOf, hb, hl, hc]
end Row
def atI {α : Type} [Inhabited α] (l : List α) (i : Int) : α := l.getD i.toNat default
theorem atI_map {α : Type} [Inhabited α] (enc : α → List Value) (l : List α) (i : Int) (h1 : 0 ≤ i) (h2 : i < l.length) : (l.map enc).getD i.toNat [] = enc (atI l i) := by
  unfold atI
  rw [List.getD_eq_getElem?_getD, List.getD_eq_getElem?_getD, List.getElem?_map, List.getElem?_eq_getElem (by omega)]; rfl
def Rd {α : Type} (sz : Nat) (enc : α → List Value) (h : Heap) (v : Value) (l : List α) : Prop := Row sz h v (l.map enc)
namespace Rd
variable {α : Type} {sz : Nat} {enc : α → List Value} {h : Heap} {v : Value} {l : List α}
theorem few (r : Rd sz enc h v l) : l.length < 1152921504606846976 := by have := Row.few r; simpa using this
theorem len (r : Rd sz enc h v l) : lensV false v = some (.int .i64 l.length) := by rw [Row.len r]; simp
theorem ixs (r : Rd sz enc h v l) (k : IntKind) (i : Int) (h1 : 0 ≤ i) (h2 : i < l.length) : ixsV sz v (.int k i) = some (.pointer (some ⟨blk v, ofs v + i.toNat * sz, none⟩)) := Row.ixs r k i h1 (by simpa using h2)
theorem ld [Inhabited α] (r : Rd sz enc h v l) (i : Int) (fo : Nat) (h1 : 0 ≤ i) (h2 : i < l.length) (hf : fo < sz) : ldO h[blk v]? (ofs v + i.toNat * sz + fo) none = some ((enc (atI l i)).getD fo undef) := by
  rw [Row.ld r i fo h1 (by simpa using h2) hf, atI_map _ _ _ h1 h2]
theorem ld0 [Inhabited α] (r : Rd sz enc h v l) (i : Int) (h1 : 0 ≤ i) (h2 : i < l.length) (hf : 0 < sz) : ldO h[blk v]? (ofs v + i.toNat * sz) none = some ((enc (atI l i)).getD 0 undef) := r.ld i 0 h1 h2 hf
theorem lda [Inhabited α] (r : Rd sz enc h v l) (i : Int) (h1 : 0 ≤ i) (h2 : i < l.length) (hf : 0 < sz) : ldO h[blk v]? (ofs v + i.toNat * sz) (some sz) = some (.agg (enc (atI l i)).toArray) := by
  rw [Row.lda r i h1 (by simpa using h2) hf, atI_map _ _ _ h1 h2]
theorem app (r : Rd sz enc h v l) (x : Heap) : Rd sz enc (h ++ x) v l := Row.app r x
theorem ext (r : Rd sz enc h v l) {h' : Heap} (hx : ∀ (b : Nat) (o : LObj), h[b]? = some o → o ≠ LObj.dead → h'[b]? = some o) : Rd sz enc h' v l := Row.ext r hx
theorem set (r : Rd sz enc h v l) {b : Nat} {o : LObj} (hb : b ≠ blk v) : Rd sz enc (h.set b o) v l := Row.set r hb
end Rd
end Go.L
