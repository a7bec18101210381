/- WRITTEN BY PROGRAM (wip/gen/mkV2.py). THE RULES OF EACH INSTRUCTION, in the spelling in which 'simp' runs them. -/
import Derived.Test.YtafbiejbnbocoaaDoorV1
set_option linter.unusedVariables false
set_option linter.unusedSimpArgs false
namespace Go.L
open Go
def pickV (c a b : Value) : Option Value := match c with | .bool t => some (if t then a else b) | _ => none
def cviV (k : IntKind) (x : Value) : Option Value := match x with | .int _ n => some (.int k (k.wrap n)) | _ => none
def cvsV (x : Value) : Option Value := match x with | .string s => some (.string s) | _ => none
def fldV (off : Nat) (x : Value) : Option Value := match x with | .pointer (some a) => some (.pointer (some ⟨a.block, a.off + off, none⟩)) | _ => none
def fofV (off : Nat) (agg : Option Nat) (x : Value) : Option Value := match x with | .agg cs => part cs.toList off agg | _ => none
def ixaV (n size : Nat) (x i : Value) : Option Value := match x with | .pointer (some a) => addrOf size n a i | _ => none
def ixsV (size : Nat) (x i : Value) : Option Value := match x with | .slice (some a) n _ => addrOf size n a i | _ => none
def ixvV (n size : Nat) (agg : Option Nat) (x i : Value) : Option Value := match x, i with
    | .agg cs, .int _ j => if 0 ≤ j ∧ j < n then part cs.toList (j.toNat * size) agg else none
    | _, _ => none
def ixtV (x i : Value) : Option Value := match x, i with
    | .string s, .int _ j => if 0 ≤ j then (s[j.toNat]?).map fun b => .int .u8 b.toNat else none
    | _, _ => none
def boundV (x : Option Value) (dflt high : Nat) : Option Nat := match x with
  | none => some dflt
  | some (.int _ i) => if 0 ≤ i ∧ i ≤ high then some i.toNat else none
  | some _ => none
theorem bound_eq (f : FF) (x : Option X) (d h : Nat) : bound f x d h = boundV (x.map (ev f)) d h := by
  cases x with
  | none => rfl
  | some x =>
    show (match ev f x with | .int _ i => if 0 ≤ i ∧ i ≤ h then some i.toNat else none | _ => none) = boundV (some (ev f x)) d h
    unfold boundV
    cases ev f x <;> rfl
def sltV (x : Value) (lo hi : Option Value) : Option Value := match x with
    | .string s => (boundV hi s.size s.size).bind fun h => (boundV lo 0 h).bind fun l => some (.string (s.extract l h))
    | _ => none
def slsV (size : Nat) (x : Value) (lo hi mx : Option Value) : Option Value :=
  match x with
  | .slice none 0 0 => if mx.isSome ∧ hi.isNone then none else
    (boundV mx 0 0).bind fun m => (boundV hi 0 m).bind fun h => (boundV lo 0 h).bind fun _ => some (.slice none 0 0)
  | .slice (some a) n cap =>
    match mx with
    | some _ => match hi with
      | none => none
      | some _ => (boundV mx 0 cap).bind fun m => (boundV hi 0 m).bind fun h => (boundV lo 0 h).bind fun l =>
        some (.slice (some ⟨a.block, a.off + l * size, none⟩) (h - l) (m - l))
    | none => match a.spot with
      | none => (boundV hi n cap).bind fun h => (boundV lo 0 h).bind fun l =>
          if h ≤ cap then some (.slice (some ⟨a.block, a.off + l * size, none⟩) (h - l) (cap - l)) else none
      | some s => if s = size then (boundV hi n n).bind fun h => (boundV lo 0 h).bind fun l =>
          some (.slice (some ⟨a.block, a.off + l * size, some s⟩) (h - l) (h - l)) else none
  | _ => none
def slaV (n size : Nat) (x : Value) (lo hi : Option Value) : Option Value := match x with
    | .pointer (some a) => (boundV hi n n).bind fun h => (boundV lo 0 h).bind fun l => some (.slice (some ⟨a.block, a.off + l * size, none⟩) (h - l) (n - l))
    | _ => none
def nilV (x : Value) : Option Value := match x with
    | .pointer (some a) => some (.pointer (some a))
    | .func (.func g) a b => some (.func (.func g) a b)
    | _ => none
def extV (x : Value) (i : Nat) : Option Value := match x with
    | .tuple vs => match vs.toList[i]? with
      | some v => if noTuple v then some v else none
      | none => none
    | _ => none
def lensV (text : Bool) (x : Value) : Option Value := match text, x with
    | true, .string s => some (.int .i64 s.size)
    | false, .slice _ n _ => some (.int .i64 n)
    | _, _ => none
def fillV : List (Nat × Nat × Value) → List Value → Option (List Value)
  | [], c => some c
  | (off, n, x) :: r, c => if (cellsV x).length = n ∧ off + n ≤ c.length ∧ (cellsV x).all oneCell then fillV r (setCells c off (cellsV x)) else none
theorem fill_eq (f : FF) : ∀ (l : List (Nat × Nat × X)) (c : List Value), fillC f l c = fillV (l.map fun p => (p.1, p.2.1, ev f p.2.2)) c
  | [], c => rfl
  | (off, n, x) :: r, c => by simp only [fillC, fillV, List.map_cons, fill_eq f r]
theorem sls_eq (f : FF) (size : Nat) (x : Value) (lo hi mx : Option X) : sliceS f size x lo hi mx = slsV size x (lo.map (ev f)) (hi.map (ev f)) (mx.map (ev f)) := by
  unfold sliceS slsV
  simp only [bound_eq, Option.isSome_map, Option.isNone_map]
  cases mx <;> cases hi <;> rfl
def lenmV (x : Value) (h : Heap) : Option Value := match x with
    | .map none => some (.int .i64 0)
    | .map (some r) => match h[r]? with
      | some (.map es) => some (.int .i64 es.length)
      | _ => none
    | _ => none
def b2sV (x : Value) (h : Heap) : Option Value := match x with
    | .slice _ _ _ => match cellsOf 1 x h with
      | some (_, c) => (bytesOf c).map fun b => .string ⟨b.toArray⟩
      | none => none
    | _ => none
def bslV (size : Nat) (zero : List Value) (n : Nat) (ps : List (Nat × Nat × Value)) : Option New :=
  if n * size ≤ 16777216 then (fillV ps (List.replicate n zero).flatten).bind fun c => newCells c fun b => .slice (some ⟨b, 0, none⟩) n n else none
def mslV (zero : List Value) (bytes : Nat) (n c : Value) : Option New := match n, c with
    | .int .i64 n, .int .i64 c =>
      if 0 ≤ n ∧ n ≤ c ∧ bytes * c ≤ 140737488355328 ∧ c < 9223372036854775808 then
        newCells (List.replicate c.toNat zero).flatten fun b => .slice (some ⟨b, 0, none⟩) n.toNat c.toNat
      else none
    | _, _ => none
def s2bV (x : Value) : Option New := match x with
    | .string s => if s.size < 4611686018427387904 then some (.cells (s.data.toList.map fun b => .int .u8 b.toNat) true, fun b => .slice (some ⟨b, 0, some 1⟩) s.size s.size) else none
    | _ => none
def mupV (q : EqK) (m k v : Value) (h : Heap) : Option (Value × Heap × List Nat) := match m with
    | .map (some r) => match h[r]? with
      | some (.map es) => if keyV q k then (putE q k v es).map fun es' => (undef, h.set r (.map es'), [r]) else none
      | _ => none
    | _ => none
def delV (q : EqK) (m k : Value) (h : Heap) : Option (Value × Heap × List Nat) := match m with
    | .map (some r) => match h[r]? with
      | some (.map es) => if keyV q k then (delE q k es).map fun es' => (.tuple #[], h.set r (.map es'), [r]) else none
      | _ => none
    | _ => none
section
variable {W : Nat → Prop} {cf : CallT} {f : FF} {h : Heap} {r : List Ins} {m d rk : Nat} {g : Option (Nat × Bool)} {fl : Bool} {dd : Option Nat}
theorem rd_nil {Q : FF → Heap → Prop} : WX W (runD cf m [] f h) Q = Q f h := WX_some
theorem rd_i {o : O} {Q : FF → Heap → Prop} : WX W (runD cf m (⟨some d, none, o, fl, rk⟩ :: r) f h) Q = WX W (opD cf m f h ⟨some d, none, o, fl, rk⟩) (fun v h' => WX W (runD cf m r (upd f d v) h') Q) := by
  simp only [runD, wanted, putD]; rw [← WX_bind (k := fun v h' => runD cf m r (upd f d v) h')]; congr 1; cases opD cf m f h ⟨some d, none, o, fl, rk⟩ <;> rfl
theorem rd_k {o : O} {Q : FF → Heap → Prop} : WX W (runD cf m (⟨none, none, o, fl, rk⟩ :: r) f h) Q = WX W (opD cf m f h ⟨none, none, o, fl, rk⟩) (fun _ h' => WX W (runD cf m r f h') Q) := by
  simp only [runD, wanted, putD]; rw [← WX_bind (k := fun _ h' => runD cf m r f h')]; congr 1; cases opD cf m f h ⟨none, none, o, fl, rk⟩ <;> rfl
theorem rd_w {g : Nat} {b : Bool} {o : O} {Q : FF → Heap → Prop} : WX W (runD cf m (⟨some d, some (g, b), o, fl, rk⟩ :: r) f h) Q = WG (f g) b (WX W (opD cf m f h ⟨some d, some (g, b), o, fl, rk⟩) (fun v h' => WX W (runD cf m r (upd f d v) h') Q)) (WX W (runD cf m r (upd f d undef) h) Q) := by
  simp only [runD, wanted, putD]
  unfold WG
  cases hg : f g <;> simp only [] <;> try (apply propext; constructor <;> (first | (rintro ⟨_, _, _, e, _⟩; cases e) | (intro h; exact h.elim)))
  · rename_i b'
    by_cases hb : b' = b
    · subst hb; simp only [beq_self_eq_true, if_true]; rw [← WX_bind (k := fun v h' => runD cf m r (upd f d v) h')]; congr 1; cases opD cf m f h ⟨some d, some (g, b'), o, fl, rk⟩ <;> rfl
    · have : (b' == b) = false := by simpa using hb
      simp [this, hb]
  · rename_i vs
    cases hv : vs.isEmpty
    · simp only [Bool.false_eq_true, false_and]
      apply propext
      constructor
      · rintro ⟨_, _, _, e, _⟩; cases e
      · intro h; exact h.elim
    · simp
theorem rd_wk {g : Nat} {b : Bool} {o : O} {Q : FF → Heap → Prop} : WX W (runD cf m (⟨none, some (g, b), o, fl, rk⟩ :: r) f h) Q = WG (f g) b (WX W (opD cf m f h ⟨none, some (g, b), o, fl, rk⟩) (fun _ h' => WX W (runD cf m r f h') Q)) (WX W (runD cf m r f h) Q) := by
  simp only [runD, wanted, putD]
  unfold WG
  cases hg : f g <;> simp only [] <;> try (apply propext; constructor <;> (first | (rintro ⟨_, _, _, e, _⟩; cases e) | (intro h; exact h.elim)))
  · rename_i b'
    by_cases hb : b' = b
    · subst hb; simp only [beq_self_eq_true, if_true]; rw [← WX_bind (k := fun _ h' => runD cf m r f h')]; congr 1; cases opD cf m f h ⟨none, some (g, b'), o, fl, rk⟩ <;> rfl
    · have : (b' == b) = false := by simpa using hb
      simp [this, hb]
  · rename_i vs
    cases hv : vs.isEmpty
    · simp only [Bool.false_eq_true, false_and]
      apply propext
      constructor
      · rintro ⟨_, _, _, e, _⟩; cases e
      · intro h; exact h.elim
    · simp
theorem opd_P {o : O} {Q : Value → Heap → Prop} (hc : cls o = .P) : WX W (opD cf m f h ⟨dd, g, o, fl, rk⟩) Q = W1 (pureV f o) (fun v => Q v h) := by
  unfold opD; dsimp only; rw [hc]; dsimp only
  cases pureV f o with
  | none => apply propext; constructor <;> rintro ⟨_, h⟩ <;> simp at h
  | some v => exact WX_some.trans (W1_some' rfl)
theorem opd_M {o : O} {Q : Value → Heap → Prop} (hc : cls o = .M) : WX W (opD cf m f h ⟨dd, g, o, false, rk⟩) Q = W1 (memV f h o) (fun v => Q v h) := by
  unfold opD; dsimp only; rw [hc]; simp only [Bool.false_eq_true, false_and, if_false]
  cases memV f h o with
  | none => apply propext; constructor <;> rintro ⟨_, h⟩ <;> simp at h
  | some v => exact WX_some.trans (W1_some' rfl)
def WL (m : Nat) (v : Value) (A : Prop) (t : Mk2 A A := .mk) : Prop := low m v = true ∧ A
theorem opd_Mt {o : O} {Q : Value → Heap → Prop} (hc : cls o = .M) : WX W (opD cf m f h ⟨dd, g, o, true, rk⟩) Q = WL m (memX f o) (W1 (memV f h o) (fun v => Q v h)) := by
  unfold opD WL; dsimp only; rw [hc]; simp only [true_and]
  cases hl : low m (memX f o)
  · simp only [if_true]
    apply propext; constructor
    · rintro ⟨_, _, _, e, _⟩; cases e
    · rintro ⟨e, _⟩; cases e
  · simp only [Bool.true_eq_false, if_false, true_and]
    cases memV f h o with
    | none => apply propext; constructor <;> rintro ⟨_, h⟩ <;> simp at h
    | some v => exact WX_some.trans (W1_some' rfl)
theorem opd_A {o : O} {Q : Value → Heap → Prop} (hc : cls o = .A) : WX W (opD cf m f h ⟨dd, g, o, fl, rk⟩) Q = W1 (newV f o) (fun n => WF (n.2 (m + rk)) (fun v => WF (h.set (m + rk) n.1) (fun h' => Q v h'))) := by
  unfold opD; dsimp only; rw [hc]; dsimp only
  cases newV f o with
  | none => apply propext; constructor <;> rintro ⟨_, h⟩ <;> simp at h
  | some v => exact WX_some.trans (W1_some' rfl)
theorem opd_E {o : O} {Q : Value → Heap → Prop} (hc : cls o = .E) : WX W (opD cf m f h ⟨dd, g, o, fl, rk⟩) Q = WX W (effV f h o) Q := by
  unfold opD; dsimp only; rw [hc]
theorem opd_st {n : Nat} {a v : X} {Q : Value → Heap → Prop} : WX W (opD cf m f h ⟨dd, g, .st n a v, false, rk⟩) Q = WH W (storeV n (ev f a) (ev f v) h) (fun h' => Q undef h') := by
  unfold opD; simp only [cls, Bool.false_eq_true, false_and, if_false]
  cases storeV n (ev f a) (ev f v) h with
  | none => apply propext; constructor <;> rintro ⟨_, _, h⟩ <;> simp at h
  | some v => obtain ⟨h', ws⟩ := v; exact propext ⟨fun ⟨_, _, _, e, hw, hq⟩ => by cases e; exact ⟨_, _, rfl, hw, hq⟩, fun ⟨_, _, e, hw, hq⟩ => by cases e; exact ⟨_, _, _, rfl, hw, hq⟩⟩
def WHi (m : Nat) (v : Value) (A : Prop) (t : Mk2 A A := .mk) : Prop := high m v = true ∧ A
theorem opd_stt {n : Nat} {a v : X} {Q : Value → Heap → Prop} : WX W (opD cf m f h ⟨dd, g, .st n a v, true, rk⟩) Q = WHi m (ev f a) (WH W (storeV n (ev f a) (ev f v) h) (fun h' => Q undef h')) := by
  unfold opD WHi; simp only [cls, true_and]
  cases hl : high m (ev f a)
  · simp only [if_true]
    apply propext; constructor
    · rintro ⟨_, _, _, e, _⟩; cases e
    · rintro ⟨e, _⟩; cases e
  · simp only [Bool.true_eq_false, if_false, true_and]
    cases storeV n (ev f a) (ev f v) h with
    | none => apply propext; constructor <;> rintro ⟨_, _, h⟩ <;> simp at h
    | some v => obtain ⟨h', ws⟩ := v; exact propext ⟨fun ⟨_, _, _, e, hw, hq⟩ => by cases e; exact ⟨_, _, rfl, hw, hq⟩, fun ⟨_, _, e, hw, hq⟩ => by cases e; exact ⟨_, _, _, rfl, hw, hq⟩⟩
theorem opd_call {x : X} {args : List X} {Q : Value → Heap → Prop} : WX W (opD cf m f h ⟨dd, g, .call x args, false, rk⟩) Q = WX W (cf (ev f x) (args.map (ev f)) h) Q := by
  unfold opD; simp only [cls, Bool.false_eq_true, false_and, if_false]
  congr 1
  cases cf (ev f x) (args.map (ev f)) h <;> rfl
def WQ (h : Heap) (x : Option (Value × Heap × List Nat)) (Q : Value → Heap → Prop) (t : Mk Q := .mk) : Prop := ∃ v h', x = some (v, h', []) ∧ h'.length = h.length ∧ Q v h'
theorem WQ_some {v : Value} {h h' : Heap} {Q : Value → Heap → Prop} : WQ h (some (v, h', [])) Q = (h'.length = h.length ∧ Q v h') :=
  propext ⟨fun ⟨_, _, e, hl, hq⟩ => by cases e; exact ⟨hl, hq⟩, fun ⟨hl, hq⟩ => ⟨_, _, rfl, hl, hq⟩⟩
theorem WQ_same {v : Value} {h : Heap} {Q : Value → Heap → Prop} : WQ h (some (v, h, [])) Q = Q v h := by rw [WQ_some]; simp
theorem opd_callt {x : X} {args : List X} {Q : Value → Heap → Prop} : WX W (opD cf m f h ⟨dd, g, .call x args, true, rk⟩) Q = WQ h (cf (ev f x) (args.map (ev f)) h) Q := by
  unfold opD WQ; simp only [cls, true_and]
  cases cf (ev f x) (args.map (ev f)) h with
  | none => apply propext; constructor
            · rintro ⟨_, _, _, e, _⟩; cases e
            · rintro ⟨_, _, e, _⟩; cases e
  | some t =>
    obtain ⟨v, h', ws⟩ := t
    dsimp only
    by_cases hc : h'.length = h.length ∧ ws = []
    · obtain ⟨h1, rfl⟩ := hc
      simp only [h1, and_self, not_true, if_false]
      exact propext ⟨fun ⟨_, _, _, e, hw, hq⟩ => by cases e; exact ⟨_, _, rfl, h1, hq⟩, fun ⟨_, _, e, hl, hq⟩ => by cases e; exact ⟨_, _, _, rfl, (fun b hb => nomatch hb), hq⟩⟩
    · rw [if_pos hc]
      apply propext; constructor
      · rintro ⟨_, _, _, e, _⟩; cases e
      · rintro ⟨_, _, e, hl, _⟩
        cases e
        exact absurd ⟨hl, rfl⟩ hc
theorem op_mov {x : X} {Q : Value → Heap → Prop} : WX W (opN cf f h (.mov x)) Q = W1 (some (ev f x)) (fun v => Q v h) := by rw [op_P rfl]; rfl
theorem opd_mov {x : X} {Q : Value → Heap → Prop} : WX W (opD cf m f h ⟨dd, g, (.mov x), fl, rk⟩) Q = W1 (some (ev f x)) (fun v => Q v h) := by rw [opd_P rfl]; rfl
theorem op_pick {c a b : X} {Q : Value → Heap → Prop} : WX W (opN cf f h (.pick c a b)) Q = W1 (pickV (ev f c) (ev f a) (ev f b)) (fun v => Q v h) := by rw [op_P rfl]; rfl
theorem opd_pick {c a b : X} {Q : Value → Heap → Prop} : WX W (opD cf m f h ⟨dd, g, (.pick c a b), fl, rk⟩) Q = W1 (pickV (ev f c) (ev f a) (ev f b)) (fun v => Q v h) := by rw [opd_P rfl]; rfl
theorem op_bin {op : BinOp} {q : EqK} {x y : X} {Q : Value → Heap → Prop} : WX W (opN cf f h (.bin op q x y)) Q = W1 (binOp op q (ev f x) (ev f y)) (fun v => Q v h) := by rw [op_P rfl]; rfl
theorem opd_bin {op : BinOp} {q : EqK} {x y : X} {Q : Value → Heap → Prop} : WX W (opD cf m f h ⟨dd, g, (.bin op q x y), fl, rk⟩) Q = W1 (binOp op q (ev f x) (ev f y)) (fun v => Q v h) := by rw [opd_P rfl]; rfl
theorem op_un {op : UnOp} {x : X} {Q : Value → Heap → Prop} : WX W (opN cf f h (.un op x)) Q = W1 (unOp op (ev f x)) (fun v => Q v h) := by rw [op_P rfl]; rfl
theorem opd_un {op : UnOp} {x : X} {Q : Value → Heap → Prop} : WX W (opD cf m f h ⟨dd, g, (.un op x), fl, rk⟩) Q = W1 (unOp op (ev f x)) (fun v => Q v h) := by rw [opd_P rfl]; rfl
theorem op_cvi {k : IntKind} {x : X} {Q : Value → Heap → Prop} : WX W (opN cf f h (.cvi k x)) Q = W1 (cviV k (ev f x)) (fun v => Q v h) := by rw [op_P rfl]; rfl
theorem opd_cvi {k : IntKind} {x : X} {Q : Value → Heap → Prop} : WX W (opD cf m f h ⟨dd, g, (.cvi k x), fl, rk⟩) Q = W1 (cviV k (ev f x)) (fun v => Q v h) := by rw [opd_P rfl]; rfl
theorem op_cvs {x : X} {Q : Value → Heap → Prop} : WX W (opN cf f h (.cvs x)) Q = W1 (cvsV (ev f x)) (fun v => Q v h) := by rw [op_P rfl]; rfl
theorem opd_cvs {x : X} {Q : Value → Heap → Prop} : WX W (opD cf m f h ⟨dd, g, (.cvs x), fl, rk⟩) Q = W1 (cvsV (ev f x)) (fun v => Q v h) := by rw [opd_P rfl]; rfl
theorem op_bld {z : List Value} {p : List (Nat × Nat × X)} {Q : Value → Heap → Prop} : WX W (opN cf f h (.bld z p)) Q = W1 ((fillV (p.map fun p => (p.1, p.2.1, ev f p.2.2)) z).map fun c => .agg c.toArray) (fun v => Q v h) := by rw [op_P rfl]; simp only [pureV, fill_eq]
theorem opd_bld {z : List Value} {p : List (Nat × Nat × X)} {Q : Value → Heap → Prop} : WX W (opD cf m f h ⟨dd, g, (.bld z p), fl, rk⟩) Q = W1 ((fillV (p.map fun p => (p.1, p.2.1, ev f p.2.2)) z).map fun c => .agg c.toArray) (fun v => Q v h) := by rw [opd_P rfl]; simp only [pureV, fill_eq]
theorem op_fld {off : Nat} {x : X} {Q : Value → Heap → Prop} : WX W (opN cf f h (.fld off x)) Q = W1 (fldV off (ev f x)) (fun v => Q v h) := by rw [op_P rfl]; rfl
theorem opd_fld {off : Nat} {x : X} {Q : Value → Heap → Prop} : WX W (opD cf m f h ⟨dd, g, (.fld off x), fl, rk⟩) Q = W1 (fldV off (ev f x)) (fun v => Q v h) := by rw [opd_P rfl]; rfl
theorem op_fof {off : Nat} {agg : Option Nat} {x : X} {Q : Value → Heap → Prop} : WX W (opN cf f h (.fof off agg x)) Q = W1 (fofV off agg (ev f x)) (fun v => Q v h) := by rw [op_P rfl]; rfl
theorem opd_fof {off : Nat} {agg : Option Nat} {x : X} {Q : Value → Heap → Prop} : WX W (opD cf m f h ⟨dd, g, (.fof off agg x), fl, rk⟩) Q = W1 (fofV off agg (ev f x)) (fun v => Q v h) := by rw [opd_P rfl]; rfl
theorem op_ixa {n size : Nat} {x y : X} {Q : Value → Heap → Prop} : WX W (opN cf f h (.ixa n size x y)) Q = W1 (ixaV n size (ev f x) (ev f y)) (fun v => Q v h) := by rw [op_P rfl]; rfl
theorem opd_ixa {n size : Nat} {x y : X} {Q : Value → Heap → Prop} : WX W (opD cf m f h ⟨dd, g, (.ixa n size x y), fl, rk⟩) Q = W1 (ixaV n size (ev f x) (ev f y)) (fun v => Q v h) := by rw [opd_P rfl]; rfl
theorem op_ixs {size : Nat} {x y : X} {Q : Value → Heap → Prop} : WX W (opN cf f h (.ixs size x y)) Q = W1 (ixsV size (ev f x) (ev f y)) (fun v => Q v h) := by rw [op_P rfl]; rfl
theorem opd_ixs {size : Nat} {x y : X} {Q : Value → Heap → Prop} : WX W (opD cf m f h ⟨dd, g, (.ixs size x y), fl, rk⟩) Q = W1 (ixsV size (ev f x) (ev f y)) (fun v => Q v h) := by rw [opd_P rfl]; rfl
theorem op_ixv {n size : Nat} {agg : Option Nat} {x y : X} {Q : Value → Heap → Prop} : WX W (opN cf f h (.ixv n size agg x y)) Q = W1 (ixvV n size agg (ev f x) (ev f y)) (fun v => Q v h) := by rw [op_P rfl]; rfl
theorem opd_ixv {n size : Nat} {agg : Option Nat} {x y : X} {Q : Value → Heap → Prop} : WX W (opD cf m f h ⟨dd, g, (.ixv n size agg x y), fl, rk⟩) Q = W1 (ixvV n size agg (ev f x) (ev f y)) (fun v => Q v h) := by rw [opd_P rfl]; rfl
theorem op_ixt {x y : X} {Q : Value → Heap → Prop} : WX W (opN cf f h (.ixt x y)) Q = W1 (ixtV (ev f x) (ev f y)) (fun v => Q v h) := by rw [op_P rfl]; rfl
theorem opd_ixt {x y : X} {Q : Value → Heap → Prop} : WX W (opD cf m f h ⟨dd, g, (.ixt x y), fl, rk⟩) Q = W1 (ixtV (ev f x) (ev f y)) (fun v => Q v h) := by rw [opd_P rfl]; rfl
theorem op_slt {x : X} {lo hi : Option X} {Q : Value → Heap → Prop} : WX W (opN cf f h (.slt x lo hi)) Q = W1 (sltV (ev f x) (lo.map (ev f)) (hi.map (ev f))) (fun v => Q v h) := by rw [op_P rfl]; simp only [pureV, bound_eq, sltV]; congr 1
theorem opd_slt {x : X} {lo hi : Option X} {Q : Value → Heap → Prop} : WX W (opD cf m f h ⟨dd, g, (.slt x lo hi), fl, rk⟩) Q = W1 (sltV (ev f x) (lo.map (ev f)) (hi.map (ev f))) (fun v => Q v h) := by rw [opd_P rfl]; simp only [pureV, bound_eq, sltV]; congr 1
theorem op_sls {size : Nat} {x : X} {lo hi mx : Option X} {Q : Value → Heap → Prop} : WX W (opN cf f h (.sls size x lo hi mx)) Q = W1 (slsV size (ev f x) (lo.map (ev f)) (hi.map (ev f)) (mx.map (ev f))) (fun v => Q v h) := by rw [op_P rfl]; simp only [pureV, sls_eq]
theorem opd_sls {size : Nat} {x : X} {lo hi mx : Option X} {Q : Value → Heap → Prop} : WX W (opD cf m f h ⟨dd, g, (.sls size x lo hi mx), fl, rk⟩) Q = W1 (slsV size (ev f x) (lo.map (ev f)) (hi.map (ev f)) (mx.map (ev f))) (fun v => Q v h) := by rw [opd_P rfl]; simp only [pureV, sls_eq]
theorem op_sla {n size : Nat} {x : X} {lo hi : Option X} {Q : Value → Heap → Prop} : WX W (opN cf f h (.sla n size x lo hi)) Q = W1 (slaV n size (ev f x) (lo.map (ev f)) (hi.map (ev f))) (fun v => Q v h) := by rw [op_P rfl]; simp only [pureV, bound_eq, slaV]; congr 1
theorem opd_sla {n size : Nat} {x : X} {lo hi : Option X} {Q : Value → Heap → Prop} : WX W (opD cf m f h ⟨dd, g, (.sla n size x lo hi), fl, rk⟩) Q = W1 (slaV n size (ev f x) (lo.map (ev f)) (hi.map (ev f))) (fun v => Q v h) := by rw [opd_P rfl]; simp only [pureV, bound_eq, slaV]; congr 1
theorem op_nil {x : X} {Q : Value → Heap → Prop} : WX W (opN cf f h (.nil x)) Q = W1 (nilV (ev f x)) (fun v => Q v h) := by rw [op_P rfl]; rfl
theorem opd_nil {x : X} {Q : Value → Heap → Prop} : WX W (opD cf m f h ⟨dd, g, (.nil x), fl, rk⟩) Q = W1 (nilV (ev f x)) (fun v => Q v h) := by rw [opd_P rfl]; rfl
theorem op_ext {x : X} {j : Nat} {Q : Value → Heap → Prop} : WX W (opN cf f h (.ext x j)) Q = W1 (extV (ev f x) j) (fun v => Q v h) := by rw [op_P rfl]; rfl
theorem opd_ext {x : X} {j : Nat} {Q : Value → Heap → Prop} : WX W (opD cf m f h ⟨dd, g, (.ext x j), fl, rk⟩) Q = W1 (extV (ev f x) j) (fun v => Q v h) := by rw [opd_P rfl]; rfl
theorem op_mkf {fn : Fn} {a b : List X} {Q : Value → Heap → Prop} : WX W (opN cf f h (.mkf fn a b)) Q = W1 (some (.func fn (a.map (ev f)).toArray (b.map (ev f)).toArray)) (fun v => Q v h) := by rw [op_P rfl]; rfl
theorem opd_mkf {fn : Fn} {a b : List X} {Q : Value → Heap → Prop} : WX W (opD cf m f h ⟨dd, g, (.mkf fn a b), fl, rk⟩) Q = W1 (some (.func fn (a.map (ev f)).toArray (b.map (ev f)).toArray)) (fun v => Q v h) := by rw [opd_P rfl]; rfl
theorem op_mki {t : TypeId} {x : X} {Q : Value → Heap → Prop} : WX W (opN cf f h (.mki t x)) Q = W1 (some (.iface t (ev f x))) (fun v => Q v h) := by rw [op_P rfl]; rfl
theorem opd_mki {t : TypeId} {x : X} {Q : Value → Heap → Prop} : WX W (opD cf m f h ⟨dd, g, (.mki t x), fl, rk⟩) Q = W1 (some (.iface t (ev f x))) (fun v => Q v h) := by rw [opd_P rfl]; rfl
theorem op_lens {t : Bool} {x : X} {Q : Value → Heap → Prop} : WX W (opN cf f h (.lens t x)) Q = W1 (lensV t (ev f x)) (fun v => Q v h) := by rw [op_P rfl]; rfl
theorem opd_lens {t : Bool} {x : X} {Q : Value → Heap → Prop} : WX W (opD cf m f h ⟨dd, g, (.lens t x), fl, rk⟩) Q = W1 (lensV t (ev f x)) (fun v => Q v h) := by rw [opd_P rfl]; rfl
theorem op_lena {n : Nat} {Q : Value → Heap → Prop} : WX W (opN cf f h (.lena n)) Q = W1 (some (.int .i64 n)) (fun v => Q v h) := by rw [op_P rfl]; rfl
theorem opd_lena {n : Nat} {Q : Value → Heap → Prop} : WX W (opD cf m f h ⟨dd, g, (.lena n), fl, rk⟩) Q = W1 (some (.int .i64 n)) (fun v => Q v h) := by rw [opd_P rfl]; rfl
theorem op_min {x : X} {l : List X} {Q : Value → Heap → Prop} : WX W (opN cf f h (.min x l)) Q = W1 (foldO min2 (ev f x) (l.map (ev f))) (fun v => Q v h) := by rw [op_P rfl]; rfl
theorem opd_min {x : X} {l : List X} {Q : Value → Heap → Prop} : WX W (opD cf m f h ⟨dd, g, (.min x l), fl, rk⟩) Q = W1 (foldO min2 (ev f x) (l.map (ev f))) (fun v => Q v h) := by rw [opd_P rfl]; rfl
theorem op_max {x : X} {l : List X} {Q : Value → Heap → Prop} : WX W (opN cf f h (.max x l)) Q = W1 (foldO max2 (ev f x) (l.map (ev f))) (fun v => Q v h) := by rw [op_P rfl]; rfl
theorem opd_max {x : X} {l : List X} {Q : Value → Heap → Prop} : WX W (opD cf m f h ⟨dd, g, (.max x l), fl, rk⟩) Q = W1 (foldO max2 (ev f x) (l.map (ev f))) (fun v => Q v h) := by rw [opd_P rfl]; rfl
theorem op_ld {a : Option Nat} {x : X} {Q : Value → Heap → Prop} : WX W (opN cf f h (.ld a x)) Q = W1 (loadV a (ev f x) h) (fun v => Q v h) := by rw [op_M rfl]; rfl
theorem opd_ld {a : Option Nat} {x : X} {Q : Value → Heap → Prop} : WX W (opD cf m f h ⟨dd, g, (.ld a x), false, rk⟩) Q = W1 (loadV a (ev f x) h) (fun v => Q v h) := by rw [opd_M rfl]; rfl
theorem opd_ldt {a : Option Nat} {x : X} {Q : Value → Heap → Prop} : WX W (opD cf m f h ⟨dd, g, (.ld a x), true, rk⟩) Q = WL m (ev f x) (W1 (loadV a (ev f x) h) (fun v => Q v h)) := by rw [opd_Mt rfl]; rfl
theorem op_look {q : EqK} {z : Value} {m1 k1 : X} {ok : Bool} {Q : Value → Heap → Prop} : WX W (opN cf f h (.look q z m1 k1 ok)) Q = W1 (lookV q z (ev f m1) (ev f k1) ok h) (fun v => Q v h) := by rw [op_M rfl]; rfl
theorem opd_look {q : EqK} {z : Value} {m1 k1 : X} {ok : Bool} {Q : Value → Heap → Prop} : WX W (opD cf m f h ⟨dd, g, (.look q z m1 k1 ok), false, rk⟩) Q = W1 (lookV q z (ev f m1) (ev f k1) ok h) (fun v => Q v h) := by rw [opd_M rfl]; rfl
theorem opd_lookt {q : EqK} {z : Value} {m1 k1 : X} {ok : Bool} {Q : Value → Heap → Prop} : WX W (opD cf m f h ⟨dd, g, (.look q z m1 k1 ok), true, rk⟩) Q = WL m (ev f m1) (W1 (lookV q z (ev f m1) (ev f k1) ok h) (fun v => Q v h)) := by rw [opd_Mt rfl]; rfl
theorem op_lenm {x : X} {Q : Value → Heap → Prop} : WX W (opN cf f h (.lenm x)) Q = W1 (lenmV (ev f x) h) (fun v => Q v h) := by rw [op_M rfl]; rfl
theorem opd_lenm {x : X} {Q : Value → Heap → Prop} : WX W (opD cf m f h ⟨dd, g, (.lenm x), false, rk⟩) Q = W1 (lenmV (ev f x) h) (fun v => Q v h) := by rw [opd_M rfl]; rfl
theorem opd_lenmt {x : X} {Q : Value → Heap → Prop} : WX W (opD cf m f h ⟨dd, g, (.lenm x), true, rk⟩) Q = WL m (ev f x) (W1 (lenmV (ev f x) h) (fun v => Q v h)) := by rw [opd_Mt rfl]; rfl
theorem op_b2s {x : X} {Q : Value → Heap → Prop} : WX W (opN cf f h (.b2s x)) Q = W1 (b2sV (ev f x) h) (fun v => Q v h) := by rw [op_M rfl]; rfl
theorem opd_b2s {x : X} {Q : Value → Heap → Prop} : WX W (opD cf m f h ⟨dd, g, (.b2s x), false, rk⟩) Q = W1 (b2sV (ev f x) h) (fun v => Q v h) := by rw [opd_M rfl]; rfl
theorem opd_b2st {x : X} {Q : Value → Heap → Prop} : WX W (opD cf m f h ⟨dd, g, (.b2s x), true, rk⟩) Q = WL m (ev f x) (W1 (b2sV (ev f x) h) (fun v => Q v h)) := by rw [opd_Mt rfl]; rfl
theorem op_all {z : List Value} {Q : Value → Heap → Prop} : WX W (opN cf f h (.all z)) Q = W1 (newCells z fun b => .pointer (some ⟨b, 0, none⟩)) (fun n => WF (n.2 h.length) (fun v => WF (h ++ [n.1]) (fun hh => Q v hh))) := by rw [op_A rfl]; rfl
theorem opd_all {z : List Value} {Q : Value → Heap → Prop} : WX W (opD cf m f h ⟨dd, g, (.all z), fl, rk⟩) Q = W1 (newCells z fun b => .pointer (some ⟨b, 0, none⟩)) (fun n => WF (n.2 (m + rk)) (fun v => WF (h.set (m + rk) n.1) (fun hh => Q v hh))) := by rw [opd_A rfl]; rfl
theorem op_box {x : X} {Q : Value → Heap → Prop} : WX W (opN cf f h (.box x)) Q = W1 (newCells (cellsV (ev f x)) fun b => .pointer (some ⟨b, 0, none⟩)) (fun n => WF (n.2 h.length) (fun v => WF (h ++ [n.1]) (fun hh => Q v hh))) := by rw [op_A rfl]; rfl
theorem opd_box {x : X} {Q : Value → Heap → Prop} : WX W (opD cf m f h ⟨dd, g, (.box x), fl, rk⟩) Q = W1 (newCells (cellsV (ev f x)) fun b => .pointer (some ⟨b, 0, none⟩)) (fun n => WF (n.2 (m + rk)) (fun v => WF (h.set (m + rk) n.1) (fun hh => Q v hh))) := by rw [opd_A rfl]; rfl
theorem op_bsl {size : Nat} {z : List Value} {n : Nat} {p : List (Nat × Nat × X)} {Q : Value → Heap → Prop} : WX W (opN cf f h (.bsl size z n p)) Q = W1 (bslV size z n (p.map fun p => (p.1, p.2.1, ev f p.2.2))) (fun n => WF (n.2 h.length) (fun v => WF (h ++ [n.1]) (fun hh => Q v hh))) := by rw [op_A rfl]; simp only [newV, bslV, fill_eq]
theorem opd_bsl {size : Nat} {z : List Value} {n : Nat} {p : List (Nat × Nat × X)} {Q : Value → Heap → Prop} : WX W (opD cf m f h ⟨dd, g, (.bsl size z n p), fl, rk⟩) Q = W1 (bslV size z n (p.map fun p => (p.1, p.2.1, ev f p.2.2))) (fun n => WF (n.2 (m + rk)) (fun v => WF (h.set (m + rk) n.1) (fun hh => Q v hh))) := by rw [opd_A rfl]; simp only [newV, bslV, fill_eq]
theorem op_msl {z : List Value} {bytes : Nat} {x y : X} {Q : Value → Heap → Prop} : WX W (opN cf f h (.msl z bytes x y)) Q = W1 (mslV z bytes (ev f x) (ev f y)) (fun n => WF (n.2 h.length) (fun v => WF (h ++ [n.1]) (fun hh => Q v hh))) := by rw [op_A rfl]; rfl
theorem opd_msl {z : List Value} {bytes : Nat} {x y : X} {Q : Value → Heap → Prop} : WX W (opD cf m f h ⟨dd, g, (.msl z bytes x y), fl, rk⟩) Q = W1 (mslV z bytes (ev f x) (ev f y)) (fun n => WF (n.2 (m + rk)) (fun v => WF (h.set (m + rk) n.1) (fun hh => Q v hh))) := by rw [opd_A rfl]; rfl
theorem op_mkm {Q : Value → Heap → Prop} : WX W (opN cf f h .mkm) Q = W1 (some (.map [], fun b => .map (some b))) (fun n => WF (n.2 h.length) (fun v => WF (h ++ [n.1]) (fun hh => Q v hh))) := by rw [op_A rfl]; rfl
theorem opd_mkm {Q : Value → Heap → Prop} : WX W (opD cf m f h ⟨dd, g, .mkm, fl, rk⟩) Q = W1 (some (.map [], fun b => .map (some b))) (fun n => WF (n.2 (m + rk)) (fun v => WF (h.set (m + rk) n.1) (fun hh => Q v hh))) := by rw [opd_A rfl]; rfl
theorem op_s2b {x : X} {Q : Value → Heap → Prop} : WX W (opN cf f h (.s2b x)) Q = W1 (s2bV (ev f x)) (fun n => WF (n.2 h.length) (fun v => WF (h ++ [n.1]) (fun hh => Q v hh))) := by rw [op_A rfl]; rfl
theorem opd_s2b {x : X} {Q : Value → Heap → Prop} : WX W (opD cf m f h ⟨dd, g, (.s2b x), fl, rk⟩) Q = W1 (s2bV (ev f x)) (fun n => WF (n.2 (m + rk)) (fun v => WF (h.set (m + rk) n.1) (fun hh => Q v hh))) := by rw [opd_A rfl]; rfl
theorem op_mup {q : EqK} {m1 k1 v1 : X} {Q : Value → Heap → Prop} : WX W (opN cf f h (.mup q m1 k1 v1)) Q = WX W (mupV q (ev f m1) (ev f k1) (ev f v1) h) Q := by rw [op_E rfl]; rfl
theorem opd_mup {q : EqK} {m1 k1 v1 : X} {Q : Value → Heap → Prop} : WX W (opD cf m f h ⟨dd, g, (.mup q m1 k1 v1), fl, rk⟩) Q = WX W (mupV q (ev f m1) (ev f k1) (ev f v1) h) Q := by rw [opd_E rfl]; rfl
theorem op_app {size bytes : Nat} {x y : X} {Q : Value → Heap → Prop} : WX W (opN cf f h (.app size bytes x y)) Q = WX W (appendV size bytes (ev f x) (ev f y) h) Q := by rw [op_E rfl]; rfl
theorem opd_app {size bytes : Nat} {x y : X} {Q : Value → Heap → Prop} : WX W (opD cf m f h ⟨dd, g, (.app size bytes x y), fl, rk⟩) Q = WX W (appendV size bytes (ev f x) (ev f y) h) Q := by rw [opd_E rfl]; rfl
theorem op_cpy {size : Nat} {x y : X} {Q : Value → Heap → Prop} : WX W (opN cf f h (.cpy size x y)) Q = WX W (copyV size (ev f x) (ev f y) h) Q := by rw [op_E rfl]; rfl
theorem opd_cpy {size : Nat} {x y : X} {Q : Value → Heap → Prop} : WX W (opD cf m f h ⟨dd, g, (.cpy size x y), fl, rk⟩) Q = WX W (copyV size (ev f x) (ev f y) h) Q := by rw [opd_E rfl]; rfl
theorem op_clr {z : List Value} {x : X} {Q : Value → Heap → Prop} : WX W (opN cf f h (.clr z x)) Q = WX W (clearV z (ev f x) h) Q := by rw [op_E rfl]; rfl
theorem opd_clr {z : List Value} {x : X} {Q : Value → Heap → Prop} : WX W (opD cf m f h ⟨dd, g, (.clr z x), fl, rk⟩) Q = WX W (clearV z (ev f x) h) Q := by rw [opd_E rfl]; rfl
theorem op_del {q : EqK} {m1 k1 : X} {Q : Value → Heap → Prop} : WX W (opN cf f h (.del q m1 k1)) Q = WX W (delV q (ev f m1) (ev f k1) h) Q := by rw [op_E rfl]; rfl
theorem opd_del {q : EqK} {m1 k1 : X} {Q : Value → Heap → Prop} : WX W (opD cf m f h ⟨dd, g, (.del q m1 k1), fl, rk⟩) Q = WX W (delV q (ev f m1) (ev f k1) h) Q := by rw [opd_E rfl]; rfl
end
end Go.L
