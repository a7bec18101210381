/- THE LOGICAL MACHINE AND THE MODEL: when a value, a heap, a frame of the one stands for one of the other. -/
import Derived.Test.YtdklgcjbjphadaaW
import Derived.RangeFuncLeaves
import Derived.RangeFuncRecord
import Derived.RangeFuncCalls
import Derived.OrdersIn
import Derived.Laws.Sem
import Derived.Laws.World
import Derived.Laws.Cells
import Derived.Laws.Entries
import Derived.Laws.NewFold
import Derived.ChangeKeysEq
import Derived.Below
set_option linter.unusedVariables false
set_option linter.unusedSimpArgs false
namespace Go.L
open Go
/-! ### Rows, element by element -/
inductive All2 {α β : Type} (R : α → β → Prop) : List α → List β → Prop
  | nil : All2 R [] []
  | cons {a b l m} (h : R a b) (t : All2 R l m) : All2 R (a :: l) (b :: m)
namespace All2
variable {α β : Type} {R : α → β → Prop}
theorem length {l : List α} {m : List β} (h : All2 R l m) : l.length = m.length := by
  induction h with
  | nil => rfl
  | cons _ _ ih => simp [ih]
theorem at_ {l : List α} {m : List β} (h : All2 R l m) : ∀ {i : Nat} {a : α}, l[i]? = some a → ∃ b, m[i]? = some b ∧ R a b := by
  induction h with
  | nil => intro i a h; simp at h
  | cons hr _ ih =>
    intro i a h
    cases i with
    | zero => simp at h; subst h; exact ⟨_, rfl, hr⟩
    | succ i => simp at h; simpa using ih h
theorem of_at : ∀ {l : List α} {m : List β}, l.length = m.length → (∀ (i : Nat) a b, l[i]? = some a → m[i]? = some b → R a b) → All2 R l m
  | [], [], _, _ => .nil
  | a :: l, b :: m, hl, h => .cons (h 0 a b rfl rfl) (of_at (by simpa using hl) fun i x y hx hy => h (i + 1) x y (by simpa using hx) (by simpa using hy))
theorem mono {R' : α → β → Prop} {l : List α} {m : List β} (h : All2 R l m) (hr : ∀ a b, R a b → R' a b) : All2 R' l m := by
  induction h with
  | nil => exact .nil
  | cons h _ ih => exact .cons (hr _ _ h) ih
theorem append {l l' : List α} {m m' : List β} (h : All2 R l m) (h' : All2 R l' m') : All2 R (l ++ l') (m ++ m') := by
  induction h with
  | nil => exact h'
  | cons h _ ih => exact .cons h ih
theorem drop {l : List α} {m : List β} (h : All2 R l m) (n : Nat) : All2 R (l.drop n) (m.drop n) := by
  induction h generalizing n with
  | nil => simpa using All2.nil
  | cons h t ih =>
    cases n with
    | zero => exact .cons h t
    | succ n => exact ih n
theorem take {l : List α} {m : List β} (h : All2 R l m) (n : Nat) : All2 R (l.take n) (m.take n) := by
  induction h generalizing n with
  | nil => simpa using All2.nil
  | cons h t ih =>
    cases n with
    | zero => exact .nil
    | succ n => exact .cons h (ih n)
theorem set {l : List α} {m : List β} (h : All2 R l m) (n : Nat) {a : α} {b : β} (hr : R a b) : All2 R (l.set n a) (m.set n b) := by
  induction h generalizing n with
  | nil => exact .nil
  | cons h t ih =>
    cases n with
    | zero => exact .cons hr t
    | succ n => exact .cons h (ih n)
theorem replicate (n : Nat) {a : α} {b : β} (hr : R a b) : All2 R (List.replicate n a) (List.replicate n b) := by
  induction n with
  | zero => exact .nil
  | succ n ih => exact .cons hr ih
theorem map {γ δ : Type} {S : γ → δ → Prop} {f : α → γ} {g : β → δ} {l : List α} {m : List β} (h : All2 R l m) (hf : ∀ a b, R a b → S (f a) (g b)) : All2 S (l.map f) (m.map g) := by
  induction h with
  | nil => exact .nil
  | cons h _ ih => exact .cons (hf _ _ h) ih
theorem flatten {L : List (List α)} {M : List (List β)} (h : All2 (All2 R) L M) : All2 R L.flatten M.flatten := by
  induction h with
  | nil => exact .nil
  | cons h _ ih => exact h.append ih
end All2

/-! ### Values -/
/-- Where a block stands: in which of the model's, from which cell on, and of how many cells that is. -/
structure Img where
  rb : Nat
  off : Nat
  size : Nat
abbrev Inj := Nat → Option Img
inductive VR (ι : Inj) : Value → Value → Prop
  | any (r : Value) : VR ι forgot r
  | bool (b : Bool) : VR ι (.bool b) (.bool b)
  | int (k : IntKind) (n : Int) : VR ι (.int k n) (.int k n)
  | float (k : FloatKind) (n : Nat) : VR ι (.float k n) (.float k n)
  | complex (k : FloatKind) (a b : Nat) : VR ι (.complex k a b) (.complex k a b)
  | string (s : ByteArray) : VR ι (.string s) (.string s)
  | nilp : VR ι (.pointer none) (.pointer none)
  | ptr {b : Nat} {m : Img} (off : Nat) (h : ι b = some m) : VR ι (.pointer (some ⟨b, off, none⟩)) (.pointer (some ⟨m.rb, m.off + off, none⟩))
  | nils (n c : Nat) : VR ι (.slice none n c) (.slice none n c)
  | slice {b : Nat} {m : Img} (off n c : Nat) (h : ι b = some m) : VR ι (.slice (some ⟨b, off, none⟩) n c) (.slice (some ⟨m.rb, m.off + off, none⟩) n c)
  | slice0 {b : Nat} {m : Img} (off : Nat) (a : Addr) (h : ι b = some m) : VR ι (.slice (some ⟨b, off, none⟩) 0 0) (.slice (some a) 0 0)
  | loose {b : Nat} {m : Img} (off s n c : Nat) (h : ι b = some m) (hn : n ≤ c) (hc : m.off + off + c * s ≤ m.size) : VR ι (.slice (some ⟨b, off, some s⟩) n n) (.slice (some ⟨m.rb, m.off + off, none⟩) n c)
  | loose0 {b : Nat} {m : Img} (off s : Nat) (a : Addr) (h : ι b = some m) : VR ι (.slice (some ⟨b, off, some s⟩) 0 0) (.slice (some a) 0 0)
  | nilm : VR ι (.map none) (.map none)
  | map {r : Nat} {m : Img} (h : ι r = some m) : VR ι (.map (some r)) (.map (some m.rb))
  | func (f : FuncId) {a b a' b' : List Value} (ha : All2 (VR ι) a a') (hb : All2 (VR ι) b b') : VR ι (.func (.func f) a.toArray b.toArray) (.func (.func f) a'.toArray b'.toArray)
  | yield {l : Nat} {m : Img} (h : ι l = some m) {a b a' b' : List Value} (ha : All2 (VR ι) a a') (hb : All2 (VR ι) b b') : VR ι (.func (.yield l) a.toArray b.toArray) (.func (.yield m.rb) a'.toArray b'.toArray)
  | nilf : VR ι .nilFunc .nilFunc
  | nili : VR ι .nilIface .nilIface
  | iface (t : TypeId) {v v' : Value} (h : VR ι v v') : VR ι (.iface t v) (.iface t v')
  | agg {a a' : List Value} (h : All2 (VR ι) a a') : VR ι (.agg a.toArray) (.agg a'.toArray)
  | tuple {a a' : List Value} (h : All2 (VR ι) a a') : VR ι (.tuple a.toArray) (.tuple a'.toArray)
abbrev VRs (ι : Inj) := All2 (VR ι)
def Sub (ι ι' : Inj) : Prop := ∀ b m, ι b = some m → ι' b = some m
theorem Sub.refl (ι : Inj) : Sub ι ι := fun _ _ h => h
theorem Sub.trans {a b c : Inj} (h : Sub a b) (k : Sub b c) : Sub a c := fun x m e => k x m (h x m e)

/-- By the numbers of the blocks that are named: the relation goes over to another injection. -/
theorem VR.mono {ι ι' : Inj} (hs : Sub ι ι') : ∀ {v r : Value}, VR ι v r → VR ι' v r := by
  intro v r h
  induction h using VR.rec (motive_2 := fun l m _ => All2 (VR ι') l m) with
  | any r => exact .any r
  | bool b => exact .bool b
  | int k n => exact .int k n
  | float k n => exact .float k n
  | complex k a b => exact .complex k a b
  | string s => exact .string s
  | nilp => exact .nilp
  | ptr off h => exact .ptr off (hs _ _ h)
  | nils n c => exact .nils n c
  | slice off n c h => exact .slice off n c (hs _ _ h)
  | slice0 off a h => exact .slice0 off a (hs _ _ h)
  | loose off s n c h hn hc => exact .loose off s n c (hs _ _ h) hn hc
  | loose0 off s a h => exact .loose0 off s a (hs _ _ h)
  | nilm => exact .nilm
  | map h => exact .map (hs _ _ h)
  | func f _ _ ha hb => exact .func f ha hb
  | yield h _ _ ha hb => exact .yield (hs _ _ h) ha hb
  | nilf => exact .nilf
  | nili => exact .nili
  | iface t _ ih => exact .iface t ih
  | agg _ ih => exact .agg ih
  | tuple _ ih => exact .tuple ih
  | nil => exact .nil
  | cons _ _ h t => exact .cons h t
theorem VRs.mono {ι ι' : Inj} (hs : Sub ι ι') {l m : List Value} (h : VRs ι l m) : VRs ι' l m := All2.mono h fun _ _ => VR.mono hs

/-- What names no block stands for itself. -/
theorem VR.self {ι : Inj} : ∀ (d : Nat) (v : Value), noNew 0 d v = true → VR ι v v := by
  intro d
  induction d with
  | zero => intro v h; simp [noNew] at h
  | succ d ih =>
    have all : ∀ l : List Value, l.all (noNew 0 d) = true → All2 (VR ι) l l := by
      intro l
      induction l with
      | nil => intro _; exact .nil
      | cons x l ihl => intro h; simp at h; exact .cons (ih x h.1) (ihl (by simpa using h.2))
    intro v h
    cases v with
    | bool b => exact .bool b
    | int k n => exact .int k n
    | float k n => exact .float k n
    | complex k a b => exact .complex k a b
    | string s => exact .string s
    | pointer a => cases a with
      | none => exact .nilp
      | some a => simp [noNew] at h
    | slice a n c => cases a with
      | none => exact .nils n c
      | some a => simp [noNew] at h
    | map r => cases r with
      | none => exact .nilm
      | some r => simp [noNew] at h
    | chan r => simp [noNew] at h
    | func fn a b =>
      obtain ⟨a⟩ := a; obtain ⟨b⟩ := b
      cases fn with
      | func f => simp only [noNew, Bool.true_and, Bool.and_eq_true] at h; exact .func f (all _ h.1) (all _ h.2)
      | yield l => simp [noNew] at h
      | method _ => simp [noNew] at h
      | methodOf _ _ => simp [noNew] at h
      | via _ _ _ _ => simp [noNew] at h
    | nilFunc => exact .nilf
    | iface t v => exact .iface t (ih v (by simpa [noNew] using h))
    | nilIface => exact .nili
    | agg cs => obtain ⟨cs⟩ := cs; exact .agg (all _ (by simpa only [noNew] using h))
    | tuple cs => obtain ⟨cs⟩ := cs; exact .tuple (all _ (by simpa only [noNew] using h))

/-! ### Frames, operands -/
/-- A frame within a region stands for the model's temporaries. -/
structure FFR (ι : Inj) (sz : Nat) (f : FF) (t : Array Value) : Prop where
  size : t.size = sz
  at_ : ∀ s, VR ι (f s) (t.getD s undef)
theorem FFR.mono {ι ι' : Inj} (hs : Sub ι ι') {sz : Nat} {f : FF} {t : Array Value} (h : FFR ι sz f t) : FFR ι' sz f t := ⟨h.size, fun s => (h.at_ s).mono hs⟩
theorem FFR.put {ι : Inj} {sz : Nat} {f : FF} {t : Array Value} (h : FFR ι sz f t) {d : Nat} (hd : d < sz) {v r : Value} (hv : VR ι v r) : FFR ι sz (upd f d v) (t.setIfInBounds d r) := by
  refine ⟨by simp [h.size], fun s => ?_⟩
  unfold upd
  split
  · rename_i e
    subst e
    have : s < t.size := by rw [h.size]; exact hd
    simp [Array.getD, this]
    exact hv
  · rename_i e
    have := h.at_ s
    simp only [Array.getD_eq_getD_getElem?] at this ⊢
    rw [Array.getElem?_setIfInBounds_ne (fun e' => e e'.symm)]
    exact this
theorem FFR.live {ι : Inj} {sz : Nat} {f : FF} {t : Array Value} (h : FFR ι sz f t) (l : List Nat) : FFR ι sz (get (l.map fun s => (s, f s))) t := by
  refine ⟨h.size, fun s => ?_⟩
  induction l with
  | nil => exact .any _
  | cons a l ih =>
    simp only [List.map_cons, get]
    split
    · rename_i e; subst e; exact h.at_ s
    · exact ih
theorem VR.undef {ι : Inj} : VR ι undef undef := .tuple .nil
/-- Operands. -/
theorem ev_rel {ι : Inj} {sz : Nat} {f : FF} {a : Act} (h : FFR ι sz f a.tmps) {y : Operand} {x : X} (hx : cX y = some x) : VR ι (ev f x) (a.eval y) := by
  cases y with
  | tmp t => simp only [cX, Option.some.injEq] at hx; subst hx; exact h.at_ t
  | const v =>
    simp only [cX] at hx
    split at hx
    · rename_i hv; simp only [Option.some.injEq] at hx; subst hx; exact VR.self 4 v hv
    · cases hx
  | global g => simp [cX] at hx
  | func g => simp only [cX, Option.some.injEq] at hx; subst hx; exact .func g .nil .nil
theorem mapM_rel {α β : Type} {g : α → Option β} : ∀ {l : List α} {m : List β}, l.mapM g = some m → All2 (fun a b => g a = some b) l m
  | [], m, h => by simp at h; subst h; exact .nil
  | a :: l, m, h => by
    simp only [List.mapM_cons, Option.bind_eq_bind, Option.bind_eq_some_iff, Option.pure_def, Option.some.injEq] at h
    obtain ⟨b, hb, r, hr, rfl⟩ := h
    exact .cons hb (mapM_rel hr)
theorem evs_rel {ι : Inj} {sz : Nat} {f : FF} {a : Act} (h : FFR ι sz f a.tmps) {ys : List Operand} {xs : List X} (hx : cXs ys = some xs) : VRs ι (xs.map (ev f)) (ys.map a.eval) := by
  have := mapM_rel hx
  clear hx
  induction this with
  | nil => exact .nil
  | cons h' _ ih => exact .cons (ev_rel h h') ih

/-! ### Taking a related value apart -/
section
variable {ι : Inj} {r : Value}
theorem VR.int_inv {k : IntKind} {n : Int} (h : VR ι (.int k n) r) : r = .int k n := by cases h; rfl
theorem VR.bool_inv {b : Bool} (h : VR ι (.bool b) r) : r = .bool b := by cases h; rfl
theorem VR.string_inv {s : ByteArray} (h : VR ι (.string s) r) : r = .string s := by cases h; rfl
theorem VR.ptr_inv {a : Addr} (h : VR ι (.pointer (some a)) r) : ∃ m, ι a.block = some m ∧ a.spot = none ∧ r = .pointer (some ⟨m.rb, m.off + a.off, none⟩) := by
  cases h with | ptr off h => exact ⟨_, h, rfl, rfl⟩
theorem VR.map_inv {b : Nat} (h : VR ι (.map (some b)) r) : ∃ m, ι b = some m ∧ r = .map (some m.rb) := by
  cases h with | map h => exact ⟨_, h, rfl⟩
theorem VR.agg_inv {cs : Array Value} (h : VR ι (.agg cs) r) : ∃ cs' : Array Value, r = .agg cs' ∧ VRs ι cs.toList cs'.toList := by
  cases h with | agg h => exact ⟨_, rfl, h⟩
theorem VR.tuple_inv {cs : Array Value} (h : VR ι (.tuple cs) r) (hn : (Value.tuple cs) ≠ forgot) : ∃ cs' : Array Value, r = .tuple cs' ∧ VRs ι cs.toList cs'.toList := by
  generalize hv : (Value.tuple cs) = v at h hn
  cases h with
  | any r => exact absurd rfl hn
  | tuple h => cases hv; exact ⟨_, rfl, h⟩
  | _ => cases hv
end
end Go.L
