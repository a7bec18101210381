/- PLACES THAT ARE SO: task.those, Higher, Lower. -/
import Derived.Test.YtlmadipiopnfeaaDoorPk
import Derived.Test.YtlmadipiopnfeaaDoorPa
set_option linter.unusedVariables false
set_option linter.unusedSimpArgs false
set_option maxRecDepth 100000
set_option maxHeartbeats 2000000
namespace Go.L.Try
open Go Go.L
variable {E : Env} {G : Nat}
def thoseW (p : Ab → Bool) (l : List Ab) : Nat → List Nat
 | 0 => List.replicate 16 0
 | k + 1 => if p (atI l (k : Int)) = true then withM (thoseW p l k) (k : Int) else thoseW p l k
theorem D7 (p : Ab → Bool) (l : List Ab) : ∀ k, okM (thoseW p l k)
 | 0 => Atw
 | k + 1 => by
  unfold thoseW
  split
  ·exact Y8 (D7 p l k) _
  ·exact D7 p l k
theorem Zd (p : Ab → Bool) (l : List Ab) : ∀ (k : Nat), k ≤ 1024 → ∀ m, Tf (thoseW p l k) m = (decide (m < k) && p (atI l (m : Int)))
 | 0, _, m => by rw [thoseW, Ap4]; simp
 | k + 1, hk, m => by
  have d := Zd p l k (by omega) m
  unfold thoseW
  by_cases a : p (atI l (k : Int)) = true
  ·rw [if_pos a, Ao9 (D7 p l k) (by omega), d]
   by_cases h : m = k
   ·subst h; simp [a]
   ·have e : decide (m < k + 1) = decide (m < k) := decide_eq_decide.2 (by omega)
    simp [h, e]
  ·rw [if_neg a, d]
   by_cases h : m = k
   ·subst h
    have c : p (atI l (m : Int)) = false := by simpa using a
    simp [c]
   ·have e : decide (m < k + 1) = decide (m < k) := decide_eq_decide.2 (by omega)
    rw [e]
theorem Acf (hE : Ay E) {h : Aa} {vl vf : Value} {l : List Ab} (hl : Rd 7 A0 h vl l) {f : FuncId} {ca cb : Array Value} (hf : vf = .func (.func f) ca cb) {i : Int} {p : Ab → Bool} (hi : 0 ≤ i ∧ i < l.length) (hn : l.length ≤ 1024)
  (hp : ∀ (h' : Aa) (t : Ab), Pre h h' → callW E vf [.agg (A0 t).toArray] h' = some (.bool (p t), h', [])) :
  callW E (.func (.func D8) #[] #[]) [vl, .int .i64 i, vf] h = some (.agg (Fu (thoseW p l l.length)).toArray, h, []) := by
 refine Am hE.Ajb rfl (by simp) ?_
 simp only [Ak]
 have few := hl.few
 have Hf := Hid.mk hf
 clear hf
 have hz : ([.int .u64 0, .int .u64 0, .int .u64 0, .int .u64 0, .int .u64 0, .int .u64 0, .int .u64 0, .int .u64 0, .int .u64 0, .int .u64 0, .int .u64 0, .int .u64 0, .int .u64 0, .int .u64 0, .int .u64 0, .int .u64 0] : List Value) = z16 := rfl
 have Hz := Hid.mk hz
 clear hz
 (repeat' (first | (with_reducible refine A2 (fun _ => ?_) (fun _ => ?_) <;> try (exfalso; omega)) | (with_reducible refine A3 (fun _ => ?_) (fun _ => ?_) <;> try (exfalso; omega)) | simp -dsimp (disch := omega) only [↓EA, EB, Nat.reduceEqDiff, Nat.reduceAdd, ↓reduceIte, reduceCtorEq, Ac, eq_self, *, hl.len]))
 rw [Hz.out]
 refine WO.loop (fun (n : Nat) fr h' => Pre h h' ∧ h.length + 2 ≤ h'.length ∧ n ≤ l.length ∧ get fr 2 = vf ∧ get fr 6 = .pointer (some ⟨h.length, 0, none⟩) ∧ get fr 7 = .pointer (some ⟨h.length + 1, 0, none⟩) ∧ get fr 19 = vl ∧ get fr 20 = .int .i64 l.length ∧ get fr 21 = .int .i64 n ∧ h'[h.length]? = some (.cells z16 false) ∧ h'[h.length + 1]? = some (.cells (Fu (thoseW p l n)) false)) (fun n => l.length - n) ?_ 0 ⟨Pre.app h _, by simp, Nat.zero_le _, rfl, rfl, rfl, rfl, rfl, rfl, by rw [Bm]; rfl, by rw [Ke]; rfl⟩
 rintro n fr h' ⟨a, a3, aa, g2, g6, g7, a6, a8, ac, b1, b2⟩
 unfold Ql
 have m := D7 p l n
 have a0 := E9 m
 have a9 := Gr (thoseW p l n)
 have ab := I4 m
 have c := fun w (hw : okM w) => A0h (d := z16) rfl hw
 have a2 : z16.length = 16 := rfl
 rcases Nat.lt_or_ge n l.length with hlt | hge
 ·have s := hl.pre a
  have q := fun (x : Aa) => hp (h' ++ x) (atI l (n : Int)) (a.app' x)
  have g : ∀ (x : Aa) (o : LObj), Pre h ((h' ++ x).set (h.length + 1) o) := fun x o => (a.app' x).set (by omega) o
  have w1 := fun x => A1z hE (h' ++ x) m (n : Int)
  have j := Y8 m (n : Int)
  have a5 := E9 j
  have a1 := Gr (withM (thoseW p l n) (n : Int))
  have y := A0h a0 j
  have v := Hid.mk (show thoseW p l (n + 1) = if p (atI l (n : Int)) = true then withM (thoseW p l n) (n : Int) else thoseW p l n from rfl)
  have r := Hid.mk g
  have a4 := Hid.mk a
  have u : ∀ x, (h' ++ x)[h.length]? = some (.cells z16 false) := fun x => by rw [GL (by omega)]; exact b1
  have z : ∀ x, (h' ++ x)[h.length + 1]? = some (.cells (Fu (thoseW p l n)) false) := fun x => by rw [GL (by omega)]; exact b2
  clear m j c g
  generalize withM (thoseW p l n) (n : Int) = w2 at *
  generalize thoseW p l n = w1 at *
  simp only [A0] at q
  (repeat' (first | (with_reducible refine A3 (fun _ => ?_) (fun _ => ?_) <;> try (exfalso; omega)) | refine A4 (fun _ => ?_) (fun _ => ?_) | simp -dsimp (disch := omega) only [↓EA, EB, Nat.reduceEqDiff, Nat.reduceAdd, ↓reduceIte, Ac, eq_self, *, s.ixs, s.lda, A0, a.le]))
  ·refine Next.mk (n + 1) ⟨r.out _ _, by simp; omega, by omega, rfl, rfl, rfl, rfl, rfl, rfl, ?_, ?_⟩ (by omega)
   ·rw [Bd (by omega)]; exact u _
   ·rw [Cb (by simp; omega), v.out, if_pos (by assumption)]
  ·refine Next.mk (n + 1) ⟨a.app' _, by simp; omega, by omega, rfl, rfl, rfl, rfl, rfl, rfl, u _, ?_⟩ (by omega)
   rw [z, v.out, if_neg (Bool.eq_false_iff.1 (by assumption))]
 ·have e : n = l.length := by omega
  subst e
  have a7 := Vx (thoseW p l l.length) h.length
  have y := c _ m
  (repeat' (first | (with_reducible refine A3 (fun _ => ?_) (fun _ => ?_) <;> try (exfalso; omega)) | simp -dsimp (disch := omega) only [↓EA, EB, Nat.reduceEqDiff, ↓reduceIte, eq_self, *]))
def Bc (l : List Ab) (i : Int) : Ab → Bool := fun t => decide (t.P < (atI l i).P)
def Du (l : List Ab) (i : Int) : Ab → Bool := fun t => decide ((atI l i).P < t.P)
theorem Aqb (hE : Ay E) {h : Aa} {vl : Value} {l : List Ab} (hl : Rd 7 A0 h vl l) {i : Int} (hi : 0 ≤ i ∧ i < l.length) {b c : Nat} (hb : h[b]? = some (.cells [vl] false)) (hc : h[c]? = some (.cells [.int .i64 i] false)) (t : Ab) :
  callW E (.func (.func Cv) #[] #[.pointer (some ⟨b, 0, none⟩), .pointer (some ⟨c, 0, none⟩)]) [.agg (A0 t).toArray] h = some (.bool (Bc l i t), h, []) := by
 rw [Tb hE.Q5]
 refine Am hE.Q5 rfl (by simp) ?_
 simp only [List.nil_append, List.cons_append, Ak]
 have d : ∀ x, (h ++ x)[b]? = some (.cells [vl] false) := fun x => by rw [GL (GI.1 hb).1]; exact hb
 have a : ∀ x, (h ++ x)[c]? = some (.cells [.int .i64 i] false) := fun x => by rw [GL (GI.1 hc).1]; exact hc
 unfold Bc
 (repeat' simp -dsimp (disch := omega) only [↓EA, EB, Nat.reduceEqDiff, Nat.reduceAdd, ↓reduceIte, reduceCtorEq, Ac, eq_self, *, hl.ixs, hl.ldx, A0])
theorem Aeo (hE : Ay E) {h : Aa} {vl : Value} {l : List Ab} (hl : Rd 7 A0 h vl l) {i : Int} (hi : 0 ≤ i ∧ i < l.length) (hn : l.length ≤ 1024) :
  callW E (.func (.func Em) #[] #[]) [vl, .int .i64 i] h = some (.agg (Fu (thoseW (Bc l i) l l.length)).toArray, h, []) := by
 refine Am hE.Afl rfl (by simp) ?_
 have d := hl.cv
 have n := hl.one
 have q := fun (x : Aa) (hb : (h ++ x)[h.length]? = some (.cells [vl] false)) (d : (h ++ x)[h.length + 1]? = some (.cells [.int .i64 i] false)) => Acf hE (hl.app x) (vf := .func (.func Cv) #[] #[.pointer (some ⟨h.length, 0, none⟩), .pointer (some ⟨h.length + 1, 0, none⟩)]) rfl (i := i) (p := Bc l i) hi hn (fun h' t c => Aqb hE ((hl.app x).pre c) hi (c _ _ hb) (c _ _ d) t)
 have o : ∀ y, callW E (.func (.func D8) #[] #[]) [vl, .int .i64 i, .func (.func Cv) #[] #[.pointer (some ⟨h.length, 0, none⟩), .pointer (some ⟨h.length + 1, 0, none⟩)]] (h ++ (LObj.cells [vl] false :: LObj.cells [.int .i64 i] false :: y)) = some (.agg (Fu (thoseW (Bc l i) l l.length)).toArray, h ++ (LObj.cells [vl] false :: LObj.cells [.int .i64 i] false :: y), []) := fun y => q _ (by rw [Bm]; rfl) (by rw [Ke]; rfl)
 clear q
 have a := D7 (Bc l i) l l.length
 generalize thoseW (Bc l i) l l.length = w at *
 have e := E9 a
 have j := Gr w
 have m := I4 a
 have f := Alf a
 have g := Vx w h.length
 simp only [Ak]
 (repeat' simp -dsimp (disch := omega) only [↓EA, EB, Nat.reduceEqDiff, Nat.reduceAdd, ↓reduceIte, reduceCtorEq, Ac, eq_self, *])
theorem Auc (hE : Ay E) {h : Aa} {vl : Value} {l : List Ab} (hl : Rd 7 A0 h vl l) {i : Int} (hi : 0 ≤ i ∧ i < l.length) {b c : Nat} (hb : h[b]? = some (.cells [vl] false)) (hc : h[c]? = some (.cells [.int .i64 i] false)) (t : Ab) :
  callW E (.func (.func Db) #[] #[.pointer (some ⟨b, 0, none⟩), .pointer (some ⟨c, 0, none⟩)]) [.agg (A0 t).toArray] h = some (.bool (Du l i t), h, []) := by
 rw [Tb hE.Tl]
 refine Am hE.Tl rfl (by simp) ?_
 simp only [List.nil_append, List.cons_append, Ak]
 have d : ∀ x, (h ++ x)[b]? = some (.cells [vl] false) := fun x => by rw [GL (GI.1 hb).1]; exact hb
 have a : ∀ x, (h ++ x)[c]? = some (.cells [.int .i64 i] false) := fun x => by rw [GL (GI.1 hc).1]; exact hc
 unfold Du
 (repeat' simp -dsimp (disch := omega) only [↓EA, EB, Nat.reduceEqDiff, Nat.reduceAdd, ↓reduceIte, reduceCtorEq, Ac, eq_self, *, hl.ixs, hl.ldx, A0])
theorem Aud (hE : Ay E) {h : Aa} {vl : Value} {l : List Ab} (hl : Rd 7 A0 h vl l) {i : Int} (hi : 0 ≤ i ∧ i < l.length) (hn : l.length ≤ 1024) :
  callW E (.func (.func G5) #[] #[]) [vl, .int .i64 i] h = some (.agg (Fu (thoseW (Du l i) l l.length)).toArray, h, []) := by
 refine Am hE.Ajd rfl (by simp) ?_
 have d := hl.cv
 have n := hl.one
 have q := fun (x : Aa) (hb : (h ++ x)[h.length]? = some (.cells [vl] false)) (d : (h ++ x)[h.length + 1]? = some (.cells [.int .i64 i] false)) => Acf hE (hl.app x) (vf := .func (.func Db) #[] #[.pointer (some ⟨h.length, 0, none⟩), .pointer (some ⟨h.length + 1, 0, none⟩)]) rfl (i := i) (p := Du l i) hi hn (fun h' t c => Auc hE ((hl.app x).pre c) hi (c _ _ hb) (c _ _ d) t)
 have o : ∀ y, callW E (.func (.func D8) #[] #[]) [vl, .int .i64 i, .func (.func Db) #[] #[.pointer (some ⟨h.length, 0, none⟩), .pointer (some ⟨h.length + 1, 0, none⟩)]] (h ++ (LObj.cells [vl] false :: LObj.cells [.int .i64 i] false :: y)) = some (.agg (Fu (thoseW (Du l i) l l.length)).toArray, h ++ (LObj.cells [vl] false :: LObj.cells [.int .i64 i] false :: y), []) := fun y => q _ (by rw [Bm]; rfl) (by rw [Ke]; rfl)
 clear q
 have a := D7 (Du l i) l l.length
 generalize thoseW (Du l i) l l.length = w at *
 have e := E9 a
 have j := Gr w
 have m := I4 a
 have f := Alf a
 have g := Vx w h.length
 simp only [Ak]
 (repeat' simp -dsimp (disch := omega) only [↓EA, EB, Nat.reduceEqDiff, Nat.reduceAdd, ↓reduceIte, reduceCtorEq, Ac, eq_self, *])
end Go.L.Try
namespace Go.L.Try
open Go Go.L
variable {E : Env} {G : Nat}
theorem Ad9 (n : Nat) : List.range' 0 n = List.range n := List.range_eq_range'.symm
theorem Aie {w : List Nat} {n : Nat} {q : Nat → Bool} (hn : n ≤ 1024) (hm : ∀ m, Tf w m = (decide (m < n) && q m)) : Al w 0 = (List.range n).filter q := by
 unfold Al
 have e : 1024 - 0 = n + (1024 - n) := by omega
 rw [e, List.range'_append_1.symm, List.filter_append, Ad9]
 have c : (List.range n).filter (Tf w) = (List.range n).filter q := by
  apply List.filter_congr
  intro m a
  rw [hm, decide_eq_true (List.mem_range.1 a), Bool.true_and]
 have h2 : (List.range' (0 + n) (1024 - n)).filter (Tf w) = [] := by
  rw [List.filter_eq_nil_iff]
  intro m a
  have := (List.mem_range'_1.1 a).1
  rw [hm, decide_eq_false (by omega), Bool.false_and]; decide
 rw [c, h2, List.append_nil]
theorem Kg {α : Type} {f : α → Nat → α} {a0 : α} {q : Nat → Bool} (N : Nat → α) (h0 : N 0 = a0) (hN : ∀ k, N (k + 1) = if q k = true then f (N k) k else N k) : ∀ n, ((List.range n).filter q).foldl f a0 = N n
 | 0 => h0.symm
 | n + 1 => by
  rw [List.range_succ, List.filter_append, List.foldl_append, Kg N h0 hN n, hN]
  by_cases h : q n = true
  ·rw [if_pos h]; simp [h]
  ·rw [if_neg h]; simp [h]
def accL {α : Type} (f : α → Nat → α) (a0 : α) (es : List Nat) (k : Nat) : α := (es.take k).foldl f a0
theorem Md {α : Type} {f : α → Nat → α} {a0 : α} {es : List Nat} {k m : Nat} (h : es[k]? = some m) : accL f a0 es (k + 1) = f (accL f a0 es k) m := by
 unfold accL
 have a := (GI.1 h).1
 have e : es.take (k + 1) = es.take k ++ [m] := by
  rw [List.take_add_one, h]; rfl
 rw [e, List.foldl_append]; rfl
theorem Sq {α : Type} (f : α → Nat → α) (a0 : α) (es : List Nat) : accL f a0 es es.length = es.foldl f a0 := by unfold accL; rw [List.take_length]
theorem Pb {α : Type} {f : α → Nat → α} {a0 : α} {es : List Nat} (I : α → Prop) (h0 : I a0) (hs : ∀ a m, m ∈ es → I a → I (f a m)) : ∀ k, I (accL f a0 es k)
 | 0 => h0
 | k + 1 => by
  cases h : es[k]? with
  | some m => rw [Md h]; exact hs _ _ (List.mem_of_getElem? h) (Pb I h0 hs k)
  | none =>
   have e : accL f a0 es (k + 1) = accL f a0 es k := by
    unfold accL
    rw [List.getElem?_eq_none_iff] at h
    rw [List.take_of_length_le (by omega), List.take_of_length_le h]
   rw [e]; exact Pb I h0 hs k
def placesQ (q : Ab → Bool) (l : List Ab) : List Nat := (List.range l.length).filter fun m => q (atI l (m : Int))
theorem Jp (q : Ab → Bool) {l : List Ab} (hn : l.length ≤ 1024) : Al (thoseW q l l.length) 0 = placesQ q l :=
 Aie hn fun m => Zd q l l.length hn m
theorem Mt {q : Ab → Bool} {l : List Ab} {m : Nat} (h : m ∈ placesQ q l) : m < l.length := List.mem_range.1 (List.mem_filter.1 h).1
def X9 (l : List Ab) (a : Int) (m : Nat) : Int := max a ((atI l (m : Int)).Q - 1)
theorem Ak1 (l : List Ab) (i : Int) : accL (X9 l) 0 (placesQ (Du l i) l) (placesQ (Du l i) l).length = Iv l i l.length := by
 rw [Sq]
 exact Kg (Iv l i) rfl (fun k => by show (if _ then _ else _) = _; simp only [Du, decide_eq_true_eq]; rfl) _
theorem A1n (hE : Ay E) (hZ : Fd E G) {h : Aa} (ht : Tab G h) {vl : Value} {l : List Ab} (hl : Rd 7 A0 h vl l) (hs : ∀ t ∈ l, t.name.size < 1152921504606846976) (i : Int) :
  callW E (.func (.func Gq) #[] #[]) [vl, .int .i64 i] h = some (.int .i64 (blockP l i), h, []) := by
 have hi := fun x => Aun hE (hl.app x) hs i
 have hc := hl.cv
 have ho := hl.one
 refine Am hE.Aez rfl (by simp) ?_
 simp only [Ak]
 unfold blockP
 cases d : isP l i
 ·rw [d] at hi
  (repeat' simp -dsimp (disch := omega) only [↓EA, EB, Nat.reduceEqDiff, ↓reduceIte, reduceCtorEq, Ac, eq_self, *])
 ·rw [d] at hi
  obtain ⟨a5, g, a2⟩ := E7 d
  have q := fun x => Aud hE (hl.app x) a5 g
  have ok := D7 (Du l i) l l.length
  have ev := Jp (Du l i) g
  have Hf := Hid.mk (Ak1 l i)
  have Hm := Hid.mk (fun m (h : m ∈ placesQ (Du l i) l) => Mt h)
  generalize placesQ (Du l i) l = es at *
  generalize thoseW (Du l i) l l.length = w at *
  rw [if_pos rfl]
  (repeat' simp -dsimp (disch := omega) only [↓EA, EB, Nat.reduceEqDiff, ↓reduceIte, reduceCtorEq, Ac, eq_self, *])
  refine J4 (Awc hE _ ok) fun v ys hr a8 => ?_
  obtain ⟨bx, rfl, a6, p⟩ := hr
  (repeat' simp -dsimp (disch := omega) only [↓EA, EB, Nat.reduceEqDiff, ↓reduceIte, eq_self, *])
  simp only [List.append_assoc, List.cons_append, List.nil_append, LA, List.length_cons, List.length_nil] at p a6
  have a1 := (GI.1 p).1
  have y : Pre h (h ++ LObj.cells [vl] false :: LObj.cells [Value.int IntKind.i64 0] false :: ys) := Pre.app h _
  have e : ∀ m, m ∈ es → 1 ≤ (atI l (m : Int)).Q ∧ (atI l (m : Int)).Q ≤ 2147483647 := fun m s => by
   have a7 := Hm.out m s
   have := (a2 _ (Aj (l := l) (i := (m : Int)) (by omega) (by omega))).1
   simp only [An] at this; omega
  have r : ∀ k, 0 ≤ accL (X9 l) 0 es k ∧ accL (X9 l) 0 es k ≤ 2147483647 := Pb (fun a => 0 ≤ a ∧ a ≤ 2147483647) ⟨by decide, by decide⟩ (fun a m s ⟨h1, h2⟩ => by
   have := e m s
   unfold X9; omega)
  refine V2 hE.keep rfl (Wb hE hZ ok bx) (c := h.length + 1) (by simp) (by omega) (fun k => .int .i64 (accL (X9 l) 0 es k)) (fun _ => rfl) (by rw [Ke]; rfl) rfl (fun hh e1 e2 => ⟨by rw [e2 bx a1 (by omega)]; exact p, ht.pre fun b o d => by have a3 := (GI.1 d).1; rw [e2 b (by simp; omega) (by omega)]; exact y b o d⟩) ?_ ?_
  ·intro k a ha
   rw [ev, List.getElem?_map] at ha
   obtain ⟨m, s, rfl⟩ := OM.1 ha
   have j := List.mem_of_getElem? s
   have a7 := Hm.out m j
   have hq := e m j
   have n := Hid.mk (Md (f := X9 l) (a0 := 0) s)
   have a9 := r k
   clear ha s r e Hf ev ok q hi d a2
   refine ⟨_, rfl, fun hh g1 g2 g3 => ?_⟩
   unfold Nw
   (repeat' simp -dsimp (disch := omega) only [↓EA, EB, Nat.reduceEqDiff, Nat.reduceAdd, ↓reduceIte, eq_self, *])
   refine ⟨[], (List.append_nil _).symm, fun z k1 k2 k3 => ?_⟩
   have a4 : Pre h z := fun b o d => by
    have a3 := (GI.1 d).1
    rw [k3 b (by omega) (by omega)]; exact y b o d
   have u := hl.pre a4
   have b1 : z[h.length]? = some (.cells [vl] false) := by rw [k3 h.length (by omega) (by omega), Bm]; rfl
   generalize accL (X9 l) 0 es k = A at *
   have Hb := Hid.mk (show X9 l A m = max A ((atI l (m : Int)).Q - 1) from rfl)
   unfold Nv
   (repeat' simp -dsimp (disch := omega) only [↓EA, EB, Nat.reduceEqDiff, ↓reduceIte, eq_self, *, u.ixs, u.ld, A0, true_or])
   exact ⟨[], by rw [List.append_nil, n.out, Hb.out]⟩
  ·rw [ev, List.length_map, Hf.out]
   clear Hf r e ev
   (repeat' simp -dsimp (disch := omega) only [↓EA, EB, Nat.reduceEqDiff, ↓reduceIte, eq_self, *])
def hstep (l : List Ab) (w : Int) (a : Int) (m : Nat) : Int := sat (a + sat (oftenP (atI l (m : Int)) w * (atI l (m : Int)).C))
theorem Ahw (l : List Ab) (i w : Int) : accL (hstep l w) 0 (placesQ (Bc l i) l) (placesQ (Bc l i) l).length = Ef l i w l.length := by
 rw [Sq]
 exact Kg (Ef l i w) rfl (fun k => by show (if _ then _ else _) = _; simp only [Bc, decide_eq_true_eq]; rfl) _
theorem Ax8 (hE : Ay E) (hX : Kp E) (hZ : Fd E G) {h : Aa} (ht : Tab G h) {vl : Value} {l : List Ab} (hl : Rd 7 A0 h vl l) (hs : ∀ t ∈ l, t.name.size < 1152921504606846976) (i : Int) {w : Int} (hw : A8 w) :
  callW E (.func (.func Fs) #[] #[]) [vl, .int .i64 i, .int .u64 w] h = some (.int .u64 (higherP l i w), h, []) := by
 have hi := fun x => Aun hE (hl.app x) hs i
 have hc := hl.cv
 have ho := hl.one
 refine Am hE.Ab9 rfl (by simp) ?_
 simp only [Ak]
 have ac := hw
 unfold A8 at ac
 unfold higherP
 by_cases a9 : w = 0
 ·subst a9
  rw [if_neg (by omega)]
  (repeat' simp -dsimp (disch := omega) only [↓EA, EB, Nat.reduceEqDiff, Nat.reduceAdd, ↓reduceIte, reduceCtorEq, Ac, eq_self, *])
 cases e : isP l i
 ·rw [e] at hi
  rw [if_neg (by simp)]
  (repeat' simp -dsimp (disch := omega) only [↓EA, EB, Nat.reduceEqDiff, Nat.reduceAdd, ↓reduceIte, reduceCtorEq, Ac, eq_self, *])
 ·rw [e] at hi
  obtain ⟨ab, j, a6⟩ := E7 e
  have q := fun x => Aeo hE (hl.app x) ab j
  have ok := D7 (Bc l i) l l.length
  have ev := Jp (Bc l i) j
  have Hf := Hid.mk (Ahw l i w)
  have Hm := Hid.mk (fun m (h : m ∈ placesQ (Bc l i) l) => Mt h)
  generalize placesQ (Bc l i) l = es at *
  generalize thoseW (Bc l i) l l.length = wm at *
  rw [if_pos ⟨rfl, by omega⟩]
  (repeat' simp -dsimp (disch := omega) only [↓EA, EB, Nat.reduceEqDiff, Nat.reduceAdd, ↓reduceIte, reduceCtorEq, Ac, eq_self, *])
  refine J4 (Awc hE _ ok) fun v ys hr a1 => ?_
  obtain ⟨bx, rfl, ae, s⟩ := hr
  (repeat' simp -dsimp (disch := omega) only [↓EA, EB, Nat.reduceEqDiff, ↓reduceIte, eq_self, *])
  simp only [List.append_assoc, List.cons_append, List.nil_append, LA, List.length_cons, List.length_nil] at s ae
  have a3 := (GI.1 s).1
  have a2 : Pre h (h ++ LObj.cells [vl] false :: LObj.cells [Value.int IntKind.u64 w] false :: LObj.cells [Value.int IntKind.u64 0] false :: ys) := Pre.app h _
  have g : ∀ m, m ∈ es → Ci (atI l (m : Int)) := fun m y => by
   have ad := Hm.out m y
   exact a6 _ (Aj (l := l) (i := (m : Int)) (by omega) (by omega))
  have u : ∀ k, A8 (accL (hstep l w) 0 es k) := Pb A8 ⟨by decide, by decide⟩ (fun a m y ha => by
   have a5 := g m y
   have h1 := (Vh a5 hw).2
   have h2 := (Ie a5).1
   have h3 := Rc (Int.mul_nonneg h1.1 (show 0 ≤ (atI l (m : Int)).C by omega))
   exact Rc (by have := ha.1; have := h3.1; omega))
  refine V2 hE.keep rfl (Wb hE hZ ok bx) (c := h.length + 2) (by simp) (by omega) (fun k => .int .u64 (accL (hstep l w) 0 es k)) (fun _ => rfl) (by rw [Ke]; rfl) rfl (fun hh e1 e2 => ⟨by rw [e2 bx a3 (by omega)]; exact s, ht.pre fun b o e => by have a8 := (GI.1 e).1; rw [e2 b (by simp; omega) (by omega)]; exact a2 b o e⟩) ?_ ?_
  ·intro k a ha
   rw [ev, List.getElem?_map] at ha
   obtain ⟨m, y, rfl⟩ := OM.1 ha
   have n := List.mem_of_getElem? y
   have ad := Hm.out m n
   have hq := g m n
   have r := Hid.mk (Md (f := hstep l w) (a0 := 0) y)
   have a7 := u k
   clear ha y u g Hf ev ok q hi e a6
   refine ⟨_, rfl, fun hh g1 g2 g3 => ?_⟩
   unfold Nd
   (repeat' simp -dsimp (disch := omega) only [↓EA, EB, Nat.reduceEqDiff, Nat.reduceAdd, ↓reduceIte, eq_self, *])
   refine ⟨[], (List.append_nil _).symm, fun d k1 k2 k3 => ?_⟩
   have aa : Pre h d := fun b o e => by
    have a8 := (GI.1 e).1
    rw [k3 b (by omega) (by omega)]; exact a2 b o e
   have z := hl.pre aa
   have b1 : d[h.length]? = some (.cells [vl] false) := by rw [k3 h.length (by omega) (by omega), Bm]; rfl
   have b2 : d[h.length + 1]? = some (.cells [.int .u64 w] false) := by rw [k3 (h.length + 1) (by omega) (by omega), Ke]; rfl
   obtain ⟨hC, hT, hJ⟩ := Ie hq
   have q1 := fun x => Axo hE hX (d ++ x) hq hw
   have o2 := (Vh hq hw).2
   have p : A8 (atI l (m : Int)).C := by unfold A8; omega
   have q2 := fun x => Aty hE (d ++ x) o2 p
   have a4 := Rc (Int.mul_nonneg o2.1 p.1)
   generalize accL (hstep l w) 0 es k = A at *
   have Hb := Hid.mk (show hstep l w A m = sat (A + sat (oftenP (atI l (m : Int)) w * (atI l (m : Int)).C)) from rfl)
   generalize oftenP (atI l (m : Int)) w = O at *
   generalize sat (O * (atI l (m : Int)).C) = S at *
   have q3 := Ake hE hX (h := d ++ [LObj.cells [.int .u64 S] false]) (vl := .slice (some ⟨d.length, 0, none⟩) 1 1) (l := [S]) (Rd.lit (enc := Aqi) [S] (by rw [Bm]; rfl) rfl (fun _ => rfl) (by simp) (by simp) (.inl rfl)) a7 (fun x hx => by rw [List.mem_singleton.1 hx]; exact a4)
   have e3 : sumU A [S] = sat (A + S) := rfl
   rw [e3] at q3
   have ak : h.length + 3 ≤ d.length := by omega
   have af : h.length + (ys.length + 3) < d.length := by omega
   clear k1 hq hw p a7 a4 o2 a1 g1 g2 g3 k3
   simp only [A0] at q1
   have ah : ∀ x, (d ++ x)[h.length]? = some (.cells [vl] false) := fun x => by rw [GL (by omega)]; exact b1
   have aj : ∀ x, (d ++ x)[h.length + 1]? = some (.cells [.int .u64 w] false) := fun x => by rw [GL (by omega)]; exact b2
   have ai : ∀ x, (d ++ x)[h.length + 2]? = some (.cells [.int .u64 A] false) := fun x => by rw [GL (by omega)]; exact k2
   have ag : ∀ x o, (d ++ x).set (h.length + 2) o = d.set (h.length + 2) o ++ x := fun x o => by rw [List.set_append_left _ _ (by omega)]
   rw [List.append_nil]
   unfold Nc
   (repeat' simp -dsimp (disch := omega) only [↓EA, EB, Nat.reduceEqDiff, Nat.reduceLeDiff, Nat.reduceMul, ↓reduceIte, Ac, Sk, eq_self, *, z.ixs, z.ldx, z.ldxa, A0, true_or, Ak7])
   exact ⟨_, by rw [r.out, Hb.out]⟩
  ·rw [ev, List.length_map, Hf.out]
   clear Hf u g ev
   (repeat' simp -dsimp (disch := omega) only [↓EA, EB, Nat.reduceEqDiff, ↓reduceIte, eq_self, *])
theorem Azi (hE : Ay E) (hX : Kp E) (hZ : Fd E G) {h : Aa} (ht : Tab G h) {vl : Value} {l : List Ab} (hl : Rd 7 A0 h vl l) (hs : ∀ t ∈ l, t.name.size < 1152921504606846976) (i : Int) {w : Int} (hw : A8 w) :
  callW E (.func (.func F0) #[] #[]) [vl, .int .i64 i, .int .u64 w] h = some (.int .u64 (Cg l i w), h, []) := by
 have j := Aun hE hl hs i
 refine Am hE.Aig rfl (by simp) ?_
 simp only [Ak]
 unfold Cg
 cases hb : isP l i
 ·rw [hb] at j
  (repeat' simp -dsimp (disch := omega) only [↓EA, EB, Nat.reduceEqDiff, Nat.reduceAdd, ↓reduceIte, reduceCtorEq, eq_self, *])
 ·rw [hb] at j
  have y := fun x => A1n hE hZ (ht.app x) (hl.app x) hs i
  have z := fun x => Ax8 hE hX hZ (ht.app x) (hl.app x) hs i hw
  obtain ⟨a, g, e⟩ := E7 hb
  have d := e _ (Aj a.1 a.2)
  obtain ⟨p, v, r⟩ := Ie d
  have o := Adk hb
  have c : A8 (higherP l i w) := Aau hw
  clear hb d e
  generalize blockP l i = B at *
  generalize higherP l i w = Hi at *
  have u := Ake hE hX (h := h ++ [LObj.cells [.int .u64 B, .int .u64 Hi] false]) (vl := .slice (some ⟨h.length, 0, none⟩) 2 2) (l := [B, Hi]) (Rd.lit (enc := Aqi) [B, Hi] (by rw [Bm]; rfl) rfl (fun _ => rfl) (by simp) (by simp) (.inl rfl)) (s := (atI l i).C) (by unfold A8; omega) (fun x f => by
   simp only [List.mem_cons, List.not_mem_nil, or_false] at f
   rcases f with rfl | rfl
   ·unfold A8; omega
   ·exact c)
  have n : sumU 0 [(atI l i).C, B, Hi] = sumU (atI l i).C [B, Hi] := by
   show sat (sat (sat (0 + (atI l i).C) + B) + Hi) = sat (sat ((atI l i).C + B) + Hi)
   have : sat (0 + (atI l i).C) = (atI l i).C := by unfold sat; rw [if_pos (by omega)]; omega
   rw [this]
  rw [if_pos rfl, n]
  have m : blk vl < h.length := hl.lt' (by
   rintro rfl
   have := hl.len
   simp only [Uf, OI, Value.int.injEq, true_and] at this
   omega)
  generalize sumU (atI l i).C [B, Hi] = S at *
  clear c hw n
  (repeat' simp -dsimp (disch := omega) only [↓EA, EB, Nat.reduceEqDiff, Nat.reduceAdd, Nat.reduceLeDiff, Nat.reduceMul, ↓reduceIte, reduceCtorEq, Ac, Sk, eq_self, *, hl.ixs, hl.ldx, A0, Ak7])
end Go.L.Try
namespace Go.L.Try
open Go Go.L
variable {E : Env} {G : Nat}
theorem Aa1 (l : List Ab) (i : Int) (n : Nat) (w : Int) : ∃ r, Nr l i n w = w :: r := by
 cases n with
 | zero => exact ⟨[], rfl⟩
 | succ n => unfold Nr; split <;> exact ⟨_, rfl⟩
def uV (w : Int) : List Value := [.int .u64 w]
theorem Aql (hE : Ay E) (hX : Kp E) (hZ : Fd E G) {vl : Value} {l : List Ab} (hs : ∀ t ∈ l, t.name.size < 1152921504606846976) (i : Int) (b1 b2 : Nat) :
  Afd E (.func (.func Fz) #[] #[.pointer (some ⟨b1, 0, none⟩), .pointer (some ⟨b2, 0, none⟩)]) (fun h => (h[b1]? = some (.cells [vl] false) ∧ h[b2]? = some (.cells [.int .i64 i] false)) ∧ Rd 7 A0 h vl l ∧ Tab G h) ((Tu l i).map uV) := by
 intro h1 L W J Stop hJ h0 hS step
 refine Aux hE.keep hE.Af6 rfl (by simp) ?_
 obtain ⟨_, ⟨ab, ad⟩, hl, ht⟩ := hJ 0 h1 h0
 have hi := Azo hE hl hs i
 simp only [List.cons_append, List.nil_append, Ak]
 have HJ := Hid.mk hJ
 have HS := Hid.mk hS
 have a0 := Hid.mk step
 have H0 := Hid.mk h0
 clear hJ hS step h0
 cases hb : isP l i
 ·rw [hb] at hi
  have e : Tu l i = [] := by unfold Tu; rw [hb]; rfl
  rw [e]
  have a6 := H0.out
  clear H0 HJ HS a0
  have H0 := Hid.mk a6
  clear a6
  (repeat' simp -dsimp (disch := omega) only [↓EA, EB, Nat.reduceEqDiff, Nat.reduceAdd, ↓reduceIte, reduceCtorEq, eq_self, *])
  exact .inl H0.out
 ·rw [hb] at hi
  obtain ⟨a3, af, a4⟩ := E7 hb
  have hm := Rq hb
  have j := (a4 _ (Aj a3.1 a3.2)).1
  simp only [An] at j
  have hD := j.2.2.2.2.1
  have aj := j.2.2.2.2.2.2.1
  have a1 : G9 l i = (atI l i).D - (atI l i).J := rfl
  have z0 : A8 0 := ⟨by decide, by decide⟩
  have q0 := Azi hE hX hZ ht hl hs i z0
  obtain ⟨u0, u1⟩ := Rp hb z0
  have u2 := Ip hb z0 u0.1
  have ev : Tu l i = Nr l i ((G9 l i).toNat + 1) (Cg l i 0) := by unfold Tu; rw [hb]; rfl
  generalize hvals : (Tu l i).map uV = vals at *
  rw [ev] at hvals
  generalize hN0 : Cg l i 0 = N0 at *
  have d := Hid.mk hvals
  have aa := Hid.mk a1
  have Hb := Hid.mk hb
  clear a4 j hvals ev hN0 hb
  generalize hmost : G9 l i = most at *
  (repeat' simp -dsimp (disch := omega) only [↓EA, EB, Nat.reduceEqDiff, Nat.reduceAdd, ↓reduceIte, reduceCtorEq, eq_self, *, hl.ixs, hl.ld, A0])
  rw [← aa.out]
  clear a1
  refine WO.loop (α := List Int × Int) (fun s fr h' => J s.1.length h' ∧ get fr 0 = .func (.yield L) #[] #[] ∧ get fr 1 = .pointer (some ⟨b1, 0, none⟩) ∧ get fr 2 = .pointer (some ⟨b2, 0, none⟩) ∧ get fr 4 = .int .u64 most ∧ get fr 5 = .int .u64 s.2 ∧ A8 s.2 ∧ s.2 ≤ Cg l i s.2 ∧ ∃ k, Nr l i (most.toNat + 1) N0 = s.1 ++ Nr l i k s.2 ∧ (most + 1 - s.2).toNat ≤ k) (fun s => (most + 1 - s.2).toNat) ?_ ([], N0) ⟨H0.out, rfl, rfl, rfl, rfl, rfl, u0, u2, most.toNat + 1, rfl, by simp only []; omega⟩
  rintro ⟨pre, w⟩ fr h' ⟨hj, g0, g1, g2, g4, g5, hu, x, k, hk, a8⟩
  dsimp only at hj hu x hk a8 g5
  unfold O9
  have y := Aa1 l i k w
  obtain ⟨ah, f⟩ := y
  have hv : vals[pre.length]? = some (uV w) := by
   rw [← d.out, List.getElem?_map, hk, f, List.getElem?_append_right (Nat.le_refl _), Nat.sub_self]; rfl
  have n := Hid.mk (a0.out pre.length h' _ hv hj)
  have ag := Hid.mk (HJ.out pre.length h' hj).1
  have Hk := Hid.mk hk
  have Hj := Hid.mk hj
  have hstep : ∀ m, Nr l i (m + 1) w = if most < w ∨ Cg l i w = w then [w] else w :: Nr l i m (Cg l i w) := fun m => by rw [← hmost]; rfl
  have u := Hid.mk hstep
  have o : Nr l i k w = [w] → vals.length = pre.length + 1 := fun e => by rw [← d.out, hk, e]; simp
  have p := Hid.mk o
  have a2 := Hid.mk x
  have c : most < w ∨ Cg l i w = w → Nr l i k w = [w] := fun e => by
   cases k with
   | zero => rfl
   | succ m => rw [hstep, if_pos e]
  have a := Hid.mk c
  have a9 := Hid.mk hmost
  clear hk hv hj hstep o f H0 q0 u0 u1 u2 hi ab ad x c a0 hmost z0
  unfold uV at n
  (repeat' simp -dsimp (disch := omega) only [↓EA, EB, Nat.reduceEqDiff, ↓reduceIte, eq_self, *])
  refine WX.mono n.out (fun b h => h) fun v h2 hx => ?_
  rcases hx with ⟨rfl, r⟩ | ⟨rfl, a5⟩
  ·obtain ⟨hlen2, ⟨c1, c2⟩, hl2, ht2⟩ := HJ.out (pre.length + 1) h2 r
   have q := Azi hE hX hZ ht2 hl2 hs i hu
   obtain ⟨n0, _⟩ := Rp Hb.out hu
   have n1 := Ip Hb.out hu a2.out
   have a7 := Hid.mk r
   have ae := Hid.mk n1
   have g := Hid.mk hlen2
   have ac := Hid.mk n0
   have Hu := Hid.mk hu
   clear r n n1 hlen2 hl2 ht2
   generalize hN : Cg l i w = N at *
   have HN := Hid.mk hN
   clear hN
   unfold A8 at hu n0
   have e2 : vals.length = pre.length + 1 → J vals.length h2 := fun e => by rw [e]; exact a7.out
   have E2 := Hid.mk e2
   clear e2
   (repeat' (first | (with_reducible refine A3 (fun _ => ?_) (fun _ => ?_) <;> try (exfalso; omega)) | simp -dsimp (disch := omega) only [↓EA, EB, Nat.reduceEqDiff, ↓reduceIte, reduceCtorEq, eq_self, *]))
   ·exact ⟨g.out, .inl (E2.out (p.out (a.out (.inr (by assumption)))))⟩
   ·obtain ⟨k', rfl⟩ : ∃ k', k = k' + 1 := ⟨k - 1, by omega⟩
    have ai := a2.out
    refine Next.mk (pre ++ [w], N) ⟨by simpa using a7.out, rfl, rfl, rfl, rfl, rfl, ac.out, ae.out, k', ?_, by simp only []; omega⟩ (by simp only []; omega)
    rw [Hk.out, u.out, if_neg (by omega)]; simp
   ·exact ⟨g.out, .inl (E2.out (p.out (a.out (.inl (by omega)))))⟩
  ·have z := Hid.mk a5
   clear a5 n
   (repeat' simp -dsimp (disch := omega) only [↓EA, EB, Nat.reduceEqDiff, ↓reduceIte, reduceCtorEq, eq_self, *])
   first
    | exact ⟨HS.out _ z.out, .inr z.out⟩
    | exact .inr z.out
def A3q (m : Nat) (vl : Value) (l : List Ab) (i : Int) : Aa → Value → Prop := Clo2 m Fz (fun h v => v = vl ∧ Rd 7 A0 h vl l) (fun _ v => v = .int .i64 i)
theorem A3c (hE : Ay E) {h : Aa} {vl : Value} {l : List Ab} (hl : Rd 7 A0 h vl l) (i : Int) :
  ∃ v ys, callW E (.func (.func Mr) #[] #[]) [vl, .int .i64 i] h = some (v, h ++ ys, []) ∧ A3q h.length vl l i (h ++ ys) v := by
 refine Pw hE.Asc rfl (Clo2.movable (hl.old_movable Azr) (Kc rfl)) (by simp) ?_
 have a := hl.cv
 have c := hl.one
 simp only [Ak]
 (repeat' simp -dsimp (disch := omega) only [↓EA, EB, Nat.reduceEqDiff, ↓reduceIte, reduceCtorEq, Ac, eq_self, *])
 exact ⟨⟨_, rfl⟩, _, _, _, _, rfl, ⟨Nat.le_refl _, by omega⟩, ⟨by rw [Bm]; rfl, by rw [Ke]; rfl⟩, ⟨rfl, hl.app _⟩, rfl⟩
def Anm (es : List Int) (k : Nat) : Int := if k = 0 then 0 else es.getD (k - 1) 0
theorem Aap {es : List Int} {k : Nat} {w : Int} (h : es[k]? = some w) : Anm es (k + 1) = w := by
 unfold Anm
 rw [if_neg (by omega), Nat.add_sub_cancel, List.getD_eq_getElem?_getD, h]; rfl
theorem Aal {l : List Ab} {i : Int} : ∀ (n : Nat) (w : Int), (∀ v, w ≤ v → v < w + n → v < Cg l i v) → N9 l i n w = none
 | 0, _, _ => rfl
 | n + 1, w, h => by
  have c := h w (Int.le_refl _) (by omega)
  unfold N9
  rw [if_neg (by omega)]
  exact Aal n (w + 1) fun v a b => h v (by omega) (by omega)
theorem Aak {l : List Ab} {i w0 : Int} (hw : Cg l i w0 ≤ w0) : ∀ (n : Nat) (w : Int), w ≤ w0 → w0 < w + n → (∀ v, w ≤ v → v < w0 → v < Cg l i v) → N9 l i n w = some w0
 | 0, w, h1, h2, _ => by omega
 | n + 1, w, h1, h2, h => by
  unfold N9
  by_cases e : w = w0
  ·subst e; rw [if_pos hw]
  ·have := h w (Int.le_refl _) (by omega)
   rw [if_neg (by omega)]
   exact Aak hw n (w + 1) (by omega) (by omega) fun v a b => h v (by omega) b
theorem Aa0 {l : List Ab} {i : Int} (hb : isP l i = true) : ∀ (n : Nat) (w : Int), (G9 l i + 1 - w).toNat ≤ n → A8 w → 1 ≤ w → w ≤ Cg l i w → (∀ v, 1 ≤ v → v < w → v < Cg l i v) →
  ∃ z, (Nr l i n w).getLast? = some z ∧ A8 z ∧ 1 ≤ z ∧ (z ≤ G9 l i → Cg l i z = z) ∧ ∀ v, 1 ≤ v → v < z → v < Cg l i v
 | 0, w, hn, c, f, hle, d => ⟨w, rfl, c, f, fun h => by omega, d⟩
 | n + 1, w, hn, c, f, hle, d => by
  unfold Nr
  by_cases h : G9 l i < w ∨ Cg l i w = w
  ·rw [if_pos h]
   exact ⟨w, rfl, c, f, fun g => by rcases h with h | h; omega; exact h, d⟩
  ·rw [if_neg h]
   have h2 := (Rp hb c).1
   obtain ⟨z, e, g⟩ := Aa0 hb n (Cg l i w) (by omega) h2 (by omega) (Ip hb c hle) (fun v a b => by
    rcases Int.lt_or_le v w with hc | hc
    ·exact d v a hc
    ·have := Ip hb c hc; omega)
   refine ⟨z, ?_, g⟩
   obtain ⟨r, j⟩ := Aa1 l i n (Cg l i w)
   rw [j] at e ⊢
   rw [List.getLast?_cons_cons]; exact e
theorem Akr {l : List Ab} {i : Int} (hb : isP l i = true) : ∃ z, (Tu l i).getLast? = some z ∧ A8 z ∧ 1 ≤ z ∧ (z ≤ G9 l i → Lc l i = some z) ∧ (G9 l i < z → Lc l i = none) := by
 have c : A8 0 := ⟨by decide, by decide⟩
 obtain ⟨f, n⟩ := Rp hb c
 have o := Rq hb
 obtain ⟨z, j, h2, g, m, d⟩ := Aa0 hb ((G9 l i).toNat + 1) (Cg l i 0) (by omega) f n (Ip hb c f.1) (fun v a b => by have := Ip hb c (show 0 ≤ v by omega); omega)
 have ev : Tu l i = Nr l i ((G9 l i).toNat + 1) (Cg l i 0) := by unfold Tu; rw [hb]; rfl
 rw [ev]
 refine ⟨z, j, h2, g, fun e => ?_, fun e => ?_⟩
 ·have := m e
  exact Aak (by omega) _ _ g (by omega) d
 ·exact Aal _ _ fun v a b => d v a (by omega)
theorem Ap9 {es : List Int} {z : Int} (h : es.getLast? = some z) : Anm es es.length = z := by
 rw [List.getLast?_eq_getElem?] at h
 have a := (GI.1 h).1
 obtain ⟨k, c⟩ : ∃ k, es.length = k + 1 := ⟨es.length - 1, by omega⟩
 rw [c] at h ⊢
 exact Aap h
theorem Avw (hE : Ay E) (hX : Kp E) (hZ : Fd E G) {h : Aa} (ht : Tab G h) {vl : Value} {l : List Ab} (hl : Rd 7 A0 h vl l) (hs : ∀ t ∈ l, t.name.size < 1152921504606846976) (i : Int) :
  callW E (.func (.func I2) #[] #[]) [vl, .int .i64 i] h = some (.tuple #[.int .i64 (boundP l i).1, .int .i64 (boundP l i).2], h, []) := by
 have hi := Azo hE hl hs i
 refine Am hE.Apq rfl (by simp) ?_
 simp only [Ak]
 unfold boundP
 cases d : isP l i
 ·rw [d] at hi
  rw [if_neg (by decide)]
  (repeat' simp -dsimp (disch := omega) only [↓EA, EB, Nat.reduceEqDiff, ↓reduceIte, reduceCtorEq, eq_self, *])
 ·rw [d] at hi
  rw [if_pos rfl]
  obtain ⟨r, a2, s⟩ := E7 d
  have hm := Rq d
  have f := (s _ (Aj r.1 r.2)).1
  simp only [An] at f
  have hD := f.2.2.2.2.1
  have a5 := f.2.2.2.2.2.2.1
  have a4 : G9 l i = (atI l i).D - (atI l i).J := rfl
  obtain ⟨z, z1, z2, z3, z4, z5⟩ := Akr d
  have Hz := Hid.mk (Ap9 z1)
  have Z4 := Hid.mk z4
  have Z5 := Hid.mk z5
  clear s f z1 z4 z5
  (repeat' simp -dsimp (disch := omega) only [↓EA, EB, Nat.reduceEqDiff, ↓reduceIte, reduceCtorEq, Ac, eq_self, *])
  refine J4 (A3c hE (hl.app _) i) fun v ys hr p => ?_
  obtain ⟨b1, b2, u1, u2, rfl, ⟨a1, y⟩, ⟨g, j⟩, ⟨rfl, _⟩, rfl⟩ := hr
  (repeat' simp -dsimp (disch := omega) only [↓EA, EB, Nat.reduceEqDiff, ↓reduceIte, reduceCtorEq, eq_self, *])
  simp only [List.append_assoc, List.cons_append, List.nil_append, LA, List.length_cons, List.length_nil] at g j a1 y
  have u := (GI.1 g).1
  have e := (GI.1 j).1
  have a0 : Pre h (h ++ LObj.cells [Value.int IntKind.u64 0] false :: ys) := Pre.app h _
  refine V2 hE.keep rfl (Aql hE hX hZ hs i b1 b2) (c := h.length) (by simp) (by omega) (fun k => .int .u64 (Anm (Tu l i) k)) (fun _ => rfl) (by rw [Bm]; rfl) rfl (fun hh e1 e2 => ⟨⟨by rw [e2 b1 u (by omega)]; exact g, by rw [e2 b2 e (by omega)]; exact j⟩, ?_⟩) ?_ ?_
  ·have n : Pre h hh := fun b o d => by have a3 := (GI.1 d).1; rw [e2 b (by simp; omega) (by omega)]; exact a0 b o d
   exact ⟨hl.pre n, ht.pre n⟩
  ·intro k a x
   rw [List.getElem?_map] at x
   obtain ⟨w, hw, rfl⟩ := OM.1 x
   have m := Hid.mk (Aap hw)
   clear x hw
   refine ⟨_, rfl, fun hh g1 g2 g3 => ?_⟩
   unfold Se
   (repeat' simp -dsimp (disch := omega) only [↓EA, EB, Nat.reduceEqDiff, Nat.reduceAdd, ↓reduceIte, reduceCtorEq, eq_self, *])
   refine ⟨[], (List.append_nil _).symm, fun a6 k1 k2 k3 => ?_⟩
   unfold Sd
   (repeat' simp -dsimp (disch := omega) only [↓EA, EB, Nat.reduceEqDiff, ↓reduceIte, eq_self, *, true_or])
   exact ⟨[], by rw [List.append_nil, m.out]⟩
  ·rw [List.length_map, Hz.out]
   have e := hl.app (LObj.cells [Value.int IntKind.u64 z] false :: ys)
   clear d p g j
   unfold A8 at z2
   (repeat' (first | (with_reducible refine A3 (fun _ => ?_) (fun _ => ?_) <;> try (exfalso; omega)) | simp -dsimp (disch := omega) only [↓EA, EB, Nat.reduceEqDiff, Nat.reduceAdd, ↓reduceIte, reduceCtorEq, Ac, eq_self, *, e.ixs, e.lda, A0]))
   ·rw [Z5.out (by omega)]
   ·rw [Z4.out (by omega)]
end Go.L.Try
namespace Go.L.Try
open Go Go.L
variable {E : Env} {G : Nat}
theorem X2 {l : List Ab} {i : Int} : ∀ {n : Nat} {w : Int}, N9 l i n w = none → ∀ v, w ≤ v → v < w + n → v < Cg l i v
 | 0, w, _, v, h1, h2 => by omega
 | n + 1, w, h, v, h1, h2 => by
  unfold N9 at h
  split at h
  ·cases h
  ·rename_i a
   by_cases e : v = w
   ·subst e; omega
   ·exact X2 h v (by omega) (by omega)
theorem Nq {l : List Ab} {i z : Int} : ∀ {n : Nat} {w : Int}, N9 l i n w = some z → (w ≤ z ∧ z < w + n) ∧ Cg l i z ≤ z ∧ ∀ v, w ≤ v → v < z → v < Cg l i v
 | 0, w, h => by cases h
 | n + 1, w, h => by
  unfold N9 at h
  split at h
  ·rename_i c
   cases h
   exact ⟨by omega, c, fun v d h2 => by omega⟩
  ·rename_i c
   obtain ⟨d, h2, f⟩ := Nq h
   refine ⟨by omega, h2, fun v a b => ?_⟩
   by_cases e : v = w
   ·subst e; omega
   ·exact f v (by omega) b
theorem Ahn {l : List Ab} {i z : Int} (hb : isP l i = true) (h : Lc l i = some z) : (1 ≤ z ∧ z ≤ G9 l i) ∧ Cg l i z = z ∧ ∀ v, 1 ≤ v → v < z → v < Cg l i v := by
 obtain ⟨g, h2, a⟩ := Nq h
 have m := Rq hb
 refine ⟨by omega, ?_, a⟩
 have d : A8 z := by unfold A8; omega
 obtain ⟨e, c⟩ := Rp hb d
 rcases Int.lt_or_le (Cg l i z) z with hlt | hge
 ·have j := a _ c hlt
  have f := Ip hb e (show Cg l i z ≤ z by omega)
  omega
 ·omega
end Go.L.Try
set_option maxHeartbeats 1000000
namespace Go.L.Try
open Go Go.L
theorem Abk {α β : Type} [Inhabited α] [Inhabited β] (f : α → β) {l : List α} {i : Int} (h0 : 0 ≤ i) (h1 : i < l.length) : atI (l.map f) i = f (atI l i) := by
 obtain ⟨n, rfl⟩ := Int.eq_ofNat_of_zero_le h0
 have a : n < l.length := by omega
 rw [Bw a, Bw (by simpa using a), List.getElem_map]
def hN (l : List Ab) (i w : Int) : Nat → Int
 | 0 => 0
 | k + 1 => if (atI l (k : Int)).P < (atI l i).P then hN l i w k + ((w + (atI l (k : Int)).J + (atI l (k : Int)).T - 1) / (atI l (k : Int)).T) * (atI l (k : Int)).C else hN l i w k
structure Mid (t : Ab) : Prop where
 C : 1 ≤ t.C ∧ t.C ≤ 134217728
 T : 1 ≤ t.T ∧ t.T ≤ 1073741824
 J : 0 ≤ t.J ∧ t.J ≤ 536870912
theorem Awt {t : Ab} (m : Mid t) {w : Int} (hw : 0 ≤ w ∧ w ≤ 1073741824) : oftenP t w = (w + t.J + t.T - 1) / t.T ∧ 0 ≤ ((w + t.J + t.T - 1) / t.T) * t.C ∧ ((w + t.J + t.T - 1) / t.T) * t.C ≤ 576460752303423488 := by
 obtain ⟨a, d, f⟩ := m
 have e : oftenP t w = (w + t.J + t.T - 1) / t.T := by
  unfold oftenP sat
  rw [if_pos (by omega)]
 have c : 0 ≤ (w + t.J + t.T - 1) / t.T := Int.ediv_nonneg (by omega) (by omega)
 have h2 : (w + t.J + t.T - 1) / t.T ≤ 2684354560 := Int.le_trans (Int.ediv_le_self _ (by omega)) (by omega)
 refine ⟨e, Int.mul_nonneg c (by omega), ?_⟩
 exact Int.le_trans (Int.mul_le_mul h2 a.2 (by omega) (by omega)) (by decide)
theorem Azh {l : List Ab} (hl : ∀ t ∈ l, Mid t) (hn : l.length ≤ 6) {i w : Int} (hw : 0 ≤ w ∧ w ≤ 1073741824) : ∀ n : Nat, n ≤ l.length → Ef l i w n = hN l i w n ∧ 0 ≤ hN l i w n ∧ hN l i w n ≤ n * 576460752303423488
 | 0, _ => by simp [Ef, hN]
 | n + 1, h => by
  obtain ⟨e, d, h2⟩ := Azh hl hn (i := i) hw n (by omega)
  obtain ⟨f, j, g⟩ := Awt (hl _ (Aj (l := l) (i := (n : Int)) (by omega) (by omega))) hw
  unfold Ef hN
  split
  ·rw [e, f]
   generalize ((w + (atI l (n : Int)).J + (atI l (n : Int)).T - 1) / (atI l (n : Int)).T) * (atI l (n : Int)).C = x at *
   have a : sat x = x := by unfold sat; rw [if_pos (by omega)]
   rw [a]
   have c : sat (hN l i w n + x) = hN l i w n + x := by unfold sat; rw [if_pos (by omega)]
   rw [c]
   exact ⟨rfl, by omega, by omega⟩
  ·exact ⟨e, d, by omega⟩
def sc (k : Int) (t : Ab) : Ab := ⟨t.name, t.C * k, t.T * k, t.D * k, t.J * k, 1, t.P⟩
structure Sml (t : Ab) : Prop where
 ok : Ci t
 C : 1 ≤ t.C ∧ t.C ≤ 4
 D : t.C ≤ t.D ∧ t.D ≤ 14
 J : 0 ≤ t.J ∧ t.C + t.J ≤ t.D
 T : t.D ≤ t.T ∧ t.T ≤ 20
 Q : t.Q = 1
theorem N8 {x k a b : Int} (hk : 1 ≤ k ∧ k ≤ 33554432) (ha : 0 ≤ a) (hx : a ≤ x ∧ x ≤ b) : a ≤ x * k ∧ x * k ≤ b * 33554432 := by
 have c : a * 1 ≤ x * k := Int.mul_le_mul hx.1 hk.1 (by decide) (by omega)
 have h2 : x * k ≤ b * 33554432 := Int.mul_le_mul hx.2 hk.2 (by omega) (by omega)
 rw [Int.mul_one] at c
 exact ⟨c, h2⟩
theorem Wg {l : List Ab} (hv : D5 l) {i : Int} (h0 : 0 ≤ i) (h1 : i < l.length) : isP l i = true := by
 unfold D5 at hv; unfold isP; exact decide_eq_true ⟨hv, h0, h1⟩
end Go.L.Try
