/- THE LOGICAL MACHINE AND THE MODEL: operations that look at no heap (3). -/
import Derived.Test.YtlmadipiopnfeaaDoorSa
set_option linter.unusedVariables false
set_option linter.unusedSimpArgs false
namespace Go.L
open Go
variable {P : Program} {ι : Inj} {w : World}
section
variable {sz : Nat} {f : FF} {a : Act} {o : Oper} {q : O} {v : Value}
theorem A33 {op : UnOp} {t : TypeId} {x : Operand} (hf : FFR ι sz f a.tmps) (ho : o.op = .unOp op t x) {x' : X} (hx : cX x = some x') (hv : Aw f (.un op x') = some v) : Cu P ι a o v w := by
 have c := Au hf hx
 simp only [Aw] at hv
 unfold unOp at hv
 split at hv
 ·rename_i k n e
  rw [e] at c
  simp only [OI] at hv; subst hv
  exact ⟨_, by simp only [execOp, ho, c.int_inv]; exact D3 _ rfl, .int _ _⟩
 ·rename_i b e
  rw [e] at c
  simp only [OI] at hv; subst hv
  exact ⟨_, by simp only [execOp, ho, c.bool_inv]; exact D3 _ rfl, .bool _⟩
 ·cases hv
theorem A25 {src dst : TypeId} {k0 k : IntKind} {x : Operand} (hs : P.underlying src = some (.int k0)) (hd : P.underlying dst = some (.int k)) (hf : FFR ι sz f a.tmps) (ho : o.op = .convert src dst x) {x' : X} (hx : cX x = some x') (hv : Aw f (.cvi k x') = some v) : Cu P ι a o v w := by
 have c := Au hf hx
 simp only [Aw] at hv
 split at hv
 ·rename_i d n e
  rw [e] at c
  simp only [OI] at hv; subst hv
  refine ⟨.int k (k.wrap n), ?_, .int _ _⟩
  simp only [execOp, ho, c.int_inv]
  refine D3 _ ?_
  simp only [Go.convert, Sem.run_bind, run_underlying hs, run_underlying hd, Result.andThen]; rfl
 ·cases hv
theorem A24 {src dst : TypeId} {x : Operand} (hs : P.underlying src = some .string) (hd : P.underlying dst = some .string) (hf : FFR ι sz f a.tmps) (ho : o.op = .convert src dst x) {x' : X} (hx : cX x = some x') (hv : Aw f (.cvs x') = some v) : Cu P ι a o v w := by
 have c := Au hf hx
 simp only [Aw] at hv
 split at hv
 ·rename_i s e
  rw [e] at c
  simp only [OI] at hv; subst hv
  refine ⟨.string s, ?_, .string _⟩
  simp only [execOp, ho, c.string_inv]
  refine D3 _ ?_
  simp only [Go.convert, Sem.run_bind, run_underlying hs, run_underlying hd, Result.andThen]; rfl
 ·cases hv
theorem Ve {α β : Type} (g : α → Sem β) (k : α → Option β) (w : World) : ∀ (l : List α) (m : List β), l.mapM k = some m → (∀ x y, k x = some y → (g x).run P w = .ok y w) → (l.mapM g).run P w = .ok m w
 | [], m, h, _ => by simp at h; subst h; rfl
 | x :: l, m, h, hg => by
  simp only [List.mapM_cons, Option.bind_eq_bind, OB, Option.pure_def, OI] at h
  obtain ⟨y, c, r, a, rfl⟩ := h
  simp only [List.mapM_cons, Sem.run_bind, hg x y c, Result.andThen, Ve g k w l r a hg]; rfl
theorem Y5 {t : TypeId} {z : List Value} (h : Qz P t = some z) (w : World) : ∃ zv, (zeroValue t).run P w = .ok zv w ∧ Bp zv = z := by
 unfold Qz at h
 simp only [OM, OB] at h
 obtain ⟨zv, ⟨i, c, a⟩, rfl⟩ := h
 exact ⟨zv, by simp [zeroValue, Sem.run_bind, run_typeInfo w c, Result.andThen, a], rfl⟩
theorem P4 (v : Value) : v.cells.toList = Bp v := by cases v <;> rfl
theorem VRs.self {l : List Value} (h : l.all (Ad 0 4) = true) : VRs ι l l := by
 induction l with
 | nil => exact .nil
 | cons x l ih => simp at h; exact .cons (VR.self 4 x h.1) (ih (by simpa using h.2))
theorem Aes {t : TypeId} {ps : Array (Nat × Operand)} {fs : Array Field} {z : List Value} {pl : List (Nat × Nat)} {qs : List (Nat × Nat × X)} (hu : P.underlying t = some (.struct fs)) (hz : Qz P t = some z) (hzn : z.all (Ad 0 4) = true)
  (hp : Asp P fs.toList = some pl) (hq : Oh (fun i => pl[i]?) ps.toList = some qs) (hf : FFR ι sz f a.tmps) (ho : o.op = .build t ps) (hv : Aw f (.bld z qs) = some v) : Cu P ι a o v w := by
 simp only [Aw, OM] at hv
 obtain ⟨c, hc, rfl⟩ := hv
 obtain ⟨u, l, s⟩ := Y5 hz w
 obtain ⟨r', e, hr⟩ := Vq hf hq (VRs.self (ι := ι) hzn) hc
 refine ⟨.agg r'.toArray, ?_, .agg hr⟩
 simp only [execOp, ho]
 refine D3 _ ?_
 have r : (fs.mapM (m := Sem) fun f => do pure (f.offset, ← sizeOf f.type)).run P w = .ok pl.toArray w := by
  rw [Array.mapM_eq_mapM_toList]
  have := Ve (P := P) (fun f : Field => (do pure (f.offset, ← sizeOf f.type) : Sem (Nat × Nat))) (fun f => (szO P f.type).map fun n => (f.offset, n)) w fs.toList pl hp (fun x y j => by
   simp only [OM] at j
   obtain ⟨n, hn, rfl⟩ := j
   simp [Sem.run_bind, Dx hn, Result.andThen])
  have d : ∀ {α β : Type} (g : α → β) (x : Sem α) (y : α) (w' : World), x.run P w = .ok y w' → (g <$> x).run P w = .ok (g y) w' := by
   intro α β g x y w' hx
   rw [map_eq_pure_bind]
   simp only [Sem.run_bind, hx, Result.andThen]; rfl
  exact d _ _ _ _ this
 have e1 : u.cells = z.toArray := by rw [← s, ← P4]
 have e2 : (ps.map fun x => (x.1, a.eval x.2)).toList = ps.toList.map fun p => (p.1, a.eval p.2) := by simp
 simp only [Instr.build, Sem.run_bind, l, Result.andThen, run_underlying hu, r, e1]
 have e3 : (fun i : Nat => pl.toArray[i]?) = fun i : Nat => pl[i]? := by funext i; simp
 rw [e2, e3, e]; rfl
theorem Aqd {t e : TypeId} {k n : Nat} {ps : Array (Nat × Operand)} {z : List Value} {qs : List (Nat × Nat × X)} (hu : P.underlying t = some (.array k e)) (hz : Qz P t = some z) (hzn : z.all (Ad 0 4) = true)
  (hp : szO P e = some n) (hq : Oh (fun i => some (i * n, n)) ps.toList = some qs) (hf : FFR ι sz f a.tmps) (ho : o.op = .build t ps) (hv : Aw f (.bld z qs) = some v) : Cu P ι a o v w := by
 simp only [Aw, OM] at hv
 obtain ⟨c, m, rfl⟩ := hv
 obtain ⟨l, g, j⟩ := Y5 hz w
 obtain ⟨u, d, s⟩ := Vq hf hq (VRs.self (ι := ι) hzn) m
 refine ⟨.agg u.toArray, ?_, .agg s⟩
 simp only [execOp, ho]
 refine D3 _ ?_
 have y : l.cells = z.toArray := by rw [← j, ← P4]
 have r : (ps.map fun x => (x.1, a.eval x.2)).toList = ps.toList.map fun p => (p.1, a.eval p.2) := by simp
 simp only [Instr.build, Sem.run_bind, g, Result.andThen, run_underlying hu, Dx hp, y]
 rw [r, d]; rfl
theorem A22 {t : TypeId} {i n : Nat} {fs : Array Field} {fd : Field} {x : Operand} (hu : P.underlying t = some (.struct fs)) (hfd : fs[i]? = some fd) (hn : szO P fd.type = some n) (hn0 : n ≠ 0) (hf : FFR ι sz f a.tmps) (ho : o.op = .fieldAddr t x i)
  {x' : X} (hx : cX x = some x') (hv : Aw f (.fld fd.offset x') = some v) : Cu P ι a o v w := by
 have c := Au hf hx
 simp only [Aw] at hv
 split at hv
 ·rename_i g e
  rw [e] at c
  obtain ⟨m, l, _, j⟩ := c.ptr_inv
  simp only [OI] at hv; subst hv
  have := VR.ptr (ι := ι) (g.off + fd.offset) l
  refine ⟨_, ?_, this⟩
  simp only [execOp, ho, j]
  refine D3 _ ?_
  simp only [Instr.fieldAt, Sem.run_bind, run_underlying hu, Result.andThen, hfd, Instr.sureAddr, fieldPlace, Dx hn, hn0]
  simp only [Addr.add, if_false]
  by_cases d : fd.offset = 0
  ·simp [d, Sem.run_bind, Result.andThen]
  ·simp [d, Sem.run_bind, Result.andThen, Nat.add_assoc]
 ·cases hv
theorem A21 {t : TypeId} {i : Nat} {g : Option Nat} {fs : Array Field} {fd : Field} {x : Operand} (hu : P.underlying t = some (.struct fs)) (hfd : fs[i]? = some fd) (hg : Qh P fd.type = some g) (hf : FFR ι sz f a.tmps) (ho : o.op = .field t x i)
  {x' : X} (hx : cX x = some x') (hv : Aw f (.fof fd.offset g x') = some v) : Cu P ι a o v w := by
 have d := Au hf hx
 simp only [Aw] at hv
 split at hv
 ·rename_i p e
  rw [e] at d
  obtain ⟨m, n, c⟩ := d.agg_inv
  obtain ⟨l, j, h2⟩ := Af2 hg c hv w
  refine ⟨l, ?_, h2⟩
  simp only [execOp, ho, n]
  refine D3 _ ?_
  simp only [Instr.field, Sem.run_bind, run_underlying hu, Result.andThen, hfd, asAgg, Sem.run_pure]
  exact j
 ·cases hv
theorem Td (m : Img) (off k : Nat) : (⟨m.rb, m.off + off, none⟩ : Addr).add k = ⟨m.rb, m.off + (off + k), none⟩ := by
 unfold Addr.add
 split
 ·rename_i h; subst h; rfl
 ·simp [Nat.add_assoc]
theorem A20 {t e : TypeId} {k n : Nat} {x i : Operand} (hu : P.underlying t = some (.array k e)) (hn : szO P e = some n) (hf : FFR ι sz f a.tmps) (ho : o.op = .indexAddr t x i)
  {x' i' : X} (hx : cX x = some x') (hi : cX i = some i') (hv : Aw f (.ixa k n x' i') = some v) : Cu P ι a o v w := by
 have d := Au hf hx
 have c := Au hf hi
 simp only [Aw] at hv
 split at hv
 ·rename_i g u
  rw [u] at d
  obtain ⟨m, r, _, l⟩ := d.ptr_inv
  unfold Sp at hv
  split at hv
  ·rename_i y j s
   rw [s] at c
   split at hv
   ·rename_i p
    simp only [OI] at hv; subst hv
    refine ⟨_, ?_, VR.ptr (ι := ι) (g.off + j.toNat * n) r⟩
    simp only [execOp, ho, l, c.int_inv]
    refine D3 _ ?_
    simp only [Instr.indexAt, Sem.run_bind, asIntOf, Sem.run_pure, run_underlying hu, Result.andThen, Instr.sureAddr, p, and_self, if_true, Dx hn, Td]
   ·cases hv
  ·cases hv
 ·cases hv
theorem A2z {t e : TypeId} {n : Nat} {x i : Operand} (hu : P.underlying t = some (.slice e)) (hn : szO P e = some n) (hf : FFR ι sz f a.tmps) (ho : o.op = .indexAddr t x i)
  {x' i' : X} (hx : cX x = some x') (hi : cX i = some i') (hv : Aw f (.ixs n x' i') = some v) : Cu P ι a o v w := by
 have p := Au hf hx
 have r := Au hf hi
 simp only [Aw] at hv
 split at hv
 ·rename_i d len z e1
  rw [e1] at p
  unfold Sp at hv
  split at hv
  ·rename_i kk j e2
   rw [e2] at r
   split at hv
   ·rename_i u
    simp only [OI] at hv; subst hv
    have l : ∀ {m : Img} (off c : Nat), ι d.block = some m → d.off = off → a.eval x = .slice (some ⟨m.rb, m.off + off, none⟩) len c → Cu P ι a o (.pointer (some ⟨d.block, d.off + j.toNat * n, none⟩)) w := by
     intro m off c y g s
     refine ⟨_, ?_, VR.ptr (ι := ι) (d.off + j.toNat * n) y⟩
     simp only [execOp, ho, s, r.int_inv]
     refine D3 _ ?_
     simp only [Instr.indexAt, Sem.run_bind, asIntOf, Sem.run_pure, run_underlying hu, Result.andThen, u, and_self, if_true, Dx hn, Td, g]
    cases rx' : a.eval x <;> rw [rx'] at p <;> cases p
    ·exact l _ _ ‹_› rfl rx'
    ·omega
    ·exact l _ _ ‹_› rfl rx'
    ·omega
   ·cases hv
  ·cases hv
 ·cases hv
theorem A2x {t e : TypeId} {k n : Nat} {g : Option Nat} {x i : Operand} (hu : P.underlying t = some (.array k e)) (hn : szO P e = some n) (hg : Qh P e = some g) (hf : FFR ι sz f a.tmps) (ho : o.op = .index t x i)
  {x' i' : X} (hx : cX x = some x') (hi : cX i = some i') (hv : Aw f (.ixv k n g x' i') = some v) : Cu P ι a o v w := by
 have l := Au hf hx
 have d := Au hf hi
 simp only [Aw] at hv
 split at hv
 ·rename_i cs kk j z y
  rw [z] at l; rw [y] at d
  split at hv
  ·rename_i u
   obtain ⟨p, s, c⟩ := l.agg_inv
   obtain ⟨r, m, h2⟩ := Af2 hg c hv w
   refine ⟨r, ?_, h2⟩
   simp only [execOp, ho, s, d.int_inv]
   refine D3 _ ?_
   simp only [Instr.index, Sem.run_bind, asIntOf, Sem.run_pure, run_underlying hu, Result.andThen, u, and_self, if_true, Dx hn]
   exact m
  ·cases hv
 ·cases hv
theorem A2y {t : TypeId} {x i : Operand} (hu : P.underlying t = some .string) (hf : FFR ι sz f a.tmps) (ho : o.op = .index t x i)
  {x' i' : X} (hx : cX x = some x') (hi : cX i = some i') (hv : Aw f (.ixt x' i') = some v) : Cu P ι a o v w := by
 have e := Au hf hx
 have d := Au hf hi
 simp only [Aw] at hv
 split at hv
 ·rename_i s p j n m
  rw [n] at e; rw [m] at d
  split at hv
  ·rename_i l
   simp only [OM] at hv
   obtain ⟨c, g, rfl⟩ := hv
   refine ⟨.int .u8 c.toNat, ?_, .int _ _⟩
   simp only [execOp, ho, e.string_inv, d.int_inv]
   refine D3 _ ?_
   simp only [Instr.index, Sem.run_bind, asIntOf, Sem.run_pure, run_underlying hu, Result.andThen, l, if_true, g]
  ·cases hv
 ·cases hv
end
end Go.L
namespace Go.L
open Go
variable {P : Program} {ι : Inj} {w : World}
section
variable {sz : Nat} {f : FF} {a : Act} {o : Oper} {q : O} {v : Value}
theorem L9 {x : Option Operand} {q : Option X} (h : cOX x = some q) : (x = none ∧ q = none) ∨ ∃ y z, x = some y ∧ q = some z ∧ cX y = some z := by
 cases x with
 | none => simp [cOX] at h; exact .inl ⟨rfl, h.symm⟩
 | some y => simp only [cOX, OM] at h; obtain ⟨z, a, rfl⟩ := h; exact .inr ⟨y, z, rfl, rfl, a⟩
theorem Gy {x : Option X} {d high n : Nat} (hd : d ≤ high) (h : Bs f x d high = some n) : n ≤ high := by
 cases x with
 | none => simp [Bs] at h; omega
 | some x =>
  simp only [Bs] at h
  split at h
  ·split at h
   ·simp only [OI] at h; omega
   ·cases h
  ·cases h
theorem Rg (hf : FFR ι sz f a.tmps) {lo hi : Option Operand} {lo' hi' : Option X} (hlo : cOX lo = some lo') (hhi : cOX hi = some hi') {isS : Bool} {len cap l h : Nat}
  (h1 : Bs f hi' len cap = some h) (h2 : Bs f lo' 0 h = some l) (w : World) :
  (Instr.sliceBounds isS len cap (lo.map a.eval) (hi.map a.eval) none).run P w = .ok (l, h, cap) w := by
 rcases L9 hhi with ⟨rfl, rfl⟩ | ⟨y, z, rfl, rfl, d⟩
 ·simp only [Bs, OI] at h1; subst h1
  rcases L9 hlo with ⟨rfl, rfl⟩ | ⟨g, e, rfl, rfl, c⟩
  ·simp only [Bs, OI] at h2; subst h2
   simp [Instr.sliceBounds, Sem.run_bind, Result.andThen]
  ·simp [Instr.sliceBounds, Sem.run_bind, Result.andThen, G3 hf c h2]
 ·rcases L9 hlo with ⟨rfl, rfl⟩ | ⟨g, e, rfl, rfl, c⟩
  ·simp only [Bs, OI] at h2; subst h2
   cases isS <;> simp [Instr.sliceBounds, Sem.run_bind, Result.andThen, G3 hf d h1]
  ·cases isS <;> simp [Instr.sliceBounds, Sem.run_bind, Result.andThen, G3 hf d h1, G3 hf c h2]
theorem Af3 (hf : FFR ι sz f a.tmps) {lo : Option Operand} {hi mx : Operand} {lo' : Option X} {hi' mx' : X} (hlo : cOX lo = some lo') (hhi : cX hi = some hi') (hmx : cX mx = some mx') {isS : Bool} {len cap l h m d d' : Nat}
  (h0 : Bs f (some mx') d cap = some m) (h1 : Bs f (some hi') d' m = some h) (h2 : Bs f lo' 0 h = some l) (w : World) :
  (Instr.sliceBounds isS len cap (lo.map a.eval) (some (a.eval hi)) (some (a.eval mx))).run P w = .ok (l, h, m) w := by
 rcases L9 hlo with ⟨rfl, rfl⟩ | ⟨g, e, rfl, rfl, c⟩
 ·simp only [Bs, OI] at h2; subst h2
  simp [Instr.sliceBounds, Sem.run_bind, Result.andThen, G3 hf hmx h0, G3 hf hhi h1]
 ·simp [Instr.sliceBounds, Sem.run_bind, Result.andThen, G3 hf hmx h0, G3 hf hhi h1, G3 hf c h2]
theorem A2p {t : TypeId} {x : Operand} {lo hi : Option Operand} (hu : P.underlying t = some .string) (hf : FFR ι sz f a.tmps) (ho : o.op = .slice t x lo hi none)
  {x' : X} {lo' hi' : Option X} (hx : cX x = some x') (hlo : cOX lo = some lo') (hhi : cOX hi = some hi') (hv : Aw f (.slt x' lo' hi') = some v) : Cu P ι a o v w := by
 have c := Au hf hx
 simp only [Aw] at hv
 split at hv
 ·rename_i s e
  rw [e] at c
  simp only [OB, OI] at hv
  obtain ⟨h, d, l, h2, rfl⟩ := hv
  refine ⟨_, ?_, .string _⟩
  simp only [execOp, ho, c.string_inv]
  refine D3 _ ?_
  simp only [Instr.sliceAt, Instr.slice, Sem.run_bind, run_underlying hu, Result.andThen, Option.map_none, Option.isSome_none, Bool.false_eq_true, if_false, Rg (P := P) hf hlo hhi d h2 w]
  rfl
 ·cases hv
theorem A2r {t e : TypeId} {k n : Nat} {x : Operand} {lo hi : Option Operand} (hu : P.underlying t = some (.array k e)) (hn : szO P e = some n) (hf : FFR ι sz f a.tmps) (ho : o.op = .slice t x lo hi none)
  {x' : X} {lo' hi' : Option X} (hx : cX x = some x') (hlo : cOX lo = some lo') (hhi : cOX hi = some hi') (hv : Aw f (.sla k n x' lo' hi') = some v) : Cu P ι a o v w := by
 have j := Au hf hx
 simp only [Aw] at hv
 split at hv
 ·rename_i d s
  rw [s] at j
  obtain ⟨m, g, _, p⟩ := j.ptr_inv
  simp only [OB, OI] at hv
  obtain ⟨h, c, l, h2, rfl⟩ := hv
  have y := Gy (Nat.le_refl k) c
  have z := Gy (Nat.zero_le _) h2
  refine ⟨.slice (some (if k = l then ⟨m.rb, m.off + d.off, none⟩ else ⟨m.rb, m.off + (d.off + l * n), none⟩)) (h - l) (k - l), ?_, ?_⟩
  ·simp only [execOp, ho, p]
   refine D3 _ ?_
   simp only [Instr.sliceAt, Sem.run_bind, run_underlying hu, Result.andThen, Option.map_none, Instr.sureAddr, Sem.run_pure, Rg (P := P) hf hlo hhi c h2 w, Dx hn, Td]
  ·split
   ·rename_i he
    have u : h - l = 0 := by omega
    have r : k - l = 0 := by omega
    rw [u, r]; exact .slice0 _ _ g
   ·exact .slice _ _ _ g
 ·cases hv
theorem Aoa {α : Type} {x : Option Nat} {y : Nat → Option Nat} {z : Nat → Nat → Option α} {r : α} (h : (x.bind fun a => (y a).bind fun b => z a b) = some r) : ∃ a b, x = some a ∧ y a = some b ∧ z a b = some r := by
 simp only [OB] at h
 obtain ⟨a, d, b, e, c⟩ := h
 exact ⟨a, b, d, e, c⟩
theorem A2q {t e : TypeId} {n : Nat} {x : Operand} {lo hi mx : Option Operand} (hu : P.underlying t = some (.slice e)) (hn : szO P e = some n) (hf : FFR ι sz f a.tmps) (ho : o.op = .slice t x lo hi mx)
  {x' : X} {lo' hi' mx' : Option X} (hx : cX x = some x') (hlo : cOX lo = some lo') (hhi : cOX hi = some hi') (hmx : cOX mx = some mx') (hv : Aw f (.sls n x' lo' hi' mx') = some v) : Cu P ι a o v w := by
 have rx := Au hf hx
 simp only [Aw] at hv
 have p : ∀ {c : Option Addr} {len g l h : Nat}, mx = none → a.eval x = .slice c len g → Bs f hi' len g = some h → Bs f lo' 0 h = some l →
   (execOp a.eval o).run P w = .ok (.value (.slice (if g = l then c else c.map (·.add (l * n))) (h - l) (g - l))) w := by
  intro c len g l h hm hr j h2
  subst hm
  simp only [execOp, ho, hr]
  refine D3 _ ?_
  simp only [Instr.sliceAt, Instr.slice, Sem.run_bind, run_underlying hu, Result.andThen, Option.map_none, Rg (P := P) hf hlo hhi j h2 w, Dx hn]
  rfl
 have r : ∀ {c : Option Addr} {len g l h m d d' : Nat} {mo a3 : Operand} {mq hq : X}, mx = some mo → hi = some a3 → cX mo = some mq → cX a3 = some hq → a.eval x = .slice c len g →
   Bs f (some mq) d g = some m → Bs f (some hq) d' m = some h → Bs f lo' 0 h = some l →
   (execOp a.eval o).run P w = .ok (.value (.slice (if m = l then c else c.map (·.add (l * n))) (h - l) (m - l))) w := by
  intro c len g l h m d d' mo a3 mq hq hm hh a1 y hr h0 j h2
  subst hm; subst hh
  simp only [execOp, ho, hr]
  refine D3 _ ?_
  simp only [Instr.sliceAt, Instr.slice, Sem.run_bind, run_underlying hu, Result.andThen, Option.map_some, Af3 (P := P) hf hlo y a1 h0 j h2 w, Dx hn]
  rfl
 generalize hvx : ev f x' = vx at rx hv
 unfold Zn at hv
 split at hv
 ·-- nil
  split at hv
  ·cases hv
  ·rename_i ac
   obtain ⟨m, h, h0, j, hz⟩ := Aoa hv
   simp only [OB, OI] at hz
   obtain ⟨l, h2, rfl⟩ := hz
   have em : m = 0 := by have := Gy (Nat.zero_le _) h0; omega
   subst em
   have eh : h = 0 := by have := Gy (Nat.zero_le _) j; omega
   subst eh
   have el : l = 0 := by have := Gy (Nat.zero_le _) h2; omega
   subst el
   refine ⟨.slice none 0 0, ?_, .nils 0 0⟩
   have hr : a.eval x = .slice none 0 0 := by
    generalize a.eval x = rv at rx
    cases rx; rfl
   rcases L9 hmx with ⟨u, rfl⟩ | ⟨mo, mq, u, rfl, a1⟩
   ·have := p u hr j h2
    simpa using this
   ·rcases L9 hhi with ⟨e2, rfl⟩ | ⟨a3, hq, e2, rfl, y⟩
    ·simp at ac
    ·have := r u e2 a1 y hr h0 j h2
     simpa using this
 ·rename_i ad len g
  split at hv
  ·-- three indexes
   rename_i mq
   split at hv
   ·cases hv
   ·rename_i hq
    obtain ⟨m, h, h0, j, hz⟩ := Aoa hv
    simp only [OB, OI] at hz
    obtain ⟨l, h2, rfl⟩ := hz
    rcases L9 hmx with ⟨u, a2⟩ | ⟨mo, ab, u, a2, a1⟩
    ·cases a2
    cases a2
    rcases L9 hhi with ⟨e2, a7⟩ | ⟨a3, aj, e2, a7, y⟩
    ·cases a7
    cases a7
    have hm := Gy (Nat.zero_le _) h0
    have hh := Gy (Nat.zero_le _) j
    have hl := Gy (Nat.zero_le _) h2
    have a6 : ∀ {mi : Img} {off c' : Nat}, ι ad.block = some mi → ad.off = off → a.eval x = .slice (some ⟨mi.rb, mi.off + off, none⟩) len c' → g ≤ c' → Cu P ι a o (.slice (some ⟨ad.block, ad.off + l * n, none⟩) (h - l) (m - l)) w := by
     intro mi off c' a4 a8 hr hc
     have ae : Bs f (some mq) 0 c' = some m := by
      simp only [Bs] at h0 ⊢
      split at h0
      ·split at h0
       ·rename_i hb; rw [if_pos (by omega)]; exact h0
       ·cases h0
      ·cases h0
     refine ⟨_, r u e2 a1 y hr ae j h2, ?_⟩
     split
     ·rename_i e
      have e3 : h - l = 0 := by omega
      have e4 : m - l = 0 := by omega
      rw [e3, e4]; exact .slice0 _ _ a4
     ·simp only [Option.map_some, Td, a8]; exact .slice _ _ _ a4
    have a5 : ∀ {a' : Addr} {mi : Img}, ι ad.block = some mi → a.eval x = .slice (some a') 0 0 → len = 0 → g = 0 → Cu P ι a o (.slice (some ⟨ad.block, ad.off + l * n, none⟩) (h - l) (m - l)) w := by
     intro a' mi aa hr e5 e6
     have em : m = 0 := by omega
     have eh : h = 0 := by omega
     have el : l = 0 := by omega
     subst em; subst eh; subst el; subst e6
     refine ⟨_, r u e2 a1 y hr h0 j h2, ?_⟩
     exact .slice0 _ _ aa
    cases rx' : a.eval x <;> rw [rx'] at rx <;> cases rx
    ·exact a6 ‹_› rfl rx' (Nat.le_refl _)
    ·exact a5 ‹_› rx' rfl rfl
    ·exact a6 ‹_› rfl rx' (by omega)
    ·exact a5 ‹_› rx' rfl rfl
  ·-- two
   rename_i ag
   have u : mx = none := by
    rcases L9 hmx with ⟨u, _⟩ | ⟨mo, ab, _, a2, _⟩
    ·exact u
    ·cases a2
   split at hv
   ·-- the capacity is known
    rename_i a0
    obtain ⟨h, l, j, h2, hz⟩ := Aoa hv
    split at hz
    ·rename_i al
     simp only [OI] at hz; subst hz
     have hl := Gy (Nat.zero_le _) h2
     cases rx' : a.eval x <;> rw [rx'] at rx <;> cases rx
     ·refine ⟨_, p u rx' j h2, ?_⟩
      split
      ·rename_i e
       have e3 : h - l = 0 := by omega
       have e4 : g - l = 0 := by omega
       rw [e3, e4]; exact .slice0 _ _ ‹_›
      ·simp only [Option.map_some, Td]; exact .slice _ _ _ ‹_›
     ·have eh : h = 0 := by omega
      have el : l = 0 := by omega
      subst eh; subst el
      refine ⟨_, p u rx' j h2, ?_⟩
      exact .slice0 _ _ ‹_›
     ·cases a0
     ·cases a0
    ·cases hz
   ·rename_i s a0
    split at hv
    ·rename_i es
     subst es
     obtain ⟨h, l, j, h2, hz⟩ := Aoa hv
     simp only [OI] at hz; subst hz
     have hh := Gy (Nat.le_refl _) j
     have hl := Gy (Nat.zero_le _) h2
     cases rx' : a.eval x <;> rw [rx'] at rx <;> cases rx
     ·cases a0
     ·cases a0
     ·rename_i c0 b0 m0 ah s0 a4 ak ai
      have a9 : s0 = s := by simpa using a0
      subst a9
      have af : Bs f hi' len c0 = some h := by
       cases hi' with
       | none => simpa [Bs] using j
       | some z =>
        simp only [Bs] at j ⊢
        split at j
        ·split at j
         ·rename_i hb; rw [if_pos (by omega)]; exact j
         ·cases j
        ·cases j
      refine ⟨_, p u rx' af h2, ?_⟩
      split
      ·rename_i e
       have e3 : h - l = 0 := by omega
       have e4 : c0 - l = 0 := by omega
       rw [e3, e4]; exact .loose0 _ _ _ a4
      ·simp only [Option.map_some, Td]
       refine .loose _ _ _ _ a4 (by omega) ?_
       have : c0 * s0 = l * s0 + (c0 - l) * s0 := by rw [← Nat.add_mul]; congr 1; omega
       omega
     ·have eh : h = 0 := by omega
      have el : l = 0 := by omega
      subst eh; subst el
      refine ⟨_, p u rx' j h2, ?_⟩
      exact .loose0 _ _ _ ‹_›
    ·cases hv
 ·cases hv
theorem A2s {x : Operand} (hf : FFR ι sz f a.tmps) (ho : o.op = .nilCheck x) {x' : X} (hx : cX x = some x') (hv : Aw f (.nil x') = some v) : Cu P ι a o v w := by
 have d := Au hf hx
 simp only [Aw] at hv
 split at hv
 ·rename_i p e
  rw [e] at d
  simp only [OI] at hv; subst hv
  obtain ⟨m, r, n, j⟩ := d.ptr_inv
  refine ⟨_, ?_, d⟩
  simp only [execOp, ho, j]; rfl
 ·rename_i g l c e
  rw [e] at d
  simp only [OI] at hv; subst hv
  refine ⟨_, ?_, d⟩
  generalize j : a.eval x = rv at d
  cases d
  simp only [execOp, ho, j]; rfl
 ·cases hv
theorem A23 {x : Operand} {i : Nat} (hf : FFR ι sz f a.tmps) (ho : o.op = .extract x i) {x' : X} (hx : cX x = some x') (hv : Aw f (.ext x' i) = some v) : Cu P ι a o v w := by
 have l := Au hf hx
 simp only [Aw] at hv
 split at hv
 ·rename_i p e
  rw [e] at l
  split at hv
  ·rename_i s c
   split at hv
   ·rename_i g
    simp only [OI] at hv; subst hv
    obtain ⟨m, n, d⟩ := l.tuple_inv (by
     intro e
     simp only [Kf, Value.tuple.injEq] at e
     subst e
     cases i with
     | zero => simp at c; subst c; simp [Fk] at g
     | succ i => simp at c)
    obtain ⟨r, j, h2⟩ := d.at_ c
    refine ⟨r, ?_, h2⟩
    simp only [execOp, ho, n]
    refine D3 _ ?_
    simp only [Instr.extract]
    simp at j
    simp [j]
   ·cases hv
  ·cases hv
 ·cases hv
theorem A2u {g : FuncId} {first cap : Array Operand} (hf : FFR ι sz f a.tmps) (ho : o.op = .makeFunc (.func g) first cap) {l c : List X} (hl : cXs first.toList = some l) (hc : cXs cap.toList = some c)
  (hv : Aw f (.mkf (.func g) l c) = some v) : Cu P ι a o v w := by
 simp only [Aw, OI] at hv; subst hv
 refine ⟨.func (.func g) (first.toList.map a.eval).toArray (cap.toList.map a.eval).toArray, ?_, .func g (Vu hf hl) (Vu hf hc)⟩
 simp only [execOp, ho]
 refine D3 _ ?_
 simp only [Instr.makeFunc, Sem.run_pure, ← Array.toList_map, Array.toArray_toList]
theorem A2t {t : TypeId} {d : TypeDesc} {x : Operand} (hu : P.underlying t = some d) (hd : ∀ ms, d ≠ .interface ms) (hf : FFR ι sz f a.tmps) (ho : o.op = .makeInterface t x) {x' : X} (hx : cX x = some x') (hv : Aw f (.mki t x') = some v) : Cu P ι a o v w := by
 simp only [Aw, OI] at hv; subst hv
 refine ⟨.iface t (a.eval x), ?_, .iface t (Au hf hx)⟩
 simp only [execOp, ho]
 refine D3 _ ?_
 simp only [Instr.makeInterface, Sem.run_bind, run_underlying hu, Result.andThen]
 cases d <;> first | rfl | exact absurd rfl (hd _)
theorem Akn {t ty : TypeId} {x : Operand} (hu : P.underlying t = some .string) (hf : FFR ι sz f a.tmps) (ho : o.op = .call { callee := .builtin .len, args := #[x], argTypes := #[t] }) {x' : X} (hx : cX x = some x') (hv : Aw f (.lens true x') = some v) : Cu P ι a o v w := by
 have c := Au hf hx
 simp only [Aw] at hv
 split at hv
 ·rename_i s _ e
  rw [e] at c
  simp only [OI] at hv; subst hv
  refine ⟨_, ?_, .int _ _⟩
  simp only [execOp, ho, resolve, Sem.run_bind, Result.andThen, Sem.run_pure, invoke, Go.builtin]
  simp [Builtin.len_, Sem.run_bind, run_underlying hu, Result.andThen, c.string_inv, goInt]
 ·contradiction
 ·cases hv
theorem Aqc {t e : TypeId} {x : Operand} (hu : P.underlying t = some (.slice e)) (hf : FFR ι sz f a.tmps) (ho : o.op = .call { callee := .builtin .len, args := #[x], argTypes := #[t] }) {x' : X} (hx : cX x = some x') (hv : Aw f (.lens false x') = some v) : Cu P ι a o v w := by
 have d := Au hf hx
 simp only [Aw] at hv
 split at hv
 ·contradiction
 ·rename_i m n c _ l
  rw [l] at d
  simp only [OI] at hv; subst hv
  refine ⟨.int .i64 n, ?_, .int _ _⟩
  have : ∃ b g, a.eval x = .slice b n g := by
   generalize a.eval x = rv at d
   cases d <;> exact ⟨_, _, rfl⟩
  obtain ⟨b, g, j⟩ := this
  simp only [execOp, ho, resolve, Sem.run_bind, Result.andThen, Sem.run_pure, invoke, Go.builtin]
  simp [Builtin.len_, Sem.run_bind, run_underlying hu, Result.andThen, j, goInt]
 ·cases hv
theorem A08 {t e : TypeId} {n : Nat} {x : Operand} (hu : P.underlying t = some (.array n e)) (ho : o.op = .call { callee := .builtin .len, args := #[x], argTypes := #[t] }) (hv : Aw f (.lena n) = some v) : Cu P ι a o v w := by
 simp only [Aw, OI] at hv; subst hv
 refine ⟨.int .i64 n, ?_, .int _ _⟩
 simp only [execOp, ho, resolve, Sem.run_bind, Result.andThen, Sem.run_pure, invoke, Go.builtin]
 simp [Builtin.len_, Sem.run_bind, run_underlying hu, Result.andThen, goInt]
theorem Ah0 {g : Value → Value → Option Value} {G : Value → Value → Sem Value} (hg : ∀ x y z, g x y = some z → ∀ w, (G x y).run P w = .ok z w ∧ ∃ k n k' m k'' j, x = .int k n ∧ y = .int k' m ∧ z = .int k'' j) :
  ∀ {l l' : List Value} (hl : VRs ι l l') {x x' z : Value} (hx : VR ι x x') (h : J2 g x l = some z) (w : World), ∃ z', (l'.foldlM G x').run P w = .ok z' w ∧ VR ι z z' := by
 intro l l' hl
 induction hl with
 | nil => intro x x' z hx h w; simp [J2] at h; subst h; exact ⟨x', rfl, hx⟩
 | cons hy _ ih =>
  intro x x' z hx h w
  simp only [J2, OB] at h
  obtain ⟨u, c, d⟩ := h
  obtain ⟨a, k, n, k', m, k'', j, rfl, rfl, rfl⟩ := hg _ _ _ c w
  obtain ⟨z', e, h2⟩ := ih (VR.int k'' j) d w
  refine ⟨z', ?_, h2⟩
  simp only [List.foldlM_cons, Sem.run_bind]
  rw [hx.int_inv, hy.int_inv, a]
  exact e
theorem A2v {ty : TypeId} {ts : Array TypeId} {x : Operand} {r : List Operand} {args : Array Operand} (ha : args.toList = x :: r) (hf : FFR ι sz f a.tmps) (ho : o.op = .call { callee := .builtin .min, args, argTypes := ts })
  {x' : X} {r' : List X} (hx : cX x = some x') (hr : cXs r = some r') (hv : Aw f (.min x' r') = some v) : Cu P ι a o v w := by
 simp only [Aw] at hv
 obtain ⟨c, d, h2⟩ := Ah0 (P := P) (G := Builtin.min2) (fun x y z h w => by
  unfold min2 at h
  split at h
  ·simp only [OI] at h; subst h; exact ⟨rfl, _, _, _, _, _, _, rfl, rfl, rfl⟩
  ·cases h) (Vu hf hr) (Au hf hx) hv w
 refine ⟨c, ?_, h2⟩
 simp only [execOp, ho, resolve, Sem.run_bind, Result.andThen, Sem.run_pure, invoke, Go.builtin, Builtin.min_]
 simp [ha, d]
theorem A2w {ty : TypeId} {ts : Array TypeId} {x : Operand} {r : List Operand} {args : Array Operand} (ha : args.toList = x :: r) (hf : FFR ι sz f a.tmps) (ho : o.op = .call { callee := .builtin .max, args, argTypes := ts })
  {x' : X} {r' : List X} (hx : cX x = some x') (hr : cXs r = some r') (hv : Aw f (.max x' r') = some v) : Cu P ι a o v w := by
 simp only [Aw] at hv
 obtain ⟨c, d, h2⟩ := Ah0 (P := P) (G := Builtin.max2) (fun x y z h w => by
  unfold max2 at h
  split at h
  ·simp only [OI] at h; subst h; exact ⟨rfl, _, _, _, _, _, _, rfl, rfl, rfl⟩
  ·cases h) (Vu hf hr) (Au hf hx) hv w
 refine ⟨c, ?_, h2⟩
 simp only [execOp, ho, resolve, Sem.run_bind, Result.andThen, Sem.run_pure, invoke, Go.builtin, Builtin.max_]
 simp [ha, d]
end
end Go.L
namespace Go.L
open Go
variable {P : Program} {ι : Inj} {h : Aa} {w : World}
section
variable {sz : Nat} {f : FF} {a : Act} {o : Oper} {q : O} {v : Value}
theorem Ayt {α : Type} {xs : Array α} {x : α} (h : xs.toList = [x]) : xs = #[x] := by
 cases xs; simp at h; subst h; rfl
theorem X8 {b : Builtin} {c : Go.Call} {x : Operand} {t : TypeId} (hc : c.callee = .builtin b) (ha : c.args.toList = [x]) (ht : c.argTypes.toList = [t]) : c = { callee := .builtin b, args := #[x], argTypes := #[t] } := by
 obtain ⟨d, a, at_⟩ := c
 simp only at hc ha ht
 rw [hc, Ayt ha, Ayt ht]
theorem Sj {b : Builtin} {c : Go.Call} (hc : c.callee = .builtin b) : c = { callee := .builtin b, args := c.args, argTypes := c.argTypes } := by
 obtain ⟨d, a, at_⟩ := c
 simp only at hc
 rw [hc]
theorem Axi (hf : FFR ι sz f a.tmps) (ho : cO P o.op = some q) (hc : cls q = .P) (hv : Aw f q = some v) : Cu P ι a o v w := by
 cases hop : o.op with
 | move x => rw [hop] at ho; simp only [cO, OM] at ho; obtain ⟨s, j, rfl⟩ := ho; exact Azp hf (.inl hop) j hv
 | assign x => rw [hop] at ho; simp only [cO, OM] at ho; obtain ⟨s, j, rfl⟩ := ho; exact Azp hf (.inr hop) j hv
 | pick c x y => rw [hop] at ho; simp only [cO, OM, OB] at ho; obtain ⟨c', a5, s, j, y', hy, rfl⟩ := ho; exact A07 hf hop a5 j hy hv
 | binOp op t x y yt => rw [hop] at ho; simp only [cO, OM, OB] at ho; obtain ⟨s, j, y', hy, rfl⟩ := ho; exact A26 hf hop j hy hv
 | unOp op t x => rw [hop] at ho; simp only [cO, OM] at ho; obtain ⟨s, j, rfl⟩ := ho; exact A33 hf hop j hv
 | convert src dst x =>
  rw [hop] at ho; simp only [cO] at ho
  split at ho
  ·rename_i k0 k hs hd; simp only [OM] at ho; obtain ⟨s, j, rfl⟩ := ho; exact A25 hs hd hf hop j hv
  ·rename_i hs hd; simp only [OM] at ho; obtain ⟨s, j, rfl⟩ := ho; exact A24 hs hd hf hop j hv
  ·split at ho
   ·simp only [OM] at ho; obtain ⟨s, j, rfl⟩ := ho; simp [cls] at hc
   ·cases ho
  ·split at ho
   ·simp only [OM] at ho; obtain ⟨s, j, rfl⟩ := ho; simp [cls] at hc
   ·cases ho
  ·cases ho
 | build t ps =>
  rw [hop] at ho; simp only [cO] at ho
  split at ho
  ·rename_i fs p; simp only [OB] at ho; obtain ⟨z, hz, ho⟩ := ho
   split at ho
   ·rename_i a3; simp only [OB, OM] at ho; obtain ⟨pl, hp, qs, hq, rfl⟩ := ho; exact Aes p hz a3 hp hq hf hop hv
   ·cases ho
  ·rename_i k e p; simp only [OB] at ho; obtain ⟨z, hz, ho⟩ := ho
   split at ho
   ·rename_i a3; simp only [OB, OM] at ho; obtain ⟨n, u, qs, hq, rfl⟩ := ho; exact Aqd p hz a3 u hq hf hop hv
   ·cases ho
  ·cases ho
 | fieldAddr t x i =>
  rw [hop] at ho; simp only [cO] at ho
  split at ho
  ·rename_i fs p; simp only [OB] at ho; obtain ⟨fd, a4, n, u, ho⟩ := ho
   split at ho
   ·cases ho
   ·rename_i a8; simp only [OM] at ho; obtain ⟨s, j, rfl⟩ := ho; exact A22 p a4 u a8 hf hop j hv
  ·cases ho
 | field t x i =>
  rw [hop] at ho; simp only [cO] at ho
  split at ho
  ·rename_i fs p; simp only [OB, OM] at ho; obtain ⟨fd, a4, g, hg, s, j, rfl⟩ := ho; exact A21 p a4 hg hf hop j hv
  ·cases ho
 | indexAddr t x i =>
  rw [hop] at ho; simp only [cO] at ho
  split at ho
  ·rename_i k e p; simp only [OB, OM] at ho; obtain ⟨n, u, s, j, i', hi, rfl⟩ := ho; exact A20 p u hf hop j hi hv
  ·rename_i e p; simp only [OB, OM] at ho; obtain ⟨n, u, s, j, i', hi, rfl⟩ := ho; exact A2z p u hf hop j hi hv
  ·cases ho
 | index t x i =>
  rw [hop] at ho; simp only [cO] at ho
  split at ho
  ·rename_i k e p; simp only [OB, OM] at ho; obtain ⟨n, u, g, hg, s, j, i', hi, rfl⟩ := ho; exact A2x p u hg hf hop j hi hv
  ·rename_i p; simp only [OB, OM] at ho; obtain ⟨s, j, i', hi, rfl⟩ := ho; exact A2y p hf hop j hi hv
  ·cases ho
 | slice t x lo hi mx =>
  rw [hop] at ho; simp only [cO] at ho
  split at ho
  ·rename_i p
   cases mx with
   | some m => simp at ho
   | none => simp only [Option.isSome_none, Bool.false_eq_true, if_false, OB, OM] at ho; obtain ⟨s, j, a6, a2, a7, a0, rfl⟩ := ho; exact A2p p hf hop j a2 a0 hv
  ·rename_i e p; simp only [OB, OM] at ho; obtain ⟨n, u, s, j, a6, a2, a7, a0, ad, ac, rfl⟩ := ho; exact A2q p u hf hop j a2 a0 ac hv
  ·rename_i k e p
   cases mx with
   | some m => simp at ho
   | none => simp only [Option.isSome_none, Bool.false_eq_true, if_false, OB, OM] at ho; obtain ⟨n, u, s, j, a6, a2, a7, a0, rfl⟩ := ho; exact A2r p u hf hop j a2 a0 hv
  ·cases ho
 | nilCheck x => rw [hop] at ho; simp only [cO, OM] at ho; obtain ⟨s, j, rfl⟩ := ho; exact A2s hf hop j hv
 | extract x i => rw [hop] at ho; simp only [cO, OM] at ho; obtain ⟨s, j, rfl⟩ := ho; exact A23 hf hop j hv
 | makeFunc fn first cap =>
  rw [hop] at ho
  cases fn <;> simp only [cO] at ho <;> try (cases ho; done)
  simp only [OB, OM] at ho; obtain ⟨l, hl, c, a5, rfl⟩ := ho; exact A2u hf hop hl a5 hv
 | makeInterface t x =>
  rw [hop] at ho; simp only [cO] at ho
  split at ho
  ·cases ho
  ·cases ho
  ·rename_i aa a9
   simp only [OM] at ho; obtain ⟨s, j, rfl⟩ := ho
   cases p : P.underlying t with
   | none => exact absurd p a9
   | some d => exact A2t p (fun ms e => aa ms (by rw [p, e])) hf hop j hv
 | load t x => rw [hop] at ho; simp only [cO, OM, OB] at ho; obtain ⟨_, _, _, _, rfl⟩ := ho; simp [cls] at hc
 | lookup t m k ok =>
  rw [hop] at ho; simp only [cO] at ho
  split at ho
  ·simp only [OB] at ho; obtain ⟨_, _, _, _, ho⟩ := ho
   split at ho
   ·simp only [OM, OB] at ho; obtain ⟨_, _, _, _, rfl⟩ := ho; simp [cls] at hc
   ·cases ho
  ·cases ho
 | alloc t => rw [hop] at ho; simp only [cO, OM, OB] at ho; obtain ⟨_, _, _, _, rfl⟩ := ho; simp [cls] at hc
 | box t x => rw [hop] at ho; simp only [cO, OM] at ho; obtain ⟨_, _, rfl⟩ := ho; simp [cls] at hc
 | buildSlice t n ps => rw [hop] at ho; simp only [cO, OM, OB] at ho; obtain ⟨_, _, _, _, _, _, rfl⟩ := ho; simp [cls] at hc
 | makeSlice t n c => rw [hop] at ho; simp only [cO, OM, OB] at ho; obtain ⟨_, _, _, _, _, _, _, _, rfl⟩ := ho; simp [cls] at hc
 | makeMap t r =>
  rw [hop] at ho
  cases r <;> simp only [cO] at ho
  ·simp only [OI] at ho; subst ho; simp [cls] at hc
  ·cases ho
 | store t x y => rw [hop] at ho; simp only [cO, OM, OB] at ho; obtain ⟨_, _, _, _, _, _, rfl⟩ := ho; simp [cls] at hc
 | mapUpdate t m k x =>
  rw [hop] at ho; simp only [cO] at ho
  split at ho
  ·simp only [OM, OB] at ho; obtain ⟨_, _, _, _, _, _, _, _, rfl⟩ := ho; simp [cls] at hc
  ·cases ho
 | call c =>
  rw [hop] at ho; simp only [cO] at ho
  split at ho
  ·simp only [OM, OB] at ho; obtain ⟨_, _, _, _, rfl⟩ := ho; simp [cls] at hc
  ·cases ho
  ·rename_i b a1
   split at ho
   ·rename_i x t ha ht
    have ab := X8 a1 ha ht
    rw [ab] at hop
    split at ho
    ·rename_i p; simp only [OM] at ho; obtain ⟨s, j, rfl⟩ := ho; exact Akn (ty := 0) p hf hop j hv
    ·rename_i e p; simp only [OM] at ho; obtain ⟨s, j, rfl⟩ := ho; exact Aqc p hf hop j hv
    ·rename_i n e p; simp only [OI] at ho; subst ho; exact A08 p hop hv
    ·simp only [OM] at ho; obtain ⟨_, _, rfl⟩ := ho; simp [cls] at hc
    ·cases ho
   ·rename_i x r _ ha
    rw [Sj a1] at hop
    simp only [OM, OB] at ho; obtain ⟨s, j, r', hr, rfl⟩ := ho
    exact A2v (ty := 0) ha hf hop j hr hv
   ·rename_i x r _ ha
    rw [Sj a1] at hop
    simp only [OM, OB] at ho; obtain ⟨s, j, r', hr, rfl⟩ := ho
    exact A2w (ty := 0) ha hf hop j hr hv
   ·split at ho <;> try (cases ho; done)
    all_goals (simp only [OM, OB] at ho; obtain ⟨_, _, _, _, _, _, _, _, rfl⟩ := ho; simp [cls] at hc)
   ·simp only [OM, OB] at ho; obtain ⟨_, _, _, _, _, _, rfl⟩ := ho; simp [cls] at hc
   ·simp only [OB] at ho; obtain ⟨_, _, _, _, ho⟩ := ho
    split at ho
    ·cases ho
    ·simp only [OM] at ho; obtain ⟨_, _, rfl⟩ := ho; simp [cls] at hc
   ·split at ho
    ·simp only [OM, OB] at ho; obtain ⟨_, _, _, _, _, _, rfl⟩ := ho; simp [cls] at hc
    ·cases ho
   ·cases ho
 | _ => rw [hop] at ho; simp [cO] at ho
end
end Go.L
