/- THE LOGICAL MACHINE AND THE MODEL: operations that look at no heap (3). -/
import Derived.Test.YtifnlcajancfdaaSa
set_option linter.unusedVariables false
set_option linter.unusedSimpArgs false
namespace Go.L
open Go
variable {P : Program} {ι : Inj} {w : World}
section
variable {sz : Nat} {f : FF} {a : Act} {o : Oper} {q : O} {v : Value}
theorem A2t {op : UnOp} {t : TypeId} {x : Operand} (hf : FFR ι sz f a.tmps) (ho : o.op = .unOp op t x) {x' : X} (hx : cX x = some x') (hv : At f (.un op x') = some v) : Co P ι a o v w := by
 have c := Ar hf hx
 simp only [At] at hv
 unfold unOp at hv
 split at hv
 ·rename_i k n e
  rw [e] at c
  simp only [OI] at hv; subst hv
  exact ⟨_, by simp only [execOp, ho, c.int_inv]; exact Dy _ rfl, .int _ _⟩
 ·rename_i b e
  rw [e] at c
  simp only [OI] at hv; subst hv
  exact ⟨_, by simp only [execOp, ho, c.bool_inv]; exact Dy _ rfl, .bool _⟩
 ·cases hv
theorem A1q {src dst : TypeId} {k0 k : IntKind} {x : Operand} (hs : P.underlying src = some (.int k0)) (hd : P.underlying dst = some (.int k)) (hf : FFR ι sz f a.tmps) (ho : o.op = .convert src dst x) {x' : X} (hx : cX x = some x') (hv : At f (.cvi k x') = some v) : Co P ι a o v w := by
 have c := Ar hf hx
 simp only [At] at hv
 split at hv
 ·rename_i d n e
  rw [e] at c
  simp only [OI] at hv; subst hv
  refine ⟨.int k (k.wrap n), ?_, .int _ _⟩
  simp only [execOp, ho, c.int_inv]
  refine Dy _ ?_
  simp only [Go.convert, Sem.run_bind, run_underlying hs, run_underlying hd, Result.andThen]; rfl
 ·cases hv
theorem A1p {src dst : TypeId} {x : Operand} (hs : P.underlying src = some .string) (hd : P.underlying dst = some .string) (hf : FFR ι sz f a.tmps) (ho : o.op = .convert src dst x) {x' : X} (hx : cX x = some x') (hv : At f (.cvs x') = some v) : Co P ι a o v w := by
 have c := Ar hf hx
 simp only [At] at hv
 split at hv
 ·rename_i s e
  rw [e] at c
  simp only [OI] at hv; subst hv
  refine ⟨.string s, ?_, .string _⟩
  simp only [execOp, ho, c.string_inv]
  refine Dy _ ?_
  simp only [Go.convert, Sem.run_bind, run_underlying hs, run_underlying hd, Result.andThen]; rfl
 ·cases hv
theorem Ul {α β : Type} (g : α → Sem β) (k : α → Option β) (w : World) : ∀ (l : List α) (m : List β), l.mapM k = some m → (∀ x y, k x = some y → (g x).run P w = .ok y w) → (l.mapM g).run P w = .ok m w
 | [], m, h, _ => by simp at h; subst h; rfl
 | x :: l, m, h, hg => by
  simp only [List.mapM_cons, Option.bind_eq_bind, OB, Option.pure_def, OI] at h
  obtain ⟨y, a, r, c, rfl⟩ := h
  simp only [List.mapM_cons, Sem.run_bind, hg x y a, Result.andThen, Ul g k w l r c hg]; rfl
theorem Yd {t : TypeId} {z : List Value} (h : Qr P t = some z) (w : World) : ∃ zv, (zeroValue t).run P w = .ok zv w ∧ Bf zv = z := by
 unfold Qr at h
 simp only [OM, OB] at h
 obtain ⟨zv, ⟨i, a, c⟩, rfl⟩ := h
 exact ⟨zv, by simp [zeroValue, Sem.run_bind, run_typeInfo w a, Result.andThen, c], rfl⟩
theorem Pe (v : Value) : v.cells.toList = Bf v := by cases v <;> rfl
theorem VRs.self {l : List Value} (h : l.all (Ac 0 4) = true) : VRs ι l l := by
 induction l with
 | nil => exact .nil
 | cons x l ih => simp at h; exact .cons (VR.self 4 x h.1) (ih (by simpa using h.2))
theorem Ad9 {t : TypeId} {ps : Array (Nat × Operand)} {fs : Array Field} {z : List Value} {pl : List (Nat × Nat)} {qs : List (Nat × Nat × X)} (hu : P.underlying t = some (.struct fs)) (hz : Qr P t = some z) (hzn : z.all (Ac 0 4) = true)
  (hp : Arw P fs.toList = some pl) (hq : N0 (fun i => pl[i]?) ps.toList = some qs) (hf : FFR ι sz f a.tmps) (ho : o.op = .build t ps) (hv : At f (.bld z qs) = some v) : Co P ι a o v w := by
 simp only [At, OM] at hv
 obtain ⟨c, hc, rfl⟩ := hv
 obtain ⟨zv, r, l⟩ := Yd hz w
 obtain ⟨r', e, hr⟩ := U0 hf hq (VRs.self (ι := ι) hzn) hc
 refine ⟨.agg r'.toArray, ?_, .agg hr⟩
 simp only [execOp, ho]
 refine Dy _ ?_
 have s : (fs.mapM (m := Sem) fun f => do pure (f.offset, ← sizeOf f.type)).run P w = .ok pl.toArray w := by
  rw [Array.mapM_eq_mapM_toList]
  have := Ul (P := P) (fun f : Field => (do pure (f.offset, ← sizeOf f.type) : Sem (Nat × Nat))) (fun f => (szO P f.type).map fun n => (f.offset, n)) w fs.toList pl hp (fun x y j => by
   simp only [OM] at j
   obtain ⟨n, hn, rfl⟩ := j
   simp [Sem.run_bind, Du hn, Result.andThen])
  have d : ∀ {α β : Type} (g : α → β) (x : Sem α) (y : α) (w' : World), x.run P w = .ok y w' → (g <$> x).run P w = .ok (g y) w' := by
   intro α β g x y w' hx
   rw [map_eq_pure_bind]
   simp only [Sem.run_bind, hx, Result.andThen]; rfl
  exact d _ _ _ _ this
 have e1 : zv.cells = z.toArray := by rw [← l, ← Pe]
 have e2 : (ps.map fun x => (x.1, a.eval x.2)).toList = ps.toList.map fun p => (p.1, a.eval p.2) := by simp
 simp only [Instr.build, Sem.run_bind, r, Result.andThen, run_underlying hu, s, e1]
 have u : (fun i : Nat => pl.toArray[i]?) = fun i : Nat => pl[i]? := by funext i; simp
 rw [e2, u, e]; rfl
theorem Apu {t e : TypeId} {k n : Nat} {ps : Array (Nat × Operand)} {z : List Value} {qs : List (Nat × Nat × X)} (hu : P.underlying t = some (.array k e)) (hz : Qr P t = some z) (hzn : z.all (Ac 0 4) = true)
  (hp : szO P e = some n) (hq : N0 (fun i => some (i * n, n)) ps.toList = some qs) (hf : FFR ι sz f a.tmps) (ho : o.op = .build t ps) (hv : At f (.bld z qs) = some v) : Co P ι a o v w := by
 simp only [At, OM] at hv
 obtain ⟨c, y, rfl⟩ := hv
 obtain ⟨u, j, g⟩ := Yd hz w
 obtain ⟨l, d, r⟩ := U0 hf hq (VRs.self (ι := ι) hzn) y
 refine ⟨.agg l.toArray, ?_, .agg r⟩
 simp only [execOp, ho]
 refine Dy _ ?_
 have m : u.cells = z.toArray := by rw [← g, ← Pe]
 have s : (ps.map fun x => (x.1, a.eval x.2)).toList = ps.toList.map fun p => (p.1, a.eval p.2) := by simp
 simp only [Instr.build, Sem.run_bind, j, Result.andThen, run_underlying hu, Du hp, m]
 rw [s, d]; rfl
theorem A1n {t : TypeId} {i n : Nat} {fs : Array Field} {fd : Field} {x : Operand} (hu : P.underlying t = some (.struct fs)) (hfd : fs[i]? = some fd) (hn : szO P fd.type = some n) (hn0 : n ≠ 0) (hf : FFR ι sz f a.tmps) (ho : o.op = .fieldAddr t x i)
  {x' : X} (hx : cX x = some x') (hv : At f (.fld fd.offset x') = some v) : Co P ι a o v w := by
 have c := Ar hf hx
 simp only [At] at hv
 split at hv
 ·rename_i j e
  rw [e] at c
  obtain ⟨m, g, _, l⟩ := c.ptr_inv
  simp only [OI] at hv; subst hv
  have := VR.ptr (ι := ι) (j.off + fd.offset) g
  refine ⟨_, ?_, this⟩
  simp only [execOp, ho, l]
  refine Dy _ ?_
  simp only [Instr.fieldAt, Sem.run_bind, run_underlying hu, Result.andThen, hfd, Instr.sureAddr, fieldPlace, Du hn, hn0]
  simp only [Addr.add, if_false]
  by_cases d : fd.offset = 0
  ·simp [d, Sem.run_bind, Result.andThen]
  ·simp [d, Sem.run_bind, Result.andThen, Nat.add_assoc]
 ·cases hv
theorem A1m {t : TypeId} {i : Nat} {g : Option Nat} {fs : Array Field} {fd : Field} {x : Operand} (hu : P.underlying t = some (.struct fs)) (hfd : fs[i]? = some fd) (hg : Pz P fd.type = some g) (hf : FFR ι sz f a.tmps) (ho : o.op = .field t x i)
  {x' : X} (hx : cX x = some x') (hv : At f (.fof fd.offset g x') = some v) : Co P ι a o v w := by
 have d := Ar hf hx
 simp only [At] at hv
 split at hv
 ·rename_i p e
  rw [e] at d
  obtain ⟨m, n, c⟩ := d.agg_inv
  obtain ⟨j, l, h2⟩ := Afg hg c hv w
  refine ⟨j, ?_, h2⟩
  simp only [execOp, ho, n]
  refine Dy _ ?_
  simp only [Instr.field, Sem.run_bind, run_underlying hu, Result.andThen, hfd, asAgg, Sem.run_pure]
  exact l
 ·cases hv
theorem Sw (m : Img) (off k : Nat) : (⟨m.rb, m.off + off, none⟩ : Addr).add k = ⟨m.rb, m.off + (off + k), none⟩ := by
 unfold Addr.add
 split
 ·rename_i h; subst h; rfl
 ·simp [Nat.add_assoc]
theorem A1l {t e : TypeId} {k n : Nat} {x i : Operand} (hu : P.underlying t = some (.array k e)) (hn : szO P e = some n) (hf : FFR ι sz f a.tmps) (ho : o.op = .indexAddr t x i)
  {x' i' : X} (hx : cX x = some x') (hi : cX i = some i') (hv : At f (.ixa k n x' i') = some v) : Co P ι a o v w := by
 have d := Ar hf hx
 have c := Ar hf hi
 simp only [At] at hv
 split at hv
 ·rename_i l p
  rw [p] at d
  obtain ⟨m, g, _, r⟩ := d.ptr_inv
  unfold Se at hv
  split at hv
  ·rename_i y j s
   rw [s] at c
   split at hv
   ·rename_i u
    simp only [OI] at hv; subst hv
    refine ⟨_, ?_, VR.ptr (ι := ι) (l.off + j.toNat * n) g⟩
    simp only [execOp, ho, r, c.int_inv]
    refine Dy _ ?_
    simp only [Instr.indexAt, Sem.run_bind, asIntOf, Sem.run_pure, run_underlying hu, Result.andThen, Instr.sureAddr, u, and_self, if_true, Du hn, Sw]
   ·cases hv
  ·cases hv
 ·cases hv
theorem A1k {t e : TypeId} {n : Nat} {x i : Operand} (hu : P.underlying t = some (.slice e)) (hn : szO P e = some n) (hf : FFR ι sz f a.tmps) (ho : o.op = .indexAddr t x i)
  {x' i' : X} (hx : cX x = some x') (hi : cX i = some i') (hv : At f (.ixs n x' i') = some v) : Co P ι a o v w := by
 have p := Ar hf hx
 have r := Ar hf hi
 simp only [At] at hv
 split at hv
 ·rename_i d len y u
  rw [u] at p
  unfold Se at hv
  split at hv
  ·rename_i kk j e2
   rw [e2] at r
   split at hv
   ·rename_i hb
    simp only [OI] at hv; subst hv
    have l : ∀ {m : Img} (off c : Nat), ι d.block = some m → d.off = off → a.eval x = .slice (some ⟨m.rb, m.off + off, none⟩) len c → Co P ι a o (.pointer (some ⟨d.block, d.off + j.toNat * n, none⟩)) w := by
     intro m off c s g z
     refine ⟨_, ?_, VR.ptr (ι := ι) (d.off + j.toNat * n) s⟩
     simp only [execOp, ho, z, r.int_inv]
     refine Dy _ ?_
     simp only [Instr.indexAt, Sem.run_bind, asIntOf, Sem.run_pure, run_underlying hu, Result.andThen, hb, and_self, if_true, Du hn, Sw, g]
    cases rx' : a.eval x <;> rw [rx'] at p <;> cases p
    ·exact l _ _ ‹_› rfl rx'
    ·omega
    ·exact l _ _ ‹_› rfl rx'
    ·omega
   ·cases hv
  ·cases hv
 ·cases hv
theorem A1i {t e : TypeId} {k n : Nat} {g : Option Nat} {x i : Operand} (hu : P.underlying t = some (.array k e)) (hn : szO P e = some n) (hg : Pz P e = some g) (hf : FFR ι sz f a.tmps) (ho : o.op = .index t x i)
  {x' i' : X} (hx : cX x = some x') (hi : cX i = some i') (hv : At f (.ixv k n g x' i') = some v) : Co P ι a o v w := by
 have l := Ar hf hx
 have d := Ar hf hi
 simp only [At] at hv
 split at hv
 ·rename_i cs kk j s y
  rw [s] at l; rw [y] at d
  split at hv
  ·rename_i z
   obtain ⟨r, u, c⟩ := l.agg_inv
   obtain ⟨m, p, h2⟩ := Afg hg c hv w
   refine ⟨m, ?_, h2⟩
   simp only [execOp, ho, u, d.int_inv]
   refine Dy _ ?_
   simp only [Instr.index, Sem.run_bind, asIntOf, Sem.run_pure, run_underlying hu, Result.andThen, z, and_self, if_true, Du hn]
   exact p
  ·cases hv
 ·cases hv
theorem A1j {t : TypeId} {x i : Operand} (hu : P.underlying t = some .string) (hf : FFR ι sz f a.tmps) (ho : o.op = .index t x i)
  {x' i' : X} (hx : cX x = some x') (hi : cX i = some i') (hv : At f (.ixt x' i') = some v) : Co P ι a o v w := by
 have e := Ar hf hx
 have d := Ar hf hi
 simp only [At] at hv
 split at hv
 ·rename_i s p j g l
  rw [g] at e; rw [l] at d
  split at hv
  ·rename_i m
   simp only [OM] at hv
   obtain ⟨c, n, rfl⟩ := hv
   refine ⟨.int .u8 c.toNat, ?_, .int _ _⟩
   simp only [execOp, ho, e.string_inv, d.int_inv]
   refine Dy _ ?_
   simp only [Instr.index, Sem.run_bind, asIntOf, Sem.run_pure, run_underlying hu, Result.andThen, m, if_true, n]
  ·cases hv
 ·cases hv
end
end Go.L
namespace Go.L
open Go
variable {P : Program} {ι : Inj} {w : World}
section
variable {sz : Nat} {f : FF} {a : Act} {o : Oper} {q : O} {v : Value}
theorem Ls {x : Option Operand} {q : Option X} (h : cOX x = some q) : (x = none ∧ q = none) ∨ ∃ y z, x = some y ∧ q = some z ∧ cX y = some z := by
 cases x with
 | none => simp [cOX] at h; exact .inl ⟨rfl, h.symm⟩
 | some y => simp only [cOX, OM] at h; obtain ⟨z, a, rfl⟩ := h; exact .inr ⟨y, z, rfl, rfl, a⟩
theorem Gn {x : Option X} {d high n : Nat} (hd : d ≤ high) (h : Bn f x d high = some n) : n ≤ high := by
 cases x with
 | none => simp [Bn] at h; omega
 | some x =>
  simp only [Bn] at h
  split at h
  ·split at h
   ·simp only [OI] at h; omega
   ·cases h
  ·cases h
theorem Q2 (hf : FFR ι sz f a.tmps) {lo hi : Option Operand} {lo' hi' : Option X} (hlo : cOX lo = some lo') (hhi : cOX hi = some hi') {isS : Bool} {len cap l h : Nat}
  (h1 : Bn f hi' len cap = some h) (h2 : Bn f lo' 0 h = some l) (w : World) :
  (Instr.sliceBounds isS len cap (lo.map a.eval) (hi.map a.eval) none).run P w = .ok (l, h, cap) w := by
 rcases Ls hhi with ⟨rfl, rfl⟩ | ⟨y, z, rfl, rfl, d⟩
 ·simp only [Bn, OI] at h1; subst h1
  rcases Ls hlo with ⟨rfl, rfl⟩ | ⟨e, g, rfl, rfl, c⟩
  ·simp only [Bn, OI] at h2; subst h2
   simp [Instr.sliceBounds, Sem.run_bind, Result.andThen]
  ·simp [Instr.sliceBounds, Sem.run_bind, Result.andThen, Gq hf c h2]
 ·rcases Ls hlo with ⟨rfl, rfl⟩ | ⟨e, g, rfl, rfl, c⟩
  ·simp only [Bn, OI] at h2; subst h2
   cases isS <;> simp [Instr.sliceBounds, Sem.run_bind, Result.andThen, Gq hf d h1]
  ·cases isS <;> simp [Instr.sliceBounds, Sem.run_bind, Result.andThen, Gq hf d h1, Gq hf c h2]
theorem Afh (hf : FFR ι sz f a.tmps) {lo : Option Operand} {hi mx : Operand} {lo' : Option X} {hi' mx' : X} (hlo : cOX lo = some lo') (hhi : cX hi = some hi') (hmx : cX mx = some mx') {isS : Bool} {len cap l h m d d' : Nat}
  (h0 : Bn f (some mx') d cap = some m) (h1 : Bn f (some hi') d' m = some h) (h2 : Bn f lo' 0 h = some l) (w : World) :
  (Instr.sliceBounds isS len cap (lo.map a.eval) (some (a.eval hi)) (some (a.eval mx))).run P w = .ok (l, h, m) w := by
 rcases Ls hlo with ⟨rfl, rfl⟩ | ⟨e, g, rfl, rfl, c⟩
 ·simp only [Bn, OI] at h2; subst h2
  simp [Instr.sliceBounds, Sem.run_bind, Result.andThen, Gq hf hmx h0, Gq hf hhi h1]
 ·simp [Instr.sliceBounds, Sem.run_bind, Result.andThen, Gq hf hmx h0, Gq hf hhi h1, Gq hf c h2]
theorem A1a {t : TypeId} {x : Operand} {lo hi : Option Operand} (hu : P.underlying t = some .string) (hf : FFR ι sz f a.tmps) (ho : o.op = .slice t x lo hi none)
  {x' : X} {lo' hi' : Option X} (hx : cX x = some x') (hlo : cOX lo = some lo') (hhi : cOX hi = some hi') (hv : At f (.slt x' lo' hi') = some v) : Co P ι a o v w := by
 have c := Ar hf hx
 simp only [At] at hv
 split at hv
 ·rename_i s e
  rw [e] at c
  simp only [OB, OI] at hv
  obtain ⟨h, d, l, h2, rfl⟩ := hv
  refine ⟨_, ?_, .string _⟩
  simp only [execOp, ho, c.string_inv]
  refine Dy _ ?_
  simp only [Instr.sliceAt, Instr.slice, Sem.run_bind, run_underlying hu, Result.andThen, Option.map_none, Option.isSome_none, Bool.false_eq_true, if_false, Q2 (P := P) hf hlo hhi d h2 w]
  rfl
 ·cases hv
theorem A1c {t e : TypeId} {k n : Nat} {x : Operand} {lo hi : Option Operand} (hu : P.underlying t = some (.array k e)) (hn : szO P e = some n) (hf : FFR ι sz f a.tmps) (ho : o.op = .slice t x lo hi none)
  {x' : X} {lo' hi' : Option X} (hx : cX x = some x') (hlo : cOX lo = some lo') (hhi : cOX hi = some hi') (hv : At f (.sla k n x' lo' hi') = some v) : Co P ι a o v w := by
 have g := Ar hf hx
 simp only [At] at hv
 split at hv
 ·rename_i j r
  rw [r] at g
  obtain ⟨m, d, _, s⟩ := g.ptr_inv
  simp only [OB, OI] at hv
  obtain ⟨h, c, l, h2, rfl⟩ := hv
  have hh := Gn (Nat.le_refl k) c
  have z := Gn (Nat.zero_le _) h2
  refine ⟨.slice (some (if k = l then ⟨m.rb, m.off + j.off, none⟩ else ⟨m.rb, m.off + (j.off + l * n), none⟩)) (h - l) (k - l), ?_, ?_⟩
  ·simp only [execOp, ho, s]
   refine Dy _ ?_
   simp only [Instr.sliceAt, Sem.run_bind, run_underlying hu, Result.andThen, Option.map_none, Instr.sureAddr, Sem.run_pure, Q2 (P := P) hf hlo hhi c h2 w, Du hn, Sw]
  ·split
   ·rename_i y
    have u : h - l = 0 := by omega
    have p : k - l = 0 := by omega
    rw [u, p]; exact .slice0 _ _ d
   ·exact .slice _ _ _ d
 ·cases hv
theorem Ans {α : Type} {x : Option Nat} {y : Nat → Option Nat} {z : Nat → Nat → Option α} {r : α} (h : (x.bind fun a => (y a).bind fun b => z a b) = some r) : ∃ a b, x = some a ∧ y a = some b ∧ z a b = some r := by
 simp only [OB] at h
 obtain ⟨a, c, b, d, e⟩ := h
 exact ⟨a, b, c, d, e⟩
theorem A1b {t e : TypeId} {n : Nat} {x : Operand} {lo hi mx : Option Operand} (hu : P.underlying t = some (.slice e)) (hn : szO P e = some n) (hf : FFR ι sz f a.tmps) (ho : o.op = .slice t x lo hi mx)
  {x' : X} {lo' hi' mx' : Option X} (hx : cX x = some x') (hlo : cOX lo = some lo') (hhi : cOX hi = some hi') (hmx : cOX mx = some mx') (hv : At f (.sls n x' lo' hi' mx') = some v) : Co P ι a o v w := by
 have rx := Ar hf hx
 simp only [At] at hv
 have p : ∀ {c : Option Addr} {len g l h : Nat}, mx = none → a.eval x = .slice c len g → Bn f hi' len g = some h → Bn f lo' 0 h = some l →
   (execOp a.eval o).run P w = .ok (.value (.slice (if g = l then c else c.map (·.add (l * n))) (h - l) (g - l))) w := by
  intro c len g l h hm hr j h2
  subst hm
  simp only [execOp, ho, hr]
  refine Dy _ ?_
  simp only [Instr.sliceAt, Instr.slice, Sem.run_bind, run_underlying hu, Result.andThen, Option.map_none, Q2 (P := P) hf hlo hhi j h2 w, Du hn]
  rfl
 have r : ∀ {c : Option Addr} {len g l h m d d' : Nat} {mo a3 : Operand} {mq hq : X}, mx = some mo → hi = some a3 → cX mo = some mq → cX a3 = some hq → a.eval x = .slice c len g →
   Bn f (some mq) d g = some m → Bn f (some hq) d' m = some h → Bn f lo' 0 h = some l →
   (execOp a.eval o).run P w = .ok (.value (.slice (if m = l then c else c.map (·.add (l * n))) (h - l) (m - l))) w := by
  intro c len g l h m d d' mo a3 mq hq hm hh a1 a0 hr h0 j h2
  subst hm; subst hh
  simp only [execOp, ho, hr]
  refine Dy _ ?_
  simp only [Instr.sliceAt, Instr.slice, Sem.run_bind, run_underlying hu, Result.andThen, Option.map_some, Afh (P := P) hf hlo a0 a1 h0 j h2 w, Du hn]
  rfl
 generalize hvx : ev f x' = vx at rx hv
 unfold Yw at hv
 split at hv
 ·-- nil
  split at hv
  ·cases hv
  ·rename_i ac
   obtain ⟨m, h, h0, j, hz⟩ := Ans hv
   simp only [OB, OI] at hz
   obtain ⟨l, h2, rfl⟩ := hz
   have em : m = 0 := by have := Gn (Nat.zero_le _) h0; omega
   subst em
   have eh : h = 0 := by have := Gn (Nat.zero_le _) j; omega
   subst eh
   have el : l = 0 := by have := Gn (Nat.zero_le _) h2; omega
   subst el
   refine ⟨.slice none 0 0, ?_, .nils 0 0⟩
   have hr : a.eval x = .slice none 0 0 := by
    generalize a.eval x = rv at rx
    cases rx; rfl
   rcases Ls hmx with ⟨u, rfl⟩ | ⟨mo, mq, u, rfl, a1⟩
   ·have := p u hr j h2
    simpa using this
   ·rcases Ls hhi with ⟨e2, rfl⟩ | ⟨a3, hq, e2, rfl, a0⟩
    ·simp at ac
    ·have := r u e2 a1 a0 hr h0 j h2
     simpa using this
 ·rename_i ad len g
  split at hv
  ·-- three indexes
   rename_i mq
   split at hv
   ·cases hv
   ·rename_i hq
    obtain ⟨m, h, h0, j, hz⟩ := Ans hv
    simp only [OB, OI] at hz
    obtain ⟨l, h2, rfl⟩ := hz
    rcases Ls hmx with ⟨u, a2⟩ | ⟨mo, aa, u, a2, a1⟩
    ·cases a2
    cases a2
    rcases Ls hhi with ⟨e2, a7⟩ | ⟨a3, ai, e2, a7, a0⟩
    ·cases a7
    cases a7
    have hm := Gn (Nat.zero_le _) h0
    have hh := Gn (Nat.zero_le _) j
    have hl := Gn (Nat.zero_le _) h2
    have a5 : ∀ {mi : Img} {off c' : Nat}, ι ad.block = some mi → ad.off = off → a.eval x = .slice (some ⟨mi.rb, mi.off + off, none⟩) len c' → g ≤ c' → Co P ι a o (.slice (some ⟨ad.block, ad.off + l * n, none⟩) (h - l) (m - l)) w := by
     intro mi off c' a4 a8 hr hc
     have ab : Bn f (some mq) 0 c' = some m := by
      simp only [Bn] at h0 ⊢
      split at h0
      ·split at h0
       ·rename_i hb; rw [if_pos (by omega)]; exact h0
       ·cases h0
      ·cases h0
     refine ⟨_, r u e2 a1 a0 hr ab j h2, ?_⟩
     split
     ·rename_i e
      have e3 : h - l = 0 := by omega
      have e4 : m - l = 0 := by omega
      rw [e3, e4]; exact .slice0 _ _ a4
     ·simp only [Option.map_some, Sw, a8]; exact .slice _ _ _ a4
    have a6 : ∀ {a' : Addr} {mi : Img}, ι ad.block = some mi → a.eval x = .slice (some a') 0 0 → len = 0 → g = 0 → Co P ι a o (.slice (some ⟨ad.block, ad.off + l * n, none⟩) (h - l) (m - l)) w := by
     intro a' mi ae hr e5 e6
     have em : m = 0 := by omega
     have eh : h = 0 := by omega
     have el : l = 0 := by omega
     subst em; subst eh; subst el; subst e6
     refine ⟨_, r u e2 a1 a0 hr h0 j h2, ?_⟩
     exact .slice0 _ _ ae
    cases rx' : a.eval x <;> rw [rx'] at rx <;> cases rx
    ·exact a5 ‹_› rfl rx' (Nat.le_refl _)
    ·exact a6 ‹_› rx' rfl rfl
    ·exact a5 ‹_› rfl rx' (by omega)
    ·exact a6 ‹_› rx' rfl rfl
  ·-- two
   rename_i ah
   have u : mx = none := by
    rcases Ls hmx with ⟨u, _⟩ | ⟨mo, aa, _, a2, _⟩
    ·exact u
    ·cases a2
   split at hv
   ·-- the capacity is known
    rename_i y
    obtain ⟨h, l, j, h2, hz⟩ := Ans hv
    split at hz
    ·rename_i al
     simp only [OI] at hz; subst hz
     have hl := Gn (Nat.zero_le _) h2
     cases rx' : a.eval x <;> rw [rx'] at rx <;> cases rx
     ·refine ⟨_, p u rx' j h2, ?_⟩
      split
      ·rename_i e
       have e3 : h - l = 0 := by omega
       have e4 : g - l = 0 := by omega
       rw [e3, e4]; exact .slice0 _ _ ‹_›
      ·simp only [Option.map_some, Sw]; exact .slice _ _ _ ‹_›
     ·have eh : h = 0 := by omega
      have el : l = 0 := by omega
      subst eh; subst el
      refine ⟨_, p u rx' j h2, ?_⟩
      exact .slice0 _ _ ‹_›
     ·cases y
     ·cases y
    ·cases hz
   ·rename_i s y
    split at hv
    ·rename_i es
     subst es
     obtain ⟨h, l, j, h2, hz⟩ := Ans hv
     simp only [OI] at hz; subst hz
     have hh := Gn (Nat.le_refl _) j
     have hl := Gn (Nat.zero_le _) h2
     cases rx' : a.eval x <;> rw [rx'] at rx <;> cases rx
     ·cases y
     ·cases y
     ·rename_i c0 b0 m0 ag s0 a4 aj ak
      have a9 : s0 = s := by simpa using y
      subst a9
      have af : Bn f hi' len c0 = some h := by
       cases hi' with
       | none => simpa [Bn] using j
       | some z =>
        simp only [Bn] at j ⊢
        split at j
        ·split at j
         ·rename_i hb; rw [if_pos (by omega)]; exact j
         ·cases j
        ·cases j
      refine ⟨_, p u rx' af h2, ?_⟩
      split
      ·rename_i e
       have e3 : h - l = 0 := by omega
       have e4 : c0 - l = 0 := by omega
       rw [e3, e4]; exact .loose0 _ _ _ a4
      ·simp only [Option.map_some, Sw]
       refine .loose _ _ _ _ a4 (by omega) ?_
       have : c0 * s0 = l * s0 + (c0 - l) * s0 := by rw [← Nat.add_mul]; congr 1; omega
       omega
     ·have eh : h = 0 := by omega
      have el : l = 0 := by omega
      subst eh; subst el
      refine ⟨_, p u rx' j h2, ?_⟩
      exact .loose0 _ _ _ ‹_›
    ·cases hv
 ·cases hv
theorem A1d {x : Operand} (hf : FFR ι sz f a.tmps) (ho : o.op = .nilCheck x) {x' : X} (hx : cX x = some x') (hv : At f (.nil x') = some v) : Co P ι a o v w := by
 have d := Ar hf hx
 simp only [At] at hv
 split at hv
 ·rename_i p e
  rw [e] at d
  simp only [OI] at hv; subst hv
  obtain ⟨m, n, r, j⟩ := d.ptr_inv
  refine ⟨_, ?_, d⟩
  simp only [execOp, ho, j]; rfl
 ·rename_i g l c e
  rw [e] at d
  simp only [OI] at hv; subst hv
  refine ⟨_, ?_, d⟩
  generalize j : a.eval x = rv at d
  cases d
  simp only [execOp, ho, j]; rfl
 ·cases hv
theorem A1o {x : Operand} {i : Nat} (hf : FFR ι sz f a.tmps) (ho : o.op = .extract x i) {x' : X} (hx : cX x = some x') (hv : At f (.ext x' i) = some v) : Co P ι a o v w := by
 have l := Ar hf hx
 simp only [At] at hv
 split at hv
 ·rename_i s e
  rw [e] at l
  split at hv
  ·rename_i p c
   split at hv
   ·rename_i d
    simp only [OI] at hv; subst hv
    obtain ⟨m, n, g⟩ := l.tuple_inv (by
     intro e
     simp only [J4, Value.tuple.injEq] at e
     subst e
     cases i with
     | zero => simp at c; subst c; simp [C3] at d
     | succ i => simp at c)
    obtain ⟨r, j, h2⟩ := g.at_ c
    refine ⟨r, ?_, h2⟩
    simp only [execOp, ho, n]
    refine Dy _ ?_
    simp only [Instr.extract]
    simp at j
    simp [j]
   ·cases hv
  ·cases hv
 ·cases hv
theorem A1f {g : FuncId} {first cap : Array Operand} (hf : FFR ι sz f a.tmps) (ho : o.op = .makeFunc (.func g) first cap) {l c : List X} (hl : cXs first.toList = some l) (hc : cXs cap.toList = some c)
  (hv : At f (.mkf (.func g) l c) = some v) : Co P ι a o v w := by
 simp only [At, OI] at hv; subst hv
 refine ⟨.func (.func g) (first.toList.map a.eval).toArray (cap.toList.map a.eval).toArray, ?_, .func g (U4 hf hl) (U4 hf hc)⟩
 simp only [execOp, ho]
 refine Dy _ ?_
 simp only [Instr.makeFunc, Sem.run_pure, ← Array.toList_map, Array.toArray_toList]
theorem A1e {t : TypeId} {d : TypeDesc} {x : Operand} (hu : P.underlying t = some d) (hd : ∀ ms, d ≠ .interface ms) (hf : FFR ι sz f a.tmps) (ho : o.op = .makeInterface t x) {x' : X} (hx : cX x = some x') (hv : At f (.mki t x') = some v) : Co P ι a o v w := by
 simp only [At, OI] at hv; subst hv
 refine ⟨.iface t (a.eval x), ?_, .iface t (Ar hf hx)⟩
 simp only [execOp, ho]
 refine Dy _ ?_
 simp only [Instr.makeInterface, Sem.run_bind, run_underlying hu, Result.andThen]
 cases d <;> first | rfl | exact absurd rfl (hd _)
theorem Aj4 {t ty : TypeId} {x : Operand} (hu : P.underlying t = some .string) (hf : FFR ι sz f a.tmps) (ho : o.op = .call { callee := .builtin .len, args := #[x], argTypes := #[t] }) {x' : X} (hx : cX x = some x') (hv : At f (.lens true x') = some v) : Co P ι a o v w := by
 have c := Ar hf hx
 simp only [At] at hv
 split at hv
 ·rename_i s _ e
  rw [e] at c
  simp only [OI] at hv; subst hv
  refine ⟨_, ?_, .int _ _⟩
  simp only [execOp, ho, resolve, Sem.run_bind, Result.andThen, Sem.run_pure, invoke, Go.builtin]
  simp [Builtin.len_, Sem.run_bind, run_underlying hu, Result.andThen, c.string_inv, goInt]
 ·contradiction
 ·cases hv
theorem Apt {t e : TypeId} {x : Operand} (hu : P.underlying t = some (.slice e)) (hf : FFR ι sz f a.tmps) (ho : o.op = .call { callee := .builtin .len, args := #[x], argTypes := #[t] }) {x' : X} (hx : cX x = some x') (hv : At f (.lens false x') = some v) : Co P ι a o v w := by
 have d := Ar hf hx
 simp only [At] at hv
 split at hv
 ·contradiction
 ·rename_i m n c _ j
  rw [j] at d
  simp only [OI] at hv; subst hv
  refine ⟨.int .i64 n, ?_, .int _ _⟩
  have : ∃ b g, a.eval x = .slice b n g := by
   generalize a.eval x = rv at d
   cases d <;> exact ⟨_, _, rfl⟩
  obtain ⟨b, g, l⟩ := this
  simp only [execOp, ho, resolve, Sem.run_bind, Result.andThen, Sem.run_pure, invoke, Go.builtin]
  simp [Builtin.len_, Sem.run_bind, run_underlying hu, Result.andThen, l, goInt]
 ·cases hv
theorem Azr {t e : TypeId} {n : Nat} {x : Operand} (hu : P.underlying t = some (.array n e)) (ho : o.op = .call { callee := .builtin .len, args := #[x], argTypes := #[t] }) (hv : At f (.lena n) = some v) : Co P ι a o v w := by
 simp only [At, OI] at hv; subst hv
 refine ⟨.int .i64 n, ?_, .int _ _⟩
 simp only [execOp, ho, resolve, Sem.run_bind, Result.andThen, Sem.run_pure, invoke, Go.builtin]
 simp [Builtin.len_, Sem.run_bind, run_underlying hu, Result.andThen, goInt]
theorem Ahj {g : Value → Value → Option Value} {G : Value → Value → Sem Value} (hg : ∀ x y z, g x y = some z → ∀ w, (G x y).run P w = .ok z w ∧ ∃ k n k' m k'' j, x = .int k n ∧ y = .int k' m ∧ z = .int k'' j) :
  ∀ {l l' : List Value} (hl : VRs ι l l') {x x' z : Value} (hx : VR ι x x') (h : Jq g x l = some z) (w : World), ∃ z', (l'.foldlM G x').run P w = .ok z' w ∧ VR ι z z' := by
 intro l l' hl
 induction hl with
 | nil => intro x x' z hx h w; simp [Jq] at h; subst h; exact ⟨x', rfl, hx⟩
 | cons hy _ ih =>
  intro x x' z hx h w
  simp only [Jq, OB] at h
  obtain ⟨u, c, d⟩ := h
  obtain ⟨a, k, n, k', m, k'', j, rfl, rfl, rfl⟩ := hg _ _ _ c w
  obtain ⟨z', e, h2⟩ := ih (VR.int k'' j) d w
  refine ⟨z', ?_, h2⟩
  simp only [List.foldlM_cons, Sem.run_bind]
  rw [hx.int_inv, hy.int_inv, a]
  exact e
theorem A1g {ty : TypeId} {ts : Array TypeId} {x : Operand} {r : List Operand} {args : Array Operand} (ha : args.toList = x :: r) (hf : FFR ι sz f a.tmps) (ho : o.op = .call { callee := .builtin .min, args, argTypes := ts })
  {x' : X} {r' : List X} (hx : cX x = some x') (hr : cXs r = some r') (hv : At f (.min x' r') = some v) : Co P ι a o v w := by
 simp only [At] at hv
 obtain ⟨d, c, h2⟩ := Ahj (P := P) (G := Builtin.min2) (fun x y z h w => by
  unfold min2 at h
  split at h
  ·simp only [OI] at h; subst h; exact ⟨rfl, _, _, _, _, _, _, rfl, rfl, rfl⟩
  ·cases h) (U4 hf hr) (Ar hf hx) hv w
 refine ⟨d, ?_, h2⟩
 simp only [execOp, ho, resolve, Sem.run_bind, Result.andThen, Sem.run_pure, invoke, Go.builtin, Builtin.min_]
 simp [ha, c]
theorem A1h {ty : TypeId} {ts : Array TypeId} {x : Operand} {r : List Operand} {args : Array Operand} (ha : args.toList = x :: r) (hf : FFR ι sz f a.tmps) (ho : o.op = .call { callee := .builtin .max, args, argTypes := ts })
  {x' : X} {r' : List X} (hx : cX x = some x') (hr : cXs r = some r') (hv : At f (.max x' r') = some v) : Co P ι a o v w := by
 simp only [At] at hv
 obtain ⟨d, c, h2⟩ := Ahj (P := P) (G := Builtin.max2) (fun x y z h w => by
  unfold max2 at h
  split at h
  ·simp only [OI] at h; subst h; exact ⟨rfl, _, _, _, _, _, _, rfl, rfl, rfl⟩
  ·cases h) (U4 hf hr) (Ar hf hx) hv w
 refine ⟨d, ?_, h2⟩
 simp only [execOp, ho, resolve, Sem.run_bind, Result.andThen, Sem.run_pure, invoke, Go.builtin, Builtin.max_]
 simp [ha, c]
end
end Go.L
namespace Go.L
open Go
variable {P : Program} {ι : Inj} {h : Aa} {w : World}
section
variable {sz : Nat} {f : FF} {a : Act} {o : Oper} {q : O} {v : Value}
theorem Axi {α : Type} {xs : Array α} {x : α} (h : xs.toList = [x]) : xs = #[x] := by
 cases xs; simp at h; subst h; rfl
theorem Xf {b : Builtin} {c : Go.Call} {x : Operand} {t : TypeId} (hc : c.callee = .builtin b) (ha : c.args.toList = [x]) (ht : c.argTypes.toList = [t]) : c = { callee := .builtin b, args := #[x], argTypes := #[t] } := by
 obtain ⟨a, d, at_⟩ := c
 simp only at hc ha ht
 rw [hc, Axi ha, Axi ht]
theorem Sb {b : Builtin} {c : Go.Call} (hc : c.callee = .builtin b) : c = { callee := .builtin b, args := c.args, argTypes := c.argTypes } := by
 obtain ⟨a, d, at_⟩ := c
 simp only at hc
 rw [hc]
theorem Awe (hf : FFR ι sz f a.tmps) (ho : cO P o.op = some q) (hc : cls q = .P) (hv : At f q = some v) : Co P ι a o v w := by
 cases hop : o.op with
 | move x => rw [hop] at ho; simp only [cO, OM] at ho; obtain ⟨s, j, rfl⟩ := ho; exact Aya hf (.inl hop) j hv
 | assign x => rw [hop] at ho; simp only [cO, OM] at ho; obtain ⟨s, j, rfl⟩ := ho; exact Aya hf (.inr hop) j hv
 | pick c x y => rw [hop] at ho; simp only [cO, OM, OB] at ho; obtain ⟨c', a3, s, j, y', hy, rfl⟩ := ho; exact Azq hf hop a3 j hy hv
 | binOp op t x y yt => rw [hop] at ho; simp only [cO, OM, OB] at ho; obtain ⟨s, j, y', hy, rfl⟩ := ho; exact A1r hf hop j hy hv
 | unOp op t x => rw [hop] at ho; simp only [cO, OM] at ho; obtain ⟨s, j, rfl⟩ := ho; exact A2t hf hop j hv
 | convert src dst x =>
  rw [hop] at ho; simp only [cO] at ho
  split at ho
  ·rename_i k0 k hs hd; simp only [OM] at ho; obtain ⟨s, j, rfl⟩ := ho; exact A1q hs hd hf hop j hv
  ·rename_i hs hd; simp only [OM] at ho; obtain ⟨s, j, rfl⟩ := ho; exact A1p hs hd hf hop j hv
  ·split at ho
   ·simp only [OM] at ho; obtain ⟨s, j, rfl⟩ := ho; simp [cls] at hc
   ·cases ho
  ·split at ho
   ·simp only [OM] at ho; obtain ⟨s, j, rfl⟩ := ho; simp [cls] at hc
   ·cases ho
  ·cases ho
 | build t ps =>
  rw [hop] at ho; simp only [cO] at ho
  split at ho
  ·rename_i fs p; simp only [OB] at ho; obtain ⟨z, hz, ho⟩ := ho
   split at ho
   ·rename_i a4; simp only [OB, OM] at ho; obtain ⟨pl, hp, qs, hq, rfl⟩ := ho; exact Ad9 p hz a4 hp hq hf hop hv
   ·cases ho
  ·rename_i k e p; simp only [OB] at ho; obtain ⟨z, hz, ho⟩ := ho
   split at ho
   ·rename_i a4; simp only [OB, OM] at ho; obtain ⟨n, u, qs, hq, rfl⟩ := ho; exact Apu p hz a4 u hq hf hop hv
   ·cases ho
  ·cases ho
 | fieldAddr t x i =>
  rw [hop] at ho; simp only [cO] at ho
  split at ho
  ·rename_i fs p; simp only [OB] at ho; obtain ⟨fd, a5, n, u, ho⟩ := ho
   split at ho
   ·cases ho
   ·rename_i a8; simp only [OM] at ho; obtain ⟨s, j, rfl⟩ := ho; exact A1n p a5 u a8 hf hop j hv
  ·cases ho
 | field t x i =>
  rw [hop] at ho; simp only [cO] at ho
  split at ho
  ·rename_i fs p; simp only [OB, OM] at ho; obtain ⟨fd, a5, g, hg, s, j, rfl⟩ := ho; exact A1m p a5 hg hf hop j hv
  ·cases ho
 | indexAddr t x i =>
  rw [hop] at ho; simp only [cO] at ho
  split at ho
  ·rename_i k e p; simp only [OB, OM] at ho; obtain ⟨n, u, s, j, i', hi, rfl⟩ := ho; exact A1l p u hf hop j hi hv
  ·rename_i e p; simp only [OB, OM] at ho; obtain ⟨n, u, s, j, i', hi, rfl⟩ := ho; exact A1k p u hf hop j hi hv
  ·cases ho
 | index t x i =>
  rw [hop] at ho; simp only [cO] at ho
  split at ho
  ·rename_i k e p; simp only [OB, OM] at ho; obtain ⟨n, u, g, hg, s, j, i', hi, rfl⟩ := ho; exact A1i p u hg hf hop j hi hv
  ·rename_i p; simp only [OB, OM] at ho; obtain ⟨s, j, i', hi, rfl⟩ := ho; exact A1j p hf hop j hi hv
  ·cases ho
 | slice t x lo hi mx =>
  rw [hop] at ho; simp only [cO] at ho
  split at ho
  ·rename_i p
   cases mx with
   | some m => simp at ho
   | none => simp only [Option.isSome_none, Bool.false_eq_true, if_false, OB, OM] at ho; obtain ⟨s, j, a6, a1, a7, a0, rfl⟩ := ho; exact A1a p hf hop j a1 a0 hv
  ·rename_i e p; simp only [OB, OM] at ho; obtain ⟨n, u, s, j, a6, a1, a7, a0, ad, ab, rfl⟩ := ho; exact A1b p u hf hop j a1 a0 ab hv
  ·rename_i k e p
   cases mx with
   | some m => simp at ho
   | none => simp only [Option.isSome_none, Bool.false_eq_true, if_false, OB, OM] at ho; obtain ⟨n, u, s, j, a6, a1, a7, a0, rfl⟩ := ho; exact A1c p u hf hop j a1 a0 hv
  ·cases ho
 | nilCheck x => rw [hop] at ho; simp only [cO, OM] at ho; obtain ⟨s, j, rfl⟩ := ho; exact A1d hf hop j hv
 | extract x i => rw [hop] at ho; simp only [cO, OM] at ho; obtain ⟨s, j, rfl⟩ := ho; exact A1o hf hop j hv
 | makeFunc fn first cap =>
  rw [hop] at ho
  cases fn <;> simp only [cO] at ho <;> try (cases ho; done)
  simp only [OB, OM] at ho; obtain ⟨l, hl, c, a3, rfl⟩ := ho; exact A1f hf hop hl a3 hv
 | makeInterface t x =>
  rw [hop] at ho; simp only [cO] at ho
  split at ho
  ·cases ho
  ·cases ho
  ·rename_i aa a9
   simp only [OM] at ho; obtain ⟨s, j, rfl⟩ := ho
   cases p : P.underlying t with
   | none => exact absurd p a9
   | some d => exact A1e p (fun ms e => aa ms (by rw [p, e])) hf hop j hv
 | load t x => rw [hop] at ho; simp only [cO, OM, OB] at ho; obtain ⟨_, _, _, _, rfl⟩ := ho; simp [cls] at hc
 | lookup t m k ok =>
  rw [hop] at ho; simp only [cO] at ho
  split at ho
  ·simp only [OB] at ho; obtain ⟨_, _, _, _, ho⟩ := ho
   split at ho
   ·simp only [OM, OB] at ho; obtain ⟨_, _, _, _, rfl⟩ := ho; simp [cls] at hc
   ·cases ho
  ·cases ho
 | alloc t =>
  rw [hop] at ho; simp only [cO] at ho
  split at ho
  ·split at ho
   ·simp only [OI] at ho; subst ho; simp [cls] at hc
   ·cases ho
  ·simp only [OM, OB] at ho; obtain ⟨_, _, _, _, rfl⟩ := ho; simp [cls] at hc
 | box t x => rw [hop] at ho; simp only [cO, OM] at ho; obtain ⟨_, _, rfl⟩ := ho; simp [cls] at hc
 | buildSlice t n ps => rw [hop] at ho; simp only [cO, OM, OB] at ho; obtain ⟨_, _, _, _, _, _, rfl⟩ := ho; simp [cls] at hc
 | makeSlice t n c => rw [hop] at ho; simp only [cO, OM, OB] at ho; obtain ⟨_, _, _, _, _, _, _, _, rfl⟩ := ho; simp [cls] at hc
 | makeMap t r =>
  rw [hop] at ho
  cases r <;> simp only [cO] at ho
  ·simp only [OI] at ho; subst ho; simp [cls] at hc
  ·cases ho
 | store t x y => rw [hop] at ho; simp only [cO, OM, OB] at ho; obtain ⟨_, _, _, _, _, _, rfl⟩ := ho; simp [cls] at hc
 | mapUpdate t m k x =>
  rw [hop] at ho; simp only [cO] at ho
  split at ho
  ·simp only [OM, OB] at ho; obtain ⟨_, _, _, _, _, _, _, _, rfl⟩ := ho; simp [cls] at hc
  ·cases ho
 | call c =>
  rw [hop] at ho; simp only [cO] at ho
  split at ho
  ·simp only [OM, OB] at ho; obtain ⟨_, _, _, _, rfl⟩ := ho; simp [cls] at hc
  ·cases ho
  ·rename_i b a2
   split at ho
   ·rename_i x t ha ht
    have ac := Xf a2 ha ht
    rw [ac] at hop
    split at ho
    ·rename_i p; simp only [OM] at ho; obtain ⟨s, j, rfl⟩ := ho; exact Aj4 (ty := 0) p hf hop j hv
    ·rename_i e p; simp only [OM] at ho; obtain ⟨s, j, rfl⟩ := ho; exact Apt p hf hop j hv
    ·rename_i n e p; simp only [OI] at ho; subst ho; exact Azr p hop hv
    ·simp only [OM] at ho; obtain ⟨_, _, rfl⟩ := ho; simp [cls] at hc
    ·cases ho
   ·rename_i x r _ ha
    rw [Sb a2] at hop
    simp only [OM, OB] at ho; obtain ⟨s, j, r', hr, rfl⟩ := ho
    exact A1g (ty := 0) ha hf hop j hr hv
   ·rename_i x r _ ha
    rw [Sb a2] at hop
    simp only [OM, OB] at ho; obtain ⟨s, j, r', hr, rfl⟩ := ho
    exact A1h (ty := 0) ha hf hop j hr hv
   ·split at ho <;> try (cases ho; done)
    all_goals (simp only [OM, OB] at ho; obtain ⟨_, _, _, _, _, _, _, _, rfl⟩ := ho; simp [cls] at hc)
   ·simp only [OM, OB] at ho; obtain ⟨_, _, _, _, _, _, rfl⟩ := ho; simp [cls] at hc
   ·simp only [OB] at ho; obtain ⟨_, _, _, _, ho⟩ := ho
    split at ho
    ·cases ho
    ·simp only [OM] at ho; obtain ⟨_, _, rfl⟩ := ho; simp [cls] at hc
   ·split at ho
    ·simp only [OM, OB] at ho; obtain ⟨_, _, _, _, _, _, rfl⟩ := ho; simp [cls] at hc
    ·cases ho
   ·cases ho
 | _ => rw [hop] at ho; simp [cO] at ho
end
end Go.L
