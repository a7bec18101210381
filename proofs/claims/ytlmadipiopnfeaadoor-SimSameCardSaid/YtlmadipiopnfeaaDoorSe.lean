/- THE LOGICAL MACHINE AND THE MODEL: 'delete', 'copy', 'clear', 'append'. -/
import Derived.Test.YtlmadipiopnfeaaDoorSd
import Derived.OwnWalkIn
set_option linter.unusedVariables false
set_option linter.unusedSimpArgs false
namespace Go.L
open Go
variable {P : Program} {ι : Inj} {h : Aa} {w : World}
section
variable {sz : Nat} {f : FF} {a : Act} {o : Oper} {q : O} {v : Value} {h' : Aa} {ws : List Nat}
theorem Ays {α : Type} {xs : Array α} {x y : α} (h : xs.toList = [x, y]) : xs = #[x, y] := by
 cases xs; simp at h; subst h; rfl
theorem Ais {α : Type} {xs : Array α} {x : α} {r : List α} (h : xs.toList = x :: r) : xs[0]? = some x := by
 cases xs; simp at h; subst h; rfl
theorem A3e {t kt e : TypeId} {m k : Operand} {ts : Array TypeId} {qk : EqK} (hs : Sim P ι h w) (hts : ts[0]? = some t) (hu : P.underlying t = some (.map kt e)) (hq : Ab8 P kt = some qk) (hf : FFR ι sz f a.tmps)
  (ho : o.op = .call { callee := .builtin .delete, args := #[m, k], argTypes := ts }) {m' k' : X} (hm : cX m = some m') (hk : cX k = some k') (hv : Py f h (.del qk m' k') = some (v, h', ws)) : Aff P ι h a o v h' w := by
 have rm := Au hf hm
 have rk := Au hf hk
 simp only [Py] at hv
 split at hv
 ·rename_i rb e1
  rw [e1] at rm
  obtain ⟨mi, a2, z⟩ := rm.map_inv
  split at hv
  ·rename_i es y
   split at hv
   ·rename_i d
    simp only [OM, Prod.mk.injEq] at hv
    obtain ⟨es2, c, rfl, rfl, rfl⟩ := hv
    have ek := Aaq d rk
    obtain ⟨m2, a0, a3⟩ := hs.obj _ _ y (by simp)
    rw [a2] at a0; cases a0
    cases a3 with
    | map hw he =>
     rename_i g clock
     have s : (getObj mi.rb).run P w = .ok (.map g clock) w := by simp [getObj, Sem.run, hw]
     have x := Pn hq d g.isEmpty w
     have a4 : ∃ r, find qk (ev f k') es = some r := by
      have : ∀ (l : List (Value × Value)) l2, Yr qk (ev f k') l = some l2 → ∃ r, find qk (ev f k') l = some r := by
       intro l
       induction l with
       | nil => intro l2 _; exact ⟨none, rfl⟩
       | cons p l ih =>
        intro l2 hp
        simp only [Yr, OB] at hp
        obtain ⟨b, y, hp⟩ := hp
        cases b with
        | true => exact ⟨some p.2, by simp [find, y]⟩
        | false =>
         simp only [Bool.false_eq_true, if_false, OM] at hp
         obtain ⟨l3, h3, _⟩ := hp
         obtain ⟨r, hr⟩ := ih l3 h3
         exact ⟨r, by simp [find, y, hr]⟩
      exact this es es2 c
     obtain ⟨r, hr⟩ := a4
     have fin : ∀ (n : Array MapEntry), All2 (fun e (e' : MapEntry) => e.1 = e'.key ∧ VR ι e.2 e'.val) es2 n.toList →
       (∀ u, (setObj mi.rb (.map n clock)).run P w = .ok () u → (Builtin.delete_ ts o.type #[a.eval m, a.eval k]).run P w = .ok (.tuple #[]) u) → Aff P ι h a o (.tuple #[]) (h.set rb (.map es2)) w := by
      intro n h3 a1
      obtain ⟨u, s1, s2⟩ := We hs y a2 (es2 := es2) (es2' := n) (clock := clock) h3
      refine ⟨ι, u, .value (.tuple #[]), ?_, s2, Old.refl _ _, .inr ⟨_, rfl, .tuple .nil⟩⟩
      have := a1 u s1
      simp only [execOp, ho, resolve, Sem.run_bind, Result.andThen, Sem.run_pure, invoke, Go.builtin]
      simp [Sem.run_bind, Result.andThen, this]
     rcases Nn hq d he hr w with ⟨rfl, h1, _, h2⟩ | ⟨v0, j, v', rfl, h1, h2, h3, _, h4, e0, h5, h6⟩
     ·rw [h2] at c
      simp only [OI] at c; subst c
      refine fin g he fun u s1 => ?_
      simp [Builtin.delete_, hts, Sem.run_bind, run_underlying hu, Result.andThen_ok, z, ek, s, x, h1, s1]
     ·rw [h4] at c
      simp only [OI] at c; subst c
      refine fin (g.eraseIdxIfInBounds j) (by simpa using he.eraseIdx j) fun u s1 => ?_
      simp [Builtin.delete_, hts, Sem.run_bind, run_underlying hu, Result.andThen_ok, z, ek, s, x, h1, s1]
   ·cases hv
  ·cases hv
 ·cases hv
theorem Ack {b off n c : Nat} {sp : Option Nat} {r : Value} (hr : VR ι (.slice (some ⟨b, off, sp⟩) n c) r) : ∃ ad c', r = .slice (some ad) n c' ∧ (n = 0 ∨ ∃ m, ι b = some m ∧ ad = ⟨m.rb, m.off + off, none⟩) := by
 cases hr with
 | slice off n c a => exact ⟨_, _, rfl, .inr ⟨_, a, rfl⟩⟩
 | slice0 off a' h0 => exact ⟨_, _, rfl, .inl rfl⟩
 | loose off s n c a hn hc => exact ⟨_, _, rfl, .inr ⟨_, a, rfl⟩⟩
 | loose0 off s a' h0 => exact ⟨_, _, rfl, .inl rfl⟩
theorem Afv {α : Type} {l : List α} {b : Nat} {x : α} (hb : l[b]? = some x) : l.set b x = l := by
 apply List.ext_getElem?
 intro i
 by_cases e : b = i
 ·subst e
  rw [List.getElem?_set_self (GI.1 hb).1, hb]
 ·rw [List.getElem?_set_ne e]
theorem A3f {t e size : Nat} {d s : Operand} {ts : Array TypeId} (hs : Sim P ι h w) (hts : ts[0]? = some t) (he : Mz P t = some (e, size)) (hf : FFR ι sz f a.tmps)
  (ho : o.op = .call { callee := .builtin .copy, args := #[d, s], argTypes := ts }) {d' s' : X} (hd : cX d = some d') (hss : cX s = some s') (hv : Py f h (.cpy size d' s') = some (v, h', ws)) : Aff P ι h a o v h' w := by
 have rd := Au hf hd
 have rs := Au hf hss
 simp only [Py, Aii] at hv
 unfold Mz at he
 split at he
 ·rename_i e0 hu
  simp only [OM, Prod.mk.injEq] at he
  obtain ⟨p, a2, rfl, rfl⟩ := he
  have j : ∀ (k : Nat) g h', (Builtin.copy_ ts o.type #[a.eval d, a.eval s]).run P w = .ok (.int .i64 k) g → St P ι h w ι h' g → Aff P ι h a o (.int .i64 (k : Nat)) h' w := by
   intro k g h' h1 h2
   refine ⟨ι, g, _, ?_, h2, Old.refl _ _, .inr ⟨_, rfl, .int .i64 k⟩⟩
   simp only [execOp, ho, resolve, Sem.run_bind, Result.andThen, Sem.run_pure, invoke, Go.builtin]
   simp [Sem.run_bind, Result.andThen, h1]
  split at hv
  ·rename_i n c0 e1
   rw [e1] at rd
   split at hv
   ·rename_i kn x
    split at hv
    ·rename_i h0
     subst h0
     simp only [OI, Prod.mk.injEq] at hv
     obtain ⟨rfl, rfl, rfl⟩ := hv
     have y : a.eval d = .slice none 0 c0 := by generalize a.eval d = r at rd; cases rd; rfl
     obtain ⟨k1, k2, _, c', k3, k4⟩ := Gg hs rs x w rfl
     have hz : (Builtin.firstCells p 0 (a.eval s)).run P w = .ok #[] w := by simpa using k4 0 (Nat.zero_le _)
     refine j 0 w h ?_ (St.refl hs)
     simp [Builtin.copy_, hts, Sem.run_bind, run_underlying hu, Result.andThen_ok, y, k1, Dx a2, hz, goInt, Nat.min_def]
    ·cases hv
   ·cases hv
  ·rename_i ad len c0 e1
   rw [e1] at rd
   split at hv
   ·rename_i n new c x hb
    split at hv
    ·rename_i a8
     simp only [OI, Prod.mk.injEq] at hv
     obtain ⟨rfl, rfl, rfl⟩ := hv
     obtain ⟨k1, k2, u, a1, k3, k4⟩ := Gg hs rs x w rfl
     have l := k4 (Nat.min n len) (Nat.min_le_left _ _)
     have a6 : Nat.min n len ≤ len := Nat.min_le_right _ _
     have a4 : Nat.min n len ≤ n := Nat.min_le_left _ _
     obtain ⟨a7, c1, y, a0⟩ := Ack rd
     have z : (new.take (Nat.min n len * p)).length = Nat.min n len * p := by
      have := Nat.mul_le_mul_right p a4
      simp [k2]; try exact this
     have fin : ∀ g, (storeCells a7 (a1.take (Nat.min n len * p))).run P w = .ok () g → (Builtin.copy_ ts o.type #[a.eval d, a.eval s]).run P w = .ok (.int .i64 (Nat.min n len : Nat)) g := by
      intro g a5
      simp [Builtin.copy_, hts, Sem.run_bind, run_underlying hu, Result.andThen_ok, y, k1, Dx a2, l, a5, goInt]
     rcases a0 with rfl | ⟨m, hm, rfl⟩
     ·have h0 : Nat.min n 0 = 0 := Nat.min_eq_right (Nat.zero_le _)
      rw [h0] at fin ⊢
      refine j 0 w _ (fin w (by simp [storeCells])) ?_
      simp only [Nat.zero_mul, List.take_zero, setCells]
      rw [Afv hb]
      exact St.refl hs
     ·have a3 : ad.off + (new.take (Nat.min n len * p)).length ≤ c.length := by
       rw [z]
       have := Nat.mul_le_mul_right p a6
       omega
      obtain ⟨g, s1, s2⟩ := Nk hs hb hm a3 (k3.take (Nat.min n len * p)) (by
       rw [List.all_eq_true] at u ⊢
       exact fun v hv => u v (List.mem_of_mem_take hv))
      exact j _ g _ (fin g s1) s2
    ·cases hv
   ·cases hv
  ·cases hv
 ·cases he
theorem A3g {t e size : Nat} {x : Operand} {z : List Value} (hs : Sim P ι h w) (he : Mz P t = some (e, size)) (hz : I8 P e size = some z) (hz0 : z ≠ []) (hf : FFR ι sz f a.tmps)
  (ho : o.op = .call { callee := .builtin .clear, args := #[x], argTypes := #[t] }) {x' : X} (hx : cX x = some x') (hv : Py f h (.clr z x') = some (v, h', ws)) : Aff P ι h a o v h' w := by
 have rx := Au hf hx
 simp only [Py, Uq] at hv
 unfold Mz at he
 split at he
 ·rename_i e0 hu
  simp only [OM, Prod.mk.injEq] at he
  obtain ⟨s0, a4, rfl, rfl⟩ := he
  obtain ⟨a3, a2, zv, a1, a0, _⟩ := Me hz
  split at hv
  ·rename_i ad n c0 e1
   rw [e1] at rx
   split at hv
   ·rename_i c hb
    split at hv
    ·rename_i s
     simp only [OI, Prod.mk.injEq] at hv
     obtain ⟨rfl, rfl, rfl⟩ := hv
     have d : ∀ j h', (Builtin.clear_ #[t] o.type #[a.eval x]).run P w = .ok (.tuple #[]) j → St P ι h w ι h' j → Aff P ι h a o (.tuple #[]) h' w := by
      intro j h' h1 h2
      refine ⟨ι, j, _, ?_, h2, Old.refl _ _, .inr ⟨_, rfl, .tuple .nil⟩⟩
      simp only [execOp, ho, resolve, Sem.run_bind, Result.andThen, Sem.run_pure, invoke, Go.builtin]
      simp [Sem.run_bind, Result.andThen, h1]
     obtain ⟨a5, c1, r, p⟩ := Ack rx
     by_cases u : n = 0
     ·subst u
      refine d w _ ?_ ?_
      ·simp [Builtin.clear_, Sem.run_bind, run_underlying hu, Result.andThen_ok, r]
      ·simp only [List.replicate_zero, List.flatten_nil, setCells]
       rw [Afv hb]
       exact St.refl hs
     ·rcases p with h0 | ⟨m, hm, rfl⟩
      ·exact absurd h0 u
      ·have y : VRs ι (List.replicate n z).flatten (List.replicate n z).flatten := (All2.replicate n (VRs.self (ι := ι) a2)).flatten
       have hl : (List.replicate n z).flatten.length = n * z.length := by simp
       obtain ⟨j, s1, s2⟩ := Nk hs hb hm (by rw [hl]; exact s.1) y (by
        have := s.2
        rw [List.all_eq_true] at this ⊢
        intro v hv
        simp only [List.mem_flatten, List.mem_replicate] at hv
        obtain ⟨l, ⟨_, rfl⟩, hv⟩ := hv
        exact this v hv)
       refine d j _ ?_ s2
       have g : (Builtin.zeroCells zv.cells n).toList = (List.replicate n z).flatten := by
        have := Xa z n
        simp only [Builtin.zeroCells, a0, List.size_toArray, this]
       simp only [Builtin.clear_]
       simp [Sem.run_bind, run_underlying hu, Result.andThen_ok, r]
       cases n with
       | zero => exact absurd rfl u
       | succ n => simp [Sem.run_bind, a1, Result.andThen_ok, g, s1]
    ·cases hv
   ·cases hv
  ·cases hv
 ·cases he
def Pc (P : Program) (u : TypeId) : Prop := ∃ d, P.underlying u = some d ∧ ((∃ e, d = .slice e) ∨ d = .string)
theorem Po {t u e ty : TypeId} {i : TypeInfo} (ht : P.underlying t = some (.slice e)) (hu : Pc P u) (hi : P.info? e = some i) {x : Value} {base : Option Addr} {sLen sCap n : Nat} {news : Array Value}
  (hl : (Builtin.lenOf x).run P w = .ok n w) (hx : (Builtin.firstCells i.size n x).run P w = .ok news w) (hroom : sLen + n ≤ sCap) {w' : World}
  (hst : (match base with | some ad => storeCells (ad.add (sLen * i.size)) news.toList | none => pure ()).run P w = .ok () w') :
  (Builtin.append_ #[t, u] ty #[.slice base sLen sCap, x]).run P w = .ok (.slice base (sLen + n) sCap) w' := by
 obtain ⟨d, hu, c⟩ := hu
 have a : (sizeOf e).run P w = .ok i.size w := by simp [sizeOf, Sem.run_bind, run_typeInfo w hi, Result.andThen]
 rcases c with ⟨f, rfl⟩ | rfl
 ·cases base with
  | none => simp at hst; subst hst; simp [Builtin.append_, run_underlying ht, run_underlying hu, a, Result.andThen_ok, Sem.run_bind, hl, hx, hroom]
  | some ad => simp at hst; simp [Builtin.append_, run_underlying ht, run_underlying hu, a, Result.andThen_ok, Sem.run_bind, hl, hx, hroom, hst]
 ·cases base with
  | none => simp at hst; subst hst; simp [Builtin.append_, run_underlying ht, run_underlying hu, a, Result.andThen_ok, Sem.run_bind, hl, hx, hroom]
  | some ad => simp at hst; simp [Builtin.append_, run_underlying ht, run_underlying hu, a, Result.andThen_ok, Sem.run_bind, hl, hx, hroom, hst]
theorem Ad6 {t u e ty : TypeId} {i : TypeInfo} {z : Value} (ht : P.underlying t = some (.slice e)) (hu : Pc P u) (hi : P.info? e = some i) (hz : i.zero = some z) {x : Value} {base : Option Addr} {sLen sCap n : Nat} {olds news : Array Value}
  (hl : (Builtin.lenOf x).run P w = .ok n w) (hx : (Builtin.firstCells i.size n x).run P w.drew = .ok news w.drew) (ho : (Builtin.firstCells i.size sLen (.slice base sLen sCap)).run P w.drew = .ok olds w.drew)
  (hg : sCap < sLen + n) (h63 : ((sLen + n : Nat) : Int) ≤ 9223372036854775807) (hb : (sLen + n) * i.bytes ≤ 140737488355328) (hpos : i.bytes ≠ 0) :
  (Builtin.append_ #[t, u] ty #[.slice base sLen sCap, x]).run P w =
   .ok (.slice (some ⟨w.heap.size, 0, none⟩) (sLen + n) (grownCap w (sLen + n) sCap e)) (w.drew.alloc (.cells (olds ++ news ++ Builtin.zeroCells z.cells (grownCap w (sLen + n) sCap e - (sLen + n))) e)) := by
 obtain ⟨d, hu, o⟩ := hu
 have m := growslice_fits hg hb
 have f : (sizeOf e).run P w = .ok i.size w := by simp [sizeOf, Sem.run_bind, run_typeInfo w hi, Result.andThen]
 have g : ¬ (sLen + n ≤ sCap) := by omega
 have h2 : ¬ (((sLen + n : Nat) : Int) > IntKind.i64.max) := by
  have : IntKind.i64.max = 9223372036854775807 := by decide
  rw [this]; omega
 have j : ¬ (Builtin.nextslicecap (sLen + n) sCap * i.bytes > 2 ^ 48) := by omega
 have l : (Question.appendCap (sLen + n) sCap e).forced = false := rfl
 have c : ∀ w : World, (typeInfo e).run P w = .ok i w := fun w => run_typeInfo w hi
 have a : ∀ w : World, (zeroValue e).run P w = .ok z w := fun w => by simp [zeroValue, Sem.run_bind, run_typeInfo w hi, Result.andThen, hz]
 rcases o with ⟨p, rfl⟩ | rfl
 ·simp only [Builtin.append_, List.getElem?_toArray, List.getElem?_cons_zero, List.getElem?_cons_succ, Sem.run_bind, run_underlying ht, run_underlying hu, Result.andThen_ok, f, Sem.run_pure, Bool.false_eq_true, if_false, hl, g, c, h2, hpos, false_and, j, run_choose_drew, l, run_askRoom, ho, hx, a, newRow, run_newObj_alloc, grownCap]
  simp [hl, g, c, h2, hpos, j, ho, hx, a, l, Sem.run_bind, Result.andThen_ok]
 ·simp only [Builtin.append_, List.getElem?_toArray, List.getElem?_cons_zero, List.getElem?_cons_succ, Sem.run_bind, run_underlying ht, run_underlying hu, Result.andThen_ok, f, Sem.run_pure, Bool.false_eq_true, if_false, hl, g, c, h2, hpos, false_and, j, run_choose_drew, l, run_askRoom, ho, hx, a, newRow, run_newObj_alloc, grownCap]
  simp [hl, g, c, h2, hpos, j, ho, hx, a, l, Sem.run_bind, Result.andThen_ok]
end
end Go.L
namespace Go.L
open Go
variable {P : Program} {ι : Inj} {h : Aa} {w : World}
theorem Sim.same {w' : World} (hs : Sim P ι h w) (hq : Quiet w w') : Sim P ι h w' := (St.same hs hq.heap hq.os hq.tape hq.output).sim
theorem St.quiet {w' : World} (hs : Sim P ι h w) (hq : Quiet w w') : St P ι h w ι h w' := St.same hs hq.heap hq.os hq.tape hq.output
theorem Q8 {b : Option Addr} {n c : Nat} {r : Value} (hr : VR ι (.slice b n c) r) : ∃ b' c', r = .slice b' n c' ∧ (n ≤ c → n ≤ c') ∧ (c' = c ∨ ∃ a s, b = some a ∧ a.spot = some s) := by
 cases hr with
 | nils n c => exact ⟨_, _, rfl, id, .inl rfl⟩
 | slice off n c hm => exact ⟨_, _, rfl, id, .inl rfl⟩
 | slice0 off a' h0 => exact ⟨_, _, rfl, id, .inl rfl⟩
 | loose off s n c hm hn hc => exact ⟨_, _, rfl, fun _ => hn.1, .inr ⟨_, _, rfl, rfl⟩⟩
 | loose0 off s a' h0 => exact ⟨_, _, rfl, id, .inl rfl⟩
section
variable {sz : Nat} {f : FF} {a : Act} {o : Oper} {q : O} {v : Value} {h' : Aa} {ws : List Nat}
theorem Abm {t u e ty size : Nat} {z : List Value} (hs : Sim P ι h w) (hut : P.underlying t = some (.slice e)) (hse : szO P e = some size) (hz : I8 P e size = some z) (hu : Pc P u) {s s' x x' : Value} (rs : VR ι s s') (rx : VR ι x x')
  {n len : Nat} {new old : List Value} (hcx : cellsOf size x h = some (n, new)) (hcs : cellsOf size s h = some (len, old)) (hb : (len + n) * P.bytesOf e ≤ 140737488355328) (hlt : len + n < 4611686018427387904) (hp : P.bytesOf e ≠ 0)
  {base : Option Addr} {sCap : Nat} (hs' : s' = .slice base len sCap) (hg : sCap < len + n) :
  ∃ ι' w' v', (Builtin.append_ #[t, u] ty #[s', x']).run P w = .ok v' w' ∧ St P ι h w ι' (h ++ [.cells (old ++ new) false]) w' ∧ Old ι h ι' ∧ VR ι' (.slice (some ⟨h.length, 0, some size⟩) (len + n) (len + n)) v' := by
 obtain ⟨a3, ab, zv, ac, a7, i, hi, a5⟩ := Me hz
 obtain ⟨i', p, r⟩ := Mf hse
 rw [hi] at p; cases p
 have a2 : P.bytesOf e = i.bytes := by simp [Program.bytesOf, hi]
 rw [a2] at hb hp
 obtain ⟨l1, _, _⟩ := Wp hs rx hcx w rfl
 obtain ⟨_, y, f, c, x1, x2⟩ := Gg hs rx hcx w.drew rfl
 obtain ⟨_, a1, l, a, o1, o2⟩ := Gg hs rs hcs w.drew rfl
 have nl : c.length = n * size := by rw [← x1.length, y]
 have ol : a.length = len * size := by rw [← o1.length, a1]
 have xx := x2 n (Nat.le_refl _)
 rw [List.take_of_length_le (by omega)] at xx
 have oo := o2 len (Nat.le_refl _)
 rw [List.take_of_length_le (by omega)] at oo
 subst hs'
 rw [← r] at xx oo
 have d := Ad6 (ty := ty) hut hu hi a5 l1 xx oo hg (by omega) hb hp
 have aa := grownCap_ge w (len + n) sCap e
 have a9 : grownCap w (len + n) sCap e ≤ 9223372036854775807 := by have := grownCap_le_maxLen w (len + n) sCap e (by unfold maxLen; omega); unfold maxLen at this; omega
 let rest := (Builtin.zeroCells zv.cells (grownCap w (len + n) sCap e - (len + n))).toList
 have a6 : rest.length = (grownCap w (len + n) sCap e - (len + n)) * size := by simp [rest, Builtin.zeroCells, a7, a3]
 have j : a.toArray ++ c.toArray ++ Builtin.zeroCells zv.cells (grownCap w (len + n) sCap e - (len + n)) = ((a ++ c) ++ rest).toArray := by
  apply Array.ext'; simp [rest]
 rw [j] at d
 have g : (old ++ new).all Ag = true := by simp only [List.all_append, l, f, Bool.and_self]
 have a4 : (a ++ c).length + rest.length = grownCap w (len + n) sCap e * size := by
  rw [LA, nl, ol, a6, ← Nat.add_mul, ← Nat.add_mul]
  congr 1; omega
 have a0 := St.quiet hs (Quiet.drew w)
 have v := Ag1 (P := P) (ι' := ι.put h.length ⟨w.heap.size, 0, (a ++ c).length + rest.length⟩) (wd := w.drew) (rest := rest) (VRs.mono (Inj.put_sub (hs.dom _ (Nat.le_refl _)) _) (o1.append x1)) g e
 have a8 := St.push (P := P) (m := ⟨w.heap.size, 0, (a ++ c).length + rest.length⟩) (o := .cells (old ++ new) false) a0.sim rfl (fun _ => v)
 exact ⟨_, _, _, d, a0.trans a8, Old.put _ _ _, VR.loose (m := ⟨w.heap.size, 0, (a ++ c).length + rest.length⟩) 0 size (len + n) _ (Inj.put_same _ _ _) ⟨aa, a9⟩ (by simp only [Nat.zero_add]; omega)⟩
theorem Aq2 {t u e ty size : Nat} {z : List Value} (hs : Sim P ι h w) (hut : P.underlying t = some (.slice e)) (hse : szO P e = some size) (hz : I8 P e size = some z) (hu : Pc P u) {s s' x x' : Value} (rs : VR ι s s') (rx : VR ι x x')
  (hv : Cl size (P.bytesOf e) s x h = some (v, h', ws)) : ∃ ι' w' v', (Builtin.append_ #[t, u] ty #[s', x']).run P w = .ok v' w' ∧ St P ι h w ι' h' w' ∧ Old ι h ι' ∧ VR ι' v v' := by
 obtain ⟨i, hi, a4⟩ := Mf hse
 unfold Cl at hv
 split at hv
 ·rename_i n new len a6 a5 g
  obtain ⟨l1, a0, l, a, x1, x2⟩ := Gg hs rx a5 w rfl
  have nl : a.length = n * size := by rw [← x1.length, a0]
  have xx := x2 n (Nat.le_refl _)
  rw [List.take_of_length_le (by omega)] at xx
  rw [← a4] at xx
  split at hv
  ·rename_i h0
   subst h0
   split at hv
   ·rename_i a7
    simp only [OI, Prod.mk.injEq] at hv
    obtain ⟨rfl, rfl, rfl⟩ := hv
    obtain ⟨ls, _, _⟩ := Wp hs rs g w rfl
    cases s <;> first | (simp [Auy] at a7; done) | skip
    rename_i b f c0
    obtain ⟨b', y, rfl, a3, _⟩ := Q8 rs
    simp [Builtin.lenOf] at ls; subst ls
    have d : f + 0 ≤ y := a3 (by simpa [Auy] using a7)
    have aj : a = [] := List.eq_nil_of_length_eq_zero (by omega)
    have := Po (ty := ty) hut hu hi l1 xx d (base := b') (w' := w) (by subst aj; cases b' <;> simp [storeCells])
    exact ⟨ι, w, _, this, St.refl hs, Old.refl _ _, rs⟩
   ·cases hv
  ·rename_i az
   split at hv
   ·rename_i hb
    obtain ⟨aa, af, b0, ac⟩ := hb
    obtain ⟨ls, ak, al, ay, o1, o2⟩ := Gg hs rs g w rfl
    split at hv
    ·rename_i f ap
     split at hv
     ·rename_i b2
      simp only [OI, Prod.mk.injEq] at hv
      obtain ⟨rfl, rfl, rfl⟩ := hv
      obtain ⟨b', y, rfl, _, ae⟩ := Q8 rs
      simp [Builtin.lenOf] at ls; subst ls
      have ao : y = 0 := by rcases ae with h | ⟨_, _, h, _⟩; omega; cases h
      exact Abm hs hut hse hz hu rs rx a5 g aa af ac rfl (by omega)
     ·cases hv
    ·rename_i p f ap
     obtain ⟨b', y, rfl, _, ae⟩ := Q8 rs
     simp [Builtin.lenOf] at ls; subst ls
     split at hv
     ·rename_i j
      have ao : y = ap := by
       rcases ae with h | ⟨a2, s2, h, h2⟩
       ·exact h
       ·cases h; rw [j] at h2; cases h2
      subst ao
      split at hv
      ·rename_i d
       split at hv
       ·rename_i c a1
        split at hv
        ·rename_i a3
         simp only [OI, Prod.mk.injEq] at hv
         obtain ⟨rfl, rfl, rfl⟩ := hv
         have au : ∀ m : Img, ι p.block = some m → b' = some ⟨m.rb, m.off + p.off, none⟩ → p = ⟨p.block, p.off, none⟩ →
           ∃ ι' w' v', (Builtin.append_ #[t, u] ty #[.slice b' f y, x']).run P w = .ok v' w' ∧ St P ι h w ι' (h.set p.block (.cells (setCells c (p.off + f * size) new) false)) w' ∧ Old ι h ι' ∧ VR ι' (.slice (some p) (f + n) y) v' := by
          intro m hm aq ax
          subst aq
          obtain ⟨w', s1, s2⟩ := Nk hs a1 hm (off := p.off + f * size) (by rw [a0, Nat.add_assoc, ← Nat.add_mul]; exact a3) x1 l
          have := Po (ty := ty) hut hu hi l1 xx d (base := some ⟨m.rb, m.off + p.off, none⟩) (w' := w') (by
           show (storeCells ((⟨m.rb, m.off + p.off, none⟩ : Addr).add (f * i.size)) a).run P w = _
           rw [Wc _ rfl, a4]
           simpa [Nat.add_assoc] using s1)
          refine ⟨ι, w', _, this, s2, Old.refl _ _, ?_⟩
          rw [ax]
          exact .slice p.off _ _ hm
         cases rs with
         | slice off n c hm => exact au _ hm rfl rfl
         | slice0 off a' h0 => omega
         | loose off s n c hm hn hc => cases j
         | loose0 off s a' h0 => cases j
        ·cases hv
       ·cases hv
      ·simp only [OI, Prod.mk.injEq] at hv
       obtain ⟨rfl, rfl, rfl⟩ := hv
       exact Abm hs hut hse hz hu rs rx a5 g aa af ac rfl (by omega)
     ·rename_i z0 j
      split at hv
      ·rename_i c a1
       split at hv
       ·rename_i ar
        simp only [OI, Prod.mk.injEq] at hv
        obtain ⟨rfl, rfl, rfl⟩ := hv
        have aw : p.block < h.length := (GI.1 a1).1
        have ab : y < f + n → ∃ ι' w' v', (Builtin.append_ #[t, u] ty #[.slice b' f y, x']).run P w = .ok v' w' ∧ St P ι h w ι' (h.set p.block .dead ++ [.cells (a6 ++ new) false]) w' ∧ Old ι h ι' ∧ VR ι' (.slice (some ⟨h.length, 0, some size⟩) (f + n) (f + n)) v' := by
         intro hg
         obtain ⟨ι', w', v', r1, r2, ro, r3⟩ := Abm (ty := ty) hs hut hse hz hu rs rx a5 g aa af ac rfl hg
         have := r2.trans (St.kill r2.sim p.block)
         rw [List.set_append_left _ _ aw] at this
         exact ⟨ι', w', v', r1, this, ro, r3⟩
        by_cases hg : y < f + n
        ·exact ab hg
        ·have d : f + n ≤ y := by omega
         have ah := ar.symm; subst ah
         cases rs with
         | slice off n c hm => cases j
         | slice0 off a' h0 => cases j
         | loose0 off s a' h0 => omega
         | @loose b m off s n1 c1 hm hn hc =>
          cases j
          obtain ⟨m', ag, hr⟩ := hs.obj _ _ a1 (by simp)
          rw [hm] at ag; cases ag
          cases hr with
          | cells hw hsz hl hcell hf ho =>
           rename_i b1 tt fz
           have an : f * size + n * size ≤ y * size := by rw [← Nat.add_mul]; exact Nat.mul_le_mul_right _ d
           have b4 : f * size + a.length ≤ y * size := by rw [nl]; exact an
           have as := Tp (P := P) hw (o := m.off + off + f * size) (vs := a) (by omega) (fun i h1 h2 => hf rfl i (by omega) (by omega)) (Ags x1 l)
           obtain ⟨k1, k2, k3, k4, k5, k6⟩ := Rb a hw (m.off + off + f * size)
           have := Po (ty := ty) hut hu hi l1 xx d (base := some ⟨m.rb, m.off + off, none⟩) (w' := w.setCells m.rb (m.off + off + f * size) a) (by
            show (storeCells ((⟨m.rb, m.off + off, none⟩ : Addr).add (f * i.size)) a).run P w = _
            rw [Wc _ rfl, a4]
            simpa [Nat.add_assoc] using as)
           have ai : (List.drop off c).take (f * size) = a6 ∧ off + f * size ≤ c.length := by
            unfold cellsOf at g
            simp only [a1] at g
            split at g
            ·rename_i a3
             simp only [OI, Prod.mk.injEq] at g
             exact ⟨g.2, a3⟩
            ·cases g
           have a8 : a6.length = f * size := ak
           have am : ObjR P (ι.put h.length ⟨m.rb, m.off + off, m.size⟩) (w.setCells m.rb (m.off + off + f * size) a) ⟨m.rb, m.off + off, m.size⟩ (.cells (a6 ++ new) false) := by
            refine .cells k1 (by simp [La, hsz]) (by simp only [LA, a8, a0]; omega) ?_ (fun h0 i h1 h2 => hf h0 i (by simp only at h1; omega) h2) (by simp only [List.all_append, al, l, Bool.and_self])
            intro i v hv
            have b3 : i < f * size + a.length := by
             have := (GI.1 hv).1
             simp only [LA, a8, a0] at this; omega
            simp only [List.getElem?_toArray, Pi]
            by_cases av : i < f * size
            ·rw [GL (by omega)] at hv
             rw [← ai.1, List.getElem?_take_of_lt av, List.getElem?_drop] at hv
             obtain ⟨r, hr, a9⟩ := hcell _ _ hv
             refine ⟨r, ?_, a9.mono (Inj.put_sub (hs.dom _ (Nat.le_refl _)) _)⟩
             rw [if_neg (by omega)]
             simpa [Nat.add_assoc] using hr
            ·rw [List.getElem?_append_right (by omega), a8] at hv
             obtain ⟨r, hr, a9⟩ := x1.at_ hv
             refine ⟨r, ?_, a9.mono (Inj.put_sub (hs.dom _ (Nat.le_refl _)) _)⟩
             rw [if_pos (by simp; omega)]
             rw [← hr]; congr 1; omega
           have st := St.moved (m' := ⟨m.rb, m.off + off, m.size⟩) hs a1 rfl hm rfl k2 k3 k4 k5 k6 am rfl
           exact ⟨_, _, _, this, st, Old.put _ _ _, VR.loose (m := ⟨m.rb, m.off + off, m.size⟩) 0 size (f + n) y (Inj.put_same _ _ _) ⟨d, hn.2⟩ (by simpa using hc)⟩
       ·cases hv
      ·cases hv
    ·cases hv
   ·cases hv
 ·cases hv
theorem Azt {t u e size : Nat} {s x : Operand} {z : List Value} (hs : Sim P ι h w) (he : Mz P t = some (e, size)) (hz : I8 P e size = some z) (hu : Pc P u) (hf : FFR ι sz f a.tmps)
  (ho : o.op = .call { callee := .builtin .append, args := #[s, x], argTypes := #[t, u] }) {s' x' : X} (hss : cX s = some s') (hx : cX x = some x') (hv : Py f h (.app size (P.bytesOf e) s' x') = some (v, h', ws)) : Aff P ι h a o v h' w := by
 unfold Mz at he
 split at he
 ·rename_i r g
  simp only [OM, Prod.mk.injEq] at he
  obtain ⟨p, c, rfl, rfl⟩ := he
  obtain ⟨ι', l, n, j, h2, d, m⟩ := Aq2 (ty := o.type) hs g c hz hu (Au hf hss) (Au hf hx) hv
  refine ⟨ι', l, _, ?_, h2, d, .inr ⟨_, rfl, m⟩⟩
  simp only [execOp, ho, resolve, Sem.run_bind, Result.andThen, Sem.run_pure, invoke, Go.builtin]
  simp [Sem.run_bind, Result.andThen, j]
 ·cases he
theorem A1f (hs : Sim P ι h w) (hf : FFR ι sz f a.tmps) (ho : cO P o.op = some q) (hc : cls q = .E) (hv : Py f h q = some (v, h', ws)) : Aff P ι h a o v h' w := by
 cases hop : o.op with
 | mapUpdate t m k x =>
  rw [hop] at ho; simp only [cO] at ho
  split at ho
  ·rename_i kt e y
   simp only [OM, OB] at ho; obtain ⟨qk, hq, m', hm, k', hk, l, g, rfl⟩ := ho; exact A3d hs y hq hf hop hm hk g hv
  ·cases ho
 | call c =>
  rw [hop] at ho; simp only [cO] at ho
  split at ho
  ·simp only [OM, OB] at ho; obtain ⟨_, _, _, _, rfl⟩ := ho; simp [cls] at hc
  ·cases ho
  ·rename_i b a0
   have j := Sj a0
   split at ho
   ·split at ho
    ·simp only [OM] at ho; obtain ⟨l, g, rfl⟩ := ho; simp [cls] at hc
    ·simp only [OM] at ho; obtain ⟨l, g, rfl⟩ := ho; simp [cls] at hc
    ·simp only [OI] at ho; subst ho; simp [cls] at hc
    ·simp only [OM] at ho; obtain ⟨l, g, rfl⟩ := ho; simp [cls] at hc
    ·cases ho
   ·simp only [OM, OB] at ho; obtain ⟨l, g, r', hr, rfl⟩ := ho; simp [cls] at hc
   ·simp only [OM, OB] at ho; obtain ⟨l, g, r', hr, rfl⟩ := ho; simp [cls] at hc
   ·rename_i s x t u p ht
    rw [j, Ays p, Ays ht] at hop
    split at ho
    ·rename_i y
     simp only [OM, OB] at ho; obtain ⟨⟨e, n⟩, he, z, hz, s', hss, l, g, rfl⟩ := ho
     exact Azt hs he hz ⟨_, y, .inl ⟨_, rfl⟩⟩ hf hop hss g hv
    ·rename_i y
     simp only [OM, OB] at ho; obtain ⟨⟨e, n⟩, he, z, hz, s', hss, l, g, rfl⟩ := ho
     exact Azt hs he hz ⟨_, y, .inr rfl⟩ hf hop hss g hv
    ·cases ho
   ·rename_i d s t r p ht
    rw [j, Ays p] at hop
    simp only [OM, OB] at ho; obtain ⟨⟨e, n⟩, he, d', hd, s', hss, rfl⟩ := ho
    exact A3f hs (Ais ht) he hf hop hd hss hv
   ·rename_i x t p ht
    rw [j, Ayt p, Ayt ht] at hop
    simp only [OB] at ho; obtain ⟨⟨e, n⟩, he, z, hz, ho⟩ := ho
    split at ho
    ·cases ho
    ·rename_i a1
     simp only [OM] at ho; obtain ⟨l, g, rfl⟩ := ho
     exact A3g hs he hz a1 hf hop g hv
   ·rename_i m k t r p ht
    rw [j, Ays p] at hop
    split at ho
    ·rename_i kt e y
     simp only [OM, OB] at ho; obtain ⟨qk, hq, m', hm, k', hk, rfl⟩ := ho
     exact A3e hs (Ais ht) y hq hf hop hm hk hv
    ·cases ho
   ·cases ho
 | _ =>
  exfalso
  rw [hop] at ho
  simp only [cO] at ho
  first | (cases ho; done) | skip
  all_goals
   (repeat' split at ho) <;> first | (cases ho; done) | skip
  all_goals
   cases q <;> first | (simp [cls] at hc; done) | skip
  all_goals first | contradiction | (simp [OB, OM] at ho; done) | skip
end
end Go.L
namespace Go.L
open Go
variable {P : Program} {ι : Inj} {h : Aa} {w : World}
structure Wide (F : Fence) : Prop where
 fn : ∀ f, F.fn f
 depth : F.depth = none
 alive : F.alive = false
theorem Wide.inRound {F : Fence} (h : Wide F) (l : Nat) : Wide (F.inRound l) := ⟨h.fn, h.depth, h.alive⟩
def Ret (P : Program) (ι : Inj) (h : Aa) (w : World) (v : Value) (h' : Aa) (e : Ending) (w' : World) : Prop := ∃ ι' v', e = .returned v' ∧ St P ι h w ι' h' w' ∧ Old ι h ι' ∧ VR ι' v v'
def Kn (P : Program) (cf : Bk) : Prop := ∀ g args h v h' ws, cf g args h = some (v, h', ws) → ∀ (F : Fence) (n : Nat), Wide F → ∀ (ι : Inj) (w : World) (g' : Value) (args' : List Value), Sim P ι h w → VR ι g g' → VRs ι args args' →
 ∃ d, (Deferred.ofValue g' args'.toArray).run P w = .ok d w ∧
  (((∃ f as, (invoke d.target d.args).run P w = .ok (.enter f as) w ∧ CallsIn F n P f as w (Ret P ι h w v h')) ∨
  (∃ l0 a0 b0, g = .func (.yield l0) a0 b0) ∧ ∃ l f tmps assign body, (invoke d.target d.args).run P w = .ok (.round l f tmps assign body) w ∧ RoundIn F n P l f tmps assign body w (Ret P ι h w v h')) ∨
  (∀ l0 a0 b0, Value.func (.yield l0) a0 b0 ∉ args) ∧ ∃ v' w', (invoke d.target d.args).run P w = .ok (.value v') w' ∧ Ret P ι h w v h' (.returned v') w')
section
variable {sz : Nat} {f : FF} {a : Act} {o : Oper} {q : O} {v : Value} {h' : Aa} {ws : List Nat} {F : Fence} {n : Nat} {cf : Bk} {next : Act → World → Prop} {Q : Exit → Act → World → Prop}
theorem Ayl {g : X} {args : List X} (ho : cO P o.op = some (.call g args)) : ∃ c g0, o.op = .call c ∧ c.callee = .value g0 ∧ cX g0 = some g ∧ cXs c.args.toList = some args := by
 cases hop : o.op with
 | call c =>
  rw [hop] at ho; simp only [cO] at ho
  split at ho
  ·rename_i g0 a
   simp only [OM, OB, O.call.injEq] at ho
   obtain ⟨j, e, f, d, rfl, rfl⟩ := ho
   exact ⟨c, g0, rfl, a, e, d⟩
  ·cases ho
  ·exfalso
   (repeat' split at ho) <;> first | (cases ho; done) | (simp [OB, OM] at ho; done)
 | _ =>
  exfalso
  rw [hop] at ho
  simp only [cO] at ho
  first | (cases ho; done) | skip
  all_goals
   (repeat' split at ho) <;> first | (cases ho; done) | skip
  all_goals first | contradiction | (simp [OB, OM] at ho; done) | skip
theorem Abe (ho : cO P o.op = some q) : ∀ c, o.op ≠ .defer c := by
 intro c e; rw [e] at ho; simp [cO] at ho
theorem Azc (hW : Wide F) (hcf : Kn P cf) (hs : Sim P ι h w) (hf : FFR ι sz f a.tmps) (ho : cO P o.op = some q) (hv : opN cf f h q = some (v, h', ws))
  (hn : ∀ ι' w' v', St P ι h w ι' h' w' → Old ι h ι' → VR ι' v v' → next (a.put o.dst v') w') : o.wpIn F n P a w next Q := by
 refine ⟨fun f _ => hW.fn f, ?_⟩
 rw [Oper.semAt_plain F _ _ (Abe ho)]
 unfold opN at hv
 cases hc : cls q with
 | P =>
  rw [hc] at hv
  cases hp : Aw f q with
  | none => rw [hp] at hv; cases hv
  | some v0 =>
   rw [hp] at hv; simp only [OI, Prod.mk.injEq] at hv; obtain ⟨rfl, rfl, rfl⟩ := hv
   obtain ⟨v', j, h2⟩ := Axi (ι := ι) (w := w) hf ho hc hp
   rw [j]; exact hn ι w v' (St.refl hs) (Old.refl _ _) h2
 | M =>
  rw [hc] at hv
  cases hp : Ir f h q with
  | none => rw [hp] at hv; cases hv
  | some v0 =>
   rw [hp] at hv; simp only [OI, Prod.mk.injEq] at hv; obtain ⟨rfl, rfl, rfl⟩ := hv
   obtain ⟨v', j, h2⟩ := A0x hs hf ho hc hp
   rw [j]; exact hn ι w v' (St.refl hs) (Old.refl _ _) h2
 | A =>
  rw [hc] at hv
  cases hp : Ka f q with
  | none => rw [hp] at hv; cases hv
  | some nw =>
   rw [hp] at hv; simp only [OI, Prod.mk.injEq] at hv; obtain ⟨rfl, rfl, rfl⟩ := hv
   obtain ⟨wd, O, m, v', j, h2, h3, h4⟩ := At9 (w := w) hf ho hc hp
   rw [h2]
   obtain ⟨h5, h6⟩ := h4 h.length (hs.dom _ (Nat.le_refl _))
   have z := St.quiet hs j
   have a5 := St.push (P := P) z.sim (o := nw.1) (O := O) (m := m) (by rw [h3, j.heap]) (fun _ => h5)
   exact hn _ _ v' (z.trans a5) (Old.put _ _ _) h6
 | S =>
  rw [hc] at hv
  cases q <;> first | (simp [cls] at hc; done) | skip
  simp only at hv
  split at hv
  ·rename_i p
   simp only [OI, Prod.mk.injEq] at hv; obtain ⟨rfl, rfl, rfl⟩ := hv
   obtain ⟨w', j, h2⟩ := Arw hs hf ho p
   rw [j]; exact hn ι w' undef h2 (Old.refl _ _) VR.undef
  ·cases hv
 | C =>
  rw [hc] at hv
  cases q <;> first | (simp [cls] at hc; done) | skip
  rename_i g args
  simp only at hv
  obtain ⟨c, g0, a2, r, hg, a4⟩ := Ayl ho
  obtain ⟨d, hd, a0⟩ := hcf _ _ _ _ _ _ hv F (n - 1) hW ι w (a.eval g0) (c.args.toList.map a.eval) hs (Au hf hg) (Vu hf a4)
  have x : (resolve a.eval c o.type).run P w = .ok d w := by
   simp only [resolve, r]
   have : (c.args.toList.map a.eval).toArray = c.args.map a.eval := by apply Array.ext'; simp
   rw [this] at hd; exact hd
  have a3 : (execOp a.eval o).run P w = (invoke d.target d.args).run P w := by
   simp only [execOp, a2, Sem.run_bind, x, Result.andThen_ok]
  rw [a3]
  rcases a0 with (⟨fn, as, j, h2⟩ | ⟨_, l, fn, tmps, a1, a6, j, h2⟩) | ⟨_, vr, wr, j, h2⟩
  ·rw [j, Oper.uponIn_enter]
   refine ⟨(fun u => by rw [hW.depth] at u; cases u), h2.mono fun e w' p => ?_⟩
   obtain ⟨ι', v', rfl, y, t, s⟩ := p
   exact hn ι' w' v' y t s
  ·rw [j, Oper.uponIn_round]
   refine ⟨(fun u => by rw [hW.depth] at u; cases u), h2.mono fun e w' p => ?_⟩
   obtain ⟨ι', v', rfl, y, t, s⟩ := p
   exact hn ι' w' v' y t s
  ·rw [j, Oper.uponIn_value]
   obtain ⟨ι', v', e, y, t, s⟩ := h2
   cases e
   exact hn ι' wr vr y t s
 | E =>
  rw [hc] at hv
  obtain ⟨ι', w', nx, j, h2, h3, h4⟩ := A1f hs hf ho hc hv
  rw [j]
  rcases h4 with ⟨rfl, rfl⟩ | ⟨v', rfl, h5⟩
  ·exact hn ι' w' undef h2 h3 VR.undef
  ·exact hn ι' w' v' h2 h3 h5
end
end Go.L
