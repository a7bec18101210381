/- THE LOGICAL MACHINE AND THE MODEL: 'delete', 'copy', 'clear', 'append'. -/
import Derived.Test.YtdklgcjbjphadaaS13
set_option linter.unusedVariables false
set_option linter.unusedSimpArgs false
namespace Go.L
open Go
variable {P : Program} {ι : Inj} {h : Heap} {w : World}
section
variable {sz : Nat} {f : FF} {a : Act} {o : Oper} {q : O} {v : Value} {h' : Heap} {ws : List Nat}
theorem arr2 {α : Type} {xs : Array α} {x y : α} (h : xs.toList = [x, y]) : xs = #[x, y] := by
  cases xs; simp at h; subst h; rfl
theorem arr_head {α : Type} {xs : Array α} {x : α} {r : List α} (h : xs.toList = x :: r) : xs[0]? = some x := by
  cases xs; simp at h; subst h; rfl
theorem e_del {t kt e : TypeId} {m k : Operand} {ts : Array TypeId} {qk : EqK} (hs : Sim P ι h w) (hts : ts[0]? = some t) (hu : P.underlying t = some (.map kt e)) (hq : keyK P kt = some qk) (hf : FFR ι sz f a.tmps)
    (ho : o.op = .call { callee := .builtin .delete, args := #[m, k], argTypes := ts }) {m' k' : X} (hm : cX m = some m') (hk : cX k = some k') (hv : effV f h (.del qk m' k') = some (v, h', ws)) : Does P ι h a o v h' w := by
  have rm := ev_rel hf hm
  have rk := ev_rel hf hk
  simp only [effV] at hv
  split at hv
  · rename_i rb e1
    rw [e1] at rm
    obtain ⟨mi, hmi, hrm⟩ := rm.map_inv
    split at hv
    · rename_i es hb
      split at hv
      · rename_i hkey
        simp only [Option.map_eq_some_iff, Prod.mk.injEq] at hv
        obtain ⟨es2, hput, rfl, rfl, rfl⟩ := hv
        have ek := key_same hkey rk
        obtain ⟨m2, hm2, hobj⟩ := hs.obj _ _ hb (by simp)
        rw [hmi] at hm2; cases hm2
        cases hobj with
        | map hw he =>
          rename_i es' clock
          have hget : (getObj mi.rb).run P w = .ok (.map es' clock) w := by simp [getObj, Sem.run, hw]
          have hck := run_checkKey hq hkey es'.isEmpty w
          have hf2 : ∃ r, find qk (ev f k') es = some r := by
            have : ∀ (l : List (Value × Value)) l2, delE qk (ev f k') l = some l2 → ∃ r, find qk (ev f k') l = some r := by
              intro l
              induction l with
              | nil => intro l2 _; exact ⟨none, rfl⟩
              | cons p l ih =>
                intro l2 hp
                simp only [delE, Option.bind_eq_some_iff] at hp
                obtain ⟨b, hb, hp⟩ := hp
                cases b with
                | true => exact ⟨some p.2, by simp [find, hb]⟩
                | false =>
                  simp only [Bool.false_eq_true, if_false, Option.map_eq_some_iff] at hp
                  obtain ⟨l3, h3, _⟩ := hp
                  obtain ⟨r, hr⟩ := ih l3 h3
                  exact ⟨r, by simp [find, hb, hr]⟩
            exact this es es2 hput
          obtain ⟨r, hr⟩ := hf2
          have fin : ∀ (es3 : Array MapEntry), All2 (fun e (e' : MapEntry) => e.1 = e'.key ∧ VR ι e.2 e'.val) es2 es3.toList →
              (∀ w', (setObj mi.rb (.map es3 clock)).run P w = .ok () w' → (Builtin.delete_ ts o.type #[a.eval m, a.eval k]).run P w = .ok (.tuple #[]) w') → Does P ι h a o (.tuple #[]) (h.set rb (.map es2)) w := by
            intro es3 h3 hrun
            obtain ⟨w', s1, s2⟩ := write_map hs hb hmi (es2 := es2) (es2' := es3) (clock := clock) h3
            refine ⟨ι, w', .value (.tuple #[]), ?_, s2, Old.refl _ _, .inr ⟨_, rfl, .tuple .nil⟩⟩
            have := hrun w' s1
            simp only [execOp, ho, resolve, Sem.run_bind, Result.andThen, Sem.run_pure, invoke, Go.builtin]
            simp [Sem.run_bind, Result.andThen, this]
          rcases run_findKey hq hkey he hr w with ⟨rfl, h1, _, h2⟩ | ⟨v0, j, v', rfl, h1, h2, h3, _, h4, e0, h5, h6⟩
          · rw [h2] at hput
            simp only [Option.some.injEq] at hput; subst hput
            refine fin es' he fun w' s1 => ?_
            simp [Builtin.delete_, hts, Sem.run_bind, run_underlying hu, Result.andThen_ok, hrm, ek, hget, hck, h1, s1]
          · rw [h4] at hput
            simp only [Option.some.injEq] at hput; subst hput
            refine fin (es'.eraseIdxIfInBounds j) (by simpa using he.eraseIdx j) fun w' s1 => ?_
            simp [Builtin.delete_, hts, Sem.run_bind, run_underlying hu, Result.andThen_ok, hrm, ek, hget, hck, h1, s1]
      · cases hv
    · cases hv
  · cases hv
/-- The address of a slice's cells, and where it lies. -/
theorem slice_img {b off n c : Nat} {sp : Option Nat} {r : Value} (hr : VR ι (.slice (some ⟨b, off, sp⟩) n c) r) : ∃ ad c', r = .slice (some ad) n c' ∧ (n = 0 ∨ ∃ m, ι b = some m ∧ ad = ⟨m.rb, m.off + off, none⟩) := by
  cases hr with
  | slice off n c hm => exact ⟨_, _, rfl, .inr ⟨_, hm, rfl⟩⟩
  | slice0 off a' h0 => exact ⟨_, _, rfl, .inl rfl⟩
  | loose off s n c hm hn hc => exact ⟨_, _, rfl, .inr ⟨_, hm, rfl⟩⟩
  | loose0 off s a' h0 => exact ⟨_, _, rfl, .inl rfl⟩
theorem set_self {α : Type} {l : List α} {b : Nat} {x : α} (hb : l[b]? = some x) : l.set b x = l := by
  apply List.ext_getElem?
  intro i
  by_cases e : b = i
  · subst e
    rw [List.getElem?_set_self (List.getElem?_eq_some_iff.1 hb).1, hb]
  · rw [List.getElem?_set_ne e]
theorem e_cpy {t e size : Nat} {d s : Operand} {ts : Array TypeId} (hs : Sim P ι h w) (hts : ts[0]? = some t) (he : elemO P t = some (e, size)) (hf : FFR ι sz f a.tmps)
    (ho : o.op = .call { callee := .builtin .copy, args := #[d, s], argTypes := ts }) {d' s' : X} (hd : cX d = some d') (hss : cX s = some s') (hv : effV f h (.cpy size d' s') = some (v, h', ws)) : Does P ι h a o v h' w := by
  have rd := ev_rel hf hd
  have rs := ev_rel hf hss
  simp only [effV, copyV] at hv
  unfold elemO at he
  split at he
  · rename_i e0 hu
    simp only [Option.map_eq_some_iff, Prod.mk.injEq] at he
    obtain ⟨s0, hs0, rfl, rfl⟩ := he
    have done : ∀ (k : Nat) w' h', (Builtin.copy_ ts o.type #[a.eval d, a.eval s]).run P w = .ok (.int .i64 k) w' → St P ι h w ι h' w' → Does P ι h a o (.int .i64 (k : Nat)) h' w := by
      intro k w' h' h1 h2
      refine ⟨ι, w', _, ?_, h2, Old.refl _ _, .inr ⟨_, rfl, .int .i64 k⟩⟩
      simp only [execOp, ho, resolve, Sem.run_bind, Result.andThen, Sem.run_pure, invoke, Go.builtin]
      simp [Sem.run_bind, Result.andThen, h1]
    split at hv
    · rename_i n c0 e1
      rw [e1] at rd
      split at hv
      · rename_i kn hcl
        split at hv
        · rename_i h0
          subst h0
          simp only [Option.some.injEq, Prod.mk.injEq] at hv
          obtain ⟨rfl, rfl, rfl⟩ := hv
          have hrd : a.eval d = .slice none 0 c0 := by generalize a.eval d = r at rd; cases rd; rfl
          obtain ⟨k1, k2, _, c', k3, k4⟩ := run_cells_k hs rs hcl w rfl
          have hz : (Builtin.firstCells s0 0 (a.eval s)).run P w = .ok #[] w := by simpa using k4 0 (Nat.zero_le _)
          refine done 0 w h ?_ (St.refl hs)
          simp [Builtin.copy_, hts, Sem.run_bind, run_underlying hu, Result.andThen_ok, hrd, k1, run_szO hs0, hz, goInt, Nat.min_def]
        · cases hv
      · cases hv
    · rename_i ad len c0 e1
      rw [e1] at rd
      split at hv
      · rename_i n new c hcl hb
        split at hv
        · rename_i hle
          simp only [Option.some.injEq, Prod.mk.injEq] at hv
          obtain ⟨rfl, rfl, rfl⟩ := hv
          obtain ⟨k1, k2, hone, new', k3, k4⟩ := run_cells_k hs rs hcl w rfl
          have hfirst := k4 (Nat.min n len) (Nat.min_le_left _ _)
          have hml : Nat.min n len ≤ len := Nat.min_le_right _ _
          have hmn : Nat.min n len ≤ n := Nat.min_le_left _ _
          obtain ⟨ad', c1, hrd, himg⟩ := slice_img rd
          have hlenk : (new.take (Nat.min n len * s0)).length = Nat.min n len * s0 := by
            have := Nat.mul_le_mul_right s0 hmn
            simp [k2]; try exact this
          have fin : ∀ w', (storeCells ad' (new'.take (Nat.min n len * s0))).run P w = .ok () w' → (Builtin.copy_ ts o.type #[a.eval d, a.eval s]).run P w = .ok (.int .i64 (Nat.min n len : Nat)) w' := by
            intro w' hst
            simp [Builtin.copy_, hts, Sem.run_bind, run_underlying hu, Result.andThen_ok, hrd, k1, run_szO hs0, hfirst, hst, goInt]
          rcases himg with rfl | ⟨m, hm, rfl⟩
          · have h0 : Nat.min n 0 = 0 := Nat.min_eq_right (Nat.zero_le _)
            rw [h0] at fin ⊢
            refine done 0 w _ (fin w (by simp [storeCells])) ?_
            simp only [Nat.zero_mul, List.take_zero, setCells]
            rw [set_self hb]
            exact St.refl hs
          · have hle2 : ad.off + (new.take (Nat.min n len * s0)).length ≤ c.length := by
              rw [hlenk]
              have := Nat.mul_le_mul_right s0 hml
              omega
            obtain ⟨w', s1, s2⟩ := write_cells hs hb hm hle2 (k3.take (Nat.min n len * s0)) (by
              rw [List.all_eq_true] at hone ⊢
              exact fun v hv => hone v (List.mem_of_mem_take hv))
            exact done _ w' _ (fin w' s1) s2
        · cases hv
      · cases hv
    · cases hv
  · cases he
theorem e_clr {t e size : Nat} {x : Operand} {z : List Value} (hs : Sim P ι h w) (he : elemO P t = some (e, size)) (hz : zerosO P e size = some z) (hz0 : z ≠ []) (hf : FFR ι sz f a.tmps)
    (ho : o.op = .call { callee := .builtin .clear, args := #[x], argTypes := #[t] }) {x' : X} (hx : cX x = some x') (hv : effV f h (.clr z x') = some (v, h', ws)) : Does P ι h a o v h' w := by
  have rx := ev_rel hf hx
  simp only [effV, clearV] at hv
  unfold elemO at he
  split at he
  · rename_i e0 hu
    simp only [Option.map_eq_some_iff, Prod.mk.injEq] at he
    obtain ⟨s0, hs0, rfl, rfl⟩ := he
    obtain ⟨hzl, hzn, zv, hzr, hzc, _⟩ := zerosO_run hz
    split at hv
    · rename_i ad n c0 e1
      rw [e1] at rx
      split at hv
      · rename_i c hb
        split at hv
        · rename_i hle
          simp only [Option.some.injEq, Prod.mk.injEq] at hv
          obtain ⟨rfl, rfl, rfl⟩ := hv
          have done : ∀ w' h', (Builtin.clear_ #[t] o.type #[a.eval x]).run P w = .ok (.tuple #[]) w' → St P ι h w ι h' w' → Does P ι h a o (.tuple #[]) h' w := by
            intro w' h' h1 h2
            refine ⟨ι, w', _, ?_, h2, Old.refl _ _, .inr ⟨_, rfl, .tuple .nil⟩⟩
            simp only [execOp, ho, resolve, Sem.run_bind, Result.andThen, Sem.run_pure, invoke, Go.builtin]
            simp [Sem.run_bind, Result.andThen, h1]
          obtain ⟨ad', c1, hrx, himg⟩ := slice_img rx
          by_cases hn : n = 0
          · subst hn
            refine done w _ ?_ ?_
            · simp [Builtin.clear_, Sem.run_bind, run_underlying hu, Result.andThen_ok, hrx]
            · simp only [List.replicate_zero, List.flatten_nil, setCells]
              rw [set_self hb]
              exact St.refl hs
          · rcases himg with h0 | ⟨m, hm, rfl⟩
            · exact absurd h0 hn
            · have hzz : VRs ι (List.replicate n z).flatten (List.replicate n z).flatten := (All2.replicate n (VRs.self (ι := ι) hzn)).flatten
              have hl : (List.replicate n z).flatten.length = n * z.length := by simp
              obtain ⟨w', s1, s2⟩ := write_cells hs hb hm (by rw [hl]; exact hle.1) hzz (by
                have := hle.2
                rw [List.all_eq_true] at this ⊢
                intro v hv
                simp only [List.mem_flatten, List.mem_replicate] at hv
                obtain ⟨l, ⟨_, rfl⟩, hv⟩ := hv
                exact this v hv)
              refine done w' _ ?_ s2
              have hmade : (Builtin.zeroCells zv.cells n).toList = (List.replicate n z).flatten := by
                have := made_flat z n
                simp only [Builtin.zeroCells, hzc, List.size_toArray, this]
              simp only [Builtin.clear_]
              simp [Sem.run_bind, run_underlying hu, Result.andThen_ok, hrx]
              cases n with
              | zero => exact absurd rfl hn
              | succ n => simp [Sem.run_bind, hzr, Result.andThen_ok, hmade, s1]
        · cases hv
      · cases hv
    · cases hv
  · cases he
/-! ### 'append' -/
def TakesMore (P : Program) (u : TypeId) : Prop := ∃ d, P.underlying u = some d ∧ ((∃ e, d = .slice e) ∨ d = .string)
theorem run_app_room {t u e ty : TypeId} {i : TypeInfo} (ht : P.underlying t = some (.slice e)) (hu : TakesMore P u) (hi : P.info? e = some i) {x : Value} {base : Option Addr} {sLen sCap n : Nat} {news : Array Value}
    (hl : (Builtin.lenOf x).run P w = .ok n w) (hx : (Builtin.firstCells i.size n x).run P w = .ok news w) (hroom : sLen + n ≤ sCap) {w' : World}
    (hst : (match base with | some ad => storeCells (ad.add (sLen * i.size)) news.toList | none => pure ()).run P w = .ok () w') :
    (Builtin.append_ #[t, u] ty #[.slice base sLen sCap, x]).run P w = .ok (.slice base (sLen + n) sCap) w' := by
  obtain ⟨d, hu, hd⟩ := hu
  have hsz : (sizeOf e).run P w = .ok i.size w := by simp [sizeOf, Sem.run_bind, run_typeInfo w hi, Result.andThen]
  rcases hd with ⟨e', rfl⟩ | rfl
  · cases base with
    | none => simp at hst; subst hst; simp [Builtin.append_, run_underlying ht, run_underlying hu, hsz, Result.andThen_ok, Sem.run_bind, hl, hx, hroom]
    | some ad => simp at hst; simp [Builtin.append_, run_underlying ht, run_underlying hu, hsz, Result.andThen_ok, Sem.run_bind, hl, hx, hroom, hst]
  · cases base with
    | none => simp at hst; subst hst; simp [Builtin.append_, run_underlying ht, run_underlying hu, hsz, Result.andThen_ok, Sem.run_bind, hl, hx, hroom]
    | some ad => simp at hst; simp [Builtin.append_, run_underlying ht, run_underlying hu, hsz, Result.andThen_ok, Sem.run_bind, hl, hx, hroom, hst]
theorem run_app_grow {t u e ty : TypeId} {i : TypeInfo} {z : Value} (ht : P.underlying t = some (.slice e)) (hu : TakesMore P u) (hi : P.info? e = some i) (hz : i.zero = some z) {x : Value} {base : Option Addr} {sLen sCap n : Nat} {olds news : Array Value}
    (hl : (Builtin.lenOf x).run P w = .ok n w) (hx : (Builtin.firstCells i.size n x).run P w.drew = .ok news w.drew) (ho : (Builtin.firstCells i.size sLen (.slice base sLen sCap)).run P w.drew = .ok olds w.drew)
    (hg : sCap < sLen + n) (h63 : ((sLen + n : Nat) : Int) ≤ 9223372036854775807) (hb : (sLen + n) * i.bytes ≤ 140737488355328) (hpos : i.bytes ≠ 0) :
    (Builtin.append_ #[t, u] ty #[.slice base sLen sCap, x]).run P w =
      .ok (.slice (some ⟨w.heap.size, 0, none⟩) (sLen + n) (grownCap w (sLen + n) sCap e)) (w.drew.alloc (.cells (olds ++ news ++ Builtin.zeroCells z.cells (grownCap w (sLen + n) sCap e - (sLen + n))) e)) := by
  obtain ⟨d, hu, hd⟩ := hu
  have hfit := growslice_fits hg hb
  have hsz : (sizeOf e).run P w = .ok i.size w := by simp [sizeOf, Sem.run_bind, run_typeInfo w hi, Result.andThen]
  have h1 : ¬ (sLen + n ≤ sCap) := by omega
  have h2 : ¬ (((sLen + n : Nat) : Int) > IntKind.i64.max) := by
    have : IntKind.i64.max = 9223372036854775807 := by decide
    rw [this]; omega
  have h3 : ¬ (Builtin.nextslicecap (sLen + n) sCap * i.bytes > 2 ^ 48) := by omega
  have h4 : (Question.appendCap (sLen + n) sCap e).forced = false := rfl
  have hti : ∀ w : World, (typeInfo e).run P w = .ok i w := fun w => run_typeInfo w hi
  have hzv : ∀ w : World, (zeroValue e).run P w = .ok z w := fun w => by simp [zeroValue, Sem.run_bind, run_typeInfo w hi, Result.andThen, hz]
  rcases hd with ⟨e', rfl⟩ | rfl
  · simp only [Builtin.append_, List.getElem?_toArray, List.getElem?_cons_zero, List.getElem?_cons_succ, Sem.run_bind, run_underlying ht, run_underlying hu, Result.andThen_ok, hsz, Sem.run_pure, Bool.false_eq_true, if_false, hl, h1, hti, h2, hpos, false_and, h3, run_choose_drew, h4, run_askRoom, ho, hx, hzv, newRow, run_newObj_alloc, grownCap]
    simp [hl, h1, hti, h2, hpos, h3, ho, hx, hzv, h4, Sem.run_bind, Result.andThen_ok]
  · simp only [Builtin.append_, List.getElem?_toArray, List.getElem?_cons_zero, List.getElem?_cons_succ, Sem.run_bind, run_underlying ht, run_underlying hu, Result.andThen_ok, hsz, Sem.run_pure, Bool.false_eq_true, if_false, hl, h1, hti, h2, hpos, false_and, h3, run_choose_drew, h4, run_askRoom, ho, hx, hzv, newRow, run_newObj_alloc, grownCap]
    simp [hl, h1, hti, h2, hpos, h3, ho, hx, hzv, h4, Sem.run_bind, Result.andThen_ok]
end
end Go.L
