/- THE LOGICAL MACHINE AND THE MODEL: 'append'; any operation that changes the heap. -/
import Derived.Test.YtdklgcjbjphadaaS14
set_option linter.unusedVariables false
set_option linter.unusedSimpArgs false
namespace Go.L
open Go
variable {P : Program} {ι : Inj} {h : Heap} {w : World}
theorem Sim.same {w' : World} (hs : Sim P ι h w) (hq : Quiet w w') : Sim P ι h w' := (St.same hs hq.heap hq.os hq.tape hq.output).sim
theorem St.quiet {w' : World} (hs : Sim P ι h w) (hq : Quiet w w') : St P ι h w ι h w' := St.same hs hq.heap hq.os hq.tape hq.output
theorem slice_shape {b : Option Addr} {n c : Nat} {r : Value} (hr : VR ι (.slice b n c) r) : ∃ b' c', r = .slice b' n c' ∧ (n ≤ c → n ≤ c') ∧ (c' = c ∨ ∃ a s, b = some a ∧ a.spot = some s) := by
  cases hr with
  | nils n c => exact ⟨_, _, rfl, id, .inl rfl⟩
  | slice off n c hm => exact ⟨_, _, rfl, id, .inl rfl⟩
  | slice0 off a' h0 => exact ⟨_, _, rfl, id, .inl rfl⟩
  | loose off s n c hm hn hc => exact ⟨_, _, rfl, fun _ => hn, .inr ⟨_, _, rfl, rfl⟩⟩
  | loose0 off s a' h0 => exact ⟨_, _, rfl, id, .inl rfl⟩
section
variable {sz : Nat} {f : FF} {a : Act} {o : Oper} {q : O} {v : Value} {h' : Heap} {ws : List Nat}
theorem app_grow {t u e ty size : Nat} {z : List Value} (hs : Sim P ι h w) (hut : P.underlying t = some (.slice e)) (hse : szO P e = some size) (hz : zerosO P e size = some z) (hu : TakesMore P u) {s s' x x' : Value} (rs : VR ι s s') (rx : VR ι x x')
    {n len : Nat} {new old : List Value} (hcx : cellsOf size x h = some (n, new)) (hcs : cellsOf size s h = some (len, old)) (hb : (len + n) * P.bytesOf e ≤ 140737488355328) (hlt : len + n < 4611686018427387904) (hp : P.bytesOf e ≠ 0)
    {base : Option Addr} {sCap : Nat} (hs' : s' = .slice base len sCap) (hg : sCap < len + n) :
    ∃ ι' w' v', (Builtin.append_ #[t, u] ty #[s', x']).run P w = .ok v' w' ∧ St P ι h w ι' (h ++ [.cells (old ++ new) false]) w' ∧ Old ι h ι' ∧ VR ι' (.slice (some ⟨h.length, 0, some size⟩) (len + n) (len + n)) v' := by
  obtain ⟨hzl, hzn, zv, hzr, hzc, i, hi, hiz⟩ := zerosO_run hz
  obtain ⟨i', hi', hisz⟩ := szO_info hse
  rw [hi] at hi'; cases hi'
  have hby : P.bytesOf e = i.bytes := by simp [Program.bytesOf, hi]
  rw [hby] at hb hp
  obtain ⟨l1, _, _⟩ := run_cells hs rx hcx w rfl
  obtain ⟨_, nlen, none1, new', x1, x2⟩ := run_cells_k hs rx hcx w.drew rfl
  obtain ⟨_, olen, oone, old', o1, o2⟩ := run_cells_k hs rs hcs w.drew rfl
  have nl : new'.length = n * size := by rw [← x1.length, nlen]
  have ol : old'.length = len * size := by rw [← o1.length, olen]
  have xx := x2 n (Nat.le_refl _)
  rw [List.take_of_length_le (by omega)] at xx
  have oo := o2 len (Nat.le_refl _)
  rw [List.take_of_length_le (by omega)] at oo
  subst hs'
  rw [← hisz] at xx oo
  have hrun := run_app_grow (ty := ty) hut hu hi hiz l1 xx oo hg (by omega) hb hp
  have hge := grownCap_ge w (len + n) sCap e
  let rest := (Builtin.zeroCells zv.cells (grownCap w (len + n) sCap e - (len + n))).toList
  have hrl : rest.length = (grownCap w (len + n) sCap e - (len + n)) * size := by simp [rest, Builtin.zeroCells, hzc, hzl]
  have harr : old'.toArray ++ new'.toArray ++ Builtin.zeroCells zv.cells (grownCap w (len + n) sCap e - (len + n)) = ((old' ++ new') ++ rest).toArray := by
    apply Array.ext'; simp [rest]
  rw [harr] at hrun
  have hone : (old ++ new).all oneCell = true := by simp only [List.all_append, oone, none1, Bool.and_self]
  have hsize : (old' ++ new').length + rest.length = grownCap w (len + n) sCap e * size := by
    rw [List.length_append, nl, ol, hrl, ← Nat.add_mul, ← Nat.add_mul]
    congr 1; omega
  have st1 := St.quiet hs (Quiet.drew w)
  have hobj := objr_new (P := P) (ι' := ι.put h.length ⟨w.heap.size, 0, (old' ++ new').length + rest.length⟩) (wd := w.drew) (rest := rest) (VRs.mono (Inj.put_sub (hs.dom _ (Nat.le_refl _)) _) (o1.append x1)) hone e
  have st2 := St.push (P := P) (m := ⟨w.heap.size, 0, (old' ++ new').length + rest.length⟩) (o := .cells (old ++ new) false) st1.sim rfl (fun _ => hobj)
  exact ⟨_, _, _, hrun, st1.trans st2, Old.put _ _ _, VR.loose (m := ⟨w.heap.size, 0, (old' ++ new').length + rest.length⟩) 0 size (len + n) _ (Inj.put_same _ _ _) hge (by simp only [Nat.zero_add]; omega)⟩
theorem app_cases {t u e ty size : Nat} {z : List Value} (hs : Sim P ι h w) (hut : P.underlying t = some (.slice e)) (hse : szO P e = some size) (hz : zerosO P e size = some z) (hu : TakesMore P u) {s s' x x' : Value} (rs : VR ι s s') (rx : VR ι x x')
    (hv : appendV size (P.bytesOf e) s x h = some (v, h', ws)) : ∃ ι' w' v', (Builtin.append_ #[t, u] ty #[s', x']).run P w = .ok v' w' ∧ St P ι h w ι' h' w' ∧ Old ι h ι' ∧ VR ι' v v' := by
  obtain ⟨i, hi, hisz⟩ := szO_info hse
  unfold appendV at hv
  split at hv
  · rename_i n new len old hcx hcs
    obtain ⟨l1, nlen, none1, new', x1, x2⟩ := run_cells_k hs rx hcx w rfl
    have nl : new'.length = n * size := by rw [← x1.length, nlen]
    have xx := x2 n (Nat.le_refl _)
    rw [List.take_of_length_le (by omega)] at xx
    rw [← hisz] at xx
    split at hv
    · rename_i h0
      subst h0
      split at hv
      · rename_i hfit
        simp only [Option.some.injEq, Prod.mk.injEq] at hv
        obtain ⟨rfl, rfl, rfl⟩ := hv
        obtain ⟨ls, _, _⟩ := run_cells hs rs hcs w rfl
        cases s <;> first | (simp [fits] at hfit; done) | skip
        rename_i b n0 c0
        obtain ⟨b', c', rfl, hle, _⟩ := slice_shape rs
        simp [Builtin.lenOf] at ls; subst ls
        have hroom : n0 + 0 ≤ c' := hle (by simpa [fits] using hfit)
        have hnew : new' = [] := List.eq_nil_of_length_eq_zero (by omega)
        have := run_app_room (ty := ty) hut hu hi l1 xx hroom (base := b') (w' := w) (by subst hnew; cases b' <;> simp [storeCells])
        exact ⟨ι, w, _, this, St.refl hs, Old.refl _ _, rs⟩
      · cases hv
    · rename_i hn0
      split at hv
      · rename_i hb
        obtain ⟨hb1, hb2, hb3, hb4⟩ := hb
        obtain ⟨ls, olen, oone, old', o1, o2⟩ := run_cells_k hs rs hcs w rfl
        split at hv
        · rename_i n0 cap
          split at hv
          · rename_i hc0
            simp only [Option.some.injEq, Prod.mk.injEq] at hv
            obtain ⟨rfl, rfl, rfl⟩ := hv
            obtain ⟨b', c', rfl, _, hcc⟩ := slice_shape rs
            simp [Builtin.lenOf] at ls; subst ls
            have hc' : c' = 0 := by rcases hcc with h | ⟨_, _, h, _⟩; omega; cases h
            exact app_grow hs hut hse hz hu rs rx hcx hcs hb1 hb2 hb4 rfl (by omega)
          · cases hv
        · rename_i ad n0 cap
          obtain ⟨b', c', rfl, _, hcc⟩ := slice_shape rs
          simp [Builtin.lenOf] at ls; subst ls
          split at hv
          · rename_i hsp
            have hc' : c' = cap := by
              rcases hcc with h | ⟨a2, s2, h, h2⟩
              · exact h
              · cases h; rw [hsp] at h2; cases h2
            subst hc'
            split at hv
            · rename_i hroom
              split at hv
              · rename_i c hbk
                split at hv
                · rename_i hle
                  simp only [Option.some.injEq, Prod.mk.injEq] at hv
                  obtain ⟨rfl, rfl, rfl⟩ := hv
                  have key : ∀ m : Img, ι ad.block = some m → b' = some ⟨m.rb, m.off + ad.off, none⟩ → ad = ⟨ad.block, ad.off, none⟩ →
                      ∃ ι' w' v', (Builtin.append_ #[t, u] ty #[.slice b' n0 c', x']).run P w = .ok v' w' ∧ St P ι h w ι' (h.set ad.block (.cells (setCells c (ad.off + n0 * size) new) false)) w' ∧ Old ι h ι' ∧ VR ι' (.slice (some ad) (n0 + n) c') v' := by
                    intro m hm hb' had
                    subst hb'
                    obtain ⟨w', s1, s2⟩ := write_cells hs hbk hm (off := ad.off + n0 * size) (by rw [nlen, Nat.add_assoc, ← Nat.add_mul]; exact hle) x1 none1
                    have := run_app_room (ty := ty) hut hu hi l1 xx hroom (base := some ⟨m.rb, m.off + ad.off, none⟩) (w' := w') (by
                      show (storeCells ((⟨m.rb, m.off + ad.off, none⟩ : Addr).add (n0 * i.size)) new').run P w = _
                      rw [addr_add _ rfl, hisz]
                      simpa [Nat.add_assoc] using s1)
                    refine ⟨ι, w', _, this, s2, Old.refl _ _, ?_⟩
                    rw [had]
                    exact .slice ad.off _ _ hm
                  cases rs with
                  | slice off n c hm => exact key _ hm rfl rfl
                  | slice0 off a' h0 => omega
                  | loose off s n c hm hn hc => cases hsp
                  | loose0 off s a' h0 => cases hsp
                · cases hv
              · cases hv
            · simp only [Option.some.injEq, Prod.mk.injEq] at hv
              obtain ⟨rfl, rfl, rfl⟩ := hv
              exact app_grow hs hut hse hz hu rs rx hcx hcs hb1 hb2 hb4 rfl (by omega)
          · rename_i z0 hsp
            split at hv
            · rename_i c hbk
              split at hv
              · rename_i hzz
                simp only [Option.some.injEq, Prod.mk.injEq] at hv
                obtain ⟨rfl, rfl, rfl⟩ := hv
                have hbl : ad.block < h.length := (List.getElem?_eq_some_iff.1 hbk).1
                have grows : c' < n0 + n → ∃ ι' w' v', (Builtin.append_ #[t, u] ty #[.slice b' n0 c', x']).run P w = .ok v' w' ∧ St P ι h w ι' (h.set ad.block .dead ++ [.cells (old ++ new) false]) w' ∧ Old ι h ι' ∧ VR ι' (.slice (some ⟨h.length, 0, some size⟩) (n0 + n) (n0 + n)) v' := by
                  intro hg
                  obtain ⟨ι', w', v', r1, r2, ro, r3⟩ := app_grow (ty := ty) hs hut hse hz hu rs rx hcx hcs hb1 hb2 hb4 rfl hg
                  have := r2.trans (St.kill r2.sim ad.block)
                  rw [List.set_append_left _ _ hbl] at this
                  exact ⟨ι', w', v', r1, this, ro, r3⟩
                by_cases hg : c' < n0 + n
                · exact grows hg
                · have hroom : n0 + n ≤ c' := by omega
                  have hzz2 := hzz.symm; subst hzz2
                  cases rs with
                  | slice off n c hm => cases hsp
                  | slice0 off a' h0 => cases hsp
                  | loose0 off s a' h0 => omega
                  | @loose b m off s n1 c1 hm hn hc =>
                    cases hsp
                    obtain ⟨m', hm', hr⟩ := hs.obj _ _ hbk (by simp)
                    rw [hm] at hm'; cases hm'
                    cases hr with
                    | cells hw hsz hl hcell hf ho =>
                      rename_i arr tt fz
                      have hmul : n0 * size + n * size ≤ c' * size := by rw [← Nat.add_mul]; exact Nat.mul_le_mul_right _ hroom
                      have hnl : n0 * size + new'.length ≤ c' * size := by rw [nl]; exact hmul
                      have st0 := run_store_raw (P := P) hw (o := m.off + off + n0 * size) (vs := new') (by omega) (fun i h1 h2 => hf rfl i (by omega) (by omega)) (ones_rel x1 none1)
                      obtain ⟨k1, k2, k3, k4, k5, k6⟩ := setCells_world new' hw (m.off + off + n0 * size)
                      have := run_app_room (ty := ty) hut hu hi l1 xx hroom (base := some ⟨m.rb, m.off + off, none⟩) (w' := w.setCells m.rb (m.off + off + n0 * size) new') (by
                        show (storeCells ((⟨m.rb, m.off + off, none⟩ : Addr).add (n0 * i.size)) new').run P w = _
                        rw [addr_add _ rfl, hisz]
                        simpa [Nat.add_assoc] using st0)
                      have hcs' : (List.drop off c).take (n0 * size) = old ∧ off + n0 * size ≤ c.length := by
                        unfold cellsOf at hcs
                        simp only [hbk] at hcs
                        split at hcs
                        · rename_i hle
                          simp only [Option.some.injEq, Prod.mk.injEq] at hcs
                          exact ⟨hcs.2, hle⟩
                        · cases hcs
                      have hol : old.length = n0 * size := olen
                      have hobj : ObjR P (ι.put h.length ⟨m.rb, m.off + off, m.size⟩) (w.setCells m.rb (m.off + off + n0 * size) new') ⟨m.rb, m.off + off, m.size⟩ (.cells (old ++ new) false) := by
                        refine .cells k1 (by simp [setCells_length, hsz]) (by simp only [List.length_append, hol, nlen]; omega) ?_ (fun h0 i h1 h2 => hf h0 i (by simp only at h1; omega) h2) (by simp only [List.all_append, oone, none1, Bool.and_self])
                        intro i v hv
                        have hlt : i < n0 * size + new'.length := by
                          have := (List.getElem?_eq_some_iff.1 hv).1
                          simp only [List.length_append, hol, nlen] at this; omega
                        simp only [List.getElem?_toArray, setCells_get]
                        by_cases hio : i < n0 * size
                        · rw [List.getElem?_append_left (by omega)] at hv
                          rw [← hcs'.1, List.getElem?_take_of_lt hio, List.getElem?_drop] at hv
                          obtain ⟨r, hr, hvr⟩ := hcell _ _ hv
                          refine ⟨r, ?_, hvr.mono (Inj.put_sub (hs.dom _ (Nat.le_refl _)) _)⟩
                          rw [if_neg (by omega)]
                          simpa [Nat.add_assoc] using hr
                        · rw [List.getElem?_append_right (by omega), hol] at hv
                          obtain ⟨r, hr, hvr⟩ := x1.at_ hv
                          refine ⟨r, ?_, hvr.mono (Inj.put_sub (hs.dom _ (Nat.le_refl _)) _)⟩
                          rw [if_pos (by simp; omega)]
                          rw [← hr]; congr 1; omega
                      have st := St.moved (m' := ⟨m.rb, m.off + off, m.size⟩) hs hbk rfl hm rfl k2 k3 k4 k5 k6 hobj rfl
                      exact ⟨_, _, _, this, st, Old.put _ _ _, VR.loose (m := ⟨m.rb, m.off + off, m.size⟩) 0 size (n0 + n) c' (Inj.put_same _ _ _) hroom (by simpa using hc)⟩
              · cases hv
            · cases hv
        · cases hv
      · cases hv
  · cases hv
theorem e_app {t u e size : Nat} {s x : Operand} {z : List Value} (hs : Sim P ι h w) (he : elemO P t = some (e, size)) (hz : zerosO P e size = some z) (hu : TakesMore P u) (hf : FFR ι sz f a.tmps)
    (ho : o.op = .call { callee := .builtin .append, args := #[s, x], argTypes := #[t, u] }) {s' x' : X} (hss : cX s = some s') (hx : cX x = some x') (hv : effV f h (.app size (P.bytesOf e) s' x') = some (v, h', ws)) : Does P ι h a o v h' w := by
  unfold elemO at he
  split at he
  · rename_i e0 hut
    simp only [Option.map_eq_some_iff, Prod.mk.injEq] at he
    obtain ⟨s0, hs0, rfl, rfl⟩ := he
    obtain ⟨ι', w', v', h1, h2, ho2, h3⟩ := app_cases (ty := o.type) hs hut hs0 hz hu (ev_rel hf hss) (ev_rel hf hx) hv
    refine ⟨ι', w', _, ?_, h2, ho2, .inr ⟨_, rfl, h3⟩⟩
    simp only [execOp, ho, resolve, Sem.run_bind, Result.andThen, Sem.run_pure, invoke, Go.builtin]
    simp [Sem.run_bind, Result.andThen, h1]
  · cases he
theorem eff_op (hs : Sim P ι h w) (hf : FFR ι sz f a.tmps) (ho : cO P o.op = some q) (hc : cls q = .E) (hv : effV f h q = some (v, h', ws)) : Does P ι h a o v h' w := by
  cases hop : o.op with
  | mapUpdate t m k x =>
    rw [hop] at ho; simp only [cO] at ho
    split at ho
    · rename_i kt e hu
      simp only [Option.map_eq_some_iff, Option.bind_eq_some_iff] at ho; obtain ⟨qk, hq, m', hm, k', hk, x', hx, rfl⟩ := ho; exact e_mup hs hu hq hf hop hm hk hx hv
    · cases ho
  | call c =>
    rw [hop] at ho; simp only [cO] at ho
    split at ho
    · simp only [Option.map_eq_some_iff, Option.bind_eq_some_iff] at ho; obtain ⟨_, _, _, _, rfl⟩ := ho; simp [cls] at hc
    · cases ho
    · rename_i b hcal
      have hce := builtin_eta hcal
      split at ho
      · split at ho
        · simp only [Option.map_eq_some_iff] at ho; obtain ⟨x', hx, rfl⟩ := ho; simp [cls] at hc
        · simp only [Option.map_eq_some_iff] at ho; obtain ⟨x', hx, rfl⟩ := ho; simp [cls] at hc
        · simp only [Option.some.injEq] at ho; subst ho; simp [cls] at hc
        · simp only [Option.map_eq_some_iff] at ho; obtain ⟨x', hx, rfl⟩ := ho; simp [cls] at hc
        · cases ho
      · simp only [Option.map_eq_some_iff, Option.bind_eq_some_iff] at ho; obtain ⟨x', hx, r', hr, rfl⟩ := ho; simp [cls] at hc
      · simp only [Option.map_eq_some_iff, Option.bind_eq_some_iff] at ho; obtain ⟨x', hx, r', hr, rfl⟩ := ho; simp [cls] at hc
      · rename_i s x t u ha ht
        rw [hce, arr2 ha, arr2 ht] at hop
        split at ho
        · rename_i hu
          simp only [Option.map_eq_some_iff, Option.bind_eq_some_iff] at ho; obtain ⟨⟨e, n⟩, he, z, hz, s', hss, x', hx, rfl⟩ := ho
          exact e_app hs he hz ⟨_, hu, .inl ⟨_, rfl⟩⟩ hf hop hss hx hv
        · rename_i hu
          simp only [Option.map_eq_some_iff, Option.bind_eq_some_iff] at ho; obtain ⟨⟨e, n⟩, he, z, hz, s', hss, x', hx, rfl⟩ := ho
          exact e_app hs he hz ⟨_, hu, .inr rfl⟩ hf hop hss hx hv
        · cases ho
      · rename_i d s t r ha ht
        rw [hce, arr2 ha] at hop
        simp only [Option.map_eq_some_iff, Option.bind_eq_some_iff] at ho; obtain ⟨⟨e, n⟩, he, d', hd, s', hss, rfl⟩ := ho
        exact e_cpy hs (arr_head ht) he hf hop hd hss hv
      · rename_i x t ha ht
        rw [hce, arr1 ha, arr1 ht] at hop
        simp only [Option.bind_eq_some_iff] at ho; obtain ⟨⟨e, n⟩, he, z, hz, ho⟩ := ho
        split at ho
        · cases ho
        · rename_i hz0
          simp only [Option.map_eq_some_iff] at ho; obtain ⟨x', hx, rfl⟩ := ho
          exact e_clr hs he hz hz0 hf hop hx hv
      · rename_i m k t r ha ht
        rw [hce, arr2 ha] at hop
        split at ho
        · rename_i kt e hu
          simp only [Option.map_eq_some_iff, Option.bind_eq_some_iff] at ho; obtain ⟨qk, hq, m', hm, k', hk, rfl⟩ := ho
          exact e_del hs (arr_head ht) hu hq hf hop hm hk hv
        · cases ho
      · cases ho
  | _ =>
    exfalso
    rw [hop] at ho
    simp only [cO] at ho
    first | (cases ho; done) | skip
    all_goals
      (repeat' split at ho) <;> first | (cases ho; done) | skip
    all_goals
      cases q <;> first | (simp [cls] at hc; done) | skip
    all_goals first | contradiction | (simp [Option.bind_eq_some_iff, Option.map_eq_some_iff] at ho; done) | skip
end
end Go.L
