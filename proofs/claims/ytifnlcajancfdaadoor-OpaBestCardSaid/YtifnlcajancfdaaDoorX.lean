/- THE CONTRACT OF math/bits.Add64. -/
import Derived.Test.YtifnlcajancfdaaDoorPb
import Derived.Test.YtifnlcajancfdaaDoorSh
import Derived.Test.YtifnlcajancfdaaDoorPd
import Derived.Shelf.Spec.TrailingZeros
import Derived.Test.YtifnlcajancfdaaDoorPf
import Derived.Shelf.Spec.SlicesInsertGrow
set_option linter.unusedVariables false
set_option linter.unusedSimpArgs false
namespace Go.L.Try
open Go Go.L
theorem addE_val {P : Program} {f : FuncId} (hrun : ∀ (x y c : Nat) (w : World), x < 18446744073709551616 → y < 18446744073709551616 → c ≤ 1 → (callFunc f #[.int .u64 x, .int .u64 y, .int .u64 c]).run P w = .ok (.value (.tuple #[.int .u64 (((x + y + c) % 18446744073709551616 : Nat) : Int), .int .u64 (((x + y + c) / 18446744073709551616 : Nat) : Int)])) w) : ValOK P f addE := by
  intro args h v h' ws hv
  unfold addE at hv
  split at hv
  · rename_i a b c hh
    split at hv
    · rename_i hc
      obtain ⟨⟨a1, a2⟩, ⟨b1, b2⟩, c1, c2⟩ := hc
      simp only [Option.some.injEq, Prod.mk.injEq] at hv
      obtain ⟨rfl, rfl, rfl⟩ := hv
      obtain ⟨x, rfl⟩ := Int.eq_ofNat_of_zero_le a1
      obtain ⟨y, rfl⟩ := Int.eq_ofNat_of_zero_le b1
      obtain ⟨z, rfl⟩ := Int.eq_ofNat_of_zero_le c1
      refine ⟨fun l0 a0 b0 hm => by simp at hm, fun ι w args' hs ha => ?_⟩
      cases ha with
      | cons r1 t1 =>
        cases t1 with
        | cons r2 t2 =>
          cases t2 with
          | cons r3 t3 =>
            cases t3
            cases r1; cases r2; cases r3
            refine ⟨_, w, hrun x y z w (by omega) (by omega) (by omega), ι, _, rfl, St.refl hs, Old.refl _ _, ?_⟩
            exact .tuple (.cons (.int _ _) (.cons (.int _ _) .nil))
    · cases hv
  · cases hv
theorem addE_keep {args : List Value} {h h' : Heap} {v : Value} {ws : List Nat} (hv : addE args h = some (v, h', ws)) : h' = h ∧ ws = [] := by
  unfold addE at hv
  split at hv
  · split at hv
    · simp only [Option.some.injEq, Prod.mk.injEq] at hv; exact ⟨hv.2.1.symm, hv.2.2.symm⟩
    · cases hv
  · cases hv
end Go.L.Try
namespace Go.L.Try
open Go Go.L Go.Shelf Go.Proofs
variable {P : Program} {ρ : Ren}
theorem tab_at {w : World} {ι : Inj} {h : Heap} (hs : Sim P ι h w) {g : Nat} (hg : g < P.globals.size) {c : List Value} {ro : Bool} (hG : h[g]? = some (.cells c ro)) (hc : tabOk c = true) : TabAt g Lib.deBruijn64tab w := by
  obtain ⟨s, hι⟩ := hs.glob g hg
  obtain ⟨m, hm, hobj⟩ := hs.obj g _ hG (by simp)
  rw [hι] at hm
  cases hm
  cases hobj with
  | @cells _ _ arr t fz hw hsz hl hcell _ _ =>
    unfold tabOk at hc
    rw [Bool.and_eq_true, decide_eq_true_eq, List.all_eq_true] at hc
    intro j hj
    have hj2 : j < 64 := hj
    have h1 := hc.2 j (List.mem_range.2 hj2)
    cases hv : c[j]? with
    | none => rw [hv] at h1; cases h1
    | some v =>
      rw [hv] at h1
      obtain ⟨r, hr, hvr⟩ := hcell j v hv
      split at h1
      · rename_i n e
        cases e
        cases hvr
        rw [Nat.zero_add] at hr
        simp only at hw
        have e2 : n = ((Lib.deBruijn64tab.getD j 0 : Nat) : Int) := by simpa using h1
        simp only [World.cell?, hw]
        rw [hr, e2]; rfl
      · cases h1
theorem tzE_ok (L : Lays7.n29 P ρ) : ExtOK P (ρ.f 29) (tzE (ρ.g 1)) := by
  intro args h v h' ws hv F n hW ι w args' hs ha
  unfold tzE at hv
  split at hv
  · rename_i a hh
    split at hv
    · rename_i c ro hG
      split at hv
      · rename_i hc
        obtain ⟨hc, ha0, ha1⟩ := hc
        simp only [Option.some.injEq, Prod.mk.injEq] at hv
        obtain ⟨rfl, rfl, rfl⟩ := hv
        cases ha with
        | cons r1 t1 =>
          cases t1
          cases r1
          obtain ⟨x, rfl⟩ := Int.eq_ofNat_of_zero_le ha0
          have hg : ρ.g 1 < P.globals.size := by
            have := L.g1
            rw [Array.findIdx?_eq_some_iff_getElem] at this
            exact this.1
          have hT := tab_at hs hg hG hc
          refine callsIn_of hW ((Any7.bits_TrailingZeros64 L x (by omega) w fun _ => hT).mono fun e w' hr => ?_)
          obtain ⟨rfl, rfl⟩ := hr
          exact ⟨ι, _, rfl, St.refl hs, Old.refl _ _, VR.int _ _⟩
      · cases hv
    · cases hv
  · cases hv
theorem tzE_keep {G : Nat} {args : List Value} {h h' : Heap} {v : Value} {ws : List Nat} (hv : tzE G args h = some (v, h', ws)) : h' = h ∧ ws = [] := by
  unfold tzE at hv
  split at hv
  · split at hv
    · split at hv
      · simp only [Option.some.injEq, Prod.mk.injEq] at hv; exact ⟨hv.2.1.symm, hv.2.2.symm⟩
      · cases hv
    · cases hv
  · cases hv
end Go.L.Try
namespace Go.L.Try
open Go Go.L Go.Shelf Go.Proofs
variable {P : Program} {ρ : Ren}
theorem heap_at {w : World} {b : Nat} {arr : Array Value} {t : TypeId} {fz : Nat × Nat} (hw : w.heap[b]? = some (.cells arr t fz)) (j : Nat) : w.cell? ⟨b, j, none⟩ = arr[j]? := by simp [World.cell?, hw]
theorem frozen_at {w : World} {b : Nat} {arr : Array Value} {t : TypeId} {fz : Nat × Nat} (hw : w.heap[b]? = some (.cells arr t fz)) {j : Nat} (h : ¬ (fz.1 ≤ j ∧ j < fz.2)) : w.frozen? ⟨b, j, none⟩ = false := by
  simp [World.frozen?, hw]; omega
theorem shape_at {w : World} {b : Nat} {arr : Array Value} {t : TypeId} {fz : Nat × Nat} (hw : w.heap[b]? = some (.cells arr t fz)) : w.shape? b = some (t, arr.size) := by simp [World.shape?, hw]
theorem one_slice {ι : Inj} {h : Heap} {w : World} (hs : Sim P ι h w) {va : Addr} {vc : Nat} {vcs : List Value} {r : Value} {x : Int} (hb : h[va.block]? = some (.cells vcs false)) (hx : vcs[va.off]? = some (.int .i64 x)) (hr : VR ι (.slice (some va) 1 vc) r) :
    ∃ m c' arr t fz, ι va.block = some m ∧ r = .slice (some ⟨m.rb, m.off + va.off, none⟩) 1 c' ∧ w.heap[m.rb]? = some (.cells arr t fz) ∧ arr[m.off + va.off]? = some (.int .i64 x) ∧ ¬ (fz.1 ≤ m.off + va.off ∧ m.off + va.off < fz.2) ∧ ¬ (fz.1 ≤ arr.size ∧ arr.size < fz.2) := by
  have key : ∀ m c', ι va.block = some m → r = .slice (some ⟨m.rb, m.off + va.off, none⟩) 1 c' → ∃ m c' arr t fz, ι va.block = some m ∧ r = .slice (some ⟨m.rb, m.off + va.off, none⟩) 1 c' ∧ w.heap[m.rb]? = some (.cells arr t fz) ∧ arr[m.off + va.off]? = some (.int .i64 x) ∧ ¬ (fz.1 ≤ m.off + va.off ∧ m.off + va.off < fz.2) ∧ ¬ (fz.1 ≤ arr.size ∧ arr.size < fz.2) := by
    intro m c' hm he
    obtain ⟨m', hm', hobj⟩ := hs.obj _ _ hb (by simp)
    rw [hm] at hm'; cases hm'
    cases hobj with
    | cells hw hsz hl hc hf ho =>
      rename_i arr t fz
      obtain ⟨r, hr, hvr⟩ := hc _ _ hx
      cases hvr
      have hlt := (List.getElem?_eq_some_iff.1 hx).1
      exact ⟨m, c', arr, t, fz, hm, he, hw, hr, hf rfl _ (by omega) (by omega), hf rfl _ (by omega) (by omega)⟩
  cases hr with
  | slice off n c hm => exact key _ _ hm rfl
  | loose off s n c hm hn hc => exact key _ _ hm rfl
theorem insE_ok (L : Lays2.n21 P ρ) : ExtOK P (ρ.f 21) insE := by
  intro args h v h' ws hv F n hW ι w args' hs ha
  unfold insE at hv
  split at hv <;> try (cases hv; done)
  rename_i s z va vc
  split at hv <;> try (cases hv; done)
  rename_i vcs hvb
  split at hv <;> try (cases hv; done)
  rename_i x hx
  obtain ⟨s', q1, rfl, hsr, ha⟩ : ∃ s' q1, args' = s' :: q1 ∧ VR ι s s' ∧ VRs ι [.int .i64 z, .slice (some va) 1 vc] q1 := by cases ha with | cons a b => exact ⟨_, _, rfl, a, b⟩
  obtain ⟨z', q2, rfl, hzr, ha⟩ : ∃ s' q2, q1 = s' :: q2 ∧ VR ι (.int .i64 z) s' ∧ VRs ι [.slice (some va) 1 vc] q2 := by cases ha with | cons a b => exact ⟨_, _, rfl, a, b⟩
  obtain ⟨v', q3, rfl, hvr, ha⟩ : ∃ s' q3, q2 = s' :: q3 ∧ VR ι (.slice (some va) 1 vc) s' ∧ VRs ι [] q3 := by cases ha with | cons a b => exact ⟨_, _, rfl, a, b⟩
  cases ha
  cases hzr
  obtain ⟨vm, vc', varr, vt, vfz, hvm, rfl, hvw, hvx, hvf, hve⟩ := one_slice hs hvb hx hvr
  have hvs : ∀ j u, [Value.int .i64 x][j]? = some u → w.cell? ⟨vm.rb, vm.off + va.off + j, none⟩ = some u := fun j u hj => by
    cases j with
    | zero => simp at hj; subst hj; rw [Nat.add_zero, heap_at hvw]; exact hvx
    | succ j => simp at hj
  have h1v : ∀ u ∈ [Value.int .i64 x], u.oneCell' = true := fun u hu => by simp at hu; subst hu; rfl
  split at hv <;> try (cases hv; done)
  · rename_i n0 c0
    split at hv <;> try (cases hv; done)
    rename_i hc
    obtain ⟨rfl, rfl, rfl⟩ := hc
    simp only [Option.some.injEq, Prod.mk.injEq] at hv
    obtain ⟨rfl, rfl, rfl⟩ := hv
    cases hsr
    have hcall := Any2.slices_Insert_int_end_grow L none 0 0 vm.rb (vm.off + va.off) 1 vc' [] [.int .i64 x] w (by omega) (by omega) (by omega) (by omega) rfl rfl (fun _ => rfl) (fun a h => by cases h) hvs h1v
    refine callsIn_of hW (hcall.mono fun e w' hr => ?_)
    obtain ⟨rfl, rfl⟩ := hr
    have hge := grownCap_ge w (0 + 1) 0 (ρ.t 3)
    have hmx := grownCap_le_maxLen w (0 + 1) 0 (ρ.t 3) (by unfold maxLen; omega)
    generalize hG : grownCap w (0 + 1) 0 (ρ.t 3) = G at *
    have st1 := St.quiet hs (Quiet.drew w)
    have hrl : (Builtin.zeroCells (Value.int .i64 0).cells (G - (0 + 1))).toList.length = G - 1 := by simp [Builtin.zeroCells, Value.cells]
    generalize hrest : (Builtin.zeroCells (Value.int .i64 0).cells (G - (0 + 1))) = rest at *
    have harr : (([] ++ [Value.int .i64 x] : List Value).toArray ++ rest) = ([Value.int .i64 x] ++ rest.toList).toArray := by apply Array.ext'; simp
    rw [harr]
    have hobj := objr_new (P := P) (ι' := ι.put h.length ⟨w.heap.size, 0, [Value.int .i64 x].length + rest.toList.length⟩) (wd := w.drew) (rest := rest.toList) (c := [.int .i64 x]) (c' := [.int .i64 x]) (.cons (.int _ _) .nil) rfl (ρ.t 3)
    have st2 := St.push (P := P) (m := ⟨w.heap.size, 0, [Value.int .i64 x].length + rest.toList.length⟩) (o := .cells [.int .i64 x] false) st1.sim rfl (fun _ => hobj)
    unfold maxLen at hmx
    exact ⟨_, _, rfl, st1.trans st2, Old.put _ _ _, VR.loose (m := ⟨w.heap.size, 0, [Value.int .i64 x].length + rest.toList.length⟩) 0 1 1 G (Inj.put_same _ _ _) (by omega) (by simp only [List.length_cons, List.length_nil]; omega)⟩
  · rename_i sa n0 c0
    split at hv <;> try (cases hv; done)
    rename_i cs hsb
    split at hv <;> try (cases hv; done)
    rename_i hc
    obtain ⟨rfl, hsp, rfl, hne, hn0, hn1, hle⟩ := hc
    simp only [Option.some.injEq, Prod.mk.injEq] at hv
    obtain ⟨rfl, rfl, rfl⟩ := hv
    cases hsr with
    | slice off n c hm => cases hsp
    | slice0 off a' h0 => omega
    | loose0 off s a' h0 => omega
    | @loose b m off s n1 c1 hm hn hcap =>
      cases hsp
      obtain ⟨m', hm', hobj⟩ := hs.obj _ _ hsb (by simp)
      rw [hm] at hm'; cases hm'
      have hrbne : m.rb ≠ vm.rb := hs.inj _ _ _ _ _ _ hsb hvb rfl (by simp) hm hvm hne
      cases hobj with
      | cells hw hsz hl hcell hf ho =>
        rename_i arr t fz
        dsimp only at hne hle hsb
        let old : List Value := (arr.toList.drop (m.off + off)).take n0
        have holen : old.length = n0 := by simp only [old, List.length_take, List.length_drop, Array.length_toList]; omega
        have hold : ∀ j u, old[j]? = some u → w.cell? ⟨m.rb, m.off + off + j, none⟩ = some u := fun j u hj => by
          have hlt := (List.getElem?_eq_some_iff.1 hj).1
          rw [heap_at hw]
          simp only [old] at hj
          rw [List.getElem?_take_of_lt (by omega), List.getElem?_drop, Array.getElem?_toList] at hj
          exact hj
        have hrel : VRs ι ((cs.drop off).take n0) old := by
          refine All2.of_at (by rw [holen, List.length_take, List.length_drop]; omega) fun j a b ha hb => ?_
          have hlt := (List.getElem?_eq_some_iff.1 hb).1
          rw [holen] at hlt
          rw [List.getElem?_take_of_lt hlt, List.getElem?_drop] at ha
          obtain ⟨r, hr, hvr⟩ := hcell _ _ ha
          simp only [old] at hb
          rw [List.getElem?_take_of_lt hlt, List.getElem?_drop, Array.getElem?_toList, Nat.add_assoc] at hb
          rw [hr] at hb; cases hb
          exact hvr
        have hall : ((cs.drop off).take n0).all oneCell = true := List.all_eq_true.2 fun a ha => List.all_eq_true.1 ho a (List.mem_of_mem_drop (List.mem_of_mem_take ha))
        have h1c : ∀ u ∈ old, u.oneCell' = true := ones_rel hrel hall
        have hallx : (Value.int .i64 x :: (cs.drop off).take n0).all oneCell = true := by simp only [List.all_cons, hall, Bool.and_true]; rfl
        clear_value old
        by_cases hg : n0 + 1 ≤ c1
        · have hcall := Any2.slices_Insert_int_shift L m.rb (m.off + off) n0 c1 0 vm.rb (vm.off + va.off) 1 vc' old [.int .i64 x] w hn0 (by omega) hg hn.2 (Ne.symm hrbne) holen rfl hold
            (fun j hj => by rw [heap_at hw, Array.getElem?_eq_getElem (by omega)]; rfl) (fun j hj => frozen_at hw (hf rfl _ (by omega) (by omega))) hvs h1c h1v vt t varr.size arr.size (shape_at hvw) (shape_at hw) (by omega) (frozen_at hvw hvf) (frozen_at hvw hve)
          refine callsIn_of hW (hcall.mono fun e w' hr => ?_)
          obtain ⟨rfl, rfl⟩ := hr
          have hwd : w.drew.heap[m.rb]? = some (.cells arr t fz) := hw
          obtain ⟨k1, k2, k3, k4, k5, k6⟩ := setCells_world (w := w.drew) (t := t) (fz := fz) ((old).drop 0) hwd (m.off + off + (0 + 1))
          obtain ⟨j1, j2, j3, j4, j5, j6⟩ := setCells_world [Value.int .i64 x] k1 (m.off + off + 0)
          have hobj2 : ObjR P (ι.put h.length ⟨m.rb, m.off + off, m.size⟩) ((w.drew.setCells m.rb (m.off + off + (0 + 1)) (old.drop 0)).setCells m.rb (m.off + off + 0) [.int .i64 x]) ⟨m.rb, m.off + off, m.size⟩ (.cells (.int .i64 x :: (cs.drop off).take n0) false) := by
            refine .cells j1 (by simp [setCells_length, hsz]) (by simp only [List.length_cons, List.length_take, List.length_drop]; omega) ?_ (fun h0 i h1 h2 => hf h0 i (by simp only at h1; omega) h2) hallx
            intro i u hu
            have hlen : i < n0 + 1 := by
              have := (List.getElem?_eq_some_iff.1 hu).1
              simp only [List.length_cons, List.length_take, List.length_drop] at this; omega
            simp only [List.getElem?_toArray, setCells_get, List.toList_toArray, List.drop_zero, Nat.add_zero, Nat.zero_add]
            cases i with
            | zero =>
              simp only [List.getElem?_cons_zero, Option.some.injEq] at hu
              subst hu
              refine ⟨.int .i64 x, ?_, .int _ _⟩
              rw [if_pos (by simp [setCells_length]; omega)]
              simp
            | succ i =>
              simp only [List.getElem?_cons_succ] at hu
              obtain ⟨r, hr, hvr⟩ := hrel.at_ hu
              refine ⟨r, ?_, hvr.mono (Inj.put_sub (hs.dom _ (Nat.le_refl _)) _)⟩
              rw [if_neg (by simp), if_pos (by simp [holen]; omega), ← hr]
              congr 1; omega
          have st0 := St.quiet hs (Quiet.drew w)
          have st := St.moved (m' := ⟨m.rb, m.off + off, m.size⟩) st0.sim hsb rfl hm rfl (by rw [j2, k2]) (fun rb hrb => (j3 rb hrb).trans (k3 rb hrb)) (j4.trans k4) (j5.trans k5) (j6.trans k6) hobj2 rfl
          exact ⟨_, _, rfl, st0.trans st, Old.put _ _ _, VR.loose (m := ⟨m.rb, m.off + off, m.size⟩) 0 1 (n0 + 1) c1 (Inj.put_same _ _ _) ⟨hg, hn.2⟩ (by simpa using hcap)⟩
        · have hcall := Any2.slices_Insert_int_grow L m.rb (m.off + off) n0 c1 0 vm.rb (vm.off + va.off) 1 vc' old [.int .i64 x] w hn0 (by omega) hn.1 (by omega) (by omega) holen rfl hold hvs h1c h1v
          refine callsIn_of hW (hcall.mono fun e w' hr => ?_)
          obtain ⟨rfl, rfl⟩ := hr
          have hge := grownCap_ge w (n0 + 1) c1 (ρ.t 3)
          have hmx := grownCap_le_maxLen w (n0 + 1) c1 (ρ.t 3) (by unfold maxLen; omega)
          unfold maxLen at hmx
          generalize hG : grownCap w (n0 + 1) c1 (ρ.t 3) = G at *
          generalize hR0 : ((old.take 0).toArray ++ Builtin.zeroCells (Value.int .i64 0).cells (n0 + 1 - 0) ++ Builtin.zeroCells (Value.int .i64 0).cells (G - (n0 + 1))) = R0
          have hR0l : R0.size = G := by rw [← hR0]; simp [Builtin.zeroCells, Value.cells]; omega
          have hA : (w.alloc (.cells R0 (ρ.t 3))).drew.heap[w.heap.size]? = some (.cells R0 (ρ.t 3) (0, 0)) := push_new
          obtain ⟨k1, k2, k3, k4, k5, k6⟩ := setCells_world [Value.int .i64 x] hA 0
          have hB : (((w.alloc (.cells R0 (ρ.t 3))).drew.setCells w.heap.size 0 [.int .i64 x]).drew).heap[w.heap.size]? = _ := k1
          obtain ⟨j1, j2, j3, j4, j5, j6⟩ := setCells_world (old.drop 0) hB (0 + 1)
          have hobj2 : ObjR P (ι.put h.length ⟨w.heap.size, 0, G⟩) ((((w.alloc (.cells R0 (ρ.t 3))).drew.setCells w.heap.size 0 [.int .i64 x]).drew).setCells w.heap.size (0 + 1) (old.drop 0)) ⟨w.heap.size, 0, G⟩ (.cells (.int .i64 x :: (cs.drop off).take n0) false) := by
            refine .cells j1 (by simp [setCells_length, hR0l]) (by simp only [List.length_cons, List.length_take, List.length_drop]; omega) ?_ (fun h0 i h1 h2 h3 => by simp at h3) hallx
            intro i u hu
            have hlen : i < n0 + 1 := by
              have := (List.getElem?_eq_some_iff.1 hu).1
              simp only [List.length_cons, List.length_take, List.length_drop] at this; omega
            simp only [List.getElem?_toArray, setCells_get, List.toList_toArray, List.drop_zero, Nat.add_zero, Nat.zero_add]
            cases i with
            | zero =>
              simp only [List.getElem?_cons_zero, Option.some.injEq] at hu
              subst hu
              refine ⟨.int .i64 x, ?_, .int _ _⟩
              rw [if_neg (by simp), if_pos (by simp [hR0l]; omega)]
              simp
            | succ i =>
              simp only [List.getElem?_cons_succ] at hu
              obtain ⟨r, hr, hvr⟩ := hrel.at_ hu
              refine ⟨r, ?_, hvr.mono (Inj.put_sub (hs.dom _ (Nat.le_refl _)) _)⟩
              rw [if_pos (by simp [holen, setCells_length, hR0l]; omega), ← hr]
              congr 1
          obtain ⟨O, hO⟩ : ∃ O, O = Obj.cells (setCells (setCells R0.toList 0 [.int .i64 x]).toArray.toList (0 + 1) (old.drop 0)).toArray (ρ.t 3) (0, 0) := ⟨_, rfl⟩
          generalize hW' : ((((w.alloc (.cells R0 (ρ.t 3))).drew.setCells w.heap.size 0 [.int .i64 x]).drew).setCells w.heap.size (0 + 1) (old.drop 0)) = W' at *
          have hheap : W'.heap = (w.alloc O).heap := by
            apply Array.ext_getElem?
            intro rb
            by_cases e : rb = w.heap.size
            · subst e
              rw [j1, push_new, hO]
            · have h1 := (j3 rb e).trans (k3 rb e)
              rw [h1]
              show (w.heap.push _)[rb]? = (w.heap.push _)[rb]?
              rw [Array.getElem?_push, Array.getElem?_push, if_neg e, if_neg e]
          have hobj3 : ObjR P (ι.put h.length ⟨w.heap.size, 0, G⟩) (w.alloc O) ⟨w.heap.size, 0, G⟩ (.cells (.int .i64 x :: (cs.drop off).take n0) false) := hobj2.world (by rw [hheap])
          have st1 := St.push (P := P) (m := ⟨w.heap.size, 0, G⟩) (o := .cells (.int .i64 x :: (cs.drop off).take n0) false) (O := O) hs rfl (fun _ => hobj3)
          have st2 := St.kill st1.sim b
          have hbl : b < h.length := (List.getElem?_eq_some_iff.1 hsb).1
          rw [List.set_append_left _ _ hbl] at st2
          have st3 := St.same (w' := W') st2.sim hheap (j4.trans k4) (j5.trans k5) (j6.trans k6)
          exact ⟨_, _, rfl, (st1.trans st2).trans st3, Old.put _ _ _, VR.loose (m := ⟨w.heap.size, 0, G⟩) 0 1 (n0 + 1) G (Inj.put_same _ _ _) ⟨by omega, by omega⟩ (by simp)⟩
end Go.L.Try
