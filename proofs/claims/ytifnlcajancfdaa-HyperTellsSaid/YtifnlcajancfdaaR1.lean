/- ARGUMENTS LAID: what a row of the claim reads, as read-only blocks of the logical machine. -/
import Derived.Test.YtifnlcajancfdaaVb
import Derived.Test.YtifnlcajancfdaaSh
import Derived.Deep.Slices
import Derived.SizedLaws
import Derived.ChangeArms
import Derived.ChangeSame
import Derived.RowKit
import Derived.Carry
import Derived.ProofKit
set_option linter.unusedVariables false
set_option linter.unusedSimpArgs false
namespace Go.L
open Go
variable {P : Program} {w : World} {ι : Inj} {h : Aa}
structure Jk (P : Program) (w : World) (ι : Inj) (h : Aa) : Prop where
 sim : Sim P ι h w
 ro : h.all LObj.readOnly = true
def Ot (w : World) : Prop := ∃ (rb : Nat) (arr : Array Value) (t : TypeId) (fz : Nat × Nat), w.heap[rb]? = some (.cells arr t fz)
theorem Auv {a : Addr} {arr : Array Value} {t : TypeId} {fz : Nat × Nat} (hw : w.heap[a.block]? = some (.cells arr t fz)) (hsp : a.spot = none) (k : Nat) : w.cell? (a.add k) = arr[a.off + k]? := by
 unfold Addr.add
 by_cases c : k = 0
 ·subst c; simp [World.cell?, hw, hsp]
 ·simp [World.cell?, hw, c]
theorem Ake {a : Addr} {v : Value} (h : w.cell? a = some v) : a.spot = none ∧ ∃ arr t fz, w.heap[a.block]? = some (.cells arr t fz) := by
 unfold World.cell? at h
 split at h
 ·rename_i c t fz e
  split at h
  ·cases h
  ·rename_i d
   exact ⟨by simpa using d, c, t, fz, e⟩
 ·cases h
theorem Aw2 {sz : Nat} (hz : 0 < sz) {L : List (List Value)} (hs : ∀ e ∈ L, e.length = sz) {j : Nat} {v : Value} (hv : L.flatten[j]? = some v) : ∃ l, L[j / sz]? = some l ∧ l[j % sz]? = some v := by
 have a : L.flatten.length = L.length * sz := by
  clear hv
  induction L with
  | nil => simp
  | cons x r ih => rw [List.flatten_cons, LA, ih fun e g => hs e (by simp [g]), hs x (by simp), List.length_cons, Nat.succ_mul]; omega
 have d := (GI.1 hv).1
 have c : j / sz < L.length := by rw [a] at d; exact Nat.div_lt_of_lt_mul (by rwa [Nat.mul_comm] at d)
 have m : j % sz < sz := Nat.mod_lt _ hz
 have e := Row.flat_get hs (j / sz) (j % sz) c m
 have f : j / sz * sz + j % sz = j := by rw [Nat.mul_comm]; exact Nat.div_add_mod j sz
 rw [f, hv] at e
 refine ⟨L[j / sz], List.getElem?_eq_getElem c, ?_⟩
 have o := hs _ (List.getElem_mem c)
 have n : L.getD (j / sz) [] = L[j / sz] := by rw [List.getD_eq_getElem?_getD, List.getElem?_eq_getElem c]; rfl
 rw [n] at e
 rw [List.getElem?_eq_getElem (by omega), e, List.getD_eq_getElem?_getD, List.getElem?_eq_getElem (by omega)]; rfl
theorem Z0 (hl : Jk P w ι h) {base sz : Nat} {a : Addr} {len cap : Nat} {L : List (List Value)} {R : Nat → List Value} (hz : 0 < sz) (hcap : 0 < cap) (hle : len ≤ cap) (hlen : L.length = len) (hfew : len < 1152921504606846976)
  (hcells : ∀ i, i < cap → w.cells? base (a.add (i * sz)) sz = some (R i)) (hL : ∀ (i : Nat) l, L[i]? = some l → VRs ι l (R i)) (hone : ∀ l ∈ L, l.all Ae = true) :
  ∃ ι', Sub ι ι' ∧ Jk P w ι' (h ++ [.cells L.flatten true]) ∧ VR ι' (.slice (some ⟨h.length, 0, none⟩) len cap) (.slice (some a) len cap) ∧ Row sz (h ++ [.cells L.flatten true]) (.slice (some ⟨h.length, 0, none⟩) len cap) L := by
 have o : ∀ i fo, i < cap → fo < sz → w.cell? (a.add (i * sz + fo)) = (R i)[fo]? := fun i fo hi hf => by
  have h1 := (World.cells?_some (hcells i hi)).2.2 fo hf
  rwa [Go.Deep.add_add] at h1
 have p : ∀ i, i < cap → (R i).length = sz := fun i hi => (World.cells?_some (hcells i hi)).2.1
 have f : ∀ l ∈ L, l.length = sz := fun l hm => by
  obtain ⟨i, hi, rfl⟩ := List.getElem_of_mem hm
  rw [(hL i _ (List.getElem?_eq_getElem hi)).length]; exact p i (by omega)
 have h0 := o 0 0 hcap hz
 rw [List.getElem?_eq_getElem (by rw [p 0 hcap]; exact hz), Nat.zero_mul] at h0
 have s : a.add (0 + 0) = a := by simp [Addr.add]
 rw [s] at h0
 obtain ⟨n, arr, t, fz, hw⟩ := Ake h0
 have g : ∀ k, w.cell? (a.add k) = arr[a.off + k]? := Auv hw n
 have x := D8 f
 let m : Img := ⟨a.block, a.off, arr.size⟩
 have a4 : ∀ k, k < len * sz → a.off + k < arr.size := fun k hk => by
  have hq : k / sz < len := Nat.div_lt_of_lt_mul (by rwa [Nat.mul_comm] at hk)
  have hr : k % sz < sz := Nat.mod_lt _ hz
  have e := o (k / sz) (k % sz) (by omega) hr
  have ej : k / sz * sz + k % sz = k := by rw [Nat.mul_comm]; exact Nat.div_add_mod k sz
  rw [ej, g, List.getElem?_eq_getElem (by rw [p _ (by omega)]; exact hr)] at e
  exact (Array.getElem?_eq_some_iff.1 e).1
 have a5 : a.off < arr.size := by
  have := g 0
  rw [show a.add 0 = a from rfl, h0] at this
  exact (Array.getElem?_eq_some_iff.1 this.symm).1
 have d : a.off + L.flatten.length ≤ arr.size := by
  rw [x, hlen]
  rcases Nat.eq_zero_or_pos (len * sz) with e | e
  ·omega
  ·have := a4 (len * sz - 1) (by omega); omega
 have a0 := Ara hl.sim hl.ro (c := L.flatten) (m := m) (arr := arr) (t := t) (fz := fz) hw rfl d (fun j v u => by
  obtain ⟨l, z, a1⟩ := Aw2 hz f u
  have hq := (GI.1 z).1
  obtain ⟨r, a2, a3⟩ := (hL _ _ z).at_ a1
  refine ⟨r, ?_, a3⟩
  have ej : j / sz * sz + j % sz = j := by rw [Nat.mul_comm]; exact Nat.div_add_mod j sz
  have e := o (j / sz) (j % sz) (by omega) (Nat.mod_lt _ hz)
  rw [ej, g, a2] at e
  exact e) (by rw [List.all_flatten]; simpa using fun l hm v u => by have := List.all_eq_true.1 (hone l hm) v u; exact this)
 have y : Row sz (h ++ [.cells L.flatten true]) (.slice (some ⟨h.length, 0, none⟩) len cap) L :=
  ⟨f, by omega, .inr ⟨h.length, 0, none, cap, L.flatten, true, by rw [hlen], by rw [Bk]; rfl, by omega, by rw [List.drop_zero, ← x, List.take_length], by omega, .inl rfl⟩⟩
 refine ⟨_, Inj.put_sub (hl.sim.dom h.length (Nat.le_refl _)) m, ⟨a0, Ak0 hl.ro _⟩, ?_, y⟩
 have u := VR.slice (ι := ι.put h.length m) (b := h.length) (m := m) 0 len cap (Inj.put_same _ _ _)
 have ea : (⟨m.rb, m.off + 0, none⟩ : Addr) = a := by cases a; simp only at n; subst n; rfl
 rw [ea] at u; exact u
theorem Wc (hl : Jk P w ι h) (hany : Ot w) {sz : Nat} (a : Addr) :
  ∃ ι', Sub ι ι' ∧ Jk P w ι' (h ++ [.cells [] true]) ∧ VR ι' (.slice (some ⟨h.length, 0, none⟩) 0 0) (.slice (some a) 0 0) ∧ Row sz (h ++ [.cells [] true]) (.slice (some ⟨h.length, 0, none⟩) 0 0) [] := by
 obtain ⟨e, arr, t, fz, g⟩ := hany
 let m : Img := ⟨e, 0, arr.size⟩
 have d := Ara hl.sim hl.ro (c := []) (m := m) (arr := arr) (t := t) (fz := fz) g rfl (by simp [m]) (fun i v f => by simp at f) rfl
 exact ⟨_, Inj.put_sub (hl.sim.dom h.length (Nat.le_refl _)) m, ⟨d, Ak0 hl.ro _⟩, VR.slice0 0 a (Inj.put_same _ _ m), by simp, by simp, .inr ⟨h.length, 0, none, 0, [], true, rfl, by rw [Bk]; rfl, by simp, by simp, Nat.le_refl _, .inl rfl⟩⟩
def Few (P : Program) {H : Type} (t : TypeId) (d : DataW H) : Prop := ∀ n ∈ d.weights P t, n ≤ reachBytes
theorem Wu {H : Type} {P : Program} {e : TypeId} : ∀ {l : List (DataW H)} {d : DataW H}, d ∈ l → ∀ n ∈ d.weights P e, n ∈ DataW.weightsAll P e l
 | d0 :: r, d, hd, n, hn => by
  simp only [DataW.weightsAll, List.mem_append]
  rcases List.mem_cons.1 hd with rfl | hd
  ·exact .inl hn
  ·exact .inr (Wu hd n hn)
theorem Tn {H : Type} {enc : TypeId × Value → H} {base : Nat} {held : Bool} {t e : TypeId} {fuel : Nat} {cs : List Value} {x : DataW H × List MemPlace} (ht : P.underlying t = some (.slice e)) (hb : 0 < P.bytesOf e)
  (h : DataW.trod enc P w base (fun _ => true) held fuel t cs = some x) (hf : Few P t x.1) :
  cs = [.slice none 0 0] ∨ ∃ (a : Addr) (len cap : Nat) (R : Nat → List Value), cs = [.slice (some a) len cap] ∧ len ≤ cap ∧ cap < 1152921504606846976 ∧ ∀ i, i < cap → w.cells? base (a.add (i * P.cellsOf e)) (P.cellsOf e) = some (R i) ∧ ∃ n y, DataW.trod enc P w base (fun _ => true) held n e (R i) = some y ∧ (i < len → Few P e y.1) := by
 rcases Go.Deep.open_slice ht h with ⟨v, _⟩ | ⟨a, len, cap, m, n, D, Pl, s, a0, u, hm, j, o, r⟩
 ·exact .inl v
 ·right
  simp only [if_true] at j
  subst j
  subst s
  obtain ⟨R, f⟩ := Go.Deep.choose_lt (α := List Value) (p := fun i c => w.cells? base (a.add (i * P.cellsOf e)) (P.cellsOf e) = some c ∧ DataW.trod enc P w base (fun _ => true) held n e c = some (D i, Pl i)) r
  rw [o] at hf
  simp only [Few, DataW.weights, ht] at hf
  have l := hf _ (List.mem_cons_self)
  simp only [List.length_map, List.length_range] at l
  have h2 : m ≤ (len + (m - len)) * P.bytesOf e := by
   rw [show len + (m - len) = m by omega]; exact Nat.le_mul_of_pos_right _ hb
  have h3 := reachBytes_lt
  refine ⟨a, len, m, R, rfl, u, by omega, fun i g => ⟨(f i g).1, n, _, (f i g).2, fun d k z => ?_⟩⟩
  refine hf k (List.mem_cons_of_mem _ (List.mem_append.2 (.inl (Wu (List.mem_map.2 ⟨i, List.mem_range.2 d, rfl⟩) k z))))
theorem Ag6 {α : Type} [Inhabited α] {sz : Nat} {en : α → List Value} (hl : Jk P w ι h) (hsz : ∀ a, (en a).length = sz) (hone : ∀ a, (en a).all Ae = true) (hself : ∀ (ι : Inj) a, VRs ι (en a) (en a))
  {H : Type} {enc : TypeId × Value → H} {base : Nat} {held : Bool} {t e : TypeId} {fuel : Nat} {cs : List Value} {x : DataW H × List MemPlace} (ht : P.underlying t = some (.slice e)) (hc : P.cellsOf e = sz) (hz : 0 < sz) (hb : 0 < P.bytesOf e)
  (helem : ∀ n cs y, DataW.trod enc P w base (fun _ => true) held n e cs = some y → ∃ a, cs = en a)
  (htr : DataW.trod enc P w base (fun _ => true) held fuel t cs = some x) (hf : Few P t x.1) (hany : ∀ a n c, cs = [.slice (some a) n c] → Ot w) :
  ∃ ι' h' v v' l, cs = [v'] ∧ Sub ι ι' ∧ Jk P w ι' h' ∧ Pre h h' ∧ VR ι' v v' ∧ Rd sz en h' v l := by
 rcases Tn ht hb htr hf with rfl | ⟨a, len, g, R, rfl, s, z, o⟩
 ·exact ⟨ι, h, .slice none 0 0, _, [], rfl, Sub.refl ι, hl, Pre.refl h, .nils 0 0, Rd.of_nil⟩
 ·rw [hc] at o
  rcases Nat.eq_zero_or_pos g with e0 | hpos
  ·obtain rfl : len = 0 := by omega
   subst e0
   obtain ⟨ι', m, h2, u, r⟩ := Wc (sz := sz) hl (hany a 0 0 rfl) a
   exact ⟨ι', _, _, _, [], rfl, m, h2, Pre.app h _, u, r⟩
  ·obtain ⟨A, hA⟩ := Go.Deep.choose_lt (α := α) (n := g) (p := fun i a => R i = en a) fun i f => by
    obtain ⟨_, n, y, hy, _⟩ := o i f
    exact helem n _ y hy
   have d : (((List.range len).map A).map en).length = len := by simp
   obtain ⟨ι', m, h2, u, r⟩ := Z0 (L := ((List.range len).map A).map en) hl hz hpos s d (by omega) (fun i f => (o i f).1) (fun i l f => by
    have j := (GI.1 f).1
    rw [d] at j
    rw [List.getElem?_map, List.getElem?_map, List.getElem?_range j] at f
    simp only [Option.map_some, OI] at f
    subst f
    rw [hA i (by omega)]; exact hself _ _) (fun l hm => by
    obtain ⟨b, _, rfl⟩ := List.mem_map.1 hm
    exact hone b)
   exact ⟨ι', _, _, _, (List.range len).map A, rfl, m, h2, Pre.app h _, u, r⟩
theorem Azm {α : Type} [Inhabited α] {sz : Nat} {hd : α → List Value} {csf : α → List Int} {put : α → List Int → α} (hput : ∀ a l, hd (put a l) = hd a ∧ csf (put a l) = l) (hl : Jk P w ι h) (hsz : ∀ a, (hd a).length + 1 = sz) (hone : ∀ a, (hd a).all Ae = true) (hself : ∀ (ι : Inj) a, VRs ι (hd a) (hd a))
  {H : Type} {enc : TypeId × Value → H} {base : Nat} {held : Bool} {t e q qe : TypeId} {fuel : Nat} {cs : List Value} {x : DataW H × List MemPlace} (ht : P.underlying t = some (.slice e)) (hc : P.cellsOf e = sz) (hb : 0 < P.bytesOf e)
  (hq : P.underlying q = some (.slice qe)) (hqe : P.underlying qe = some (.int .i64)) (hqc : P.cellsOf qe = 1) (hqb : 0 < P.bytesOf qe)
  (helem : ∀ n cs y, DataW.trod enc P w base (fun _ => true) held n e cs = some y → ∃ a v n' y', cs = hd a ++ [v] ∧ DataW.trod enc P w base (fun _ => true) held n' q [v] = some y' ∧ (Few P e y.1 → Few P q y'.1))
  (htr : DataW.trod enc P w base (fun _ => true) held fuel t cs = some x) (hf : Few P t x.1) (hany : ∀ a n c, cs = [.slice (some a) n c] → Ot w) :
  ∃ ι' h' v v' l, cs = [v'] ∧ Sub ι ι' ∧ Jk P w ι' h' ∧ Pre h h' ∧ VR ι' v v' ∧ RdN sz hd csf h' v l := by
 rcases Tn ht hb htr hf with rfl | ⟨a, len, r, R, rfl, a3, a6, hR⟩
 ·exact ⟨ι, h, .slice none 0 0, _, [], rfl, Sub.refl ι, hl, Pre.refl h, .nils 0 0, [], rfl, Rd.of_nil, by simp⟩
 ·have f := hany a len r rfl
  rw [hc] at hR
  have hz : 0 < sz := by have := hsz default; omega
  rcases Nat.eq_zero_or_pos r with e0 | hpos
  ·obtain rfl : len = 0 := by omega
   subst e0
   obtain ⟨ι', h1, h2, h3, h4⟩ := Wc (sz := sz) hl f a
   exact ⟨ι', _, _, _, [], rfl, h1, h2, Pre.app h _, h3, [], rfl, h4, by simp⟩
  ·have a4 : ∀ k, k ≤ len → ∃ (ι' : Inj) (h' : Aa) (g : List (NV α)), g.length = k ∧ Sub ι ι' ∧ Jk P w ι' h' ∧ Pre h h' ∧ ∀ (i : Nat) p, g[i]? = some p → VRs ι' (Ci hd p) (R i) ∧ Rd 1 Cj h' p.v (csf p.j) := by
    intro k
    induction k with
    | zero => intro _; exact ⟨ι, h, [], rfl, Sub.refl ι, hl, Pre.refl h, fun i p d => by simp at d⟩
    | succ k ih =>
     intro hk
     obtain ⟨ι1, h1, g, s, s1, u, p1, m⟩ := ih (by omega)
     obtain ⟨_, n, y, hy, a2⟩ := hR k (by omega)
     obtain ⟨a0, v0, n', y', a5, a1, o⟩ := helem n _ y hy
     obtain ⟨ι2, h2, v, v', l, ev, s2, l2, p2, vr, rd⟩ := Ag6 (en := Cj) u (fun _ => rfl) (fun _ => rfl) (fun ι a => .cons (.int .i64 a) .nil) hq hqc (by decide) hqb (fun n cs y hy => by
      obtain ⟨z, rfl, _⟩ := DataW.trod_int hqe hy
      exact ⟨z, rfl⟩) a1 (o (a2 (by omega))) (fun _ _ _ _ => f)
     simp only [List.cons.injEq, and_true] at ev
     subst ev
     refine ⟨ι2, h2, g ++ [⟨put a0 l, v⟩], by simp [s], s1.trans s2, l2, p1.trans p2, fun i p d => ?_⟩
     rcases Nat.lt_or_ge i g.length with hi | hi
     ·rw [GL hi] at d
      obtain ⟨c1, c2⟩ := m i p d
      exact ⟨All2.mono c1 (fun _ _ hv => VR.mono s2 hv), c2.pre p2⟩
     ·have : i = k := by
       have := (GI.1 d).1
       simp at this; omega
      subst this
      rw [List.getElem?_append_right hi, s, Nat.sub_self] at d
      simp only [List.getElem?_cons_zero, OI] at d
      subst d
      refine ⟨?_, by rw [(hput a0 l).2]; exact rd⟩
      unfold Ci
      rw [a5, (hput a0 l).1]
      exact (hself _ _).append (.cons vr .nil)
   obtain ⟨ι1, h1, g, s, s1, u, p1, m⟩ := a4 len (Nat.le_refl _)
   obtain ⟨ι', g1, g2, g3, g4⟩ := Z0 (L := g.map (Ci hd)) u hz hpos a3 (by simp [s]) (by omega) (fun i hi => (hR i hi).1) (fun i l hi => by
    rw [List.getElem?_map] at hi
    obtain ⟨p, d, rfl⟩ := OM.1 hi
    exact (m i p d).1) (fun l hm => by
    obtain ⟨p, d, rfl⟩ := List.mem_map.1 hm
    obtain ⟨i, hi⟩ := List.getElem?_of_mem d
    unfold Ci
    rw [List.all_append, hone, Bool.true_and]
    simpa using (m i p hi).2.one)
   refine ⟨ι', _, _, _, g.map (·.j), rfl, s1.trans g1, g2, p1.trans (Pre.app _ _), g3, g, rfl, g4, fun p d => ?_⟩
   obtain ⟨i, hi⟩ := List.getElem?_of_mem d
   exact (m i p hi).2.app _
theorem Bs {H : Type} {enc : TypeId × Value → H} {base : Nat} {held : Bool} {e : TypeId} {n : Nat} {cs : List Value} {y : DataW H × List MemPlace} {fs : Array Field} (he : P.underlying e = some (.struct fs)) {i : Nat} {f : Field} (hf : fs[i]? = some f) (ho : f.offset = i) (hc : P.cellsOf f.type = 1) (hu : P.underlying f.type = some (.int .i64)) (hi : i < P.cellsOf e)
  (h : DataW.trod enc P w base (fun _ => true) held n e cs = some y) : ∃ z, cs[i]? = some (.int .i64 z) := by
 obtain ⟨xs, m, _, _, c, j, d⟩ := DataW.trod_struct he h
 have a := d i f hf
 have l := (Array.getElem?_eq_some_iff.1 hf).1
 rw [List.getElem?_eq_getElem (by omega), ho, hc] at a
 obtain ⟨z, g, _⟩ := DataW.trod_int hu a
 refine ⟨z, ?_⟩
 have h2 : ((cs.drop i).take 1)[0]? = some (.int .i64 z) := by rw [g]; rfl
 rw [List.getElem?_take, if_pos (by decide), List.getElem?_drop, Nat.add_zero] at h2
 exact h2
theorem Ah6 {r : Reach} {base : Nat} {u : TypeId} {a : Addr} {n c : Nat} (h : Cell.okWide P w r base u (.slice (some a) n c)) : Ot w := by
 have d : Cell.ok P w r base u (.slice (some a) n c) := by
  unfold Cell.okWide at h
  split at h <;> first | exact h | (rename_i e; cases e) | (rename_i _ e; cases e) | skip
 unfold Cell.ok at d
 split at d <;> first | exact d.elim | skip
 all_goals first | (rename_i e; cases e; done) | (rename_i _ e; cases e; done) | skip
 all_goals
  obtain ⟨_, _, _, _, row, cells, f, _⟩ := d
  unfold World.shape? at f
  split at f
  ·rename_i c t g j; exact ⟨_, c, t, g, j⟩
  ·cases f
theorem Apn (P : Program) (w : World) : Jk P w (Am8 P) (List.replicate P.globals.size .dead) :=
 ⟨Aox w, by rw [List.all_eq_true]; intro o ho; rw [List.eq_of_mem_replicate ho]; rfl⟩
open Go.RowKit Go.ChangeShapes
theorem S5 {H : Type} {enc : TypeId × Value → H} (hl : laidOutB P = true) {W W' : World} (hb : Below W.heap.size W W') : ∀ {ts : List TypeId} {vs : List Value} {ds : List (DataW H)} {ps : List MemPlace}, (∀ t ∈ ts, P.readableRec t = true ∧ t < P.types.size) → DataW.TrodAll enc P W 0 (fun _ => true) true ts vs ds ps → (∀ x ∈ ps, x.block < W.heap.size) → DataW.TrodAll enc P W' 0 (fun b => decide (b < W.heap.size)) true ts vs ds ps
 | [], [], [], ps, _, h, _ => h
 | t :: ts, v :: vs, d :: ds, ps, hr, h, hlt => by
  obtain ⟨p, q, c, h2, rfl⟩ := h
  exact ⟨p, q, Below.trod hl (hr t (by simp)).1 (hr t (by simp)).2 c hb (fun x a => hlt x (by simp [a])), S5 hl hb (fun u e => hr u (by simp [e])) h2 (fun x a => hlt x (by simp [a])), rfl⟩
theorem Awv {E : Env} (hE : Aa8 P E) {f : FuncId} {c : FnC} (hf : E f = .text c) (hlo : laidOutB P = true) {fn : Func} {s : ChangeSpec} (hsv : s.vars = []) {rb : TypeId} (hrt : fn.resultTypes = #[rb]) (hrb : P.underlying rb = some .bool)
  (hread : ∀ t ∈ fn.params.toList, P.readableRec t = true ∧ t < P.types.size) {H : Type} {enc : TypeId × Value → H} {W : World} {args : List Value} {ds gs : List (DataW H)} {before : List MemPlace} {ap : Bool}
  (hres : (s.fn H (ds ++ gs)).results = [.lit (.bool true)]) (harg : (s.fn H (ds ++ gs)).args = ds) (hvar : (s.fn H (ds ++ gs)).vars = [])
  (hW : DataW.Whole enc P fn.params.toList s.vars ap W args ds gs before) {ι : Inj} {h : Aa} {args' : List Value} (hl : Jk P W ι h) (ha : VRs ι args' args)
  (hv : callW E (.func (.func f) #[] #[]) args' h = some (.bool true, h, [])) :
  Calls P f args.toArray W fun e W' => ∃ v, e = .returned v ∧ s.post enc P fn ap true false false W args.toArray v W' := by
 refine (App hE hf hl.ro hv hl.sim ha).mono fun e W' ⟨n, a⟩ => ⟨_, n, ?_⟩
 have l : Below W.heap.size W W' := ⟨a.os, a.tape, a.output, a.size, a.keep⟩
 have j := hW.lt
 have d := hW
 obtain ⟨p, q, o, r, g, _⟩ := hW
 refine ⟨ds, gs, before, [], p, [], d, ?_, ?_, ?_, l.frame _, fun h => nomatch h⟩
 ·rw [hres, hrt]; exact trodAll_mk1 (shut_bool hrb true)
 ·rw [harg]
  exact S5 hlo l hread o fun x m => j x (by rw [g]; exact List.mem_append.2 (.inl m))
 ·rw [hvar, hsv]; rfl
theorem Ahq {H : Type} {ts : List TypeId} {ds : List (DataW H)} (h : (DataW.weightsEach P ts ds).all (· ≤ reachBytes) = true) {j : Nat} {t : TypeId} {d : DataW H} (ht : ts[j]? = some t) (hd : ds[j]? = some d) : Few P t d :=
 fun n hn => by simpa using List.all_eq_true.1 h n (DataW.weights_mem_each ht hd n hn)
theorem Few.part {H : Type} {t : TypeId} {fs : Array Field} (ht : P.underlying t = some (.struct fs)) {ds : List (DataW H)} (h : Few P t (.agg ds)) {j : Nat} {u : TypeId} {d : DataW H} (hu : (fs.toList.map (·.type))[j]? = some u) (hd : ds[j]? = some d) : Few P u d :=
 fun n hn => h n (by simp only [DataW.weights, ht]; exact DataW.weights_mem_each hu hd n hn)
theorem Few.head {H : Type} {t : TypeId} {n : Nat} {cs : List Value} {x : DataW H} (h : Few P t x) : Few P t x := h
end Go.L
