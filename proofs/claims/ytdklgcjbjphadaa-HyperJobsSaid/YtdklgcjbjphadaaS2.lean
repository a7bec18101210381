/- THE LOGICAL MACHINE AND THE MODEL: heaps. -/
import Derived.Test.YtdklgcjbjphadaaS1
set_option linter.unusedVariables false
set_option linter.unusedSimpArgs false
namespace Go.L
open Go
def LObj.wr : LObj → Bool
  | .cells _ ro => !ro
  | .map _ => true
  | .loop _ => true
  | .dead => false
theorem LObj.live_of_wr {o : LObj} (h : o.wr = true) : o ≠ .dead := by rintro rfl; simp [LObj.wr] at h
def jumpOf : Option Nat → Code
  | none => .ret
  | some id => .exit id
section
variable (P : Program)
inductive ObjR (ι : Inj) (w : World) (m : Img) : LObj → Prop
  | cells {c : List Value} {ro : Bool} {arr : Array Value} {t : TypeId} {fz : Nat × Nat} (hw : w.heap[m.rb]? = some (.cells arr t fz)) (hs : arr.size = m.size) (hl : m.off + c.length ≤ m.size)
      (hc : ∀ i v, c[i]? = some v → ∃ r, arr[m.off + i]? = some r ∧ VR ι v r) (hf : ro = false → ∀ i, m.off ≤ i → i < m.size → ¬ (fz.1 ≤ i ∧ i < fz.2)) (ho : c.all oneCell = true) : ObjR ι w m (.cells c ro)
  | map {es : List (Value × Value)} {es' : Array MapEntry} {clock : Nat} (hw : w.heap[m.rb]? = some (.map es' clock))
      (he : All2 (fun e (e' : MapEntry) => e.1 = e'.key ∧ VR ι e.2 e'.val) es es'.toList) : ObjR ι w m (.map es)
  | loop {r : LoopRec} {R : Loop} (hw : w.heap[m.rb]? = some (.loop R)) (hst : R.state = r.state) (hp : R.pending = r.pending.map jumpOf) (hps : R.params.toList = r.params)
      (hfr : FFR ι r.sz (get r.fr) R.tmps) (ha : comp P r.sz R.assign = some (bare r.assign)) (hb : comp P r.sz R.body = some (bare r.body)) : ObjR ι w m (.loop r)
structure Sim (ι : Inj) (h : Heap) (w : World) : Prop where
  dom : ∀ b, h.length ≤ b → ι b = none
  obj : ∀ b o, h[b]? = some o → o ≠ .dead → ∃ m, ι b = some m ∧ ObjR P ι w m o
  glob : ∀ g, g < P.globals.size → ∃ s, ι g = some ⟨g, 0, s⟩
  inj : ∀ b b' o o' m m', h[b]? = some o → h[b']? = some o' → o.wr = true → o' ≠ .dead → ι b = some m → ι b' = some m' → b ≠ b' → m.rb ≠ m'.rb
/-- The blocks that may be written. -/
def Wr (ι : Inj) (h : Heap) (rb : Nat) : Prop := ∃ b o m, h[b]? = some o ∧ o.wr = true ∧ ι b = some m ∧ m.rb = rb
structure St (ι : Inj) (h : Heap) (w : World) (ι' : Inj) (h' : Heap) (w' : World) : Prop where
  sub : Sub ι ι'
  sim : Sim P ι' h' w'
  size : w.heap.size ≤ w'.heap.size
  os : w'.os = w.os
  tape : w'.tape = w.tape
  output : w'.output = w.output
  keep : ∀ rb, rb < w.heap.size → ¬ Wr ι h rb → w'.heap[rb]? = w.heap[rb]?
  new : ∀ rb, Wr ι' h' rb → rb < w.heap.size → Wr ι h rb
end
variable {P : Program} {ι ι' ι₁ ι₂ : Inj} {h h' h₁ h₂ : Heap} {w w' w₁ w₂ : World}
theorem St.refl (hs : Sim P ι h w) : St P ι h w ι h w := ⟨Sub.refl _, hs, Nat.le_refl _, rfl, rfl, rfl, fun _ _ _ => rfl, fun _ h _ => h⟩
theorem St.trans (a : St P ι h w ι₁ h₁ w₁) (b : St P ι₁ h₁ w₁ ι₂ h₂ w₂) : St P ι h w ι₂ h₂ w₂ :=
  ⟨a.sub.trans b.sub, b.sim, Nat.le_trans a.size b.size, b.os.trans a.os, b.tape.trans a.tape, b.output.trans a.output,
   fun rb hl hn => (b.keep rb (Nat.lt_of_lt_of_le hl a.size) fun hw => hn (a.new rb hw hl)).trans (a.keep rb hl hn),
   fun rb hw hl => a.new rb (b.new rb hw (Nat.lt_of_lt_of_le hl a.size)) hl⟩
theorem ObjR.world {m : Img} {o : LObj} (hw : w'.heap[m.rb]? = w.heap[m.rb]?) (h : ObjR P ι w m o) : ObjR P ι w' m o := by
  cases h with
  | cells a b c d e o => exact .cells (hw.trans a) b c d e o
  | map a b => exact .map (hw.trans a) b
  | loop a b c d e f g => exact .loop (hw.trans a) b c d e f g
theorem ObjR.sub {m : Img} {o : LObj} (hs : Sub ι ι') (h : ObjR P ι w m o) : ObjR P ι' w m o := by
  cases h with
  | cells a b c d e o => exact .cells a b c (fun i v hv => let ⟨r, hr, hh⟩ := d i v hv; ⟨r, hr, hh.mono hs⟩) e o
  | map a b => exact .map a (b.mono fun _ _ x => ⟨x.1, x.2.mono hs⟩)
  | loop a b c d e f g => exact .loop a b c d (e.mono hs) f g
theorem ObjR.lt {m : Img} {o : LObj} (h : ObjR P ι w m o) : m.rb < w.heap.size := by
  cases h with
  | cells a => exact (Array.getElem?_eq_some_iff.1 a).1
  | map a => exact (Array.getElem?_eq_some_iff.1 a).1
  | loop a => exact (Array.getElem?_eq_some_iff.1 a).1
theorem Sim.ltw (hs : Sim P ι h w) {b : Nat} {o : LObj} {m : Img} (hb : h[b]? = some o) (ho : o ≠ .dead) (hm : ι b = some m) : m.rb < w.heap.size := by
  obtain ⟨m', hm', hr⟩ := hs.obj b o hb ho
  rw [hm] at hm'; cases hm'; exact hr.lt
theorem Sim.lt (hs : Sim P ι h w) {b : Nat} {m : Img} (hm : ι b = some m) : b < h.length := by
  rcases Nat.lt_or_ge b h.length with hl | hl
  · exact hl
  · rw [hs.dom b hl] at hm; cases hm
theorem push_old {O : Obj} {rb : Nat} (hl : rb < w.heap.size) : (w.alloc O).heap[rb]? = w.heap[rb]? := by
  show (w.heap.push O)[rb]? = _
  rw [Array.getElem?_push, if_neg (Nat.ne_of_lt hl)]
theorem push_new {O : Obj} : (w.alloc O).heap[w.heap.size]? = some O := by
  show (w.heap.push O)[w.heap.size]? = _
  simp
theorem push_size {O : Obj} : (w.alloc O).heap.size = w.heap.size + 1 := by
  show (w.heap.push O).size = _
  simp
/-- Only what lies at no block turns. -/
theorem St.same (hs : Sim P ι h w) (hh : w'.heap = w.heap) (ho : w'.os = w.os) (ht : w'.tape = w.tape) (hp : w'.output = w.output) : St P ι h w ι h w' :=
  ⟨Sub.refl _, ⟨hs.dom, fun b o hb hn => let ⟨m, hm, hr⟩ := hs.obj b o hb hn; ⟨m, hm, hr.world (by rw [hh])⟩, hs.glob, hs.inj⟩, by rw [hh]; exact Nat.le_refl _, ho, ht, hp, fun _ _ _ => by rw [hh], fun _ h _ => h⟩
/-- A block of the model's that the logical heap doesn't have. -/
theorem St.garbage (hs : Sim P ι h w) (O : Obj) : St P ι h w ι h (w.alloc O) :=
  ⟨Sub.refl _, ⟨hs.dom, fun b o hb hn => let ⟨m, hm, hr⟩ := hs.obj b o hb hn; ⟨m, hm, hr.world (push_old hr.lt)⟩, hs.glob, hs.inj⟩,
   by rw [push_size]; omega, rfl, rfl, rfl, fun rb hl _ => push_old hl, fun _ h _ => h⟩
def Inj.put (ι : Inj) (b : Nat) (m : Img) : Inj := fun x => if x = b then some m else ι x
theorem Inj.put_same (ι : Inj) (b : Nat) (m : Img) : ι.put b m b = some m := by simp [Inj.put]
theorem Inj.put_sub {b : Nat} (hb : ι b = none) (m : Img) : Sub ι (ι.put b m) := by
  intro x n hx
  unfold Inj.put
  split
  · rename_i e; subst e; rw [hb] at hx; cases hx
  · exact hx
theorem Inj.put_ne {b x : Nat} (m : Img) (h : x ≠ b) : ι.put b m x = ι x := by simp [Inj.put, h]
/-- A new block: at a place of the logical heap where nothing lives (a new one; or one that was kept free). -/
theorem St.place (hs : Sim P ι h w) {b : Nat} {o : LObj} {O : Obj} {m : Img} (hm : m.rb = w.heap.size) (hb : ι b = none) (hlen : h.length ≤ h'.length) (hbl : b < h'.length)
    (hat : h'[b]? = some o) (hold : ∀ x o', x ≠ b → h'[x]? = some o' → o' ≠ .dead → h[x]? = some o')
    (ho : o ≠ .dead → ObjR P (ι.put b m) (w.alloc O) m o) : St P ι h w (ι.put b m) h' (w.alloc O) := by
  have hsub := Inj.put_sub hb m
  refine ⟨hsub, ⟨fun x hx => ?_, fun x o' hx hn => ?_, fun g hg => let ⟨s, h⟩ := hs.glob g hg; ⟨s, hsub _ _ h⟩, ?_⟩, by rw [push_size]; omega, rfl, rfl, rfl, fun rb hl _ => push_old hl, ?_⟩
  · rw [Inj.put_ne m (by omega)]; exact hs.dom x (by omega)
  · by_cases e : x = b
    · subst e; rw [hat] at hx; cases hx; exact ⟨m, Inj.put_same _ _ _, ho hn⟩
    · obtain ⟨m', hm', hr⟩ := hs.obj x o' (hold x o' e hx hn) hn
      exact ⟨m', hsub _ _ hm', (hr.world (push_old hr.lt)).sub hsub⟩
  · intro x y o1 o2 m1 m2 hx hy hw1 hl2 h1 h2 hne
    by_cases ex : x = b
    · subst ex
      rw [Inj.put_same] at h1; cases h1
      rw [Inj.put_ne m (Ne.symm hne)] at h2
      have := hs.ltw (hold y o2 (Ne.symm hne) hy hl2) hl2 h2
      omega
    · rw [Inj.put_ne m ex] at h1
      have hl1 := LObj.live_of_wr hw1
      have hx' := hold x o1 ex hx hl1
      by_cases ey : y = b
      · subst ey
        rw [Inj.put_same] at h2; cases h2
        have := hs.ltw hx' hl1 h1
        omega
      · rw [Inj.put_ne m ey] at h2
        exact hs.inj x y o1 o2 m1 m2 hx' (hold y o2 ey hy hl2) hw1 hl2 h1 h2 hne
  · rintro rb ⟨x, o', m', hx, hw', hm', rfl⟩ hl
    by_cases e : x = b
    · subst e; rw [Inj.put_same] at hm'; cases hm'; omega
    · rw [Inj.put_ne m e] at hm'
      exact ⟨x, o', m', hold x o' e hx (LObj.live_of_wr hw'), hw', hm', rfl⟩
theorem St.push (hs : Sim P ι h w) {o : LObj} {O : Obj} {m : Img} (hm : m.rb = w.heap.size) (ho : o ≠ .dead → ObjR P (ι.put h.length m) (w.alloc O) m o) :
    St P ι h w (ι.put h.length m) (h ++ [o]) (w.alloc O) :=
  St.place hs hm (hs.dom _ (Nat.le_refl _)) (by simp) (by simp) (by simp) (fun x o' e hx hn => by
    rcases Nat.lt_or_ge x h.length with hl | hl
    · rwa [List.getElem?_append_left hl] at hx
    · rw [List.getElem?_append_right hl, List.getElem?_eq_none (by simp; omega)] at hx; cases hx) ho
/-- A block that may be written is written. -/
theorem St.write (hs : Sim P ι h w) {b : Nat} {o o' : LObj} {m : Img} (hb : h[b]? = some o) (ho : o.wr = true) (hm : ι b = some m)
    (hsz : w'.heap.size = w.heap.size) (hother : ∀ rb, rb ≠ m.rb → w'.heap[rb]? = w.heap[rb]?) (hos : w'.os = w.os) (ht : w'.tape = w.tape) (hp : w'.output = w.output)
    (ho' : o' ≠ .dead → ObjR P ι w' m o') (hro : o'.wr = true ∨ o' = .dead) : St P ι h w ι (h.set b o') w' := by
  have hbl : b < h.length := (List.getElem?_eq_some_iff.1 hb).1
  have hlive := LObj.live_of_wr ho
  refine ⟨Sub.refl _, ⟨fun x hx => hs.dom x (by simpa using hx), fun x ox hx hn => ?_, hs.glob, ?_⟩, by omega, hos, ht, hp, fun rb hl hn => ?_, ?_⟩
  · by_cases e : x = b
    · subst e
      rw [List.getElem?_set_self hbl] at hx; cases hx
      exact ⟨m, hm, ho' hn⟩
    · rw [List.getElem?_set_ne (Ne.symm e)] at hx
      obtain ⟨m', hm', hr⟩ := hs.obj x ox hx hn
      exact ⟨m', hm', hr.world (hother _ (hs.inj b x o ox m m' hb hx ho hn hm hm' (Ne.symm e)).symm)⟩
  · intro x y o1 o2 m1 m2 hx hy hw1 hl2 h1 h2 hne
    have back : ∀ (z : Nat) (oz : LObj), (h.set b o')[z]? = some oz → oz ≠ .dead → ∃ oz' : LObj, h[z]? = some oz' ∧ oz' ≠ .dead ∧ (oz.wr = true → oz'.wr = true) := by
      intro z oz hz hn
      by_cases e : z = b
      · subst e; exact ⟨o, hb, hlive, fun _ => ho⟩
      · rw [List.getElem?_set_ne (Ne.symm e)] at hz; exact ⟨oz, hz, hn, id⟩
    obtain ⟨ox, hx', _, hwx⟩ := back x o1 hx (LObj.live_of_wr hw1)
    obtain ⟨oy, hy', hly, _⟩ := back y o2 hy hl2
    exact hs.inj x y ox oy m1 m2 hx' hy' (hwx hw1) hly h1 h2 hne
  · refine hother rb fun e => hn ⟨b, o, m, hb, ho, hm, e.symm⟩
  · rintro rb ⟨x, ox, m', hx, hwx, hm', rfl⟩ _
    by_cases e : x = b
    · subst e; exact ⟨x, o, m', hb, ho, hm', rfl⟩
    · rw [List.getElem?_set_ne (Ne.symm e)] at hx; exact ⟨x, ox, m', hx, hwx, hm', rfl⟩
/-- A block dies, and its place is another one's, new. -/
theorem St.moved (hs : Sim P ι h w) {b : Nat} {o o' : LObj} {m m' : Img} (hb : h[b]? = some o) (ho : o.wr = true) (hm : ι b = some m) (hrb : m'.rb = m.rb)
    (hsz : w'.heap.size = w.heap.size) (hother : ∀ rb, rb ≠ m.rb → w'.heap[rb]? = w.heap[rb]?) (hos : w'.os = w.os) (ht : w'.tape = w.tape) (hp : w'.output = w.output)
    (ho' : ObjR P (ι.put h.length m') w' m' o') (hw' : o'.wr = true) : St P ι h w (ι.put h.length m') (h.set b .dead ++ [o']) w' := by
  have hbl : b < h.length := (List.getElem?_eq_some_iff.1 hb).1
  have hlive := LObj.live_of_wr ho
  have hnone := hs.dom h.length (Nat.le_refl _)
  have hsub := Inj.put_sub hnone m'
  have old : ∀ x ox, (h.set b LObj.dead ++ [o'])[x]? = some ox → ox ≠ .dead → (x = h.length ∧ ox = o') ∨ (x < h.length ∧ x ≠ b ∧ h[x]? = some ox) := by
    intro x ox hx hn
    rcases Nat.lt_or_ge x h.length with hl | hl
    · rw [List.getElem?_append_left (by simpa using hl)] at hx
      by_cases e : x = b
      · subst e; rw [List.getElem?_set_self hbl] at hx; cases hx; exact absurd rfl hn
      · rw [List.getElem?_set_ne (Ne.symm e)] at hx; exact .inr ⟨hl, e, hx⟩
    · by_cases e : x = h.length
      · subst e; rw [List.getElem?_append_right (by simp)] at hx; simp at hx; exact .inl ⟨rfl, hx.symm⟩
      · rw [List.getElem?_eq_none (by simp; omega)] at hx; cases hx
  refine ⟨hsub, ⟨fun x hx => ?_, fun x ox hx hn => ?_, fun g hg => let ⟨s, h⟩ := hs.glob g hg; ⟨s, hsub _ _ h⟩, ?_⟩, by omega, hos, ht, hp, fun rb hl hn => ?_, ?_⟩
  · simp at hx; rw [Inj.put_ne m' (by omega)]; exact hs.dom x (by omega)
  · rcases old x ox hx hn with ⟨rfl, rfl⟩ | ⟨hl, e, hx'⟩
    · exact ⟨m', Inj.put_same _ _ _, ho'⟩
    · obtain ⟨mx, hmx, hr⟩ := hs.obj x ox hx' hn
      exact ⟨mx, hsub _ _ hmx, (hr.world (hother _ (hs.inj b x o ox m mx hb hx' ho hn hm hmx (Ne.symm e)).symm)).sub hsub⟩
  · intro x y o1 o2 m1 m2 hx hy hw1 hl2 h1 h2 hne
    rcases old x o1 hx (LObj.live_of_wr hw1) with ⟨rfl, rfl⟩ | ⟨hl, e, hx'⟩
    · rcases old y o2 hy hl2 with ⟨rfl, _⟩ | ⟨hl', e', hy'⟩
      · exact absurd rfl hne
      · rw [Inj.put_same] at h1; cases h1
        rw [Inj.put_ne m' (by omega)] at h2
        rw [hrb]
        exact hs.inj b y o o2 m m2 hb hy' ho hl2 hm h2 (Ne.symm e')
    · rw [Inj.put_ne m' (by omega)] at h1
      rcases old y o2 hy hl2 with ⟨rfl, rfl⟩ | ⟨hl', e', hy'⟩
      · rw [Inj.put_same] at h2; cases h2
        rw [hrb]
        exact fun e2 => hs.inj b x o o1 m m1 hb hx' ho (LObj.live_of_wr hw1) hm h1 (Ne.symm e) e2.symm
      · rw [Inj.put_ne m' (by omega)] at h2
        exact hs.inj x y o1 o2 m1 m2 hx' hy' hw1 hl2 h1 h2 hne
  · refine hother rb fun e => hn ⟨b, o, m, hb, ho, hm, e.symm⟩
  · rintro rb ⟨x, ox, mx, hx, hwx, hmx, rfl⟩ _
    rcases old x ox hx (LObj.live_of_wr hwx) with ⟨rfl, rfl⟩ | ⟨hl, e, hx'⟩
    · rw [Inj.put_same] at hmx; cases hmx; exact ⟨b, o, m, hb, ho, hm, hrb.symm⟩
    · rw [Inj.put_ne m' (by omega)] at hmx; exact ⟨x, ox, mx, hx', hwx, hmx, rfl⟩
end Go.L
