/- THE LOGICAL MACHINE: what is written is told; the heap grows. -/
import Derived.Test.YtifnlcajancfdaaW
set_option linter.unusedVariables false
set_option linter.unusedSimpArgs false
namespace Go.L
open Go
structure Keeps (m : Nat) (h h' : Aa) (ws : List Nat) : Prop where
 len : h.length ≤ h'.length
 at_ : ∀ b, b < m → b ∉ ws → h'[b]? = h[b]?
theorem Keeps.refl (m : Nat) (h : Aa) (ws : List Nat) : Keeps m h h ws := ⟨Nat.le_refl _, fun _ _ _ => rfl⟩
theorem Keeps.trans {m : Nat} {h h1 h2 : Aa} {ws ws' : List Nat} (a : Keeps m h h1 ws) (b : Keeps m h1 h2 ws') : Keeps m h h2 (ws ++ ws') :=
 ⟨Nat.le_trans a.len b.len, fun x hx hn => (b.at_ x hx fun hm => hn (List.mem_append_right _ hm)).trans (a.at_ x hx fun hm => hn (List.mem_append_left _ hm))⟩
theorem Keeps.less {m m' : Nat} {h h' : Aa} {ws : List Nat} (a : Keeps m h h' ws) (hm : m' ≤ m) : Keeps m' h h' ws := ⟨a.len, fun b hb hn => a.at_ b (Nat.lt_of_lt_of_le hb hm) hn⟩
theorem Keeps.set {m : Nat} {h : Aa} (b : Nat) (o : LObj) : Keeps m h (h.set b o) [b] :=
 ⟨by simp, fun x _ hn => List.getElem?_set_ne (fun e => hn (by simp [e]))⟩
theorem Keeps.set_high {m : Nat} {h : Aa} {b : Nat} (hb : m ≤ b) (o : LObj) (ws : List Nat) : Keeps m h (h.set b o) ws :=
 ⟨by simp, fun x hx _ => List.getElem?_set_ne (by omega)⟩
theorem Keeps.push {m : Nat} {h : Aa} (hm : m ≤ h.length) (l : List LObj) (ws : List Nat) : Keeps m h (h ++ l) ws :=
 ⟨by simp, fun x hx _ => GL (by omega)⟩
theorem Keeps.mono {m : Nat} {h h' : Aa} {ws ws' : List Nat} (a : Keeps m h h' ws) (hs : ∀ b, b ∈ ws → b ∈ ws') : Keeps m h h' ws' := ⟨a.len, fun b hb hn => a.at_ b hb fun h => hn (hs b h)⟩
def Fa (cf : Ba) : Prop := ∀ g args h v h' ws, cf g args h = some (v, h', ws) → Keeps h.length h h' ws
theorem Yu {m n : Nat} {x v : Value} {h h' : Aa} {ws : List Nat} (hv : G0 n x v h = some (h', ws)) : Keeps m h h' ws := by
 unfold G0 at hv
 split at hv <;> try (cases hv; done)
 split at hv <;> try (cases hv; done)
 split at hv <;> try (cases hv; done)
 simp only [OI, Prod.mk.injEq] at hv
 obtain ⟨rfl, rfl⟩ := hv
 exact Keeps.set _ _
theorem Keeps.set_push {m : Nat} {h : Aa} (hm : m ≤ h.length) (b : Nat) (o : LObj) (l : List LObj) : Keeps m h (h.set b o ++ l) [b] :=
 ⟨by simp, fun x hx hn => by rw [GL (by simp; omega), List.getElem?_set_ne (fun e => hn (by simp [e]))]⟩
theorem Aag {f : FF} {o : O} {h h' : Aa} {v : Value} {ws : List Nat} {m : Nat} (hm : m ≤ h.length) (hv : Nn f h o = some (v, h', ws)) : Keeps m h h' ws := by
 unfold Nn at hv
 split at hv
 ·(repeat' split at hv) <;> try (cases hv; done)
  simp only [OM, Prod.mk.injEq] at hv
  obtain ⟨_, _, _, rfl, rfl⟩ := hv
  exact Keeps.set _ _
 ·unfold Ca at hv
  (repeat' split at hv) <;> (try (cases hv; done)) <;> (simp only [OI, Prod.mk.injEq] at hv; obtain ⟨_, rfl, rfl⟩ := hv) <;>
   first
    | exact Keeps.refl _ _ _
    | exact Keeps.set _ _
    | exact Keeps.push hm _ _
    | exact Keeps.set_push hm _ _ _
 ·unfold Acw at hv
  (repeat' split at hv) <;> (try (cases hv; done)) <;> (simp only [OI, Prod.mk.injEq] at hv; obtain ⟨_, rfl, rfl⟩ := hv) <;>
   first
    | exact Keeps.refl _ _ _
    | exact Keeps.set _ _
 ·unfold Rp at hv
  (repeat' split at hv) <;> (try (cases hv; done)) <;> (simp only [OI, Prod.mk.injEq] at hv; obtain ⟨_, rfl, rfl⟩ := hv) <;>
   first
    | exact Keeps.refl _ _ _
    | exact Keeps.set _ _
 ·(repeat' split at hv) <;> try (cases hv; done)
  simp only [OM, Prod.mk.injEq] at hv
  obtain ⟨_, _, _, rfl, rfl⟩ := hv
  exact Keeps.set _ _
 ·cases hv
theorem Agb {cf : Ba} (hcf : Fa cf) {f : FF} {o : O} {h h' : Aa} {v : Value} {ws : List Nat} (hv : opN cf f h o = some (v, h', ws)) : Keeps h.length h h' ws := by
 unfold opN at hv
 split at hv
 ·split at hv
  ·simp only [OI, Prod.mk.injEq] at hv; obtain ⟨_, rfl, rfl⟩ := hv; exact Keeps.refl _ _ _
  ·cases hv
 ·split at hv
  ·simp only [OI, Prod.mk.injEq] at hv; obtain ⟨_, rfl, rfl⟩ := hv; exact Keeps.refl _ _ _
  ·cases hv
 ·split at hv
  ·simp only [OI, Prod.mk.injEq] at hv; obtain ⟨_, rfl, rfl⟩ := hv; exact Keeps.push (Nat.le_refl _) _ _
  ·cases hv
 ·split at hv
  ·split at hv
   ·rename_i a
    simp only [OI, Prod.mk.injEq] at hv; obtain ⟨_, rfl, rfl⟩ := hv; exact Yu a
   ·cases hv
  ·cases hv
 ·split at hv
  ·exact hcf _ _ _ _ _ _ hv
  ·cases hv
 ·exact Aag (Nat.le_refl _) hv
theorem Vy {cf : Ba} (hcf : Fa cf) : ∀ {ins : List Ins} {f f' : FF} {h h' : Aa} {ws : List Nat}, Fh cf ins f h = some (f', h', ws) → Keeps h.length h h' ws
 | [], f, f', h, h', ws, hv => by simp only [Fh, OI, Prod.mk.injEq] at hv; obtain ⟨_, rfl, rfl⟩ := hv; exact Keeps.refl _ _ _
 | i :: r, f, f', h, h', ws, hv => by
  simp only [Fh] at hv
  split at hv
  ·split at hv
   ·rename_i v g e a
    unfold Qq at hv
    split at hv
    ·rename_i d
     simp only [OI, Prod.mk.injEq] at hv; obtain ⟨rfl, rfl, rfl⟩ := hv
     have c := Agb hcf a
     exact c.trans ((Vy hcf d).less c.len)
    ·cases hv
   ·cases hv
  ·exact Vy hcf hv
  ·cases hv
theorem Zf {cf : Ba} (hcf : Fa cf) {m : Nat} {f : FF} {i : Ins} {h h' : Aa} {v : Value} {ws : List Nat} (hm : m ≤ h.length) (hv : opD cf m f h i = some (v, h', ws)) : Keeps m h h' ws := by
 unfold opD at hv
 split at hv
 ·split at hv
  ·simp only [OI, Prod.mk.injEq] at hv; obtain ⟨_, rfl, rfl⟩ := hv; exact Keeps.refl _ _ _
  ·cases hv
 ·split at hv
  ·cases hv
  ·split at hv
   ·simp only [OI, Prod.mk.injEq] at hv; obtain ⟨_, rfl, rfl⟩ := hv; exact Keeps.refl _ _ _
   ·cases hv
 ·split at hv
  ·simp only [OI, Prod.mk.injEq] at hv; obtain ⟨_, rfl, rfl⟩ := hv; exact Keeps.set_high (by omega) _ _
  ·cases hv
 ·split at hv
  ·split at hv
   ·cases hv
   ·split at hv
    ·rename_i a
     simp only [OI, Prod.mk.injEq] at hv; obtain ⟨_, rfl, rfl⟩ := hv; exact Yu a
    ·cases hv
  ·cases hv
 ·split at hv
  ·split at hv
   ·rename_i a
    split at hv
    ·cases hv
    ·simp only [OI, Prod.mk.injEq] at hv; obtain ⟨_, rfl, rfl⟩ := hv; exact (hcf _ _ _ _ _ _ a).less hm
   ·cases hv
  ·cases hv
 ·split at hv
  ·rename_i a
   split at hv
   ·cases hv
   ·simp only [OI, Prod.mk.injEq] at hv; obtain ⟨_, rfl, rfl⟩ := hv; exact Aag hm a
  ·cases hv
theorem V0 {cf : Ba} (hcf : Fa cf) {m : Nat} : ∀ {ins : List Ins} {f f' : FF} {h h' : Aa} {ws : List Nat}, m ≤ h.length → Dm cf m ins f h = some (f', h', ws) → Keeps m h h' ws
 | [], f, f', h, h', ws, hm, hv => by simp only [Dm, OI, Prod.mk.injEq] at hv; obtain ⟨_, rfl, rfl⟩ := hv; exact Keeps.refl _ _ _
 | i :: r, f, f', h, h', ws, hm, hv => by
  simp only [Dm] at hv
  split at hv
  ·split at hv
   ·rename_i v g e a
    unfold Qq at hv
    split at hv
    ·rename_i d
     simp only [OI, Prod.mk.injEq] at hv; obtain ⟨rfl, rfl, rfl⟩ := hv
     have c := Zf hcf hm a
     exact c.trans (V0 hcf (Nat.le_trans hm c.len) d)
    ·cases hv
   ·cases hv
  ·exact V0 hcf hm hv
  ·cases hv
theorem Ao8 (h : Aa) (n : Nat) : Keeps h.length h (room h n) [] := by
 cases n with
 | zero => exact Keeps.refl _ _ _
 | succ n => exact Keeps.push (Nat.le_refl _) _ _
theorem X9 {h0 h h' : Aa} {v v' : Value} {ws ws' : List Nat} (hk : Keeps h0.length h0 h ws) (hv : gc h0 v h ws = some (v', h', ws')) : Keeps h0.length h0 h' ws' := by
 unfold gc at hv
 split at hv
 ·rename_i f
  have d : ∀ b, b < h0.length → b ∉ ws := by
   intro b a g
   have : b ∈ ws.filter (fun b => decide (b < h0.length)) := List.mem_filter.2 ⟨g, by simpa using a⟩
   rw [f] at this; cases this
  split at hv
  ·simp only [OI, Prod.mk.injEq] at hv; obtain ⟨_, rfl, rfl⟩ := hv; exact Keeps.refl _ _ _
  ·unfold Va at hv
   simp only at hv
   split at hv
   ·simp only [OI, Prod.mk.injEq] at hv; obtain ⟨_, rfl, rfl⟩ := hv; exact Keeps.push (Nat.le_refl _) _ _
   ·simp only [OI, Prod.mk.injEq] at hv; obtain ⟨_, rfl, rfl⟩ := hv
    exact ⟨hk.len, fun b a _ => hk.at_ b a (d b a)⟩
 ·rename_i w r f
  have c : ∀ b, b < h0.length → b ∉ w :: r → b ∉ ws := by
   intro b a e g
   have : b ∈ ws.filter (fun b => decide (b < h0.length)) := List.mem_filter.2 ⟨g, by simpa using a⟩
   rw [f] at this; exact e this
  split at hv
  ·simp only [OI, Prod.mk.injEq] at hv; obtain ⟨_, rfl, rfl⟩ := hv
   refine ⟨by have := hk.len; simp; omega, fun b a e => ?_⟩
   rw [List.getElem?_take_of_lt a]
   exact hk.at_ b a (c b a e)
  ·simp only [OI, Prod.mk.injEq] at hv; obtain ⟨_, rfl, rfl⟩ := hv
   exact ⟨hk.len, fun b a e => hk.at_ b a (c b a e)⟩
def Mt (K : Fr → Aa → Out) : Prop := ∀ fr h e fr' h' ws, K fr h = some (e, fr', h', ws) → Keeps h.length h h' ws
theorem Yl {x : Out} {k : Fr → Aa → Out} {h : Aa} (hx : ∀ e fr' h' ws, x = some (e, fr', h', ws) → Keeps h.length h h' ws) (hk : Mt k) : ∀ e fr' h' ws, F4 x k = some (e, fr', h', ws) → Keeps h.length h h' ws := by
 intro e fr' h' ws a
 unfold F4 at a
 split at a
 ·rename_i d j g
  split at a
  ·rename_i f
   simp only [OI, Prod.mk.injEq] at a; obtain ⟨_, _, rfl, rfl⟩ := a
   have c := hx _ _ _ _ rfl
   exact c.trans ((hk _ _ _ _ _ _ f).less c.len)
  ·cases a
 ·exact hx _ _ _ _ a
theorem Fu {K : Fr → Aa → Out} (hK : Mt K) : ∀ n, Mt (G4 n K)
 | 0 => fun fr h e a h' d c => by simp [G4] at c
 | n + 1 => fun fr h => Yl (fun e a h' d c => hK _ _ _ _ _ _ c) (Fu hK n)
theorem Ahk {cf : Ba} (hcf : Fa cf) : Fa (Jb cf) := by
 intro g c h v h' d a
 unfold Jb at a
 split at a
 ·exact hcf _ _ _ _ _ _ a
 ·cases a
theorem B4 {cf : Ba} {it : It} (hcf : Fa cf) (hit : ∀ K, Mt K → Mt (it K)) (sz : Nat) : ∀ c, Mt (code cf it sz c)
 | .skip => fun fr h e f h' j d => by simp only [code, OI, Prod.mk.injEq] at d; obtain ⟨_, _, rfl, rfl⟩ := d; exact Keeps.refl _ _ _
 | .reg live ins => fun fr h e f h' j d => by
  simp only [code, Tl] at d
  split at d
  ·rename_i l; simp only [OI, Prod.mk.injEq] at d; obtain ⟨_, _, rfl, rfl⟩ := d; exact Vy hcf l
  ·cases d
 | .drw live n ins => fun fr h e f h' j d => by
  simp only [code, Tl] at d
  split at d
  ·rename_i l; simp only [OI, Prod.mk.injEq] at d; obtain ⟨_, _, rfl, rfl⟩ := d
   have o := Ao8 h n
   simpa using o.trans (V0 hcf o.len l)
  ·cases d
 | .seq x y => fun fr h => Yl (fun e f h' j d => B4 hcf hit sz x _ _ _ _ _ _ d) (B4 hcf hit sz y)
 | .cond v x y => fun fr h e f h' j d => by
  simp only [code, U9] at d
  split at d
  ·split at d
   ·exact B4 hcf hit sz x _ _ _ _ _ _ d
   ·exact B4 hcf hit sz y _ _ _ _ _ _ d
  ·cases d
 | .block id b => fun fr h e f h' j d => by
  simp only [code, inBlock] at d
  split at d
  ·rename_i l
   split at d <;> (simp only [OI, Prod.mk.injEq] at d; obtain ⟨_, _, rfl, rfl⟩ := d; exact B4 hcf hit sz b _ _ _ _ _ _ l)
  ·exact B4 hcf hit sz b _ _ _ _ _ _ d
 | .loop b => fun fr h e f h' j d => hit _ (B4 hcf hit sz b) _ _ _ _ _ _ d
 | .exit id => fun fr h e f h' j d => by simp only [code, OI, Prod.mk.injEq] at d; obtain ⟨_, _, rfl, rfl⟩ := d; exact Keeps.refl _ _ _
 | .ret => fun fr h e f h' j d => by simp only [code, OI, Prod.mk.injEq] at d; obtain ⟨_, _, rfl, rfl⟩ := d; exact Keeps.refl _ _ _
 | .rng g ps a b => fun fr h e f h' j d => by
  simp only [code, Fi] at d
  split at d
  ·rename_i v p m hc
   split at d
   ·rename_i r l
    split at d
    ·cases d
    ·split at d
     ·rename_i v2 h2 t z
      have k1 : Keeps h.length h p m := by
       have o := Keeps.push (Nat.le_refl h.length) [LObj.loop { state := .ready, pending := none, fr, sz, params := ps, assign := a, body := b }] []
       have := o.trans ((Ahk hcf _ _ _ _ _ _ hc).less (by simp))
       simpa using this
      have u : Keeps h.length h (p.set h.length .dead) m := by simpa using k1.trans (Keeps.set_high (Nat.le_refl _) LObj.dead [])
      have s := X9 u z
      split at d <;> (simp only [OI, Prod.mk.injEq] at d; obtain ⟨_, _, rfl, rfl⟩ := d; exact s)
     ·cases d
   ·cases d
  ·cases d
theorem At9 {res : List R} {h0 : Aa} {x : Out} (hx : ∀ e fr' h' ws, x = some (e, fr', h', ws) → Keeps h0.length h0 h' ws) {v : Value} {h' : Aa} {ws : List Nat} (hv : fin res h0 x = some (v, h', ws)) : Keeps h0.length h0 h' ws := by
 unfold fin at hv
 split at hv
 ·cases hv
 ·split at hv
  ·exact X9 (hx _ _ _ _ rfl) hv
  ·cases hv
 ·cases hv
theorem Apx {res : List R} {h0 : Aa} {x : Out} (hx : ∀ e fr' h' ws, x = some (e, fr', h', ws) → Keeps h0.length h0 h' ws) {v : Value} {h' : Aa} {ws : List Nat} (hv : Xy res x = some (v, h', ws)) : Keeps h0.length h0 h' ws := by
 unfold Xy at hv
 split at hv
 ·cases hv
 ·split at hv
  ·simp only [OI, Prod.mk.injEq] at hv
   obtain ⟨_, rfl, rfl⟩ := hv
   exact hx _ _ _ _ rfl
  ·cases hv
 ·cases hv
def Oq (E : Env) : Prop := ∀ f e, E f = .ext e → ∀ args h v h' ws, e args h = some (v, h', ws) → Keeps h.length h h' ws
theorem Akf {cf : Ba} {it : It} (hcf : Fa cf) (hit : ∀ K, Mt K → Mt (it K)) {d : Def} (hd : ∀ e, d = .ext e → ∀ args h v h' ws, e args h = some (v, h', ws) → Keeps h.length h h' ws) {args : List Value} {h : Aa} {v : Value} {h' : Aa} {ws : List Nat}
  (hv : F0 cf it d args h = some (v, h', ws)) : Keeps h.length h h' ws := by
 unfold F0 at hv
 split at hv
 ·exact hd _ rfl _ _ _ _ _ hv
 ·split at hv
  ·exact At9 (fun e a h' ws c => B4 hcf hit _ _ _ _ _ _ _ _ c) hv
  ·cases hv
 ·split at hv
  ·exact Apx (fun e a h' ws c => B4 hcf hit _ _ _ _ _ _ _ _ c) hv
  ·cases hv
 ·cases hv
theorem Ai8 {cf : Ba} {it : It} (hcf : Fa cf) (hit : ∀ K, Mt K → Mt (it K)) {l : Nat} {args : List Value} {h : Aa} {v : Value} {h' : Aa} {ws : List Nat} (hv : Ie cf it l args h = some (v, h', ws)) : Keeps h.length h h' ws := by
 unfold Ie at hv
 split at hv <;> try (cases hv; done)
 rename_i r y
 split at hv <;> try (cases hv; done)
 split at hv <;> try (cases hv; done)
 split at hv <;> try (cases hv; done)
 split at hv <;> try (cases hv; done)
 rename_i u h1 m n
 split at hv <;> try (cases hv; done)
 rename_i e z h2 g j
 split at hv <;> try (cases hv; done)
 rename_i p
 have c := B4 hcf hit _ _ _ _ _ _ _ _ n
 have d := B4 hcf hit _ _ _ _ _ _ _ _ j
 simp only [List.length_set] at d
 have x : Keeps h.length h (h2.set l (.loop r)) (m ++ g) := by
  refine ⟨by have := c.len; have := d.len; simp only [List.length_set] at *; omega, fun b a o => ?_⟩
  by_cases e : b = l
  ·subst e
   rw [List.getElem?_set_self (by have := c.len; have := d.len; simp only [List.length_set] at *; omega), y]
  ·rw [List.getElem?_set_ne (Ne.symm e), d.at_ b (Nat.lt_of_lt_of_le a c.len) (fun f => o (List.mem_append_right _ f)), List.getElem?_set_ne (Ne.symm e), c.at_ b a (fun f => o (List.mem_append_left _ f))]
 unfold Q7 at hv
 split at hv <;> try (cases hv; done)
 rename_i v3 h3 t hg
 have s := X9 x hg
 split at hv
 ·simp only [OI, Prod.mk.injEq] at hv; obtain ⟨_, rfl, rfl⟩ := hv; exact s
 ·simp only [OI, Prod.mk.injEq] at hv; obtain ⟨_, rfl, rfl⟩ := hv
  exact (s.trans (Keeps.set _ _)).mono (fun b a => by
   rcases List.mem_append.1 a with h | h
   ·exact List.mem_cons_of_mem _ h
   ·rw [List.mem_singleton.1 h]; exact List.mem_cons_self)
theorem Pf {E : Env} (hE : Oq E) : ∀ n, Fa (Dr E n)
 | 0 => fun g c h v h' j a => by simp [Dr] at a
 | n + 1 => fun g c h v h' j a => by
  simp only [Dr, Js] at a
  split at a
  ·rename_i f _ _
   exact Akf (Pf hE n) (fun K d => Fu d n) (fun e l => hE f e l) a
  ·split at a
   ·exact Ai8 (Pf hE n) (fun K d => Fu d n) a
   ·cases a
  ·cases a
end Go.L
