/- THE LOGICAL MACHINE: what is written is told; the heap grows. -/
import Derived.Test.YtnanlkamcgihlaaDoorW
set_option linter.unusedVariables false
set_option linter.unusedSimpArgs false
namespace Go.L
open Go
structure Keeps (m:Nat) (h h':Aa) (ws:List Nat):Prop where
 len:h.length ≤ h'.length
 at_:∀ b,b < m → b ∉ ws → h'[b]? = h[b]?
theorem Keeps.refl (m:Nat) (h:Aa) (ws:List Nat):Keeps m h h ws:=⟨Nat.le_refl _,fun _ _ _ => rfl⟩
theorem Keeps.trans {m:Nat} {h h1 h2:Aa} {ws ws':List Nat} (a:Keeps m h h1 ws) (b:Keeps m h1 h2 ws'):Keeps m h h2 (ws ++ ws') :=
 ⟨Nat.le_trans a.len b.len,fun x hx hn => (b.at_ x hx fun hm => hn (List.mem_append_right _ hm)).trans (a.at_ x hx fun hm => hn (List.mem_append_left _ hm))⟩
theorem Keeps.less {m m':Nat} {h h':Aa} {ws:List Nat} (a:Keeps m h h' ws) (hm:m' ≤ m):Keeps m' h h' ws:=⟨a.len,fun b hb hn => a.at_ b (Nat.lt_of_lt_of_le hb hm) hn⟩
theorem Keeps.set {m:Nat} {h:Aa} (b:Nat) (o:LObj):Keeps m h (h.set b o) [b] :=
 ⟨by simp,fun x _ hn => List.getElem?_set_ne (fun e => hn (by simp [e]))⟩
theorem Keeps.set_high {m:Nat} {h:Aa} {b:Nat} (hb:m ≤ b) (o:LObj) (ws:List Nat):Keeps m h (h.set b o) ws :=
 ⟨by simp,fun x hx _ => List.getElem?_set_ne (by omega)⟩
theorem Keeps.push {m:Nat} {h:Aa} (hm:m ≤ h.length) (l:List LObj) (ws:List Nat):Keeps m h (h ++ l) ws :=
 ⟨by simp,fun x hx _ => GL (by omega)⟩
theorem Keeps.mono {m:Nat} {h h':Aa} {ws ws':List Nat} (a:Keeps m h h' ws) (hs:∀ b,b ∈ ws → b ∈ ws'):Keeps m h h' ws':=⟨a.len,fun b hb hn => a.at_ b hb fun h => hn (hs b h)⟩
def Np (cf:A0):Prop:=∀ g args h v h' ws,cf g args h = some (v,h',ws) → Keeps h.length h h' ws
theorem Zd {m n:Nat} {x v:Value} {h h':Aa} {ws:List Nat} (hv:Fk n x v h = some (h',ws)):Keeps m h h' ws:=by
 unfold Fk at hv
 split at hv <;> try (cases hv;done)
 split at hv <;> try (cases hv;done)
 split at hv <;> try (cases hv;done)
 simp only [OI,Prod.mk.injEq] at hv
 obtain ⟨rfl,rfl⟩:=hv
 exact Keeps.set _ _
theorem Keeps.set_push {m:Nat} {h:Aa} (hm:m ≤ h.length) (b:Nat) (o:LObj) (l:List LObj):Keeps m h (h.set b o ++ l) [b] :=
 ⟨by simp,fun x hx hn => by rw [GL (by simp;omega),List.getElem?_set_ne (fun e => hn (by simp [e]))]⟩
theorem Aax {f:FF} {o:O} {h h':Aa} {v:Value} {ws:List Nat} {m:Nat} (hm:m ≤ h.length) (hv:Mg f h o = some (v,h',ws)):Keeps m h h' ws:=by
 unfold Mg at hv
 split at hv
 ·(repeat' split at hv) <;> try (cases hv;done)
  simp only [OM,Prod.mk.injEq] at hv
  obtain ⟨_,_,_,rfl,rfl⟩:=hv
  exact Keeps.set _ _
 ·unfold B9 at hv
  (repeat' split at hv) <;> (try (cases hv;done)) <;> (simp only [OI,Prod.mk.injEq] at hv;obtain ⟨_,rfl,rfl⟩:=hv) <;>
   first
    | exact Keeps.refl _ _ _
    | exact Keeps.set _ _
    | exact Keeps.push hm _ _
    | exact Keeps.set_push hm _ _ _
 ·unfold V0 at hv
  (repeat' split at hv) <;> (try (cases hv;done)) <;> (simp only [OI,Prod.mk.injEq] at hv;obtain ⟨_,rfl,rfl⟩:=hv) <;>
   first
    | exact Keeps.refl _ _ _
    | exact Keeps.set _ _
 ·unfold M3 at hv
  (repeat' split at hv) <;> (try (cases hv;done)) <;> (simp only [OI,Prod.mk.injEq] at hv;obtain ⟨_,rfl,rfl⟩:=hv) <;>
   first
    | exact Keeps.refl _ _ _
    | exact Keeps.set _ _
 ·(repeat' split at hv) <;> try (cases hv;done)
  simp only [OM,Prod.mk.injEq] at hv
  obtain ⟨_,_,_,rfl,rfl⟩:=hv
  exact Keeps.set _ _
 ·cases hv
theorem Agv {cf:A0} (hcf:Np cf) {f:FF} {o:O} {h h':Aa} {v:Value} {ws:List Nat} (hv:opN cf f h o = some (v,h',ws)):Keeps h.length h h' ws:=by
 unfold opN at hv
 split at hv
 ·split at hv
  ·simp only [OI,Prod.mk.injEq] at hv;obtain ⟨_,rfl,rfl⟩:=hv;exact Keeps.refl _ _ _
  ·cases hv
 ·split at hv
  ·simp only [OI,Prod.mk.injEq] at hv;obtain ⟨_,rfl,rfl⟩:=hv;exact Keeps.refl _ _ _
  ·cases hv
 ·split at hv
  ·simp only [OI,Prod.mk.injEq] at hv;obtain ⟨_,rfl,rfl⟩:=hv;exact Keeps.push (Nat.le_refl _) _ _
  ·cases hv
 ·split at hv
  ·split at hv
   ·rename_i a
    simp only [OI,Prod.mk.injEq] at hv;obtain ⟨_,rfl,rfl⟩:=hv;exact Zd a
   ·cases hv
  ·cases hv
 ·split at hv
  ·exact hcf _ _ _ _ _ _ hv
  ·cases hv
 ·exact Aax (Nat.le_refl _) hv
theorem Wm {cf:A0} (hcf:Np cf):∀ {ins:List Ins} {f f':FF} {h h':Aa} {ws:List Nat},Ey cf ins f h = some (f',h',ws) → Keeps h.length h h' ws
 | [],f,f',h,h',ws,hv => by simp only [Ey,OI,Prod.mk.injEq] at hv;obtain ⟨_,rfl,rfl⟩:=hv;exact Keeps.refl _ _ _
 | i :: r,f,f',h,h',ws,hv => by
  simp only [Ey] at hv
  split at hv
  ·split at hv
   ·rename_i v g d a
    unfold addw at hv
    split at hv
    ·rename_i e
     simp only [OI,Prod.mk.injEq] at hv;obtain ⟨rfl,rfl,rfl⟩:=hv
     have c:=Agv hcf a
     exact c.trans ((Wm hcf e).less c.len)
    ·cases hv
   ·cases hv
  ·exact Wm hcf hv
  ·cases hv
theorem Zx {cf:A0} (hcf:Np cf) {m:Nat} {f:FF} {i:Ins} {h h':Aa} {v:Value} {ws:List Nat} (hm:m ≤ h.length) (hv:opD cf m f h i = some (v,h',ws)):Keeps m h h' ws:=by
 unfold opD at hv
 split at hv
 ·split at hv
  ·simp only [OI,Prod.mk.injEq] at hv;obtain ⟨_,rfl,rfl⟩:=hv;exact Keeps.refl _ _ _
  ·cases hv
 ·split at hv
  ·cases hv
  ·split at hv
   ·simp only [OI,Prod.mk.injEq] at hv;obtain ⟨_,rfl,rfl⟩:=hv;exact Keeps.refl _ _ _
   ·cases hv
 ·split at hv
  ·simp only [OI,Prod.mk.injEq] at hv;obtain ⟨_,rfl,rfl⟩:=hv;exact Keeps.set_high (by omega) _ _
  ·cases hv
 ·split at hv
  ·split at hv
   ·cases hv
   ·split at hv
    ·rename_i a
     simp only [OI,Prod.mk.injEq] at hv;obtain ⟨_,rfl,rfl⟩:=hv;exact Zd a
    ·cases hv
  ·cases hv
 ·split at hv
  ·split at hv
   ·rename_i a
    split at hv
    ·cases hv
    ·simp only [OI,Prod.mk.injEq] at hv;obtain ⟨_,rfl,rfl⟩:=hv;exact (hcf _ _ _ _ _ _ a).less hm
   ·cases hv
  ·cases hv
 ·split at hv
  ·rename_i a
   split at hv
   ·cases hv
   ·simp only [OI,Prod.mk.injEq] at hv;obtain ⟨_,rfl,rfl⟩:=hv;exact Aax hm a
  ·cases hv
theorem Wp {cf:A0} (hcf:Np cf) {m:Nat}:∀ {ins:List Ins} {f f':FF} {h h':Aa} {ws:List Nat},m ≤ h.length → Dh cf m ins f h = some (f',h',ws) → Keeps m h h' ws
 | [],f,f',h,h',ws,hm,hv => by simp only [Dh,OI,Prod.mk.injEq] at hv;obtain ⟨_,rfl,rfl⟩:=hv;exact Keeps.refl _ _ _
 | i :: r,f,f',h,h',ws,hm,hv => by
  simp only [Dh] at hv
  split at hv
  ·split at hv
   ·rename_i v g d a
    unfold addw at hv
    split at hv
    ·rename_i e
     simp only [OI,Prod.mk.injEq] at hv;obtain ⟨rfl,rfl,rfl⟩:=hv
     have c:=Zx hcf hm a
     exact c.trans (Wp hcf (Nat.le_trans hm c.len) e)
    ·cases hv
   ·cases hv
  ·exact Wp hcf hm hv
  ·cases hv
theorem Apw (h:Aa) (n:Nat):Keeps h.length h (room h n) []:=by
 cases n with
 | zero => exact Keeps.refl _ _ _
 | succ n => exact Keeps.push (Nat.le_refl _) _ _
theorem Yr {h0 h h':Aa} {v v':Value} {ws ws':List Nat} (hk:Keeps h0.length h0 h ws) (hv:gc h0 v h ws = some (v',h',ws')):Keeps h0.length h0 h' ws':=by
 unfold gc at hv
 split at hv
 ·rename_i f
  have d:∀ b,b < h0.length → b ∉ ws:=by
   intro b a g
   have:b ∈ ws.filter (fun b => decide (b < h0.length)):=List.mem_filter.2 ⟨g,by simpa using a⟩
   rw [f] at this;cases this
  split at hv
  ·simp only [OI,Prod.mk.injEq] at hv;obtain ⟨_,rfl,rfl⟩:=hv;exact Keeps.refl _ _ _
  ·unfold Tb at hv
   simp only at hv
   split at hv
   ·simp only [OI,Prod.mk.injEq] at hv;obtain ⟨_,rfl,rfl⟩:=hv;exact Keeps.push (Nat.le_refl _) _ _
   ·simp only [OI,Prod.mk.injEq] at hv;obtain ⟨_,rfl,rfl⟩:=hv
    exact ⟨hk.len,fun b a _ => hk.at_ b a (d b a)⟩
 ·rename_i w r f
  have c:∀ b,b < h0.length → b ∉ w :: r → b ∉ ws:=by
   intro b a e g
   have:b ∈ ws.filter (fun b => decide (b < h0.length)):=List.mem_filter.2 ⟨g,by simpa using a⟩
   rw [f] at this;exact e this
  split at hv
  ·simp only [OI,Prod.mk.injEq] at hv;obtain ⟨_,rfl,rfl⟩:=hv
   refine ⟨by have:=hk.len;simp;omega,fun b a e => ?_⟩
   rw [List.getElem?_take_of_lt a]
   exact hk.at_ b a (c b a e)
  ·simp only [OI,Prod.mk.injEq] at hv;obtain ⟨_,rfl,rfl⟩:=hv
   exact ⟨hk.len,fun b a e => hk.at_ b a (c b a e)⟩
def Nn (K:Fr → Aa → Out):Prop:=∀ fr h e fr' h' ws,K fr h = some (e,fr',h',ws) → Keeps h.length h h' ws
theorem Y4 {x:Out} {k:Fr → Aa → Out} {h:Aa} (hx:∀ e fr' h' ws,x = some (e,fr',h',ws) → Keeps h.length h h' ws) (hk:Nn k):∀ e fr' h' ws,Ew x k = some (e,fr',h',ws) → Keeps h.length h h' ws:=by
 intro e fr' h' ws a
 unfold Ew at a
 split at a
 ·rename_i f j d
  split at a
  ·rename_i g
   simp only [OI,Prod.mk.injEq] at a;obtain ⟨_,_,rfl,rfl⟩:=a
   have c:=hx _ _ _ _ rfl
   exact c.trans ((hk _ _ _ _ _ _ g).less c.len)
  ·cases a
 ·exact hx _ _ _ _ a
theorem F6 {K:Fr → Aa → Out} (hK:Nn K):∀ n,Nn (Gt n K)
 | 0 => fun fr h e c h' d a => by simp [Gt] at a
 | n + 1 => fun fr h => Y4 (fun e c h' d a => hK _ _ _ _ _ _ a) (F6 hK n)
theorem Ah7 {cf:A0} (hcf:Np cf):Np (Ie cf):=by
 intro g c h v h' d a
 unfold Ie at a
 split at a
 ·exact hcf _ _ _ _ _ _ a
 ·cases a
theorem B5 {cf:A0} {it:It} (hcf:Np cf) (hit:∀ K,Nn K → Nn (it K)) (sz:Nat):∀ c,Nn (code cf it sz c)
 | .skip => fun fr h e f h' j d => by simp only [code,OI,Prod.mk.injEq] at d;obtain ⟨_,_,rfl,rfl⟩:=d;exact Keeps.refl _ _ _
 | .reg live ins => fun fr h e f h' j d => by
  simp only [code,Qy] at d
  split at d
  ·rename_i l;simp only [OI,Prod.mk.injEq] at d;obtain ⟨_,_,rfl,rfl⟩:=d;exact Wm hcf l
  ·cases d
 | .drw live n ins => fun fr h e f h' j d => by
  simp only [code,Qy] at d
  split at d
  ·rename_i l;simp only [OI,Prod.mk.injEq] at d;obtain ⟨_,_,rfl,rfl⟩:=d
   have o:=Apw h n
   simpa using o.trans (Wp hcf o.len l)
  ·cases d
 | .seq x y => fun fr h => Y4 (fun e f h' j d => B5 hcf hit sz x _ _ _ _ _ _ d) (B5 hcf hit sz y)
 | .cond v x y => fun fr h e f h' j d => by
  simp only [code,Tv] at d
  split at d
  ·split at d
   ·exact B5 hcf hit sz x _ _ _ _ _ _ d
   ·exact B5 hcf hit sz y _ _ _ _ _ _ d
  ·cases d
 | .block id b => fun fr h e f h' j d => by
  simp only [code,inBlock] at d
  split at d
  ·rename_i l
   split at d <;> (simp only [OI,Prod.mk.injEq] at d;obtain ⟨_,_,rfl,rfl⟩:=d;exact B5 hcf hit sz b _ _ _ _ _ _ l)
  ·exact B5 hcf hit sz b _ _ _ _ _ _ d
 | .loop b => fun fr h e f h' j d => hit _ (B5 hcf hit sz b) _ _ _ _ _ _ d
 | .exit id => fun fr h e f h' j d => by simp only [code,OI,Prod.mk.injEq] at d;obtain ⟨_,_,rfl,rfl⟩:=d;exact Keeps.refl _ _ _
 | .ret => fun fr h e f h' j d => by simp only [code,OI,Prod.mk.injEq] at d;obtain ⟨_,_,rfl,rfl⟩:=d;exact Keeps.refl _ _ _
 | .rng g ps a b => fun fr h e f h' j d => by
  simp only [code,Ez] at d
  split at d
  ·rename_i v p m z
   split at d
   ·rename_i r l
    split at d
    ·cases d
    ·split at d
     ·rename_i v2 h2 a0 hg
      have s:Keeps h.length h p m:=by
       have o:=Keeps.push (Nat.le_refl h.length) [LObj.loop { state:=.ready,pending:=none,fr,sz,params:=ps,assign:=a,body:=b }] []
       have:=o.trans ((Ah7 hcf _ _ _ _ _ _ z).less (by simp))
       simpa using this
      have t:Keeps h.length h (p.set h.length .dead) m:=by simpa using s.trans (Keeps.set_high (Nat.le_refl _) LObj.dead [])
      have u:=Yr t hg
      split at d <;> (simp only [OI,Prod.mk.injEq] at d;obtain ⟨_,_,rfl,rfl⟩:=d;exact u)
     ·cases d
   ·cases d
  ·cases d
theorem Auy {res:List R} {h0:Aa} {x:Out} (hx:∀ e fr' h' ws,x = some (e,fr',h',ws) → Keeps h0.length h0 h' ws) {v:Value} {h':Aa} {ws:List Nat} (hv:fin res h0 x = some (v,h',ws)):Keeps h0.length h0 h' ws:=by
 unfold fin at hv
 split at hv
 ·cases hv
 ·split at hv
  ·exact Yr (hx _ _ _ _ rfl) hv
  ·cases hv
 ·cases hv
theorem Aqg {res:List R} {h0:Aa} {x:Out} (hx:∀ e fr' h' ws,x = some (e,fr',h',ws) → Keeps h0.length h0 h' ws) {v:Value} {h':Aa} {ws:List Nat} (hv:Sb res x = some (v,h',ws)):Keeps h0.length h0 h' ws:=by
 unfold Sb at hv
 split at hv
 ·cases hv
 ·split at hv
  ·simp only [OI,Prod.mk.injEq] at hv
   obtain ⟨_,rfl,rfl⟩:=hv
   exact hx _ _ _ _ rfl
  ·cases hv
 ·cases hv
def No (E:Env):Prop:=∀ f e,E f = .ext e → ∀ args h v h' ws,e args h = some (v,h',ws) → Keeps h.length h h' ws
theorem Ak7 {cf:A0} {it:It} (hcf:Np cf) (hit:∀ K,Nn K → Nn (it K)) {d:Def} (hd:∀ e,d = .ext e → ∀ args h v h' ws,e args h = some (v,h',ws) → Keeps h.length h h' ws) {args:List Value} {h:Aa} {v:Value} {h':Aa} {ws:List Nat}
  (hv:Eo cf it d args h = some (v,h',ws)):Keeps h.length h h' ws:=by
 unfold Eo at hv
 split at hv
 ·exact hd _ rfl _ _ _ _ _ hv
 ·split at hv
  ·exact Auy (fun e a h' ws c => B5 hcf hit _ _ _ _ _ _ _ _ c) hv
  ·cases hv
 ·split at hv
  ·exact Aqg (fun e a h' ws c => B5 hcf hit _ _ _ _ _ _ _ _ c) hv
  ·cases hv
 ·cases hv
theorem Aj6 {cf:A0} {it:It} (hcf:Np cf) (hit:∀ K,Nn K → Nn (it K)) {l:Nat} {args:List Value} {h:Aa} {v:Value} {h':Aa} {ws:List Nat} (hv:F8 cf it l args h = some (v,h',ws)):Keeps h.length h h' ws:=by
 unfold F8 at hv
 split at hv <;> try (cases hv;done)
 rename_i r x
 split at hv <;> try (cases hv;done)
 split at hv <;> try (cases hv;done)
 split at hv <;> try (cases hv;done)
 split at hv <;> try (cases hv;done)
 rename_i a0 h1 n j
 split at hv <;> try (cases hv;done)
 rename_i e y h2 f m
 split at hv <;> try (cases hv;done)
 rename_i s
 have a:=B5 hcf hit _ _ _ _ _ _ _ _ j
 have c:=B5 hcf hit _ _ _ _ _ _ _ _ m
 simp only [List.length_set] at c
 have u:Keeps h.length h (h2.set l (.loop r)) (n ++ f):=by
  refine ⟨by have:=a.len;have:=c.len;simp only [List.length_set] at *;omega,fun b d o => ?_⟩
  by_cases e:b = l
  ·subst e
   rw [List.getElem?_set_self (by have:=a.len;have:=c.len;simp only [List.length_set] at *;omega),x]
  ·rw [List.getElem?_set_ne (Ne.symm e),c.at_ b (Nat.lt_of_lt_of_le d a.len) (fun g => o (List.mem_append_right _ g)),List.getElem?_set_ne (Ne.symm e),a.at_ b d (fun g => o (List.mem_append_left _ g))]
 unfold O1 at hv
 split at hv <;> try (cases hv;done)
 rename_i v3 h3 t z
 have p:=Yr u z
 split at hv
 ·simp only [OI,Prod.mk.injEq] at hv;obtain ⟨_,rfl,rfl⟩:=hv;exact p
 ·simp only [OI,Prod.mk.injEq] at hv;obtain ⟨_,rfl,rfl⟩:=hv
  exact (p.trans (Keeps.set _ _)).mono (fun b d => by
   rcases List.mem_append.1 d with h | h
   ·exact List.mem_cons_of_mem _ h
   ·rw [List.mem_singleton.1 h];exact List.mem_cons_self)
theorem Qa {E:Env} (hE:No E):∀ n,Np (C3 E n)
 | 0 => fun g c h v h' j a => by simp [C3] at a
 | n + 1 => fun g c h v h' j a => by
  simp only [C3,I9] at a
  split at a
  ·rename_i f _ _
   exact Ak7 (Qa hE n) (fun K d => F6 d n) (fun e l => hE f e l) a
  ·split at a
   ·exact Aj6 (Qa hE n) (fun K d => F6 d n) a
   ·cases a
  ·cases a
end Go.L
