/- THE LOGICAL MACHINE: what is written is told; the heap grows. -/
import Derived.Test.YtifnlcajancfdaaGreatDoorW
set_option linter.unusedVariables false
set_option linter.unusedSimpArgs false
namespace Go.L
open Go
structure Keeps (m:Nat) (h h':Aa) (ws:List Nat):Prop where
 len:h.length≤h'.length
 at_:∀ b,b<m→b ∉ ws→h'[b]? = h[b]?
theorem Keeps.refl (m:Nat) (h:Aa) (ws:List Nat):Keeps m h h ws:=⟨Nat.le_refl _,fun _ _ _ => rfl⟩
theorem Keeps.trans {m:Nat} {h h1 h2:Aa} {ws ws':List Nat} (a:Keeps m h h1 ws) (b:Keeps m h1 h2 ws'):Keeps m h h2 (ws++ws') :=
 ⟨Nat.le_trans a.len b.len,fun x hx hn => (b.at_ x hx fun hm => hn (List.mem_append_right _ hm)).trans (a.at_ x hx fun hm => hn (List.mem_append_left _ hm))⟩
theorem Keeps.less {m m':Nat} {h h':Aa} {ws:List Nat} (a:Keeps m h h' ws) (hm:m'≤m):Keeps m' h h' ws:=⟨a.len,fun b hb hn => a.at_ b (Nat.lt_of_lt_of_le hb hm) hn⟩
theorem Keeps.set {m:Nat} {h:Aa} (b:Nat) (o:LObj):Keeps m h (h.set b o) [b] :=
 ⟨by simp,fun x _ hn => List.getElem?_set_ne (fun e => hn (by simp [e]))⟩
theorem Keeps.set_high {m:Nat} {h:Aa} {b:Nat} (hb:m≤b) (o:LObj) (ws:List Nat):Keeps m h (h.set b o) ws :=
 ⟨by simp,fun x hx _ => List.getElem?_set_ne (by omega)⟩
theorem Keeps.push {m:Nat} {h:Aa} (hm:m≤h.length) (l:List LObj) (ws:List Nat):Keeps m h (h++l) ws :=
 ⟨by simp,fun x hx _ => GL (by omega)⟩
theorem Keeps.mono {m:Nat} {h h':Aa} {ws ws':List Nat} (a:Keeps m h h' ws) (hs:∀ b,b∈ws→b∈ws'):Keeps m h h' ws':=⟨a.len,fun b hb hn => a.at_ b hb fun h => hn (hs b h)⟩
def Fk (cf:Be):Prop:=∀ g args h v h' ws,cf g args h=some (v,h',ws)→Keeps h.length h h' ws
theorem Aan {m n:Nat} {x v:Value} {h h':Aa} {ws:List Nat} (hv:Ik n x v h=some (h',ws)):Keeps m h h' ws:=by
 unfold Ik at hv
 split at hv<;>try (cases hv;done)
 split at hv<;>try (cases hv;done)
 split at hv<;>try (cases hv;done)
 simp only [OI,Prod.mk.injEq] at hv
 obtain ⟨rfl,rfl⟩:=hv
 exact Keeps.set _ _
theorem Keeps.set_push {m:Nat} {h:Aa} (hm:m≤h.length) (b:Nat) (o:LObj) (l:List LObj):Keeps m h (h.set b o++l) [b] :=
 ⟨by simp,fun x hx hn => by rw [GL (by simp;omega),List.getElem?_set_ne (fun e => hn (by simp [e]))]⟩
theorem Ab6 {f:FF} {o:O} {h h':Aa} {v:Value} {ws:List Nat} {m:Nat} (hm:m≤h.length) (hv:O0 f h o=some (v,h',ws)):Keeps m h h' ws:=by
 unfold O0 at hv
 split at hv
 ·(repeat' split at hv)<;>try (cases hv;done)
  simp only [OM,Prod.mk.injEq] at hv
  obtain ⟨_,_,_,rfl,rfl⟩:=hv
  exact Keeps.set _ _
 ·unfold Cn at hv
  (repeat' split at hv)<;>(try (cases hv;done))<;>(simp only [OI,Prod.mk.injEq] at hv;obtain ⟨_,rfl,rfl⟩:=hv) <;>
   first
    | exact Keeps.refl _ _ _
    | exact Keeps.set _ _
    | exact Keeps.push hm _ _
    | exact Keeps.set_push hm _ _ _
 ·unfold Aes at hv
  (repeat' split at hv)<;>(try (cases hv;done))<;>(simp only [OI,Prod.mk.injEq] at hv;obtain ⟨_,rfl,rfl⟩:=hv) <;>
   first
    | exact Keeps.refl _ _ _
    | exact Keeps.set _ _
 ·unfold Sw at hv
  (repeat' split at hv)<;>(try (cases hv;done))<;>(simp only [OI,Prod.mk.injEq] at hv;obtain ⟨_,rfl,rfl⟩:=hv) <;>
   first
    | exact Keeps.refl _ _ _
    | exact Keeps.set _ _
 ·(repeat' split at hv)<;>try (cases hv;done)
  simp only [OM,Prod.mk.injEq] at hv
  obtain ⟨_,_,_,rfl,rfl⟩:=hv
  exact Keeps.set _ _
 ·cases hv
theorem Aic {cf:Be} (hcf:Fk cf) {f:FF} {o:O} {h h':Aa} {v:Value} {ws:List Nat} (hv:opN cf f h o=some (v,h',ws)):Keeps h.length h h' ws:=by
 unfold opN at hv
 split at hv
 ·split at hv
  ·simp only [OI,Prod.mk.injEq] at hv;obtain ⟨_,rfl,rfl⟩:=hv;exact Keeps.refl _ _ _
  ·cases hv
 ·split at hv
  ·simp only [OI,Prod.mk.injEq] at hv;obtain ⟨_,rfl,rfl⟩:=hv;exact Keeps.refl _ _ _
  ·cases hv
 ·split at hv
  ·simp only [OI,Prod.mk.injEq] at hv;obtain ⟨_,rfl,rfl⟩:=hv;exact Keeps.push (Nat.le_refl _) _ _
  ·cases hv
 ·split at hv
  ·split at hv
   ·rename_i hr
    simp only [OI,Prod.mk.injEq] at hv;obtain ⟨_,rfl,rfl⟩:=hv;exact Aan hr
   ·cases hv
  ·cases hv
 ·split at hv
  ·exact hcf _ _ _ _ _ _ hv
  ·cases hv
 ·exact Ab6 (Nat.le_refl _) hv
theorem Xo {cf:Be} (hcf:Fk cf):∀ {ins:List Ins} {f f':FF} {h h':Aa} {ws:List Nat},Fs cf ins f h=some (f',h',ws)→Keeps h.length h h' ws
 | [],f,f',h,h',ws,hv => by simp only [Fs,OI,Prod.mk.injEq] at hv;obtain ⟨_,rfl,rfl⟩:=hv;exact Keeps.refl _ _ _
 | i :: r,f,f',h,h',ws,hv => by
  simp only [Fs] at hv
  split at hv
  ·split at hv
   ·rename_i v h1 ws1 h1e
    unfold Rt at hv
    split at hv
    ·rename_i hr
     simp only [OI,Prod.mk.injEq] at hv;obtain ⟨rfl,rfl,rfl⟩:=hv
     have k1:=Aic hcf h1e
     exact k1.trans ((Xo hcf hr).less k1.len)
    ·cases hv
   ·cases hv
  ·exact Xo hcf hv
  ·cases hv
theorem Aa8 {cf:Be} (hcf:Fk cf) {m:Nat} {f:FF} {i:Ins} {h h':Aa} {v:Value} {ws:List Nat} (hm:m≤h.length) (hv:opD cf m f h i=some (v,h',ws)):Keeps m h h' ws:=by
 unfold opD at hv
 split at hv
 ·split at hv
  ·simp only [OI,Prod.mk.injEq] at hv;obtain ⟨_,rfl,rfl⟩:=hv;exact Keeps.refl _ _ _
  ·cases hv
 ·split at hv
  ·cases hv
  ·split at hv
   ·simp only [OI,Prod.mk.injEq] at hv;obtain ⟨_,rfl,rfl⟩:=hv;exact Keeps.refl _ _ _
   ·cases hv
 ·split at hv
  ·simp only [OI,Prod.mk.injEq] at hv;obtain ⟨_,rfl,rfl⟩:=hv;exact Keeps.set_high (by omega) _ _
  ·cases hv
 ·split at hv
  ·split at hv
   ·cases hv
   ·split at hv
    ·rename_i hr
     simp only [OI,Prod.mk.injEq] at hv;obtain ⟨_,rfl,rfl⟩:=hv;exact Aan hr
    ·cases hv
  ·cases hv
 ·split at hv
  ·split at hv
   ·rename_i hr
    split at hv
    ·cases hv
    ·simp only [OI,Prod.mk.injEq] at hv;obtain ⟨_,rfl,rfl⟩:=hv;exact (hcf _ _ _ _ _ _ hr).less hm
   ·cases hv
  ·cases hv
 ·split at hv
  ·rename_i hr
   split at hv
   ·cases hv
   ·simp only [OI,Prod.mk.injEq] at hv;obtain ⟨_,rfl,rfl⟩:=hv;exact Ab6 hm hr
  ·cases hv
theorem Xp {cf:Be} (hcf:Fk cf) {m:Nat}:∀ {ins:List Ins} {f f':FF} {h h':Aa} {ws:List Nat},m≤h.length→Dt cf m ins f h=some (f',h',ws)→Keeps m h h' ws
 | [],f,f',h,h',ws,hm,hv => by simp only [Dt,OI,Prod.mk.injEq] at hv;obtain ⟨_,rfl,rfl⟩:=hv;exact Keeps.refl _ _ _
 | i :: r,f,f',h,h',ws,hm,hv => by
  simp only [Dt] at hv
  split at hv
  ·split at hv
   ·rename_i v h1 ws1 h1e
    unfold Rt at hv
    split at hv
    ·rename_i hr
     simp only [OI,Prod.mk.injEq] at hv;obtain ⟨rfl,rfl,rfl⟩:=hv
     have k1:=Aa8 hcf hm h1e
     exact k1.trans (Xp hcf (Nat.le_trans hm k1.len) hr)
    ·cases hv
   ·cases hv
  ·exact Xp hcf hm hv
  ·cases hv
theorem Arl (h:Aa) (n:Nat):Keeps h.length h (room h n) []:=by
 cases n with
 | zero => exact Keeps.refl _ _ _
 | succ n => exact Keeps.push (Nat.le_refl _) _ _
theorem Z0 {h0 h h':Aa} {v v':Value} {ws ws':List Nat} (hk:Keeps h0.length h0 h ws) (hv:gc h0 v h ws=some (v',h',ws')):Keeps h0.length h0 h' ws':=by
 unfold gc at hv
 split at hv
 ·rename_i hf
  have hnone:∀ b,b<h0.length→b ∉ ws:=by
   intro b hb hm
   have:b∈ws.filter (fun b => decide (b<h0.length)):=List.mem_filter.2 ⟨hm,by simpa using hb⟩
   rw [hf] at this;cases this
  split at hv
  ·simp only [OI,Prod.mk.injEq] at hv;obtain ⟨_,rfl,rfl⟩:=hv;exact Keeps.refl _ _ _
  ·unfold Wq at hv
   simp only at hv
   split at hv
   ·simp only [OI,Prod.mk.injEq] at hv;obtain ⟨_,rfl,rfl⟩:=hv;exact Keeps.push (Nat.le_refl _) _ _
   ·simp only [OI,Prod.mk.injEq] at hv;obtain ⟨_,rfl,rfl⟩:=hv
    exact ⟨hk.len,fun b hb _ => hk.at_ b hb (hnone b hb)⟩
 ·rename_i w r hf
  have hsub:∀ b,b<h0.length→b ∉ w :: r→b ∉ ws:=by
   intro b hb hn hm
   have:b∈ws.filter (fun b => decide (b<h0.length)):=List.mem_filter.2 ⟨hm,by simpa using hb⟩
   rw [hf] at this;exact hn this
  split at hv
  ·simp only [OI,Prod.mk.injEq] at hv;obtain ⟨_,rfl,rfl⟩:=hv
   refine ⟨by have:=hk.len;simp;omega,fun b hb hn => ?_⟩
   rw [List.getElem?_take_of_lt hb]
   exact hk.at_ b hb (hsub b hb hn)
  ·simp only [OI,Prod.mk.injEq] at hv;obtain ⟨_,rfl,rfl⟩:=hv
   exact ⟨hk.len,fun b hb hn => hk.at_ b hb (hsub b hb hn)⟩
def N5 (K:Fr→Aa→Out):Prop:=∀ fr h e fr' h' ws,K fr h=some (e,fr',h',ws)→Keeps h.length h h' ws
theorem Aah {x:Out} {k:Fr→Aa→Out} {h:Aa} (hx:∀ e fr' h' ws,x=some (e,fr',h',ws)→Keeps h.length h h' ws) (hk:N5 k):∀ e fr' h' ws,Gl x k=some (e,fr',h',ws)→Keeps h.length h h' ws:=by
 intro e fr' h' ws hv
 unfold Gl at hv
 split at hv
 ·rename_i fr1 h1 ws1
  split at hv
  ·rename_i hr
   simp only [OI,Prod.mk.injEq] at hv;obtain ⟨_,_,rfl,rfl⟩:=hv
   have k1:=hx _ _ _ _ rfl
   exact k1.trans ((hk _ _ _ _ _ _ hr).less k1.len)
  ·cases hv
 ·exact hx _ _ _ _ hv
theorem F8 {K:Fr→Aa→Out} (hK:N5 K):∀ n,N5 (Io n K)
 | 0 => fun fr h e fr' h' ws hv => by simp [Io] at hv
 | n+1 => fun fr h => Aah (fun e fr' h' ws hv => hK _ _ _ _ _ _ hv) (F8 hK n)
theorem Ajm {cf:Be} (hcf:Fk cf):Fk (J1 cf):=by
 intro g args h v h' ws hv
 unfold J1 at hv
 split at hv
 ·exact hcf _ _ _ _ _ _ hv
 ·cases hv
theorem B4 {cf:Be} {it:It} (hcf:Fk cf) (hit:∀ K,N5 K→N5 (it K)) (sz:Nat):∀ c,N5 (code cf it sz c)
 | .skip => fun fr h e fr' h' ws hv => by simp only [code,OI,Prod.mk.injEq] at hv;obtain ⟨_,_,rfl,rfl⟩:=hv;exact Keeps.refl _ _ _
 | .reg live ins => fun fr h e fr' h' ws hv => by
  simp only [code,Us] at hv
  split at hv
  ·rename_i hr;simp only [OI,Prod.mk.injEq] at hv;obtain ⟨_,_,rfl,rfl⟩:=hv;exact Xo hcf hr
  ·cases hv
 | .drw live n ins => fun fr h e fr' h' ws hv => by
  simp only [code,Us] at hv
  split at hv
  ·rename_i hr;simp only [OI,Prod.mk.injEq] at hv;obtain ⟨_,_,rfl,rfl⟩:=hv
   have k0:=Arl h n
   simpa using k0.trans (Xp hcf k0.len hr)
  ·cases hv
 | .seq x y => fun fr h => Aah (fun e fr' h' ws hv => B4 hcf hit sz x _ _ _ _ _ _ hv) (B4 hcf hit sz y)
 | .cond v x y => fun fr h e fr' h' ws hv => by
  simp only [code,Wp] at hv
  split at hv
  ·split at hv
   ·exact B4 hcf hit sz x _ _ _ _ _ _ hv
   ·exact B4 hcf hit sz y _ _ _ _ _ _ hv
  ·cases hv
 | .block id b => fun fr h e fr' h' ws hv => by
  simp only [code,inBlock] at hv
  split at hv
  ·rename_i hr
   split at hv<;>(simp only [OI,Prod.mk.injEq] at hv;obtain ⟨_,_,rfl,rfl⟩:=hv;exact B4 hcf hit sz b _ _ _ _ _ _ hr)
  ·exact B4 hcf hit sz b _ _ _ _ _ _ hv
 | .loop b => fun fr h e fr' h' ws hv => hit _ (B4 hcf hit sz b) _ _ _ _ _ _ hv
 | .exit id => fun fr h e fr' h' ws hv => by simp only [code,OI,Prod.mk.injEq] at hv;obtain ⟨_,_,rfl,rfl⟩:=hv;exact Keeps.refl _ _ _
 | .ret => fun fr h e fr' h' ws hv => by simp only [code,OI,Prod.mk.injEq] at hv;obtain ⟨_,_,rfl,rfl⟩:=hv;exact Keeps.refl _ _ _
 | .rng g ps a b => fun fr h e fr' h' ws hv => by
  simp only [code,Ft] at hv
  split at hv
  ·rename_i v h1 ws1 hc
   split at hv
   ·rename_i r hr
    split at hv
    ·cases hv
    ·split at hv
     ·rename_i v2 h2 ws2 hg
      have k1:Keeps h.length h h1 ws1:=by
       have k0:=Keeps.push (Nat.le_refl h.length) [LObj.loop { state:=.ready,pending:=none,fr,sz,params:=ps,assign:=a,body:=b }] []
       have:=k0.trans ((Ajm hcf _ _ _ _ _ _ hc).less (by simp))
       simpa using this
      have k2:Keeps h.length h (h1.set h.length .dead) ws1:=by simpa using k1.trans (Keeps.set_high (Nat.le_refl _) LObj.dead [])
      have k3:=Z0 k2 hg
      split at hv<;>(simp only [OI,Prod.mk.injEq] at hv;obtain ⟨_,_,rfl,rfl⟩:=hv;exact k3)
     ·cases hv
   ·cases hv
  ·cases hv
theorem Aw6 {res:List R} {h0:Aa} {x:Out} (hx:∀ e fr' h' ws,x=some (e,fr',h',ws)→Keeps h0.length h0 h' ws) {v:Value} {h':Aa} {ws:List Nat} (hv:fin res h0 x=some (v,h',ws)):Keeps h0.length h0 h' ws:=by
 unfold fin at hv
 split at hv
 ·cases hv
 ·split at hv
  ·exact Z0 (hx _ _ _ _ rfl) hv
  ·cases hv
 ·cases hv
theorem Asb {res:List R} {h0:Aa} {x:Out} (hx:∀ e fr' h' ws,x=some (e,fr',h',ws)→Keeps h0.length h0 h' ws) {v:Value} {h':Aa} {ws:List Nat} (hv:Zp res x=some (v,h',ws)):Keeps h0.length h0 h' ws:=by
 unfold Zp at hv
 split at hv
 ·cases hv
 ·split at hv
  ·simp only [OI,Prod.mk.injEq] at hv
   obtain ⟨_,rfl,rfl⟩:=hv
   exact hx _ _ _ _ rfl
  ·cases hv
 ·cases hv
def N6 (E:Env):Prop:=∀ f e,E f = .ext e→∀ args h v h' ws,e args h=some (v,h',ws)→Keeps h.length h h' ws
theorem Amm {cf:Be} {it:It} (hcf:Fk cf) (hit:∀ K,N5 K→N5 (it K)) {d:Def} (hd:∀ e,d = .ext e→∀ args h v h' ws,e args h=some (v,h',ws)→Keeps h.length h h' ws) {args:List Value} {h:Aa} {v:Value} {h':Aa} {ws:List Nat}
  (hv:Fz cf it d args h=some (v,h',ws)):Keeps h.length h h' ws:=by
 unfold Fz at hv
 split at hv
 ·exact hd _ rfl _ _ _ _ _ hv
 ·split at hv
  ·exact Aw6 (fun e fr' h' ws he => B4 hcf hit _ _ _ _ _ _ _ _ he) hv
  ·cases hv
 ·split at hv
  ·exact Asb (fun e fr' h' ws he => B4 hcf hit _ _ _ _ _ _ _ _ he) hv
  ·cases hv
 ·cases hv
theorem Alg {cf:Be} {it:It} (hcf:Fk cf) (hit:∀ K,N5 K→N5 (it K)) {l:Nat} {args:List Value} {h:Aa} {v:Value} {h':Aa} {ws:List Nat} (hv:I2 cf it l args h=some (v,h',ws)):Keeps h.length h h' ws:=by
 unfold I2 at hv
 split at hv<;>try (cases hv;done)
 rename_i r hl
 split at hv<;>try (cases hv;done)
 split at hv<;>try (cases hv;done)
 split at hv<;>try (cases hv;done)
 split at hv<;>try (cases hv;done)
 rename_i fr1 h1 ws1 h1e
 split at hv<;>try (cases hv;done)
 rename_i e fr2 h2 ws2 h2e
 split at hv<;>try (cases hv;done)
 rename_i hnot
 have k1:=B4 hcf hit _ _ _ _ _ _ _ _ h1e
 have k2:=B4 hcf hit _ _ _ _ _ _ _ _ h2e
 simp only [List.length_set] at k2
 have k3:Keeps h.length h (h2.set l (.loop r)) (ws1++ws2):=by
  refine ⟨by have:=k1.len;have:=k2.len;simp only [List.length_set] at *;omega,fun b hb hn => ?_⟩
  by_cases e:b=l
  ·subst e
   rw [List.getElem?_set_self (by have:=k1.len;have:=k2.len;simp only [List.length_set] at *;omega),hl]
  ·rw [List.getElem?_set_ne (Ne.symm e),k2.at_ b (Nat.lt_of_lt_of_le hb k1.len) (fun hm => hn (List.mem_append_right _ hm)),List.getElem?_set_ne (Ne.symm e),k1.at_ b hb (fun hm => hn (List.mem_append_left _ hm))]
 unfold Sc at hv
 split at hv<;>try (cases hv;done)
 rename_i v3 h3 ws3 hg
 have k4:=Z0 k3 hg
 split at hv
 ·simp only [OI,Prod.mk.injEq] at hv;obtain ⟨_,rfl,rfl⟩:=hv;exact k4
 ·simp only [OI,Prod.mk.injEq] at hv;obtain ⟨_,rfl,rfl⟩:=hv
  exact (k4.trans (Keeps.set _ _)).mono (fun b hb => by
   rcases List.mem_append.1 hb with h | h
   ·exact List.mem_cons_of_mem _ h
   ·rw [List.mem_singleton.1 h];exact List.mem_cons_self)
theorem Qt {E:Env} (hE:N6 E):∀ n,Fk (Dv E n)
 | 0 => fun g args h v h' ws hv => by simp [Dv] at hv
 | n+1 => fun g args h v h' ws hv => by
  simp only [Dv,J4] at hv
  split at hv
  ·rename_i f _ _
   exact Amm (Qt hE n) (fun K hK => F8 hK n) (fun e he => hE f e he) hv
  ·split at hv
   ·exact Alg (Qt hE n) (fun K hK => F8 hK n) hv
   ·cases hv
  ·cases hv
end Go.L
