/- A RING OF CELLS, plain. -/
import Derived.Test.YtnanlkamcgihlaaDoorCode
import Derived.Test.YtnanlkamcgihlaaDoorVc
set_option linter.unusedVariables false
namespace Go.L
theorem O3 {N a i:Nat} (ha:a < N) (hi:i ≤ N):(a + i) % N = if a + i < N then a + i else a + i - N:=by
 split
 ·exact Nat.mod_eq_of_lt ‹_›
 ·rw [Nat.mod_eq_sub_mod (by omega),Nat.mod_eq_of_lt (by omega)]
structure RingL {α : Type} (R:List α) (f:Nat) (l:List α):Prop where
 few:l.length ≤ R.length
 from_:f < R.length
 nth:∀ i,i < l.length → R[(f + i) % R.length]? = l[i]?
namespace RingL
variable {α : Type} {R:List α} {f:Nat} {l:List α}
theorem push (r:RingL R f l) (h:l.length < R.length) (x:α):RingL (R.set ((f + l.length) % R.length) x) f (l ++ [x]):=by
 have c:=r.from_
 refine ⟨by simp;omega,by simpa using c,fun i g => ?_⟩
 rw [LA,List.length_singleton] at g
 rw [List.length_set]
 have d:=O3 (i:=i) c (by omega)
 have j:=O3 (i:=l.length) c (by omega)
 by_cases a:i < l.length
 ·rw [List.getElem?_set_ne (by rw [d,j];split <;> split <;> omega),GL a]
  exact r.nth i a
 ·have e:i = l.length:=by omega
  subst e
  rw [List.getElem?_set_self (Nat.mod_lt _ (by omega)),List.getElem?_append_right (Nat.le_refl _),Nat.sub_self];rfl
theorem pop (r:RingL R f l) {a:α} {s:List α} (h:l = a :: s) (x:α):RingL (R.set f x) ((f + 1) % R.length) s ∧ R[f]? = some a:=by
 subst h
 have c:=r.from_
 have e:=r.few
 rw [List.length_cons] at e
 refine ⟨⟨by rw [List.length_set];omega,by rw [List.length_set];exact Nat.mod_lt _ (by omega),fun i n => ?_⟩,?_⟩
 ·rw [List.length_set]
  have g:=O3 (i:=1) c (by omega)
  have d:=O3 (i:=i + 1) c (by omega)
  have m:=O3 (a:=(f + 1) % R.length) (i:=i) (Nat.mod_lt _ (by omega)) (by omega)
  have j:((f + 1) % R.length + i) % R.length = (f + (i + 1)) % R.length:=by rw [m,d,g];split <;> split <;> split <;> omega
  rw [j,List.getElem?_set_ne (by rw [d];split <;> omega),r.nth (i + 1) (by simp;omega)]
  rfl
 ·have:=r.nth 0 (by simp)
  rw [Nat.add_zero,Nat.mod_eq_of_lt c] at this
  exact this
theorem at0 (r:RingL R f l) {i:Nat} (h:i < l.length):R[(f + i) % R.length]? = some (l[i]):=by rw [r.nth i h,List.getElem?_eq_getElem h]
theorem grow (r:RingL R f l) (h:l.length = R.length) (m:Nat) (x:α):RingL (R.drop f ++ R.take f ++ List.replicate m x) 0 l:=by
 have d:=r.from_
 have a:(R.drop f ++ R.take f).length = R.length:=by simp;omega
 refine ⟨by rw [LA,a];omega,by rw [LA,a];omega,fun i e => ?_⟩
 rw [Nat.zero_add,Nat.mod_eq_of_lt (by rw [LA,a];omega),GL (by rw [a];omega),← r.nth i e,O3 d (by omega)]
 by_cases c:f + i < R.length
 ·rw [if_pos c,GL (by simp;omega),List.getElem?_drop]
 ·rw [if_neg c,List.getElem?_append_right (by simp;omega),List.getElem?_take,List.length_drop,if_pos (by omega)]
  congr 1;omega
theorem new (m:Nat) (x:α) (hm:0 < m):RingL (List.replicate m x) 0 ([]:List α):=⟨by simp,by simpa using hm,fun i hi => by simp at hi⟩
end RingL
end Go.L
namespace Go.L
variable {α : Type} [Inhabited α] {k:α → Int}
def gN (L:List α) (i:Nat):α:=L.getD i default
theorem Adb {L:List α} {i:Nat} (h:i < L.length):gN L i = L[i]:=by
 unfold gN;rw [List.getD_eq_getElem?_getD,List.getElem?_eq_getElem h];rfl
def D4 (L:List α) (i j:Nat):List α:=(L.set i (gN L j)).set j (gN L i)
theorem Cj (L:List α) (i j:Nat):(D4 L i j).length = L.length:=by simp [D4]
theorem Tz {L:List α} {i j:Nat} (hi:i < L.length) (hj:j < L.length):(D4 L i j).Perm L:=by
 unfold D4
 rw [Adb hi,Adb hj]
 exact List.set_set_perm hi hj
theorem Wg {L:List α} {i j:Nat} (hi:i < L.length) (hj:j < L.length) (x:Nat):gN (D4 L i j) x = if x = j then gN L i else if x = i then gN L j else gN L x:=by
 unfold D4
 by_cases a:x = j
 ·subst a
  rw [if_pos rfl]
  show ((L.set i (gN L x)).set x (gN L i)).getD x default = _
  rw [List.getD_eq_getElem?_getD,List.getElem?_set_self (by simpa using hj)];rfl
 ·rw [if_neg a]
  show ((L.set i (gN L j)).set j (gN L i)).getD x default = _
  rw [List.getD_eq_getElem?_getD,List.getElem?_set_ne (fun e => a e.symm)]
  by_cases h2:x = i
  ·subst h2
   rw [if_pos rfl,List.getElem?_set_self hi];rfl
  ·rw [if_neg h2,List.getElem?_set_ne (fun e => h2 e.symm)];rfl
def Qw (k:α → Int) (L:List α):Prop:=∀ i,0 < i → i < L.length → k (gN L ((i - 1) / 2)) ≤ k (gN L i)
theorem Aur {L:List α} (h:Qw k L):∀ i,i < L.length → k (gN L 0) ≤ k (gN L i):=by
 intro i
 induction i using Nat.strongRecOn with
 | _ i ih =>
  intro a
  by_cases e:i = 0
  ·subst e;exact Int.le_refl _
  ·exact Int.le_trans (ih ((i - 1) / 2) (by omega) (by omega)) (h i (by omega) a)
structure UpL (k:α → Int) (L:List α) (i:Nat):Prop where
 lt:i < L.length
 out:∀ j,0 < j → j < L.length → j ≠ i → k (gN L ((j - 1) / 2)) ≤ k (gN L j)
 ab:∀ c,0 < c → c < L.length → (c - 1) / 2 = i → 0 < i → k (gN L ((i - 1) / 2)) ≤ k (gN L c)
theorem Ari {L:List α} {i:Nat} (u:UpL k L i) (h:0 < i → ¬ k (gN L i) < k (gN L ((i - 1) / 2))):Qw k L:=fun j hj hl => by
 by_cases e:j = i
 ·subst e;have:=h hj;omega
 ·exact u.out j hj hl e
theorem Awf {L:List α} {i:Nat} (u:UpL k L i) (hi:0 < i) (h:k (gN L i) < k (gN L ((i - 1) / 2))):UpL k (D4 L i ((i - 1) / 2)) ((i - 1) / 2):=by
 have p:=u.lt
 have d:=Wg (L:=L) (i:=i) (j:=(i - 1) / 2) p (by omega)
 refine ⟨by rw [Cj];omega,fun j a h2 f => ?_,fun c a h2 f o => ?_⟩
 ·rw [Cj] at h2
  rw [d,d,if_neg f]
  by_cases e:j = i
  ·subst e
   rw [if_pos rfl,if_pos rfl];omega
  ·rw [if_neg e]
   have g:=u.out j a h2 e
   split
   ·rename_i l;rw [l] at g;omega
   ·split
    ·rename_i l m
     have:=u.ab j a h2 m hi
     omega
    ·exact g
 ·rw [Cj] at h2
  have r:=u.out ((i - 1) / 2) o (by omega) (by omega)
  rw [d,d,if_neg (by omega),if_neg (by omega)]
  by_cases e:c = i
  ·subst e
   rw [if_neg (by omega),if_pos rfl];exact r
  ·rw [if_neg (by omega),if_neg e]
   have n:=u.out c a h2 e
   rw [f] at n
   omega
theorem Arj {L:List α} (h:Qw k L) (x:α):UpL k (L ++ [x]) L.length:=by
 have e:∀ i,i < L.length → gN (L ++ [x]) i = gN L i:=fun i f => by
  unfold gN;rw [List.getD_eq_getElem?_getD,List.getD_eq_getElem?_getD,GL f]
 refine ⟨by simp,fun j a h2 d => ?_,fun c a h2 d g => ?_⟩
 ·rw [LA,List.length_singleton] at h2
  rw [e _ (by omega),e _ (by omega)]
  exact h j a (by omega)
 ·rw [LA,List.length_singleton] at h2
  omega
structure Adw (k:α → Int) (L:List α) (i:Nat):Prop where
 out:∀ j,0 < j → j < L.length → (j - 1) / 2 ≠ i → k (gN L ((j - 1) / 2)) ≤ k (gN L j)
 ab:∀ c,0 < c → c < L.length → (c - 1) / 2 = i → 0 < i → k (gN L ((i - 1) / 2)) ≤ k (gN L c)
theorem Ava {L:List α} {i:Nat} (d:Adw k L i) (h:∀ c,0 < c → c < L.length → (c - 1) / 2 = i → k (gN L i) ≤ k (gN L c)):Qw k L:=fun j hj hl => by
 by_cases e:(j - 1) / 2 = i
 ·rw [e];exact h j hj hl e
 ·exact d.out j hj hl e
theorem Aql {L:List α} {i m:Nat} (d:Adw k L i) (hm:0 < m) (hl:m < L.length) (hp:(m - 1) / 2 = i) (h1:k (gN L m) < k (gN L i)) (h2:∀ c,0 < c → c < L.length → (c - 1) / 2 = i → k (gN L m) ≤ k (gN L c)):Adw k (D4 L i m) m:=by
 have l:=Wg (L:=L) (i:=i) (j:=m) (by omega) hl
 refine ⟨fun j a b c => ?_,fun c a b e f => ?_⟩
 ·rw [Cj] at b
  rw [l,l]
  by_cases e:j = m
  ·subst e
   rw [if_pos rfl,if_neg (by omega),if_pos hp];omega
  ·rw [if_neg e,if_neg c]
   by_cases g:(j - 1) / 2 = i
   ·rw [if_pos g,if_neg (by omega)]
    exact h2 j a b g
   ·rw [if_neg g]
    have n:=d.out j a b g
    by_cases o:j = i
    ·rw [if_pos o]
     rw [o] at g a ⊢
     exact d.ab m hm hl hp (by omega)
    ·rw [if_neg o];exact n
 ·rw [Cj] at b
  rw [l,l,if_neg (by omega),if_pos hp,if_neg (by omega),if_neg (by omega)]
  have n:=d.out c a b (by omega)
  rw [e] at n
  exact n
theorem Aky {L:List α} (h:Qw k L) (hn:L ≠ []):Adw k ((D4 L 0 (L.length - 1)).take (L.length - 1)) 0 ∧ (gN L 0 :: (D4 L 0 (L.length - 1)).take (L.length - 1)).Perm L:=by
 have g:0 < L.length:=List.length_pos_iff.2 hn
 have l:=Wg (L:=L) (i:=0) (j:=L.length - 1) g (by omega)
 have n:((D4 L 0 (L.length - 1)).take (L.length - 1)).length = L.length - 1:=by rw [List.length_take,Cj];omega
 have e:∀ x,x < L.length - 1 → gN ((D4 L 0 (L.length - 1)).take (L.length - 1)) x = if x = 0 then gN L (L.length - 1) else gN L x:=fun x p => by
  have:gN ((D4 L 0 (L.length - 1)).take (L.length - 1)) x = gN (D4 L 0 (L.length - 1)) x:=by
   unfold gN;rw [List.getD_eq_getElem?_getD,List.getD_eq_getElem?_getD,List.getElem?_take,if_pos p]
  rw [this,l,if_neg (by omega)]
 refine ⟨⟨fun j a b c => ?_,fun c a b e f => by omega⟩,?_⟩
 ·rw [n] at b
  rw [e _ (by omega),e _ (by omega),if_neg c,if_neg (by omega)]
  exact h j a (by omega)
 ·have o:=Tz (L:=L) (i:=0) (j:=L.length - 1) g (by omega)
  have m:D4 L 0 (L.length - 1) = (D4 L 0 (L.length - 1)).take (L.length - 1) ++ [gN L 0]:=by
   have d:=(List.take_append_drop (L.length - 1) (D4 L 0 (L.length - 1))).symm
   have h2:(D4 L 0 (L.length - 1)).drop (L.length - 1) = [gN L 0]:=by
    rw [List.drop_eq_getElem_cons (by rw [Cj];omega),List.drop_of_length_le (by rw [Cj];omega),← Adb (by rw [Cj];omega),l,if_pos rfl]
   rw [h2] at d;exact d
  refine List.Perm.trans ?_ o
  generalize hT:(D4 L 0 (L.length - 1)).take (L.length - 1) = T at m ⊢
  rw [m]
  exact (List.perm_append_singleton _ _).symm
end Go.L
set_option linter.unusedSimpArgs false
set_option maxRecDepth 100000
set_option maxHeartbeats 2000000
namespace Go.L.Try
open Go Go.L
variable {E:Env}
inductive RingH (h:Aa) (q:Nat):List Value → (Nat → Prop) → Nat → Prop
 | empty (hq:h[q]? = some (.cells [.slice none 0 0,.int .i64 0,.int .i64 0] false)):RingH h q [] (fun b => b = q) 0
 | full {l R:List Value} {f rb:Nat} (hq:h[q]? = some (.cells [.slice (some ⟨rb,0,none⟩) R.length R.length,.int .i64 f,.int .i64 l.length] false)) (hr:h[rb]? = some (.cells R false)) (hne:rb ≠ q) (hR:RingL R f l) (hs:R.length ≤ 1048576) (ho:∀ x ∈ R,Ag x = true):RingH h q l (fun b => b = q ∨ b = rb) R.length
theorem RingH.len {h:Aa} {q:Nat} {l:List Value} {F:Nat → Prop} {N:Nat} (r:RingH h q l F N):∃ v f,h[q]? = some (.cells [v,f,.int .i64 l.length] false):=by
 cases r with
 | empty a => exact ⟨_,_,a⟩
 | full a _ _ _ _ _ => exact ⟨_,_,a⟩
theorem RingH.keep {h h':Aa} {q:Nat} {l:List Value} {F:Nat → Prop} {N:Nat} (r:RingH h q l F N) (hk:∀ b,F b → h'[b]? = h[b]?):RingH h' q l F N:=by
 cases r with
 | empty hq => exact .empty (by rw [hk q rfl];exact hq)
 | full hq hr hne hR hs ho => exact .full (by rw [hk q (.inl rfl)];exact hq) (by rw [hk _ (.inr rfl)];exact hr) hne hR hs ho
theorem RingH.lt {h:Aa} {q:Nat} {l:List Value} {F:Nat → Prop} {N:Nat} (r:RingH h q l F N):∀ b,F b → b < h.length:=by
 cases r with
 | empty hq => intro b a;subst a;exact (GI.1 hq).1
 | full hq hr hne hR hs ho =>
  rintro b (rfl | rfl)
  ·exact (GI.1 hq).1
  ·exact (GI.1 hr).1
theorem An4 (hE:As E) {h:Aa} {q:Nat} {l:List Value} {F:Nat → Prop} {N:Nat} (r:RingH h q l F N) :
  callW E (.func (.func At) #[] #[]) [.pointer (some ⟨q,0,none⟩)] h = some (.int .i64 l.length,h,[]):=by
 obtain ⟨v,f,a⟩:=r.len
 refine Ak hE.Mf rfl (by simp) ?_
 simp only [Ai]
 (repeat' simp -dsimp (disch:=omega) only [↓EA,EB,↓reduceIte,reduceCtorEq,eq_self, *,N9])
theorem Au1 (hE:As E) {h:Aa} {q:Nat} {l:List Value} {F:Nat → Prop} {N:Nat} (r:RingH h q l F N) (hv:∀ x ∈ l,Ae h.length 3 x = true ∧ Fm x = true) (i:Int) :
  callW E (.func (.func Az) #[] #[]) [.pointer (some ⟨q,0,none⟩),.int .i64 i] h = some (if 0 ≤ i ∧ i < l.length then .tuple #[l.getD i.toNat (.pointer none),.bool true] else .tuple #[.pointer none,.bool false],h,[]):=by
 have z:=An4 hE r
 refine Ak hE.Mx rfl (by simp) ?_
 simp only [Ai]
 by_cases c:0 ≤ i ∧ i < l.length
 ·rw [if_pos c]
  cases r with
  | empty hq => simp at c;omega
  | full hq hr hne hR hs ho =>
   rename_i R f v
   have s:=hR.from_
   have few:=hR.few
   have a:=hR.at0 (i:=i.toNat) (by omega)
   have d:=hv _ (List.getElem_mem (l:=l) (n:=i.toNat) (by omega))
   have ex:l.getD i.toNat (.pointer none) = l[i.toNat]'(by omega):=by rw [List.getD_eq_getElem?_getD,List.getElem?_eq_getElem (by omega)];rfl
   rw [ex]
   generalize l[i.toNat]'(by omega) = x at *
   obtain ⟨p,m⟩:=d
   obtain ⟨k,rfl⟩:=Int.eq_ofNat_of_zero_le c.1
   rw [Int.toNat_natCast] at a
   have t:((f:Int) + (k:Int)).tmod R.length = (((f + k) % R.length:Nat):Int):=by rw [Int.tmod_eq_emod_of_nonneg (by omega)];simp
   have y:=Nat.mod_lt (f + k) (show 0 < R.length by omega)
   generalize (f + k) % R.length = j at *
   have u:(j:Int) < R.length:=by omega
   have g:(l.length:Int) ≤ 1048576:=by omega
   have e:(f:Int) ≤ 1048576:=by omega
   have o:(R.length:Int) ≤ 1048576 ∧ 0 < (R.length:Int):=by omega
   clear hR ex hv
   (repeat' (first | (with_reducible refine A2 (fun _ => ?_) (fun _ => ?_) <;> try (exfalso;omega)) | (with_reducible refine A3 (fun _ => ?_) (fun _ => ?_) <;> try (exfalso;omega)) | simp -dsimp (disch:=omega) only [↓EA,EB,Nat.reduceEqDiff,↓reduceIte,reduceCtorEq,eq_self, *,Int.toNat_natCast,Nat.mul_one]))
   skip
 ·rw [if_neg c]
  (repeat' (first | (with_reducible refine A2 (fun _ => ?_) (fun _ => ?_) <;> try (exfalso;omega)) | (with_reducible refine A3 (fun _ => ?_) (fun _ => ?_) <;> try (exfalso;omega)) | simp -dsimp (disch:=omega) only [↓EA,EB,Nat.reduceEqDiff,↓reduceIte,reduceCtorEq,eq_self, *]))
  skip
theorem Ann {n:Nat} (h2:n ≤ 1048576):Ap4 [.pointer none] 8 (.int .i64 0) (.int .i64 (n:Int)) = some (.cells (List.replicate n (.pointer none)) false,fun b => .slice (some ⟨b,0,none⟩) 0 n):=by
 have e:(List.replicate n (Value.pointer none)).all Ag = true:=by
  rw [List.all_eq_true];intro v a;rw [List.eq_of_mem_replicate a];rfl
 simp [Ap4]
 refine ⟨⟨by omega,by omega⟩,?_⟩
 rw [Ab,if_pos e]
theorem Aif (hE:As E) {h:Aa} {q:Nat} {l:List Value} {F:Nat → Prop} {N:Nat} (r:RingH h q l F N) (hn:l.length = N) (hN:N ≤ 4096) {W:Nat → Prop} (hW:∀ b,F b ∨ h.length ≤ b → W b) :
  WX W (callW E (.func (.func Bf) #[] #[]) [.pointer (some ⟨q,0,none⟩)] h) (fun v h' => ∃ F' N',RingH h' q l F' N' ∧ l.length < N' ∧ N' ≤ 8192 ∧ Stp F F' h h'):=by
 refine E8 hE.Ll rfl (by simp) ?_
 simp only [List.nil_append,List.cons_append,Ai]
 cases r with
 | empty hq =>
  have a2:=(GI.1 hq).1
  have hM:(max 8 (2 * ((0:Nat):Int)):Int) = ((8:Nat):Int):=by decide
  have hm:=Ann (n:=8) (by decide)
  have ad:∀ hh,cellsOf 1 (.slice none 0 0) hh = some (([]:List Value).length,[]):=fun hh => rfl
  have a7:=hW q (.inl rfl)
  have z:=hW h.length (.inr (Nat.le_refl _))
  have a9:∀ x,(h ++ x)[q]? = some (.cells [.slice none 0 0,.int .i64 0,.int .i64 0] false):=fun x => by rw [GL a2];exact hq
  generalize hrep:List.replicate 8 (Value.pointer none) = R8 at hm
  have s:R8.length = 8:=by rw [← hrep,List.length_replicate]
  have j:=Hid.mk hrep
  have d:=Hid.mk s
  clear hrep s
  (repeat' simp -dsimp (disch:=omega) only [↓EA,EB,Nat.reduceEqDiff,↓reduceIte,reduceCtorEq,eq_self, *,Awy])
  refine Yi (b:=h.length) (n:=0) (cap:=8) (c:=R8) (new:=[]) (by rw [Bh];rfl) (by rw [d.out];decide) (by decide) (by decide) rfl z ?_
  simp only [List.length_nil,Nat.add_zero,List.take_zero,List.nil_append,List.append_nil,List.drop_zero]
  rw [Dw (by rw [Bh];rfl)]
  (repeat' simp -dsimp (disch:=omega) only [↓EA,EB,Nat.reduceEqDiff,↓reduceIte,reduceCtorEq,eq_self, *,Awz])
  refine Yi (b:=h.length) (n:=0) (cap:=8) (c:=R8) (new:=[]) (by rw [Bh];rfl) (by rw [d.out];decide) (by decide) (by decide) rfl z ?_
  simp only [List.length_nil,Nat.add_zero,List.take_zero,List.nil_append,List.append_nil,List.drop_zero]
  rw [Dw (by rw [Bh];rfl)]
  have a5:=Ar1 (b:=h.length) (o:=0) (n:=0) (cap:=8) (k:=.i64) (k':=.i64) (x:=((8:Nat):Int)) (y:=((8:Nat):Int)) (by decide) (by decide) (by decide)
  have t:∀ x:LObj,q < (h ++ [x]).length:=fun x => by simp;omega
  (repeat' simp -dsimp (disch:=omega) only [↓EA,EB,Nat.reduceEqDiff,Nat.reduceAdd,Nat.reduceLeDiff,↓reduceIte,reduceCtorEq,eq_self, *,Bq (t _)])
  rw [List.set_set]
  refine ⟨fun b => b = q ∨ b = h.length,8,?_,by decide,by decide,?_⟩
  ·have a:=RingH.full (h:=List.set (h ++ [LObj.cells R8 false]) q (LObj.cells [.slice (some ⟨h.length,0,none⟩) R8.length R8.length,.int .i64 ((0:Nat):Int),.int .i64 (([]:List Value).length:Int)] false)) (q:=q) (l:=[]) (R:=R8) (f:=0) (rb:=h.length) (Bq (t _)) (by rw [An (by omega),Bh];rfl) (by omega) (by rw [← j.out];exact RingL.new 8 _ (by decide)) (by rw [d.out];decide) (fun x hx => by rw [← j.out] at hx;rw [List.eq_of_mem_replicate hx];rfl)
   rw [d.out] at a
   exact a
  ·refine ⟨by simp,fun b m => by rcases m with rfl | rfl;exact .inl rfl;exact .inr (Nat.le_refl _),fun b m => by rw [List.length_set,LA,List.length_singleton];rcases m with rfl | rfl <;> omega,fun b m hn => ?_⟩
   rw [An (fun e => hn e.symm),GL m]
 | full hq hr hne hR hs ho =>
  rename_i R f rb
  have hf:=hR.from_
  have a2:=(GI.1 hq).1
  have a0:=(GI.1 hr).1
  obtain ⟨M,aa⟩:∃ M,M = max 8 (2 * R.length):=⟨_,rfl⟩
  have hM:(max 8 (2 * (R.length:Int)):Int) = (M:Int):=by omega
  have ac:2 * R.length ≤ M ∧ 8 ≤ M ∧ M ≤ 8192:=by omega
  have hm:=Ann (n:=M) (by omega)
  have a9:∀ x,(h ++ x)[q]? = some (.cells [.slice (some ⟨rb,0,none⟩) R.length R.length,.int .i64 f,.int .i64 l.length] false):=fun x => by rw [GL a2];exact hq
  have a7:=hW q (.inl (.inl rfl))
  have z:=hW h.length (.inr (Nat.le_refl _))
  have ab:=Azz (b:=rb) (o:=0) (n:=R.length) (cap:=R.length) (k:=.i64) (x:=(f:Int)) (by omega) (by omega) (Nat.le_refl _)
  have a8:=Aw0 (b:=rb) (o:=0) (n:=R.length) (cap:=R.length) (k:=.i64) (x:=(f:Int)) (by omega) (by omega)
  rw [Int.toNat_natCast,Nat.zero_add] at ab
  rw [Int.toNat_natCast] at a8
  generalize hrep:List.replicate M (Value.pointer none) = RM at hm
  have s:RM.length = M:=by rw [← hrep,List.length_replicate]
  have j:=Hid.mk hrep
  have d:=Hid.mk s
  have HR:=Hid.mk hR
  have Ho:=Hid.mk ho
  have Hn:=Hid.mk hn
  clear hrep s hR ho hn aa
  (repeat' simp -dsimp (disch:=omega) only [↓EA,EB,Nat.reduceEqDiff,↓reduceIte,reduceCtorEq,eq_self, *])
  have g:(R.drop f).length = R.length - f:=List.length_drop ..
  have p:(R.take f).length = f:=by rw [List.length_take];omega
  have a4:∀ hh:Aa,hh[rb]? = some (.cells R false) → cellsOf 1 (.slice (some ⟨rb,f,none⟩) (R.length - f) (R.length - f)) hh = some ((R.drop f).length,R.drop f) ∧ cellsOf 1 (.slice (some ⟨rb,0,none⟩) f R.length) hh = some ((R.take f).length,R.take f):=fun hh e => by
   constructor
   ·rw [Ci,e,Ff,if_pos (by show f + (R.length - f) * 1 ≤ R.length;omega),Nat.mul_one,← g,List.take_length]
   ·rw [Ci,e,Ff,if_pos (by show 0 + f * 1 ≤ R.length;omega),Nat.mul_one,p,List.drop_zero]
  have a1:∀ x y:LObj,(h ++ [x]).set h.length y = h ++ [y]:=fun x y => by rw [List.set_append_right _ _ (Nat.le_refl _),Nat.sub_self];rfl
  refine Yi (b:=h.length) (n:=0) (cap:=M) (c:=RM) (new:=R.drop f) (by rw [Bh];rfl) (by rw [d.out];exact Nat.le_refl _) (by rw [g];omega) (by omega) (a4 _ (by rw [GL a0];exact hr)).1 z ?_
  rw [a1,g,List.take_zero,List.nil_append,Nat.zero_add]
  obtain ⟨C1,u⟩:∃ C1,C1 = R.drop f ++ RM.drop (R.length - f):=⟨_,rfl⟩
  have c1:C1.length = M:=by rw [u,LA,g,List.length_drop,d.out];omega
  have c2:C1.take (R.length - f) = R.drop f:=by rw [u,← g,List.take_left]
  have c3:C1.drop (R.length - f + f) = List.replicate (M - R.length) (.pointer none):=by
   rw [u,List.drop_append,List.drop_of_length_le (by rw [g];omega),List.nil_append,g,List.drop_drop,← j.out,List.drop_replicate]
   congr 1;omega
  rw [← u]
  have HC:=Hid.mk (AI c1 (AI c2 c3))
  clear u c1 c2 c3
  (repeat' simp -dsimp (disch:=omega) only [↓EA,EB,Nat.reduceEqDiff,↓reduceIte,reduceCtorEq,eq_self, *])
  refine Yi (b:=h.length) (n:=R.length - f) (cap:=M) (c:=C1) (new:=R.take f) (by rw [Bh];rfl) (by rw [HC.out.1];exact Nat.le_refl _) (by rw [p];omega) (by omega) (a4 _ (by rw [GL a0];exact hr)).2 z ?_
  rw [a1,p,HC.out.2.1,HC.out.2.2,show R.length - f + f = R.length by omega]
  have a5:=Ar1 (b:=h.length) (o:=0) (n:=R.length) (cap:=M) (k:=.i64) (k':=.i64) (x:=(M:Int)) (y:=(M:Int)) (by omega) (by omega) (by omega)
  rw [Int.toNat_natCast] at a5
  have t:∀ x:LObj,q < (h ++ [x]).length:=fun x => by simp;omega
  (repeat' simp -dsimp (disch:=omega) only [↓EA,EB,Nat.reduceEqDiff,Nat.reduceAdd,Nat.reduceLeDiff,↓reduceIte,reduceCtorEq,eq_self, *,Bq (t _)])
  rw [List.set_set]
  refine ⟨fun b => b = q ∨ b = h.length,M,?_,by have:=Hn.out;omega,by omega,?_⟩
  ·have a6:=HR.out.grow Hn.out (M - R.length) (Value.pointer none)
   have a3:(R.drop f ++ R.take f ++ List.replicate (M - R.length) (Value.pointer none)).length = M:=by simp;omega
   have a:=RingH.full (h:=List.set (h ++ [LObj.cells (R.drop f ++ R.take f ++ List.replicate (M - R.length) (Value.pointer none)) false]) q (LObj.cells [.slice (some ⟨h.length,0,none⟩) (R.drop f ++ R.take f ++ List.replicate (M - R.length) (Value.pointer none)).length (R.drop f ++ R.take f ++ List.replicate (M - R.length) (Value.pointer none)).length,.int .i64 ((0:Nat):Int),.int .i64 (l.length:Int)] false)) (q:=q) (l:=l) (f:=0) (rb:=h.length) (Bq (t _)) (by rw [An (by omega),Bh];rfl) (by omega) a6 (by rw [a3];omega) (fun x hx => by
    rcases List.mem_append.1 hx with hx | hx
    ·rcases List.mem_append.1 hx with hx | hx
     ·exact Ho.out x (List.mem_of_mem_drop hx)
     ·exact Ho.out x (List.mem_of_mem_take hx)
    ·rw [List.eq_of_mem_replicate hx];rfl)
   rw [a3] at a
   simp only [List.append_assoc] at a ⊢
   exact a
  ·refine ⟨by simp,fun b m => by rcases m with rfl | rfl;exact .inl (.inl rfl);exact .inr (Nat.le_refl _),fun b m => by rw [List.length_set,LA,List.length_singleton];rcases m with rfl | rfl <;> omega,fun b m hn => ?_⟩
   rw [An (fun e => hn (.inl e.symm)),GL m]
theorem Au0 (hE:As E) {h:Aa} {q:Nat} {l:List Value} {F:Nat → Prop} {N:Nat} (r:RingH h q l F N) (hN:N ≤ 8192) (hl:l.length ≤ 4096) {x:Value} (hx:Ag x = true) (hcx:Bj x = [x]) {W:Nat → Prop} (hW:∀ b,F b ∨ h.length ≤ b → W b) :
  WX W (callW E (.func (.func Aw) #[] #[]) [.pointer (some ⟨q,0,none⟩),x] h) (fun v h' => ∃ F' N',RingH h' q (l ++ [x]) F' N' ∧ N' ≤ 8192 ∧ Stp F F' h h'):=by
 refine E8 hE.Lm rfl (by simp) ?_
 simp only [List.nil_append,List.cons_append,Ai]
 by_cases z:l.length < N
 ·have n:=fun b d => hW b (.inl d)
  cases r with
  | empty hq => exact absurd z (by simp)
  | full hq hr hne hR hs ho =>
   rename_i R f rb
   have hf:=hR.from_
   have p:=(GI.1 hq).1
   have m:=(GI.1 hr).1
   have a:=hR.push z x
   have hm:=Nat.mod_lt (f + (l).length) (show 0 < R.length by omega)
   have e1:((f:Int) + ((l).length:Int)).tmod R.length = (((f + (l).length) % R.length:Nat):Int):=by rw [Int.tmod_eq_emod_of_nonneg (by omega)];simp
   generalize (f + (l).length) % R.length = j at *
   have hj:(j:Int) < R.length:=by omega
   have a2:((l).length:Int) ≤ 1048576 ∧ (f:Int) ≤ 1048576 ∧ (R.length:Int) ≤ 1048576 ∧ 0 < (R.length:Int):=by omega
   have a6:=n q (.inl rfl)
   have a3:=n rb (.inr rfl)
   have a5:((h).set rb (.cells (R.set j x) false))[q]? = some (.cells [.slice (some ⟨rb,0,none⟩) R.length R.length,.int .i64 f,.int .i64 (l).length] false):=(An hne).trans hq
   have a0:q < ((h).set rb (.cells (R.set j x) false)).length:=by rw [List.length_set];exact p
   have a4:setCells R j [x] = R.set j x:=rfl
   have a7:j + 1 ≤ R.length:=hm
   have HP:=Hid.mk a
   have HR:=Hid.mk hR
   have Ho:=Hid.mk ho
   clear a hR ho
   (repeat' (first | (with_reducible refine A3 (fun _ => ?_) (fun _ => ?_) <;> try (exfalso;omega)) | simp -dsimp (disch:=omega) only [↓EA,EB,Nat.reduceEqDiff,Nat.reduceAdd,↓reduceIte,reduceCtorEq,eq_self, *,N9,Int.toNat_natCast,Nat.mul_one]))
   have o:Stp (fun b => b = q ∨ b = rb) (fun b => b = q ∨ b = rb) h ((List.set (h) rb (LObj.cells (R.set j x) false)).set q (LObj.cells [.slice (some ⟨rb,0,none⟩) R.length R.length,.int .i64 f,.int .i64 (((l).length:Int) + 1)] false)):=by
    refine ⟨by simp,fun b d => .inl d,fun b d => by simp only [List.length_set];rcases d with rfl | rfl <;> assumption,fun b d t => ?_⟩
    rw [An (fun e => t (.inl e.symm)),An (fun e => t (.inr e.symm))]
   have c:=RingH.full (h:=(List.set (h) rb (LObj.cells (R.set j x) false)).set q (LObj.cells [.slice (some ⟨rb,0,none⟩) (R.set j x).length (R.set j x).length,.int .i64 f,.int .i64 ((l ++ [x]).length:Int)] false)) (q:=q) (l:=l ++ [x]) (R:=R.set j x) (f:=f) (rb:=rb) (Bq a0) (by rw [An (Ne.symm hne)];exact Bq m) hne HP.out (by rw [List.length_set];exact hs) (fun y hy => by
    rcases List.mem_or_eq_of_mem_set hy with hy | rfl
    ·exact Ho.out y hy
    ·exact hx)
   simp only [List.length_set,LA,List.length_singleton,Int.natCast_add,Int.natCast_one] at c
   refine ⟨_,_,c,by omega,o⟩
 ·have r0:=r
  cases r with
  | empty hq =>
   have hg:=Aif hE r0 rfl (by decide) hW
   clear r0
   (repeat' (first | (with_reducible refine A3 (fun _ => ?_) (fun _ => ?_) <;> try (exfalso;omega)) | simp -dsimp (disch:=omega) only [↓EA,EB,Nat.reduceEqDiff,↓reduceIte,reduceCtorEq,eq_self, *,N9]))
   refine WX.mono hg (fun b d => d) fun v h1 ⟨F1,N1,r1,g,a9,s⟩ => ?_
   have n:=fun b d => hW b (s.own b d)
   (repeat' simp -dsimp (disch:=omega) only [↓EA,EB,Nat.reduceEqDiff,↓reduceIte,reduceCtorEq,eq_self, *])
   obtain ⟨l,u⟩:∃ l,l = ([]:List Value):=⟨_,rfl⟩
   rw [show ([]:List Value) ++ [x] = l ++ [x] by rw [u]]
   rw [← u] at r1 g
   have aa:l.length ≤ 4096:=by rw [u];decide
   have ab:=Hid.mk u
   clear u hg hq hl
   cases r1 with
   | empty hq => exact absurd g (by simp)
   | full hq hr hne hR hs ho =>
    rename_i R f rb
    have hf:=hR.from_
    have p:=(GI.1 hq).1
    have m:=(GI.1 hr).1
    have a:=hR.push g x
    have hm:=Nat.mod_lt (f + (l).length) (show 0 < R.length by omega)
    have e1:((f:Int) + ((l).length:Int)).tmod R.length = (((f + (l).length) % R.length:Nat):Int):=by rw [Int.tmod_eq_emod_of_nonneg (by omega)];simp
    generalize (f + (l).length) % R.length = j at *
    have hj:(j:Int) < R.length:=by omega
    have a2:((l).length:Int) ≤ 1048576 ∧ (f:Int) ≤ 1048576 ∧ (R.length:Int) ≤ 1048576 ∧ 0 < (R.length:Int):=by omega
    have a6:=n q (.inl rfl)
    have a3:=n rb (.inr rfl)
    have a5:((h1).set rb (.cells (R.set j x) false))[q]? = some (.cells [.slice (some ⟨rb,0,none⟩) R.length R.length,.int .i64 f,.int .i64 (l).length] false):=(An hne).trans hq
    have a0:q < ((h1).set rb (.cells (R.set j x) false)).length:=by rw [List.length_set];exact p
    have a4:setCells R j [x] = R.set j x:=rfl
    have a7:j + 1 ≤ R.length:=hm
    have HP:=Hid.mk a
    have HR:=Hid.mk hR
    have Ho:=Hid.mk ho
    clear a hR ho
    (repeat' simp -dsimp (disch:=omega) only [↓EA,EB,Nat.reduceEqDiff,Nat.reduceAdd,↓reduceIte,reduceCtorEq,eq_self, *,Int.toNat_natCast,Nat.mul_one])
    have o:Stp (fun b => b = q ∨ b = rb) (fun b => b = q ∨ b = rb) h1 ((List.set (h1) rb (LObj.cells (R.set j x) false)).set q (LObj.cells [.slice (some ⟨rb,0,none⟩) R.length R.length,.int .i64 f,.int .i64 (((l).length:Int) + 1)] false)):=by
     refine ⟨by simp,fun b d => .inl d,fun b d => by simp only [List.length_set];rcases d with rfl | rfl <;> assumption,fun b d t => ?_⟩
     rw [An (fun e => t (.inl e.symm)),An (fun e => t (.inr e.symm))]
    have c:=RingH.full (h:=(List.set (h1) rb (LObj.cells (R.set j x) false)).set q (LObj.cells [.slice (some ⟨rb,0,none⟩) (R.set j x).length (R.set j x).length,.int .i64 f,.int .i64 ((l ++ [x]).length:Int)] false)) (q:=q) (l:=l ++ [x]) (R:=R.set j x) (f:=f) (rb:=rb) (Bq a0) (by rw [An (Ne.symm hne)];exact Bq m) hne HP.out (by rw [List.length_set];exact hs) (fun y hy => by
     rcases List.mem_or_eq_of_mem_set hy with hy | rfl
     ·exact Ho.out y hy
     ·exact hx)
    simp only [List.length_set,LA,List.length_singleton,Int.natCast_add,Int.natCast_one] at c
    refine ⟨_,_,c,by omega,(s.trans o)⟩
  | full hq hr hne hR hs ho =>
   have t:=hR.few
   have a1:((l.length:Nat):Int) = _:=congrArg Int.ofNat (show l.length = _ from Nat.le_antisymm t (by omega))
   have hg:=Aif hE r0 (by omega) (by omega) hW
   have a8:=congrArg Int.toNat a1
   clear hR hr ho hne hs
   (repeat' (first | (with_reducible refine A3 (fun _ => ?_) (fun _ => ?_) <;> try (exfalso;omega)) | simp -dsimp (disch:=omega) only [↓EA,EB,Nat.reduceEqDiff,↓reduceIte,reduceCtorEq,eq_self, *,N9]))
   refine WX.mono hg (fun b d => d) fun v h1 ⟨F1,N1,r1,g,a9,s⟩ => ?_
   have n:=fun b d => hW b (s.own b d)
   (repeat' simp -dsimp (disch:=omega) only [↓EA,EB,Nat.reduceEqDiff,↓reduceIte,reduceCtorEq,eq_self, *])
   clear t a1 a8 hg hq
   cases r1 with
   | empty hq => exact absurd g (by simp)
   | full hq hr hne hR hs ho =>
    rename_i R f rb
    have hf:=hR.from_
    have p:=(GI.1 hq).1
    have m:=(GI.1 hr).1
    have a:=hR.push g x
    have hm:=Nat.mod_lt (f + (l).length) (show 0 < R.length by omega)
    have e1:((f:Int) + ((l).length:Int)).tmod R.length = (((f + (l).length) % R.length:Nat):Int):=by rw [Int.tmod_eq_emod_of_nonneg (by omega)];simp
    generalize (f + (l).length) % R.length = j at *
    have hj:(j:Int) < R.length:=by omega
    have a2:((l).length:Int) ≤ 1048576 ∧ (f:Int) ≤ 1048576 ∧ (R.length:Int) ≤ 1048576 ∧ 0 < (R.length:Int):=by omega
    have a6:=n q (.inl rfl)
    have a3:=n rb (.inr rfl)
    have a5:((h1).set rb (.cells (R.set j x) false))[q]? = some (.cells [.slice (some ⟨rb,0,none⟩) R.length R.length,.int .i64 f,.int .i64 (l).length] false):=(An hne).trans hq
    have a0:q < ((h1).set rb (.cells (R.set j x) false)).length:=by rw [List.length_set];exact p
    have a4:setCells R j [x] = R.set j x:=rfl
    have a7:j + 1 ≤ R.length:=hm
    have HP:=Hid.mk a
    have HR:=Hid.mk hR
    have Ho:=Hid.mk ho
    clear a hR ho
    (repeat' simp -dsimp (disch:=omega) only [↓EA,EB,Nat.reduceEqDiff,Nat.reduceAdd,↓reduceIte,reduceCtorEq,eq_self, *,Int.toNat_natCast,Nat.mul_one])
    have o:Stp (fun b => b = q ∨ b = rb) (fun b => b = q ∨ b = rb) h1 ((List.set (h1) rb (LObj.cells (R.set j x) false)).set q (LObj.cells [.slice (some ⟨rb,0,none⟩) R.length R.length,.int .i64 f,.int .i64 (((l).length:Int) + 1)] false)):=by
     refine ⟨by simp,fun b d => .inl d,fun b d => by simp only [List.length_set];rcases d with rfl | rfl <;> assumption,fun b d t => ?_⟩
     rw [An (fun e => t (.inl e.symm)),An (fun e => t (.inr e.symm))]
    have c:=RingH.full (h:=(List.set (h1) rb (LObj.cells (R.set j x) false)).set q (LObj.cells [.slice (some ⟨rb,0,none⟩) (R.set j x).length (R.set j x).length,.int .i64 f,.int .i64 ((l ++ [x]).length:Int)] false)) (q:=q) (l:=l ++ [x]) (R:=R.set j x) (f:=f) (rb:=rb) (Bq a0) (by rw [An (Ne.symm hne)];exact Bq m) hne HP.out (by rw [List.length_set];exact hs) (fun y hy => by
     rcases List.mem_or_eq_of_mem_set hy with hy | rfl
     ·exact Ho.out y hy
     ·exact hx)
    simp only [List.length_set,LA,List.length_singleton,Int.natCast_add,Int.natCast_one] at c
    refine ⟨_,_,c,by omega,(s.trans o)⟩
theorem Azk {W:Nat → Prop} {h:Aa} {b f cap:Nat} {R:List Value} {Q:Value → Aa → Prop} (hb:h[b]? = some (.cells R false)) (hf:f < R.length) (hW:W b) (hq:∀ v,Q v (h.set b (.cells (R.set f (.pointer none)) false))):WX W (M3 [.pointer none] (.slice (some ⟨b,f,none⟩) 1 cap) h) Q:=by
 refine ⟨.tuple #[],_,[b],?_,fun y a => by rw [List.mem_singleton.1 a];exact hW,hq _⟩
 simp [M3,hb]
 exact ⟨⟨hf,rfl⟩,rfl⟩
theorem Ax1 (hE:As E) {h:Aa} {q:Nat} {x:Value} {l:List Value} {F:Nat → Prop} {N:Nat} (r:RingH h q (x :: l) F N) (hv:∀ y ∈ x :: l,Ae h.length 3 y = true ∧ Fm y = true) {W:Nat → Prop} (hW:∀ b,F b ∨ h.length ≤ b → W b) :
  WX W (callW E (.func (.func A8) #[] #[]) [.pointer (some ⟨q,0,none⟩)] h) (fun v h' => v = .tuple #[x,.bool true] ∧ RingH h' q l F N ∧ Stp F F h h'):=by
 refine E8 hE.Me rfl (by simp) ?_
 simp only [List.nil_append,List.cons_append,Ai]
 have m:=Au1 hE r hv 0
 rw [if_pos ⟨by decide,by simp⟩] at m
 have e0:(x :: l).getD (0:Int).toNat (.pointer none) = x:=rfl
 rw [e0] at m
 obtain ⟨a4,a2⟩:=hv x (by simp)
 cases r with
 | full hq hr hne hR hs ho =>
  rename_i R f rb
  obtain ⟨c,u⟩:=hR.pop rfl (.pointer none)
  have hf:=hR.from_
  have s:=(GI.1 hq).1
  have d:=(GI.1 hr).1
  have a0:=Ar0 (b:=rb) (o:=0) (n:=R.length) (cap:=R.length) (k:=.i64) (k':=.i64) (x:=(f:Int)) (y:=(f:Int) + 1) (by omega) (by omega) (by omega)
  rw [Int.toNat_natCast,Nat.zero_add,show ((f:Int) + 1).toNat - f = 1 by omega] at a0
  have a3:=hW q (.inl (.inl rfl))
  have a1:=hW rb (.inl (.inr rfl))
  have e1:((f:Int) + 1).tmod R.length = (((f + 1) % R.length:Nat):Int):=by rw [Int.tmod_eq_emod_of_nonneg (by omega)];simp
  have hm:=Nat.mod_lt (f + 1) (show 0 < R.length by omega)
  have a5:(h.set rb (.cells (R.set f (.pointer none)) false))[q]? = some (.cells [.slice (some ⟨rb,0,none⟩) R.length R.length,.int .i64 f,.int .i64 (x :: l).length] false):=(An hne).trans hq
  have z:q < (h.set rb (.cells (R.set f (.pointer none)) false)).length:=by rw [List.length_set];exact s
  have HP:=Hid.mk c
  have Ho:=Hid.mk ho
  have g:=hR.few
  rw [List.length_cons] at g
  clear c u ho hR
  (repeat' simp -dsimp (disch:=omega) only [↓EA,EB,Nat.reduceEqDiff,↓reduceIte,reduceCtorEq,eq_self, *])
  refine Azk hr hf a1 fun v => ?_
  generalize hj:(f + 1) % R.length = j at *
  have Hj:=Hid.mk hj
  clear hj
  (repeat' simp -dsimp (disch:=omega) only [↓EA,EB,Nat.reduceEqDiff,Nat.reduceAdd,Nat.reduceLeDiff,↓reduceIte,reduceCtorEq,eq_self, *])
  have hP:RingL (R.set f (.pointer none)) j l:=HP.out
  rw [List.set_set,show ((l.length + 1:Nat):Int) - 1 = l.length by omega]
  refine ⟨?_,?_⟩
  ·have a:=RingH.full (h:=(h.set rb (LObj.cells (R.set f (.pointer none)) false)).set q (LObj.cells [.slice (some ⟨rb,0,none⟩) (R.set f (.pointer none)).length (R.set f (.pointer none)).length,.int .i64 j,.int .i64 (l.length:Int)] false)) (q:=q) (l:=l) (R:=R.set f (.pointer none)) (f:=j) (rb:=rb) (Bq z) (by rw [An (Ne.symm hne)];exact Bq d) hne hP (by rw [List.length_set];exact hs) (fun y t => by
    rcases List.mem_or_eq_of_mem_set t with t | rfl
    ·exact Ho.out y t
    ·rfl)
   simp only [List.length_set] at a
   exact a
  ·refine ⟨by simp,fun b p => .inl p,fun b p => by simp only [List.length_set];rcases p with rfl | rfl <;> assumption,fun b p hn => ?_⟩
   rw [An (fun e => hn (.inl e.symm)),An (fun e => hn (.inr e.symm))]
end Go.L.Try
namespace Go.L.Try
open Go Go.L
variable {E:Env}
theorem Av8 {m b off:Nat} {sp:Option Nat} {A:Prop} (h:b < m):WL m (.pointer (some ⟨b,off,sp⟩)) A = A:=by simp [WL,low,h]
theorem A1c {m b off:Nat} {sp:Option Nat} {A:Prop} (h:m ≤ b):WHi m (.pointer (some ⟨b,off,sp⟩)) A = A:=by simp [WHi,high,h]
def Dp (p:Int × Int):List Value:=[.int .i64 p.1,.int .u64 p.2]
theorem Kl (l:List (Int × Int)):(l.map Dp).flatten.length = l.length * 2:=by
  have:(l.map Dp).length = l.length:=List.length_map ..
  rw [Ee (sz:=2) (L:=l.map Dp) (fun e c => by obtain ⟨a,_,rfl⟩:=List.mem_map.1 c;rfl),this]
inductive HeapH (h:Aa) (q:Nat) (lv:Value):List (Int × Int) → (Nat → Prop) → Prop
  | nil {came:Int} (hq:h[q]? = some (.cells [lv,.slice none 0 0,.int .u64 came] false)):HeapH h q lv [] (fun b => b = q)
  | some {its:List (Int × Int)} {ib:Nat} {c:List Value} {came:Int} (hq:h[q]? = some (.cells [lv,.slice (some ⟨ib,0,some 2⟩) its.length its.length,.int .u64 came] false)) (hi:h[ib]? = some (.cells ((its.map Dp).flatten ++ c) false)) (hne:ib ≠ q) (few:its.length ≤ 8192):HeapH h q lv its (fun b => b = q ∨ b = ib)
theorem HeapH.keep {h h':Aa} {q:Nat} {lv:Value} {l:List (Int × Int)} {F:Nat → Prop} (r:HeapH h q lv l F) (hk:∀ b,F b → h'[b]? = h[b]?):HeapH h' q lv l F:=by
  cases r with
  | nil hq => exact .nil (by rw [hk q rfl];exact hq)
  | some hq hi hne few => exact .some (by rw [hk q (.inl rfl)];exact hq) (by rw [hk _ (.inr rfl)];exact hi) hne few
theorem HeapH.lt {h:Aa} {q:Nat} {lv:Value} {l:List (Int × Int)} {F:Nat → Prop} (r:HeapH h q lv l F):∀ b,F b → b < h.length:=by
  cases r with
  | nil hq => intro b a;subst a;exact (GI.1 hq).1
  | some hq hi hne few =>
    rintro b (rfl | rfl)
    · exact (GI.1 hq).1
    · exact (GI.1 hi).1
theorem HeapH.head {h:Aa} {q:Nat} {lv:Value} {l:List (Int × Int)} {F:Nat → Prop} (r:HeapH h q lv l F):F q:=by
  cases r with
  | nil hq => rfl
  | some hq hi hne few => exact .inl rfl
theorem HeapH.open_ {h:Aa} {q:Nat} {lv:Value} {l:List (Int × Int)} {F:Nat → Prop} (r:HeapH h q lv l F) (hn:l ≠ []):∃ ib c came,h[q]? = Option.some (LObj.cells [lv,.slice (Option.some ⟨ib,0,Option.some 2⟩) l.length l.length,.int .u64 came] false) ∧ h[ib]? = Option.some (LObj.cells ((l.map Dp).flatten ++ c) false) ∧ ib ≠ q ∧ l.length ≤ 8192 ∧ F = fun b => b = q ∨ b = ib:=by
  cases r with
  | nil d => exact absurd rfl hn
  | some d e a few => exact ⟨_,_,_,d,e,a,few,rfl⟩
theorem Akf {h:Aa} {ib:Nat} {its:List (Int × Int)} {c:List Value} (hi:h[ib]? = some (.cells ((its.map Dp).flatten ++ c) false)) (few:its.length ≤ 8192):Rd 2 Dp h (.slice (some ⟨ib,0,some 2⟩) its.length its.length) its:=by
  refine ⟨fun e d => by obtain ⟨a,_,rfl⟩:=List.mem_map.1 d;rfl,by rw [List.length_map];omega,.inr ⟨ib,0,some 2,its.length,_,false,by rw [List.length_map],hi,?_,?_,by rw [List.length_map];exact Nat.le_refl _,.inr rfl⟩⟩
  · rw [LA,Kl,List.length_map];omega
  · rw [List.drop_zero,List.length_map,← Kl,List.take_left]
theorem Ayj {W:Nat → Prop} {h:Aa} {ib:Nat} {its:List (Int × Int)} {c:List Value} (hi:h[ib]? = some (.cells ((its.map Dp).flatten ++ c) false)) {i:Int} {x:Int × Int} {Q:Aa → Prop} (h1:0 ≤ i) (h2:i < its.length) (hW:W ib)
    (hq:(h.set ib (.cells (((its.set i.toNat x).map Dp).flatten ++ c) false))[ib]? = some (.cells (((its.set i.toNat x).map Dp).flatten ++ c) false) → Q (h.set ib (.cells (((its.set i.toNat x).map Dp).flatten ++ c) false))):WH W (stO 2 h ib (0 + i.toNat * 2) [.int .i64 x.1,.int .u64 x.2] h[ib]?) Q:=by
  have g:=(GI.1 hi).1
  have f:∀ e ∈ its.map Dp,e.length = 2:=fun e d => by obtain ⟨a,_,rfl⟩:=List.mem_map.1 d;rfl
  have l:setCells ((its.map Dp).flatten ++ c) (0 + i.toNat * 2) [.int .i64 x.1,.int .u64 x.2] = ((its.set i.toNat x).map Dp).flatten ++ c:=by
    have m:=Kl its
    rw [F0,F0,Jd,Nat.zero_add,List.set_append_left _ _ (by omega),List.set_append_left _ _ (by rw [List.length_set];omega)]
    congr 1
    have j:=Sa f i.toNat 0 (.int .i64 x.1) (by rw [List.length_map];omega) (by decide)
    rw [Nat.add_zero] at j
    rw [j]
    rw [Sa (L:=(its.map Dp).set i.toNat _) (fun e d => by
      rcases List.mem_or_eq_of_mem_set d with d | rfl
      · exact f e d
      · rw [List.length_set];exact f _ (Row.getD_mem (by rw [List.length_map];omega))) i.toNat 1 (.int .u64 x.2) (by rw [List.length_set,List.length_map];omega) (by decide)]
    rw [List.set_set,List.map_set]
    congr 2
    rw [List.getD_eq_getElem?_getD,List.getElem?_set_self (by rw [List.length_map];omega),Option.getD_some]
    have:its[i.toNat]? = some its[i.toNat]:=List.getElem?_eq_getElem (by omega)
    rw [List.getD_eq_getElem?_getD,List.getElem?_map,this]
    rfl
  rw [hi,Ml,if_pos ⟨rfl,by rw [LA,Kl];omega,rfl⟩,Abk,l]
  exact ⟨hW,hq (Bq g)⟩
theorem Av5 (l:List (Int × Int)) (i:Nat):atI l (i:Int) = gN l i:=rfl
theorem Aap (hE:As E) {h:Aa} {q:Nat} {lv:Value} {its:List (Int × Int)} {F:Nat → Prop} (r:HeapH h q lv its F) {i k:Nat} (hi:i < its.length) (hk:k < its.length) {W:Nat → Prop} (hW:∀ b,F b → W b) :
    WX W (callW E (.func (.func Bw) #[] #[]) [.pointer (some ⟨q,0,none⟩),.int .i64 i,.int .i64 k] h) (fun _ h' => HeapH h' q lv (D4 its i k) F ∧ Stp F F h h' ∧ h'.length = h.length):=by
  refine E8 hE.Uf rfl (by simp) ?_
  simp only [List.nil_append,List.cons_append,Ai]
  cases r with
  | nil hq => simp at hi
  | some hq hib hne few =>
    rename_i ib c came
    have rd:=Akf hib few
    have l:=hW ib (.inr rfl)
    have n:(0:Int) ≤ (i:Int) ∧ (i:Int) < its.length:=by omega
    have o:(0:Int) ≤ (k:Int) ∧ (k:Int) < its.length:=by omega
    have g:=Hid.mk hib
    clear hib
    (repeat' simp -dsimp (disch:=omega) only [↓EA,EB,Nat.reduceEqDiff,Nat.reduceAdd,↓reduceIte,reduceCtorEq,eq_self, *,rd.ixs,rd.lda,Dp])
    refine Ayj (c:=c) (i:=(i:Int)) (x:=atI its k) g.out n.1 n.2 l fun d => ?_
    have f:=Hid.mk d
    clear d
    (repeat' simp -dsimp (disch:=omega) only [↓EA,EB,Nat.reduceEqDiff,↓reduceIte,eq_self, *,rd.ixs])
    refine Ayj (c:=c) (i:=(k:Int)) (x:=atI its i) f.out o.1 (by rw [List.length_set];exact o.2) l fun a => ?_
    have j:=Hid.mk a
    clear a
    (repeat' simp -dsimp (disch:=omega) only [↓EA,EB,eq_self, *])
    have e:(its.set ((i:Int)).toNat (atI its k)).set ((k:Int)).toNat (atI its i) = D4 its i k:=rfl
    have a:=j.out
    rw [List.set_set] at a ⊢
    rw [e] at a ⊢
    refine ⟨?_,⟨by rw [List.length_set];exact Nat.le_refl _,fun b m => .inl m,fun b m => ?_,fun b m p => An fun e => p (.inr e.symm)⟩⟩
    · have s:=HeapH.some (h:=h.set ib (.cells ((List.map Dp (D4 its i k)).flatten ++ c) false)) (q:=q) (lv:=lv) (its:=D4 its i k) (ib:=ib) (c:=c) (came:=came) (by rw [An hne,Cj];exact hq) a hne (by rw [Cj];exact few)
      exact s
    · rw [List.length_set]
      exact HeapH.lt (HeapH.some hq g.out hne few) b m
def Xi (E:Env) (h0:Aa) (lv:Value) (P:Int → Int) (n:Nat):Prop:=∀ hh,Pre h0 hh → ∀ a b:Int,0 ≤ a → a < n → 0 ≤ b → b < n → callW E lv [.int .i64 a,.int .i64 b] hh = some (.bool (decide (P a < P b)),hh,[])
theorem Ada (hE:As E) {h0 h:Aa} {q n:Nat} {lv:Value} {P:Int → Int} {its:List (Int × Int)} {F:Nat → Prop} (r:HeapH h q lv its F) (hp:Pre h0 h) (hlv:Ag lv = true) (hl:Xi E h0 lv P n) (hin:∀ p ∈ its,0 ≤ p.1 ∧ p.1 < n) {i k:Nat} (hi:i < its.length) (hk:k < its.length) (hne:P (gN its i).1 ≠ P (gN its k).1) :
    callW E (.func (.func B4) #[] #[]) [.pointer (some ⟨q,0,none⟩),.int .i64 i,.int .i64 k] h = some (.bool (decide (P (gN its i).1 < P (gN its k).1)),h,[]):=by
  refine Ak hE.Tk rfl (by simp) ?_
  simp only [Ai]
  cases r with
  | nil hq => simp at hi
  | some hq hib hne2 few =>
    rename_i j c a
    have rd:=Akf hib few
    have o:(0:Int) ≤ (i:Int) ∧ (i:Int) < its.length:=by omega
    have s:(0:Int) ≤ (k:Int) ∧ (k:Int) < its.length:=by omega
    have e:=hin _ (Al (l:=its) (i:=(i:Int)) o.1 o.2)
    have f:=hin _ (Al (l:=its) (i:=(k:Int)) s.1 s.2)
    have z:=fun x => hl (h ++ x) (hp.app' x) _ _ e.1 e.2 f.1 f.2
    have y:=fun x => hl (h ++ x) (hp.app' x) _ _ f.1 f.2 e.1 e.2
    have d:j < h.length:=(GI.1 hib).1
    have m:q < h.length:=(GI.1 hq).1
    have u:blk (.slice (some ⟨j,0,some 2⟩) its.length its.length) < h.length:=d
    generalize Value.slice (some ⟨j,0,some 2⟩) its.length its.length = v at *
    have t:∀ x,(h ++ x)[q]? = some (.cells [lv,v,.int .u64 a] false):=fun x => by rw [GL m];exact hq
    rw [← Av5,← Av5] at hne ⊢
    have g:=Hid.mk hne
    clear hin hl hib hne
    (repeat' (first | (with_reducible refine A3 (fun _ => ?_) (fun _ => ?_) <;> try (exfalso;omega)) | simp -dsimp (disch:=omega) only [↓EA,EB,Nat.reduceEqDiff,Nat.reduceAdd,↓reduceIte,reduceCtorEq,Ab,eq_self, *,rd.ixs,rd.ldxa,Dp,Av8,A1c]))
    exfalso;have:=g.out;omega
theorem Anx (hE:As E) {h:Aa} {q:Nat} {lv:Value} {its:List (Int × Int)} {F:Nat → Prop} (r:HeapH h q lv its F) :
    callW E (.func (.func Di) #[] #[]) [.pointer (some ⟨q,0,none⟩)] h = some (.int .i64 its.length,h,[]):=by
  refine Ak hE.Vn rfl (by simp) ?_
  simp only [Ai]
  cases r with
  | nil hq => (repeat' simp -dsimp (disch:=omega) only [↓EA,EB,↓reduceIte,reduceCtorEq,eq_self, *,N9])
  | some hq hib hne2 few => (repeat' simp -dsimp (disch:=omega) only [↓EA,EB,↓reduceIte,reduceCtorEq,eq_self, *,N9])
theorem Aut (hE:As E) {h:Aa} {q:Nat} {lv:Value} {its:List (Int × Int)} {F:Nat → Prop} (r:HeapH h q lv its F) :
    callW E (.func (.func Cx) #[] #[]) [.pointer (some ⟨q,0,none⟩)] h = some (if its = [] then .tuple #[.int .i64 0,.bool false] else .tuple #[.int .i64 (gN its 0).1,.bool true],h,[]):=by
  have e:=Anx hE r
  refine Ak hE.Ui rfl (by simp) ?_
  simp only [Ai]
  by_cases a:its = []
  · subst a
    rw [if_pos rfl]
    (repeat' (first | (with_reducible refine A3 (fun _ => ?_) (fun _ => ?_) <;> try (exfalso;omega)) | simp -dsimp (disch:=omega) only [↓EA,EB,Nat.reduceEqDiff,↓reduceIte,reduceCtorEq,eq_self, *]))
  · rw [if_neg a]
    have c:0 < its.length:=List.length_pos_iff.2 a
    cases r with
    | nil hq => exact absurd rfl a
    | some hq hib hne2 few =>
      have rd:=Akf hib few
      have d:atI its 0 = gN its 0:=rfl
      (repeat' (first | (with_reducible refine A3 (fun _ => ?_) (fun _ => ?_) <;> try (exfalso;omega)) | simp -dsimp (disch:=omega) only [↓EA,EB,Nat.reduceEqDiff,↓reduceIte,reduceCtorEq,eq_self, *,rd.ixs,rd.ld0,Dp]))
theorem Aji {W:Nat → Prop} {h:Aa} {v:Value} {its:List (Int × Int)} {ib:Nat} {c:List Value} {a:Value} {x:Int × Int} {Q:Value → Aa → Prop} (hv:(v = .slice none 0 0 ∧ its = []) ∨ (v = .slice (some ⟨ib,0,some 2⟩) its.length its.length ∧ h[ib]? = some (.cells ((its.map Dp).flatten ++ c) false) ∧ W ib)) (few:its.length ≤ 8192)
    (ha:cellsOf 2 a h = some (1,Dp x))
    (hq:∀ h',h'.length = h.length + 1 → h'[h.length]? = some (.cells (((its ++ [x]).map Dp).flatten) false) → (∀ b,b < h.length → (its ≠ [] ∨ v ≠ .slice none 0 0 → b ≠ ib) → h'[b]? = h[b]?) → Q (.slice (some ⟨h.length,0,some 2⟩) (its.length + 1) (its.length + 1)) h'):WX W (B9 2 16 v a h) Q:=by
  have d:(its.length + 1) * 16 ≤ 140737488355328 ∧ its.length + 1 < 4611686018427387904 ∧ (2:Nat) ≠ 0 ∧ (16:Nat) ≠ 0:=⟨by omega,by omega,by decide,by decide⟩
  have m:((its ++ [x]).map Dp).flatten = (its.map Dp).flatten ++ Dp x:=by simp
  rcases hv with ⟨rfl,rfl⟩ | ⟨rfl,f,o⟩
  · refine ⟨_,_,[],?_,(fun b g => nomatch g),hq (h ++ [.cells (Dp x) false]) (by simp) (by rw [Bh];rfl) (fun b g _ => GL g)⟩
    have j:cellsOf 2 (.slice none 0 0) h = some (0,[]):=rfl
    simp only [B9,ha,j,List.length_nil,Nat.zero_add,if_true,Nat.one_ne_zero,if_false,List.nil_append]
    rfl
  · have n:=(GI.1 f).1
    refine ⟨_,_,[ib],?_,(fun b g => by rw [List.mem_singleton.1 g];exact o),hq (h.set ib .dead ++ [.cells ((its.map Dp).flatten ++ Dp x) false]) (by simp) ?_ (fun b g l => ?_)⟩
    · have j:cellsOf 2 (.slice (some ⟨ib,0,some 2⟩) its.length its.length) h = some (its.length,(its.map Dp).flatten):=by
        rw [Ci,f,Ff,if_pos (by show 0 + its.length * 2 ≤ _;rw [LA,Kl];omega)]
        show some (its.length,(((its.map Dp).flatten ++ c).drop 0).take (its.length * 2)) = _
        rw [List.drop_zero,← Kl,List.take_left]
      simp only [B9,ha,j,Nat.one_ne_zero,if_false,d,and_self,if_true,f,ne_eq,not_false_eq_true]
    · rw [List.getElem?_append_right (by simp),List.length_set,Nat.sub_self,m];rfl
    · rw [GL (by rw [List.length_set];exact g),An]
      exact fun e => l (.inr (by simp)) e.symm
theorem Azd {P:Int → Int} {L:List (Int × Int)} (h:(L.map fun p => P p.1).Nodup) {i j:Nat} (hi:i < L.length) (hj:j < L.length) (hij:i ≠ j):P (gN L i).1 ≠ P (gN L j).1:=by
  rw [Adb hi,Adb hj]
  intro e
  have a:=List.pairwise_iff_getElem.1 h
  rcases Nat.lt_or_ge i j with h2 | h2
  · exact a i j (by simpa using hi) (by simpa using hj) h2 (by simpa using e)
  · exact a j i (by simpa using hj) (by simpa using hi) (by omega) (by simpa using e.symm)
theorem A1j {i:Nat} (h:0 < i):((i:Int) - 1).tdiv 2 = (((i - 1) / 2:Nat):Int):=by
  rw [Int.tdiv_eq_ediv_of_nonneg (by omega)];omega
structure UpS (h0 h:Aa) (q:Nat) (lv:Value) (P:Int → Int) (n:Nat) (A:List (Int × Int)) (F:Nat → Prop) (L:List (Int × Int)) (F':Nat → Prop) (h':Aa):Prop where
  r:HeapH h' q lv L F'
  st:Stp F F' h h'
  perm:L.Perm A
theorem A0p (hE:As E) {h0 h:Aa} {q n:Nat} {lv:Value} {P:Int → Int} {A:List (Int × Int)} {F:Nat → Prop} (r:HeapH h q lv A F) (hp:Pre h0 h) (hge:∀ b,F b → h0.length ≤ b) (hlv:Ag lv = true) (hl:Xi E h0 lv P n) (hin:∀ p ∈ A,0 ≤ p.1 ∧ p.1 < n) (hnd:(A.map fun p => P p.1).Nodup) (hu:UpL (fun p => P p.1) A (A.length - 1)) (hA:A.length ≤ 8192) {W:Nat → Prop} (hW:∀ b,F b → W b) {fr:Fr} (g0:get fr 0 = .pointer (some ⟨q,0,none⟩)) (g4:get fr 4 = .int .i64 ((A.length - 1:Nat):Int)) {Q:Ex → Fr → Aa → Prop}
    (hq:∀ fr' h' L,HeapH h' q lv L F → Stp F F h h' → Qw (fun p => P p.1) L → L.Perm A → Q (.exit 0) fr' h'):WO W (iterW (code (callW E) iterW 54 Fb) fr h) Q:=by
  refine WO.loop (fun (a:Nat × List (Int × Int)) fr h' => HeapH h' q lv a.2 F ∧ Stp F F h h' ∧ UpL (fun p => P p.1) a.2 a.1 ∧ a.2.Perm A ∧ get fr 0 = .pointer (some ⟨q,0,none⟩) ∧ get fr 4 = .int .i64 (a.1:Int)) (fun a => a.1) ?_ (A.length - 1,A) ⟨r,⟨Nat.le_refl _,fun b j => .inl j,r.lt,fun b _ _ => rfl⟩,hu,List.Perm.refl _,g0,g4⟩
  rintro ⟨i,L⟩ fr h' ⟨s,st,u,f,g0,g4⟩
  dsimp only at s st u f g0 g4 ⊢
  have d:L.length = A.length:=f.length_eq
  have t:=u.lt
  have m:Pre h0 h':=fun b o j => by
    have z:=(GI.1 j).1
    rw [st.keep b (Nat.lt_of_lt_of_le z hp.le) (fun hf => by have:=hge b hf;omega)]
    exact hp b o j
  have c:∀ p ∈ L,0 ≤ p.1 ∧ p.1 < n:=fun p y => hin p (f.mem_iff.1 y)
  have e:(L.map fun p => P p.1).Nodup:=(f.map _).nodup_iff.2 hnd
  have St:=Hid.mk st
  have l:=Hid.mk d
  have a1:=Hid.mk e
  have x:=Hid.mk c
  have Hq:=Hid.mk hq
  clear st d e c hin hnd hq
  unfold Fb
  have a4:(i:Int) < 8192:=by have:=l.out;omega
  by_cases g:0 < i
  · have e1:=A1j g
    have ha:=Ada hE s m hlv hl x.out (i:=i) (k:=(i - 1) / 2) t (by omega) (Azd a1.out t (by omega) (by omega))
    have a0:=Aap hE s (i:=i) (k:=(i - 1) / 2) t (by omega) hW
    (repeat' (first | (with_reducible refine A1 (fun _ => ?_) (fun _ => ?_) <;> try (exfalso;omega)) | (with_reducible refine A3 (fun _ => ?_) (fun _ => ?_) <;> try (exfalso;omega)) | simp -dsimp (disch:=omega) only [↓EA,EB,Nat.reduceEqDiff,↓reduceIte,reduceCtorEq,eq_self, *]))
    · refine WX.mono a0 (fun b j => j) fun v h2 ⟨r2,a2,a3⟩ => ?_
      (repeat' simp -dsimp (disch:=omega) only [↓EA,EB,Nat.reduceEqDiff,↓reduceIte,reduceCtorEq,eq_self, *])
      exact Next.mk ((i - 1) / 2,D4 L i ((i - 1) / 2)) ⟨r2,St.out.trans a2,Awf u g ‹_›,(Tz t (by omega)).trans f,rfl,rfl⟩ (by show (i - 1) / 2 < i;omega)
    · exact Hq.out _ _ L s St.out (Ari u fun _ => ‹_›) f
  · (repeat' (first | (with_reducible refine A1 (fun _ => ?_) (fun _ => ?_) <;> try (exfalso;omega)) | simp -dsimp (disch:=omega) only [↓EA,EB,Nat.reduceEqDiff,↓reduceIte,reduceCtorEq,eq_self, *]))
    exact Hq.out _ _ L s St.out (Ari u fun h => absurd h g) f
theorem Aus (hE:As E) {h0 h:Aa} {q n:Nat} {lv:Value} {P:Int → Int} {A:List (Int × Int)} {F:Nat → Prop} (r:HeapH h q lv A F) (hp:Pre h0 h) (hge:∀ b,F b → h0.length ≤ b) (hlv:Ag lv = true) (hl:Xi E h0 lv P n) (hin:∀ p ∈ A,0 ≤ p.1 ∧ p.1 < n) (hnd:(A.map fun p => P p.1).Nodup) {x:Int} (hx:0 ≤ x ∧ x < n) (hxn:∀ p ∈ A,P p.1 ≠ P x) (hh:Qw (fun p => P p.1) A) (few:A.length < 8192) {W:Nat → Prop} (hW:∀ b,F b ∨ h.length ≤ b → W b) :
    WX W (callW E (.func (.func Ba) #[] #[]) [.pointer (some ⟨q,0,none⟩),.int .i64 x] h) (fun _ h' => ∃ L F',HeapH h' q lv L F' ∧ Stp F F' h h' ∧ Qw (fun p => P p.1) L ∧ (L.map Prod.fst).Perm (x :: A.map Prod.fst)):=by
  refine E8 hE.Uh rfl (by simp) ?_
  simp only [List.nil_append,List.cons_append,Ai]
  have a4:=r.lt q r.head
  have ae:=hW q (.inl r.head)
  have ac:=fun b (d:h.length ≤ b) => hW b (.inr d)
  have a6:=ac (h.length + 1) (by omega)
  obtain ⟨v,came,ib,c,g,hv,hF⟩:∃ v came ib c,h[q]? = some (.cells [lv,v,.int .u64 came] false) ∧ ((v = .slice none 0 0 ∧ A = []) ∨ (v = .slice (some ⟨ib,0,some 2⟩) A.length A.length ∧ h[ib]? = some (.cells ((A.map Dp).flatten ++ c) false) ∧ W ib)) ∧ (F = (fun b => b = q) ∨ (F = (fun b => b = q ∨ b = ib) ∧ ib ≠ q)):=by
    cases r with
    | nil g => exact ⟨_,_,0,[],g,.inl ⟨rfl,rfl⟩,.inl rfl⟩
    | some g m a2 few2 => exact ⟨_,_,_,_,g,.inr ⟨rfl,m,hW _ (.inl (.inr rfl))⟩,.inr ⟨rfl,a2⟩⟩
  have a1:Ag v = true ∧ Ly false v = some (.int .i64 A.length):=by
    rcases hv with ⟨rfl,rfl⟩ | ⟨rfl,_⟩ <;> exact ⟨rfl,rfl⟩
  have aa:∀ X:Prop,WL h.length v X = X:=fun X => by
    rcases hv with ⟨rfl,_⟩ | ⟨rfl,m,_⟩
    · simp [WL,low]
    · have:=(GI.1 m).1
      simp [WL,low,this]
  have ak:=Aa3 a1.1
  obtain ⟨ai,ah⟩:=a1
  have a5:∀ y,(h ++ y)[q]? = some (.cells [lv,v,.int .u64 came] false):=fun y => by rw [GL a4];exact g
  have Hv:=Hid.mk hv
  have Hl:=Hid.mk hl
  have HF:=Hid.mk hF
  have Hr:=Hid.mk r
  clear hv hl hF r
  (repeat' simp -dsimp (disch:=omega) only [↓EA,EB,Nat.reduceEqDiff,Nat.reduceAdd,Nat.reduceLeDiff,Nat.reduceMul,↓reduceIte,reduceCtorEq,Ab,Q7,eq_self, *,N9,Av8])
  refine Aji (its:=A) (ib:=ib) (c:=c) (x:=(x,came)) ?_ (by omega) ?_ fun z a7 u l => ?_
  · rcases Hv.out with ⟨rfl,e⟩ | ⟨rfl,t,h4⟩
    · exact .inl ⟨rfl,e⟩
    · exact .inr ⟨rfl,by rw [GL (GI.1 t).1];exact t,h4⟩
  · rw [Ci,Bh];rfl
  rw [LA,List.length_singleton] at a7 u
  have a0:A ≠ [] ∨ v ≠ .slice none 0 0 → ib ≠ q:=fun hh => by
    rcases HF.out with e | ⟨_,e⟩
    · rcases Hv.out with ⟨rfl,e2⟩ | ⟨rfl,t,h4⟩
      · rcases hh with hh | hh
        · exact absurd e2 hh
        · exact absurd rfl hh
      · cases Hr.out with
        | nil hq' => rw [g] at hq';cases hq'
        | some hq' _ hne _ => rw [g] at hq';cases hq';exact hne
    · exact e
  have am:z[q]? = some (.cells [lv,v,.int .u64 came] false):=by
    rw [l q (by simp;omega) fun hh => (a0 hh).symm];exact a5 _
  have j:q < z.length:=by omega
  have af:=Hid.mk u
  have a8:=Hid.mk l
  clear u l a5 aa
  (repeat' simp -dsimp (disch:=omega) only [↓EA,EB,Nat.reduceEqDiff,Nat.reduceAdd,Nat.reduceLeDiff,↓reduceIte,reduceCtorEq,eq_self, *,Bq j,List.set_set])
  have a3:HeapH (z.set q (.cells [lv,.slice (some ⟨h.length + 1,0,some 2⟩) (A.length + 1) (A.length + 1),.int .u64 (IntKind.u64.wrap (came + 1))] false)) q lv (A ++ [(x,came)]) (fun b => b = q ∨ b = h.length + 1):=by
    have t:=HeapH.some (h:=z.set q (.cells [lv,.slice (some ⟨h.length + 1,0,some 2⟩) (A ++ [(x,came)]).length (A ++ [(x,came)]).length,.int .u64 (IntKind.u64.wrap (came + 1))] false)) (q:=q) (lv:=lv) (its:=A ++ [(x,came)]) (ib:=h.length + 1) (c:=[]) (came:=IntKind.u64.wrap (came + 1)) (Bq j) (by rw [An (by omega),List.append_nil];exact af.out) (by omega) (by rw [LA,List.length_singleton];omega)
    rw [LA,List.length_singleton] at t
    exact t
  have f:Stp F (fun b => b = q ∨ b = h.length + 1) h (z.set q (.cells [lv,.slice (some ⟨h.length + 1,0,some 2⟩) (A.length + 1) (A.length + 1),.int .u64 (IntKind.u64.wrap (came + 1))] false)):=by
    refine ⟨by rw [List.length_set];omega,fun b d => ?_,fun b d => by rw [List.length_set];rcases d with rfl | rfl <;> omega,fun b d hn => ?_⟩
    · rcases d with rfl | rfl
      · exact .inl Hr.out.head
      · exact .inr (by omega)
    · rw [An (fun e => hn (by rw [← e];exact Hr.out.head):q ≠ b),a8.out b (by rw [LA];omega) (fun hh e => hn ?_),GL d]
      subst e
      rcases HF.out with e | ⟨e,_⟩
      · exfalso
        rcases Hv.out with ⟨rfl,e2⟩ | ⟨rfl,t,h4⟩
        · rcases hh with hh | hh
          · exact hh e2
          · exact hh rfl
        · cases Hr.out with
          | nil hq' => rw [g] at hq';cases hq'
          | some hq' _ hne _ => have:=congrFun e b;simp at this;rw [g] at hq';cases hq';exact hne (this rfl)
      · rw [e];exact .inr rfl
  generalize List.set z q _ = h2 at a3 f ⊢
  have ad:Pre h0 h2:=fun b o d => by
    have a9:=(GI.1 d).1
    rw [f.keep b (Nat.lt_of_lt_of_le a9 hp.le) (fun hf => by have:=hge b hf;omega)]
    exact hp b o d
  have aj:∀ i,i < A.length → gN (A ++ [(x,came)]) i = gN A i:=fun i hi => by
    unfold gN;rw [List.getD_eq_getElem?_getD,List.getD_eq_getElem?_getD,GL hi]
  refine A0p hE a3 ad (fun b d => by rcases d with rfl | rfl;exact hge _ Hr.out.head;have:=hp.le;omega) hlv Hl.out (fun p s => by rcases List.mem_append.1 s with h5 | h5;exact hin p h5;rw [List.mem_singleton.1 h5];exact hx) (by
    rw [List.map_append,List.nodup_append]
    refine ⟨hnd,by simp,fun a ha b d => ?_⟩
    obtain ⟨p,s,rfl⟩:=List.mem_map.1 ha
    simp only [List.map_cons,List.map_nil,List.mem_singleton] at d
    rw [d];exact hxn p s) (by
    rw [LA,List.length_singleton,Nat.add_sub_cancel]
    exact Arj hh _) (by rw [LA,List.length_singleton];omega) (fun b d => by rcases d with rfl | rfl;exact ae;exact a6) rfl (by
    rw [LA,List.length_singleton,Nat.add_sub_cancel]
    simp only [get];simp) fun al h' L r' ag ab pm => ?_
  (repeat' simp -dsimp (disch:=omega) only [EB,↓reduceIte,eq_self, *])
  exact ⟨L,_,r',f.trans ag,ab,by
    have:=pm.map Prod.fst
    rw [List.map_append] at this
    exact this.trans List.perm_append_comm⟩
theorem Stp.refl' {h:Aa} {q:Nat} {lv:Value} {L:List (Int × Int)} {F:Nat → Prop} (r:HeapH h q lv L F):Stp F F h h:=⟨Nat.le_refl _,fun b hb => .inl hb,r.lt,fun b _ _ => rfl⟩
theorem Auu (hE:As E) {h0 h:Aa} {q n:Nat} {lv:Value} {P:Int → Int} {A:List (Int × Int)} {F:Nat → Prop} (r:HeapH h q lv A F) (hp:Pre h0 h) (hge:∀ b,F b → h0.length ≤ b) (hlv:Ag lv = true) (hl:Xi E h0 lv P n) (hin:∀ p ∈ A,0 ≤ p.1 ∧ p.1 < n) (hnd:(A.map fun p => P p.1).Nodup) (hd:Adw (fun p => P p.1) A 0) (hA:A.length ≤ 8192) {W:Nat → Prop} (hW:∀ b,F b → W b) :
    WX W (callW E (.func (.func Cw) #[] #[]) [.pointer (some ⟨q,0,none⟩),.int .i64 0] h) (fun _ h' => ∃ L,HeapH h' q lv L F ∧ Stp F F h h' ∧ Qw (fun p => P p.1) L ∧ L.Perm A):=by
  refine E8 hE.Ug rfl (by simp) ?_
  simp only [List.nil_append,List.cons_append,Ai]
  have a5:=Hid.mk hin
  have ab:=Hid.mk hnd
  have Hl:=Hid.mk hl
  have a4:=Stp.refl' r
  clear hin hnd hl
  (repeat' simp -dsimp (disch:=omega) only [↓EA,EB, *])
  refine WO.loop (fun (a:Nat × List (Int × Int)) fr h' => HeapH h' q lv a.2 F ∧ Stp F F h h' ∧ Adw (fun p => P p.1) a.2 a.1 ∧ a.2.Perm A ∧ a.1 ≤ a.2.length ∧ get fr 0 = .pointer (some ⟨q,0,none⟩) ∧ get fr 1 = .int .i64 (a.1:Int)) (fun a => a.2.length - a.1) ?_ (0,A) ⟨r,a4,hd,List.Perm.refl _,Nat.zero_le _,rfl,rfl⟩
  rintro ⟨i,L⟩ fr h' ⟨r',st,d,z,hi,g0,g1⟩
  dsimp only at r' st d z hi g0 g1 ⊢
  have s:L.length = A.length:=z.length_eq
  have a3:Pre h0 h':=fun b o l => by
    have a7:=(GI.1 l).1
    rw [st.keep b (Nat.lt_of_lt_of_le a7 hp.le) (fun hf => by have:=hge b hf;omega)]
    exact hp b o l
  have j:∀ p ∈ L,0 ≤ p.1 ∧ p.1 < n:=fun p a6 => a5.out p (z.mem_iff.1 a6)
  have u:(L.map fun p => P p.1).Nodup:=(z.map _).nodup_iff.2 ab.out
  have ai:(L.length:Int) ≤ 8192:=by omega
  have ae:(i:Int) ≤ 8192:=by omega
  have St:=Hid.mk st
  have ac:=Hid.mk s
  have a2:=Hid.mk u
  have a0:=Hid.mk j
  clear st s u j a4 hd r
  unfold Ja
  (repeat' simp -dsimp (disch:=omega) only [↓EA,EB,Nat.reduceEqDiff,↓reduceIte,reduceCtorEq,eq_self, *])
  refine WO.loop (fun (a:Nat × Nat) fr h2 => h2 = h' ∧ 2 * i + 1 ≤ a.1 ∧ a.1 ≤ 2 * i + 3 ∧ (a.2 = i ∨ (2 * i + 1 ≤ a.2 ∧ a.2 < a.1 ∧ a.2 < L.length ∧ P (gN L a.2).1 < P (gN L i).1)) ∧ (∀ c,2 * i + 1 ≤ c → c < a.1 → c < L.length → P (gN L a.2).1 ≤ P (gN L c).1) ∧ get fr 0 = .pointer (some ⟨q,0,none⟩) ∧ get fr 1 = .int .i64 (i:Int) ∧ get fr 4 = .int .i64 (a.2:Int) ∧ get fr 5 = .int .i64 (a.1:Int)) (fun a => 2 * i + 3 - a.1) ?_ (2 * i + 1,i) ⟨rfl,Nat.le_refl _,by omega,.inl rfl,fun c h1 h2 => by omega,rfl,rfl,rfl,?_⟩
  · rintro ⟨k,m⟩ fr h2 ⟨rfl,k1,k2,hm,l,g0,g1,g4,g5⟩
    dsimp only at k1 k2 hm l g0 g1 g4 g5 ⊢
    have al:(2 * i + 1:Int) ≤ k ∧ (k:Int) ≤ 2 * i + 3:=by omega
    have Hm:=Hid.mk hm
    have Hb:=Hid.mk l
    have ak:=Anx hE r'
    clear hm l
    obtain ⟨vv,cc,ag,ah⟩:∃ vv cc,h2[q]? = some (.cells [lv,vv,cc] false) ∧ Ly false vv = some (.int .i64 L.length):=by
      cases r' with
      | nil hq => exact ⟨_,_,hq,rfl⟩
      | some hq _ _ _ => exact ⟨_,_,hq,rfl⟩
    unfold Jb
    by_cases f:k ≤ 2 * i + 2 ∧ k < L.length
    · have x:m < L.length ∧ m ≠ k:=by
        rcases Hm.out with e | e
        · omega
        · omega
      have ha:=Ada hE r' a3 hlv Hl.out a0.out (i:=k) (k:=m) f.2 x.1 (Azd a2.out f.2 x.1 x.2.symm)
      have aj:(k:Int) ≤ 2 * i + 2 ∧ (k:Int) < L.length:=by omega
      (repeat' (first | (with_reducible refine A3 (fun _ => ?_) (fun _ => ?_) <;> try (exfalso;omega)) | simp -dsimp (disch:=omega) only [↓EA,EB,Nat.reduceEqDiff,↓reduceIte,reduceCtorEq,eq_self, *]))
      · refine Next.mk (k + 1,k) ⟨rfl,by dsimp only;omega,by dsimp only;omega,.inr ⟨by dsimp only;omega,by dsimp only;omega,f.2,?_⟩,fun c h1 h2 h3 => ?_,rfl,rfl,rfl,by dsimp only;simp [get]⟩ (by dsimp only;omega)
        · dsimp only
          rcases Hm.out with e | e
          · rw [← e];assumption
          · have:=e.2.2.2;omega
        · dsimp only at h1 h2 ⊢
          by_cases ek:c = k
          · rw [ek];exact Int.le_refl _
          · have:=Hb.out c h1 (by omega) h3;omega
      · refine Next.mk (k + 1,m) ⟨rfl,by dsimp only;omega,by dsimp only;omega,?_,fun c h1 h2 h3 => ?_,rfl,rfl,rfl,by dsimp only;simp [get]⟩ (by dsimp only;omega)
        · dsimp only
          rcases Hm.out with e | e
          · exact .inl e
          · exact .inr ⟨e.1,by omega,e.2.2⟩
        · dsimp only at h1 h2 ⊢
          by_cases ek:c = k
          · rw [ek];omega
          · exact Hb.out c h1 (by omega) h3
    · have t:∀ c,0 < c → c < L.length → (c - 1) / 2 = i → P (gN L m).1 ≤ P (gN L c).1:=fun c c1 c2 c3 => Hb.out c (by omega) (by omega) c2
      have a1:=fun (e:¬ m = i) => Aap hE r' (i:=i) (k:=m) (by rcases Hm.out with h5 | h5;exact absurd h5 e;omega) (by rcases Hm.out with h5 | h5;exact absurd h5 e;exact h5.2.2.1) hW
      have a9:=Hid.mk a1
      clear a1
      have af:=Hid.mk f
      (repeat' (first | (with_reducible refine A1 (fun _ => ?_) (fun _ => ?_) <;> try (exfalso;omega)) | (with_reducible refine A3 (fun _ => ?_) (fun _ => ?_) <;> try (exfalso;omega)) | simp -dsimp (disch:=omega) only [↓EA,EB,Nat.reduceEqDiff,↓reduceIte,reduceCtorEq,eq_self, *]))
      all_goals first
        | (have g:m = i:=by omega
           subst g
           exact ⟨L,r',St.out,Ava d t,z⟩)
        | (have g:¬ m = i:=by omega
           refine WX.mono (a9.out g) (fun b l => l) fun v h3 ⟨r3,aa,ad⟩ => ?_
           have y:=Hm.out.resolve_left g
           have a8:(m - 1) / 2 = i:=by omega
           have d3:=Aql d (by omega) y.2.2.1 a8 y.2.2.2 t
           (repeat' simp -dsimp (disch:=omega) only [↓EA,EB,Nat.reduceEqDiff,↓reduceIte,reduceCtorEq,eq_self, *])
           exact Next.mk (m,D4 L i m) ⟨r3,St.out.trans aa,d3,(Tz (by omega) y.2.2.1).trans z,by dsimp only;rw [Cj];omega,rfl,by dsimp only;simp [get]⟩ (by dsimp only;rw [Cj];omega))
  · simp [get]
theorem Azy {b n:Nat} {k:IntKind} {x:Int} (h1:0 ≤ x) (h2:x ≤ n):Pp 2 (.slice (some ⟨b,0,some 2⟩) n n) none (some (.int k x)) none = some (.slice (some ⟨b,0,some 2⟩) x.toNat x.toNat):=by
  simp [Pp,Df,h1,h2]
theorem Axx (hE:As E) {h0 h:Aa} {q n:Nat} {lv:Value} {P:Int → Int} {A:List (Int × Int)} {F:Nat → Prop} (r:HeapH h q lv A F) (hp:Pre h0 h) (hge:∀ b,F b → h0.length ≤ b) (hlv:Ag lv = true) (hl:Xi E h0 lv P n) (hin:∀ p ∈ A,0 ≤ p.1 ∧ p.1 < n) (hnd:(A.map fun p => P p.1).Nodup) (hh:Qw (fun p => P p.1) A) {W:Nat → Prop} (hW:∀ b,F b → W b) :
    WX W (callW E (.func (.func Ck) #[] #[]) [.pointer (some ⟨q,0,none⟩)] h) (fun v h' => (A = [] ∧ v = .tuple #[.int .i64 0,.bool false] ∧ h' = h) ∨ ∃ x L,v = .tuple #[.int .i64 x,.bool true] ∧ HeapH h' q lv L F ∧ Stp F F h h' ∧ Qw (fun p => P p.1) L ∧ (x :: L.map Prod.fst).Perm (A.map Prod.fst) ∧ ∀ p ∈ A,P x ≤ P p.1):=by
  refine E8 hE.Vm rfl (by simp) ?_
  simp only [List.nil_append,List.cons_append,Ai]
  have a2:=Aut hE r
  by_cases f:A = []
  · rw [if_pos f] at a2
    have Hn:=Hid.mk f
    clear f
    (repeat' simp -dsimp (disch:=omega) only [↓EA,EB,Nat.reduceEqDiff,↓reduceIte,reduceCtorEq,eq_self, *])
    exact .inl Hn.out
  · rw [if_neg f] at a2
    have a0:0 < A.length:=List.length_pos_iff.2 f
    have a7:=Aap hE r (i:=0) (k:=A.length - 1) a0 (by omega) hW
    have ag:=Stp.refl' r
    have ak:=hW q r.head
    have hA:A.length ≤ 8192:=by
      cases r with
      | nil y => exact absurd rfl f
      | some y s z few => exact few
    obtain ⟨vv,cc,a9,a3⟩:∃ vv cc,h[q]? = some (.cells [lv,vv,cc] false) ∧ Ly false vv = some (.int .i64 A.length):=by
      cases r with
      | nil y => exact absurd rfl f
      | some y _ _ _ => exact ⟨_,_,y,rfl⟩
    obtain ⟨g,d⟩:=Aky hh f
    have a:=Aur hh
    have Hh:=Hid.mk (AI g (AI d (AI a (AI hin (AI hnd hl)))))
    have Hn:=Hid.mk f
    clear hh g d a hin hnd hl f
    have e1:((A.length:Int) - 1) = ((A.length - 1:Nat):Int):=by omega
    have ai:(A.length:Int) ≤ 8192 ∧ 0 < (A.length:Int):=by omega
    have H1:=Hid.mk e1
    generalize hk:A.length - 1 = k at *
    rw [show (A.length:Int) = (k:Int) + 1 by omega] at a3
    have al:(k:Int) + 1 - 1 = (k:Int):=by omega
    have am:(k:Int) ≤ 8192:=by omega
    clear e1
    (repeat' simp -dsimp (disch:=omega) only [↓EA,EB,Nat.reduceEqDiff,↓reduceIte,reduceCtorEq,eq_self, *])
    refine WX.mono a7 (fun b l => l) fun v h1 ⟨r1,a1,ah⟩ => ?_
    have m:(D4 A 0 k).length = A.length:=Cj _ _ _
    obtain ⟨ib,c,came,y,s,z,few,hF⟩:=r1.open_ (fun e => by rw [e] at m;simp at m;omega)
    rw [m,show A.length = k + 1 by omega] at y
    have aa:=Azy (b:=ib) (n:=k + 1) (k:=.i64) (x:=(k:Int)) (by omega) (by omega)
    rw [Int.toNat_natCast] at aa
    have af:=(GI.1 y).1
    have aj:((k + 1:Nat):Int) - 1 = (k:Int):=by omega
    have St1:=Hid.mk a1
    have ae:=Hid.mk s
    have HF:=Hid.mk hF
    clear a1 s hF a9 a3 m
    (repeat' simp -dsimp (disch:=omega) only [↓EA,EB,Nat.reduceEqDiff,Nat.reduceAdd,Nat.reduceLeDiff,↓reduceIte,reduceCtorEq,eq_self, *])
    have hH:HeapH (h1.set q (.cells [lv,.slice (some ⟨ib,0,some 2⟩) k k,.int .u64 came] false)) q lv ((D4 A 0 k).take k) F:=by
      have e3:((D4 A 0 k).take k).length = k:=by rw [List.length_take,Cj];omega
      have h3:=HeapH.some (h:=h1.set q (.cells [lv,.slice (some ⟨ib,0,some 2⟩) k k,.int .u64 came] false)) (q:=q) (lv:=lv) (its:=(D4 A 0 k).take k) (ib:=ib) (c:=(((D4 A 0 k).drop k).map Dp).flatten ++ c) (came:=came) (by rw [e3];exact Bq af) (by rw [An (Ne.symm z),ae.out,← List.append_assoc,← List.flatten_append,← List.map_append,List.take_append_drop]) z (by omega)
      rw [HF.out];exact h3
    have t:Stp F F h (h1.set q (.cells [lv,.slice (some ⟨ib,0,some 2⟩) k k,.int .u64 came] false)):=by
      refine St1.out.trans ⟨by rw [List.length_set];exact Nat.le_refl _,fun b l => .inl l,hH.lt,fun b l a4 => An fun e => a4 ?_⟩
      rw [← e,HF.out];exact .inl rfl
    generalize h1.set q _ = h2 at hH t ⊢
    have ac:Pre h0 h2:=fun b o l => by
      have a6:=(GI.1 l).1
      rw [t.keep b (Nat.lt_of_lt_of_le a6 hp.le) (fun hf => by have:=hge b hf;omega)]
      exact hp b o l
    obtain ⟨g,d,a,hin,hnd,hl⟩:=Hh.out
    have ad:=Auu hE hH ac hge hlv hl (fun p u => hin p (d.mem_iff.1 (List.mem_cons_of_mem _ u))) (by
      have h5:=((d.map fun p => P p.1).nodup_iff).2 hnd
      rw [List.map_cons,List.nodup_cons] at h5
      exact h5.2) g (by rw [List.length_take,Cj];omega) hW
    refine WX.mono ad (fun b l => l) fun v2 h3 ⟨L,r3,ab,a8,a5⟩ => ?_
    (repeat' simp -dsimp (disch:=omega) only [↓EA,EB,Nat.reduceEqDiff,↓reduceIte,reduceCtorEq,eq_self, *])
    refine .inr ⟨_,L,rfl,r3,t.trans ab,a8,?_,fun p u => ?_⟩
    · have h6:=(a5.map Prod.fst).cons (gN A 0).1
      exact h6.trans (by have:=d.map Prod.fst;rwa [List.map_cons] at this)
    · obtain ⟨j,hj,rfl⟩:=List.getElem_of_mem u
      have:=a j hj
      rw [Adb hj] at this;exact this
end Go.L.Try
