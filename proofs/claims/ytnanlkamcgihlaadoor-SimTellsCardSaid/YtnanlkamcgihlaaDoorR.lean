/- ARGUMENTS LAID: what a row of the claim reads, as read-only blocks of the logical machine. -/
import Derived.Test.YtnanlkamcgihlaaDoorVb
import Derived.Test.YtnanlkamcgihlaaDoorSh
import Derived.Deep.Slices
import Derived.SizedLaws
import Derived.ChangeArms
import Derived.ChangeSame
import Derived.RowKit
import Derived.Carry
import Derived.ProofKit
import Derived.Test.YtnanlkamcgihlaaDoorEnv
import Derived.Test.YtnanlkamcgihlaaDoorX
import Derived.Test.YtnanlkamcgihlaaDoorRows
import Derived.LaidMore
import Derived.OpenShut
set_option linter.unusedVariables false
set_option linter.unusedSimpArgs false
namespace Go.L
open Go
variable {P:Program} {w:World} {ι : Inj} {h:Aa}
structure Nm (P:Program) (w:World) (ι : Inj) (h:Aa):Prop where
 sim:Sim P ι h w
 ro:h.all LObj.readOnly = true
def Sv (w:World):Prop:=∃ (rb:Nat) (arr:Array Value) (t:TypeId) (fz:Nat × Nat),w.heap[rb]? = some (.cells arr t fz)
theorem Aix {a:Addr} {arr:Array Value} {t:TypeId} {fz:Nat × Nat} (hw:w.heap[a.block]? = some (.cells arr t fz)) (hsp:a.spot = none) (k:Nat):w.cell? (a.add k) = arr[a.off + k]?:=by
 unfold Addr.add
 by_cases c:k = 0
 ·subst c;simp [World.cell?,hw,hsp]
 ·simp [World.cell?,hw,c]
theorem Aa6 {a:Addr} {v:Value} (h:w.cell? a = some v):a.spot = none ∧ ∃ arr t fz,w.heap[a.block]? = some (.cells arr t fz):=by
 unfold World.cell? at h
 split at h
 ·rename_i c t fz d
  split at h
  ·cases h
  ·rename_i e
   exact ⟨by simpa using e,c,t,fz,d⟩
 ·cases h
theorem Axz {sz:Nat} (hz:0 < sz) {L:List (List Value)} (hs:∀ e ∈ L,e.length = sz) {j:Nat} {v:Value} (hv:L.flatten[j]? = some v):∃ l,L[j / sz]? = some l ∧ l[j % sz]? = some v:=by
 have a:L.flatten.length = L.length * sz:=by
  clear hv
  induction L with
  | nil => simp
  | cons x r ih => rw [List.flatten_cons,LA,ih fun e f => hs e (by simp [f]),hs x (by simp),List.length_cons,Nat.succ_mul];omega
 have d:=(GI.1 hv).1
 have c:j / sz < L.length:=by rw [a] at d;exact Nat.div_lt_of_lt_mul (by rwa [Nat.mul_comm] at d)
 have g:j % sz < sz:=Nat.mod_lt _ hz
 have e:=Row.flat_get hs (j / sz) (j % sz) c g
 have m:j / sz * sz + j % sz = j:=by rw [Nat.mul_comm];exact Nat.div_add_mod j sz
 rw [m,hv] at e
 refine ⟨L[j / sz],List.getElem?_eq_getElem c,?_⟩
 have o:=hs _ (List.getElem_mem c)
 have n:L.getD (j / sz) [] = L[j / sz]:=by rw [List.getD_eq_getElem?_getD,List.getElem?_eq_getElem c];rfl
 rw [n] at e
 rw [List.getElem?_eq_getElem (by omega),e,List.getD_eq_getElem?_getD,List.getElem?_eq_getElem (by omega)];rfl
theorem Ahv (hl:Nm P w ι h) {base sz:Nat} {a:Addr} {len cap:Nat} {L:List (List Value)} {R:Nat → List Value} (hz:0 < sz) (hcap:0 < cap) (hle:len ≤ cap) (hlen:L.length = len) (hfew:len < 1152921504606846976)
  (hcells:∀ i,i < cap → w.cells? base (a.add (i * sz)) sz = some (R i)) (hL:∀ (i:Nat) l,L[i]? = some l → VRs ι l (R i)) (hone:∀ l ∈ L,l.all Ag = true) :
  ∃ ι',Sub ι ι' ∧ Nm P w ι' (h ++ [.cells L.flatten true]) ∧ VR ι' (.slice (some ⟨h.length,0,none⟩) len cap) (.slice (some a) len cap) ∧ Row sz (h ++ [.cells L.flatten true]) (.slice (some ⟨h.length,0,none⟩) len cap) L:=by
 have n:∀ i z,i < cap → z < sz → w.cell? (a.add (i * sz + z)) = (R i)[z]?:=fun i z hi hf => by
  have h1:=(World.cells?_some (hcells i hi)).2.2 z hf
  rwa [Go.Deep.add_add] at h1
 have f:∀ i,i < cap → (R i).length = sz:=fun i hi => (World.cells?_some (hcells i hi)).2.1
 have s:∀ l ∈ L,l.length = sz:=fun l hm => by
  obtain ⟨i,hi,rfl⟩:=List.getElem_of_mem hm
  rw [(hL i _ (List.getElem?_eq_getElem hi)).length];exact f i (by omega)
 have h0:=n 0 0 hcap hz
 rw [List.getElem?_eq_getElem (by rw [f 0 hcap];exact hz),Nat.zero_mul] at h0
 have p:a.add (0 + 0) = a:=by simp [Addr.add]
 rw [p] at h0
 obtain ⟨o,arr,t,fz,hw⟩:=Aa6 h0
 have g:∀ k,w.cell? (a.add k) = arr[a.off + k]?:=Aix hw o
 have a0:=Ee s
 let m:Img:=⟨a.block,a.off,arr.size⟩
 have a2:∀ k,k < len * sz → a.off + k < arr.size:=fun k hk => by
  have hq:k / sz < len:=Nat.div_lt_of_lt_mul (by rwa [Nat.mul_comm] at hk)
  have hr:k % sz < sz:=Nat.mod_lt _ hz
  have e:=n (k / sz) (k % sz) (by omega) hr
  have ej:k / sz * sz + k % sz = k:=by rw [Nat.mul_comm];exact Nat.div_add_mod k sz
  rw [ej,g,List.getElem?_eq_getElem (by rw [f _ (by omega)];exact hr)] at e
  exact (Array.getElem?_eq_some_iff.1 e).1
 have a6:a.off < arr.size:=by
  have:=g 0
  rw [show a.add 0 = a from rfl,h0] at this
  exact (Array.getElem?_eq_some_iff.1 this.symm).1
 have d:a.off + L.flatten.length ≤ arr.size:=by
  rw [a0,hlen]
  rcases Nat.eq_zero_or_pos (len * sz) with e | e
  ·omega
  ·have:=a2 (len * sz - 1) (by omega);omega
 have y:=Ar5 hl.sim hl.ro (c:=L.flatten) (m:=m) (arr:=arr) (t:=t) (fz:=fz) hw rfl d (fun j v u => by
  obtain ⟨l,x,a4⟩:=Axz hz s u
  have hq:=(GI.1 x).1
  obtain ⟨r,a5,a3⟩:=(hL _ _ x).at_ a4
  refine ⟨r,?_,a3⟩
  have ej:j / sz * sz + j % sz = j:=by rw [Nat.mul_comm];exact Nat.div_add_mod j sz
  have e:=n (j / sz) (j % sz) (by omega) (Nat.mod_lt _ hz)
  rw [ej,g,a5] at e
  exact e) (by rw [List.all_flatten];simpa using fun l hm v u => by have:=List.all_eq_true.1 (hone l hm) v u;exact this)
 have a1:Row sz (h ++ [.cells L.flatten true]) (.slice (some ⟨h.length,0,none⟩) len cap) L :=
  ⟨s,by omega,.inr ⟨h.length,0,none,cap,L.flatten,true,by rw [hlen],by rw [Bh];rfl,by omega,by rw [List.drop_zero,← a0,List.take_length],by omega,.inl rfl⟩⟩
 refine ⟨_,Inj.put_sub (hl.sim.dom h.length (Nat.le_refl _)) m,⟨y,Alr hl.ro _⟩,?_,a1⟩
 have u:=VR.slice (ι:=ι.put h.length m) (b:=h.length) (m:=m) 0 len cap (Inj.put_same _ _ _)
 have ea:(⟨m.rb,m.off + 0,none⟩:Addr) = a:=by cases a;simp only at o;subst o;rfl
 rw [ea] at u;exact u
theorem Ac6 (hl:Nm P w ι h) (hany:Sv w) {sz:Nat} (a:Addr) :
  ∃ ι',Sub ι ι' ∧ Nm P w ι' (h ++ [.cells [] true]) ∧ VR ι' (.slice (some ⟨h.length,0,none⟩) 0 0) (.slice (some a) 0 0) ∧ Row sz (h ++ [.cells [] true]) (.slice (some ⟨h.length,0,none⟩) 0 0) []:=by
 obtain ⟨g,arr,t,fz,f⟩:=hany
 let m:Img:=⟨g,0,arr.size⟩
 have d:=Ar5 hl.sim hl.ro (c:=[]) (m:=m) (arr:=arr) (t:=t) (fz:=fz) f rfl (by simp [m]) (fun i v e => by simp at e) rfl
 exact ⟨_,Inj.put_sub (hl.sim.dom h.length (Nat.le_refl _)) m,⟨d,Alr hl.ro _⟩,VR.slice0 0 a (Inj.put_same _ _ m),by simp,by simp,.inr ⟨h.length,0,none,0,[],true,rfl,by rw [Bh];rfl,by simp,by simp,Nat.le_refl _,.inl rfl⟩⟩
def Few (P:Program) {H:Type} (t:TypeId) (d:DataW H):Prop:=∀ n ∈ d.weights P t,n ≤ reachBytes
theorem Xj {H:Type} {P:Program} {e:TypeId}:∀ {l:List (DataW H)} {d:DataW H},d ∈ l → ∀ n ∈ d.weights P e,n ∈ DataW.weightsAll P e l
 | d0 :: r,d,hd,n,hn => by
  simp only [DataW.weightsAll,List.mem_append]
  rcases List.mem_cons.1 hd with rfl | hd
  ·exact .inl hn
  ·exact .inr (Xj hd n hn)
theorem Zq {H:Type} {enc:TypeId × Value → H} {base:Nat} {held:Bool} {t e:TypeId} {fuel:Nat} {cs:List Value} {x:DataW H × List MemPlace} (ht:P.underlying t = some (.slice e)) (hb:0 < P.bytesOf e)
  (h:DataW.trod enc P w base (fun _ => true) held fuel t cs = some x) (hf:Few P t x.1) :
  cs = [.slice none 0 0] ∨ ∃ (a:Addr) (len cap:Nat) (R:Nat → List Value),cs = [.slice (some a) len cap] ∧ len ≤ cap ∧ cap < 1152921504606846976 ∧ ∀ i,i < cap → w.cells? base (a.add (i * P.cellsOf e)) (P.cellsOf e) = some (R i) ∧ ∃ n y,DataW.trod enc P w base (fun _ => true) held n e (R i) = some y ∧ (i < len → Few P e y.1):=by
 rcases Go.Deep.open_slice ht h with ⟨l,_⟩ | ⟨a,len,cap,m,n,D,Pl,s,r,z,hm,j,u,hx⟩
 ·exact .inl l
 ·right
  simp only [if_true] at j
  subst j
  subst s
  obtain ⟨R,g⟩:=Go.Deep.choose_lt (α:=List Value) (p:=fun i c => w.cells? base (a.add (i * P.cellsOf e)) (P.cellsOf e) = some c ∧ DataW.trod enc P w base (fun _ => true) held n e c = some (D i,Pl i)) hx
  rw [u] at hf
  simp only [Few,DataW.weights,ht] at hf
  have v:=hf _ (List.mem_cons_self)
  simp only [List.length_map,List.length_range] at v
  have h2:m ≤ (len + (m - len)) * P.bytesOf e:=by
   rw [show len + (m - len) = m by omega];exact Nat.le_mul_of_pos_right _ hb
  have h3:=reachBytes_lt
  refine ⟨a,len,m,R,rfl,z,by omega,fun i f => ⟨(g i f).1,n,_,(g i f).2,fun d k o => ?_⟩⟩
  refine hf k (List.mem_cons_of_mem _ (List.mem_append.2 (.inl (Xj (List.mem_map.2 ⟨i,List.mem_range.2 d,rfl⟩) k o))))
theorem Aul {α : Type} [Inhabited α] {sz:Nat} {en:α → List Value} (hl:Nm P w ι h) (hsz:∀ a,(en a).length = sz) (hone:∀ a,(en a).all Ag = true) (hself:∀ (ι : Inj) a,VRs ι (en a) (en a))
  {H:Type} {enc:TypeId × Value → H} {base:Nat} {held:Bool} {t e:TypeId} {fuel:Nat} {cs:List Value} {x:DataW H × List MemPlace} (ht:P.underlying t = some (.slice e)) (hc:P.cellsOf e = sz) (hz:0 < sz) (hb:0 < P.bytesOf e)
  (helem:∀ n cs y,DataW.trod enc P w base (fun _ => true) held n e cs = some y → ∃ a,cs = en a)
  (htr:DataW.trod enc P w base (fun _ => true) held fuel t cs = some x) (hf:Few P t x.1) (hany:∀ a n c,cs = [.slice (some a) n c] → Sv w) :
  ∃ ι' h' v v' l,cs = [v'] ∧ Sub ι ι' ∧ Nm P w ι' h' ∧ Pre h h' ∧ VR ι' v v' ∧ Rd sz en h' v l:=by
 rcases Zq ht hb htr hf with rfl | ⟨a,len,g,R,rfl,s,z,u⟩
 ·exact ⟨ι,h,.slice none 0 0,_,[],rfl,Sub.refl ι,hl,Pre.refl h,.nils 0 0,Rd.of_nil⟩
 ·rw [hc] at u
  rcases Nat.eq_zero_or_pos g with e0 | hpos
  ·obtain rfl:len = 0:=by omega
   subst e0
   obtain ⟨ι',r,h2,m,o⟩:=Ac6 (sz:=sz) hl (hany a 0 0 rfl) a
   exact ⟨ι',_,_,_,[],rfl,r,h2,Pre.app h _,m,o⟩
  ·obtain ⟨A,hA⟩:=Go.Deep.choose_lt (α:=α) (n:=g) (p:=fun i a => R i = en a) fun i f => by
    obtain ⟨_,n,y,hy,_⟩:=u i f
    exact helem n _ y hy
   have d:(((List.range len).map A).map en).length = len:=by simp
   obtain ⟨ι',r,h2,m,o⟩:=Ahv (L:=((List.range len).map A).map en) hl hz hpos s d (by omega) (fun i f => (u i f).1) (fun i l f => by
    have j:=(GI.1 f).1
    rw [d] at j
    rw [List.getElem?_map,List.getElem?_map,List.getElem?_range j] at f
    simp only [Option.map_some,OI] at f
    subst f
    rw [hA i (by omega)];exact hself _ _) (fun l hm => by
    obtain ⟨b,_,rfl⟩:=List.mem_map.1 hm
    exact hone b)
   exact ⟨ι',_,_,_,(List.range len).map A,rfl,r,h2,Pre.app h _,m,o⟩
theorem Bx {H:Type} {enc:TypeId × Value → H} {base:Nat} {held:Bool} {e:TypeId} {n:Nat} {cs:List Value} {y:DataW H × List MemPlace} {fs:Array Field} (he:P.underlying e = some (.struct fs)) {i:Nat} {f:Field} (hf:fs[i]? = some f) (ho:f.offset = i) (hc:P.cellsOf f.type = 1) (hu:P.underlying f.type = some (.int .i64)) (hi:i < P.cellsOf e)
  (h:DataW.trod enc P w base (fun _ => true) held n e cs = some y):∃ z,cs[i]? = some (.int .i64 z):=by
 obtain ⟨xs,m,_,_,c,g,j⟩:=DataW.trod_struct he h
 have a:=j i f hf
 have l:=(Array.getElem?_eq_some_iff.1 hf).1
 rw [List.getElem?_eq_getElem (by omega),ho,hc] at a
 obtain ⟨z,d,_⟩:=DataW.trod_int hu a
 refine ⟨z,?_⟩
 have h2:((cs.drop i).take 1)[0]? = some (.int .i64 z):=by rw [d];rfl
 rw [List.getElem?_take,if_pos (by decide),List.getElem?_drop,Nat.add_zero] at h2
 exact h2
theorem Ai6 {r:Reach} {base:Nat} {u:TypeId} {a:Addr} {n c:Nat} (h:Cell.okWide P w r base u (.slice (some a) n c)):Sv w:=by
 have d:Cell.ok P w r base u (.slice (some a) n c):=by
  unfold Cell.okWide at h
  split at h <;> first | exact h | (rename_i e;cases e) | (rename_i _ e;cases e) | skip
 unfold Cell.ok at d
 split at d <;> first | exact d.elim | skip
 all_goals first | (rename_i e;cases e;done) | (rename_i _ e;cases e;done) | skip
 all_goals
  obtain ⟨_,_,_,_,row,cells,f,_⟩:=d
  unfold World.shape? at f
  split at f
  ·rename_i c t j g;exact ⟨_,c,t,j,g⟩
  ·cases f
open Go.RowKit Go.ChangeShapes
theorem Tn {H:Type} {enc:TypeId × Value → H} (hl:laidOutB P = true) {W W':World} (hb:Below W.heap.size W W'):∀ {ts:List TypeId} {vs:List Value} {ds:List (DataW H)} {ps:List MemPlace},(∀ t ∈ ts,P.readableRec t = true ∧ t < P.types.size) → DataW.TrodAll enc P W 0 (fun _ => true) true ts vs ds ps → (∀ x ∈ ps,x.block < W.heap.size) → DataW.TrodAll enc P W' 0 (fun b => decide (b < W.heap.size)) true ts vs ds ps
 | [],[],[],ps,_,h,_ => h
 | t :: ts,v :: vs,d :: ds,ps,hr,h,hlt => by
  obtain ⟨p,q,e,h2,rfl⟩:=h
  exact ⟨p,q,Below.trod hl (hr t (by simp)).1 (hr t (by simp)).2 e hb (fun x a => hlt x (by simp [a])),Tn hl hb (fun u c => hr u (by simp [c])) h2 (fun x a => hlt x (by simp [a])),rfl⟩
theorem Axs {E:Env} (hE:Abn P E) {f:FuncId} {c:FnC} (hf:E f = .text c) (hlo:laidOutB P = true) {fn:Func} {s:ChangeSpec} (hsv:s.vars = []) {rb:TypeId} (hrt:fn.resultTypes = #[rb]) (hrb:P.underlying rb = some .bool)
  (hread:∀ t ∈ fn.params.toList,P.readableRec t = true ∧ t < P.types.size) {H:Type} {enc:TypeId × Value → H} {W:World} {args:List Value} {ds gs:List (DataW H)} {before:List MemPlace} {ap:Bool}
  (hres:(s.fn H (ds ++ gs)).results = [.lit (.bool true)]) (harg:(s.fn H (ds ++ gs)).args = ds) (hvar:(s.fn H (ds ++ gs)).vars = [])
  (hW:DataW.Whole enc P fn.params.toList s.vars ap W args ds gs before) {ι : Inj} {h:Aa} {args':List Value} (hl:Nm P W ι h) (ha:VRs ι args' args)
  (hv:callW E (.func (.func f) #[] #[]) args' h = some (.bool true,h,[])) :
  Calls P f args.toArray W fun e W' => ∃ v,e = .returned v ∧ s.post enc P fn ap true false false W args.toArray v W':=by
 refine (Aqa hE hf hl.ro hv hl.sim ha).mono fun e W' ⟨m,a⟩ => ⟨_,m,?_⟩
 have l:Below W.heap.size W W':=⟨a.os,a.tape,a.output,a.size,a.keep⟩
 have j:=hW.lt
 have d:=hW
 obtain ⟨p,q,n,r,g,_⟩:=hW
 refine ⟨ds,gs,before,[],p,[],d,?_,?_,?_,l.frame _,fun h => nomatch h⟩
 ·rw [hres,hrt];exact trodAll_mk1 (shut_bool hrb true)
 ·rw [harg]
  exact Tn hlo l hread n fun x o => j x (by rw [g];exact List.mem_append.2 (.inl o))
 ·rw [hvar,hsv];rfl
theorem Aig {H:Type} {ts:List TypeId} {ds:List (DataW H)} (h:(DataW.weightsEach P ts ds).all (· ≤ reachBytes) = true) {j:Nat} {t:TypeId} {d:DataW H} (ht:ts[j]? = some t) (hd:ds[j]? = some d):Few P t d :=
 fun n hn => by simpa using List.all_eq_true.1 h n (DataW.weights_mem_each ht hd n hn)
theorem Few.part {H:Type} {t:TypeId} {fs:Array Field} (ht:P.underlying t = some (.struct fs)) {ds:List (DataW H)} (h:Few P t (.agg ds)) {j:Nat} {u:TypeId} {d:DataW H} (hu:(fs.toList.map (·.type))[j]? = some u) (hd:ds[j]? = some d):Few P u d :=
 fun n hn => h n (by simp only [DataW.weights,ht];exact DataW.weights_mem_each hu hd n hn)
theorem Few.head {H:Type} {t:TypeId} {n:Nat} {cs:List Value} {x:DataW H} (h:Few P t x):Few P t x:=h
end Go.L
namespace Go.L
open Go
variable {P:Program} {w:World} {ι : Inj} {h:Aa}
theorem Ap9 {α : Type} [Inhabited α] {sz:Nat} {en:α → List Value} {good:α → Prop} (hl:Nm P w ι h) (hsz:∀ a,(en a).length = sz) (hone:∀ a,(en a).all Ag = true) (hself:∀ (ι : Inj) a,VRs ι (en a) (en a))
  {H:Type} {enc:TypeId × Value → H} {base:Nat} {held:Bool} {t e:TypeId} {fuel:Nat} {cs:List Value} {x:DataW H × List MemPlace} (ht:P.underlying t = some (.slice e)) (hc:P.cellsOf e = sz) (hz:0 < sz) (hb:0 < P.bytesOf e)
  (helem:∀ n cs y,DataW.trod enc P w base (fun _ => true) held n e cs = some y → ∃ a,cs = en a ∧ (Few P e y.1 → good a))
  (htr:DataW.trod enc P w base (fun _ => true) held fuel t cs = some x) (hf:Few P t x.1) (hany:∀ a n c,cs = [.slice (some a) n c] → Sv w) :
  ∃ ι' h' v v' l,cs = [v'] ∧ Sub ι ι' ∧ Nm P w ι' h' ∧ Pre h h' ∧ VR ι' v v' ∧ Rd sz en h' v l ∧ ∀ a ∈ l,good a:=by
 rcases Zq ht hb htr hf with rfl | ⟨a,len,j,R,rfl,u,a0,z⟩
 ·exact ⟨ι,h,.slice none 0 0,_,[],rfl,Sub.refl ι,hl,Pre.refl h,.nils 0 0,Rd.of_nil,by simp⟩
 ·rw [hc] at z
  rcases Nat.eq_zero_or_pos j with e0 | hpos
  ·obtain rfl:len = 0:=by omega
   subst e0
   obtain ⟨ι',m,h2,o,s⟩:=Ac6 (sz:=sz) hl (hany a 0 0 rfl) a
   exact ⟨ι',_,_,_,[],rfl,m,h2,Pre.app h _,o,s,by simp⟩
  ·obtain ⟨A,hA⟩:=Go.Deep.choose_lt (α:=α) (n:=j) (p:=fun i a => R i = en a ∧ (i < len → good a)) fun i f => by
    obtain ⟨_,n,y,hy,r⟩:=z i f
    obtain ⟨a,m,h2⟩:=helem n _ y hy
    exact ⟨a,m,fun g => h2 (r g)⟩
   have d:(((List.range len).map A).map en).length = len:=by simp
   obtain ⟨ι',m,h2,o,s⟩:=Ahv (L:=((List.range len).map A).map en) hl hz hpos u d (by omega) (fun i f => (z i f).1) (fun i l f => by
    have g:=(GI.1 f).1
    rw [d] at g
    rw [List.getElem?_map,List.getElem?_map,List.getElem?_range g] at f
    simp only [Option.map_some,OI] at f
    subst f
    rw [(hA i (by omega)).1];exact hself _ _) (fun l hm => by
    obtain ⟨b,_,rfl⟩:=List.mem_map.1 hm
    exact hone b)
   refine ⟨ι',_,_,_,(List.range len).map A,rfl,m,h2,Pre.app h _,o,s,fun a ha => ?_⟩
   obtain ⟨i,f,rfl⟩:=List.mem_map.1 ha
   rw [List.mem_range] at f
   exact (hA i (by omega)).2 f
def Any (P:Program) (g n:Nat):Inj:=fun b => if b < P.globals.size then some ⟨b,0,if b = g then n else 0⟩ else none
theorem Axr {g:Nat} (hg:g < P.globals.size) {arr:Array Value} {t:TypeId} {fz:Nat × Nat} (hw:w.heap[g]? = some (.cells arr t fz)) {c:List Value} (hlen:c.length ≤ arr.size)
  (hc:∀ (i:Nat) v,c[i]? = some v → arr[i]? = some v ∧ ∃ k n,v = .int k n):Nm P w (Any P g arr.size) ((List.replicate P.globals.size .dead).set g (.cells c true)):=by
 have d:∀ (b:Nat) (o:LObj),((List.replicate P.globals.size LObj.dead).set g (.cells c true))[b]? = some o → (b = g ∧ o = .cells c true) ∨ o = .dead:=by
  intro b o a
  by_cases e:g = b
  ·subst e
   rw [List.getElem?_set_self (by simpa using hg)] at a
   exact .inl ⟨rfl,(Option.some.inj a).symm⟩
  ·rw [List.getElem?_set_ne e] at a
   exact .inr (List.eq_of_mem_replicate (List.mem_of_getElem? a))
 refine ⟨⟨fun b a => ?_,fun b o a p => ?_,fun x l => ⟨if x = g then arr.size else 0,by unfold Any;rw [if_pos l]⟩,fun x y m o2 m1 z l _ f => ?_⟩,?_⟩
 ·unfold Any
  rw [if_neg (by simpa using a)]
 ·rcases d b o a with ⟨rfl,rfl⟩ | rfl
  ·refine ⟨⟨b,0,arr.size⟩,by unfold Any;rw [if_pos hg,if_pos rfl],.cells hw rfl (by simpa using hlen) (fun i v j => ?_) (fun h => by cases h) ?_⟩
   ·obtain ⟨r,k,n,rfl⟩:=hc i v j
    exact ⟨_,by rw [Nat.zero_add];exact r,VR.int k n⟩
   ·rw [List.all_eq_true]
    intro v j
    obtain ⟨i,s⟩:=List.getElem?_of_mem j
    obtain ⟨_,k,n,rfl⟩:=hc i v s
    rfl
  ·exact absurd rfl p
 ·rcases d x m l with ⟨rfl,rfl⟩ | rfl
  ·simp [LObj.wr] at f
  ·simp [LObj.wr] at f
 ·rw [List.all_eq_true]
  intro o u
  obtain ⟨b,a⟩:=List.getElem?_of_mem u
  rcases d b o a with ⟨_,rfl⟩ | rfl <;> rfl
end Go.L
set_option maxRecDepth 100000
set_option maxHeartbeats 2000000
namespace Go.Proofs.YtnanlkamcgihlaaDoor
open Go.ChangeShapes Go.WideShapes Go.ChangeAt Go.RowKit Go.L
theorem Tryd.own:ownKnob Tryd.prog.godebug = none:=by kernel_rfl
theorem Tryd.laidOut:laidOutB Tryd.prog = true:=by kernel_rfl
theorem Tryd.cells35:Tryd.prog.cellsOf 35 = 5:=by kernel_rfl
theorem Tryd.cells26:Tryd.prog.cellsOf 26 = 7:=by kernel_rfl
theorem Tryd.cells2:Tryd.prog.cellsOf 2 = 1:=by kernel_rfl
theorem Tryd.cells3:Tryd.prog.cellsOf 3 = 1:=by kernel_rfl
theorem Tryd.cells5:Tryd.prog.cellsOf 5 = 1:=by kernel_rfl
theorem Tryd.cells9:Tryd.prog.cellsOf 9 = 1:=by kernel_rfl
theorem Tryd.bytes35:0 < Tryd.prog.bytesOf 35:=by
 have:Tryd.prog.bytesOf 35 = 40:=by kernel_rfl
 omega
theorem Tryd.bytes26:0 < Tryd.prog.bytesOf 26:=by
 have:Tryd.prog.bytesOf 26 = 64:=by kernel_rfl
 omega
theorem Tryd.cellsSpec:Tryd.prog.cellsOf 35 = 5:=Tryd.cells35
theorem Tryd.cellsTask:Tryd.prog.cellsOf 26 = 7:=Tryd.cells26
theorem Tryd.bytesSpec:0 < Tryd.prog.bytesOf 35:=Tryd.bytes35
theorem Tryd.bytesTask:0 < Tryd.prog.bytesOf 26:=Tryd.bytes26
section
variable {W:World} {H:Type} {enc:TypeId × Value → H} {base:Nat} {held:Bool}
theorem A23 {l:List Value} (h:l.length = 5):∃ a b c d e,l = [a,b,c,d,e]:=by
  match l,h with
  | [a,b,c,d,e],_ => exact ⟨a,b,c,d,e,rfl⟩
theorem A22 {l:List Value} (h:l.length = 7):∃ a b c d e f g,l = [a,b,c,d,e,f,g]:=by
  match l,h with
  | [a,b,c,d,e,f,g],_ => exact ⟨a,b,c,d,e,f,g,rfl⟩
theorem Aph (n:Nat) (cs:List Value) (y:DataW H × List MemPlace) (hy:DataW.trod enc Tryd.prog W base (fun _ => true) held n 35 cs = some y):∃ a,cs = Xv a:=by
  have o:cs.length = 5:=by
    obtain ⟨_,_,_,_,m,_,_⟩:=DataW.trod_struct Tryd.underlying35 hy
    rw [m];exact Tryd.cells35
  obtain ⟨a,p⟩:=Bx Tryd.underlying35 (i:=0) rfl rfl Tryd.cells3 Tryd.underlying3 (by rw [Tryd.cells35];decide) hy
  obtain ⟨b,j⟩:=Bx Tryd.underlying35 (i:=1) rfl rfl Tryd.cells3 Tryd.underlying3 (by rw [Tryd.cells35];decide) hy
  obtain ⟨c,f⟩:=Bx Tryd.underlying35 (i:=2) rfl rfl Tryd.cells3 Tryd.underlying3 (by rw [Tryd.cells35];decide) hy
  obtain ⟨d,g⟩:=Bx Tryd.underlying35 (i:=3) rfl rfl Tryd.cells3 Tryd.underlying3 (by rw [Tryd.cells35];decide) hy
  obtain ⟨e,l⟩:=Bx Tryd.underlying35 (i:=4) rfl rfl Tryd.cells3 Tryd.underlying3 (by rw [Tryd.cells35];decide) hy
  obtain ⟨s,v,t,u,r,rfl⟩:=A23 o
  cases p;cases j;cases f;cases g;cases l
  exact ⟨⟨a,b,c,d,e⟩,rfl⟩
theorem Ape (n:Nat) (cs:List Value) (y:DataW H × List MemPlace) (hy:DataW.trod enc Tryd.prog W base (fun _ => true) held n 26 cs = some y):∃ a,cs = Ar a ∧ (Few Tryd.prog 26 y.1 → a.name.size < 1152921504606846976):=by
  obtain ⟨xs,n',_,m,h1,h2,h3⟩:=DataW.trod_struct Tryd.underlying26 hy
  have hl:cs.length = 7:=by rw [h1];exact Tryd.cells26
  obtain ⟨b,eb⟩:=Bx Tryd.underlying26 (i:=1) rfl rfl Tryd.cells2 Tryd.underlying2 (by rw [Tryd.cells26];decide) hy
  obtain ⟨c,x⟩:=Bx Tryd.underlying26 (i:=2) rfl rfl Tryd.cells2 Tryd.underlying2 (by rw [Tryd.cells26];decide) hy
  obtain ⟨d,ed⟩:=Bx Tryd.underlying26 (i:=3) rfl rfl Tryd.cells2 Tryd.underlying2 (by rw [Tryd.cells26];decide) hy
  obtain ⟨e,ee⟩:=Bx Tryd.underlying26 (i:=4) rfl rfl Tryd.cells2 Tryd.underlying2 (by rw [Tryd.cells26];decide) hy
  obtain ⟨f,ef⟩:=Bx Tryd.underlying26 (i:=5) rfl rfl Tryd.cells2 Tryd.underlying2 (by rw [Tryd.cells26];decide) hy
  obtain ⟨g,eg⟩:=Bx Tryd.underlying26 (i:=6) rfl rfl Tryd.cells3 Tryd.underlying3 (by rw [Tryd.cells26];decide) hy
  obtain ⟨p,x1,x2,x3,v,x5,x6,rfl⟩:=A22 hl
  have o:DataW.trod enc Tryd.prog W base (fun _ => true) held n' 9 (([p,x1,x2,x3,v,x5,x6]:List Value).drop 0 |>.take (Tryd.prog.cellsOf 9)) = xs[0]?:=h3 0 _ rfl
  rw [Tryd.cells9] at o
  have l:0 < xs.length:=by rw [h2];decide
  rw [List.getElem?_eq_getElem l] at o
  obtain ⟨s,z,e2,_⟩:=DataW.trod_string Tryd.underlying9 o
  have e3:p = .string s:=by simpa using z
  subst e3
  cases eb;cases x;cases ed;cases ee;cases ef;cases eg
  refine ⟨⟨s,b,c,d,e,f,g⟩,rfl,fun r => ?_⟩
  rw [m] at r
  have t:=r.part Tryd.underlying26 (j:=0) (u:=9) (d:=xs[0].1) rfl (by rw [List.getElem?_map,List.getElem?_eq_getElem l];rfl)
  rw [e2] at t
  have:=t s.data.toList.length (by simp [DataW.weights])
  have h5:=reachBytes_lt
  have h6:s.data.toList.length = s.size:=Array.length_toList
  show s.size < _
  omega
end
theorem V8 {W:World} {base:Nat} {t e:TypeId} {v:Value} (ht:Tryd.prog.underlying t = some (.slice e)) (h:Value.okWide Tryd.prog W .any base t v):∀ a n c,[v] = [.slice (some a) n c] → Sv W:=by
  intro a n c d
  cases d
  unfold Value.okWide at h
  rw [ht] at h
  exact Ai6 h
theorem Ri {W:World} {base:Nat} {t e:TypeId} {v:Value} (ht:Tryd.prog.underlying t = some (.slice e)) (h:Value.okWide Tryd.prog W .any base t v):∃ a n c,v = .slice a n c:=by
  unfold Value.okWide at h
  rw [ht] at h
  simp only at h
  unfold Cell.okWide at h
  rw [ht] at h
  cases v with
  | slice a n c => exact ⟨a,n,c,rfl⟩
  | _ => simp only [Cell.ok,ht] at h
theorem A26 (ι : Inj) (a:Go.L.Spec):VRs ι (Xv a) (Xv a):=.cons (.int _ _) (.cons (.int _ _) (.cons (.int _ _) (.cons (.int _ _) (.cons (.int _ _) .nil))))
theorem A1l (ι : Inj) (a:Go.L.Ac):VRs ι (Ar a) (Ar a):=.cons (.string _) (.cons (.int _ _) (.cons (.int _ _) (.cons (.int _ _) (.cons (.int _ _) (.cons (.int _ _) (.cons (.int _ _) .nil))))))
theorem Azo {z:Int} (h:(Lit.int .i64 z).wf = true):Mw z:=by
  simp only [Lit.wf,Bool.and_eq_true,decide_eq_true_eq] at h
  have a:IntKind.min .i64 = -9223372036854775808:=by decide
  have h2:IntKind.max .i64 = 9223372036854775807:=by decide
  unfold Mw
  omega
abbrev Ac8:List (String × DataW Unit):=[("math/bits.deBruijn64tab", Rows.laid_math_bits_deBruijn64tab)]
theorem gTab:Tryd.prog.globalNamed "math/bits.deBruijn64tab" = some 0:=by kernel_rfl
theorem tTab:(Tryd.prog.globals[0]?).map (·.type) = some 138:=by kernel_rfl
theorem Ay7:0 < Tryd.prog.globals.size:=of_decide_eq_true (by kernel_rfl)
theorem Avb (os:Os) (args:Array Value):laidMetH Tryd.prog Ac8 ((World.doorLaid Tryd.prog 400 os).forCall (fun _ _ => 0) ⟨#[],args,[]⟩).memory :=
  laidMetH_of_parts3 (fuel:=8) (laidMet_of_run' 8 (by kernel_rfl) (by kernel_rfl)) (by kernel_rfl) (by kernel_rfl)
def tabC:List Value:=Lib.deBruijn64tab.map fun n:Nat => .int .u8 (n:Int)
theorem Awo:Go.L.Try.Afh tabC = true:=by decide +kernel
theorem Axh {W:World} (h:laidMetH Tryd.prog Ac8 W):∃ arr t fz,W.heap[0]? = some (.cells arr t fz) ∧ tabC.length ≤ arr.size ∧ ∀ (i:Nat) v,tabC[i]? = some v → arr[i]? = some v ∧ ∃ k n,v = .int k n:=by
  rw [MakeChecks.laidMetH_plain _ _ _ (by kernel_rfl)] at h
  obtain ⟨ps,⟨g0,t0,y,f0,p0,q0,j,r,p,z,_,_⟩,_,_⟩:=h
  obtain rfl:=Option.some.inj (gTab.symm.trans j)
  obtain rfl:=Option.some.inj (tTab.symm.trans r)
  obtain ⟨xs,m1,rfl,u,a0,hn,g⟩:=DataW.trod_array Tryd.underlying138 z
  rw [Tryd.cells5] at g
  have x:xs.map (·.1) = Lib.deBruijn64tab.map fun n:Nat => (.lit (.int .u8 (n:Int)):DataW Unit):=by
    have:=(Prod.mk.inj u).1
    exact (DataW.agg.inj this).symm
  have f:∀ i:Nat,i < 64 → W.cell? ⟨0,i,none⟩ = some (.int .u8 ((Lib.deBruijn64tab.getD i 0:Nat):Int)):=by
    intro i c
    have h0:=g i c
    rw [Nat.mul_one,List.getElem?_eq_getElem (by omega)] at h0
    obtain ⟨k,e1,e2,_⟩:=DataW.trod_int Tryd.underlying5 h0
    have hk:k = ((Lib.deBruijn64tab.getD i 0:Nat):Int):=by
      have o:=congrArg (fun l => l[i]?) x
      simp only [List.getElem?_map] at o
      rw [List.getElem?_eq_getElem (by omega),e2] at o
      have s:i < Lib.deBruijn64tab.length:=c
      rw [List.getD_eq_getElem?_getD]
      rw [List.getElem?_eq_getElem s] at o ⊢
      simpa using o
    have h2:y.toList[i]? = some (.int .u8 k):=by
      have:=congrArg (fun l => l[0]?) e1
      simp only [List.getElem?_cons_zero] at this
      rw [List.getElem?_take,if_pos (by decide),List.getElem?_drop,Nat.add_zero] at this
      exact this
    have h3:=World.var?_cell j p i
    rw [← hk]
    rw [h3,← Array.getElem?_toList];exact h2
  obtain ⟨_,arr,t,fz,hw⟩:=Aa6 (f 0 (by decide))
  have e:∀ i:Nat,W.cell? ⟨0,i,none⟩ = arr[i]?:=fun i => by
    have:=Aix (a:=⟨0,0,none⟩) hw rfl i
    rw [Nat.zero_add] at this
    rw [← this]
    unfold Addr.add
    by_cases c:i = 0
    · subst c;rfl
    · rw [if_neg c,Nat.zero_add]
  have d:∀ i:Nat,i < 64 → arr[i]? = some (.int .u8 ((Lib.deBruijn64tab.getD i 0:Nat):Int)):=fun i c => by rw [← e];exact f i c
  have hT:tabC.length = 64:=rfl
  refine ⟨arr,t,fz,hw,?_,fun i v m => ?_⟩
  · have:=(Array.getElem?_eq_some_iff.1 (d 63 (by decide))).1
    rw [hT];omega
  · have c:=(GI.1 m).1
    rw [hT] at c
    have:v = .int .u8 ((Lib.deBruijn64tab.getD i 0:Nat):Int):=by
      unfold tabC at m
      rw [List.getElem?_map] at m
      have s:i < Lib.deBruijn64tab.length:=c
      rw [List.getD_eq_getElem?_getD]
      rw [List.getElem?_eq_getElem s] at m ⊢
      simpa using m.symm
    subst this
    exact ⟨d i c,_,_,rfl⟩
structure TabC (h:Aa):Prop where
  is:h[0]? = some (.cells Go.L.Try.tabC true)
theorem TabC.pre {h h':Aa} (t:TabC h) (p:Pre h h'):TabC h':=⟨p _ _ t.is⟩
theorem TabC.tab {h:Aa} (t:TabC h):Go.L.Try.Tab 0 h:=⟨Go.L.Try.tabC,true,t.is,Awo⟩
theorem Ap8 {W:World} (h:laidMetH Tryd.prog Ac8 W):∃ ι h0,Nm Tryd.prog W ι h0 ∧ TabC h0:=by
  obtain ⟨c,t,f,a,e,d⟩:=Axh h
  refine ⟨_,_,Axr Ay7 a e d,⟨?_⟩⟩
  rw [List.getElem?_set_self (by simp <;> exact Ay7)]
  rfl
end Go.Proofs.YtnanlkamcgihlaaDoor
