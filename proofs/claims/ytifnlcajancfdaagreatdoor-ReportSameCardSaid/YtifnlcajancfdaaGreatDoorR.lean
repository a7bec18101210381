/- ARGUMENTS LAID: what a row of the claim reads, as read-only blocks of the logical machine. -/
import Derived.Test.YtifnlcajancfdaaGreatDoorVb
import Derived.Test.YtifnlcajancfdaaGreatDoorSh
import Derived.Deep.Slices
import Derived.SizedLaws
import Derived.ChangeArms
import Derived.ChangeSame
import Derived.RowKit
import Derived.Carry
import Derived.ProofKit
import Derived.Test.YtifnlcajancfdaaGreatDoorEnv
import Derived.Test.YtifnlcajancfdaaGreatDoorX
import Derived.Test.YtifnlcajancfdaaGreatDoorRows
import Derived.LaidMore
import Derived.OpenShut
set_option linter.unusedVariables false
set_option linter.unusedSimpArgs false
namespace Go.L
open Go
variable {P:Program} {w:World} {ι : Inj} {h:Aa}
structure Q6 (P:Program) (w:World) (ι : Inj) (h:Aa):Prop where
 sim:Sim P ι h w
 ro:h.all LObj.readOnly=true
def Xa (w:World):Prop:=∃ (rb:Nat) (arr:Array Value) (t:TypeId) (fz:Nat × Nat),w.heap[rb]? = some (.cells arr t fz)
theorem Aj6 {a:Addr} {arr:Array Value} {t:TypeId} {fz:Nat × Nat} (hw:w.heap[a.block]? = some (.cells arr t fz)) (hsp:a.spot=none) (k:Nat):w.cell? (a.add k)=arr[a.off+k]?:=by
 unfold Addr.add
 by_cases hk:k=0
 ·subst hk;simp [World.cell?,hw,hsp]
 ·simp [World.cell?,hw,hk]
theorem Aci {a:Addr} {v:Value} (h:w.cell? a=some v):a.spot=none∧∃ arr t fz,w.heap[a.block]? = some (.cells arr t fz):=by
 unfold World.cell? at h
 split at h
 ·rename_i c t fz hw
  split at h
  ·cases h
  ·rename_i hs
   exact ⟨by simpa using hs,c,t,fz,hw⟩
 ·cases h
theorem A0z {sz:Nat} (hz:0<sz) {L:List (List Value)} (hs:∀ e∈L,e.length=sz) {j:Nat} {v:Value} (hv:L.flatten[j]? = some v):∃ l,L[j / sz]? = some l∧l[j % sz]? = some v:=by
 have hlen:L.flatten.length=L.length * sz:=by
  clear hv
  induction L with
  | nil => simp
  | cons x r ih => rw [List.flatten_cons,LA,ih fun e he => hs e (by simp [he]),hs x (by simp),List.length_cons,Nat.succ_mul];omega
 have hj:=(GI.1 hv).1
 have hq:j / sz<L.length:=by rw [hlen] at hj;exact Nat.div_lt_of_lt_mul (by rwa [Nat.mul_comm] at hj)
 have hr:j % sz<sz:=Nat.mod_lt _ hz
 have e:=Row.flat_get hs (j / sz) (j % sz) hq hr
 have ej:j / sz * sz+j % sz=j:=by rw [Nat.mul_comm];exact Nat.div_add_mod j sz
 rw [ej,hv] at e
 refine ⟨L[j / sz],List.getElem?_eq_getElem hq,?_⟩
 have hl:=hs _ (List.getElem_mem hq)
 have e2:L.getD (j / sz) []=L[j / sz]:=by rw [List.getD_eq_getElem?_getD,List.getElem?_eq_getElem hq];rfl
 rw [e2] at e
 rw [List.getElem?_eq_getElem (by omega),e,List.getD_eq_getElem?_getD,List.getElem?_eq_getElem (by omega)];rfl
theorem Awm (hl:Q6 P w ι h) {base sz:Nat} {a:Addr} {len cap:Nat} {L:List (List Value)} {R:Nat→List Value} (hz:0<sz) (hcap:0<cap) (hle:len≤cap) (hlen:L.length=len) (hfew:len<1152921504606846976)
  (hcells:∀ i,i<cap→w.cells? base (a.add (i * sz)) sz=some (R i)) (hL:∀ (i:Nat) l,L[i]? = some l→VRs ι l (R i)) (hone:∀ l∈L,l.all Ah=true) :
  ∃ ι',Sub ι ι'∧Q6 P w ι' (h++[.cells L.flatten true])∧VR ι' (.slice (some ⟨h.length,0,none⟩) len cap) (.slice (some a) len cap)∧Row sz (h++[.cells L.flatten true]) (.slice (some ⟨h.length,0,none⟩) len cap) L:=by
 have hat:∀ i fo,i<cap→fo<sz→w.cell? (a.add (i * sz+fo))=(R i)[fo]?:=fun i fo hi hf => by
  have h1:=(World.cells?_some (hcells i hi)).2.2 fo hf
  rwa [Go.Deep.add_add] at h1
 have hRl:∀ i,i<cap→(R i).length=sz:=fun i hi => (World.cells?_some (hcells i hi)).2.1
 have hsz:∀ l∈L,l.length=sz:=fun l hm => by
  obtain ⟨i,hi,rfl⟩:=List.getElem_of_mem hm
  rw [(hL i _ (List.getElem?_eq_getElem hi)).length];exact hRl i (by omega)
 have h0:=hat 0 0 hcap hz
 rw [List.getElem?_eq_getElem (by rw [hRl 0 hcap];exact hz),Nat.zero_mul] at h0
 have hadd0:a.add (0+0)=a:=by simp [Addr.add]
 rw [hadd0] at h0
 obtain ⟨hsp,arr,t,fz,hw⟩:=Aci h0
 have hc2:∀ k,w.cell? (a.add k)=arr[a.off+k]?:=Aj6 hw hsp
 have hfl:=Ef hsz
 let m:Img:=⟨a.block,a.off,arr.size⟩
 have hin:∀ k,k<len * sz→a.off+k<arr.size:=fun k hk => by
  have hq:k / sz<len:=Nat.div_lt_of_lt_mul (by rwa [Nat.mul_comm] at hk)
  have hr:k % sz<sz:=Nat.mod_lt _ hz
  have e:=hat (k / sz) (k % sz) (by omega) hr
  have ej:k / sz * sz+k % sz=k:=by rw [Nat.mul_comm];exact Nat.div_add_mod k sz
  rw [ej,hc2,List.getElem?_eq_getElem (by rw [hRl _ (by omega)];exact hr)] at e
  exact (Array.getElem?_eq_some_iff.1 e).1
 have hoff:a.off<arr.size:=by
  have:=hc2 0
  rw [show a.add 0=a from rfl,h0] at this
  exact (Array.getElem?_eq_some_iff.1 this.symm).1
 have hbound:a.off+L.flatten.length≤arr.size:=by
  rw [hfl,hlen]
  rcases Nat.eq_zero_or_pos (len * sz) with e | e
  ·omega
  ·have:=hin (len * sz - 1) (by omega);omega
 have hsim:=At2 hl.sim hl.ro (c:=L.flatten) (m:=m) (arr:=arr) (t:=t) (fz:=fz) hw rfl hbound (fun j v hv => by
  obtain ⟨l,hl1,hl2⟩:=A0z hz hsz hv
  have hq:=(GI.1 hl1).1
  obtain ⟨r,hr1,hr2⟩:=(hL _ _ hl1).at_ hl2
  refine ⟨r,?_,hr2⟩
  have ej:j / sz * sz+j % sz=j:=by rw [Nat.mul_comm];exact Nat.div_add_mod j sz
  have e:=hat (j / sz) (j % sz) (by omega) (Nat.mod_lt _ hz)
  rw [ej,hc2,hr1] at e
  exact e) (by rw [List.all_flatten];simpa using fun l hm v hv => by have:=List.all_eq_true.1 (hone l hm) v hv;exact this)
 have hrow:Row sz (h++[.cells L.flatten true]) (.slice (some ⟨h.length,0,none⟩) len cap) L :=
  ⟨hsz,by omega,.inr ⟨h.length,0,none,cap,L.flatten,true,by rw [hlen],by rw [Bm];rfl,by omega,by rw [List.drop_zero,← hfl,List.take_length],by omega,.inl rfl⟩⟩
 refine ⟨_,Inj.put_sub (hl.sim.dom h.length (Nat.le_refl _)) m,⟨hsim,Ana hl.ro _⟩,?_,hrow⟩
 have hv:=VR.slice (ι:=ι.put h.length m) (b:=h.length) (m:=m) 0 len cap (Inj.put_same _ _ _)
 have ea:(⟨m.rb,m.off+0,none⟩:Addr)=a:=by cases a;simp only at hsp;subst hsp;rfl
 rw [ea] at hv;exact hv
theorem Ar1 (hl:Q6 P w ι h) (hany:Xa w) {sz:Nat} (a:Addr) :
  ∃ ι',Sub ι ι'∧Q6 P w ι' (h++[.cells [] true])∧VR ι' (.slice (some ⟨h.length,0,none⟩) 0 0) (.slice (some a) 0 0)∧Row sz (h++[.cells [] true]) (.slice (some ⟨h.length,0,none⟩) 0 0) []:=by
 obtain ⟨rb,arr,t,fz,hw⟩:=hany
 let m:Img:=⟨rb,0,arr.size⟩
 have hsim:=At2 hl.sim hl.ro (c:=[]) (m:=m) (arr:=arr) (t:=t) (fz:=fz) hw rfl (by simp [m]) (fun i v hv => by simp at hv) rfl
 exact ⟨_,Inj.put_sub (hl.sim.dom h.length (Nat.le_refl _)) m,⟨hsim,Ana hl.ro _⟩,VR.slice0 0 a (Inj.put_same _ _ m),by simp,by simp,.inr ⟨h.length,0,none,0,[],true,rfl,by rw [Bm];rfl,by simp,by simp,Nat.le_refl _,.inl rfl⟩⟩
def Few (P:Program) {H:Type} (t:TypeId) (d:DataW H):Prop:=∀ n∈d.weights P t,n≤reachBytes
theorem Yj {H:Type} {P:Program} {e:TypeId}:∀ {l:List (DataW H)} {d:DataW H},d∈l→∀ n∈d.weights P e,n∈DataW.weightsAll P e l
 | d0 :: r,d,hd,n,hn => by
  simp only [DataW.weightsAll,List.mem_append]
  rcases List.mem_cons.1 hd with rfl | hd
  ·exact .inl hn
  ·exact .inr (Yj hd n hn)
theorem Alm {H:Type} {enc:TypeId × Value→H} {base:Nat} {held:Bool} {t e:TypeId} {fuel:Nat} {cs:List Value} {x:DataW H × List MemPlace} (ht:P.underlying t=some (.slice e)) (hb:0<P.bytesOf e)
  (h:DataW.trod enc P w base (fun _ => true) held fuel t cs=some x) (hf:Few P t x.1) :
  cs=[.slice none 0 0]∨∃ (a:Addr) (len cap:Nat) (R:Nat→List Value),cs=[.slice (some a) len cap]∧len≤cap∧cap<1152921504606846976∧∀ i,i<cap→w.cells? base (a.add (i * P.cellsOf e)) (P.cellsOf e)=some (R i)∧∃ n y,DataW.trod enc P w base (fun _ => true) held n e (R i)=some y∧(i<len→Few P e y.1):=by
 rcases Go.Deep.open_slice ht h with ⟨h0,_⟩ | ⟨a,len,cap,m,n,D,Pl,e1,hba,hl,hm,e2,e3,hx⟩
 ·exact .inl h0
 ·right
  simp only [if_true] at e2
  subst e2
  subst e1
  obtain ⟨R,hR⟩:=Go.Deep.choose_lt (α:=List Value) (p:=fun i cs' => w.cells? base (a.add (i * P.cellsOf e)) (P.cellsOf e)=some cs'∧DataW.trod enc P w base (fun _ => true) held n e cs'=some (D i,Pl i)) hx
  rw [e3] at hf
  simp only [Few,DataW.weights,ht] at hf
  have h1:=hf _ (List.mem_cons_self)
  simp only [List.length_map,List.length_range] at h1
  have h2:m≤(len+(m - len)) * P.bytesOf e:=by
   rw [show len+(m - len)=m by omega];exact Nat.le_mul_of_pos_right _ hb
  have h3:=reachBytes_lt
  refine ⟨a,len,m,R,rfl,hl,by omega,fun i hi => ⟨(hR i hi).1,n,_,(hR i hi).2,fun hil k hk => ?_⟩⟩
  refine hf k (List.mem_cons_of_mem _ (List.mem_append.2 (.inl (Yj (List.mem_map.2 ⟨i,List.mem_range.2 hil,rfl⟩) k hk))))
theorem Awn {α : Type} [Inhabited α] {sz:Nat} {en:α → List Value} (hl:Q6 P w ι h) (hsz:∀ a,(en a).length=sz) (hone:∀ a,(en a).all Ah=true) (hself:∀ (ι : Inj) a,VRs ι (en a) (en a))
  {H:Type} {enc:TypeId × Value→H} {base:Nat} {held:Bool} {t e:TypeId} {fuel:Nat} {cs:List Value} {x:DataW H × List MemPlace} (ht:P.underlying t=some (.slice e)) (hc:P.cellsOf e=sz) (hz:0<sz) (hb:0<P.bytesOf e)
  (helem:∀ n cs y,DataW.trod enc P w base (fun _ => true) held n e cs=some y→∃ a,cs=en a)
  (htr:DataW.trod enc P w base (fun _ => true) held fuel t cs=some x) (hf:Few P t x.1) (hany:∀ a n c,cs=[.slice (some a) n c]→Xa w) :
  ∃ ι' h' v v' l,cs=[v']∧Sub ι ι'∧Q6 P w ι' h'∧Pre h h'∧VR ι' v v'∧Rd sz en h' v l:=by
 rcases Alm ht hb htr hf with rfl | ⟨a,len,cap,R,rfl,hle,hcap,hR⟩
 ·exact ⟨ι,h,.slice none 0 0,_,[],rfl,Sub.refl ι,hl,Pre.refl h,.nils 0 0,Rd.of_nil⟩
 ·rw [hc] at hR
  rcases Nat.eq_zero_or_pos cap with e0 | hpos
  ·obtain rfl:len=0:=by omega
   subst e0
   obtain ⟨ι',h1,h2,h3,h4⟩:=Ar1 (sz:=sz) hl (hany a 0 0 rfl) a
   exact ⟨ι',_,_,_,[],rfl,h1,h2,Pre.app h _,h3,h4⟩
  ·obtain ⟨A,hA⟩:=Go.Deep.choose_lt (α:=α) (n:=cap) (p:=fun i a => R i=en a) fun i hi => by
    obtain ⟨_,n,y,hy,_⟩:=hR i hi
    exact helem n _ y hy
   have hLlen:(((List.range len).map A).map en).length=len:=by simp
   obtain ⟨ι',h1,h2,h3,h4⟩:=Awm (L:=((List.range len).map A).map en) hl hz hpos hle hLlen (by omega) (fun i hi => (hR i hi).1) (fun i l hi => by
    have hil:=(GI.1 hi).1
    rw [hLlen] at hil
    rw [List.getElem?_map,List.getElem?_map,List.getElem?_range hil] at hi
    simp only [Option.map_some,OI] at hi
    subst hi
    rw [hA i (by omega)];exact hself _ _) (fun l hm => by
    obtain ⟨b,_,rfl⟩:=List.mem_map.1 hm
    exact hone b)
   exact ⟨ι',_,_,_,(List.range len).map A,rfl,h1,h2,Pre.app h _,h3,h4⟩
theorem G0 {H:Type} {enc:TypeId × Value→H} {base:Nat} {held:Bool} {e:TypeId} {n:Nat} {cs:List Value} {y:DataW H × List MemPlace} {fs:Array Field} (he:P.underlying e=some (.struct fs)) {i:Nat} {f:Field} (hf:fs[i]? = some f) (ho:f.offset=i) (hc:P.cellsOf f.type=1) (hu:P.underlying f.type=some (.int .i64)) (hi:i<P.cellsOf e)
  (h:DataW.trod enc P w base (fun _ => true) held n e cs=some y):∃ z,cs[i]? = some (.int .i64 z):=by
 obtain ⟨xs,n',_,_,hlen,hl2,hx⟩:=DataW.trod_struct he h
 have h1:=hx i f hf
 have hlt:=(Array.getElem?_eq_some_iff.1 hf).1
 rw [List.getElem?_eq_getElem (by omega),ho,hc] at h1
 obtain ⟨z,hz,_⟩:=DataW.trod_int hu h1
 refine ⟨z,?_⟩
 have h2:((cs.drop i).take 1)[0]? = some (.int .i64 z):=by rw [hz];rfl
 rw [List.getElem?_take,if_pos (by decide),List.getElem?_drop,Nat.add_zero] at h2
 exact h2
theorem Ake {r:Reach} {base:Nat} {u:TypeId} {a:Addr} {n c:Nat} (h:Cell.okWide P w r base u (.slice (some a) n c)):Xa w:=by
 have key:Cell.ok P w r base u (.slice (some a) n c):=by
  unfold Cell.okWide at h
  split at h<;>first | exact h | (rename_i e;cases e) | (rename_i _ e;cases e) | skip
 unfold Cell.ok at key
 split at key<;>first | exact key.elim | skip
 all_goals first | (rename_i e;cases e;done) | (rename_i _ e;cases e;done) | skip
 all_goals
  obtain ⟨_,_,_,_,row,cells,hsh,_⟩:=key
  unfold World.shape? at hsh
  split at hsh
  ·rename_i c t fz hw;exact ⟨_,c,t,fz,hw⟩
  ·cases hsh
open Go.RowKit Go.ChangeShapes
theorem Ub {H:Type} {enc:TypeId × Value→H} (hl:laidOutB P=true) {W W':World} (hb:Below W.heap.size W W'):∀ {ts:List TypeId} {vs:List Value} {ds:List (DataW H)} {ps:List MemPlace},(∀ t∈ts,P.readableRec t=true∧t<P.types.size)→DataW.TrodAll enc P W 0 (fun _ => true) true ts vs ds ps→(∀ x∈ps,x.block<W.heap.size)→DataW.TrodAll enc P W' 0 (fun b => decide (b<W.heap.size)) true ts vs ds ps
 | [],[],[],ps,_,h,_ => h
 | t :: ts,v :: vs,d :: ds,ps,hr,h,hlt => by
  obtain ⟨p,q,h1,h2,rfl⟩:=h
  exact ⟨p,q,Below.trod hl (hr t (by simp)).1 (hr t (by simp)).2 h1 hb (fun x hx => hlt x (by simp [hx])),Ub hl hb (fun u hu => hr u (by simp [hu])) h2 (fun x hx => hlt x (by simp [hx])),rfl⟩
theorem A0p {E:Env} (hE:Ac1 P E) {f:FuncId} {c:FnC} (hf:E f = .text c) (hlo:laidOutB P=true) {fn:Func} {s:ChangeSpec} (hsv:s.vars=[]) {rb:TypeId} (hrt:fn.resultTypes = #[rb]) (hrb:P.underlying rb=some .bool)
  (hread:∀ t∈fn.params.toList,P.readableRec t=true∧t<P.types.size) {H:Type} {enc:TypeId × Value→H} {W:World} {args:List Value} {ds gs:List (DataW H)} {before:List MemPlace} {ap:Bool}
  (hres:(s.fn H (ds++gs)).results=[.lit (.bool true)]) (harg:(s.fn H (ds++gs)).args=ds) (hvar:(s.fn H (ds++gs)).vars=[])
  (hW:DataW.Whole enc P fn.params.toList s.vars ap W args ds gs before) {ι : Inj} {h:Aa} {args':List Value} (hl:Q6 P W ι h) (ha:VRs ι args' args)
  (hv:callW E (.func (.func f) #[] #[]) args' h=some (.bool true,h,[])) :
  Calls P f args.toArray W fun e W' => ∃ v,e = .returned v∧s.post enc P fn ap true false false W args.toArray v W':=by
 refine (Ar2 hE hf hl.ro hv hl.sim ha).mono fun e W' ⟨he,hk⟩ => ⟨_,he,?_⟩
 have hb:Below W.heap.size W W':=⟨hk.os,hk.tape,hk.output,hk.size,hk.keep⟩
 have hlt:=hW.lt
 have hW0:=hW
 obtain ⟨p,q,hA,hV,hpq,_⟩:=hW
 refine ⟨ds,gs,before,[],p,[],hW0,?_,?_,?_,hb.frame _,fun h => nomatch h⟩
 ·rw [hres,hrt];exact trodAll_mk1 (shut_bool hrb true)
 ·rw [harg]
  exact Ub hlo hb hread hA fun x hx => hlt x (by rw [hpq];exact List.mem_append.2 (.inl hx))
 ·rw [hvar,hsv];rfl
theorem Aw9 {H:Type} {ts:List TypeId} {ds:List (DataW H)} (h:(DataW.weightsEach P ts ds).all (· ≤ reachBytes)=true) {j:Nat} {t:TypeId} {d:DataW H} (ht:ts[j]? = some t) (hd:ds[j]? = some d):Few P t d :=
 fun n hn => by simpa using List.all_eq_true.1 h n (DataW.weights_mem_each ht hd n hn)
theorem Few.part {H:Type} {t:TypeId} {fs:Array Field} (ht:P.underlying t=some (.struct fs)) {ds:List (DataW H)} (h:Few P t (.agg ds)) {j:Nat} {u:TypeId} {d:DataW H} (hu:(fs.toList.map (·.type))[j]? = some u) (hd:ds[j]? = some d):Few P u d :=
 fun n hn => h n (by simp only [DataW.weights,ht];exact DataW.weights_mem_each hu hd n hn)
theorem Few.head {H:Type} {t:TypeId} {n:Nat} {cs:List Value} {x:DataW H} (h:Few P t x):Few P t x:=h
end Go.L
namespace Go.L
open Go
variable {P:Program} {w:World} {ι : Inj} {h:Aa}
def Aph (P:Program) (g n:Nat):Inj:=fun b => if b<P.globals.size then some ⟨b,0,if b=g then n else 0⟩ else none
theorem A0o {g:Nat} (hg:g<P.globals.size) {arr:Array Value} {t:TypeId} {fz:Nat × Nat} (hw:w.heap[g]? = some (.cells arr t fz)) {c:List Value} (hlen:c.length≤arr.size)
  (hc:∀ (i:Nat) v,c[i]? = some v→arr[i]? = some v∧∃ k n,v = .int k n):Q6 P w (Aph P g arr.size) ((List.replicate P.globals.size .dead).set g (.cells c true)):=by
 have old:∀ (b:Nat) (o:LObj),((List.replicate P.globals.size LObj.dead).set g (.cells c true))[b]? = some o→(b=g∧o = .cells c true)∨o = .dead:=by
  intro b o hb
  by_cases e:g=b
  ·subst e
   rw [List.getElem?_set_self (by simpa using hg)] at hb
   exact .inl ⟨rfl,(Option.some.inj hb).symm⟩
  ·rw [List.getElem?_set_ne e] at hb
   exact .inr (List.eq_of_mem_replicate (List.mem_of_getElem? hb))
 refine ⟨⟨fun b hb => ?_,fun b o hb hd => ?_,fun x hx => ⟨if x=g then arr.size else 0,by unfold Aph;rw [if_pos hx]⟩,fun x y o1 o2 m1 m2 hx _ hw1 => ?_⟩,?_⟩
 ·unfold Aph
  rw [if_neg (by simpa using hb)]
 ·rcases old b o hb with ⟨rfl,rfl⟩ | rfl
  ·refine ⟨⟨b,0,arr.size⟩,by unfold Aph;rw [if_pos hg,if_pos rfl],.cells hw rfl (by simpa using hlen) (fun i v hv => ?_) (fun h => by cases h) ?_⟩
   ·obtain ⟨h1,k,n,rfl⟩:=hc i v hv
    exact ⟨_,by rw [Nat.zero_add];exact h1,VR.int k n⟩
   ·rw [List.all_eq_true]
    intro v hv
    obtain ⟨i,hi⟩:=List.getElem?_of_mem hv
    obtain ⟨_,k,n,rfl⟩:=hc i v hi
    rfl
  ·exact absurd rfl hd
 ·rcases old x o1 hx with ⟨rfl,rfl⟩ | rfl
  ·simp [LObj.wr] at hw1
  ·simp [LObj.wr] at hw1
 ·rw [List.all_eq_true]
  intro o ho
  obtain ⟨b,hb⟩:=List.getElem?_of_mem ho
  rcases old b o hb with ⟨_,rfl⟩ | rfl<;>rfl
end Go.L
set_option maxRecDepth 100000
set_option maxHeartbeats 2000000
namespace Go.Proofs.YtifnlcajancfdaaGreatDoor
open Go.ChangeShapes Go.WideShapes Go.ChangeAt Go.RowKit Go.L
theorem Tryz.own:ownKnob Tryz.prog.godebug=none:=by kernel_rfl
theorem Tryz.laidOut:laidOutB Tryz.prog=true:=by kernel_rfl
theorem Tryz.cells74:Tryz.prog.cellsOf 74=5:=by kernel_rfl
theorem Tryz.cells3:Tryz.prog.cellsOf 3=1:=by kernel_rfl
theorem Tryz.cells5:Tryz.prog.cellsOf 5=1:=by kernel_rfl
theorem Tryz.bytes74:0<Tryz.prog.bytesOf 74:=by
 have:Tryz.prog.bytesOf 74=40:=by kernel_rfl
 omega
theorem Tryz.cellsSpec:Tryz.prog.cellsOf 74=5:=Tryz.cells74
theorem Tryz.bytesSpec:0<Tryz.prog.bytesOf 74:=Tryz.bytes74
section
variable {W:World} {H:Type} {enc:TypeId × Value→H} {base:Nat} {held:Bool}
theorem A6h {l:List Value} (h:l.length=5):∃ a b c d e,l=[a,b,c,d,e]:=by
  match l,h with
  | [a,b,c,d,e],_ => exact ⟨a,b,c,d,e,rfl⟩
theorem Aq4 (n:Nat) (cs:List Value) (y:DataW H × List MemPlace) (hy:DataW.trod enc Tryz.prog W base (fun _ => true) held n 74 cs=some y):∃ a,cs=Y0 a:=by
  have hl:cs.length=5:=by
    obtain ⟨_,_,_,_,h1,_,_⟩:=DataW.trod_struct Tryz.underlying74 hy
    rw [h1];exact Tryz.cells74
  obtain ⟨a,ea⟩:=G0 Tryz.underlying74 (i:=0) rfl rfl Tryz.cells3 Tryz.underlying3 (by rw [Tryz.cells74];decide) hy
  obtain ⟨b,eb⟩:=G0 Tryz.underlying74 (i:=1) rfl rfl Tryz.cells3 Tryz.underlying3 (by rw [Tryz.cells74];decide) hy
  obtain ⟨c,ec⟩:=G0 Tryz.underlying74 (i:=2) rfl rfl Tryz.cells3 Tryz.underlying3 (by rw [Tryz.cells74];decide) hy
  obtain ⟨d,ed⟩:=G0 Tryz.underlying74 (i:=3) rfl rfl Tryz.cells3 Tryz.underlying3 (by rw [Tryz.cells74];decide) hy
  obtain ⟨e,ee⟩:=G0 Tryz.underlying74 (i:=4) rfl rfl Tryz.cells3 Tryz.underlying3 (by rw [Tryz.cells74];decide) hy
  obtain ⟨x0,x1,x2,x3,x4,rfl⟩:=A6h hl
  cases ea;cases eb;cases ec;cases ed;cases ee
  exact ⟨⟨a,b,c,d,e⟩,rfl⟩
end
theorem Ago {W:World} {base:Nat} {t e:TypeId} {v:Value} (ht:Tryz.prog.underlying t=some (.slice e)) (h:Value.okWide Tryz.prog W .any base t v):∀ a n c,[v]=[.slice (some a) n c]→Xa W:=by
  intro a n c hv
  cases hv
  unfold Value.okWide at h
  rw [ht] at h
  exact Ake h
theorem Aar {W:World} {base:Nat} {t e:TypeId} {v:Value} (ht:Tryz.prog.underlying t=some (.slice e)) (h:Value.okWide Tryz.prog W .any base t v):∃ a n c,v = .slice a n c:=by
  unfold Value.okWide at h
  rw [ht] at h
  simp only at h
  unfold Cell.okWide at h
  rw [ht] at h
  cases v with
  | slice a n c => exact ⟨a,n,c,rfl⟩
  | _ => simp only [Cell.ok,ht] at h
theorem A6j (ι : Inj) (a:Go.L.Spec):VRs ι (Y0 a) (Y0 a):=.cons (.int _ _) (.cons (.int _ _) (.cons (.int _ _) (.cons (.int _ _) (.cons (.int _ _) .nil))))
theorem A2y {z:Int} (h:(Lit.int .i64 z).wf=true):Nj z:=by
  simp only [Lit.wf,Bool.and_eq_true,decide_eq_true_eq] at h
  have h1:IntKind.min .i64 = -9223372036854775808:=by decide
  have h2:IntKind.max .i64=9223372036854775807:=by decide
  unfold Nj
  omega
abbrev Aej:List (String × DataW Unit):=[("math/bits.deBruijn32tab", Rows.laid_math_bits_deBruijn32tab),("math/bits.deBruijn64tab", Rows.laid_math_bits_deBruijn64tab),("internal/strconv.uint64pow10", Rows.laid_internal_strconv_uint64pow10)]
theorem gTab:Tryz.prog.globalNamed "math/bits.deBruijn64tab" = some 4:=by kernel_rfl
theorem tTab:(Tryz.prog.globals[4]?).map (·.type)=some 281:=by kernel_rfl
theorem A2b:4<Tryz.prog.globals.size:=of_decide_eq_true (by kernel_rfl)
theorem Axj (os:Os) (args:Array Value):laidMetH Tryz.prog Aej ((World.doorLaid Tryz.prog 400 os).forCall (fun _ _ => 0) ⟨#[],args,[]⟩).memory :=
  laidMetH_of_parts3 (fuel:=8) (laidMet_of_run' 8 (by kernel_rfl) (by kernel_rfl)) (by kernel_rfl) (by kernel_rfl)
def tabC:List Value:=Lib.deBruijn64tab.map fun n:Nat => .int .u8 (n:Int)
theorem Aza:Go.L.Try.Ag2 tabC=true:=by decide +kernel
theorem Az8 {W:World} (h:laidMetH Tryz.prog Aej W):∃ arr t fz,W.heap[4]? = some (.cells arr t fz)∧tabC.length≤arr.size∧∀ (i:Nat) v,tabC[i]? = some v→arr[i]? = some v∧∃ k n,v = .int k n:=by
  rw [MakeChecks.laidMetH_plain _ _ _ (by kernel_rfl)] at h
  obtain ⟨ps,⟨_,_,_,_,_,_,_,_,_,_,hrest,_⟩,_,_⟩:=h
  obtain ⟨g0,t0,cs0,f0,p0,q0,hg0,ht0,hv0,hd0,_⟩:=hrest
  obtain rfl:=Option.some.inj (gTab.symm.trans hg0)
  obtain rfl:=Option.some.inj (tTab.symm.trans ht0)
  obtain ⟨xs,m1,rfl,hx1,hlen,hn,hel⟩:=DataW.trod_array Tryz.underlying281 hd0
  rw [Tryz.cells5] at hel
  have hxs:xs.map (·.1)=Lib.deBruijn64tab.map fun n:Nat => (.lit (.int .u8 (n:Int)):DataW Unit):=by
    have:=(Prod.mk.inj hx1).1
    exact (DataW.agg.inj this).symm
  have key:∀ i:Nat,i<64→W.cell? ⟨4,i,none⟩=some (.int .u8 ((Lib.deBruijn64tab.getD i 0:Nat):Int)):=by
    intro i hi
    have h0:=hel i hi
    rw [Nat.mul_one,List.getElem?_eq_getElem (by omega)] at h0
    obtain ⟨k,e1,e2,_⟩:=DataW.trod_int Tryz.underlying5 h0
    have hk:k=((Lib.deBruijn64tab.getD i 0:Nat):Int):=by
      have h1:=congrArg (fun l => l[i]?) hxs
      simp only [List.getElem?_map] at h1
      rw [List.getElem?_eq_getElem (by omega),e2] at h1
      have hl:i<Lib.deBruijn64tab.length:=hi
      rw [List.getD_eq_getElem?_getD]
      rw [List.getElem?_eq_getElem hl] at h1 ⊢
      simpa using h1
    have h2:cs0.toList[i]? = some (.int .u8 k):=by
      have:=congrArg (fun l => l[0]?) e1
      simp only [List.getElem?_cons_zero] at this
      rw [List.getElem?_take,if_pos (by decide),List.getElem?_drop,Nat.add_zero] at this
      exact this
    have h3:=World.var?_cell hg0 hv0 i
    rw [← hk]
    rw [h3,← Array.getElem?_toList];exact h2
  obtain ⟨_,arr,t,fz,hw⟩:=Aci (key 0 (by decide))
  have hcell:∀ i:Nat,W.cell? ⟨4,i,none⟩=arr[i]?:=fun i => by
    have:=Aj6 (a:=⟨4,0,none⟩) hw rfl i
    rw [Nat.zero_add] at this
    rw [← this]
    unfold Addr.add
    by_cases hi:i=0
    · subst hi;rfl
    · rw [if_neg hi,Nat.zero_add]
  have harr:∀ i:Nat,i<64→arr[i]? = some (.int .u8 ((Lib.deBruijn64tab.getD i 0:Nat):Int)):=fun i hi => by rw [← hcell];exact key i hi
  have hT:tabC.length=64:=rfl
  refine ⟨arr,t,fz,hw,?_,fun i v hv => ?_⟩
  · have:=(Array.getElem?_eq_some_iff.1 (harr 63 (by decide))).1
    rw [hT];omega
  · have hi:=(GI.1 hv).1
    rw [hT] at hi
    have:v = .int .u8 ((Lib.deBruijn64tab.getD i 0:Nat):Int):=by
      unfold tabC at hv
      rw [List.getElem?_map] at hv
      have hl:i<Lib.deBruijn64tab.length:=hi
      rw [List.getD_eq_getElem?_getD]
      rw [List.getElem?_eq_getElem hl] at hv ⊢
      simpa using hv.symm
    subst this
    exact ⟨harr i hi,_,_,rfl⟩
structure TabC (h:Aa):Prop where
  is:h[4]? = some (.cells Go.L.Try.tabC true)
theorem TabC.pre {h h':Aa} (t:TabC h) (p:Pre h h'):TabC h':=⟨p _ _ t.is⟩
theorem TabC.tab {h:Aa} (t:TabC h):Go.L.Try.Tab 4 h:=⟨Go.L.Try.tabC,true,t.is,Aza⟩
theorem Ar0 {W:World} (h:laidMetH Tryz.prog Aej W):∃ ι h0,Q6 Tryz.prog W ι h0∧TabC h0:=by
  obtain ⟨arr,t,fz,hw,hl,hc⟩:=Az8 h
  refine ⟨_,_,A0o A2b hw hl hc,⟨?_⟩⟩
  rw [List.getElem?_set_self (by simp<;>exact A2b)]
  rfl
end Go.Proofs.YtifnlcajancfdaaGreatDoor
