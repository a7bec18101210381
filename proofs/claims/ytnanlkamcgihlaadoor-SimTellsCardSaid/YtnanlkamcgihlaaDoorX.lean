/- THE CONTRACT OF math/bits.TrailingZeros64, where its table is laid. -/
import Derived.Test.YtnanlkamcgihlaaDoorPj
import Derived.Test.YtnanlkamcgihlaaDoorSh
import Derived.Shelf.Spec.TrailingZeros
set_option linter.unusedVariables false
set_option linter.unusedSimpArgs false
namespace Go.L.Try
open Go Go.L Go.Shelf Go.Proofs
variable {P:Program} {ρ : Ren}
theorem Azw {w:World} {ι : Inj} {h:Aa} (hs:Sim P ι h w) {g:Nat} (hg:g < P.globals.size) {c:List Value} {ro:Bool} (hG:h[g]? = some (.cells c ro)) (hc:Afh c = true):TabAt g Lib.deBruijn64tab w:=by
 obtain ⟨s,hι⟩:=hs.glob g hg
 obtain ⟨m,o,d⟩:=hs.obj g _ hG (by simp)
 rw [hι] at o
 cases o
 cases d with
 | @cells _ _ arr t fz hw hsz hl hcell _ _ =>
  unfold Afh at hc
  rw [Bool.and_eq_true,decide_eq_true_eq,List.all_eq_true] at hc
  intro j u
  have l:j < 64:=u
  have a:=hc.2 j (List.mem_range.2 l)
  cases hv:c[j]? with
  | none => rw [hv] at a;cases a
  | some v =>
   rw [hv] at a
   obtain ⟨r,p,f⟩:=hcell j v hv
   split at a
   ·rename_i n e
    cases e
    cases f
    rw [Nat.zero_add] at p
    simp only at hw
    have x:n = ((Lib.deBruijn64tab.getD j 0:Nat):Int):=by simpa using a
    simp only [World.cell?,hw]
    rw [p,x];rfl
   ·cases a
theorem Azq (L:Lays7.n29 P ρ):Ao3 P (ρ.f 29) (tzE (ρ.g 1)):=by
 intro m h v h' y d F n u ι w args' hs ha
 unfold tzE at d
 split at d
 ·rename_i a z
  split at d
  ·rename_i c ro t
   split at d
   ·rename_i j
    obtain ⟨j,l,p⟩:=j
    simp only [OI,Prod.mk.injEq] at d
    obtain ⟨rfl,rfl,rfl⟩:=d
    cases ha with
    | cons r1 t1 =>
     cases t1
     cases r1
     obtain ⟨x,rfl⟩:=Int.eq_ofNat_of_zero_le l
     have s:ρ.g 1 < P.globals.size:=by
      have:=L.g1
      rw [Array.findIdx?_eq_some_iff_getElem] at this
      exact this.1
     have o:=Azw hs s t j
     refine Ak6 u ((Any7.bits_TrailingZeros64 L x (by omega) w fun _ => o).mono fun e w' r => ?_)
     obtain ⟨rfl,rfl⟩:=r
     exact ⟨ι,_,rfl,St.refl hs,Old.refl _ _,VR.int _ _⟩
   ·cases d
  ·cases d
 ·cases d
theorem Arq {G:Nat} {args:List Value} {h h':Aa} {v:Value} {ws:List Nat} (hv:tzE G args h = some (v,h',ws)):h' = h ∧ ws = []:=by
 unfold tzE at hv
 split at hv
 ·split at hv
  ·split at hv
   ·simp only [OI,Prod.mk.injEq] at hv;exact ⟨hv.2.1.symm,hv.2.2.symm⟩
   ·cases hv
  ·cases hv
 ·cases hv
theorem Arr (G:Nat):Ao4 (tzE G):=by
 intro p o c h d v h' g a
 unfold tzE at a ⊢
 split at a <;> try (cases a;done)
 split at a <;> try (cases a;done)
 rename_i e
 split at a <;> try (cases a;done)
 rename_i f
 simp only [Sees.set d o _ _ e (by simp),if_pos f]
 exact Veil.same d _ _ _ a
end Go.L.Try
