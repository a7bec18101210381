/- THE CONTRACT OF math/bits.Add64. -/
import Derived.Test.YtlmadipiopnfeaaDoorPj
import Derived.Test.YtlmadipiopnfeaaDoorSh
import Derived.Test.YtlmadipiopnfeaaDoorPk
import Derived.Shelf.Spec.TrailingZeros
set_option linter.unusedVariables false
set_option linter.unusedSimpArgs false
namespace Go.L.Try
open Go Go.L
theorem Awd {P : Program} {f : FuncId} (hrun : ∀ (x y c : Nat) (w : World), x < 18446744073709551616 → y < 18446744073709551616 → c ≤ 1 → (callFunc f #[.int .u64 x, .int .u64 y, .int .u64 c]).run P w = .ok (.value (.tuple #[.int .u64 (((x + y + c) % 18446744073709551616 : Nat) : Int), .int .u64 (((x + y + c) / 18446744073709551616 : Nat) : Int)])) w) : Azy P f Aiy := by
  intro args h v h' ws hv
  unfold Aiy at hv
  split at hv
  · rename_i a b c hh
    split at hv
    · rename_i hc
      obtain ⟨⟨a1, a2⟩, ⟨b1, b2⟩, c1, c2⟩ := hc
      simp only [Option.some.injEq, Prod.mk.injEq] at hv
      obtain ⟨rfl, rfl, rfl⟩ := hv
      obtain ⟨x, rfl⟩ := Int.eq_ofNat_of_zero_le a1
      obtain ⟨y, rfl⟩ := Int.eq_ofNat_of_zero_le b1
      obtain ⟨z, rfl⟩ := Int.eq_ofNat_of_zero_le c1
      refine ⟨fun l0 a0 b0 hm => by simp at hm, fun ι w args' hs ha => ?_⟩
      cases ha with
      | cons r1 t1 =>
        cases t1 with
        | cons r2 t2 =>
          cases t2 with
          | cons r3 t3 =>
            cases t3
            cases r1; cases r2; cases r3
            refine ⟨_, w, hrun x y z w (by omega) (by omega) (by omega), ι, _, rfl, St.refl hs, Old.refl _ _, ?_⟩
            exact .tuple (.cons (.int _ _) (.cons (.int _ _) .nil))
    · cases hv
  · cases hv
theorem Aq6 {args : List Value} {h h' : Aa} {v : Value} {ws : List Nat} (hv : Aiy args h = some (v, h', ws)) : h' = h ∧ ws = [] := by
  unfold Aiy at hv
  split at hv
  · split at hv
    · simp only [Option.some.injEq, Prod.mk.injEq] at hv; exact ⟨hv.2.1.symm, hv.2.2.symm⟩
    · cases hv
  · cases hv
end Go.L.Try
namespace Go.L.Try
open Go Go.L Go.Shelf Go.Proofs
variable {P : Program} {ρ : Ren}
theorem A0b {w : World} {ι : Inj} {h : Aa} (hs : Sim P ι h w) {g : Nat} (hg : g < P.globals.size) {c : List Value} {ro : Bool} (hG : h[g]? = some (.cells c ro)) (hc : Afm c = true) : TabAt g Lib.deBruijn64tab w := by
  obtain ⟨s, hι⟩ := hs.glob g hg
  obtain ⟨m, hm, hobj⟩ := hs.obj g _ hG (by simp)
  rw [hι] at hm
  cases hm
  cases hobj with
  | @cells _ _ arr t fz hw hsz hl hcell _ _ =>
    unfold Afm at hc
    rw [Bool.and_eq_true, decide_eq_true_eq, List.all_eq_true] at hc
    intro j hj
    have hj2 : j < 64 := hj
    have h1 := hc.2 j (List.mem_range.2 hj2)
    cases hv : c[j]? with
    | none => rw [hv] at h1; cases h1
    | some v =>
      rw [hv] at h1
      obtain ⟨r, hr, hvr⟩ := hcell j v hv
      split at h1
      · rename_i n e
        cases e
        cases hvr
        rw [Nat.zero_add] at hr
        simp only at hw
        have e2 : n = ((Lib.deBruijn64tab.getD j 0 : Nat) : Int) := by simpa using h1
        simp only [World.cell?, hw]
        rw [hr, e2]; rfl
      · cases h1
theorem Az5 (L : Lays7.n29 P ρ) : Az0 P (ρ.f 29) (tzE (ρ.g 1)) := by
  intro args h v h' ws hv F n hW ι w args' hs ha
  unfold tzE at hv
  split at hv
  · rename_i a hh
    split at hv
    · rename_i c ro hG
      split at hv
      · rename_i hc
        obtain ⟨hc, ha0, ha1⟩ := hc
        simp only [Option.some.injEq, Prod.mk.injEq] at hv
        obtain ⟨rfl, rfl, rfl⟩ := hv
        cases ha with
        | cons r1 t1 =>
          cases t1
          cases r1
          obtain ⟨x, rfl⟩ := Int.eq_ofNat_of_zero_le ha0
          have hg : ρ.g 1 < P.globals.size := by
            have := L.g1
            rw [Array.findIdx?_eq_some_iff_getElem] at this
            exact this.1
          have hT := A0b hs hg hG hc
          refine Akz hW ((Any7.bits_TrailingZeros64 L x (by omega) w fun _ => hT).mono fun e w' hr => ?_)
          obtain ⟨rfl, rfl⟩ := hr
          exact ⟨ι, _, rfl, St.refl hs, Old.refl _ _, VR.int _ _⟩
      · cases hv
    · cases hv
  · cases hv
theorem Arq {G : Nat} {args : List Value} {h h' : Aa} {v : Value} {ws : List Nat} (hv : tzE G args h = some (v, h', ws)) : h' = h ∧ ws = [] := by
  unfold tzE at hv
  split at hv
  · split at hv
    · split at hv
      · simp only [Option.some.injEq, Prod.mk.injEq] at hv; exact ⟨hv.2.1.symm, hv.2.2.symm⟩
      · cases hv
    · cases hv
  · cases hv
end Go.L.Try
