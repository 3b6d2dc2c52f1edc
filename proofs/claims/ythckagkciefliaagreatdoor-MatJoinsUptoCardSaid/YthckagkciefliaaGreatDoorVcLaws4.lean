/-
  The laws of vectors, walked: VecDots.
-/
import Derived.Test.YthckagkciefliaaGreatDoorVcLaws3
set_option linter.unusedVariables false
set_option linter.unusedSectionVars false
namespace Go.Proofs.YthckagkciefliaaGreatDoor.Vc
open Go AL Hx Dt Spl

/-- Two dots in a row. -/
abbrev twoV (x y z u : Int) : AV := .agg 4 fun i => [int .i64 x, int .i64 y, int .i64 z, int .i64 u].getD i .top
def hasP (l : List (Int × Int)) (x y : Int) : Prop := mayD x y ∧ y ≤ getV l x
instance (l : List (Int × Int)) (x y : Int) : Decidable (hasP l x y) := by unfold hasP; exact inferInstance
theorem has_iff {l : List (Int × Int)} {x y : Int} : hasP l x y ↔ mayD x y ∧ y ≤ cntF l x.toNat := by
  unfold hasP getV
  constructor
  · rintro ⟨h, h2⟩
    have h' := h
    unfold mayD at h'
    rw [if_neg (by omega)] at h2
    exact ⟨h, h2⟩
  · rintro ⟨h, h2⟩
    have h' := h
    unfold mayD at h'
    rw [if_neg (by omega)]
    exact ⟨h, h2⟩
theorem has_join (a b : List (Int × Int)) (x y : Int) : hasP (ofF (maxF (cntF a) (cntF b))) x y ↔ hasP a x y ∨ hasP b x y := by
  rw [has_iff, has_iff, has_iff, cof (cnt_ok a) (cnt_ok b)]
  simp only [maxF]
  constructor
  · rintro ⟨h, h2⟩
    rcases Int.le_total (cntF a x.toNat) (cntF b x.toNat) with h3 | h3
    · exact .inr ⟨h, by omega⟩
    · exact .inl ⟨h, by omega⟩
  · rintro (⟨h, h2⟩ | ⟨h, h2⟩)
    · exact ⟨h, by omega⟩
    · exact ⟨h, by omega⟩
theorem has_meet (a b : List (Int × Int)) (x y : Int) : hasP (ofF (minF (cntF a) (cntF b))) x y ↔ hasP a x y ∧ hasP b x y := by
  rw [has_iff, has_iff, has_iff, mof (cnt_ok a) (cnt_ok b)]
  simp only [minF]
  constructor
  · rintro ⟨h, h2⟩
    exact ⟨⟨h, by omega⟩, h, by omega⟩
  · rintro ⟨⟨h, h2⟩, _, h3⟩
    exact ⟨h, by omega⟩
theorem has_with (a : List (Int × Int)) (x y z u : Int) : hasP (ofF (updF (cntF a) (x, y))) z u ↔ hasP a z u ∨ (mayD x y ∧ z = x ∧ 1 ≤ u ∧ u ≤ y) := by
  rw [has_iff, has_iff, uof (cnt_ok a)]
  have e : ∀ r, updF (cntF a) (x, y) r = if mayD x y ∧ r = x.toNat then max (cntF a r) y else cntF a r := fun _ => rfl
  rw [e]
  constructor
  · rintro ⟨h, h2⟩
    by_cases hc : mayD x y ∧ z.toNat = x.toNat
    · rw [if_pos hc] at h2
      have h' := h
      have hm := hc.1
      unfold mayD at h' hm
      rcases Int.le_total (cntF a z.toNat) y with h3 | h3
      · exact .inr ⟨hc.1, by omega, by omega, by omega⟩
      · exact .inl ⟨h, by omega⟩
    · rw [if_neg hc] at h2
      exact .inl ⟨h, h2⟩
  · rintro (⟨h, h2⟩ | ⟨hm, rfl, h2, h3⟩)
    · refine ⟨h, ?_⟩
      split <;> omega
    · have h' := hm
      unfold mayD at h'
      refine ⟨by unfold mayD; omega, ?_⟩
      rw [if_pos ⟨hm, rfl⟩]
      omega
theorem dec_or {p q r : Prop} [Decidable p] [Decidable q] [Decidable r] (h : r ↔ p ∨ q) : decide r = (decide p || decide q) := by
  by_cases hp : p <;> by_cases hq : q <;> simp [h, hp, hq]
theorem dec_and {p q r : Prop} [Decidable p] [Decidable q] [Decidable r] (h : r ↔ p ∧ q) : decide r = (decide p && decide q) := by
  by_cases hp : p <;> by_cases hq : q <;> simp [h, hp, hq]

section
variable [Globs]

end
end Go.Proofs.YthckagkciefliaaGreatDoor.Vc
