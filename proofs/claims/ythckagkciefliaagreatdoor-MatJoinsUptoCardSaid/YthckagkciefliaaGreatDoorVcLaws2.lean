/-
  The laws of vectors, walked: VecLattice, VecKnows, VecRaises.
-/
import Derived.Test.YthckagkciefliaaGreatDoorVcLaws
set_option linter.unusedVariables false
set_option linter.unusedSectionVars false
namespace Go.Proofs.YthckagkciefliaaGreatDoor.Vc
open Go AL Hx Dt Spl

theorem upd_comm (g : Nat → Int) (p q : Int × Int) : updF (updF g p) q = updF (updF g q) p := funext fun r => by
  have e : ∀ (g : Nat → Int) (p : Int × Int), updF g p r = if mayD p.1 p.2 ∧ r = p.1.toNat then max (g r) p.2 else g r := fun _ _ => rfl
  rw [e, e, e, e]
  by_cases h1 : mayD p.1 p.2 ∧ r = p.1.toNat
  · by_cases h2 : mayD q.1 q.2 ∧ r = q.1.toNat
    · simp only [if_pos h1, if_pos h2]; omega
    · simp only [if_pos h1, if_neg h2]
  · by_cases h2 : mayD q.1 q.2 ∧ r = q.1.toNat
    · simp only [if_neg h1, if_pos h2]
    · simp only [if_neg h1, if_neg h2]
theorem upd_ge (g : Nat → Int) (p : Int × Int) (r : Nat) : g r ≤ updF g p r := by unfold updF; split <;> omega
theorem uof {g : Nat → Int} (hg : okF g) (p : Int × Int) : cntF (ofF (updF g p)) = updF g p := cnt_of (upd_ok hg p)
theorem upd_same {l : List (Int × Int)} {a b : Int} : tab (updF (cntF l) (a, b)) = tab (cntF l) ↔ ((mayD a b ∧ b ≤ getV l a) ∨ ¬ mayD a b) := by
  rw [tab_ext]
  constructor
  · intro h
    by_cases hm : mayD a b
    · have hm' := hm
      unfold mayD at hm'
      have := h a.toNat (by omega)
      unfold updF at this
      rw [if_pos ⟨hm, rfl⟩] at this
      refine .inl ⟨hm, ?_⟩
      unfold getV
      rw [if_neg (by omega)]
      have : max (cntF l a.toNat) b = cntF l a.toNat := this
      omega
    · exact .inr hm
  · rintro (⟨hm, h⟩ | hm) r hr
    · have hm' := hm
      unfold mayD at hm'
      unfold getV at h
      rw [if_neg (by omega)] at h
      rw [upd_low (by omega)]
    · rw [upd_not hm]
theorem getV_with (l : List (Int × Int)) (a b n : Int) : getV (ofF (updF (cntF l) (a, b))) n = if n < 0 ∨ n > 31 then 0 else updF (cntF l) (a, b) n.toNat := by
  unfold getV; rw [uof (cnt_ok l)]
theorem getV_ge (l : List (Int × Int)) (a b n : Int) : getV l n ≤ getV (ofF (updF (cntF l) (a, b))) n := by
  rw [getV_with]
  unfold getV
  split
  · exact Int.le_refl _
  · exact upd_ge _ _ _
theorem getV_range (l : List (Int × Int)) (n : Int) : 0 ≤ getV l n ∧ getV l n ≤ 1099511627776 := by
  unfold getV
  split
  · omega
  · have := cnt_ok l n.toNat; omega

section
variable [Globs]

end
end Go.Proofs.YthckagkciefliaaGreatDoor.Vc
