/-
  The laws of matrices, walked: MatLow.
-/
import Derived.Test.YthckagkciefliaaGreatDoorMtLaws
import Derived.Test.YthckagkciefliaaGreatDoorVcLaws4
set_option linter.unusedVariables false
set_option linter.unusedSectionVars false
namespace Go.Proofs.YthckagkciefliaaGreatDoor.Mt
open Go AL Hx Dt Spl Vc

theorem lowM_has {a : List Vc1} (hne : a ≠ []) (x y : Int) : hasP (lowM a) x y ↔ ∀ i, i < a.length → hasP (rowM a i) x y := by
  have hpos : 0 < a.length := List.length_pos_iff.2 hne
  unfold lowM
  rw [if_neg hne, has_iff]
  constructor
  · rintro ⟨h1, h2⟩ i hi
    have := lowS_le a (a.length - 1) i x.toNat (by omega)
    exact has_iff.2 ⟨h1, by omega⟩
  · intro h
    have h0 := (has_iff.1 (h 0 hpos)).1
    exact ⟨h0, lowS_ge a x.toNat y _ fun i hi => (has_iff.1 (h i (by omega))).2⟩
theorem lowM_mono {a c : List Vc1} (hl : a.length = c.length) (h : ∀ i r, i < a.length → cntF (rowM a i) r ≤ cntF (rowM c i) r) : leqV (cntF (lowM a)) (cntF (lowM c)) := by
  rw [leq_iff]
  intro r hr
  unfold lowM
  by_cases hne : a = []
  · have hc : c = [] := List.eq_nil_of_length_eq_zero (by rw [← hl, hne]; rfl)
    rw [if_pos hne, if_pos hc]; omega
  · have hc : c ≠ [] := fun e => hne (List.eq_nil_of_length_eq_zero (by rw [hl, e]; rfl))
    have hpos : 0 < a.length := List.length_pos_iff.2 hne
    rw [if_neg hne, if_neg hc]
    refine lowS_ge c r _ _ fun i hi => ?_
    have h1 := lowS_le a (a.length - 1) i r (by omega)
    have h2 := h i r (by omega)
    omega
theorem joinM_len (a b : List Vc1) : (joinM a b).length = max a.length b.length := mapM_len _ _
theorem joinM_row {a b : List Vc1} {i : Nat} (ha : i < a.length) (hb : i < b.length) : rowM (joinM a b) i = joinV (rowM a i) (rowM b i) := by
  unfold joinM
  rw [mapM_row (by omega), if_neg (by omega), if_neg (by omega)]
theorem szM_join {a b : List Vc1} (ha : szM a) (hb : szM b) : szM (joinM a b) := by
  have h1 := ha.1
  have h2 := hb.1
  refine ⟨by rw [joinM_len]; omega, fun i hi => ?_⟩
  rw [joinM_len] at hi
  unfold joinM
  rw [mapM_row hi]
  split
  · exact ha.2 i (by omega)
  · split
    · exact hb.2 i (by omega)
    · have := ofK_len (maxF (cntF (rowM a i)) (cntF (rowM b i))) 32; show (ofK _ 32).length ≤ _; omega
theorem lowM_len (a : List Vc1) : (lowM a).length ≤ 9223372036854775807 := by
  unfold lowM
  split
  · simp
  · exact lowS_len _ _

section
variable [Globs]

end
end Go.Proofs.YthckagkciefliaaGreatDoor.Mt
