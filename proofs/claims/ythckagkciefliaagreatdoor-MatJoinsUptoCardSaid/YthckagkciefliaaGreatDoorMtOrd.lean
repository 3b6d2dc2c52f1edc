/-
  The laws of matrices, walked: MatOrder.
-/
import Derived.Test.YthckagkciefliaaGreatDoorMtO
set_option linter.unusedVariables false
set_option linter.unusedSectionVars false
namespace Go.Proofs.YthckagkciefliaaGreatDoor.Mt
open Go AL Hx Dt Spl Vc

/-- Rows that are raised, as they may be read. -/
def cellR (L : List Rs) (i : Nat) : AV := if i % 2 = 0 then int .u8 (L.getD (i / 2) (0, [])).1 else vecV (L.getD (i / 2) (0, [])).2
abbrev rsV (L : List Rs) : AV := .rs L.length 2 (cellR L)
def two (a b : AV) (c : Nat) : AV := [a, b].getD c .top
theorem cellR_at (L : List Rs) (k c : Nat) (h : c < 2) : cellR L (k * 2 + c) = two (int .u8 (L.getD k (0, [])).1) (vecV (L.getD k (0, [])).2) c := by
  unfold cellR
  match c, h with
  | 0, _ => rw [if_pos (by omega), show (k * 2 + 0) / 2 = k by omega]; rfl
  | 1, _ => rw [if_neg (by omega), show (k * 2 + 1) / 2 = k by omega]; rfl
theorem take_rs {L : List Rs} {k : Nat} (h : k < L.length) : L.take (k + 1) = L.take k ++ [L.getD k (0, [])] := by
  rw [List.take_succ_eq_append_getElem h, List.getD_eq_getElem?_getD, List.getElem?_eq_getElem h]
  rfl
theorem rs_mem {L : List Rs} {k : Nat} (h : k < L.length) : L.getD k (0, []) ∈ L := by
  rw [List.getD_eq_getElem?_getD, List.getElem?_eq_getElem h]; exact List.getElem_mem _
/-- From the end on. -/
def backL (L : List Rs) : Nat → List Rs
  | 0 => []
  | k + 1 => backL L k ++ [L.getD (L.length - 1 - k) (0, [])]
theorem back_mem {L : List Rs} {p : Rs} : ∀ k, k ≤ L.length → (p ∈ backL L k ↔ ∃ j, j < k ∧ p = L.getD (L.length - 1 - j) (0, []))
  | 0, _ => by simp [backL]
  | k + 1, h => by
    have ih := back_mem (L := L) (p := p) k (by omega)
    show p ∈ backL L k ++ [_] ↔ _
    rw [List.mem_append, ih, List.mem_singleton]
    constructor
    · rintro (⟨j, hj, e⟩ | e)
      · exact ⟨j, by omega, e⟩
      · exact ⟨k, by omega, e⟩
    · rintro ⟨j, hj, e⟩
      rcases Nat.lt_or_ge j k with h1 | h1
      · exact .inl ⟨j, h1, e⟩
      · obtain rfl : j = k := by omega
        exact .inr e
theorem back_all {L : List Rs} (p : Rs) : p ∈ backL L L.length ↔ p ∈ L := by
  rw [back_mem _ (Nat.le_refl _)]
  constructor
  · rintro ⟨j, hj, rfl⟩
    exact rs_mem (by omega)
  · intro h
    obtain ⟨i, hi, rfl⟩ := List.getElem_of_mem h
    refine ⟨L.length - 1 - i, by omega, ?_⟩
    rw [show L.length - 1 - (L.length - 1 - i) = i by omega, List.getD_eq_getElem?_getD, List.getElem?_eq_getElem hi]
    rfl

section
variable [Globs]


end
end Go.Proofs.YthckagkciefliaaGreatDoor.Mt
