/-
  The laws of vectors, walked: awake, VecJoins, VecBack, VecLattice.
-/
import Derived.Test.YthckagkciefliaaGreatDoorVcParse
import Derived.Test.YthckagkciefliaaGreatDoorVcRef
set_option linter.unusedVariables false
set_option linter.unusedSectionVars false
namespace Go.Proofs.YthckagkciefliaaGreatDoor.Vc
open Go AL Hx Dt Spl

theorem n0 : numS 0 = ⟨#[48]⟩ := by unfold numS Lib.itoa; rw [if_neg (by decide)]; simp [Lib.decDigits]
theorem n1 : numS 1 = ⟨#[49]⟩ := by unfold numS Lib.itoa; rw [if_neg (by decide)]; simp [Lib.decDigits]
theorem n2 : numS 2 = ⟨#[50]⟩ := by unfold numS Lib.itoa; rw [if_neg (by decide)]; simp [Lib.decDigits]
theorem n3 : numS 3 = ⟨#[51]⟩ := by unfold numS Lib.itoa; rw [if_neg (by decide)]; simp [Lib.decDigits]
theorem n5 : numS 5 = ⟨#[53]⟩ := by unfold numS Lib.itoa; rw [if_neg (by decide)]; simp [Lib.decDigits]
theorem tx03 : textD 0 3 = ⟨#[48, 58, 51]⟩ := by unfold textD; rw [n0, n3]; rfl
theorem tx21 : textD 2 1 = ⟨#[50, 58, 49]⟩ := by unfold textD; rw [n2, n1]; rfl
theorem tx01 : textD 0 1 = ⟨#[48, 58, 49]⟩ := by unfold textD; rw [n0, n1]; rfl
theorem tx15 : textD 1 5 = ⟨#[49, 58, 53]⟩ := by unfold textD; rw [n1, n5]; rfl
theorem txa : textV [(0, 3), (2, 1)] = ⟨#[48, 58, 51, 44, 50, 58, 49]⟩ := by
  rw [textV_ne (by simp)]; simp only [dots, List.map_cons, List.map_nil, tx03, tx21]; rfl
theorem txb : textV [(0, 1), (1, 5)] = ⟨#[48, 58, 49, 44, 49, 58, 53]⟩ := by
  rw [textV_ne (by simp)]; simp only [dots, List.map_cons, List.map_nil, tx01, tx15]; rfl
theorem txj : textV [(0, 3), (1, 5), (2, 1)] = ⟨#[48, 58, 51, 44, 49, 58, 53, 44, 50, 58, 49]⟩ := by
  rw [textV_ne (by simp)]; simp only [dots, List.map_cons, List.map_nil, tx03, tx15, tx21]; rfl
theorem txm : textV [(0, 1)] = ⟨#[48, 58, 49]⟩ := by
  rw [textV_ne (by simp)]; simp only [dots, List.map_cons, List.map_nil, tx01]; rfl
theorem ofl {l : List (Int × Int)} (h : ofF (cntF l) = l) : parseVE (textV l) = 0 ∧ parseVL (textV l) = l := by
  have := parse_textV (cnt_ok l)
  rwa [h] at this
theorem cof {g h : Nat → Int} (hg : okF g) (hh : okF h) : cntF (ofF (maxF g h)) = maxF g h := cnt_of (max_ok hg hh)
theorem mof {g h : Nat → Int} (hg : okF g) (hh : okF h) : cntF (ofF (minF g h)) = minF g h := cnt_of (min_ok hg hh)
theorem of_len (g : Nat → Int) : (ofF g).length ≤ 9223372036854775807 := by have := ofK_len g 32; show (ofK g 32).length ≤ _; omega
theorem parseV_len (s : ByteArray) : (parseVL s).length ≤ 9223372036854775807 := by
  by_cases h : okVec s
  · rw [(parseV_back h).1]; exact of_len _
  · rw [(parseV_bad h).2]; simp

section
variable [Globs]

end
end Go.Proofs.YthckagkciefliaaGreatDoor.Vc
