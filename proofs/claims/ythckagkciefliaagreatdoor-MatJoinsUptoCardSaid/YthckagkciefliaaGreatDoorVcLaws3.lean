/-
  The laws of vectors, walked: VecKnows, VecRaises.
-/
import Derived.Test.YthckagkciefliaaGreatDoorVcLaws2
set_option linter.unusedVariables false
set_option linter.unusedSectionVars false
namespace Go.Proofs.YthckagkciefliaaGreatDoor.Vc
open Go AL Hx Dt Spl

theorem beq_tt (b : Bool) : (b == b) = true := by cases b <;> rfl
theorem deq_tt {α : Type} [DecidableEq α] (a : α) : decide (a = a) = true := decide_eq_true rfl

section
variable [Globs]

end
end Go.Proofs.YthckagkciefliaaGreatDoor.Vc
