/-
  The contract of the document's own Read.
-/
import Derived.Test.YthckagkciefliaaDoorHxNum
set_option linter.unusedVariables false
set_option linter.unusedSectionVars false
namespace Go.Proofs.YthckagkciefliaaDoor.Hx
open Go AL

theorem ints_get {s : ByteArray} {i : Nat} (hi : i < s.size) : ∃ c, c ∈ s.data.toList ∧ s.data.toList[i]? = some c ∧ (intsOf s).getD i 0 = (c.toNat : Int) := by
  have hl : s.data.toList.length = s.size := rfl
  refine ⟨s.data.toList[i]'(by omega), List.getElem_mem _, by rw [List.getElem?_eq_getElem], ?_⟩
  unfold intsOf
  rw [List.getD_eq_getElem?_getD, List.getElem?_map, List.getElem?_eq_getElem (by omega)]
  rfl
theorem num_get {s : ByteArray} {v : Int} (h : isNum s v) {i : Nat} (hi : i < s.size) : 48 ≤ (intsOf s).getD i 0 ∧ (intsOf s).getD i 0 ≤ 57 := by
  obtain ⟨c, h1, _, h3⟩ := ints_get hi
  rw [h3]
  rw [h.2.2] at h1
  have := num_digits h.1 c h1
  omega
theorem take_snoc {xs : List Int} {k : Nat} (h : k < xs.length) : xs.take (k + 1) = xs.take k ++ [xs.getD k 0] := by
  rw [List.take_succ_eq_append_getElem h, List.getD_eq_getElem?_getD, List.getElem?_eq_getElem h]
  rfl

section
variable [Globs]

end
end Go.Proofs.YthckagkciefliaaDoor.Hx
