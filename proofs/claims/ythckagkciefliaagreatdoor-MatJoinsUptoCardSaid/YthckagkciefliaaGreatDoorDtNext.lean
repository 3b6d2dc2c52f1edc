/-
  The contracts of the dot behind one, and of a dot's text: the program's and the document's.
-/
import Derived.Test.YthckagkciefliaaGreatDoorDtCmp
import Derived.Test.YthckagkciefliaaGreatDoorHxNum
set_option linter.unusedVariables false
set_option linter.unusedSectionVars false
namespace Go.Proofs.YthckagkciefliaaGreatDoor.Dt
open Go AL Hx

def nextE (a b : Int) : Int := if a < 0 ∨ 31 < a ∨ b < 0 ∨ 1099511627776 < b then 1 else if b = 1099511627776 then 8 else 0
def nextR (a b : Int) : Int := if nextE a b = 0 then a else 0
def nextQ (a b : Int) : Int := if nextE a b = 0 then b + 1 else 0
def NextR (a b : Int) (r : AV) (h : List AO) : Prop := r = .tup 2 (pair (dotV (nextR a b) (nextQ a b)) (int .i64 (nextE a b))) ∧ h = []
theorem next_bad {a b e : Int} (h : nextE a b = e) (he : e ≠ 0) : nextR a b = 0 ∧ nextQ a b = 0 := by
  unfold nextR nextQ
  rw [h, if_neg he, if_neg he]
  exact ⟨rfl, rfl⟩
theorem next_ok {a b : Int} (h : nextE a b = 0) : nextR a b = a ∧ nextQ a b = b + 1 ∧ 0 ≤ a ∧ a ≤ 31 ∧ 0 ≤ b ∧ b < 1099511627776 := by
  unfold nextR nextQ
  rw [h]
  refine ⟨rfl, rfl, ?_⟩
  unfold nextE at h
  split at h
  · omega
  · split at h <;> omega
theorem next_cases (a b : Int) : nextE a b = 0 ∨ nextE a b ≠ 0 ∧ (b < 0 ∨ b ≥ 1099511627776 ∨ a < 0 ∨ a > 31) := by
  unfold nextE
  split
  · right; omega
  · split
    · right; omega
    · left; rfl

section
variable [Globs]

set_option maxHeartbeats 1000000 in
set_option maxRecDepth 10000 in
theorem text_prog (hG : NumG) (a b : Int) (ha : -9223372036854775808 ≤ a ∧ a < 9223372036854775808) (hb : -9223372036854775808 ≤ b ∧ b < 9223372036854775808) :
    ACalls Tryz.prog 53 [dotV a b] [] (fun r h => r = str (textD a b) ∧ h = []) := by
  have h1 := number_prog hG a ha.1 ha.2
  have h2 := number_prog hG b hb.1 hb.2
  have z1 := num_size_le ha.1 ha.2
  have z2 := num_size_le hb.1 hb.2
  have e : textD a b = numS a ++ ⟨#[58]⟩ ++ numS b := rfl
  generalize textD a b = T at *
  generalize numS a = A at *
  generalize numS b = B at *
  refine rcalls Tryz.func53 rfl (by decide) ?_
  refine .inl ⟨⟨by decide +kernel, by decide +kernel⟩, ?_⟩
  refine ⟨.string A, h1.mono fun r h ⟨e1, e2⟩ => ⟨.inl e1, e2⟩, ?_⟩
  refine ⟨by show A.size + 1 < _; omega, ?_⟩
  refine ⟨.string B, h2.mono fun r h ⟨e1, e2⟩ => ⟨.inl e1, e2⟩, ?_⟩
  refine ⟨by rw [ByteArray.size_append]; show A.size + 1 + B.size < _; omega, ?_⟩
  exact ⟨[], [], _, lehN _, leS e.symm, rfl, rfl⟩

set_option maxHeartbeats 1000000 in
set_option maxRecDepth 10000 in
theorem text_ref (a b : Int) (ha : -9223372036854775808 ≤ a ∧ a < 9223372036854775808) (hb : -9223372036854775808 ≤ b ∧ b < 9223372036854775808) :
    ACalls Tryz.prog 57 [dotV a b] [] (fun r h => r = str (textD a b) ∧ h = []) := by
  have h1 := number_ref _ a (Nat.le_refl _) ha.1 ha.2
  have h2 := number_ref _ b (Nat.le_refl _) hb.1 hb.2
  have z1 := num_size_le ha.1 ha.2
  have z2 := num_size_le hb.1 hb.2
  have e : textD a b = numS a ++ ⟨#[58]⟩ ++ numS b := rfl
  generalize textD a b = T at *
  generalize numS a = A at *
  generalize numS b = B at *
  refine rcalls Tryz.func57 rfl (by decide) ?_
  refine .inl ⟨⟨by decide +kernel, by decide +kernel⟩, ?_⟩
  refine ⟨.string A, h1.mono fun r h ⟨e1, e2⟩ => ⟨.inl e1, e2⟩, ?_⟩
  refine ⟨by show A.size + 1 < _; omega, ?_⟩
  refine ⟨.string B, h2.mono fun r h ⟨e1, e2⟩ => ⟨.inl e1, e2⟩, ?_⟩
  refine ⟨by rw [ByteArray.size_append]; show A.size + 1 + B.size < _; omega, ?_⟩
  exact ⟨[], [], _, lehN _, leS e.symm, rfl, rfl⟩

end
end Go.Proofs.YthckagkciefliaaGreatDoor.Dt
