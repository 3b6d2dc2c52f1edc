/-
  The contracts of octal.Put and of its reference.
-/
import Derived.Test.YtlogcpcdkhmjoaaDoorOcM
import Derived.Test.YtlogcpcdkhmjoaaDoorProg
import Derived.Test.YtlogcpcdkhmjoaaDoorAlRec
set_option linter.unusedVariables false
set_option linter.unusedSectionVars false
namespace Go.Proofs.YtlogcpcdkhmjoaaDoor.Oc
open Go AL
section
variable [Globs]

theorem putE_bad {n w : Int} (h : w < 2 ∨ w > 12) : putE n w = 1 ∧ putR n w = [] := by simp [putE, putR, h]
theorem putE_ok {n w : Int} (h : ¬ (w < 2 ∨ w > 12)) (hf : fits n w) : putE n w = 0 ∧ putR n w = digs n (w - 1).toNat ++ [0] := by simp [putE, putR, h, hf]
theorem putE_no {n w : Int} (h : ¬ (w < 2 ∨ w > 12)) (hf : ¬ fits n w) : putE n w = 8 ∧ putR n w = [] := by simp [putE, putR, h, hf]

/-- What Put hands back. -/
def PutR (n w : Int) (r : AV) (h : List AO) : Prop := r = .tup 2 (pair (.roI .u8 (putR n w)) (int .i64 (putE n w))) ∧ h = []

set_option maxHeartbeats 1000000 in
set_option maxRecDepth 10000 in
theorem put_prog (n w : Int) : ACalls Tryd.prog 18 [int .i64 n, int .i64 w] [] (PutR n w) := by
  refine rcalls Tryd.func18 rfl (by decide) ?_
  have bad : (w < 2 ∨ w > 12) → ∃ l h1 b, LeH 0 [] l h1 ∧ LeV [] l (.tup 2 fun i => [.raw (.slice none 0 0), int .i64 1].getD i .top) b ∧ PutR n w b h1 := fun hw =>
    ⟨[], [], _, leh0, le_pair (.nilI .u8) (leI (putE_bad hw).1.symm), by unfold PutR; rw [(putE_bad hw).2]; exact ⟨rfl, rfl⟩⟩
  refine ⟨fun h => bad (.inl (by simpa using h)), fun h => ⟨fun h1 => bad (.inr (by simpa using h1)), fun h1 => ?_⟩⟩
  have hw2 : ¬ (w < 2) := by simpa using h
  have hw12 : ¬ (12 < w) := by simpa using h1
  have hok : ¬ (w < 2 ∨ w > 12) := by omega
  refine ⟨⟨by omega, by omega, by omega, by show w * 1 ≤ _; omega⟩, rfl, ?_⟩
  obtain ⟨m, hm⟩ : ∃ m : Nat, w = (m : Int) := ⟨w.toNat, by omega⟩
  subst hm
  have e0 : IntKind.i64.wrap ((m : Int) - 2) = (m : Int) - 2 := w64 (by omega) (by omega)
  refine ⟨Nat, fun j => [(0, int .i64 (n / 8 ^ j)), (6, .own 0 0 m 1), (7, int .i64 (m - 2 - j))], fun j => [.ints .u8 (part n m j)], fun j => j + 1 ≤ m, fun j => m - j,
    ⟨0, [0], by omega, leh1 rfl (leOint (by rw [part_zero n (by omega)]; simp)), ⟨leI (by simp), leOwn rfl rfl (by simp), leI (by rw [e0]; omega), trivial⟩⟩, fun j hj => ?_⟩
  refine ⟨fun h2 => ?_, fun h2 => ?_⟩
  · -- a round
    have h3 : (0 : Int) ≤ m - 2 - j := by simpa using h2
    have hpl := part_length n hj
    have hi : ((m : Int) - 2 - j).toNat = m - 2 - j := by omega
    refine ⟨⟨by omega, by omega⟩, by rw [hpl]; unfold addOff; omega, by decide, ?_⟩
    refine ⟨trivial, j + 1, [0], by show j + 1 + 1 ≤ m; omega, by show m - (j + 1) < m - j; omega, ?_, ?_⟩
    · refine leh1 rfl (leOint ?_)
      have e1 : Go.bits .and .i64 (n / 8 ^ j) 7 = n / 8 ^ j % 8 := bits_mask64 (n / 8 ^ j) 3 (by decide)
      have d0 := dig_lo n j
      have d1 := dig_hi n j
      unfold dig at d0 d1
      rw [e1, w8 (n := n / 8 ^ j % 8) (by omega) (by omega), w8 (by omega) (by omega), hi]
      unfold addOff
      rw [Nat.zero_add, Nat.mul_one]
      exact part_succ n (by omega)
    · refine ⟨leI ?_, leOwn rfl rfl rfl, leI ?_, trivial⟩
      · show (n / 8 ^ j).fdiv (2 ^ (min (3 : Int).toNat 64)) = _
        rw [div_succ, Int.fdiv_eq_ediv_of_nonneg _ (by decide)]
        rfl
      · rw [w64 (by omega) (by omega)]; omega
  · -- the end
    have h3 : ¬ ((0 : Int) ≤ m - 2 - j) := by simpa using h2
    have hjm : j = m - 1 := by have : j + 1 ≤ m := hj; omega
    subst hjm
    have hw1 : ((m : Int) - 1).toNat = m - 1 := by omega
    refine ⟨fun h4 => ?_, fun h4 => ?_⟩
    · have hnf : ¬ fits n m := by
        unfold fits
        rw [hw1, ← fits_iff]
        simpa using h4
      refine ⟨[], [], _, lehN _, le_pair (.nilI .u8) (leI (putE_no hok hnf).1.symm), ?_⟩
      unfold PutR; rw [(putE_no hok hnf).2]; exact ⟨rfl, rfl⟩
    · have hf : fits n m := by
        unfold fits
        rw [hw1, ← fits_iff]
        simpa using h4
      refine ⟨[], [], _, lehN _, le_pair (.giveI (putR n m) rfl (by simp) ?_ ?_) (leI (putE_ok hok hf).1.symm), rfl, rfl⟩
      · rw [part_length n (by omega)]; simp
      · rw [(putE_ok hok hf).2, part_full n (by omega), hw1]
        rw [List.drop_zero, List.take_of_length_le (by simp [digs_length]; omega)]

end

end Go.Proofs.YtlogcpcdkhmjoaaDoor.Oc
