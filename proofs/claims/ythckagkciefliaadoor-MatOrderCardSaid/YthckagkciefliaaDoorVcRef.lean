/-
  The contracts of the document's vectors: equal, may, same, join, meet, leq, with.
-/
import Derived.Test.YthckagkciefliaaDoorVcJoin
set_option linter.unusedVariables false
set_option linter.unusedSectionVars false
namespace Go.Proofs.YthckagkciefliaaDoor.Vc
open Go AL Hx Dt

section
variable [Globs]

set_option maxHeartbeats 2000000 in
set_option maxRecDepth 10000 in
theorem equal_ref (l m : List (Int × Int)) (hl : l.length ≤ 9223372036854775807) (hm : m.length ≤ 9223372036854775807) : ACalls Tryd.prog 31 [vecV l, vecV m] [] (fun r h => r = bool (decide (l = m)) ∧ h = []) := by
  refine rcalls Tryd.func31 rfl (by decide) ?_
  refine ⟨fun c => ?_, fun c => ?_⟩
  · have f1 : ¬ (l.length : Int) = m.length := yes c
    exact ⟨[], [], _, lehN _, leFP fun e => f1 (by rw [e]), rfl, rfl⟩
  have f1 : (l.length : Int) = m.length := Classical.not_not.1 (no c)
  refine ⟨Nat, fun k => [(0, vecV l), (1, vecV m), (5, int .i64 k)], fun _ => [], fun k => k ≤ l.length ∧ ∀ i, i < k → cellD l (i * 2 + 0) = cellD m (i * 2 + 0) ∧ cellD l (i * 2 + 1) = cellD m (i * 2 + 1), fun k => l.length - k,
    ⟨0, [], ⟨by omega, by omega⟩, leh0, ⟨.same _ trivial, .same _ trivial, leI rfl, trivial⟩⟩, ?_⟩
  rintro k ⟨hk, hs⟩
  refine ⟨fun c1 => ?_, fun c1 => ?_⟩
  · have f2 : (k : Int) < l.length := yes c1
    have hin : ((k : Int)).toNat = k := by omega
    have e1 : IntKind.i64.wrap ((k : Int) + 1) = ((k + 1 : Nat) : Int) := by rw [w64 (by omega) (by omega)]; omega
    refine .inl ⟨⟨by decide +kernel, by decide +kernel⟩, ?_⟩
    refine ⟨⟨by omega, f2⟩, ?_⟩
    refine ⟨⟨by omega, by omega⟩, ?_⟩
    refine ⟨⟨by decide +kernel, by decide +kernel, by decide +kernel⟩, ?_⟩
    refine ⟨fun c2 => ?_, fun c2 => ?_⟩
    · have g2 : (!(leafEq (.int .i64 (cellD l ((k : Int).toNat * 2 + 0))) (.int .i64 (cellD m ((k : Int).toNat * 2 + 0))) && (leafEq (.int .i64 (cellD l ((k : Int).toNat * 2 + 1))) (.int .i64 (cellD m ((k : Int).toNat * 2 + 1))) && true))) = true := c2
      refine ⟨[], [], _, lehN _, leFP fun e => ?_, rfl, rfl⟩
      subst e
      rw [eq2.2 ⟨rfl, rfl⟩] at g2
      cases g2
    · have g2 : (!(leafEq (.int .i64 (cellD l ((k : Int).toNat * 2 + 0))) (.int .i64 (cellD m ((k : Int).toNat * 2 + 0))) && (leafEq (.int .i64 (cellD l ((k : Int).toNat * 2 + 1))) (.int .i64 (cellD m ((k : Int).toNat * 2 + 1))) && true))) = false := c2
      have g3 := eq2.1 (unnot g2)
      rw [hin] at g3
      refine ⟨trivial, k + 1, [], ⟨by omega, fun i hi => ?_⟩, by show l.length - (k + 1) < l.length - k; omega, lehN _, ⟨.same _ trivial, .same _ trivial, leI e1, trivial⟩⟩
      rcases Nat.lt_or_ge i k with h | h
      · exact hs i h
      · rw [show i = k by omega]; exact g3
  · have f2 : ¬ (k : Int) < l.length := no c1
    exact ⟨[], [], _, lehN _, leTP (list_eq (by omega) fun i hi => hs i (by omega)), rfl, rfl⟩

end
end Go.Proofs.YthckagkciefliaaDoor.Vc
