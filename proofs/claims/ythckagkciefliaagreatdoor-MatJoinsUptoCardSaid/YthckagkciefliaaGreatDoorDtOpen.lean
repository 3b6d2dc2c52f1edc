/-
  A struct of two whole numbers that came in by value. No program in sight.
-/
import Derived.Test.YthckagkciefliaaGreatDoorFwD
import Derived.Lib.SmallJoins
set_option linter.unusedVariables false
namespace Go.Proofs.YthckagkciefliaaGreatDoor.AL
open Go Go.ChangeShapes Go.WideShapes Go.ChangeAt Go.RowKit Go.Deep Go.Joins Go.WideElems

section
variable {H : Type} {enc : TypeId × Value → H} {P : Program}

theorem open_dot {W : World} {base : Nat} {t : TypeId} {f0 f1 : Field} {v : Value} {d : DataW H} {ps : List MemPlace} (hs : P.underlying t = some (.struct #[f0, f1])) (hone : oneCellFields P #[f0, f1] = true) (hC : P.cellsOf t = 2)
    (h0 : P.underlying f0.type = some (.int .i64)) (h1 : P.underlying f1.type = some (.int .i64)) (hval : Value.okWide P W .any base t v) (h : DataW.Trod enc P W 0 (fun _ => true) true t v d ps) :
    ∃ a b : Int, v = .agg #[.int .i64 a, .int .i64 b] ∧ (Lit.int .i64 a).wf = true ∧ (Lit.int .i64 b).wf = true := by
  obtain ⟨v0, v1, y0, y1, n, rfl, _, _, g0, g1⟩ := open_agg2 hs hone hC hval h
  obtain ⟨a, e0, _, w0⟩ := DataW.trod_int h0 g0
  obtain ⟨b, e1, _, w1⟩ := DataW.trod_int h1 g1
  simp at e0 e1
  subst e0 e1
  exact ⟨a, b, rfl, w0, w1⟩
theorem den_dot {W : World} {S : Nat → Prop} {L : Loc} {a b : Int} : den W S L (dotV a b) (.agg #[.int .i64 a, .int .i64 b]) := ⟨_, rfl, rfl, fun i hi => by
  match i, hi with
  | 0, _ => exact ⟨_, rfl, rfl⟩
  | 1, _ => exact ⟨_, rfl, rfl⟩⟩

end
end Go.Proofs.YthckagkciefliaaGreatDoor.AL
