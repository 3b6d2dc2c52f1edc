/-
  A row of two structs of two whole numbers that came in by value. No program in sight.
-/
import Derived.Test.YtmohncaoimeneaaDoorVcOpen
import Derived.Test.YtmohncaoimeneaaDoorVcLaws4
set_option linter.unusedVariables false
namespace Go.Proofs.YtmohncaoimeneaaDoor.AL
open Go Go.ChangeShapes Go.WideShapes Go.ChangeAt Go.RowKit Go.Deep Go.Joins Go.WideElems
open Go.Proofs.YtmohncaoimeneaaDoor.Vc

section
variable {H : Type} {enc : TypeId × Value → H} {P : Program}

theorem open_two {W : World} {base : Nat} {t e : TypeId} {f0 f1 : Field} {v : Value} {d : DataW H} {ps : List MemPlace} (ht : P.underlying t = some (.array 2 e)) (hs : P.underlying e = some (.struct #[f0, f1])) (hone : oneCellFields P #[f0, f1] = true) (hC : P.cellsOf e = 2) (hct : P.cellsOf t = 4)
    (h0 : P.underlying f0.type = some (.int .i64)) (h1 : P.underlying f1.type = some (.int .i64))
    (hval : Value.okWide P W .any base t v) (h : DataW.Trod enc P W 0 (fun _ => true) true t v d ps) : ∃ x y z u : Int, v = .agg #[.int .i64 x, .int .i64 y, .int .i64 z, .int .i64 u] := by
  obtain ⟨cs, rfl, hsz⟩ : ∃ cs, v = .agg cs ∧ cs.size = P.cellsOf t := by
    simp only [Value.okWide, ht] at hval
    obtain ⟨cs, h1, h2, _⟩ := hval
    exact ⟨cs, h1, h2⟩
  obtain ⟨fuel, hf⟩ := h
  obtain ⟨ys, m, _, _, _, hl, hel⟩ := DataW.trod_array ht hf
  obtain ⟨k0, g0⟩ := hone_of hone 0 f0 rfl
  obtain ⟨k1, g1⟩ := hone_of hone 1 f1 rfl
  have each : ∀ i, i < 2 → ∃ A B : Int, cs[i * 2]? = some (.int .i64 A) ∧ cs[i * 2 + 1]? = some (.int .i64 B) := fun i hi => by
    have hy := hel i hi
    rw [List.getElem?_eq_getElem (by omega), hC] at hy
    obtain ⟨y0, y1, m, _, _, e0, e1⟩ := trod_struct2 hs hy
    rw [k0, g0] at e0
    rw [k1, g1] at e1
    obtain ⟨A, q0, _, w0⟩ := DataW.trod_int h0 e0
    obtain ⟨B, q1, _, w1⟩ := DataW.trod_int h1 e1
    refine ⟨A, B, ?_, ?_⟩
    · have := congrArg (fun l : List Value => l[0]?) q0
      simpa [Value.cells] using this
    · have := congrArg (fun l : List Value => l[0]?) q1
      simpa [Value.cells] using this
  obtain ⟨x, y, e0, e1⟩ := each 0 (by omega)
  obtain ⟨z, u, e2, e3⟩ := each 1 (by omega)
  refine ⟨x, y, z, u, congrArg Value.agg ?_⟩
  apply Array.ext_getElem?
  intro i
  match i with
  | 0 => simpa using e0
  | 1 => simpa using e1
  | 2 => simpa using e2
  | 3 => simpa using e3
  | i + 4 => rw [Array.getElem?_eq_none (by omega), Array.getElem?_eq_none (by simp)]
theorem den_two {W : World} {S : Nat → Prop} {L : Loc} {x y z u : Int} : den W S L (twoV x y z u) (.agg #[.int .i64 x, .int .i64 y, .int .i64 z, .int .i64 u]) := ⟨_, rfl, rfl, fun i hi => by
  match i, hi with
  | 0, _ => exact ⟨_, rfl, rfl⟩
  | 1, _ => exact ⟨_, rfl, rfl⟩
  | 2, _ => exact ⟨_, rfl, rfl⟩
  | 3, _ => exact ⟨_, rfl, rfl⟩⟩

end
end Go.Proofs.YtmohncaoimeneaaDoor.AL
