/-
  The contracts of dots' order, and of whether one may be: the program's and the document's.
-/
import Derived.Test.YthckagkciefliaaDoorFwD
import Derived.Test.YthckagkciefliaaDoorDtM
import Derived.Test.YthckagkciefliaaDoorFlt
import Derived.Test.YthckagkciefliaaDoorProg
set_option linter.unusedVariables false
set_option linter.unusedSectionVars false
namespace Go.Proofs.YthckagkciefliaaDoor.Dt
open Go AL Hx

def ordI : Ordering → Int
  | .lt => -1
  | .eq => 0
  | .gt => 1
def cmpI (a b : Int) : Int := if a < b then -1 else if b < a then 1 else 0
def ord (a b : Int) : Ordering := if a < b then .lt else if a = b then .eq else .gt
theorem ord_cmp (a b : Int) : ordI (ord a b) = cmpI a b := by
  unfold ord cmpI
  split
  · rfl
  · split
    · rw [if_neg (by omega)]; rfl
    · rw [if_pos (by omega)]; rfl
theorem cmp_two (a b c d : Int) : (if cmpI a c = 0 then cmpI b d else cmpI a c) = cmpD a b c d := by
  unfold cmpI cmpD
  by_cases h1 : a < c
  · simp [h1]
  · by_cases h2 : c < a
    · simp [h1, h2]
    · simp [h1, h2]

section
variable {P : Program}
theorem sgn0 : Flt.sgn 0 .eq := by
  refine ⟨?_, ?_⟩ <;>
  · unfold Ieee.Format.order
    rw [Flt.read_zero]
    decide
theorem run_neq {x : Nat} {c : Ordering} (h : Flt.sgn x c) (T : TypeId) (w : World) : (binOp .neq T (.float .f64 x) (.float .f64 x)).run P w = .ok (.bool false) w := by
  have : FloatKind.f64.format.order x x = some .eq := h.2
  simp [binOp, Op.floatCmp, this]
theorem run_lss {x : Nat} {c : Ordering} (h : Flt.sgn x c) (T : TypeId) (w : World) : (binOp .lss T (.float .f64 x) (.float .f64 0)).run P w = .ok (.bool (c == .lt)) w := by
  have : FloatKind.f64.format.order x 0 = some c := h.1
  simp [binOp, Op.floatCmp, this]
theorem run_gtr {x : Nat} {c : Ordering} (h : Flt.sgn x c) (T : TypeId) (w : World) : (binOp .gtr T (.float .f64 x) (.float .f64 0)).run P w = .ok (.bool (c == .gt)) w := by
  have : FloatKind.f64.format.order x 0 = some c := h.1
  simp [binOp, Op.floatCmp, this]
theorem run_conv (src dst : TypeId) (q : IntKind) (n : Int) (hs : (P.underlying src).isSome = true) (hd : P.underlying dst = some (.float .f64)) (w : World) :
    (convert src dst (.int q n)).run P w = .ok (.float .f64 (Flt.ofInt n)) w := run_convert_int_float w src dst q .f64 n hs hd
theorem run_csub (T : TypeId) {a b c d re im : Nat} (h1 : Ieee.double.sub a c = some re) (h2 : Ieee.double.sub b d = some im) (w : World) :
    (binOp .sub T (.complex .f64 a b) (.complex .f64 c d)).run P w = .ok (.complex .f64 re im) w := by
  refine run_complex_sum w .sub (.inr rfl) T .f64 a b c d re im ?_
  have e1 : floatBits .sub .f64 a c = some re := h1
  have e2 : floatBits .sub .f64 b d = some im := h2
  unfold cSumBits
  rw [e1, e2]
  rfl
end

section
variable [Globs]

/-- A number that fits into a float's 50 bits. -/
def fit (a b : Int) : Prop := -1125899906842624 < a ∧ a < 1125899906842624 ∧ -1125899906842624 < b ∧ b < 1125899906842624
instance (a b : Int) : Decidable (fit a b) := by unfold fit; exact inferInstance

set_option maxHeartbeats 1000000 in
set_option maxRecDepth 10000 in
theorem replica_prog (n : Int) : ACalls Tryd.prog 53 [int .i64 n] [] (fun r h => r = bool (decide (0 ≤ n ∧ n ≤ 31)) ∧ h = []) := by
  refine rcalls Tryd.func53 rfl (by decide) ?_
  refine ⟨fun c1 => ?_, fun c1 => ?_⟩
  · have := yes c1
    exact ⟨[], [], _, leh0, leP (by omega), rfl, rfl⟩
  · have := no c1
    exact ⟨[], [], _, leh0, leFP (by omega), rfl, rfl⟩

set_option maxHeartbeats 1000000 in
set_option maxRecDepth 10000 in
theorem may_prog (a b : Int) : ACalls Tryd.prog 40 [dotV a b] [] (fun r h => r = bool (decide (mayD a b)) ∧ h = []) := by
  refine rcalls Tryd.func40 rfl (by decide) ?_
  refine ⟨[], _, replica_prog a, ?_⟩
  rintro r h ⟨rfl, rfl⟩
  refine ⟨.inl rfl, ?_⟩
  refine ⟨fun c1 => ⟨fun c2 => ?_, fun c2 => ?_⟩, fun c1 => ?_⟩
  · have := yes c1; have := yes c2
    exact ⟨[], [], _, lehN _, leP (by unfold mayD; omega), rfl, rfl⟩
  · have := no c2
    exact ⟨[], [], _, lehN _, leFP (by unfold mayD; omega), rfl, rfl⟩
  · have := no c1
    exact ⟨[], [], _, lehN _, leFP (by unfold mayD; omega), rfl, rfl⟩

end
end Go.Proofs.YthckagkciefliaaDoor.Dt
