/-
  The contracts of dots' order, and of whether one may be: the program's and the document's.
-/
import Derived.Test.YthckagkciefliaaGreatDoorFwD
import Derived.Test.YthckagkciefliaaGreatDoorDtM
import Derived.Test.YthckagkciefliaaGreatDoorFlt
import Derived.Test.YthckagkciefliaaGreatDoorProg
set_option linter.unusedVariables false
set_option linter.unusedSectionVars false
namespace Go.Proofs.YthckagkciefliaaGreatDoor.Dt
open Go AL Hx

def ordI : Ordering → Int
  | .lt => -1
  | .eq => 0
  | .gt => 1
def cmpI (a b : Int) : Int := if a < b then -1 else if b < a then 1 else 0
def ord (a b : Int) : Ordering := if a < b then .lt else if a = b then .eq else .gt
theorem ord_cmp (a b : Int) : ordI (ord a b) = cmpI a b := by
  unfold ord cmpI
  split
  · rfl
  · split
    · rw [if_neg (by omega)]; rfl
    · rw [if_pos (by omega)]; rfl
theorem cmp_two (a b c d : Int) : (if cmpI a c = 0 then cmpI b d else cmpI a c) = cmpD a b c d := by
  unfold cmpI cmpD
  by_cases h1 : a < c
  · simp [h1]
  · by_cases h2 : c < a
    · simp [h1, h2]
    · simp [h1, h2]

section
variable {P : Program}
theorem sgn0 : Flt.sgn 0 .eq := by
  refine ⟨?_, ?_⟩ <;>
  · unfold Ieee.Format.order
    rw [Flt.read_zero]
    decide
theorem run_neq {x : Nat} {c : Ordering} (h : Flt.sgn x c) (T : TypeId) (w : World) : (binOp .neq T (.float .f64 x) (.float .f64 x)).run P w = .ok (.bool false) w := by
  have : FloatKind.f64.format.order x x = some .eq := h.2
  simp [binOp, Op.floatCmp, this]
theorem run_lss {x : Nat} {c : Ordering} (h : Flt.sgn x c) (T : TypeId) (w : World) : (binOp .lss T (.float .f64 x) (.float .f64 0)).run P w = .ok (.bool (c == .lt)) w := by
  have : FloatKind.f64.format.order x 0 = some c := h.1
  simp [binOp, Op.floatCmp, this]
theorem run_gtr {x : Nat} {c : Ordering} (h : Flt.sgn x c) (T : TypeId) (w : World) : (binOp .gtr T (.float .f64 x) (.float .f64 0)).run P w = .ok (.bool (c == .gt)) w := by
  have : FloatKind.f64.format.order x 0 = some c := h.1
  simp [binOp, Op.floatCmp, this]
theorem run_conv (src dst : TypeId) (q : IntKind) (n : Int) (hs : (P.underlying src).isSome = true) (hd : P.underlying dst = some (.float .f64)) (w : World) :
    (convert src dst (.int q n)).run P w = .ok (.float .f64 (Flt.ofInt n)) w := run_convert_int_float w src dst q .f64 n hs hd
theorem run_csub (T : TypeId) {a b c d re im : Nat} (h1 : Ieee.double.sub a c = some re) (h2 : Ieee.double.sub b d = some im) (w : World) :
    (binOp .sub T (.complex .f64 a b) (.complex .f64 c d)).run P w = .ok (.complex .f64 re im) w := by
  refine run_complex_sum w .sub (.inr rfl) T .f64 a b c d re im ?_
  have e1 : floatBits .sub .f64 a c = some re := h1
  have e2 : floatBits .sub .f64 b d = some im := h2
  unfold cSumBits
  rw [e1, e2]
  rfl
end

section
variable [Globs]

set_option maxRecDepth 10000 in
theorem isNaNF_prog (x : Nat) (c : Ordering) (h : Flt.sgn x c) : ACalls Tryz.prog 126 [.raw (.float .f64 x)] [] (fun r h => r = .ff ∧ h = []) := by
  refine rcalls Tryz.func126 rfl (by decide) ?_
  refine ⟨_, fun w => run_neq h _ w, ?_⟩
  exact ⟨[], [], .ff, leh0, .rff, rfl, rfl⟩
set_option maxRecDepth 10000 in
theorem isNaNI_prog (x : Int) : ACalls Tryz.prog 127 [int .i64 x] [] (fun r h => r = .ff ∧ h = []) := by
  refine rcalls Tryz.func127 rfl (by decide) ?_
  refine ⟨[], [], .ff, leh0, ?_, rfl, rfl⟩
  have : decide (¬ x = x) = false := by simp
  show LeV _ _ (bool (decide (¬ x = x))) _
  rw [this]; exact .rff
set_option maxRecDepth 10000 in
theorem isNaNL_prog (x : Int) : ACalls Tryz.prog 128 [int .i64 x] [] (fun r h => r = .ff ∧ h = []) := by
  refine rcalls Tryz.func128 rfl (by decide) ?_
  refine ⟨[], [], .ff, leh0, ?_, rfl, rfl⟩
  have : decide (¬ x = x) = false := by simp
  show LeV _ _ (bool (decide (¬ x = x))) _
  rw [this]; exact .rff

set_option maxRecDepth 10000 in
theorem compareF_prog (x : Nat) (c : Ordering) (h : Flt.sgn x c) : ACalls Tryz.prog 109 [.raw (.float .f64 x), .raw (.float .f64 0)] [] (fun r h => r = int .i64 (ordI c) ∧ h = []) := by
  refine rcalls Tryz.func109 rfl (by decide) ?_
  refine ⟨[], _, isNaNF_prog x c h, ?_⟩
  rintro r h ⟨rfl, rfl⟩
  refine ⟨.inl rfl, ?_⟩
  refine ⟨[], _, isNaNF_prog 0 .eq sgn0, ?_⟩
  rintro r h ⟨rfl, rfl⟩
  refine ⟨.inl rfl, ?_⟩
  refine ⟨_, fun w => run_lss (by assumption) _ w, ?_⟩
  refine ⟨fun e => ?_, fun e => ?_⟩
  · have : c = .lt := by revert e; cases c <;> decide
    subst this
    exact ⟨[], [], _, leh0, leI rfl, rfl, rfl⟩
  refine ⟨_, fun w => run_gtr (by assumption) _ w, ?_⟩
  refine ⟨fun g => ?_, fun g => ?_⟩
  · have : c = .gt := by revert g; cases c <;> decide
    subst this
    exact ⟨[], [], _, leh0, leI rfl, rfl, rfl⟩
  · have : c = .eq := by revert e g; cases c <;> decide
    subst this
    exact ⟨[], [], _, leh0, leI rfl, rfl, rfl⟩

set_option maxRecDepth 10000 in
theorem compareI_prog (x y : Int) : ACalls Tryz.prog 110 [int .i64 x, int .i64 y] [] (fun r h => r = int .i64 (cmpI x y) ∧ h = []) := by
  refine rcalls Tryz.func110 rfl (by decide) ?_
  refine ⟨[], _, isNaNI_prog x, ?_⟩
  rintro r h ⟨rfl, rfl⟩
  refine ⟨.inl rfl, ?_⟩
  refine ⟨[], _, isNaNI_prog y, ?_⟩
  rintro r h ⟨rfl, rfl⟩
  refine ⟨.inl rfl, ?_⟩
  refine ⟨fun e => ?_, fun e => ⟨fun g => ?_, fun g => ?_⟩⟩
  · have := yes e
    exact ⟨[], [], _, leh0, leI (by unfold cmpI; rw [if_pos this]), rfl, rfl⟩
  · have h1 := no e
    have h2 := yes g
    exact ⟨[], [], _, leh0, leI (by unfold cmpI; rw [if_neg h1, if_pos h2]), rfl, rfl⟩
  · have h1 := no e
    have h2 := no g
    exact ⟨[], [], _, leh0, leI (by unfold cmpI; rw [if_neg h1, if_neg h2]), rfl, rfl⟩
set_option maxRecDepth 10000 in
theorem compareL_prog (x y : Int) : ACalls Tryz.prog 111 [int .i64 x, int .i64 y] [] (fun r h => r = int .i64 (cmpI x y) ∧ h = []) := by
  refine rcalls Tryz.func111 rfl (by decide) ?_
  refine ⟨[], _, isNaNL_prog x, ?_⟩
  rintro r h ⟨rfl, rfl⟩
  refine ⟨.inl rfl, ?_⟩
  refine ⟨[], _, isNaNL_prog y, ?_⟩
  rintro r h ⟨rfl, rfl⟩
  refine ⟨.inl rfl, ?_⟩
  refine ⟨fun e => ?_, fun e => ⟨fun g => ?_, fun g => ?_⟩⟩
  · have := yes e
    exact ⟨[], [], _, leh0, leI (by unfold cmpI; rw [if_pos this]), rfl, rfl⟩
  · have h1 := no e
    have h2 := yes g
    exact ⟨[], [], _, leh0, leI (by unfold cmpI; rw [if_neg h1, if_pos h2]), rfl, rfl⟩
  · have h1 := no e
    have h2 := no g
    exact ⟨[], [], _, leh0, leI (by unfold cmpI; rw [if_neg h1, if_neg h2]), rfl, rfl⟩

set_option maxRecDepth 10000 in
theorem or_prog (a b : Int) : ACalls Tryz.prog 76 [.roI .i64 [a, b]] [] (fun r h => r = int .i64 (if a = 0 then b else a) ∧ h = []) := by
  refine rcalls Tryz.func76 rfl (by decide) ?_
  refine ⟨Nat, fun k => [(3, int .i64 0), (6, .roI .i64 [a, b]), (7, int .i64 2), (8, int .i64 k)], fun _ => [], fun k => k ≤ 2 ∧ (1 ≤ k → a = 0) ∧ (2 ≤ k → b = 0), fun k => 2 - k,
    ⟨0, [], ⟨by omega, by omega, by omega⟩, leh0, ⟨leI rfl, leRo rfl, leI rfl, leI rfl, trivial⟩⟩, ?_⟩
  rintro k ⟨hk, ha, hb⟩
  refine ⟨fun c => ?_, fun c => ?_⟩
  · have f1 : (k : Int) < 2 := yes c
    refine ⟨⟨by omega, f1⟩, ?_⟩
    have hcase : k = 0 ∨ k = 1 := by omega
    refine ⟨fun g => ?_, fun g => ?_⟩
    · have g1 := yes g
      refine ⟨[], [], _, leh0, leI ?_, rfl, rfl⟩
      rcases hcase with rfl | rfl
      · have g2 : ¬ a = 0 := g1
        rw [if_neg g2]; rfl
      · rw [if_pos (ha (by omega))]; rfl
    · have g1 := no g
      have e1 : IntKind.i64.wrap ((k : Int) + 1) = ((k + 1 : Nat) : Int) := by rw [w64 (by omega) (by omega)]; omega
      refine ⟨trivial, k + 1, [], ⟨by omega, fun _ => ?_, fun h2 => ?_⟩, by show 2 - (k + 1) < 2 - k; omega, leh0, ⟨leI rfl, leRo rfl, leI rfl, leI e1, trivial⟩⟩
      · rcases hcase with rfl | rfl
        · have g2 : ¬ ¬ a = 0 := g1
          exact Classical.not_not.1 g2
        · exact ha (by omega)
      · obtain rfl : k = 1 := by omega
        have g2 : ¬ ¬ b = 0 := g1
        exact Classical.not_not.1 g2
  · have f1 : ¬ (k : Int) < 2 := no c
    refine ⟨[], [], _, leh0, leI ?_, rfl, rfl⟩
    rw [if_pos (ha (by omega)), hb (by omega)]

/-- A number that fits into a float's 50 bits. -/
def fit (a b : Int) : Prop := -1125899906842624 < a ∧ a < 1125899906842624 ∧ -1125899906842624 < b ∧ b < 1125899906842624
instance (a b : Int) : Decidable (fit a b) := by unfold fit; exact inferInstance

set_option maxHeartbeats 1000000 in
set_option maxRecDepth 10000 in
theorem point_prog (a b : Int) : ACalls Tryz.prog 108 [dotV a b] [] (fun r h => r = .tup 2 (pair (.raw (.complex .f64 (Flt.ofInt a) (Flt.ofInt b))) (bool (decide (fit a b)))) ∧ h = []) := by
  refine rcalls Tryz.func108 rfl (by decide) ?_
  refine ⟨fun c1 => ⟨fun c2 => ⟨fun c3 => ?_, fun c3 => ?_⟩, fun c2 => ?_⟩, fun c1 => ?_⟩
  all_goals
    refine ⟨_, fun w => run_conv _ _ _ _ rfl rfl w, ?_⟩
    refine ⟨_, fun w => run_conv _ _ _ _ rfl rfl w, ?_⟩
    refine ⟨[], [], _, lehN _, le_pair (.raw _) ?_, rfl, rfl⟩
  · have := yes c1; have := yes c2; have := yes c3
    exact leP (by unfold fit; omega)
  · have := no c3
    exact leFP (by unfold fit; omega)
  · have := no c2
    exact leFP (by unfold fit; omega)
  · have := no c1
    exact leFP (by unfold fit; omega)

set_option maxHeartbeats 1000000 in
set_option maxRecDepth 10000 in
theorem compare_prog (a b c d : Int) : ACalls Tryz.prog 78 [dotV a b, dotV c d] [] (fun r h => r = int .i64 (cmpD a b c d) ∧ h = []) := by
  have hF : fit a b → fit c d → ∃ r, ∃ i, Ieee.double.sub (Flt.ofInt a) (Flt.ofInt c) = some r ∧ Ieee.double.sub (Flt.ofInt b) (Flt.ofInt d) = some i ∧ Flt.sgn r (ord a c) ∧ Flt.sgn i (ord b d) := fun hh gg => by
    obtain ⟨h1, h2, h3, h4⟩ := hh
    obtain ⟨g1, g2, g3, g4⟩ := gg
    obtain ⟨r, e1, e2⟩ := Flt.sub_sgn (x := a) (y := c) (by omega) (by omega)
    obtain ⟨i, e3, e4⟩ := Flt.sub_sgn (x := b) (y := d) (by omega) (by omega)
    exact ⟨r, i, e1, e3, e2, e4⟩
  have hc := cmp_two a b c d
  refine rcalls Tryz.func78 rfl (by decide) ?_
  refine ⟨[], _, dfree rfl rfl, (point_prog a b).args ⟨vdot rfl rfl, trivial⟩, ?_⟩
  rintro r h ⟨rfl, rfl⟩
  refine ⟨.inl rfl, ?_⟩
  refine ⟨[], _, dfree rfl rfl, (point_prog c d).args ⟨vdot rfl rfl, trivial⟩, ?_⟩
  rintro r h ⟨rfl, rfl⟩
  refine ⟨.inl rfl, ?_⟩
  have rest : True := trivial
  refine ⟨fun c1 => ⟨fun c2 => ?_, fun c2 => ?_⟩, fun c1 => ?_⟩
  · obtain ⟨r, i, e1, e2, s1, s2⟩ := hF (yes c1) (yes c2)
    refine ⟨_, fun w => run_csub _ e1 e2 w, ?_⟩
    refine ⟨[], _, compareF_prog r _ s1, ?_⟩
    rintro r h ⟨rfl, rfl⟩
    refine ⟨.inl rfl, ?_⟩
    refine ⟨[], _, compareF_prog i _ s2, ?_⟩
    rintro r h ⟨rfl, rfl⟩
    refine ⟨.inl rfl, ?_⟩
    rw [ord_cmp, ord_cmp]
    refine ⟨[], _, Nat.le_refl _, or_prog (cmpI a c) (cmpI b d), ?_⟩
    rintro r h ⟨rfl, rfl⟩
    refine ⟨.inr ⟨trivial, fun o ho => by cases ho⟩, ?_⟩
    exact ⟨[], [], _, lehN _, leI hc, rfl, rfl⟩
  all_goals
    refine .inr ⟨12, by decide +kernel, ?_⟩
    refine ⟨_, rfl, ?_⟩
    refine ⟨_, rfl, ?_⟩
    refine ⟨_, rfl, ?_⟩
    refine ⟨_, rfl, ?_⟩
    refine ⟨_, ⟨[], _, compareI_prog a c, by rintro r h ⟨rfl, rfl⟩; exact ⟨.inl rfl, rfl, rfl⟩⟩, ?_⟩
    refine ⟨_, rfl, ?_⟩
    refine ⟨_, rfl, ?_⟩
    refine ⟨_, rfl, ?_⟩
    refine ⟨_, rfl, ?_⟩
    refine ⟨_, ⟨[], _, compareL_prog b d, by rintro r h ⟨rfl, rfl⟩; exact ⟨.inl rfl, rfl, rfl⟩⟩, ?_⟩
    refine ⟨_, rfl, ?_⟩
    refine ⟨_, ⟨[], _, or_prog (cmpI a c) (cmpI b d), by rintro r h ⟨rfl, rfl⟩; exact ⟨.inl rfl, rfl, rfl⟩⟩, ?_⟩
    exact ⟨[], [], _, lehN _, leI hc, rfl, rfl⟩

set_option maxHeartbeats 1000000 in
set_option maxRecDepth 10000 in
theorem compare_ref (a b c d : Int) : ACalls Tryz.prog 83 [dotV a b, dotV c d] [] (fun r h => r = int .i64 (cmpD a b c d) ∧ h = []) := by
  refine rcalls Tryz.func83 rfl (by decide) ?_
  refine ⟨⟨by decide +kernel, by decide +kernel, by decide +kernel⟩, ?_⟩
  refine ⟨fun c1 => ?_, fun c1 => ?_⟩
  · have h1 : a = c ∧ b = d := by simpa [leafEq] using c1
    exact ⟨[], [], _, lehN _, leI (by unfold cmpD; rw [h1.1, h1.2]; simp), rfl, rfl⟩
  have h1 : ¬ (a = c ∧ b = d) := by simpa [leafEq] using c1
  refine ⟨fun c2 => ?_, fun c2 => ⟨fun c3 => ⟨fun c4 => ?_, fun c4 => ?_⟩, fun c3 => ?_⟩⟩
  · have := yes c2
    exact ⟨[], [], _, lehN _, leI (by unfold cmpD; rw [if_pos this]), rfl, rfl⟩
  · have g1 := no c2; have g2 := yes c3; have g3 := yes c4
    exact ⟨[], [], _, lehN _, leI (by unfold cmpD; rw [if_neg g1, if_neg (by omega), if_pos g3]), rfl, rfl⟩
  · have g1 := no c2; have g2 := yes c3; have g3 := no c4
    exact ⟨[], [], _, lehN _, leI (by unfold cmpD; rw [if_neg g1, if_neg (by omega), if_neg g3, if_pos (by omega)]), rfl, rfl⟩
  · have g1 := no c2; have g2 := no c3
    exact ⟨[], [], _, lehN _, leI (by unfold cmpD; rw [if_neg g1, if_pos (by omega)]), rfl, rfl⟩

set_option maxHeartbeats 1000000 in
set_option maxRecDepth 10000 in
theorem replica_prog (n : Int) : ACalls Tryz.prog 103 [int .i64 n] [] (fun r h => r = bool (decide (0 ≤ n ∧ n ≤ 31)) ∧ h = []) := by
  refine rcalls Tryz.func103 rfl (by decide) ?_
  refine ⟨fun c1 => ?_, fun c1 => ?_⟩
  · have := yes c1
    exact ⟨[], [], _, leh0, leP (by omega), rfl, rfl⟩
  · have := no c1
    exact ⟨[], [], _, leh0, leFP (by omega), rfl, rfl⟩

set_option maxHeartbeats 1000000 in
set_option maxRecDepth 10000 in
theorem may_prog (a b : Int) : ACalls Tryz.prog 67 [dotV a b] [] (fun r h => r = bool (decide (mayD a b)) ∧ h = []) := by
  refine rcalls Tryz.func67 rfl (by decide) ?_
  refine ⟨[], _, replica_prog a, ?_⟩
  rintro r h ⟨rfl, rfl⟩
  refine ⟨.inl rfl, ?_⟩
  refine ⟨fun c1 => ⟨fun c2 => ?_, fun c2 => ?_⟩, fun c1 => ?_⟩
  · have := yes c1; have := yes c2
    exact ⟨[], [], _, lehN _, leP (by unfold mayD; omega), rfl, rfl⟩
  · have := no c2
    exact ⟨[], [], _, lehN _, leFP (by unfold mayD; omega), rfl, rfl⟩
  · have := no c1
    exact ⟨[], [], _, lehN _, leFP (by unfold mayD; omega), rfl, rfl⟩

set_option maxHeartbeats 1000000 in
set_option maxRecDepth 10000 in
theorem may_ref (a b : Int) : ACalls Tryz.prog 79 [dotV a b] [] (fun r h => r = bool (decide (mayD a b)) ∧ h = []) := by
  refine rcalls Tryz.func79 rfl (by decide) ?_
  refine ⟨fun c1 => ⟨fun c2 => ⟨fun c3 => ?_, fun c3 => ?_⟩, fun c2 => ?_⟩, fun c1 => ?_⟩
  · have := yes c1; have := yes c2; have := yes c3
    exact ⟨[], [], _, lehN _, leP (by unfold mayD; omega), rfl, rfl⟩
  · have := no c3
    exact ⟨[], [], _, lehN _, leFP (by unfold mayD; omega), rfl, rfl⟩
  · have := no c2
    exact ⟨[], [], _, lehN _, leFP (by unfold mayD; omega), rfl, rfl⟩
  · have := no c1
    exact ⟨[], [], _, lehN _, leFP (by unfold mayD; omega), rfl, rfl⟩

end
end Go.Proofs.YthckagkciefliaaGreatDoor.Dt
