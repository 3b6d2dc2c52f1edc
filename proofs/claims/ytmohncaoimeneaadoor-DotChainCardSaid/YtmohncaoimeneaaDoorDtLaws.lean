/-
  The laws of dot, walked.
-/
import Derived.Test.YtmohncaoimeneaaDoorDtParse
set_option linter.unusedVariables false
set_option linter.unusedSectionVars false
namespace Go.Proofs.YtmohncaoimeneaaDoor.Dt
open Go AL Hx

theorem t317 : textD 3 17 = ⟨#[51, 58, 49, 55]⟩ := by
  unfold textD numS Lib.itoa
  rw [if_neg (by decide), if_neg (by decide)]
  simp [Lib.decDigits]
  rfl

/-- A number of 64 bits. -/
abbrev R64 (n : Int) : Prop := -9223372036854775808 ≤ n ∧ n < 9223372036854775808
theorem nof {b : Bool} (e : b = false) (g : b = true) : False := by rw [e] at g; cases g
theorem eq2 {a b c d : Int} : (leafEq (.int .i64 a) (.int .i64 c) && (leafEq (.int .i64 b) (.int .i64 d) && true)) = true ↔ a = c ∧ b = d := by simp [leafEq]
theorem cmp_anti (a b c d : Int) : cmpD c d a b = -cmpD a b c d := by unfold cmpD; (repeat' split) <;> omega
theorem cmp_zero (a b c d : Int) : cmpD a b c d = 0 ↔ a = c ∧ b = d := by unfold cmpD; (repeat' split) <;> omega
theorem cmp_range (a b c d : Int) : -1 ≤ cmpD a b c d ∧ cmpD a b c d ≤ 1 := by unfold cmpD; (repeat' split) <;> omega
theorem cmp_le (a b c d e f : Int) : cmpD a b c d > 0 ∨ cmpD c d e f > 0 ∨ cmpD a b e f ≤ 0 := by unfold cmpD; (repeat' split) <;> omega
theorem cmp_lt (a b c d e f : Int) : cmpD a b c d ≥ 0 ∨ cmpD c d e f ≥ 0 ∨ cmpD a b e f < 0 := by unfold cmpD; (repeat' split) <;> omega
theorem cmp_next (a b : Int) : cmpD a (b + 1) a b = 1 := by unfold cmpD; (repeat' split) <;> omega
theorem cmp_next' (a b : Int) : cmpD a b a (b + 1) = -1 := by unfold cmpD; (repeat' split) <;> omega
theorem cmp_gap (a b c d : Int) (h : ¬ cmpD c d a b ≤ 0) : cmpD c d a (b + 1) ≥ 0 := by revert h; unfold cmpD; (repeat' split) <;> omega
theorem next_may {a b : Int} (h : nextE a b = 0) : mayD a (b + 1) := by
  obtain ⟨_, _, h1, h2, h3, h4⟩ := next_ok h
  unfold mayD; omega

section
variable [Globs]
set_option maxHeartbeats 2000000 in
set_option maxRecDepth 10000 in
theorem awake_prog (hG : NumG) : ACalls Tryd.prog 15 [] [] (fun r h => r = .tt ∧ h = []) := by
  have h1 := parse_prog hG (textD 3 17) (by rw [t317]; decide)
  obtain ⟨p0, p1, p2⟩ := (parse_text (r := 3) (q := 17) (by omega) (by omega)).1 (by decide)
  have h2 := next_prog 3 0
  have h3 := text_prog hG 3 17 (by omega) (by omega)
  unfold ParseR at h1
  rw [p1, p2, (parse_ok p0).1] at h1
  rw [t317] at h1 h3
  unfold NextR at h2
  rw [show nextR 3 0 = 3 by decide, show nextQ 3 0 = 1 by decide, show nextE 3 0 = 0 by decide] at h2
  refine rcalls Tryd.func15 rfl (by decide) ?_
  refine ⟨[], _, h1, ?_⟩
  rintro r h ⟨rfl, rfl⟩
  refine ⟨.inl rfl, ?_⟩
  refine ⟨[], _, dfree rfl rfl, h2.args ⟨vdot rfl rfl, trivial⟩, ?_⟩
  rintro r h ⟨rfl, rfl⟩
  refine ⟨.inl rfl, ?_⟩
  refine ⟨fun _ => ?_, fun e => absurd rfl (no e)⟩
  refine ⟨fun _ => ?_, fun e => absurd rfl (no e)⟩
  refine ⟨⟨by decide +kernel, by decide +kernel, by decide +kernel⟩, ?_⟩
  refine ⟨fun _ => ?_, fun e => (nof e (eq2.2 ⟨rfl, rfl⟩)).elim⟩
  refine ⟨⟨by decide +kernel, by decide +kernel, by decide +kernel⟩, ?_⟩
  refine ⟨fun _ => ?_, fun e => (nof e (eq2.2 ⟨rfl, rfl⟩)).elim⟩
  refine ⟨[], _, dfree rfl rfl, h3.args ⟨vdot rfl rfl, trivial⟩, ?_⟩
  rintro r h ⟨rfl, rfl⟩
  refine ⟨.inl rfl, ?_⟩
  exact ⟨[], [], .tt, lehN _, leTT (decide_eq_true rfl), rfl, rfl⟩

set_option maxHeartbeats 2000000 in
set_option maxRecDepth 10000 in
theorem texts_prog (hG : NumG) (a b : Int) (s : ByteArray) (ha : -9223372036854775808 ≤ a ∧ a < 9223372036854775808) (hb : -9223372036854775808 ≤ b ∧ b < 9223372036854775808) (hs : s.size ≤ 281474976710656) :
    ACalls Tryd.prog 3 [dotV a b, str s] [] (fun r h => r = .tt ∧ h = []) := by
  have h1 := parse_prog hG s hs
  have h2 := parse_ref s hs
  have h3 := text_prog hG a b ha hb
  have h4 := text_ref a b ha hb
  unfold ParseR at h1 h2
  generalize parseR s = R at *
  generalize parseQ s = Q at *
  generalize parseE s = E at *
  generalize textD a b = T at *
  refine rcalls Tryd.func3 rfl (by decide) ?_
  refine ⟨[], _, awake_prog hG, ?_⟩
  rintro r h ⟨rfl, rfl⟩
  refine ⟨.inl rfl, ?_⟩
  refine ⟨[], _, h1, ?_⟩
  rintro r h ⟨rfl, rfl⟩
  refine ⟨.inl rfl, ?_⟩
  refine ⟨[], _, h2, ?_⟩
  rintro r h ⟨rfl, rfl⟩
  refine ⟨.inl rfl, ?_⟩
  refine .inl ⟨⟨by decide +kernel, by decide +kernel⟩, ?_⟩
  refine ⟨.string T, dfree rfl rfl, ACalls.args (h3.mono fun r h ⟨e1, e2⟩ => ⟨.inl e1, e2⟩) ⟨vdot rfl rfl, trivial⟩, ?_⟩
  refine ⟨.string T, dfree rfl rfl, ACalls.args (h4.mono fun r h ⟨e1, e2⟩ => ⟨.inl e1, e2⟩) ⟨vdot rfl rfl, trivial⟩, ?_⟩
  refine ⟨fun _ => ?_, fun e => absurd rfl (no e)⟩
  refine ⟨⟨by decide +kernel, by decide +kernel, by decide +kernel⟩, ?_⟩
  refine ⟨fun _ => ?_, fun e => (nof e (eq2.2 ⟨rfl, rfl⟩)).elim⟩
  exact ⟨[], [], .tt, lehN _, leTT (decide_eq_true rfl), rfl, rfl⟩

set_option maxHeartbeats 2000000 in
set_option maxRecDepth 10000 in
theorem orders_prog (hG : NumG) (a b c d : Int) (_ : R64 a) (_ : R64 b) (_ : R64 c) (_ : R64 d) :
    ACalls Tryd.prog 5 [dotV a b, dotV c d] [] (fun r h => r = .tt ∧ h = []) := by
  have h1 := next_prog a b
  have h2 := next_ref a b
  have h3 := compare_prog a b c d
  have h4 := compare_ref a b c d
  have h5 := may_prog a b
  have h6 := may_ref a b
  unfold NextR at h1 h2
  generalize nextR a b = R at *
  generalize nextQ a b = Q at *
  generalize nextE a b = E at *
  generalize cmpD a b c d = C at *
  generalize decide (mayD a b) = M at *
  refine rcalls Tryd.func5 rfl (by decide) ?_
  refine ⟨[], _, awake_prog hG, ?_⟩
  rintro r h ⟨rfl, rfl⟩
  refine ⟨.inl rfl, ?_⟩
  refine ⟨[], _, dfree rfl rfl, h1.args ⟨vdot rfl rfl, trivial⟩, ?_⟩
  rintro r h ⟨rfl, rfl⟩
  refine ⟨.inl rfl, ?_⟩
  refine ⟨[], _, dfree rfl rfl, h2.args ⟨vdot rfl rfl, trivial⟩, ?_⟩
  rintro r h ⟨rfl, rfl⟩
  refine ⟨.inl rfl, ?_⟩
  refine .inl ⟨⟨by decide +kernel, by decide +kernel⟩, ?_⟩
  refine ⟨.int .i64 C, dfree rfl rfl, dfree rfl rfl, ACalls.args (h3.mono fun r h ⟨e1, e2⟩ => ⟨.inl e1, e2⟩) ⟨vdot rfl rfl, vdot rfl rfl, trivial⟩, ?_⟩
  refine ⟨.int .i64 C, dfree rfl rfl, dfree rfl rfl, ACalls.args (h4.mono fun r h ⟨e1, e2⟩ => ⟨.inl e1, e2⟩) ⟨vdot rfl rfl, vdot rfl rfl, trivial⟩, ?_⟩
  refine ⟨fun _ => ?_, fun e => absurd rfl (no e)⟩
  refine ⟨.bool M, dfree rfl rfl, ACalls.args (h5.mono fun r h ⟨e1, e2⟩ => ⟨.inl e1, e2⟩) ⟨vdot rfl rfl, trivial⟩, ?_⟩
  refine ⟨.bool M, dfree rfl rfl, ACalls.args (h6.mono fun r h ⟨e1, e2⟩ => ⟨.inl e1, e2⟩) ⟨vdot rfl rfl, trivial⟩, ?_⟩
  refine ⟨fun _ => ?_, fun e => by cases M <;> cases e⟩
  refine ⟨⟨by decide +kernel, by decide +kernel, by decide +kernel⟩, ?_⟩
  refine ⟨fun _ => ?_, fun e => (nof e (eq2.2 ⟨rfl, rfl⟩)).elim⟩
  exact ⟨[], [], .tt, lehN _, leTT (decide_eq_true rfl), rfl, rfl⟩

end
end Go.Proofs.YtmohncaoimeneaaDoor.Dt
