/-
  The laws of dot, walked: DotOne, DotNext, DotBack, DotChain.
-/
import Derived.Test.YtmohncaoimeneaaDoorDtLaws
set_option linter.unusedVariables false
set_option linter.unusedSectionVars false
namespace Go.Proofs.YtmohncaoimeneaaDoor.Dt
open Go AL Hx
theorem eqB2 {x a b c d : Int} (h : x = 0 ↔ a = c ∧ b = d) : (decide (x = 0) == (leafEq (.int .i64 a) (.int .i64 c) && (leafEq (.int .i64 b) (.int .i64 d) && true))) = true := by
  by_cases h1 : x = 0
  · have := eq2.2 (h.1 h1)
    rw [this, decide_eq_true h1]; rfl
  · have : (leafEq (.int .i64 a) (.int .i64 c) && (leafEq (.int .i64 b) (.int .i64 d) && true)) = false := by
      cases hb : (leafEq (.int .i64 a) (.int .i64 c) && (leafEq (.int .i64 b) (.int .i64 d) && true)) with
      | false => rfl
      | true => exact absurd (h.2 (eq2.1 hb)) h1
    rw [this, decide_eq_false h1]; rfl

section
variable [Globs]
set_option maxHeartbeats 4000000 in
set_option maxRecDepth 10000 in
theorem one_prog (hG : NumG) (a b c d e f : Int) (_ : R64 a) (_ : R64 b) (_ : R64 c) (_ : R64 d) (_ : R64 e) (_ : R64 f) :
    ACalls Tryd.prog 6 [dotV a b, dotV c d, dotV e f] [] (fun r h => r = .tt ∧ h = []) := by
  have h1 := compare_prog a b c d
  have h2 := compare_prog c d e f
  have h3 := compare_prog a b e f
  have h4 := compare_prog c d a b
  have k1 := cmp_anti a b c d
  have k2 := eqB2 (cmp_zero a b c d)
  have k3 := cmp_le a b c d e f
  have k4 := cmp_lt a b c d e f
  have k5 := cmp_range a b c d
  generalize cmpD a b c d = X at *
  generalize cmpD c d e f = Y at *
  generalize cmpD a b e f = Z at *
  generalize cmpD c d a b = W at *
  have k6 : W = IntKind.i64.wrap (0 - X) := by rw [w64 (by omega) (by omega)]; omega
  refine rcalls Tryd.func6 rfl (by decide) ?_
  refine ⟨[], _, awake_prog hG, ?_⟩
  rintro r h ⟨rfl, rfl⟩
  refine ⟨.inl rfl, ?_⟩
  refine ⟨[], _, dfree rfl rfl, dfree rfl rfl, h1.args ⟨vdot rfl rfl, vdot rfl rfl, trivial⟩, ?_⟩
  rintro r h ⟨rfl, rfl⟩
  refine ⟨.inl rfl, ?_⟩
  refine ⟨[], _, dfree rfl rfl, dfree rfl rfl, h2.args ⟨vdot rfl rfl, vdot rfl rfl, trivial⟩, ?_⟩
  rintro r h ⟨rfl, rfl⟩
  refine ⟨.inl rfl, ?_⟩
  refine ⟨[], _, dfree rfl rfl, dfree rfl rfl, h3.args ⟨vdot rfl rfl, vdot rfl rfl, trivial⟩, ?_⟩
  rintro r h ⟨rfl, rfl⟩
  refine ⟨.inl rfl, ?_⟩
  refine ⟨[], _, dfree rfl rfl, dfree rfl rfl, h4.args ⟨vdot rfl rfl, vdot rfl rfl, trivial⟩, ?_⟩
  rintro r h ⟨rfl, rfl⟩
  refine ⟨.inl rfl, ?_⟩
  refine ⟨fun _ => ?_, fun g => absurd k6 (no g)⟩
  refine ⟨⟨by decide +kernel, by decide +kernel, by decide +kernel⟩, ?_⟩
  refine ⟨fun _ => ?_, fun g => (nof g k2).elim⟩
  refine ⟨fun g1 => ?_, fun g1 => ⟨fun g2 => ?_, fun g2 => ⟨fun g3 => ?_, fun g3 => ?_⟩⟩⟩
  case refine_4 => exact absurd (no g3) (by have := no g1; have := no g2; omega)
  all_goals
    refine ⟨fun g5 => ?_, fun g5 => ⟨fun g6 => ?_, fun g6 => ?_⟩⟩
    · exact ⟨[], [], .tt, lehN _, .tt, rfl, rfl⟩
    · exact ⟨[], [], .tt, lehN _, .tt, rfl, rfl⟩
    · exact ⟨[], [], .tt, lehN _, leTT (decide_eq_true (by have := no g5; have := no g6; omega)), rfl, rfl⟩

set_option maxHeartbeats 4000000 in
set_option maxRecDepth 10000 in
theorem nextlaw_prog (hG : NumG) (a b c d : Int) (_ : R64 a) (_ : R64 b) (_ : R64 c) (_ : R64 d) :
    ACalls Tryd.prog 7 [dotV a b, dotV c d] [] (fun r h => r = .tt ∧ h = []) := by
  have h1 := next_prog a b
  unfold NextR at h1
  rcases next_cases a b with hE | ⟨hE, hr⟩
  · obtain ⟨e1, e2, _⟩ := next_ok hE
    have h2 := compare_prog a (b + 1) a b
    rw [cmp_next] at h2
    have h3 := may_prog a (b + 1)
    rw [decide_eq_true (next_may hE)] at h3
    have h4 := compare_prog c d a b
    have h5 := compare_prog c d a (b + 1)
    have k := cmp_gap a b c d
    rw [e1, e2, hE] at h1
    generalize cmpD c d a b = X at *
    generalize cmpD c d a (b + 1) = Y at *
    generalize b + 1 = b1 at *
    refine rcalls Tryd.func7 rfl (by decide) ?_
    refine ⟨[], _, awake_prog hG, ?_⟩
    rintro r h ⟨rfl, rfl⟩
    refine ⟨.inl rfl, ?_⟩
    refine ⟨[], _, dfree rfl rfl, h1.args ⟨vdot rfl rfl, trivial⟩, ?_⟩
    rintro r h ⟨rfl, rfl⟩
    refine ⟨.inl rfl, ?_⟩
    refine ⟨fun g => absurd rfl (yes g), fun _ => ?_⟩
    refine ⟨[], _, dfree rfl rfl, dfree rfl rfl, h2.args ⟨vdot rfl rfl, vdot rfl rfl, trivial⟩, ?_⟩
    rintro r h ⟨rfl, rfl⟩
    refine ⟨.inl rfl, ?_⟩
    refine ⟨fun _ => ?_, fun g => absurd rfl (no g)⟩
    refine ⟨[], _, dfree rfl rfl, h3.args ⟨vdot rfl rfl, trivial⟩, ?_⟩
    rintro r h ⟨rfl, rfl⟩
    refine ⟨.inl rfl, ?_⟩
    refine ⟨fun _ => ?_, fun g => by cases g⟩
    refine ⟨fun _ => ?_, fun g => absurd rfl (no g)⟩
    refine ⟨[], _, dfree rfl rfl, dfree rfl rfl, h4.args ⟨vdot rfl rfl, vdot rfl rfl, trivial⟩, ?_⟩
    rintro r h ⟨rfl, rfl⟩
    refine ⟨.inl rfl, ?_⟩
    refine ⟨fun _ => ?_, fun g => ?_⟩
    · exact ⟨[], [], .tt, lehN _, .tt, rfl, rfl⟩
    refine ⟨[], _, dfree rfl rfl, dfree rfl rfl, h5.args ⟨vdot rfl rfl, vdot rfl rfl, trivial⟩, ?_⟩
    rintro r h ⟨rfl, rfl⟩
    refine ⟨.inl rfl, ?_⟩
    exact ⟨[], [], .tt, lehN _, leTT (decide_eq_true (k (no g))), rfl, rfl⟩
  · obtain ⟨e1, e2⟩ := next_bad rfl hE
    rw [e1, e2] at h1
    generalize nextE a b = E at *
    refine rcalls Tryd.func7 rfl (by decide) ?_
    refine ⟨[], _, awake_prog hG, ?_⟩
    rintro r h ⟨rfl, rfl⟩
    refine ⟨.inl rfl, ?_⟩
    refine ⟨[], _, dfree rfl rfl, h1.args ⟨vdot rfl rfl, trivial⟩, ?_⟩
    rintro r h ⟨rfl, rfl⟩
    refine ⟨.inl rfl, ?_⟩
    refine ⟨fun _ => ?_, fun g => absurd hE (no g)⟩
    refine ⟨⟨by decide +kernel, by decide +kernel, by decide +kernel⟩, ?_⟩
    refine ⟨fun _ => ?_, fun g => (nof g (eq2.2 ⟨rfl, rfl⟩)).elim⟩
    refine ⟨fun g1 => ?_, fun g1 => ⟨fun g2 => ?_, fun g2 => ⟨fun g3 => ?_, fun g3 => ?_⟩⟩⟩
    · exact ⟨[], [], .tt, lehN _, .tt, rfl, rfl⟩
    · exact ⟨[], [], .tt, lehN _, .tt, rfl, rfl⟩
    · exact ⟨[], [], .tt, lehN _, .tt, rfl, rfl⟩
    · exact ⟨[], [], .tt, lehN _, leTT (decide_eq_true (by have := no g1; have := no g2; have := no g3; omega)), rfl, rfl⟩

set_option maxHeartbeats 4000000 in
set_option maxRecDepth 10000 in
theorem back_prog (hG : NumG) (a b : Int) (s : ByteArray) (ha : R64 a) (hb : R64 b) (hs : s.size ≤ 281474976710656) :
    ACalls Tryd.prog 4 [dotV a b, str s] [] (fun r h => r = .tt ∧ h = []) := by
  have h0 := text_prog hG a b ha hb
  have h1 := parse_prog hG (textD a b) (by have := text_size_le ha hb; omega)
  have h2 := parse_prog hG s hs
  have h3 := may_prog a b
  have h4 := may_prog (parseR s) (parseQ s)
  have pt := parse_text ha hb
  have q1 : mayD a b → parseE (textD a b) = 0 ∧ parseR (textD a b) = a ∧ parseQ (textD a b) = b := fun h => by
    obtain ⟨g1, g2, g3⟩ := pt.1 h
    exact ⟨(parse_ok g1).1, g2, g3⟩
  have q2 : ¬ mayD a b → parseE (textD a b) = 2 := fun h => (parse_bad (pt.2 h)).1
  have q3 : parseE s = 0 → mayD (parseR s) (parseQ s) ∧ textD (parseR s) (parseQ s) = s := fun h => by
    by_cases hok : okP s
    · exact parse_back hok
    · rw [(parse_bad hok).1] at h; cases h
  have q4 : ¬ parseE s = 0 → parseE s = 2 ∧ parseR s = 0 ∧ parseQ s = 0 := fun h => by
    by_cases hok : okP s
    · exact absurd (parse_ok hok).1 h
    · exact parse_bad hok
  have h5 : mayD (parseR s) (parseQ s) → ACalls Tryd.prog 18 [dotV (parseR s) (parseQ s)] [] (fun r h => r = str (textD (parseR s) (parseQ s)) ∧ h = []) := fun h => by
    unfold mayD at h
    exact text_prog hG _ _ (by omega) (by omega)
  unfold ParseR at h1 h2
  generalize textD (parseR s) (parseQ s) = U at *
  generalize parseR s = R2 at *
  generalize parseQ s = Q2 at *
  generalize parseE s = E2 at *
  generalize parseR (textD a b) = R1 at *
  generalize parseQ (textD a b) = Q1 at *
  generalize parseE (textD a b) = E1 at *
  generalize textD a b = T at *
  refine rcalls Tryd.func4 rfl (by decide) ?_
  refine ⟨[], _, awake_prog hG, ?_⟩
  rintro r h ⟨rfl, rfl⟩
  refine ⟨.inl rfl, ?_⟩
  refine ⟨[], _, dfree rfl rfl, h0.args ⟨vdot rfl rfl, trivial⟩, ?_⟩
  rintro r h ⟨rfl, rfl⟩
  refine ⟨.inl rfl, ?_⟩
  refine ⟨[], _, h1, ?_⟩
  rintro r h ⟨rfl, rfl⟩
  refine ⟨.inl rfl, ?_⟩
  refine ⟨[], _, h2, ?_⟩
  rintro r h ⟨rfl, rfl⟩
  refine ⟨.inl rfl, ?_⟩
  refine ⟨[], _, dfree rfl rfl, h3.args ⟨vdot rfl rfl, trivial⟩, ?_⟩
  rintro r h ⟨rfl, rfl⟩
  refine ⟨.inl rfl, ?_⟩
  have hM : (decide (mayD a b) != decide (E1 = 0)) = false := by
    by_cases h : mayD a b
    · rw [decide_eq_true h, decide_eq_true (q1 h).1]; rfl
    · rw [decide_eq_false h, decide_eq_false (by rw [q2 h]; decide)]; rfl
  refine ⟨fun g => (nof hM g).elim, fun _ => ?_⟩
  refine ⟨fun g1 => ⟨⟨by decide +kernel, by decide +kernel, by decide +kernel⟩, fun g2 => ?_, fun _ => ?_⟩, fun g1 => ?_⟩
  · have hm : mayD a b := Classical.byContradiction fun h => by have := yes g1; rw [q2 h] at this; cases this
    obtain ⟨_, e1, e2⟩ := q1 hm
    have := eq2.2 (⟨e1, e2⟩ : R1 = a ∧ Q1 = b)
    have g3 : (!(leafEq (.int .i64 R1) (.int .i64 a) && (leafEq (.int .i64 Q1) (.int .i64 b) && true))) = true := g2
    rw [this] at g3; cases g3
  all_goals
    refine ⟨fun c1 => ?_, fun c1 => ?_⟩
    · obtain ⟨m1, m2⟩ := q3 (yes c1)
      refine ⟨[], _, dfree rfl rfl, h4.args ⟨vdot rfl rfl, trivial⟩, ?_⟩
      rintro r h ⟨rfl, rfl⟩
      refine ⟨.inl rfl, ?_⟩
      refine ⟨fun _ => ?_, fun g => absurd m1 (no g)⟩
      refine ⟨[], _, dfree rfl rfl, (h5 m1).args ⟨vdot rfl rfl, trivial⟩, ?_⟩
      rintro r h ⟨rfl, rfl⟩
      refine ⟨.inl rfl, ?_⟩
      refine ⟨fun _ => ?_, fun g => absurd m2 (no g)⟩
      exact ⟨[], [], .tt, lehN _, .tt, rfl, rfl⟩
    · obtain ⟨m1, m2, m3⟩ := q4 (no c1)
      refine ⟨fun _ => ?_, fun g => absurd m1 (no g)⟩
      refine ⟨⟨by decide +kernel, by decide +kernel, by decide +kernel⟩, ?_⟩
      exact ⟨[], [], .tt, lehN _, leTT (eq2.2 ⟨m2, m3⟩), rfl, rfl⟩

/-- The text that came last. -/
def lastT (r : Int) (k : Nat) : ByteArray := if k = 0 then ByteArray.empty else textD r k
theorem last_ne {r : Int} {k : Nat} (hr : 0 ≤ r ∧ r < 32) (hk : k < 256) : ¬ textD r (k + 1) = lastT r k := by
  unfold lastT
  split
  · exact text_ne _ _
  · intro h
    have := (text_inj (r := r) (q := k + 1) (r' := r) (q' := k) (by omega) (by omega) (by omega) (by omega) h).2
    omega

set_option maxHeartbeats 4000000 in
set_option maxRecDepth 10000 in
theorem chain_prog (hG : NumG) (p n : Int) (hp : 0 ≤ p ∧ p < 256) (hn : 0 ≤ n ∧ n < 256) :
    ACalls Tryd.prog 8 [int .u8 p, int .u8 n] [] (fun r h => r = .tt ∧ h = []) := by
  have m1 : IntKind.i64.wrap (p.tmod 32) = p % 32 := by rw [Int.tmod_eq_emod_of_nonneg hp.1, w64 (by omega) (by omega)]
  have m2 : IntKind.i64.wrap n = n := w64 (by omega) (by omega)
  obtain ⟨R, hR⟩ : ∃ R, p % 32 = R := ⟨_, rfl⟩
  rw [hR] at m1
  have hr : 0 ≤ R ∧ R < 32 := by omega
  refine rcalls Tryd.func8 rfl (by decide) ?_
  refine ⟨[], _, awake_prog hG, ?_⟩
  rintro r h ⟨rfl, rfl⟩
  refine ⟨.inl rfl, ?_⟩
  refine ⟨by decide, ?_⟩
  refine ⟨Nat, fun k => [(0, int .u8 p), (1, int .u8 n), (5, .tt), (6, .ptr 0 0), (7, str (lastT R k)), (8, int .i64 k)], fun k => [.lst [int .i64 R, int .i64 k]], fun k => (k : Int) ≤ n, fun k => 256 - k,
    ⟨0, [0], by omega, leh1 rfl (leLst2 (leI m1) (leI rfl)), ⟨leI rfl, leI rfl, .tt, .ptr _ rfl, leS rfl, leI rfl, trivial⟩⟩, ?_⟩
  intro k hk
  have hk : (k : Int) ≤ n := hk
  refine ⟨fun c1 => ?_, fun c1 => ?_⟩
  · have f1 : (k : Int) < n := by have := yes c1; rw [m2] at this; exact this
    have hE : nextE R k = 0 := by unfold nextE; rw [if_neg (by omega), if_neg (by omega)]
    obtain ⟨e1, e2, _⟩ := next_ok hE
    have h1 := next_prog R k
    unfold NextR at h1
    rw [e1, e2, hE] at h1
    have h2 := text_prog hG R (k + 1) (by omega) (by omega)
    have h3 := compare_prog R k R (k + 1)
    rw [cmp_next'] at h3
    have hne := last_ne hr (k := k) (by omega)
    have hL : textD R ((k : Int) + 1) = lastT R (k + 1) := by unfold lastT; rw [if_neg (by omega)]; rfl
    generalize textD R ((k : Int) + 1) = T at *
    generalize lastT R k = T0 at *
    have ek : IntKind.i64.wrap ((k : Int) + 1) = ((k + 1 : Nat) : Int) := by rw [w64 (by omega) (by omega)]; omega
    have ek2 : (k : Int) + 1 = ((k + 1 : Nat) : Int) := by omega
    rw [ek2] at h1 h2 h3
    obtain ⟨k1, hk1⟩ : ∃ k1 : Int, ((k + 1 : Nat) : Int) = k1 := ⟨_, rfl⟩
    rw [hk1] at h1 h2 h3 ek
    refine ⟨[], _, dfree rfl rfl, h1.args ⟨vdot rfl rfl, trivial⟩, ?_⟩
    rintro r h ⟨rfl, rfl⟩
    refine ⟨.inl rfl, ?_⟩
    refine ⟨fun g => absurd rfl (yes g), fun _ => ?_⟩
    refine ⟨[], _, dfree rfl rfl, h2.args ⟨vdot rfl rfl, trivial⟩, ?_⟩
    rintro r h ⟨rfl, rfl⟩
    refine ⟨.inl rfl, ?_⟩
    refine ⟨fun g => absurd (yes g) hne, fun _ => ?_⟩
    refine ⟨[], _, dfree rfl rfl, dfree rfl rfl, h3.args ⟨vdot rfl rfl, vdot rfl rfl, trivial⟩, ?_⟩
    rintro r h ⟨rfl, rfl⟩
    refine ⟨.inl rfl, ?_⟩
    refine ⟨fun g => absurd rfl (yes g), fun _ => ?_⟩
    refine ⟨[], _, dfree rfl rfl, h2.args ⟨vdot rfl rfl, trivial⟩, ?_⟩
    rintro r h ⟨rfl, rfl⟩
    refine ⟨.inl rfl, ?_⟩
    refine ⟨trivial, k + 1, [0], by show ((k + 1 : Nat) : Int) ≤ n; omega, by show 256 - (k + 1) < 256 - k; omega, leh1 rfl (leLst2 (leI rfl) (leI hk1.symm)), ⟨leI rfl, leI rfl, .tt, .ptr _ rfl, leS hL, leI (ek.trans hk1.symm), trivial⟩⟩
  · have f1 : ¬ (k : Int) < n := by have := no c1; rw [m2] at this; exact this
    refine ⟨by decide, ?_⟩
    refine ⟨⟨by decide +kernel, by decide +kernel, by decide +kernel⟩, ?_⟩
    exact ⟨[], [], .tt, lehN _, leTT (eq2.2 ⟨m1.symm, by rw [m2]; omega⟩), rfl, rfl⟩

end
end Go.Proofs.YtmohncaoimeneaaDoor.Dt
