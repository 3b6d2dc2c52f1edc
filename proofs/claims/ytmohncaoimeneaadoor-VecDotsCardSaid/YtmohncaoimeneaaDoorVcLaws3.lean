/-
  The laws of vectors, walked: VecKnows, VecRaises.
-/
import Derived.Test.YtmohncaoimeneaaDoorVcLaws2
set_option linter.unusedVariables false
set_option linter.unusedSectionVars false
namespace Go.Proofs.YtmohncaoimeneaaDoor.Vc
open Go AL Hx Dt Spl

theorem beq_tt (b : Bool) : (b == b) = true := by cases b <;> rfl
theorem deq_tt {α : Type} [DecidableEq α] (a : α) : decide (a = a) = true := decide_eq_true rfl

section
variable [Globs]

set_option maxHeartbeats 8000000 in
set_option maxRecDepth 10000 in
theorem knows_prog (hG : NumG) (a b : List (Int × Int)) (x y : Int) (ha : a.length ≤ 281474976710656) (hb : b.length ≤ 281474976710656) :
    ACalls Tryd.prog 12 [vecV a, vecV b, dotV x y] [] (fun r h => r = .tt ∧ h = []) := by
  have h1 := may_vec a ha
  have h2 := may_vref a ha
  have h3 := same_prog a b ha hb
  have h4 := same_ref a b ha hb
  have h5 := get_prog a x ha
  have h6 := get_ref a x ha
  have h7 := has_prog a x y ha
  have h8 := has_ref a x y ha
  have h9 := with_prog a x y ha
  have hw := with_ref a x y ha
  have he := (equal_ref _ _ (of_len (updF (cntF a) (x, y))) (of_len (updF (cntF a) (x, y)))).yes (decide_eq_true rfl)
  generalize ofF (updF (cntF a) (x, y)) = W at *
  generalize decide (a = ofF (cntF a)) = B1 at *
  generalize decide (tab (cntF a) = tab (cntF b)) = B2 at *
  generalize decide (mayD x y ∧ y ≤ getV a x) = B3 at *
  generalize getV a x = V at *
  have b1 := beq_tt B1
  have b2 := beq_tt B2
  have b3 := beq_tt B3
  have v1 := deq_tt V
  refine rcalls Tryd.func12 rfl (by decide) ?_
  refine ⟨[], _, awake_vec hG, ?_⟩
  rintro r hh ⟨rfl, rfl⟩
  refine ⟨.inl rfl, ?_⟩
  refine ⟨fun _ => ?_, fun _ => ⟨fun _ => ?_, fun _ => ?_⟩⟩
  · exact ⟨[], [], .tt, lehN _, .tt, rfl, rfl⟩
  · exact ⟨[], [], .tt, lehN _, .tt, rfl, rfl⟩
  refine .inr ⟨46, by decide +kernel, ?_⟩
  refine ⟨_, rfl, ?_⟩
  refine ⟨_, rfl, ?_⟩
  refine ⟨_, rfl, ?_⟩
  refine ⟨_, ⟨[], _, h1, by rintro r h ⟨rfl, rfl⟩; exact ⟨.inl rfl, rfl, rfl⟩⟩, ?_⟩
  refine ⟨_, rfl, ?_⟩
  refine ⟨_, ⟨[], _, h2, by rintro r h ⟨rfl, rfl⟩; exact ⟨.inl rfl, rfl, rfl⟩⟩, ?_⟩
  refine ⟨_, rfl, ?_⟩
  rw [b1]
  refine ⟨_, rfl, ?_⟩
  refine ⟨_, rfl, ?_⟩
  refine ⟨_, rfl, ?_⟩
  refine ⟨_, rfl, ?_⟩
  refine ⟨_, ⟨[], _, h3, by rintro r h ⟨rfl, rfl⟩; exact ⟨.inl rfl, rfl, rfl⟩⟩, ?_⟩
  refine ⟨_, rfl, ?_⟩
  refine ⟨_, rfl, ?_⟩
  refine ⟨_, ⟨[], _, h4, by rintro r h ⟨rfl, rfl⟩; exact ⟨.inl rfl, rfl, rfl⟩⟩, ?_⟩
  refine ⟨_, rfl, ?_⟩
  rw [b2]
  refine ⟨_, rfl, ?_⟩
  refine ⟨_, rfl, ?_⟩
  refine ⟨_, rfl, ?_⟩
  refine ⟨_, rfl, ?_⟩
  refine ⟨_, rfl, ?_⟩
  refine ⟨_, ⟨[], _, h5, by rintro r h ⟨rfl, rfl⟩; exact ⟨.inl rfl, rfl, rfl⟩⟩, ?_⟩
  refine ⟨_, rfl, ?_⟩
  refine ⟨_, rfl, ?_⟩
  refine ⟨_, rfl, ?_⟩
  refine ⟨_, ⟨[], _, h6, by rintro r h ⟨rfl, rfl⟩; exact ⟨.inl rfl, rfl, rfl⟩⟩, ?_⟩
  refine ⟨_, rfl, ?_⟩
  rw [v1]
  refine ⟨_, rfl, ?_⟩
  refine ⟨_, rfl, ?_⟩
  refine ⟨_, rfl, ?_⟩
  refine ⟨_, rfl, ?_⟩
  refine ⟨_, ⟨[], _, dfree rfl rfl, h7.args ⟨.refl _, vdot rfl rfl, trivial⟩, by rintro r h ⟨rfl, rfl⟩; exact ⟨.inl rfl, rfl, rfl⟩⟩, ?_⟩
  refine ⟨_, rfl, ?_⟩
  refine ⟨_, rfl, ?_⟩
  refine ⟨_, ⟨[], _, dfree rfl rfl, h8.args ⟨.refl _, vdot rfl rfl, trivial⟩, by rintro r h ⟨rfl, rfl⟩; exact ⟨.inl rfl, rfl, rfl⟩⟩, ?_⟩
  refine ⟨_, rfl, ?_⟩
  rw [b3]
  refine ⟨_, rfl, ?_⟩
  refine ⟨_, rfl, ?_⟩
  refine ⟨_, rfl, ?_⟩
  refine ⟨_, rfl, ?_⟩
  refine ⟨_, ⟨[], _, dfree rfl rfl, h9.args ⟨.refl _, vdot rfl rfl, trivial⟩, by rintro r h ⟨rfl, rfl⟩; exact ⟨.inl rfl, rfl, rfl⟩⟩, ?_⟩
  refine ⟨_, rfl, ?_⟩
  refine ⟨_, rfl, ?_⟩
  refine ⟨_, ⟨[], _, dfree rfl rfl, hw.args ⟨.refl _, vdot rfl rfl, trivial⟩, by rintro r h ⟨rfl, rfl⟩; exact ⟨.inl rfl, rfl, rfl⟩⟩, ?_⟩
  refine ⟨_, ⟨[], _, he, by rintro r h ⟨rfl, rfl⟩; exact ⟨.inl rfl, rfl, rfl⟩⟩, ?_⟩
  refine ⟨_, rfl, ?_⟩
  exact ⟨[], [], .tt, lehN _, .tt, rfl, rfl⟩

set_option maxHeartbeats 8000000 in
set_option maxRecDepth 10000 in
theorem raises_prog (hG : NumG) (v : List (Int × Int)) (a b c e : Int) (hv : v.length ≤ 281474976710656) :
    ACalls Tryd.prog 14 [vecV v, dotV a b, dotV c e] [] (fun r h => r = .tt ∧ h = []) := by
  have g0 := cnt_ok v
  have q1 := uof g0 (a, b)
  have q2 := uof g0 (c, e)
  have w1 := with_prog v a b hv
  have w2 := with_prog v c e hv
  have w3 := with_prog _ c e (of_len (updF (cntF v) (a, b)))
  have w4 := with_prog _ a b (of_len (updF (cntF v) (c, e)))
  rw [q1] at w3
  rw [q2] at w4
  rw [← upd_comm] at w4
  have hA : cntF (ofF (updF (updF (cntF v) (a, b)) (c, e))) = updF (updF (cntF v) (a, b)) (c, e) := cnt_of (upd_ok (upd_ok g0 _) _)
  have s1 := (same_prog _ _ (of_len (updF (updF (cntF v) (a, b)) (c, e))) (of_len (updF (updF (cntF v) (a, b)) (c, e)))).yes (decide_eq_true rfl)
  have s2 := (same_prog _ v (of_len (updF (cntF v) (a, b))) hv).tf
  rw [q1] at s2
  have y1 := (may_vec _ (of_len (updF (updF (cntF v) (a, b)) (c, e)))).yes (decide_eq_true (by rw [hA]))
  have l1 := (leq_prog v _ hv (of_len (updF (updF (cntF v) (a, b)) (c, e)))).yes (decide_eq_true (leq_iff.2 fun r hr => by
    rw [hA]; exact Int.le_trans (upd_ge _ _ _) (upd_ge _ _ _)))
  have k1 := (has_prog v a b hv).tf
  have k2 := (may_ref a b).tf
  have p1 := get_prog _ a (of_len (updF (cntF v) (a, b)))
  have p2 := get_prog v a hv
  have hge := getV_ge v a b a
  have key := upd_same (l := v) (a := a) (b := b)
  generalize getV (ofF (updF (cntF v) (a, b))) a = V1 at *
  generalize getV v a = V2 at *
  generalize ofF (updF (updF (cntF v) (a, b)) (c, e)) = A at *
  generalize ofF (updF (cntF v) (a, b)) = B at *
  generalize ofF (updF (cntF v) (c, e)) = C at *
  have hd := decide_eq_true hge
  clear hge hA q1 q2
  rw [decide_eq_decide.2 key] at s2
  have fin : ∀ {P Q : Prop} [Decidable P] [Decidable Q], decide ((P ∧ Q) ∨ ¬ P) = (decide (P ∧ Q) || !decide P) := by
    intro P Q _ _
    by_cases hp : P <;> by_cases hq : Q <;> simp [hp, hq]
  rw [fin] at s2
  generalize decide (mayD a b ∧ b ≤ V2) = H at *
  generalize decide (mayD a b) = M at *
  clear key
  refine rcalls Tryd.func14 rfl (by decide) ?_
  refine ⟨[], _, awake_vec hG, ?_⟩
  rintro r hh ⟨rfl, rfl⟩
  refine ⟨.inl rfl, ?_⟩
  refine ⟨fun _ => ?_, fun _ => ?_⟩
  · exact ⟨[], [], .tt, lehN _, .tt, rfl, rfl⟩
  refine .inr ⟨5, by decide +kernel, ?_⟩
  refine ⟨_, rfl, ?_⟩
  refine ⟨_, rfl, ?_⟩
  refine ⟨_, ⟨[], _, dfree rfl rfl, w1.args ⟨.refl _, vdot rfl rfl, trivial⟩, by rintro r h ⟨rfl, rfl⟩; exact ⟨.inl rfl, rfl, rfl⟩⟩, ?_⟩
  refine ⟨_, rfl, ?_⟩
  refine ⟨_, ⟨[], _, dfree rfl rfl, w3.args ⟨.refl _, vdot rfl rfl, trivial⟩, by rintro r h ⟨rfl, rfl⟩; exact ⟨.inl rfl, rfl, rfl⟩⟩, ?_⟩
  refine .inr ⟨5, by decide +kernel, ?_⟩
  refine ⟨_, rfl, ?_⟩
  refine ⟨_, rfl, ?_⟩
  refine ⟨_, ⟨[], _, dfree rfl rfl, w2.args ⟨.refl _, vdot rfl rfl, trivial⟩, by rintro r h ⟨rfl, rfl⟩; exact ⟨.inl rfl, rfl, rfl⟩⟩, ?_⟩
  refine ⟨_, rfl, ?_⟩
  refine ⟨_, ⟨[], _, dfree rfl rfl, w4.args ⟨.refl _, vdot rfl rfl, trivial⟩, by rintro r h ⟨rfl, rfl⟩; exact ⟨.inl rfl, rfl, rfl⟩⟩, ?_⟩
  refine ⟨[], _, dfree rfl rfl, w1.args ⟨.refl _, vdot rfl rfl, trivial⟩, ?_⟩
  rintro r hh ⟨rfl, rfl⟩
  refine ⟨.inl rfl, ?_⟩
  refine ⟨[], _, s2, ?_⟩
  rintro r hh ⟨rfl, rfl⟩
  refine ⟨.inl rfl, ?_⟩
  cases H <;> cases M
  all_goals
    refine .inr ⟨40, by decide +kernel, ?_⟩
    refine ⟨_, rfl, ?_⟩
    refine ⟨_, rfl, ?_⟩
    refine ⟨_, rfl, ?_⟩
    refine ⟨_, rfl, ?_⟩
    refine ⟨_, ⟨[], _, s1, by rintro r h ⟨rfl, rfl⟩; exact ⟨.inl rfl, rfl, rfl⟩⟩, ?_⟩
    refine ⟨_, rfl, ?_⟩
    refine ⟨_, rfl, ?_⟩
    refine ⟨_, rfl, ?_⟩
    refine ⟨_, ⟨[], _, y1, by rintro r h ⟨rfl, rfl⟩; exact ⟨.inl rfl, rfl, rfl⟩⟩, ?_⟩
    refine ⟨_, rfl, ?_⟩
    refine ⟨_, rfl, ?_⟩
    refine ⟨_, rfl, ?_⟩
    refine ⟨_, rfl, ?_⟩
    refine ⟨_, ⟨[], _, l1, by rintro r h ⟨rfl, rfl⟩; exact ⟨.inl rfl, rfl, rfl⟩⟩, ?_⟩
    refine ⟨_, rfl, ?_⟩
    refine ⟨_, rfl, ?_⟩
    refine ⟨_, rfl, ?_⟩
    refine ⟨_, rfl, ?_⟩
    refine ⟨_, rfl, ?_⟩
    refine ⟨_, ⟨[], _, dfree rfl rfl, k1.args ⟨.refl _, vdot rfl rfl, trivial⟩, by rintro r h ⟨rfl, rfl⟩; exact ⟨.inl rfl, rfl, rfl⟩⟩, ?_⟩
    refine ⟨_, rfl, ?_⟩
    refine ⟨_, rfl, ?_⟩
    first
      | refine ⟨_, ⟨[], _, dfree rfl rfl, k2.args ⟨vdot rfl rfl, trivial⟩, by rintro r h ⟨rfl, rfl⟩; exact ⟨.inl rfl, rfl, rfl⟩⟩, ?_⟩
      | refine ⟨_, rfl, ?_⟩
    refine ⟨_, rfl, ?_⟩
    refine ⟨_, rfl, ?_⟩
    refine ⟨_, rfl, ?_⟩
    refine ⟨_, rfl, ?_⟩
    refine ⟨_, rfl, ?_⟩
    refine ⟨_, rfl, ?_⟩
    refine ⟨_, rfl, ?_⟩
    refine ⟨_, ⟨[], _, dfree rfl rfl, w1.args ⟨.refl _, vdot rfl rfl, trivial⟩, by rintro r h ⟨rfl, rfl⟩; exact ⟨.inl rfl, rfl, rfl⟩⟩, ?_⟩
    refine ⟨_, rfl, ?_⟩
    refine ⟨_, rfl, ?_⟩
    refine ⟨_, ⟨[], _, p1, by rintro r h ⟨rfl, rfl⟩; exact ⟨.inl rfl, rfl, rfl⟩⟩, ?_⟩
    refine ⟨_, rfl, ?_⟩
    refine ⟨_, rfl, ?_⟩
    refine ⟨_, rfl, ?_⟩
    refine ⟨_, ⟨[], _, p2, by rintro r h ⟨rfl, rfl⟩; exact ⟨.inl rfl, rfl, rfl⟩⟩, ?_⟩
    refine ⟨_, rfl, ?_⟩
    refine ⟨_, rfl, ?_⟩
    exact ⟨[], [], .tt, lehN _, leTT hd, rfl, rfl⟩

end
end Go.Proofs.YtmohncaoimeneaaDoor.Vc
