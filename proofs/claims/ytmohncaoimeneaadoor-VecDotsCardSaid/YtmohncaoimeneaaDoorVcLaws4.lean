/-
  The laws of vectors, walked: VecDots.
-/
import Derived.Test.YtmohncaoimeneaaDoorVcLaws3
set_option linter.unusedVariables false
set_option linter.unusedSectionVars false
namespace Go.Proofs.YtmohncaoimeneaaDoor.Vc
open Go AL Hx Dt Spl

/-- Two dots in a row. -/
abbrev twoV (x y z u : Int) : AV := .agg 4 fun i => [int .i64 x, int .i64 y, int .i64 z, int .i64 u].getD i .top
def hasP (l : List (Int × Int)) (x y : Int) : Prop := mayD x y ∧ y ≤ getV l x
instance (l : List (Int × Int)) (x y : Int) : Decidable (hasP l x y) := by unfold hasP; exact inferInstance
theorem has_iff {l : List (Int × Int)} {x y : Int} : hasP l x y ↔ mayD x y ∧ y ≤ cntF l x.toNat := by
  unfold hasP getV
  constructor
  · rintro ⟨h, h2⟩
    have h' := h
    unfold mayD at h'
    rw [if_neg (by omega)] at h2
    exact ⟨h, h2⟩
  · rintro ⟨h, h2⟩
    have h' := h
    unfold mayD at h'
    rw [if_neg (by omega)]
    exact ⟨h, h2⟩
theorem has_join (a b : List (Int × Int)) (x y : Int) : hasP (ofF (maxF (cntF a) (cntF b))) x y ↔ hasP a x y ∨ hasP b x y := by
  rw [has_iff, has_iff, has_iff, cof (cnt_ok a) (cnt_ok b)]
  simp only [maxF]
  constructor
  · rintro ⟨h, h2⟩
    rcases Int.le_total (cntF a x.toNat) (cntF b x.toNat) with h3 | h3
    · exact .inr ⟨h, by omega⟩
    · exact .inl ⟨h, by omega⟩
  · rintro (⟨h, h2⟩ | ⟨h, h2⟩)
    · exact ⟨h, by omega⟩
    · exact ⟨h, by omega⟩
theorem has_meet (a b : List (Int × Int)) (x y : Int) : hasP (ofF (minF (cntF a) (cntF b))) x y ↔ hasP a x y ∧ hasP b x y := by
  rw [has_iff, has_iff, has_iff, mof (cnt_ok a) (cnt_ok b)]
  simp only [minF]
  constructor
  · rintro ⟨h, h2⟩
    exact ⟨⟨h, by omega⟩, h, by omega⟩
  · rintro ⟨⟨h, h2⟩, _, h3⟩
    exact ⟨h, by omega⟩
theorem has_with (a : List (Int × Int)) (x y z u : Int) : hasP (ofF (updF (cntF a) (x, y))) z u ↔ hasP a z u ∨ (mayD x y ∧ z = x ∧ 1 ≤ u ∧ u ≤ y) := by
  rw [has_iff, has_iff, uof (cnt_ok a)]
  have e : ∀ r, updF (cntF a) (x, y) r = if mayD x y ∧ r = x.toNat then max (cntF a r) y else cntF a r := fun _ => rfl
  rw [e]
  constructor
  · rintro ⟨h, h2⟩
    by_cases hc : mayD x y ∧ z.toNat = x.toNat
    · rw [if_pos hc] at h2
      have h' := h
      have hm := hc.1
      unfold mayD at h' hm
      rcases Int.le_total (cntF a z.toNat) y with h3 | h3
      · exact .inr ⟨hc.1, by omega, by omega, by omega⟩
      · exact .inl ⟨h, by omega⟩
    · rw [if_neg hc] at h2
      exact .inl ⟨h, h2⟩
  · rintro (⟨h, h2⟩ | ⟨hm, rfl, h2, h3⟩)
    · refine ⟨h, ?_⟩
      split <;> omega
    · have h' := hm
      unfold mayD at h'
      refine ⟨by unfold mayD; omega, ?_⟩
      rw [if_pos ⟨hm, rfl⟩]
      omega
theorem dec_or {p q r : Prop} [Decidable p] [Decidable q] [Decidable r] (h : r ↔ p ∨ q) : decide r = (decide p || decide q) := by
  by_cases hp : p <;> by_cases hq : q <;> simp [h, hp, hq]
theorem dec_and {p q r : Prop} [Decidable p] [Decidable q] [Decidable r] (h : r ↔ p ∧ q) : decide r = (decide p && decide q) := by
  by_cases hp : p <;> by_cases hq : q <;> simp [h, hp, hq]

section
variable [Globs]

set_option maxHeartbeats 20000000 in
set_option maxRecDepth 10000 in
theorem dots_prog (hG : NumG) (a b : List (Int × Int)) (x y z u : Int) (ha : a.length ≤ 281474976710656) (hb : b.length ≤ 281474976710656) :
    ACalls Tryd.prog 13 [vecV a, vecV b, twoV x y z u] [] (fun r h => r = .tt ∧ h = []) := by
  have j1 := join_prog a b ha hb
  have m1 := meet_prog a b ha hb
  have w1 := with_prog a x y ha
  have k1 := (has_prog (ofF (maxF (cntF a) (cntF b))) x y (of_len _)).tf
  have k2 := (has_prog a x y ha).tf
  have k3 := (has_prog b x y hb).tf
  have k4 := (has_prog (ofF (minF (cntF a) (cntF b))) x y (of_len _)).tf
  have k5 := (has_prog (ofF (updF (cntF a) (x, y))) x y (of_len _)).tf
  have k6 := (has_prog (ofF (updF (cntF a) (x, y))) z u (of_len _)).tf
  have k7 := (has_prog a z u ha).tf
  have e1 : decide (hasP (ofF (maxF (cntF a) (cntF b))) x y) = _ := dec_or (has_join a b x y)
  have e4 : decide (hasP (ofF (minF (cntF a) (cntF b))) x y) = _ := dec_and (has_meet a b x y)
  have e5 : decide (hasP (ofF (updF (cntF a) (x, y))) x y) = decide (mayD x y) := decide_eq_decide.2 ((has_with a x y x y).trans ⟨fun h => h.elim (fun h => h.1) (fun h => h.1), fun h => .inr ⟨h, rfl, h.2.2.1, Int.le_refl _⟩⟩)
  have e6 : decide (hasP (ofF (updF (cntF a) (x, y))) z u) = (decide (hasP a z u) || (decide (mayD x y) && decide (z = x ∧ 1 ≤ u ∧ u ≤ y))) := by
    rw [dec_or (has_with a x y z u)]
    congr 1
    exact dec_and (Iff.rfl)
  unfold hasP at e1 e4 e5 e6
  rw [e1] at k1
  rw [e4] at k4
  rw [e5] at k5
  rw [e6] at k6
  clear e1 e4 e5 e6
  obtain ⟨E, hE⟩ : ∃ E, decide (z = x ∧ 1 ≤ u ∧ u ≤ y) = E := ⟨_, rfl⟩
  obtain ⟨D, hD⟩ : ∃ D, decide (mayD x y) = D := ⟨_, rfl⟩
  rw [hE, hD] at k6
  rw [hD] at k5
  generalize decide (mayD x y ∧ y ≤ getV a x) = HA at *
  generalize decide (mayD x y ∧ y ≤ getV b x) = HB at *
  generalize decide (mayD z u ∧ u ≤ getV a z) = X2 at *
  generalize ofF (maxF (cntF a) (cntF b)) = J at *
  generalize ofF (minF (cntF a) (cntF b)) = M at *
  generalize ofF (updF (cntF a) (x, y)) = W at *
  refine rcalls Tryd.func13 rfl (by decide) ?_
  refine ⟨[], _, awake_vec hG, ?_⟩
  rintro r hh ⟨rfl, rfl⟩
  refine ⟨.inl rfl, ?_⟩
  refine ⟨⟨by decide, by decide⟩, ?_⟩
  refine ⟨⟨by decide, by decide⟩, ?_⟩
  refine ⟨fun _ => ?_, fun _ => ⟨fun _ => ?_, fun _ => ?_⟩⟩
  · exact ⟨[], [], .tt, lehN _, .tt, rfl, rfl⟩
  · exact ⟨[], [], .tt, lehN _, .tt, rfl, rfl⟩
  refine ⟨[], _, dfree rfl rfl, w1.args ⟨.refl _, vdot rfl rfl, trivial⟩, ?_⟩
  rintro r hh ⟨rfl, rfl⟩
  refine ⟨.inl rfl, ?_⟩
  refine ⟨fun c1 => ⟨fun c2 => ⟨fun c3 => ?_, fun c3 => ?_⟩, fun c2 => ?_⟩, fun c1 => ?_⟩
  · have hd : decide (y ≤ 1099511627776) = D := by
      rw [← hD]
      have := yes c1
      have := yes c2
      have := yes c3
      exact decide_eq_decide.2 ⟨fun h => ⟨by omega, by omega, by omega, by omega⟩, fun h => h.2.2.2⟩
    cases X2
    · cases D
      · refine ⟨[], _, dfree rfl rfl, k6.args ⟨.refl _, vdot rfl rfl, trivial⟩, ?_⟩
        rintro r hh ⟨rfl, rfl⟩
        refine ⟨.inl rfl, ?_⟩
        rw [hd]
        refine ⟨[], _, dfree rfl rfl, k7.args ⟨.refl _, vdot rfl rfl, trivial⟩, ?_⟩
        rintro r hh ⟨rfl, rfl⟩
        refine ⟨.inl rfl, ?_⟩
        refine ⟨fun e => (by cases e), fun _ => ?_⟩
        cases HA <;> cases HB
        all_goals
          refine .inr ⟨45, by decide +kernel, ?_⟩
          refine ⟨_, rfl, ?_⟩
          refine ⟨_, rfl, ?_⟩
          refine ⟨_, rfl, ?_⟩
          refine ⟨_, rfl, ?_⟩
          refine ⟨_, ⟨[], _, j1, by rintro r h ⟨rfl, rfl⟩; exact ⟨.inl rfl, rfl, rfl⟩⟩, ?_⟩
          refine ⟨_, rfl, ?_⟩
          refine ⟨_, ⟨[], _, dfree rfl rfl, k1.args ⟨.refl _, vdot rfl rfl, trivial⟩, by rintro r h ⟨rfl, rfl⟩; exact ⟨.inl rfl, rfl, rfl⟩⟩, ?_⟩
          refine ⟨_, rfl, ?_⟩
          refine ⟨_, rfl, ?_⟩
          refine ⟨_, ⟨[], _, dfree rfl rfl, k2.args ⟨.refl _, vdot rfl rfl, trivial⟩, by rintro r h ⟨rfl, rfl⟩; exact ⟨.inl rfl, rfl, rfl⟩⟩, ?_⟩
          refine ⟨_, rfl, ?_⟩
          refine ⟨_, rfl, ?_⟩
          refine ⟨_, rfl, ?_⟩
          first
            | refine ⟨_, ⟨[], _, dfree rfl rfl, k3.args ⟨.refl _, vdot rfl rfl, trivial⟩, by rintro r h ⟨rfl, rfl⟩; exact ⟨.inl rfl, rfl, rfl⟩⟩, ?_⟩
            | refine ⟨_, rfl, ?_⟩
          refine ⟨_, rfl, ?_⟩
          refine ⟨_, rfl, ?_⟩
          refine ⟨_, rfl, ?_⟩
          refine ⟨_, rfl, ?_⟩
          refine ⟨_, rfl, ?_⟩
          refine ⟨_, rfl, ?_⟩
          refine ⟨_, ⟨[], _, m1, by rintro r h ⟨rfl, rfl⟩; exact ⟨.inl rfl, rfl, rfl⟩⟩, ?_⟩
          refine ⟨_, rfl, ?_⟩
          refine ⟨_, ⟨[], _, dfree rfl rfl, k4.args ⟨.refl _, vdot rfl rfl, trivial⟩, by rintro r h ⟨rfl, rfl⟩; exact ⟨.inl rfl, rfl, rfl⟩⟩, ?_⟩
          refine ⟨_, rfl, ?_⟩
          refine ⟨_, rfl, ?_⟩
          refine ⟨_, ⟨[], _, dfree rfl rfl, k2.args ⟨.refl _, vdot rfl rfl, trivial⟩, by rintro r h ⟨rfl, rfl⟩; exact ⟨.inl rfl, rfl, rfl⟩⟩, ?_⟩
          refine ⟨_, rfl, ?_⟩
          refine ⟨_, rfl, ?_⟩
          refine ⟨_, rfl, ?_⟩
          first
            | refine ⟨_, ⟨[], _, dfree rfl rfl, k3.args ⟨.refl _, vdot rfl rfl, trivial⟩, by rintro r h ⟨rfl, rfl⟩; exact ⟨.inl rfl, rfl, rfl⟩⟩, ?_⟩
            | refine ⟨_, rfl, ?_⟩
          refine ⟨_, rfl, ?_⟩
          refine ⟨_, rfl, ?_⟩
          refine ⟨_, rfl, ?_⟩
          refine ⟨_, rfl, ?_⟩
          refine ⟨_, rfl, ?_⟩
          refine ⟨_, rfl, ?_⟩
          refine ⟨_, ⟨[], _, dfree rfl rfl, k5.args ⟨.refl _, vdot rfl rfl, trivial⟩, by rintro r h ⟨rfl, rfl⟩; exact ⟨.inl rfl, rfl, rfl⟩⟩, ?_⟩
          refine ⟨_, rfl, ?_⟩
          refine ⟨_, rfl, ?_⟩
          refine ⟨_, rfl, ?_⟩
          refine ⟨_, rfl, ?_⟩
          refine ⟨_, rfl, ?_⟩
          refine ⟨_, rfl, ?_⟩
          refine ⟨_, rfl, ?_⟩
          refine ⟨_, rfl, ?_⟩
          exact ⟨[], [], .tt, lehN _, leTT rfl, rfl, rfl⟩
      · cases E
        · have hE := of_decide_eq_false hE
          refine ⟨[], _, dfree rfl rfl, k6.args ⟨.refl _, vdot rfl rfl, trivial⟩, ?_⟩
          rintro r hh ⟨rfl, rfl⟩
          refine ⟨.inl rfl, ?_⟩
          rw [hd]
          refine ⟨[], _, dfree rfl rfl, k7.args ⟨.refl _, vdot rfl rfl, trivial⟩, ?_⟩
          rintro r hh ⟨rfl, rfl⟩
          refine ⟨.inl rfl, ?_⟩
          refine ⟨fun _ => ?_, fun e => (by cases e)⟩
          refine ⟨fun d1 => ⟨fun d2 => ?_, fun d2 => ?_⟩, fun d1 => ?_⟩
          · have he : decide (u ≤ y) = false := decide_eq_false (fun h => hE ⟨yes d1, yes d2, h⟩)
            cases HA <;> cases HB
            all_goals
              refine .inr ⟨45, by decide +kernel, ?_⟩
              rw [he]
              refine ⟨_, rfl, ?_⟩
              refine ⟨_, rfl, ?_⟩
              refine ⟨_, rfl, ?_⟩
              refine ⟨_, rfl, ?_⟩
              refine ⟨_, ⟨[], _, j1, by rintro r h ⟨rfl, rfl⟩; exact ⟨.inl rfl, rfl, rfl⟩⟩, ?_⟩
              refine ⟨_, rfl, ?_⟩
              refine ⟨_, ⟨[], _, dfree rfl rfl, k1.args ⟨.refl _, vdot rfl rfl, trivial⟩, by rintro r h ⟨rfl, rfl⟩; exact ⟨.inl rfl, rfl, rfl⟩⟩, ?_⟩
              refine ⟨_, rfl, ?_⟩
              refine ⟨_, rfl, ?_⟩
              refine ⟨_, ⟨[], _, dfree rfl rfl, k2.args ⟨.refl _, vdot rfl rfl, trivial⟩, by rintro r h ⟨rfl, rfl⟩; exact ⟨.inl rfl, rfl, rfl⟩⟩, ?_⟩
              refine ⟨_, rfl, ?_⟩
              refine ⟨_, rfl, ?_⟩
              refine ⟨_, rfl, ?_⟩
              first
                | refine ⟨_, ⟨[], _, dfree rfl rfl, k3.args ⟨.refl _, vdot rfl rfl, trivial⟩, by rintro r h ⟨rfl, rfl⟩; exact ⟨.inl rfl, rfl, rfl⟩⟩, ?_⟩
                | refine ⟨_, rfl, ?_⟩
              refine ⟨_, rfl, ?_⟩
              refine ⟨_, rfl, ?_⟩
              refine ⟨_, rfl, ?_⟩
              refine ⟨_, rfl, ?_⟩
              refine ⟨_, rfl, ?_⟩
              refine ⟨_, rfl, ?_⟩
              refine ⟨_, ⟨[], _, m1, by rintro r h ⟨rfl, rfl⟩; exact ⟨.inl rfl, rfl, rfl⟩⟩, ?_⟩
              refine ⟨_, rfl, ?_⟩
              refine ⟨_, ⟨[], _, dfree rfl rfl, k4.args ⟨.refl _, vdot rfl rfl, trivial⟩, by rintro r h ⟨rfl, rfl⟩; exact ⟨.inl rfl, rfl, rfl⟩⟩, ?_⟩
              refine ⟨_, rfl, ?_⟩
              refine ⟨_, rfl, ?_⟩
              refine ⟨_, ⟨[], _, dfree rfl rfl, k2.args ⟨.refl _, vdot rfl rfl, trivial⟩, by rintro r h ⟨rfl, rfl⟩; exact ⟨.inl rfl, rfl, rfl⟩⟩, ?_⟩
              refine ⟨_, rfl, ?_⟩
              refine ⟨_, rfl, ?_⟩
              refine ⟨_, rfl, ?_⟩
              first
                | refine ⟨_, ⟨[], _, dfree rfl rfl, k3.args ⟨.refl _, vdot rfl rfl, trivial⟩, by rintro r h ⟨rfl, rfl⟩; exact ⟨.inl rfl, rfl, rfl⟩⟩, ?_⟩
                | refine ⟨_, rfl, ?_⟩
              refine ⟨_, rfl, ?_⟩
              refine ⟨_, rfl, ?_⟩
              refine ⟨_, rfl, ?_⟩
              refine ⟨_, rfl, ?_⟩
              refine ⟨_, rfl, ?_⟩
              refine ⟨_, rfl, ?_⟩
              refine ⟨_, ⟨[], _, dfree rfl rfl, k5.args ⟨.refl _, vdot rfl rfl, trivial⟩, by rintro r h ⟨rfl, rfl⟩; exact ⟨.inl rfl, rfl, rfl⟩⟩, ?_⟩
              refine ⟨_, rfl, ?_⟩
              refine ⟨_, rfl, ?_⟩
              refine ⟨_, rfl, ?_⟩
              refine ⟨_, rfl, ?_⟩
              refine ⟨_, rfl, ?_⟩
              refine ⟨_, rfl, ?_⟩
              refine ⟨_, rfl, ?_⟩
              refine ⟨_, rfl, ?_⟩
              exact ⟨[], [], .tt, lehN _, leTT rfl, rfl, rfl⟩
          · cases HA <;> cases HB
            all_goals
              refine .inr ⟨45, by decide +kernel, ?_⟩
              refine ⟨_, rfl, ?_⟩
              refine ⟨_, rfl, ?_⟩
              refine ⟨_, rfl, ?_⟩
              refine ⟨_, rfl, ?_⟩
              refine ⟨_, ⟨[], _, j1, by rintro r h ⟨rfl, rfl⟩; exact ⟨.inl rfl, rfl, rfl⟩⟩, ?_⟩
              refine ⟨_, rfl, ?_⟩
              refine ⟨_, ⟨[], _, dfree rfl rfl, k1.args ⟨.refl _, vdot rfl rfl, trivial⟩, by rintro r h ⟨rfl, rfl⟩; exact ⟨.inl rfl, rfl, rfl⟩⟩, ?_⟩
              refine ⟨_, rfl, ?_⟩
              refine ⟨_, rfl, ?_⟩
              refine ⟨_, ⟨[], _, dfree rfl rfl, k2.args ⟨.refl _, vdot rfl rfl, trivial⟩, by rintro r h ⟨rfl, rfl⟩; exact ⟨.inl rfl, rfl, rfl⟩⟩, ?_⟩
              refine ⟨_, rfl, ?_⟩
              refine ⟨_, rfl, ?_⟩
              refine ⟨_, rfl, ?_⟩
              first
                | refine ⟨_, ⟨[], _, dfree rfl rfl, k3.args ⟨.refl _, vdot rfl rfl, trivial⟩, by rintro r h ⟨rfl, rfl⟩; exact ⟨.inl rfl, rfl, rfl⟩⟩, ?_⟩
                | refine ⟨_, rfl, ?_⟩
              refine ⟨_, rfl, ?_⟩
              refine ⟨_, rfl, ?_⟩
              refine ⟨_, rfl, ?_⟩
              refine ⟨_, rfl, ?_⟩
              refine ⟨_, rfl, ?_⟩
              refine ⟨_, rfl, ?_⟩
              refine ⟨_, ⟨[], _, m1, by rintro r h ⟨rfl, rfl⟩; exact ⟨.inl rfl, rfl, rfl⟩⟩, ?_⟩
              refine ⟨_, rfl, ?_⟩
              refine ⟨_, ⟨[], _, dfree rfl rfl, k4.args ⟨.refl _, vdot rfl rfl, trivial⟩, by rintro r h ⟨rfl, rfl⟩; exact ⟨.inl rfl, rfl, rfl⟩⟩, ?_⟩
              refine ⟨_, rfl, ?_⟩
              refine ⟨_, rfl, ?_⟩
              refine ⟨_, ⟨[], _, dfree rfl rfl, k2.args ⟨.refl _, vdot rfl rfl, trivial⟩, by rintro r h ⟨rfl, rfl⟩; exact ⟨.inl rfl, rfl, rfl⟩⟩, ?_⟩
              refine ⟨_, rfl, ?_⟩
              refine ⟨_, rfl, ?_⟩
              refine ⟨_, rfl, ?_⟩
              first
                | refine ⟨_, ⟨[], _, dfree rfl rfl, k3.args ⟨.refl _, vdot rfl rfl, trivial⟩, by rintro r h ⟨rfl, rfl⟩; exact ⟨.inl rfl, rfl, rfl⟩⟩, ?_⟩
                | refine ⟨_, rfl, ?_⟩
              refine ⟨_, rfl, ?_⟩
              refine ⟨_, rfl, ?_⟩
              refine ⟨_, rfl, ?_⟩
              refine ⟨_, rfl, ?_⟩
              refine ⟨_, rfl, ?_⟩
              refine ⟨_, rfl, ?_⟩
              refine ⟨_, ⟨[], _, dfree rfl rfl, k5.args ⟨.refl _, vdot rfl rfl, trivial⟩, by rintro r h ⟨rfl, rfl⟩; exact ⟨.inl rfl, rfl, rfl⟩⟩, ?_⟩
              refine ⟨_, rfl, ?_⟩
              refine ⟨_, rfl, ?_⟩
              refine ⟨_, rfl, ?_⟩
              refine ⟨_, rfl, ?_⟩
              refine ⟨_, rfl, ?_⟩
              refine ⟨_, rfl, ?_⟩
              refine ⟨_, rfl, ?_⟩
              refine ⟨_, rfl, ?_⟩
              exact ⟨[], [], .tt, lehN _, leTT rfl, rfl, rfl⟩
          · cases HA <;> cases HB
            all_goals
              refine .inr ⟨45, by decide +kernel, ?_⟩
              refine ⟨_, rfl, ?_⟩
              refine ⟨_, rfl, ?_⟩
              refine ⟨_, rfl, ?_⟩
              refine ⟨_, rfl, ?_⟩
              refine ⟨_, ⟨[], _, j1, by rintro r h ⟨rfl, rfl⟩; exact ⟨.inl rfl, rfl, rfl⟩⟩, ?_⟩
              refine ⟨_, rfl, ?_⟩
              refine ⟨_, ⟨[], _, dfree rfl rfl, k1.args ⟨.refl _, vdot rfl rfl, trivial⟩, by rintro r h ⟨rfl, rfl⟩; exact ⟨.inl rfl, rfl, rfl⟩⟩, ?_⟩
              refine ⟨_, rfl, ?_⟩
              refine ⟨_, rfl, ?_⟩
              refine ⟨_, ⟨[], _, dfree rfl rfl, k2.args ⟨.refl _, vdot rfl rfl, trivial⟩, by rintro r h ⟨rfl, rfl⟩; exact ⟨.inl rfl, rfl, rfl⟩⟩, ?_⟩
              refine ⟨_, rfl, ?_⟩
              refine ⟨_, rfl, ?_⟩
              refine ⟨_, rfl, ?_⟩
              first
                | refine ⟨_, ⟨[], _, dfree rfl rfl, k3.args ⟨.refl _, vdot rfl rfl, trivial⟩, by rintro r h ⟨rfl, rfl⟩; exact ⟨.inl rfl, rfl, rfl⟩⟩, ?_⟩
                | refine ⟨_, rfl, ?_⟩
              refine ⟨_, rfl, ?_⟩
              refine ⟨_, rfl, ?_⟩
              refine ⟨_, rfl, ?_⟩
              refine ⟨_, rfl, ?_⟩
              refine ⟨_, rfl, ?_⟩
              refine ⟨_, rfl, ?_⟩
              refine ⟨_, ⟨[], _, m1, by rintro r h ⟨rfl, rfl⟩; exact ⟨.inl rfl, rfl, rfl⟩⟩, ?_⟩
              refine ⟨_, rfl, ?_⟩
              refine ⟨_, ⟨[], _, dfree rfl rfl, k4.args ⟨.refl _, vdot rfl rfl, trivial⟩, by rintro r h ⟨rfl, rfl⟩; exact ⟨.inl rfl, rfl, rfl⟩⟩, ?_⟩
              refine ⟨_, rfl, ?_⟩
              refine ⟨_, rfl, ?_⟩
              refine ⟨_, ⟨[], _, dfree rfl rfl, k2.args ⟨.refl _, vdot rfl rfl, trivial⟩, by rintro r h ⟨rfl, rfl⟩; exact ⟨.inl rfl, rfl, rfl⟩⟩, ?_⟩
              refine ⟨_, rfl, ?_⟩
              refine ⟨_, rfl, ?_⟩
              refine ⟨_, rfl, ?_⟩
              first
                | refine ⟨_, ⟨[], _, dfree rfl rfl, k3.args ⟨.refl _, vdot rfl rfl, trivial⟩, by rintro r h ⟨rfl, rfl⟩; exact ⟨.inl rfl, rfl, rfl⟩⟩, ?_⟩
                | refine ⟨_, rfl, ?_⟩
              refine ⟨_, rfl, ?_⟩
              refine ⟨_, rfl, ?_⟩
              refine ⟨_, rfl, ?_⟩
              refine ⟨_, rfl, ?_⟩
              refine ⟨_, rfl, ?_⟩
              refine ⟨_, rfl, ?_⟩
              refine ⟨_, ⟨[], _, dfree rfl rfl, k5.args ⟨.refl _, vdot rfl rfl, trivial⟩, by rintro r h ⟨rfl, rfl⟩; exact ⟨.inl rfl, rfl, rfl⟩⟩, ?_⟩
              refine ⟨_, rfl, ?_⟩
              refine ⟨_, rfl, ?_⟩
              refine ⟨_, rfl, ?_⟩
              refine ⟨_, rfl, ?_⟩
              refine ⟨_, rfl, ?_⟩
              refine ⟨_, rfl, ?_⟩
              refine ⟨_, rfl, ?_⟩
              refine ⟨_, rfl, ?_⟩
              exact ⟨[], [], .tt, lehN _, leTT rfl, rfl, rfl⟩
        · have hE := of_decide_eq_true hE
          refine ⟨[], _, dfree rfl rfl, k6.args ⟨.refl _, vdot rfl rfl, trivial⟩, ?_⟩
          rintro r hh ⟨rfl, rfl⟩
          refine ⟨.inl rfl, ?_⟩
          rw [hd]
          refine ⟨[], _, dfree rfl rfl, k7.args ⟨.refl _, vdot rfl rfl, trivial⟩, ?_⟩
          rintro r hh ⟨rfl, rfl⟩
          refine ⟨.inl rfl, ?_⟩
          refine ⟨fun _ => ?_, fun e => (by cases e)⟩
          refine ⟨fun d1 => ⟨fun d2 => ?_, fun d2 => absurd hE.2.1 (no d2)⟩, fun d1 => absurd hE.1 (no d1)⟩
          have he : decide (u ≤ y) = true := decide_eq_true hE.2.2
          cases HA <;> cases HB
          all_goals
            refine .inr ⟨45, by decide +kernel, ?_⟩
            rw [he]
            refine ⟨_, rfl, ?_⟩
            refine ⟨_, rfl, ?_⟩
            refine ⟨_, rfl, ?_⟩
            refine ⟨_, rfl, ?_⟩
            refine ⟨_, ⟨[], _, j1, by rintro r h ⟨rfl, rfl⟩; exact ⟨.inl rfl, rfl, rfl⟩⟩, ?_⟩
            refine ⟨_, rfl, ?_⟩
            refine ⟨_, ⟨[], _, dfree rfl rfl, k1.args ⟨.refl _, vdot rfl rfl, trivial⟩, by rintro r h ⟨rfl, rfl⟩; exact ⟨.inl rfl, rfl, rfl⟩⟩, ?_⟩
            refine ⟨_, rfl, ?_⟩
            refine ⟨_, rfl, ?_⟩
            refine ⟨_, ⟨[], _, dfree rfl rfl, k2.args ⟨.refl _, vdot rfl rfl, trivial⟩, by rintro r h ⟨rfl, rfl⟩; exact ⟨.inl rfl, rfl, rfl⟩⟩, ?_⟩
            refine ⟨_, rfl, ?_⟩
            refine ⟨_, rfl, ?_⟩
            refine ⟨_, rfl, ?_⟩
            first
              | refine ⟨_, ⟨[], _, dfree rfl rfl, k3.args ⟨.refl _, vdot rfl rfl, trivial⟩, by rintro r h ⟨rfl, rfl⟩; exact ⟨.inl rfl, rfl, rfl⟩⟩, ?_⟩
              | refine ⟨_, rfl, ?_⟩
            refine ⟨_, rfl, ?_⟩
            refine ⟨_, rfl, ?_⟩
            refine ⟨_, rfl, ?_⟩
            refine ⟨_, rfl, ?_⟩
            refine ⟨_, rfl, ?_⟩
            refine ⟨_, rfl, ?_⟩
            refine ⟨_, ⟨[], _, m1, by rintro r h ⟨rfl, rfl⟩; exact ⟨.inl rfl, rfl, rfl⟩⟩, ?_⟩
            refine ⟨_, rfl, ?_⟩
            refine ⟨_, ⟨[], _, dfree rfl rfl, k4.args ⟨.refl _, vdot rfl rfl, trivial⟩, by rintro r h ⟨rfl, rfl⟩; exact ⟨.inl rfl, rfl, rfl⟩⟩, ?_⟩
            refine ⟨_, rfl, ?_⟩
            refine ⟨_, rfl, ?_⟩
            refine ⟨_, ⟨[], _, dfree rfl rfl, k2.args ⟨.refl _, vdot rfl rfl, trivial⟩, by rintro r h ⟨rfl, rfl⟩; exact ⟨.inl rfl, rfl, rfl⟩⟩, ?_⟩
            refine ⟨_, rfl, ?_⟩
            refine ⟨_, rfl, ?_⟩
            refine ⟨_, rfl, ?_⟩
            first
              | refine ⟨_, ⟨[], _, dfree rfl rfl, k3.args ⟨.refl _, vdot rfl rfl, trivial⟩, by rintro r h ⟨rfl, rfl⟩; exact ⟨.inl rfl, rfl, rfl⟩⟩, ?_⟩
              | refine ⟨_, rfl, ?_⟩
            refine ⟨_, rfl, ?_⟩
            refine ⟨_, rfl, ?_⟩
            refine ⟨_, rfl, ?_⟩
            refine ⟨_, rfl, ?_⟩
            refine ⟨_, rfl, ?_⟩
            refine ⟨_, rfl, ?_⟩
            refine ⟨_, ⟨[], _, dfree rfl rfl, k5.args ⟨.refl _, vdot rfl rfl, trivial⟩, by rintro r h ⟨rfl, rfl⟩; exact ⟨.inl rfl, rfl, rfl⟩⟩, ?_⟩
            refine ⟨_, rfl, ?_⟩
            refine ⟨_, rfl, ?_⟩
            refine ⟨_, rfl, ?_⟩
            refine ⟨_, rfl, ?_⟩
            refine ⟨_, rfl, ?_⟩
            refine ⟨_, rfl, ?_⟩
            refine ⟨_, rfl, ?_⟩
            refine ⟨_, rfl, ?_⟩
            exact ⟨[], [], .tt, lehN _, leTT rfl, rfl, rfl⟩
    · cases D
      · refine ⟨[], _, dfree rfl rfl, k6.args ⟨.refl _, vdot rfl rfl, trivial⟩, ?_⟩
        rintro r hh ⟨rfl, rfl⟩
        refine ⟨.inl rfl, ?_⟩
        rw [hd]
        refine ⟨[], _, dfree rfl rfl, k7.args ⟨.refl _, vdot rfl rfl, trivial⟩, ?_⟩
        rintro r hh ⟨rfl, rfl⟩
        refine ⟨.inl rfl, ?_⟩
        cases HA <;> cases HB
        all_goals
          refine .inr ⟨45, by decide +kernel, ?_⟩
          refine ⟨_, rfl, ?_⟩
          refine ⟨_, rfl, ?_⟩
          refine ⟨_, rfl, ?_⟩
          refine ⟨_, rfl, ?_⟩
          refine ⟨_, ⟨[], _, j1, by rintro r h ⟨rfl, rfl⟩; exact ⟨.inl rfl, rfl, rfl⟩⟩, ?_⟩
          refine ⟨_, rfl, ?_⟩
          refine ⟨_, ⟨[], _, dfree rfl rfl, k1.args ⟨.refl _, vdot rfl rfl, trivial⟩, by rintro r h ⟨rfl, rfl⟩; exact ⟨.inl rfl, rfl, rfl⟩⟩, ?_⟩
          refine ⟨_, rfl, ?_⟩
          refine ⟨_, rfl, ?_⟩
          refine ⟨_, ⟨[], _, dfree rfl rfl, k2.args ⟨.refl _, vdot rfl rfl, trivial⟩, by rintro r h ⟨rfl, rfl⟩; exact ⟨.inl rfl, rfl, rfl⟩⟩, ?_⟩
          refine ⟨_, rfl, ?_⟩
          refine ⟨_, rfl, ?_⟩
          refine ⟨_, rfl, ?_⟩
          first
            | refine ⟨_, ⟨[], _, dfree rfl rfl, k3.args ⟨.refl _, vdot rfl rfl, trivial⟩, by rintro r h ⟨rfl, rfl⟩; exact ⟨.inl rfl, rfl, rfl⟩⟩, ?_⟩
            | refine ⟨_, rfl, ?_⟩
          refine ⟨_, rfl, ?_⟩
          refine ⟨_, rfl, ?_⟩
          refine ⟨_, rfl, ?_⟩
          refine ⟨_, rfl, ?_⟩
          refine ⟨_, rfl, ?_⟩
          refine ⟨_, rfl, ?_⟩
          refine ⟨_, ⟨[], _, m1, by rintro r h ⟨rfl, rfl⟩; exact ⟨.inl rfl, rfl, rfl⟩⟩, ?_⟩
          refine ⟨_, rfl, ?_⟩
          refine ⟨_, ⟨[], _, dfree rfl rfl, k4.args ⟨.refl _, vdot rfl rfl, trivial⟩, by rintro r h ⟨rfl, rfl⟩; exact ⟨.inl rfl, rfl, rfl⟩⟩, ?_⟩
          refine ⟨_, rfl, ?_⟩
          refine ⟨_, rfl, ?_⟩
          refine ⟨_, ⟨[], _, dfree rfl rfl, k2.args ⟨.refl _, vdot rfl rfl, trivial⟩, by rintro r h ⟨rfl, rfl⟩; exact ⟨.inl rfl, rfl, rfl⟩⟩, ?_⟩
          refine ⟨_, rfl, ?_⟩
          refine ⟨_, rfl, ?_⟩
          refine ⟨_, rfl, ?_⟩
          first
            | refine ⟨_, ⟨[], _, dfree rfl rfl, k3.args ⟨.refl _, vdot rfl rfl, trivial⟩, by rintro r h ⟨rfl, rfl⟩; exact ⟨.inl rfl, rfl, rfl⟩⟩, ?_⟩
            | refine ⟨_, rfl, ?_⟩
          refine ⟨_, rfl, ?_⟩
          refine ⟨_, rfl, ?_⟩
          refine ⟨_, rfl, ?_⟩
          refine ⟨_, rfl, ?_⟩
          refine ⟨_, rfl, ?_⟩
          refine ⟨_, rfl, ?_⟩
          refine ⟨_, ⟨[], _, dfree rfl rfl, k5.args ⟨.refl _, vdot rfl rfl, trivial⟩, by rintro r h ⟨rfl, rfl⟩; exact ⟨.inl rfl, rfl, rfl⟩⟩, ?_⟩
          refine ⟨_, rfl, ?_⟩
          refine ⟨_, rfl, ?_⟩
          refine ⟨_, rfl, ?_⟩
          refine ⟨_, rfl, ?_⟩
          refine ⟨_, rfl, ?_⟩
          refine ⟨_, rfl, ?_⟩
          refine ⟨_, rfl, ?_⟩
          refine ⟨_, rfl, ?_⟩
          exact ⟨[], [], .tt, lehN _, leTT rfl, rfl, rfl⟩
      · refine ⟨[], _, dfree rfl rfl, k6.args ⟨.refl _, vdot rfl rfl, trivial⟩, ?_⟩
        rintro r hh ⟨rfl, rfl⟩
        refine ⟨.inl rfl, ?_⟩
        rw [hd]
        refine ⟨[], _, dfree rfl rfl, k7.args ⟨.refl _, vdot rfl rfl, trivial⟩, ?_⟩
        rintro r hh ⟨rfl, rfl⟩
        refine ⟨.inl rfl, ?_⟩
        cases HA <;> cases HB
        all_goals
          refine .inr ⟨45, by decide +kernel, ?_⟩
          refine ⟨_, rfl, ?_⟩
          refine ⟨_, rfl, ?_⟩
          refine ⟨_, rfl, ?_⟩
          refine ⟨_, rfl, ?_⟩
          refine ⟨_, ⟨[], _, j1, by rintro r h ⟨rfl, rfl⟩; exact ⟨.inl rfl, rfl, rfl⟩⟩, ?_⟩
          refine ⟨_, rfl, ?_⟩
          refine ⟨_, ⟨[], _, dfree rfl rfl, k1.args ⟨.refl _, vdot rfl rfl, trivial⟩, by rintro r h ⟨rfl, rfl⟩; exact ⟨.inl rfl, rfl, rfl⟩⟩, ?_⟩
          refine ⟨_, rfl, ?_⟩
          refine ⟨_, rfl, ?_⟩
          refine ⟨_, ⟨[], _, dfree rfl rfl, k2.args ⟨.refl _, vdot rfl rfl, trivial⟩, by rintro r h ⟨rfl, rfl⟩; exact ⟨.inl rfl, rfl, rfl⟩⟩, ?_⟩
          refine ⟨_, rfl, ?_⟩
          refine ⟨_, rfl, ?_⟩
          refine ⟨_, rfl, ?_⟩
          first
            | refine ⟨_, ⟨[], _, dfree rfl rfl, k3.args ⟨.refl _, vdot rfl rfl, trivial⟩, by rintro r h ⟨rfl, rfl⟩; exact ⟨.inl rfl, rfl, rfl⟩⟩, ?_⟩
            | refine ⟨_, rfl, ?_⟩
          refine ⟨_, rfl, ?_⟩
          refine ⟨_, rfl, ?_⟩
          refine ⟨_, rfl, ?_⟩
          refine ⟨_, rfl, ?_⟩
          refine ⟨_, rfl, ?_⟩
          refine ⟨_, rfl, ?_⟩
          refine ⟨_, ⟨[], _, m1, by rintro r h ⟨rfl, rfl⟩; exact ⟨.inl rfl, rfl, rfl⟩⟩, ?_⟩
          refine ⟨_, rfl, ?_⟩
          refine ⟨_, ⟨[], _, dfree rfl rfl, k4.args ⟨.refl _, vdot rfl rfl, trivial⟩, by rintro r h ⟨rfl, rfl⟩; exact ⟨.inl rfl, rfl, rfl⟩⟩, ?_⟩
          refine ⟨_, rfl, ?_⟩
          refine ⟨_, rfl, ?_⟩
          refine ⟨_, ⟨[], _, dfree rfl rfl, k2.args ⟨.refl _, vdot rfl rfl, trivial⟩, by rintro r h ⟨rfl, rfl⟩; exact ⟨.inl rfl, rfl, rfl⟩⟩, ?_⟩
          refine ⟨_, rfl, ?_⟩
          refine ⟨_, rfl, ?_⟩
          refine ⟨_, rfl, ?_⟩
          first
            | refine ⟨_, ⟨[], _, dfree rfl rfl, k3.args ⟨.refl _, vdot rfl rfl, trivial⟩, by rintro r h ⟨rfl, rfl⟩; exact ⟨.inl rfl, rfl, rfl⟩⟩, ?_⟩
            | refine ⟨_, rfl, ?_⟩
          refine ⟨_, rfl, ?_⟩
          refine ⟨_, rfl, ?_⟩
          refine ⟨_, rfl, ?_⟩
          refine ⟨_, rfl, ?_⟩
          refine ⟨_, rfl, ?_⟩
          refine ⟨_, rfl, ?_⟩
          refine ⟨_, ⟨[], _, dfree rfl rfl, k5.args ⟨.refl _, vdot rfl rfl, trivial⟩, by rintro r h ⟨rfl, rfl⟩; exact ⟨.inl rfl, rfl, rfl⟩⟩, ?_⟩
          refine ⟨_, rfl, ?_⟩
          refine ⟨_, rfl, ?_⟩
          refine ⟨_, rfl, ?_⟩
          refine ⟨_, rfl, ?_⟩
          refine ⟨_, rfl, ?_⟩
          refine ⟨_, rfl, ?_⟩
          refine ⟨_, rfl, ?_⟩
          refine ⟨_, rfl, ?_⟩
          exact ⟨[], [], .tt, lehN _, leTT rfl, rfl, rfl⟩
  · obtain rfl : D = false := by rw [← hD]; have := no c3; exact decide_eq_false (fun h => by unfold mayD at h; omega)
    cases X2
    · refine ⟨[], _, dfree rfl rfl, k6.args ⟨.refl _, vdot rfl rfl, trivial⟩, ?_⟩
      rintro r hh ⟨rfl, rfl⟩
      refine ⟨.inl rfl, ?_⟩
      refine ⟨[], _, dfree rfl rfl, k7.args ⟨.refl _, vdot rfl rfl, trivial⟩, ?_⟩
      rintro r hh ⟨rfl, rfl⟩
      refine ⟨.inl rfl, ?_⟩
      cases HA <;> cases HB
      all_goals
        refine .inr ⟨45, by decide +kernel, ?_⟩
        refine ⟨_, rfl, ?_⟩
        refine ⟨_, rfl, ?_⟩
        refine ⟨_, rfl, ?_⟩
        refine ⟨_, rfl, ?_⟩
        refine ⟨_, ⟨[], _, j1, by rintro r h ⟨rfl, rfl⟩; exact ⟨.inl rfl, rfl, rfl⟩⟩, ?_⟩
        refine ⟨_, rfl, ?_⟩
        refine ⟨_, ⟨[], _, dfree rfl rfl, k1.args ⟨.refl _, vdot rfl rfl, trivial⟩, by rintro r h ⟨rfl, rfl⟩; exact ⟨.inl rfl, rfl, rfl⟩⟩, ?_⟩
        refine ⟨_, rfl, ?_⟩
        refine ⟨_, rfl, ?_⟩
        refine ⟨_, ⟨[], _, dfree rfl rfl, k2.args ⟨.refl _, vdot rfl rfl, trivial⟩, by rintro r h ⟨rfl, rfl⟩; exact ⟨.inl rfl, rfl, rfl⟩⟩, ?_⟩
        refine ⟨_, rfl, ?_⟩
        refine ⟨_, rfl, ?_⟩
        refine ⟨_, rfl, ?_⟩
        first
          | refine ⟨_, ⟨[], _, dfree rfl rfl, k3.args ⟨.refl _, vdot rfl rfl, trivial⟩, by rintro r h ⟨rfl, rfl⟩; exact ⟨.inl rfl, rfl, rfl⟩⟩, ?_⟩
          | refine ⟨_, rfl, ?_⟩
        refine ⟨_, rfl, ?_⟩
        refine ⟨_, rfl, ?_⟩
        refine ⟨_, rfl, ?_⟩
        refine ⟨_, rfl, ?_⟩
        refine ⟨_, rfl, ?_⟩
        refine ⟨_, rfl, ?_⟩
        refine ⟨_, ⟨[], _, m1, by rintro r h ⟨rfl, rfl⟩; exact ⟨.inl rfl, rfl, rfl⟩⟩, ?_⟩
        refine ⟨_, rfl, ?_⟩
        refine ⟨_, ⟨[], _, dfree rfl rfl, k4.args ⟨.refl _, vdot rfl rfl, trivial⟩, by rintro r h ⟨rfl, rfl⟩; exact ⟨.inl rfl, rfl, rfl⟩⟩, ?_⟩
        refine ⟨_, rfl, ?_⟩
        refine ⟨_, rfl, ?_⟩
        refine ⟨_, ⟨[], _, dfree rfl rfl, k2.args ⟨.refl _, vdot rfl rfl, trivial⟩, by rintro r h ⟨rfl, rfl⟩; exact ⟨.inl rfl, rfl, rfl⟩⟩, ?_⟩
        refine ⟨_, rfl, ?_⟩
        refine ⟨_, rfl, ?_⟩
        refine ⟨_, rfl, ?_⟩
        first
          | refine ⟨_, ⟨[], _, dfree rfl rfl, k3.args ⟨.refl _, vdot rfl rfl, trivial⟩, by rintro r h ⟨rfl, rfl⟩; exact ⟨.inl rfl, rfl, rfl⟩⟩, ?_⟩
          | refine ⟨_, rfl, ?_⟩
        refine ⟨_, rfl, ?_⟩
        refine ⟨_, rfl, ?_⟩
        refine ⟨_, rfl, ?_⟩
        refine ⟨_, rfl, ?_⟩
        refine ⟨_, rfl, ?_⟩
        refine ⟨_, rfl, ?_⟩
        refine ⟨_, ⟨[], _, dfree rfl rfl, k5.args ⟨.refl _, vdot rfl rfl, trivial⟩, by rintro r h ⟨rfl, rfl⟩; exact ⟨.inl rfl, rfl, rfl⟩⟩, ?_⟩
        refine ⟨_, rfl, ?_⟩
        refine ⟨_, rfl, ?_⟩
        refine ⟨_, rfl, ?_⟩
        refine ⟨_, rfl, ?_⟩
        refine ⟨_, rfl, ?_⟩
        refine ⟨_, rfl, ?_⟩
        refine ⟨_, rfl, ?_⟩
        refine ⟨_, rfl, ?_⟩
        exact ⟨[], [], .tt, lehN _, leTT rfl, rfl, rfl⟩
    · refine ⟨[], _, dfree rfl rfl, k6.args ⟨.refl _, vdot rfl rfl, trivial⟩, ?_⟩
      rintro r hh ⟨rfl, rfl⟩
      refine ⟨.inl rfl, ?_⟩
      refine ⟨[], _, dfree rfl rfl, k7.args ⟨.refl _, vdot rfl rfl, trivial⟩, ?_⟩
      rintro r hh ⟨rfl, rfl⟩
      refine ⟨.inl rfl, ?_⟩
      cases HA <;> cases HB
      all_goals
        refine .inr ⟨45, by decide +kernel, ?_⟩
        refine ⟨_, rfl, ?_⟩
        refine ⟨_, rfl, ?_⟩
        refine ⟨_, rfl, ?_⟩
        refine ⟨_, rfl, ?_⟩
        refine ⟨_, ⟨[], _, j1, by rintro r h ⟨rfl, rfl⟩; exact ⟨.inl rfl, rfl, rfl⟩⟩, ?_⟩
        refine ⟨_, rfl, ?_⟩
        refine ⟨_, ⟨[], _, dfree rfl rfl, k1.args ⟨.refl _, vdot rfl rfl, trivial⟩, by rintro r h ⟨rfl, rfl⟩; exact ⟨.inl rfl, rfl, rfl⟩⟩, ?_⟩
        refine ⟨_, rfl, ?_⟩
        refine ⟨_, rfl, ?_⟩
        refine ⟨_, ⟨[], _, dfree rfl rfl, k2.args ⟨.refl _, vdot rfl rfl, trivial⟩, by rintro r h ⟨rfl, rfl⟩; exact ⟨.inl rfl, rfl, rfl⟩⟩, ?_⟩
        refine ⟨_, rfl, ?_⟩
        refine ⟨_, rfl, ?_⟩
        refine ⟨_, rfl, ?_⟩
        first
          | refine ⟨_, ⟨[], _, dfree rfl rfl, k3.args ⟨.refl _, vdot rfl rfl, trivial⟩, by rintro r h ⟨rfl, rfl⟩; exact ⟨.inl rfl, rfl, rfl⟩⟩, ?_⟩
          | refine ⟨_, rfl, ?_⟩
        refine ⟨_, rfl, ?_⟩
        refine ⟨_, rfl, ?_⟩
        refine ⟨_, rfl, ?_⟩
        refine ⟨_, rfl, ?_⟩
        refine ⟨_, rfl, ?_⟩
        refine ⟨_, rfl, ?_⟩
        refine ⟨_, ⟨[], _, m1, by rintro r h ⟨rfl, rfl⟩; exact ⟨.inl rfl, rfl, rfl⟩⟩, ?_⟩
        refine ⟨_, rfl, ?_⟩
        refine ⟨_, ⟨[], _, dfree rfl rfl, k4.args ⟨.refl _, vdot rfl rfl, trivial⟩, by rintro r h ⟨rfl, rfl⟩; exact ⟨.inl rfl, rfl, rfl⟩⟩, ?_⟩
        refine ⟨_, rfl, ?_⟩
        refine ⟨_, rfl, ?_⟩
        refine ⟨_, ⟨[], _, dfree rfl rfl, k2.args ⟨.refl _, vdot rfl rfl, trivial⟩, by rintro r h ⟨rfl, rfl⟩; exact ⟨.inl rfl, rfl, rfl⟩⟩, ?_⟩
        refine ⟨_, rfl, ?_⟩
        refine ⟨_, rfl, ?_⟩
        refine ⟨_, rfl, ?_⟩
        first
          | refine ⟨_, ⟨[], _, dfree rfl rfl, k3.args ⟨.refl _, vdot rfl rfl, trivial⟩, by rintro r h ⟨rfl, rfl⟩; exact ⟨.inl rfl, rfl, rfl⟩⟩, ?_⟩
          | refine ⟨_, rfl, ?_⟩
        refine ⟨_, rfl, ?_⟩
        refine ⟨_, rfl, ?_⟩
        refine ⟨_, rfl, ?_⟩
        refine ⟨_, rfl, ?_⟩
        refine ⟨_, rfl, ?_⟩
        refine ⟨_, rfl, ?_⟩
        refine ⟨_, ⟨[], _, dfree rfl rfl, k5.args ⟨.refl _, vdot rfl rfl, trivial⟩, by rintro r h ⟨rfl, rfl⟩; exact ⟨.inl rfl, rfl, rfl⟩⟩, ?_⟩
        refine ⟨_, rfl, ?_⟩
        refine ⟨_, rfl, ?_⟩
        refine ⟨_, rfl, ?_⟩
        refine ⟨_, rfl, ?_⟩
        refine ⟨_, rfl, ?_⟩
        refine ⟨_, rfl, ?_⟩
        refine ⟨_, rfl, ?_⟩
        refine ⟨_, rfl, ?_⟩
        exact ⟨[], [], .tt, lehN _, leTT rfl, rfl, rfl⟩
  · obtain rfl : D = false := by rw [← hD]; have := no c2; exact decide_eq_false (fun h => by unfold mayD at h; omega)
    cases X2
    · refine ⟨[], _, dfree rfl rfl, k6.args ⟨.refl _, vdot rfl rfl, trivial⟩, ?_⟩
      rintro r hh ⟨rfl, rfl⟩
      refine ⟨.inl rfl, ?_⟩
      refine ⟨[], _, dfree rfl rfl, k7.args ⟨.refl _, vdot rfl rfl, trivial⟩, ?_⟩
      rintro r hh ⟨rfl, rfl⟩
      refine ⟨.inl rfl, ?_⟩
      cases HA <;> cases HB
      all_goals
        refine .inr ⟨45, by decide +kernel, ?_⟩
        refine ⟨_, rfl, ?_⟩
        refine ⟨_, rfl, ?_⟩
        refine ⟨_, rfl, ?_⟩
        refine ⟨_, rfl, ?_⟩
        refine ⟨_, ⟨[], _, j1, by rintro r h ⟨rfl, rfl⟩; exact ⟨.inl rfl, rfl, rfl⟩⟩, ?_⟩
        refine ⟨_, rfl, ?_⟩
        refine ⟨_, ⟨[], _, dfree rfl rfl, k1.args ⟨.refl _, vdot rfl rfl, trivial⟩, by rintro r h ⟨rfl, rfl⟩; exact ⟨.inl rfl, rfl, rfl⟩⟩, ?_⟩
        refine ⟨_, rfl, ?_⟩
        refine ⟨_, rfl, ?_⟩
        refine ⟨_, ⟨[], _, dfree rfl rfl, k2.args ⟨.refl _, vdot rfl rfl, trivial⟩, by rintro r h ⟨rfl, rfl⟩; exact ⟨.inl rfl, rfl, rfl⟩⟩, ?_⟩
        refine ⟨_, rfl, ?_⟩
        refine ⟨_, rfl, ?_⟩
        refine ⟨_, rfl, ?_⟩
        first
          | refine ⟨_, ⟨[], _, dfree rfl rfl, k3.args ⟨.refl _, vdot rfl rfl, trivial⟩, by rintro r h ⟨rfl, rfl⟩; exact ⟨.inl rfl, rfl, rfl⟩⟩, ?_⟩
          | refine ⟨_, rfl, ?_⟩
        refine ⟨_, rfl, ?_⟩
        refine ⟨_, rfl, ?_⟩
        refine ⟨_, rfl, ?_⟩
        refine ⟨_, rfl, ?_⟩
        refine ⟨_, rfl, ?_⟩
        refine ⟨_, rfl, ?_⟩
        refine ⟨_, ⟨[], _, m1, by rintro r h ⟨rfl, rfl⟩; exact ⟨.inl rfl, rfl, rfl⟩⟩, ?_⟩
        refine ⟨_, rfl, ?_⟩
        refine ⟨_, ⟨[], _, dfree rfl rfl, k4.args ⟨.refl _, vdot rfl rfl, trivial⟩, by rintro r h ⟨rfl, rfl⟩; exact ⟨.inl rfl, rfl, rfl⟩⟩, ?_⟩
        refine ⟨_, rfl, ?_⟩
        refine ⟨_, rfl, ?_⟩
        refine ⟨_, ⟨[], _, dfree rfl rfl, k2.args ⟨.refl _, vdot rfl rfl, trivial⟩, by rintro r h ⟨rfl, rfl⟩; exact ⟨.inl rfl, rfl, rfl⟩⟩, ?_⟩
        refine ⟨_, rfl, ?_⟩
        refine ⟨_, rfl, ?_⟩
        refine ⟨_, rfl, ?_⟩
        first
          | refine ⟨_, ⟨[], _, dfree rfl rfl, k3.args ⟨.refl _, vdot rfl rfl, trivial⟩, by rintro r h ⟨rfl, rfl⟩; exact ⟨.inl rfl, rfl, rfl⟩⟩, ?_⟩
          | refine ⟨_, rfl, ?_⟩
        refine ⟨_, rfl, ?_⟩
        refine ⟨_, rfl, ?_⟩
        refine ⟨_, rfl, ?_⟩
        refine ⟨_, rfl, ?_⟩
        refine ⟨_, rfl, ?_⟩
        refine ⟨_, rfl, ?_⟩
        refine ⟨_, ⟨[], _, dfree rfl rfl, k5.args ⟨.refl _, vdot rfl rfl, trivial⟩, by rintro r h ⟨rfl, rfl⟩; exact ⟨.inl rfl, rfl, rfl⟩⟩, ?_⟩
        refine ⟨_, rfl, ?_⟩
        refine ⟨_, rfl, ?_⟩
        refine ⟨_, rfl, ?_⟩
        refine ⟨_, rfl, ?_⟩
        refine ⟨_, rfl, ?_⟩
        refine ⟨_, rfl, ?_⟩
        refine ⟨_, rfl, ?_⟩
        refine ⟨_, rfl, ?_⟩
        exact ⟨[], [], .tt, lehN _, leTT rfl, rfl, rfl⟩
    · refine ⟨[], _, dfree rfl rfl, k6.args ⟨.refl _, vdot rfl rfl, trivial⟩, ?_⟩
      rintro r hh ⟨rfl, rfl⟩
      refine ⟨.inl rfl, ?_⟩
      refine ⟨[], _, dfree rfl rfl, k7.args ⟨.refl _, vdot rfl rfl, trivial⟩, ?_⟩
      rintro r hh ⟨rfl, rfl⟩
      refine ⟨.inl rfl, ?_⟩
      cases HA <;> cases HB
      all_goals
        refine .inr ⟨45, by decide +kernel, ?_⟩
        refine ⟨_, rfl, ?_⟩
        refine ⟨_, rfl, ?_⟩
        refine ⟨_, rfl, ?_⟩
        refine ⟨_, rfl, ?_⟩
        refine ⟨_, ⟨[], _, j1, by rintro r h ⟨rfl, rfl⟩; exact ⟨.inl rfl, rfl, rfl⟩⟩, ?_⟩
        refine ⟨_, rfl, ?_⟩
        refine ⟨_, ⟨[], _, dfree rfl rfl, k1.args ⟨.refl _, vdot rfl rfl, trivial⟩, by rintro r h ⟨rfl, rfl⟩; exact ⟨.inl rfl, rfl, rfl⟩⟩, ?_⟩
        refine ⟨_, rfl, ?_⟩
        refine ⟨_, rfl, ?_⟩
        refine ⟨_, ⟨[], _, dfree rfl rfl, k2.args ⟨.refl _, vdot rfl rfl, trivial⟩, by rintro r h ⟨rfl, rfl⟩; exact ⟨.inl rfl, rfl, rfl⟩⟩, ?_⟩
        refine ⟨_, rfl, ?_⟩
        refine ⟨_, rfl, ?_⟩
        refine ⟨_, rfl, ?_⟩
        first
          | refine ⟨_, ⟨[], _, dfree rfl rfl, k3.args ⟨.refl _, vdot rfl rfl, trivial⟩, by rintro r h ⟨rfl, rfl⟩; exact ⟨.inl rfl, rfl, rfl⟩⟩, ?_⟩
          | refine ⟨_, rfl, ?_⟩
        refine ⟨_, rfl, ?_⟩
        refine ⟨_, rfl, ?_⟩
        refine ⟨_, rfl, ?_⟩
        refine ⟨_, rfl, ?_⟩
        refine ⟨_, rfl, ?_⟩
        refine ⟨_, rfl, ?_⟩
        refine ⟨_, ⟨[], _, m1, by rintro r h ⟨rfl, rfl⟩; exact ⟨.inl rfl, rfl, rfl⟩⟩, ?_⟩
        refine ⟨_, rfl, ?_⟩
        refine ⟨_, ⟨[], _, dfree rfl rfl, k4.args ⟨.refl _, vdot rfl rfl, trivial⟩, by rintro r h ⟨rfl, rfl⟩; exact ⟨.inl rfl, rfl, rfl⟩⟩, ?_⟩
        refine ⟨_, rfl, ?_⟩
        refine ⟨_, rfl, ?_⟩
        refine ⟨_, ⟨[], _, dfree rfl rfl, k2.args ⟨.refl _, vdot rfl rfl, trivial⟩, by rintro r h ⟨rfl, rfl⟩; exact ⟨.inl rfl, rfl, rfl⟩⟩, ?_⟩
        refine ⟨_, rfl, ?_⟩
        refine ⟨_, rfl, ?_⟩
        refine ⟨_, rfl, ?_⟩
        first
          | refine ⟨_, ⟨[], _, dfree rfl rfl, k3.args ⟨.refl _, vdot rfl rfl, trivial⟩, by rintro r h ⟨rfl, rfl⟩; exact ⟨.inl rfl, rfl, rfl⟩⟩, ?_⟩
          | refine ⟨_, rfl, ?_⟩
        refine ⟨_, rfl, ?_⟩
        refine ⟨_, rfl, ?_⟩
        refine ⟨_, rfl, ?_⟩
        refine ⟨_, rfl, ?_⟩
        refine ⟨_, rfl, ?_⟩
        refine ⟨_, rfl, ?_⟩
        refine ⟨_, ⟨[], _, dfree rfl rfl, k5.args ⟨.refl _, vdot rfl rfl, trivial⟩, by rintro r h ⟨rfl, rfl⟩; exact ⟨.inl rfl, rfl, rfl⟩⟩, ?_⟩
        refine ⟨_, rfl, ?_⟩
        refine ⟨_, rfl, ?_⟩
        refine ⟨_, rfl, ?_⟩
        refine ⟨_, rfl, ?_⟩
        refine ⟨_, rfl, ?_⟩
        refine ⟨_, rfl, ?_⟩
        refine ⟨_, rfl, ?_⟩
        refine ⟨_, rfl, ?_⟩
        exact ⟨[], [], .tt, lehN _, leTT rfl, rfl, rfl⟩
  · obtain rfl : D = false := by rw [← hD]; have := no c1; exact decide_eq_false (fun h => by unfold mayD at h; omega)
    cases X2
    · refine ⟨[], _, dfree rfl rfl, k6.args ⟨.refl _, vdot rfl rfl, trivial⟩, ?_⟩
      rintro r hh ⟨rfl, rfl⟩
      refine ⟨.inl rfl, ?_⟩
      refine ⟨[], _, dfree rfl rfl, k7.args ⟨.refl _, vdot rfl rfl, trivial⟩, ?_⟩
      rintro r hh ⟨rfl, rfl⟩
      refine ⟨.inl rfl, ?_⟩
      cases HA <;> cases HB
      all_goals
        refine .inr ⟨45, by decide +kernel, ?_⟩
        refine ⟨_, rfl, ?_⟩
        refine ⟨_, rfl, ?_⟩
        refine ⟨_, rfl, ?_⟩
        refine ⟨_, rfl, ?_⟩
        refine ⟨_, ⟨[], _, j1, by rintro r h ⟨rfl, rfl⟩; exact ⟨.inl rfl, rfl, rfl⟩⟩, ?_⟩
        refine ⟨_, rfl, ?_⟩
        refine ⟨_, ⟨[], _, dfree rfl rfl, k1.args ⟨.refl _, vdot rfl rfl, trivial⟩, by rintro r h ⟨rfl, rfl⟩; exact ⟨.inl rfl, rfl, rfl⟩⟩, ?_⟩
        refine ⟨_, rfl, ?_⟩
        refine ⟨_, rfl, ?_⟩
        refine ⟨_, ⟨[], _, dfree rfl rfl, k2.args ⟨.refl _, vdot rfl rfl, trivial⟩, by rintro r h ⟨rfl, rfl⟩; exact ⟨.inl rfl, rfl, rfl⟩⟩, ?_⟩
        refine ⟨_, rfl, ?_⟩
        refine ⟨_, rfl, ?_⟩
        refine ⟨_, rfl, ?_⟩
        first
          | refine ⟨_, ⟨[], _, dfree rfl rfl, k3.args ⟨.refl _, vdot rfl rfl, trivial⟩, by rintro r h ⟨rfl, rfl⟩; exact ⟨.inl rfl, rfl, rfl⟩⟩, ?_⟩
          | refine ⟨_, rfl, ?_⟩
        refine ⟨_, rfl, ?_⟩
        refine ⟨_, rfl, ?_⟩
        refine ⟨_, rfl, ?_⟩
        refine ⟨_, rfl, ?_⟩
        refine ⟨_, rfl, ?_⟩
        refine ⟨_, rfl, ?_⟩
        refine ⟨_, ⟨[], _, m1, by rintro r h ⟨rfl, rfl⟩; exact ⟨.inl rfl, rfl, rfl⟩⟩, ?_⟩
        refine ⟨_, rfl, ?_⟩
        refine ⟨_, ⟨[], _, dfree rfl rfl, k4.args ⟨.refl _, vdot rfl rfl, trivial⟩, by rintro r h ⟨rfl, rfl⟩; exact ⟨.inl rfl, rfl, rfl⟩⟩, ?_⟩
        refine ⟨_, rfl, ?_⟩
        refine ⟨_, rfl, ?_⟩
        refine ⟨_, ⟨[], _, dfree rfl rfl, k2.args ⟨.refl _, vdot rfl rfl, trivial⟩, by rintro r h ⟨rfl, rfl⟩; exact ⟨.inl rfl, rfl, rfl⟩⟩, ?_⟩
        refine ⟨_, rfl, ?_⟩
        refine ⟨_, rfl, ?_⟩
        refine ⟨_, rfl, ?_⟩
        first
          | refine ⟨_, ⟨[], _, dfree rfl rfl, k3.args ⟨.refl _, vdot rfl rfl, trivial⟩, by rintro r h ⟨rfl, rfl⟩; exact ⟨.inl rfl, rfl, rfl⟩⟩, ?_⟩
          | refine ⟨_, rfl, ?_⟩
        refine ⟨_, rfl, ?_⟩
        refine ⟨_, rfl, ?_⟩
        refine ⟨_, rfl, ?_⟩
        refine ⟨_, rfl, ?_⟩
        refine ⟨_, rfl, ?_⟩
        refine ⟨_, rfl, ?_⟩
        refine ⟨_, ⟨[], _, dfree rfl rfl, k5.args ⟨.refl _, vdot rfl rfl, trivial⟩, by rintro r h ⟨rfl, rfl⟩; exact ⟨.inl rfl, rfl, rfl⟩⟩, ?_⟩
        refine ⟨_, rfl, ?_⟩
        refine ⟨_, rfl, ?_⟩
        refine ⟨_, rfl, ?_⟩
        refine ⟨_, rfl, ?_⟩
        refine ⟨_, rfl, ?_⟩
        refine ⟨_, rfl, ?_⟩
        refine ⟨_, rfl, ?_⟩
        refine ⟨_, rfl, ?_⟩
        exact ⟨[], [], .tt, lehN _, leTT rfl, rfl, rfl⟩
    · refine ⟨[], _, dfree rfl rfl, k6.args ⟨.refl _, vdot rfl rfl, trivial⟩, ?_⟩
      rintro r hh ⟨rfl, rfl⟩
      refine ⟨.inl rfl, ?_⟩
      refine ⟨[], _, dfree rfl rfl, k7.args ⟨.refl _, vdot rfl rfl, trivial⟩, ?_⟩
      rintro r hh ⟨rfl, rfl⟩
      refine ⟨.inl rfl, ?_⟩
      cases HA <;> cases HB
      all_goals
        refine .inr ⟨45, by decide +kernel, ?_⟩
        refine ⟨_, rfl, ?_⟩
        refine ⟨_, rfl, ?_⟩
        refine ⟨_, rfl, ?_⟩
        refine ⟨_, rfl, ?_⟩
        refine ⟨_, ⟨[], _, j1, by rintro r h ⟨rfl, rfl⟩; exact ⟨.inl rfl, rfl, rfl⟩⟩, ?_⟩
        refine ⟨_, rfl, ?_⟩
        refine ⟨_, ⟨[], _, dfree rfl rfl, k1.args ⟨.refl _, vdot rfl rfl, trivial⟩, by rintro r h ⟨rfl, rfl⟩; exact ⟨.inl rfl, rfl, rfl⟩⟩, ?_⟩
        refine ⟨_, rfl, ?_⟩
        refine ⟨_, rfl, ?_⟩
        refine ⟨_, ⟨[], _, dfree rfl rfl, k2.args ⟨.refl _, vdot rfl rfl, trivial⟩, by rintro r h ⟨rfl, rfl⟩; exact ⟨.inl rfl, rfl, rfl⟩⟩, ?_⟩
        refine ⟨_, rfl, ?_⟩
        refine ⟨_, rfl, ?_⟩
        refine ⟨_, rfl, ?_⟩
        first
          | refine ⟨_, ⟨[], _, dfree rfl rfl, k3.args ⟨.refl _, vdot rfl rfl, trivial⟩, by rintro r h ⟨rfl, rfl⟩; exact ⟨.inl rfl, rfl, rfl⟩⟩, ?_⟩
          | refine ⟨_, rfl, ?_⟩
        refine ⟨_, rfl, ?_⟩
        refine ⟨_, rfl, ?_⟩
        refine ⟨_, rfl, ?_⟩
        refine ⟨_, rfl, ?_⟩
        refine ⟨_, rfl, ?_⟩
        refine ⟨_, rfl, ?_⟩
        refine ⟨_, ⟨[], _, m1, by rintro r h ⟨rfl, rfl⟩; exact ⟨.inl rfl, rfl, rfl⟩⟩, ?_⟩
        refine ⟨_, rfl, ?_⟩
        refine ⟨_, ⟨[], _, dfree rfl rfl, k4.args ⟨.refl _, vdot rfl rfl, trivial⟩, by rintro r h ⟨rfl, rfl⟩; exact ⟨.inl rfl, rfl, rfl⟩⟩, ?_⟩
        refine ⟨_, rfl, ?_⟩
        refine ⟨_, rfl, ?_⟩
        refine ⟨_, ⟨[], _, dfree rfl rfl, k2.args ⟨.refl _, vdot rfl rfl, trivial⟩, by rintro r h ⟨rfl, rfl⟩; exact ⟨.inl rfl, rfl, rfl⟩⟩, ?_⟩
        refine ⟨_, rfl, ?_⟩
        refine ⟨_, rfl, ?_⟩
        refine ⟨_, rfl, ?_⟩
        first
          | refine ⟨_, ⟨[], _, dfree rfl rfl, k3.args ⟨.refl _, vdot rfl rfl, trivial⟩, by rintro r h ⟨rfl, rfl⟩; exact ⟨.inl rfl, rfl, rfl⟩⟩, ?_⟩
          | refine ⟨_, rfl, ?_⟩
        refine ⟨_, rfl, ?_⟩
        refine ⟨_, rfl, ?_⟩
        refine ⟨_, rfl, ?_⟩
        refine ⟨_, rfl, ?_⟩
        refine ⟨_, rfl, ?_⟩
        refine ⟨_, rfl, ?_⟩
        refine ⟨_, ⟨[], _, dfree rfl rfl, k5.args ⟨.refl _, vdot rfl rfl, trivial⟩, by rintro r h ⟨rfl, rfl⟩; exact ⟨.inl rfl, rfl, rfl⟩⟩, ?_⟩
        refine ⟨_, rfl, ?_⟩
        refine ⟨_, rfl, ?_⟩
        refine ⟨_, rfl, ?_⟩
        refine ⟨_, rfl, ?_⟩
        refine ⟨_, rfl, ?_⟩
        refine ⟨_, rfl, ?_⟩
        refine ⟨_, rfl, ?_⟩
        refine ⟨_, rfl, ?_⟩
        exact ⟨[], [], .tt, lehN _, leTT rfl, rfl, rfl⟩

end
end Go.Proofs.YtmohncaoimeneaaDoor.Vc
