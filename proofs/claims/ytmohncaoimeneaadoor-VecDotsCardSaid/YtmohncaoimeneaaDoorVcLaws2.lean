/-
  The laws of vectors, walked: VecLattice, VecKnows, VecRaises.
-/
import Derived.Test.YtmohncaoimeneaaDoorVcLaws
set_option linter.unusedVariables false
set_option linter.unusedSectionVars false
namespace Go.Proofs.YtmohncaoimeneaaDoor.Vc
open Go AL Hx Dt Spl

theorem upd_comm (g : Nat → Int) (p q : Int × Int) : updF (updF g p) q = updF (updF g q) p := funext fun r => by
  have e : ∀ (g : Nat → Int) (p : Int × Int), updF g p r = if mayD p.1 p.2 ∧ r = p.1.toNat then max (g r) p.2 else g r := fun _ _ => rfl
  rw [e, e, e, e]
  by_cases h1 : mayD p.1 p.2 ∧ r = p.1.toNat
  · by_cases h2 : mayD q.1 q.2 ∧ r = q.1.toNat
    · simp only [if_pos h1, if_pos h2]; omega
    · simp only [if_pos h1, if_neg h2]
  · by_cases h2 : mayD q.1 q.2 ∧ r = q.1.toNat
    · simp only [if_neg h1, if_pos h2]
    · simp only [if_neg h1, if_neg h2]
theorem upd_ge (g : Nat → Int) (p : Int × Int) (r : Nat) : g r ≤ updF g p r := by unfold updF; split <;> omega
theorem uof {g : Nat → Int} (hg : okF g) (p : Int × Int) : cntF (ofF (updF g p)) = updF g p := cnt_of (upd_ok hg p)
theorem upd_same {l : List (Int × Int)} {a b : Int} : tab (updF (cntF l) (a, b)) = tab (cntF l) ↔ ((mayD a b ∧ b ≤ getV l a) ∨ ¬ mayD a b) := by
  rw [tab_ext]
  constructor
  · intro h
    by_cases hm : mayD a b
    · have hm' := hm
      unfold mayD at hm'
      have := h a.toNat (by omega)
      unfold updF at this
      rw [if_pos ⟨hm, rfl⟩] at this
      refine .inl ⟨hm, ?_⟩
      unfold getV
      rw [if_neg (by omega)]
      have : max (cntF l a.toNat) b = cntF l a.toNat := this
      omega
    · exact .inr hm
  · rintro (⟨hm, h⟩ | hm) r hr
    · have hm' := hm
      unfold mayD at hm'
      unfold getV at h
      rw [if_neg (by omega)] at h
      rw [upd_low (by omega)]
    · rw [upd_not hm]
theorem getV_with (l : List (Int × Int)) (a b n : Int) : getV (ofF (updF (cntF l) (a, b))) n = if n < 0 ∨ n > 31 then 0 else updF (cntF l) (a, b) n.toNat := by
  unfold getV; rw [uof (cnt_ok l)]
theorem getV_ge (l : List (Int × Int)) (a b n : Int) : getV l n ≤ getV (ofF (updF (cntF l) (a, b))) n := by
  rw [getV_with]
  unfold getV
  split
  · exact Int.le_refl _
  · exact upd_ge _ _ _
theorem getV_range (l : List (Int × Int)) (n : Int) : 0 ≤ getV l n ∧ getV l n ≤ 1099511627776 := by
  unfold getV
  split
  · omega
  · have := cnt_ok l n.toNat; omega

section
variable [Globs]

set_option maxHeartbeats 8000000 in
set_option maxRecDepth 10000 in
theorem lattice_prog (hG : NumG) (a b c : List (Int × Int)) (ha : a.length ≤ 281474976710656) (hb : b.length ≤ 281474976710656) (hc : c.length ≤ 281474976710656) :
    ACalls Tryd.prog 10 [vecV a, vecV b, vecV c] [] (fun r h => r = .tt ∧ h = []) := by
  have ga := cnt_ok a
  have gb := cnt_ok b
  have gc := cnt_ok c
  have j1 := join_prog a b ha hb
  have m1 := meet_prog a b ha hb
  have q1 := cof ga gb
  have q2 := mof ga gb
  have lJ := of_len (maxF (cntF a) (cntF b))
  have lM := of_len (minF (cntF a) (cntF b))
  have yJ : ofF (maxF (cntF a) (cntF b)) = ofF (cntF (ofF (maxF (cntF a) (cntF b)))) := by rw [q1]
  have yM : ofF (minF (cntF a) (cntF b)) = ofF (cntF (ofF (minF (cntF a) (cntF b)))) := by rw [q2]
  generalize ofF (maxF (cntF a) (cntF b)) = J at *
  generalize ofF (minF (cntF a) (cntF b)) = M at *
  have e1 := (leq_prog a J ha lJ).yes (decide_eq_true (leq_iff.2 fun r hr => by rw [q1]; simp only [maxF]; omega))
  have e2 := (leq_prog b J hb lJ).yes (decide_eq_true (leq_iff.2 fun r hr => by rw [q1]; simp only [maxF]; omega))
  have e3 := (leq_prog M a lM ha).yes (decide_eq_true (leq_iff.2 fun r hr => by rw [q2]; simp only [minF]; omega))
  have e4 := (leq_prog M b lM hb).yes (decide_eq_true (leq_iff.2 fun r hr => by rw [q2]; simp only [minF]; omega))
  have f1 := leq_prog a c ha hc
  have f2 := leq_prog b c hb hc
  have f3 : leqV (cntF a) (cntF c) → leqV (cntF b) (cntF c) → _ := fun h1 h2 => (leq_prog J c lJ hc).yes (decide_eq_true (leq_iff.2 fun r hr => by rw [q1]; have := leq_iff.1 h1 r hr; have := leq_iff.1 h2 r hr; simp only [maxF]; omega))
  have f4 := leq_prog c a hc ha
  have f5 := leq_prog c b hc hb
  have f6 : leqV (cntF c) (cntF a) → leqV (cntF c) (cntF b) → _ := fun h1 h2 => (leq_prog c M hc lM).yes (decide_eq_true (leq_iff.2 fun r hr => by rw [q2]; have := leq_iff.1 h1 r hr; have := leq_iff.1 h2 r hr; simp only [minF]; omega))
  have g1 := join_prog J c lJ hc
  have g2 := join_prog b c hb hc
  have g3 := join_prog a (ofF (maxF (cntF b) (cntF c))) ha (of_len _)
  have g4 := (same_prog (ofF (maxF (cntF J) (cntF c))) (ofF (maxF (cntF a) (cntF (ofF (maxF (cntF b) (cntF c)))))) (of_len _) (of_len _)).yes (decide_eq_true (tab_ext.2 fun r hr => by
    rw [cof (cnt_ok J) gc, cof ga (cnt_ok _), cof gb gc, q1]; simp only [maxF]; omega))
  have g5 := meet_prog M c lM hc
  have g6 := meet_prog b c hb hc
  have g7 := meet_prog a (ofF (minF (cntF b) (cntF c))) ha (of_len _)
  have g8 := (same_prog (ofF (minF (cntF M) (cntF c))) (ofF (minF (cntF a) (cntF (ofF (minF (cntF b) (cntF c)))))) (of_len _) (of_len _)).yes (decide_eq_true (tab_ext.2 fun r hr => by
    rw [mof (cnt_ok M) gc, mof ga (cnt_ok _), mof gb gc, q2]; simp only [minF]; omega))
  have k1 := join_prog b a hb ha
  have k2 := (same_prog J (ofF (maxF (cntF b) (cntF a))) lJ (of_len _)).yes (decide_eq_true (tab_ext.2 fun r hr => by rw [cof gb ga, q1]; simp only [maxF]; omega))
  have k3 := meet_prog b a hb ha
  have k4 := (same_prog M (ofF (minF (cntF b) (cntF a))) lM (of_len _)).yes (decide_eq_true (tab_ext.2 fun r hr => by rw [mof gb ga, q2]; simp only [minF]; omega))
  have k5 := join_prog a M ha lM
  have k6 := (same_prog (ofF (maxF (cntF a) (cntF M))) a (of_len _) ha).yes (decide_eq_true (tab_ext.2 fun r hr => by rw [cof ga (cnt_ok M), q2]; simp only [maxF, minF]; omega))
  have k7 := meet_prog a J ha lJ
  have k8 := (same_prog (ofF (minF (cntF a) (cntF J))) a (of_len _) ha).yes (decide_eq_true (tab_ext.2 fun r hr => by rw [mof ga (cnt_ok J), q1]; simp only [maxF, minF]; omega))
  have y1 := (may_vec J lJ).yes (decide_eq_true yJ)
  have y2 := (may_vec M lM).yes (decide_eq_true yM)
  generalize hBC : ofF (maxF (cntF b) (cntF c)) = BC at *
  generalize hbc : ofF (minF (cntF b) (cntF c)) = bc at *
  generalize ofF (maxF (cntF J) (cntF c)) = X1 at *
  generalize ofF (maxF (cntF a) (cntF BC)) = X2 at *
  generalize ofF (minF (cntF M) (cntF c)) = X3 at *
  generalize ofF (minF (cntF a) (cntF bc)) = X4 at *
  generalize ofF (maxF (cntF b) (cntF a)) = X5 at *
  generalize ofF (minF (cntF b) (cntF a)) = X6 at *
  generalize ofF (maxF (cntF a) (cntF M)) = X7 at *
  generalize ofF (minF (cntF a) (cntF J)) = X8 at *
  refine rcalls Tryd.func10 rfl (by decide) ?_
  refine ⟨[], _, awake_vec hG, ?_⟩
  rintro r hh ⟨rfl, rfl⟩
  refine ⟨.inl rfl, ?_⟩
  refine ⟨fun _ => ?_, fun _ => ⟨fun _ => ?_, fun _ => ⟨fun _ => ?_, fun _ => ?_⟩⟩⟩
  · exact ⟨[], [], .tt, lehN _, .tt, rfl, rfl⟩
  · exact ⟨[], [], .tt, lehN _, .tt, rfl, rfl⟩
  · exact ⟨[], [], .tt, lehN _, .tt, rfl, rfl⟩
  refine ⟨[], _, j1, ?_⟩
  rintro r hh ⟨rfl, rfl⟩
  refine ⟨.inl rfl, ?_⟩
  refine ⟨[], _, m1, ?_⟩
  rintro r hh ⟨rfl, rfl⟩
  refine ⟨.inl rfl, ?_⟩
  refine ⟨[], _, e1, ?_⟩
  rintro r hh ⟨rfl, rfl⟩
  refine ⟨.inl rfl, ?_⟩
  refine ⟨[], _, e2, ?_⟩
  rintro r hh ⟨rfl, rfl⟩
  refine ⟨.inl rfl, ?_⟩
  refine ⟨[], _, e3, ?_⟩
  rintro r hh ⟨rfl, rfl⟩
  refine ⟨.inl rfl, ?_⟩
  refine ⟨[], _, e4, ?_⟩
  rintro r hh ⟨rfl, rfl⟩
  refine ⟨.inl rfl, ?_⟩
  refine ⟨[], _, f1, ?_⟩
  rintro r hh ⟨rfl, rfl⟩
  refine ⟨.inl rfl, ?_⟩
  refine ⟨fun c1 => ?_, fun _ => ?_⟩
  rotate_left
  all_goals try
    refine ⟨[], _, f2, ?_⟩
    rintro r hh ⟨rfl, rfl⟩
    refine ⟨.inl rfl, ?_⟩
    refine ⟨fun c2 => ?_, fun _ => ?_⟩
  any_goals
    refine ⟨[], _, f3 (yes c1) (yes c2), ?_⟩
    rintro r hh ⟨rfl, rfl⟩
    refine ⟨.inl rfl, ?_⟩
  all_goals
    refine ⟨[], _, f4, ?_⟩
    rintro r hh ⟨rfl, rfl⟩
    refine ⟨.inl rfl, ?_⟩
    refine ⟨fun d1 => ?_, fun _ => ?_⟩
    rotate_left
    all_goals try
      refine ⟨[], _, f5, ?_⟩
      rintro r hh ⟨rfl, rfl⟩
      refine ⟨.inl rfl, ?_⟩
      refine ⟨fun d2 => ?_, fun _ => ?_⟩
    any_goals
      refine ⟨[], _, f6 (yes d1) (yes d2), ?_⟩
      rintro r hh ⟨rfl, rfl⟩
      refine ⟨.inl rfl, ?_⟩
    all_goals
      refine ⟨[], _, g1, ?_⟩
      rintro r hh ⟨rfl, rfl⟩
      refine ⟨.inl rfl, ?_⟩
      refine ⟨[], _, g2, ?_⟩
      rintro r hh ⟨rfl, rfl⟩
      refine ⟨.inl rfl, ?_⟩
      refine ⟨[], _, g3, ?_⟩
      rintro r hh ⟨rfl, rfl⟩
      refine ⟨.inl rfl, ?_⟩
      refine ⟨[], _, g4, ?_⟩
      rintro r hh ⟨rfl, rfl⟩
      refine ⟨.inl rfl, ?_⟩
      refine ⟨[], _, g5, ?_⟩
      rintro r hh ⟨rfl, rfl⟩
      refine ⟨.inl rfl, ?_⟩
      refine ⟨[], _, g6, ?_⟩
      rintro r hh ⟨rfl, rfl⟩
      refine ⟨.inl rfl, ?_⟩
      refine ⟨[], _, g7, ?_⟩
      rintro r hh ⟨rfl, rfl⟩
      refine ⟨.inl rfl, ?_⟩
      refine ⟨[], _, g8, ?_⟩
      rintro r hh ⟨rfl, rfl⟩
      refine ⟨.inl rfl, ?_⟩
      refine ⟨[], _, k1, ?_⟩
      rintro r hh ⟨rfl, rfl⟩
      refine ⟨.inl rfl, ?_⟩
      refine ⟨[], _, k2, ?_⟩
      rintro r hh ⟨rfl, rfl⟩
      refine ⟨.inl rfl, ?_⟩
      refine ⟨[], _, k3, ?_⟩
      rintro r hh ⟨rfl, rfl⟩
      refine ⟨.inl rfl, ?_⟩
      refine ⟨[], _, k4, ?_⟩
      rintro r hh ⟨rfl, rfl⟩
      refine ⟨.inl rfl, ?_⟩
      refine ⟨[], _, k5, ?_⟩
      rintro r hh ⟨rfl, rfl⟩
      refine ⟨.inl rfl, ?_⟩
      refine ⟨[], _, k6, ?_⟩
      rintro r hh ⟨rfl, rfl⟩
      refine ⟨.inl rfl, ?_⟩
      refine ⟨[], _, k7, ?_⟩
      rintro r hh ⟨rfl, rfl⟩
      refine ⟨.inl rfl, ?_⟩
      refine ⟨[], _, k8, ?_⟩
      rintro r hh ⟨rfl, rfl⟩
      refine ⟨.inl rfl, ?_⟩
      refine ⟨[], _, y1, ?_⟩
      rintro r hh ⟨rfl, rfl⟩
      refine ⟨.inl rfl, ?_⟩
      refine ⟨[], _, y2, ?_⟩
      rintro r hh ⟨rfl, rfl⟩
      refine ⟨.inl rfl, ?_⟩
      exact ⟨[], [], .tt, lehN _, .tt, rfl, rfl⟩

end
end Go.Proofs.YtmohncaoimeneaaDoor.Vc
