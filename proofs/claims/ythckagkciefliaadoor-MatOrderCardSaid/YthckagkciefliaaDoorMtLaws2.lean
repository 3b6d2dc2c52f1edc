/-
  The laws of matrices, walked: MatLow.
-/
import Derived.Test.YthckagkciefliaaDoorMtLaws
import Derived.Test.YthckagkciefliaaDoorVcLaws4
set_option linter.unusedVariables false
set_option linter.unusedSectionVars false
namespace Go.Proofs.YthckagkciefliaaDoor.Mt
open Go AL Hx Dt Spl Vc

theorem lowM_has {a : List Vc1} (hne : a ≠ []) (x y : Int) : hasP (lowM a) x y ↔ ∀ i, i < a.length → hasP (rowM a i) x y := by
  have hpos : 0 < a.length := List.length_pos_iff.2 hne
  unfold lowM
  rw [if_neg hne, has_iff]
  constructor
  · rintro ⟨h1, h2⟩ i hi
    have := lowS_le a (a.length - 1) i x.toNat (by omega)
    exact has_iff.2 ⟨h1, by omega⟩
  · intro h
    have h0 := (has_iff.1 (h 0 hpos)).1
    exact ⟨h0, lowS_ge a x.toNat y _ fun i hi => (has_iff.1 (h i (by omega))).2⟩
theorem lowM_mono {a c : List Vc1} (hl : a.length = c.length) (h : ∀ i r, i < a.length → cntF (rowM a i) r ≤ cntF (rowM c i) r) : leqV (cntF (lowM a)) (cntF (lowM c)) := by
  rw [leq_iff]
  intro r hr
  unfold lowM
  by_cases hne : a = []
  · have hc : c = [] := List.eq_nil_of_length_eq_zero (by rw [← hl, hne]; rfl)
    rw [if_pos hne, if_pos hc]; omega
  · have hc : c ≠ [] := fun e => hne (List.eq_nil_of_length_eq_zero (by rw [hl, e]; rfl))
    have hpos : 0 < a.length := List.length_pos_iff.2 hne
    rw [if_neg hne, if_neg hc]
    refine lowS_ge c r _ _ fun i hi => ?_
    have h1 := lowS_le a (a.length - 1) i r (by omega)
    have h2 := h i r (by omega)
    omega
theorem joinM_len (a b : List Vc1) : (joinM a b).length = max a.length b.length := mapM_len _ _
theorem joinM_row {a b : List Vc1} {i : Nat} (ha : i < a.length) (hb : i < b.length) : rowM (joinM a b) i = joinV (rowM a i) (rowM b i) := by
  unfold joinM
  rw [mapM_row (by omega), if_neg (by omega), if_neg (by omega)]
theorem szM_join {a b : List Vc1} (ha : szM a) (hb : szM b) : szM (joinM a b) := by
  have h1 := ha.1
  have h2 := hb.1
  refine ⟨by rw [joinM_len]; omega, fun i hi => ?_⟩
  rw [joinM_len] at hi
  unfold joinM
  rw [mapM_row hi]
  split
  · exact ha.2 i (by omega)
  · split
    · exact hb.2 i (by omega)
    · have := ofK_len (maxF (cntF (rowM a i)) (cntF (rowM b i))) 32; show (ofK _ 32).length ≤ _; omega
theorem lowM_len (a : List Vc1) : (lowM a).length ≤ 9223372036854775807 := by
  unfold lowM
  split
  · simp
  · exact lowS_len _ _

section
variable [Globs]


set_option maxHeartbeats 4000000 in
set_option maxRecDepth 10000 in
theorem lowlaw_prog (hG : NumG) (a b : List Vc1) (x y : Int) (ha : a.length ≤ 9223372036854775807) (hb : b.length ≤ 9223372036854775807) :
    ACalls Tryd.prog 6 [matV a, matV b, dotV x y] [] (fun r h => r = .tt ∧ h = []) := by
  have s1 := small_prog a ha
  have s2 := small_prog b hb
  obtain ⟨A, hA⟩ : ∃ A, decide (smallP a) = A := ⟨_, rfl⟩
  obtain ⟨B, hB⟩ : ∃ B, decide (smallP b) = B := ⟨_, rfl⟩
  rw [hA] at s1
  rw [hB] at s2
  refine rcalls Tryd.func6 rfl (by decide) ?_
  refine ⟨[], _, awake_mat hG, ?_⟩
  rintro r hh ⟨rfl, rfl⟩
  refine ⟨.inl rfl, ?_⟩
  refine ⟨[], _, s1, ?_⟩
  rintro r hh ⟨rfl, rfl⟩
  refine ⟨.inl rfl, ?_⟩
  refine ⟨fun _ => ?_, fun c1 => ?_⟩
  · refine ⟨fun _ => ?_, fun c => ?_⟩
    · exact ⟨[], [], .tt, lehN _, .tt, rfl, rfl⟩
    · obtain rfl : a = [] := List.eq_nil_of_length_eq_zero (by have := no c; omega)
      refine ⟨[], _, low_prog [] ⟨by simp, fun i hi => by simp at hi⟩, ?_⟩
      rintro r hh ⟨rfl, rfl⟩
      refine ⟨.inl rfl, ?_⟩
      exact ⟨[], [], .tt, lehN _, leTT (by decide), rfl, rfl⟩
  refine ⟨[], _, s2, ?_⟩
  rintro r hh ⟨rfl, rfl⟩
  refine ⟨.inl rfl, ?_⟩
  refine ⟨fun _ => ?_, fun c2 => ⟨fun _ => ?_, fun c3 => ⟨fun _ => ?_, fun c4 => ?_⟩⟩⟩
  · refine ⟨fun _ => ?_, fun c => ?_⟩
    · exact ⟨[], [], .tt, lehN _, .tt, rfl, rfl⟩
    · obtain rfl : a = [] := List.eq_nil_of_length_eq_zero (by have := no c; omega)
      refine ⟨[], _, low_prog [] ⟨by simp, fun i hi => by simp at hi⟩, ?_⟩
      rintro r hh ⟨rfl, rfl⟩
      refine ⟨.inl rfl, ?_⟩
      exact ⟨[], [], .tt, lehN _, leTT (by decide), rfl, rfl⟩
  · refine ⟨fun _ => ?_, fun c => ?_⟩
    · exact ⟨[], [], .tt, lehN _, .tt, rfl, rfl⟩
    · obtain rfl : a = [] := List.eq_nil_of_length_eq_zero (by have := no c; omega)
      refine ⟨[], _, low_prog [] ⟨by simp, fun i hi => by simp at hi⟩, ?_⟩
      rintro r hh ⟨rfl, rfl⟩
      refine ⟨.inl rfl, ?_⟩
      exact ⟨[], [], .tt, lehN _, leTT (by decide), rfl, rfl⟩
  · refine ⟨fun _ => ?_, fun c => ?_⟩
    · exact ⟨[], [], .tt, lehN _, .tt, rfl, rfl⟩
    · obtain rfl : a = [] := List.eq_nil_of_length_eq_zero (by have := no c; omega)
      refine ⟨[], _, low_prog [] ⟨by simp, fun i hi => by simp at hi⟩, ?_⟩
      rintro r hh ⟨rfl, rfl⟩
      refine ⟨.inl rfl, ?_⟩
      exact ⟨[], [], .tt, lehN _, leTT (by decide), rfl, rfl⟩
  have za := small_sz (of_decide_eq_true (hA.trans (unnot c1)) : smallP a)
  have zb := small_sz (of_decide_eq_true (hB.trans (unnot c2)) : smallP b)
  have g3 : ¬ (a.length : Int) = 0 := no c3
  have g4 : (a.length : Int) = b.length := Classical.not_not.1 (no c4)
  have hne : a ≠ [] := fun e => g3 (by rw [e]; rfl)
  have hla := za.1
  have r1 : ∀ k : Nat, k < a.length → ACalls Tryd.prog 20 [matV a, int .i64 k] [] (fun r h => r = vecV (rowM a k) ∧ h = []) := fun k hk => by
    have := row_prog a k za
    rwa [if_pos (by omega), show ((k : Int)).toNat = k by omega] at this
  have r2 : ∀ k : Nat, k < a.length → ACalls Tryd.prog 19 [vecV (rowM a k), dotV x y] [] (fun r h => r = bool (decide (hasP (rowM a k) x y)) ∧ h = []) := fun k hk =>
    has_prog (rowM a k) x y (by have := za.2 k hk; omega)
  have l1 := low_prog a za
  have l2 : ACalls Tryd.prog 19 [vecV (lowM a), dotV x y] [] (fun r h => r = bool (decide (∀ i, i < a.length → hasP (rowM a i) x y)) ∧ h = []) := by
    have h := has_prog (lowM a) x y (lowM_len a)
    have e : decide (mayD x y ∧ y ≤ getV (lowM a) x) = decide (∀ i, i < a.length → hasP (rowM a i) x y) := decide_eq_decide.2 (lowM_has hne x y)
    rw [e] at h
    exact h
  have j1 := join_mat a b za zb
  have j2 := low_prog (joinM a b) (szM_join za zb)
  have j3 := (leq_prog (lowM a) (lowM (joinM a b)) (lowM_len _) (lowM_len _)).yes (decide_eq_true (lowM_mono (by rw [joinM_len]; omega) fun i r hi => by
    rw [joinM_row hi (by omega), joinV_cnt]; simp only [maxF]; omega))
  have q1 := raise_prog a x (rowM b (Int.toNat 0 * 1 + 0)) za (by have := zb.2 0 (by omega); show (rowM b 0).length ≤ _; omega)
  have q2 := low_prog (raiseM a x (rowM b (Int.toNat 0 * 1 + 0))) (szM_raise za _ _)
  have q3 := (leq_prog (lowM a) (lowM (raiseM a x (rowM b (Int.toNat 0 * 1 + 0)))) (lowM_len _) (lowM_len _)).yes (decide_eq_true (lowM_mono (raise_len _ _ _).symm fun i r hi => by
    rw [raise_row]
    split
    · rw [joinV_cnt]; simp only [maxF]; omega
    · exact Int.le_refl _))
  generalize lowM (raiseM a x (rowM b (Int.toNat 0 * 1 + 0))) = L3 at *
  generalize raiseM a x (rowM b (Int.toNat 0 * 1 + 0)) = R at *
  generalize lowM (joinM a b) = L2 at *
  generalize joinM a b = J at *
  generalize lowM a = L at *
  have hstep : ∀ (k : Nat) (β : Bool), k < a.length → β = decide (∀ i, i < k → hasP (rowM a i) x y) → (β && decide (hasP (rowM a k) x y)) = decide (∀ i, i < k + 1 → hasP (rowM a i) x y) := fun k β hk hβ => by
    rw [hβ]
    refine (dec_and (p := ∀ i, i < k → hasP (rowM a i) x y) (q := hasP (rowM a k) x y) ⟨fun h => ⟨fun i hi => h i (by omega), h k (by omega)⟩, fun h i hi => ?_⟩).symm
    rcases Nat.lt_or_ge i k with h1 | h1
    · exact h.1 i h1
    · rw [show i = k by omega]; exact h.2
  refine ⟨Nat × Bool, fun z => [(0, matV a), (1, matV b), (5, .ptr 0 0), (7, .tt), (8, tf z.2), (9, int .i64 z.1)], fun _ => [.lst [int .i64 x, int .i64 y]], fun z => z.1 ≤ a.length ∧ z.2 = decide (∀ i, i < z.1 → hasP (rowM a i) x y), fun z => a.length - z.1,
    ⟨(0, true), [0], ⟨Nat.zero_le _, (decide_eq_true (by intro i hi; omega)).symm⟩, leh1 rfl (leLst2 (leI rfl) (leI rfl)), ⟨.same _ trivial, .same _ trivial, .ptr _ rfl, .tt, .tt, leI rfl, trivial⟩⟩, ?_⟩
  rintro ⟨k, β⟩ ⟨hk, hβ⟩
  dsimp only at hk hβ
  refine ⟨fun c => ?_, fun c => ?_⟩
  · have f1 : (k : Int) < a.length := yes c
    have e1 : IntKind.i64.wrap ((k : Int) + 1) = ((k + 1 : Nat) : Int) := by rw [w64 (by omega) (by omega)]; omega
    have hs := hstep k β (by omega) hβ
    have hH := (r2 k (by omega)).tf
    generalize decide (hasP (rowM a k) x y) = H at *
    cases β
    · refine .inr ⟨8, by decide +kernel, ?_⟩
      refine ⟨_, rfl, ?_⟩
      refine ⟨_, rfl, ?_⟩
      refine ⟨_, rfl, ?_⟩
      refine ⟨_, rfl, ?_⟩
      refine ⟨_, rfl, ?_⟩
      refine ⟨_, rfl, ?_⟩
      refine ⟨_, rfl, ?_⟩
      refine ⟨_, rfl, ?_⟩
      exact ⟨trivial, (k + 1, false), [0], ⟨by show k + 1 ≤ a.length; omega, hs⟩, by show a.length - (k + 1) < a.length - k; omega, leh1 rfl (leLst2 (leI rfl) (leI rfl)), ⟨.same _ trivial, .same _ trivial, .ptr _ rfl, .tt, .ff, leI e1, trivial⟩⟩
    · cases H
      · refine .inr ⟨8, by decide +kernel, ?_⟩
        refine ⟨_, rfl, ?_⟩
        refine ⟨_, rfl, ?_⟩
        refine ⟨_, rfl, ?_⟩
        refine ⟨_, rfl, ?_⟩
        refine ⟨_, ⟨[], _, r1 k (by omega), by rintro r h ⟨rfl, rfl⟩; exact ⟨.inl rfl, rfl, rfl⟩⟩, ?_⟩
        refine ⟨_, rfl, ?_⟩
        refine ⟨_, ⟨[], _, dfree rfl rfl, hH.args ⟨.refl _, vdot rfl rfl, trivial⟩, by rintro r h ⟨rfl, rfl⟩; exact ⟨.inl rfl, rfl, rfl⟩⟩, ?_⟩
        refine ⟨_, rfl, ?_⟩
        exact ⟨trivial, (k + 1, false), [0], ⟨by show k + 1 ≤ a.length; omega, hs⟩, by show a.length - (k + 1) < a.length - k; omega, leh1 rfl (leLst2 (leI rfl) (leI rfl)), ⟨.same _ trivial, .same _ trivial, .ptr _ rfl, .tt, .ff, leI e1, trivial⟩⟩
      · refine .inr ⟨8, by decide +kernel, ?_⟩
        refine ⟨_, rfl, ?_⟩
        refine ⟨_, rfl, ?_⟩
        refine ⟨_, rfl, ?_⟩
        refine ⟨_, rfl, ?_⟩
        refine ⟨_, ⟨[], _, r1 k (by omega), by rintro r h ⟨rfl, rfl⟩; exact ⟨.inl rfl, rfl, rfl⟩⟩, ?_⟩
        refine ⟨_, rfl, ?_⟩
        refine ⟨_, ⟨[], _, dfree rfl rfl, hH.args ⟨.refl _, vdot rfl rfl, trivial⟩, by rintro r h ⟨rfl, rfl⟩; exact ⟨.inl rfl, rfl, rfl⟩⟩, ?_⟩
        refine ⟨_, rfl, ?_⟩
        exact ⟨trivial, (k + 1, true), [0], ⟨by show k + 1 ≤ a.length; omega, hs⟩, by show a.length - (k + 1) < a.length - k; omega, leh1 rfl (leLst2 (leI rfl) (leI rfl)), ⟨.same _ trivial, .same _ trivial, .ptr _ rfl, .tt, .tt, leI e1, trivial⟩⟩
  · have f1 : ¬ (k : Int) < a.length := no c
    obtain rfl : k = a.length := by omega
    rw [← hβ] at l2
    replace l2 := l2.tf
    cases β
    all_goals
      refine ⟨[], _, l1, ?_⟩
      rintro r hh ⟨rfl, rfl⟩
      refine ⟨.inl rfl, ?_⟩
      refine .inr ⟨28, by decide +kernel, ?_⟩
      refine ⟨_, rfl, ?_⟩
      refine ⟨_, rfl, ?_⟩
      refine ⟨_, rfl, ?_⟩
      refine ⟨_, rfl, ?_⟩
      refine ⟨_, ⟨[], _, dfree rfl rfl, l2.args ⟨.refl _, vdot rfl rfl, trivial⟩, by rintro r h ⟨rfl, rfl⟩; exact ⟨.inl rfl, rfl, rfl⟩⟩, ?_⟩
      refine ⟨_, rfl, ?_⟩
      refine ⟨_, rfl, ?_⟩
      refine ⟨_, rfl, ?_⟩
      refine ⟨_, rfl, ?_⟩
      refine ⟨_, rfl, ?_⟩
      refine ⟨_, rfl, ?_⟩
      refine ⟨_, rfl, ?_⟩
      refine ⟨_, ⟨[], _, j1, by rintro r h ⟨rfl, rfl⟩; exact ⟨.inl rfl, rfl, rfl⟩⟩, ?_⟩
      refine ⟨_, ⟨[], _, j2, by rintro r h ⟨rfl, rfl⟩; exact ⟨.inl rfl, rfl, rfl⟩⟩, ?_⟩
      refine ⟨_, ⟨[], _, j3, by rintro r h ⟨rfl, rfl⟩; exact ⟨.inl rfl, rfl, rfl⟩⟩, ?_⟩
      refine ⟨_, rfl, ?_⟩
      refine ⟨_, rfl, ?_⟩
      refine ⟨_, rfl, ?_⟩
      refine ⟨_, rfl, ?_⟩
      refine ⟨_, rfl, ?_⟩
      refine ⟨_, rfl, ?_⟩
      refine ⟨_, rfl, ?_⟩
      refine ⟨_, ⟨⟨by omega, by omega⟩, rfl⟩, ?_⟩
      refine ⟨_, rfl, ?_⟩
      refine ⟨_, ⟨[], _, q1, by rintro r h ⟨rfl, rfl⟩; exact ⟨.inl rfl, rfl, rfl⟩⟩, ?_⟩
      refine ⟨_, ⟨[], _, q2, by rintro r h ⟨rfl, rfl⟩; exact ⟨.inl rfl, rfl, rfl⟩⟩, ?_⟩
      refine ⟨_, ⟨[], _, q3, by rintro r h ⟨rfl, rfl⟩; exact ⟨.inl rfl, rfl, rfl⟩⟩, ?_⟩
      refine ⟨_, rfl, ?_⟩
      exact ⟨[], [], .tt, lehN _, .tt, rfl, rfl⟩

end
end Go.Proofs.YthckagkciefliaaDoor.Mt
