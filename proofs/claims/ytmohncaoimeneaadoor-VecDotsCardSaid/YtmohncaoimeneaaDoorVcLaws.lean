/-
  The laws of vectors, walked: awake, VecJoins, VecBack, VecLattice.
-/
import Derived.Test.YtmohncaoimeneaaDoorVcParse
import Derived.Test.YtmohncaoimeneaaDoorVcRef
set_option linter.unusedVariables false
set_option linter.unusedSectionVars false
namespace Go.Proofs.YtmohncaoimeneaaDoor.Vc
open Go AL Hx Dt Spl

theorem n0 : numS 0 = ⟨#[48]⟩ := by unfold numS Lib.itoa; rw [if_neg (by decide)]; simp [Lib.decDigits]
theorem n1 : numS 1 = ⟨#[49]⟩ := by unfold numS Lib.itoa; rw [if_neg (by decide)]; simp [Lib.decDigits]
theorem n2 : numS 2 = ⟨#[50]⟩ := by unfold numS Lib.itoa; rw [if_neg (by decide)]; simp [Lib.decDigits]
theorem n3 : numS 3 = ⟨#[51]⟩ := by unfold numS Lib.itoa; rw [if_neg (by decide)]; simp [Lib.decDigits]
theorem n5 : numS 5 = ⟨#[53]⟩ := by unfold numS Lib.itoa; rw [if_neg (by decide)]; simp [Lib.decDigits]
theorem tx03 : textD 0 3 = ⟨#[48, 58, 51]⟩ := by unfold textD; rw [n0, n3]; rfl
theorem tx21 : textD 2 1 = ⟨#[50, 58, 49]⟩ := by unfold textD; rw [n2, n1]; rfl
theorem tx01 : textD 0 1 = ⟨#[48, 58, 49]⟩ := by unfold textD; rw [n0, n1]; rfl
theorem tx15 : textD 1 5 = ⟨#[49, 58, 53]⟩ := by unfold textD; rw [n1, n5]; rfl
theorem txa : textV [(0, 3), (2, 1)] = ⟨#[48, 58, 51, 44, 50, 58, 49]⟩ := by
  rw [textV_ne (by simp)]; simp only [dots, List.map_cons, List.map_nil, tx03, tx21]; rfl
theorem txb : textV [(0, 1), (1, 5)] = ⟨#[48, 58, 49, 44, 49, 58, 53]⟩ := by
  rw [textV_ne (by simp)]; simp only [dots, List.map_cons, List.map_nil, tx01, tx15]; rfl
theorem txj : textV [(0, 3), (1, 5), (2, 1)] = ⟨#[48, 58, 51, 44, 49, 58, 53, 44, 50, 58, 49]⟩ := by
  rw [textV_ne (by simp)]; simp only [dots, List.map_cons, List.map_nil, tx03, tx15, tx21]; rfl
theorem txm : textV [(0, 1)] = ⟨#[48, 58, 49]⟩ := by
  rw [textV_ne (by simp)]; simp only [dots, List.map_cons, List.map_nil, tx01]; rfl
theorem ofl {l : List (Int × Int)} (h : ofF (cntF l) = l) : parseVE (textV l) = 0 ∧ parseVL (textV l) = l := by
  have := parse_textV (cnt_ok l)
  rwa [h] at this
theorem cof {g h : Nat → Int} (hg : okF g) (hh : okF h) : cntF (ofF (maxF g h)) = maxF g h := cnt_of (max_ok hg hh)
theorem mof {g h : Nat → Int} (hg : okF g) (hh : okF h) : cntF (ofF (minF g h)) = minF g h := cnt_of (min_ok hg hh)
theorem of_len (g : Nat → Int) : (ofF g).length ≤ 281474976710656 := by have := ofK_len g 32; show (ofK g 32).length ≤ _; omega
theorem parseV_len (s : ByteArray) : (parseVL s).length ≤ 281474976710656 := by
  by_cases h : okVec s
  · rw [(parseV_back h).1]; exact of_len _
  · rw [(parseV_bad h).2]; simp

section
variable [Globs]

set_option maxHeartbeats 2000000 in
set_option maxRecDepth 10000 in
theorem awake_vec (hG : NumG) : ACalls Tryd.prog 26 [] [] (fun r h => r = .tt ∧ h = []) := by
  obtain ⟨A, hA⟩ : ∃ A : List (Int × Int), A = [(0, 3), (2, 1)] := ⟨_, rfl⟩
  obtain ⟨B, hB⟩ : ∃ B : List (Int × Int), B = [(0, 1), (1, 5)] := ⟨_, rfl⟩
  obtain ⟨J, hJ⟩ : ∃ J : List (Int × Int), J = [(0, 3), (1, 5), (2, 1)] := ⟨_, rfl⟩
  obtain ⟨M, hM⟩ : ∃ M : List (Int × Int), M = [(0, 1)] := ⟨_, rfl⟩
  have h1 := parse_vec hG (textV A) (by rw [hA, txa]; decide)
  have h2 := parse_vec hG (textV B) (by rw [hB, txb]; decide)
  have pa := ofl (l := A) (by rw [hA]; decide +kernel)
  have pb := ofl (l := B) (by rw [hB]; decide +kernel)
  unfold ParseVR at h1 h2
  rw [pa.1, pa.2] at h1
  rw [pb.1, pb.2] at h2
  have h3 := join_prog A B (by rw [hA]; decide) (by rw [hB]; decide)
  rw [show ofF (maxF (cntF A) (cntF B)) = J by rw [hA, hB, hJ]; decide +kernel] at h3
  have h4 := text_vec hG J (by rw [hJ]; decide)
  rw [show ofF (cntF J) = J by rw [hJ]; decide +kernel] at h4
  have h5 := meet_prog A B (by rw [hA]; decide) (by rw [hB]; decide)
  rw [show ofF (minF (cntF A) (cntF B)) = M by rw [hA, hB, hM]; decide +kernel] at h5
  have h6 := text_vec hG M (by rw [hM]; decide)
  rw [show ofF (cntF M) = M by rw [hM]; decide +kernel] at h6
  have h7 := (leq_prog A B (by rw [hA]; decide) (by rw [hB]; decide)).not (by rw [hA, hB]; decide +kernel)
  have h8 := (has_prog A 0 2 (by rw [hA]; decide)).yes (by rw [hA]; decide +kernel)
  rw [hA, txa] at h1
  rw [hB, txb] at h2
  rw [hJ, txj] at h4
  rw [hM, txm] at h6
  rw [← hA] at h1
  rw [← hB] at h2
  rw [← hJ] at h4
  rw [← hM] at h6
  clear pa pb hA hB hJ hM
  refine rcalls Tryd.func26 rfl (by decide) ?_
  refine ⟨[], _, h1, ?_⟩
  rintro r hh ⟨rfl, rfl⟩
  refine ⟨.inl rfl, ?_⟩
  refine ⟨[], _, h2, ?_⟩
  rintro r hh ⟨rfl, rfl⟩
  refine ⟨.inl rfl, ?_⟩
  refine ⟨fun _ => ?_, fun e => absurd rfl (no e)⟩
  refine ⟨fun _ => ?_, fun e => absurd rfl (no e)⟩
  refine ⟨[], _, h3, ?_⟩
  rintro r hh ⟨rfl, rfl⟩
  refine ⟨.inl rfl, ?_⟩
  refine ⟨[], _, h4, ?_⟩
  rintro r hh ⟨rfl, rfl⟩
  refine ⟨.inl rfl, ?_⟩
  refine ⟨fun _ => ?_, fun e => absurd rfl (no e)⟩
  refine ⟨[], _, h5, ?_⟩
  rintro r hh ⟨rfl, rfl⟩
  refine ⟨.inl rfl, ?_⟩
  refine ⟨[], _, h6, ?_⟩
  rintro r hh ⟨rfl, rfl⟩
  refine ⟨.inl rfl, ?_⟩
  refine ⟨fun _ => ?_, fun e => absurd rfl (no e)⟩
  refine ⟨[], _, h7, ?_⟩
  rintro r hh ⟨rfl, rfl⟩
  refine ⟨.inl rfl, ?_⟩
  refine ⟨[], _, dfree rfl rfl, h8.args ⟨.refl _, vdot rfl rfl, trivial⟩, ?_⟩
  rintro r hh ⟨rfl, rfl⟩
  refine ⟨.inl rfl, ?_⟩
  exact ⟨[], [], .tt, lehN _, .tt, rfl, rfl⟩

set_option maxHeartbeats 4000000 in
set_option maxRecDepth 10000 in
theorem joins_prog (hG : NumG) (a b : List (Int × Int)) (s : ByteArray) (ha : a.length ≤ 281474976710656) (hb : b.length ≤ 281474976710656) (hs : s.size ≤ 1099511627776) :
    ACalls Tryd.prog 9 [vecV a, vecV b, str s] [] (fun r h => r = .tt ∧ h = []) := by
  have h1 := parse_vec hG s hs
  have h2 := parse_vref s hs
  unfold ParseVR at h1 h2
  have j1 := join_prog a b ha hb
  have j2 := join_ref a b ha hb
  have je := (equal_ref _ _ (of_len (maxF (cntF a) (cntF b))) (of_len (maxF (cntF a) (cntF b)))).yes (decide_eq_true rfl)
  have m1 := meet_prog a b ha hb
  have m2 := meet_ref a b ha hb
  have me := (equal_ref _ _ (of_len (minF (cntF a) (cntF b))) (of_len (minF (cntF a) (cntF b)))).yes (decide_eq_true rfl)
  have l1 := leq_prog a b ha hb
  have l2 := leq_ref a b ha hb
  have t1 := text_vec hG a ha
  have t2 := textv_ref a ha
  have pe := (equal_ref _ _ (parseV_len s) (parseV_len s)).yes (decide_eq_true rfl)
  generalize parseVL s = PL at *
  generalize parseVE s = PE at *
  generalize ofF (maxF (cntF a) (cntF b)) = J at *
  generalize ofF (minF (cntF a) (cntF b)) = M at *
  generalize textV (ofF (cntF a)) = T at *
  generalize decide (leqV (cntF a) (cntF b)) = Q at *
  refine rcalls Tryd.func9 rfl (by decide) ?_
  refine ⟨[], _, awake_vec hG, ?_⟩
  rintro r hh ⟨rfl, rfl⟩
  refine ⟨.inl rfl, ?_⟩
  refine ⟨fun _ => ?_, fun _ => ⟨fun _ => ?_, fun _ => ?_⟩⟩
  · exact ⟨[], [], .tt, lehN _, .tt, rfl, rfl⟩
  · exact ⟨[], [], .tt, lehN _, .tt, rfl, rfl⟩
  refine ⟨[], _, h1, ?_⟩
  rintro r hh ⟨rfl, rfl⟩
  refine ⟨.inl rfl, ?_⟩
  refine ⟨[], _, h2, ?_⟩
  rintro r hh ⟨rfl, rfl⟩
  refine ⟨.inl rfl, ?_⟩
  refine ⟨[], _, j1, ?_⟩
  rintro r hh ⟨rfl, rfl⟩
  refine ⟨.inl rfl, ?_⟩
  refine ⟨[], _, j2, ?_⟩
  rintro r hh ⟨rfl, rfl⟩
  refine ⟨.inl rfl, ?_⟩
  refine ⟨[], _, je, ?_⟩
  rintro r hh ⟨rfl, rfl⟩
  refine ⟨.inl rfl, ?_⟩
  refine ⟨[], _, m1, ?_⟩
  rintro r hh ⟨rfl, rfl⟩
  refine ⟨.inl rfl, ?_⟩
  refine ⟨[], _, m2, ?_⟩
  rintro r hh ⟨rfl, rfl⟩
  refine ⟨.inl rfl, ?_⟩
  refine ⟨[], _, me, ?_⟩
  rintro r hh ⟨rfl, rfl⟩
  refine ⟨.inl rfl, ?_⟩
  refine ⟨[], _, l1, ?_⟩
  rintro r hh ⟨rfl, rfl⟩
  refine ⟨.inl rfl, ?_⟩
  refine ⟨[], _, l2, ?_⟩
  rintro r hh ⟨rfl, rfl⟩
  refine ⟨.inl rfl, ?_⟩
  refine ⟨fun _ => ?_, fun e => by cases Q <;> cases e⟩
  refine ⟨[], _, t1, ?_⟩
  rintro r hh ⟨rfl, rfl⟩
  refine ⟨.inl rfl, ?_⟩
  refine ⟨[], _, t2, ?_⟩
  rintro r hh ⟨rfl, rfl⟩
  refine ⟨.inl rfl, ?_⟩
  refine ⟨fun _ => ?_, fun e => absurd rfl (no e)⟩
  refine ⟨[], _, pe, ?_⟩
  rintro r hh ⟨rfl, rfl⟩
  refine ⟨.inl rfl, ?_⟩
  exact ⟨[], [], .tt, lehN _, leTT (decide_eq_true rfl), rfl, rfl⟩

set_option maxHeartbeats 4000000 in
set_option maxRecDepth 10000 in
theorem back_vec (hG : NumG) (a b : List (Int × Int)) (s : ByteArray) (ha : a.length ≤ 281474976710656) (hb : b.length ≤ 281474976710656) (hs : s.size ≤ 1099511627776) :
    ACalls Tryd.prog 11 [vecV a, vecV b, str s] [] (fun r h => r = .tt ∧ h = []) := by
  have hsz : (textV (ofF (cntF a))).size ≤ 1099511627776 := by
    by_cases h : ofF (cntF a) = []
    · rw [h]; decide
    · have := acc_size (of_may (cnt_ok a) 32 (Nat.le_refl _)) _ (Nat.le_refl _)
      rw [acc_all _ h] at this
      have := ofK_len (cntF a) 32
      omega
  have t1 := text_vec hG a ha
  have h1 := parse_vec hG (textV (ofF (cntF a))) hsz
  have pa := parse_textV (cnt_ok a)
  unfold ParseVR at h1
  rw [pa.1, pa.2] at h1
  have s1 := (same_prog (ofF (cntF a)) a (of_len _) ha).yes (decide_eq_true (by rw [cnt_of (cnt_ok a)]))
  have y1 := (may_vec (ofF (cntF a)) (of_len _)).yes (decide_eq_true (by rw [cnt_of (cnt_ok a)]))
  have s2 := same_prog a b ha hb
  have l1 := leq_prog a b ha hb
  have l2 := leq_prog b a hb ha
  have h2 := parse_vec hG s hs
  unfold ParseVR at h2
  have hc : parseVE s = 0 ∧ parseVL s = ofF (cntF (parseVL s)) ∧ textV (ofF (cntF (parseVL s))) = s ∨ parseVE s = 2 ∧ parseVL s = [] := by
    by_cases h : okVec s
    · exact .inl ⟨(parseV_ok h).1, parseV_back h⟩
    · exact .inr (parseV_bad h)
  have y2 := may_vec (parseVL s) (parseV_len s)
  have t2 := text_vec hG (parseVL s) (parseV_len s)
  have hab : (tab (cntF a) = tab (cntF b)) ↔ leqV (cntF a) (cntF b) ∧ leqV (cntF b) (cntF a) := by
    rw [leq_iff, leq_iff, tab_ext]
    exact ⟨fun h => ⟨fun r hr => by rw [h r hr]; omega, fun r hr => by rw [h r hr]; omega⟩, fun h r hr => by have := h.1 r hr; have := h.2 r hr; omega⟩
  clear pa
  generalize textV (ofF (cntF (parseVL s))) = U at *
  generalize ofF (cntF (parseVL s)) = W at *
  generalize parseVL s = PL at *
  generalize parseVE s = PE at *
  generalize textV (ofF (cntF a)) = T at *
  generalize ofF (cntF a) = A at *
  refine rcalls Tryd.func11 rfl (by decide) ?_
  refine ⟨[], _, awake_vec hG, ?_⟩
  rintro r hh ⟨rfl, rfl⟩
  refine ⟨.inl rfl, ?_⟩
  refine ⟨fun _ => ?_, fun _ => ⟨fun _ => ?_, fun _ => ?_⟩⟩
  · exact ⟨[], [], .tt, lehN _, .tt, rfl, rfl⟩
  · exact ⟨[], [], .tt, lehN _, .tt, rfl, rfl⟩
  refine ⟨[], _, t1, ?_⟩
  rintro r hh ⟨rfl, rfl⟩
  refine ⟨.inl rfl, ?_⟩
  refine ⟨[], _, h1, ?_⟩
  rintro r hh ⟨rfl, rfl⟩
  refine ⟨.inl rfl, ?_⟩
  refine ⟨[], _, h2, ?_⟩
  rintro r hh ⟨rfl, rfl⟩
  refine ⟨.inl rfl, ?_⟩
  refine ⟨fun e => absurd rfl (yes e), fun _ => ?_⟩
  refine ⟨[], _, s1, ?_⟩
  rintro r hh ⟨rfl, rfl⟩
  refine ⟨.inl rfl, ?_⟩
  refine ⟨[], _, y1, ?_⟩
  rintro r hh ⟨rfl, rfl⟩
  refine ⟨.inl rfl, ?_⟩
  refine ⟨[], _, s2, ?_⟩
  rintro r hh ⟨rfl, rfl⟩
  refine ⟨.inl rfl, ?_⟩
  refine ⟨[], _, l1, ?_⟩
  rintro r hh ⟨rfl, rfl⟩
  refine ⟨.inl rfl, ?_⟩
  have rest : ∀ {X Y : Prop}, X → Y → X ∧ Y := fun x y => ⟨x, y⟩
  refine ⟨fun c1 => ?_, fun c1 => ?_⟩
  · refine ⟨[], _, l2, ?_⟩
    rintro r hh ⟨rfl, rfl⟩
    refine ⟨.inl rfl, ?_⟩
    refine ⟨fun c2 => ?_, fun _ => ?_⟩
    · exfalso
      have g1 := yes c1
      by_cases h : tab (cntF a) = tab (cntF b)
      · rw [decide_eq_true h, decide_eq_true (hab.1 h).2] at c2; cases c2
      · rw [decide_eq_false h, decide_eq_false (fun h2 => h (hab.2 ⟨g1, h2⟩))] at c2; cases c2
    rcases hc with ⟨rfl, e1, e2⟩ | ⟨rfl, rfl⟩
    · refine ⟨fun _ => ?_, fun e => absurd rfl (no e)⟩
      refine ⟨[], _, y2.yes (decide_eq_true e1), ?_⟩
      rintro r hh ⟨rfl, rfl⟩
      refine ⟨.inl rfl, ?_⟩
      refine ⟨[], _, t2, ?_⟩
      rintro r hh ⟨rfl, rfl⟩
      refine ⟨.inl rfl, ?_⟩
      refine ⟨fun _ => ?_, fun e => absurd e2 (no e)⟩
      exact ⟨[], [], .tt, lehN _, .tt, rfl, rfl⟩
    · refine ⟨fun e => absurd (yes e) (by decide), fun _ => ?_⟩
      refine ⟨fun _ => ?_, fun e => absurd rfl (no e)⟩
      exact ⟨[], [], .tt, lehN _, leTT rfl, rfl, rfl⟩
  · refine ⟨fun c2 => ?_, fun _ => ?_⟩
    · exfalso
      have g1 := no c1
      rw [decide_eq_false (fun h => g1 (hab.1 h).1)] at c2; cases c2
    rcases hc with ⟨rfl, e1, e2⟩ | ⟨rfl, rfl⟩
    · refine ⟨fun _ => ?_, fun e => absurd rfl (no e)⟩
      refine ⟨[], _, y2.yes (decide_eq_true e1), ?_⟩
      rintro r hh ⟨rfl, rfl⟩
      refine ⟨.inl rfl, ?_⟩
      refine ⟨[], _, t2, ?_⟩
      rintro r hh ⟨rfl, rfl⟩
      refine ⟨.inl rfl, ?_⟩
      refine ⟨fun _ => ?_, fun e => absurd e2 (no e)⟩
      exact ⟨[], [], .tt, lehN _, .tt, rfl, rfl⟩
    · refine ⟨fun e => absurd (yes e) (by decide), fun _ => ?_⟩
      refine ⟨fun _ => ?_, fun e => absurd rfl (no e)⟩
      exact ⟨[], [], .tt, lehN _, leTT rfl, rfl, rfl⟩

end
end Go.Proofs.YtmohncaoimeneaaDoor.Vc
