/-
  The laws of matrices, walked: awake, MatRaised, MatBack, MatLow.
-/
import Derived.Test.YthckagkciefliaaDoorMtParse
import Derived.Test.YthckagkciefliaaDoorVcLaws
set_option linter.unusedVariables false
set_option linter.unusedSectionVars false
namespace Go.Proofs.YthckagkciefliaaDoor.Mt
open Go AL Hx Dt Spl Vc

theorem n4 : numS 4 = ⟨#[52]⟩ := by unfold numS Lib.itoa; rw [if_neg (by decide)]; simp [Lib.decDigits]
theorem tx12 : textD 1 2 = ⟨#[49, 58, 50]⟩ := by unfold textD; rw [n1, n2]; rfl
theorem tx14 : textD 1 4 = ⟨#[49, 58, 52]⟩ := by unfold textD; rw [n1, n4]; rfl
def mA : List Vc1 := [[(0, 3), (1, 2)], [(0, 1)]]
def mB : List Vc1 := [[(0, 3), (1, 2)], [(0, 1), (1, 4)]]
theorem textR_may {l : Vc1} (h : ofF (cntF l) = l) : textR l = textV l := by unfold textR; rw [h]
theorem tv1 : textR [(0, 3), (1, 2)] = ⟨#[48, 58, 51, 44, 49, 58, 50]⟩ := by
  rw [textR_may (by decide +kernel), textV_ne (by simp)]; simp only [dots, List.map_cons, List.map_nil, tx03, tx12]; rfl
theorem tv2 : textR [(0, 1)] = ⟨#[48, 58, 49]⟩ := by
  rw [textR_may (by decide +kernel), textV_ne (by simp)]; simp only [dots, List.map_cons, List.map_nil, tx01]; rfl
theorem tv3 : textR [(0, 1), (1, 4)] = ⟨#[48, 58, 49, 44, 49, 58, 52]⟩ := by
  rw [textR_may (by decide +kernel), textV_ne (by simp)]; simp only [dots, List.map_cons, List.map_nil, tx01, tx14]; rfl
theorem tmA : textM mA = ⟨#[48, 58, 51, 44, 49, 58, 50, 59, 48, 58, 49]⟩ := by
  unfold textM rowsT mA
  simp only [List.map_cons, List.map_nil, tv1, tv2]; rfl
theorem tmB : textM mB = ⟨#[48, 58, 51, 44, 49, 58, 50, 59, 48, 58, 49, 44, 49, 58, 52]⟩ := by
  unfold textM rowsT mB
  simp only [List.map_cons, List.map_nil, tv1, tv3]; rfl
theorem joinV_self {a : Vc1} (h : mayV a) : joinV a a = a := by
  refine mayV_eq (joinV_may a a) h ?_
  rw [joinV_cnt]; funext r; simp only [maxF]; omega
theorem raise_again (m : List Vc1) {k : Nat} (v : Vc1) (hk : k < m.length) : raiseM (raiseM m k v) k (rowM (raiseM m k v) k) = raiseM m k v := by
  refine row_ext (raise_len _ _ _) fun i hi => ?_
  rw [raise_row]
  split
  · rename_i h
    obtain rfl : i = k := by omega
    refine joinV_self ?_
    rw [raise_row, if_pos ⟨by omega, by omega, by omega⟩]
    exact joinV_may _ _
  · rfl

section
variable [Globs]
theorem vrow {R : List Vc1} {i j : Nat} (h : i = j) : VLe (vecV (rowM R i)) (vecV (rowM R j)) := by subst h; exact .refl _

set_option maxHeartbeats 2000000 in
set_option maxRecDepth 10000 in
theorem awake_mat (hG : NumG) : ACalls Tryd.prog 7 [] [] (fun r h => r = .tt ∧ h = []) := by
  have hmay : mayM mA 2 := by decide +kernel
  obtain ⟨b1, b2⟩ := matText_back hmay
  obtain ⟨p1, p2⟩ := parseM_ok b1
  have szA : szM mA := small_sz (by decide +kernel)
  have szB : szM mB := small_sz (by decide +kernel)
  have h1 := parse_mat hG (textM mA) 2 (by rw [tmA]; decide)
  unfold ParseMR at h1
  rw [p1, p2, b2, tmA] at h1
  have h2 := raise_prog mA 1 [(1, 4)] szA (by decide)
  rw [show raiseM mA 1 [(1, 4)] = mB by decide +kernel] at h2
  have h3 := low_prog mA szA
  rw [show lowM mA = [(0, 1)] by decide +kernel] at h3
  have h4 := text_vec hG [(0, 1)] (by decide)
  rw [show textV (ofF (cntF [(0, 1)])) = ⟨#[48, 58, 49]⟩ from tv2] at h4
  have h5 := text_mat hG mB szB (by decide)
  rw [tmB] at h5
  have h6 := new_prog 3
  have h7 := (may_mat mA 2 szA).yes (decide_eq_true hmay)
  have hn : ((newL 3).length : Int) = 3 := by decide
  clear p1 p2 b1 b2 hmay szA szB
  generalize newL 3 = N at *
  generalize mA = A at *
  generalize mB = B at *
  generalize ([(0, 1)] : Vc1) = L at *
  refine rcalls Tryd.func7 rfl (by decide) ?_
  refine ⟨[], _, h1, ?_⟩
  rintro r hh ⟨rfl, rfl⟩
  refine ⟨.inl rfl, ?_⟩
  refine ⟨[1000], _, Nat.le_refl 2, h2.args ⟨.refl _, .refl _, vvec1 rfl rfl, trivial⟩, ?_⟩
  rintro r hh ⟨rfl, rfl⟩
  refine ⟨.inl rfl, ?_⟩
  refine ⟨fun _ => ?_, fun e => absurd rfl (no e)⟩
  refine ⟨[], _, h3, ?_⟩
  rintro r hh ⟨rfl, rfl⟩
  refine ⟨.inl rfl, ?_⟩
  refine ⟨[], _, h4, ?_⟩
  rintro r hh ⟨rfl, rfl⟩
  refine ⟨.inl rfl, ?_⟩
  refine ⟨fun _ => ?_, fun e => absurd rfl (no e)⟩
  refine ⟨[], _, h5, ?_⟩
  rintro r hh ⟨rfl, rfl⟩
  refine ⟨.inl rfl, ?_⟩
  refine ⟨fun _ => ?_, fun e => absurd rfl (no e)⟩
  refine ⟨[], _, h6, ?_⟩
  rintro r hh ⟨rfl, rfl⟩
  refine ⟨.inl rfl, ?_⟩
  refine ⟨fun _ => ?_, fun e => absurd hn (no e)⟩
  refine ⟨[], _, h7, ?_⟩
  rintro r hh ⟨rfl, rfl⟩
  refine ⟨.inl rfl, ?_⟩
  exact ⟨[], [], .tt, lehN _, .tt, rfl, rfl⟩


set_option maxHeartbeats 4000000 in
set_option maxRecDepth 10000 in
theorem raised_prog (hG : NumG) (m : List Vc1) (a : Int) (v : Vc1) (hm : m.length ≤ 9223372036854775807) (ha : 0 ≤ a ∧ a < 256) (_ : v.length ≤ 9223372036854775807) :
    ACalls Tryd.prog 4 [matV m, int .u8 a, vecV v] [] (fun r h => r = .tt ∧ h = []) := by
  have hs := small_prog m hm
  have hsz := @small_sz m
  have hdec := @of_decide_eq_true (smallP m)
  have w1 : IntKind.i64.wrap a = a := w64 (by omega) (by omega)
  obtain ⟨B, hB⟩ : ∃ B, decide (smallP m) = B := ⟨_, rfl⟩
  rw [hB] at hs
  refine rcalls Tryd.func4 rfl (by decide) ?_
  refine ⟨[], _, awake_mat hG, ?_⟩
  rintro r hh ⟨rfl, rfl⟩
  refine ⟨.inl rfl, ?_⟩
  refine ⟨[], _, hs, ?_⟩
  rintro r hh ⟨rfl, rfl⟩
  refine ⟨.inl rfl, ?_⟩
  refine ⟨fun _ => ?_, fun c1 => ⟨fun _ => ?_, fun c2 => ⟨fun _ => ?_, fun c3 => ?_⟩⟩⟩
  · exact ⟨[], [], .tt, lehN _, .tt, rfl, rfl⟩
  · exact ⟨[], [], .tt, lehN _, .tt, rfl, rfl⟩
  · exact ⟨[], [], .tt, lehN _, .tt, rfl, rfl⟩
  have hsm : smallP m := of_decide_eq_true (hB.trans (unnot c1))
  have hszm := hsz hsm
  have hne : ¬ (m.length : Int) = 0 := no c2
  have hv : ¬ 60 < (v.length : Int) := no c3
  obtain ⟨k, hk⟩ : ∃ k : Nat, a.tmod (m.length : Int) = (k : Int) ∧ k < m.length := by
    have h1 := Int.tmod_eq_emod_of_nonneg (a := a) (b := (m.length : Int)) ha.1
    have h2 := Int.emod_nonneg a hne
    have h3 := Int.emod_lt_of_pos a (show (0 : Int) < m.length by omega)
    exact ⟨(a % (m.length : Int)).toNat, by rw [h1]; omega, by omega⟩
  obtain ⟨hk1, hkl⟩ := hk
  have hkto : (k : Int).toNat * 1 + 0 = k := by omega
  have r1 := raise_prog m k v hszm (by omega)
  have hRl := raise_len m k v
  have hRr := raise_row m k v
  have hRR := raise_again m (k := k) v hkl
  have hRs := szM_raise hszm k v
  generalize raiseM m k v = R at *
  have r2 := raise_prog R k (rowM R ((k : Int).toNat * 1 + 0)) hRs (by rw [hkto]; have := hRs.2 k (by omega); omega)
  rw [hkto, hRR] at r2
  have j1 := join_prog (rowM m ((k : Int).toNat * 1 + 0)) v (by rw [hkto]; have := hszm.2 k hkl; omega) (by omega)
  have j2 : ofF (maxF (cntF (rowM m ((k : Int).toNat * 1 + 0))) (cntF v)) = rowM R k := by
    rw [hkto, hRr k, if_pos ⟨by omega, by omega, by omega⟩]; rfl
  rw [j2] at j1
  have s1 := (same_prog (rowM R k) (rowM R k) (by have := hRs.2 k (by omega); omega) (by have := hRs.2 k (by omega); omega)).yes (decide_eq_true rfl)
  have s2 := (same_mat R R hRs hRs).yes (decide_eq_true rfl)
  have hSi : ∀ i : Nat, i < m.length → i ≠ k → ACalls Tryd.prog 14 [vecV (rowM R ((i : Int).toNat * 1 + 0)), vecV (rowM m ((i : Int).toNat * 1 + 0))] [] (fun r h => r = .tt ∧ h = []) := fun i hi hne => by
    have e : rowM R i = rowM m i := by rw [hRr i, if_neg (by omega)]
    rw [show (i : Int).toNat * 1 + 0 = i by omega, e]
    exact (same_prog (rowM m i) (rowM m i) (by have := hszm.2 i hi; omega) (by have := hszm.2 i hi; omega)).yes (decide_eq_true rfl)
  have hw : (IntKind.i64.wrap a).tmod (m.length : Int) = (k : Int) := by rw [w1, hk1]
  refine ⟨hne, ?_⟩
  rw [hw]
  refine ⟨[], _, r1, ?_⟩
  rintro r hh ⟨rfl, rfl⟩
  refine ⟨.inl rfl, ?_⟩
  refine ⟨fun e => absurd (by omega) (yes e), fun _ => ?_⟩
  refine ⟨Nat, fun i => [(0, matV m), (2, vecV v), (7, .tt), (8, int .i64 k), (9, matV R), (10, int .i64 i)], fun _ => [], fun i => i ≤ m.length, fun i => m.length - i,
    ⟨0, [], Nat.zero_le _, lehN _, ⟨.same _ trivial, .same _ trivial, .tt, leI rfl, .same _ trivial, leI rfl, trivial⟩⟩, ?_⟩
  intro i hi
  have hi : i ≤ m.length := hi
  refine ⟨fun c => ?_, fun c => ?_⟩
  · have f1 : (i : Int) < m.length := yes c
    have e1 : IntKind.i64.wrap ((i : Int) + 1) = ((i + 1 : Nat) : Int) := by rw [w64 (by omega) (by omega)]; omega
    by_cases hik : (i : Int) = (k : Int)
    · have hd : decide (¬ (i : Int) = (k : Int)) = false := decide_eq_false (fun h => h hik)
      refine .inr ⟨14, by decide +kernel, ?_⟩
      refine ⟨_, rfl, ?_⟩
      refine ⟨_, rfl, ?_⟩
      refine ⟨_, rfl, ?_⟩
      rw [hd]
      refine ⟨_, rfl, ?_⟩
      refine ⟨_, rfl, ?_⟩
      refine ⟨_, rfl, ?_⟩
      refine ⟨_, rfl, ?_⟩
      refine ⟨_, rfl, ?_⟩
      refine ⟨_, rfl, ?_⟩
      refine ⟨_, rfl, ?_⟩
      refine ⟨_, rfl, ?_⟩
      refine ⟨_, rfl, ?_⟩
      refine ⟨_, rfl, ?_⟩
      refine ⟨_, rfl, ?_⟩
      exact ⟨trivial, i + 1, [], by show i + 1 ≤ m.length; omega, by show m.length - (i + 1) < m.length - i; omega, lehN _, ⟨.same _ trivial, .same _ trivial, .tt, leI rfl, .same _ trivial, leI e1, trivial⟩⟩
    · have hd : decide (¬ (i : Int) = (k : Int)) = true := decide_eq_true hik
      refine .inr ⟨14, by decide +kernel, ?_⟩
      refine ⟨_, rfl, ?_⟩
      refine ⟨_, rfl, ?_⟩
      refine ⟨_, rfl, ?_⟩
      rw [hd]
      refine ⟨_, rfl, ?_⟩
      refine ⟨_, rfl, ?_⟩
      refine ⟨_, rfl, ?_⟩
      refine ⟨_, ⟨⟨by omega, by omega⟩, rfl⟩, ?_⟩
      refine ⟨_, rfl, ?_⟩
      refine ⟨_, rfl, ?_⟩
      refine ⟨_, rfl, ?_⟩
      refine ⟨_, ⟨⟨by omega, f1⟩, rfl⟩, ?_⟩
      refine ⟨_, rfl, ?_⟩
      refine ⟨_, ⟨[], _, hSi i (by omega) (by omega), by rintro r h ⟨rfl, rfl⟩; exact ⟨.inl rfl, rfl, rfl⟩⟩, ?_⟩
      refine ⟨_, rfl, ?_⟩
      exact ⟨trivial, i + 1, [], by show i + 1 ≤ m.length; omega, by show m.length - (i + 1) < m.length - i; omega, lehN _, ⟨.same _ trivial, .same _ trivial, .tt, leI rfl, .same _ trivial, leI e1, trivial⟩⟩
  · refine ⟨⟨by omega, by omega⟩, ?_⟩
    refine ⟨[], _, r2.args ⟨.refl _, .refl _, vrow hkto, trivial⟩, ?_⟩
    rintro r hh ⟨rfl, rfl⟩
    refine ⟨.inl rfl, ?_⟩
    refine .inr ⟨19, by decide +kernel, ?_⟩
    refine ⟨_, rfl, ?_⟩
    refine ⟨_, rfl, ?_⟩
    refine ⟨_, rfl, ?_⟩
    refine ⟨_, rfl, ?_⟩
    refine ⟨_, ⟨⟨by omega, by omega⟩, rfl⟩, ?_⟩
    refine ⟨_, rfl, ?_⟩
    refine ⟨_, rfl, ?_⟩
    refine ⟨_, rfl, ?_⟩
    refine ⟨_, ⟨⟨by omega, by omega⟩, rfl⟩, ?_⟩
    refine ⟨_, rfl, ?_⟩
    refine ⟨_, rfl, ?_⟩
    refine ⟨_, ⟨[], _, j1, by rintro r h ⟨rfl, rfl⟩; exact ⟨.inl rfl, rfl, rfl⟩⟩, ?_⟩
    refine ⟨_, ⟨[], _, s1.args ⟨vrow hkto, .refl _, trivial⟩, by rintro r h ⟨rfl, rfl⟩; exact ⟨.inl rfl, rfl, rfl⟩⟩, ?_⟩
    refine ⟨_, rfl, ?_⟩
    refine ⟨_, rfl, ?_⟩
    refine ⟨_, rfl, ?_⟩
    refine ⟨_, rfl, ?_⟩
    refine ⟨_, ⟨[], _, s2, by rintro r h ⟨rfl, rfl⟩; exact ⟨.inl rfl, rfl, rfl⟩⟩, ?_⟩
    refine ⟨_, rfl, ?_⟩
    exact ⟨[], [], .tt, lehN _, .tt, rfl, rfl⟩

set_option maxHeartbeats 4000000 in
set_option maxRecDepth 10000 in
theorem back_mat (hG : NumG) (m : List Vc1) (s : ByteArray) (n : Int) (hm : m.length ≤ 9223372036854775807) (hs : s.size ≤ 1099511627775) (hn : 0 ≤ n ∧ n < 256) :
    ACalls Tryd.prog 3 [matV m, str s, int .u8 n] [] (fun r h => r = .tt ∧ h = []) := by
  have h0 := small_prog m hm
  have hsz := @small_sz m
  obtain ⟨B, hB⟩ : ∃ B, decide (smallP m) = B := ⟨_, rfl⟩
  rw [hB] at h0
  have w1 : IntKind.i64.wrap n = n := w64 (by omega) (by omega)
  have q1 := parse_mat hG s n hs
  unfold ParseMR at q1
  have hc : (parseME s n = 0 ∧ szM (parseML s n) ∧ (parseML s n).length ≤ 4096 ∧ mayM (parseML s n) n ∧ textM (parseML s n) = s) ∨ (parseME s n = 2 ∧ parseML s n = []) := by
    by_cases h : okMat s n
    · obtain ⟨a, b⟩ := parseM_ok h
      obtain ⟨c, d⟩ := parseM_back h
      rw [← b] at c d
      refine .inl ⟨a, ⟨?_, fun i hi => ?_⟩, ?_, c, d⟩
      · have := c.2.1; have := c.2.2.1; omega
      · rw [c.2.2.2 i hi]; have := ofK_len (cntF (rowM (parseML s n) i)) 32; show (ofK _ 32).length ≤ _; omega
      · have := c.2.1; have := c.2.2.1; omega
    · exact .inr (parseM_bad h)
  have q2 := fun h => may_mat (parseML s n) n h
  have q3 := fun h => text_mat hG (parseML s n) h
  generalize parseML s n = Y at *
  generalize parseME s n = E at *
  have k1 := fun h => may_mat m m.length h
  have k2 := fun h => text_mat hG m h
  have k3 : mayM m m.length → (textM m).size ≤ 1099511627775 → ACalls Tryd.prog 10 [str (textM m), int .i64 m.length] [] (fun r h => r = .tup 2 (pair (matV m) (int .i64 0)) ∧ h = []) := fun h hz => by
    obtain ⟨b1, b2⟩ := matText_back h
    obtain ⟨p1, p2⟩ := parseM_ok b1
    have := parse_mat hG (textM m) m.length hz
    unfold ParseMR at this
    rwa [p1, p2, b2] at this
  have k4 : m.length ≤ 40 → (textM m).size ≤ 1099511627775 := fun h => by
    have := textM_size m
    show (joinC 59 ((rowsT m).map (·.data.toList))).toArray.size ≤ _
    simp only [List.size_toArray]
    omega
  have k5 := fun h => (same_mat m m h h).yes (decide_eq_true rfl)
  generalize textM m = T at *
  obtain ⟨D, hD⟩ : ∃ D, decide (mayM m m.length) = D := ⟨_, rfl⟩
  rw [hD] at k1
  refine rcalls Tryd.func3 rfl (by decide) ?_
  refine ⟨[], _, awake_mat hG, ?_⟩
  rintro r hh ⟨rfl, rfl⟩
  refine ⟨.inl rfl, ?_⟩
  refine ⟨[], _, h0, ?_⟩
  rintro r hh ⟨rfl, rfl⟩
  refine ⟨.inl rfl, ?_⟩
  refine ⟨fun _ => ?_, fun c1 => ?_⟩
  · exact ⟨[], [], .tt, lehN _, .tt, rfl, rfl⟩
  have hsm : smallP m := of_decide_eq_true (hB.trans (unnot c1))
  have hszm := hsz hsm
  have h40 := hsm.1
  refine ⟨[], _, k1 hszm, ?_⟩
  rintro r hh ⟨rfl, rfl⟩
  refine ⟨.inl rfl, ?_⟩
  refine ⟨fun d1 => ?_, fun _ => ?_⟩
  · have hmm : mayM m m.length := of_decide_eq_true (hD.trans d1)
    refine ⟨[], _, k2 hszm (by omega), ?_⟩
    rintro r hh ⟨rfl, rfl⟩
    refine ⟨.inl rfl, ?_⟩
    refine ⟨[], _, k3 hmm (k4 h40), ?_⟩
    rintro r hh ⟨rfl, rfl⟩
    refine ⟨.inl rfl, ?_⟩
    refine ⟨fun e => absurd rfl (yes e), fun _ => ?_⟩
    refine ⟨[], _, k5 hszm, ?_⟩
    rintro r hh ⟨rfl, rfl⟩
    refine ⟨.inl rfl, ?_⟩
    rw [w1]
    refine ⟨[], _, q1, ?_⟩
    rintro r hh ⟨rfl, rfl⟩
    refine ⟨.inl rfl, ?_⟩
    rcases hc with ⟨rfl, e1, e2, e3, e4⟩ | ⟨rfl, rfl⟩
    · refine ⟨fun _ => ?_, fun e => absurd rfl (no e)⟩
      refine ⟨[], _, (q2 e1).yes (decide_eq_true e3), ?_⟩
      rintro r hh ⟨rfl, rfl⟩
      refine ⟨.inl rfl, ?_⟩
      refine ⟨[], _, q3 e1 e2, ?_⟩
      rintro r hh ⟨rfl, rfl⟩
      refine ⟨.inl rfl, ?_⟩
      refine ⟨fun _ => ?_, fun e => absurd e4 (no e)⟩
      exact ⟨[], [], .tt, lehN _, .tt, rfl, rfl⟩
    · refine ⟨fun e => absurd (yes e) (by decide), fun _ => ?_⟩
      refine ⟨fun _ => ?_, fun e => absurd rfl (no e)⟩
      exact ⟨[], [], .tt, lehN _, leTT rfl, rfl, rfl⟩
  · rw [w1]
    refine ⟨[], _, q1, ?_⟩
    rintro r hh ⟨rfl, rfl⟩
    refine ⟨.inl rfl, ?_⟩
    rcases hc with ⟨rfl, e1, e2, e3, e4⟩ | ⟨rfl, rfl⟩
    · refine ⟨fun _ => ?_, fun e => absurd rfl (no e)⟩
      refine ⟨[], _, (q2 e1).yes (decide_eq_true e3), ?_⟩
      rintro r hh ⟨rfl, rfl⟩
      refine ⟨.inl rfl, ?_⟩
      refine ⟨[], _, q3 e1 e2, ?_⟩
      rintro r hh ⟨rfl, rfl⟩
      refine ⟨.inl rfl, ?_⟩
      refine ⟨fun _ => ?_, fun e => absurd e4 (no e)⟩
      exact ⟨[], [], .tt, lehN _, .tt, rfl, rfl⟩
    · refine ⟨fun e => absurd (yes e) (by decide), fun _ => ?_⟩
      refine ⟨fun _ => ?_, fun e => absurd rfl (no e)⟩
      exact ⟨[], [], .tt, lehN _, leTT rfl, rfl, rfl⟩


theorem leTf {h : List AO} {l : List Nat} {a b : Bool} (e : a = b) : LeV h l (tf a) (tf b) := by subst e; cases a <;> first | exact .tt | exact .ff

end
end Go.Proofs.YthckagkciefliaaDoor.Mt
