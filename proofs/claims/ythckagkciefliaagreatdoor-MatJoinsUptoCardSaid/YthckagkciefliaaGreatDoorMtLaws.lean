/-
  The laws of matrices, walked: awake, MatRaised, MatBack, MatLow.
-/
import Derived.Test.YthckagkciefliaaGreatDoorMtParse
import Derived.Test.YthckagkciefliaaGreatDoorVcLaws
set_option linter.unusedVariables false
set_option linter.unusedSectionVars false
namespace Go.Proofs.YthckagkciefliaaGreatDoor.Mt
open Go AL Hx Dt Spl Vc

theorem n4 : numS 4 = ⟨#[52]⟩ := by unfold numS Lib.itoa; rw [if_neg (by decide)]; simp [Lib.decDigits]
theorem tx12 : textD 1 2 = ⟨#[49, 58, 50]⟩ := by unfold textD; rw [n1, n2]; rfl
theorem tx14 : textD 1 4 = ⟨#[49, 58, 52]⟩ := by unfold textD; rw [n1, n4]; rfl
def mA : List Vc1 := [[(0, 3), (1, 2)], [(0, 1)]]
def mB : List Vc1 := [[(0, 3), (1, 2)], [(0, 1), (1, 4)]]
theorem textR_may {l : Vc1} (h : ofF (cntF l) = l) : textR l = textV l := by unfold textR; rw [h]
theorem tv1 : textR [(0, 3), (1, 2)] = ⟨#[48, 58, 51, 44, 49, 58, 50]⟩ := by
  rw [textR_may (by decide +kernel), textV_ne (by simp)]; simp only [dots, List.map_cons, List.map_nil, tx03, tx12]; rfl
theorem tv2 : textR [(0, 1)] = ⟨#[48, 58, 49]⟩ := by
  rw [textR_may (by decide +kernel), textV_ne (by simp)]; simp only [dots, List.map_cons, List.map_nil, tx01]; rfl
theorem tv3 : textR [(0, 1), (1, 4)] = ⟨#[48, 58, 49, 44, 49, 58, 52]⟩ := by
  rw [textR_may (by decide +kernel), textV_ne (by simp)]; simp only [dots, List.map_cons, List.map_nil, tx01, tx14]; rfl
theorem tmA : textM mA = ⟨#[48, 58, 51, 44, 49, 58, 50, 59, 48, 58, 49]⟩ := by
  unfold textM rowsT mA
  simp only [List.map_cons, List.map_nil, tv1, tv2]; rfl
theorem tmB : textM mB = ⟨#[48, 58, 51, 44, 49, 58, 50, 59, 48, 58, 49, 44, 49, 58, 52]⟩ := by
  unfold textM rowsT mB
  simp only [List.map_cons, List.map_nil, tv1, tv3]; rfl
theorem joinV_self {a : Vc1} (h : mayV a) : joinV a a = a := by
  refine mayV_eq (joinV_may a a) h ?_
  rw [joinV_cnt]; funext r; simp only [maxF]; omega
theorem raise_again (m : List Vc1) {k : Nat} (v : Vc1) (hk : k < m.length) : raiseM (raiseM m k v) k (rowM (raiseM m k v) k) = raiseM m k v := by
  refine row_ext (raise_len _ _ _) fun i hi => ?_
  rw [raise_row]
  split
  · rename_i h
    obtain rfl : i = k := by omega
    refine joinV_self ?_
    rw [raise_row, if_pos ⟨by omega, by omega, by omega⟩]
    exact joinV_may _ _
  · rfl

section
variable [Globs]
theorem vrow {R : List Vc1} {i j : Nat} (h : i = j) : VLe (vecV (rowM R i)) (vecV (rowM R j)) := by subst h; exact .refl _

set_option maxHeartbeats 2000000 in
set_option maxRecDepth 10000 in
theorem awake_mat (hG : NumG) : ACalls Tryz.prog 10 [] [] (fun r h => r = .tt ∧ h = []) := by
  have hmay : mayM mA 2 := by decide +kernel
  obtain ⟨b1, b2⟩ := matText_back hmay
  obtain ⟨p1, p2⟩ := parseM_ok b1
  have szA : szM mA := small_sz (by decide +kernel)
  have szB : szM mB := small_sz (by decide +kernel)
  have h1 := parse_mat hG (textM mA) 2 (by rw [tmA]; decide)
  unfold ParseMR at h1
  rw [p1, p2, b2, tmA] at h1
  have h2 := raise_prog mA 1 [(1, 4)] szA (by decide)
  rw [show raiseM mA 1 [(1, 4)] = mB by decide +kernel] at h2
  have h3 := low_prog mA szA
  rw [show lowM mA = [(0, 1)] by decide +kernel] at h3
  have h4 := text_vec hG [(0, 1)] (by decide)
  rw [show textV (ofF (cntF [(0, 1)])) = ⟨#[48, 58, 49]⟩ from tv2] at h4
  have h5 := text_mat hG mB szB (by decide)
  rw [tmB] at h5
  have h6 := new_prog 3
  have h7 := (may_mat mA 2 szA).yes (decide_eq_true hmay)
  have hn : ((newL 3).length : Int) = 3 := by decide
  clear p1 p2 b1 b2 hmay szA szB
  generalize newL 3 = N at *
  generalize mA = A at *
  generalize mB = B at *
  generalize ([(0, 1)] : Vc1) = L at *
  refine rcalls Tryz.func10 rfl (by decide) ?_
  refine ⟨[], _, h1, ?_⟩
  rintro r hh ⟨rfl, rfl⟩
  refine ⟨.inl rfl, ?_⟩
  refine ⟨[1000], _, Nat.le_refl 2, h2.args ⟨.refl _, .refl _, vvec1 rfl rfl, trivial⟩, ?_⟩
  rintro r hh ⟨rfl, rfl⟩
  refine ⟨.inl rfl, ?_⟩
  refine ⟨fun _ => ?_, fun e => absurd rfl (no e)⟩
  refine ⟨[], _, h3, ?_⟩
  rintro r hh ⟨rfl, rfl⟩
  refine ⟨.inl rfl, ?_⟩
  refine ⟨[], _, h4, ?_⟩
  rintro r hh ⟨rfl, rfl⟩
  refine ⟨.inl rfl, ?_⟩
  refine ⟨fun _ => ?_, fun e => absurd rfl (no e)⟩
  refine ⟨[], _, h5, ?_⟩
  rintro r hh ⟨rfl, rfl⟩
  refine ⟨.inl rfl, ?_⟩
  refine ⟨fun _ => ?_, fun e => absurd rfl (no e)⟩
  refine ⟨[], _, h6, ?_⟩
  rintro r hh ⟨rfl, rfl⟩
  refine ⟨.inl rfl, ?_⟩
  refine ⟨fun _ => ?_, fun e => absurd hn (no e)⟩
  refine ⟨[], _, h7, ?_⟩
  rintro r hh ⟨rfl, rfl⟩
  refine ⟨.inl rfl, ?_⟩
  exact ⟨[], [], .tt, lehN _, .tt, rfl, rfl⟩


theorem leTf {h : List AO} {l : List Nat} {a b : Bool} (e : a = b) : LeV h l (tf a) (tf b) := by subst e; cases a <;> first | exact .tt | exact .ff

end
end Go.Proofs.YthckagkciefliaaGreatDoor.Mt
