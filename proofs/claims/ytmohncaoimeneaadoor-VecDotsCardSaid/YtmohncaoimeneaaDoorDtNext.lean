/-
  The contracts of the dot behind one, and of a dot's text: the program's and the document's.
-/
import Derived.Test.YtmohncaoimeneaaDoorDtCmp
import Derived.Test.YtmohncaoimeneaaDoorHxNum
set_option linter.unusedVariables false
set_option linter.unusedSectionVars false
namespace Go.Proofs.YtmohncaoimeneaaDoor.Dt
open Go AL Hx

def nextE (a b : Int) : Int := if a < 0 ∨ 31 < a ∨ b < 0 ∨ 1099511627776 < b then 1 else if b = 1099511627776 then 8 else 0
def nextR (a b : Int) : Int := if nextE a b = 0 then a else 0
def nextQ (a b : Int) : Int := if nextE a b = 0 then b + 1 else 0
def NextR (a b : Int) (r : AV) (h : List AO) : Prop := r = .tup 2 (pair (dotV (nextR a b) (nextQ a b)) (int .i64 (nextE a b))) ∧ h = []
theorem next_bad {a b e : Int} (h : nextE a b = e) (he : e ≠ 0) : nextR a b = 0 ∧ nextQ a b = 0 := by
  unfold nextR nextQ
  rw [h, if_neg he, if_neg he]
  exact ⟨rfl, rfl⟩
theorem next_ok {a b : Int} (h : nextE a b = 0) : nextR a b = a ∧ nextQ a b = b + 1 ∧ 0 ≤ a ∧ a ≤ 31 ∧ 0 ≤ b ∧ b < 1099511627776 := by
  unfold nextR nextQ
  rw [h]
  refine ⟨rfl, rfl, ?_⟩
  unfold nextE at h
  split at h
  · omega
  · split at h <;> omega
theorem next_cases (a b : Int) : nextE a b = 0 ∨ nextE a b ≠ 0 ∧ (b < 0 ∨ b ≥ 1099511627776 ∨ a < 0 ∨ a > 31) := by
  unfold nextE
  split
  · right; omega
  · split
    · right; omega
    · left; rfl

section
variable [Globs]

set_option maxHeartbeats 1000000 in
set_option maxRecDepth 10000 in
theorem next_prog (a b : Int) : ACalls Tryd.prog 21 [dotV a b] [] (NextR a b) := by
  have bad : ∀ (h : List AO) (f : Nat → AV) (e : Int), f 0 = int .i64 0 → f 1 = int .i64 0 → e ≠ 0 → nextE a b = e → ∃ l h1 c, LeH 0 h l h1 ∧ LeV h l (.tup 2 fun i => [.agg 2 f, int .i64 e].getD i .top) c ∧ NextR a b c h1 := fun h f e h0 h1 he hv => by
    obtain ⟨g1, g2⟩ := next_bad hv he
    exact ⟨[], [], _, lehN _, le_pair (le_dot (by rw [h0]; exact leI g1.symm) (by rw [h1]; exact leI g2.symm)) (leI hv.symm), rfl, rfl⟩
  refine rcalls Tryd.func21 rfl (by decide) ?_
  refine ⟨[], _, replica_prog a, ?_⟩
  rintro r h ⟨rfl, rfl⟩
  refine ⟨.inl rfl, ?_⟩
  refine ⟨fun c1 => ?_, fun c1 => ⟨fun c2 => ?_, fun c2 => ⟨fun c3 => ?_, fun c3 => ?_⟩⟩⟩
  · have g : ¬ (0 ≤ a ∧ a ≤ 31) := notT c1
    exact bad _ _ _ rfl rfl (by decide) (by unfold nextE; rw [if_pos (by omega)])
  · have g := yes c2
    exact bad _ _ _ rfl rfl (by decide) (by unfold nextE; rw [if_pos (by omega)])
  · have g := yes c3
    exact bad _ _ _ rfl rfl (by decide) (by unfold nextE; rw [if_pos (by omega)])
  have g1 : 0 ≤ a ∧ a ≤ 31 := notF c1
  have g2 := no c2
  have g3 := no c3
  refine ⟨fun c4 => ?_, fun c4 => ?_⟩
  · have g := yes c4
    exact bad _ _ _ rfl rfl (by decide) (by unfold nextE; rw [if_neg (by omega), if_pos g])
  have g4 := no c4
  have hv : nextE a b = 0 := by unfold nextE; rw [if_neg (by omega), if_neg g4]
  obtain ⟨e1, e2, _⟩ := next_ok hv
  exact ⟨[], [], _, lehN _, le_pair (le_dot (leI e1.symm) (leI (by rw [e2, w64 (by omega) (by omega)]))) (leI hv.symm), rfl, rfl⟩

set_option maxHeartbeats 1000000 in
set_option maxRecDepth 10000 in
theorem next_ref (a b : Int) : ACalls Tryd.prog 22 [dotV a b] [] (NextR a b) := by
  have bad : ∀ (h : List AO) (f : Nat → AV) (e : Int), f 0 = int .i64 0 → f 1 = int .i64 0 → e ≠ 0 → nextE a b = e → ∃ l h1 c, LeH 0 h l h1 ∧ LeV h l (.tup 2 fun i => [.agg 2 f, int .i64 e].getD i .top) c ∧ NextR a b c h1 := fun h f e h0 h1 he hv => by
    obtain ⟨g1, g2⟩ := next_bad hv he
    exact ⟨[], [], _, lehN _, le_pair (le_dot (by rw [h0]; exact leI g1.symm) (by rw [h1]; exact leI g2.symm)) (leI hv.symm), rfl, rfl⟩
  refine rcalls Tryd.func22 rfl (by decide) ?_
  refine ⟨fun c1 => ?_, fun c1 => ⟨fun c2 => ?_, fun c2 => ⟨fun c3 => ?_, fun c3 => ⟨fun c4 => ?_, fun c4 => ?_⟩⟩⟩⟩
  · have g := yes c1
    exact bad _ _ _ rfl rfl (by decide) (by unfold nextE; rw [if_pos (by omega)])
  · have g := yes c2
    exact bad _ _ _ rfl rfl (by decide) (by unfold nextE; rw [if_pos (by omega)])
  · have g := yes c3
    exact bad _ _ _ rfl rfl (by decide) (by unfold nextE; rw [if_pos (by omega)])
  · have g := yes c4
    exact bad _ _ _ rfl rfl (by decide) (by unfold nextE; rw [if_pos (by omega)])
  have g1 := no c1
  have g2 := no c2
  have g3 := no c3
  have g4 := no c4
  refine ⟨fun c5 => ?_, fun c5 => ?_⟩
  · have g := yes c5
    exact bad _ _ _ rfl rfl (by decide) (by unfold nextE; rw [if_neg (by omega), if_pos g])
  have g5 := no c5
  have hv : nextE a b = 0 := by unfold nextE; rw [if_neg (by omega), if_neg g5]
  obtain ⟨e1, e2, _⟩ := next_ok hv
  exact ⟨[], [], _, lehN _, le_pair (le_dot (leI e1.symm) (leI (by rw [e2, w64 (by omega) (by omega)]))) (leI hv.symm), rfl, rfl⟩

set_option maxHeartbeats 1000000 in
set_option maxRecDepth 10000 in
theorem text_prog (hG : NumG) (a b : Int) (ha : -9223372036854775808 ≤ a ∧ a < 9223372036854775808) (hb : -9223372036854775808 ≤ b ∧ b < 9223372036854775808) :
    ACalls Tryd.prog 18 [dotV a b] [] (fun r h => r = str (textD a b) ∧ h = []) := by
  have h1 := number_prog hG a ha.1 ha.2
  have h2 := number_prog hG b hb.1 hb.2
  have z1 := num_size_le ha.1 ha.2
  have z2 := num_size_le hb.1 hb.2
  have e : textD a b = numS a ++ ⟨#[58]⟩ ++ numS b := rfl
  generalize textD a b = T at *
  generalize numS a = A at *
  generalize numS b = B at *
  refine rcalls Tryd.func18 rfl (by decide) ?_
  refine .inl ⟨⟨by decide +kernel, by decide +kernel⟩, ?_⟩
  refine ⟨.string A, h1.mono fun r h ⟨e1, e2⟩ => ⟨.inl e1, e2⟩, ?_⟩
  refine ⟨by show A.size + 1 < _; omega, ?_⟩
  refine ⟨.string B, h2.mono fun r h ⟨e1, e2⟩ => ⟨.inl e1, e2⟩, ?_⟩
  refine ⟨by rw [ByteArray.size_append]; show A.size + 1 + B.size < _; omega, ?_⟩
  exact ⟨[], [], _, lehN _, leS e.symm, rfl, rfl⟩

set_option maxHeartbeats 1000000 in
set_option maxRecDepth 10000 in
theorem text_ref (a b : Int) (ha : -9223372036854775808 ≤ a ∧ a < 9223372036854775808) (hb : -9223372036854775808 ≤ b ∧ b < 9223372036854775808) :
    ACalls Tryd.prog 19 [dotV a b] [] (fun r h => r = str (textD a b) ∧ h = []) := by
  have h1 := number_ref _ a (Nat.le_refl _) ha.1 ha.2
  have h2 := number_ref _ b (Nat.le_refl _) hb.1 hb.2
  have z1 := num_size_le ha.1 ha.2
  have z2 := num_size_le hb.1 hb.2
  have e : textD a b = numS a ++ ⟨#[58]⟩ ++ numS b := rfl
  generalize textD a b = T at *
  generalize numS a = A at *
  generalize numS b = B at *
  refine rcalls Tryd.func19 rfl (by decide) ?_
  refine .inl ⟨⟨by decide +kernel, by decide +kernel⟩, ?_⟩
  refine ⟨.string A, h1.mono fun r h ⟨e1, e2⟩ => ⟨.inl e1, e2⟩, ?_⟩
  refine ⟨by show A.size + 1 < _; omega, ?_⟩
  refine ⟨.string B, h2.mono fun r h ⟨e1, e2⟩ => ⟨.inl e1, e2⟩, ?_⟩
  refine ⟨by rw [ByteArray.size_append]; show A.size + 1 + B.size < _; omega, ?_⟩
  exact ⟨[], [], _, lehN _, leS e.symm, rfl, rfl⟩

end
end Go.Proofs.YtmohncaoimeneaaDoor.Dt
