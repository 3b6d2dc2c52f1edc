/-
  The contracts of matrices: whether one may be, its text, a text's matrix, whether two are the same.
-/
import Derived.Test.YthckagkciefliaaGreatDoorMtW
set_option linter.unusedVariables false
set_option linter.unusedSectionVars false
namespace Go.Proofs.YthckagkciefliaaGreatDoor.Mt
open Go AL Hx Dt Spl Vc

def smallP (m : List Vc1) : Prop := m.length ≤ 40 ∧ ∀ i, i < m.length → (rowM m i).length ≤ 60
instance (m : List Vc1) : Decidable (smallP m) := by unfold smallP; exact inferInstance
theorem small_sz {m : List Vc1} (h : smallP m) : szM m := ⟨by have := h.1; omega, fun i hi => by have := h.2 i hi; omega⟩
theorem join_length (c : UInt8) (B : Nat) : ∀ {ps : List (List UInt8)}, (∀ p ∈ ps, p.length ≤ B) → (joinC c ps).length ≤ ps.length * (B + 1)
  | [], _ => by simp [joinC]
  | [p], h => by
    have := h p (by simp)
    simp [joinC]; omega
  | p :: q :: r, h => by
    rw [join_cons, List.length_append, List.length_cons]
    have h1 := h p (by simp)
    have h2 := join_length c B (ps := q :: r) fun x hx => h x (by simp [hx])
    rw [List.length_cons (a := p), Nat.add_mul]
    omega
theorem textR_size (l : Vc1) : (textR l).data.toList.length ≤ 1408 := by
  show (textR l).size ≤ 1408
  unfold textR
  by_cases h : ofF (cntF l) = []
  · rw [h]; decide
  · have := acc_size (of_may (cnt_ok l) 32 (Nat.le_refl _)) _ (Nat.le_refl _)
    rw [acc_all _ h] at this
    have h2 := ofK_len (cntF l) 32
    have : (ofF (cntF l)).length ≤ 32 := h2
    omega
theorem textM_join (m : List Vc1) : (Lib.join ((rowsT m).map (·.data.toList)) [59]) = joinC 59 ((rowsT m).map (·.data.toList)) := lib_join 59 _
theorem textM_size (m : List Vc1) : (joinC 59 ((rowsT m).map (·.data.toList))).length ≤ m.length * 1409 := by
  have := join_length 59 1408 (ps := (rowsT m).map (·.data.toList)) fun p hp => by
    obtain ⟨t, ht, rfl⟩ := List.mem_map.1 hp
    obtain ⟨l, _, rfl⟩ := List.mem_map.1 ht
    exact textR_size l
  simpa [rowsT] using this
theorem rowsT_at {m : List Vc1} {k : Nat} (h : k < m.length) : strAt (rowsT m) k = textR (rowM m k) := by
  unfold strAt rowsT
  rw [List.getD_eq_getElem?_getD, List.getElem?_map, List.getElem?_eq_getElem h, row_lt h]
  rfl

section
variable [Globs]

set_option maxHeartbeats 2000000 in
set_option maxRecDepth 10000 in
theorem small_prog (m : List Vc1) (hm : m.length ≤ 9223372036854775807) : ACalls Tryz.prog 11 [matV m] [] (fun r h => r = bool (decide (smallP m)) ∧ h = []) := by
  refine rcalls Tryz.func11 rfl (by decide) ?_
  refine ⟨Nat, fun k => [(0, matV m), (3, int .i64 k)], fun _ => [], fun k => k ≤ m.length ∧ k ≤ 41 ∧ ∀ i, i < k → (rowM m i).length ≤ 60, fun k => 41 - k,
    ⟨0, [], ⟨by omega, by omega, by omega⟩, lehN _, ⟨.same _ trivial, leI rfl, trivial⟩⟩, ?_⟩
  rintro k ⟨hk, hk2, hs⟩
  refine ⟨fun c => ⟨fun c1 => ?_, fun c1 => ?_⟩, fun c => ?_⟩
  · have f1 : (k : Int) < m.length := yes c
    have f2 : (k : Int) < 41 := yes c1
    have e1 : IntKind.i64.wrap ((k : Int) + 1) = ((k + 1 : Nat) : Int) := by rw [w64 (by omega) (by omega)]; omega
    have hk1 : (k : Int).toNat * 1 + 0 = k := by omega
    refine ⟨⟨by omega, f1⟩, ?_⟩
    refine ⟨fun c2 => ?_, fun c2 => ?_⟩
    · have g : 60 < ((rowM m ((k : Int).toNat * 1 + 0)).length : Int) := yes c2
      rw [hk1] at g
      exact ⟨[], [], _, lehN _, leFP fun h => by have := h.2 k (by omega); omega, rfl, rfl⟩
    · have g : ¬ 60 < ((rowM m ((k : Int).toNat * 1 + 0)).length : Int) := no c2
      rw [hk1] at g
      refine ⟨trivial, k + 1, [], ⟨by omega, by omega, fun i hi => ?_⟩, by show 41 - (k + 1) < 41 - k; omega, lehN _, ⟨.same _ trivial, leI e1, trivial⟩⟩
      rcases Nat.lt_or_ge i k with h | h
      · exact hs i h
      · rw [show i = k by omega]; omega
  · have f1 : (k : Int) < m.length := yes c
    have f2 : ¬ (k : Int) < 41 := no c1
    exact ⟨[], [], _, lehN _, leP ⟨fun h => by omega, fun h => by have := h.1; omega⟩, rfl, rfl⟩
  · have f1 : ¬ (k : Int) < m.length := no c
    exact ⟨[], [], _, lehN _, leP ⟨fun h => ⟨by omega, fun i hi => hs i (by omega)⟩, fun h => by have := h.1; omega⟩, rfl, rfl⟩

set_option maxHeartbeats 2000000 in
set_option maxRecDepth 10000 in
theorem mayRule (l : Vc1) (hl : l.length ≤ 9223372036854775807) : ACalls Tryz.prog 89 [vecV l] [] (fun r h => r = bool (!decide (mayV l)) ∧ h = []) := by
  have h1 := may_vec l hl
  have e : decide (l = ofF (cntF l)) = decide (mayV l) := rfl
  rw [e] at h1
  generalize decide (mayV l) = B at *
  refine rcalls Tryz.func89 rfl (by decide) ?_
  refine ⟨[], _, h1, ?_⟩
  rintro r hh ⟨rfl, rfl⟩
  refine ⟨.inl rfl, ?_⟩
  exact ⟨[], [], _, lehN _, leB rfl, rfl, rfl⟩

def IndexR (m : List Vc1) (r : AV) (h : List AO) : Prop := ∃ z, r = int .i64 z ∧ h = [] ∧ ((z = -1 ∧ ∀ i, i < m.length → mayV (rowM m i)) ∨ (0 ≤ z ∧ ∃ i, i < m.length ∧ ¬ mayV (rowM m i)))
set_option maxHeartbeats 2000000 in
set_option maxRecDepth 10000 in
theorem index_mat (m : List Vc1) (hm : szM m) : ACalls Tryz.prog 115 [matV m, .raw (.func (.func 89) #[] #[])] [] (IndexR m) := by
  have hlen := hm.1
  refine rcalls Tryz.func115 rfl (by decide) ?_
  refine ⟨Nat, fun k => [(0, matV m), (1, .raw (.func (.func 89) #[] #[])), (7, int .i64 m.length), (8, int .i64 k)], fun _ => [], fun k => k ≤ m.length ∧ ∀ i, i < k → mayV (rowM m i), fun k => m.length - k,
    ⟨0, [], ⟨by omega, by omega⟩, lehN _, ⟨.same _ trivial, .raw _, leI rfl, leI rfl, trivial⟩⟩, ?_⟩
  rintro k ⟨hk, hs⟩
  refine ⟨fun c => ?_, fun c => ?_⟩
  · have f1 : (k : Int) < m.length := yes c
    have e1 : IntKind.i64.wrap ((k : Int) + 1) = ((k + 1 : Nat) : Int) := by rw [w64 (by omega) (by omega)]; omega
    have hk1 : (k : Int).toNat * 1 + 0 = k := by omega
    have hr := mayRule (rowM m ((k : Int).toNat * 1 + 0)) (by rw [hk1]; have := hm.2 k (by omega); omega)
    have hB : (!decide (mayV (rowM m ((k : Int).toNat * 1 + 0)))) = !decide (mayV (rowM m k)) := by rw [hk1]
    rw [hB] at hr
    refine ⟨⟨by omega, f1⟩, ?_⟩
    refine ⟨[], _, hr, ?_⟩
    rintro r hh ⟨rfl, rfl⟩
    refine ⟨.inl rfl, ?_⟩
    refine ⟨fun c2 => ?_, fun c2 => ?_⟩
    · exact ⟨[], [], _, lehN _, leI rfl, k, rfl, rfl, .inr ⟨by omega, k, by omega, notT c2⟩⟩
    · refine ⟨trivial, k + 1, [], ⟨by omega, fun i hi => ?_⟩, by show m.length - (k + 1) < m.length - k; omega, lehN _, ⟨.same _ trivial, .raw _, leI rfl, leI e1, trivial⟩⟩
      rcases Nat.lt_or_ge i k with h | h
      · exact hs i h
      · rw [show i = k by omega]; exact notF c2
  · have f1 : ¬ (k : Int) < m.length := no c
    exact ⟨[], [], _, lehN _, leI rfl, -1, rfl, rfl, .inl ⟨rfl, fun i hi => hs i (by omega)⟩⟩

set_option maxHeartbeats 2000000 in
set_option maxRecDepth 10000 in
theorem contains_mat (m : List Vc1) (hm : szM m) : ACalls Tryz.prog 88 [matV m, .raw (.func (.func 89) #[] #[])] [] (fun r h => r = bool (!decide (∀ i, i < m.length → mayV (rowM m i))) ∧ h = []) := by
  have h1 := index_mat m hm
  obtain ⟨B, hB⟩ : ∃ B, decide (∀ i, i < m.length → mayV (rowM m i)) = B := ⟨_, rfl⟩
  rw [hB]
  refine rcalls Tryz.func88 rfl (by decide) ?_
  refine ⟨[], _, h1, ?_⟩
  rintro r hh ⟨z, rfl, rfl, hz⟩
  refine ⟨.inl rfl, ?_⟩
  refine ⟨[], [], _, lehN _, leB ?_, rfl, rfl⟩
  rcases hz with ⟨rfl, h⟩ | ⟨h0, i, hi, hn⟩
  · rw [← hB, decide_eq_true h]; rfl
  · rw [← hB, decide_eq_true h0, decide_eq_false fun h => hn (h i hi)]; rfl

set_option maxHeartbeats 2000000 in
set_option maxRecDepth 10000 in
theorem may_mat (m : List Vc1) (n : Int) (hm : szM m) : ACalls Tryz.prog 38 [matV m, int .i64 n] [] (fun r h => r = bool (decide (mayM m n)) ∧ h = []) := by
  have h1 := contains_mat m hm
  have hM : mayM m n ↔ 1 ≤ n ∧ n ≤ 32 ∧ (m.length : Int) = n ∧ ∀ i, i < m.length → mayV (rowM m i) := Iff.rfl
  obtain ⟨A, hA⟩ : ∃ A, decide (∀ i, i < m.length → mayV (rowM m i)) = A := ⟨_, rfl⟩
  rw [hA] at h1
  obtain ⟨B, hB⟩ : ∃ B, decide (mayM m n) = B := ⟨_, rfl⟩
  rw [hB]
  refine rcalls Tryz.func38 rfl (by decide) ?_
  refine ⟨fun c1 => ⟨fun c2 => ⟨fun c3 => ?_, fun c3 => ?_⟩, fun c2 => ?_⟩, fun c1 => ?_⟩
  · refine ⟨[], _, h1, ?_⟩
    rintro r hh ⟨rfl, rfl⟩
    refine ⟨.inl rfl, ?_⟩
    refine ⟨[], [], _, lehN _, leB ?_, rfl, rfl⟩
    rw [← hB, Bool.not_not, ← hA]
    exact decide_eq_decide.2 ⟨fun h => hM.2 ⟨yes c1, yes c2, yes c3, h⟩, fun h => (hM.1 h).2.2.2⟩
  · refine ⟨[], [], _, lehN _, leFB ?_, rfl, rfl⟩
    rw [← hB]; exact decide_eq_false fun h => (no c3) (hM.1 h).2.2.1
  · refine ⟨[], [], _, lehN _, leFB ?_, rfl, rfl⟩
    rw [← hB]; exact decide_eq_false fun h => (no c2) (hM.1 h).2.1
  · refine ⟨[], [], _, lehN _, leFB ?_, rfl, rfl⟩
    rw [← hB]; exact decide_eq_false fun h => (no c1) (hM.1 h).1

set_option maxHeartbeats 2000000 in
set_option maxRecDepth 10000 in
theorem turned_str (m : List Vc1) (F : FuncId) (τ : Nat → ByteArray) (hm : m.length ≤ 1099511627776)
    (hF : ∀ k : Nat, k < m.length → ACalls Tryz.prog F [int .i64 k, vecV (rowM m ((k : Int).toNat * 1 + 0))] [] (fun r h => r = str (τ k) ∧ h = [])) :
    ACalls Tryz.prog 50 [matV m, .raw (.func (.func F) #[] #[])] [] (fun r h => r = .own 0 0 m.length 1 ∧ h = [.row (m.length * 1) fun i => str (τ i)]) := by
  refine rcalls Tryz.func50 rfl (by decide) ?_
  refine ⟨Nat, fun k => [(1, .raw (.func (.func F) #[] #[])), (5, .own 0 0 k 1), (8, matV m), (9, int .i64 m.length), (10, int .i64 k)], fun k => [.row (k * 1) fun i => str (τ i)], fun k => k ≤ m.length, fun k => m.length - k,
    ⟨0, [0], Nat.zero_le _, lehR (Nat.le_refl _) _, ⟨.raw _, .nil _ _ (by decide), .same _ trivial, leI rfl, leI rfl, trivial⟩⟩, ?_⟩
  intro k hk
  have hk : k ≤ m.length := hk
  refine ⟨fun c => ?_, fun c => ?_⟩
  · have f1 : (k : Int) < m.length := yes c
    have e1 : IntKind.i64.wrap ((k : Int) + 1) = ((k + 1 : Nat) : Int) := by rw [w64 (by omega) (by omega)]; omega
    have hFk := hF k (by omega)
    refine ⟨⟨by omega, f1⟩, ?_⟩
    refine ⟨[], _, hFk, ?_⟩
    rintro r hh ⟨rfl, rfl⟩
    refine ⟨.inl rfl, ?_⟩
    refine ⟨rfl, fun i _ => rfl, Nat.le_refl 1, by show (k + 1) * 16 ≤ _; omega, fun i hi => ?_, fun i => str (τ i), fun i hi => rfl, fun i hi => ?_, ?_⟩
    · obtain rfl : i = 0 := by omega
      rfl
    · obtain rfl : i = 0 := by omega
      show str (τ (k * 1 + 0)) = str (τ k)
      rw [show k * 1 + 0 = k by omega]
    exact ⟨trivial, k + 1, [2], by show k + 1 ≤ m.length; omega, by show m.length - (k + 1) < m.length - k; omega, leh1 rfl (.row _ _ _ _ (Nat.le_refl _) fun i hi => .raw _), ⟨.raw _, leOwn rfl rfl rfl, .same _ trivial, leI rfl, leI e1, trivial⟩⟩
  · have f1 : ¬ (k : Int) < m.length := no c
    obtain rfl : k = m.length := by omega
    exact ⟨[0], _, _, leh1 rfl (.row _ _ _ _ (Nat.le_refl _) fun i hi => .raw _), leOwn rfl rfl rfl, rfl, rfl⟩

set_option maxHeartbeats 2000000 in
set_option maxRecDepth 10000 in
theorem textRule (hG : NumG) (k : Nat) (l : Vc1) (hl : l.length ≤ 9223372036854775807) : ACalls Tryz.prog 51 [int .i64 k, vecV l] [] (fun r h => r = str (textR l) ∧ h = []) := by
  have h1 := text_vec hG l hl
  have e : textV (ofF (cntF l)) = textR l := rfl
  rw [e] at h1
  generalize textR l = T at *
  refine rcalls Tryz.func51 rfl (by decide) ?_
  refine ⟨[], _, h1, ?_⟩
  rintro r hh ⟨rfl, rfl⟩
  refine ⟨.inl rfl, ?_⟩
  exact ⟨[], [], _, lehN _, leS rfl, rfl, rfl⟩

set_option maxHeartbeats 2000000 in
set_option maxRecDepth 10000 in
theorem strsJoin_none (f : Nat → AV) (sep : ByteArray) : ACalls Tryz.prog 49 [.ro 0 1 f, str sep] [] (fun r h => r = str ByteArray.empty ∧ h = []) := by
  refine rcalls Tryz.func49 rfl (by decide) ?_
  refine ⟨fun _ => ?_, fun e => absurd rfl (no e)⟩
  exact ⟨[], [], _, lehN _, leS rfl, rfl, rfl⟩

set_option maxHeartbeats 2000000 in
set_option maxRecDepth 10000 in
theorem text_mat (hG : NumG) (m : List Vc1) (hm : szM m) (h40 : m.length ≤ 4096) : ACalls Tryz.prog 17 [matV m] [] (fun r h => r = str (textM m) ∧ h = []) := by
  have ht := turned_str m 51 (fun i => textR (rowM m i)) hm.1 fun k hk => by
    have := textRule hG k (rowM m k) (by have := hm.2 k hk; omega)
    rwa [show (k : Int).toNat * 1 + 0 = k by omega]
  have hat := @rowsT_at m
  have hl := rowsT_len m
  by_cases hne : m = []
  · subst hne
    refine rcalls Tryz.func17 rfl (by decide) ?_
    refine ⟨[], _, ht, ?_⟩
    rintro r hh ⟨rfl, rfl⟩
    refine ⟨.inl rfl, ?_⟩
    refine ⟨[], _, by omega, fun i hi => trivial, strsJoin_none _ _, ?_⟩
    rintro r hh ⟨rfl, rfl⟩
    refine ⟨.inr ⟨trivial, fun o ho => by cases ho⟩, ?_⟩
    exact ⟨[], [], _, lehN _, leS rfl, rfl, rfl⟩
  · have hpos : 0 < m.length := List.length_pos_iff.2 hne
    have hsz := textM_size m
    have hj := strsJoin_prog (rowsT m) ⟨#[59]⟩ (by omega) (by omega) (by show (Lib.join ((rowsT m).map (·.data.toList)) [59]).length ≤ _; rw [textM_join]; omega)
    have hT : (⟨(Lib.join ((rowsT m).map (·.data.toList)) (⟨#[59]⟩ : ByteArray).data.toList).toArray⟩ : ByteArray) = textM m := by
      show (⟨(Lib.join ((rowsT m).map (·.data.toList)) [59]).toArray⟩ : ByteArray) = _
      rw [textM_join]; rfl
    rw [hT] at hj
    generalize textM m = T at *
    refine rcalls Tryz.func17 rfl (by decide) ?_
    refine ⟨[], _, ht, ?_⟩
    rintro r hh ⟨rfl, rfl⟩
    refine ⟨.inl rfl, ?_⟩
    refine ⟨[], _, by omega, fun i hi => trivial, hj.args ⟨vro' hl.symm fun i hi => ?_, .refl _, trivial⟩, ?_⟩
    · show str (textR (rowM m (0 + i))) = str (strAt (rowsT m) i)
      rw [Nat.zero_add, hat (by omega)]
    rintro r hh ⟨rfl, rfl⟩
    refine ⟨.inr ⟨trivial, fun o ho => by cases ho⟩, ?_⟩
    exact ⟨[], [], _, lehN _, leS rfl, rfl, rfl⟩

set_option maxHeartbeats 2000000 in
set_option maxRecDepth 10000 in
theorem same_mat (a b : List Vc1) (ha : szM a) (hb : szM b) : ACalls Tryz.prog 14 [matV a, matV b] [] (fun r h => r = bool (decide (a = b)) ∧ h = []) := by
  have hla := ha.1
  refine rcalls Tryz.func14 rfl (by decide) ?_
  refine ⟨fun c => ?_, fun c => ?_⟩
  · have f1 : ¬ (a.length : Int) = b.length := yes c
    exact ⟨[], [], _, lehN _, leFP fun e => f1 (by rw [e]), rfl, rfl⟩
  have f1 : (a.length : Int) = b.length := Classical.not_not.1 (no c)
  refine ⟨Nat, fun k => [(0, matV a), (1, matV b), (5, int .i64 k)], fun _ => [], fun k => k ≤ a.length ∧ ∀ i, i < k → rowM a i = rowM b i, fun k => a.length - k,
    ⟨0, [], ⟨by omega, by omega⟩, lehN _, ⟨.same _ trivial, .same _ trivial, leI rfl, trivial⟩⟩, ?_⟩
  rintro k ⟨hk, hs⟩
  refine ⟨fun c1 => ?_, fun c1 => ?_⟩
  · have f2 : (k : Int) < a.length := yes c1
    have e1 : IntKind.i64.wrap ((k : Int) + 1) = ((k + 1 : Nat) : Int) := by rw [w64 (by omega) (by omega)]; omega
    have hk1 : (k : Int).toNat * 1 + 0 = k := by omega
    have he := equal_ref (rowM a ((k : Int).toNat * 1 + 0)) (rowM b ((k : Int).toNat * 1 + 0)) (by rw [hk1]; have := ha.2 k (by omega); omega) (by rw [hk1]; have := hb.2 k (by omega); omega)
    have hB : decide (rowM a ((k : Int).toNat * 1 + 0) = rowM b ((k : Int).toNat * 1 + 0)) = decide (rowM a k = rowM b k) := by rw [hk1]
    rw [hB] at he
    refine .inr ⟨9, by decide +kernel, ?_⟩
    refine ⟨_, rfl, ?_⟩
    refine ⟨_, rfl, ?_⟩
    refine ⟨_, ⟨⟨by omega, f2⟩, rfl⟩, ?_⟩
    refine ⟨_, rfl, ?_⟩
    refine ⟨_, rfl, ?_⟩
    refine ⟨_, rfl, ?_⟩
    refine ⟨_, ⟨⟨by omega, by omega⟩, rfl⟩, ?_⟩
    refine ⟨_, rfl, ?_⟩
    refine ⟨_, ⟨[], _, he, by rintro r h ⟨rfl, rfl⟩; exact ⟨.inl rfl, rfl, rfl⟩⟩, ?_⟩
    refine ⟨fun c2 => ?_, fun c2 => ?_⟩
    · exact ⟨[], [], _, lehN _, leFP fun e => notT c2 (by rw [e]), rfl, rfl⟩
    · refine ⟨trivial, k + 1, [], ⟨by omega, fun i hi => ?_⟩, by show a.length - (k + 1) < a.length - k; omega, lehN _, ⟨.same _ trivial, .same _ trivial, leI e1, trivial⟩⟩
      rcases Nat.lt_or_ge i k with h | h
      · exact hs i h
      · rw [show i = k by omega]; exact notF c2
  · have f2 : ¬ (k : Int) < a.length := no c1
    exact ⟨[], [], _, lehN _, leTP (row_ext (by omega) fun i hi => hs i (by omega)), rfl, rfl⟩

end
end Go.Proofs.YthckagkciefliaaGreatDoor.Mt
