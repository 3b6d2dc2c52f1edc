/-
  The contracts of the document's matrices: joined, their text, a text's matrix; and MatJoins, walked.
-/
import Derived.Test.YthckagkciefliaaGreatDoorMtLaws2
set_option linter.unusedVariables false
set_option linter.unusedSectionVars false
namespace Go.Proofs.YthckagkciefliaaGreatDoor.Mt
open Go AL Hx Dt Spl Vc

theorem joinM_at {a b : List Vc1} {i : Nat} (h : i < max a.length b.length) : rowM (joinM a b) i = if b.length ≤ i then rowM a i else if a.length ≤ i then rowM b i else joinV (rowM a i) (rowM b i) := mapM_row h
/-- The text so far. -/
def accM (m : List Vc1) (k : Nat) : ByteArray := ba (joinC 59 (((rowsT m).map (·.data.toList)).take k))
theorem accM_zero (m : List Vc1) : accM m 0 = ByteArray.empty := rfl
theorem rows_get {m : List Vc1} {k : Nat} (h : k < m.length) : ((rowsT m).map (·.data.toList)).take (k + 1) = ((rowsT m).map (·.data.toList)).take k ++ [(textR (rowM m k)).data.toList] := by
  rw [List.take_succ_eq_append_getElem (by simpa [rowsT] using h)]
  congr 2
  simp [rowsT, row_lt h]
theorem accM_one {m : List Vc1} (h : 0 < m.length) : accM m (0 + 1) = textR (rowM m 0) := by
  unfold accM
  rw [rows_get h]
  simp [joinC, ba_data]
theorem accM_succ {m : List Vc1} {k : Nat} (hk : 0 < k) (h : k < m.length) : accM m (k + 1) = accM m k ++ ⟨#[59]⟩ ++ textR (rowM m k) := by
  unfold accM
  rw [rows_get h, join_snoc _ _ (by
    intro e
    have := congrArg List.length e
    rw [List.length_take, List.length_map, rowsT_len, List.length_nil] at this
    omega)]
  generalize textR _ = T
  rw [← ba_data T, ba_list]
  show _ = ba _ ++ ba [59] ++ _
  rw [ba_app, ba_app]
  simp
theorem accM_all (m : List Vc1) : accM m m.length = textM m := by
  unfold accM textM
  rw [List.take_of_length_le (by rw [List.length_map, rowsT_len]; exact Nat.le_refl _)]
theorem accM_size {m : List Vc1} : ∀ k, k ≤ m.length → (accM m k).size ≤ 1409 * k
  | 0, _ => by rw [accM_zero]; exact Nat.le_refl _
  | k + 1, hk => by
    have ih := accM_size (m := m) k (by omega)
    have ht : (textR (rowM m k)).size ≤ 1408 := textR_size (rowM m k)
    rcases Nat.eq_zero_or_pos k with h0 | h0
    · subst h0
      rw [accM_one (by omega)]
      omega
    · rw [accM_succ h0 (by omega), ByteArray.size_append, ByteArray.size_append]
      show (accM m k).size + 1 + _ ≤ _
      omega

section
variable [Globs]

set_option maxHeartbeats 4000000 in
set_option maxRecDepth 10000 in
theorem join_mref (a b : List Vc1) (ha : szM a) (hb : szM b) : ACalls Tryz.prog 16 [matV a, matV b] [] (fun r h => r = matV (joinM a b) ∧ h = []) := by
  have hla := ha.1
  have hlb := hb.1
  have hat := @joinM_at a b
  have hlen := joinM_len a b
  generalize joinM a b = R at *
  refine rcalls Tryz.func16 rfl (by decide) ?_
  refine ⟨Nat, fun k => [(0, matV a), (1, matV b), (5, .own 0 0 k 1), (6, int .i64 k)], fun k => [.row (k * 1) fun i => vecV (rowM R i)], fun k => k ≤ max a.length b.length, fun k => max a.length b.length - k,
    ⟨0, [0], Nat.zero_le _, lehR (Nat.le_refl _) _, ⟨.same _ trivial, .same _ trivial, .nil _ _ (by decide), leI rfl, trivial⟩⟩, ?_⟩
  intro k hk
  have hk : k ≤ max a.length b.length := hk
  have key : k < max a.length b.length → IntKind.i64.wrap ((k : Int) + 1) = ((k + 1 : Nat) : Int) := fun h => by rw [w64 (by omega) (by omega)]; omega
  have hkn : (k : Int).toNat * 1 + 0 = k := by omega
  have body : k < max a.length b.length → True := fun _ => trivial
  refine ⟨fun c => ?_, fun c => ⟨fun c' => ?_, fun c' => ?_⟩⟩
  case' refine_1 => have hlt : k < max a.length b.length := by have := yes c; omega
  case' refine_2 => have hlt : k < max a.length b.length := by have := yes c'; omega
  case' refine_3 =>
    obtain rfl : k = max a.length b.length := by have := no c; have := no c'; omega
    exact ⟨[], [], _, lehN _, giveMat rfl (by simp) (by omega) hlen.symm (fun i hi => rfl), rfl, rfl⟩
  all_goals
    have e1 := key hlt
    have hRk := hat hlt
    refine ⟨fun d1 => ?_, fun d1 => ⟨fun d2 => ?_, fun d2 => ?_⟩⟩
    · have g1 : (b.length : Int) ≤ k := yes d1
      rw [if_pos (by omega), ← hkn] at hRk
      refine ⟨⟨by omega, by omega⟩, ?_⟩
      refine ⟨rfl, fun i _ => rfl, Nat.le_refl 1, by show (k + 1) * 24 ≤ _; omega, fun i hi => ?_, fun i => vecV (rowM R i), fun i hi => rfl, fun i hi => ?_, ?_⟩
      · obtain rfl : i = 0 := by omega
        rfl
      · obtain rfl : i = 0 := by omega
        show vecV (rowM R (k * 1 + 0)) = vecV (rowM a ((k : Int).toNat * 1 + 0))
        rw [show k * 1 + 0 = (k : Int).toNat * 1 + 0 by omega, hRk]
      exact ⟨trivial, k + 1, [2], by show k + 1 ≤ max a.length b.length; omega, by show max a.length b.length - (k + 1) < max a.length b.length - k; omega, leh1 rfl (.row _ _ _ _ (Nat.le_refl _) fun i hi => .same _ trivial), ⟨.same _ trivial, .same _ trivial, leOwn rfl rfl rfl, leI e1, trivial⟩⟩
    · have g1 : ¬ (b.length : Int) ≤ k := no d1
      have g2 : (a.length : Int) ≤ k := yes d2
      rw [if_neg (by omega), if_pos (by omega), ← hkn] at hRk
      refine ⟨⟨by omega, by omega⟩, ?_⟩
      refine ⟨rfl, fun i _ => rfl, Nat.le_refl 1, by show (k + 1) * 24 ≤ _; omega, fun i hi => ?_, fun i => vecV (rowM R i), fun i hi => rfl, fun i hi => ?_, ?_⟩
      · obtain rfl : i = 0 := by omega
        rfl
      · obtain rfl : i = 0 := by omega
        show vecV (rowM R (k * 1 + 0)) = vecV (rowM b ((k : Int).toNat * 1 + 0))
        rw [show k * 1 + 0 = (k : Int).toNat * 1 + 0 by omega, hRk]
      exact ⟨trivial, k + 1, [2], by show k + 1 ≤ max a.length b.length; omega, by show max a.length b.length - (k + 1) < max a.length b.length - k; omega, leh1 rfl (.row _ _ _ _ (Nat.le_refl _) fun i hi => .same _ trivial), ⟨.same _ trivial, .same _ trivial, leOwn rfl rfl rfl, leI e1, trivial⟩⟩
    · have g1 : ¬ (b.length : Int) ≤ k := no d1
      have g2 : ¬ (a.length : Int) ≤ k := no d2
      rw [if_neg (by omega), if_neg (by omega)] at hRk
      have hj := join_ref (rowM a ((k : Int).toNat * 1 + 0)) (rowM b ((k : Int).toNat * 1 + 0)) (by rw [hkn]; have := ha.2 k (by omega); omega) (by rw [hkn]; have := hb.2 k (by omega); omega)
      rw [show ofF (maxF (cntF (rowM a ((k : Int).toNat * 1 + 0))) (cntF (rowM b ((k : Int).toNat * 1 + 0)))) = rowM R k by rw [hkn, hRk]; rfl] at hj
      refine .inr ⟨11, by decide +kernel, ?_⟩
      refine ⟨_, rfl, ?_⟩
      refine ⟨_, rfl, ?_⟩
      refine ⟨_, rfl, ?_⟩
      refine ⟨_, ⟨⟨by omega, by omega⟩, rfl⟩, ?_⟩
      refine ⟨_, rfl, ?_⟩
      refine ⟨_, rfl, ?_⟩
      refine ⟨_, rfl, ?_⟩
      refine ⟨_, ⟨⟨by omega, by omega⟩, rfl⟩, ?_⟩
      refine ⟨_, rfl, ?_⟩
      refine ⟨_, ⟨[], _, hj, by rintro r h ⟨rfl, rfl⟩; exact ⟨.inl rfl, rfl, rfl⟩⟩, ?_⟩
      refine ⟨_, ⟨⟨trivial, trivial⟩, rfl⟩, ?_⟩
      refine ⟨rfl, fun i _ => rfl, by show (k + 1) * 24 ≤ _; omega, fun i hi => ?_, fun i => vecV (rowM R i), fun i hi => rfl, fun i hi => ?_, ?_⟩
      · obtain rfl : i = 0 := by omega
        rfl
      · obtain rfl : i = 0 := by omega
        show vecV (rowM R (k * 1 + 0)) = vecV (rowM R k)
        rw [show k * 1 + 0 = k by omega]
      exact ⟨trivial, k + 1, [1], by show k + 1 ≤ max a.length b.length; omega, by show max a.length b.length - (k + 1) < max a.length b.length - k; omega, leh1 rfl (.row _ _ _ _ (Nat.le_refl _) fun i hi => .same _ trivial), ⟨.same _ trivial, .same _ trivial, leOwn rfl rfl rfl, leI e1, trivial⟩⟩

set_option maxHeartbeats 2000000 in
set_option maxRecDepth 10000 in
theorem text_mref (m : List Vc1) (hm : szM m) (h40 : m.length ≤ 4096) : ACalls Tryz.prog 18 [matV m] [] (fun r h => r = str (textM m) ∧ h = []) := by
  have hone := @accM_one m
  have hsuc := @accM_succ m
  have hall := accM_all m
  have hz := accM_zero m
  have hsz := @accM_size m
  have ht : ∀ k : Nat, k < m.length → ACalls Tryz.prog 52 [vecV (rowM m ((k : Int).toNat * 1 + 0))] [] (fun r h => r = str (textR (rowM m k)) ∧ h = []) := fun k hk => by
    rw [show (k : Int).toNat * 1 + 0 = k by omega]
    exact textv_ref (rowM m k) (by have := hm.2 k hk; omega)
  have htz : ∀ k : Nat, (textR (rowM m k)).size ≤ 1408 := fun k => textR_size _
  generalize textM m = T at *
  generalize accM m = A at *
  refine rcalls Tryz.func18 rfl (by decide) ?_
  refine ⟨Nat, fun k => [(0, matV m), (3, str (A k)), (4, int .i64 k)], fun _ => [], fun k => k ≤ m.length, fun k => m.length - k,
    ⟨0, [], Nat.zero_le _, lehN _, ⟨.same _ trivial, leS hz.symm, leI rfl, trivial⟩⟩, ?_⟩
  intro k hk
  have hk : k ≤ m.length := hk
  refine ⟨fun c => ?_, fun c => ?_⟩
  · have f1 : (k : Int) < m.length := yes c
    have e1 : IntKind.i64.wrap ((k : Int) + 1) = ((k + 1 : Nat) : Int) := by rw [w64 (by omega) (by omega)]; omega
    have hk1 := hsz k hk
    have hk2 := htz k
    have htk := ht k (by omega)
    refine ⟨fun c2 => ?_, fun c2 => ?_⟩
    · have f2 : 0 < (k : Int) := yes c2
      have hs := hsuc (k := k) (by omega) (by omega)
      generalize textR (rowM m k) = X at *
      refine ⟨by show (A k).size + 1 < _; omega, ?_⟩
      refine ⟨⟨by omega, f1⟩, ?_⟩
      refine ⟨[], _, htk, ?_⟩
      rintro r hh ⟨rfl, rfl⟩
      refine ⟨.inl rfl, ?_⟩
      refine ⟨by rw [ByteArray.size_append]; show (A k).size + 1 + _ < _; omega, ?_⟩
      exact ⟨trivial, k + 1, [], by show k + 1 ≤ m.length; omega, by show m.length - (k + 1) < m.length - k; omega, lehN _, ⟨.same _ trivial, leS hs.symm, leI e1, trivial⟩⟩
    · have f2 : ¬ 0 < (k : Int) := no c2
      obtain rfl : k = 0 := by omega
      have hs := hone (by omega)
      generalize textR (rowM m 0) = X at *
      refine ⟨⟨by omega, f1⟩, ?_⟩
      refine ⟨[], _, htk, ?_⟩
      rintro r hh ⟨rfl, rfl⟩
      refine ⟨.inl rfl, ?_⟩
      refine ⟨by omega, ?_⟩
      exact ⟨trivial, 0 + 1, [], by show 0 + 1 ≤ m.length; omega, by show m.length - (0 + 1) < m.length - 0; omega, lehN _, ⟨.same _ trivial, leS (by rw [hs, hz, ByteArray.empty_append]), leI e1, trivial⟩⟩
  · have f1 : ¬ (k : Int) < m.length := no c
    obtain rfl : k = m.length := by omega
    exact ⟨[], [], _, lehN _, leS hall, rfl, rfl⟩

set_option maxHeartbeats 2000000 in
set_option maxRecDepth 10000 in
theorem may_mref (m : List Vc1) (n : Int) (hm : szM m) : ACalls Tryz.prog 42 [matV m, int .i64 n] [] (fun r h => r = bool (decide (mayM m n)) ∧ h = []) := by
  have hlen := hm.1
  have hM : mayM m n ↔ 1 ≤ n ∧ n ≤ 32 ∧ (m.length : Int) = n ∧ ∀ i, i < m.length → mayV (rowM m i) := Iff.rfl
  obtain ⟨B, hB⟩ : ∃ B, decide (mayM m n) = B := ⟨_, rfl⟩
  rw [hB]
  refine rcalls Tryz.func42 rfl (by decide) ?_
  refine ⟨Nat, fun k => [(0, matV m), (1, int .i64 n), (5, int .i64 k)], fun _ => [], fun k => k ≤ m.length ∧ ∀ i, i < k → mayV (rowM m i), fun k => m.length - k,
    ⟨0, [], ⟨by omega, by omega⟩, lehN _, ⟨.same _ trivial, leI rfl, leI rfl, trivial⟩⟩, ?_⟩
  rintro k ⟨hk, hs⟩
  refine ⟨fun c => ?_, fun c => ?_⟩
  · have f1 : (k : Int) < m.length := yes c
    have e1 : IntKind.i64.wrap ((k : Int) + 1) = ((k + 1 : Nat) : Int) := by rw [w64 (by omega) (by omega)]; omega
    have hk1 : (k : Int).toNat * 1 + 0 = k := by omega
    have hr := may_vref (rowM m ((k : Int).toNat * 1 + 0)) (by rw [hk1]; have := hm.2 k (by omega); omega)
    have hBk : decide (rowM m ((k : Int).toNat * 1 + 0) = ofF (cntF (rowM m ((k : Int).toNat * 1 + 0)))) = decide (mayV (rowM m k)) := by rw [hk1]; rfl
    rw [hBk] at hr
    refine ⟨⟨by omega, f1⟩, ?_⟩
    refine ⟨[], _, hr, ?_⟩
    rintro r hh ⟨rfl, rfl⟩
    refine ⟨.inl rfl, ?_⟩
    refine ⟨fun c2 => ?_, fun c2 => ?_⟩
    · refine ⟨[], [], _, lehN _, leFB ?_, rfl, rfl⟩
      rw [← hB]; exact decide_eq_false fun h => notT c2 ((hM.1 h).2.2.2 k (by omega))
    · refine ⟨trivial, k + 1, [], ⟨by omega, fun i hi => ?_⟩, by show m.length - (k + 1) < m.length - k; omega, lehN _, ⟨.same _ trivial, leI rfl, leI e1, trivial⟩⟩
      rcases Nat.lt_or_ge i k with h | h
      · exact hs i h
      · rw [show i = k by omega]; exact notF c2
  · have f1 : ¬ (k : Int) < m.length := no c
    refine ⟨fun c1 => ⟨fun c2 => ?_, fun c2 => ?_⟩, fun c1 => ?_⟩
    · refine ⟨[], [], _, lehN _, leB ?_, rfl, rfl⟩
      rw [← hB]
      exact decide_eq_decide.2 ⟨fun h => hM.2 ⟨yes c2, h, yes c1, fun i hi => hs i (by omega)⟩, fun h => (hM.1 h).2.1⟩
    · refine ⟨[], [], _, lehN _, leFB ?_, rfl, rfl⟩
      rw [← hB]; exact decide_eq_false fun h => (no c2) (hM.1 h).1
    · refine ⟨[], [], _, lehN _, leFB ?_, rfl, rfl⟩
      rw [← hB]; exact decide_eq_false fun h => (no c1) (hM.1 h).2.2.1

set_option maxHeartbeats 4000000 in
set_option maxRecDepth 10000 in
theorem parse_mref (s : ByteArray) (n : Int) (hs : s.size ≤ 1099511627775) : ACalls Tryz.prog 13 [str s, int .i64 n] [] (ParseMR s n) := by
  have hl : s.data.toList.length = s.size := rfl
  obtain ⟨ps, hps⟩ : ∃ ps, pieces 59 s.data.toList = ps := ⟨_, rfl⟩
  have hpos : 0 < ps.length := by rw [← hps, pieces_len]; omega
  have hjoin : joinC 59 ps = s.data.toList := by rw [← hps, join_pieces]
  have hfree : ∀ p ∈ ps, ∀ x ∈ p, x ≠ 59 := by rw [← hps]; exact pieces_free
  have hP := okRows_at (s := s)
  have hlen := vecsOf_pcs s
  have hrow := @vecsOf_row s
  have hPl : (pcs 59 s).length = ps.length := by unfold pcs; rw [hps]; simp
  have hat : ∀ k, k < ps.length → sAt (pcs 59 s) k = bA (ps.getD k []) := fun k hk => by rw [← hps]; exact pcs_at (by rw [hps]; exact hk)
  have hcnt : ps.length ≤ s.size + 1 := by
    have := List.count_le_length (a := (59 : UInt8)) (l := s.data.toList)
    rw [← hps, pieces_len]; omega
  have hB := @mat_bad _ s n
  have hok : okMat s n ↔ okRows s ∧ mayM (vecsOf s) n := Iff.rfl
  have hgood : okMat s n → _ := @parseM_ok s n
  have hszM : szM (vecsOf s) := ⟨by rw [hlen]; omega, fun i hi => by rw [hrow (by omega)]; exact parseV_small _⟩
  have hle : ∀ k, k < ps.length → pre ps k + (ps.getD k []).length ≤ s.size := fun k hk => by
    rcases Nat.lt_or_ge (k + 1) ps.length with h | h
    · have := pre_le 59 ps (k + 1) h
      rw [hjoin, hl] at this
      have : pre ps (k + 1) = pre ps k + (ps.getD k []).length + 1 := rfl
      omega
    · have := pre_end 59 (ps := ps) (k := k) (by omega) (pre_le 59 ps k hk)
      rw [hjoin, hl] at this
      omega
  have hend : ∀ k, k + 1 = ps.length → pre ps k + (ps.getD k []).length = s.size := fun k hk => by
    have := pre_end 59 (ps := ps) (k := k) hk (pre_le 59 ps k (by omega))
    rwa [hjoin, hl] at this
  have hin : ∀ k j, k < ps.length → j < (ps.getD k []).length → ¬ (intsOf s).getD (pre ps k + j) 0 = 59 := fun k j hk hj h => by
    have h1 := hle k hk
    obtain ⟨b, e1, e2⟩ := byte_get (s := s) (i := pre ps k + j) (by omega)
    have e3 := (byte_is (c := 59) e2).1 h
    have e4 := pre_get (c := 59) hk hj
    rw [hjoin, e1, e3] at e4
    have hm : (59 : UInt8) ∈ ps.getD k [] := List.mem_of_getElem? e4.symm
    refine hfree (ps.getD k []) ?_ _ hm rfl
    rw [List.getD_eq_getElem?_getD, List.getElem?_eq_getElem hk]
    exact List.getElem_mem _
  have hout : ∀ k, k + 1 < ps.length → (intsOf s).getD (pre ps k + (ps.getD k []).length) 0 = 59 := fun k hk => by
    have h1 := pre_le 59 ps (k + 1) hk
    rw [hjoin, hl] at h1
    have h2 : pre ps (k + 1) = pre ps k + (ps.getD k []).length + 1 := rfl
    obtain ⟨b, e1, e2⟩ := byte_get (s := s) (i := pre ps k + (ps.getD k []).length) (by omega)
    have e4 := pre_sep (c := 59) hk
    rw [hjoin, e1] at e4
    cases e4
    exact e2
  have hcut : ∀ k, k < ps.length → s.extract (pre ps k) (pre ps k + (ps.getD k []).length) = sAt (pcs 59 s) k := fun k hk => by
    refine bA_ext ?_
    rw [ext_list, hat k hk, bA_list, ← hjoin]
    exact pre_piece hk
  generalize vecsOf s = D at *
  generalize pcs 59 s = P at *
  refine rcalls Tryz.func13 rfl (by decide) ?_
  refine ⟨Nat × Nat, fun x => [(0, str s), (1, int .i64 n), (6, .own 0 0 x.1 1), (7, int .i64 (pre ps x.1)), (8, int .i64 x.2)], fun x => [.row (x.1 * 1) fun i => vecV (rowM D i)],
    fun x => x.1 ≤ ps.length ∧ (x.1 < ps.length → pre ps x.1 ≤ x.2 ∧ x.2 ≤ pre ps x.1 + (ps.getD x.1 []).length) ∧ (x.1 = ps.length → x.2 = s.size + 1) ∧ ∀ j, j < x.1 → okVec (sAt P j), fun x => s.size + 1 - x.2,
    ⟨(0, 0), [0], ⟨by omega, fun _ => ⟨Nat.le_refl _, Nat.zero_le _⟩, fun h => by simp at h; omega, by simp⟩, lehR (Nat.le_refl _) _, ⟨leS rfl, leI rfl, .nil _ _ (by decide), leI rfl, leI rfl, trivial⟩⟩, ?_⟩
  rintro ⟨k, i⟩ ⟨hk, hki, hke, hj⟩
  dsimp only at hk hki hke hj ⊢
  refine ⟨fun c1 => ?_, fun c1 => ?_⟩
  · have f1 : (i : Int) ≤ s.size := yes c1
    have hkl : k < ps.length := by
      rcases Nat.lt_or_ge k ps.length with h | h
      · exact h
      · have := hke (by omega); omega
    obtain ⟨hi1, hi2⟩ := hki hkl
    have e1 : IntKind.i64.wrap ((i : Int) + 1) = ((i + 1 : Nat) : Int) := by rw [w64 (by omega) (by omega)]; omega
    have hto : ((i : Int)).toNat = i := by omega
    have hpl := hle k hkl
    have piece : i = pre ps k + (ps.getD k []).length → s.extract (pre ps k) i = sAt P k := fun h => by rw [h]; exact hcut k hkl
    refine ⟨fun c2 => ?_, fun c2 => ⟨⟨by omega, by have := no c2; omega⟩, fun c3 => ?_, fun c3 => ?_⟩⟩
    case refine_3 =>
      have g2 := no c2
      have g3 : ¬ (intsOf s).getD ((i : Int)).toNat 0 = 59 := no c3
      rw [hto] at g3
      have hlt : ¬ i = pre ps k + (ps.getD k []).length := fun h => by
        rcases Nat.lt_or_ge (k + 1) ps.length with h1 | h1
        · exact g3 (by rw [h]; exact hout k h1)
        · exact g2 (by rw [h, hend k (by omega)])
      exact ⟨trivial, (k, i + 1), [0], ⟨by omega, fun _ => ⟨by show pre ps k ≤ i + 1; omega, by show i + 1 ≤ pre ps k + (ps.getD k []).length; omega⟩, fun h => by have h : k = ps.length := h; omega, hj⟩, by show s.size + 1 - (i + 1) < s.size + 1 - i; omega, leh1 rfl (.row _ _ _ _ (Nat.le_refl _) fun i hi => .same _ trivial), ⟨leS rfl, leI rfl, leOwn rfl rfl rfl, leI rfl, leI e1, trivial⟩⟩
    all_goals
      have hlast : i = pre ps k + (ps.getD k []).length := by
        first
          | (have g2 := yes c2
             rcases Nat.lt_or_ge (k + 1) ps.length with h1 | h1
             · have := hle (k + 1) h1
               have : pre ps (k + 1) = pre ps k + (ps.getD k []).length + 1 := rfl
               omega
             · have := hend k (by omega); omega)
          | (have g3 : (intsOf s).getD ((i : Int)).toNat 0 = 59 := yes c3
             rw [hto] at g3
             rcases Nat.lt_or_ge i (pre ps k + (ps.getD k []).length) with h | h
             · refine absurd ?_ (hin k (i - pre ps k) hkl (by omega))
               rw [show pre ps k + (i - pre ps k) = i by omega]; exact g3
             · omega)
      have e2 : pre ps (k + 1) = i + 1 := by show pre ps k + (ps.getD k []).length + 1 = _; omega
      have hpi := piece hlast
      have hr := hrow (k := k) (by omega)
      rw [← hpi] at hr
      have hsz : (s.extract (pre ps k) i).size ≤ s.size := by rw [ByteArray.size_extract]; omega
      have hp := parse_vref (s.extract (pre ps k) i) (by omega)
      have hpo := @parseV_ok (s.extract (pre ps k) i)
      have hpb := @parseV_bad (s.extract (pre ps k) i)
      have hPk := fun h => hP.1 h k (by omega)
      rw [← hpi] at hPk
      unfold ParseVR at hp
      have hokk : parseVE (s.extract (pre ps k) i) = 0 → okVec (sAt P k) := fun h0 => Classical.byContradiction fun h => by
        rw [← hpi] at h
        have := (hpb h).1
        rw [h0] at this; cases this
      rw [← hr] at hp
      generalize parseVE (s.extract (pre ps k) i) = E at *
      refine ⟨⟨by omega, f1⟩, ⟨by omega, by omega⟩, ?_⟩
      refine ⟨[], _, hp, ?_⟩
      rintro r hh ⟨rfl, rfl⟩
      refine ⟨.inl rfl, ?_⟩
      refine ⟨fun c4 => ?_, fun c4 => ?_⟩
      · have g4 : ¬ E = 0 := yes c4
        exact hB (fun h => g4 (hpo (hPk (hok.1 h).1)).1) _
      · have g4 : E = 0 := Classical.not_not.1 (no c4)
        refine ⟨rfl, fun i _ => rfl, Nat.le_refl 1, by show (k + 1) * 24 ≤ _; omega, fun i hi => ?_, fun i => vecV (rowM D i), fun i hi => rfl, fun i hi => ?_, ?_⟩
        · obtain rfl : i = 0 := by omega
          rfl
        · obtain rfl : i = 0 := by omega
          show vecV (rowM D (k * 1 + 0)) = vecV (rowM D k)
          rw [show k * 1 + 0 = k by omega]
        refine ⟨trivial, (k + 1, i + 1), [2], ⟨by show k + 1 ≤ _; omega, fun h => ⟨by show pre ps (k + 1) ≤ i + 1; omega, by show i + 1 ≤ pre ps (k + 1) + _; omega⟩, fun h => ?_, fun j hj' => ?_⟩, by show s.size + 1 - (i + 1) < s.size + 1 - i; omega, leh1 rfl (.row _ _ _ _ (Nat.le_refl _) fun i hi => .same _ trivial), ⟨leS rfl, leI rfl, leOwn rfl rfl rfl, leI ?_, leI e1, trivial⟩⟩
        · have h : k + 1 = ps.length := h
          have := hend k h
          show i + 1 = s.size + 1
          omega
        · have hj' : j < k + 1 := hj'
          rcases Nat.lt_or_ge j k with h | h
          · exact hj j h
          · rw [show j = k by omega]; exact hokk g4
        · show IntKind.i64.wrap ((i : Int) + 1) = ((pre ps (k + 1) : Nat) : Int)
          rw [e1, e2]
  · have f1 : ¬ (i : Int) ≤ s.size := no c1
    have hkl : k = ps.length := by
      rcases Nat.lt_or_ge k ps.length with h | h
      · have := (hki h).2; have := hle k h; omega
      · omega
    subst hkl
    have hv := hP.2 fun j hj' => hj j (by omega)
    have hx := may_mref D n hszM
    refine ⟨[], _, by omega, fun i hi => trivial, hx.args ⟨vmat (by omega) fun i hi => by rw [Nat.zero_add], .refl _, trivial⟩, ?_⟩
    rintro r hh ⟨rfl, rfl⟩
    refine ⟨.inr ⟨trivial, fun o ho => by cases ho⟩, ?_⟩
    refine ⟨fun c2 => ?_, fun c2 => ?_⟩
    · exact hB (fun h => notT c2 (hok.1 h).2) _
    · obtain ⟨o1, o2⟩ := hgood (hok.2 ⟨hv, notF c2⟩)
      exact ⟨[], [], _, lehN _, le_pair (a := matV (parseML s n)) (b := int .i64 (parseME s n)) (giveMat rfl (by simp) (by rw [o2]; omega) (by rw [o2]; omega) (fun i hi => by rw [o2])) (leI o1.symm), rfl, rfl⟩

theorem parseM_sz (s : ByteArray) (n : Int) : szM (parseML s n) := by
  by_cases h : okMat s n
  · rw [(parseM_ok h).2]
    have := h.2.2.1
    have := h.2.2.2.1
    refine ⟨by omega, fun i hi => ?_⟩
    rw [h.2.2.2.2 i hi]; have := ofK_len (cntF (rowM (vecsOf s) i)) 32; show (ofK _ 32).length ≤ _; omega
  · rw [(parseM_bad h).2]
    exact ⟨by simp, fun i hi => by simp at hi⟩

set_option maxHeartbeats 4000000 in
set_option maxRecDepth 10000 in
theorem joins_mat (hG : NumG) (a b : List Vc1) (s : ByteArray) (ha : a.length ≤ 9223372036854775807) (hb : b.length ≤ 9223372036854775807) (hs : s.size ≤ 1099511627775) :
    ACalls Tryz.prog 3 [matV a, matV b, str s] [] (fun r h => r = .tt ∧ h = []) := by
  have s1 := small_prog a ha
  have s2 := small_prog b hb
  obtain ⟨A, hA⟩ : ∃ A, decide (smallP a) = A := ⟨_, rfl⟩
  obtain ⟨B, hB⟩ : ∃ B, decide (smallP b) = B := ⟨_, rfl⟩
  rw [hA] at s1
  rw [hB] at s2
  have p1 := parse_mat hG s a.length hs
  have p2 := parse_mref s a.length hs
  unfold ParseMR at p1 p2
  have pe := (same_mat _ _ (parseM_sz s a.length) (parseM_sz s a.length)).yes (decide_eq_true rfl)
  generalize parseML s a.length = PL at *
  generalize parseME s a.length = PE at *
  refine rcalls Tryz.func3 rfl (by decide) ?_
  refine ⟨[], _, awake_mat hG, ?_⟩
  rintro r hh ⟨rfl, rfl⟩
  refine ⟨.inl rfl, ?_⟩
  refine ⟨[], _, s1, ?_⟩
  rintro r hh ⟨rfl, rfl⟩
  refine ⟨.inl rfl, ?_⟩
  refine ⟨fun _ => ?_, fun c1 => ?_⟩
  · exact ⟨[], [], .tt, lehN _, .tt, rfl, rfl⟩
  refine ⟨[], _, s2, ?_⟩
  rintro r hh ⟨rfl, rfl⟩
  refine ⟨.inl rfl, ?_⟩
  refine ⟨fun _ => ?_, fun c2 => ?_⟩
  · exact ⟨[], [], .tt, lehN _, .tt, rfl, rfl⟩
  have sa : smallP a := of_decide_eq_true (hA.trans (unnot c1))
  have za := small_sz sa
  have zb := small_sz (of_decide_eq_true (hB.trans (unnot c2)) : smallP b)
  have h40 := sa.1
  have j1 := join_mat a b za zb
  have j2 := join_mref a b za zb
  have je := (same_mat _ _ (szM_join za zb) (szM_join za zb)).yes (decide_eq_true rfl)
  have t1 := text_mat hG a za (by omega)
  have t2 := text_mref a za (by omega)
  generalize joinM a b = J at *
  generalize textM a = T at *
  refine ⟨[], _, p1, ?_⟩
  rintro r hh ⟨rfl, rfl⟩
  refine ⟨.inl rfl, ?_⟩
  refine ⟨[], _, p2, ?_⟩
  rintro r hh ⟨rfl, rfl⟩
  refine ⟨.inl rfl, ?_⟩
  refine ⟨[], _, j1, ?_⟩
  rintro r hh ⟨rfl, rfl⟩
  refine ⟨.inl rfl, ?_⟩
  refine ⟨[], _, j2, ?_⟩
  rintro r hh ⟨rfl, rfl⟩
  refine ⟨.inl rfl, ?_⟩
  refine ⟨[], _, je, ?_⟩
  rintro r hh ⟨rfl, rfl⟩
  refine ⟨.inl rfl, ?_⟩
  refine ⟨[], _, t1, ?_⟩
  rintro r hh ⟨rfl, rfl⟩
  refine ⟨.inl rfl, ?_⟩
  refine ⟨[], _, t2, ?_⟩
  rintro r hh ⟨rfl, rfl⟩
  refine ⟨.inl rfl, ?_⟩
  refine ⟨fun _ => ?_, fun e => absurd rfl (no e)⟩
  refine ⟨[], _, pe, ?_⟩
  rintro r hh ⟨rfl, rfl⟩
  refine ⟨.inl rfl, ?_⟩
  exact ⟨[], [], .tt, lehN _, leTT (decide_eq_true rfl), rfl, rfl⟩

end
end Go.Proofs.YthckagkciefliaaGreatDoor.Mt
