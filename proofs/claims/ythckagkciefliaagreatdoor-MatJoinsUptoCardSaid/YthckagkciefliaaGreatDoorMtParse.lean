/-
  The contracts of matrices: a text's matrix, two matrices joined.
-/
import Derived.Test.YthckagkciefliaaGreatDoorMtText
set_option linter.unusedVariables false
set_option linter.unusedSectionVars false
namespace Go.Proofs.YthckagkciefliaaGreatDoor.Mt
open Go AL Hx Dt Spl Vc

theorem okRows_at {s : ByteArray} : okRows s ↔ ∀ k, k < (pcs 59 s).length → okVec (sAt (pcs 59 s) k) := by
  unfold okRows
  have hl : (pcs 59 s).length = (pieces 59 s.data.toList).length := by simp [pcs]
  constructor
  · intro h k hk
    rw [pcs_at (by omega)]
    refine h _ ?_
    rw [List.getD_eq_getElem?_getD, List.getElem?_eq_getElem (by omega)]
    exact List.getElem_mem _
  · intro h p hp
    obtain ⟨k, hk, rfl⟩ := List.getElem_of_mem hp
    have := h k (by omega)
    rw [pcs_at hk, List.getD_eq_getElem?_getD, List.getElem?_eq_getElem hk] at this
    exact this
theorem vecsOf_pcs (s : ByteArray) : (vecsOf s).length = (pcs 59 s).length := by simp [vecsOf, pcs]
theorem vecsOf_row {s : ByteArray} {k : Nat} (h : k < (pcs 59 s).length) : rowM (vecsOf s) k = parseVL (sAt (pcs 59 s) k) := by
  have hl : (pcs 59 s).length = (pieces 59 s.data.toList).length := by simp [pcs]
  rw [row_lt (by rw [vecsOf_pcs]; exact h), pcs_at (by omega), List.getD_eq_getElem?_getD, List.getElem?_eq_getElem (by omega)]
  simp only [vecsOf, List.getElem_map]
  rfl
theorem parseV_small (s : ByteArray) : (parseVL s).length ≤ 1099511627776 := by
  by_cases h : okVec s
  · rw [(parseV_back h).1]; have := ofK_len (cntF (parseVL s)) 32; show (ofK _ 32).length ≤ _; omega
  · rw [(parseV_bad h).2]; simp
theorem joinV_comm (a b : Vc1) : joinV a b = joinV b a := by
  unfold joinV; congr 1; funext r; simp only [maxF]; omega
theorem joinM_comm (a b : List Vc1) (h : a.length ≤ b.length) : joinM a b = mapM b.length fun i => if a.length ≤ i then rowM b i else joinV (rowM b i) (rowM a i) := by
  unfold joinM
  rw [show max a.length b.length = b.length by omega]
  unfold mapM
  apply List.map_congr_left
  intro i hi
  have := List.mem_range.1 hi
  rw [if_neg (by omega)]
  by_cases h2 : a.length ≤ i
  · rw [if_pos h2, if_pos h2]
  · rw [if_neg h2, if_neg h2, joinV_comm]
theorem joinM_long (a b : List Vc1) (h : b.length ≤ a.length) : joinM a b = mapM a.length fun i => if b.length ≤ i then rowM a i else joinV (rowM a i) (rowM b i) := by
  unfold joinM
  rw [show max a.length b.length = a.length by omega]
  unfold mapM
  apply List.map_congr_left
  intro i hi
  have := List.mem_range.1 hi
  by_cases h2 : b.length ≤ i
  · rw [if_pos h2, if_pos h2]
  · rw [if_neg h2, if_neg h2, if_neg (by omega)]

section
variable [Globs]
def ParseMR (s : ByteArray) (n : Int) (r : AV) (h : List AO) : Prop := r = .tup 2 (pair (matV (parseML s n)) (int .i64 (parseME s n))) ∧ h = []
theorem mat_bad {s : ByteArray} {n : Int} (hv : ¬ okMat s n) (h : List AO) : ∃ l h1 c, LeH 0 h l h1 ∧ LeV h l (.tup 2 fun i => [.raw (.slice none 0 0), int .i64 2].getD i .top) c ∧ ParseMR s n c h1 := by
  obtain ⟨g0, g1⟩ := parseM_bad hv
  exact ⟨[], [], _, lehN _, le_pair (a := matV (parseML s n)) (b := int .i64 (parseME s n)) (by rw [g1]; exact .nilR _ _) (leI g0.symm), rfl, rfl⟩

set_option maxHeartbeats 2000000 in
set_option maxRecDepth 10000 in
theorem parse_mat (hG : NumG) (s : ByteArray) (n : Int) (hs : s.size ≤ 1099511627775) : ACalls Tryz.prog 12 [str s, int .i64 n] [] (ParseMR s n) := by
  have hsp := split_prog s 59 (by omega)
  have hP := okRows_at (s := s)
  have hlen := vecsOf_pcs s
  have hrow := @vecsOf_row s
  have hcnt : (pcs 59 s).length ≤ s.size + 1 := by
    have e : (pcs 59 s).length = (pieces 59 s.data.toList).length := by simp [pcs]
    have := List.count_le_length (a := (59 : UInt8)) (l := s.data.toList)
    have e2 : s.data.toList.length = s.size := rfl
    rw [e, pieces_len]; omega
  have hsz : ∀ k, k < (pcs 59 s).length → (sAt (pcs 59 s) k).size ≤ s.size := fun k hk => by
    have e : (pcs 59 s).length = (pieces 59 s.data.toList).length := by simp [pcs]
    rw [pcs_at (by omega), bA_size]
    have := piece_len (c := 59) (ps := pieces 59 s.data.toList) (k := k) (by omega)
    rw [join_pieces] at this
    exact this
  have hB := @mat_bad _ s n
  have hok : okMat s n ↔ okRows s ∧ mayM (vecsOf s) n := Iff.rfl
  have hgood : okMat s n → _ := @parseM_ok s n
  have hszM : szM (vecsOf s) := ⟨by rw [hlen]; omega, fun i hi => by rw [hrow (by omega)]; exact parseV_small _⟩
  generalize vecsOf s = D at *
  generalize pcs 59 s = P at *
  refine rcalls Tryz.func12 rfl (by decide) ?_
  refine ⟨[], _, hsp, ?_⟩
  rintro r hh ⟨rfl, rfl⟩
  refine ⟨.inl rfl, ?_⟩
  refine ⟨Nat, fun k => [(1, int .i64 n), (6, .own 0 0 k 1), (12, textsV P), (13, int .i64 P.length), (14, int .i64 k)], fun k => [.row (k * 1) fun i => vecV (rowM D i)], fun k => k ≤ P.length ∧ ∀ j, j < k → okVec (sAt P j), fun k => P.length - k,
    ⟨0, [0], ⟨by omega, by omega⟩, lehR (Nat.le_refl _) _, ⟨leI rfl, .nil _ _ (by decide), .same _ trivial, leI rfl, leI rfl, trivial⟩⟩, ?_⟩
  rintro k ⟨hk, hj⟩
  refine ⟨fun c1 => ?_, fun c1 => ?_⟩
  · have f1 : (k : Int) < P.length := yes c1
    have e1 : IntKind.i64.wrap ((k : Int) + 1) = ((k + 1 : Nat) : Int) := by rw [w64 (by omega) (by omega)]; omega
    have hk1 : (k : Int).toNat * 1 + 0 = k := by omega
    have hp := parse_vec hG (sAt P ((k : Int).toNat * 1 + 0)) (by rw [hk1]; have := hsz k (by omega); omega)
    have hr := hrow (k := k) (by omega)
    have hpo := @parseV_ok (sAt P ((k : Int).toNat * 1 + 0))
    have hpb := @parseV_bad (sAt P ((k : Int).toNat * 1 + 0))
    rw [hk1] at hpo hpb
    unfold ParseVR at hp
    rw [show parseVL (sAt P ((k : Int).toNat * 1 + 0)) = rowM D k by rw [hr, hk1]] at hp
    generalize hE : parseVE (sAt P ((k : Int).toNat * 1 + 0)) = E at *
    rw [hk1] at hE
    refine ⟨⟨by omega, f1⟩, ?_⟩
    refine ⟨[], _, hp, ?_⟩
    rintro r hh ⟨rfl, rfl⟩
    refine ⟨.inl rfl, ?_⟩
    refine ⟨fun c2 => ?_, fun c2 => ?_⟩
    · have g2 : ¬ E = 0 := yes c2
      refine hB (fun h => ?_) _
      have h1 := hP.1 (hok.1 h).1 k (by omega)
      exact g2 (by rw [← hE]; exact (hpo h1).1)
    · have g2 : E = 0 := Classical.not_not.1 (no c2)
      have hokk : okVec (sAt P k) := Classical.byContradiction fun h => by
        have := (hpb h).1
        rw [hE, g2] at this; cases this
      refine ⟨rfl, fun i _ => rfl, Nat.le_refl 1, by show (k + 1) * 24 ≤ _; omega, fun i hi => ?_, fun i => vecV (rowM D i), fun i hi => rfl, fun i hi => ?_, ?_⟩
      · obtain rfl : i = 0 := by omega
        rfl
      · obtain rfl : i = 0 := by omega
        show vecV (rowM D (k * 1 + 0)) = vecV (rowM D k)
        rw [show k * 1 + 0 = k by omega]
      refine ⟨trivial, k + 1, [2], ⟨by omega, fun j hj' => ?_⟩, by show P.length - (k + 1) < P.length - k; omega, leh1 rfl (.row _ _ _ _ (Nat.le_refl _) fun i hi => .same _ trivial), ⟨leI rfl, leOwn rfl rfl rfl, .same _ trivial, leI rfl, leI e1, trivial⟩⟩
      rcases Nat.lt_or_ge j k with h | h
      · exact hj j h
      · rw [show j = k by omega]; exact hokk
  · have f1 : ¬ (k : Int) < P.length := no c1
    obtain rfl : k = P.length := by omega
    have hv := hP.2 hj
    have hm := may_mat D n hszM
    refine ⟨[], _, by omega, fun i hi => trivial, hm.args ⟨vmat hlen.symm fun i hi => by rw [Nat.zero_add], .refl _, trivial⟩, ?_⟩
    rintro r hh ⟨rfl, rfl⟩
    refine ⟨.inr ⟨trivial, fun o ho => by cases ho⟩, ?_⟩
    refine ⟨fun c2 => ?_, fun c2 => ?_⟩
    · exact hB (fun h => notT c2 (hok.1 h).2) _
    · obtain ⟨o1, o2⟩ := hgood (hok.2 ⟨hv, notF c2⟩)
      exact ⟨[], [], _, lehN _, le_pair (a := matV (parseML s n)) (b := int .i64 (parseME s n)) (giveMat rfl (by simp) (by rw [o2]; omega) (by rw [o2]; omega) (fun i hi => by rw [o2])) (leI o1.symm), rfl, rfl⟩

set_option maxHeartbeats 2000000 in
set_option maxRecDepth 10000 in
theorem joinRuleM (b : List Vc1) (k : Nat) (v : Vc1) (hb : szM b) (hv : v.length ≤ 1099511627776) : ACalls Tryz.prog 45 [int .i64 k, vecV v, .rp 1 fun _ => matV b] [] (fun r h => r = vecV (if b.length ≤ k then v else joinV v (rowM b k)) ∧ h = []) := by
  obtain ⟨R, hR⟩ : ∃ R, (if b.length ≤ k then v else joinV v (rowM b k)) = R := ⟨_, rfl⟩
  rw [hR]
  refine rcalls Tryz.func45 rfl (by decide) ?_
  refine ⟨fun c1 => ?_, fun c1 => ?_⟩
  · have f1 : (b.length : Int) ≤ k := yes c1
    rw [if_pos (by omega)] at hR
    subst hR
    refine ⟨[], _, clone_vec v hv, ?_⟩
    rintro r hh ⟨rfl, rfl⟩
    refine ⟨.inl rfl, ?_⟩
    exact ⟨[], [], _, lehN _, .same _ trivial, rfl, rfl⟩
  · have f1 : ¬ (b.length : Int) ≤ k := no c1
    rw [if_neg (by omega)] at hR
    have hk1 : (k : Int).toNat * 1 + 0 = k := by omega
    have hj := join_prog v (rowM b ((k : Int).toNat * 1 + 0)) (by omega) (by rw [hk1]; have := hb.2 k (by omega); omega)
    rw [show ofF (maxF (cntF v) (cntF (rowM b ((k : Int).toNat * 1 + 0)))) = R by rw [hk1]; exact hR] at hj
    refine ⟨⟨by omega, by omega⟩, ?_⟩
    refine ⟨[], _, hj, ?_⟩
    rintro r hh ⟨rfl, rfl⟩
    refine ⟨.inl rfl, ?_⟩
    exact ⟨[], [], _, lehN _, .same _ trivial, rfl, rfl⟩

theorem vclo {F : FuncId} {f : Nat → AV} {n : Nat} {g : Nat → AV} {b : List Vc1} (h0 : f 0 = .rp 1 g) (h1 : g 0 = matV b) : VLe (.clo (.func F) 1 f) (clo1 F (.rp 1 fun _ => matV b)) := fun w S L v hv => by
  obtain ⟨vs, e, hn, hd⟩ := hv
  refine ⟨vs, e, hn, fun i hi => ?_⟩
  obtain rfl : i = 0 := by omega
  obtain ⟨u, g1, g2⟩ := hd 0 hi
  refine ⟨u, g1, ?_⟩
  rw [h0] at g2
  obtain ⟨A, e1, g3⟩ := g2
  refine ⟨A, e1, fun i hi => ?_⟩
  obtain rfl : i = 0 := by omega
  obtain ⟨u', g4, g5⟩ := g3 0 hi
  rw [h1] at g5
  exact ⟨u', g4, g5⟩

set_option maxHeartbeats 2000000 in
set_option maxRecDepth 10000 in
theorem join_mat (a b : List Vc1) (ha : szM a) (hb : szM b) : ACalls Tryz.prog 15 [matV a, matV b] [] (fun r h => r = matV (joinM a b) ∧ h = []) := by
  have h1 : a.length < b.length → _ := fun h => turned_clo b 45 a (fun i => if a.length ≤ i then rowM b i else joinV (rowM b i) (rowM a i)) hb.1 fun k hk => by
    have := joinRuleM a k (rowM b k) ha (hb.2 k hk)
    rwa [show (k : Int).toNat * 1 + 0 = k by omega]
  have h2 : ¬ a.length < b.length → _ := fun h => turned_clo a 45 b (fun i => if b.length ≤ i then rowM a i else joinV (rowM a i) (rowM b i)) ha.1 fun k hk => by
    have := joinRuleM b k (rowM a k) hb (ha.2 k hk)
    rwa [show (k : Int).toNat * 1 + 0 = k by omega]
  have g1 : a.length < b.length → _ := fun h => joinM_comm a b (by omega)
  have g2 : ¬ a.length < b.length → _ := fun h => joinM_long a b (by omega)
  generalize joinM a b = R at *
  refine rcalls Tryz.func15 rfl (by decide) ?_
  refine ⟨fun c1 => ?_, fun c1 => ?_⟩
  · have f1 : (a.length : Int) < b.length := yes c1
    have hR := g1 (by omega)
    refine ⟨[1000], _, (h1 (by omega)).args ⟨.refl _, vclo (n := 0) rfl rfl, trivial⟩, ?_⟩
    rintro r hh ⟨rfl, rfl⟩
    refine ⟨.inl rfl, ?_⟩
    refine ⟨[], [], _, lehN _, giveMat rfl (by simp) (by rw [hR, mapM_len]; omega) (by rw [hR, mapM_len]) (fun i hi => ?_), rfl, rfl⟩
    rw [hR, mapM_len] at hi
    rw [hR, mapM_row hi]
    rfl
  · have f1 : ¬ (a.length : Int) < b.length := no c1
    have hR := g2 (by omega)
    refine ⟨[1000], _, (h2 (by omega)).args ⟨.refl _, vclo (n := 0) rfl rfl, trivial⟩, ?_⟩
    rintro r hh ⟨rfl, rfl⟩
    refine ⟨.inl rfl, ?_⟩
    refine ⟨[], [], _, lehN _, giveMat rfl (by simp) (by rw [hR, mapM_len]; omega) (by rw [hR, mapM_len]) (fun i hi => ?_), rfl, rfl⟩
    rw [hR, mapM_len] at hi
    rw [hR, mapM_row hi]
    rfl

end
end Go.Proofs.YthckagkciefliaaGreatDoor.Mt
