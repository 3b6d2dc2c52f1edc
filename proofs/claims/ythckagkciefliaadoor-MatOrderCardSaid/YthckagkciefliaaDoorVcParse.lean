/-
  The contracts of a text's vector: the program's and the document's.
-/
import Derived.Test.YthckagkciefliaaDoorVcText
import Derived.Test.YthckagkciefliaaDoorSplW
import Derived.Test.YthckagkciefliaaDoorDtParse
set_option linter.unusedVariables false
set_option linter.unusedSectionVars false
namespace Go.Proofs.YthckagkciefliaaDoor.Vc
open Go AL Hx Dt Spl

theorem okV_at {s : ByteArray} : okV s ↔ ∀ k, k < (pcs 44 s).length → okP (sAt (pcs 44 s) k) := by
  unfold okV
  have hl : (pcs 44 s).length = (pieces 44 s.data.toList).length := by simp [pcs]
  constructor
  · intro h k hk
    rw [pcs_at (by omega)]
    refine h _ ?_
    rw [List.getD_eq_getElem?_getD, List.getElem?_eq_getElem (by omega)]
    exact List.getElem_mem _
  · intro h p hp
    obtain ⟨k, hk, rfl⟩ := List.getElem_of_mem hp
    have := h k (by omega)
    rw [pcs_at hk, List.getD_eq_getElem?_getD, List.getElem?_eq_getElem hk] at this
    exact this
theorem dotsOf_len (s : ByteArray) : (dotsOf s).length = (pcs 44 s).length := by simp [dotsOf, pcs]
theorem dotsOf_take {s : ByteArray} {k : Nat} (h : k < (pcs 44 s).length) : (dotsOf s).take (k + 1) = (dotsOf s).take k ++ [(parseR (sAt (pcs 44 s) ((k : Int).toNat * 1 + 0)), parseQ (sAt (pcs 44 s) ((k : Int).toNat * 1 + 0)))] := by
  have hl : (pcs 44 s).length = (pieces 44 s.data.toList).length := by simp [pcs]
  rw [List.take_succ_eq_append_getElem (by rw [dotsOf_len]; exact h), show (k : Int).toNat * 1 + 0 = k by omega, pcs_at (by omega), List.getD_eq_getElem?_getD, List.getElem?_eq_getElem (by omega)]
  simp only [dotsOf, List.getElem_map]
  rfl

section
variable [Globs]
def ParseVR (s : ByteArray) (r : AV) (h : List AO) : Prop := r = .tup 2 (pair (vecV (parseVL s)) (int .i64 (parseVE s))) ∧ h = []
theorem vec_bad {s : ByteArray} (hv : ¬ okVec s) (h : List AO) : ∃ l h1 c, LeH 0 h l h1 ∧ LeV h l (.tup 2 fun i => [.raw (.slice none 0 0), int .i64 2].getD i .top) c ∧ ParseVR s c h1 := by
  obtain ⟨g0, g1⟩ := parseV_bad hv
  exact ⟨[], [], _, lehN _, le_pair (a := vecV (parseVL s)) (b := int .i64 (parseVE s)) (by rw [g1]; exact .nilR _ _) (leI g0.symm), rfl, rfl⟩
theorem vec_dash {s : ByteArray} (hv : s = dash) (h : List AO) : ∃ l h1 c, LeH 0 h l h1 ∧ LeV h l (.tup 2 fun i => [.raw (.slice none 0 0), int .i64 0].getD i .top) c ∧ ParseVR s c h1 := by
  obtain ⟨g0, g1⟩ := parseV_ok (s := s) (.inl hv)
  exact ⟨[], [], _, lehN _, le_pair (a := vecV (parseVL s)) (b := int .i64 (parseVE s)) (by rw [g1, if_pos hv]; exact .nilR _ _) (leI g0.symm), rfl, rfl⟩

set_option maxHeartbeats 2000000 in
set_option maxRecDepth 10000 in
theorem parse_vec (hG : NumG) (s : ByteArray) (hs : s.size ≤ 1099511627776) : ACalls Tryd.prog 27 [str s] [] (ParseVR s) := by
  have hsp := split_prog s 44 hs
  have hP := okV_at (s := s)
  have hlen := dotsOf_len s
  have htake := @dotsOf_take s
  have hcnt : (pcs 44 s).length ≤ s.size + 1 := by
    have e : (pcs 44 s).length = (pieces 44 s.data.toList).length := by simp [pcs]
    have := List.count_le_length (a := (44 : UInt8)) (l := s.data.toList)
    have e2 : s.data.toList.length = s.size := rfl
    rw [e, pieces_len]; omega
  have hsz : ∀ k, k < (pcs 44 s).length → (sAt (pcs 44 s) k).size ≤ s.size := fun k hk => by
    have e : (pcs 44 s).length = (pieces 44 s.data.toList).length := by simp [pcs]
    rw [pcs_at (by omega), bA_size]
    have := piece_len (c := 44) (ps := pieces 44 s.data.toList) (k := k) (by omega)
    rw [join_pieces] at this
    exact this
  have hB := @vec_bad _ s
  have hD := @vec_dash _ s
  have hok : s ≠ dash → (okVec s ↔ okV s ∧ dotsOf s = ofF (cntF (dotsOf s))) := fun hne => ⟨fun h => h.resolve_left hne, .inr⟩
  have hgood : s ≠ dash → okVec s → parseVE s = 0 ∧ parseVL s = dotsOf s := fun hne h => by
    obtain ⟨a, b⟩ := parseV_ok h
    exact ⟨a, by rw [b, if_neg hne]⟩
  generalize dotsOf s = D at *
  generalize pcs 44 s = P at *
  refine rcalls Tryd.func27 rfl (by decide) ?_
  refine ⟨fun c => ?_, fun c => ?_⟩
  · exact hD (yes c) _
  have hne : s ≠ dash := no c
  refine ⟨[], _, hsp, ?_⟩
  rintro r hh ⟨rfl, rfl⟩
  refine ⟨.inl rfl, ?_⟩
  refine ⟨Nat, fun k => [(4, .own 0 0 (D.take k).length 2), (12, textsV P), (13, int .i64 P.length), (14, int .i64 k)], fun k => [.row ((D.take k).length * 2) fun i => int .i64 (cellD (D.take k) i)], fun k => k ≤ P.length ∧ ∀ j, j < k → okP (sAt P j), fun k => P.length - k,
    ⟨0, [0], ⟨by omega, by omega⟩, lehR (Nat.le_refl _) _, ⟨.nil _ _ (by decide), .same _ trivial, leI rfl, leI rfl, trivial⟩⟩, ?_⟩
  rintro k ⟨hk, hj⟩
  refine ⟨fun c1 => ?_, fun c1 => ?_⟩
  · have f1 : (k : Int) < P.length := yes c1
    have e1 : IntKind.i64.wrap ((k : Int) + 1) = ((k + 1 : Nat) : Int) := by rw [w64 (by omega) (by omega)]; omega
    have hk1 : (k : Int).toNat * 1 + 0 = k := by omega
    have hp := parse_prog hG (sAt P ((k : Int).toNat * 1 + 0)) (by rw [hk1]; have := hsz k (by omega); omega)
    have hs' := htake (k := k) (by omega)
    have hpo := @parse_ok (sAt P ((k : Int).toNat * 1 + 0))
    have hpb := @parse_bad (sAt P ((k : Int).toNat * 1 + 0))
    rw [hk1] at hpo hpb
    unfold ParseR at hp
    generalize parseR (sAt P ((k : Int).toNat * 1 + 0)) = R at *
    generalize parseQ (sAt P ((k : Int).toNat * 1 + 0)) = Q at *
    generalize hE : parseE (sAt P ((k : Int).toNat * 1 + 0)) = E at *
    rw [hk1] at hE
    refine ⟨⟨by omega, f1⟩, ?_⟩
    refine ⟨[], _, hp, ?_⟩
    rintro r hh ⟨rfl, rfl⟩
    refine ⟨.inl rfl, ?_⟩
    refine ⟨fun c2 => ?_, fun c2 => ?_⟩
    · have g2 : ¬ E = 0 := yes c2
      refine hB (fun h => ?_) _
      have h1 := hP.1 ((hok hne).1 h).1 k (by omega)
      exact g2 (by rw [← hE]; exact (hpo h1).1)
    · have g2 : E = 0 := Classical.not_not.1 (no c2)
      have hokk : okP (sAt P k) := Classical.byContradiction fun h => by
        have := (hpb h).1
        rw [hE, g2] at this; cases this
      have hln : (D.take k).length ≤ k := by simp; omega
      refine ⟨rfl, fun i _ => rfl, Nat.le_refl 2, by show ((D.take k).length + 1) * 16 ≤ _; omega, fun i hi => two_cells (f := fun i => [int .i64 R, int .i64 Q].getD (0 + i) .top) rfl rfl hi, fun i => int .i64 (cellD (D.take (k + 1)) i),
        fun i hi => snoc_old hs' hi, fun i hi => snoc_new (f := fun i => [int .i64 R, int .i64 Q].getD (0 + i) .top) hs' rfl rfl hi, ?_⟩
      have hlen1 : (D.take k).length + 1 = (D.take (k + 1)).length := by rw [hs']; simp
      refine ⟨trivial, k + 1, [3], ⟨by omega, fun j hj' => ?_⟩, by show P.length - (k + 1) < P.length - k; omega, leh1 rfl ?_, ⟨leOwn rfl rfl hlen1, .same _ trivial, leI rfl, leI e1, trivial⟩⟩
      · rcases Nat.lt_or_ge j k with h | h
        · exact hj j h
        · rw [show j = k by omega]; exact hokk
      · rw [← hlen1]; exact .row _ _ _ _ (Nat.le_refl _) fun i hi => leI rfl
  · have f1 : ¬ (k : Int) < P.length := no c1
    obtain rfl : k = P.length := by omega
    have ht : D.take P.length = D := List.take_of_length_le (by omega)
    have hv := hP.2 hj
    have hm := may_vec (D.take P.length) (by rw [ht]; omega)
    refine ⟨[], _, by omega, fun i hi => trivial, hm.args ⟨vro' rfl fun i hi => by rw [Nat.zero_add], trivial⟩, ?_⟩
    rintro r hh ⟨rfl, rfl⟩
    refine ⟨.inr ⟨trivial, fun o ho => by cases ho⟩, ?_⟩
    refine ⟨fun c2 => ?_, fun c2 => ?_⟩
    · have g := notT c2
      rw [ht] at g
      exact hB (fun h => g ((hok hne).1 h).2) _
    · have g := notF c2
      rw [ht] at g
      obtain ⟨o1, o2⟩ := hgood hne ((hok hne).2 ⟨hv, g⟩)
      exact ⟨[], [], _, lehN _, le_pair (a := vecV (parseVL s)) (b := int .i64 (parseVE s)) (giveVec rfl (by simp) (ht.trans o2.symm)) (leI o1.symm), rfl, rfl⟩

theorem byte_get {s : ByteArray} {i : Nat} (h : i < s.size) : ∃ b, s.data.toList[i]? = some b ∧ (intsOf s).getD i 0 = (b.toNat : Int) := by
  have hl : s.data.toList.length = s.size := rfl
  refine ⟨s.data.toList[i]'(by omega), List.getElem?_eq_getElem (by omega), ?_⟩
  unfold intsOf
  rw [List.getD_eq_getElem?_getD, List.getElem?_map, List.getElem?_eq_getElem (by omega)]
  rfl
theorem byte_is {b c : UInt8} {n : Int} (h : n = (b.toNat : Int)) : n = (c.toNat : Int) ↔ b = c := by
  subst h
  constructor
  · intro e; exact UInt8.toNat_inj.1 (by omega)
  · rintro rfl; rfl

end
end Go.Proofs.YthckagkciefliaaDoor.Vc
