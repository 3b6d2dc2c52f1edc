/-
  The contracts of a text's vector: the program's and the document's.
-/
import Derived.Test.YthckagkciefliaaGreatDoorVcText
import Derived.Test.YthckagkciefliaaGreatDoorSplW
import Derived.Test.YthckagkciefliaaGreatDoorDtParse
set_option linter.unusedVariables false
set_option linter.unusedSectionVars false
namespace Go.Proofs.YthckagkciefliaaGreatDoor.Vc
open Go AL Hx Dt Spl

theorem okV_at {s : ByteArray} : okV s ↔ ∀ k, k < (pcs 44 s).length → okP (sAt (pcs 44 s) k) := by
  unfold okV
  have hl : (pcs 44 s).length = (pieces 44 s.data.toList).length := by simp [pcs]
  constructor
  · intro h k hk
    rw [pcs_at (by omega)]
    refine h _ ?_
    rw [List.getD_eq_getElem?_getD, List.getElem?_eq_getElem (by omega)]
    exact List.getElem_mem _
  · intro h p hp
    obtain ⟨k, hk, rfl⟩ := List.getElem_of_mem hp
    have := h k (by omega)
    rw [pcs_at hk, List.getD_eq_getElem?_getD, List.getElem?_eq_getElem hk] at this
    exact this
theorem dotsOf_len (s : ByteArray) : (dotsOf s).length = (pcs 44 s).length := by simp [dotsOf, pcs]
theorem dotsOf_take {s : ByteArray} {k : Nat} (h : k < (pcs 44 s).length) : (dotsOf s).take (k + 1) = (dotsOf s).take k ++ [(parseR (sAt (pcs 44 s) ((k : Int).toNat * 1 + 0)), parseQ (sAt (pcs 44 s) ((k : Int).toNat * 1 + 0)))] := by
  have hl : (pcs 44 s).length = (pieces 44 s.data.toList).length := by simp [pcs]
  rw [List.take_succ_eq_append_getElem (by rw [dotsOf_len]; exact h), show (k : Int).toNat * 1 + 0 = k by omega, pcs_at (by omega), List.getD_eq_getElem?_getD, List.getElem?_eq_getElem (by omega)]
  simp only [dotsOf, List.getElem_map]
  rfl

section
variable [Globs]
def ParseVR (s : ByteArray) (r : AV) (h : List AO) : Prop := r = .tup 2 (pair (vecV (parseVL s)) (int .i64 (parseVE s))) ∧ h = []
theorem vec_bad {s : ByteArray} (hv : ¬ okVec s) (h : List AO) : ∃ l h1 c, LeH 0 h l h1 ∧ LeV h l (.tup 2 fun i => [.raw (.slice none 0 0), int .i64 2].getD i .top) c ∧ ParseVR s c h1 := by
  obtain ⟨g0, g1⟩ := parseV_bad hv
  exact ⟨[], [], _, lehN _, le_pair (a := vecV (parseVL s)) (b := int .i64 (parseVE s)) (by rw [g1]; exact .nilR _ _) (leI g0.symm), rfl, rfl⟩
theorem vec_dash {s : ByteArray} (hv : s = dash) (h : List AO) : ∃ l h1 c, LeH 0 h l h1 ∧ LeV h l (.tup 2 fun i => [.raw (.slice none 0 0), int .i64 0].getD i .top) c ∧ ParseVR s c h1 := by
  obtain ⟨g0, g1⟩ := parseV_ok (s := s) (.inl hv)
  exact ⟨[], [], _, lehN _, le_pair (a := vecV (parseVL s)) (b := int .i64 (parseVE s)) (by rw [g1, if_pos hv]; exact .nilR _ _) (leI g0.symm), rfl, rfl⟩

set_option maxHeartbeats 2000000 in
set_option maxRecDepth 10000 in
theorem parse_vec (hG : NumG) (s : ByteArray) (hs : s.size ≤ 1099511627776) : ACalls Tryz.prog 40 [str s] [] (ParseVR s) := by
  have hsp := split_prog s 44 hs
  have hP := okV_at (s := s)
  have hlen := dotsOf_len s
  have htake := @dotsOf_take s
  have hcnt : (pcs 44 s).length ≤ s.size + 1 := by
    have e : (pcs 44 s).length = (pieces 44 s.data.toList).length := by simp [pcs]
    have := List.count_le_length (a := (44 : UInt8)) (l := s.data.toList)
    have e2 : s.data.toList.length = s.size := rfl
    rw [e, pieces_len]; omega
  have hsz : ∀ k, k < (pcs 44 s).length → (sAt (pcs 44 s) k).size ≤ s.size := fun k hk => by
    have e : (pcs 44 s).length = (pieces 44 s.data.toList).length := by simp [pcs]
    rw [pcs_at (by omega), bA_size]
    have := piece_len (c := 44) (ps := pieces 44 s.data.toList) (k := k) (by omega)
    rw [join_pieces] at this
    exact this
  have hB := @vec_bad _ s
  have hD := @vec_dash _ s
  have hok : s ≠ dash → (okVec s ↔ okV s ∧ dotsOf s = ofF (cntF (dotsOf s))) := fun hne => ⟨fun h => h.resolve_left hne, .inr⟩
  have hgood : s ≠ dash → okVec s → parseVE s = 0 ∧ parseVL s = dotsOf s := fun hne h => by
    obtain ⟨a, b⟩ := parseV_ok h
    exact ⟨a, by rw [b, if_neg hne]⟩
  generalize dotsOf s = D at *
  generalize pcs 44 s = P at *
  refine rcalls Tryz.func40 rfl (by decide) ?_
  refine ⟨fun c => ?_, fun c => ?_⟩
  · exact hD (yes c) _
  have hne : s ≠ dash := no c
  refine ⟨[], _, hsp, ?_⟩
  rintro r hh ⟨rfl, rfl⟩
  refine ⟨.inl rfl, ?_⟩
  refine ⟨Nat, fun k => [(4, .own 0 0 (D.take k).length 2), (12, textsV P), (13, int .i64 P.length), (14, int .i64 k)], fun k => [.row ((D.take k).length * 2) fun i => int .i64 (cellD (D.take k) i)], fun k => k ≤ P.length ∧ ∀ j, j < k → okP (sAt P j), fun k => P.length - k,
    ⟨0, [0], ⟨by omega, by omega⟩, lehR (Nat.le_refl _) _, ⟨.nil _ _ (by decide), .same _ trivial, leI rfl, leI rfl, trivial⟩⟩, ?_⟩
  rintro k ⟨hk, hj⟩
  refine ⟨fun c1 => ?_, fun c1 => ?_⟩
  · have f1 : (k : Int) < P.length := yes c1
    have e1 : IntKind.i64.wrap ((k : Int) + 1) = ((k + 1 : Nat) : Int) := by rw [w64 (by omega) (by omega)]; omega
    have hk1 : (k : Int).toNat * 1 + 0 = k := by omega
    have hp := parse_prog hG (sAt P ((k : Int).toNat * 1 + 0)) (by rw [hk1]; have := hsz k (by omega); omega)
    have hs' := htake (k := k) (by omega)
    have hpo := @parse_ok (sAt P ((k : Int).toNat * 1 + 0))
    have hpb := @parse_bad (sAt P ((k : Int).toNat * 1 + 0))
    rw [hk1] at hpo hpb
    unfold ParseR at hp
    generalize parseR (sAt P ((k : Int).toNat * 1 + 0)) = R at *
    generalize parseQ (sAt P ((k : Int).toNat * 1 + 0)) = Q at *
    generalize hE : parseE (sAt P ((k : Int).toNat * 1 + 0)) = E at *
    rw [hk1] at hE
    refine ⟨⟨by omega, f1⟩, ?_⟩
    refine ⟨[], _, hp, ?_⟩
    rintro r hh ⟨rfl, rfl⟩
    refine ⟨.inl rfl, ?_⟩
    refine ⟨fun c2 => ?_, fun c2 => ?_⟩
    · have g2 : ¬ E = 0 := yes c2
      refine hB (fun h => ?_) _
      have h1 := hP.1 ((hok hne).1 h).1 k (by omega)
      exact g2 (by rw [← hE]; exact (hpo h1).1)
    · have g2 : E = 0 := Classical.not_not.1 (no c2)
      have hokk : okP (sAt P k) := Classical.byContradiction fun h => by
        have := (hpb h).1
        rw [hE, g2] at this; cases this
      have hln : (D.take k).length ≤ k := by simp; omega
      refine ⟨rfl, fun i _ => rfl, Nat.le_refl 2, by show ((D.take k).length + 1) * 16 ≤ _; omega, fun i hi => two_cells (f := fun i => [int .i64 R, int .i64 Q].getD (0 + i) .top) rfl rfl hi, fun i => int .i64 (cellD (D.take (k + 1)) i),
        fun i hi => snoc_old hs' hi, fun i hi => snoc_new (f := fun i => [int .i64 R, int .i64 Q].getD (0 + i) .top) hs' rfl rfl hi, ?_⟩
      have hlen1 : (D.take k).length + 1 = (D.take (k + 1)).length := by rw [hs']; simp
      refine ⟨trivial, k + 1, [3], ⟨by omega, fun j hj' => ?_⟩, by show P.length - (k + 1) < P.length - k; omega, leh1 rfl ?_, ⟨leOwn rfl rfl hlen1, .same _ trivial, leI rfl, leI e1, trivial⟩⟩
      · rcases Nat.lt_or_ge j k with h | h
        · exact hj j h
        · rw [show j = k by omega]; exact hokk
      · rw [← hlen1]; exact .row _ _ _ _ (Nat.le_refl _) fun i hi => leI rfl
  · have f1 : ¬ (k : Int) < P.length := no c1
    obtain rfl : k = P.length := by omega
    have ht : D.take P.length = D := List.take_of_length_le (by omega)
    have hv := hP.2 hj
    have hm := may_vec (D.take P.length) (by rw [ht]; omega)
    refine ⟨[], _, by omega, fun i hi => trivial, hm.args ⟨vro' rfl fun i hi => by rw [Nat.zero_add], trivial⟩, ?_⟩
    rintro r hh ⟨rfl, rfl⟩
    refine ⟨.inr ⟨trivial, fun o ho => by cases ho⟩, ?_⟩
    refine ⟨fun c2 => ?_, fun c2 => ?_⟩
    · have g := notT c2
      rw [ht] at g
      exact hB (fun h => g ((hok hne).1 h).2) _
    · have g := notF c2
      rw [ht] at g
      obtain ⟨o1, o2⟩ := hgood hne ((hok hne).2 ⟨hv, g⟩)
      exact ⟨[], [], _, lehN _, le_pair (a := vecV (parseVL s)) (b := int .i64 (parseVE s)) (giveVec rfl (by simp) (ht.trans o2.symm)) (leI o1.symm), rfl, rfl⟩

theorem byte_get {s : ByteArray} {i : Nat} (h : i < s.size) : ∃ b, s.data.toList[i]? = some b ∧ (intsOf s).getD i 0 = (b.toNat : Int) := by
  have hl : s.data.toList.length = s.size := rfl
  refine ⟨s.data.toList[i]'(by omega), List.getElem?_eq_getElem (by omega), ?_⟩
  unfold intsOf
  rw [List.getD_eq_getElem?_getD, List.getElem?_map, List.getElem?_eq_getElem (by omega)]
  rfl
theorem byte_is {b c : UInt8} {n : Int} (h : n = (b.toNat : Int)) : n = (c.toNat : Int) ↔ b = c := by
  subst h
  constructor
  · intro e; exact UInt8.toNat_inj.1 (by omega)
  · rintro rfl; rfl

set_option maxHeartbeats 2000000 in
set_option maxRecDepth 10000 in
theorem parse_vref (s : ByteArray) (hs : s.size ≤ 1099511627776) : ACalls Tryz.prog 41 [str s] [] (ParseVR s) := by
  by_cases hd : s = dash
  · have hD := vec_dash hd
    have ht := textv_ref [] (by simp)
    rw [cnt_nil, show textV (ofF fun _ => 0) = dash by decide] at ht
    refine rcalls Tryz.func41 rfl (by decide) ?_
    refine ⟨Unit, fun _ => [(0, str s), (4, .raw (.slice none 0 0)), (5, int .i64 0), (6, int .i64 0)], fun _ => [], fun _ => True, fun _ => 0,
      ⟨(), [], trivial, lehN _, ⟨leS rfl, .raw _, leI rfl, leI rfl, trivial⟩⟩, ?_⟩
    intro _ _
    refine ⟨fun _ => ⟨fun c => absurd hd (yes c), fun _ => ?_⟩, fun c => absurd (by omega) (no c)⟩
    refine ⟨[], _, ht.args ⟨fun w S L v hv => ⟨none, 0, hv, Nat.le_refl _, fun i hi => by simp at hi⟩, trivial⟩, ?_⟩
    rintro r hh ⟨rfl, rfl⟩
    refine ⟨.inl rfl, ?_⟩
    refine ⟨fun c => absurd hd.symm (yes c), fun _ => ?_⟩
    exact hD _
  have hl : s.data.toList.length = s.size := rfl
  obtain ⟨ps, hps⟩ : ∃ ps, pieces 44 s.data.toList = ps := ⟨_, rfl⟩
  have hpos : 0 < ps.length := by rw [← hps, pieces_len]; omega
  have hjoin : joinC 44 ps = s.data.toList := by rw [← hps, join_pieces]
  have hfree : ∀ p ∈ ps, ∀ x ∈ p, x ≠ 44 := by rw [← hps]; exact pieces_free
  have hP := okV_at (s := s)
  have hlen := dotsOf_len s
  have htake := @dotsOf_take s
  have hPl : (pcs 44 s).length = ps.length := by unfold pcs; rw [hps]; simp
  have hat : ∀ k, k < ps.length → sAt (pcs 44 s) k = bA (ps.getD k []) := fun k hk => by rw [← hps]; exact pcs_at (by rw [hps]; exact hk)
  have hcnt : ps.length ≤ s.size + 1 := by
    have := List.count_le_length (a := (44 : UInt8)) (l := s.data.toList)
    rw [← hps, pieces_len]; omega
  have hB := @vec_bad _ s
  have hsame := @text_same s
  have hok : okVec s ↔ okV s ∧ dotsOf s = ofF (cntF (dotsOf s)) := ⟨fun h => h.resolve_left hd, .inr⟩
  have hgood : okVec s → parseVE s = 0 ∧ parseVL s = dotsOf s := fun h => by
    obtain ⟨a, b⟩ := parseV_ok h
    exact ⟨a, by rw [b, if_neg hd]⟩
  have hle : ∀ k, k < ps.length → pre ps k + (ps.getD k []).length ≤ s.size := fun k hk => by
    rcases Nat.lt_or_ge (k + 1) ps.length with h | h
    · have := pre_le 44 ps (k + 1) h
      rw [hjoin, hl] at this
      have : pre ps (k + 1) = pre ps k + (ps.getD k []).length + 1 := rfl
      omega
    · have := pre_end 44 (ps := ps) (k := k) (by omega) (pre_le 44 ps k hk)
      rw [hjoin, hl] at this
      omega
  have hend : ∀ k, k + 1 = ps.length → pre ps k + (ps.getD k []).length = s.size := fun k hk => by
    have := pre_end 44 (ps := ps) (k := k) hk (pre_le 44 ps k (by omega))
    rwa [hjoin, hl] at this
  -- where a sign stands, a piece ends, and the other way round
  have hin : ∀ k j, k < ps.length → j < (ps.getD k []).length → ¬ (intsOf s).getD (pre ps k + j) 0 = 44 := fun k j hk hj h => by
    have h1 := hle k hk
    obtain ⟨b, e1, e2⟩ := byte_get (s := s) (i := pre ps k + j) (by omega)
    have e3 := (byte_is (c := 44) e2).1 h
    have e4 := pre_get (c := 44) hk hj
    rw [hjoin, e1, e3] at e4
    have hm : (44 : UInt8) ∈ ps.getD k [] := List.mem_of_getElem? e4.symm
    refine hfree (ps.getD k []) ?_ _ hm rfl
    rw [List.getD_eq_getElem?_getD, List.getElem?_eq_getElem hk]
    exact List.getElem_mem _
  have hout : ∀ k, k + 1 < ps.length → (intsOf s).getD (pre ps k + (ps.getD k []).length) 0 = 44 := fun k hk => by
    have h1 := pre_le 44 ps (k + 1) hk
    rw [hjoin, hl] at h1
    have h2 : pre ps (k + 1) = pre ps k + (ps.getD k []).length + 1 := rfl
    obtain ⟨b, e1, e2⟩ := byte_get (s := s) (i := pre ps k + (ps.getD k []).length) (by omega)
    have e4 := pre_sep (c := 44) hk
    rw [hjoin, e1] at e4
    cases e4
    exact e2
  have hcut : ∀ k, k < ps.length → s.extract (pre ps k) (pre ps k + (ps.getD k []).length) = sAt (pcs 44 s) k := fun k hk => by
    refine bA_ext ?_
    rw [ext_list, hat k hk, bA_list, ← hjoin]
    exact pre_piece hk
  generalize hDD : dotsOf s = D at *
  generalize pcs 44 s = P at *
  refine rcalls Tryz.func41 rfl (by decide) ?_
  refine ⟨Nat × Nat, fun x => [(0, str s), (4, .own 0 0 (D.take x.1).length 2), (5, int .i64 (pre ps x.1)), (6, int .i64 x.2)], fun x => [.row ((D.take x.1).length * 2) fun i => int .i64 (cellD (D.take x.1) i)],
    fun x => x.1 ≤ ps.length ∧ (x.1 < ps.length → pre ps x.1 ≤ x.2 ∧ x.2 ≤ pre ps x.1 + (ps.getD x.1 []).length) ∧ (x.1 = ps.length → x.2 = s.size + 1) ∧ ∀ j, j < x.1 → okP (sAt P j), fun x => s.size + 1 - x.2,
    ⟨(0, 0), [0], ⟨by omega, fun _ => ⟨Nat.le_refl _, Nat.zero_le _⟩, fun h => by simp at h; omega, by simp⟩, lehR (Nat.le_refl _) _, ⟨leS rfl, .nil _ _ (by decide), leI rfl, leI rfl, trivial⟩⟩, ?_⟩
  rintro ⟨k, i⟩ ⟨hk, hki, hke, hj⟩
  dsimp only at hk hki hke hj ⊢
  refine ⟨fun c1 => ⟨fun _ => ?_, fun c => absurd hd (no c)⟩, fun c1 => ?_⟩
  · have f1 : (i : Int) ≤ s.size := yes c1
    have hkl : k < ps.length := by
      rcases Nat.lt_or_ge k ps.length with h | h
      · exact h
      · have := hke (by omega); omega
    obtain ⟨hi1, hi2⟩ := hki hkl
    have e1 : IntKind.i64.wrap ((i : Int) + 1) = ((i + 1 : Nat) : Int) := by rw [w64 (by omega) (by omega)]; omega
    have hto : ((i : Int)).toNat = i := by omega
    have hpl := hle k hkl
    -- one sign more
    have step : ¬ i = pre ps k + (ps.getD k []).length → ∀ (h : List AO), h[0]? = some (.row ((D.take k).length * 2) fun i => int .i64 (cellD (D.take k) i)) → ∀ t : List AV, t[0]? = some (str s) → t[4]? = some (.own 0 0 (D.take k).length 2) → t[5]? = some (int .i64 (pre ps k)) → t[6]? = some (int .i64 (IntKind.i64.wrap ((i : Int) + 1))) → True := fun _ _ _ _ _ _ _ _ => trivial
    -- a piece ends here
    have piece : i = pre ps k + (ps.getD k []).length → s.extract (pre ps k) i = sAt P k := fun h => by rw [h]; exact hcut k hkl
    have hpk : ∀ (K : ACalls Tryz.prog 64 [str (s.extract (pre ps k) i)] [] (ParseR (s.extract (pre ps k) i)) → Prop), True := fun _ => trivial
    refine ⟨fun c2 => ?_, fun c2 => ⟨⟨by omega, by have := no c2; omega⟩, fun c3 => ?_, fun c3 => ?_⟩⟩
    case refine_3 =>
      have g2 := no c2
      have g3 : ¬ (intsOf s).getD ((i : Int)).toNat 0 = 44 := no c3
      rw [hto] at g3
      have hlt : ¬ i = pre ps k + (ps.getD k []).length := fun h => by
        rcases Nat.lt_or_ge (k + 1) ps.length with h1 | h1
        · exact g3 (by rw [h]; exact hout k h1)
        · exact g2 (by rw [h, hend k (by omega)])
      exact ⟨trivial, (k, i + 1), [0], ⟨by omega, fun _ => ⟨by show pre ps k ≤ i + 1; omega, by show i + 1 ≤ pre ps k + (ps.getD k []).length; omega⟩, fun h => by have h : k = ps.length := h; omega, hj⟩, by show s.size + 1 - (i + 1) < s.size + 1 - i; omega, leh1 rfl (.row _ _ _ _ (Nat.le_refl _) fun i hi => leI rfl), ⟨leS rfl, leOwn rfl rfl rfl, leI rfl, leI e1, trivial⟩⟩
    all_goals
      have hlast : i = pre ps k + (ps.getD k []).length := by
        first
          | (have g2 := yes c2
             rcases Nat.lt_or_ge (k + 1) ps.length with h1 | h1
             · have := hle (k + 1) h1
               have : pre ps (k + 1) = pre ps k + (ps.getD k []).length + 1 := rfl
               omega
             · have := hend k (by omega); omega)
          | (have g3 : (intsOf s).getD ((i : Int)).toNat 0 = 44 := yes c3
             rw [hto] at g3
             rcases Nat.lt_or_ge i (pre ps k + (ps.getD k []).length) with h | h
             · refine absurd ?_ (hin k (i - pre ps k) hkl (by omega))
               rw [show pre ps k + (i - pre ps k) = i by omega]; exact g3
             · omega)
      have e2 : pre ps (k + 1) = i + 1 := by show pre ps k + (ps.getD k []).length + 1 = _; omega
      have hpi := piece hlast
      have hs' := htake (k := k) (by omega)
      have hk1 : (k : Int).toNat * 1 + 0 = k := by omega
      rw [hk1, ← hpi] at hs'
      have hsz : (s.extract (pre ps k) i).size ≤ s.size := by rw [ByteArray.size_extract]; omega
      have hp := parse_ref (s.extract (pre ps k) i) (by omega)
      have hpo := @parse_ok (s.extract (pre ps k) i)
      have hpb := @parse_bad (s.extract (pre ps k) i)
      have hPk := fun h => hP.1 h k (by omega)
      rw [← hpi] at hPk
      unfold ParseR at hp
      have hokk : parseE (s.extract (pre ps k) i) = 0 → okP (sAt P k) := fun h0 => Classical.byContradiction fun h => by
        rw [← hpi] at h
        have := (hpb h).1
        rw [h0] at this; cases this
      generalize parseR (s.extract (pre ps k) i) = R at *
      generalize parseQ (s.extract (pre ps k) i) = Q at *
      generalize parseE (s.extract (pre ps k) i) = E at *
      refine ⟨⟨by omega, f1⟩, ⟨by omega, by omega⟩, ?_⟩
      refine ⟨[], _, hp, ?_⟩
      rintro r hh ⟨rfl, rfl⟩
      refine ⟨.inl rfl, ?_⟩
      refine ⟨fun c4 => ?_, fun c4 => ?_⟩
      · have g4 : ¬ E = 0 := yes c4
        exact hB (fun h => g4 (hpo (hPk (hok.1 h).1)).1) _
      · have g4 : E = 0 := Classical.not_not.1 (no c4)
        have hln : (D.take k).length ≤ k := by simp; omega
        refine ⟨rfl, fun i _ => rfl, Nat.le_refl 2, by show ((D.take k).length + 1) * 16 ≤ _; omega, fun i hi => two_cells (f := fun i => [int .i64 R, int .i64 Q].getD (0 + i) .top) rfl rfl hi, fun i => int .i64 (cellD (D.take (k + 1)) i),
          fun i hi => snoc_old hs' hi, fun i hi => snoc_new (f := fun i => [int .i64 R, int .i64 Q].getD (0 + i) .top) hs' rfl rfl hi, ?_⟩
        have hlen1 : (D.take k).length + 1 = (D.take (k + 1)).length := by rw [hs']; simp
        refine ⟨trivial, (k + 1, i + 1), [3], ⟨by show k + 1 ≤ _; omega, fun h => ⟨by show pre ps (k + 1) ≤ i + 1; omega, by show i + 1 ≤ pre ps (k + 1) + _; omega⟩, fun h => ?_, fun j hj' => ?_⟩, by show s.size + 1 - (i + 1) < s.size + 1 - i; omega, leh1 rfl ?_, ⟨leS rfl, leOwn rfl rfl hlen1, leI ?_, leI e1, trivial⟩⟩
        · have h : k + 1 = ps.length := h
          have := hend k h
          show i + 1 = s.size + 1
          omega
        · have hj' : j < k + 1 := hj'
          rcases Nat.lt_or_ge j k with h | h
          · exact hj j h
          · rw [show j = k by omega]; exact hokk g4
        · rw [← hlen1]; exact .row _ _ _ _ (Nat.le_refl _) fun i hi => leI rfl
        · show IntKind.i64.wrap ((i : Int) + 1) = ((pre ps (k + 1) : Nat) : Int)
          rw [e1, e2]
  · have f1 : ¬ (i : Int) ≤ s.size := no c1
    have hkl : k = ps.length := by
      rcases Nat.lt_or_ge k ps.length with h | h
      · have := (hki h).2; have := hle k h; omega
      · omega
    subst hkl
    have ht : D.take ps.length = D := List.take_of_length_le (by omega)
    have hv := hP.2 fun j hj' => hj j (by omega)
    have hsm := hsame hv
    have hx := textv_ref (D.take ps.length) (by rw [ht]; omega)
    have hT : textV (ofF (cntF (D.take ps.length))) = textV (ofF (cntF D)) := by rw [ht]
    generalize textV (ofF (cntF (D.take ps.length))) = T at *
    rw [← hT] at hsm
    refine ⟨[], _, by omega, fun i hi => trivial, hx.args ⟨vro' rfl fun i hi => by rw [Nat.zero_add], trivial⟩, ?_⟩
    rintro r hh ⟨rfl, rfl⟩
    refine ⟨.inr ⟨trivial, fun o ho => by cases ho⟩, ?_⟩
    refine ⟨fun c2 => ?_, fun c2 => ?_⟩
    · exact hB (fun h => (yes c2) (hsm.2 (hok.1 h).2)) _
    · obtain ⟨o1, o2⟩ := hgood (hok.2 ⟨hv, hsm.1 (Classical.not_not.1 (no c2))⟩)
      exact ⟨[], [], _, lehN _, le_pair (a := vecV (parseVL s)) (b := int .i64 (parseVE s)) (giveVec rfl (by simp) (ht.trans o2.symm)) (leI o1.symm), rfl, rfl⟩

end
end Go.Proofs.YthckagkciefliaaGreatDoor.Vc
