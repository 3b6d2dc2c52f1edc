import Derived.Test.YthckagkciefliaaGreatDoorFwD
import Derived.Test.YthckagkciefliaaGreatDoorProg
import Derived.Test.YthckagkciefliaaGreatDoorRows
import Derived.Stop.LaidErr
import Derived.Lib.LaidTab
import Derived.LaidMore
import Derived.Lib.SmallJoins
import Derived.Test.YthckagkciefliaaGreatDoorBda

/-
  The contracts of a text's vector: the program's and the document's.
-/
set_option linter.unusedVariables false
set_option linter.unusedSectionVars false
namespace Go.Proofs.YthckagkciefliaaGreatDoor.Vc
open Go AL Hx Dt Spl

theorem okV_at {s : ByteArray} : okV s ↔ ∀ k, k < (pcs 44 s).length → okP (sAt (pcs 44 s) k) := by
  unfold okV
  have hl : (pcs 44 s).length = (pieces 44 s.data.toList).length := by simp [pcs]
  constructor
  · intro h k hk
    rw [pcs_at (by omega)]
    refine h _ ?_
    rw [List.getD_eq_getElem?_getD, List.getElem?_eq_getElem (by omega)]
    exact List.getElem_mem _
  · intro h p hp
    obtain ⟨k, hk, rfl⟩ := List.getElem_of_mem hp
    have := h k (by omega)
    rw [pcs_at hk, List.getD_eq_getElem?_getD, List.getElem?_eq_getElem hk] at this
    exact this
theorem dotsOf_len (s : ByteArray) : (dotsOf s).length = (pcs 44 s).length := by simp [dotsOf, pcs]
theorem dotsOf_take {s : ByteArray} {k : Nat} (h : k < (pcs 44 s).length) : (dotsOf s).take (k + 1) = (dotsOf s).take k ++ [(parseR (sAt (pcs 44 s) ((k : Int).toNat * 1 + 0)), parseQ (sAt (pcs 44 s) ((k : Int).toNat * 1 + 0)))] := by
  have hl : (pcs 44 s).length = (pieces 44 s.data.toList).length := by simp [pcs]
  rw [List.take_succ_eq_append_getElem (by rw [dotsOf_len]; exact h), show (k : Int).toNat * 1 + 0 = k by omega, pcs_at (by omega), List.getD_eq_getElem?_getD, List.getElem?_eq_getElem (by omega)]
  simp only [dotsOf, List.getElem_map]
  rfl

section
variable [Globs]
def ParseVR (s : ByteArray) (r : AV) (h : List AO) : Prop := r = .tup 2 (pair (vecV (parseVL s)) (int .i64 (parseVE s))) ∧ h = []
theorem vec_bad {s : ByteArray} (hv : ¬ okVec s) (h : List AO) : ∃ l h1 c, LeH 0 h l h1 ∧ LeV h l (.tup 2 fun i => [.raw (.slice none 0 0), int .i64 2].getD i .top) c ∧ ParseVR s c h1 := by
  obtain ⟨g0, g1⟩ := parseV_bad hv
  exact ⟨[], [], _, lehN _, le_pair (a := vecV (parseVL s)) (b := int .i64 (parseVE s)) (by rw [g1]; exact .nilR _ _) (leI g0.symm), rfl, rfl⟩
theorem vec_dash {s : ByteArray} (hv : s = dash) (h : List AO) : ∃ l h1 c, LeH 0 h l h1 ∧ LeV h l (.tup 2 fun i => [.raw (.slice none 0 0), int .i64 0].getD i .top) c ∧ ParseVR s c h1 := by
  obtain ⟨g0, g1⟩ := parseV_ok (s := s) (.inl hv)
  exact ⟨[], [], _, lehN _, le_pair (a := vecV (parseVL s)) (b := int .i64 (parseVE s)) (by rw [g1, if_pos hv]; exact .nilR _ _) (leI g0.symm), rfl, rfl⟩

set_option maxHeartbeats 2000000 in
set_option maxRecDepth 10000 in
theorem parse_vec (hG : NumG) (s : ByteArray) (hs : s.size ≤ 1099511627776) : ACalls Tryz.prog 40 [str s] [] (ParseVR s) := by
  have hsp := split_prog s 44 hs
  have hP := okV_at (s := s)
  have hlen := dotsOf_len s
  have htake := @dotsOf_take s
  have hcnt : (pcs 44 s).length ≤ s.size + 1 := by
    have e : (pcs 44 s).length = (pieces 44 s.data.toList).length := by simp [pcs]
    have := List.count_le_length (a := (44 : UInt8)) (l := s.data.toList)
    have e2 : s.data.toList.length = s.size := rfl
    rw [e, pieces_len]; omega
  have hsz : ∀ k, k < (pcs 44 s).length → (sAt (pcs 44 s) k).size ≤ s.size := fun k hk => by
    have e : (pcs 44 s).length = (pieces 44 s.data.toList).length := by simp [pcs]
    rw [pcs_at (by omega), bA_size]
    have := piece_len (c := 44) (ps := pieces 44 s.data.toList) (k := k) (by omega)
    rw [join_pieces] at this
    exact this
  have hB := @vec_bad _ s
  have hD := @vec_dash _ s
  have hok : s ≠ dash → (okVec s ↔ okV s ∧ dotsOf s = ofF (cntF (dotsOf s))) := fun hne => ⟨fun h => h.resolve_left hne, .inr⟩
  have hgood : s ≠ dash → okVec s → parseVE s = 0 ∧ parseVL s = dotsOf s := fun hne h => by
    obtain ⟨a, b⟩ := parseV_ok h
    exact ⟨a, by rw [b, if_neg hne]⟩
  generalize dotsOf s = D at *
  generalize pcs 44 s = P at *
  refine rcalls Tryz.func40 rfl (by decide) ?_
  refine ⟨fun c => ?_, fun c => ?_⟩
  · exact hD (yes c) _
  have hne : s ≠ dash := no c
  refine ⟨[], _, hsp, ?_⟩
  rintro r hh ⟨rfl, rfl⟩
  refine ⟨.inl rfl, ?_⟩
  refine ⟨Nat, fun k => [(4, .own 0 0 (D.take k).length 2), (12, textsV P), (13, int .i64 P.length), (14, int .i64 k)], fun k => [.row ((D.take k).length * 2) fun i => int .i64 (cellD (D.take k) i)], fun k => k ≤ P.length ∧ ∀ j, j < k → okP (sAt P j), fun k => P.length - k,
    ⟨0, [0], ⟨by omega, by omega⟩, lehR (Nat.le_refl _) _, ⟨.nil _ _ (by decide), .same _ trivial, leI rfl, leI rfl, trivial⟩⟩, ?_⟩
  rintro k ⟨hk, hj⟩
  refine ⟨fun c1 => ?_, fun c1 => ?_⟩
  · have f1 : (k : Int) < P.length := yes c1
    have e1 : IntKind.i64.wrap ((k : Int) + 1) = ((k + 1 : Nat) : Int) := by rw [w64 (by omega) (by omega)]; omega
    have hk1 : (k : Int).toNat * 1 + 0 = k := by omega
    have hp := parse_prog hG (sAt P ((k : Int).toNat * 1 + 0)) (by rw [hk1]; have := hsz k (by omega); omega)
    have hs' := htake (k := k) (by omega)
    have hpo := @parse_ok (sAt P ((k : Int).toNat * 1 + 0))
    have hpb := @parse_bad (sAt P ((k : Int).toNat * 1 + 0))
    rw [hk1] at hpo hpb
    unfold ParseR at hp
    generalize parseR (sAt P ((k : Int).toNat * 1 + 0)) = R at *
    generalize parseQ (sAt P ((k : Int).toNat * 1 + 0)) = Q at *
    generalize hE : parseE (sAt P ((k : Int).toNat * 1 + 0)) = E at *
    rw [hk1] at hE
    refine ⟨⟨by omega, f1⟩, ?_⟩
    refine ⟨[], _, hp, ?_⟩
    rintro r hh ⟨rfl, rfl⟩
    refine ⟨.inl rfl, ?_⟩
    refine ⟨fun c2 => ?_, fun c2 => ?_⟩
    · have g2 : ¬ E = 0 := yes c2
      refine hB (fun h => ?_) _
      have h1 := hP.1 ((hok hne).1 h).1 k (by omega)
      exact g2 (by rw [← hE]; exact (hpo h1).1)
    · have g2 : E = 0 := Classical.not_not.1 (no c2)
      have hokk : okP (sAt P k) := Classical.byContradiction fun h => by
        have := (hpb h).1
        rw [hE, g2] at this; cases this
      have hln : (D.take k).length ≤ k := by simp; omega
      refine ⟨rfl, fun i _ => rfl, Nat.le_refl 2, by show ((D.take k).length + 1) * 16 ≤ _; omega, fun i hi => two_cells (f := fun i => [int .i64 R, int .i64 Q].getD (0 + i) .top) rfl rfl hi, fun i => int .i64 (cellD (D.take (k + 1)) i),
        fun i hi => snoc_old hs' hi, fun i hi => snoc_new (f := fun i => [int .i64 R, int .i64 Q].getD (0 + i) .top) hs' rfl rfl hi, ?_⟩
      have hlen1 : (D.take k).length + 1 = (D.take (k + 1)).length := by rw [hs']; simp
      refine ⟨trivial, k + 1, [3], ⟨by omega, fun j hj' => ?_⟩, by show P.length - (k + 1) < P.length - k; omega, leh1 rfl ?_, ⟨leOwn rfl rfl hlen1, .same _ trivial, leI rfl, leI e1, trivial⟩⟩
      · rcases Nat.lt_or_ge j k with h | h
        · exact hj j h
        · rw [show j = k by omega]; exact hokk
      · rw [← hlen1]; exact .row _ _ _ _ (Nat.le_refl _) fun i hi => leI rfl
  · have f1 : ¬ (k : Int) < P.length := no c1
    obtain rfl : k = P.length := by omega
    have ht : D.take P.length = D := List.take_of_length_le (by omega)
    have hv := hP.2 hj
    have hm := may_vec (D.take P.length) (by rw [ht]; omega)
    refine ⟨[], _, by omega, fun i hi => trivial, hm.args ⟨vro' rfl fun i hi => by rw [Nat.zero_add], trivial⟩, ?_⟩
    rintro r hh ⟨rfl, rfl⟩
    refine ⟨.inr ⟨trivial, fun o ho => by cases ho⟩, ?_⟩
    refine ⟨fun c2 => ?_, fun c2 => ?_⟩
    · have g := notT c2
      rw [ht] at g
      exact hB (fun h => g ((hok hne).1 h).2) _
    · have g := notF c2
      rw [ht] at g
      obtain ⟨o1, o2⟩ := hgood hne ((hok hne).2 ⟨hv, g⟩)
      exact ⟨[], [], _, lehN _, le_pair (a := vecV (parseVL s)) (b := int .i64 (parseVE s)) (giveVec rfl (by simp) (ht.trans o2.symm)) (leI o1.symm), rfl, rfl⟩

theorem byte_get {s : ByteArray} {i : Nat} (h : i < s.size) : ∃ b, s.data.toList[i]? = some b ∧ (intsOf s).getD i 0 = (b.toNat : Int) := by
  have hl : s.data.toList.length = s.size := rfl
  refine ⟨s.data.toList[i]'(by omega), List.getElem?_eq_getElem (by omega), ?_⟩
  unfold intsOf
  rw [List.getD_eq_getElem?_getD, List.getElem?_map, List.getElem?_eq_getElem (by omega)]
  rfl
theorem byte_is {b c : UInt8} {n : Int} (h : n = (b.toNat : Int)) : n = (c.toNat : Int) ↔ b = c := by
  subst h
  constructor
  · intro e; exact UInt8.toNat_inj.1 (by omega)
  · rintro rfl; rfl

set_option maxHeartbeats 2000000 in
set_option maxRecDepth 10000 in
theorem parse_vref (s : ByteArray) (hs : s.size ≤ 1099511627776) : ACalls Tryz.prog 41 [str s] [] (ParseVR s) := by
  by_cases hd : s = dash
  · have hD := vec_dash hd
    have ht := textv_ref [] (by simp)
    rw [cnt_nil, show textV (ofF fun _ => 0) = dash by decide] at ht
    refine rcalls Tryz.func41 rfl (by decide) ?_
    refine ⟨Unit, fun _ => [(0, str s), (4, .raw (.slice none 0 0)), (5, int .i64 0), (6, int .i64 0)], fun _ => [], fun _ => True, fun _ => 0,
      ⟨(), [], trivial, lehN _, ⟨leS rfl, .raw _, leI rfl, leI rfl, trivial⟩⟩, ?_⟩
    intro _ _
    refine ⟨fun _ => ⟨fun c => absurd hd (yes c), fun _ => ?_⟩, fun c => absurd (by omega) (no c)⟩
    refine ⟨[], _, ht.args ⟨fun w S L v hv => ⟨none, 0, hv, Nat.le_refl _, fun i hi => by simp at hi⟩, trivial⟩, ?_⟩
    rintro r hh ⟨rfl, rfl⟩
    refine ⟨.inl rfl, ?_⟩
    refine ⟨fun c => absurd hd.symm (yes c), fun _ => ?_⟩
    exact hD _
  have hl : s.data.toList.length = s.size := rfl
  obtain ⟨ps, hps⟩ : ∃ ps, pieces 44 s.data.toList = ps := ⟨_, rfl⟩
  have hpos : 0 < ps.length := by rw [← hps, pieces_len]; omega
  have hjoin : joinC 44 ps = s.data.toList := by rw [← hps, join_pieces]
  have hfree : ∀ p ∈ ps, ∀ x ∈ p, x ≠ 44 := by rw [← hps]; exact pieces_free
  have hP := okV_at (s := s)
  have hlen := dotsOf_len s
  have htake := @dotsOf_take s
  have hPl : (pcs 44 s).length = ps.length := by unfold pcs; rw [hps]; simp
  have hat : ∀ k, k < ps.length → sAt (pcs 44 s) k = bA (ps.getD k []) := fun k hk => by rw [← hps]; exact pcs_at (by rw [hps]; exact hk)
  have hcnt : ps.length ≤ s.size + 1 := by
    have := List.count_le_length (a := (44 : UInt8)) (l := s.data.toList)
    rw [← hps, pieces_len]; omega
  have hB := @vec_bad _ s
  have hsame := @text_same s
  have hok : okVec s ↔ okV s ∧ dotsOf s = ofF (cntF (dotsOf s)) := ⟨fun h => h.resolve_left hd, .inr⟩
  have hgood : okVec s → parseVE s = 0 ∧ parseVL s = dotsOf s := fun h => by
    obtain ⟨a, b⟩ := parseV_ok h
    exact ⟨a, by rw [b, if_neg hd]⟩
  have hle : ∀ k, k < ps.length → pre ps k + (ps.getD k []).length ≤ s.size := fun k hk => by
    rcases Nat.lt_or_ge (k + 1) ps.length with h | h
    · have := pre_le 44 ps (k + 1) h
      rw [hjoin, hl] at this
      have : pre ps (k + 1) = pre ps k + (ps.getD k []).length + 1 := rfl
      omega
    · have := pre_end 44 (ps := ps) (k := k) (by omega) (pre_le 44 ps k hk)
      rw [hjoin, hl] at this
      omega
  have hend : ∀ k, k + 1 = ps.length → pre ps k + (ps.getD k []).length = s.size := fun k hk => by
    have := pre_end 44 (ps := ps) (k := k) hk (pre_le 44 ps k (by omega))
    rwa [hjoin, hl] at this
  -- where a sign stands, a piece ends, and the other way round
  have hin : ∀ k j, k < ps.length → j < (ps.getD k []).length → ¬ (intsOf s).getD (pre ps k + j) 0 = 44 := fun k j hk hj h => by
    have h1 := hle k hk
    obtain ⟨b, e1, e2⟩ := byte_get (s := s) (i := pre ps k + j) (by omega)
    have e3 := (byte_is (c := 44) e2).1 h
    have e4 := pre_get (c := 44) hk hj
    rw [hjoin, e1, e3] at e4
    have hm : (44 : UInt8) ∈ ps.getD k [] := List.mem_of_getElem? e4.symm
    refine hfree (ps.getD k []) ?_ _ hm rfl
    rw [List.getD_eq_getElem?_getD, List.getElem?_eq_getElem hk]
    exact List.getElem_mem _
  have hout : ∀ k, k + 1 < ps.length → (intsOf s).getD (pre ps k + (ps.getD k []).length) 0 = 44 := fun k hk => by
    have h1 := pre_le 44 ps (k + 1) hk
    rw [hjoin, hl] at h1
    have h2 : pre ps (k + 1) = pre ps k + (ps.getD k []).length + 1 := rfl
    obtain ⟨b, e1, e2⟩ := byte_get (s := s) (i := pre ps k + (ps.getD k []).length) (by omega)
    have e4 := pre_sep (c := 44) hk
    rw [hjoin, e1] at e4
    cases e4
    exact e2
  have hcut : ∀ k, k < ps.length → s.extract (pre ps k) (pre ps k + (ps.getD k []).length) = sAt (pcs 44 s) k := fun k hk => by
    refine bA_ext ?_
    rw [ext_list, hat k hk, bA_list, ← hjoin]
    exact pre_piece hk
  generalize hDD : dotsOf s = D at *
  generalize pcs 44 s = P at *
  refine rcalls Tryz.func41 rfl (by decide) ?_
  refine ⟨Nat × Nat, fun x => [(0, str s), (4, .own 0 0 (D.take x.1).length 2), (5, int .i64 (pre ps x.1)), (6, int .i64 x.2)], fun x => [.row ((D.take x.1).length * 2) fun i => int .i64 (cellD (D.take x.1) i)],
    fun x => x.1 ≤ ps.length ∧ (x.1 < ps.length → pre ps x.1 ≤ x.2 ∧ x.2 ≤ pre ps x.1 + (ps.getD x.1 []).length) ∧ (x.1 = ps.length → x.2 = s.size + 1) ∧ ∀ j, j < x.1 → okP (sAt P j), fun x => s.size + 1 - x.2,
    ⟨(0, 0), [0], ⟨by omega, fun _ => ⟨Nat.le_refl _, Nat.zero_le _⟩, fun h => by simp at h; omega, by simp⟩, lehR (Nat.le_refl _) _, ⟨leS rfl, .nil _ _ (by decide), leI rfl, leI rfl, trivial⟩⟩, ?_⟩
  rintro ⟨k, i⟩ ⟨hk, hki, hke, hj⟩
  dsimp only at hk hki hke hj ⊢
  refine ⟨fun c1 => ⟨fun _ => ?_, fun c => absurd hd (no c)⟩, fun c1 => ?_⟩
  · have f1 : (i : Int) ≤ s.size := yes c1
    have hkl : k < ps.length := by
      rcases Nat.lt_or_ge k ps.length with h | h
      · exact h
      · have := hke (by omega); omega
    obtain ⟨hi1, hi2⟩ := hki hkl
    have e1 : IntKind.i64.wrap ((i : Int) + 1) = ((i + 1 : Nat) : Int) := by rw [w64 (by omega) (by omega)]; omega
    have hto : ((i : Int)).toNat = i := by omega
    have hpl := hle k hkl
    -- one sign more
    have step : ¬ i = pre ps k + (ps.getD k []).length → ∀ (h : List AO), h[0]? = some (.row ((D.take k).length * 2) fun i => int .i64 (cellD (D.take k) i)) → ∀ t : List AV, t[0]? = some (str s) → t[4]? = some (.own 0 0 (D.take k).length 2) → t[5]? = some (int .i64 (pre ps k)) → t[6]? = some (int .i64 (IntKind.i64.wrap ((i : Int) + 1))) → True := fun _ _ _ _ _ _ _ _ => trivial
    -- a piece ends here
    have piece : i = pre ps k + (ps.getD k []).length → s.extract (pre ps k) i = sAt P k := fun h => by rw [h]; exact hcut k hkl
    have hpk : ∀ (K : ACalls Tryz.prog 64 [str (s.extract (pre ps k) i)] [] (ParseR (s.extract (pre ps k) i)) → Prop), True := fun _ => trivial
    refine ⟨fun c2 => ?_, fun c2 => ⟨⟨by omega, by have := no c2; omega⟩, fun c3 => ?_, fun c3 => ?_⟩⟩
    case refine_3 =>
      have g2 := no c2
      have g3 : ¬ (intsOf s).getD ((i : Int)).toNat 0 = 44 := no c3
      rw [hto] at g3
      have hlt : ¬ i = pre ps k + (ps.getD k []).length := fun h => by
        rcases Nat.lt_or_ge (k + 1) ps.length with h1 | h1
        · exact g3 (by rw [h]; exact hout k h1)
        · exact g2 (by rw [h, hend k (by omega)])
      exact ⟨trivial, (k, i + 1), [0], ⟨by omega, fun _ => ⟨by show pre ps k ≤ i + 1; omega, by show i + 1 ≤ pre ps k + (ps.getD k []).length; omega⟩, fun h => by have h : k = ps.length := h; omega, hj⟩, by show s.size + 1 - (i + 1) < s.size + 1 - i; omega, leh1 rfl (.row _ _ _ _ (Nat.le_refl _) fun i hi => leI rfl), ⟨leS rfl, leOwn rfl rfl rfl, leI rfl, leI e1, trivial⟩⟩
    all_goals
      have hlast : i = pre ps k + (ps.getD k []).length := by
        first
          | (have g2 := yes c2
             rcases Nat.lt_or_ge (k + 1) ps.length with h1 | h1
             · have := hle (k + 1) h1
               have : pre ps (k + 1) = pre ps k + (ps.getD k []).length + 1 := rfl
               omega
             · have := hend k (by omega); omega)
          | (have g3 : (intsOf s).getD ((i : Int)).toNat 0 = 44 := yes c3
             rw [hto] at g3
             rcases Nat.lt_or_ge i (pre ps k + (ps.getD k []).length) with h | h
             · refine absurd ?_ (hin k (i - pre ps k) hkl (by omega))
               rw [show pre ps k + (i - pre ps k) = i by omega]; exact g3
             · omega)
      have e2 : pre ps (k + 1) = i + 1 := by show pre ps k + (ps.getD k []).length + 1 = _; omega
      have hpi := piece hlast
      have hs' := htake (k := k) (by omega)
      have hk1 : (k : Int).toNat * 1 + 0 = k := by omega
      rw [hk1, ← hpi] at hs'
      have hsz : (s.extract (pre ps k) i).size ≤ s.size := by rw [ByteArray.size_extract]; omega
      have hp := parse_ref (s.extract (pre ps k) i) (by omega)
      have hpo := @parse_ok (s.extract (pre ps k) i)
      have hpb := @parse_bad (s.extract (pre ps k) i)
      have hPk := fun h => hP.1 h k (by omega)
      rw [← hpi] at hPk
      unfold ParseR at hp
      have hokk : parseE (s.extract (pre ps k) i) = 0 → okP (sAt P k) := fun h0 => Classical.byContradiction fun h => by
        rw [← hpi] at h
        have := (hpb h).1
        rw [h0] at this; cases this
      generalize parseR (s.extract (pre ps k) i) = R at *
      generalize parseQ (s.extract (pre ps k) i) = Q at *
      generalize parseE (s.extract (pre ps k) i) = E at *
      refine ⟨⟨by omega, f1⟩, ⟨by omega, by omega⟩, ?_⟩
      refine ⟨[], _, hp, ?_⟩
      rintro r hh ⟨rfl, rfl⟩
      refine ⟨.inl rfl, ?_⟩
      refine ⟨fun c4 => ?_, fun c4 => ?_⟩
      · have g4 : ¬ E = 0 := yes c4
        exact hB (fun h => g4 (hpo (hPk (hok.1 h).1)).1) _
      · have g4 : E = 0 := Classical.not_not.1 (no c4)
        have hln : (D.take k).length ≤ k := by simp; omega
        refine ⟨rfl, fun i _ => rfl, Nat.le_refl 2, by show ((D.take k).length + 1) * 16 ≤ _; omega, fun i hi => two_cells (f := fun i => [int .i64 R, int .i64 Q].getD (0 + i) .top) rfl rfl hi, fun i => int .i64 (cellD (D.take (k + 1)) i),
          fun i hi => snoc_old hs' hi, fun i hi => snoc_new (f := fun i => [int .i64 R, int .i64 Q].getD (0 + i) .top) hs' rfl rfl hi, ?_⟩
        have hlen1 : (D.take k).length + 1 = (D.take (k + 1)).length := by rw [hs']; simp
        refine ⟨trivial, (k + 1, i + 1), [3], ⟨by show k + 1 ≤ _; omega, fun h => ⟨by show pre ps (k + 1) ≤ i + 1; omega, by show i + 1 ≤ pre ps (k + 1) + _; omega⟩, fun h => ?_, fun j hj' => ?_⟩, by show s.size + 1 - (i + 1) < s.size + 1 - i; omega, leh1 rfl ?_, ⟨leS rfl, leOwn rfl rfl hlen1, leI ?_, leI e1, trivial⟩⟩
        · have h : k + 1 = ps.length := h
          have := hend k h
          show i + 1 = s.size + 1
          omega
        · have hj' : j < k + 1 := hj'
          rcases Nat.lt_or_ge j k with h | h
          · exact hj j h
          · rw [show j = k by omega]; exact hokk g4
        · rw [← hlen1]; exact .row _ _ _ _ (Nat.le_refl _) fun i hi => leI rfl
        · show IntKind.i64.wrap ((i : Int) + 1) = ((pre ps (k + 1) : Nat) : Int)
          rw [e1, e2]
  · have f1 : ¬ (i : Int) ≤ s.size := no c1
    have hkl : k = ps.length := by
      rcases Nat.lt_or_ge k ps.length with h | h
      · have := (hki h).2; have := hle k h; omega
      · omega
    subst hkl
    have ht : D.take ps.length = D := List.take_of_length_le (by omega)
    have hv := hP.2 fun j hj' => hj j (by omega)
    have hsm := hsame hv
    have hx := textv_ref (D.take ps.length) (by rw [ht]; omega)
    have hT : textV (ofF (cntF (D.take ps.length))) = textV (ofF (cntF D)) := by rw [ht]
    generalize textV (ofF (cntF (D.take ps.length))) = T at *
    rw [← hT] at hsm
    refine ⟨[], _, by omega, fun i hi => trivial, hx.args ⟨vro' rfl fun i hi => by rw [Nat.zero_add], trivial⟩, ?_⟩
    rintro r hh ⟨rfl, rfl⟩
    refine ⟨.inr ⟨trivial, fun o ho => by cases ho⟩, ?_⟩
    refine ⟨fun c2 => ?_, fun c2 => ?_⟩
    · exact hB (fun h => (yes c2) (hsm.2 (hok.1 h).2)) _
    · obtain ⟨o1, o2⟩ := hgood (hok.2 ⟨hv, hsm.1 (Classical.not_not.1 (no c2))⟩)
      exact ⟨[], [], _, lehN _, le_pair (a := vecV (parseVL s)) (b := int .i64 (parseVE s)) (giveVec rfl (by simp) (ht.trans o2.symm)) (leI o1.symm), rfl, rfl⟩

end
end Go.Proofs.YthckagkciefliaaGreatDoor.Vc

/-
  Digests as text, in plain Lean. No program in sight.
-/
set_option linter.unusedVariables false
namespace Go.Proofs.YthckagkciefliaaGreatDoor.Hx
open Go AL

def fig (n : Int) : Int := if n < 10 then 48 + n else 87 + n
def hexL : List Int → List Int
  | [] => []
  | c :: r => fig (c / 16) :: fig (c % 16) :: hexL r
def textS (xs : List Int) : ByteArray := bytesOf (hexL xs)
theorem hexL_snoc : ∀ (xs : List Int) (c : Int), hexL (xs ++ [c]) = hexL xs ++ [fig (c / 16), fig (c % 16)]
  | [], c => rfl
  | x :: xs, c => by simp [hexL, hexL_snoc xs c]
theorem hexL_length : ∀ xs : List Int, (hexL xs).length = 2 * xs.length
  | [] => rfl
  | x :: xs => by simp [hexL, hexL_length xs]; omega
theorem fig_range {n : Int} (h0 : 0 ≤ n) (h1 : n < 16) : 48 ≤ fig n ∧ fig n < 103 := by unfold fig; split <;> omega

/-- Is it a figure, and which? -/
def hexd (c : Int) : Prop := (48 ≤ c ∧ c ≤ 57) ∨ (97 ≤ c ∧ c ≤ 102)
instance (c : Int) : Decidable (hexd c) := by unfold hexd; exact inferInstance
def nv (c : Int) : Int := if c ≤ 57 then c - 48 else c - 87
theorem nv_range {c : Int} (h : hexd c) : 0 ≤ nv c ∧ nv c < 16 := by unfold hexd at h; unfold nv; split <;> omega
theorem fig_nv {c : Int} (h : hexd c) : fig (nv c) = c := by unfold hexd at h; unfold nv fig; split <;> split <;> omega
theorem nv_fig {n : Int} (h0 : 0 ≤ n) (h1 : n < 16) : nv (fig n) = n ∧ hexd (fig n) := by unfold fig nv hexd; split <;> split <;> omega

def parseOK (xs : List Int) : Prop := xs.length = 64 ∧ ∀ i, i < 64 → hexd (xs.getD i 0)
def full (xs : List Int) (i : Nat) : Int := 16 * nv (xs.getD (2 * i) 0) + nv (xs.getD (2 * i + 1) 0)
def pd (xs : List Int) : List Int := (List.range 32).map (full xs)
open Classical in
noncomputable def parseD (xs : List Int) : List Int := if parseOK xs then pd xs else List.replicate 32 0
open Classical in
noncomputable def parseE (xs : List Int) : Int := if parseOK xs then 0 else 2
theorem parse_ok {xs : List Int} (h : parseOK xs) : parseE xs = 0 ∧ parseD xs = pd xs := by unfold parseE parseD; rw [if_pos h, if_pos h]; exact ⟨rfl, rfl⟩
theorem parse_no {xs : List Int} (h : ¬ parseOK xs) : parseE xs = 2 ∧ parseD xs = List.replicate 32 0 := by unfold parseE parseD; rw [if_neg h, if_neg h]; exact ⟨rfl, rfl⟩

/-- The digest so far: the first k figures are read. -/
def dpart (xs : List Int) (k : Nat) : List Int := (List.range 32).map fun i => if 2 * i + 1 < k then full xs i else if 2 * i < k then nv (xs.getD (2 * i) 0) else 0
theorem dpart_length (xs : List Int) (k : Nat) : (dpart xs k).length = 32 := by simp [dpart]
theorem dpart_get (xs : List Int) (k i : Nat) (h : i < 32) : (dpart xs k).getD i 0 = if 2 * i + 1 < k then full xs i else if 2 * i < k then nv (xs.getD (2 * i) 0) else 0 := by
  unfold dpart
  rw [List.getD_eq_getElem?_getD, List.getElem?_map, List.getElem?_range h]
  rfl
theorem dpart_zero (xs : List Int) : dpart xs 0 = List.replicate 32 0 := by
  apply List.ext_getElem?
  intro i
  rcases Nat.lt_or_ge i 32 with h | h
  · have := dpart_get xs 0 i h
    rw [List.getD_eq_getElem?_getD, List.getElem?_eq_getElem (by rw [dpart_length]; exact h)] at this
    rw [List.getElem?_eq_getElem (by rw [dpart_length]; exact h), List.getElem?_replicate, if_pos h]
    simpa using this
  · rw [List.getElem?_eq_none (by rw [dpart_length]; exact h), List.getElem?_eq_none (by simpa using h)]
theorem dpart_full (xs : List Int) : dpart xs 64 = pd xs := by
  unfold dpart pd
  apply List.map_congr_left
  intro i hi
  rw [if_pos (by have := List.mem_range.1 hi; omega)]
theorem dpart_set {xs : List Int} {k j : Nat} {v : Int} (hj : j < 32) (hv : v = if 2 * j + 1 < k then full xs j else if 2 * j < k then nv (xs.getD (2 * j) 0) else 0) {m : Nat}
    (hm : ∀ i, i < 32 → i ≠ j → (2 * i + 1 < m ↔ 2 * i + 1 < k) ∧ (2 * i < m ↔ 2 * i < k)) : (dpart xs m).set j v = dpart xs k := by
  apply List.ext_getElem?
  intro i
  rw [List.getElem?_set]
  rcases Nat.lt_or_ge i 32 with h | h
  · have e1 := dpart_get xs k i h
    have e2 := dpart_get xs m i h
    rw [List.getD_eq_getElem?_getD, List.getElem?_eq_getElem (by rw [dpart_length]; exact h)] at e1 e2
    simp only [Option.getD_some] at e1 e2
    rw [List.getElem?_eq_getElem (by rw [dpart_length]; exact h), List.getElem?_eq_getElem (by rw [dpart_length]; exact h), e1, e2]
    by_cases hij : j = i
    · subst hij
      rw [if_pos rfl, if_pos (by rw [dpart_length]; exact h), hv]
    · rw [if_neg hij]
      obtain ⟨g1, g2⟩ := hm i h (Ne.symm hij)
      simp only [g1, g2]
  · rw [List.getElem?_eq_none (by rw [dpart_length]; exact h)]
    by_cases hij : j = i
    · omega
    · rw [if_neg hij, List.getElem?_eq_none (by rw [dpart_length]; exact h)]
/-- One figure more. -/
theorem dpart_succ {xs : List Int} {k : Nat} (hk : k < 64) : (dpart xs k).set (k / 2) (16 * (dpart xs k).getD (k / 2) 0 + nv (xs.getD k 0)) = dpart xs (k + 1) := by
  refine dpart_set (by omega) ?_ (fun i _ hij => by omega)
  rw [dpart_get xs k (k / 2) (by omega)]
  by_cases he : k % 2 = 0
  · rw [if_neg (by omega), if_neg (by omega), if_neg (by omega), if_pos (by omega), show 2 * (k / 2) = k by omega]; omega
  · rw [if_neg (by omega), if_pos (by omega), if_pos (by omega)]
    unfold full
    rw [show 2 * (k / 2) + 1 = k by omega]
/-- Two figures more. -/
theorem dpart_two {xs : List Int} {i : Nat} (hi : i < 32) : (dpart xs (2 * i)).set i (full xs i) = dpart xs (2 * (i + 1)) := by
  refine dpart_set hi ?_ (fun j _ hij => by omega)
  rw [if_pos (by omega)]

theorem or_nib : ∀ a n : Fin 16, Go.bits .or .u8 (IntKind.u8.wrap ((a.val : Int) * 2 ^ (min 4 8))) n.val = 16 * a.val + n.val := by decide +kernel
theorem or_nib' {a n : Int} (h0 : 0 ≤ a) (h1 : a < 16) (g0 : 0 ≤ n) (g1 : n < 16) : Go.bits .or .u8 (IntKind.u8.wrap (a * 2 ^ (min 4 8))) n = 16 * a + n := by
  have := or_nib ⟨a.toNat, by omega⟩ ⟨n.toNat, by omega⟩
  rwa [show ((a.toNat : Nat) : Int) = a by omega, show ((n.toNat : Nat) : Int) = n by omega] at this
theorem and_low : ∀ c : Fin 256, Go.bits .and .u8 (c.val : Int) 15 = (c.val : Int) % 16 := by decide +kernel
theorem and_low' {c : Int} (h0 : 0 ≤ c) (h1 : c < 256) : Go.bits .and .u8 c 15 = c % 16 := by
  have := and_low ⟨c.toNat, by omega⟩
  rwa [show ((c.toNat : Nat) : Int) = c by omega] at this
def figs : ByteArray := ⟨#[48, 49, 50, 51, 52, 53, 54, 55, 56, 57, 97, 98, 99, 100, 101, 102]⟩
theorem figs_get : ∀ q : Fin 16, (intsOf figs).getD q.val 0 = fig q.val := by decide
theorem figs_get' {q : Int} (h0 : 0 ≤ q) (h1 : q < 16) : (intsOf figs).getD q.toNat 0 = fig q := by
  have := figs_get ⟨q.toNat, by omega⟩
  rw [show ((q.toNat : Nat) : Int) = q by omega] at this
  exact this

end Go.Proofs.YthckagkciefliaaGreatDoor.Hx

/-
  The contracts of a digest's text: hexa.Text and the document's own.
-/
set_option linter.unusedVariables false
set_option linter.unusedSectionVars false
namespace Go.Proofs.YthckagkciefliaaGreatDoor.Hx
open Go AL
theorem take_snoc' {xs : List Int} {k : Nat} (h : k < xs.length) : xs.take (k + 1) = xs.take k ++ [xs.getD k 0] := by
  rw [List.take_succ_eq_append_getElem h, List.getD_eq_getElem?_getD, List.getElem?_eq_getElem h]
  rfl
section
variable [Globs]

set_option maxHeartbeats 1000000 in
set_option maxRecDepth 10000 in
theorem figure_prog (n : Int) (h0 : 0 ≤ n) (h1 : n < 16) : ACalls Tryz.prog 100 [int .u8 n] [] (fun r h => r = int .u8 (fig n) ∧ h = []) := by
  have e : fig n = if n < 10 then 48 + n else 87 + n := rfl
  generalize fig n = F at *
  refine rcalls Tryz.func100 rfl (by decide) ?_
  refine ⟨fun c => ?_, fun c => ?_⟩
  · have := yes c
    rw [if_pos this] at e
    exact ⟨[], [], _, leh0, leI (by rw [w8 (by omega) (by omega)]; exact e.symm), rfl, rfl⟩
  · have := no c
    rw [if_neg this] at e
    exact ⟨[], [], _, leh0, leI (by rw [w8 (by omega) (by omega)]; exact e.symm), rfl, rfl⟩

theorem fdiv16 {c : Int} (h0 : 0 ≤ c) : c.fdiv (2 ^ (min (4 : Int).toNat IntKind.u8.bits)) = c / 16 := by
  have : (2 : Int) ^ (min (4 : Int).toNat IntKind.u8.bits) = 16 := by decide
  rw [this, Int.fdiv_eq_ediv_of_nonneg _ (by decide)]

set_option maxHeartbeats 1000000 in
set_option maxRecDepth 10000 in
theorem text_prog (xs : List Int) (hl : xs.length = 32) (hx : ∀ x ∈ xs, 0 ≤ x ∧ x < 256) : ACalls Tryz.prog 55 [.aggI .u8 xs] [] (fun r h => r = str (textS xs) ∧ h = []) := by
  have hT : textS xs = bytesOf (hexL xs) := rfl
  generalize textS xs = T at *
  refine rcalls Tryz.func55 rfl (by decide) ?_
  refine ⟨hl.symm, ?_⟩
  refine ⟨by rw [hl]; decide, ?_⟩
  refine ⟨Nat, fun k => [(6, .aggI .u8 xs), (7, int .i64 k), (3, .own 0 0 (2 * k) 1)], fun k => [.ints .u8 (hexL (xs.take k))], fun k => k ≤ 32, fun k => 32 - k,
    ⟨0, [1], by omega, lehE (by simp) .u8, ⟨by rw [List.drop_zero, List.take_of_length_le (by rw [hl]; decide)]; exact .aggI _ _, leI rfl, .nil _ _ (by simp), trivial⟩⟩, ?_⟩
  intro k hk
  have hk : k ≤ 32 := hk
  refine ⟨fun c1 => ?_, fun c1 => ?_⟩
  · have f1 : (k : Int) < 32 := yes c1
    have hb := byteAt hx k
    refine ⟨⟨by omega, f1⟩, by omega, ?_⟩
    have hin : ((k : Int)).toNat = k := by omega
    have hlen : (hexL (xs.take k)).length = 2 * k := by rw [hexL_length]; simp; omega
    refine .inr ⟨8, by decide +kernel, ?_⟩
    refine ⟨_, rfl, ?_⟩
    refine ⟨_, rfl, ?_⟩
    refine ⟨_, ⟨by decide, rfl⟩, ?_⟩
    refine ⟨_, ⟨⟨by rw [hin, fdiv16 hb.1]; omega, by rw [hin, fdiv16 hb.1]; show _ < (16 : Int); omega⟩, rfl⟩, ?_⟩
    refine ⟨_, rfl, ?_⟩
    refine ⟨_, rfl, ?_⟩
    refine ⟨_, ⟨⟨by rw [hin, and_low' hb.1 hb.2]; omega, by rw [hin, and_low' hb.1 hb.2]; show _ < (16 : Int); omega⟩, rfl⟩, ?_⟩
    refine ⟨_, rfl, ?_⟩
    refine ⟨hlen.symm, ?_⟩
    refine ⟨by rw [hlen]; show (2 * k + 2) * 1 ≤ _; omega, ?_⟩
    have e1 : IntKind.i64.wrap ((k : Int) + 1) = ((k + 1 : Nat) : Int) := by rw [w64 (by omega) (by omega)]; omega
    refine ⟨trivial, k + 1, [1], by omega, by show 32 - (k + 1) < 32 - k; omega, leh1 rfl (leOint ?_), ⟨.aggI _ _, leI e1, leOwn rfl rfl ?_, trivial⟩⟩
    · rw [take_snoc' (by omega), hexL_snoc]
      congr 1
      show [_, _] = [_, _]
      have g1 := figs_get' (q := xs.getD k 0 / 16) (by omega) (by omega)
      have g2 := figs_get' (q := xs.getD k 0 % 16) (by omega) (by omega)
      rw [hin, fdiv16 hb.1, and_low' hb.1 hb.2, ← g1, ← g2]
      rfl
    · show (hexL (xs.take k)).length + 2 = _; rw [hlen]; omega
  · have f1 : ¬ (k : Int) < 32 := no c1
    obtain rfl : k = 32 := by omega
    have ht : xs.take 32 = xs := List.take_of_length_le (by omega)
    refine ⟨by rw [hexL_length]; simp; omega, ?_⟩
    refine ⟨[], [], _, lehN _, leS ?_, rfl, rfl⟩
    rw [ht, hT, List.drop_zero, List.take_of_length_le (by rw [hexL_length]; omega)]

set_option maxHeartbeats 1000000 in
set_option maxRecDepth 10000 in
theorem text_ref (xs : List Int) (hl : xs.length = 32) (hx : ∀ x ∈ xs, 0 ≤ x ∧ x < 256) : ACalls Tryz.prog 58 [.aggI .u8 xs] [] (fun r h => r = str (textS xs) ∧ h = []) := by
  have hT : textS xs = bytesOf (hexL xs) := rfl
  generalize textS xs = T at *
  refine rcalls Tryz.func58 rfl (by decide) ?_
  refine ⟨hl.symm, ?_⟩
  refine ⟨Nat, fun k => [(1, .ptr 0 0), (4, int .i64 k), (3, .own 1 0 (2 * k) 1)], fun k => [.ints .u8 xs, .ints .u8 (hexL (xs.take k))], fun k => k ≤ 32, fun k => 32 - k,
    ⟨0, [0, 1], by omega, leh1E rfl (leOint rfl) (by simp) .u8, ⟨.ptr _ rfl, leI rfl, .nil _ _ (by simp), trivial⟩⟩, ?_⟩
  intro k hk
  have hk : k ≤ 32 := hk
  refine ⟨fun c1 => ?_, fun c1 => ?_⟩
  · have f1 : (k : Int) < 32 := yes c1
    have hb := byteAt hx k
    have hin : ((k : Int)).toNat = k := by omega
    have hoff : addOff 0 ((k : Int)).toNat 1 = k := by simp [addOff]
    have hlen : (hexL (xs.take k)).length = 2 * k := by rw [hexL_length]; simp; omega
    have d1 : (xs.getD k 0).tdiv 16 = xs.getD k 0 / 16 := Int.tdiv_eq_ediv_of_nonneg hb.1
    have d2 : (xs.getD k 0).tmod 16 = xs.getD k 0 % 16 := Int.tmod_eq_emod_of_nonneg hb.1
    have q1 : IntKind.u8.wrap ((xs.getD (addOff 0 ((k : Int)).toNat 1) 0).tdiv 16) = xs.getD k 0 / 16 := by rw [hoff, d1, w8 (by omega) (by omega)]
    have q2 : (xs.getD (addOff 0 ((k : Int)).toNat 1) 0).tmod 16 = xs.getD k 0 % 16 := by rw [hoff, d2]
    have hc1 := figure_prog (IntKind.u8.wrap ((xs.getD (addOff 0 ((k : Int)).toNat 1) 0).tdiv 16)) (by rw [q1]; omega) (by rw [q1]; omega)
    have hc2 := figure_prog ((xs.getD (addOff 0 ((k : Int)).toNat 1) 0).tmod 16) (by rw [q2]; omega) (by rw [q2]; omega)
    have e3 : fig (IntKind.u8.wrap ((xs.getD (addOff 0 ((k : Int)).toNat 1) 0).tdiv 16)) = fig (xs.getD k 0 / 16) := by rw [q1]
    have e4 : fig ((xs.getD (addOff 0 ((k : Int)).toNat 1) 0).tmod 16) = fig (xs.getD k 0 % 16) := by rw [q2]
    generalize fig (IntKind.u8.wrap ((xs.getD (addOff 0 ((k : Int)).toNat 1) 0).tdiv 16)) = A1 at *
    generalize fig ((xs.getD (addOff 0 ((k : Int)).toNat 1) 0).tmod 16) = A2 at *
    refine .inr ⟨12, by decide +kernel, ?_⟩
    refine ⟨_, rfl, ?_⟩
    refine ⟨_, rfl, ?_⟩
    refine ⟨_, ⟨⟨by omega, f1⟩, rfl⟩, ?_⟩
    refine ⟨_, ⟨by rw [hoff]; omega, rfl⟩, ?_⟩
    refine ⟨_, ⟨by decide, rfl⟩, ?_⟩
    refine ⟨_, ⟨[], _, hc1, by rintro r h ⟨rfl, rfl⟩; exact ⟨.inl rfl, rfl, rfl⟩⟩, ?_⟩
    refine ⟨_, rfl, ?_⟩
    refine ⟨_, ⟨⟨by omega, f1⟩, rfl⟩, ?_⟩
    refine ⟨_, ⟨by rw [hoff]; omega, rfl⟩, ?_⟩
    refine ⟨_, ⟨by decide, rfl⟩, ?_⟩
    refine ⟨_, ⟨[], _, hc2, by rintro r h ⟨rfl, rfl⟩; exact ⟨.inl rfl, rfl, rfl⟩⟩, ?_⟩
    refine ⟨_, rfl, ?_⟩
    refine ⟨hlen.symm, ?_⟩
    refine ⟨by rw [hlen]; show (2 * k + 2) * 1 ≤ _; omega, ?_⟩
    have e1 : IntKind.i64.wrap ((k : Int) + 1) = ((k + 1 : Nat) : Int) := by rw [w64 (by omega) (by omega)]; omega
    refine ⟨trivial, k + 1, [0, 2], by omega, by show 32 - (k + 1) < 32 - k; omega, leh2 (by decide) rfl rfl (leOint rfl) (leOint ?_), ⟨.ptr _ rfl, leI e1, leOwn rfl rfl ?_, trivial⟩⟩
    · rw [take_snoc' (by omega), hexL_snoc, ← e3, ← e4]
    · show (hexL (xs.take k)).length + 2 = _; rw [hlen]; omega
  · have f1 : ¬ (k : Int) < 32 := no c1
    obtain rfl : k = 32 := by omega
    have ht : xs.take 32 = xs := List.take_of_length_le (by omega)
    refine ⟨by rw [hexL_length]; simp; omega, ?_⟩
    refine ⟨[], [], _, lehN _, leS ?_, rfl, rfl⟩
    rw [ht, hT, List.drop_zero, List.take_of_length_le (by rw [hexL_length]; omega)]

end
end Go.Proofs.YthckagkciefliaaGreatDoor.Hx

/-
  The contracts of a digest out of a text: hexa.Parse and the document's own.
-/
set_option linter.unusedVariables false
set_option linter.unusedSectionVars false
namespace Go.Proofs.YthckagkciefliaaGreatDoor.Hx
open Go AL
section
variable [Globs]

theorem take3232 (Z : List Int) (h : Z.length = 32) : List.take 32 (List.take 32 Z) = Z := by
  rw [List.take_of_length_le (by rw [List.length_take]; omega), List.take_of_length_le (by omega)]
theorem leAggI {h : List AO} {l : List Nat} {k : IntKind} {x y : List Int} (e : x = y) : LeV h l (.aggI k x) (.aggI k y) := by subst e; exact .aggI _ _
/-- What Parse hands back. -/
def ParseR (s : ByteArray) (r : AV) (h : List AO) : Prop := r = .tup 2 (pair (.aggI .u8 (parseD (intsOf s))) (int .i64 (parseE (intsOf s)))) ∧ h = []

set_option maxHeartbeats 2000000 in
set_option maxRecDepth 10000 in
theorem parse_prog (s : ByteArray) (hs : s.size ≤ 281474976710656) : ACalls Tryz.prog 61 [str s] [] (ParseR s) := by
  have hil : (intsOf s).length = s.size := intsOf_length s
  have hb := fun i => byteAt (intsOf_range s) i
  have hok : parseOK (intsOf s) → parseE (intsOf s) = 0 ∧ parseD (intsOf s) = pd (intsOf s) := fun h => parse_ok h
  have hno : ¬ parseOK (intsOf s) → parseE (intsOf s) = 2 ∧ parseD (intsOf s) = List.replicate 32 0 := fun h => parse_no h
  unfold ParseR
  generalize parseE (intsOf s) = E at *
  generalize parseD (intsOf s) = D at *
  refine rcalls Tryz.func61 rfl (by decide) ?_
  refine ⟨rfl, ?_⟩
  refine ⟨Unit, fun _ => 0, fun _ => [(2, .ptr 0 0)], fun _ => [.ints .u8 (List.replicate 32 0)], fun _ => ¬ parseOK (intsOf s), fun _ => 0, ?_, ?_⟩
  · refine ⟨rfl, ?_⟩
    refine ⟨fun c1 => ?_, fun c1 => ?_⟩
    · have f1 : ¬ (s.size : Int) = 64 := of_decide_eq_true c1
      exact ⟨trivial, (), [0], rfl, fun h => f1 (by rw [← hil, h.1]; rfl), leh1 rfl (leOint rfl), ⟨.ptr _ rfl, trivial⟩⟩
    have f1 : (s.size : Int) = 64 := Classical.byContradiction fun h => of_decide_eq_false c1 h
    have h64 : s.size = 64 := by omega
    refine ⟨Nat, fun k => [(0, str s), (12, int .i64 s.size), (13, int .i64 k), (4, .ptr 1 0), (2, .ptr 0 0)], fun k => [.ints .u8 (List.replicate 32 0), .ints .u8 (dpart (intsOf s) k)],
      fun k => k ≤ 64 ∧ ∀ i, i < k → hexd ((intsOf s).getD i 0), fun k => 64 - k,
      ⟨0, [0, 1], ⟨by omega, fun i hi => absurd hi (Nat.not_lt_zero _)⟩, leh2 (by decide) rfl rfl (leOint rfl) (leOint (dpart_zero _).symm), ⟨leS rfl, leI rfl, leI rfl, .ptr _ rfl, .ptr _ rfl, trivial⟩⟩, ?_⟩
    rintro k ⟨hk, hdig⟩
    have hbk := hb k
    refine ⟨fun h1 => ?_, fun h1 => ?_⟩
    · have f2 : (k : Int) < s.size := yes h1
      have hin : ((k : Int)).toNat = k := by omega
      have e1 : IntKind.i64.wrap ((k : Int) + 1) = ((k + 1 : Nat) : Int) := by rw [w64 (by omega) (by omega)]; omega
      have e2 : IntKind.i64.wrap ((k : Int).tdiv 2) = ((k / 2 : Nat) : Int) := by
        rw [Int.tdiv_eq_ediv_of_nonneg (by omega), w64 (by omega) (by omega)]; omega
      have hoff : addOff 0 (IntKind.i64.wrap ((k : Int).tdiv 2)).toNat 1 = k / 2 := by rw [e2, Int.toNat_natCast]; simp [addOff]
      have hdl := dpart_length (intsOf s) k
      have hg := dpart_get (intsOf s) k (k / 2) (by omega)
      -- the figure, and what the digest is behind it
      have step : ∀ v, hexd ((intsOf s).getD k 0) → v = nv ((intsOf s).getD k 0) →
          (dpart (intsOf s) k).set (k / 2) (Go.bits .or .u8 (IntKind.u8.wrap ((dpart (intsOf s) k).getD (k / 2) 0 * 2 ^ (min 4 8))) v) = dpart (intsOf s) (k + 1) := fun v hh hv => by
        have hn := nv_range hh
        have ha : 0 ≤ (dpart (intsOf s) k).getD (k / 2) 0 ∧ (dpart (intsOf s) k).getD (k / 2) 0 < 16 := by
          rw [hg, if_neg (by omega)]
          split
          · exact nv_range (hdig _ (by omega))
          · omega
        rw [hv, or_nib' ha.1 ha.2 hn.1 hn.2]
        exact dpart_succ (by omega)
      have next : hexd ((intsOf s).getD k 0) → ∀ i, i < k + 1 → hexd ((intsOf s).getD i 0) := fun hh i hi => by
        rcases Nat.lt_or_ge i k with h5 | h5
        · exact hdig i h5
        · rw [show i = k by omega]; exact hh
      have hgo : ¬ hexd ((intsOf s).getD k 0) → ¬ parseOK (intsOf s) := fun hn h => hn (h.2 k (by omega))
      refine ⟨⟨by omega, f2⟩, ?_⟩
      refine ⟨fun c2 => ⟨fun c3 => ?_, fun c3 => ⟨fun c4 => ⟨fun c5 => ?_, fun c5 => ?_⟩, fun c4 => ?_⟩⟩, fun c2 => ⟨fun c4 => ⟨fun c5 => ?_, fun c5 => ?_⟩, fun c4 => ?_⟩⟩
      · have g2 : 48 ≤ (intsOf s).getD k 0 := yes c2
        have g3 : (intsOf s).getD k 0 ≤ 57 := yes c3
        have hh : hexd ((intsOf s).getD k 0) := .inl ⟨g2, g3⟩
        refine ⟨by decide, by decide, ⟨by rw [e2]; omega, by rw [e2]; show _ < (32 : Int); omega⟩, by rw [hoff]; omega, by decide, ⟨by rw [e2]; omega, by rw [e2]; show _ < (32 : Int); omega⟩, by rw [hoff]; omega, ?_⟩
        refine ⟨trivial, k + 1, [0, 1], ⟨by omega, next hh⟩, by show 64 - (k + 1) < 64 - k; omega, leh2 (by decide) rfl rfl (leOint rfl) (leOint ?_), ⟨leS rfl, leI rfl, leI e1, .ptr _ rfl, .ptr _ rfl, trivial⟩⟩
        rw [hoff]
        exact step _ hh (by rw [hin, w8 (by omega) (by omega)]; unfold nv; rw [if_pos g3])
      · have g2 : 97 ≤ (intsOf s).getD k 0 := yes c4
        have g3 : (intsOf s).getD k 0 ≤ 102 := yes c5
        have hh : hexd ((intsOf s).getD k 0) := .inr ⟨g2, g3⟩
        refine ⟨by decide, by decide, ⟨by rw [e2]; omega, by rw [e2]; show _ < (32 : Int); omega⟩, by rw [hoff]; omega, by decide, ⟨by rw [e2]; omega, by rw [e2]; show _ < (32 : Int); omega⟩, by rw [hoff]; omega, ?_⟩
        refine ⟨trivial, k + 1, [0, 1], ⟨by omega, next hh⟩, by show 64 - (k + 1) < 64 - k; omega, leh2 (by decide) rfl rfl (leOint rfl) (leOint ?_), ⟨leS rfl, leI rfl, leI e1, .ptr _ rfl, .ptr _ rfl, trivial⟩⟩
        rw [hoff]
        exact step _ hh (by rw [hin, w8 (n := (intsOf s).getD k 0 - 97) (by omega) (by omega), w8 (by omega) (by omega)]; unfold nv; rw [if_neg (by omega)]; omega)
      · have g2 : ¬ (intsOf s).getD k 0 ≤ 57 := no c3
        have g3 : ¬ (intsOf s).getD k 0 ≤ 102 := no c5
        exact ⟨trivial, (), [0], rfl, hgo (fun hh => by unfold hexd at hh; omega), leh1 rfl (leOint rfl), ⟨.ptr _ rfl, trivial⟩⟩
      · have g2 : ¬ (intsOf s).getD k 0 ≤ 57 := no c3
        have g3 : ¬ 97 ≤ (intsOf s).getD k 0 := no c4
        exact ⟨trivial, (), [0], rfl, hgo (fun hh => by unfold hexd at hh; omega), leh1 rfl (leOint rfl), ⟨.ptr _ rfl, trivial⟩⟩
      · have g2 : ¬ 48 ≤ (intsOf s).getD k 0 := no c2
        have g3 : 97 ≤ (intsOf s).getD k 0 := yes c4
        omega
      · have g2 : ¬ 48 ≤ (intsOf s).getD k 0 := no c2
        have g3 : 97 ≤ (intsOf s).getD k 0 := yes c4
        omega
      · have g2 : ¬ 48 ≤ (intsOf s).getD k 0 := no c2
        exact ⟨trivial, (), [0], rfl, hgo (fun hh => by unfold hexd at hh; omega), leh1 rfl (leOint rfl), ⟨.ptr _ rfl, trivial⟩⟩
    · have f2 : ¬ (k : Int) < s.size := no h1
      obtain rfl : k = 64 := by omega
      obtain ⟨g1, g2⟩ := hok ⟨by omega, hdig⟩
      have hdl := dpart_length (intsOf s) 64
      have hfl := dpart_full (intsOf s)
      refine ⟨by rw [hdl]; decide, ?_⟩
      refine ⟨by simp [hdl], by simp, ?_⟩
      refine ⟨by simp [hdl], ?_⟩
      refine ⟨[], [], _, lehN _, le_pair (leAggI ?_) (leI g1.symm), rfl, rfl⟩
      rw [g2, ← hfl]
      simp [hdl]
      exact take3232 _ hdl
  · rintro _ hn
    obtain ⟨g1, g2⟩ := hno hn
    refine ⟨rfl, by decide, ?_⟩
    refine ⟨by decide, ?_⟩
    exact ⟨[], [], _, lehN _, le_pair (leAggI (by rw [g2]; rfl)) (leI g1.symm), rfl, rfl⟩

theorem lePtr {h : List AO} {l : List Nat} {id id' off : Nat} (e : l[id']? = some id) : LeV h l (.ptr id off) (.ptr id' off) := .ptr _ e
/-- A figure's value. -/
def vl (c : Int) : Int := if hexd c then nv c else -1

set_option maxHeartbeats 1000000 in
set_option maxRecDepth 10000 in
theorem value_prog (c : Int) (h0 : 0 ≤ c) (h1 : c < 256) : ACalls Tryz.prog 102 [int .u8 c] [] (fun r h => r = int .i64 (vl c) ∧ h = []) := by
  have hv : ∀ k : Int, 0 ≤ k → k < 16 → fig k = c → vl c = k := fun k g0 g1 e => by
    have := nv_fig g0 g1
    rw [e] at this
    rw [vl, if_pos this.2, this.1]
  have hn : (∀ k : Int, 0 ≤ k → k < 16 → fig k ≠ c) → vl c = -1 := fun h => by
    rw [vl, if_neg]
    intro hh
    have := nv_range hh
    exact h (nv c) this.1 this.2 (fig_nv hh)
  generalize vl c = V at *
  refine rcalls Tryz.func102 rfl (by decide) ?_
  refine ⟨Nat, fun k => [(0, int .u8 c), (3, int .i64 k)], fun _ => [], fun k => k ≤ 16 ∧ ∀ m : Int, 0 ≤ m → m < k → fig m ≠ c, fun k => 16 - k,
    ⟨0, [], ⟨by omega, fun m g0 g1 => absurd g1 (by omega)⟩, leh0, ⟨leI rfl, leI rfl, trivial⟩⟩, ?_⟩
  rintro k ⟨hk, hne⟩
  refine ⟨fun c1 => ?_, fun c1 => ?_⟩
  · have f1 : (k : Int) < 16 := yes c1
    have q : IntKind.u8.wrap (k : Int) = k := w8 (by omega) (by omega)
    have hc := figure_prog (IntKind.u8.wrap (k : Int)) (by rw [q]; omega) (by rw [q]; omega)
    have e1 : IntKind.i64.wrap ((k : Int) + 1) = ((k + 1 : Nat) : Int) := by rw [w64 (by omega) (by omega)]; omega
    obtain ⟨F, hF⟩ : ∃ F, fig (IntKind.u8.wrap (k : Int)) = F := ⟨_, rfl⟩
    rw [hF] at hc
    rw [q] at hF
    refine ⟨[], _, hc, ?_⟩
    rintro r h ⟨rfl, rfl⟩
    refine ⟨.inl rfl, ?_⟩
    refine ⟨fun c2 => ?_, fun c2 => ?_⟩
    · have f2 : F = c := yes c2
      exact ⟨[], [], _, leh0, leI (hv k (by omega) f1 (hF.trans f2)).symm, rfl, rfl⟩
    · have f2 : ¬ F = c := no c2
      refine ⟨trivial, k + 1, [], ⟨by omega, fun m g0 g1 => ?_⟩, by show 16 - (k + 1) < 16 - k; omega, leh0, ⟨leI rfl, leI e1, trivial⟩⟩
      rcases Int.lt_or_le m k with g2 | g2
      · exact hne m g0 g2
      · rw [show m = k by omega]; exact fun e => f2 (hF.symm.trans e)
  · have f1 : ¬ (k : Int) < 16 := no c1
    obtain rfl : k = 16 := by omega
    exact ⟨[], [], _, leh0, leI (hn fun m g0 g1 => hne m g0 g1).symm, rfl, rfl⟩

set_option maxHeartbeats 2000000 in
set_option maxRecDepth 10000 in
theorem parse_ref (s : ByteArray) (hs : s.size ≤ 281474976710656) : ACalls Tryz.prog 65 [str s] [] (ParseR s) := by
  have hil : (intsOf s).length = s.size := intsOf_length s
  have hb := fun i => byteAt (intsOf_range s) i
  have hok : parseOK (intsOf s) → parseE (intsOf s) = 0 ∧ parseD (intsOf s) = pd (intsOf s) := fun h => parse_ok h
  have hno : ¬ parseOK (intsOf s) → parseE (intsOf s) = 2 ∧ parseD (intsOf s) = List.replicate 32 0 := fun h => parse_no h
  unfold ParseR
  generalize parseE (intsOf s) = E at *
  generalize parseD (intsOf s) = D at *
  refine rcalls Tryz.func65 rfl (by decide) ?_
  refine ⟨rfl, ?_⟩
  refine ⟨rfl, ?_⟩
  refine ⟨fun c1 => ?_, fun c1 => ?_⟩
  · have f1 : ¬ (s.size : Int) = 64 := of_decide_eq_true c1
    obtain ⟨g1, g2⟩ := hno fun h => f1 (by rw [← hil, h.1]; rfl)
    refine ⟨by decide, ?_⟩
    refine ⟨by decide, by decide, ?_⟩
    refine ⟨by decide, ?_⟩
    exact ⟨[], [], _, lehN _, le_pair (leAggI (by rw [g2]; rfl)) (leI g1.symm), rfl, rfl⟩
  have f1 : (s.size : Int) = 64 := Classical.byContradiction fun h => of_decide_eq_false c1 h
  have h64 : s.size = 64 := by omega
  refine ⟨Nat, fun i => [(0, str s), (5, int .i64 i), (4, .ptr 1 0), (2, .ptr 0 0)], fun i => [.ints .u8 (List.replicate 32 0), .ints .u8 (dpart (intsOf s) (2 * i))],
    fun i => i ≤ 32 ∧ ∀ j, j < 2 * i → hexd ((intsOf s).getD j 0), fun i => 32 - i,
    ⟨0, [0, 1], ⟨by omega, fun i hi => absurd hi (by omega)⟩, leh2 (by decide) rfl rfl (leOint rfl) (leOint (dpart_zero _).symm), ⟨leS rfl, leI rfl, lePtr rfl, lePtr rfl, trivial⟩⟩, ?_⟩
  rintro i ⟨hi, hdig⟩
  refine ⟨fun h1 => ?_, fun h1 => ?_⟩
  · have f2 : (i : Int) < 32 := yes h1
    have hdl := dpart_length (intsOf s) (2 * i)
    have e1 : IntKind.i64.wrap ((i : Int) + 1) = ((i + 1 : Nat) : Int) := by rw [w64 (by omega) (by omega)]; omega
    have e2 : IntKind.i64.wrap (2 * (i : Int)) = ((2 * i : Nat) : Int) := by rw [w64 (by omega) (by omega)]; omega
    have e3 : IntKind.i64.wrap (IntKind.i64.wrap (2 * (i : Int)) + 1) = ((2 * i + 1 : Nat) : Int) := by rw [e2, w64 (by omega) (by omega)]; omega
    have hoff : addOff 0 ((i : Int)).toNat 1 = i := by simp [addOff]
    have hb1 := hb (2 * i)
    have hb2 := hb (2 * i + 1)
    have hc1 := value_prog ((intsOf s).getD (IntKind.i64.wrap (2 * (i : Int))).toNat 0) (hb _).1 (hb _).2
    have hc2 := value_prog ((intsOf s).getD (IntKind.i64.wrap (IntKind.i64.wrap (2 * (i : Int)) + 1)).toNat 0) (hb _).1 (hb _).2
    obtain ⟨A, hA⟩ : ∃ A, vl ((intsOf s).getD (IntKind.i64.wrap (2 * (i : Int))).toNat 0) = A := ⟨_, rfl⟩
    obtain ⟨B, hB⟩ : ∃ B, vl ((intsOf s).getD (IntKind.i64.wrap (IntKind.i64.wrap (2 * (i : Int)) + 1)).toNat 0) = B := ⟨_, rfl⟩
    rw [hA] at hc1
    rw [hB] at hc2
    rw [e2, Int.toNat_natCast] at hA
    rw [e3, Int.toNat_natCast] at hB
    refine ⟨⟨by rw [e2]; omega, by rw [e2]; omega⟩, ?_⟩
    refine ⟨[], _, hc1, ?_⟩
    rintro r h ⟨rfl, rfl⟩
    refine ⟨.inl rfl, ?_⟩
    refine ⟨⟨by rw [e3]; omega, by rw [e3]; omega⟩, ?_⟩
    refine ⟨[], _, hc2, ?_⟩
    rintro r h ⟨rfl, rfl⟩
    refine ⟨.inl rfl, ?_⟩
    refine ⟨fun c2 => ?_, fun c2 => ⟨fun c3 => ?_, fun c3 => ?_⟩⟩
    · have f3 : A < 0 := yes c2
      obtain ⟨g1, g2⟩ := hno fun h => by
        have hh := h.2 (2 * i) (by omega)
        have := nv_range hh
        rw [vl, if_pos hh] at hA
        omega
      refine ⟨rfl, by decide, ?_⟩
      refine ⟨by decide, ?_⟩
      exact ⟨[], [], _, lehN _, le_pair (leAggI (by rw [g2]; rfl)) (leI g1.symm), rfl, rfl⟩
    · have f3 : B < 0 := yes c3
      obtain ⟨g1, g2⟩ := hno fun h => by
        have hh := h.2 (2 * i + 1) (by omega)
        have := nv_range hh
        rw [vl, if_pos hh] at hB
        omega
      refine ⟨rfl, by decide, ?_⟩
      refine ⟨by decide, ?_⟩
      exact ⟨[], [], _, lehN _, le_pair (leAggI (by rw [g2]; rfl)) (leI g1.symm), rfl, rfl⟩
    · have f3 : ¬ A < 0 := no c2
      have f4 : ¬ B < 0 := no c3
      have hA1 : hexd ((intsOf s).getD (2 * i) 0) := Classical.byContradiction fun hh => by rw [vl, if_neg hh] at hA; omega
      have hB1 : hexd ((intsOf s).getD (2 * i + 1) 0) := Classical.byContradiction fun hh => by rw [vl, if_neg hh] at hB; omega
      rw [vl, if_pos hA1] at hA
      rw [vl, if_pos hB1] at hB
      have hrA := nv_range hA1
      have hrB := nv_range hB1
      refine ⟨⟨by omega, f2⟩, by rw [hoff]; omega, ?_⟩
      refine ⟨trivial, i + 1, [0, 1], ⟨by omega, fun j hj => ?_⟩, by show 32 - (i + 1) < 32 - i; omega, leh2 (by decide) rfl rfl (leOint rfl) (leOint ?_), ⟨leS rfl, leI e1, lePtr rfl, lePtr rfl, trivial⟩⟩
      · rcases Nat.lt_or_ge j (2 * i) with h5 | h5
        · exact hdig j h5
        · rcases Nat.lt_or_ge j (2 * i + 1) with h6 | h6
          · rw [show j = 2 * i by omega]; exact hA1
          · rw [show j = 2 * i + 1 by omega]; exact hB1
      · have e5 : IntKind.u8.wrap (IntKind.i64.wrap (IntKind.i64.wrap (16 * A) + B)) = full (intsOf s) i := by
          rw [w64 (n := 16 * A) (by omega) (by omega), w64 (by omega) (by omega), w8 (by omega) (by omega)]
          unfold full
          rw [hA, hB]
        rw [hoff]
        show (dpart (intsOf s) (2 * i)).set i (IntKind.u8.wrap (IntKind.i64.wrap (IntKind.i64.wrap (16 * A) + B))) = _
        rw [e5]
        exact dpart_two (by omega)
  · have f2 : ¬ (i : Int) < 32 := no h1
    obtain rfl : i = 32 := by omega
    obtain ⟨g1, g2⟩ := hok ⟨by omega, hdig⟩
    have hdl := dpart_length (intsOf s) (2 * 32)
    have hfl := dpart_full (intsOf s)
    refine ⟨by rw [hdl]; decide, ?_⟩
    refine ⟨by simp [hdl], by simp, ?_⟩
    refine ⟨by simp [hdl], ?_⟩
    refine ⟨[], [], _, lehN _, le_pair (leAggI ?_) (leI g1.symm), rfl, rfl⟩
    rw [g2, ← hfl]
    simp [dpart_length]
    exact take3232 _ (dpart_length _ _)

end
end Go.Proofs.YthckagkciefliaaGreatDoor.Hx

/-
  Events: what they are, and the contracts of the functions that tell of them.
-/
set_option linter.unusedVariables false
set_option linter.unusedSectionVars false
namespace Go.Proofs.YthckagkciefliaaGreatDoor.Ev
open Go AL Spl Hx Dt Vc Pa

structure Ev where
  r : Int
  q : Int
  deps : List (Int × Int)
  kind : Int
  path : ByteArray
  sum : List Int
  size : Int
/-- An event's cells. -/
def evC (e : Ev) : Nat → AV
  | 0 => int .i64 e.r
  | 1 => int .i64 e.q
  | 2 => vecV e.deps
  | 3 => int .i64 e.kind
  | 4 => str e.path
  | i + 5 => if i = 32 then int .i64 e.size else int .u8 (e.sum.getD i 0)
abbrev evV (e : Ev) : AV := .agg 38 (evC e)
def zeros : List Int := List.replicate 32 0
/-- The sizes that an event's lists may have. -/
structure Fit (e : Ev) : Prop where
  deps : e.deps.length ≤ 9223372036854775807
  path : e.path.size ≤ 281474976710656
  sum : e.sum.length = 32
  byte : ∀ x ∈ e.sum, 0 ≤ x ∧ x < 256
  q : -9223372036854775808 ≤ e.q ∧ e.q < 9223372036854775808
  size : -9223372036854775808 ≤ e.size ∧ e.size < 9223372036854775808
def fineE (e : Ev) : Prop := mayD e.r e.q ∧ e.deps = ofF (cntF e.deps) ∧ getV e.deps e.r = e.q - 1 ∧ okOwn e.path
instance (e : Ev) : Decidable (fineE e) := by unfold fineE; infer_instance
def mayE (e : Ev) : Prop := fineE e ∧ (e.kind = 1 ∧ 0 ≤ e.size ∧ e.size ≤ 65536 ∨ e.kind = 2 ∧ e.size = 0 ∧ e.sum = zeros)
instance (e : Ev) : Decidable (mayE e) := by unfold mayE; infer_instance

section
variable [Globs]

theorem vsum {e : Ev} (h : e.sum.length = 32) {f : Nat → AV} (hf : ∀ i, i < 32 → f i = int .u8 (e.sum.getD i 0)) : VLe (.agg 32 f) (.aggI .u8 e.sum) := by
  intro w S L v hv
  obtain ⟨vs, rfl, hn, hc⟩ := hv
  show Value.agg vs = Value.agg _
  congr 1
  apply Array.ext
  · simp [hn, h]
  · intro i h1 h2
    obtain ⟨u, g1, g2⟩ := hc i (by omega)
    rw [hf i (by omega)] at g2
    have g2 : u = .int .u8 (e.sum.getD i 0) := g2
    rw [Array.getElem?_eq_getElem h1] at g1
    have : i < e.sum.length := by omega
    simp [Option.some.inj g1, g2, List.getD_eq_getElem?_getD, this]

theorem tab32 {xs : List Int} (h : xs.length = 32) : (List.range 32).map (fun i => xs.getD i 0) = xs := by
  apply List.ext_getElem
  · simp [h]
  · intro i h1 h2
    simp [List.getD_eq_getElem?_getD, h2]
theorem deqT {p : Prop} [Decidable p] (h : p) : bool (decide p) = bool true := by rw [decide_eq_true h]
theorem deqF {p : Prop} [Decidable p] (h : ¬ p) : bool (decide p) = bool false := by rw [decide_eq_false h]

set_option maxHeartbeats 4000000 in
set_option maxRecDepth 10000 in
theorem may_event (hG : NumG) (e : Ev) (hf : Fit e) : ACalls Tryz.prog 25 [evV e] [] (fun r h => r = bool (decide (mayE e)) ∧ h = []) := by
  obtain ⟨r, q, deps, kind, path, sum, size⟩ := e
  have h1 := may_prog r q
  have h2 := may_vec deps hf.deps
  have h3 := get_prog deps r hf.deps
  have h4 := own_path hG path hf.path
  obtain ⟨Z, hZ⟩ : ∃ Z, decide (mayE ⟨r, q, deps, kind, path, sum, size⟩) = Z := ⟨_, rfl⟩
  rw [hZ]
  have hiff : mayE ⟨r, q, deps, kind, path, sum, size⟩ ↔ (mayD r q ∧ deps = ofF (cntF deps) ∧ getV deps r = q - 1 ∧ okOwn path) ∧ (kind = 1 ∧ 0 ≤ size ∧ size ≤ 65536 ∨ kind = 2 ∧ size = 0 ∧ sum = zeros) := Iff.rfl
  have hno : ¬ mayE ⟨r, q, deps, kind, path, sum, size⟩ → Z = false := fun h => by rw [← hZ]; exact decide_eq_false h
  refine rcalls Tryz.func25 rfl (by decide) ?_
  by_cases g1 : mayD r q
  · have h1 := h1.yes (decide_eq_true g1)
    have hq : IntKind.i64.wrap (q - 1) = q - 1 := w64 (by have := g1.2.2.1; omega) (by have := g1.2.2.2; omega)
    by_cases g2 : deps = ofF (cntF deps)
    · have h2 := h2.yes (decide_eq_true g2)
      refine .inr ⟨26, by decide +kernel, ?_⟩
      refine ⟨_, rfl, ?_⟩
      refine ⟨_, rfl, ?_⟩
      refine ⟨_, ⟨[], _, dfree rfl rfl, h1.args ⟨vdot rfl rfl, trivial⟩, by rintro r h ⟨rfl, rfl⟩; exact ⟨.inl rfl, rfl, rfl⟩⟩, ?_⟩
      refine ⟨_, rfl, ?_⟩
      refine ⟨_, rfl, ?_⟩
      refine ⟨_, rfl, ?_⟩
      refine ⟨_, ⟨[], _, h2, by rintro r h ⟨rfl, rfl⟩; exact ⟨.inl rfl, rfl, rfl⟩⟩, ?_⟩
      refine ⟨_, rfl, ?_⟩
      refine ⟨_, rfl, ?_⟩
      refine ⟨_, rfl, ?_⟩
      refine ⟨_, rfl, ?_⟩
      refine ⟨_, rfl, ?_⟩
      refine ⟨_, rfl, ?_⟩
      refine ⟨_, rfl, ?_⟩
      refine ⟨_, ⟨[], _, h3, by rintro r h ⟨rfl, rfl⟩; exact ⟨.inl rfl, rfl, rfl⟩⟩, ?_⟩
      refine ⟨_, rfl, ?_⟩
      refine ⟨_, rfl, ?_⟩
      refine ⟨_, rfl, ?_⟩
      refine ⟨_, rfl, ?_⟩
      by_cases g3 : getV deps r = q - 1
      · refine ⟨_, deqT (by rw [hq]; exact g3), ?_⟩
        refine ⟨_, rfl, ?_⟩
        refine ⟨_, rfl, ?_⟩
        refine ⟨_, rfl, ?_⟩
        refine ⟨_, rfl, ?_⟩
        refine ⟨_, ⟨[], _, h4, by rintro r h ⟨rfl, rfl⟩; exact ⟨.inl rfl, rfl, rfl⟩⟩, ?_⟩
        refine ⟨_, rfl, ?_⟩
        refine ⟨fun k1 => ?_, fun k1 => ⟨fun k2 => ?_, fun k2 => ?_⟩⟩
        · refine ⟨fun o => ⟨fun s1 => ?_, fun s1 => ?_⟩, fun o => ?_⟩
          · refine ⟨[], [], _, lehN _, leB ?_, rfl, rfl⟩
            rw [← hZ]
            exact decide_eq_decide.2 ⟨fun h => hiff.2 ⟨⟨g1, g2, g3, yes o⟩, .inl ⟨yes k1, yes s1, h⟩⟩, fun h => by
              rcases (hiff.1 h).2 with h | h
              · exact h.2.2
              · have k1 : kind = 1 := yes k1
                omega⟩
          · exact ⟨[], [], _, lehN _, leFB (hno fun h => by have := (hiff.1 h).2; have k1 : kind = 1 := yes k1; have s1 : ¬ 0 ≤ size := no s1; omega), rfl, rfl⟩
          · exact ⟨[], [], _, lehN _, leFB (hno fun h => no o (hiff.1 h).1.2.2.2), rfl, rfl⟩
        · refine ⟨fun o => ⟨fun s1 => ?_, fun s1 => ?_⟩, fun o => ?_⟩
          · refine ⟨rfl, rfl, [], [], _, lehN _, leB ?_, rfl, rfl⟩
            have hs := tab32 hf.sum
            show decide ((List.range 32).map (fun i => sum.getD i 0) = zeros) = Z
            have hs : (List.range 32).map (fun i => sum.getD i 0) = sum := hs
            rw [hs, ← hZ]
            exact decide_eq_decide.2 ⟨fun h => hiff.2 ⟨⟨g1, g2, g3, yes o⟩, .inr ⟨yes k2, yes s1, h⟩⟩, fun h => by
              rcases (hiff.1 h).2 with h | h
              · have k2 : kind = 2 := yes k2
                omega
              · exact h.2.2⟩
          · exact ⟨[], [], _, lehN _, leFB (hno fun h => by have := (hiff.1 h).2; have k2 : kind = 2 := yes k2; have s1 : ¬ size = 0 := no s1; omega), rfl, rfl⟩
          · exact ⟨[], [], _, lehN _, leFB (hno fun h => no o (hiff.1 h).1.2.2.2), rfl, rfl⟩
        · exact ⟨[], [], _, lehN _, leFB (hno fun h => by have := (hiff.1 h).2; have k1 : ¬ kind = 1 := no k1; have k2 : ¬ kind = 2 := no k2; omega), rfl, rfl⟩
      · refine ⟨_, deqF (by rw [hq]; exact g3), ?_⟩
        refine ⟨_, rfl, ?_⟩
        refine ⟨_, rfl, ?_⟩
        refine ⟨_, rfl, ?_⟩
        refine ⟨_, rfl, ?_⟩
        refine ⟨_, rfl, ?_⟩
        refine ⟨_, rfl, ?_⟩
        refine ⟨fun k1 => ?_, fun k1 => ⟨fun k2 => ?_, fun k2 => ?_⟩⟩
        all_goals exact ⟨[], [], _, lehN _, leFB (hno fun h => g3 (hiff.1 h).1.2.2.1), rfl, rfl⟩
    · have h2 := h2.not (decide_eq_false g2)
      refine .inr ⟨26, by decide +kernel, ?_⟩
      refine ⟨_, rfl, ?_⟩
      refine ⟨_, rfl, ?_⟩
      refine ⟨_, ⟨[], _, dfree rfl rfl, h1.args ⟨vdot rfl rfl, trivial⟩, by rintro r h ⟨rfl, rfl⟩; exact ⟨.inl rfl, rfl, rfl⟩⟩, ?_⟩
      refine ⟨_, rfl, ?_⟩
      refine ⟨_, rfl, ?_⟩
      refine ⟨_, rfl, ?_⟩
      refine ⟨_, ⟨[], _, h2, by rintro r h ⟨rfl, rfl⟩; exact ⟨.inl rfl, rfl, rfl⟩⟩, ?_⟩
      refine ⟨_, rfl, ?_⟩
      refine ⟨_, rfl, ?_⟩
      refine ⟨_, rfl, ?_⟩
      refine ⟨_, rfl, ?_⟩
      refine ⟨_, rfl, ?_⟩
      refine ⟨_, rfl, ?_⟩
      refine ⟨_, rfl, ?_⟩
      refine ⟨_, rfl, ?_⟩
      refine ⟨_, rfl, ?_⟩
      refine ⟨_, rfl, ?_⟩
      refine ⟨_, rfl, ?_⟩
      refine ⟨_, rfl, ?_⟩
      refine ⟨_, rfl, ?_⟩
      refine ⟨_, rfl, ?_⟩
      refine ⟨_, rfl, ?_⟩
      refine ⟨_, rfl, ?_⟩
      refine ⟨_, rfl, ?_⟩
      refine ⟨_, rfl, ?_⟩
      refine ⟨_, rfl, ?_⟩
      refine ⟨fun k1 => ?_, fun k1 => ⟨fun k2 => ?_, fun k2 => ?_⟩⟩
      all_goals exact ⟨[], [], _, lehN _, leFB (hno fun h => g2 (hiff.1 h).1.2.1), rfl, rfl⟩
  · have h1 := h1.not (decide_eq_false g1)
    refine .inr ⟨26, by decide +kernel, ?_⟩
    refine ⟨_, rfl, ?_⟩
    refine ⟨_, rfl, ?_⟩
    refine ⟨_, ⟨[], _, dfree rfl rfl, h1.args ⟨vdot rfl rfl, trivial⟩, by rintro r h ⟨rfl, rfl⟩; exact ⟨.inl rfl, rfl, rfl⟩⟩, ?_⟩
    refine ⟨_, rfl, ?_⟩
    refine ⟨_, rfl, ?_⟩
    refine ⟨_, rfl, ?_⟩
    refine ⟨_, rfl, ?_⟩
    refine ⟨_, rfl, ?_⟩
    refine ⟨_, rfl, ?_⟩
    refine ⟨_, rfl, ?_⟩
    refine ⟨_, rfl, ?_⟩
    refine ⟨_, rfl, ?_⟩
    refine ⟨_, rfl, ?_⟩
    refine ⟨_, rfl, ?_⟩
    refine ⟨_, rfl, ?_⟩
    refine ⟨_, rfl, ?_⟩
    refine ⟨_, rfl, ?_⟩
    refine ⟨_, rfl, ?_⟩
    refine ⟨_, rfl, ?_⟩
    refine ⟨_, rfl, ?_⟩
    refine ⟨_, rfl, ?_⟩
    refine ⟨_, rfl, ?_⟩
    refine ⟨_, rfl, ?_⟩
    refine ⟨_, rfl, ?_⟩
    refine ⟨_, rfl, ?_⟩
    refine ⟨_, rfl, ?_⟩
    refine ⟨fun k1 => ?_, fun k1 => ⟨fun k2 => ?_, fun k2 => ?_⟩⟩
    all_goals exact ⟨[], [], _, lehN _, leFB (hno fun h => g1 (hiff.1 h).1.1), rfl, rfl⟩

end
end Go.Proofs.YthckagkciefliaaGreatDoor.Ev

/-
  Events: the document's May, and who knows what.
-/
set_option linter.unusedVariables false
set_option linter.unusedSectionVars false
namespace Go.Proofs.YthckagkciefliaaGreatDoor.Ev
open Go AL Spl Hx Dt Vc Pa

section
variable [Globs]

set_option maxHeartbeats 4000000 in
set_option maxRecDepth 10000 in
theorem may_eref (e : Ev) (hf : Fit e) : ACalls Tryz.prog 31 [evV e] [] (fun r h => r = bool (decide (mayE e)) ∧ h = []) := by
  obtain ⟨r, q, deps, kind, path, sum, size⟩ := e
  have h1 := may_ref r q
  have h2 := may_vref deps hf.deps
  have h3 := get_ref deps r hf.deps
  have h4 := own_ref path hf.path
  obtain ⟨Z, hZ⟩ : ∃ Z, decide (mayE ⟨r, q, deps, kind, path, sum, size⟩) = Z := ⟨_, rfl⟩
  rw [hZ]
  have hiff : mayE ⟨r, q, deps, kind, path, sum, size⟩ ↔ (mayD r q ∧ deps = ofF (cntF deps) ∧ getV deps r = q - 1 ∧ okOwn path) ∧ (kind = 1 ∧ 0 ≤ size ∧ size ≤ 65536 ∨ kind = 2 ∧ size = 0 ∧ sum = zeros) := Iff.rfl
  have hno : ¬ mayE ⟨r, q, deps, kind, path, sum, size⟩ → Z = false := fun h => by rw [← hZ]; exact decide_eq_false h
  refine rcalls Tryz.func31 rfl (by decide) ?_
  by_cases g1 : mayD r q
  · have h1 := h1.yes (decide_eq_true g1)
    have hq : IntKind.i64.wrap (q - 1) = q - 1 := w64 (by have := g1.2.2.1; omega) (by have := g1.2.2.2; omega)
    by_cases g2 : deps = ofF (cntF deps)
    · have h2 := h2.yes (decide_eq_true g2)
      refine .inr ⟨28, by decide +kernel, ?_⟩
      refine ⟨_, rfl, ?_⟩
      refine ⟨_, rfl, ?_⟩
      refine ⟨_, ⟨[], _, dfree rfl rfl, h1.args ⟨vdot rfl rfl, trivial⟩, by rintro r h ⟨rfl, rfl⟩; exact ⟨.inl rfl, rfl, rfl⟩⟩, ?_⟩
      refine ⟨_, rfl, ?_⟩
      refine ⟨_, rfl, ?_⟩
      refine ⟨_, rfl, ?_⟩
      refine ⟨_, rfl, ?_⟩
      refine ⟨_, ⟨[], _, h2, by rintro r h ⟨rfl, rfl⟩; exact ⟨.inl rfl, rfl, rfl⟩⟩, ?_⟩
      refine ⟨_, rfl, ?_⟩
      refine ⟨_, rfl, ?_⟩
      refine ⟨_, rfl, ?_⟩
      refine ⟨_, rfl, ?_⟩
      refine ⟨_, rfl, ?_⟩
      refine ⟨_, rfl, ?_⟩
      refine ⟨_, rfl, ?_⟩
      refine ⟨_, rfl, ?_⟩
      refine ⟨_, ⟨[], _, h3, by rintro r h ⟨rfl, rfl⟩; exact ⟨.inl rfl, rfl, rfl⟩⟩, ?_⟩
      refine ⟨_, rfl, ?_⟩
      refine ⟨_, rfl, ?_⟩
      refine ⟨_, rfl, ?_⟩
      refine ⟨_, rfl, ?_⟩
      by_cases g3 : getV deps r = q - 1
      · refine ⟨_, deqF (fun hn => hn (by rw [hq]; exact g3)), ?_⟩
        refine ⟨_, rfl, ?_⟩
        refine ⟨_, rfl, ?_⟩
        refine ⟨_, rfl, ?_⟩
        refine ⟨_, rfl, ?_⟩
        refine ⟨_, ⟨[], _, h4, by rintro r h ⟨rfl, rfl⟩; exact ⟨.inl rfl, rfl, rfl⟩⟩, ?_⟩
        refine ⟨_, rfl, ?_⟩
        refine ⟨fun o => ?_, fun o => ⟨fun k1 => ⟨fun s1 => ?_, fun s1 => ?_⟩, fun k1 => ⟨fun k2 => ⟨fun s1 => ?_, fun s1 => ?_⟩, fun k2 => ?_⟩⟩⟩
        · exact ⟨[], [], _, lehN _, leFB (hno fun h => notT o (hiff.1 h).1.2.2.2), rfl, rfl⟩
        · refine ⟨[], [], _, lehN _, leB ?_, rfl, rfl⟩
          rw [← hZ]
          exact decide_eq_decide.2 ⟨fun h => hiff.2 ⟨⟨g1, g2, g3, notF o⟩, .inl ⟨yes k1, yes s1, h⟩⟩, fun h => by
            rcases (hiff.1 h).2 with h | h
            · exact h.2.2
            · have k1 : kind = 1 := yes k1
              omega⟩
        · exact ⟨[], [], _, lehN _, leFB (hno fun h => by have := (hiff.1 h).2; have k1 : kind = 1 := yes k1; have s1 : ¬ 0 ≤ size := no s1; omega), rfl, rfl⟩
        · refine ⟨rfl, rfl, [], [], _, lehN _, leB ?_, rfl, rfl⟩
          have hs := tab32 hf.sum
          show decide ((List.range 32).map (fun i => sum.getD i 0) = zeros) = Z
          have hs : (List.range 32).map (fun i => sum.getD i 0) = sum := hs
          rw [hs, ← hZ]
          exact decide_eq_decide.2 ⟨fun h => hiff.2 ⟨⟨g1, g2, g3, notF o⟩, .inr ⟨yes k2, yes s1, h⟩⟩, fun h => by
            rcases (hiff.1 h).2 with h | h
            · have k2 : kind = 2 := yes k2
              omega
            · exact h.2.2⟩
        · exact ⟨[], [], _, lehN _, leFB (hno fun h => by have := (hiff.1 h).2; have k2 : kind = 2 := yes k2; have s1 : ¬ size = 0 := no s1; omega), rfl, rfl⟩
        · exact ⟨[], [], _, lehN _, leFB (hno fun h => by have := (hiff.1 h).2; have k1 : ¬ kind = 1 := no k1; have k2 : ¬ kind = 2 := no k2; omega), rfl, rfl⟩
      · refine ⟨_, deqT (p := ¬ _) (by rw [hq]; exact g3), ?_⟩
        refine ⟨_, rfl, ?_⟩
        refine ⟨_, rfl, ?_⟩
        refine ⟨_, rfl, ?_⟩
        refine ⟨_, rfl, ?_⟩
        refine ⟨_, rfl, ?_⟩
        refine ⟨_, rfl, ?_⟩
        exact ⟨[], [], _, lehN _, leFB (hno fun h => g3 (hiff.1 h).1.2.2.1), rfl, rfl⟩
    · have h2 := h2.not (decide_eq_false g2)
      refine .inr ⟨28, by decide +kernel, ?_⟩
      refine ⟨_, rfl, ?_⟩
      refine ⟨_, rfl, ?_⟩
      refine ⟨_, ⟨[], _, dfree rfl rfl, h1.args ⟨vdot rfl rfl, trivial⟩, by rintro r h ⟨rfl, rfl⟩; exact ⟨.inl rfl, rfl, rfl⟩⟩, ?_⟩
      refine ⟨_, rfl, ?_⟩
      refine ⟨_, rfl, ?_⟩
      refine ⟨_, rfl, ?_⟩
      refine ⟨_, rfl, ?_⟩
      refine ⟨_, ⟨[], _, h2, by rintro r h ⟨rfl, rfl⟩; exact ⟨.inl rfl, rfl, rfl⟩⟩, ?_⟩
      refine ⟨_, rfl, ?_⟩
      refine ⟨_, rfl, ?_⟩
      refine ⟨_, rfl, ?_⟩
      refine ⟨_, rfl, ?_⟩
      refine ⟨_, rfl, ?_⟩
      refine ⟨_, rfl, ?_⟩
      refine ⟨_, rfl, ?_⟩
      refine ⟨_, rfl, ?_⟩
      refine ⟨_, rfl, ?_⟩
      refine ⟨_, rfl, ?_⟩
      refine ⟨_, rfl, ?_⟩
      refine ⟨_, rfl, ?_⟩
      refine ⟨_, rfl, ?_⟩
      refine ⟨_, rfl, ?_⟩
      refine ⟨_, rfl, ?_⟩
      refine ⟨_, rfl, ?_⟩
      refine ⟨_, rfl, ?_⟩
      refine ⟨_, rfl, ?_⟩
      refine ⟨_, rfl, ?_⟩
      refine ⟨_, rfl, ?_⟩
      exact ⟨[], [], _, lehN _, leFB (hno fun h => g2 (hiff.1 h).1.2.1), rfl, rfl⟩
  · have h1 := h1.not (decide_eq_false g1)
    refine .inr ⟨28, by decide +kernel, ?_⟩
    refine ⟨_, rfl, ?_⟩
    refine ⟨_, rfl, ?_⟩
    refine ⟨_, ⟨[], _, dfree rfl rfl, h1.args ⟨vdot rfl rfl, trivial⟩, by rintro r h ⟨rfl, rfl⟩; exact ⟨.inl rfl, rfl, rfl⟩⟩, ?_⟩
    refine ⟨_, rfl, ?_⟩
    refine ⟨_, rfl, ?_⟩
    refine ⟨_, rfl, ?_⟩
    refine ⟨_, rfl, ?_⟩
    refine ⟨_, rfl, ?_⟩
    refine ⟨_, rfl, ?_⟩
    refine ⟨_, rfl, ?_⟩
    refine ⟨_, rfl, ?_⟩
    refine ⟨_, rfl, ?_⟩
    refine ⟨_, rfl, ?_⟩
    refine ⟨_, rfl, ?_⟩
    refine ⟨_, rfl, ?_⟩
    refine ⟨_, rfl, ?_⟩
    refine ⟨_, rfl, ?_⟩
    refine ⟨_, rfl, ?_⟩
    refine ⟨_, rfl, ?_⟩
    refine ⟨_, rfl, ?_⟩
    refine ⟨_, rfl, ?_⟩
    refine ⟨_, rfl, ?_⟩
    refine ⟨_, rfl, ?_⟩
    refine ⟨_, rfl, ?_⟩
    refine ⟨_, rfl, ?_⟩
    refine ⟨_, rfl, ?_⟩
    refine ⟨_, rfl, ?_⟩
    refine ⟨_, rfl, ?_⟩
    exact ⟨[], [], _, lehN _, leFB (hno fun h => g1 (hiff.1 h).1.1), rfl, rfl⟩

set_option maxRecDepth 10000 in
theorem knows_event (e f : Ev) (he : e.deps.length ≤ 9223372036854775807) : ACalls Tryz.prog 27 [evV e, evV f] [] (fun r h => r = bool (decide (mayD f.r f.q ∧ f.q ≤ getV e.deps f.r)) ∧ h = []) := by
  have hp := has_prog e.deps f.r f.q he
  refine rcalls Tryz.func27 rfl (by decide) ?_
  refine ⟨[], _, dfree rfl rfl, hp.args ⟨.refl _, vdot rfl rfl, trivial⟩, ?_⟩
  rintro r hh ⟨rfl, rfl⟩
  refine ⟨.inl rfl, ?_⟩
  exact ⟨[], [], _, lehN _, leB rfl, rfl, rfl⟩

set_option maxRecDepth 10000 in
theorem knows_eref (e f : Ev) (he : e.deps.length ≤ 9223372036854775807) : ACalls Tryz.prog 32 [evV e, evV f] [] (fun r h => r = bool (decide (mayD f.r f.q ∧ f.q ≤ getV e.deps f.r)) ∧ h = []) := by
  have hp := has_ref e.deps f.r f.q he
  refine rcalls Tryz.func32 rfl (by decide) ?_
  refine ⟨[], _, dfree rfl rfl, hp.args ⟨.refl _, vdot rfl rfl, trivial⟩, ?_⟩
  rintro r hh ⟨rfl, rfl⟩
  refine ⟨.inl rfl, ?_⟩
  exact ⟨[], [], _, lehN _, leB rfl, rfl, rfl⟩

end
end Go.Proofs.YthckagkciefliaaGreatDoor.Ev

/-
  Events: their order, and whether two are the same.
-/
set_option linter.unusedVariables false
set_option linter.unusedSectionVars false
namespace Go.Proofs.YthckagkciefliaaGreatDoor.Ev
open Go AL Spl Hx Dt Vc Pa

section
variable [Globs]

set_option maxRecDepth 10000 in
theorem isNaNS_prog (x : ByteArray) : ACalls Tryz.prog 107 [str x] [] (fun r h => r = .ff ∧ h = []) := by
  refine rcalls Tryz.func107 rfl (by decide) ?_
  refine ⟨[], [], .ff, lehN _, ?_, rfl, rfl⟩
  have : decide (¬ x = x) = false := by simp
  show LeV _ _ (bool (decide (¬ x = x))) _
  rw [this]; exact .rff

/-- The order of texts. -/
abbrev ltS (x y : ByteArray) : Bool := Op.bytesLess x.toList y.toList
def cmpS (x y : ByteArray) : Int := if ltS x y = true then -1 else if x = y then 0 else 1

set_option maxRecDepth 10000 in
theorem compareS_prog (x y : ByteArray) : ACalls Tryz.prog 77 [str x, str y] [] (fun r h => r = int .i64 (cmpS x y) ∧ h = []) := by
  refine rcalls Tryz.func77 rfl (by decide) ?_
  refine ⟨[], _, isNaNS_prog x, ?_⟩
  rintro r hh ⟨rfl, rfl⟩
  refine ⟨.inl rfl, ?_⟩
  refine ⟨[], _, isNaNS_prog y, ?_⟩
  rintro r hh ⟨rfl, rfl⟩
  refine ⟨.inl rfl, ?_⟩
  refine ⟨fun e => ?_, fun e => ⟨fun g => ?_, fun g => ?_⟩⟩
  · exact ⟨[], [], _, lehN _, leI (by unfold cmpS; rw [if_pos e]), rfl, rfl⟩
  · refine ⟨[], [], _, lehN _, leI ?_, rfl, rfl⟩
    rw [e] at g
    have hne : ¬ x = y := fun h => by rw [decide_eq_true h] at g; cases g
    have e : ltS x y = false := e
    unfold cmpS
    rw [if_neg (by rw [e]; decide), if_neg hne]
  · refine ⟨[], [], _, lehN _, leI ?_, rfl, rfl⟩
    rw [e] at g
    have he : x = y := Classical.byContradiction fun h => by rw [decide_eq_false h] at g; cases g
    have e : ltS x y = false := e
    unfold cmpS
    rw [if_neg (by rw [e]; decide), if_pos he]

def cmpE (e f : Ev) : Int := if cmpS e.path f.path = 0 then cmpD e.r e.q f.r f.q else cmpS e.path f.path

set_option maxHeartbeats 1000000 in
set_option maxRecDepth 10000 in
theorem compare_event (e f : Ev) : ACalls Tryz.prog 30 [evV e, evV f] [] (fun r h => r = int .i64 (cmpE e f) ∧ h = []) := by
  have h1 := compareS_prog e.path f.path
  have h2 := compare_prog e.r e.q f.r f.q
  have h3 := or_prog (cmpS e.path f.path) (cmpD e.r e.q f.r f.q)
  have hE : cmpE e f = if cmpS e.path f.path = 0 then cmpD e.r e.q f.r f.q else cmpS e.path f.path := rfl
  rw [← hE] at h3
  generalize cmpE e f = E at *
  generalize cmpS e.path f.path = A at *
  generalize cmpD e.r e.q f.r f.q = B at *
  refine rcalls Tryz.func30 rfl (by decide) ?_
  refine .inr ⟨12, by decide +kernel, ?_⟩
  refine ⟨_, rfl, ?_⟩
  refine ⟨_, rfl, ?_⟩
  refine ⟨_, rfl, ?_⟩
  refine ⟨_, rfl, ?_⟩
  refine ⟨_, ⟨[], _, h1, by rintro r h ⟨rfl, rfl⟩; exact ⟨.inl rfl, rfl, rfl⟩⟩, ?_⟩
  refine ⟨_, rfl, ?_⟩
  refine ⟨_, rfl, ?_⟩
  refine ⟨_, rfl, ?_⟩
  refine ⟨_, rfl, ?_⟩
  refine ⟨_, ⟨[], _, dfree rfl rfl, dfree rfl rfl, h2.args ⟨vdot rfl rfl, vdot rfl rfl, trivial⟩, by rintro r h ⟨rfl, rfl⟩; exact ⟨.inl rfl, rfl, rfl⟩⟩, ?_⟩
  refine ⟨_, rfl, ?_⟩
  refine ⟨_, ⟨[], _, h3, by rintro r h ⟨rfl, rfl⟩; exact ⟨.inl rfl, rfl, rfl⟩⟩, ?_⟩
  exact ⟨[], [], _, lehN _, leI rfl, rfl, rfl⟩

set_option maxHeartbeats 1000000 in
set_option maxRecDepth 10000 in
theorem compare_eref (e f : Ev) : ACalls Tryz.prog 33 [evV e, evV f] [] (fun r h => r = int .i64 (cmpE e f) ∧ h = []) := by
  have h2 := compare_ref e.r e.q f.r f.q
  have hE : cmpE e f = if cmpS e.path f.path = 0 then cmpD e.r e.q f.r f.q else cmpS e.path f.path := rfl
  generalize cmpE e f = E at *
  refine rcalls Tryz.func33 rfl (by decide) ?_
  refine ⟨fun c => ?_, fun c => ⟨fun g => ?_, fun g => ?_⟩⟩
  · refine ⟨[], [], _, lehN _, leI ?_, rfl, rfl⟩
    have c : ltS e.path f.path = true := c
    have : cmpS e.path f.path = -1 := if_pos c
    rw [hE, this]; rfl
  · refine ⟨[], [], _, lehN _, leI ?_, rfl, rfl⟩
    have c : ltS e.path f.path = false := c
    have g : (!(ltS e.path f.path || decide (e.path = f.path))) = true := g
    rw [c] at g
    have hne : ¬ e.path = f.path := fun h => by rw [decide_eq_true h] at g; cases g
    have : cmpS e.path f.path = 1 := by unfold cmpS; rw [if_neg (by rw [c]; decide), if_neg hne]
    rw [hE, this]; rfl
  · have c : ltS e.path f.path = false := c
    have g : (!(ltS e.path f.path || decide (e.path = f.path))) = false := g
    rw [c] at g
    have he : e.path = f.path := Classical.byContradiction fun h => by rw [decide_eq_false h] at g; cases g
    have : cmpS e.path f.path = 0 := by unfold cmpS; rw [if_neg (by rw [c]; decide), if_pos he]
    rw [this, if_pos rfl] at hE
    refine ⟨[], _, dfree rfl rfl, dfree rfl rfl, h2.args ⟨vdot rfl rfl, vdot rfl rfl, trivial⟩, ?_⟩
    rintro r hh ⟨rfl, rfl⟩
    refine ⟨.inl rfl, ?_⟩
    exact ⟨[], [], _, lehN _, leI hE.symm, rfl, rfl⟩

end
end Go.Proofs.YthckagkciefliaaGreatDoor.Ev

/-
  Events: whether two are the same.
-/
set_option linter.unusedVariables false
set_option linter.unusedSectionVars false
namespace Go.Proofs.YthckagkciefliaaGreatDoor.Ev
open Go AL Spl Hx Dt Vc Pa

def sameE (e f : Ev) : Prop := (e.r = f.r ∧ e.q = f.q) ∧ e.deps = f.deps ∧ e.kind = f.kind ∧ e.path = f.path ∧ e.sum = f.sum ∧ e.size = f.size
instance (e f : Ev) : Decidable (sameE e f) := by unfold sameE; infer_instance

section
variable [Globs]

set_option maxHeartbeats 2000000 in
set_option maxRecDepth 10000 in
theorem same_event (e f : Ev) (he : Fit e) (hf : Fit f) : ACalls Tryz.prog 29 [evV e, evV f] [] (fun r h => r = bool (decide (sameE e f)) ∧ h = []) := by
  have hd := equal_prog e.deps f.deps he.deps hf.deps
  obtain ⟨Z, hZ⟩ : ∃ Z, decide (sameE e f) = Z := ⟨_, rfl⟩
  rw [hZ]
  have hiff : sameE e f ↔ (e.r = f.r ∧ e.q = f.q) ∧ e.deps = f.deps ∧ e.kind = f.kind ∧ e.path = f.path ∧ e.sum = f.sum ∧ e.size = f.size := Iff.rfl
  have hno : ¬ sameE e f → Z = false := fun h => by rw [← hZ]; exact decide_eq_false h
  refine rcalls Tryz.func29 rfl (by decide) ?_
  refine ⟨⟨by decide +kernel, by decide +kernel, by decide +kernel⟩, fun c1 => ?_, fun c1 => ?_⟩
  · have g1 : e.r = f.r ∧ e.q = f.q := by simpa [leafEq] using c1
    refine ⟨[], _, hd, ?_⟩
    rintro r hh ⟨rfl, rfl⟩
    refine ⟨.inl rfl, ?_⟩
    refine ⟨fun c2 => ⟨fun c3 => ⟨fun c4 => ⟨rfl, rfl, fun c5 => ?_, fun c5 => ?_⟩, fun c4 => ?_⟩, fun c3 => ?_⟩, fun c2 => ?_⟩
    · have hs : (List.range 32).map (fun i => e.sum.getD i 0) = (List.range 32).map (fun i => f.sum.getD i 0) := yes c5
      rw [tab32 he.sum, tab32 hf.sum] at hs
      refine ⟨[], [], _, lehN _, leB ?_, rfl, rfl⟩
      rw [← hZ]
      exact decide_eq_decide.2 ⟨fun h => hiff.2 ⟨g1, yes c2, yes c3, yes c4, hs, h⟩, fun h => (hiff.1 h).2.2.2.2.2⟩
    · have hs : ¬ (List.range 32).map (fun i => e.sum.getD i 0) = (List.range 32).map (fun i => f.sum.getD i 0) := no c5
      rw [tab32 he.sum, tab32 hf.sum] at hs
      exact ⟨[], [], _, lehN _, leFB (hno fun h => hs (hiff.1 h).2.2.2.2.1), rfl, rfl⟩
    · exact ⟨[], [], _, lehN _, leFB (hno fun h => no c4 (hiff.1 h).2.2.2.1), rfl, rfl⟩
    · exact ⟨[], [], _, lehN _, leFB (hno fun h => no c3 (hiff.1 h).2.2.1), rfl, rfl⟩
    · exact ⟨[], [], _, lehN _, leFB (hno fun h => no c2 (hiff.1 h).2.1), rfl, rfl⟩
  · exact ⟨[], [], _, lehN _, leFB (hno fun h => by
      obtain ⟨h1, h2⟩ := (hiff.1 h).1
      have : e.r = f.r → e.q = f.q → False := by simpa [leafEq] using c1
      exact this h1 h2), rfl, rfl⟩

set_option maxHeartbeats 2000000 in
set_option maxRecDepth 10000 in
theorem same_eref (e f : Ev) (he : Fit e) (hf : Fit f) : ACalls Tryz.prog 24 [evV e, evV f] [] (fun r h => r = bool (decide (sameE e f)) ∧ h = []) := by
  have hd := equal_ref e.deps f.deps he.deps hf.deps
  obtain ⟨Z, hZ⟩ : ∃ Z, decide (sameE e f) = Z := ⟨_, rfl⟩
  rw [hZ]
  have hiff : sameE e f ↔ (e.r = f.r ∧ e.q = f.q) ∧ e.deps = f.deps ∧ e.kind = f.kind ∧ e.path = f.path ∧ e.sum = f.sum ∧ e.size = f.size := Iff.rfl
  have hno : ¬ sameE e f → Z = false := fun h => by rw [← hZ]; exact decide_eq_false h
  refine rcalls Tryz.func24 rfl (by decide) ?_
  refine ⟨⟨by decide +kernel, by decide +kernel, by decide +kernel⟩, fun c1 => ?_, fun c1 => ?_⟩
  · have g1 : e.r = f.r ∧ e.q = f.q := by simpa [leafEq] using c1
    refine ⟨[], _, hd, ?_⟩
    rintro r hh ⟨rfl, rfl⟩
    refine ⟨.inl rfl, ?_⟩
    refine ⟨fun c2 => ⟨fun c3 => ⟨fun c4 => ⟨rfl, rfl, fun c5 => ?_, fun c5 => ?_⟩, fun c4 => ?_⟩, fun c3 => ?_⟩, fun c2 => ?_⟩
    · have hs : (List.range 32).map (fun i => e.sum.getD i 0) = (List.range 32).map (fun i => f.sum.getD i 0) := yes c5
      rw [tab32 he.sum, tab32 hf.sum] at hs
      refine ⟨[], [], _, lehN _, leB ?_, rfl, rfl⟩
      rw [← hZ]
      exact decide_eq_decide.2 ⟨fun h => hiff.2 ⟨g1, yes c2, yes c3, yes c4, hs, h⟩, fun h => (hiff.1 h).2.2.2.2.2⟩
    · have hs : ¬ (List.range 32).map (fun i => e.sum.getD i 0) = (List.range 32).map (fun i => f.sum.getD i 0) := no c5
      rw [tab32 he.sum, tab32 hf.sum] at hs
      exact ⟨[], [], _, lehN _, leFB (hno fun h => hs (hiff.1 h).2.2.2.2.1), rfl, rfl⟩
    · exact ⟨[], [], _, lehN _, leFB (hno fun h => no c4 (hiff.1 h).2.2.2.1), rfl, rfl⟩
    · exact ⟨[], [], _, lehN _, leFB (hno fun h => no c3 (hiff.1 h).2.2.1), rfl, rfl⟩
    · exact ⟨[], [], _, lehN _, leFB (hno fun h => no c2 (hiff.1 h).2.1), rfl, rfl⟩
  · exact ⟨[], [], _, lehN _, leFB (hno fun h => by
      obtain ⟨h1, h2⟩ := (hiff.1 h).1
      have : e.r = f.r → e.q = f.q → False := by simpa [leafEq] using c1
      exact this h1 h2), rfl, rfl⟩

end
end Go.Proofs.YthckagkciefliaaGreatDoor.Ev

/-
  Matrices, in plain Lean: lists of vectors. No program in sight.
-/
set_option linter.unusedVariables false
namespace Go.Proofs.YthckagkciefliaaGreatDoor.Mt
open Go AL Hx Dt Spl Vc

abbrev Vc1 := List (Int × Int)
/-- A row of a matrix. -/
def rowM (m : List Vc1) (i : Nat) : Vc1 := m.getD i []
theorem row_lt {m : List Vc1} {i : Nat} (h : i < m.length) : rowM m i = m[i] := by
  unfold rowM; rw [List.getD_eq_getElem?_getD, List.getElem?_eq_getElem h]; rfl
theorem row_ge {m : List Vc1} {i : Nat} (h : m.length ≤ i) : rowM m i = [] := by
  unfold rowM; rw [List.getD_eq_getElem?_getD, List.getElem?_eq_none h]; rfl
theorem row_mem {m : List Vc1} {i : Nat} (h : i < m.length) : rowM m i ∈ m := by rw [row_lt h]; exact List.getElem_mem _
theorem row_ext {a b : List Vc1} (hl : a.length = b.length) (h : ∀ i, i < a.length → rowM a i = rowM b i) : a = b := by
  apply List.ext_getElem hl
  intro i h1 h2
  rw [← row_lt h1, ← row_lt h2]
  exact h i h1
theorem row_set {m : List Vc1} {k i : Nat} {v : Vc1} (hk : k < m.length) : rowM (m.set k v) i = if i = k then v else rowM m i := by
  unfold rowM
  rw [List.getD_eq_getElem?_getD, List.getElem?_set]
  by_cases h : i = k
  · subst h; simp [hk]
  · rw [if_neg (Ne.symm h), if_neg h, List.getD_eq_getElem?_getD]
def mapM (n : Nat) (f : Nat → Vc1) : List Vc1 := (List.range n).map f
theorem mapM_len (n : Nat) (f : Nat → Vc1) : (mapM n f).length = n := by simp [mapM]
theorem mapM_row {n : Nat} {f : Nat → Vc1} {i : Nat} (h : i < n) : rowM (mapM n f) i = f i := by
  unfold rowM mapM
  rw [List.getD_eq_getElem?_getD, List.getElem?_map, List.getElem?_range h]
  rfl

/-- May a vector be? -/
def mayV (l : Vc1) : Prop := l = ofF (cntF l)
instance (l : Vc1) : Decidable (mayV l) := by unfold mayV; exact inferInstance
def mayM (m : List Vc1) (n : Int) : Prop := 1 ≤ n ∧ n ≤ 32 ∧ (m.length : Int) = n ∧ ∀ i, i < m.length → mayV (rowM m i)
instance (m : List Vc1) (n : Int) : Decidable (mayM m n) := by unfold mayM; exact inferInstance
theorem mayV_of {g : Nat → Int} (hg : okF g) : mayV (ofF g) := by unfold mayV; rw [cnt_of hg]
theorem mayV_eq {a b : Vc1} (ha : mayV a) (hb : mayV b) (h : cntF a = cntF b) : a = b := by
  unfold mayV at ha hb; rw [ha, hb, h]
/-- What both know. -/
def joinV (a b : Vc1) : Vc1 := ofF (maxF (cntF a) (cntF b))
def meetV (a b : Vc1) : Vc1 := ofF (minF (cntF a) (cntF b))
theorem joinV_cnt (a b : Vc1) : cntF (joinV a b) = maxF (cntF a) (cntF b) := cnt_of (max_ok (cnt_ok a) (cnt_ok b))
theorem meetV_cnt (a b : Vc1) : cntF (meetV a b) = minF (cntF a) (cntF b) := cnt_of (min_ok (cnt_ok a) (cnt_ok b))
theorem joinV_may (a b : Vc1) : mayV (joinV a b) := mayV_of (max_ok (cnt_ok a) (cnt_ok b))
theorem meetV_may (a b : Vc1) : mayV (meetV a b) := mayV_of (min_ok (cnt_ok a) (cnt_ok b))
theorem of_le (g : Nat → Int) : (ofF g).length ≤ 9223372036854775807 := by have := ofK_len g 32; show (ofK g 32).length ≤ _; omega
/-- A row is raised. -/
def raiseM (m : List Vc1) (n : Int) (v : Vc1) : List Vc1 := if 0 ≤ n ∧ n < m.length then m.set n.toNat (joinV (rowM m n.toNat) v) else m
theorem raise_len (m : List Vc1) (n : Int) (v : Vc1) : (raiseM m n v).length = m.length := by unfold raiseM; split <;> simp
theorem raise_row (m : List Vc1) (n : Int) (v : Vc1) (i : Nat) : rowM (raiseM m n v) i = if 0 ≤ n ∧ n < m.length ∧ i = n.toNat then joinV (rowM m i) v else rowM m i := by
  unfold raiseM
  split
  · rename_i h
    rw [row_set (by omega)]
    by_cases hi : i = n.toNat
    · rw [if_pos hi, if_pos ⟨h.1, h.2, hi⟩, hi]
    · rw [if_neg hi, if_neg fun c => hi c.2.2]
  · rename_i h
    rw [if_neg fun c => h ⟨c.1, c.2.1⟩]
/-- What all are known to know. -/
def lowS (m : List Vc1) : Nat → Vc1
  | 0 => meetV (rowM m 0) (rowM m 0)
  | k + 1 => meetV (lowS m k) (rowM m (k + 1))
def lowM (m : List Vc1) : Vc1 := if m = [] then [] else lowS m (m.length - 1)
theorem lowS_len (m : List Vc1) (k : Nat) : (lowS m k).length ≤ 9223372036854775807 := by cases k <;> exact of_le _
theorem lowS_le (m : List Vc1) : ∀ (k i r : Nat), i ≤ k → cntF (lowS m k) r ≤ cntF (rowM m i) r
  | 0, i, r, h => by
    obtain rfl : i = 0 := by omega
    show cntF (meetV _ _) r ≤ _
    rw [meetV_cnt]; simp only [minF]; omega
  | k + 1, i, r, h => by
    show cntF (meetV _ _) r ≤ _
    rw [meetV_cnt]
    simp only [minF]
    rcases Nat.lt_or_ge i (k + 1) with h1 | h1
    · have := lowS_le m k i r (by omega)
      omega
    · obtain rfl : i = k + 1 := by omega
      omega
theorem lowS_ge (m : List Vc1) (r : Nat) (x : Int) : ∀ (k : Nat), (∀ i, i ≤ k → x ≤ cntF (rowM m i) r) → x ≤ cntF (lowS m k) r
  | 0, h => by
    show _ ≤ cntF (meetV _ _) r
    rw [meetV_cnt]
    have := h 0 (by omega)
    simp only [minF]; omega
  | k + 1, h => by
    show _ ≤ cntF (meetV _ _) r
    rw [meetV_cnt]
    have h1 := lowS_ge m r x k fun i hi => h i (by omega)
    have h2 := h (k + 1) (by omega)
    simp only [minF]; omega
def joinM (a b : List Vc1) : List Vc1 := mapM (max a.length b.length) fun i => if b.length ≤ i then rowM a i else if a.length ≤ i then rowM b i else joinV (rowM a i) (rowM b i)
/-- A matrix's text. -/
def textR (l : Vc1) : ByteArray := textV (ofF (cntF l))
def rowsT (m : List Vc1) : List ByteArray := m.map textR
def textM (m : List Vc1) : ByteArray := ba (joinC 59 ((rowsT m).map (·.data.toList)))
theorem rowsT_len (m : List Vc1) : (rowsT m).length = m.length := by simp [rowsT]

/-- A text's matrix. -/
noncomputable def vecsOf (s : ByteArray) : List Vc1 := (pieces 59 s.data.toList).map fun p => parseVL (ba p)
def okRows (s : ByteArray) : Prop := ∀ p ∈ pieces 59 s.data.toList, okVec (ba p)
def okMat (s : ByteArray) (n : Int) : Prop := okRows s ∧ mayM (vecsOf s) n
open Classical in
noncomputable def parseME (s : ByteArray) (n : Int) : Int := if okMat s n then 0 else 2
open Classical in
noncomputable def parseML (s : ByteArray) (n : Int) : List Vc1 := if okMat s n then vecsOf s else []
theorem parseM_ok {s : ByteArray} {n : Int} (h : okMat s n) : parseME s n = 0 ∧ parseML s n = vecsOf s := by
  unfold parseME parseML; rw [if_pos h, if_pos h]; exact ⟨rfl, rfl⟩
theorem parseM_bad {s : ByteArray} {n : Int} (h : ¬ okMat s n) : parseME s n = 2 ∧ parseML s n = [] := by
  unfold parseME parseML; rw [if_neg h, if_neg h]; exact ⟨rfl, rfl⟩

theorem text_no59 (r q : Int) : ∀ c ∈ (textD r q).data.toList, c ≠ 59 := by
  have num : ∀ n : Int, ∀ c ∈ (numS n).data.toList, c ≠ 59 := by
    intro n c hc
    by_cases h : 0 ≤ n
    · have := num_digits h c hc
      rintro rfl
      exact absurd this.2 (by decide)
    · rw [numS_list] at hc
      unfold Lib.itoa at hc
      rw [if_pos (by omega)] at hc
      rcases List.mem_cons.1 hc with rfl | hc
      · decide
      · have := dec_digit _ c hc
        rintro rfl
        exact absurd this.2 (by decide)
  intro c hc
  rw [text_list] at hc
  rcases List.mem_append.1 hc with h | h
  · exact num r c h
  · rcases List.mem_cons.1 h with rfl | h
    · decide
    · exact num q c h
theorem mem_join {c : UInt8} {x : UInt8} : ∀ {ps : List (List UInt8)}, x ∈ joinC c ps → x = c ∨ ∃ p ∈ ps, x ∈ p
  | [], h => by simp [joinC] at h
  | p :: r, h => by
    unfold joinC at h
    rcases List.mem_append.1 h with h | h
    · exact .inr ⟨p, by simp, h⟩
    · obtain ⟨q, hq, h⟩ := List.mem_flatMap.1 h
      rcases List.mem_cons.1 h with h | h
      · exact .inl h
      · exact .inr ⟨q, by simp [hq], h⟩
theorem textV_no59 (l : Vc1) : ∀ c ∈ (textV l).data.toList, c ≠ 59 := by
  intro c hc
  by_cases h : l = []
  · unfold textV at hc
    rw [if_pos h] at hc
    have : c = 45 := by simpa [dash] using hc
    rw [this]; decide
  · rw [textV_ne h, ba_list] at hc
    rcases mem_join hc with rfl | ⟨p, hp, hx⟩
    · decide
    · obtain ⟨d, _, rfl⟩ := List.mem_map.1 hp
      exact text_no59 _ _ c hx
theorem rowsT_free (m : List Vc1) : ∀ p ∈ (rowsT m).map (·.data.toList), ∀ x ∈ p, x ≠ 59 := by
  intro p hp x hx
  obtain ⟨t, ht, rfl⟩ := List.mem_map.1 hp
  obtain ⟨l, _, rfl⟩ := List.mem_map.1 ht
  exact textV_no59 _ x hx
theorem textM_pieces {m : List Vc1} (h : m ≠ []) : pieces 59 (textM m).data.toList = (rowsT m).map (·.data.toList) := by
  unfold textM
  rw [ba_list, pieces_join (by simpa [rowsT] using h) (rowsT_free m)]
theorem vecsOf_len (s : ByteArray) : (vecsOf s).length = (pieces 59 s.data.toList).length := by simp [vecsOf]
theorem vecsOf_ne (s : ByteArray) : vecsOf s ≠ [] := fun h => pieces_ne 59 _ (List.map_eq_nil_iff.1 h)
/-- A matrix that may be is parsed as it was. -/
theorem matText_back {m : List Vc1} {n : Int} (h : mayM m n) : okMat (textM m) n ∧ vecsOf (textM m) = m := by
  have hne : m ≠ [] := fun e => by subst e; have := h.1; have := h.2.2.1; simp at this; omega
  have hv : vecsOf (textM m) = m := by
    unfold vecsOf
    rw [textM_pieces hne]
    unfold rowsT
    rw [List.map_map, List.map_map]
    conv => rhs; rw [← List.map_id m]
    apply List.map_congr_left
    intro l hl
    show parseVL (ba (textR l).data.toList) = l
    rw [ba_data]
    unfold textR
    rw [(parse_textV (cnt_ok l)).2]
    obtain ⟨i, hi, rfl⟩ := List.getElem_of_mem hl
    have := h.2.2.2 i hi
    rw [row_lt hi] at this
    exact this.symm
  refine ⟨⟨?_, by rw [hv]; exact h⟩, hv⟩
  intro p hp
  rw [textM_pieces hne] at hp
  obtain ⟨t, ht, rfl⟩ := List.mem_map.1 hp
  obtain ⟨l, _, rfl⟩ := List.mem_map.1 ht
  rw [ba_data]
  refine Classical.byContradiction fun hn => ?_
  have := (parseV_bad hn).1
  unfold textR at this
  rw [(parse_textV (cnt_ok l)).1] at this
  cases this
/-- What is parsed may be, and has the very text. -/
theorem parseM_back {s : ByteArray} {n : Int} (h : okMat s n) : mayM (vecsOf s) n ∧ textM (vecsOf s) = s := by
  refine ⟨h.2, ?_⟩
  unfold textM rowsT vecsOf
  rw [List.map_map, List.map_map]
  have : (pieces 59 s.data.toList).map (((fun x : ByteArray => x.data.toList) ∘ textR) ∘ fun p => parseVL (ba p)) = pieces 59 s.data.toList := by
    conv => rhs; rw [← List.map_id (pieces 59 s.data.toList)]
    apply List.map_congr_left
    intro p hp
    show (textR (parseVL (ba p))).data.toList = p
    unfold textR
    rw [(parseV_back (h.1 p hp)).2, ba_list]
  rw [this, join_pieces, ba_data]

end Go.Proofs.YthckagkciefliaaGreatDoor.Mt

/-
  The contracts of matrices: cloned rows, rows that are turned, raised, joined, what all know.
-/
set_option linter.unusedVariables false
set_option linter.unusedSectionVars false
namespace Go.Proofs.YthckagkciefliaaGreatDoor.Mt
open Go AL Hx Dt Spl Vc

section
variable [Globs]
/-- A matrix, as it may be read. -/
abbrev matV (m : List Vc1) : AV := .ro m.length 1 fun i => vecV (rowM m i)
theorem giveMat {h : List AO} {l : List Nat} {id len n : Nat} {f : Nat → AV} {M : List Vc1} (e : h[id]? = some (.row n f)) (hl : id ∉ l) (hn : M.length ≤ n) (he : len = M.length) (hf : ∀ i, i < M.length → f i = vecV (rowM M i)) :
    LeV h l (.own id 0 len 1) (matV M) := by
  subst he
  exact .giveR _ e hl (by omega) (fun i hi => by rw [Nat.zero_add, hf i (by omega)]; exact .same _ trivial) fun i hi => trivial
theorem giveVec' {h : List AO} {l : List Nat} {id len n : Nat} {f : Nat → AV} {b : Vc1} (e : h[id]? = some (.row n f)) (hl : id ∉ l) (hn : b.length * 2 ≤ n) (he : len = b.length) (hf : ∀ i, i < b.length * 2 → f i = int .i64 (cellD b i)) :
    LeV h l (.own id 0 len 2) (vecV b) := by
  subst he
  exact .giveR _ e hl (by omega) (fun i hi => by rw [Nat.zero_add, hf i (by omega)]; exact leI rfl) fun i hi => trivial
theorem vmat {n : Nat} {f : Nat → AV} {m : List Vc1} (hn : n = m.length) (hf : ∀ i, i < m.length → f i = vecV (rowM m i)) : VLe (.ro n 1 f) (matV m) := by
  subst hn
  exact vro fun i hi => hf i (by omega)

set_option maxHeartbeats 2000000 in
set_option maxRecDepth 10000 in
theorem clone_vec (l : Vc1) (hl : l.length ≤ 1099511627776) : ACalls Tryz.prog 46 [vecV l] [] (fun r h => r = vecV l ∧ h = []) := by
  refine rcalls Tryz.func46 rfl (by decide) ?_
  refine ⟨fun h0 => ?_, ?_⟩
  · have : l = [] := List.eq_nil_of_length_eq_zero (by omega)
    subst this
    exact ⟨[], [], _, lehN _, .nilR 2 _, rfl, rfl⟩
  refine ⟨rfl, fun i hi => absurd hi (Nat.not_lt_zero _), by show (0 + l.length) * 16 ≤ _; omega, fun i hi => rfl, fun i => int .i64 (cellD l i), fun i hi => absurd hi (Nat.not_lt_zero _), fun i hi => by show int .i64 (cellD l (0 + i)) = int .i64 (cellD l i); rw [Nat.zero_add], ?_⟩
  exact ⟨[], [], _, lehN _, giveVec' (n := (0 + l.length) * 2) rfl (by simp) (by omega) (by omega) (fun i hi => rfl), rfl, rfl⟩


set_option maxHeartbeats 2000000 in
set_option maxRecDepth 10000 in
theorem turned_vec (m : List Vc1) (F : FuncId) (ρ : Nat → Vc1) (hm : m.length ≤ 1099511627776)
    (hF : ∀ k : Nat, k < m.length → ACalls Tryz.prog F [int .i64 k, vecV (rowM m ((k : Int).toNat * 1 + 0))] [] (fun r h => r = vecV (ρ k) ∧ h = [])) :
    ACalls Tryz.prog 44 [matV m, .raw (.func (.func F) #[] #[])] [] (fun r h => r = .own 0 0 m.length 1 ∧ h = [.row (m.length * 1) fun i => vecV (ρ i)]) := by
  refine rcalls Tryz.func44 rfl (by decide) ?_
  refine ⟨Nat, fun k => [(1, .raw (.func (.func F) #[] #[])), (5, .own 0 0 k 1), (8, matV m), (9, int .i64 m.length), (10, int .i64 k)], fun k => [.row (k * 1) fun i => vecV (ρ i)], fun k => k ≤ m.length, fun k => m.length - k,
    ⟨0, [0], Nat.zero_le _, lehR (Nat.le_refl _) _, ⟨.raw _, .nil _ _ (by decide), .same _ trivial, leI rfl, leI rfl, trivial⟩⟩, ?_⟩
  intro k hk
  have hk : k ≤ m.length := hk
  refine ⟨fun c => ?_, fun c => ?_⟩
  · have f1 : (k : Int) < m.length := yes c
    have e1 : IntKind.i64.wrap ((k : Int) + 1) = ((k + 1 : Nat) : Int) := by rw [w64 (by omega) (by omega)]; omega
    have hFk := hF k (by omega)
    refine ⟨⟨by omega, f1⟩, ?_⟩
    refine ⟨[], _, hFk, ?_⟩
    rintro r hh ⟨rfl, rfl⟩
    refine ⟨.inl rfl, ?_⟩
    refine ⟨rfl, fun i _ => rfl, Nat.le_refl 1, by show (k + 1) * 24 ≤ _; omega, fun i hi => ?_, fun i => vecV (ρ i), fun i hi => rfl, fun i hi => ?_, ?_⟩
    · obtain rfl : i = 0 := by omega
      rfl
    · obtain rfl : i = 0 := by omega
      show vecV (ρ (k * 1 + 0)) = vecV (ρ k)
      rw [show k * 1 + 0 = k by omega]
    exact ⟨trivial, k + 1, [2], by show k + 1 ≤ m.length; omega, by show m.length - (k + 1) < m.length - k; omega, leh1 rfl (.row _ _ _ _ (Nat.le_refl _) fun i hi => .same _ trivial), ⟨.raw _, leOwn rfl rfl rfl, .same _ trivial, leI rfl, leI e1, trivial⟩⟩
  · have f1 : ¬ (k : Int) < m.length := no c
    obtain rfl : k = m.length := by omega
    exact ⟨[0], _, _, leh1 rfl (.row _ _ _ _ (Nat.le_refl _) fun i hi => .same _ trivial), leOwn rfl rfl rfl, rfl, rfl⟩

/-- A function value over one thing that is only read. -/
abbrev clo1 (F : FuncId) (x : AV) : AV := .clo (.func F) 1 fun i => [x].getD i .top
theorem clo_free (F : FuncId) (n : Nat) (f : Nat → AV) : (clo1 F (.rp n f)).free := fun i hi => by
  obtain rfl : i = 0 := by omega
  exact trivial
set_option maxHeartbeats 2000000 in
set_option maxRecDepth 10000 in
theorem turned_clo (m : List Vc1) (F : FuncId) (b : List Vc1) (ρ : Nat → Vc1) (hm : m.length ≤ 1099511627776)
    (hF : ∀ k : Nat, k < m.length → ACalls Tryz.prog F [int .i64 k, vecV (rowM m ((k : Int).toNat * 1 + 0)), .rp 1 fun _ => matV b] [] (fun r h => r = vecV (ρ k) ∧ h = [])) :
    ACalls Tryz.prog 44 [matV m, clo1 F (.rp 1 fun _ => matV b)] [] (fun r h => r = .own 0 0 m.length 1 ∧ h = [.row (m.length * 1) fun i => vecV (ρ i)]) := by
  refine rcalls Tryz.func44 rfl (by decide) ?_
  refine ⟨Nat, fun k => [(1, clo1 F (.rp 1 fun _ => matV b)), (5, .own 0 0 k 1), (8, matV m), (9, int .i64 m.length), (10, int .i64 k)], fun k => [.row (k * 1) fun i => vecV (ρ i)], fun k => k ≤ m.length, fun k => m.length - k,
    ⟨0, [0], Nat.zero_le _, lehR (Nat.le_refl _) _, ⟨.same _ (clo_free _ _ _), .nil _ _ (by decide), .same _ trivial, leI rfl, leI rfl, trivial⟩⟩, ?_⟩
  intro k hk
  have hk : k ≤ m.length := hk
  refine ⟨fun c => ?_, fun c => ?_⟩
  · have f1 : (k : Int) < m.length := yes c
    have e1 : IntKind.i64.wrap ((k : Int) + 1) = ((k + 1 : Nat) : Int) := by rw [w64 (by omega) (by omega)]; omega
    have hFk := hF k (by omega)
    refine ⟨⟨by omega, f1⟩, ?_⟩
    refine ⟨[], _, hFk, ?_⟩
    rintro r hh ⟨rfl, rfl⟩
    refine ⟨.inl rfl, ?_⟩
    refine ⟨rfl, fun i _ => rfl, Nat.le_refl 1, by show (k + 1) * 24 ≤ _; omega, fun i hi => ?_, fun i => vecV (ρ i), fun i hi => rfl, fun i hi => ?_, ?_⟩
    · obtain rfl : i = 0 := by omega
      rfl
    · obtain rfl : i = 0 := by omega
      show vecV (ρ (k * 1 + 0)) = vecV (ρ k)
      rw [show k * 1 + 0 = k by omega]
    exact ⟨trivial, k + 1, [2], by show k + 1 ≤ m.length; omega, by show m.length - (k + 1) < m.length - k; omega, leh1 rfl (.row _ _ _ _ (Nat.le_refl _) fun i hi => .same _ trivial), ⟨.same _ (clo_free _ _ _), leOwn rfl rfl rfl, .same _ trivial, leI rfl, leI e1, trivial⟩⟩
  · have f1 : ¬ (k : Int) < m.length := no c
    obtain rfl : k = m.length := by omega
    exact ⟨[0], _, _, leh1 rfl (.row _ _ _ _ (Nat.le_refl _) fun i hi => .same _ trivial), leOwn rfl rfl rfl, rfl, rfl⟩

set_option maxHeartbeats 2000000 in
set_option maxRecDepth 10000 in
theorem ownRule (k : Nat) (l : Vc1) (hl : l.length ≤ 1099511627776) : ACalls Tryz.prog 113 [int .i64 k, vecV l] [] (fun r h => r = vecV l ∧ h = []) := by
  refine rcalls Tryz.func113 rfl (by decide) ?_
  refine ⟨[], _, clone_vec l hl, ?_⟩
  rintro r hh ⟨rfl, rfl⟩
  refine ⟨.inl rfl, ?_⟩
  exact ⟨[], [], _, lehN _, .same _ trivial, rfl, rfl⟩

/-- Are a matrix's rows, and it, of a size that a machine may have? -/
def szM (m : List Vc1) : Prop := m.length ≤ 1099511627776 ∧ ∀ i, i < m.length → (rowM m i).length ≤ 1099511627776

set_option maxHeartbeats 2000000 in
set_option maxRecDepth 10000 in
theorem own_prog (m : List Vc1) (hm : szM m) : ACalls Tryz.prog 84 [matV m] [] (fun r h => r = .own 0 0 m.length 1 ∧ h = [.row (m.length * 1) fun i => vecV (rowM m i)]) := by
  have ht := turned_vec m 113 (rowM m) hm.1 fun k hk => by
    have := ownRule k (rowM m k) (hm.2 k hk)
    rwa [show (k : Int).toNat * 1 + 0 = k by omega]
  refine rcalls Tryz.func84 rfl (by decide) ?_
  refine ⟨[], _, ht, ?_⟩
  rintro r hh ⟨rfl, rfl⟩
  refine ⟨.inl rfl, ?_⟩
  exact ⟨[0], _, _, leh1 rfl (.row _ _ _ _ (Nat.le_refl _) fun i hi => .same _ trivial), leOwn rfl rfl rfl, rfl, rfl⟩

set_option maxHeartbeats 2000000 in
set_option maxRecDepth 10000 in
theorem raise_prog (m : List Vc1) (n : Int) (v : Vc1) (hm : szM m) (hv : v.length ≤ 9223372036854775807) : ACalls Tryz.prog 34 [matV m, int .i64 n, vecV v] [] (fun r h => r = matV (raiseM m n v) ∧ h = []) := by
  have hl := raise_len m n v
  have hr := raise_row m n v
  have ho := own_prog m hm
  generalize raiseM m n v = R at *
  refine rcalls Tryz.func34 rfl (by decide) ?_
  refine ⟨[], _, ho, ?_⟩
  rintro r hh ⟨rfl, rfl⟩
  refine ⟨.inl rfl, ?_⟩
  refine ⟨fun c1 => ⟨fun c2 => ?_, fun c2 => ?_⟩, fun c1 => ?_⟩
  · have f1 : 0 ≤ n := yes c1
    have f2 : n < (m.length : Int) := yes c2
    have hoff : addOff 0 n.toNat 1 = n.toNat := by simp [addOff]
    have hj := join_prog (rowM m (addOff 0 n.toNat 1)) v (by rw [hoff]; have := hm.2 n.toNat (by omega); omega) (by omega)
    refine ⟨⟨f1, f2⟩, ?_⟩
    refine ⟨by rw [hoff]; omega, ?_⟩
    refine ⟨[], _, hj, ?_⟩
    rintro r hh ⟨rfl, rfl⟩
    refine ⟨.inl rfl, ?_⟩
    refine ⟨⟨f1, f2⟩, ?_⟩
    refine ⟨by rw [hoff]; omega, fun i => vecV (rowM R i), fun i hi => ?_, ?_⟩
    · show vecV (rowM R i) = if i = addOff 0 n.toNat 1 then _ else vecV (rowM m i)
      rw [hr i, hoff]
      by_cases h : i = n.toNat
      · rw [if_pos h, if_pos ⟨f1, f2, h⟩, h]; rfl
      · rw [if_neg h, if_neg fun c => h c.2.2]
    exact ⟨[], [], _, lehN _, giveMat rfl (by simp) (by omega) hl.symm (fun i hi => rfl), rfl, rfl⟩
  · have f2 : ¬ n < (m.length : Int) := no c2
    exact ⟨[], [], _, lehN _, giveMat rfl (by simp) (by omega) hl.symm (fun i hi => by rw [hr i, if_neg (by omega)]; rfl), rfl, rfl⟩
  · have f1 : ¬ 0 ≤ n := no c1
    exact ⟨[], [], _, lehN _, giveMat rfl (by simp) (by omega) hl.symm (fun i hi => by rw [hr i, if_neg (by omega)]; rfl), rfl, rfl⟩

theorem szM_raise {m : List Vc1} (hm : szM m) (n : Int) (v : Vc1) : szM (raiseM m n v) := by
  refine ⟨by rw [raise_len]; exact hm.1, fun i hi => ?_⟩
  rw [raise_row]
  split
  · have := ofK_len (maxF (cntF (rowM m i)) (cntF v)) 32
    show (ofK _ 32).length ≤ _
    omega
  · exact hm.2 i (by rwa [raise_len] at hi)

def newL (n : Int) : List Vc1 := if n < 1 ∨ n > 32 then [] else List.replicate n.toNat []
theorem newL_row (n : Int) (i : Nat) : rowM (newL n) i = [] := by
  unfold newL rowM
  split
  · simp
  · rw [List.getD_eq_getElem?_getD, List.getElem?_replicate]; split <;> rfl
set_option maxHeartbeats 2000000 in
set_option maxRecDepth 10000 in
theorem new_prog (n : Int) : ACalls Tryz.prog 37 [int .i64 n] [] (fun r h => r = matV (newL n) ∧ h = []) := by
  have hrow := newL_row n
  have hl : newL n = if n < 1 ∨ n > 32 then [] else List.replicate n.toNat [] := rfl
  generalize newL n = R at *
  refine rcalls Tryz.func37 rfl (by decide) ?_
  refine ⟨fun c1 => ?_, fun c1 => ⟨fun c2 => ?_, fun c2 => ?_⟩⟩
  · have f1 := yes c1
    rw [if_pos (by omega)] at hl
    subst hl
    exact ⟨[], [], _, lehN _, .nilR 1 _, rfl, rfl⟩
  · have f2 := yes c2
    rw [if_pos (by omega)] at hl
    subst hl
    exact ⟨[], [], _, lehN _, .nilR 1 _, rfl, rfl⟩
  · have f1 := no c1
    have f2 := no c2
    rw [if_neg (by omega)] at hl
    have hlen : R.length = n.toNat := by rw [hl]; simp
    refine ⟨⟨by omega, Int.le_refl _, by omega, by show n * 24 ≤ _; omega⟩, ?_⟩
    refine ⟨[], [], _, lehN _, ?_, rfl, rfl⟩
    rw [← hlen]
    refine .giveR _ rfl (by simp) (by omega) (fun i hi => ?_) fun i hi => trivial
    rw [hrow]
    show LeV _ _ (.raw (#[Value.slice none 0 0][(0 + i) % 1]!)) _
    rw [Nat.mod_one]
    exact .nilR 2 _

set_option maxHeartbeats 2000000 in
set_option maxRecDepth 10000 in
theorem low_prog (m : List Vc1) (hm : szM m) : ACalls Tryz.prog 36 [matV m] [] (fun r h => r = vecV (lowM m) ∧ h = []) := by
  by_cases hne : m = []
  · subst hne
    refine rcalls Tryz.func36 rfl (by decide) ?_
    refine ⟨fun _ => ?_, fun e => absurd rfl (no e)⟩
    exact ⟨[], [], _, lehN _, .nilR 2 _, rfl, rfl⟩
  have hpos : 0 < m.length := List.length_pos_iff.2 hne
  have hL : lowM m = lowS m (m.length - 1) := if_neg hne
  rw [hL]
  have h0 := meet_prog (rowM m (Int.toNat 0 * 1 + 0)) (rowM m (Int.toNat 0 * 1 + 0)) (by have := hm.2 0 hpos; show (rowM m 0).length ≤ _; omega) (by have := hm.2 0 hpos; show (rowM m 0).length ≤ _; omega)
  have e0 : ofF (minF (cntF (rowM m (Int.toNat 0 * 1 + 0))) (cntF (rowM m (Int.toNat 0 * 1 + 0)))) = lowS m 0 := rfl
  rw [e0] at h0
  have hS : ∀ k, k + 1 < m.length → ACalls Tryz.prog 87 [vecV (lowS m k), vecV (rowM m (Int.toNat 1 * 1 + ((k : Int).toNat * 1 + 0)))] [] (fun r h => r = vecV (lowS m (k + 1)) ∧ h = []) := fun k hk => by
    have e : Int.toNat 1 * 1 + ((k : Int).toNat * 1 + 0) = k + 1 := by omega
    rw [e]
    exact meet_prog (lowS m k) (rowM m (k + 1)) (lowS_len m k) (by have := hm.2 (k + 1) hk; omega)
  have hlen : m.length ≤ 1099511627776 := hm.1
  generalize lowS m = S at *
  refine rcalls Tryz.func36 rfl (by decide) ?_
  refine ⟨fun c => absurd (yes c) (by omega), fun _ => ?_⟩
  refine .inr ⟨7, by decide +kernel, ?_⟩
  refine ⟨_, rfl, ?_⟩
  refine ⟨_, ⟨⟨by omega, by omega⟩, rfl⟩, ?_⟩
  refine ⟨_, rfl, ?_⟩
  refine ⟨_, rfl, ?_⟩
  refine ⟨_, ⟨⟨by omega, by omega⟩, rfl⟩, ?_⟩
  refine ⟨_, rfl, ?_⟩
  refine ⟨_, ⟨[], _, h0, by rintro r h ⟨rfl, rfl⟩; exact ⟨.inl rfl, rfl, rfl⟩⟩, ?_⟩
  refine ⟨⟨by omega, by omega⟩, ?_⟩
  refine ⟨Nat, fun k => [(3, vecV (S k)), (17, .ro (m.length - 1) 1 fun i => vecV (rowM m (Int.toNat 1 * 1 + i))), (18, int .i64 ((m.length - 1 : Nat) : Int)), (19, int .i64 k)], fun _ => [], fun k => k + 1 ≤ m.length, fun k => m.length - k,
    ⟨0, [], hpos, lehN _, ⟨.same _ trivial, .same _ trivial, leI rfl, leI rfl, trivial⟩⟩, ?_⟩
  intro k hk
  have hk : k + 1 ≤ m.length := hk
  refine ⟨fun c => ?_, fun c => ?_⟩
  · have f1 : (k : Int) < ((m.length - 1 : Nat) : Int) := yes c
    have e1 : IntKind.i64.wrap ((k : Int) + 1) = ((k + 1 : Nat) : Int) := by rw [w64 (by omega) (by omega)]; omega
    refine ⟨⟨by omega, by omega⟩, ?_⟩
    refine ⟨[], _, hS k (by omega), ?_⟩
    rintro r hh ⟨rfl, rfl⟩
    refine ⟨.inl rfl, ?_⟩
    exact ⟨trivial, k + 1, [], by show k + 1 + 1 ≤ m.length; omega, by show m.length - (k + 1) < m.length - k; omega, lehN _, ⟨.same _ trivial, .same _ trivial, leI rfl, leI e1, trivial⟩⟩
  · have f1 : ¬ (k : Int) < ((m.length - 1 : Nat) : Int) := no c
    obtain rfl : k = m.length - 1 := by omega
    exact ⟨[], [], _, lehN _, .same _ trivial, rfl, rfl⟩

end
end Go.Proofs.YthckagkciefliaaGreatDoor.Mt

/-
  The contracts of matrices: whether one may be, its text, a text's matrix, whether two are the same.
-/
set_option linter.unusedVariables false
set_option linter.unusedSectionVars false
namespace Go.Proofs.YthckagkciefliaaGreatDoor.Mt
open Go AL Hx Dt Spl Vc

def smallP (m : List Vc1) : Prop := m.length ≤ 40 ∧ ∀ i, i < m.length → (rowM m i).length ≤ 60
instance (m : List Vc1) : Decidable (smallP m) := by unfold smallP; exact inferInstance
theorem small_sz {m : List Vc1} (h : smallP m) : szM m := ⟨by have := h.1; omega, fun i hi => by have := h.2 i hi; omega⟩
theorem join_length (c : UInt8) (B : Nat) : ∀ {ps : List (List UInt8)}, (∀ p ∈ ps, p.length ≤ B) → (joinC c ps).length ≤ ps.length * (B + 1)
  | [], _ => by simp [joinC]
  | [p], h => by
    have := h p (by simp)
    simp [joinC]; omega
  | p :: q :: r, h => by
    rw [join_cons, List.length_append, List.length_cons]
    have h1 := h p (by simp)
    have h2 := join_length c B (ps := q :: r) fun x hx => h x (by simp [hx])
    rw [List.length_cons (a := p), Nat.add_mul]
    omega
theorem textR_size (l : Vc1) : (textR l).data.toList.length ≤ 1408 := by
  show (textR l).size ≤ 1408
  unfold textR
  by_cases h : ofF (cntF l) = []
  · rw [h]; decide
  · have := acc_size (of_may (cnt_ok l) 32 (Nat.le_refl _)) _ (Nat.le_refl _)
    rw [acc_all _ h] at this
    have h2 := ofK_len (cntF l) 32
    have : (ofF (cntF l)).length ≤ 32 := h2
    omega
theorem textM_join (m : List Vc1) : (Lib.join ((rowsT m).map (·.data.toList)) [59]) = joinC 59 ((rowsT m).map (·.data.toList)) := lib_join 59 _
theorem textM_size (m : List Vc1) : (joinC 59 ((rowsT m).map (·.data.toList))).length ≤ m.length * 1409 := by
  have := join_length 59 1408 (ps := (rowsT m).map (·.data.toList)) fun p hp => by
    obtain ⟨t, ht, rfl⟩ := List.mem_map.1 hp
    obtain ⟨l, _, rfl⟩ := List.mem_map.1 ht
    exact textR_size l
  simpa [rowsT] using this
theorem rowsT_at {m : List Vc1} {k : Nat} (h : k < m.length) : strAt (rowsT m) k = textR (rowM m k) := by
  unfold strAt rowsT
  rw [List.getD_eq_getElem?_getD, List.getElem?_map, List.getElem?_eq_getElem h, row_lt h]
  rfl

section
variable [Globs]

set_option maxHeartbeats 2000000 in
set_option maxRecDepth 10000 in
theorem small_prog (m : List Vc1) (hm : m.length ≤ 9223372036854775807) : ACalls Tryz.prog 11 [matV m] [] (fun r h => r = bool (decide (smallP m)) ∧ h = []) := by
  refine rcalls Tryz.func11 rfl (by decide) ?_
  refine ⟨Nat, fun k => [(0, matV m), (3, int .i64 k)], fun _ => [], fun k => k ≤ m.length ∧ k ≤ 41 ∧ ∀ i, i < k → (rowM m i).length ≤ 60, fun k => 41 - k,
    ⟨0, [], ⟨by omega, by omega, by omega⟩, lehN _, ⟨.same _ trivial, leI rfl, trivial⟩⟩, ?_⟩
  rintro k ⟨hk, hk2, hs⟩
  refine ⟨fun c => ⟨fun c1 => ?_, fun c1 => ?_⟩, fun c => ?_⟩
  · have f1 : (k : Int) < m.length := yes c
    have f2 : (k : Int) < 41 := yes c1
    have e1 : IntKind.i64.wrap ((k : Int) + 1) = ((k + 1 : Nat) : Int) := by rw [w64 (by omega) (by omega)]; omega
    have hk1 : (k : Int).toNat * 1 + 0 = k := by omega
    refine ⟨⟨by omega, f1⟩, ?_⟩
    refine ⟨fun c2 => ?_, fun c2 => ?_⟩
    · have g : 60 < ((rowM m ((k : Int).toNat * 1 + 0)).length : Int) := yes c2
      rw [hk1] at g
      exact ⟨[], [], _, lehN _, leFP fun h => by have := h.2 k (by omega); omega, rfl, rfl⟩
    · have g : ¬ 60 < ((rowM m ((k : Int).toNat * 1 + 0)).length : Int) := no c2
      rw [hk1] at g
      refine ⟨trivial, k + 1, [], ⟨by omega, by omega, fun i hi => ?_⟩, by show 41 - (k + 1) < 41 - k; omega, lehN _, ⟨.same _ trivial, leI e1, trivial⟩⟩
      rcases Nat.lt_or_ge i k with h | h
      · exact hs i h
      · rw [show i = k by omega]; omega
  · have f1 : (k : Int) < m.length := yes c
    have f2 : ¬ (k : Int) < 41 := no c1
    exact ⟨[], [], _, lehN _, leP ⟨fun h => by omega, fun h => by have := h.1; omega⟩, rfl, rfl⟩
  · have f1 : ¬ (k : Int) < m.length := no c
    exact ⟨[], [], _, lehN _, leP ⟨fun h => ⟨by omega, fun i hi => hs i (by omega)⟩, fun h => by have := h.1; omega⟩, rfl, rfl⟩

set_option maxHeartbeats 2000000 in
set_option maxRecDepth 10000 in
theorem mayRule (l : Vc1) (hl : l.length ≤ 9223372036854775807) : ACalls Tryz.prog 89 [vecV l] [] (fun r h => r = bool (!decide (mayV l)) ∧ h = []) := by
  have h1 := may_vec l hl
  have e : decide (l = ofF (cntF l)) = decide (mayV l) := rfl
  rw [e] at h1
  generalize decide (mayV l) = B at *
  refine rcalls Tryz.func89 rfl (by decide) ?_
  refine ⟨[], _, h1, ?_⟩
  rintro r hh ⟨rfl, rfl⟩
  refine ⟨.inl rfl, ?_⟩
  exact ⟨[], [], _, lehN _, leB rfl, rfl, rfl⟩

def IndexR (m : List Vc1) (r : AV) (h : List AO) : Prop := ∃ z, r = int .i64 z ∧ h = [] ∧ ((z = -1 ∧ ∀ i, i < m.length → mayV (rowM m i)) ∨ (0 ≤ z ∧ ∃ i, i < m.length ∧ ¬ mayV (rowM m i)))
set_option maxHeartbeats 2000000 in
set_option maxRecDepth 10000 in
theorem index_mat (m : List Vc1) (hm : szM m) : ACalls Tryz.prog 115 [matV m, .raw (.func (.func 89) #[] #[])] [] (IndexR m) := by
  have hlen := hm.1
  refine rcalls Tryz.func115 rfl (by decide) ?_
  refine ⟨Nat, fun k => [(0, matV m), (1, .raw (.func (.func 89) #[] #[])), (7, int .i64 m.length), (8, int .i64 k)], fun _ => [], fun k => k ≤ m.length ∧ ∀ i, i < k → mayV (rowM m i), fun k => m.length - k,
    ⟨0, [], ⟨by omega, by omega⟩, lehN _, ⟨.same _ trivial, .raw _, leI rfl, leI rfl, trivial⟩⟩, ?_⟩
  rintro k ⟨hk, hs⟩
  refine ⟨fun c => ?_, fun c => ?_⟩
  · have f1 : (k : Int) < m.length := yes c
    have e1 : IntKind.i64.wrap ((k : Int) + 1) = ((k + 1 : Nat) : Int) := by rw [w64 (by omega) (by omega)]; omega
    have hk1 : (k : Int).toNat * 1 + 0 = k := by omega
    have hr := mayRule (rowM m ((k : Int).toNat * 1 + 0)) (by rw [hk1]; have := hm.2 k (by omega); omega)
    have hB : (!decide (mayV (rowM m ((k : Int).toNat * 1 + 0)))) = !decide (mayV (rowM m k)) := by rw [hk1]
    rw [hB] at hr
    refine ⟨⟨by omega, f1⟩, ?_⟩
    refine ⟨[], _, hr, ?_⟩
    rintro r hh ⟨rfl, rfl⟩
    refine ⟨.inl rfl, ?_⟩
    refine ⟨fun c2 => ?_, fun c2 => ?_⟩
    · exact ⟨[], [], _, lehN _, leI rfl, k, rfl, rfl, .inr ⟨by omega, k, by omega, notT c2⟩⟩
    · refine ⟨trivial, k + 1, [], ⟨by omega, fun i hi => ?_⟩, by show m.length - (k + 1) < m.length - k; omega, lehN _, ⟨.same _ trivial, .raw _, leI rfl, leI e1, trivial⟩⟩
      rcases Nat.lt_or_ge i k with h | h
      · exact hs i h
      · rw [show i = k by omega]; exact notF c2
  · have f1 : ¬ (k : Int) < m.length := no c
    exact ⟨[], [], _, lehN _, leI rfl, -1, rfl, rfl, .inl ⟨rfl, fun i hi => hs i (by omega)⟩⟩

set_option maxHeartbeats 2000000 in
set_option maxRecDepth 10000 in
theorem contains_mat (m : List Vc1) (hm : szM m) : ACalls Tryz.prog 88 [matV m, .raw (.func (.func 89) #[] #[])] [] (fun r h => r = bool (!decide (∀ i, i < m.length → mayV (rowM m i))) ∧ h = []) := by
  have h1 := index_mat m hm
  obtain ⟨B, hB⟩ : ∃ B, decide (∀ i, i < m.length → mayV (rowM m i)) = B := ⟨_, rfl⟩
  rw [hB]
  refine rcalls Tryz.func88 rfl (by decide) ?_
  refine ⟨[], _, h1, ?_⟩
  rintro r hh ⟨z, rfl, rfl, hz⟩
  refine ⟨.inl rfl, ?_⟩
  refine ⟨[], [], _, lehN _, leB ?_, rfl, rfl⟩
  rcases hz with ⟨rfl, h⟩ | ⟨h0, i, hi, hn⟩
  · rw [← hB, decide_eq_true h]; rfl
  · rw [← hB, decide_eq_true h0, decide_eq_false fun h => hn (h i hi)]; rfl

set_option maxHeartbeats 2000000 in
set_option maxRecDepth 10000 in
theorem may_mat (m : List Vc1) (n : Int) (hm : szM m) : ACalls Tryz.prog 38 [matV m, int .i64 n] [] (fun r h => r = bool (decide (mayM m n)) ∧ h = []) := by
  have h1 := contains_mat m hm
  have hM : mayM m n ↔ 1 ≤ n ∧ n ≤ 32 ∧ (m.length : Int) = n ∧ ∀ i, i < m.length → mayV (rowM m i) := Iff.rfl
  obtain ⟨A, hA⟩ : ∃ A, decide (∀ i, i < m.length → mayV (rowM m i)) = A := ⟨_, rfl⟩
  rw [hA] at h1
  obtain ⟨B, hB⟩ : ∃ B, decide (mayM m n) = B := ⟨_, rfl⟩
  rw [hB]
  refine rcalls Tryz.func38 rfl (by decide) ?_
  refine ⟨fun c1 => ⟨fun c2 => ⟨fun c3 => ?_, fun c3 => ?_⟩, fun c2 => ?_⟩, fun c1 => ?_⟩
  · refine ⟨[], _, h1, ?_⟩
    rintro r hh ⟨rfl, rfl⟩
    refine ⟨.inl rfl, ?_⟩
    refine ⟨[], [], _, lehN _, leB ?_, rfl, rfl⟩
    rw [← hB, Bool.not_not, ← hA]
    exact decide_eq_decide.2 ⟨fun h => hM.2 ⟨yes c1, yes c2, yes c3, h⟩, fun h => (hM.1 h).2.2.2⟩
  · refine ⟨[], [], _, lehN _, leFB ?_, rfl, rfl⟩
    rw [← hB]; exact decide_eq_false fun h => (no c3) (hM.1 h).2.2.1
  · refine ⟨[], [], _, lehN _, leFB ?_, rfl, rfl⟩
    rw [← hB]; exact decide_eq_false fun h => (no c2) (hM.1 h).2.1
  · refine ⟨[], [], _, lehN _, leFB ?_, rfl, rfl⟩
    rw [← hB]; exact decide_eq_false fun h => (no c1) (hM.1 h).1

set_option maxHeartbeats 2000000 in
set_option maxRecDepth 10000 in
theorem turned_str (m : List Vc1) (F : FuncId) (τ : Nat → ByteArray) (hm : m.length ≤ 1099511627776)
    (hF : ∀ k : Nat, k < m.length → ACalls Tryz.prog F [int .i64 k, vecV (rowM m ((k : Int).toNat * 1 + 0))] [] (fun r h => r = str (τ k) ∧ h = [])) :
    ACalls Tryz.prog 50 [matV m, .raw (.func (.func F) #[] #[])] [] (fun r h => r = .own 0 0 m.length 1 ∧ h = [.row (m.length * 1) fun i => str (τ i)]) := by
  refine rcalls Tryz.func50 rfl (by decide) ?_
  refine ⟨Nat, fun k => [(1, .raw (.func (.func F) #[] #[])), (5, .own 0 0 k 1), (8, matV m), (9, int .i64 m.length), (10, int .i64 k)], fun k => [.row (k * 1) fun i => str (τ i)], fun k => k ≤ m.length, fun k => m.length - k,
    ⟨0, [0], Nat.zero_le _, lehR (Nat.le_refl _) _, ⟨.raw _, .nil _ _ (by decide), .same _ trivial, leI rfl, leI rfl, trivial⟩⟩, ?_⟩
  intro k hk
  have hk : k ≤ m.length := hk
  refine ⟨fun c => ?_, fun c => ?_⟩
  · have f1 : (k : Int) < m.length := yes c
    have e1 : IntKind.i64.wrap ((k : Int) + 1) = ((k + 1 : Nat) : Int) := by rw [w64 (by omega) (by omega)]; omega
    have hFk := hF k (by omega)
    refine ⟨⟨by omega, f1⟩, ?_⟩
    refine ⟨[], _, hFk, ?_⟩
    rintro r hh ⟨rfl, rfl⟩
    refine ⟨.inl rfl, ?_⟩
    refine ⟨rfl, fun i _ => rfl, Nat.le_refl 1, by show (k + 1) * 16 ≤ _; omega, fun i hi => ?_, fun i => str (τ i), fun i hi => rfl, fun i hi => ?_, ?_⟩
    · obtain rfl : i = 0 := by omega
      rfl
    · obtain rfl : i = 0 := by omega
      show str (τ (k * 1 + 0)) = str (τ k)
      rw [show k * 1 + 0 = k by omega]
    exact ⟨trivial, k + 1, [2], by show k + 1 ≤ m.length; omega, by show m.length - (k + 1) < m.length - k; omega, leh1 rfl (.row _ _ _ _ (Nat.le_refl _) fun i hi => .raw _), ⟨.raw _, leOwn rfl rfl rfl, .same _ trivial, leI rfl, leI e1, trivial⟩⟩
  · have f1 : ¬ (k : Int) < m.length := no c
    obtain rfl : k = m.length := by omega
    exact ⟨[0], _, _, leh1 rfl (.row _ _ _ _ (Nat.le_refl _) fun i hi => .raw _), leOwn rfl rfl rfl, rfl, rfl⟩

set_option maxHeartbeats 2000000 in
set_option maxRecDepth 10000 in
theorem textRule (hG : NumG) (k : Nat) (l : Vc1) (hl : l.length ≤ 9223372036854775807) : ACalls Tryz.prog 51 [int .i64 k, vecV l] [] (fun r h => r = str (textR l) ∧ h = []) := by
  have h1 := text_vec hG l hl
  have e : textV (ofF (cntF l)) = textR l := rfl
  rw [e] at h1
  generalize textR l = T at *
  refine rcalls Tryz.func51 rfl (by decide) ?_
  refine ⟨[], _, h1, ?_⟩
  rintro r hh ⟨rfl, rfl⟩
  refine ⟨.inl rfl, ?_⟩
  exact ⟨[], [], _, lehN _, leS rfl, rfl, rfl⟩

set_option maxHeartbeats 2000000 in
set_option maxRecDepth 10000 in
theorem strsJoin_none (f : Nat → AV) (sep : ByteArray) : ACalls Tryz.prog 49 [.ro 0 1 f, str sep] [] (fun r h => r = str ByteArray.empty ∧ h = []) := by
  refine rcalls Tryz.func49 rfl (by decide) ?_
  refine ⟨fun _ => ?_, fun e => absurd rfl (no e)⟩
  exact ⟨[], [], _, lehN _, leS rfl, rfl, rfl⟩

set_option maxHeartbeats 2000000 in
set_option maxRecDepth 10000 in
theorem text_mat (hG : NumG) (m : List Vc1) (hm : szM m) (h40 : m.length ≤ 4096) : ACalls Tryz.prog 17 [matV m] [] (fun r h => r = str (textM m) ∧ h = []) := by
  have ht := turned_str m 51 (fun i => textR (rowM m i)) hm.1 fun k hk => by
    have := textRule hG k (rowM m k) (by have := hm.2 k hk; omega)
    rwa [show (k : Int).toNat * 1 + 0 = k by omega]
  have hat := @rowsT_at m
  have hl := rowsT_len m
  by_cases hne : m = []
  · subst hne
    refine rcalls Tryz.func17 rfl (by decide) ?_
    refine ⟨[], _, ht, ?_⟩
    rintro r hh ⟨rfl, rfl⟩
    refine ⟨.inl rfl, ?_⟩
    refine ⟨[], _, by omega, fun i hi => trivial, strsJoin_none _ _, ?_⟩
    rintro r hh ⟨rfl, rfl⟩
    refine ⟨.inr ⟨trivial, fun o ho => by cases ho⟩, ?_⟩
    exact ⟨[], [], _, lehN _, leS rfl, rfl, rfl⟩
  · have hpos : 0 < m.length := List.length_pos_iff.2 hne
    have hsz := textM_size m
    have hj := strsJoin_prog (rowsT m) ⟨#[59]⟩ (by omega) (by omega) (by show (Lib.join ((rowsT m).map (·.data.toList)) [59]).length ≤ _; rw [textM_join]; omega)
    have hT : (⟨(Lib.join ((rowsT m).map (·.data.toList)) (⟨#[59]⟩ : ByteArray).data.toList).toArray⟩ : ByteArray) = textM m := by
      show (⟨(Lib.join ((rowsT m).map (·.data.toList)) [59]).toArray⟩ : ByteArray) = _
      rw [textM_join]; rfl
    rw [hT] at hj
    generalize textM m = T at *
    refine rcalls Tryz.func17 rfl (by decide) ?_
    refine ⟨[], _, ht, ?_⟩
    rintro r hh ⟨rfl, rfl⟩
    refine ⟨.inl rfl, ?_⟩
    refine ⟨[], _, by omega, fun i hi => trivial, hj.args ⟨vro' hl.symm fun i hi => ?_, .refl _, trivial⟩, ?_⟩
    · show str (textR (rowM m (0 + i))) = str (strAt (rowsT m) i)
      rw [Nat.zero_add, hat (by omega)]
    rintro r hh ⟨rfl, rfl⟩
    refine ⟨.inr ⟨trivial, fun o ho => by cases ho⟩, ?_⟩
    exact ⟨[], [], _, lehN _, leS rfl, rfl, rfl⟩

set_option maxHeartbeats 2000000 in
set_option maxRecDepth 10000 in
theorem same_mat (a b : List Vc1) (ha : szM a) (hb : szM b) : ACalls Tryz.prog 14 [matV a, matV b] [] (fun r h => r = bool (decide (a = b)) ∧ h = []) := by
  have hla := ha.1
  refine rcalls Tryz.func14 rfl (by decide) ?_
  refine ⟨fun c => ?_, fun c => ?_⟩
  · have f1 : ¬ (a.length : Int) = b.length := yes c
    exact ⟨[], [], _, lehN _, leFP fun e => f1 (by rw [e]), rfl, rfl⟩
  have f1 : (a.length : Int) = b.length := Classical.not_not.1 (no c)
  refine ⟨Nat, fun k => [(0, matV a), (1, matV b), (5, int .i64 k)], fun _ => [], fun k => k ≤ a.length ∧ ∀ i, i < k → rowM a i = rowM b i, fun k => a.length - k,
    ⟨0, [], ⟨by omega, by omega⟩, lehN _, ⟨.same _ trivial, .same _ trivial, leI rfl, trivial⟩⟩, ?_⟩
  rintro k ⟨hk, hs⟩
  refine ⟨fun c1 => ?_, fun c1 => ?_⟩
  · have f2 : (k : Int) < a.length := yes c1
    have e1 : IntKind.i64.wrap ((k : Int) + 1) = ((k + 1 : Nat) : Int) := by rw [w64 (by omega) (by omega)]; omega
    have hk1 : (k : Int).toNat * 1 + 0 = k := by omega
    have he := equal_ref (rowM a ((k : Int).toNat * 1 + 0)) (rowM b ((k : Int).toNat * 1 + 0)) (by rw [hk1]; have := ha.2 k (by omega); omega) (by rw [hk1]; have := hb.2 k (by omega); omega)
    have hB : decide (rowM a ((k : Int).toNat * 1 + 0) = rowM b ((k : Int).toNat * 1 + 0)) = decide (rowM a k = rowM b k) := by rw [hk1]
    rw [hB] at he
    refine .inr ⟨9, by decide +kernel, ?_⟩
    refine ⟨_, rfl, ?_⟩
    refine ⟨_, rfl, ?_⟩
    refine ⟨_, ⟨⟨by omega, f2⟩, rfl⟩, ?_⟩
    refine ⟨_, rfl, ?_⟩
    refine ⟨_, rfl, ?_⟩
    refine ⟨_, rfl, ?_⟩
    refine ⟨_, ⟨⟨by omega, by omega⟩, rfl⟩, ?_⟩
    refine ⟨_, rfl, ?_⟩
    refine ⟨_, ⟨[], _, he, by rintro r h ⟨rfl, rfl⟩; exact ⟨.inl rfl, rfl, rfl⟩⟩, ?_⟩
    refine ⟨fun c2 => ?_, fun c2 => ?_⟩
    · exact ⟨[], [], _, lehN _, leFP fun e => notT c2 (by rw [e]), rfl, rfl⟩
    · refine ⟨trivial, k + 1, [], ⟨by omega, fun i hi => ?_⟩, by show a.length - (k + 1) < a.length - k; omega, lehN _, ⟨.same _ trivial, .same _ trivial, leI e1, trivial⟩⟩
      rcases Nat.lt_or_ge i k with h | h
      · exact hs i h
      · rw [show i = k by omega]; exact notF c2
  · have f2 : ¬ (k : Int) < a.length := no c1
    exact ⟨[], [], _, lehN _, leTP (row_ext (by omega) fun i hi => hs i (by omega)), rfl, rfl⟩

end
end Go.Proofs.YthckagkciefliaaGreatDoor.Mt

/-
  What the laws of hexa ask first, and how a digest's text is parsed as it.
-/
set_option linter.unusedVariables false
set_option linter.unusedSectionVars false
namespace Go.Proofs.YthckagkciefliaaGreatDoor.Hx
open Go AL

theorem intsOf_len (s : ByteArray) : (intsOf s).length = s.size := by
  unfold intsOf; rw [List.length_map, Array.length_toList]; rfl
theorem hexL_get : ∀ (xs : List Int) (i : Nat), i < xs.length → (hexL xs).getD (2 * i) 0 = fig (xs.getD i 0 / 16) ∧ (hexL xs).getD (2 * i + 1) 0 = fig (xs.getD i 0 % 16)
  | [], i, h => absurd h (Nat.not_lt_zero _)
  | x :: xs, 0, _ => ⟨rfl, rfl⟩
  | x :: xs, i + 1, h => by
    have := hexL_get xs i (by simpa using h)
    rw [show 2 * (i + 1) = 2 * i + 1 + 1 by omega]
    simpa [hexL] using this
theorem hexL_range {xs : List Int} (hx : ∀ x ∈ xs, 0 ≤ x ∧ x < 256) : ∀ y ∈ hexL xs, 0 ≤ y ∧ y < 256 := by
  induction xs with
  | nil => intro y hy; simp [hexL] at hy
  | cons x xs ih =>
    intro y hy
    have h1 := hx x (by simp)
    simp only [hexL, List.mem_cons] at hy
    rcases hy with rfl | rfl | hy
    · have := fig_range (n := x / 16) (by omega) (by omega); omega
    · have := fig_range (n := x % 16) (by omega) (by omega); omega
    · exact ih (fun z hz => hx z (by simp [hz])) y hy
/-- A digest's text is parsed as it. -/
theorem parse_text {xs : List Int} (hl : xs.length = 32) (hx : ∀ x ∈ xs, 0 ≤ x ∧ x < 256) : parseE (intsOf (textS xs)) = 0 ∧ parseD (intsOf (textS xs)) = xs ∧ (textS xs).size = 64 := by
  have e : intsOf (textS xs) = hexL xs := intsOf_bytesOf (hexL_range hx)
  have hlen : (hexL xs).length = 64 := by rw [hexL_length]; omega
  have hd : ∀ i, i < 32 → hexd ((hexL xs).getD (2 * i) 0) ∧ hexd ((hexL xs).getD (2 * i + 1) 0) ∧ full (hexL xs) i = xs.getD i 0 := fun i hi => by
    have hb := byteAt hx i
    obtain ⟨g1, g2⟩ := hexL_get xs i (by omega)
    obtain ⟨n1, n2⟩ := nv_fig (n := xs.getD i 0 / 16) (by omega) (by omega)
    obtain ⟨m1, m2⟩ := nv_fig (n := xs.getD i 0 % 16) (by omega) (by omega)
    refine ⟨by rw [g1]; exact n2, by rw [g2]; exact m2, ?_⟩
    unfold full
    rw [g1, g2, n1, m1]
    omega
  have hok : parseOK (hexL xs) := ⟨hlen, fun i hi => by
    rcases Nat.mod_two_eq_zero_or_one i with h | h
    · have := (hd (i / 2) (by omega)).1
      rwa [show 2 * (i / 2) = i by omega] at this
    · have := (hd (i / 2) (by omega)).2.1
      rwa [show 2 * (i / 2) + 1 = i by omega] at this⟩
  rw [e]
  obtain ⟨h1, h2⟩ := parse_ok hok
  refine ⟨h1, ?_, ?_⟩
  · rw [h2]
    unfold pd
    apply List.ext_getElem?
    intro i
    rw [List.getElem?_map]
    rcases Nat.lt_or_ge i 32 with h | h
    · rw [List.getElem?_range h]
      have := (hd i h).2.2
      rw [List.getD_eq_getElem?_getD, List.getElem?_eq_getElem (by omega)] at this
      rw [List.getElem?_eq_getElem (by omega)]
      simpa using this
    · rw [List.getElem?_eq_none (by simpa using h), List.getElem?_eq_none (by omega)]
      rfl
  · rw [← intsOf_len, e]; exact hlen
/-- What is parsed has the very text. -/
theorem text_parse {s : ByteArray} (h : parseE (intsOf s) = 0) : textS (parseD (intsOf s)) = s := by
  have hok : parseOK (intsOf s) := Classical.byContradiction fun hn => by rw [(parse_no hn).1] at h; omega
  rw [(parse_ok hok).2]
  obtain ⟨hl, hd⟩ := hok
  have hfl : (pd (intsOf s)).length = 32 := by simp [pd]
  have hg : ∀ i, i < 32 → (pd (intsOf s)).getD i 0 = full (intsOf s) i := fun i hi => by
    unfold pd
    rw [List.getD_eq_getElem?_getD, List.getElem?_map, List.getElem?_range hi]
    rfl
  have : hexL (pd (intsOf s)) = intsOf s := by
    apply List.ext_getElem?
    intro i
    have hlen : (hexL (pd (intsOf s))).length = 64 := by rw [hexL_length, hfl]
    rcases Nat.lt_or_ge i 64 with hi | hi
    · have h1 : (hexL (pd (intsOf s))).getD i 0 = (intsOf s).getD i 0 := by
        obtain ⟨g1, g2⟩ := hexL_get (pd (intsOf s)) (i / 2) (by omega)
        rw [hg (i / 2) (by omega)] at g1 g2
        unfold full at g1 g2
        have a1 := nv_range (hd (2 * (i / 2)) (by omega))
        have a2 := nv_range (hd (2 * (i / 2) + 1) (by omega))
        rcases Nat.mod_two_eq_zero_or_one i with h | h
        · rw [show 2 * (i / 2) = i by omega] at *
          rw [g1, show (16 * nv ((intsOf s).getD i 0) + nv ((intsOf s).getD (i + 1) 0)) / 16 = nv ((intsOf s).getD i 0) by omega]
          exact fig_nv (hd i hi)
        · rw [show 2 * (i / 2) + 1 = i by omega] at *
          rw [g2, show (16 * nv ((intsOf s).getD (2 * (i / 2)) 0) + nv ((intsOf s).getD i 0)) % 16 = nv ((intsOf s).getD i 0) by omega]
          exact fig_nv (hd i hi)
      rw [List.getD_eq_getElem?_getD, List.getD_eq_getElem?_getD, List.getElem?_eq_getElem (by omega), List.getElem?_eq_getElem (by omega)] at h1
      rw [List.getElem?_eq_getElem (by omega), List.getElem?_eq_getElem (by omega)]
      simpa using h1
    · rw [List.getElem?_eq_none (by omega), List.getElem?_eq_none (by omega)]
  unfold textS
  rw [this, bytesOf_intsOf]
theorem textS_inj {xs ys : List Int} (hl : xs.length = 32) (hx : ∀ x ∈ xs, 0 ≤ x ∧ x < 256) (gl : ys.length = 32) (hy : ∀ x ∈ ys, 0 ≤ x ∧ x < 256) (h : textS xs = textS ys) : xs = ys := by
  have a := (parse_text hl hx).2.1
  have b := (parse_text gl hy).2.1
  rw [h, b] at a
  exact a.symm
theorem pd_range {xs : List Int} (h : parseOK xs) : ∀ x ∈ pd xs, 0 ≤ x ∧ x < 256 := by
  intro x hx
  unfold pd at hx
  obtain ⟨i, hi, rfl⟩ := List.mem_map.1 hx
  have hi := List.mem_range.1 hi
  have a1 := nv_range (h.2 (2 * i) (by omega))
  have a2 := nv_range (h.2 (2 * i + 1) (by omega))
  unfold full
  omega
theorem parseD_ok (xs : List Int) : (parseD xs).length = 32 ∧ ∀ x ∈ parseD xs, 0 ≤ x ∧ x < 256 := by
  by_cases h : parseOK xs
  · rw [(parse_ok h).2]; exact ⟨by simp [pd], pd_range h⟩
  · rw [(parse_no h).2]
    refine ⟨by simp, fun x hx => ?_⟩
    have := (List.mem_replicate.1 hx).2; omega
theorem parseE_cases (xs : List Int) : parseE xs = 0 ∨ parseE xs = 2 ∧ parseD xs = List.replicate 32 0 := by
  by_cases h : parseOK xs
  · exact .inl (parse_ok h).1
  · exact .inr ⟨(parse_no h).1, (parse_no h).2⟩

/-- Is 7, or 07, a number's text? -/
theorem num7 : isNum ⟨#[55]⟩ 7 := ⟨by decide, by decide, by rw [numS_small (by decide) (by decide)]; decide⟩
theorem num07 (v : Int) : ¬ isNum ⟨#[48, 55]⟩ v := fun h => by
  have e : foldN (intsOf ⟨#[48, 55]⟩) 0 = v := by
    have := foldN_num h.1 h.2.1
    rwa [← h.2.2] at this
  have e7 : foldN (intsOf ⟨#[48, 55]⟩) 0 = 7 := by decide
  have hv : v = 7 := by rw [← e, e7]
  subst hv
  have := h.2.2.trans num7.2.2.symm
  have h2 := congrArg ByteArray.size this
  exact absurd h2 (by decide)
theorem num12 : numS (-12) = ⟨#[45, 49, 50]⟩ := by
  rw [numS_nbig (by decide), show -(- -12 / 10) = (-1 : Int) by decide, numS_nsmall (by decide) (by decide)]
  decide
/-- The digest that the first law asks of. -/
def d255 : List Int := 255 :: List.replicate 31 0
theorem ff255 : (textS d255).extract 0 2 = ⟨#[102, 102]⟩ := by decide +kernel

section

variable [Globs]

end
end Go.Proofs.YthckagkciefliaaGreatDoor.Hx

/-
  Events: their lines.
-/
set_option linter.unusedVariables false
set_option linter.unusedSectionVars false
namespace Go.Proofs.YthckagkciefliaaGreatDoor.Ev
open Go AL Spl Hx Dt Vc Pa

def dl : ByteArray := ⟨#[100, 101, 108]⟩
def pt : ByteArray := ⟨#[112, 117, 116]⟩
def wordsE (e : Ev) : List ByteArray := if e.kind = 2 then [dl, textD e.r e.q, textV (ofF (cntF e.deps)), e.path] else [pt, textD e.r e.q, textV (ofF (cntF e.deps)), e.path, textS e.sum, numS e.size]
def lineT (ws : List ByteArray) : ByteArray := ⟨(Lib.join (ws.map (·.data.toList)) [32]).toArray⟩
def lineS (e : Ev) : ByteArray := if mayE e then lineT (wordsE e) else ByteArray.empty
def lineE (e : Ev) : Int := if mayE e then 0 else 1

section
variable [Globs]

theorem ev_free (e : Ev) : ∀ i, (evC e i).free
  | 0 => trivial
  | 1 => trivial
  | 2 => trivial
  | 3 => trivial
  | 4 => trivial
  | i + 5 => by
    show (if i = 32 then int .i64 e.size else int .u8 (e.sum.getD i 0)).free
    by_cases h : i = 32
    · rw [if_pos h]; trivial
    · rw [if_neg h]; trivial
theorem box_at (e : Ev) {i : Nat} (hi : i < 38) : ((List.range 38).map (evC e)).getD (0 + i) .top = evC e i := by
  rw [Nat.zero_add, List.getD_eq_getElem?_getD]
  simp [hi]
theorem box_free (e : Ev) : ∀ i, i < 38 → (((List.range 38).map (evC e)).getD (0 + i) .top).free := fun i hi => by rw [box_at e hi]; exact ev_free e i
theorem dig_at (e : Ev) {i : Nat} (hi : i < 32) : ((List.range 38).map (evC e)).getD (5 + i) .top = int .u8 (e.sum.getD i 0) := by
  rw [List.getD_eq_getElem?_getD, Nat.add_comm]
  have h1 : i + 5 < 38 := by omega
  simp [h1]
  show (if i = 32 then int .i64 e.size else int .u8 (e.sum.getD i 0)) = _
  rw [if_neg (by omega)]
  simp [List.getD_eq_getElem?_getD]
theorem dig_free (e : Ev) : ∀ i, i < 32 → (((List.range 38).map (evC e)).getD (5 + i) .top).free := fun i hi => by rw [dig_at e hi]; trivial
theorem vdig {e : Ev} (h : e.sum.length = 32) : VLe (.agg 32 fun i => ((List.range 38).map (evC e)).getD (5 + i) .top) (.aggI .u8 e.sum) := vsum h fun i hi => dig_at e hi
theorem vbox (e : Ev) : VLe (.agg 38 fun i => ((List.range 38).map (evC e)).getD (0 + i) .top) (evV e) := vagg fun i hi => by rw [box_at e hi]; exact .refl _

set_option maxRecDepth 10000 in
theorem line_prog (ws : List ByteArray) (hne : 0 < ws.length) (hN : ws.length ≤ 140737488355328) (hlen : (Lib.join (ws.map (·.data.toList)) [32]).length ≤ 140737488355328) :
    ACalls Tryz.prog 54 [strsV ws] [] (fun r h => r = str (lineT ws) ∧ h = []) := by
  have hj := strsJoin_prog ws ⟨#[32]⟩ hne hN hlen
  have hT : lineT ws = ⟨(Lib.join (ws.map (·.data.toList)) [32]).toArray⟩ := rfl
  generalize lineT ws = T at *
  refine rcalls Tryz.func54 rfl (by decide) ?_
  refine ⟨[], _, hj, ?_⟩
  rintro r hh ⟨rfl, rfl⟩
  refine ⟨.inl rfl, ?_⟩
  exact ⟨[], [], _, lehN _, leS hT.symm, rfl, rfl⟩

set_option maxHeartbeats 4000000 in
set_option maxRecDepth 10000 in
theorem line_event (hG : NumG) (e : Ev) (hf : Fit e) : ACalls Tryz.prog 20 [evV e] [] (fun r h => r = .tup 2 (pair (str (lineS e)) (int .i64 (lineE e))) ∧ h = []) := by
  have hm := may_event hG e hf
  have ht : mayE e → ACalls Tryz.prog 53 [dotV e.r e.q] [] (fun r h => r = str (textD e.r e.q) ∧ h = []) := fun h => Dt.text_prog hG e.r e.q (by have := h.1.1.1; have := h.1.1.2.1; omega) hf.q
  have hv := text_vec hG e.deps hf.deps
  have hx := Hx.text_prog e.sum hf.sum hf.byte
  have hn := number_prog hG e.size hf.size.1 hf.size.2
  refine rcalls Tryz.func20 rfl (by decide) ?_
  refine ⟨[], _, box_free e, hm.args ⟨vbox e, trivial⟩, ?_⟩
  rintro r hh ⟨rfl, rfl⟩
  refine ⟨.inl rfl, ?_⟩
  refine ⟨fun c1 => ?_, fun c1 => ?_⟩
  · have hno := notT c1
    exact ⟨[], [], _, lehN _, le_pair (leS (if_neg hno).symm) (leI (if_neg hno).symm), rfl, rfl⟩
  · have hyes := notF c1
    have ht := ht hyes
    refine .inr ⟨6, by decide +kernel, ?_⟩
    refine ⟨_, rfl, ?_⟩
    refine ⟨_, rfl, ?_⟩
    refine ⟨_, ⟨[], _, dfree rfl rfl, ht.args ⟨vdot rfl rfl, trivial⟩, by rintro r h ⟨rfl, rfl⟩; exact ⟨.inl rfl, rfl, rfl⟩⟩, ?_⟩
    refine ⟨_, rfl, ?_⟩
    refine ⟨_, rfl, ?_⟩
    refine ⟨_, ⟨[], _, hv, by rintro r h ⟨rfl, rfl⟩; exact ⟨.inl rfl, rfl, rfl⟩⟩, ?_⟩
    have hpl : e.path.size ≤ 254 := hyes.1.2.2.2.1.2.1
    have hd : (textD e.r e.q).size ≤ 43 := text_size_le (by have := hyes.1.1.1; have := hyes.1.1.2.1; omega) hf.q
    have hvl : (textV (ofF (cntF e.deps))).size ≤ 1408 := Mt.textR_size e.deps
    have hS : lineS e = lineT (wordsE e) := if_pos hyes
    have hE : lineE e = 0 := if_pos hyes
    rw [hS, hE]
    have hw : wordsE e = if e.kind = 2 then [dl, textD e.r e.q, textV (ofF (cntF e.deps)), e.path] else [pt, textD e.r e.q, textV (ofF (cntF e.deps)), e.path, textS e.sum, numS e.size] := rfl
    generalize textD e.r e.q = TD at *
    generalize textV (ofF (cntF e.deps)) = TV at *
    refine ⟨fun k => ?_, fun k => ?_⟩
    · have k : e.kind = 2 := yes k
      rw [if_pos k] at hw
      rw [hw]
      have hl := line_prog [dl, TD, TV, e.path] (by simp) (by simp) (by
        rw [show ([32] : List UInt8) = [(32 : UInt8)] from rfl, lib_join]
        simp only [joinC, List.map_cons, List.map_nil, List.flatMap_cons, List.flatMap_nil, List.length_append, List.length_cons, List.length_nil]
        show 3 + (TD.size + 1 + (TV.size + 1 + (e.path.size + 1 + 0))) ≤ _
        omega)
      refine ⟨[1001], _, Nat.le_refl 4, hl.args ⟨vro' rfl fun i hi => ?_, trivial⟩, ?_⟩
      · match i, hi with
        | 0, _ => rfl
        | 1, _ => rfl
        | 2, _ => rfl
        | 3, _ => rfl
      rintro r h ⟨rfl, rfl⟩
      refine ⟨.inl rfl, ?_⟩
      exact ⟨[], [], _, lehN _, le_pair (leS rfl) (leI rfl), rfl, rfl⟩
    · have k : ¬ e.kind = 2 := no k
      rw [if_neg k] at hw
      rw [hw]
      have h64 : (textS e.sum).size = 64 := (parse_text hf.sum hf.byte).2.2
      have h21 := num_size_le hf.size.1 hf.size.2
      have hl := line_prog [pt, TD, TV, e.path, textS e.sum, numS e.size] (by simp) (by simp) (by
        rw [show ([32] : List UInt8) = [(32 : UInt8)] from rfl, lib_join]
        simp only [joinC, List.map_cons, List.map_nil, List.flatMap_cons, List.flatMap_nil, List.length_append, List.length_cons, List.length_nil]
        show 3 + (TD.size + 1 + (TV.size + 1 + (e.path.size + 1 + ((textS e.sum).size + 1 + ((numS e.size).size + 1 + 0))))) ≤ _
        omega)
      generalize textS e.sum = TS at *
      generalize numS e.size = TN at *
      refine .inr ⟨12, by decide +kernel, ?_⟩
      refine ⟨_, rfl, ?_⟩
      refine ⟨_, rfl, ?_⟩
      refine ⟨_, rfl, ?_⟩
      refine ⟨_, rfl, ?_⟩
      refine ⟨_, rfl, ?_⟩
      refine ⟨_, rfl, ?_⟩
      refine ⟨_, ⟨[], _, dig_free e, hx.args ⟨vdig hf.sum, trivial⟩, by rintro r h ⟨rfl, rfl⟩; exact ⟨.inl rfl, rfl, rfl⟩⟩, ?_⟩
      refine ⟨_, rfl, ?_⟩
      refine ⟨_, rfl, ?_⟩
      refine ⟨_, ⟨[], _, hn, by rintro r h ⟨rfl, rfl⟩; exact ⟨.inl rfl, rfl, rfl⟩⟩, ?_⟩
      refine ⟨_, ⟨⟨trivial, trivial, trivial, trivial, trivial, trivial, trivial⟩, rfl⟩, ?_⟩
      have hl : ACalls Tryz.prog 54 [.ro 6 1 fun i => ([str pt, str TD, str TV, str e.path, str TS, str TN] : List AV).getD i .top] [] _ := hl.args ⟨vro' rfl fun i hi => (by
        match i, hi with
        | 0, _ => rfl
        | 1, _ => rfl
        | 2, _ => rfl
        | 3, _ => rfl
        | 4, _ => rfl
        | 5, _ => rfl), trivial⟩
      refine ⟨_, ⟨[], _, hl, by rintro r h ⟨rfl, rfl⟩; exact ⟨.inl rfl, rfl, rfl⟩⟩, ?_⟩
      exact ⟨[], [], _, lehN _, le_pair (leS rfl) (leI rfl), rfl, rfl⟩

end
end Go.Proofs.YthckagkciefliaaGreatDoor.Ev

/-
  Events: their lines, by the document.
-/
set_option linter.unusedVariables false
set_option linter.unusedSectionVars false
namespace Go.Proofs.YthckagkciefliaaGreatDoor.Ev
open Go AL Spl Hx Dt Vc Pa

def sp : ByteArray := ⟨#[32]⟩
theorem line_four (a b c d : ByteArray) : lineT [a, b, c, d] = (a ++ sp) ++ (b ++ sp ++ c ++ sp ++ d) := by
  refine bA_ext ?_
  unfold lineT
  rw [show ([32] : List UInt8) = [(32 : UInt8)] from rfl, lib_join]
  simp [joinC, sp]
theorem line_six (a b c d e f : ByteArray) : lineT [a, b, c, d, e, f] = (a ++ sp) ++ (b ++ sp ++ c ++ sp ++ d) ++ sp ++ e ++ sp ++ f := by
  refine bA_ext ?_
  unfold lineT
  rw [show ([32] : List UInt8) = [(32 : UInt8)] from rfl, lib_join]
  simp [joinC, sp]

section
variable [Globs]

set_option maxHeartbeats 4000000 in
set_option maxRecDepth 10000 in
theorem line_eref (e : Ev) (hf : Fit e) : ACalls Tryz.prog 21 [evV e] [] (fun r h => r = .tup 2 (pair (str (lineS e)) (int .i64 (lineE e))) ∧ h = []) := by
  have hm := may_eref e hf
  have ht : mayE e → ACalls Tryz.prog 57 [dotV e.r e.q] [] (fun r h => r = str (textD e.r e.q) ∧ h = []) := fun h => Dt.text_ref e.r e.q (by have := h.1.1.1; have := h.1.1.2.1; omega) hf.q
  have hv := textv_ref e.deps hf.deps
  have hx := Hx.text_ref e.sum hf.sum hf.byte
  have hn := number_ref _ e.size (Nat.le_refl _) hf.size.1 hf.size.2
  refine rcalls Tryz.func21 rfl (by decide) ?_
  refine ⟨[], _, box_free e, hm.args ⟨vbox e, trivial⟩, ?_⟩
  rintro r hh ⟨rfl, rfl⟩
  refine ⟨.inl rfl, ?_⟩
  refine ⟨fun c1 => ?_, fun c1 => ?_⟩
  · have hno := notT c1
    exact ⟨[], [], _, lehN _, le_pair (leS (if_neg hno).symm) (leI (if_neg hno).symm), rfl, rfl⟩
  · have hyes := notF c1
    have ht := ht hyes
    have hpl : e.path.size ≤ 254 := hyes.1.2.2.2.1.2.1
    have hd : (textD e.r e.q).size ≤ 43 := text_size_le (by have := hyes.1.1.1; have := hyes.1.1.2.1; omega) hf.q
    have hvl : (textV (ofF (cntF e.deps))).size ≤ 1408 := Mt.textR_size e.deps
    have h64 : (textS e.sum).size = 64 := (parse_text hf.sum hf.byte).2.2
    have h21 := num_size_le hf.size.1 hf.size.2
    have hS : lineS e = lineT (wordsE e) := if_pos hyes
    have hE : lineE e = 0 := if_pos hyes
    rw [hS, hE]
    have hw : wordsE e = if e.kind = 2 then [dl, textD e.r e.q, textV (ofF (cntF e.deps)), e.path] else [pt, textD e.r e.q, textV (ofF (cntF e.deps)), e.path, textS e.sum, numS e.size] := rfl
    have hsp : sp.size = 1 := rfl
    generalize textD e.r e.q = TD at *
    generalize textV (ofF (cntF e.deps)) = TV at *
    generalize textS e.sum = TS at *
    generalize numS e.size = TN at *
    refine .inr ⟨12, by decide +kernel, ?_⟩
    refine ⟨_, rfl, ?_⟩
    refine ⟨_, rfl, ?_⟩
    refine ⟨_, ⟨[], _, dfree rfl rfl, ht.args ⟨vdot rfl rfl, trivial⟩, by rintro r h ⟨rfl, rfl⟩; exact ⟨.inl rfl, rfl, rfl⟩⟩, ?_⟩
    refine ⟨_, ⟨by show TD.size + 1 < _; omega, rfl⟩, ?_⟩
    refine ⟨_, rfl, ?_⟩
    refine ⟨_, rfl, ?_⟩
    refine ⟨_, ⟨[], _, hv, by rintro r h ⟨rfl, rfl⟩; exact ⟨.inl rfl, rfl, rfl⟩⟩, ?_⟩
    refine ⟨_, ⟨by rw [ByteArray.size_append]; show TD.size + 1 + TV.size < _; omega, rfl⟩, ?_⟩
    refine ⟨_, ⟨by rw [ByteArray.size_append, ByteArray.size_append]; show TD.size + 1 + TV.size + 1 < _; omega, rfl⟩, ?_⟩
    refine ⟨_, rfl, ?_⟩
    refine ⟨_, rfl, ?_⟩
    refine ⟨_, ⟨by rw [ByteArray.size_append, ByteArray.size_append, ByteArray.size_append]; show TD.size + 1 + TV.size + 1 + e.path.size < _; omega, rfl⟩, ?_⟩
    have hrest : (TD ++ ⟨#[32]⟩ ++ TV ++ ⟨#[32]⟩ ++ e.path).size = TD.size + 1 + TV.size + 1 + e.path.size := by
      rw [ByteArray.size_append, ByteArray.size_append, ByteArray.size_append, ByteArray.size_append]; rfl
    refine ⟨fun k => ?_, fun k => ?_⟩
    · have k : e.kind = 2 := yes k
      rw [if_pos k] at hw
      rw [hw, line_four]
      refine ⟨by rw [hrest]; show 4 + _ < _; omega, ?_⟩
      refine ⟨[], [], _, lehN _, le_pair (leS ?_) (leI rfl), rfl, rfl⟩
      rfl
    · have k : ¬ e.kind = 2 := no k
      rw [if_neg k] at hw
      rw [hw, line_six]
      refine .inr ⟨12, by decide +kernel, ?_⟩
      refine ⟨_, rfl, ?_⟩
      refine ⟨_, ⟨by rw [hrest]; show 4 + _ < _; omega, rfl⟩, ?_⟩
      refine ⟨_, ⟨by rw [ByteArray.size_append, hrest]; show 4 + _ + 1 < _; omega, rfl⟩, ?_⟩
      refine ⟨_, rfl, ?_⟩
      refine ⟨_, rfl, ?_⟩
      refine ⟨_, ⟨[], _, dig_free e, hx.args ⟨vdig hf.sum, trivial⟩, by rintro r h ⟨rfl, rfl⟩; exact ⟨.inl rfl, rfl, rfl⟩⟩, ?_⟩
      refine ⟨_, ⟨by rw [ByteArray.size_append, ByteArray.size_append, hrest, h64]; show 4 + _ + 1 + 64 < _; omega, rfl⟩, ?_⟩
      refine ⟨_, ⟨by rw [ByteArray.size_append, ByteArray.size_append, ByteArray.size_append, hrest, h64]; show 4 + _ + 1 + 64 + 1 < _; omega, rfl⟩, ?_⟩
      refine ⟨_, rfl, ?_⟩
      refine ⟨_, rfl, ?_⟩
      refine ⟨_, ⟨[], _, hn, by rintro r h ⟨rfl, rfl⟩; exact ⟨.inl rfl, rfl, rfl⟩⟩, ?_⟩
      refine ⟨_, ⟨by rw [ByteArray.size_append, ByteArray.size_append, ByteArray.size_append, ByteArray.size_append, hrest, h64]; show 4 + _ + 1 + 64 + 1 + _ < _; omega, rfl⟩, ?_⟩
      exact ⟨[], [], _, lehN _, le_pair (leS rfl) (leI rfl), rfl, rfl⟩

end
end Go.Proofs.YthckagkciefliaaGreatDoor.Ev

/-
  Events: what stands in both kinds of lines.
-/
set_option linter.unusedVariables false
set_option linter.unusedSectionVars false
namespace Go.Proofs.YthckagkciefliaaGreatDoor.Ev
open Go AL Spl Hx Dt Vc Pa

/-- What two words and a path are of. -/
noncomputable def abE (kind : Int) (ps : List ByteArray) : Ev := ⟨Dt.parseR (sAt ps 1), Dt.parseQ (sAt ps 1), parseVL (sAt ps 2), kind, sAt ps 3, zeros, 0⟩

section
variable [Globs]

theorem ro_free (n sz : Nat) (f : Nat → AV) : (AV.ro n sz f).free := trivial
set_option maxHeartbeats 4000000 in
set_option maxRecDepth 10000 in
theorem about_event (hG : NumG) (kind : Int) (ps : List ByteArray) (hn : 4 ≤ ps.length) (hp : ps.length ≤ 9223372036854775807) (h1 : (sAt ps 1).size ≤ 281474976710656) (h2 : (sAt ps 2).size ≤ 1099511627776) :
    ACalls Tryz.prog 60 [int .i64 kind, textsV ps] [] (fun r h => r = .tup 2 (pair (evV (abE kind ps)) (bool (decide (Dt.parseE (sAt ps 1) = 0 ∧ parseVE (sAt ps 2) = 0)))) ∧ h = []) := by
  have hd := Dt.parse_prog hG (sAt ps 1) h1
  have hv := parse_vec hG (sAt ps 2) h2
  unfold ParseVR at hv
  unfold Dt.ParseR at hd
  have hE : abE kind ps = ⟨Dt.parseR (sAt ps 1), Dt.parseQ (sAt ps 1), parseVL (sAt ps 2), kind, sAt ps 3, zeros, 0⟩ := rfl
  rw [hE]
  generalize Dt.parseR (sAt ps 1) = A at *
  generalize Dt.parseQ (sAt ps 1) = B at *
  generalize Dt.parseE (sAt ps 1) = E1 at *
  generalize parseVL (sAt ps 2) = V at *
  generalize parseVE (sAt ps 2) = E2 at *
  have cells : ∀ {h : List AO} {l : List Nat} {f : Nat → AV}, (∀ i, i < 38 → f i = evC ⟨A, B, V, kind, sAt ps 3, zeros, 0⟩ i) → LeV h l (.agg 38 f) (evV ⟨A, B, V, kind, sAt ps 3, zeros, 0⟩) := fun h => .agg _ _ _ fun i hi => by
    rw [h i hi]; exact .same _ (ev_free _ i)
  refine rcalls Tryz.func60 rfl (by decide) ?_
  refine ⟨⟨by omega, by show (1 : Int) < ps.length; omega⟩, ?_⟩
  refine ⟨[], _, hd, ?_⟩
  rintro r hh ⟨rfl, rfl⟩
  refine ⟨.inl rfl, ?_⟩
  refine ⟨⟨by omega, by show (2 : Int) < ps.length; omega⟩, ?_⟩
  refine ⟨[], _, hv, ?_⟩
  rintro r hh ⟨rfl, rfl⟩
  refine ⟨.inl rfl, ?_⟩
  by_cases g1 : E1 = 0
  · refine .inr ⟨14, by decide +kernel, ?_⟩
    refine ⟨_, rfl, ?_⟩
    refine ⟨_, rfl, ?_⟩
    refine ⟨_, rfl, ?_⟩
    refine ⟨_, rfl, ?_⟩
    refine ⟨_, ⟨⟨by omega, by show (3 : Int) < ps.length; omega⟩, rfl⟩, ?_⟩
    refine ⟨_, rfl, ?_⟩
    refine ⟨_, rfl, ?_⟩
    refine ⟨_, rfl, ?_⟩
    refine ⟨_, deqT g1, ?_⟩
    refine ⟨_, rfl, ?_⟩
    refine ⟨_, rfl, ?_⟩
    refine ⟨_, rfl, ?_⟩
    refine ⟨_, rfl, ?_⟩
    refine ⟨_, _, ⟨rfl, rfl⟩, ?_⟩
    refine ⟨[], [], _, lehN _, le_pair (a := evV ⟨A, B, V, kind, sAt ps 3, zeros, 0⟩) (cells fun i hi => ?_) (leB ?_), rfl, rfl⟩
    · match i, hi with
      | 0, _ => rfl
      | 1, _ => rfl
      | 2, _ => rfl
      | 3, _ => rfl
      | 4, _ => rfl
      | 5, _ => rfl
      | 6, _ => rfl
      | 7, _ => rfl
      | 8, _ => rfl
      | 9, _ => rfl
      | 10, _ => rfl
      | 11, _ => rfl
      | 12, _ => rfl
      | 13, _ => rfl
      | 14, _ => rfl
      | 15, _ => rfl
      | 16, _ => rfl
      | 17, _ => rfl
      | 18, _ => rfl
      | 19, _ => rfl
      | 20, _ => rfl
      | 21, _ => rfl
      | 22, _ => rfl
      | 23, _ => rfl
      | 24, _ => rfl
      | 25, _ => rfl
      | 26, _ => rfl
      | 27, _ => rfl
      | 28, _ => rfl
      | 29, _ => rfl
      | 30, _ => rfl
      | 31, _ => rfl
      | 32, _ => rfl
      | 33, _ => rfl
      | 34, _ => rfl
      | 35, _ => rfl
      | 36, _ => rfl
      | 37, _ => rfl
      | k + 38, h => exact absurd h (by omega)
    · exact decide_eq_decide.2 ⟨fun h => ⟨g1, h⟩, fun h => h.2⟩
  · refine .inr ⟨14, by decide +kernel, ?_⟩
    refine ⟨_, rfl, ?_⟩
    refine ⟨_, rfl, ?_⟩
    refine ⟨_, rfl, ?_⟩
    refine ⟨_, rfl, ?_⟩
    refine ⟨_, ⟨⟨by omega, by show (3 : Int) < ps.length; omega⟩, rfl⟩, ?_⟩
    refine ⟨_, rfl, ?_⟩
    refine ⟨_, rfl, ?_⟩
    refine ⟨_, rfl, ?_⟩
    refine ⟨_, deqF g1, ?_⟩
    refine ⟨_, rfl, ?_⟩
    refine ⟨_, rfl, ?_⟩
    refine ⟨_, rfl, ?_⟩
    refine ⟨_, rfl, ?_⟩
    refine ⟨_, _, ⟨rfl, rfl⟩, ?_⟩
    refine ⟨[], [], _, lehN _, le_pair (a := evV ⟨A, B, V, kind, sAt ps 3, zeros, 0⟩) (cells fun i hi => ?_) (leFB ?_), rfl, rfl⟩
    · match i, hi with
      | 0, _ => rfl
      | 1, _ => rfl
      | 2, _ => rfl
      | 3, _ => rfl
      | 4, _ => rfl
      | 5, _ => rfl
      | 6, _ => rfl
      | 7, _ => rfl
      | 8, _ => rfl
      | 9, _ => rfl
      | 10, _ => rfl
      | 11, _ => rfl
      | 12, _ => rfl
      | 13, _ => rfl
      | 14, _ => rfl
      | 15, _ => rfl
      | 16, _ => rfl
      | 17, _ => rfl
      | 18, _ => rfl
      | 19, _ => rfl
      | 20, _ => rfl
      | 21, _ => rfl
      | 22, _ => rfl
      | 23, _ => rfl
      | 24, _ => rfl
      | 25, _ => rfl
      | 26, _ => rfl
      | 27, _ => rfl
      | 28, _ => rfl
      | 29, _ => rfl
      | 30, _ => rfl
      | 31, _ => rfl
      | 32, _ => rfl
      | 33, _ => rfl
      | 34, _ => rfl
      | 35, _ => rfl
      | 36, _ => rfl
      | 37, _ => rfl
      | k + 38, h => exact absurd h (by omega)
    · exact decide_eq_false fun h => g1 h.1

end
end Go.Proofs.YthckagkciefliaaGreatDoor.Ev

/-
  The contracts of matrices: a text's matrix, two matrices joined.
-/
set_option linter.unusedVariables false
set_option linter.unusedSectionVars false
namespace Go.Proofs.YthckagkciefliaaGreatDoor.Mt
open Go AL Hx Dt Spl Vc

theorem okRows_at {s : ByteArray} : okRows s ↔ ∀ k, k < (pcs 59 s).length → okVec (sAt (pcs 59 s) k) := by
  unfold okRows
  have hl : (pcs 59 s).length = (pieces 59 s.data.toList).length := by simp [pcs]
  constructor
  · intro h k hk
    rw [pcs_at (by omega)]
    refine h _ ?_
    rw [List.getD_eq_getElem?_getD, List.getElem?_eq_getElem (by omega)]
    exact List.getElem_mem _
  · intro h p hp
    obtain ⟨k, hk, rfl⟩ := List.getElem_of_mem hp
    have := h k (by omega)
    rw [pcs_at hk, List.getD_eq_getElem?_getD, List.getElem?_eq_getElem hk] at this
    exact this
theorem vecsOf_pcs (s : ByteArray) : (vecsOf s).length = (pcs 59 s).length := by simp [vecsOf, pcs]
theorem vecsOf_row {s : ByteArray} {k : Nat} (h : k < (pcs 59 s).length) : rowM (vecsOf s) k = parseVL (sAt (pcs 59 s) k) := by
  have hl : (pcs 59 s).length = (pieces 59 s.data.toList).length := by simp [pcs]
  rw [row_lt (by rw [vecsOf_pcs]; exact h), pcs_at (by omega), List.getD_eq_getElem?_getD, List.getElem?_eq_getElem (by omega)]
  simp only [vecsOf, List.getElem_map]
  rfl
theorem parseV_small (s : ByteArray) : (parseVL s).length ≤ 1099511627776 := by
  by_cases h : okVec s
  · rw [(parseV_back h).1]; have := ofK_len (cntF (parseVL s)) 32; show (ofK _ 32).length ≤ _; omega
  · rw [(parseV_bad h).2]; simp
theorem joinV_comm (a b : Vc1) : joinV a b = joinV b a := by
  unfold joinV; congr 1; funext r; simp only [maxF]; omega
theorem joinM_comm (a b : List Vc1) (h : a.length ≤ b.length) : joinM a b = mapM b.length fun i => if a.length ≤ i then rowM b i else joinV (rowM b i) (rowM a i) := by
  unfold joinM
  rw [show max a.length b.length = b.length by omega]
  unfold mapM
  apply List.map_congr_left
  intro i hi
  have := List.mem_range.1 hi
  rw [if_neg (by omega)]
  by_cases h2 : a.length ≤ i
  · rw [if_pos h2, if_pos h2]
  · rw [if_neg h2, if_neg h2, joinV_comm]
theorem joinM_long (a b : List Vc1) (h : b.length ≤ a.length) : joinM a b = mapM a.length fun i => if b.length ≤ i then rowM a i else joinV (rowM a i) (rowM b i) := by
  unfold joinM
  rw [show max a.length b.length = a.length by omega]
  unfold mapM
  apply List.map_congr_left
  intro i hi
  have := List.mem_range.1 hi
  by_cases h2 : b.length ≤ i
  · rw [if_pos h2, if_pos h2]
  · rw [if_neg h2, if_neg h2, if_neg (by omega)]

section
variable [Globs]
def ParseMR (s : ByteArray) (n : Int) (r : AV) (h : List AO) : Prop := r = .tup 2 (pair (matV (parseML s n)) (int .i64 (parseME s n))) ∧ h = []
theorem mat_bad {s : ByteArray} {n : Int} (hv : ¬ okMat s n) (h : List AO) : ∃ l h1 c, LeH 0 h l h1 ∧ LeV h l (.tup 2 fun i => [.raw (.slice none 0 0), int .i64 2].getD i .top) c ∧ ParseMR s n c h1 := by
  obtain ⟨g0, g1⟩ := parseM_bad hv
  exact ⟨[], [], _, lehN _, le_pair (a := matV (parseML s n)) (b := int .i64 (parseME s n)) (by rw [g1]; exact .nilR _ _) (leI g0.symm), rfl, rfl⟩

set_option maxHeartbeats 2000000 in
set_option maxRecDepth 10000 in
theorem parse_mat (hG : NumG) (s : ByteArray) (n : Int) (hs : s.size ≤ 1099511627775) : ACalls Tryz.prog 12 [str s, int .i64 n] [] (ParseMR s n) := by
  have hsp := split_prog s 59 (by omega)
  have hP := okRows_at (s := s)
  have hlen := vecsOf_pcs s
  have hrow := @vecsOf_row s
  have hcnt : (pcs 59 s).length ≤ s.size + 1 := by
    have e : (pcs 59 s).length = (pieces 59 s.data.toList).length := by simp [pcs]
    have := List.count_le_length (a := (59 : UInt8)) (l := s.data.toList)
    have e2 : s.data.toList.length = s.size := rfl
    rw [e, pieces_len]; omega
  have hsz : ∀ k, k < (pcs 59 s).length → (sAt (pcs 59 s) k).size ≤ s.size := fun k hk => by
    have e : (pcs 59 s).length = (pieces 59 s.data.toList).length := by simp [pcs]
    rw [pcs_at (by omega), bA_size]
    have := piece_len (c := 59) (ps := pieces 59 s.data.toList) (k := k) (by omega)
    rw [join_pieces] at this
    exact this
  have hB := @mat_bad _ s n
  have hok : okMat s n ↔ okRows s ∧ mayM (vecsOf s) n := Iff.rfl
  have hgood : okMat s n → _ := @parseM_ok s n
  have hszM : szM (vecsOf s) := ⟨by rw [hlen]; omega, fun i hi => by rw [hrow (by omega)]; exact parseV_small _⟩
  generalize vecsOf s = D at *
  generalize pcs 59 s = P at *
  refine rcalls Tryz.func12 rfl (by decide) ?_
  refine ⟨[], _, hsp, ?_⟩
  rintro r hh ⟨rfl, rfl⟩
  refine ⟨.inl rfl, ?_⟩
  refine ⟨Nat, fun k => [(1, int .i64 n), (6, .own 0 0 k 1), (12, textsV P), (13, int .i64 P.length), (14, int .i64 k)], fun k => [.row (k * 1) fun i => vecV (rowM D i)], fun k => k ≤ P.length ∧ ∀ j, j < k → okVec (sAt P j), fun k => P.length - k,
    ⟨0, [0], ⟨by omega, by omega⟩, lehR (Nat.le_refl _) _, ⟨leI rfl, .nil _ _ (by decide), .same _ trivial, leI rfl, leI rfl, trivial⟩⟩, ?_⟩
  rintro k ⟨hk, hj⟩
  refine ⟨fun c1 => ?_, fun c1 => ?_⟩
  · have f1 : (k : Int) < P.length := yes c1
    have e1 : IntKind.i64.wrap ((k : Int) + 1) = ((k + 1 : Nat) : Int) := by rw [w64 (by omega) (by omega)]; omega
    have hk1 : (k : Int).toNat * 1 + 0 = k := by omega
    have hp := parse_vec hG (sAt P ((k : Int).toNat * 1 + 0)) (by rw [hk1]; have := hsz k (by omega); omega)
    have hr := hrow (k := k) (by omega)
    have hpo := @parseV_ok (sAt P ((k : Int).toNat * 1 + 0))
    have hpb := @parseV_bad (sAt P ((k : Int).toNat * 1 + 0))
    rw [hk1] at hpo hpb
    unfold ParseVR at hp
    rw [show parseVL (sAt P ((k : Int).toNat * 1 + 0)) = rowM D k by rw [hr, hk1]] at hp
    generalize hE : parseVE (sAt P ((k : Int).toNat * 1 + 0)) = E at *
    rw [hk1] at hE
    refine ⟨⟨by omega, f1⟩, ?_⟩
    refine ⟨[], _, hp, ?_⟩
    rintro r hh ⟨rfl, rfl⟩
    refine ⟨.inl rfl, ?_⟩
    refine ⟨fun c2 => ?_, fun c2 => ?_⟩
    · have g2 : ¬ E = 0 := yes c2
      refine hB (fun h => ?_) _
      have h1 := hP.1 (hok.1 h).1 k (by omega)
      exact g2 (by rw [← hE]; exact (hpo h1).1)
    · have g2 : E = 0 := Classical.not_not.1 (no c2)
      have hokk : okVec (sAt P k) := Classical.byContradiction fun h => by
        have := (hpb h).1
        rw [hE, g2] at this; cases this
      refine ⟨rfl, fun i _ => rfl, Nat.le_refl 1, by show (k + 1) * 24 ≤ _; omega, fun i hi => ?_, fun i => vecV (rowM D i), fun i hi => rfl, fun i hi => ?_, ?_⟩
      · obtain rfl : i = 0 := by omega
        rfl
      · obtain rfl : i = 0 := by omega
        show vecV (rowM D (k * 1 + 0)) = vecV (rowM D k)
        rw [show k * 1 + 0 = k by omega]
      refine ⟨trivial, k + 1, [2], ⟨by omega, fun j hj' => ?_⟩, by show P.length - (k + 1) < P.length - k; omega, leh1 rfl (.row _ _ _ _ (Nat.le_refl _) fun i hi => .same _ trivial), ⟨leI rfl, leOwn rfl rfl rfl, .same _ trivial, leI rfl, leI e1, trivial⟩⟩
      rcases Nat.lt_or_ge j k with h | h
      · exact hj j h
      · rw [show j = k by omega]; exact hokk
  · have f1 : ¬ (k : Int) < P.length := no c1
    obtain rfl : k = P.length := by omega
    have hv := hP.2 hj
    have hm := may_mat D n hszM
    refine ⟨[], _, by omega, fun i hi => trivial, hm.args ⟨vmat hlen.symm fun i hi => by rw [Nat.zero_add], .refl _, trivial⟩, ?_⟩
    rintro r hh ⟨rfl, rfl⟩
    refine ⟨.inr ⟨trivial, fun o ho => by cases ho⟩, ?_⟩
    refine ⟨fun c2 => ?_, fun c2 => ?_⟩
    · exact hB (fun h => notT c2 (hok.1 h).2) _
    · obtain ⟨o1, o2⟩ := hgood (hok.2 ⟨hv, notF c2⟩)
      exact ⟨[], [], _, lehN _, le_pair (a := matV (parseML s n)) (b := int .i64 (parseME s n)) (giveMat rfl (by simp) (by rw [o2]; omega) (by rw [o2]; omega) (fun i hi => by rw [o2])) (leI o1.symm), rfl, rfl⟩

set_option maxHeartbeats 2000000 in
set_option maxRecDepth 10000 in
theorem joinRuleM (b : List Vc1) (k : Nat) (v : Vc1) (hb : szM b) (hv : v.length ≤ 1099511627776) : ACalls Tryz.prog 45 [int .i64 k, vecV v, .rp 1 fun _ => matV b] [] (fun r h => r = vecV (if b.length ≤ k then v else joinV v (rowM b k)) ∧ h = []) := by
  obtain ⟨R, hR⟩ : ∃ R, (if b.length ≤ k then v else joinV v (rowM b k)) = R := ⟨_, rfl⟩
  rw [hR]
  refine rcalls Tryz.func45 rfl (by decide) ?_
  refine ⟨fun c1 => ?_, fun c1 => ?_⟩
  · have f1 : (b.length : Int) ≤ k := yes c1
    rw [if_pos (by omega)] at hR
    subst hR
    refine ⟨[], _, clone_vec v hv, ?_⟩
    rintro r hh ⟨rfl, rfl⟩
    refine ⟨.inl rfl, ?_⟩
    exact ⟨[], [], _, lehN _, .same _ trivial, rfl, rfl⟩
  · have f1 : ¬ (b.length : Int) ≤ k := no c1
    rw [if_neg (by omega)] at hR
    have hk1 : (k : Int).toNat * 1 + 0 = k := by omega
    have hj := join_prog v (rowM b ((k : Int).toNat * 1 + 0)) (by omega) (by rw [hk1]; have := hb.2 k (by omega); omega)
    rw [show ofF (maxF (cntF v) (cntF (rowM b ((k : Int).toNat * 1 + 0)))) = R by rw [hk1]; exact hR] at hj
    refine ⟨⟨by omega, by omega⟩, ?_⟩
    refine ⟨[], _, hj, ?_⟩
    rintro r hh ⟨rfl, rfl⟩
    refine ⟨.inl rfl, ?_⟩
    exact ⟨[], [], _, lehN _, .same _ trivial, rfl, rfl⟩

theorem vclo {F : FuncId} {f : Nat → AV} {n : Nat} {g : Nat → AV} {b : List Vc1} (h0 : f 0 = .rp 1 g) (h1 : g 0 = matV b) : VLe (.clo (.func F) 1 f) (clo1 F (.rp 1 fun _ => matV b)) := fun w S L v hv => by
  obtain ⟨vs, e, hn, hd⟩ := hv
  refine ⟨vs, e, hn, fun i hi => ?_⟩
  obtain rfl : i = 0 := by omega
  obtain ⟨u, g1, g2⟩ := hd 0 hi
  refine ⟨u, g1, ?_⟩
  rw [h0] at g2
  obtain ⟨A, e1, g3⟩ := g2
  refine ⟨A, e1, fun i hi => ?_⟩
  obtain rfl : i = 0 := by omega
  obtain ⟨u', g4, g5⟩ := g3 0 hi
  rw [h1] at g5
  exact ⟨u', g4, g5⟩

set_option maxHeartbeats 2000000 in
set_option maxRecDepth 10000 in
theorem join_mat (a b : List Vc1) (ha : szM a) (hb : szM b) : ACalls Tryz.prog 15 [matV a, matV b] [] (fun r h => r = matV (joinM a b) ∧ h = []) := by
  have h1 : a.length < b.length → _ := fun h => turned_clo b 45 a (fun i => if a.length ≤ i then rowM b i else joinV (rowM b i) (rowM a i)) hb.1 fun k hk => by
    have := joinRuleM a k (rowM b k) ha (hb.2 k hk)
    rwa [show (k : Int).toNat * 1 + 0 = k by omega]
  have h2 : ¬ a.length < b.length → _ := fun h => turned_clo a 45 b (fun i => if b.length ≤ i then rowM a i else joinV (rowM a i) (rowM b i)) ha.1 fun k hk => by
    have := joinRuleM b k (rowM a k) hb (ha.2 k hk)
    rwa [show (k : Int).toNat * 1 + 0 = k by omega]
  have g1 : a.length < b.length → _ := fun h => joinM_comm a b (by omega)
  have g2 : ¬ a.length < b.length → _ := fun h => joinM_long a b (by omega)
  generalize joinM a b = R at *
  refine rcalls Tryz.func15 rfl (by decide) ?_
  refine ⟨fun c1 => ?_, fun c1 => ?_⟩
  · have f1 : (a.length : Int) < b.length := yes c1
    have hR := g1 (by omega)
    refine ⟨[1000], _, (h1 (by omega)).args ⟨.refl _, vclo (n := 0) rfl rfl, trivial⟩, ?_⟩
    rintro r hh ⟨rfl, rfl⟩
    refine ⟨.inl rfl, ?_⟩
    refine ⟨[], [], _, lehN _, giveMat rfl (by simp) (by rw [hR, mapM_len]; omega) (by rw [hR, mapM_len]) (fun i hi => ?_), rfl, rfl⟩
    rw [hR, mapM_len] at hi
    rw [hR, mapM_row hi]
    rfl
  · have f1 : ¬ (a.length : Int) < b.length := no c1
    have hR := g2 (by omega)
    refine ⟨[1000], _, (h2 (by omega)).args ⟨.refl _, vclo (n := 0) rfl rfl, trivial⟩, ?_⟩
    rintro r hh ⟨rfl, rfl⟩
    refine ⟨.inl rfl, ?_⟩
    refine ⟨[], [], _, lehN _, giveMat rfl (by simp) (by rw [hR, mapM_len]; omega) (by rw [hR, mapM_len]) (fun i hi => ?_), rfl, rfl⟩
    rw [hR, mapM_len] at hi
    rw [hR, mapM_row hi]
    rfl

end
end Go.Proofs.YthckagkciefliaaGreatDoor.Mt

/-
  Events: a line's event.
-/
set_option linter.unusedVariables false
set_option linter.unusedSectionVars false
namespace Go.Proofs.YthckagkciefliaaGreatDoor.Ev
open Go AL Spl Hx Dt Vc Pa

noncomputable def putE (ps : List ByteArray) : Ev := { abE 1 ps with sum := Hx.parseD (intsOf (sAt ps 4)), size := readV (sAt ps 5) 65536 }
def okHead (ps : List ByteArray) : Prop := Dt.parseE (sAt ps 1) = 0 ∧ parseVE (sAt ps 2) = 0
def okDel (ps : List ByteArray) : Prop := ps.length = 4 ∧ sAt ps 0 = dl ∧ okHead ps ∧ mayE (abE 2 ps)
def okPut (ps : List ByteArray) : Prop := ps.length = 6 ∧ sAt ps 0 = pt ∧ (okHead ps ∧ Hx.parseE (intsOf (sAt ps 4)) = 0 ∧ readE (sAt ps 5) 65536 = 0) ∧ mayE (putE ps)
def noneE : Ev := ⟨0, 0, [], 0, ByteArray.empty, zeros, 0⟩
open Classical in
noncomputable def parseEv (ps : List ByteArray) : Ev := if okDel ps then abE 2 ps else if okPut ps then putE ps else noneE
open Classical in
noncomputable def parseEe (ps : List ByteArray) : Int := if okDel ps ∨ okPut ps then 0 else 2

theorem pcs_size (c : UInt8) (s : ByteArray) (k : Nat) : (sAt (pcs c s) k).size ≤ s.size := by
  have hl : s.data.toList.length = s.size := rfl
  have hj := join_pieces c s.data.toList
  rcases Nat.lt_or_ge k (pieces c s.data.toList).length with hk | hk
  · rw [pcs_at hk, bA_size]
    have := rest_len c (pieces c s.data.toList) k hk
    rw [hj, hl] at this
    rcases Nat.lt_or_ge (k + 1) (pieces c s.data.toList).length with h | h
    · rw [rest_more h, List.length_append] at this; omega
    · rw [rest_last (by omega)] at this; omega
  · unfold sAt pcs
    rw [List.getD_eq_getElem?_getD, List.getElem?_eq_none (by rw [List.length_map]; exact hk)]
    exact Nat.zero_le _
theorem pcs_len (c : UInt8) (s : ByteArray) : (pcs c s).length ≤ s.size + 1 := by
  unfold pcs
  rw [List.length_map, pieces_len]
  have := List.count_le_length (a := c) (l := s.data.toList)
  have hl : s.data.toList.length = s.size := rfl
  omega

theorem readV_range (s : ByteArray) {m : Int} (hm : 0 ≤ m) : 0 ≤ readV s m ∧ readV s m ≤ m := by
  unfold readV
  split
  · rename_i h
    have := Classical.choose_spec h
    split
    · omega
    · have h1 : 0 ≤ Classical.choose h := this.1
      omega
  · omega
theorem fit_ab (kind : Int) (ps : List ByteArray) (hz : ∀ k, (sAt ps k).size ≤ 1099511627776) : Fit (abE kind ps) := by
  refine ⟨?_, by have := hz 3; show (sAt ps 3).size ≤ _; omega, by simp [abE, zeros], ?_, ?_, by show -9223372036854775808 ≤ (0 : Int) ∧ (0 : Int) < 9223372036854775808; omega⟩
  · have := Mt.parseV_small (sAt ps 2)
    show (parseVL (sAt ps 2)).length ≤ _
    omega
  · intro x hx
    have hx : x ∈ zeros := hx
    unfold zeros at hx
    have := (List.mem_replicate.1 hx).2
    omega
  · show -9223372036854775808 ≤ Dt.parseQ (sAt ps 1) ∧ Dt.parseQ (sAt ps 1) < 9223372036854775808
    unfold Dt.parseQ
    split
    · have := readV_range (rightS (sAt ps 1)) (m := 1099511627776) (by omega)
      omega
    · omega
theorem fit_put (ps : List ByteArray) (hz : ∀ k, (sAt ps k).size ≤ 1099511627776) (h32 : (Hx.parseD (intsOf (sAt ps 4))).length = 32) (hb : ∀ x ∈ Hx.parseD (intsOf (sAt ps 4)), 0 ≤ x ∧ x < 256) : Fit (putE ps) := by
  have h := fit_ab 1 ps hz
  have := readV_range (sAt ps 5) (m := 65536) (by omega)
  exact ⟨h.deps, h.path, h32, hb, h.q, by show -9223372036854775808 ≤ readV (sAt ps 5) 65536 ∧ readV (sAt ps 5) 65536 < 9223372036854775808; omega⟩

section
variable [Globs]
theorem vint {k : IntKind} {a b : Int} (h : a = b) : VLe (int k a) (int k b) := by subst h; exact .refl _

set_option maxHeartbeats 4000000 in
set_option maxRecDepth 10000 in
theorem parse_event (hG : NumG) (s : ByteArray) (hs : s.size ≤ 1099511627776) : ACalls Tryz.prog 22 [str s] [] (fun r h => r = .tup 2 (pair (evV (parseEv (pcs 32 s))) (int .i64 (parseEe (pcs 32 s)))) ∧ h = []) := by
  have hsp := split_prog s 32 hs
  obtain ⟨hl, hz⟩ : (pcs 32 s).length ≤ 1099511627777 ∧ ∀ k, (sAt (pcs 32 s) k).size ≤ 1099511627776 := ⟨by have := pcs_len 32 s; omega, fun k => Nat.le_trans (pcs_size 32 s k) hs⟩
  generalize pcs 32 s = ps at *
  have fit2 := fit_ab 2 ps hz
  have ha2 := fun h => about_event hG 2 ps h (by omega) (by have := hz 1; omega) (hz 2)
  have hm2 := may_event hG (abE 2 ps) fit2
  have ha1 := fun h => about_event hG 1 ps h (by omega) (by have := hz 1; omega) (hz 2)
  have hx4 := Hx.parse_prog (sAt ps 4) (by have := hz 4; omega)
  have hr5 := read_prog hG (sAt ps 5) 65536 (by have := hz 5; omega)
  obtain ⟨h32, hb32⟩ := parseD_ok (intsOf (sAt ps 4))
  unfold Hx.ParseR at hx4
  unfold ReadR at hr5
  have fd : okDel ps → parseEv ps = abE 2 ps ∧ parseEe ps = 0 := fun h => ⟨if_pos h, if_pos (.inl h)⟩
  have fp : ¬ okDel ps → okPut ps → parseEv ps = putE ps ∧ parseEe ps = 0 := fun h g => ⟨by unfold parseEv; rw [if_neg h, if_pos g], if_pos (.inr g)⟩
  have fn : ¬ okDel ps → ¬ okPut ps → parseEv ps = noneE ∧ parseEe ps = 2 := fun h g => ⟨by unfold parseEv; rw [if_neg h, if_neg g], if_neg fun e => e.elim h g⟩
  have kd : okDel ps ↔ ps.length = 4 ∧ sAt ps 0 = dl ∧ okHead ps ∧ mayE (abE 2 ps) := Iff.rfl
  have kp : okPut ps ↔ ps.length = 6 ∧ sAt ps 0 = pt ∧ (okHead ps ∧ Hx.parseE (intsOf (sAt ps 4)) = 0 ∧ readE (sAt ps 5) 65536 = 0) ∧ mayE (putE ps) := Iff.rfl
  have cells : ∀ {e : Ev} {h : List AO} {l : List Nat} {f : Nat → AV}, (∀ i, i < 38 → f i = evC e i) → LeV h l (.agg 38 f) (evV e) := fun {e} h l f hc => .agg _ _ _ fun i hi => by
    rw [hc i hi]; exact .same _ (ev_free e i)
  have cellsL : ∀ {e : Ev} {h : List AO} {l : List Nat} {f : Nat → AV}, (∀ i, i < 38 → LeV h l (f i) (evC e i)) → LeV h l (.agg 38 f) (evV e) := fun {e} h l f hc => .agg _ _ _ hc
  generalize parseEv ps = EV at *
  generalize parseEe ps = EE at *
  refine rcalls Tryz.func22 rfl (by decide) ?_
  refine ⟨[], _, hsp, ?_⟩
  rintro r hh ⟨rfl, rfl⟩
  refine ⟨.inl rfl, ?_⟩
  refine ⟨fun c1 => ⟨⟨by omega, by have := yes c1; omega⟩, fun c2 => ?_, fun c2 => ?_⟩, fun c1 => ?_⟩
  · have c1 : (ps.length : Int) = 4 := yes c1
    refine ⟨[], _, ha2 (by omega), ?_⟩
    rintro r hh ⟨rfl, rfl⟩
    refine ⟨.inl rfl, ?_⟩
    refine ⟨fun g => ?_, fun g => ?_⟩
    · refine ⟨[], _, fun i hi => ?_, hm2.args ⟨vagg fun i hi => ?_, trivial⟩, ?_⟩
      · match i, hi with
        | 0, _ => trivial
        | 1, _ => trivial
        | 2, _ => trivial
        | 3, _ => trivial
        | 4, _ => trivial
        | 5, _ => trivial
        | 6, _ => trivial
        | 7, _ => trivial
        | 8, _ => trivial
        | 9, _ => trivial
        | 10, _ => trivial
        | 11, _ => trivial
        | 12, _ => trivial
        | 13, _ => trivial
        | 14, _ => trivial
        | 15, _ => trivial
        | 16, _ => trivial
        | 17, _ => trivial
        | 18, _ => trivial
        | 19, _ => trivial
        | 20, _ => trivial
        | 21, _ => trivial
        | 22, _ => trivial
        | 23, _ => trivial
        | 24, _ => trivial
        | 25, _ => trivial
        | 26, _ => trivial
        | 27, _ => trivial
        | 28, _ => trivial
        | 29, _ => trivial
        | 30, _ => trivial
        | 31, _ => trivial
        | 32, _ => trivial
        | 33, _ => trivial
        | 34, _ => trivial
        | 35, _ => trivial
        | 36, _ => trivial
        | 37, _ => trivial
        | k + 38, h => exact absurd (show k + 38 < 38 from h) (by omega)
      · match i, hi with
        | 0, _ => exact .refl _
        | 1, _ => exact .refl _
        | 2, _ => exact .refl _
        | 3, _ => exact .refl _
        | 4, _ => exact .refl _
        | 5, _ => exact .refl _
        | 6, _ => exact .refl _
        | 7, _ => exact .refl _
        | 8, _ => exact .refl _
        | 9, _ => exact .refl _
        | 10, _ => exact .refl _
        | 11, _ => exact .refl _
        | 12, _ => exact .refl _
        | 13, _ => exact .refl _
        | 14, _ => exact .refl _
        | 15, _ => exact .refl _
        | 16, _ => exact .refl _
        | 17, _ => exact .refl _
        | 18, _ => exact .refl _
        | 19, _ => exact .refl _
        | 20, _ => exact .refl _
        | 21, _ => exact .refl _
        | 22, _ => exact .refl _
        | 23, _ => exact .refl _
        | 24, _ => exact .refl _
        | 25, _ => exact .refl _
        | 26, _ => exact .refl _
        | 27, _ => exact .refl _
        | 28, _ => exact .refl _
        | 29, _ => exact .refl _
        | 30, _ => exact .refl _
        | 31, _ => exact .refl _
        | 32, _ => exact .refl _
        | 33, _ => exact .refl _
        | 34, _ => exact .refl _
        | 35, _ => exact .refl _
        | 36, _ => exact .refl _
        | 37, _ => exact .refl _
        | k + 38, h => exact absurd (show k + 38 < 38 from h) (by omega)
      rintro r h ⟨rfl, rfl⟩
      refine ⟨.inl rfl, ?_⟩
      refine ⟨fun m => ?_, fun m => ?_⟩
      · have hg : Dt.parseE (sAt ps 1) = 0 ∧ parseVE (sAt ps 2) = 0 := yes g
        obtain ⟨rfl, rfl⟩ := fd (kd.2 ⟨by omega, yes c2, hg, yes m⟩)
        refine ⟨[], [], _, lehN _, le_pair (a := evV (abE 2 ps)) (cells fun i hi => ?_) (leI rfl), rfl, rfl⟩
        match i, hi with
        | 0, _ => rfl
        | 1, _ => rfl
        | 2, _ => rfl
        | 3, _ => rfl
        | 4, _ => rfl
        | 5, _ => rfl
        | 6, _ => rfl
        | 7, _ => rfl
        | 8, _ => rfl
        | 9, _ => rfl
        | 10, _ => rfl
        | 11, _ => rfl
        | 12, _ => rfl
        | 13, _ => rfl
        | 14, _ => rfl
        | 15, _ => rfl
        | 16, _ => rfl
        | 17, _ => rfl
        | 18, _ => rfl
        | 19, _ => rfl
        | 20, _ => rfl
        | 21, _ => rfl
        | 22, _ => rfl
        | 23, _ => rfl
        | 24, _ => rfl
        | 25, _ => rfl
        | 26, _ => rfl
        | 27, _ => rfl
        | 28, _ => rfl
        | 29, _ => rfl
        | 30, _ => rfl
        | 31, _ => rfl
        | 32, _ => rfl
        | 33, _ => rfl
        | 34, _ => rfl
        | 35, _ => rfl
        | 36, _ => rfl
        | 37, _ => rfl
        | k + 38, h => exact absurd (show k + 38 < 38 from h) (by omega)
      · obtain ⟨rfl, rfl⟩ := fn (fun h => no m h.2.2.2) (fun h => by have := h.1; omega)
        refine ⟨[], [], _, lehN _, le_pair (a := evV noneE) (cellsL fun i hi => ?_) (leI rfl), rfl, rfl⟩
        match i, hi with
        | 0, _ => exact leI rfl
        | 1, _ => exact leI rfl
        | 2, _ => exact .nilR _ _
        | 3, _ => exact leI rfl
        | 4, _ => exact leS rfl
        | 5, _ => exact leI rfl
        | 6, _ => exact leI rfl
        | 7, _ => exact leI rfl
        | 8, _ => exact leI rfl
        | 9, _ => exact leI rfl
        | 10, _ => exact leI rfl
        | 11, _ => exact leI rfl
        | 12, _ => exact leI rfl
        | 13, _ => exact leI rfl
        | 14, _ => exact leI rfl
        | 15, _ => exact leI rfl
        | 16, _ => exact leI rfl
        | 17, _ => exact leI rfl
        | 18, _ => exact leI rfl
        | 19, _ => exact leI rfl
        | 20, _ => exact leI rfl
        | 21, _ => exact leI rfl
        | 22, _ => exact leI rfl
        | 23, _ => exact leI rfl
        | 24, _ => exact leI rfl
        | 25, _ => exact leI rfl
        | 26, _ => exact leI rfl
        | 27, _ => exact leI rfl
        | 28, _ => exact leI rfl
        | 29, _ => exact leI rfl
        | 30, _ => exact leI rfl
        | 31, _ => exact leI rfl
        | 32, _ => exact leI rfl
        | 33, _ => exact leI rfl
        | 34, _ => exact leI rfl
        | 35, _ => exact leI rfl
        | 36, _ => exact leI rfl
        | 37, _ => exact leI rfl
        | k + 38, h => exact absurd (show k + 38 < 38 from h) (by omega)
    · obtain ⟨rfl, rfl⟩ := fn (fun h => (no g : ¬ (Dt.parseE (sAt ps 1) = 0 ∧ parseVE (sAt ps 2) = 0)) h.2.2.1) (fun h => by have := h.1; omega)
      refine ⟨[], [], _, lehN _, le_pair (a := evV noneE) (cellsL fun i hi => ?_) (leI rfl), rfl, rfl⟩
      match i, hi with
      | 0, _ => exact leI rfl
      | 1, _ => exact leI rfl
      | 2, _ => exact .nilR _ _
      | 3, _ => exact leI rfl
      | 4, _ => exact leS rfl
      | 5, _ => exact leI rfl
      | 6, _ => exact leI rfl
      | 7, _ => exact leI rfl
      | 8, _ => exact leI rfl
      | 9, _ => exact leI rfl
      | 10, _ => exact leI rfl
      | 11, _ => exact leI rfl
      | 12, _ => exact leI rfl
      | 13, _ => exact leI rfl
      | 14, _ => exact leI rfl
      | 15, _ => exact leI rfl
      | 16, _ => exact leI rfl
      | 17, _ => exact leI rfl
      | 18, _ => exact leI rfl
      | 19, _ => exact leI rfl
      | 20, _ => exact leI rfl
      | 21, _ => exact leI rfl
      | 22, _ => exact leI rfl
      | 23, _ => exact leI rfl
      | 24, _ => exact leI rfl
      | 25, _ => exact leI rfl
      | 26, _ => exact leI rfl
      | 27, _ => exact leI rfl
      | 28, _ => exact leI rfl
      | 29, _ => exact leI rfl
      | 30, _ => exact leI rfl
      | 31, _ => exact leI rfl
      | 32, _ => exact leI rfl
      | 33, _ => exact leI rfl
      | 34, _ => exact leI rfl
      | 35, _ => exact leI rfl
      | 36, _ => exact leI rfl
      | 37, _ => exact leI rfl
      | k + 38, h => exact absurd (show k + 38 < 38 from h) (by omega)
  · have c1 : (ps.length : Int) = 4 := yes c1
    refine ⟨fun c3 => absurd (yes c3) (by omega), fun _ => ?_⟩
    obtain ⟨rfl, rfl⟩ := fn (fun h => no c2 h.2.1) (fun h => by have := h.1; omega)
    refine ⟨[], [], _, lehN _, le_pair (a := evV noneE) (cellsL fun i hi => ?_) (leI rfl), rfl, rfl⟩
    match i, hi with
    | 0, _ => exact leI rfl
    | 1, _ => exact leI rfl
    | 2, _ => exact .nilR _ _
    | 3, _ => exact leI rfl
    | 4, _ => exact leS rfl
    | 5, _ => exact leI rfl
    | 6, _ => exact leI rfl
    | 7, _ => exact leI rfl
    | 8, _ => exact leI rfl
    | 9, _ => exact leI rfl
    | 10, _ => exact leI rfl
    | 11, _ => exact leI rfl
    | 12, _ => exact leI rfl
    | 13, _ => exact leI rfl
    | 14, _ => exact leI rfl
    | 15, _ => exact leI rfl
    | 16, _ => exact leI rfl
    | 17, _ => exact leI rfl
    | 18, _ => exact leI rfl
    | 19, _ => exact leI rfl
    | 20, _ => exact leI rfl
    | 21, _ => exact leI rfl
    | 22, _ => exact leI rfl
    | 23, _ => exact leI rfl
    | 24, _ => exact leI rfl
    | 25, _ => exact leI rfl
    | 26, _ => exact leI rfl
    | 27, _ => exact leI rfl
    | 28, _ => exact leI rfl
    | 29, _ => exact leI rfl
    | 30, _ => exact leI rfl
    | 31, _ => exact leI rfl
    | 32, _ => exact leI rfl
    | 33, _ => exact leI rfl
    | 34, _ => exact leI rfl
    | 35, _ => exact leI rfl
    | 36, _ => exact leI rfl
    | 37, _ => exact leI rfl
    | k + 38, h => exact absurd (show k + 38 < 38 from h) (by omega)
  · have c1 : ¬ (ps.length : Int) = 4 := no c1
    refine ⟨fun c3 => ⟨⟨by omega, by have := yes c3; omega⟩, fun c4 => ?_, fun c4 => ?_⟩, fun c3 => ?_⟩
    · have c3 : (ps.length : Int) = 6 := yes c3
      refine ⟨[], _, ha1 (by omega), ?_⟩
      rintro r hh ⟨rfl, rfl⟩
      refine ⟨.inl rfl, ?_⟩
      refine ⟨⟨by omega, by omega⟩, ?_⟩
      refine ⟨[], _, hx4, ?_⟩
      rintro r hh ⟨rfl, rfl⟩
      refine ⟨.inl rfl, ?_⟩
      refine ⟨rfl, ?_⟩
      refine ⟨h32.symm, by decide, ?_⟩
      refine ⟨⟨by omega, by omega⟩, ?_⟩
      refine ⟨[], _, hr5, ?_⟩
      rintro r hh ⟨rfl, rfl⟩
      refine ⟨.inl rfl, ?_⟩
      have hlen : ((List.replicate 32 (0 : Int)).take 0 ++ Hx.parseD (intsOf (sAt ps 4)) ++ (List.replicate 32 (0 : Int)).drop (0 + (Hx.parseD (intsOf (sAt ps 4))).length)).length = 32 := by simp [h32]
      refine ⟨by rw [hlen]; decide, ?_⟩
      refine ⟨by rw [List.drop_zero, List.take_of_length_le (Nat.le_of_eq hlen), hlen], ?_⟩
      have hX : ((((List.replicate 32 (0 : Int)).take 0 ++ Hx.parseD (intsOf (sAt ps 4)) ++ (List.replicate 32 (0 : Int)).drop (0 + (Hx.parseD (intsOf (sAt ps 4))).length)).drop 0).take 32) = Hx.parseD (intsOf (sAt ps 4)) := by
        rw [List.drop_zero, List.take_of_length_le (Nat.le_of_eq hlen)]; simp [h32]
      have hm1 := may_event hG (putE ps) (fit_put ps hz h32 hb32)
      refine ⟨fun g => ⟨fun e4 => ⟨fun e5 => ?_, fun e5 => ?_⟩, fun e4 => ?_⟩, fun g => ?_⟩
      · refine ⟨[], _, fun i hi => ?_, hm1.args ⟨vagg fun i hi => ?_, trivial⟩, ?_⟩
        · match i, hi with
          | 0, _ => trivial
          | 1, _ => trivial
          | 2, _ => trivial
          | 3, _ => trivial
          | 4, _ => trivial
          | 5, _ => trivial
          | 6, _ => trivial
          | 7, _ => trivial
          | 8, _ => trivial
          | 9, _ => trivial
          | 10, _ => trivial
          | 11, _ => trivial
          | 12, _ => trivial
          | 13, _ => trivial
          | 14, _ => trivial
          | 15, _ => trivial
          | 16, _ => trivial
          | 17, _ => trivial
          | 18, _ => trivial
          | 19, _ => trivial
          | 20, _ => trivial
          | 21, _ => trivial
          | 22, _ => trivial
          | 23, _ => trivial
          | 24, _ => trivial
          | 25, _ => trivial
          | 26, _ => trivial
          | 27, _ => trivial
          | 28, _ => trivial
          | 29, _ => trivial
          | 30, _ => trivial
          | 31, _ => trivial
          | 32, _ => trivial
          | 33, _ => trivial
          | 34, _ => trivial
          | 35, _ => trivial
          | 36, _ => trivial
          | 37, _ => trivial
          | k + 38, h => exact absurd (show k + 38 < 38 from h) (by omega)
        · match i, hi with
          | 0, _ => exact .refl _
          | 1, _ => exact .refl _
          | 2, _ => exact .refl _
          | 3, _ => exact .refl _
          | 4, _ => exact .refl _
          | 5, _ => exact vint (congrArg (fun l : List Int => l.getD 0 0) hX)
          | 6, _ => exact vint (congrArg (fun l : List Int => l.getD 1 0) hX)
          | 7, _ => exact vint (congrArg (fun l : List Int => l.getD 2 0) hX)
          | 8, _ => exact vint (congrArg (fun l : List Int => l.getD 3 0) hX)
          | 9, _ => exact vint (congrArg (fun l : List Int => l.getD 4 0) hX)
          | 10, _ => exact vint (congrArg (fun l : List Int => l.getD 5 0) hX)
          | 11, _ => exact vint (congrArg (fun l : List Int => l.getD 6 0) hX)
          | 12, _ => exact vint (congrArg (fun l : List Int => l.getD 7 0) hX)
          | 13, _ => exact vint (congrArg (fun l : List Int => l.getD 8 0) hX)
          | 14, _ => exact vint (congrArg (fun l : List Int => l.getD 9 0) hX)
          | 15, _ => exact vint (congrArg (fun l : List Int => l.getD 10 0) hX)
          | 16, _ => exact vint (congrArg (fun l : List Int => l.getD 11 0) hX)
          | 17, _ => exact vint (congrArg (fun l : List Int => l.getD 12 0) hX)
          | 18, _ => exact vint (congrArg (fun l : List Int => l.getD 13 0) hX)
          | 19, _ => exact vint (congrArg (fun l : List Int => l.getD 14 0) hX)
          | 20, _ => exact vint (congrArg (fun l : List Int => l.getD 15 0) hX)
          | 21, _ => exact vint (congrArg (fun l : List Int => l.getD 16 0) hX)
          | 22, _ => exact vint (congrArg (fun l : List Int => l.getD 17 0) hX)
          | 23, _ => exact vint (congrArg (fun l : List Int => l.getD 18 0) hX)
          | 24, _ => exact vint (congrArg (fun l : List Int => l.getD 19 0) hX)
          | 25, _ => exact vint (congrArg (fun l : List Int => l.getD 20 0) hX)
          | 26, _ => exact vint (congrArg (fun l : List Int => l.getD 21 0) hX)
          | 27, _ => exact vint (congrArg (fun l : List Int => l.getD 22 0) hX)
          | 28, _ => exact vint (congrArg (fun l : List Int => l.getD 23 0) hX)
          | 29, _ => exact vint (congrArg (fun l : List Int => l.getD 24 0) hX)
          | 30, _ => exact vint (congrArg (fun l : List Int => l.getD 25 0) hX)
          | 31, _ => exact vint (congrArg (fun l : List Int => l.getD 26 0) hX)
          | 32, _ => exact vint (congrArg (fun l : List Int => l.getD 27 0) hX)
          | 33, _ => exact vint (congrArg (fun l : List Int => l.getD 28 0) hX)
          | 34, _ => exact vint (congrArg (fun l : List Int => l.getD 29 0) hX)
          | 35, _ => exact vint (congrArg (fun l : List Int => l.getD 30 0) hX)
          | 36, _ => exact vint (congrArg (fun l : List Int => l.getD 31 0) hX)
          | 37, _ => exact .refl _
          | k + 38, h => exact absurd (show k + 38 < 38 from h) (by omega)
        rintro r h ⟨rfl, rfl⟩
        refine ⟨.inl rfl, ?_⟩
        refine ⟨fun m => ?_, fun m => ?_⟩
        · have hg : Dt.parseE (sAt ps 1) = 0 ∧ parseVE (sAt ps 2) = 0 := yes g
          obtain ⟨rfl, rfl⟩ := fp (fun h => by have := h.1; omega) (kp.2 ⟨by omega, yes c4, ⟨hg, yes e4, yes e5⟩, yes m⟩)
          refine ⟨[], [], _, lehN _, le_pair (a := evV (putE ps)) (cellsL fun i hi => ?_) (leI rfl), rfl, rfl⟩
          match i, hi with
          | 0, _ => exact leI rfl
          | 1, _ => exact leI rfl
          | 2, _ => exact .same _ trivial
          | 3, _ => exact leI rfl
          | 4, _ => exact leS rfl
          | 5, _ => exact leI (congrArg (fun l : List Int => l.getD 0 0) hX)
          | 6, _ => exact leI (congrArg (fun l : List Int => l.getD 1 0) hX)
          | 7, _ => exact leI (congrArg (fun l : List Int => l.getD 2 0) hX)
          | 8, _ => exact leI (congrArg (fun l : List Int => l.getD 3 0) hX)
          | 9, _ => exact leI (congrArg (fun l : List Int => l.getD 4 0) hX)
          | 10, _ => exact leI (congrArg (fun l : List Int => l.getD 5 0) hX)
          | 11, _ => exact leI (congrArg (fun l : List Int => l.getD 6 0) hX)
          | 12, _ => exact leI (congrArg (fun l : List Int => l.getD 7 0) hX)
          | 13, _ => exact leI (congrArg (fun l : List Int => l.getD 8 0) hX)
          | 14, _ => exact leI (congrArg (fun l : List Int => l.getD 9 0) hX)
          | 15, _ => exact leI (congrArg (fun l : List Int => l.getD 10 0) hX)
          | 16, _ => exact leI (congrArg (fun l : List Int => l.getD 11 0) hX)
          | 17, _ => exact leI (congrArg (fun l : List Int => l.getD 12 0) hX)
          | 18, _ => exact leI (congrArg (fun l : List Int => l.getD 13 0) hX)
          | 19, _ => exact leI (congrArg (fun l : List Int => l.getD 14 0) hX)
          | 20, _ => exact leI (congrArg (fun l : List Int => l.getD 15 0) hX)
          | 21, _ => exact leI (congrArg (fun l : List Int => l.getD 16 0) hX)
          | 22, _ => exact leI (congrArg (fun l : List Int => l.getD 17 0) hX)
          | 23, _ => exact leI (congrArg (fun l : List Int => l.getD 18 0) hX)
          | 24, _ => exact leI (congrArg (fun l : List Int => l.getD 19 0) hX)
          | 25, _ => exact leI (congrArg (fun l : List Int => l.getD 20 0) hX)
          | 26, _ => exact leI (congrArg (fun l : List Int => l.getD 21 0) hX)
          | 27, _ => exact leI (congrArg (fun l : List Int => l.getD 22 0) hX)
          | 28, _ => exact leI (congrArg (fun l : List Int => l.getD 23 0) hX)
          | 29, _ => exact leI (congrArg (fun l : List Int => l.getD 24 0) hX)
          | 30, _ => exact leI (congrArg (fun l : List Int => l.getD 25 0) hX)
          | 31, _ => exact leI (congrArg (fun l : List Int => l.getD 26 0) hX)
          | 32, _ => exact leI (congrArg (fun l : List Int => l.getD 27 0) hX)
          | 33, _ => exact leI (congrArg (fun l : List Int => l.getD 28 0) hX)
          | 34, _ => exact leI (congrArg (fun l : List Int => l.getD 29 0) hX)
          | 35, _ => exact leI (congrArg (fun l : List Int => l.getD 30 0) hX)
          | 36, _ => exact leI (congrArg (fun l : List Int => l.getD 31 0) hX)
          | 37, _ => exact leI rfl
          | k + 38, h => exact absurd (show k + 38 < 38 from h) (by omega)
        · obtain ⟨rfl, rfl⟩ := fn (fun h => by have := h.1; omega) (fun h => no m h.2.2.2)
          refine ⟨[], [], _, lehN _, le_pair (a := evV noneE) (cellsL fun i hi => ?_) (leI rfl), rfl, rfl⟩
          match i, hi with
          | 0, _ => exact leI rfl
          | 1, _ => exact leI rfl
          | 2, _ => exact .nilR _ _
          | 3, _ => exact leI rfl
          | 4, _ => exact leS rfl
          | 5, _ => exact leI rfl
          | 6, _ => exact leI rfl
          | 7, _ => exact leI rfl
          | 8, _ => exact leI rfl
          | 9, _ => exact leI rfl
          | 10, _ => exact leI rfl
          | 11, _ => exact leI rfl
          | 12, _ => exact leI rfl
          | 13, _ => exact leI rfl
          | 14, _ => exact leI rfl
          | 15, _ => exact leI rfl
          | 16, _ => exact leI rfl
          | 17, _ => exact leI rfl
          | 18, _ => exact leI rfl
          | 19, _ => exact leI rfl
          | 20, _ => exact leI rfl
          | 21, _ => exact leI rfl
          | 22, _ => exact leI rfl
          | 23, _ => exact leI rfl
          | 24, _ => exact leI rfl
          | 25, _ => exact leI rfl
          | 26, _ => exact leI rfl
          | 27, _ => exact leI rfl
          | 28, _ => exact leI rfl
          | 29, _ => exact leI rfl
          | 30, _ => exact leI rfl
          | 31, _ => exact leI rfl
          | 32, _ => exact leI rfl
          | 33, _ => exact leI rfl
          | 34, _ => exact leI rfl
          | 35, _ => exact leI rfl
          | 36, _ => exact leI rfl
          | 37, _ => exact leI rfl
          | k + 38, h => exact absurd (show k + 38 < 38 from h) (by omega)
      · obtain ⟨rfl, rfl⟩ := fn (fun h => by have := h.1; omega) (fun h => no e5 h.2.2.1.2.2)
        refine ⟨[], [], _, lehN _, le_pair (a := evV noneE) (cellsL fun i hi => ?_) (leI rfl), rfl, rfl⟩
        match i, hi with
        | 0, _ => exact leI rfl
        | 1, _ => exact leI rfl
        | 2, _ => exact .nilR _ _
        | 3, _ => exact leI rfl
        | 4, _ => exact leS rfl
        | 5, _ => exact leI rfl
        | 6, _ => exact leI rfl
        | 7, _ => exact leI rfl
        | 8, _ => exact leI rfl
        | 9, _ => exact leI rfl
        | 10, _ => exact leI rfl
        | 11, _ => exact leI rfl
        | 12, _ => exact leI rfl
        | 13, _ => exact leI rfl
        | 14, _ => exact leI rfl
        | 15, _ => exact leI rfl
        | 16, _ => exact leI rfl
        | 17, _ => exact leI rfl
        | 18, _ => exact leI rfl
        | 19, _ => exact leI rfl
        | 20, _ => exact leI rfl
        | 21, _ => exact leI rfl
        | 22, _ => exact leI rfl
        | 23, _ => exact leI rfl
        | 24, _ => exact leI rfl
        | 25, _ => exact leI rfl
        | 26, _ => exact leI rfl
        | 27, _ => exact leI rfl
        | 28, _ => exact leI rfl
        | 29, _ => exact leI rfl
        | 30, _ => exact leI rfl
        | 31, _ => exact leI rfl
        | 32, _ => exact leI rfl
        | 33, _ => exact leI rfl
        | 34, _ => exact leI rfl
        | 35, _ => exact leI rfl
        | 36, _ => exact leI rfl
        | 37, _ => exact leI rfl
        | k + 38, h => exact absurd (show k + 38 < 38 from h) (by omega)
      · obtain ⟨rfl, rfl⟩ := fn (fun h => by have := h.1; omega) (fun h => no e4 h.2.2.1.2.1)
        refine ⟨[], [], _, lehN _, le_pair (a := evV noneE) (cellsL fun i hi => ?_) (leI rfl), rfl, rfl⟩
        match i, hi with
        | 0, _ => exact leI rfl
        | 1, _ => exact leI rfl
        | 2, _ => exact .nilR _ _
        | 3, _ => exact leI rfl
        | 4, _ => exact leS rfl
        | 5, _ => exact leI rfl
        | 6, _ => exact leI rfl
        | 7, _ => exact leI rfl
        | 8, _ => exact leI rfl
        | 9, _ => exact leI rfl
        | 10, _ => exact leI rfl
        | 11, _ => exact leI rfl
        | 12, _ => exact leI rfl
        | 13, _ => exact leI rfl
        | 14, _ => exact leI rfl
        | 15, _ => exact leI rfl
        | 16, _ => exact leI rfl
        | 17, _ => exact leI rfl
        | 18, _ => exact leI rfl
        | 19, _ => exact leI rfl
        | 20, _ => exact leI rfl
        | 21, _ => exact leI rfl
        | 22, _ => exact leI rfl
        | 23, _ => exact leI rfl
        | 24, _ => exact leI rfl
        | 25, _ => exact leI rfl
        | 26, _ => exact leI rfl
        | 27, _ => exact leI rfl
        | 28, _ => exact leI rfl
        | 29, _ => exact leI rfl
        | 30, _ => exact leI rfl
        | 31, _ => exact leI rfl
        | 32, _ => exact leI rfl
        | 33, _ => exact leI rfl
        | 34, _ => exact leI rfl
        | 35, _ => exact leI rfl
        | 36, _ => exact leI rfl
        | 37, _ => exact leI rfl
        | k + 38, h => exact absurd (show k + 38 < 38 from h) (by omega)
      · obtain ⟨rfl, rfl⟩ := fn (fun h => by have := h.1; omega) (fun h => (no g : ¬ (Dt.parseE (sAt ps 1) = 0 ∧ parseVE (sAt ps 2) = 0)) h.2.2.1.1)
        refine ⟨[], [], _, lehN _, le_pair (a := evV noneE) (cellsL fun i hi => ?_) (leI rfl), rfl, rfl⟩
        match i, hi with
        | 0, _ => exact leI rfl
        | 1, _ => exact leI rfl
        | 2, _ => exact .nilR _ _
        | 3, _ => exact leI rfl
        | 4, _ => exact leS rfl
        | 5, _ => exact leI rfl
        | 6, _ => exact leI rfl
        | 7, _ => exact leI rfl
        | 8, _ => exact leI rfl
        | 9, _ => exact leI rfl
        | 10, _ => exact leI rfl
        | 11, _ => exact leI rfl
        | 12, _ => exact leI rfl
        | 13, _ => exact leI rfl
        | 14, _ => exact leI rfl
        | 15, _ => exact leI rfl
        | 16, _ => exact leI rfl
        | 17, _ => exact leI rfl
        | 18, _ => exact leI rfl
        | 19, _ => exact leI rfl
        | 20, _ => exact leI rfl
        | 21, _ => exact leI rfl
        | 22, _ => exact leI rfl
        | 23, _ => exact leI rfl
        | 24, _ => exact leI rfl
        | 25, _ => exact leI rfl
        | 26, _ => exact leI rfl
        | 27, _ => exact leI rfl
        | 28, _ => exact leI rfl
        | 29, _ => exact leI rfl
        | 30, _ => exact leI rfl
        | 31, _ => exact leI rfl
        | 32, _ => exact leI rfl
        | 33, _ => exact leI rfl
        | 34, _ => exact leI rfl
        | 35, _ => exact leI rfl
        | 36, _ => exact leI rfl
        | 37, _ => exact leI rfl
        | k + 38, h => exact absurd (show k + 38 < 38 from h) (by omega)
    · obtain ⟨rfl, rfl⟩ := fn (fun h => by have := h.1; omega) (fun h => no c4 h.2.1)
      refine ⟨[], [], _, lehN _, le_pair (a := evV noneE) (cellsL fun i hi => ?_) (leI rfl), rfl, rfl⟩
      match i, hi with
      | 0, _ => exact leI rfl
      | 1, _ => exact leI rfl
      | 2, _ => exact .nilR _ _
      | 3, _ => exact leI rfl
      | 4, _ => exact leS rfl
      | 5, _ => exact leI rfl
      | 6, _ => exact leI rfl
      | 7, _ => exact leI rfl
      | 8, _ => exact leI rfl
      | 9, _ => exact leI rfl
      | 10, _ => exact leI rfl
      | 11, _ => exact leI rfl
      | 12, _ => exact leI rfl
      | 13, _ => exact leI rfl
      | 14, _ => exact leI rfl
      | 15, _ => exact leI rfl
      | 16, _ => exact leI rfl
      | 17, _ => exact leI rfl
      | 18, _ => exact leI rfl
      | 19, _ => exact leI rfl
      | 20, _ => exact leI rfl
      | 21, _ => exact leI rfl
      | 22, _ => exact leI rfl
      | 23, _ => exact leI rfl
      | 24, _ => exact leI rfl
      | 25, _ => exact leI rfl
      | 26, _ => exact leI rfl
      | 27, _ => exact leI rfl
      | 28, _ => exact leI rfl
      | 29, _ => exact leI rfl
      | 30, _ => exact leI rfl
      | 31, _ => exact leI rfl
      | 32, _ => exact leI rfl
      | 33, _ => exact leI rfl
      | 34, _ => exact leI rfl
      | 35, _ => exact leI rfl
      | 36, _ => exact leI rfl
      | 37, _ => exact leI rfl
      | k + 38, h => exact absurd (show k + 38 < 38 from h) (by omega)
    · obtain ⟨rfl, rfl⟩ := fn (fun h => by have := h.1; omega) (fun h => no c3 (by have := h.1; omega))
      refine ⟨[], [], _, lehN _, le_pair (a := evV noneE) (cellsL fun i hi => ?_) (leI rfl), rfl, rfl⟩
      match i, hi with
      | 0, _ => exact leI rfl
      | 1, _ => exact leI rfl
      | 2, _ => exact .nilR _ _
      | 3, _ => exact leI rfl
      | 4, _ => exact leS rfl
      | 5, _ => exact leI rfl
      | 6, _ => exact leI rfl
      | 7, _ => exact leI rfl
      | 8, _ => exact leI rfl
      | 9, _ => exact leI rfl
      | 10, _ => exact leI rfl
      | 11, _ => exact leI rfl
      | 12, _ => exact leI rfl
      | 13, _ => exact leI rfl
      | 14, _ => exact leI rfl
      | 15, _ => exact leI rfl
      | 16, _ => exact leI rfl
      | 17, _ => exact leI rfl
      | 18, _ => exact leI rfl
      | 19, _ => exact leI rfl
      | 20, _ => exact leI rfl
      | 21, _ => exact leI rfl
      | 22, _ => exact leI rfl
      | 23, _ => exact leI rfl
      | 24, _ => exact leI rfl
      | 25, _ => exact leI rfl
      | 26, _ => exact leI rfl
      | 27, _ => exact leI rfl
      | 28, _ => exact leI rfl
      | 29, _ => exact leI rfl
      | 30, _ => exact leI rfl
      | 31, _ => exact leI rfl
      | 32, _ => exact leI rfl
      | 33, _ => exact leI rfl
      | 34, _ => exact leI rfl
      | 35, _ => exact leI rfl
      | 36, _ => exact leI rfl
      | 37, _ => exact leI rfl
      | k + 38, h => exact absurd (show k + 38 < 38 from h) (by omega)

end
end Go.Proofs.YthckagkciefliaaGreatDoor.Ev

/-
  Events: a line's words, a line's event, there and back.
-/
set_option linter.unusedVariables false
set_option linter.unusedSectionVars false
namespace Go.Proofs.YthckagkciefliaaGreatDoor.Ev
open Go AL Spl Hx Dt Vc Pa

theorem num_no32 (n : Int) : ∀ c ∈ (numS n).data.toList, c ≠ 32 := by
  intro c hc
  by_cases h : 0 ≤ n
  · have := num_digits h c hc
    rintro rfl
    exact absurd this.1 (by decide)
  · rw [numS_list] at hc
    unfold Lib.itoa at hc
    rw [if_pos (by omega)] at hc
    rcases List.mem_cons.1 hc with rfl | hc
    · decide
    · have := dec_digit _ c hc
      rintro rfl
      exact absurd this.1 (by decide)
theorem textD_no32 (r q : Int) : ∀ c ∈ (textD r q).data.toList, c ≠ 32 := by
  intro c hc
  rw [text_list] at hc
  rcases List.mem_append.1 hc with h | h
  · exact num_no32 r c h
  · rcases List.mem_cons.1 h with rfl | h
    · decide
    · exact num_no32 q c h
theorem textV_no32 (l : List (Int × Int)) : ∀ c ∈ (textV l).data.toList, c ≠ 32 := by
  intro c hc
  by_cases h : l = []
  · unfold textV at hc
    rw [if_pos h] at hc
    have : c = 45 := by simpa [dash] using hc
    rw [this]; decide
  · rw [textV_ne h, ba_list] at hc
    rcases Mt.mem_join hc with rfl | ⟨p, hp, hx⟩
    · decide
    · obtain ⟨d, _, rfl⟩ := List.mem_map.1 hp
      exact textD_no32 _ _ c hx
theorem bytesOf_no32 {xs : List Int} (h : ∀ x ∈ xs, 33 ≤ x ∧ x < 256) : ∀ c ∈ (bytesOf xs).data.toList, c ≠ 32 := by
  intro c hc
  have hc : c ∈ (xs.map fun n => UInt8.ofNat n.toNat) := by simpa [bytesOf] using hc
  obtain ⟨n, hn, rfl⟩ := List.mem_map.1 hc
  have := h n hn
  intro e
  have e := congrArg UInt8.toNat e
  rw [UInt8.toNat_ofNat'] at e
  have e2 : (32 : UInt8).toNat = 32 := rfl
  rw [e2] at e
  omega
theorem hexL_33 : ∀ {xs : List Int}, (∀ x ∈ xs, 0 ≤ x ∧ x < 256) → ∀ y ∈ hexL xs, 33 ≤ y ∧ y < 256
  | [], _, y, hy => by simp [hexL] at hy
  | x :: xs, hx, y, hy => by
    have h1 := hx x (by simp)
    simp only [hexL, List.mem_cons] at hy
    rcases hy with rfl | rfl | hy
    · have := fig_range (n := x / 16) (by omega) (by omega); omega
    · have := fig_range (n := x % 16) (by omega) (by omega); omega
    · exact hexL_33 (fun z hz => hx z (by simp [hz])) y hy
theorem textS_no32 {xs : List Int} (hx : ∀ x ∈ xs, 0 ≤ x ∧ x < 256) : ∀ c ∈ (textS xs).data.toList, c ≠ 32 := bytesOf_no32 (hexL_33 hx)
theorem part_no32 {p : List UInt8} (h : okPart (bA p)) : ∀ c ∈ p, c ≠ 32 := by
  intro c hc
  letI : Globs := ⟨[]⟩
  obtain ⟨k, hk, rfl⟩ := List.mem_iff_getElem.1 hc
  have h5 := h.2.2.2.2 k (by rw [bA_size]; exact hk)
  obtain ⟨b, e1, e2⟩ := Pa.byte_get (s := bA p) (i := k) (by rw [bA_size]; exact hk)
  rw [bA_list, List.getElem?_eq_getElem hk] at e1
  rw [e2, ← Option.some.inj e1] at h5
  unfold letN at h5
  have h5 := of_decide_eq_true h5
  intro e
  rw [e] at h5
  have e3 : (((32 : UInt8).toNat : Nat) : Int) = 32 := rfl
  omega
theorem path_no32 {s : ByteArray} (h : okParts s) : ∀ c ∈ s.data.toList, c ≠ 32 := by
  intro c hc
  rw [← join_pieces 47 s.data.toList] at hc
  rcases Mt.mem_join hc with rfl | ⟨p, hp, hx⟩
  · decide
  · exact part_no32 (h p hp) c hx

theorem words_free {e : Ev} (h : mayE e) (hf : Fit e) : ∀ p ∈ (wordsE e).map (·.data.toList), ∀ x ∈ p, x ≠ 32 := by
  intro p hp
  obtain ⟨w, hw, rfl⟩ := List.mem_map.1 hp
  have hpath : okParts e.path := h.1.2.2.2.1.1
  unfold wordsE at hw
  split at hw
  · simp only [List.mem_cons, List.not_mem_nil, or_false] at hw
    rcases hw with rfl | rfl | rfl | rfl
    · decide
    · exact textD_no32 _ _
    · exact textV_no32 _
    · exact path_no32 hpath
  · simp only [List.mem_cons, List.not_mem_nil, or_false] at hw
    rcases hw with rfl | rfl | rfl | rfl | rfl | rfl
    · decide
    · exact textD_no32 _ _
    · exact textV_no32 _
    · exact path_no32 hpath
    · exact textS_no32 hf.byte
    · exact num_no32 _
theorem words_ne (e : Ev) : wordsE e ≠ [] := by unfold wordsE; split <;> simp
theorem lineT_list (ws : List ByteArray) : (lineT ws).data.toList = joinC 32 (ws.map (·.data.toList)) := by
  unfold lineT
  rw [show ([32] : List UInt8) = [(32 : UInt8)] from rfl, lib_join]
theorem bA_map (ws : List ByteArray) : (ws.map (·.data.toList)).map bA = ws := by
  rw [List.map_map]
  have : (bA ∘ fun x : ByteArray => x.data.toList) = id := funext fun s => bA_data s
  rw [this, List.map_id]
theorem pcs_line {ws : List ByteArray} (hne : ws ≠ []) (h : ∀ p ∈ ws.map (·.data.toList), ∀ x ∈ p, x ≠ 32) : pcs 32 (lineT ws) = ws := by
  unfold pcs
  rw [lineT_list, pieces_join (by simpa using hne) h, bA_map]
theorem line_pcs {e : Ev} (h : mayE e) (hf : Fit e) : pcs 32 (lineS e) = wordsE e := by
  unfold lineS
  rw [if_pos h]
  exact pcs_line (words_ne e) (words_free h hf)
/-- The pieces of a text, joined. -/
theorem line_of_pcs (s : ByteArray) : lineT (pcs 32 s) = s := by
  refine bA_ext ?_
  rw [lineT_list]
  unfold pcs
  rw [List.map_map]
  have : ((fun x : ByteArray => x.data.toList) ∘ bA) = id := funext fun s => bA_list s
  rw [this, List.map_id, join_pieces]

/-- An event that may be, out of its words. -/
theorem words_back {e : Ev} (h : mayE e) (hf : Fit e) : parseEv (wordsE e) = e ∧ parseEe (wordsE e) = 0 := by
  obtain ⟨r, q, deps, kind, path, sum, size⟩ := e
  obtain ⟨⟨hd, hv, hg, hp⟩, hk⟩ := id h
  dsimp only at hd hv hg hp hk
  have d1 := (Dt.parse_text (r := r) (q := q) (by have := hd.1; have := hd.2.1; omega) hf.q).1 hd
  have v1 := parse_textV (cnt_ok deps)
  rw [← hv] at v1
  have d0 := (Dt.parse_ok d1.1).1
  by_cases k2 : kind = 2
  · have hs : size = 0 ∧ sum = zeros := by
      rcases hk with hk | hk
      · have := hk.1; omega
      · exact hk.2
    obtain ⟨rfl, rfl⟩ := hs
    subst k2
    have hw : wordsE ⟨r, q, deps, 2, path, zeros, 0⟩ = [dl, textD r q, textV deps, path] := by
      unfold wordsE
      rw [if_pos rfl]
      dsimp only
      rw [← hv]
    rw [hw]
    have ha : abE 2 [dl, textD r q, textV deps, path] = ⟨r, q, deps, 2, path, zeros, 0⟩ := by
      show (⟨Dt.parseR (textD r q), Dt.parseQ (textD r q), parseVL (textV deps), 2, path, zeros, 0⟩ : Ev) = _
      rw [d1.2.1, d1.2.2, v1.2]
    have ok : okDel [dl, textD r q, textV deps, path] := ⟨rfl, rfl, ⟨d0, v1.1⟩, by rw [ha]; exact h⟩
    exact ⟨by unfold parseEv; rw [if_pos ok, ha], by unfold parseEe; rw [if_pos (.inl ok)]⟩
  · have hs : kind = 1 ∧ 0 ≤ size ∧ size ≤ 65536 := by
      rcases hk with hk | hk
      · exact hk
      · exact absurd hk.1 k2
    obtain ⟨rfl, s0, s1⟩ := hs
    have hw : wordsE ⟨r, q, deps, 1, path, sum, size⟩ = [pt, textD r q, textV deps, path, textS sum, numS size] := by
      unfold wordsE
      rw [if_neg (show ¬ (1 : Int) = 2 by decide)]
      dsimp only
      rw [← hv]
    rw [hw]
    obtain ⟨x1, x2, x3⟩ := Hx.parse_text hf.sum hf.byte
    have hn : isNum (numS size) size := ⟨s0, by omega, rfl⟩
    obtain ⟨n1, n2⟩ := read_ok hn (most := 65536) (by omega)
    dsimp only at x1 x2 x3
    have ha : putE [pt, textD r q, textV deps, path, textS sum, numS size] = ⟨r, q, deps, 1, path, sum, size⟩ := by
      show (⟨Dt.parseR (textD r q), Dt.parseQ (textD r q), parseVL (textV deps), 1, path, Hx.parseD (intsOf (textS sum)), readV (numS size) 65536⟩ : Ev) = _
      rw [d1.2.1, d1.2.2, v1.2, x2, n2]
    have no : ¬ okDel [pt, textD r q, textV deps, path, textS sum, numS size] := fun h => absurd (show (6 : Nat) = 4 from h.1) (by decide)
    have ok : okPut [pt, textD r q, textV deps, path, textS sum, numS size] := ⟨rfl, rfl, ⟨⟨d0, v1.1⟩, x1, n1⟩, by rw [ha]; exact h⟩
    exact ⟨by unfold parseEv; rw [if_neg no, if_pos ok, ha], by unfold parseEe; rw [if_pos (.inr ok)]⟩
/-- An event's line is parsed as it. -/
theorem parse_line {e : Ev} (h : mayE e) (hf : Fit e) : parseEv (pcs 32 (lineS e)) = e ∧ parseEe (pcs 32 (lineS e)) = 0 := by
  rw [line_pcs h hf]; exact words_back h hf

theorem parseE_ok {s : ByteArray} (h : Dt.parseE s = 0) : Dt.okP s := Classical.byContradiction fun hn => by rw [(Dt.parse_bad hn).1] at h; omega
theorem parseVE_ok {s : ByteArray} (h : parseVE s = 0) : okVec s := Classical.byContradiction fun hn => by rw [(parseV_bad hn).1] at h; omega
theorem four_list {ps : List ByteArray} (h : ps.length = 4) : ps = [sAt ps 0, sAt ps 1, sAt ps 2, sAt ps 3] := by
  match ps, h with
  | [a, b, c, d], _ => rfl
theorem six_list {ps : List ByteArray} (h : ps.length = 6) : ps = [sAt ps 0, sAt ps 1, sAt ps 2, sAt ps 3, sAt ps 4, sAt ps 5] := by
  match ps, h with
  | [a, b, c, d, e, f], _ => rfl
theorem del_words {ps : List ByteArray} (h : okDel ps) : wordsE (abE 2 ps) = ps := by
  obtain ⟨hl, h0, hh, hm⟩ := h
  have b1 := (Dt.parse_back (parseE_ok hh.1)).2
  have b2 := (parseV_back (parseVE_ok hh.2)).2
  have : wordsE (abE 2 ps) = [dl, textD (Dt.parseR (sAt ps 1)) (Dt.parseQ (sAt ps 1)), textV (ofF (cntF (parseVL (sAt ps 2)))), sAt ps 3] := if_pos rfl
  rw [this, b1, b2, ← h0]
  exact (four_list hl).symm
theorem put_words {ps : List ByteArray} (h : okPut ps) : wordsE (putE ps) = ps := by
  obtain ⟨hl, h0, ⟨hh, hx, hn⟩, hm⟩ := h
  have b1 := (Dt.parse_back (parseE_ok hh.1)).2
  have b2 := (parseV_back (parseVE_ok hh.2)).2
  have b3 := Hx.text_parse hx
  have b4 : numS (readV (sAt ps 5) 65536) = sAt ps 5 := (Dt.read_num hn).1.2.2.symm
  have : wordsE (putE ps) = [pt, textD (Dt.parseR (sAt ps 1)) (Dt.parseQ (sAt ps 1)), textV (ofF (cntF (parseVL (sAt ps 2)))), sAt ps 3, textS (Hx.parseD (intsOf (sAt ps 4))), numS (readV (sAt ps 5) 65536)] := if_neg (by show ¬ (1 : Int) = 2; decide)
  rw [this, b1, b2, b3, b4, ← h0]
  exact (six_list hl).symm
theorem parse_none {ps : List ByteArray} (h : parseEe ps ≠ 0) : parseEe ps = 2 ∧ parseEv ps = noneE ∧ ¬ okDel ps ∧ ¬ okPut ps := by
  unfold parseEe at *
  by_cases g : okDel ps ∨ okPut ps
  · rw [if_pos g] at h; exact absurd rfl h
  · rw [if_neg g]
    refine ⟨rfl, ?_, fun x => g (.inl x), fun x => g (.inr x)⟩
    unfold parseEv
    rw [if_neg fun x => g (.inl x), if_neg fun x => g (.inr x)]
/-- What is parsed may be, and has the very line. -/
theorem line_parse {s : ByteArray} (h : parseEe (pcs 32 s) = 0) : mayE (parseEv (pcs 32 s)) ∧ lineS (parseEv (pcs 32 s)) = s := by
  have hs := line_of_pcs s
  generalize pcs 32 s = ps at *
  have hb : okDel ps ∨ okPut ps := Classical.byContradiction fun hn => by unfold parseEe at h; rw [if_neg hn] at h; omega
  have fin : ∀ {e : Ev}, mayE e → wordsE e = ps → lineS e = s := fun {e} hm hw => by unfold lineS; rw [if_pos hm, hw, hs]
  by_cases hd : okDel ps
  · have : parseEv ps = abE 2 ps := if_pos hd
    rw [this]
    exact ⟨hd.2.2.2, fin hd.2.2.2 (del_words hd)⟩
  · have hp := hb.resolve_left hd
    have : parseEv ps = putE ps := by unfold parseEv; rw [if_neg hd, if_pos hp]
    rw [this]
    exact ⟨hp.2.2.2, fin hp.2.2.2 (put_words hp)⟩
theorem fit_parse {s : ByteArray} (hs : s.size ≤ 1099511627776) : Fit (parseEv (pcs 32 s)) := by
  have hz : ∀ k, (sAt (pcs 32 s) k).size ≤ 1099511627776 := fun k => Nat.le_trans (pcs_size 32 s k) hs
  unfold parseEv
  split
  · exact fit_ab 2 _ hz
  · split
    · obtain ⟨h32, hb32⟩ := parseD_ok (intsOf (sAt (pcs 32 s) 4))
      exact fit_put _ hz h32 hb32
    · exact ⟨by show 0 ≤ _; omega, by show 0 ≤ _; omega, by decide, by decide, by decide, by decide⟩

/-- The event of the first question. -/
def e0 : Ev := ⟨0, 1, [], 1, ⟨#[97]⟩, 3 :: List.replicate 31 0, 3⟩
def t0 : ByteArray := ⟨#[112, 117, 116, 32, 48, 58, 49, 32, 45, 32, 97, 32] ++ #[48, 51] ++ Array.replicate 62 48 ++ #[32, 51]⟩
theorem e0_fit : Fit e0 := ⟨by decide, by decide, by decide, by decide, by decide, by decide⟩
theorem own_a : okOwn ⟨#[97]⟩ := by decide +kernel
theorem e0_may : mayE e0 := ⟨⟨by decide, by decide, by decide, own_a⟩, .inl (by decide)⟩
theorem x3 : numS 3 = ⟨#[51]⟩ := by rw [numS_small (by decide) (by decide)]; decide
theorem x01 : textD 0 1 = ⟨#[48, 58, 49]⟩ := by
  unfold textD
  rw [numS_small (n := 0) (by decide) (by decide), numS_small (n := 1) (by decide) (by decide)]
  decide
theorem e0_words : wordsE e0 = [pt, ⟨#[48, 58, 49]⟩, dash, ⟨#[97]⟩, textS e0.sum, ⟨#[51]⟩] := by
  have h : wordsE e0 = [pt, textD 0 1, textV (ofF (cntF [])), ⟨#[97]⟩, textS e0.sum, numS 3] := if_neg (by decide)
  rw [h, x01, x3]
  rfl
theorem e0_line : lineS e0 = t0 := by
  unfold lineS
  rw [if_pos e0_may, e0_words]
  decide +kernel

end Go.Proofs.YthckagkciefliaaGreatDoor.Ev

/-
  Events: their order is one. No program in sight.
-/
set_option linter.unusedVariables false
namespace Go.Proofs.YthckagkciefliaaGreatDoor.Ev
open Go AL Spl Hx Dt Vc Pa

theorem less_iff : ∀ (x y : List UInt8), Op.bytesLess x y = true ↔ x < y
  | [], [] => by simp [Op.bytesLess]
  | _ :: _, [] => by simp [Op.bytesLess]
  | [], _ :: _ => by simp [Op.bytesLess]
  | a :: x, b :: y => by
    unfold Op.bytesLess
    rw [List.cons_lt_cons_iff, Bool.or_eq_true, Bool.and_eq_true, less_iff x y]
    simp
theorem ltS_iff {x y : ByteArray} : ltS x y = true ↔ x.toList < y.toList := by
  exact less_iff _ _
theorem toList_inj {x y : ByteArray} (h : x.toList = y.toList) : x = y := by
  rw [Lib.toList_data, Lib.toList_data] at h
  exact bA_ext h
theorem ltS_irr (x : ByteArray) : ¬ ltS x x = true := fun h => List.lt_irrefl _ (ltS_iff.1 h)
theorem ltS_trans {x y z : ByteArray} (h : ltS x y = true) (g : ltS y z = true) : ltS x z = true := ltS_iff.2 (List.lt_trans (ltS_iff.1 h) (ltS_iff.1 g))
theorem ltS_tri {x y : ByteArray} (h : ¬ ltS x y = true) (g : ¬ ltS y x = true) : x = y := by
  rw [ltS_iff] at h g
  exact toList_inj (List.le_antisymm (List.not_lt.1 g) (List.not_lt.1 h))
theorem cmpS_cases (x y : ByteArray) : ltS x y = true ∧ cmpS x y = -1 ∨ x = y ∧ cmpS x y = 0 ∨ ltS y x = true ∧ cmpS x y = 1 := by
  unfold cmpS
  by_cases h : ltS x y = true
  · exact .inl ⟨h, if_pos h⟩
  · rw [if_neg h]
    by_cases g : x = y
    · exact .inr (.inl ⟨g, if_pos g⟩)
    · rw [if_neg g]
      exact .inr (.inr ⟨Classical.byContradiction fun k => g (ltS_tri h k), rfl⟩)
theorem cmpS_lt {x y : ByteArray} (h : ltS x y = true) : cmpS x y = -1 := if_pos h
theorem cmpS_eq (x : ByteArray) : cmpS x x = 0 := by unfold cmpS; rw [if_neg (ltS_irr x), if_pos rfl]
theorem cmpS_gt {x y : ByteArray} (h : ltS y x = true) : cmpS x y = 1 := by
  unfold cmpS
  rw [if_neg fun g => ltS_irr _ (ltS_trans h g), if_neg fun g => by subst g; exact ltS_irr _ h]
theorem dot_anti (a b c d : Int) : cmpD c d a b = -cmpD a b c d := by unfold cmpD; (repeat' split) <;> omega
theorem dot_zero (a b c d : Int) : cmpD a b c d = 0 ↔ a = c ∧ b = d := by unfold cmpD; (repeat' split) <;> omega
theorem dot_range (a b c d : Int) : -1 ≤ cmpD a b c d ∧ cmpD a b c d ≤ 1 := by unfold cmpD; (repeat' split) <;> omega
theorem dot_le (a b c d e f : Int) : cmpD a b c d > 0 ∨ cmpD c d e f > 0 ∨ cmpD a b e f ≤ 0 := by unfold cmpD; (repeat' split) <;> omega
theorem dot_lt (a b c d e f : Int) : cmpD a b c d ≥ 0 ∨ cmpD c d e f ≥ 0 ∨ cmpD a b e f < 0 := by unfold cmpD; (repeat' split) <;> omega
theorem cmpE_lt {e f : Ev} (h : ltS e.path f.path = true) : cmpE e f = -1 := by
  unfold cmpE; rw [cmpS_lt h]; rfl
theorem cmpE_eq {e f : Ev} (h : e.path = f.path) : cmpE e f = cmpD e.r e.q f.r f.q := by
  unfold cmpE; rw [h, cmpS_eq, if_pos rfl]
theorem cmpE_gt {e f : Ev} (h : ltS f.path e.path = true) : cmpE e f = 1 := by
  unfold cmpE; rw [cmpS_gt h]; rfl
theorem cmpE_cases (e f : Ev) : ltS e.path f.path = true ∧ cmpE e f = -1 ∧ cmpE f e = 1 ∨ e.path = f.path ∧ cmpE e f = cmpD e.r e.q f.r f.q ∧ cmpE f e = cmpD f.r f.q e.r e.q ∨ ltS f.path e.path = true ∧ cmpE e f = 1 ∧ cmpE f e = -1 := by
  rcases cmpS_cases e.path f.path with ⟨h, _⟩ | ⟨h, _⟩ | ⟨h, _⟩
  · exact .inl ⟨h, cmpE_lt h, cmpE_gt h⟩
  · exact .inr (.inl ⟨h, cmpE_eq h, cmpE_eq h.symm⟩)
  · exact .inr (.inr ⟨h, cmpE_gt h, cmpE_lt h⟩)
theorem cmpE_anti (e f : Ev) : cmpE f e = -cmpE e f := by
  rcases cmpE_cases e f with ⟨_, h, g⟩ | ⟨_, h, g⟩ | ⟨_, h, g⟩
  · omega
  · rw [h, g]; exact dot_anti ..
  · omega
theorem cmpE_range (e f : Ev) : -1 ≤ cmpE e f ∧ cmpE e f ≤ 1 := by
  have := dot_range e.r e.q f.r f.q
  rcases cmpE_cases e f with ⟨_, h, g⟩ | ⟨_, h, g⟩ | ⟨_, h, g⟩ <;> omega
theorem cmpE_zero (e f : Ev) : cmpE e f = 0 ↔ e.path = f.path ∧ e.r = f.r ∧ e.q = f.q := by
  rcases cmpE_cases e f with ⟨p, h, g⟩ | ⟨p, h, g⟩ | ⟨p, h, g⟩
  · refine ⟨fun x => by omega, fun x => ?_⟩
    rw [x.1] at p; exact absurd p (ltS_irr _)
  · rw [h, dot_zero]
    exact ⟨fun x => ⟨p, x⟩, fun x => x.2⟩
  · refine ⟨fun x => by omega, fun x => ?_⟩
    rw [x.1] at p; exact absurd p (ltS_irr _)
theorem cmpE_le (e f g : Ev) : cmpE e f > 0 ∨ cmpE f g > 0 ∨ cmpE e g ≤ 0 := by
  rcases cmpE_cases e f with ⟨p, h, _⟩ | ⟨p, h, _⟩ | ⟨p, h, _⟩
  · rcases cmpE_cases f g with ⟨p', h', _⟩ | ⟨p', h', _⟩ | ⟨p', h', _⟩
    · rw [cmpE_lt (ltS_trans p p')]; omega
    · rw [cmpE_lt (e := e) (f := g) (by rw [← p']; exact p)]; omega
    · omega
  · rcases cmpE_cases f g with ⟨p', h', _⟩ | ⟨p', h', _⟩ | ⟨p', h', _⟩
    · rw [cmpE_lt (e := e) (f := g) (by rw [p]; exact p')]; omega
    · rw [h, h', cmpE_eq (p.trans p')]; exact dot_le ..
    · omega
  · omega
theorem cmpE_less (e f g : Ev) : cmpE e f ≥ 0 ∨ cmpE f g ≥ 0 ∨ cmpE e g < 0 := by
  rcases cmpE_cases e f with ⟨p, h, _⟩ | ⟨p, h, _⟩ | ⟨p, h, _⟩
  · rcases cmpE_cases f g with ⟨p', h', _⟩ | ⟨p', h', _⟩ | ⟨p', h', _⟩
    · rw [cmpE_lt (ltS_trans p p')]; omega
    · rw [cmpE_lt (e := e) (f := g) (by rw [← p']; exact p)]; omega
    · omega
  · rcases cmpE_cases f g with ⟨p', h', _⟩ | ⟨p', h', _⟩ | ⟨p', h', _⟩
    · rw [cmpE_lt (e := e) (f := g) (by rw [p]; exact p')]; omega
    · rw [h, h', cmpE_eq (p.trans p')]; exact dot_lt ..
    · omega
  · omega

end Go.Proofs.YthckagkciefliaaGreatDoor.Ev

/-
  What the laws of events ask first.
-/
set_option linter.unusedVariables false
set_option linter.unusedSectionVars false
namespace Go.Proofs.YthckagkciefliaaGreatDoor.Ev
open Go AL Spl Hx Dt Vc Pa

theorem e0_lineE : lineE e0 = 0 := if_pos e0_may

section
variable [Globs]
/-- An event's cells in a box, over what stood there. -/
theorem box2_at (e : Ev) {i : Nat} (hi : i < 38) (z : List AV) : (z.take 0 ++ (List.range 38).map (evC e) ++ z.drop (0 + 38)).getD (0 + i) .top = evC e i := by
  rw [Nat.zero_add, List.take_zero, List.nil_append, List.getD_eq_getElem?_getD, List.getElem?_append_left (by simp [hi])]
  simp [hi]
theorem box2_free (e : Ev) (z : List AV) : ∀ i, i < 38 → ((z.take 0 ++ (List.range 38).map (evC e) ++ z.drop (0 + 38)).getD (0 + i) .top).free := fun i hi => by rw [box2_at e hi]; exact ev_free e i
theorem vbox2 (e : Ev) (z : List AV) : VLe (.agg 38 fun i => (z.take 0 ++ (List.range 38).map (evC e) ++ z.drop (0 + 38)).getD (0 + i) .top) (evV e) := vagg fun i hi => by rw [box2_at e hi]; exact .refl _

set_option maxHeartbeats 4000000 in
set_option maxRecDepth 10000 in
theorem awake_event (hG : NumG) : ACalls Tryz.prog 19 [] [] (fun r h => r = .tt ∧ h = []) := by
  have hp := parse_event hG t0 (by decide)
  have hb := parse_line e0_may e0_fit
  rw [e0_line] at hb
  rw [hb.1, hb.2] at hp
  have hl := line_event hG e0 e0_fit
  rw [e0_line, e0_lineE] at hl
  have hm := (may_event hG e0 e0_fit).yes (decide_eq_true e0_may)
  refine rcalls Tryz.func19 rfl (by decide) ?_
  refine ⟨[], _, hp, ?_⟩
  rintro r hh ⟨rfl, rfl⟩
  refine ⟨.inl rfl, ?_⟩
  refine ⟨[], _, box2_free e0 _, hl.args ⟨vbox2 e0 _, trivial⟩, ?_⟩
  rintro r hh ⟨rfl, rfl⟩
  refine ⟨.inl rfl, ?_⟩
  refine ⟨fun _ => ?_, fun e => absurd rfl (no e)⟩
  refine ⟨fun _ => ?_, fun e => absurd rfl (no e)⟩
  refine ⟨fun _ => ?_, fun e => absurd rfl (no e)⟩
  refine ⟨⟨by decide +kernel, by decide +kernel, by decide +kernel⟩, fun _ => ?_, fun e => ?_⟩
  · refine ⟨fun _ => ?_, fun e => absurd rfl (no e)⟩
    refine ⟨rfl, rfl, fun _ => ?_, fun e => absurd (by decide) (no e)⟩
    refine ⟨[], _, box2_free e0 _, hm.args ⟨vbox2 e0 _, trivial⟩, ?_⟩
    rintro r hh ⟨rfl, rfl⟩
    refine ⟨.inl rfl, ?_⟩
    exact ⟨[], [], _, lehN _, .tt, rfl, rfl⟩
  · exact absurd e (by decide)

end
end Go.Proofs.YthckagkciefliaaGreatDoor.Ev

/-
  The laws of event, walked: EventOrder, EventTells.
-/
set_option linter.unusedVariables false
set_option linter.unusedSectionVars false
namespace Go.Proofs.YthckagkciefliaaGreatDoor.Ev
open Go AL Spl Hx Dt Vc Pa

theorem leaf2 {a b c d : Int} : (leafEq (.int .i64 a) (.int .i64 c) && (leafEq (.int .i64 b) (.int .i64 d) && true)) = true ↔ a = c ∧ b = d := by
  simp [leafEq]
theorem eqB3 {x a b c d : Int} (h : x = 0 ↔ a = c ∧ b = d) : (decide (x = 0) == (leafEq (.int .i64 a) (.int .i64 c) && (leafEq (.int .i64 b) (.int .i64 d) && true))) = true := by
  by_cases h1 : x = 0
  · have := leaf2.2 (h.1 h1)
    rw [this, decide_eq_true h1]; rfl
  · have : (leafEq (.int .i64 a) (.int .i64 c) && (leafEq (.int .i64 b) (.int .i64 d) && true)) = false := by
      cases hb : (leafEq (.int .i64 a) (.int .i64 c) && (leafEq (.int .i64 b) (.int .i64 d) && true)) with
      | false => rfl
      | true => exact absurd (h.2 (leaf2.1 hb)) h1
    rw [this, decide_eq_false h1]; rfl
theorem nof {b : Bool} (h : b = false) (g : b = true) : False := by rw [h] at g; cases g

section
variable [Globs]

set_option maxHeartbeats 4000000 in
set_option maxRecDepth 10000 in
theorem order_event (hG : NumG) (e f g : Ev) (he : Fit e) (hf : Fit f) (hg : Fit g) : ACalls Tryz.prog 8 [evV e, evV f, evV g] [] (fun r h => r = .tt ∧ h = []) := by
  have ha := awake_event hG
  have h1 := compare_event e f
  have h2 := compare_event f g
  have h3 := compare_event e g
  have h4 := compare_event f e
  have k1 := cmpE_anti e f
  have k2 := cmpE_zero e f
  have k3 := cmpE_le e f g
  have k4 := cmpE_less e f g
  have k5 := cmpE_range e f
  have k6 : ltS e.path f.path = true → cmpE e f = -1 := cmpE_lt
  generalize cmpE e f = X at *
  generalize cmpE f g = Y at *
  generalize cmpE e g = Z at *
  generalize cmpE f e = W at *
  have k7 : W = IntKind.i64.wrap (0 - X) := by rw [w64 (by omega) (by omega)]; omega
  refine rcalls Tryz.func8 rfl (by decide) ?_
  refine ⟨[], _, ha, ?_⟩
  rintro r hh ⟨rfl, rfl⟩
  refine ⟨.inl rfl, ?_⟩
  refine ⟨[], _, box_free e, box_free f, h1.args ⟨vbox e, vbox f, trivial⟩, ?_⟩
  rintro r hh ⟨rfl, rfl⟩
  refine ⟨.inl rfl, ?_⟩
  refine ⟨[], _, box_free f, box_free g, h2.args ⟨vbox f, vbox g, trivial⟩, ?_⟩
  rintro r hh ⟨rfl, rfl⟩
  refine ⟨.inl rfl, ?_⟩
  refine ⟨[], _, box_free e, box_free g, h3.args ⟨vbox e, vbox g, trivial⟩, ?_⟩
  rintro r hh ⟨rfl, rfl⟩
  refine ⟨.inl rfl, ?_⟩
  refine ⟨[], _, box_free f, box_free e, h4.args ⟨vbox f, vbox e, trivial⟩, ?_⟩
  rintro r hh ⟨rfl, rfl⟩
  refine ⟨.inl rfl, ?_⟩
  refine ⟨fun _ => ?_, fun g => absurd k7 (no g)⟩
  refine ⟨fun p => ?_, fun p => ?_⟩
  · refine ⟨⟨by decide +kernel, by decide +kernel, by decide +kernel⟩, ?_⟩
    refine ⟨fun _ => ?_, fun g => (nof g (eqB3 (k2.trans ⟨fun h => h.2, fun h => ⟨yes p, h⟩⟩))).elim⟩
    refine ⟨fun g1 => ?_, fun g1 => ⟨fun g2 => ?_, fun g2 => ⟨fun g3 => ?_, fun g3 => ?_⟩⟩⟩
    case refine_4 => exact absurd (no g3) (by have := no g1; have := no g2; omega)
    all_goals
      refine ⟨fun g5 => ?_, fun g5 => ⟨fun g6 => ?_, fun g6 => ⟨fun g7 => ?_, fun g7 => ?_⟩⟩⟩
    all_goals first
      | exact absurd (no g7) (by have := no g5; have := no g6; omega)
      | (refine ⟨fun q => ?_, fun q => ?_⟩
         · exact ⟨[], [], .tt, lehN _, .tt, rfl, rfl⟩
         · exact ⟨[], [], .tt, lehN _, leTT (decide_eq_true (k6 (by have q : (!(ltS e.path f.path)) = false := q; cases hb : ltS e.path f.path <;> simp_all))), rfl, rfl⟩)
  · refine ⟨fun _ => ?_, fun g => (nof g (by rw [decide_eq_false fun h => no p (k2.1 h).1]; rfl)).elim⟩
    refine ⟨fun g1 => ?_, fun g1 => ⟨fun g2 => ?_, fun g2 => ⟨fun g3 => ?_, fun g3 => ?_⟩⟩⟩
    case refine_4 => exact absurd (no g3) (by have := no g1; have := no g2; omega)
    all_goals
      refine ⟨fun g5 => ?_, fun g5 => ⟨fun g6 => ?_, fun g6 => ⟨fun g7 => ?_, fun g7 => ?_⟩⟩⟩
    all_goals first
      | exact absurd (no g7) (by have := no g5; have := no g6; omega)
      | (refine ⟨fun q => ?_, fun q => ?_⟩
         · exact ⟨[], [], .tt, lehN _, .tt, rfl, rfl⟩
         · exact ⟨[], [], .tt, lehN _, leTT (decide_eq_true (k6 (by have q : (!(ltS e.path f.path)) = false := q; cases hb : ltS e.path f.path <;> simp_all))), rfl, rfl⟩)

set_option maxHeartbeats 4000000 in
set_option maxRecDepth 10000 in
theorem tells_event (hG : NumG) (e f : Ev) (he : Fit e) (hf : Fit f) : ACalls Tryz.prog 9 [evV e, evV f] [] (fun r h => r = .tt ∧ h = []) := by
  have ha := awake_event hG
  have h1 := may_event hG e he
  have h2 := may_eref e he
  have h3 := knows_event e f he.deps
  have h4 := knows_eref e f he.deps
  have h5 := compare_event e f
  have h6 := compare_eref e f
  have h7 := same_event e f he hf
  have h8 := same_eref e f he hf
  generalize decide (mayE e) = M at *
  generalize decide (mayD f.r f.q ∧ f.q ≤ getV e.deps f.r) = K at *
  generalize cmpE e f = C at *
  generalize decide (sameE e f) = D at *
  refine rcalls Tryz.func9 rfl (by decide) ?_
  refine ⟨[], _, ha, ?_⟩
  rintro r hh ⟨rfl, rfl⟩
  refine ⟨.inl rfl, ?_⟩
  refine ⟨fun c => ?_, fun c => ⟨fun c2 => ?_, fun c2 => ?_⟩⟩
  · exact ⟨[], [], _, lehN _, .tt, rfl, rfl⟩
  · exact ⟨[], [], _, lehN _, .tt, rfl, rfl⟩
  · have hx : ∀ b : Bool, (b == b) = true := fun b => by cases b <;> rfl
    refine .inl ⟨⟨by decide +kernel, by decide +kernel⟩, ?_⟩
    refine ⟨.bool M, box_free e, (h1.mono fun r h ⟨e1, e2⟩ => ⟨.inl e1, e2⟩).args ⟨vbox e, trivial⟩, ?_⟩
    refine ⟨.bool M, box_free e, (h2.mono fun r h ⟨e1, e2⟩ => ⟨.inl e1, e2⟩).args ⟨vbox e, trivial⟩, ?_⟩
    refine ⟨fun _ => ?_, fun g => (nof g (hx _)).elim⟩
    refine ⟨.bool K, box_free e, box_free f, (h3.mono fun r h ⟨e1, e2⟩ => ⟨.inl e1, e2⟩).args ⟨vbox e, vbox f, trivial⟩, ?_⟩
    refine ⟨.bool K, box_free e, box_free f, (h4.mono fun r h ⟨e1, e2⟩ => ⟨.inl e1, e2⟩).args ⟨vbox e, vbox f, trivial⟩, ?_⟩
    refine ⟨fun _ => ?_, fun g => (nof g (hx _)).elim⟩
    refine ⟨.int .i64 C, box_free e, box_free f, (h5.mono fun r h ⟨e1, e2⟩ => ⟨.inl e1, e2⟩).args ⟨vbox e, vbox f, trivial⟩, ?_⟩
    refine ⟨.int .i64 C, box_free e, box_free f, (h6.mono fun r h ⟨e1, e2⟩ => ⟨.inl e1, e2⟩).args ⟨vbox e, vbox f, trivial⟩, ?_⟩
    refine ⟨fun _ => ?_, fun g => absurd rfl (no g)⟩
    refine ⟨.bool D, box_free e, box_free f, (h7.mono fun r h ⟨e1, e2⟩ => ⟨.inl e1, e2⟩).args ⟨vbox e, vbox f, trivial⟩, ?_⟩
    refine ⟨.bool D, box_free e, box_free f, (h8.mono fun r h ⟨e1, e2⟩ => ⟨.inl e1, e2⟩).args ⟨vbox e, vbox f, trivial⟩, ?_⟩
    exact ⟨[], [], .tt, lehN _, leTT (hx _), rfl, rfl⟩

end
end Go.Proofs.YthckagkciefliaaGreatDoor.Ev

/-
  What every row of this program's laws wants: its knobs and its layout.
-/
namespace Go.Proofs.YthckagkciefliaaGreatDoor.AL
open Go Go.RowKit Go.ChangeShapes

theorem own : ownKnob Tryz.prog.godebug = none := by kernel_rfl
theorem laidOut : laidOutB Tryz.prog = true := by kernel_rfl
theorem wf_i64 {n : Int} (h : (Lit.int .i64 n).wf = true) : -9223372036854775808 ≤ n ∧ n < 9223372036854775808 := by
  simp only [Lit.wf, Bool.and_eq_true, decide_eq_true_eq] at h; exact ⟨Int.le_trans (by decide) h.1, Int.lt_of_le_of_lt h.2 (by decide)⟩
theorem wf_u8 {n : Int} (h : (Lit.int .u8 n).wf = true) : 0 ≤ n ∧ n < 256 := by
  simp only [Lit.wf, Bool.and_eq_true, decide_eq_true_eq] at h; exact ⟨Int.le_trans (by decide) h.1, Int.lt_of_le_of_lt h.2 (by decide)⟩
theorem wf_u16 {n : Int} (h : (Lit.int .u16 n).wf = true) : 0 ≤ n ∧ n < 65536 := by
  simp only [Lit.wf, Bool.and_eq_true, decide_eq_true_eq] at h; exact ⟨Int.le_trans (by decide) h.1, Int.lt_of_le_of_lt h.2 (by decide)⟩
theorem wf_u32 {n : Int} (h : (Lit.int .u32 n).wf = true) : 0 ≤ n ∧ n < 4294967296 := by
  simp only [Lit.wf, Bool.and_eq_true, decide_eq_true_eq] at h; exact ⟨Int.le_trans (by decide) h.1, Int.lt_of_le_of_lt h.2 (by decide)⟩
end Go.Proofs.YthckagkciefliaaGreatDoor.AL

/-
  What the laws' rows list gives the walks: strconv's two errors and its table of powers.
-/
set_option linter.unusedVariables false
namespace Go.Proofs.YthckagkciefliaaGreatDoor.Hx
open Go AL

abbrev numGlobs : Globs := ⟨[(2, isIfc), (3, isIfc), (1, isTab)]⟩
theorem numG : @NumG numGlobs := @NumG.mk numGlobs (.head _) (.tail _ (.head _)) (.tail _ (.tail _ (.head _)))

theorem heap_of_var {P : Program} {W : World} {n : String} {g : Nat} {cs : Array Value} (hn : P.globalNamed n = some g) (hv : W.var? P n = some cs) : g < W.heap.size ∧ ∃ el fr, W.heap[g]? = some (.cells cs el fr) := by
  simp only [World.var?, hn, Option.bind_some] at hv
  split at hv
  · rename_i c el fr e
    cases hv
    exact ⟨(Array.getElem?_eq_some_iff.1 e).1, el, fr, e⟩
  · cases hv

theorem errRow (u : TypeId) (h : Tryz.prog.typeName? 3 u = some "*errors.errorString") : u = 201 :=
  typeName_ptr_named (nm := "errors.errorString") (by kernel_rfl) (by kernel_rfl) (by decide) u h

def laidNum : List (String × DataW Unit) := [("math/bits.deBruijn32tab", Rows.laid_math_bits_deBruijn32tab), ("math/bits.deBruijn64tab", Rows.laid_math_bits_deBruijn64tab), ("internal/strconv.uint64pow10", Rows.laid_internal_strconv_uint64pow10), ("strconv.ErrRange", Rows.laid_strconv_ErrRange), ("strconv.ErrSyntax", Rows.laid_strconv_ErrSyntax)]

theorem glob_num {W : World} (hL : laidMetH Tryz.prog laidNum W) : @Glob numGlobs (fun b => b < W.heap.size) W := by
  rw [MakeChecks.laidMetH_plain _ _ _ (by kernel_rfl)] at hL
  have h3 : laidMet Tryz.prog (("internal/strconv.uint64pow10", Lib.tabData .u64 Lib.pow10Tab) :: [("strconv.ErrRange", Rows.laid_strconv_ErrRange), ("strconv.ErrSyntax", Rows.laid_strconv_ErrSyntax)]) W := hL.tail.tail
  have ht := Lib.tabIs_of_head (P := Tryz.prog) (g := 1) (t := 183) (e := 170) (n := 20) (by kernel_rfl) (by kernel_rfl) (by kernel_rfl) (by kernel_rfl) (by kernel_rfl) (by kernel_rfl) h3
  have h4 := h3.tail
  obtain ⟨a1, s1, hv1, -, -, -⟩ := laid_sentinel (g := 3) (ti := 128) (tp := 201) (te := 203) (ts := 9) h4 (by kernel_rfl) (by kernel_rfl) Tryz.underlying128 errRow Tryz.underlying201 Tryz.underlying203 rfl rfl Tryz.underlying9 (by kernel_rfl) (by kernel_rfl)
  obtain ⟨a0, s0, hv0, -, -, -⟩ := laid_sentinel (g := 2) (ti := 128) (tp := 201) (te := 203) (ts := 9) h4.tail (by kernel_rfl) (by kernel_rfl) Tryz.underlying128 errRow Tryz.underlying201 Tryz.underlying203 rfl rfl Tryz.underlying9 (by kernel_rfl) (by kernel_rfl)
  intro g hg
  have hg : g ∈ [(2, isIfc), (3, isIfc), (1, isTab)] := hg
  simp only [List.mem_cons, List.not_mem_nil, or_false] at hg
  rcases hg with rfl | rfl | rfl
  · obtain ⟨h1, el, fr, h2⟩ := heap_of_var (P := Tryz.prog) (by kernel_rfl) hv0
    exact ⟨h1, _, el, fr, h2, _, _, rfl⟩
  · obtain ⟨h1, el, fr, h2⟩ := heap_of_var (P := Tryz.prog) (by kernel_rfl) hv1
    exact ⟨h1, _, el, fr, h2, _, _, rfl⟩
  · obtain ⟨h1, el, fr, h2⟩ := heap_of_var (P := Tryz.prog) (by kernel_rfl) ht
    exact ⟨h1, _, el, fr, h2, rfl⟩

end Go.Proofs.YthckagkciefliaaGreatDoor.Hx

/-
  What the vectors' laws' rows list gives the walks.
-/
set_option linter.unusedVariables false
namespace Go.Proofs.YthckagkciefliaaGreatDoor.Hx
open Go AL

def laidVec : List (String × DataW Unit) := [("math/bits.deBruijn32tab", Rows.laid_math_bits_deBruijn32tab), ("math/bits.deBruijn64tab", Rows.laid_math_bits_deBruijn64tab), ("internal/strconv.uint64pow10", Rows.laid_internal_strconv_uint64pow10), ("unicode/utf8.acceptRanges", Rows.laid_unicode_utf8_acceptRanges), ("strconv.ErrRange", Rows.laid_strconv_ErrRange), ("strconv.ErrSyntax", Rows.laid_strconv_ErrSyntax), ("unicode/utf8.first", Rows.laid_unicode_utf8_first)]

theorem glob_vec {W : World} (hL : laidMetH Tryz.prog laidVec W) : @Glob numGlobs (fun b => b < W.heap.size) W := by
  rw [MakeChecks.laidMetH_plain _ _ _ (by kernel_rfl)] at hL
  have h3 : laidMet Tryz.prog (("internal/strconv.uint64pow10", Lib.tabData .u64 Lib.pow10Tab) :: [("unicode/utf8.acceptRanges", Rows.laid_unicode_utf8_acceptRanges), ("strconv.ErrRange", Rows.laid_strconv_ErrRange), ("strconv.ErrSyntax", Rows.laid_strconv_ErrSyntax), ("unicode/utf8.first", Rows.laid_unicode_utf8_first)]) W := hL.tail.tail
  have ht := Lib.tabIs_of_head (P := Tryz.prog) (g := 1) (t := 183) (e := 170) (n := 20) (by kernel_rfl) (by kernel_rfl) (by kernel_rfl) (by kernel_rfl) (by kernel_rfl) (by kernel_rfl) h3
  have h4 := h3.tail.tail
  obtain ⟨a1, s1, hv1, -, -, -⟩ := laid_sentinel (g := 3) (ti := 128) (tp := 201) (te := 203) (ts := 9) h4 (by kernel_rfl) (by kernel_rfl) Tryz.underlying128 errRow Tryz.underlying201 Tryz.underlying203 rfl rfl Tryz.underlying9 (by kernel_rfl) (by kernel_rfl)
  obtain ⟨a0, s0, hv0, -, -, -⟩ := laid_sentinel (g := 2) (ti := 128) (tp := 201) (te := 203) (ts := 9) h4.tail (by kernel_rfl) (by kernel_rfl) Tryz.underlying128 errRow Tryz.underlying201 Tryz.underlying203 rfl rfl Tryz.underlying9 (by kernel_rfl) (by kernel_rfl)
  intro g hg
  have hg : g ∈ [(2, isIfc), (3, isIfc), (1, isTab)] := hg
  simp only [List.mem_cons, List.not_mem_nil, or_false] at hg
  rcases hg with rfl | rfl | rfl
  · obtain ⟨h1, el, fr, h2⟩ := heap_of_var (P := Tryz.prog) (by kernel_rfl) hv0
    exact ⟨h1, _, el, fr, h2, _, _, rfl⟩
  · obtain ⟨h1, el, fr, h2⟩ := heap_of_var (P := Tryz.prog) (by kernel_rfl) hv1
    exact ⟨h1, _, el, fr, h2, _, _, rfl⟩
  · obtain ⟨h1, el, fr, h2⟩ := heap_of_var (P := Tryz.prog) (by kernel_rfl) ht
    exact ⟨h1, _, el, fr, h2, rfl⟩

end Go.Proofs.YthckagkciefliaaGreatDoor.Hx

/-
  A struct of two whole numbers that came in by value. No program in sight.
-/
set_option linter.unusedVariables false
namespace Go.Proofs.YthckagkciefliaaGreatDoor.AL
open Go Go.ChangeShapes Go.WideShapes Go.ChangeAt Go.RowKit Go.Deep Go.Joins Go.WideElems

section
variable {H : Type} {enc : TypeId × Value → H} {P : Program}

theorem open_dot {W : World} {base : Nat} {t : TypeId} {f0 f1 : Field} {v : Value} {d : DataW H} {ps : List MemPlace} (hs : P.underlying t = some (.struct #[f0, f1])) (hone : oneCellFields P #[f0, f1] = true) (hC : P.cellsOf t = 2)
    (h0 : P.underlying f0.type = some (.int .i64)) (h1 : P.underlying f1.type = some (.int .i64)) (hval : Value.okWide P W .any base t v) (h : DataW.Trod enc P W 0 (fun _ => true) true t v d ps) :
    ∃ a b : Int, v = .agg #[.int .i64 a, .int .i64 b] ∧ (Lit.int .i64 a).wf = true ∧ (Lit.int .i64 b).wf = true := by
  obtain ⟨v0, v1, y0, y1, n, rfl, _, _, g0, g1⟩ := open_agg2 hs hone hC hval h
  obtain ⟨a, e0, _, w0⟩ := DataW.trod_int h0 g0
  obtain ⟨b, e1, _, w1⟩ := DataW.trod_int h1 g1
  simp at e0 e1
  subst e0 e1
  exact ⟨a, b, rfl, w0, w1⟩
theorem den_dot {W : World} {S : Nat → Prop} {L : Loc} {a b : Int} : den W S L (dotV a b) (.agg #[.int .i64 a, .int .i64 b]) := ⟨_, rfl, rfl, fun i hi => by
  match i, hi with
  | 0, _ => exact ⟨_, rfl, rfl⟩
  | 1, _ => exact ⟨_, rfl, rfl⟩⟩

end
end Go.Proofs.YthckagkciefliaaGreatDoor.AL

/-
  A list of structs of two whole numbers that came in. No program in sight.
-/
set_option linter.unusedVariables false
namespace Go.Proofs.YthckagkciefliaaGreatDoor.AL
open Go Go.ChangeShapes Go.WideShapes Go.ChangeAt Go.RowKit Go.Deep Go.Joins Go.WideElems
open Go.Proofs.YthckagkciefliaaGreatDoor.Vc

section
variable {H : Type} {enc : TypeId × Value → H} {P : Program}

def cellI (w : World) (a : Addr) : Int :=
  match w.cell? a with
  | some (.int _ z) => z
  | _ => 0
theorem open_vec {W : World} {base : Nat} {t e : TypeId} {f0 f1 : Field} {v : Value} {d : DataW H} {ps : List MemPlace} (ht : P.underlying t = some (.slice e)) (hs : P.underlying e = some (.struct #[f0, f1])) (hone : oneCellFields P #[f0, f1] = true) (hC : P.cellsOf e = 2)
    (h0 : P.underlying f0.type = some (.int .i64)) (h1 : P.underlying f1.type = some (.int .i64)) (ho : f0.offset = 0 ∧ f1.offset = 1)
    (hval : Value.okWide P W .any base t v) (h : DataW.Trod enc P W 0 (fun _ => true) true t v d ps) (hlt : ∀ x ∈ ps, x.block < W.heap.size) :
    ∃ l : List (Int × Int), (∀ p ∈ l, (Lit.int .i64 p.1).wf = true ∧ (Lit.int .i64 p.2).wf = true) ∧ den W (fun b => b < W.heap.size) .zero (vecV l) v ∧ (d = .nil ∧ l = [] ∨ ∃ ds sp, d = .slice ds sp ∧ ds.length = l.length) := by
  obtain ⟨a1, len, cap, rfl⟩ := okWide_slice ht hval
  obtain ⟨fuel, hf⟩ := h
  rcases DataW.trod_slice ht hf with ⟨hcs, hx⟩ | ⟨a, len', cap', elems, rest, n, _, hcs, hx, hb, hl, hm, hlen, hel, hsp, hns⟩
  · simp [Value.cells] at hcs
    obtain ⟨rfl, rfl, rfl⟩ := hcs
    have hd : d = .nil := by have := (Prod.mk.inj hx).1; exact this
    refine ⟨[], ?_, ⟨none, 0, rfl, Nat.le_refl _, fun i hi => absurd hi (by simp)⟩, .inl ⟨hd, rfl⟩⟩
    intro _ h; cases h
  · simp [Value.cells] at hcs
    obtain ⟨rfl, rfl, rfl⟩ := hcs
    simp only [Prod.mk.injEq] at hx
    obtain ⟨rfl, rfl⟩ := hx
    obtain ⟨k0, g0⟩ := hone_of hone 0 f0 rfl
    obtain ⟨k1, g1⟩ := hone_of hone 1 f1 rfl
    rw [hC] at hel
    have cell01 : ∀ i, i < len → ∃ A B, W.cell? ((a.add (i * 2)).add 0) = some (.int .i64 A) ∧ W.cell? ((a.add (i * 2)).add 1) = some (.int .i64 B) ∧ (Lit.int .i64 A).wf = true ∧ (Lit.int .i64 B).wf = true := fun i hi => by
      have h2 := hel i hi
      rw [List.getElem?_eq_getElem (by omega), Option.bind_eq_some_iff] at h2
      obtain ⟨cs, hc, hy⟩ := h2
      obtain ⟨y0, y1, m, _, _, e0, e1⟩ := trod_struct2 hs hy
      obtain ⟨_, hlen2, hcell⟩ := World.cells?_some hc
      rw [k0, g0] at e0
      rw [k1, g1] at e1
      obtain ⟨A, q0, _, w0⟩ := DataW.trod_int h0 e0
      obtain ⟨B, q1, _, w1⟩ := DataW.trod_int h1 e1
      refine ⟨A, B, ?_, ?_, w0, w1⟩
      · rw [hcell 0 (by omega)]
        have := congrArg (fun l : List Value => l[0]?) q0
        simpa using this
      · rw [hcell 1 (by omega)]
        have := congrArg (fun l : List Value => l[0]?) q1
        simpa using this
    obtain ⟨ab, ao, spot⟩ := a
    have hnone : 0 < len → spot = none := fun hpos => by
      obtain ⟨A, B, q0, _⟩ := cell01 0 hpos
      simpa [Addr.add] using World.cell?_spot q0
    have each : ∀ i, i < len → spot = none ∧ ∃ A B, W.cell? ⟨ab, ao + (i * 2 + 0), none⟩ = some (.int .i64 A) ∧ W.cell? ⟨ab, ao + (i * 2 + 1), none⟩ = some (.int .i64 B) ∧ (Lit.int .i64 A).wf = true ∧ (Lit.int .i64 B).wf = true := fun i hi => by
      have hsp0 := hnone (by omega)
      subst hsp0
      obtain ⟨A, B, q0, q1, w0, w1⟩ := cell01 i hi
      rw [Addr.add_lit, Addr.add_lit] at q0 q1
      exact ⟨rfl, A, B, by rw [← q0, Nat.add_assoc], by rw [← q1, Nat.add_assoc], w0, w1⟩
    let L : List (Int × Int) := (List.range len).map fun i => (cellI W ⟨ab, ao + (i * 2 + 0), none⟩, cellI W ⟨ab, ao + (i * 2 + 1), none⟩)
    have hL : L.length = len := by simp [L]
    have hget : ∀ i, i < len → L.getD i (0, 0) = (cellI W ⟨ab, ao + (i * 2 + 0), none⟩, cellI W ⟨ab, ao + (i * 2 + 1), none⟩) := fun i hi => by
      simp [L, List.getD_eq_getElem?_getD, hi]
    refine ⟨L, fun p hp => ?_, ⟨some ⟨ab, ao, spot⟩, cap, by rw [hL], by omega, fun i hi => ?_⟩, .inr ⟨_, _, rfl, by simp [hL, hlen]⟩⟩
    · obtain ⟨i, hi, rfl⟩ := List.mem_map.1 hp
      obtain ⟨_, A, B, q0, q1, w0, w1⟩ := each i (List.mem_range.1 hi)
      simp only [cellI, q0, q1]
      exact ⟨w0, w1⟩
    · rw [hL] at hi
      obtain ⟨rfl, A, B, q0, q1, w0, w1⟩ := each (i / 2) (by omega)
      refine ⟨_, ⟨ab, ao, rfl, ?_, ?_⟩, rfl⟩
      · refine hlt (.cell ab (ao + i)) (List.mem_append_left _ ?_)
        simp only [MemPlace.row, List.mem_map, List.mem_range]
        exact ⟨i, by rw [hC, hlen]; omega, rfl⟩
      · rcases Nat.mod_two_eq_zero_or_one i with hm2 | hm2
        · have ei : i = i / 2 * 2 + 0 := by omega
          have : cellD L i = A := by
            rw [ei, cell_fst, hget _ (by omega)]
            simp only [cellI, q0]
          rw [this, ← q0, ← ei]
        · have ei : i = i / 2 * 2 + 1 := by omega
          have : cellD L i = B := by
            rw [ei, cell_snd, hget _ (by omega)]
            simp only [cellI, q1]
          rw [this, ← q1, ← ei]

/-- How long a list of structs is that came in. -/
theorem vec_len {ts : List TypeId} {ds : List (DataW H)} (hsz : (DataW.weightsEach P ts ds).all (· ≤ reachBytes) = true) {j : Nat} {t e : TypeId} {l : List (Int × Int)} {d : DataW H} (ht : ts[j]? = some t) (hd : ds[j]? = some d)
    (hu : P.underlying t = some (.slice e)) (hb : decide (0 < P.bytesOf e) = true) (h : d = .nil ∧ l = [] ∨ ∃ es sp, d = .slice es sp ∧ es.length = l.length) : l.length ≤ reachBytes := by
  rcases h with ⟨_, rfl⟩ | ⟨es, sp, rfl, hl⟩
  · exact Nat.zero_le _
  · have := sized_slice hsz ht hd hu
    have h3 : (es.length + sp.length) * 1 ≤ (es.length + sp.length) * P.bytesOf e := Nat.mul_le_mul_left _ (of_decide_eq_true hb)
    omega

end
end Go.Proofs.YthckagkciefliaaGreatDoor.AL

/-
  The laws of vectors, walked: awake, VecJoins, VecBack, VecLattice.
-/
set_option linter.unusedVariables false
set_option linter.unusedSectionVars false
namespace Go.Proofs.YthckagkciefliaaGreatDoor.Vc
open Go AL Hx Dt Spl

theorem n0 : numS 0 = ⟨#[48]⟩ := by unfold numS Lib.itoa; rw [if_neg (by decide)]; simp [Lib.decDigits]
theorem n1 : numS 1 = ⟨#[49]⟩ := by unfold numS Lib.itoa; rw [if_neg (by decide)]; simp [Lib.decDigits]
theorem n2 : numS 2 = ⟨#[50]⟩ := by unfold numS Lib.itoa; rw [if_neg (by decide)]; simp [Lib.decDigits]
theorem n3 : numS 3 = ⟨#[51]⟩ := by unfold numS Lib.itoa; rw [if_neg (by decide)]; simp [Lib.decDigits]
theorem n5 : numS 5 = ⟨#[53]⟩ := by unfold numS Lib.itoa; rw [if_neg (by decide)]; simp [Lib.decDigits]
theorem tx03 : textD 0 3 = ⟨#[48, 58, 51]⟩ := by unfold textD; rw [n0, n3]; rfl
theorem tx21 : textD 2 1 = ⟨#[50, 58, 49]⟩ := by unfold textD; rw [n2, n1]; rfl
theorem tx01 : textD 0 1 = ⟨#[48, 58, 49]⟩ := by unfold textD; rw [n0, n1]; rfl
theorem tx15 : textD 1 5 = ⟨#[49, 58, 53]⟩ := by unfold textD; rw [n1, n5]; rfl
theorem txa : textV [(0, 3), (2, 1)] = ⟨#[48, 58, 51, 44, 50, 58, 49]⟩ := by
  rw [textV_ne (by simp)]; simp only [dots, List.map_cons, List.map_nil, tx03, tx21]; rfl
theorem txb : textV [(0, 1), (1, 5)] = ⟨#[48, 58, 49, 44, 49, 58, 53]⟩ := by
  rw [textV_ne (by simp)]; simp only [dots, List.map_cons, List.map_nil, tx01, tx15]; rfl
theorem txj : textV [(0, 3), (1, 5), (2, 1)] = ⟨#[48, 58, 51, 44, 49, 58, 53, 44, 50, 58, 49]⟩ := by
  rw [textV_ne (by simp)]; simp only [dots, List.map_cons, List.map_nil, tx03, tx15, tx21]; rfl
theorem txm : textV [(0, 1)] = ⟨#[48, 58, 49]⟩ := by
  rw [textV_ne (by simp)]; simp only [dots, List.map_cons, List.map_nil, tx01]; rfl
theorem ofl {l : List (Int × Int)} (h : ofF (cntF l) = l) : parseVE (textV l) = 0 ∧ parseVL (textV l) = l := by
  have := parse_textV (cnt_ok l)
  rwa [h] at this
theorem cof {g h : Nat → Int} (hg : okF g) (hh : okF h) : cntF (ofF (maxF g h)) = maxF g h := cnt_of (max_ok hg hh)
theorem mof {g h : Nat → Int} (hg : okF g) (hh : okF h) : cntF (ofF (minF g h)) = minF g h := cnt_of (min_ok hg hh)
theorem of_len (g : Nat → Int) : (ofF g).length ≤ 9223372036854775807 := by have := ofK_len g 32; show (ofK g 32).length ≤ _; omega
theorem parseV_len (s : ByteArray) : (parseVL s).length ≤ 9223372036854775807 := by
  by_cases h : okVec s
  · rw [(parseV_back h).1]; exact of_len _
  · rw [(parseV_bad h).2]; simp

section
variable [Globs]

end
end Go.Proofs.YthckagkciefliaaGreatDoor.Vc

/-
  The laws of matrices, walked: awake, MatRaised, MatBack, MatLow.
-/
set_option linter.unusedVariables false
set_option linter.unusedSectionVars false
namespace Go.Proofs.YthckagkciefliaaGreatDoor.Mt
open Go AL Hx Dt Spl Vc

theorem n4 : numS 4 = ⟨#[52]⟩ := by unfold numS Lib.itoa; rw [if_neg (by decide)]; simp [Lib.decDigits]
theorem tx12 : textD 1 2 = ⟨#[49, 58, 50]⟩ := by unfold textD; rw [n1, n2]; rfl
theorem tx14 : textD 1 4 = ⟨#[49, 58, 52]⟩ := by unfold textD; rw [n1, n4]; rfl
def mA : List Vc1 := [[(0, 3), (1, 2)], [(0, 1)]]
def mB : List Vc1 := [[(0, 3), (1, 2)], [(0, 1), (1, 4)]]
theorem textR_may {l : Vc1} (h : ofF (cntF l) = l) : textR l = textV l := by unfold textR; rw [h]
theorem tv1 : textR [(0, 3), (1, 2)] = ⟨#[48, 58, 51, 44, 49, 58, 50]⟩ := by
  rw [textR_may (by decide +kernel), textV_ne (by simp)]; simp only [dots, List.map_cons, List.map_nil, tx03, tx12]; rfl
theorem tv2 : textR [(0, 1)] = ⟨#[48, 58, 49]⟩ := by
  rw [textR_may (by decide +kernel), textV_ne (by simp)]; simp only [dots, List.map_cons, List.map_nil, tx01]; rfl
theorem tv3 : textR [(0, 1), (1, 4)] = ⟨#[48, 58, 49, 44, 49, 58, 52]⟩ := by
  rw [textR_may (by decide +kernel), textV_ne (by simp)]; simp only [dots, List.map_cons, List.map_nil, tx01, tx14]; rfl
theorem tmA : textM mA = ⟨#[48, 58, 51, 44, 49, 58, 50, 59, 48, 58, 49]⟩ := by
  unfold textM rowsT mA
  simp only [List.map_cons, List.map_nil, tv1, tv2]; rfl
theorem tmB : textM mB = ⟨#[48, 58, 51, 44, 49, 58, 50, 59, 48, 58, 49, 44, 49, 58, 52]⟩ := by
  unfold textM rowsT mB
  simp only [List.map_cons, List.map_nil, tv1, tv3]; rfl
theorem joinV_self {a : Vc1} (h : mayV a) : joinV a a = a := by
  refine mayV_eq (joinV_may a a) h ?_
  rw [joinV_cnt]; funext r; simp only [maxF]; omega
theorem raise_again (m : List Vc1) {k : Nat} (v : Vc1) (hk : k < m.length) : raiseM (raiseM m k v) k (rowM (raiseM m k v) k) = raiseM m k v := by
  refine row_ext (raise_len _ _ _) fun i hi => ?_
  rw [raise_row]
  split
  · rename_i h
    obtain rfl : i = k := by omega
    refine joinV_self ?_
    rw [raise_row, if_pos ⟨by omega, by omega, by omega⟩]
    exact joinV_may _ _
  · rfl

section
variable [Globs]
theorem vrow {R : List Vc1} {i j : Nat} (h : i = j) : VLe (vecV (rowM R i)) (vecV (rowM R j)) := by subst h; exact .refl _

set_option maxHeartbeats 2000000 in
set_option maxRecDepth 10000 in
theorem awake_mat (hG : NumG) : ACalls Tryz.prog 10 [] [] (fun r h => r = .tt ∧ h = []) := by
  have hmay : mayM mA 2 := by decide +kernel
  obtain ⟨b1, b2⟩ := matText_back hmay
  obtain ⟨p1, p2⟩ := parseM_ok b1
  have szA : szM mA := small_sz (by decide +kernel)
  have szB : szM mB := small_sz (by decide +kernel)
  have h1 := parse_mat hG (textM mA) 2 (by rw [tmA]; decide)
  unfold ParseMR at h1
  rw [p1, p2, b2, tmA] at h1
  have h2 := raise_prog mA 1 [(1, 4)] szA (by decide)
  rw [show raiseM mA 1 [(1, 4)] = mB by decide +kernel] at h2
  have h3 := low_prog mA szA
  rw [show lowM mA = [(0, 1)] by decide +kernel] at h3
  have h4 := text_vec hG [(0, 1)] (by decide)
  rw [show textV (ofF (cntF [(0, 1)])) = ⟨#[48, 58, 49]⟩ from tv2] at h4
  have h5 := text_mat hG mB szB (by decide)
  rw [tmB] at h5
  have h6 := new_prog 3
  have h7 := (may_mat mA 2 szA).yes (decide_eq_true hmay)
  have hn : ((newL 3).length : Int) = 3 := by decide
  clear p1 p2 b1 b2 hmay szA szB
  generalize newL 3 = N at *
  generalize mA = A at *
  generalize mB = B at *
  generalize ([(0, 1)] : Vc1) = L at *
  refine rcalls Tryz.func10 rfl (by decide) ?_
  refine ⟨[], _, h1, ?_⟩
  rintro r hh ⟨rfl, rfl⟩
  refine ⟨.inl rfl, ?_⟩
  refine ⟨[1000], _, Nat.le_refl 2, h2.args ⟨.refl _, .refl _, vvec1 rfl rfl, trivial⟩, ?_⟩
  rintro r hh ⟨rfl, rfl⟩
  refine ⟨.inl rfl, ?_⟩
  refine ⟨fun _ => ?_, fun e => absurd rfl (no e)⟩
  refine ⟨[], _, h3, ?_⟩
  rintro r hh ⟨rfl, rfl⟩
  refine ⟨.inl rfl, ?_⟩
  refine ⟨[], _, h4, ?_⟩
  rintro r hh ⟨rfl, rfl⟩
  refine ⟨.inl rfl, ?_⟩
  refine ⟨fun _ => ?_, fun e => absurd rfl (no e)⟩
  refine ⟨[], _, h5, ?_⟩
  rintro r hh ⟨rfl, rfl⟩
  refine ⟨.inl rfl, ?_⟩
  refine ⟨fun _ => ?_, fun e => absurd rfl (no e)⟩
  refine ⟨[], _, h6, ?_⟩
  rintro r hh ⟨rfl, rfl⟩
  refine ⟨.inl rfl, ?_⟩
  refine ⟨fun _ => ?_, fun e => absurd hn (no e)⟩
  refine ⟨[], _, h7, ?_⟩
  rintro r hh ⟨rfl, rfl⟩
  refine ⟨.inl rfl, ?_⟩
  exact ⟨[], [], .tt, lehN _, .tt, rfl, rfl⟩


theorem leTf {h : List AO} {l : List Nat} {a b : Bool} (e : a = b) : LeV h l (tf a) (tf b) := by subst e; cases a <;> first | exact .tt | exact .ff

end
end Go.Proofs.YthckagkciefliaaGreatDoor.Mt

/-
  The laws of vectors, walked: VecLattice, VecKnows, VecRaises.
-/
set_option linter.unusedVariables false
set_option linter.unusedSectionVars false
namespace Go.Proofs.YthckagkciefliaaGreatDoor.Vc
open Go AL Hx Dt Spl

theorem upd_comm (g : Nat → Int) (p q : Int × Int) : updF (updF g p) q = updF (updF g q) p := funext fun r => by
  have e : ∀ (g : Nat → Int) (p : Int × Int), updF g p r = if mayD p.1 p.2 ∧ r = p.1.toNat then max (g r) p.2 else g r := fun _ _ => rfl
  rw [e, e, e, e]
  by_cases h1 : mayD p.1 p.2 ∧ r = p.1.toNat
  · by_cases h2 : mayD q.1 q.2 ∧ r = q.1.toNat
    · simp only [if_pos h1, if_pos h2]; omega
    · simp only [if_pos h1, if_neg h2]
  · by_cases h2 : mayD q.1 q.2 ∧ r = q.1.toNat
    · simp only [if_neg h1, if_pos h2]
    · simp only [if_neg h1, if_neg h2]
theorem upd_ge (g : Nat → Int) (p : Int × Int) (r : Nat) : g r ≤ updF g p r := by unfold updF; split <;> omega
theorem uof {g : Nat → Int} (hg : okF g) (p : Int × Int) : cntF (ofF (updF g p)) = updF g p := cnt_of (upd_ok hg p)
theorem upd_same {l : List (Int × Int)} {a b : Int} : tab (updF (cntF l) (a, b)) = tab (cntF l) ↔ ((mayD a b ∧ b ≤ getV l a) ∨ ¬ mayD a b) := by
  rw [tab_ext]
  constructor
  · intro h
    by_cases hm : mayD a b
    · have hm' := hm
      unfold mayD at hm'
      have := h a.toNat (by omega)
      unfold updF at this
      rw [if_pos ⟨hm, rfl⟩] at this
      refine .inl ⟨hm, ?_⟩
      unfold getV
      rw [if_neg (by omega)]
      have : max (cntF l a.toNat) b = cntF l a.toNat := this
      omega
    · exact .inr hm
  · rintro (⟨hm, h⟩ | hm) r hr
    · have hm' := hm
      unfold mayD at hm'
      unfold getV at h
      rw [if_neg (by omega)] at h
      rw [upd_low (by omega)]
    · rw [upd_not hm]
theorem getV_with (l : List (Int × Int)) (a b n : Int) : getV (ofF (updF (cntF l) (a, b))) n = if n < 0 ∨ n > 31 then 0 else updF (cntF l) (a, b) n.toNat := by
  unfold getV; rw [uof (cnt_ok l)]
theorem getV_ge (l : List (Int × Int)) (a b n : Int) : getV l n ≤ getV (ofF (updF (cntF l) (a, b))) n := by
  rw [getV_with]
  unfold getV
  split
  · exact Int.le_refl _
  · exact upd_ge _ _ _
theorem getV_range (l : List (Int × Int)) (n : Int) : 0 ≤ getV l n ∧ getV l n ≤ 1099511627776 := by
  unfold getV
  split
  · omega
  · have := cnt_ok l n.toNat; omega

section
variable [Globs]

end
end Go.Proofs.YthckagkciefliaaGreatDoor.Vc

/-
  The laws of vectors, walked: VecKnows, VecRaises.
-/
set_option linter.unusedVariables false
set_option linter.unusedSectionVars false
namespace Go.Proofs.YthckagkciefliaaGreatDoor.Vc
open Go AL Hx Dt Spl

theorem beq_tt (b : Bool) : (b == b) = true := by cases b <;> rfl
theorem deq_tt {α : Type} [DecidableEq α] (a : α) : decide (a = a) = true := decide_eq_true rfl

section
variable [Globs]

end
end Go.Proofs.YthckagkciefliaaGreatDoor.Vc

/-
  The laws of vectors, walked: VecDots.
-/
set_option linter.unusedVariables false
set_option linter.unusedSectionVars false
namespace Go.Proofs.YthckagkciefliaaGreatDoor.Vc
open Go AL Hx Dt Spl

/-- Two dots in a row. -/
abbrev twoV (x y z u : Int) : AV := .agg 4 fun i => [int .i64 x, int .i64 y, int .i64 z, int .i64 u].getD i .top
def hasP (l : List (Int × Int)) (x y : Int) : Prop := mayD x y ∧ y ≤ getV l x
instance (l : List (Int × Int)) (x y : Int) : Decidable (hasP l x y) := by unfold hasP; exact inferInstance
theorem has_iff {l : List (Int × Int)} {x y : Int} : hasP l x y ↔ mayD x y ∧ y ≤ cntF l x.toNat := by
  unfold hasP getV
  constructor
  · rintro ⟨h, h2⟩
    have h' := h
    unfold mayD at h'
    rw [if_neg (by omega)] at h2
    exact ⟨h, h2⟩
  · rintro ⟨h, h2⟩
    have h' := h
    unfold mayD at h'
    rw [if_neg (by omega)]
    exact ⟨h, h2⟩
theorem has_join (a b : List (Int × Int)) (x y : Int) : hasP (ofF (maxF (cntF a) (cntF b))) x y ↔ hasP a x y ∨ hasP b x y := by
  rw [has_iff, has_iff, has_iff, cof (cnt_ok a) (cnt_ok b)]
  simp only [maxF]
  constructor
  · rintro ⟨h, h2⟩
    rcases Int.le_total (cntF a x.toNat) (cntF b x.toNat) with h3 | h3
    · exact .inr ⟨h, by omega⟩
    · exact .inl ⟨h, by omega⟩
  · rintro (⟨h, h2⟩ | ⟨h, h2⟩)
    · exact ⟨h, by omega⟩
    · exact ⟨h, by omega⟩
theorem has_meet (a b : List (Int × Int)) (x y : Int) : hasP (ofF (minF (cntF a) (cntF b))) x y ↔ hasP a x y ∧ hasP b x y := by
  rw [has_iff, has_iff, has_iff, mof (cnt_ok a) (cnt_ok b)]
  simp only [minF]
  constructor
  · rintro ⟨h, h2⟩
    exact ⟨⟨h, by omega⟩, h, by omega⟩
  · rintro ⟨⟨h, h2⟩, _, h3⟩
    exact ⟨h, by omega⟩
theorem has_with (a : List (Int × Int)) (x y z u : Int) : hasP (ofF (updF (cntF a) (x, y))) z u ↔ hasP a z u ∨ (mayD x y ∧ z = x ∧ 1 ≤ u ∧ u ≤ y) := by
  rw [has_iff, has_iff, uof (cnt_ok a)]
  have e : ∀ r, updF (cntF a) (x, y) r = if mayD x y ∧ r = x.toNat then max (cntF a r) y else cntF a r := fun _ => rfl
  rw [e]
  constructor
  · rintro ⟨h, h2⟩
    by_cases hc : mayD x y ∧ z.toNat = x.toNat
    · rw [if_pos hc] at h2
      have h' := h
      have hm := hc.1
      unfold mayD at h' hm
      rcases Int.le_total (cntF a z.toNat) y with h3 | h3
      · exact .inr ⟨hc.1, by omega, by omega, by omega⟩
      · exact .inl ⟨h, by omega⟩
    · rw [if_neg hc] at h2
      exact .inl ⟨h, h2⟩
  · rintro (⟨h, h2⟩ | ⟨hm, rfl, h2, h3⟩)
    · refine ⟨h, ?_⟩
      split <;> omega
    · have h' := hm
      unfold mayD at h'
      refine ⟨by unfold mayD; omega, ?_⟩
      rw [if_pos ⟨hm, rfl⟩]
      omega
theorem dec_or {p q r : Prop} [Decidable p] [Decidable q] [Decidable r] (h : r ↔ p ∨ q) : decide r = (decide p || decide q) := by
  by_cases hp : p <;> by_cases hq : q <;> simp [h, hp, hq]
theorem dec_and {p q r : Prop} [Decidable p] [Decidable q] [Decidable r] (h : r ↔ p ∧ q) : decide r = (decide p && decide q) := by
  by_cases hp : p <;> by_cases hq : q <;> simp [h, hp, hq]

section
variable [Globs]

end
end Go.Proofs.YthckagkciefliaaGreatDoor.Vc

/-
  The laws of matrices, walked: MatLow.
-/
set_option linter.unusedVariables false
set_option linter.unusedSectionVars false
namespace Go.Proofs.YthckagkciefliaaGreatDoor.Mt
open Go AL Hx Dt Spl Vc

theorem lowM_has {a : List Vc1} (hne : a ≠ []) (x y : Int) : hasP (lowM a) x y ↔ ∀ i, i < a.length → hasP (rowM a i) x y := by
  have hpos : 0 < a.length := List.length_pos_iff.2 hne
  unfold lowM
  rw [if_neg hne, has_iff]
  constructor
  · rintro ⟨h1, h2⟩ i hi
    have := lowS_le a (a.length - 1) i x.toNat (by omega)
    exact has_iff.2 ⟨h1, by omega⟩
  · intro h
    have h0 := (has_iff.1 (h 0 hpos)).1
    exact ⟨h0, lowS_ge a x.toNat y _ fun i hi => (has_iff.1 (h i (by omega))).2⟩
theorem lowM_mono {a c : List Vc1} (hl : a.length = c.length) (h : ∀ i r, i < a.length → cntF (rowM a i) r ≤ cntF (rowM c i) r) : leqV (cntF (lowM a)) (cntF (lowM c)) := by
  rw [leq_iff]
  intro r hr
  unfold lowM
  by_cases hne : a = []
  · have hc : c = [] := List.eq_nil_of_length_eq_zero (by rw [← hl, hne]; rfl)
    rw [if_pos hne, if_pos hc]; omega
  · have hc : c ≠ [] := fun e => hne (List.eq_nil_of_length_eq_zero (by rw [hl, e]; rfl))
    have hpos : 0 < a.length := List.length_pos_iff.2 hne
    rw [if_neg hne, if_neg hc]
    refine lowS_ge c r _ _ fun i hi => ?_
    have h1 := lowS_le a (a.length - 1) i r (by omega)
    have h2 := h i r (by omega)
    omega
theorem joinM_len (a b : List Vc1) : (joinM a b).length = max a.length b.length := mapM_len _ _
theorem joinM_row {a b : List Vc1} {i : Nat} (ha : i < a.length) (hb : i < b.length) : rowM (joinM a b) i = joinV (rowM a i) (rowM b i) := by
  unfold joinM
  rw [mapM_row (by omega), if_neg (by omega), if_neg (by omega)]
theorem szM_join {a b : List Vc1} (ha : szM a) (hb : szM b) : szM (joinM a b) := by
  have h1 := ha.1
  have h2 := hb.1
  refine ⟨by rw [joinM_len]; omega, fun i hi => ?_⟩
  rw [joinM_len] at hi
  unfold joinM
  rw [mapM_row hi]
  split
  · exact ha.2 i (by omega)
  · split
    · exact hb.2 i (by omega)
    · have := ofK_len (maxF (cntF (rowM a i)) (cntF (rowM b i))) 32; show (ofK _ 32).length ≤ _; omega
theorem lowM_len (a : List Vc1) : (lowM a).length ≤ 9223372036854775807 := by
  unfold lowM
  split
  · simp
  · exact lowS_len _ _

section
variable [Globs]

end
end Go.Proofs.YthckagkciefliaaGreatDoor.Mt

/-
  Matrices whose rows are raised by many, in plain Lean. No program in sight.
-/
set_option linter.unusedVariables false
namespace Go.Proofs.YthckagkciefliaaGreatDoor.Mt
open Go AL Hx Dt Spl Vc

abbrev Rs := Int × Vc1
/-- What a row knows that was raised by some of these. -/
def accF (K : Nat) : List Rs → Nat → Nat → Int
  | [], _, _ => 0
  | p :: l, r, q => if p.1 % (K : Int) = (r : Int) then max (cntF p.2 q) (accF K l r q) else accF K l r q
theorem acc_nonneg (K : Nat) : ∀ (l : List Rs) (r q : Nat), 0 ≤ accF K l r q
  | [], _, _ => Int.le_refl _
  | p :: l, r, q => by
    have := acc_nonneg K l r q
    unfold accF
    split <;> omega
theorem acc_le {K : Nat} : ∀ {l : List Rs} {r q : Nat} {x : Int}, accF K l r q ≤ x ↔ 0 ≤ x ∧ ∀ p ∈ l, p.1 % (K : Int) = (r : Int) → cntF p.2 q ≤ x
  | [], r, q, x => by
    show 0 ≤ x ↔ _
    simp
  | p :: l, r, q, x => by
    have ih := acc_le (K := K) (l := l) (r := r) (q := q) (x := x)
    unfold accF
    split
    · rename_i h
      rw [Int.max_le, ih]
      constructor
      · rintro ⟨h1, h2, h3⟩
        refine ⟨h2, fun z hz hr => ?_⟩
        rcases List.mem_cons.1 hz with rfl | hz
        · exact h1
        · exact h3 z hz hr
      · rintro ⟨h1, h2⟩
        exact ⟨h2 p (by simp) h, h1, fun z hz => h2 z (by simp [hz])⟩
    · rename_i h
      rw [ih]
      constructor
      · rintro ⟨h2, h3⟩
        refine ⟨h2, fun z hz hr => ?_⟩
        rcases List.mem_cons.1 hz with rfl | hz
        · exact absurd hr h
        · exact h3 z hz hr
      · rintro ⟨h1, h2⟩
        exact ⟨h1, fun z hz => h2 z (by simp [hz])⟩
theorem acc_sub {K : Nat} {l m : List Rs} (h : ∀ p ∈ l, p ∈ m) (r q : Nat) : accF K l r q ≤ accF K m r q :=
  acc_le.2 ⟨acc_nonneg K m r q, fun p hp hr => (acc_le.1 (Int.le_refl _)).2 p (h p hp) hr⟩
theorem acc_same {K : Nat} {l m : List Rs} (h : ∀ p, p ∈ l ↔ p ∈ m) (r q : Nat) : accF K l r q = accF K m r q :=
  Int.le_antisymm (acc_sub (fun p hp => (h p).1 hp) r q) (acc_sub (fun p hp => (h p).2 hp) r q)
theorem acc_cons (K : Nat) (a : Rs) (l : List Rs) (r q : Nat) : accF K (a :: l) r q = if a.1 % (K : Int) = (r : Int) then max (cntF a.2 q) (accF K l r q) else accF K l r q := rfl
theorem acc_snoc (K : Nat) (p : Rs) (r q : Nat) : ∀ l : List Rs, accF K (l ++ [p]) r q = if p.1 % (K : Int) = (r : Int) then max (accF K l r q) (cntF p.2 q) else accF K l r q
  | [] => by
    have h0 := cnt_ok p.2 q
    have e0 : accF K [] r q = 0 := rfl
    rw [List.nil_append, acc_cons, e0]
    by_cases h1 : p.1 % (K : Int) = (r : Int) <;> simp only [h1, if_true, if_false] <;> omega
  | a :: l => by
    have ih := acc_snoc K p r q l
    rw [List.cons_append, acc_cons, acc_cons, ih]
    by_cases h1 : a.1 % (K : Int) = (r : Int) <;> by_cases h2 : p.1 % (K : Int) = (r : Int) <;> simp only [h1, h2, if_true, if_false] <;> omega
theorem acc_app (K : Nat) (m : List Rs) (r q : Nat) : ∀ l : List Rs, accF K (l ++ m) r q = max (accF K l r q) (accF K m r q)
  | [] => by
    have := acc_nonneg K m r q
    show accF K m r q = max 0 _
    omega
  | a :: l => by
    have ih := acc_app K m r q l
    rw [List.cons_append, acc_cons, acc_cons, ih]
    by_cases h1 : a.1 % (K : Int) = (r : Int) <;> simp only [h1, if_true, if_false] <;> omega

/-- A matrix of K rows that were raised by these. -/
def isM (K : Nat) (M : List Vc1) (l : List Rs) : Prop := M.length = K ∧ ∀ i, i < K → mayV (rowM M i) ∧ ∀ q, cntF (rowM M i) q = accF K l i q
theorem isM_new {K : Nat} (h : 1 ≤ K ∧ K ≤ 32) : isM K (newL K) [] := by
  have hl : newL (K : Int) = List.replicate K [] := by unfold newL; rw [if_neg (by omega)]; simp
  refine ⟨by rw [hl]; simp, fun i hi => ?_⟩
  have e := @newL_row ⟨[]⟩ (K : Int) i
  rw [e]
  exact ⟨by unfold mayV; rw [cnt_nil]; decide +kernel, fun q => rfl⟩
theorem isM_raise {K : Nat} {M : List Vc1} {l : List Rs} (hK : 1 ≤ K) (h : isM K M l) (p : Rs) (hp : 0 ≤ p.1) : isM K (raiseM M (p.1 % (K : Int)) p.2) (l ++ [p]) := by
  obtain ⟨h1, h2⟩ := h
  have g1 := Int.emod_nonneg p.1 (show (K : Int) ≠ 0 by omega)
  have g2 := Int.emod_lt_of_pos p.1 (show (0 : Int) < K by omega)
  refine ⟨by rw [raise_len]; exact h1, fun i hi => ?_⟩
  rw [raise_row]
  by_cases hc : i = (p.1 % (K : Int)).toNat
  · rw [if_pos ⟨g1, by omega, hc⟩]
    refine ⟨joinV_may _ _, fun q => ?_⟩
    rw [joinV_cnt, acc_snoc, if_pos (by omega)]
    simp only [maxF]
    rw [(h2 i hi).2 q]
  · rw [if_neg fun c => hc c.2.2]
    refine ⟨(h2 i hi).1, fun q => ?_⟩
    rw [acc_snoc, if_neg (by omega)]
    exact (h2 i hi).2 q
theorem isM_eq {K : Nat} {M N : List Vc1} {l m : List Rs} (hM : isM K M l) (hN : isM K N m) (h : ∀ i q, accF K l i q = accF K m i q) : M = N := by
  refine row_ext (by rw [hM.1, hN.1]) fun i hi => ?_
  rw [hM.1] at hi
  exact mayV_eq (hM.2 i hi).1 (hN.2 i hi).1 (funext fun q => by rw [(hM.2 i hi).2 q, (hN.2 i hi).2 q, h i q])
theorem isM_join {K : Nat} {M N : List Vc1} {l m : List Rs} (hM : isM K M l) (hN : isM K N m) : isM K (joinM M N) (l ++ m) := by
  refine ⟨by rw [joinM_len, hM.1, hN.1]; omega, fun i hi => ?_⟩
  rw [joinM_row (by rw [hM.1]; exact hi) (by rw [hN.1]; exact hi)]
  refine ⟨joinV_may _ _, fun q => ?_⟩
  rw [joinV_cnt, acc_app]
  simp only [maxF]
  rw [(hM.2 i hi).2 q, (hN.2 i hi).2 q]
theorem isM_may {K : Nat} {M : List Vc1} {l : List Rs} (hK : 1 ≤ K ∧ K ≤ 32) (h : isM K M l) : mayM M K :=
  ⟨by omega, by omega, by rw [h.1], fun i hi => (h.2 i (by rw [← h.1]; exact hi)).1⟩
theorem isM_sz {K : Nat} {M : List Vc1} {l : List Rs} (hK : K ≤ 32) (h : isM K M l) : szM M := by
  refine ⟨by rw [h.1]; omega, fun i hi => ?_⟩
  rw [h.1] at hi
  rw [(h.2 i hi).1]
  have := ofK_len (cntF (rowM M i)) 32
  show (ofK _ 32).length ≤ _
  omega

end Go.Proofs.YthckagkciefliaaGreatDoor.Mt

/-
  The laws of matrices, walked: MatOrder.
-/
set_option linter.unusedVariables false
set_option linter.unusedSectionVars false
namespace Go.Proofs.YthckagkciefliaaGreatDoor.Mt
open Go AL Hx Dt Spl Vc

/-- Rows that are raised, as they may be read. -/
def cellR (L : List Rs) (i : Nat) : AV := if i % 2 = 0 then int .u8 (L.getD (i / 2) (0, [])).1 else vecV (L.getD (i / 2) (0, [])).2
abbrev rsV (L : List Rs) : AV := .rs L.length 2 (cellR L)
def two (a b : AV) (c : Nat) : AV := [a, b].getD c .top
theorem cellR_at (L : List Rs) (k c : Nat) (h : c < 2) : cellR L (k * 2 + c) = two (int .u8 (L.getD k (0, [])).1) (vecV (L.getD k (0, [])).2) c := by
  unfold cellR
  match c, h with
  | 0, _ => rw [if_pos (by omega), show (k * 2 + 0) / 2 = k by omega]; rfl
  | 1, _ => rw [if_neg (by omega), show (k * 2 + 1) / 2 = k by omega]; rfl
theorem take_rs {L : List Rs} {k : Nat} (h : k < L.length) : L.take (k + 1) = L.take k ++ [L.getD k (0, [])] := by
  rw [List.take_succ_eq_append_getElem h, List.getD_eq_getElem?_getD, List.getElem?_eq_getElem h]
  rfl
theorem rs_mem {L : List Rs} {k : Nat} (h : k < L.length) : L.getD k (0, []) ∈ L := by
  rw [List.getD_eq_getElem?_getD, List.getElem?_eq_getElem h]; exact List.getElem_mem _
/-- From the end on. -/
def backL (L : List Rs) : Nat → List Rs
  | 0 => []
  | k + 1 => backL L k ++ [L.getD (L.length - 1 - k) (0, [])]
theorem back_mem {L : List Rs} {p : Rs} : ∀ k, k ≤ L.length → (p ∈ backL L k ↔ ∃ j, j < k ∧ p = L.getD (L.length - 1 - j) (0, []))
  | 0, _ => by simp [backL]
  | k + 1, h => by
    have ih := back_mem (L := L) (p := p) k (by omega)
    show p ∈ backL L k ++ [_] ↔ _
    rw [List.mem_append, ih, List.mem_singleton]
    constructor
    · rintro (⟨j, hj, e⟩ | e)
      · exact ⟨j, by omega, e⟩
      · exact ⟨k, by omega, e⟩
    · rintro ⟨j, hj, e⟩
      rcases Nat.lt_or_ge j k with h1 | h1
      · exact .inl ⟨j, h1, e⟩
      · obtain rfl : j = k := by omega
        exact .inr e
theorem back_all {L : List Rs} (p : Rs) : p ∈ backL L L.length ↔ p ∈ L := by
  rw [back_mem _ (Nat.le_refl _)]
  constructor
  · rintro ⟨j, hj, rfl⟩
    exact rs_mem (by omega)
  · intro h
    obtain ⟨i, hi, rfl⟩ := List.getElem_of_mem h
    refine ⟨L.length - 1 - i, by omega, ?_⟩
    rw [show L.length - 1 - (L.length - 1 - i) = i by omega, List.getD_eq_getElem?_getD, List.getElem?_eq_getElem hi]
    rfl

section
variable [Globs]


end
end Go.Proofs.YthckagkciefliaaGreatDoor.Mt

/-
  Lists of vectors, and of rows that are raised, that came in. No program in sight.
-/
set_option linter.unusedVariables false
namespace Go.Proofs.YthckagkciefliaaGreatDoor.AL
open Go Go.ChangeShapes Go.WideShapes Go.ChangeAt Go.RowKit Go.Deep Go.Joins Go.WideElems
open Go.Proofs.YthckagkciefliaaGreatDoor.Vc Go.Proofs.YthckagkciefliaaGreatDoor.Mt

section
variable {H : Type} {enc : TypeId × Value → H} {P : Program}

theorem vvec_open {l : List (Int × Int)} : VLe (.ro l.length 2 fun i => (fun (p : Int × Int) j => int .i64 (if j = 0 then p.1 else p.2)) (l.getD (i / 2) (0, 0)) (i % 2)) (vecV l) := by
  letI : Globs := ⟨[]⟩
  refine vro fun i hi => ?_
  show int .i64 (if i % 2 = 0 then _ else _) = int .i64 (cellD l i)
  unfold cellD
  by_cases h : i % 2 = 0
  · rw [if_pos h]
  · rw [if_neg h]
/-- One cell, a list of dots. -/
theorem open_vec_cell {W : World} {fuel base : Nat} {sp : Nat → Bool} {hd : Bool} {t e : TypeId} {f0 f1 : Field} {u : Value} {x : DataW H × List MemPlace} (ht : P.underlying t = some (.slice e)) (hs : P.underlying e = some (.struct #[f0, f1])) (hC : P.cellsOf e = 2)
    (h0 : P.underlying f0.type = some (.int .i64)) (h1 : P.underlying f1.type = some (.int .i64)) (c0 : P.cellsOf f0.type = 1) (c1 : P.cellsOf f1.type = 1) (ho : f0.offset = 0 ∧ f1.offset = 1)
    (hf : DataW.trod enc P W base sp hd fuel t [u] = some x) (hlt : ∀ p ∈ x.2, p.block < W.heap.size) :
    ∃ l : List (Int × Int), l.length ≤ maxLen ∧ den W (allB W) .zero (vecV l) u := by
  obtain ⟨L, _, h2, h3, _⟩ := open_list (fun (p : Int × Int) j => int .i64 (if j = 0 then p.1 else p.2)) (0, 0) (fun _ => True) ht hC (by decide) (fun n cs y hy hp => by
    obtain ⟨m0, z0, e0, _⟩ := field_at hs hy hp 0 (f := f0) rfl
    obtain ⟨m1, z1, e1, _⟩ := field_at hs hy hp 1 (f := f1) rfl
    rw [c0, ho.1] at e0
    rw [c1, ho.2] at e1
    obtain ⟨A, q0, _, _⟩ := DataW.trod_int h0 e0
    obtain ⟨B, q1, _, _⟩ := DataW.trod_int h1 e1
    refine ⟨(A, B), trivial, fun j hj v hv => ?_⟩
    match j, hj with
    | 0, _ => exact one_cell q0 hv
    | 1, _ => exact one_cell q1 hv) hf hlt
  exact ⟨L, h2, vvec_open _ _ _ _ h3⟩

theorem open_mat {W : World} {base : Nat} {t e e2 : TypeId} {f0 f1 : Field} {v : Value} {d : DataW H} {ps : List MemPlace} (ht : P.underlying t = some (.slice e)) (he : P.underlying e = some (.slice e2)) (hCe : P.cellsOf e = 1) (hs : P.underlying e2 = some (.struct #[f0, f1])) (hC : P.cellsOf e2 = 2)
    (h0 : P.underlying f0.type = some (.int .i64)) (h1 : P.underlying f1.type = some (.int .i64)) (c0 : P.cellsOf f0.type = 1) (c1 : P.cellsOf f1.type = 1) (ho : f0.offset = 0 ∧ f1.offset = 1)
    (hval : Value.okWide P W .any base t v) (h : DataW.Trod enc P W 0 (fun _ => true) true t v d ps) (hlt : ∀ x ∈ ps, x.block < W.heap.size) :
    ∃ m : List Vc1, (∀ i, i < m.length → (rowM m i).length ≤ maxLen) ∧ den W (allB W) .zero (matV m) v ∧ (d = .nil ∧ m = [] ∨ ∃ es rs, d = .slice es rs ∧ es.length = m.length) := by
  obtain ⟨L, g1, g2, g3⟩ := open_row (fun (l : Vc1) (_ : Nat) => vecV l) ([] : Vc1) (fun l => l.length ≤ maxLen) ht hCe (by decide) (fun n cs y hy hp => by
    rcases DataW.trod_slice he hy with ⟨rfl, _⟩ | ⟨a, len, cap, elems, rest, n', _, rfl, _⟩
    · obtain ⟨l, q1, q2⟩ := open_vec_cell he hs hC h0 h1 c0 c1 ho hy hp
      exact ⟨l, q1, fun j hj v hv => by
        obtain rfl : j = 0 := by omega
        simp at hv; subst hv; exact q2⟩
    · obtain ⟨l, q1, q2⟩ := open_vec_cell he hs hC h0 h1 c0 c1 ho hy hp
      exact ⟨l, q1, fun j hj v hv => by
        obtain rfl : j = 0 := by omega
        simp at hv; subst hv; exact q2⟩) hval h hlt
  refine ⟨L, fun i hi => g1 _ (row_mem hi), ?_, g3⟩
  letI : Globs := ⟨[]⟩
  refine vmat rfl (fun i hi => ?_) _ _ _ _ g2
  show vecV (L.getD (i / 1) []) = vecV (rowM L i)
  rw [Nat.div_one]
  rfl

/-- A list of rows that are raised. -/
theorem open_rs {W : World} {base : Nat} {t e tv e2 : TypeId} {g0 g1 f0 f1 : Field} {v : Value} {d : DataW H} {ps : List MemPlace} (ht : P.underlying t = some (.slice e)) (hse : P.underlying e = some (.struct #[g0, g1])) (hCe : P.cellsOf e = 2)
    (k0 : P.underlying g0.type = some (.int .u8)) (d0 : P.cellsOf g0.type = 1) (hv : P.underlying g1.type = some (.slice e2)) (d1 : P.cellsOf g1.type = 1) (hg : g0.offset = 0 ∧ g1.offset = 1) (hs : P.underlying e2 = some (.struct #[f0, f1])) (hC : P.cellsOf e2 = 2)
    (h0 : P.underlying f0.type = some (.int .i64)) (h1 : P.underlying f1.type = some (.int .i64)) (c0 : P.cellsOf f0.type = 1) (c1 : P.cellsOf f1.type = 1) (ho : f0.offset = 0 ∧ f1.offset = 1)
    (hval : Value.okWide P W .any base t v) (h : DataW.Trod enc P W 0 (fun _ => true) true t v d ps) (hlt : ∀ x ∈ ps, x.block < W.heap.size) :
    ∃ L : List Rs, (∀ p ∈ L, (Lit.int .u8 p.1).wf = true ∧ p.2.length ≤ maxLen) ∧ den W (allB W) .zero (rsV L) v ∧ (d = .nil ∧ L = [] ∨ ∃ es rs, d = .slice es rs ∧ es.length = L.length) := by
  obtain ⟨L, q1, q2, q3⟩ := open_row (fun (p : Rs) j => if j = 0 then int .u8 p.1 else vecV p.2) ((0, []) : Rs) (fun p => (Lit.int .u8 p.1).wf = true ∧ p.2.length ≤ maxLen) ht hCe (by decide) (fun n cs y hy hp => by
    obtain ⟨m0, z0, e0, _⟩ := field_at hse hy hp 0 (f := g0) rfl
    obtain ⟨m1, z1, e1, hp1⟩ := field_at hse hy hp 1 (f := g1) rfl
    rw [d0, hg.1] at e0
    rw [d1, hg.2] at e1
    obtain ⟨A, r0, _, w0⟩ := DataW.trod_int k0 e0
    have one : ∃ u, (cs.drop 1).take 1 = [u] := by
      rcases DataW.trod_slice hv e1 with ⟨hcs, _⟩ | ⟨a, len, cap, elems, rest, n', _, hcs, _⟩
      · exact ⟨_, hcs⟩
      · exact ⟨_, hcs⟩
    obtain ⟨u, hu⟩ := one
    rw [hu] at e1
    obtain ⟨l, g1, g2⟩ := open_vec_cell hv hs hC h0 h1 c0 c1 ho e1 hp1
    refine ⟨(A, l), ⟨w0, g1⟩, fun j hj v hv => ?_⟩
    match j, hj with
    | 0, _ => exact one_cell r0 hv
    | 1, _ => rw [one_cell hu hv]; exact g2) hval h hlt
  exact ⟨L, q1, q2, q3⟩

end
end Go.Proofs.YthckagkciefliaaGreatDoor.AL
