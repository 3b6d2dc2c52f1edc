/-
  The contract of strings.Split at a text of one sign.
-/
import Derived.Test.YthckagkciefliaaGreatDoorSpl
import Derived.Test.YthckagkciefliaaGreatDoorFwD
import Derived.Test.YthckagkciefliaaGreatDoorShelfN
set_option linter.unusedVariables false
set_option linter.unusedSectionVars false
namespace Go.Proofs.YthckagkciefliaaGreatDoor.Spl
open Go AL

def bA (p : List UInt8) : ByteArray := ⟨p.toArray⟩
theorem bA_data (s : ByteArray) : bA s.data.toList = s := by unfold bA; cases s; simp
theorem bA_list (p : List UInt8) : (bA p).data.toList = p := by simp [bA]
theorem bA_size (p : List UInt8) : (bA p).size = p.length := by show p.toArray.size = _; simp
def sAt (ps : List ByteArray) (i : Nat) : ByteArray := ps.getD i ByteArray.empty
def pcs (c : UInt8) (s : ByteArray) : List ByteArray := (pieces c s.data.toList).map bA
theorem pcs_at {c : UInt8} {s : ByteArray} {k : Nat} (h : k < (pieces c s.data.toList).length) : sAt (pcs c s) k = bA ((pieces c s.data.toList).getD k []) := by
  unfold sAt pcs
  rw [List.getD_eq_getElem?_getD, List.getElem?_map, List.getElem?_eq_getElem h, List.getD_eq_getElem?_getD, List.getElem?_eq_getElem h]
  rfl
/-- The cells of the row of pieces, the first k of them filled. -/
def cellS (ps : List ByteArray) (k i : Nat) : ByteArray := if i < k then sAt ps i else ByteArray.empty
theorem cellS_new (P : List ByteArray) (k : Nat) : cellS P (k + 1) k = sAt P k := if_pos (Nat.lt_succ_self k)
theorem cellS_old (P : List ByteArray) {k i : Nat} (h : i ≠ k) : cellS P (k + 1) i = cellS P k i := by
  unfold cellS
  by_cases h2 : i < k
  · rw [if_pos h2, if_pos (by omega)]
  · rw [if_neg h2, if_neg (by omega)]
theorem bA_ext {s t : ByteArray} (h : s.data.toList = t.data.toList) : s = t := by rw [← bA_data s, h, bA_data]
theorem ext_list (s : ByteArray) (a b : Nat) : (s.extract a b).data.toList = (s.data.toList.take b).drop a := by
  rw [ByteArray.data_extract, Array.toList_extract]
  simp [List.drop_take]
theorem cut_left (p b : List UInt8) (c : UInt8) : (bA (p ++ c :: b)).extract 0 p.length = bA p := by
  refine bA_ext ?_
  rw [ext_list, bA_list, bA_list, List.drop_zero, List.take_append_of_le_length (Nat.le_refl _), List.take_of_length_le (Nat.le_refl _)]
theorem cut_right (p b : List UInt8) (c : UInt8) : (bA (p ++ c :: b)).extract (p.length + 1) (bA (p ++ c :: b)).size = bA b := by
  refine bA_ext ?_
  rw [ext_list, bA_list, bA_list, bA_size, List.take_of_length_le (Nat.le_refl _), List.drop_append, List.drop_eq_nil_of_le (by omega)]
  simp

section
variable [Globs]
abbrev textsV (ps : List ByteArray) : AV := .ro ps.length 1 fun i => str (sAt ps i)

theorem giveTexts {h : List AO} {l : List Nat} {id off len n : Nat} {f : Nat → AV} {ps : List ByteArray} (e : h[id]? = some (.row n f)) (hl : id ∉ l) (ho : off = 0) (he : len = ps.length) (hb : ps.length ≤ n) (hf : ∀ i, i < ps.length → f i = str (sAt ps i)) :
    LeV h l (.own id off len 1) (textsV ps) := by
  subst ho he
  exact .giveR _ e hl (by omega) (fun i hi => by rw [Nat.zero_add, hf i (by omega)]; exact .raw _) fun i hi => trivial

theorem countOne_prog (s : ByteArray) (c : UInt8) : ACalls Tryz.prog 117 [str s, str ⟨#[c]⟩] [] (fun r h => r = int .i64 (Lib.countByte s.data.toList c) ∧ h = []) :=
  acalls_same (args := [.string s, .string ⟨#[c]⟩]) ⟨_, Tryz.func117, by decide, rfl⟩ fun w => Tryz.strings_Count_one s c w

theorem indexOne_prog (s : ByteArray) (c : UInt8) : ACalls Tryz.prog 118 [str s, str ⟨#[c]⟩] [] (fun r h => r = int .i64 (Lib.indexByte s.data.toList c) ∧ h = []) :=
  acalls_same (args := [.string s, .string ⟨#[c]⟩]) ⟨_, Tryz.func118, by decide, rfl⟩ fun w => Tryz.strings_Index_one s c w

set_option maxHeartbeats 2000000 in
set_option maxRecDepth 10000 in
theorem genSplit_prog (s : ByteArray) (c : UInt8) (hs : s.size ≤ 1099511627776) : ACalls Tryz.prog 90 [str s, str ⟨#[c]⟩, int .i64 0, int .i64 (-1)] [] (fun r h => r = textsV (pcs c s) ∧ h = []) := by
  have hl : s.data.toList.length = s.size := rfl
  obtain ⟨ps, hps⟩ : ∃ ps, pieces c s.data.toList = ps := ⟨_, rfl⟩
  have hne : 0 < ps.length := by rw [← hps, pieces_len]; omega
  have hcnt : (Lib.countByte s.data.toList c : Int) = ps.length - 1 := by
    rw [← hps, pieces_len]; unfold Lib.countByte; omega
  have hcle : ps.length ≤ s.size + 1 := by
    rw [← hps, pieces_len, ← hl]
    have := List.count_le_length (a := c) (l := s.data.toList)
    omega
  have hjoin : joinC c ps = s.data.toList := by rw [← hps, join_pieces]
  have hfree : ∀ p ∈ ps, ∀ x ∈ p, x ≠ c := by rw [← hps]; exact pieces_free
  have hP : ∀ k, k < ps.length → sAt (pcs c s) k = bA (ps.getD k []) := fun k hk => by rw [← hps]; exact pcs_at (by rw [hps]; exact hk)
  have hPl : (pcs c s).length = ps.length := by unfold pcs; rw [hps]; simp
  have h0 : bA (joinC c (ps.drop 0)) = s := by rw [List.drop_zero, hjoin, bA_data]
  have hrl := rest_len c ps
  rw [hjoin, hl] at hrl
  have hC := countOne_prog s c
  rw [hcnt] at hC
  clear hps hcnt
  generalize pcs c s = P at *
  have m1 : IntKind.i64.wrap ((ps.length : Int) - 1 + 1) = ps.length := by rw [w64 (by omega) (by omega)]; omega
  have m2 : min (IntKind.i64.wrap ((ps.length : Int) - 1 + 1)) (IntKind.i64.wrap ((s.size : Int) + 1)) = ps.length := by rw [m1, w64 (by omega) (by omega)]; omega
  have m3 : IntKind.i64.wrap (min (IntKind.i64.wrap ((ps.length : Int) - 1 + 1)) (IntKind.i64.wrap ((s.size : Int) + 1)) - 1) = ps.length - 1 := by rw [m2, w64 (by omega) (by omega)]
  have m4 : (min (IntKind.i64.wrap ((ps.length : Int) - 1 + 1)) (IntKind.i64.wrap ((s.size : Int) + 1))).toNat = ps.length := by rw [m2]; omega
  refine rcalls Tryz.func90 rfl (by decide) ?_
  refine ⟨fun g => absurd (yes g) (by decide), fun _ => ?_⟩
  refine ⟨fun g => absurd (congrArg ByteArray.size (yes g)) (by show ¬ (1 : Nat) = 0; omega), fun _ => ?_⟩
  refine ⟨fun _ => ?_, fun g => absurd (by decide) (no g)⟩
  refine ⟨[], _, hC, ?_⟩
  rintro r hh ⟨rfl, rfl⟩
  refine ⟨.inl rfl, ?_⟩
  refine ⟨⟨by rw [m2]; omega, Int.le_refl _, by rw [m2]; omega, by rw [m2]; show (ps.length : Int) * 16 ≤ _; omega⟩, ?_⟩
  refine ⟨Nat, fun k => [(0, str (bA (joinC c (ps.drop k)))), (1, str ⟨#[c]⟩), (2, int .i64 0), (3, int .i64 (ps.length - 1)), (9, .own 0 0 ps.length 1), (10, int .i64 k)], fun k => [.row (ps.length * 1) fun i => str (cellS P k i)], fun k => k + 1 ≤ ps.length, fun k => ps.length - k,
    ⟨0, [0], by omega, leh1 rfl (.row _ _ _ _ (by rw [m4]; exact Nat.le_refl _) fun i hi => ?_), ⟨leS h0.symm, leS rfl, leI rfl, leI m3, leOwn rfl rfl m4, leI rfl, trivial⟩⟩, ?_⟩
  · rw [Nat.mod_one]
    exact leS (by unfold cellS; rw [if_neg (Nat.not_lt_zero _)]; rfl)
  intro k hk
  have hk : k + 1 ≤ ps.length := hk
  have hin : (0 : Int) ≤ k ∧ (k : Int) < ps.length := ⟨by omega, by omega⟩
  have hoff : addOff 0 (k : Int).toNat 1 = k := by simp [addOff]
  refine ⟨fun g => ?_, fun g => ?_⟩
  · have g1 : (k : Int) < ps.length - 1 := yes g
    have hm := rest_more (c := c) (ps := ps) (k := k) (by omega)
    have hrk := hrl k (by omega)
    have hpk : ∀ x ∈ ps.getD k [], x ≠ c := by
      rw [List.getD_eq_getElem?_getD, List.getElem?_eq_getElem (by omega)]
      exact hfree _ (List.getElem_mem _)
    have hI := indexOne_prog (bA (joinC c (ps.drop k))) c
    rw [bA_list, hm, index_app _ hpk] at hI
    have hPk := hP k (by omega)
    rw [hm] at hrk
    rw [hm]
    obtain ⟨B, hB⟩ : ∃ B, joinC c (ps.drop (k + 1)) = B := ⟨_, rfl⟩
    rw [hB] at hI hm hrk ⊢
    generalize ps.getD k [] = p at *
    have hsz : (bA (p ++ c :: B)).size = p.length + 1 + B.length := by rw [bA_size, List.length_append, List.length_cons]; omega
    rw [List.length_append, List.length_cons] at hrk
    have e1 : IntKind.i64.wrap ((k : Int) + 1) = ((k + 1 : Nat) : Int) := by rw [w64 (by omega) (by omega)]; omega
    have e2 : IntKind.i64.wrap ((p.length : Int) + 0) = p.length := by rw [w64 (by omega) (by omega)]; omega
    have e3 : IntKind.i64.wrap ((p.length : Int) + ((⟨#[c]⟩ : ByteArray).size : Int)) = (p.length : Int) + 1 := by show IntKind.i64.wrap ((p.length : Int) + 1) = _; rw [w64 (by omega) (by omega)]
    have q2 : (IntKind.i64.wrap ((p.length : Int) + 0)).toNat = p.length := by rw [e2]; omega
    have q3 : (IntKind.i64.wrap ((p.length : Int) + ((⟨#[c]⟩ : ByteArray).size : Int))).toNat = p.length + 1 := by rw [e3]; omega
    refine ⟨[], _, hI, ?_⟩
    rintro r hh ⟨rfl, rfl⟩
    refine ⟨.inl rfl, ?_⟩
    refine ⟨fun g => absurd (yes g) (by omega), fun _ => ?_⟩
    refine ⟨⟨by rw [e2]; omega, by rw [e2, hsz]; omega⟩, ?_⟩
    refine ⟨hin, ?_⟩
    refine ⟨by rw [hoff]; omega, fun i => str (cellS P (k + 1) i), fun i hi => ?_, ?_⟩
    · rw [hoff]
      by_cases h : i = k
      · rw [if_pos h, h, q2, cut_left]
        show str (cellS P (k + 1) k) = _
        rw [cellS_new, hPk]
      · rw [if_neg h]
        show str (cellS P (k + 1) i) = str (cellS P k i)
        rw [cellS_old P h]
    refine ⟨⟨by rw [e3]; omega, by rw [e3, hsz]; omega⟩, ?_⟩
    refine ⟨trivial, k + 1, [0], by show k + 1 + 1 ≤ ps.length; omega, by show ps.length - (k + 1) < ps.length - k; omega, leh1 rfl (.row _ _ _ _ (Nat.le_refl _) fun i hi => .raw _), ⟨leS ?_, leS rfl, leI rfl, leI rfl, leOwn rfl rfl rfl, leI e1, trivial⟩⟩
    rw [hB]
    show (bA (p ++ c :: B)).extract (IntKind.i64.wrap ((p.length : Int) + ((⟨#[c]⟩ : ByteArray).size : Int))).toNat (bA (p ++ c :: B)).size = bA B
    rw [q3, cut_right]
  · have g1 : ¬ (k : Int) < ps.length - 1 := no g
    have hlast : k + 1 = ps.length := by omega
    have hm := rest_last (c := c) hlast
    have hPk := hP k (by omega)
    have e1 : (IntKind.i64.wrap ((k : Int) + 1)).toNat = ps.length := by rw [w64 (by omega) (by omega)]; omega
    have e2 : 0 ≤ IntKind.i64.wrap ((k : Int) + 1) ∧ IntKind.i64.wrap ((k : Int) + 1) ≤ (ps.length : Int) := by rw [w64 (by omega) (by omega)]; omega
    rw [hm]
    refine ⟨hin, ?_⟩
    refine ⟨by rw [hoff]; omega, fun i => str (cellS P ps.length i), fun i hi => ?_, ?_⟩
    · rw [hoff, ← hlast]
      by_cases h : i = k
      · rw [if_pos h, h]
        show str (cellS P (k + 1) k) = _
        rw [cellS_new, hPk]
      · rw [if_neg h]
        show str (cellS P (k + 1) i) = str (cellS P k i)
        rw [cellS_old P h]
    refine ⟨e2, ?_⟩
    refine ⟨[], [], _, lehN _, ?_, rfl, rfl⟩
    refine giveTexts rfl (by simp) (by simp [addOff]) (by rw [hPl, Nat.sub_zero]; exact e1) (by rw [hPl]; omega) fun i hi => ?_
    show str (cellS P ps.length i) = str (sAt P i)
    unfold cellS
    rw [if_pos (by omega)]

set_option maxHeartbeats 2000000 in
set_option maxRecDepth 10000 in
theorem split_prog (s : ByteArray) (c : UInt8) (hs : s.size ≤ 1099511627776) : ACalls Tryz.prog 39 [str s, str ⟨#[c]⟩] [] (fun r h => r = textsV (pcs c s) ∧ h = []) := by
  have h1 := genSplit_prog s c hs
  generalize pcs c s = P at *
  refine rcalls Tryz.func39 rfl (by decide) ?_
  refine ⟨[], _, h1, ?_⟩
  rintro r hh ⟨rfl, rfl⟩
  refine ⟨.inl rfl, ?_⟩
  exact ⟨[], [], _, lehN _, .same _ trivial, rfl, rfl⟩

end
end Go.Proofs.YthckagkciefliaaGreatDoor.Spl
