/-
  The contracts of a text's dot: the program's and the document's.
-/
import Derived.Test.YthckagkciefliaaGreatDoorDtNext
import Derived.Test.YthckagkciefliaaGreatDoorHxRead
import Derived.Test.YthckagkciefliaaGreatDoorShelfN
set_option linter.unusedVariables false
set_option linter.unusedSectionVars false
namespace Go.Proofs.YthckagkciefliaaGreatDoor.Dt
open Go AL Hx

theorem index_at : ∀ l : List UInt8, Lib.indexByte l 58 = if atL l < l.length then (atL l : Int) else -1
  | [] => rfl
  | c :: l => by
    have ih := index_at l
    have hle := at_le l
    unfold Lib.indexByte
    by_cases hc : (c == 58) = true
    · have : atL (c :: l) = 0 := by unfold atL; rw [List.idxOf_cons, hc]; rfl
      rw [if_pos hc, this, if_pos (by simp)]
      rfl
    · have h2 : atL (c :: l) = atL l + 1 := by unfold atL; rw [List.idxOf_cons, show (c == 58) = false by simpa using hc]; rfl
      rw [if_neg hc, ih, h2, List.length_cons]
      by_cases h : atL l < l.length
      · have h3 : ¬ ((atL l : Int) == -1) = true := by simp
        rw [if_pos h, if_pos (show atL l + 1 < l.length + 1 by omega), if_neg h3]
        rfl
      · rw [if_neg h, if_neg (show ¬ atL l + 1 < l.length + 1 by omega)]
        rfl

theorem at_of {s : ByteArray} {k : Nat} (hk : k < s.size) (hc : (intsOf s).getD k 0 = 58) (hn : ∀ i, i < k → (intsOf s).getD i 0 ≠ 58) : atS s = k := by
  have hl : s.data.toList.length = s.size := rfl
  have get : ∀ i (h : i < s.data.toList.length), (intsOf s).getD i 0 = (s.data.toList[i].toNat : Int) := fun i h => by
    unfold intsOf
    rw [List.getD_eq_getElem?_getD, List.getElem?_map, List.getElem?_eq_getElem h]
    rfl
  refine at_first (k := k) (by omega) ?_ fun i hi h => ?_
  · rw [get k (by omega)] at hc
    apply UInt8.toNat_inj.1
    show _ = 58
    omega
  · refine hn i hi ?_
    rw [get i (by omega), h]
    rfl
theorem at_none' {s : ByteArray} (hn : ∀ i, i < s.size → (intsOf s).getD i 0 ≠ 58) : atS s = s.size := by
  have hl : s.data.toList.length = s.size := rfl
  have get : ∀ i (h : i < s.data.toList.length), (intsOf s).getD i 0 = (s.data.toList[i].toNat : Int) := fun i h => by
    unfold intsOf
    rw [List.getD_eq_getElem?_getD, List.getElem?_map, List.getElem?_eq_getElem h]
    rfl
  have := at_none (l := s.data.toList) fun c hc e => by
    obtain ⟨i, hi, rfl⟩ := List.getElem_of_mem hc
    refine hn i (by omega) ?_
    rw [get i hi, e]
    rfl
  unfold atS
  rw [this, hl]

section
variable [Globs]

theorem index_prog (s : ByteArray) : ACalls Tryz.prog 133 [str s, str ⟨#[58]⟩] [] (fun r h => r = int .i64 (Lib.indexByte s.data.toList 58) ∧ h = []) :=
  acalls_same (args := [.string s, .string ⟨#[58]⟩]) ⟨_, Tryz.func133, by decide, rfl⟩ fun w => Tryz.stringslite_Index_one s 58 w

def CutR (s : ByteArray) (r : AV) (h : List AO) : Prop :=
  r = .tup 3 (if atS s < s.size then triple (str (leftS s)) (str (rightS s)) .tt else triple (str s) (str ByteArray.empty) .ff) ∧ h = []

set_option maxHeartbeats 1000000 in
set_option maxRecDepth 10000 in
theorem cut_lite (s : ByteArray) (hs : s.size ≤ 281474976710656) : ACalls Tryz.prog 134 [str s, str ⟨#[58]⟩] [] (CutR s) := by
  have hi := index_at s.data.toList
  have hl : s.data.toList.length = s.size := rfl
  rw [hl] at hi
  have hp := index_prog s
  unfold CutR leftS rightS atS
  have hle := at_le s.data.toList
  rw [hl] at hle
  generalize Lib.indexByte s.data.toList 58 = I at *
  generalize atL s.data.toList = K at *
  refine rcalls Tryz.func134 rfl (by decide) ?_
  refine ⟨[], _, hp, ?_⟩
  rintro r h ⟨rfl, rfl⟩
  refine ⟨.inl rfl, ?_⟩
  refine ⟨fun c1 => ?_, fun c1 => ?_⟩
  · have g1 := yes c1
    have hK : K < s.size := Classical.byContradiction fun h => by rw [if_neg h] at hi; omega
    rw [if_pos hK] at hi
    subst hi
    have e1 : (IntKind.i64.wrap ((K : Int) + 1)).toNat = K + 1 := by rw [w64 (by omega) (by omega)]; omega
    have e2 : 0 ≤ IntKind.i64.wrap ((K : Int) + 1) ∧ IntKind.i64.wrap ((K : Int) + 1) ≤ (s.size : Int) := by rw [w64 (by omega) (by omega)]; omega
    refine .inl ⟨⟨by decide +kernel, by decide +kernel⟩, ?_⟩
    refine ⟨⟨by omega, by omega⟩, ?_⟩
    refine ⟨e2, ?_⟩
    rw [if_pos hK]
    refine ⟨[], [], _, leh0, le_triple (leS rfl) (leS ?_) .tt, rfl, rfl⟩
    show s.extract (IntKind.i64.wrap ((K : Int) + 1)).toNat s.size = _
    rw [e1]
  · have g1 := no c1
    have hK : ¬ K < s.size := fun h => by rw [if_pos h] at hi; omega
    rw [if_neg hK]
    exact ⟨[], [], _, leh0, le_triple (.raw _) (.raw _) .ff, rfl, rfl⟩

set_option maxHeartbeats 1000000 in
set_option maxRecDepth 10000 in
theorem cut_prog (s : ByteArray) (hs : s.size ≤ 281474976710656) : ACalls Tryz.prog 119 [str s, str ⟨#[58]⟩] [] (CutR s) := by
  have hc := cut_lite s hs
  unfold CutR at *
  refine rcalls Tryz.func119 rfl (by decide) ?_
  refine ⟨[], _, hc, ?_⟩
  rintro r h ⟨rfl, rfl⟩
  refine ⟨.inl rfl, ?_⟩
  by_cases hK : atS s < s.size
  · rw [if_pos hK]
    exact ⟨[], [], _, leh0, le_triple (leS rfl) (leS rfl) .tt, rfl, rfl⟩
  · rw [if_neg hK]
    exact ⟨[], [], _, leh0, le_triple (leS rfl) (leS rfl) .ff, rfl, rfl⟩

def ParseR (s : ByteArray) (r : AV) (h : List AO) : Prop := r = .tup 2 (pair (dotV (parseR s) (parseQ s)) (int .i64 (parseE s))) ∧ h = []
theorem left_size (s : ByteArray) : (leftS s).size ≤ s.size := by
  unfold leftS; rw [ByteArray.size_extract]; omega
theorem right_size (s : ByteArray) : (rightS s).size ≤ s.size := by
  unfold rightS; rw [ByteArray.size_extract]; omega

set_option maxHeartbeats 2000000 in
set_option maxRecDepth 10000 in
theorem parse_prog (hG : NumG) (s : ByteArray) (hs : s.size ≤ 281474976710656) : ACalls Tryz.prog 91 [str s] [] (ParseR s) := by
  have bad : ∀ (h : List AO) (f : Nat → AV), f 0 = int .i64 0 → f 1 = int .i64 0 → ¬ okP s → ∃ l h1 c, LeH 0 h l h1 ∧ LeV h l (.tup 2 fun i => [.agg 2 f, int .i64 2].getD i .top) c ∧ ParseR s c h1 := fun h f h0 h1 hv => by
    obtain ⟨g0, g1, g2⟩ := parse_bad hv
    exact ⟨[], [], _, lehN _, le_pair (le_dot (by rw [h0]; exact leI g1.symm) (by rw [h1]; exact leI g2.symm)) (leI g0.symm), rfl, rfl⟩
  have hc := cut_prog s hs
  unfold CutR at hc
  have hls := left_size s
  have hrs := right_size s
  by_cases hK : atS s < s.size
  · rw [if_pos hK] at hc
    have r1 := read_prog hG (leftS s) 31 (by omega)
    have r2 := read_prog hG (rightS s) 1099511627776 (by omega)
    unfold ReadR at r1 r2
    have hP : okP s ↔ readE (leftS s) 31 = 0 ∧ readE (rightS s) 1099511627776 = 0 ∧ mayD (readV (leftS s) 31) (readV (rightS s) 1099511627776) := ⟨fun h => h.2, fun h => ⟨hK, h⟩⟩
    have hO := @parse_ok s
    generalize readV (leftS s) 31 = V1 at *
    generalize readE (leftS s) 31 = E1 at *
    generalize readV (rightS s) 1099511627776 = V2 at *
    generalize readE (rightS s) 1099511627776 = E2 at *
    generalize leftS s = A at *
    generalize rightS s = B at *
    refine rcalls Tryz.func91 rfl (by decide) ?_
    refine ⟨[], _, hc, ?_⟩
    rintro r h ⟨rfl, rfl⟩
    refine ⟨.inl rfl, ?_⟩
    refine ⟨[], _, r1, ?_⟩
    rintro r h ⟨rfl, rfl⟩
    refine ⟨.inl rfl, ?_⟩
    refine ⟨[], _, r2, ?_⟩
    rintro r h ⟨rfl, rfl⟩
    refine ⟨.inl rfl, ?_⟩
    refine ⟨fun c1 => ?_, fun c1 => ⟨fun c2 => ?_, fun c2 => ?_⟩⟩
    · have g := yes c1
      exact bad _ _ rfl rfl fun h => g (hP.1 h).1
    · have g := yes c2
      exact bad _ _ rfl rfl fun h => g (hP.1 h).2.1
    have g1 : E1 = 0 := Classical.not_not.1 (no c1)
    have g2 : E2 = 0 := Classical.not_not.1 (no c2)
    have hm := may_prog V1 V2
    refine ⟨[], _, dfree rfl rfl, hm.args ⟨vdot rfl rfl, trivial⟩, ?_⟩
    rintro r h ⟨rfl, rfl⟩
    refine ⟨.inl rfl, ?_⟩
    refine ⟨fun c3 => ?_, fun c3 => ?_⟩
    · have g : ¬ mayD V1 V2 := notT c3
      exact bad _ _ rfl rfl fun h => g (hP.1 h).2.2
    · have g : mayD V1 V2 := notF c3
      obtain ⟨o1, o2, o3⟩ := hO (hP.2 ⟨g1, g2, g⟩)
      exact ⟨[], [], _, lehN _, le_pair (le_dot (leI o2.symm) (leI o3.symm)) (leI o1.symm), rfl, rfl⟩
  · rw [if_neg hK] at hc
    have r1 := read_prog hG s 31 (by omega)
    have r2 := read_prog hG ByteArray.empty 1099511627776 (by decide)
    unfold ReadR at r1 r2
    have hP : ¬ okP s := fun h => hK h.1
    generalize readV s 31 = V1 at *
    generalize readE s 31 = E1 at *
    generalize readV ByteArray.empty 1099511627776 = V2 at *
    generalize readE ByteArray.empty 1099511627776 = E2 at *
    refine rcalls Tryz.func91 rfl (by decide) ?_
    refine ⟨[], _, hc, ?_⟩
    rintro r h ⟨rfl, rfl⟩
    refine ⟨.inl rfl, ?_⟩
    refine ⟨[], _, r1, ?_⟩
    rintro r h ⟨rfl, rfl⟩
    refine ⟨.inl rfl, ?_⟩
    refine ⟨[], _, r2, ?_⟩
    rintro r h ⟨rfl, rfl⟩
    refine ⟨.inl rfl, ?_⟩
    exact bad _ _ rfl rfl hP

set_option maxHeartbeats 2000000 in
set_option maxRecDepth 10000 in
theorem parse_ref (s : ByteArray) (hs : s.size ≤ 281474976710656) : ACalls Tryz.prog 64 [str s] [] (ParseR s) := by
  have bad : ∀ (h : List AO) (f : Nat → AV), f 0 = int .i64 0 → f 1 = int .i64 0 → ¬ okP s → ∃ l h1 c, LeH 0 h l h1 ∧ LeV h l (.tup 2 fun i => [.agg 2 f, int .i64 2].getD i .top) c ∧ ParseR s c h1 := fun h f h0 h1 hv => by
    obtain ⟨g0, g1, g2⟩ := parse_bad hv
    exact ⟨[], [], _, lehN _, le_pair (le_dot (by rw [h0]; exact leI g1.symm) (by rw [h1]; exact leI g2.symm)) (leI g0.symm), rfl, rfl⟩
  have hls := left_size s
  have hrs := right_size s
  have r1 := read_ref (leftS s) 31 (by omega)
  have r2 := read_ref (rightS s) 1099511627776 (by omega)
  unfold ReadR at r1 r2
  have hP : okP s ↔ atS s < s.size ∧ readE (leftS s) 31 = 0 ∧ readE (rightS s) 1099511627776 = 0 ∧ mayD (readV (leftS s) 31) (readV (rightS s) 1099511627776) := Iff.rfl
  have hO := @parse_ok s
  have hL : leftS s = s.extract 0 (atS s) := rfl
  have hR : rightS s = s.extract (atS s + 1) s.size := rfl
  have hAt := @at_of s
  have hAt0 := @at_none' s
  generalize readV (leftS s) 31 = V1 at *
  generalize readE (leftS s) 31 = E1 at *
  generalize readV (rightS s) 1099511627776 = V2 at *
  generalize readE (rightS s) 1099511627776 = E2 at *
  generalize leftS s = A at *
  generalize rightS s = B at *
  generalize atS s = K at *
  refine rcalls Tryz.func64 rfl (by decide) ?_
  refine ⟨Nat, fun k => [(0, str s), (2, .ptr 0 0), (3, int .i64 0), (4, int .i64 k)], fun _ => [.lst [int .i64 0, int .i64 0]], fun k => k ≤ s.size ∧ ∀ i, i < k → (intsOf s).getD i 0 ≠ 58, fun k => s.size - k,
    ⟨0, [0], ⟨by omega, by omega⟩, leh1 rfl (leLst2 (leI rfl) (leI rfl)), ⟨leS rfl, .ptr _ rfl, leI rfl, leI rfl, trivial⟩⟩, ?_⟩
  rintro k ⟨hk, hn⟩
  refine ⟨fun c1 => ⟨⟨by omega, by have := yes c1; omega⟩, fun c2 => ?_, fun c2 => ?_⟩, fun c1 => ?_⟩
  · have f1 := yes c1
    have f2 : ¬ (intsOf s).getD k 0 = 58 := yes c2
    have e1 : IntKind.i64.wrap ((k : Int) + 1) = ((k + 1 : Nat) : Int) := by rw [w64 (by omega) (by omega)]; omega
    refine ⟨trivial, k + 1, [0], ⟨by omega, fun i hi => ?_⟩, by show s.size - (k + 1) < s.size - k; omega, leh1 rfl (leLst2 (leI rfl) (leI rfl)), ⟨leS rfl, .ptr _ rfl, leI rfl, leI e1, trivial⟩⟩
    rcases Nat.lt_or_ge i k with h | h
    · exact hn i h
    · rw [show i = k by omega]; exact f2
  · have f1 := yes c1
    have f2 : ¬ ¬ (intsOf s).getD k 0 = 58 := no c2
    have hKk : K = k := hAt (by omega) (Classical.not_not.1 f2) hn
    subst hKk
    have e1 : (IntKind.i64.wrap ((K : Int) + 1)).toNat = K + 1 := by rw [w64 (by omega) (by omega)]; omega
    have e2 : 0 ≤ IntKind.i64.wrap ((K : Int) + 1) ∧ IntKind.i64.wrap ((K : Int) + 1) ≤ (s.size : Int) := by rw [w64 (by omega) (by omega)]; omega
    have hB : B = s.extract (IntKind.i64.wrap ((K : Int) + 1)).toNat s.size := by rw [e1]; exact hR
    rw [hL] at r1
    rw [hB] at r2
    refine ⟨fun c3 => absurd (yes c3) (by omega), fun _ => ?_⟩
    refine ⟨⟨by omega, by omega⟩, ?_⟩
    refine ⟨[], _, r1, ?_⟩
    rintro r h ⟨rfl, rfl⟩
    refine ⟨.inl rfl, ?_⟩
    refine ⟨e2, ?_⟩
    refine ⟨[], _, r2, ?_⟩
    rintro r h ⟨rfl, rfl⟩
    refine ⟨.inl rfl, ?_⟩
    refine ⟨fun c4 => ?_, fun c4 => ⟨fun c5 => ?_, fun c5 => ?_⟩⟩
    · have g := yes c4
      exact bad _ _ rfl rfl fun h => g (hP.1 h).2.1
    · have g := yes c5
      exact bad _ _ rfl rfl fun h => g (hP.1 h).2.2.1
    have g1 : E1 = 0 := Classical.not_not.1 (no c4)
    have g2 : E2 = 0 := Classical.not_not.1 (no c5)
    have hm := may_ref V1 V2
    refine ⟨[], _, dfree rfl rfl, hm.args ⟨vdot rfl rfl, trivial⟩, ?_⟩
    rintro r h ⟨rfl, rfl⟩
    refine ⟨.inl rfl, ?_⟩
    refine ⟨fun c3 => ?_, fun c3 => ?_⟩
    · have g : ¬ mayD V1 V2 := notT c3
      exact bad _ _ rfl rfl fun h => g (hP.1 h).2.2.2
    · have g : mayD V1 V2 := notF c3
      obtain ⟨o1, o2, o3⟩ := hO (hP.2 ⟨by omega, g1, g2, g⟩)
      exact ⟨[], [], _, lehN _, le_pair (le_dot (leI o2.symm) (leI o3.symm)) (leI o1.symm), rfl, rfl⟩
  · have f1 := no c1
    obtain rfl : k = s.size := by omega
    have hKk : K = s.size := hAt0 fun i hi => hn i hi
    refine ⟨fun _ => ?_, fun c3 => absurd rfl (no c3)⟩
    exact bad _ _ rfl rfl fun h => by have := (hP.1 h).1; omega

end
end Go.Proofs.YthckagkciefliaaGreatDoor.Dt
