import Derived.Laws.RangeString
import Derived.RangeFuncNested
import Derived.RangeFuncBound
import Derived.RangeFuncCalls
import Derived.RangeFuncLeaves
import Derived.Shelf.Abstract
import Derived.Shelf.RegionOpen
import Derived.WalkKit
import Derived.OwnWalkIn
import Derived.TacticsInMore
import Derived.LoopNIn
import Derived.LoopIn
import Derived.Test.YtflclafbieokiaaGreatDoorProg
import Derived.Test.YtflclafbieokiaaGreatDoorShelfN
import Derived.Lib.IndexLaws
import Derived.Shelf.Bytes.SlIndexAt
import Derived.Shelf.Lays
import Derived.Lib.Strings
import Derived.Lib.Walk
import Derived.Lib.BytesEntry
import Derived.Lib.ItoaLen
import Derived.Lib.ParseIntBTie
import Derived.Test.YtflclafbieokiaaGreatDoorBsd

/-
  Parts of paths: what they are, and what the document's own functions say of them.
-/
set_option linter.unusedVariables false
set_option linter.unusedSectionVars false
namespace Go.Proofs.YtflclafbieokiaaGreatDoor.Pa
open Go AL Spl

def letN (c : Int) : Bool := decide (97 ≤ c ∧ c ≤ 122 ∨ 65 ≤ c ∧ c ≤ 90 ∨ 48 ≤ c ∧ c ≤ 57 ∨ c = 45 ∨ c = 46 ∨ c = 95 ∨ c = 43 ∨ c = 126)
def letters : ByteArray := ⟨#[97, 98, 99, 100, 101, 102, 103, 104, 105, 106, 107, 108, 109, 110, 111, 112, 113, 114, 115, 116, 117, 118, 119, 120, 121, 122, 65, 66, 67, 68, 69, 70, 71, 72, 73, 74, 75, 76, 77, 78, 79, 80, 81, 82, 83, 84, 85, 86, 87, 88, 89, 90, 48, 49, 50, 51, 52, 53, 54, 55, 56, 57, 45, 46, 95, 43, 126]⟩
def one : ByteArray := ⟨#[46]⟩
def two : ByteArray := ⟨#[46, 46]⟩
def okPart (p : ByteArray) : Prop := 1 ≤ p.size ∧ p.size ≤ 100 ∧ p ≠ one ∧ p ≠ two ∧ ∀ k, k < p.size → letN ((intsOf p).getD k 0) = true
instance (p : ByteArray) : Decidable (okPart p) := by unfold okPart; infer_instance

section
variable [Globs]

set_option maxHeartbeats 2000000 in
set_option maxRecDepth 10000 in
theorem letter_ref (c : Int) : ACalls Tryz.prog 187 [int .u8 c] [] (fun r h => r = bool (letN c) ∧ h = []) := by
  obtain ⟨B, hB⟩ : ∃ B, letN c = B := ⟨_, rfl⟩
  have hB' := hB
  unfold letN at hB'
  rw [hB]
  refine rcalls Tryz.func187 rfl (by decide) ?_
  repeat' (first | (refine ⟨fun h => ?_, fun h => ?_⟩ <;> first | replace h := yes h | replace h := no h) | fail)
  all_goals first
    | exact ⟨[], [], _, lehN _, leTB (by rw [← hB']; exact decide_eq_true (by omega)), rfl, rfl⟩
    | exact ⟨[], [], _, lehN _, AL.leB (by rw [← hB']; exact decide_eq_decide.2 (by omega)), rfl, rfl⟩

set_option maxHeartbeats 2000000 in
set_option maxRecDepth 10000 in
theorem part_ref (s : ByteArray) (hs : s.size ≤ 9223372036854775806) : ACalls Tryz.prog 164 [str s] [] (fun r h => r = bool (decide (okPart s)) ∧ h = []) := by
  have hP : okPart s ↔ _ := Iff.rfl
  obtain ⟨B, hB⟩ : ∃ B, decide (okPart s) = B := ⟨_, rfl⟩
  rw [hB]
  have hf : ¬ okPart s → B = false := fun h => by rw [← hB]; exact decide_eq_false h
  have hl := letter_ref
  refine rcalls Tryz.func164 rfl (by decide) ?_
  refine ⟨Nat, fun k => [(0, str s), (3, int .i64 k)], fun _ => [], fun k => k ≤ s.size ∧ ∀ i, i < k → letN ((intsOf s).getD i 0) = true, fun k => s.size - k,
    ⟨0, [], ⟨Nat.zero_le _, by simp⟩, lehN _, ⟨leS rfl, leI rfl, trivial⟩⟩, ?_⟩
  rintro k ⟨hk, hj⟩
  refine ⟨fun c => ?_, fun c => ?_⟩
  · have f1 : (k : Int) < s.size := yes c
    have e1 : IntKind.i64.wrap ((k : Int) + 1) = ((k + 1 : Nat) : Int) := by rw [w64 (by omega) (by omega)]; omega
    have hlk := hl ((intsOf s).getD k 0)
    refine ⟨⟨by omega, f1⟩, ?_⟩
    refine ⟨[], _, hlk, ?_⟩
    rintro r hh ⟨rfl, rfl⟩
    refine ⟨.inl rfl, ?_⟩
    refine ⟨fun c2 => ?_, fun c2 => ?_⟩
    · exact ⟨[], [], _, lehN _, leFB (hf fun h => by have := h.2.2.2.2 k (by omega); rw [this] at c2; cases c2), rfl, rfl⟩
    · refine ⟨trivial, k + 1, [], ⟨by show k + 1 ≤ _; omega, fun i hi => ?_⟩, by show s.size - (k + 1) < s.size - k; omega, lehN _, ⟨leS rfl, leI e1, trivial⟩⟩
      rcases Nat.lt_or_ge i k with h | h
      · exact hj i h
      · rw [show i = k by omega]; exact unnot c2
  · have f1 : ¬ (k : Int) < s.size := no c
    obtain rfl : k = s.size := by omega
    refine ⟨fun c1 => ⟨fun c2 => ⟨fun c3 => ?_, fun c3 => ?_⟩, fun c2 => ?_⟩, fun c1 => ?_⟩
    · refine ⟨[], [], _, lehN _, AL.leB ?_, rfl, rfl⟩
      rw [← hB]
      exact decide_eq_decide.2 ⟨fun h => ⟨by have := yes c1; omega, by have := yes c2; omega, yes c3, h, hj⟩, fun h => h.2.2.2.1⟩
    · exact ⟨[], [], _, lehN _, leFB (hf fun h => no c3 h.2.2.1), rfl, rfl⟩
    · exact ⟨[], [], _, lehN _, leFB (hf fun h => no c2 (by have := h.2.1; omega)), rfl, rfl⟩
    · exact ⟨[], [], _, lehN _, leFB (hf fun h => no c1 (by have := h.1; omega)), rfl, rfl⟩

end
end Go.Proofs.YtflclafbieokiaaGreatDoor.Pa

/-
  The library's Trim at the letters of a part.
-/
set_option linter.unusedVariables false
set_option linter.unusedSectionVars false
namespace Go.Proofs.YtflclafbieokiaaGreatDoor.Pa
open Go AL Spl

def hasK (k i : Nat) : Bool := (List.range k).any fun j => decide ((intsOf letters).getD j 0 = i)
theorem has_all : ∀ i, i < 256 → hasK 67 i = letN i := by decide +kernel
theorem has_zero (i : Nat) : hasK 0 i = false := rfl
theorem has_succ (k i : Nat) : hasK (k + 1) i = (hasK k i || decide ((intsOf letters).getD k 0 = i)) := by
  unfold hasK
  rw [List.range_succ, List.any_append]
  simp
theorem letters_small : ∀ k, k < 67 → 0 ≤ (intsOf letters).getD k 0 ∧ (intsOf letters).getD k 0 < 128 := by decide +kernel
theorem letters_size : letters.size = 67 := rfl

section
variable [Globs]
abbrev setV : Nat → AV := fun i => bool (letN i)

set_option maxHeartbeats 2000000 in
set_option maxRecDepth 10000 in
theorem makeSet_prog : ACalls Tryz.prog 194 [str letters] [] (fun r h => r = .tup 2 (pair (.agg 256 setV) .tt) ∧ h = []) := by
  have hall := has_all
  have h0 := has_zero
  have hsu := has_succ
  have hsm := letters_small
  have hsz := letters_size
  generalize letters = s at *
  refine rcalls Tryz.func194 rfl (by decide) ?_
  refine ⟨rfl, ?_⟩
  refine ⟨Nat, fun k => [(0, str s), (2, .ptr 0 0), (4, int .i64 k)], fun k => [.row 256 fun i => bool (hasK k i)], fun k => k ≤ 67, fun k => 67 - k,
    ⟨0, [0], by omega, leh1 rfl (.row _ _ _ _ (Nat.le_refl _) fun i hi => AL.leB (h0 i).symm), ⟨leS rfl, .ptr _ rfl, leI rfl, trivial⟩⟩, ?_⟩
  intro k hk
  have hk : k ≤ 67 := hk
  refine ⟨fun c => ?_, fun c => ?_⟩
  · have f1 : (k : Int) < s.size := yes c
    have hk' : k < 67 := by omega
    have e1 : IntKind.i64.wrap ((k : Int) + 1) = ((k + 1 : Nat) : Int) := by rw [w64 (by omega) (by omega)]; omega
    obtain ⟨b1, b2⟩ := hsm k hk'
    have hs1 := hsu k
    have hto : ((k : Int)).toNat = k := by omega
    refine ⟨⟨by omega, f1⟩, ?_⟩
    refine ⟨fun c2 => ?_, fun c2 => ?_⟩
    · have := yes c2; rw [hto] at this; omega
    have f2 : (0 : Int) ≤ (intsOf s).getD ((k : Int)).toNat 0 ∧ (intsOf s).getD ((k : Int)).toNat 0 < 128 := by rw [hto]; exact ⟨b1, b2⟩
    have ho : addOff 0 ((intsOf s).getD ((k : Int)).toNat 0).toNat 1 = ((intsOf s).getD k 0).toNat := by
      rw [hto]; unfold addOff; omega
    refine ⟨⟨f2.1, by show (intsOf s).getD ((k : Int)).toNat 0 < 256; omega⟩, ?_⟩
    refine ⟨by show addOff 0 ((intsOf s).getD ((k : Int)).toNat 0).toNat 1 < 256; rw [ho]; omega, fun i => if i = ((intsOf s).getD k 0).toNat then .tt else bool (hasK k i), fun i hi => ?_, ?_⟩
    · show _ = if i = addOff 0 ((intsOf s).getD ((k : Int)).toNat 0).toNat 1 then _ else _
      rw [ho]
    exact ⟨trivial, k + 1, [0], by show k + 1 ≤ 67; omega, by show 67 - (k + 1) < 67 - k; omega, leh1 rfl (.row _ _ _ _ (Nat.le_refl _) fun i hi => by
      rw [hs1 i]
      by_cases e : i = ((intsOf s).getD k 0).toNat
      · rw [if_pos e]
        have : (intsOf s).getD k 0 = (i : Int) := by omega
        exact leTB (by rw [decide_eq_true this]; exact Bool.or_true _)
      · rw [if_neg e]
        have : ¬ (intsOf s).getD k 0 = (i : Int) := by omega
        exact AL.leB (by rw [decide_eq_false this, Bool.or_false])), ⟨leS rfl, .ptr _ rfl, leI e1, trivial⟩⟩
  · have f1 : ¬ (k : Int) < s.size := no c
    obtain rfl : k = 67 := by omega
    refine ⟨Nat.le_refl _, ?_⟩
    refine ⟨Nat.le_refl _, fun i hi => rfl, fun i => bool (hasK 67 i), fun i hi => ?_, ?_⟩
    · rw [if_pos ⟨Nat.zero_le _, by rw [Nat.zero_add]; exact hi⟩]
      show AL.bool _ = AL.bool (hasK 67 (0 + (i - 0)))
      rw [Nat.sub_zero, Nat.zero_add]
    refine ⟨Nat.le_refl _, [], [], _, lehN _, ?_, rfl, rfl⟩
    refine le_pair (a := .agg 256 setV) (b := .tt) (.agg _ _ _ fun i hi => ?_) .tt
    show LeV _ _ (AL.bool (hasK 67 (0 + i))) (AL.bool (letN i))
    rw [Nat.zero_add]
    exact AL.leB (hall i hi)

theorem leS1 : LeH 1 [.row 256 setV] [0] [.row 256 setV] :=
  ⟨rfl, Nat.le_refl 1, fun i hi => by obtain rfl : i = 0 := by omega
                                      rfl, by simp, fun i j o' hl ho => by
    match i, hl, ho with
    | 0, hl, ho =>
      cases hl; cases ho
      exact .inl ⟨_, rfl, .row _ _ _ _ (Nat.le_refl _) fun i hi => .same _ trivial⟩⟩

set_option maxRecDepth 10000 in
theorem has_prog (c : Int) (h0 : 0 ≤ c) (h1 : c < 256) : ACalls Tryz.prog 205 [.ptr 0 0, int .u8 c] [.row 256 setV] (fun r h => r = bool (letN c) ∧ h = [.row 256 setV]) := by
  have e : ((c.toNat : Nat) : Int) = c := by omega
  refine rcalls Tryz.func205 rfl (by decide) ?_
  refine ⟨⟨h0, h1⟩, ?_⟩
  have ho : addOff 0 c.toNat 1 = c.toNat := by unfold addOff; omega
  refine ⟨by show addOff 0 c.toNat 1 < 256; rw [ho]; omega, ?_⟩
  refine ⟨[0], [.row 256 setV], _, leS1, AL.leB ?_, rfl, rfl⟩
  show letN ((addOff 0 c.toNat 1 : Nat) : Int) = letN c
  rw [ho, e]

theorem ints_lt (s : ByteArray) (i : Nat) : 0 ≤ (intsOf s).getD i 0 ∧ (intsOf s).getD i 0 < 256 := by
  rcases Nat.lt_or_ge i (intsOf s).length with h | h
  · rw [List.getD_eq_getElem?_getD, List.getElem?_eq_getElem h]
    exact intsOf_range s _ (List.getElem_mem _)
  · rw [List.getD_eq_getElem?_getD, List.getElem?_eq_none h]
    exact ⟨by simp, by simp⟩
theorem ints_ext (s : ByteArray) {a b i : Nat} (hb : b ≤ s.size) (hi : a + i < b) : (intsOf (s.extract a b)).getD i 0 = (intsOf s).getD (a + i) 0 := by
  unfold intsOf
  rw [List.getD_eq_getElem?_getD, List.getD_eq_getElem?_getD, List.getElem?_map, List.getElem?_map]
  congr 2
  rw [ext_list, List.getElem?_drop, List.getElem?_take_of_lt hi]
def TrimRR (s : ByteArray) (r : AV) (h : List AO) : Prop :=
  ∃ k, k ≤ s.size ∧ r = str (s.extract 0 k) ∧ (k = 0 ∨ letN ((intsOf s).getD (k - 1) 0) = false) ∧ (∀ i, k ≤ i → i < s.size → letN ((intsOf s).getD i 0) = true) ∧ h = [.row 256 setV]

set_option maxHeartbeats 2000000 in
set_option maxRecDepth 10000 in
theorem trimR_prog (s : ByteArray) (hs : s.size ≤ 9223372036854775806) : ACalls Tryz.prog 196 [str s, .ptr 0 0] [.row 256 setV] (TrimRR s) := by
  refine rcalls Tryz.func196 rfl (by decide) ?_
  refine ⟨Nat, fun k => [(0, str (s.extract 0 k)), (1, .ptr 0 0)], fun k => [.row 256 setV], fun k => k ≤ s.size ∧ ∀ i, k ≤ i → i < s.size → letN ((intsOf s).getD i 0) = true, fun k => k,
    ⟨s.size, [0], ⟨Nat.le_refl _, fun i _ _ => by omega⟩, leS1, ⟨leS (by simp), .ptr _ rfl, trivial⟩⟩, ?_⟩
  rintro k ⟨hk, hj⟩
  have hX : (s.extract 0 k).size = k := by rw [ByteArray.size_extract]; omega
  have hc : 0 < k → (intsOf (s.extract 0 k)).getD (k - 1) 0 = (intsOf s).getD (k - 1) 0 := fun h => by rw [ints_ext s hk (by omega), Nat.zero_add]
  have hY : 0 < k → (s.extract 0 k).extract 0 (k - 1) = s.extract 0 (k - 1) := fun h => by
    rw [ByteArray.extract_extract]; congr 1; omega
  have leave : ∀ {t : List AV}, (k = 0 ∨ letN ((intsOf s).getD (k - 1) 0) = false) → True := fun _ => trivial
  refine ⟨fun c => ?_, fun c => ?_⟩
  · have f1 : 0 < ((s.extract 0 k).size : Int) := yes c
    have h0 : 0 < k := by omega
    have e1 : IntKind.i64.wrap (((s.extract 0 k).size : Int) - 1) = ((k - 1 : Nat) : Int) := by rw [w64 (by omega) (by omega)]; omega
    obtain ⟨b1, b2⟩ := ints_lt (s.extract 0 k) (k - 1)
    have hh := has_prog ((intsOf (s.extract 0 k)).getD (k - 1) 0) b1 b2
    have hto : (IntKind.i64.wrap (((s.extract 0 k).size : Int) - 1)).toNat = k - 1 := by rw [e1]; omega
    refine ⟨⟨by rw [e1]; omega, by rw [e1]; omega⟩, ?_⟩
    rw [← hto] at hh
    refine ⟨[0], _, fun i hi => trivial, hh, ?_⟩
    rintro r h' ⟨rfl, rfl⟩
    refine ⟨.inl rfl, ?_⟩
    have hX' := hX
    have hcc : (intsOf (s.extract 0 k)).getD (IntKind.i64.wrap (((s.extract 0 k).size : Int) - 1)).toNat 0 = (intsOf s).getD (k - 1) 0 := by rw [hto]; exact hc h0
    refine ⟨fun c2 => ?_, fun c2 => ?_⟩
    · refine ⟨[0], [.row 256 setV], _, leS1, leS rfl, k, hk, rfl, .inr ?_, hj, rfl⟩
      rw [hcc] at c2
      revert c2; cases letN ((intsOf s).getD (k - 1) 0) <;> simp
    · rw [hcc] at c2
      refine ⟨⟨by rw [e1]; omega, by rw [e1]; omega⟩, ?_⟩
      refine ⟨trivial, k - 1, [0], ⟨by show k - 1 ≤ s.size; omega, fun i h1 h2 => ?_⟩, by show k - 1 < k; omega, leS1, ⟨leS ?_, .ptr _ rfl, trivial⟩⟩
      · rcases Nat.lt_or_ge i k with h | h
        · rw [show i = k - 1 by have h1 : k - 1 ≤ i := h1; omega]; exact unnot c2
        · exact hj i h h2
      · show (s.extract 0 k).extract 0 _ = _
        rw [hto]; exact hY h0
  · have f1 : ¬ 0 < ((s.extract 0 k).size : Int) := no c
    obtain rfl : k = 0 := by omega
    exact ⟨[0], [.row 256 setV], _, leS1, leS rfl, 0, Nat.zero_le _, rfl, .inl rfl, hj, rfl⟩

def TrimLR (s : ByteArray) (r : AV) (h : List AO) : Prop :=
  ∃ k, k ≤ s.size ∧ r = str (s.extract k s.size) ∧ (k = s.size ∨ letN ((intsOf s).getD k 0) = false) ∧ (∀ i, i < k → letN ((intsOf s).getD i 0) = true) ∧ h = [.row 256 setV]

set_option maxHeartbeats 2000000 in
set_option maxRecDepth 10000 in
theorem trimL_prog (s : ByteArray) (hs : s.size ≤ 9223372036854775806) : ACalls Tryz.prog 195 [str s, .ptr 0 0] [.row 256 setV] (TrimLR s) := by
  refine rcalls Tryz.func195 rfl (by decide) ?_
  refine ⟨Nat, fun k => [(0, str (s.extract k s.size)), (1, .ptr 0 0)], fun k => [.row 256 setV], fun k => k ≤ s.size ∧ ∀ i, i < k → letN ((intsOf s).getD i 0) = true, fun k => s.size - k,
    ⟨0, [0], ⟨Nat.zero_le _, fun i hi => by omega⟩, leS1, ⟨leS (by simp), .ptr _ rfl, trivial⟩⟩, ?_⟩
  rintro k ⟨hk, hj⟩
  have hX : (s.extract k s.size).size = s.size - k := by rw [ByteArray.size_extract]; omega
  have hc : k < s.size → (intsOf (s.extract k s.size)).getD 0 0 = (intsOf s).getD k 0 := fun h => by rw [ints_ext s (Nat.le_refl _) (by omega), Nat.add_zero]
  have hY : k < s.size → (s.extract k s.size).extract 1 (s.extract k s.size).size = s.extract (k + 1) s.size := fun h => by
    rw [hX, ByteArray.extract_extract]; congr 1; omega
  refine ⟨fun c => ?_, fun c => ?_⟩
  · have f1 : 0 < ((s.extract k s.size).size : Int) := yes c
    have h0 : k < s.size := by omega
    obtain ⟨b1, b2⟩ := ints_lt (s.extract k s.size) 0
    have hh := has_prog ((intsOf (s.extract k s.size)).getD 0 0) b1 b2
    refine ⟨⟨by omega, by omega⟩, ?_⟩
    refine ⟨[0], _, fun i hi => trivial, hh, ?_⟩
    rintro r h' ⟨rfl, rfl⟩
    refine ⟨.inl rfl, ?_⟩
    have hcc := hc h0
    refine ⟨fun c2 => ?_, fun c2 => ?_⟩
    · refine ⟨[0], [.row 256 setV], _, leS1, leS rfl, k, hk, rfl, .inr ?_, hj, rfl⟩
      rw [hcc] at c2
      revert c2; cases letN ((intsOf s).getD k 0) <;> simp
    · refine ⟨⟨by omega, by omega⟩, ?_⟩
      refine ⟨trivial, k + 1, [0], ⟨by show k + 1 ≤ s.size; omega, fun i hi => ?_⟩, by show s.size - (k + 1) < s.size - k; omega, leS1, ⟨leS (hY h0), .ptr _ rfl, trivial⟩⟩
      rcases Nat.lt_or_ge i k with h | h
      · exact hj i h
      · rw [show i = k by have hi : i < k + 1 := hi; omega, ← hcc]; exact unnot c2
  · have f1 : ¬ 0 < ((s.extract k s.size).size : Int) := no c
    obtain rfl : k = s.size := by omega
    exact ⟨[0], [.row 256 setV], _, leS1, leS rfl, s.size, Nat.le_refl _, rfl, .inl rfl, hj, rfl⟩

def allLet (s : ByteArray) : Prop := ∀ i, i < s.size → letN ((intsOf s).getD i 0) = true

set_option maxHeartbeats 2000000 in
set_option maxRecDepth 10000 in
theorem trim_prog (s : ByteArray) (h0 : s ≠ ByteArray.empty) (hs : s.size ≤ 9223372036854775806) : ACalls Tryz.prog 178 [str s, str letters] [] (fun r h => (∃ t, r = str t ∧ (t = ByteArray.empty ↔ allLet s)) ∧ h = []) := by
  have hl : letters.size = 67 := rfl
  have hne : letters ≠ ByteArray.empty := by intro e; rw [e] at hl; cases hl
  have hm := makeSet_prog
  generalize letters = T at *
  refine rcalls Tryz.func178 rfl (by decide) ?_
  refine ⟨fun c => absurd (yes c) h0, fun _ => ⟨fun c => absurd (yes c) hne, fun _ => ?_⟩⟩
  refine ⟨fun c => absurd (yes c) (by omega), fun _ => ?_⟩
  refine ⟨[], _, hm, ?_⟩
  rintro r hh ⟨rfl, rfl⟩
  refine ⟨.inl rfl, ?_⟩
  refine ⟨rfl, ?_⟩
  refine ⟨Nat.le_refl _, fun i hi => rfl, setV, fun i hi => ?_, ?_⟩
  · rw [if_pos ⟨Nat.zero_le _, by rw [Nat.zero_add]; exact hi⟩]
    rfl
  refine ⟨[0], _, fun i hi => trivial, trimR_prog s hs, ?_⟩
  rintro r h' ⟨k, hk, rfl, h1, h2, rfl⟩
  refine ⟨.inl rfl, ?_⟩
  have hX : (s.extract 0 k).size = k := by rw [ByteArray.size_extract]; omega
  refine ⟨[0], _, fun i hi => trivial, trimL_prog (s.extract 0 k) (by omega), ?_⟩
  rintro r h' ⟨q, hq, rfl, h3, h4, rfl⟩
  refine ⟨.inl rfl, ?_⟩
  refine ⟨[], [], _, lehN _, leS rfl, ⟨_, rfl, ?_⟩, rfl⟩
  rw [hX] at hq h3 ⊢
  have hsz : ((s.extract 0 k).extract q k).size = k - q := by rw [ByteArray.size_extract, hX]; omega
  have hget : ∀ i, i < k → (intsOf (s.extract 0 k)).getD i 0 = (intsOf s).getD i 0 := fun i hi => by rw [ints_ext s hk (by omega), Nat.zero_add]
  constructor
  · intro e
    rw [e] at hsz
    have hsz : 0 = k - q := hsz
    obtain rfl : q = k := by omega
    rcases h1 with rfl | h1
    · exact fun i hi => h2 i (Nat.zero_le _) hi
    · rcases Nat.eq_zero_or_pos q with h0' | h0'
      · subst h0'; exact fun i hi => h2 i (Nat.zero_le _) hi
      · have := h4 (q - 1) (by omega)
        rw [hget _ (by omega), h1] at this; cases this
  · intro hall
    rcases h1 with rfl | h1
    · refine ByteArray.size_eq_zero_iff.1 ?_
      rw [hsz]; omega
    · rw [hall (k - 1) ?_] at h1
      · cases h1
      · rcases Nat.eq_zero_or_pos k with h0' | h0'
        · subst h0'
          exact Nat.pos_of_ne_zero fun e => h0 (ByteArray.size_eq_zero_iff.1 e)
        · omega

/-! Runes. -/
theorem letters_has : ∀ r : Nat, r < 128 → decide (0 ≤ Lib.indexByte letters.data.toList r.toUInt8) = letN (r : Int) := by decide +kernel

theorem containsRune_prog (r : Nat) (h : r < 128) : ACalls Tryz.prog 181 [str letters, int .i32 r] [] (fun x h => x = bool (letN (r : Int)) ∧ h = []) := by
  have := letters_has r h
  rw [← this]
  exact acalls_same (args := [.string letters, .int .i32 r]) ⟨_, Tryz.func181, by decide, rfl⟩ fun w => Tryz.strings_ContainsRune_ascii letters (r : Int) w (by omega) (by omega)

set_option maxRecDepth 10000 in
theorem partFn_prog (r : Nat) (h : r < 128) : ACalls Tryz.prog 180 [int .i32 r] [] (fun x h => x = bool (!letN (r : Int)) ∧ h = []) := by
  have hc := containsRune_prog r h
  refine rcalls Tryz.func180 rfl (by decide) ?_
  refine ⟨[], _, hc, ?_⟩
  rintro r hh ⟨rfl, rfl⟩
  refine ⟨.inl rfl, ?_⟩
  exact ⟨[], [], _, lehN _, AL.leB rfl, rfl, rfl⟩

set_option maxHeartbeats 2000000 in
set_option maxRecDepth 10000 in
theorem indexFunc_prog (s : ByteArray) (hs : s.size ≤ 9223372036854775806) (hall : allLet s) : ACalls Tryz.prog 207 [str s, .raw (.func (.func 180) ⟨[]⟩ ⟨[]⟩), .tt] [] (fun x h => x = int .i64 (-1) ∧ h = []) := by
  have hdec : ∀ k, k < s.size → ∀ c q : Nat, Utf8.decode s k = (c, q) → (c : Int) = (intsOf s).getD k 0 ∧ c < 128 ∧ q = 1 ∧ letN (c : Int) = true := fun k hk c q e => by
    obtain ⟨b, hb, hi⟩ := intsOf_get hk
    have hl := hall k hk
    have hlt : (intsOf s).getD k 0 < 128 := by
      unfold letN at hl
      have := of_decide_eq_true hl
      omega
    have hbk : s[k]'hk = b := by
      rw [getElem?_pos s k hk] at hb
      exact Option.some.inj hb
    have hd := decode_ascii s k hk (by rw [hbk]; omega)
    rw [e, hbk] at hd
    obtain ⟨rfl, rfl⟩ := Prod.mk.inj hd
    exact ⟨hi.symm, by omega, rfl, by rw [← hi]; exact hl⟩
  refine rcalls Tryz.func207 rfl (by decide) ?_
  refine ⟨Nat, fun k => [(0, str s), (1, .raw (.func (.func 180) ⟨[]⟩ ⟨[]⟩)), (2, bool true), (10, .ptr 0 0)], fun k => [.siter s k], fun k => k ≤ s.size, fun k => s.size - k,
    ⟨0, [0], Nat.zero_le _, leh1 rfl (.siter _ _), ⟨leS rfl, .raw _, .ttr, .ptr _ rfl, trivial⟩⟩, ?_⟩
  intro k hk
  have hk : k ≤ s.size := hk
  refine ⟨fun h c q e => ?_, fun h => ?_⟩
  · obtain ⟨e1, e2, rfl, e4⟩ := hdec k h c q e
    have hp : ACalls Tryz.prog 180 [int .i32 c] [] (fun x h => x = bool false ∧ h = []) := by
      have := partFn_prog c e2
      rw [e4] at this
      exact this
    refine ⟨[], _, hp, ?_⟩
    rintro r hh ⟨rfl, rfl⟩
    refine ⟨.inl rfl, ?_⟩
    refine ⟨fun c2 => ?_, fun c2 => ?_⟩
    · cases c2
    · exact ⟨trivial, k + 1, [0], by show k + 1 ≤ s.size; omega, by show s.size - (k + 1) < s.size - k; omega, leh1 rfl (.siter _ _), ⟨leS rfl, .raw _, AL.leB rfl, .ptr _ rfl, trivial⟩⟩
  · exact ⟨[], [], _, lehN _, leI rfl, rfl, rfl⟩

set_option maxRecDepth 10000 in
theorem containsFunc_prog (s : ByteArray) (hs : s.size ≤ 9223372036854775806) (hall : allLet s) : ACalls Tryz.prog 179 [str s, .raw (.func (.func 180) ⟨[]⟩ ⟨[]⟩)] [] (fun x h => x = bool false ∧ h = []) := by
  have h1 := indexFunc_prog s hs hall
  have h2 : ACalls Tryz.prog 199 [str s, .raw (.func (.func 180) ⟨[]⟩ ⟨[]⟩)] [] (fun x h => x = int .i64 (-1) ∧ h = []) := by
    refine rcalls Tryz.func199 rfl (by decide) ?_
    refine ⟨[], _, h1, ?_⟩
    rintro r hh ⟨rfl, rfl⟩
    refine ⟨.inl rfl, ?_⟩
    exact ⟨[], [], _, lehN _, leI rfl, rfl, rfl⟩
  refine rcalls Tryz.func179 rfl (by decide) ?_
  refine ⟨[], _, h2, ?_⟩
  rintro r hh ⟨rfl, rfl⟩
  refine ⟨.inl rfl, ?_⟩
  exact ⟨[], [], _, lehN _, AL.leB rfl, rfl, rfl⟩

set_option maxHeartbeats 2000000 in
set_option maxRecDepth 10000 in
theorem part_prog (s : ByteArray) (hs : s.size ≤ 9223372036854775806) : ACalls Tryz.prog 155 [str s] [] (fun x h => x = bool (decide (okPart s)) ∧ h = []) := by
  have hP : okPart s ↔ _ := Iff.rfl
  obtain ⟨B, hB⟩ : ∃ B, decide (okPart s) = B := ⟨_, rfl⟩
  rw [hB]
  have hf : ¬ okPart s → B = false := fun h => by rw [← hB]; exact decide_eq_false h
  have ht := fun h => trim_prog s h hs
  have hc := containsFunc_prog s hs
  refine rcalls Tryz.func155 rfl (by decide) ?_
  have emp : ∀ {h : List AO} {l : List Nat}, s = ByteArray.empty → LeV h l .ff (bool B) := fun e => leFB (hf fun h => by have := h.1; rw [e] at this; cases this)
  refine ⟨fun c1 => ⟨fun c2 => ⟨fun c3 => ⟨fun c4 => ?_, fun c4 => ?_⟩, fun c3 => ?_⟩, fun c2 => ?_⟩, fun c1 => ?_⟩
  · have c1 := yes c1
    refine ⟨[], _, ht c1, ?_⟩
    rintro r h ⟨⟨t, rfl, hall⟩, rfl⟩
    refine ⟨.inl rfl, ?_⟩
    refine ⟨fun c5 => ?_, fun c5 => ?_⟩
    · have hl := hall.1 (yes c5)
      refine ⟨[], _, hc hl, ?_⟩
      rintro r hh ⟨rfl, rfl⟩
      refine ⟨.inl rfl, ?_⟩
      refine ⟨[], [], _, lehN _, AL.leB ?_, rfl, rfl⟩
      rw [← hB]
      refine (decide_eq_true ?_).symm
      exact ⟨Nat.pos_of_ne_zero fun e => c1 (ByteArray.size_eq_zero_iff.1 e), by have := yes c2; omega, yes c3, yes c4, hl⟩
    · exact ⟨[], [], _, lehN _, leFB (hf fun h => no c5 (hall.2 h.2.2.2.2)), rfl, rfl⟩
  · exact ⟨[], [], _, lehN _, leFB (hf fun h => no c4 h.2.2.2.1), rfl, rfl⟩
  · exact ⟨[], [], _, lehN _, leFB (hf fun h => no c3 h.2.2.1), rfl, rfl⟩
  · exact ⟨[], [], _, lehN _, leFB (hf fun h => no c2 (by have := h.2.1; omega)), rfl, rfl⟩
  · exact ⟨[], [], _, lehN _, emp (Classical.not_not.1 (no c1)), rfl, rfl⟩

end
end Go.Proofs.YtflclafbieokiaaGreatDoor.Pa

/-
  The closure of strings.SplitSeq at a sign of one byte, walked over whatever rounds.
-/
set_option linter.unusedVariables false
set_option linter.unusedSectionVars false
namespace Go.Proofs.YtflclafbieokiaaGreatDoor.Pa
open Go Go.RowKit Go.Shelf AL Spl

def restS (ps : List (List UInt8)) (k : Nat) : ByteArray := bA (joinC 47 (ps.drop k))
def pieceS (ps : List (List UInt8)) (k : Nat) : ByteArray := bA (ps.getD k [])
structure Boxes (ps : List (List UInt8)) (bs bp bv k : Nat) (W : World) : Prop where
  s : W.cell? ⟨bs, 0, none⟩ = some (.string (restS ps k))
  f : W.frozen? ⟨bs, 0, none⟩ = false
  p : W.cell? ⟨bp, 0, none⟩ = some (.string ⟨#[47]⟩)
  v : W.cell? ⟨bv, 0, none⟩ = some (.int .i64 0)
def leftAt (b : Nat) (W : World) : Nat := match W.cell? ⟨b, 0, none⟩ with | some (.string x) => x.size | _ => 0
structure But (bs : Nat) (W W' : World) : Prop where
  os : W'.os = W.os
  tape : W'.tape = W.tape
  output : W'.output = W.output
  size : W'.heap.size = W.heap.size
  block : ∀ j, j ≠ bs → W'.heap[j]? = W.heap[j]?

theorem index_none {c : UInt8} : ∀ {a : List UInt8}, (∀ x ∈ a, x ≠ c) → Lib.indexByte a c = -1
  | [], _ => rfl
  | x :: a, h => by
    have ih := index_none fun y hy => h y (List.mem_cons_of_mem x hy)
    have h1 : (x == c) = false := by simpa using h x (by simp)
    unfold Lib.indexByte
    simp [h1, ih]

set_option maxHeartbeats 2000000 in
theorem seq_calls (n : Nat) (l bs bp bv : Nat) (ps : List (List UInt8)) (hps : 0 < ps.length) (hfree : ∀ p ∈ ps, ∀ x ∈ p, x ≠ 47) (hsm : ∀ k, k < ps.length → (joinC 47 (ps.drop k)).length ≤ 9223372036854775806) (hp : bp ≠ bs) (hv : bv ≠ bs) (J : Nat → World → Prop) (Jx : World → Prop)
    (hJ : ∀ k W W', J k W → But bs W W' → J k W')
    (hY : ∀ k W, k < ps.length → J k W → Boxes ps bs bp bv k W → YieldAt Fence.wide (n - 1) Tryz.prog l #[.string (pieceS ps k)] W fun e W' =>
      (e = .returned (.bool true) ∧ J (k + 1) W' ∧ Boxes ps bs bp bv k W') ∨ (e = .returned (.bool false) ∧ Jx W'))
    (W : World) (h0 : J 0 W) (hB : Boxes ps bs bp bv 0 W) :
    CallsIn Fence.wide n Tryz.prog 203 #[.func (.yield l) #[] #[], .pointer (some ⟨bp, 0, none⟩), .pointer (some ⟨bs, 0, none⟩), .pointer (some ⟨bv, 0, none⟩)] W fun e W' =>
      (∃ v, e = .returned v) ∧ (J ps.length W' ∨ Jx W') := by
  refine callsIn_of_wp Tryz.func203 rfl trivial ?_ rfl
  simp only [Tryz.ntmps203, List.size_toArray, List.length_cons, List.length_nil, Nat.reduceAdd, Nat.reduceSub, Array.replicate_succ, Array.replicate_zero, List.push_toArray, List.append_toArray, List.nil_append, List.cons_append]
  have hc1 := hB.p
  gi_wp2
  gi_loopw [] (fun wr => ∃ k, k < ps.length ∧ J k wr ∧ Boxes ps bs bp bv k wr) (fun wr => leftAt bs wr)
  case atStart => exact ⟨0, hps, h0, hB⟩
  case round =>
    obtain ⟨k, hk, hj, hb⟩ := hrel
    have c1 := hb.s
    have c2 := hb.p
    have c3 := hb.v
    have f1 := hb.f
    have hpk : ∀ x ∈ ps.getD k [], x ≠ 47 := by
      rw [List.getD_eq_getElem?_getD, List.getElem?_eq_getElem hk]
      exact hfree _ (List.getElem_mem _)
    obtain ⟨fn, tmps, assign, body, hy, hR⟩ := hY k wr hk hj hb
    have hI := Tryz.strings_Index_one (restS ps k) 47 wr
    unfold restS at hI c1
    rw [bA_list] at hI
    unfold pieceS at hy
    rcases Nat.lt_or_ge (k + 1) ps.length with hlt | hge
    · rw [rest_more hlt, index_app _ hpk] at hI
      rw [rest_more hlt] at c1
      have hnext : restS ps (k + 1) = bA (joinC 47 (ps.drop (k + 1))) := rfl
      have hrk : restS ps k = bA (ps.getD k [] ++ 47 :: joinC 47 (ps.drop (k + 1))) := by unfold restS; rw [rest_more hlt]
      obtain ⟨p, hpE⟩ : ∃ p, ps.getD k [] = p := ⟨_, rfl⟩
      obtain ⟨B, hBE⟩ : ∃ B, joinC 47 (ps.drop (k + 1)) = B := ⟨_, rfl⟩
      rw [hpE] at hI hy c1 hrk
      rw [hBE] at hI c1 hnext hrk
      have hsz : (bA (p ++ 47 :: B)).size = p.length + 1 + B.length := by rw [bA_size, List.length_append, List.length_cons]; omega
      have hcl : (bA (p ++ 47 :: B)).extract 0 p.length = bA p := cut_left _ _ _
      have hcr : (bA (p ++ 47 :: B)).extract (p.length + 1) (bA (p ++ 47 :: B)).size = bA B := cut_right _ _ _
      obtain ⟨X, hX⟩ : ∃ X, bA (p ++ 47 :: B) = X := ⟨_, rfl⟩
      obtain ⟨Y, hY'⟩ : ∃ Y, bA p = Y := ⟨_, rfl⟩
      obtain ⟨N, hN⟩ : ∃ N, p.length = N := ⟨_, rfl⟩
      rw [hX] at hI c1 hsz hcl hcr hrk
      rw [hY'] at hy hcl
      rw [hN] at hI hsz hcl hcr
      have hle := hsm k hk
      rw [rest_more hlt, List.length_append, List.length_cons, hpE, hBE, hN] at hle
      have hw1 : wrap64 (N : Int) = (N : Int) := by unfold wrap64; omega
      have hw2 : wrap64 ((N : Int) + 1) = (N : Int) + 1 := by unfold wrap64; omega
      have ht : ((N : Int) + 1).toNat = N + 1 := by omega
      have hbd : ¬ (N : Int) < 0 := by omega
      have hcr2 : X.extract (N + 1) (N + 1 + B.length) = bA B := by rw [← hsz]; exact hcr
      clear hpk hpE hBE
      gi_wp2_with (refine ⟨trivial, fun h => (by cases h), ?_⟩; refine (callsIn_wide.2 hI).mono ?_; rintro e w' ⟨rfl, rfl⟩)
      refine ⟨fun h => (by cases h), ?_⟩
      refine hR.mono ?_
      rintro e W1 (⟨rfl, hj1, hb1⟩ | ⟨rfl, hx1⟩)
      · have d1 := hb1.s
        rw [hrk] at d1
        have d2 := hb1.p
        have d4 := hb1.f
        gi_wp2
        go_roundw
        case rel =>
          refine ⟨k + 1, hlt, hJ _ _ _ hj1 ⟨rfl, rfl, rfl, Array.size_modify, fun j hj => Below.heap_setCell _ _ _ j hj⟩, ⟨?_, ?_, ?_, ?_⟩⟩
          · rw [hnext]; exact World.cell?_setCell_same' _ _ _ (by rw [d1]; rfl)
          · rw [World.frozen?_setCell]; exact hb1.f
          · exact (World.cell?_of_block (Below.heap_setCell _ _ _ _ hp)).trans hb1.p
          · exact (World.cell?_of_block (Below.heap_setCell _ _ _ _ hv)).trans hb1.v
        case measure =>
          have e1 := World.cell?_setCell_same' W1 ⟨bs, 0, none⟩ (.string (bA B)) (by rw [d1]; rfl)
          unfold leftAt
          rw [e1, c1]
          show (bA B).size < X.size
          rw [bA_size, hsz]
          omega
      · gi_wp2
        refine bodyPost_ret (results_none rfl _ _ _) rfl ?_
        exact ⟨⟨_, rfl⟩, .inr hx1⟩
    · have hkl : k + 1 = ps.length := by omega
      rw [rest_last hkl, index_none hpk] at hI
      rw [rest_last hkl] at c1
      obtain ⟨X, hX⟩ : ∃ X, bA (ps.getD k []) = X := ⟨_, rfl⟩
      rw [hX] at hI c1 hy
      clear hpk
      gi_wp2_with (refine ⟨trivial, fun h => (by cases h), ?_⟩; refine (callsIn_wide.2 hI).mono ?_; rintro e w' ⟨rfl, rfl⟩)
      refine ⟨fun h => (by cases h), ?_⟩
      refine hR.mono ?_
      rintro e W1 (⟨rfl, hj1, hb1⟩ | ⟨rfl, hx1⟩)
      · gi_wp2
        first | go_end0 | go_ret
        exact ⟨⟨_, rfl⟩, .inl (by rw [← hkl]; exact hj1)⟩
      · gi_wp2
        first | go_end0 | go_ret
        exact ⟨⟨_, rfl⟩, .inr hx1⟩

end Go.Proofs.YtflclafbieokiaaGreatDoor.Pa

/-
  A range over strings.SplitSeq: whether all parts of a text may be.
-/
set_option linter.unusedVariables false
set_option linter.unusedSectionVars false
namespace Go.Proofs.YtflclafbieokiaaGreatDoor.Pa
open Go Go.RowKit Go.Shelf AL Spl

abbrev box3 (s : ByteArray) (w : World) : World := ((w.alloc (.cells #[.string s] 9)).alloc (.cells #[.string ⟨#[47]⟩] 9)).alloc (.cells #[.int .i64 0] 3)
abbrev seqV (B : Nat) : Value := .func (.func 203) #[] #[.pointer (some ⟨B + 1, 0, none⟩), .pointer (some ⟨B, 0, none⟩), .pointer (some ⟨B + 2, 0, none⟩)]

theorem splitSeq_calls (n : Nat) (s : ByteArray) (w : World) : CallsIn Fence.wide n Tryz.prog 191 #[.string s, .string ⟨#[47]⟩, .int .i64 0] w fun e w' => e = .returned (seqV w.heap.size) ∧ w' = box3 s w := by
  refine callsIn_of_wp Tryz.func191 rfl trivial ?_ rfl
  simp only [Tryz.ntmps191, List.size_toArray, List.length_cons, List.length_nil, Nat.reduceAdd, Nat.reduceSub, Array.replicate_succ, Array.replicate_zero, List.push_toArray, List.append_toArray, List.nil_append, List.cons_append]
  gi_wp2
  first | go_end0 | go_ret
  exact ⟨rfl, rfl⟩

theorem SplitSeq_calls (n : Nat) (s : ByteArray) (w : World) : CallsIn Fence.wide n Tryz.prog 177 #[.string s, .string ⟨#[47]⟩] w fun e w' => e = .returned (seqV w.heap.size) ∧ w' = box3 s w := by
  refine callsIn_of_wp Tryz.func177 rfl trivial ?_ rfl
  simp only [Tryz.ntmps177, List.size_toArray, List.length_cons, List.length_nil, Nat.reduceAdd, Nat.reduceSub, Array.replicate_succ, Array.replicate_zero, List.push_toArray, List.append_toArray, List.nil_append, List.cons_append]
  gi_wp2_with (refine ⟨trivial, fun h => (by cases h), ?_⟩; refine (splitSeq_calls _ s w).mono ?_; rintro e w' ⟨rfl, rfl⟩)
  first | go_end0 | go_ret
  exact ⟨rfl, rfl⟩

theorem parts_calls (n : Nat) (s : ByteArray) (w : World) : CallsIn Fence.wide n Tryz.prog 154 #[.string s] w fun e w' => e = .returned (seqV w.heap.size) ∧ w' = box3 s w := by
  refine callsIn_of_wp Tryz.func154 rfl trivial ?_ rfl
  simp only [Tryz.ntmps154, List.size_toArray, List.length_cons, List.length_nil, Nat.reduceAdd, Nat.reduceSub, Array.replicate_succ, Array.replicate_zero, List.push_toArray, List.append_toArray, List.nil_append, List.cons_append]
  gi_wp2_with (refine ⟨trivial, fun h => (by cases h), ?_⟩; refine (SplitSeq_calls _ s w).mono ?_; rintro e w' ⟨rfl, rfl⟩)
  first | go_end0 | go_ret
  exact ⟨rfl, rfl⟩

def rfOf : Code → Code × Code
  | .seq _ (.seq (.seq _ (.block _ (.rangeFunc _ _ a b))) _) => (a, b)
  | _ => (.skip, .skip)
def wholeRec (a b : Code) (s : ByteArray) (fn : FuncId) (A D : Nat) (q : Value) (st : LoopState) (pend : Option Code) : Loop :=
  { state := st, pending := pend, fn, tmps := #[.string s, undef, .pointer (some ⟨A, 0, none⟩), undef, .string s, q, undef, undef, undef, undef, undef, undef, undef], params := #[6], assign := a, body := b, defers := D }

structure Rec (r : LoopState → Option Code → Loop) : Prop where
  st : ∀ a b, (r a b).state = a
  pe : ∀ a b, (r a b).pending = b
  one : ∀ a b c, { r a b with state := c } = r c b
  two : ∀ a b c d, { r a b with state := c, pending := d } = r c d
theorem wholeRec_rec (a b : Code) (s : ByteArray) (fn : FuncId) (A D : Nat) (q : Value) : Rec (wholeRec a b s fn A D q) := ⟨fun _ _ => rfl, fun _ _ => rfl, fun _ _ _ => rfl, fun _ _ _ _ => rfl⟩

structure At (r : LoopState → Option Code → Loop) (n₀ : Nat) (w : World) (A l D : Nat) (st : LoopState) (pend : Option Code) (W : World) : Prop where
  c : W.cell? ⟨A, 0, none⟩ = some (.bool false)
  f : W.frozen? ⟨A, 0, none⟩ = false
  L : W.heap[l]? = some (.loop (r st pend))
  K : W.heap[D]? = some (.deferred (some []))
  B : Below n₀ w W

section
variable [Globs]
theorem glob_later {S : Nat → Prop} {n₀ : Nat} {w W : World} (hSn : ∀ b, S b → b < n₀) (hn : n₀ ≤ w.heap.size) (hg : Glob S w) (hb : Below n₀ w W) : Glob (fun b => b < W.heap.size) W :=
  hg.mono (fun b h => hb.block b (hSn b h)) (fun b h => Nat.lt_of_lt_of_le (hSn b h) (Nat.le_trans hn hb.size))
theorem part_calls (p : ByteArray) (hp : p.size ≤ 9223372036854775806) (W : World) (hg : Glob (fun b => b < W.heap.size) W) :
    Calls Tryz.prog 155 #[.string p] W fun e W' => e = .returned (.bool (decide (okPart p))) ∧ Below W.heap.size W W' :=
  (calls_of_acalls (part_prog p hp) (vs := #[.string p]) rfl (fun i x hx => by
    match i, hx with
    | 0, hx => cases hx; exact ⟨_, rfl, rfl⟩) hg).mono fun e W' ⟨v, r, h', L', S', h1, ⟨h2, _⟩, h3, h4⟩ => by
      subst h2
      have h3 : v = .bool (decide (okPart p)) := h3
      subst h3
      exact ⟨h1, h4⟩

set_option maxHeartbeats 2000000 in
theorem whole_round (m : Nat) (a b : Code) (hab : rfOf (Tryz.f115.body.getD .skip) = (a, b)) (r : LoopState → Option Code → Loop) (hr : Rec r) (n₀ : Nat) (w : World) (s p : ByteArray) (fn : FuncId) (A l D : Nat) (q : Value) (hn : n₀ ≤ w.heap.size) (hA : n₀ ≤ A) (hl : n₀ ≤ l) (hD : n₀ ≤ D) (hAl : A ≠ l) (hDl : D ≠ l) (hDA : D ≠ A) (hp : p.size ≤ 9223372036854775806)
    (S : Nat → Prop) (hSn : ∀ b, S b → b < n₀) (hg : Glob S w) (W : World) (h : At r n₀ w A l D .ready none W) (R : Ending → World → Prop)
    (hT : okPart p → ∀ W', At r n₀ w A l D .ready none W' → Below l W W' → R (.returned (.bool true)) W')
    (hF : ¬ okPart p → ∀ W', At r n₀ w A l D .done (some .ret) W' → R (.returned (.bool false)) W') :
    RoundIn Fence.wide m Tryz.prog l fn #[.string s, undef, .pointer (some ⟨A, 0, none⟩), undef, .string s, q, .string p, undef, undef, undef, undef, undef, undef] a b W R := by
  refine roundIn_of_wpIn trivial ?_
  have hll : l < W.heap.size := (Array.getElem?_eq_some_iff.1 h.L).1
  have hbr := run_beginRound (P := Tryz.prog) h.L (hr.st _ _)
  rw [hr.one] at hbr
  obtain ⟨W2, hW2⟩ : ∃ W2, W.putObj l (.loop (r .busy none)) = W2 := ⟨_, rfl⟩
  rw [hW2] at hbr
  have hc2 : W2.cell? ⟨A, 0, none⟩ = some (.bool false) := by rw [← hW2]; exact (World.cell?_of_block (World.putObj_heap_other hAl)).trans h.c
  have hf2 : W2.frozen? ⟨A, 0, none⟩ = false := by rw [← hW2]; exact (World.frozen?_of_block (World.putObj_heap_other hAl)).trans h.f
  have hK2 : W2.heap[D]? = some (.deferred (some [])) := by rw [← hW2]; exact (World.putObj_heap_other hDl).trans h.K
  have hL2 : W2.heap[l]? = some (.loop (r .busy none)) := by rw [← hW2]; exact World.putObj_heap_same hll
  have hb2 : Below l W W2 := by rw [← hW2]; exact ⟨rfl, rfl, rfl, by simp, fun k hk => World.putObj_heap_other (by omega)⟩
  have hA2 : A < W2.heap.size := by
    rcases Nat.lt_or_ge A W2.heap.size with h' | h'
    · exact h'
    · simp [World.cell?, h'] at hc2
  have hD2 : D < W2.heap.size := (Array.getElem?_eq_some_iff.1 hK2).1
  have hl2 : l < W2.heap.size := (Array.getElem?_eq_some_iff.1 hL2).1
  have hbn2 : Below n₀ w W2 := h.B.trans (hb2.mono hl)
  have hpc := part_calls p hp W2 (glob_later hSn hn hg hbn2)
  have hab' : (Code.region 2 _ false, Code.block 1 _) = (a, b) := hab
  cases hab'
  clear hab hW2
  have last : ∀ (W3 : World) (jump : Option Code), W3.heap[l]? = some (.loop (r .busy none)) → ∃ W4, (Instr.endRound l jump).run Tryz.prog W3 = .ok (.bool jump.isNone) W4 ∧ W4 = W3.putObj l (.loop (r (if jump.isNone then .ready else .done) jump)) := fun W3 jump h3 => by
    have := run_endRound (P := Tryz.prog) jump h3
    rw [hr.two] at this
    exact ⟨_, this, rfl⟩
  by_cases hok : okPart p
  · rw [decide_eq_true hok] at hpc
    gi_wp2_with (rw [Oper.semAt_eq _ _ _ (fun c h => by cases h)]; go_simp; try go_bits)
    refine ⟨_, hbr, ?_⟩
    gi_wp2_with (first
      | (rw [Oper.semAt_eq _ _ _ (fun c h => by cases h)]; go_simp; try go_bits)
      | (refine ⟨trivial, fun h => (by cases h), ?_⟩; refine (CallsIn.inRound l (callsIn_wide.2 hpc)).mono ?_; rintro e W3 ⟨rfl, hb3⟩))
    obtain ⟨W4, g1, rfl⟩ := last W3 none ((hb3.block _ hl2).trans hL2)
    have hl3 : l < W3.heap.size := Nat.lt_of_lt_of_le hl2 hb3.size
    have hb4 : Below l W3 (W3.putObj l (.loop (r .ready none))) := ⟨rfl, rfl, rfl, by simp, fun k hk => World.putObj_heap_other (by omega)⟩
    refine ⟨_, _, g1, hT hok _ ⟨?_, ?_, World.putObj_heap_same hl3, ?_, ?_⟩ ?_⟩
    · exact (World.cell?_of_block (World.putObj_heap_other hAl)).trans ((World.cell?_of_block (hb3.block _ hA2)).trans hc2)
    · exact (World.frozen?_of_block (World.putObj_heap_other hAl)).trans ((World.frozen?_of_block (hb3.block _ hA2)).trans hf2)
    · exact (World.putObj_heap_other hDl).trans ((hb3.block _ hD2).trans hK2)
    · exact (hbn2.trans (hb3.mono (by omega))).trans (hb4.mono hl)
    · exact (hb2.trans (hb3.mono (by omega))).trans hb4
  · rw [decide_eq_false hok] at hpc
    gi_wp2_with (rw [Oper.semAt_eq _ _ _ (fun c h => by cases h)]; go_simp; try go_bits)
    refine ⟨_, hbr, ?_⟩
    gi_wp2_with (first
      | (rw [Oper.semAt_eq _ _ _ (fun c h => by cases h)]; go_simp; try go_bits)
      | (refine ⟨trivial, fun h => (by cases h), ?_⟩; refine (CallsIn.inRound l (callsIn_wide.2 hpc)).mono ?_; rintro e W3 ⟨rfl, hb3⟩; have hc3 : W3.cell? ⟨A, 0, none⟩ = some (.bool false) := (World.cell?_of_block (hb3.block _ hA2)).trans hc2; have hf3 : W3.frozen? ⟨A, 0, none⟩ = false := (World.frozen?_of_block (hb3.block _ hA2)).trans hf2))
    have hL3 : (W3.setCell ⟨A, 0, none⟩ (.bool false)).heap[l]? = some (.loop (r .busy none)) := (Below.heap_setCell W3 _ _ l (Ne.symm hAl)).trans ((hb3.block _ hl2).trans hL2)
    obtain ⟨W4, g1, rfl⟩ := last _ (some .ret) hL3
    have hc3 : W3.cell? ⟨A, 0, none⟩ = some (.bool false) := (World.cell?_of_block (hb3.block _ hA2)).trans hc2
    have hf3 : W3.frozen? ⟨A, 0, none⟩ = false := (World.frozen?_of_block (hb3.block _ hA2)).trans hf2
    have hb4 : Below n₀ W3 (W3.setCell ⟨A, 0, none⟩ (.bool false)) := (Below.refl n₀ W3).setCell (p := ⟨A, 0, none⟩) hA _
    refine ⟨_, _, g1, hF hok _ ⟨?_, ?_, World.putObj_heap_same (Array.getElem?_eq_some_iff.1 hL3).1, ?_, ?_⟩⟩
    · exact (World.cell?_of_block (World.putObj_heap_other hAl)).trans (World.cell?_setCell_same' _ _ _ (by rw [hc3]; rfl))
    · exact (World.frozen?_of_block (World.putObj_heap_other hAl)).trans (by rw [World.frozen?_setCell]; exact hf3)
    · exact (World.putObj_heap_other hDl).trans ((Below.heap_setCell W3 _ _ D hDA).trans ((hb3.block _ hD2).trans hK2))
    · exact ((hbn2.trans (hb3.mono (by omega))).trans hb4).trans ⟨rfl, rfl, rfl, by simp, fun k hk => World.putObj_heap_other (by omega)⟩

def okWhole (s : ByteArray) : Prop := (∀ p ∈ pieces 47 s.data.toList, okPart (bA p)) ∧ s.size ≤ 254
instance (s : ByteArray) : Decidable (okWhole s) := by unfold okWhole; infer_instance

theorem okWhole_iff {s : ByteArray} {ps : List (List UInt8)} (h : pieces 47 s.data.toList = ps) : (∀ p ∈ pieces 47 s.data.toList, okPart (bA p)) ↔ ∀ k, k < ps.length → okPart (pieceS ps k) := by
  rw [h]
  constructor
  · intro ha k hk
    unfold pieceS
    rw [List.getD_eq_getElem?_getD, List.getElem?_eq_getElem hk]
    exact ha _ (List.getElem_mem _)
  · intro ha p hp
    obtain ⟨k, hk, rfl⟩ := List.getElem_of_mem hp
    have := ha k hk
    unfold pieceS at this
    rw [List.getD_eq_getElem?_getD, List.getElem?_eq_getElem hk] at this
    exact this

theorem six (h : Array Obj) (a b c d e f : Obj) : (((((h.push a).push b).push c).push d).push e).push f = h ++ #[a, b, c, d, e, f] := by
  apply Array.ext'
  simp
theorem six_at {h : Array Obj} {a b c d e f : Obj} {H : Array Obj} (hH : H = (((((h.push a).push b).push c).push d).push e).push f) (i : Nat) : H[h.size + i]? = #[a, b, c, d, e, f][i]? := by
  rw [hH, six, Array.getElem?_append_right (Nat.le_add_right _ _), Nat.add_sub_cancel_left]
theorem six_lt {h : Array Obj} {a b c d e f : Obj} {H : Array Obj} (hH : H = (((((h.push a).push b).push c).push d).push e).push f) {i : Nat} (hi : i < h.size) : H[i]? = h[i]? := by
  rw [hH, six, Array.getElem?_append_left hi]

abbrev loopW (a b : Code) (s : ByteArray) (fn : FuncId) (w : World) : World :=
  ((box3 s (w.alloc (.cells #[.bool false] 4))).alloc (.deferred (some []))).alloc (.loop (wholeRec a b s fn w.heap.size (w.heap.size + 4) (seqV (w.heap.size + 1)) .ready none))

set_option maxHeartbeats 2000000 in
theorem whole_loop (a b : Code) (hab : rfOf (Tryz.f115.body.getD .skip) = (a, b)) (s : ByteArray) (hs : s.size ≤ 9223372036854775806) (fn : FuncId) (w : World) (S : Nat → Prop) (hSn : ∀ b, S b → b < w.heap.size) (hg : Glob S w) :
    CallsIn Fence.wide 4 Tryz.prog 203 #[.func (.yield (w.heap.size + 5)) #[] #[], .pointer (some ⟨w.heap.size + 2, 0, none⟩), .pointer (some ⟨w.heap.size + 1, 0, none⟩), .pointer (some ⟨w.heap.size + 3, 0, none⟩)] (loopW a b s fn w) fun e W2 =>
      (∃ v, e = .returned v) ∧ ((At (wholeRec a b s fn w.heap.size (w.heap.size + 4) (seqV (w.heap.size + 1))) w.heap.size w w.heap.size (w.heap.size + 5) (w.heap.size + 4) .ready none W2 ∧ ∀ p ∈ pieces 47 s.data.toList, okPart (bA p)) ∨
        (At (wholeRec a b s fn w.heap.size (w.heap.size + 4) (seqV (w.heap.size + 1))) w.heap.size w w.heap.size (w.heap.size + 5) (w.heap.size + 4) .done (some .ret) W2 ∧ ¬ ∀ p ∈ pieces 47 s.data.toList, okPart (bA p))) := by
  have hl : s.data.toList.length = s.size := rfl
  have hfree := @pieces_free 47 s.data.toList
  have hjoin := join_pieces 47 s.data.toList
  have hpos : 0 < (pieces 47 s.data.toList).length := by rw [pieces_len]; omega
  obtain ⟨ps, hps⟩ : ∃ ps, pieces 47 s.data.toList = ps := ⟨_, rfl⟩
  rw [okWhole_iff hps]
  rw [hps] at hfree hjoin hpos
  have hsm : ∀ k, k < ps.length → (joinC 47 (ps.drop k)).length ≤ 9223372036854775806 := fun k hk => by
    have := rest_len 47 ps k hk
    rw [hjoin, hl] at this; omega
  have hpm : ∀ k, k < ps.length → (pieceS ps k).size ≤ 9223372036854775806 := fun k hk => by
    have := hsm k hk
    unfold pieceS
    rw [bA_size]
    rcases Nat.lt_or_ge (k + 1) ps.length with h | h
    · rw [rest_more h, List.length_append] at this; omega
    · rw [rest_last (by omega)] at this; omega
  have hr := wholeRec_rec a b s fn w.heap.size (w.heap.size + 4) (seqV (w.heap.size + 1))
  have hh : (loopW a b s fn w).heap = (((((w.heap.push (.cells #[.bool false] 4)).push (.cells #[.string s] 9)).push (.cells #[.string ⟨#[47]⟩] 9)).push (.cells #[.int .i64 0] 3)).push (.deferred (some []))).push (.loop (wholeRec a b s fn w.heap.size (w.heap.size + 4) (seqV (w.heap.size + 1)) .ready none)) := rfl
  have q0 : (loopW a b s fn w).heap[w.heap.size]? = some (.cells #[.bool false] 4) := six_at hh 0
  have q1 : (loopW a b s fn w).heap[w.heap.size + 1]? = some (.cells #[.string s] 9) := six_at hh 1
  have q2 : (loopW a b s fn w).heap[w.heap.size + 2]? = some (.cells #[.string ⟨#[47]⟩] 9) := six_at hh 2
  have q3 : (loopW a b s fn w).heap[w.heap.size + 3]? = some (.cells #[.int .i64 0] 3) := six_at hh 3
  have q4 : (loopW a b s fn w).heap[w.heap.size + 4]? = some (.deferred (some [])) := six_at hh 4
  have q5 : (loopW a b s fn w).heap[w.heap.size + 5]? = some (.loop (wholeRec a b s fn w.heap.size (w.heap.size + 4) (seqV (w.heap.size + 1)) .ready none)) := six_at hh 5
  have h0 : At (wholeRec a b s fn w.heap.size (w.heap.size + 4) (seqV (w.heap.size + 1))) w.heap.size w w.heap.size (w.heap.size + 5) (w.heap.size + 4) .ready none (loopW a b s fn w) := by
    exact ⟨by simp only [World.cell?, q0]; rfl, by simp only [World.frozen?, q0]; rfl, q5, q4, ⟨rfl, rfl, rfl, by rw [hh, six, Array.size_append]; omega, fun k hk => six_lt hh hk⟩⟩
  have hB : Boxes ps (w.heap.size + 1) (w.heap.size + 2) (w.heap.size + 3) 0 (loopW a b s fn w) := by
    refine ⟨?_, by simp only [World.frozen?, q1]; rfl, by simp only [World.cell?, q2]; rfl, by simp only [World.cell?, q3]; rfl⟩
    have : restS ps 0 = s := by unfold restS; rw [List.drop_zero, hjoin, bA_data]
    rw [this]
    simp only [World.cell?, q1]
    rfl
  generalize loopW a b s fn w = W1 at *
  clear hh q0 q1 q2 q3 q4 q5
  obtain ⟨r, hrE⟩ : ∃ r, wholeRec a b s fn w.heap.size (w.heap.size + 4) (seqV (w.heap.size + 1)) = r := ⟨_, rfl⟩
  refine (seq_calls 4 (w.heap.size + 5) (w.heap.size + 1) (w.heap.size + 2) (w.heap.size + 3) ps hpos hfree hsm (by omega) (by omega)
    (fun k W => At r w.heap.size w w.heap.size (w.heap.size + 5) (w.heap.size + 4) .ready none W ∧ ∀ i, i < k → okPart (pieceS ps i))
    (fun W => At r w.heap.size w w.heap.size (w.heap.size + 5) (w.heap.size + 4) .done (some .ret) W ∧ ¬ ∀ k, k < ps.length → okPart (pieceS ps k))
    ?_ ?_ W1 ⟨by rw [← hrE]; exact h0, by simp⟩ hB).mono ?_
  · rintro k W W' ⟨hat, hj⟩ hbut
    exact ⟨⟨(World.cell?_of_block (hbut.block _ (by show w.heap.size ≠ w.heap.size + 1; omega))).trans hat.c, (World.frozen?_of_block (hbut.block _ (by show w.heap.size ≠ w.heap.size + 1; omega))).trans hat.f, (hbut.block _ (by omega)).trans hat.L, (hbut.block _ (by omega)).trans hat.K,
      ⟨hbut.os.trans hat.B.os, hbut.tape.trans hat.B.tape, hbut.output.trans hat.B.output, by rw [hbut.size]; exact hat.B.size, fun j hj' => (hbut.block _ (by omega)).trans (hat.B.block j hj')⟩⟩, hj⟩
  · rintro k W hk ⟨hat, hj⟩ hb
    have hy : (Instr.yield (w.heap.size + 5) #[.string (pieceS ps k)]).run Tryz.prog W = .ok (.round (w.heap.size + 5) fn #[.string s, undef, .pointer (some ⟨w.heap.size, 0, none⟩), undef, .string s, seqV (w.heap.size + 1), .string (pieceS ps k), undef, undef, undef, undef, undef, undef] a b) W := by
      have hL := hat.L
      rw [← hrE] at hL
      simpa [wholeRec] using run_yield (P := Tryz.prog) (args := #[.string (pieceS ps k)]) hL rfl
    refine ⟨fn, _, a, b, hy, ?_⟩
    rw [hrE] at hr
    refine whole_round _ a b hab r hr w.heap.size w s (pieceS ps k) fn w.heap.size (w.heap.size + 5) (w.heap.size + 4) _ (Nat.le_refl _) (Nat.le_refl _) (by omega) (by omega) (by omega) (by omega) (by omega) (hpm k hk) S hSn hg W hat _ (fun hok W' h1 h2 => .inl ⟨rfl, ⟨h1, fun i hi => ?_⟩, ?_⟩) (fun hok W' h1 => .inr ⟨rfl, h1, fun hall => hok (hall k hk)⟩)
    · rcases Nat.lt_or_ge i k with h | h
      · exact hj i h
      · rw [show i = k by omega]; exact hok
    · exact ⟨(World.cell?_of_block (h2.block (w.heap.size + 1) (by omega))).trans hb.s, (World.frozen?_of_block (h2.block (w.heap.size + 1) (by omega))).trans hb.f, (World.cell?_of_block (h2.block (w.heap.size + 2) (by omega))).trans hb.p, (World.cell?_of_block (h2.block (w.heap.size + 3) (by omega))).trans hb.v⟩
  · rintro e W2 ⟨hv, h | h⟩
    · exact ⟨hv, .inl ⟨by rw [hrE]; exact h.1, h.2⟩⟩
    · exact ⟨hv, .inr ⟨by rw [hrE]; exact h.1, h.2⟩⟩

structure Mid (w W : World) : Prop where
  c : W.cell? ⟨w.heap.size, 0, none⟩ = some (.bool false)
  f : W.frozen? ⟨w.heap.size, 0, none⟩ = false
  K : W.heap[w.heap.size + 4]? = some (.deferred (some []))
  B : Below w.heap.size w W
abbrev wholeT (s : ByteArray) (w : World) : Array Value := #[.string s, undef, .pointer (some ⟨w.heap.size, 0, none⟩), undef, .string s, seqV (w.heap.size + 1), undef, undef, undef, undef, undef, undef, undef]
abbrev wholeD (w : World) : Deferred := { target := .collected (w.heap.size + 4), args := #[] }

set_option maxHeartbeats 2000000 in
theorem whole_stmt (a b : Code) (hab : rfOf (Tryz.f115.body.getD .skip) = (a, b)) (s : ByteArray) (hs : s.size ≤ 9223372036854775806) (w : World) (S : Nat → Prop) (hSn : ∀ b, S b → b < w.heap.size) (hg : Glob S w) (Q : Exit → Act → World → Prop)
    (hT : (∀ p ∈ pieces 47 s.data.toList, okPart (bA p)) → ∀ W, Mid w W → Q .normal { tmps := wholeT s w, defers := [wholeD w] } W)
    (hF : ¬ (∀ p ∈ pieces 47 s.data.toList, okPart (bA p)) → ∀ W, Mid w W → Code.ret.wpIn Fence.wide 5 Tryz.prog Q { tmps := wholeT s w, defers := [wholeD w] } W) :
    (Code.rangeFunc (.tmp 5) #[6] a b).wpIn Fence.wide 5 Tryz.prog Q { tmps := wholeT s w, defers := [] } (box3 s (w.alloc (.cells #[.bool false] 4))) := by
  refine wpIn_rangeFunc ?_
  intro fn hfn
  have hsz : (box3 s (w.alloc (.cells #[.bool false] 4))).heap.size = w.heap.size + 4 := by simp
  have he := run_enterLoop_outer (P := Tryz.prog) (w := box3 s (w.alloc (.cells #[.bool false] 4))) fn (wholeT s w) #[6] a b
  rw [hsz] at he
  refine ⟨w.heap.size + 5, [wholeD w], loopW a b s fn w, { target := .fn (.func 203) #[.pointer (some ⟨w.heap.size + 2, 0, none⟩), .pointer (some ⟨w.heap.size + 1, 0, none⟩), .pointer (some ⟨w.heap.size + 3, 0, none⟩)], args := #[.func (.yield (w.heap.size + 5)) #[] #[]] }, loopW a b s fn w, 203,
    #[.func (.yield (w.heap.size + 5)) #[] #[], .pointer (some ⟨w.heap.size + 2, 0, none⟩), .pointer (some ⟨w.heap.size + 1, 0, none⟩), .pointer (some ⟨w.heap.size + 3, 0, none⟩)], loopW a b s fn w, he, ?_, ?_, ?_, fun _ => by omega, ?_⟩
  · simp [resolve, go_sem]
  · intro f' hf'; trivial
  · simp [invoke, go_sem]
  · have hr := wholeRec_rec a b s fn w.heap.size (w.heap.size + 4) (seqV (w.heap.size + 1))
    refine (whole_loop a b hab s hs fn w S hSn hg).mono ?_
    generalize wholeRec a b s fn w.heap.size (w.heap.size + 4) (seqV (w.heap.size + 1)) = r at *
    have fin : ∀ {W2 : World} {st : LoopState} {pe : Option Code}, At r w.heap.size w w.heap.size (w.heap.size + 5) (w.heap.size + 4) st pe W2 → st ≠ .busy → ∃ W3, (Instr.endLoop (w.heap.size + 5)).run Tryz.prog W2 = .ok pe W3 ∧ Mid w W3 := fun {W2 st pe} h2 hst => by
      have hend := run_endLoop (P := Tryz.prog) h2.L (by rw [hr.st]; exact hst)
      rw [hr.pe] at hend
      refine ⟨_, hend, ?_, ?_, ?_, ?_⟩
      · exact (World.cell?_of_block (World.putObj_heap_other (k := w.heap.size) (by omega))).trans h2.c
      · exact (World.frozen?_of_block (World.putObj_heap_other (k := w.heap.size) (by omega))).trans h2.f
      · exact (World.putObj_heap_other (by omega)).trans h2.K
      · exact h2.B.trans ⟨rfl, rfl, rfl, by simp, fun k hk => World.putObj_heap_other (by omega)⟩
    rintro e W2 ⟨⟨v, rfl⟩, ⟨h2, hall⟩ | ⟨h2, hall⟩⟩
    · obtain ⟨W3, g1, g2⟩ := fin h2 (by simp)
      exact ⟨none, W3, g1, hT hall W3 g2⟩
    · obtain ⟨W3, g1, g2⟩ := fin h2 (by simp)
      exact ⟨some .ret, W3, g1, hF hall W3 g2⟩

set_option maxHeartbeats 2000000 in
theorem whole_calls (s : ByteArray) (hs : s.size ≤ 9223372036854775806) (S0 : Nat → Prop) (w : World) (hg0 : Glob S0 w) :
    Calls Tryz.prog 115 #[.string s] w fun e w' => e = .returned (.bool (decide (okWhole s))) ∧ Below w.heap.size w w' := by
  obtain ⟨S, hSn, hg⟩ : ∃ S : Nat → Prop, (∀ b, S b → b < w.heap.size) ∧ Glob S w := by
    refine ⟨fun b => ∃ g ∈ Globs.l, g.1 = b, fun b hb => ?_, fun g hg => ⟨⟨g, hg, rfl⟩, (hg0 g hg).2⟩⟩
    obtain ⟨g, hg, rfl⟩ := hb
    obtain ⟨_, cs, el, fr, h, _⟩ := hg0 g hg
    exact (Array.getElem?_eq_some_iff.1 h).1
  refine (callsIn_wide (n := 5)).1 ?_
  refine callsIn_of_wp_marks Tryz.func115 rfl trivial ?_ rfl
  simp only [Tryz.ntmps115, List.size_toArray, List.length_cons, List.length_nil, Nat.reduceAdd, Nat.reduceSub, Array.replicate_succ, Array.replicate_zero, List.push_toArray, List.append_toArray, List.nil_append, List.cons_append]
  gi_wp2_with (refine ⟨trivial, ?_⟩; refine (parts_calls _ s _).mono ?_; rintro e w' ⟨rfl, rfl⟩)
  refine whole_stmt _ _ rfl s hs w S hSn hg _ (fun hall W hM => ?_) (fun hall W hM => ?_)
  · have hc := hM.c
    have hf := hM.f
    have hK := hM.K
    gi_wp2
    have hV : decide (okWhole s) = decide ((s.size : Int) ≤ 254) := decide_eq_decide.2 ⟨fun h => by have := h.2; omega, fun h => ⟨hall, by omega⟩⟩
    rw [hV]
    obtain ⟨V, hVE⟩ : ∃ V, Value.bool (decide ((s.size : Int) ≤ 254)) = V := ⟨_, rfl⟩
    have hK3 : (W.setCell ⟨w.heap.size, 0, none⟩ V).heap[w.heap.size + 4]? = some (.deferred (some [])) := (Below.heap_setCell W _ _ _ (by show w.heap.size + 4 ≠ w.heap.size; omega)).trans hK
    have hc4 : ((W.setCell ⟨w.heap.size, 0, none⟩ V).putObj (w.heap.size + 4) (.deferred none)).cell? ⟨w.heap.size, 0, none⟩ = some V :=
      (World.cell?_of_block (World.putObj_heap_other (k := w.heap.size) (by omega))).trans (World.cell?_setCell_same' _ _ _ (by rw [hc]; rfl))
    rw [hVE]
    refine ⟨by simp, .inl ⟨_, _, rfl, run_takeDeferred hK3, ?_⟩⟩
    refine ⟨V, ?_, rfl, ?_⟩
    · simp [results, Tryz.f115, go_sem, hc4]
    · exact (hM.B.trans ((Below.refl w.heap.size W).setCell (p := ⟨w.heap.size, 0, none⟩) (Nat.le_refl _) _)).trans ⟨rfl, rfl, rfl, by simp, fun k hk => World.putObj_heap_other (by omega)⟩
  · have hc := hM.c
    have hf := hM.f
    have hK := hM.K
    gi_wp2
    have hV : decide (okWhole s) = false := decide_eq_false fun h => hall h.1
    rw [hV]
    have hc4 : (W.putObj (w.heap.size + 4) (.deferred none)).cell? ⟨w.heap.size, 0, none⟩ = some (.bool false) := (World.cell?_of_block (World.putObj_heap_other (k := w.heap.size) (by omega))).trans hc
    refine ⟨by simp, .inl ⟨_, _, rfl, run_takeDeferred hK, ?_⟩⟩
    refine ⟨.bool false, ?_, rfl, ?_⟩
    · simp [results, Tryz.f115, go_sem, hc4]
    · exact hM.B.trans ⟨rfl, rfl, rfl, by simp, fun k hk => World.putObj_heap_other (by omega)⟩

theorem whole_prog (s : ByteArray) (hs : s.size ≤ 9223372036854775806) : ACalls Tryz.prog 115 [str s] [] (fun r h => r = bool (decide (okWhole s)) ∧ h = []) :=
  acalls_below (args := [.string s]) ⟨_, Tryz.func115, by decide, rfl⟩ trivial trivial fun S w hg =>
    (whole_calls s hs S w hg).mono fun e w' ⟨h1, h2⟩ => ⟨_, h1, rfl, h2⟩

end
end Go.Proofs.YtflclafbieokiaaGreatDoor.Pa

/-
  The document's own functions of paths.
-/
set_option linter.unusedVariables false
set_option linter.unusedSectionVars false
namespace Go.Proofs.YtflclafbieokiaaGreatDoor.Pa
open Go AL Spl

theorem byte_is {b c : UInt8} {n : Int} (h : n = (b.toNat : Int)) : n = (c.toNat : Int) ↔ b = c := by
  rw [h]
  constructor
  · intro e; exact UInt8.toNat_inj.1 (by omega)
  · intro e; rw [e]
def okParts (s : ByteArray) : Prop := ∀ p ∈ pieces 47 s.data.toList, okPart (bA p)
instance (s : ByteArray) : Decidable (okParts s) := by unfold okParts; infer_instance

section
variable [Globs]
theorem byte_get {s : ByteArray} {i : Nat} (h : i < s.size) : ∃ b, s.data.toList[i]? = some b ∧ (intsOf s).getD i 0 = (b.toNat : Int) := by
  obtain ⟨b, h1, h2⟩ := intsOf_get h
  refine ⟨b, ?_, h2⟩
  rw [getElem?_pos s i h] at h1
  have h3 : i < s.data.toList.length := h
  rw [List.getElem?_eq_getElem h3]
  exact h1

set_option maxHeartbeats 4000000 in
set_option maxRecDepth 10000 in
theorem parts_ref (s : ByteArray) (hs : s.size ≤ 9223372036854775805) : ACalls Tryz.prog 125 [str s] [] (fun r h => r = bool (decide (okParts s)) ∧ h = []) := by
  have hl : s.data.toList.length = s.size := rfl
  obtain ⟨ps, hps⟩ : ∃ ps, pieces 47 s.data.toList = ps := ⟨_, rfl⟩
  have hok : okParts s ↔ ∀ k, k < ps.length → okPart (pieceS ps k) := okWhole_iff hps
  obtain ⟨Z, hZ⟩ : ∃ Z, decide (okParts s) = Z := ⟨_, rfl⟩
  rw [hZ]
  have hno : ¬ okParts s → Z = false := fun h => by rw [← hZ]; exact decide_eq_false h
  have hyes : okParts s → Z = true := fun h => by rw [← hZ]; exact decide_eq_true h
  have hpos : 0 < ps.length := by rw [← hps, pieces_len]; omega
  have hjoin : joinC 47 ps = s.data.toList := by rw [← hps, join_pieces]
  have hfree : ∀ p ∈ ps, ∀ x ∈ p, x ≠ 47 := by rw [← hps]; exact pieces_free
  have hcnt : ps.length ≤ s.size + 1 := by
    have := List.count_le_length (a := (47 : UInt8)) (l := s.data.toList)
    rw [← hps, pieces_len]; omega
  have hle : ∀ k, k < ps.length → pre ps k + (ps.getD k []).length ≤ s.size := fun k hk => by
    rcases Nat.lt_or_ge (k + 1) ps.length with h | h
    · have := pre_le 47 ps (k + 1) h
      rw [hjoin, hl] at this
      have : pre ps (k + 1) = pre ps k + (ps.getD k []).length + 1 := rfl
      omega
    · have := pre_end 47 (ps := ps) (k := k) (by omega) (pre_le 47 ps k hk)
      rw [hjoin, hl] at this
      omega
  have hend : ∀ k, k + 1 = ps.length → pre ps k + (ps.getD k []).length = s.size := fun k hk => by
    have := pre_end 47 (ps := ps) (k := k) hk (pre_le 47 ps k (by omega))
    rwa [hjoin, hl] at this
  have hin : ∀ k j, k < ps.length → j < (ps.getD k []).length → ¬ (intsOf s).getD (pre ps k + j) 0 = 47 := fun k j hk hj h => by
    have h1 := hle k hk
    obtain ⟨b, e1, e2⟩ := byte_get (s := s) (i := pre ps k + j) (by omega)
    have e3 := (byte_is (c := 47) e2).1 h
    have e4 := pre_get (c := 47) hk hj
    rw [hjoin, e1, e3] at e4
    have hm : (47 : UInt8) ∈ ps.getD k [] := List.mem_of_getElem? e4.symm
    refine hfree (ps.getD k []) ?_ _ hm rfl
    rw [List.getD_eq_getElem?_getD, List.getElem?_eq_getElem hk]
    exact List.getElem_mem _
  have hout : ∀ k, k + 1 < ps.length → (intsOf s).getD (pre ps k + (ps.getD k []).length) 0 = 47 := fun k hk => by
    have h1 := pre_le 47 ps (k + 1) hk
    rw [hjoin, hl] at h1
    have h2 : pre ps (k + 1) = pre ps k + (ps.getD k []).length + 1 := rfl
    obtain ⟨b, e1, e2⟩ := byte_get (s := s) (i := pre ps k + (ps.getD k []).length) (by omega)
    have e4 := pre_sep (c := 47) hk
    rw [hjoin, e1] at e4
    cases e4
    exact e2
  have hcut : ∀ k, k < ps.length → s.extract (pre ps k) (pre ps k + (ps.getD k []).length) = pieceS ps k := fun k hk => by
    refine bA_ext ?_
    unfold pieceS
    rw [ext_list, bA_list, ← hjoin]
    exact pre_piece hk
  refine rcalls Tryz.func125 rfl (by decide) ?_
  refine ⟨Nat × Nat, fun x => [(0, str s), (3, int .i64 (pre ps x.1)), (4, int .i64 x.2)], fun x => [],
    fun x => x.1 ≤ ps.length ∧ (x.1 < ps.length → pre ps x.1 ≤ x.2 ∧ x.2 ≤ pre ps x.1 + (ps.getD x.1 []).length) ∧ (x.1 = ps.length → x.2 = s.size + 1) ∧ ∀ j, j < x.1 → okPart (pieceS ps j), fun x => s.size + 1 - x.2,
    ⟨(0, 0), [], ⟨by omega, fun _ => ⟨Nat.le_refl _, Nat.zero_le _⟩, fun h => by simp at h; omega, by simp⟩, lehN _, ⟨leS rfl, leI rfl, leI rfl, trivial⟩⟩, ?_⟩
  rintro ⟨k, i⟩ ⟨hk, hki, hke, hj⟩
  dsimp only at hk hki hke hj ⊢
  refine ⟨fun c1 => ?_, fun c1 => ?_⟩
  · have f1 : (i : Int) ≤ s.size := yes c1
    have hkl : k < ps.length := by
      rcases Nat.lt_or_ge k ps.length with h | h
      · exact h
      · have := hke (by omega); omega
    obtain ⟨hi1, hi2⟩ := hki hkl
    have e1 : IntKind.i64.wrap ((i : Int) + 1) = ((i + 1 : Nat) : Int) := by rw [w64 (by omega) (by omega)]; omega
    have hto : ((i : Int)).toNat = i := by omega
    have hpl := hle k hkl
    refine ⟨fun c2 => ?_, fun c2 => ⟨⟨by omega, by have := no c2; omega⟩, fun c3 => ?_, fun c3 => ?_⟩⟩
    case refine_3 =>
      have g2 := no c2
      have g3 : ¬ (intsOf s).getD ((i : Int)).toNat 0 = 47 := no c3
      rw [hto] at g3
      have hlt : ¬ i = pre ps k + (ps.getD k []).length := fun h => by
        rcases Nat.lt_or_ge (k + 1) ps.length with h1 | h1
        · exact g3 (by rw [h]; exact hout k h1)
        · exact g2 (by rw [h, hend k (by omega)])
      exact ⟨trivial, (k, i + 1), [], ⟨by omega, fun _ => ⟨by show pre ps k ≤ i + 1; omega, by show i + 1 ≤ pre ps k + (ps.getD k []).length; omega⟩, fun h => by have h : k = ps.length := h; omega, hj⟩, by show s.size + 1 - (i + 1) < s.size + 1 - i; omega, lehN _, ⟨leS rfl, leI rfl, leI e1, trivial⟩⟩
    all_goals
      have hlast : i = pre ps k + (ps.getD k []).length := by
        first
          | (have g2 := yes c2
             rcases Nat.lt_or_ge (k + 1) ps.length with h1 | h1
             · have := hle (k + 1) h1
               have : pre ps (k + 1) = pre ps k + (ps.getD k []).length + 1 := rfl
               omega
             · have := hend k (by omega); omega)
          | (have g3 : (intsOf s).getD ((i : Int)).toNat 0 = 47 := yes c3
             rw [hto] at g3
             rcases Nat.lt_or_ge i (pre ps k + (ps.getD k []).length) with h | h
             · refine absurd ?_ (hin k (i - pre ps k) hkl (by omega))
               rw [show pre ps k + (i - pre ps k) = i by omega]; exact g3
             · omega)
      have e2 : pre ps (k + 1) = i + 1 := by show pre ps k + (ps.getD k []).length + 1 = _; omega
      have hpi : s.extract (pre ps k) i = pieceS ps k := by rw [hlast]; exact hcut k hkl
      have hsz : (s.extract (pre ps k) i).size ≤ s.size := by rw [ByteArray.size_extract]; omega
      have hp := part_ref (s.extract (pre ps k) i) (by omega)
      refine ⟨⟨by omega, f1⟩, ⟨by omega, by omega⟩, ?_⟩
      refine ⟨[], _, hp, ?_⟩
      rintro r hh ⟨rfl, rfl⟩
      refine ⟨.inl rfl, ?_⟩
      refine ⟨fun c4 => ?_, fun c4 => ?_⟩
      · exact ⟨[], [], _, lehN _, leFB (hno fun h => notT c4 (by rw [hpi]; exact hok.1 h k hkl)), rfl, rfl⟩
      · refine ⟨trivial, (k + 1, i + 1), [], ⟨by show k + 1 ≤ _; omega, fun h => ⟨by show pre ps (k + 1) ≤ i + 1; omega, by show i + 1 ≤ pre ps (k + 1) + _; omega⟩, fun h => ?_, fun j hj' => ?_⟩, by show s.size + 1 - (i + 1) < s.size + 1 - i; omega, lehN _, ⟨leS rfl, leI ?_, leI e1, trivial⟩⟩
        · have h : k + 1 = ps.length := h
          have := hend k h
          show i + 1 = s.size + 1
          omega
        · have hj' : j < k + 1 := hj'
          rcases Nat.lt_or_ge j k with h | h
          · exact hj j h
          · rw [show j = k by omega, ← hpi]; exact notF c4
        · show IntKind.i64.wrap ((i : Int) + 1) = ((pre ps (k + 1) : Nat) : Int)
          rw [e1, e2]
  · have f1 : ¬ (i : Int) ≤ s.size := no c1
    have hkl : k = ps.length := by
      rcases Nat.lt_or_ge k ps.length with h | h
      · have := (hki h).2; have := hle k h; omega
      · omega
    subst hkl
    exact ⟨[], [], _, lehN _, leTB (hyes (hok.2 hj)), rfl, rfl⟩

end
end Go.Proofs.YtflclafbieokiaaGreatDoor.Pa

/-
  A path's two fields, of both.
-/
set_option linter.unusedVariables false
set_option linter.unusedSectionVars false
namespace Go.Proofs.YtflclafbieokiaaGreatDoor.Pa
open Go AL Spl

def firstC (c : UInt8) : List UInt8 → Nat
  | [] => 0
  | x :: l => if x = c then 0 else firstC c l + 1
theorem firstC_le (c : UInt8) : ∀ l, firstC c l ≤ l.length
  | [] => Nat.le_refl _
  | x :: l => by
    have := firstC_le c l
    unfold firstC
    split
    · omega
    · rw [List.length_cons]; omega
theorem firstC_at {c : UInt8} : ∀ {l : List UInt8}, firstC c l < l.length → l[firstC c l]? = some c
  | [], h => by cases h
  | x :: l, h => by
    unfold firstC at h ⊢
    split at h
    · rename_i e
      rw [if_pos e, e]; rfl
    · rename_i e
      rw [if_neg e, List.getElem?_cons_succ]
      exact firstC_at (by rw [List.length_cons] at h; omega)
theorem firstC_not {c : UInt8} : ∀ {l : List UInt8} {j : Nat}, j < firstC c l → l[j]? ≠ some c
  | [], j, h => by cases h
  | x :: l, j, h => by
    unfold firstC at h
    split at h
    · cases h
    · rename_i e
      cases j with
      | zero => simpa using e
      | succ j => rw [List.getElem?_cons_succ]; exact firstC_not (by omega)
theorem firstC_eq {c : UInt8} {l : List UInt8} {k : Nat} (hk : k ≤ l.length) (hn : ∀ j, j < k → l[j]? ≠ some c) (hc : k = l.length ∨ l[k]? = some c) : firstC c l = k := by
  rcases Nat.lt_trichotomy (firstC c l) k with h | h | h
  · exact absurd (firstC_at (by omega)) (hn _ h)
  · exact h
  · rcases hc with hc | hc
    · have := firstC_le c l; omega
    · exact absurd hc (firstC_not h)
theorem index_first (c : UInt8) : ∀ l : List UInt8, Lib.indexByte l c = if firstC c l < l.length then (firstC c l : Int) else -1
  | [] => rfl
  | x :: l => by
    have ih := index_first c l
    unfold Lib.indexByte firstC
    by_cases e : x = c
    · have : (x == c) = true := by simpa using e
      simp [e]
    · have h1 : (x == c) = false := by simpa using e
      rw [if_neg (by rw [h1]; decide), ih]
      rw [if_neg e]
      by_cases h2 : firstC c l < l.length
      · have h3 : ((firstC c l : Int) == -1) = false := by simp
        simp [h2, h3]
      · simp [h2]

def cutS (s : ByteArray) : Nat := (s.size - 101) + firstC 47 (s.data.toList.drop (s.size - 101))
theorem cutS_le (s : ByteArray) : cutS s ≤ s.size := by
  have := firstC_le 47 (s.data.toList.drop (s.size - 101))
  rw [List.length_drop] at this
  have hl : s.data.toList.length = s.size := rfl
  unfold cutS; omega
def okSplit (s : ByteArray) : Prop := okParts s ∧ s.size ≤ 254 ∧ (s.size ≤ 100 ∨ cutS s < s.size ∧ cutS s ≤ 155)
instance (s : ByteArray) : Decidable (okSplit s) := by unfold okSplit; infer_instance
def preS (s : ByteArray) : ByteArray := if okSplit s ∧ ¬ s.size ≤ 100 then s.extract 0 (cutS s) else ByteArray.empty
def nameS (s : ByteArray) : ByteArray := if okSplit s then (if s.size ≤ 100 then s else s.extract (cutS s + 1) s.size) else ByteArray.empty
def errS (s : ByteArray) : Int := if okSplit s then 0 else 9

theorem split_bad {s : ByteArray} (h : ¬ okSplit s) : preS s = ByteArray.empty ∧ nameS s = ByteArray.empty ∧ errS s = 9 :=
  ⟨if_neg fun e => h e.1, if_neg h, if_neg h⟩

section
variable [Globs]
def SplitR (s : ByteArray) (r : AV) (h : List AO) : Prop := r = .tup 3 (triple (str (preS s)) (str (nameS s)) (int .i64 (errS s))) ∧ h = []

set_option maxHeartbeats 2000000 in
set_option maxRecDepth 10000 in
theorem split_path (s : ByteArray) (hs : s.size ≤ 9223372036854775805) : ACalls Tryz.prog 89 [str s] [] (SplitR s) := by
  have hl : s.data.toList.length = s.size := rfl
  have hbad := @split_bad s
  have hok : okSplit s ↔ okParts s ∧ s.size ≤ 254 ∧ (s.size ≤ 100 ∨ cutS s < s.size ∧ cutS s ≤ 155) := Iff.rfl
  have hcl := cutS_le s
  have hcut : cutS s = (s.size - 101) + firstC 47 (s.data.toList.drop (s.size - 101)) := rfl
  have hw := whole_prog s (by omega)
  have hwh : okWhole s ↔ okParts s ∧ s.size ≤ 254 := Iff.rfl
  unfold SplitR
  have hgood1 : okSplit s → s.size ≤ 100 → preS s = ByteArray.empty ∧ nameS s = s ∧ errS s = 0 := fun h h1 =>
    ⟨if_neg fun e => e.2 h1, by unfold nameS; rw [if_pos h, if_pos h1], if_pos h⟩
  have hgood2 : okSplit s → ¬ s.size ≤ 100 → preS s = s.extract 0 (cutS s) ∧ nameS s = s.extract (cutS s + 1) s.size ∧ errS s = 0 := fun h h1 =>
    ⟨if_pos ⟨h, h1⟩, by unfold nameS; rw [if_pos h, if_neg h1], if_pos h⟩
  generalize preS s = Pr at *
  generalize nameS s = Na at *
  generalize errS s = Er at *
  generalize cutS s = C at *
  refine rcalls Tryz.func89 rfl (by decide) ?_
  refine ⟨[], _, hw, ?_⟩
  rintro r hh ⟨rfl, rfl⟩
  refine ⟨.inl rfl, ?_⟩
  refine ⟨fun c1 => ?_, fun c1 => ⟨fun c2 => ?_, fun c2 => ?_⟩⟩
  · obtain ⟨rfl, rfl, rfl⟩ := hbad fun h => notT c1 (hwh.2 ⟨h.1, h.2.1⟩)
    exact ⟨[], [], _, lehN _, le_triple (leS rfl) (leS rfl) (leI rfl), rfl, rfl⟩
  · have h1 : s.size ≤ 100 := by have := yes c2; omega
    obtain ⟨rfl, e2, rfl⟩ := hgood1 ⟨(hwh.1 (notF c1)).1, (hwh.1 (notF c1)).2, .inl h1⟩ h1
    exact ⟨[], [], _, lehN _, le_triple (leS rfl) (leS e2.symm) (leI rfl), rfl, rfl⟩
  · have h1 : ¬ s.size ≤ 100 := by have := no c2; omega
    obtain ⟨g1, g2⟩ := hwh.1 (notF c1)
    have w1 : IntKind.i64.wrap ((s.size : Int) - 100) = (s.size : Int) - 100 := w64 (by omega) (by omega)
    have w2 : IntKind.i64.wrap (IntKind.i64.wrap ((s.size : Int) - 100) - 1) = ((s.size - 101 : Nat) : Int) := by rw [w1, w64 (by omega) (by omega)]; omega
    have w3 : (IntKind.i64.wrap (IntKind.i64.wrap ((s.size : Int) - 100) - 1)).toNat = s.size - 101 := by rw [w2]; omega
    have hI := indexOne_prog (s.extract (IntKind.i64.wrap (IntKind.i64.wrap ((s.size : Int) - 100) - 1)).toNat s.size) 47
    have hlist : (s.extract (IntKind.i64.wrap (IntKind.i64.wrap ((s.size : Int) - 100) - 1)).toNat s.size).data.toList = s.data.toList.drop (s.size - 101) := by
      rw [w3, ext_list, List.take_of_length_le (Nat.le_of_eq hl)]
    rw [hlist, index_first, List.length_drop, hl] at hI
    have hF := firstC_le 47 (s.data.toList.drop (s.size - 101))
    rw [List.length_drop, hl] at hF
    generalize firstC 47 (s.data.toList.drop (s.size - 101)) = F at *
    refine ⟨⟨by rw [w2]; omega, by rw [w2]; omega⟩, ?_⟩
    by_cases hlt : F < s.size - (s.size - 101)
    · rw [if_pos hlt] at hI
      refine ⟨[], _, hI, ?_⟩
      rintro r hh ⟨rfl, rfl⟩
      refine ⟨.inl rfl, ?_⟩
      have w4 : IntKind.i64.wrap (IntKind.i64.wrap (IntKind.i64.wrap ((s.size : Int) - 100) - 1) + (F : Int)) = (C : Int) := by rw [w2, w64 (by omega) (by omega)]; omega
      have w5 : (IntKind.i64.wrap (IntKind.i64.wrap (IntKind.i64.wrap ((s.size : Int) - 100) - 1) + (F : Int))).toNat = C := by rw [w4]; omega
      have w6 : IntKind.i64.wrap (IntKind.i64.wrap (IntKind.i64.wrap (IntKind.i64.wrap ((s.size : Int) - 100) - 1) + (F : Int)) + 1) = ((C + 1 : Nat) : Int) := by rw [w4, w64 (by omega) (by omega)]; omega
      have w7 : (IntKind.i64.wrap (IntKind.i64.wrap (IntKind.i64.wrap (IntKind.i64.wrap ((s.size : Int) - 100) - 1) + (F : Int)) + 1)).toNat = C + 1 := by rw [w6]; omega
      refine ⟨fun c3 => absurd (yes c3) (by omega), fun _ => ?_⟩
      refine ⟨fun c4 => ?_, fun c4 => ?_⟩
      · have c4 := yes c4
        obtain ⟨rfl, rfl, rfl⟩ := hbad fun h => by have := (hok.1 h).2.2; omega
        exact ⟨[], [], _, lehN _, le_triple (leS rfl) (leS rfl) (leI rfl), rfl, rfl⟩
      · have c4 := no c4
        obtain ⟨e1, e2, rfl⟩ := hgood2 (hok.2 ⟨g1, g2, .inr ⟨by omega, by omega⟩⟩) h1
        refine .inl ⟨⟨by decide +kernel, by decide +kernel⟩, ?_⟩
        refine ⟨⟨by rw [w4]; omega, by rw [w4]; omega⟩, ?_⟩
        refine ⟨⟨by rw [w6]; omega, by rw [w6]; omega⟩, ?_⟩
        exact ⟨[], [], _, lehN _, le_triple (leS (by rw [e1, w5])) (leS (by rw [e2, w7])) (leI rfl), rfl, rfl⟩
    · rw [if_neg hlt] at hI
      refine ⟨[], _, hI, ?_⟩
      rintro r hh ⟨rfl, rfl⟩
      refine ⟨.inl rfl, ?_⟩
      refine ⟨fun _ => ?_, fun c3 => absurd (by decide) (no c3)⟩
      obtain ⟨rfl, rfl, rfl⟩ := hbad fun h => by have := (hok.1 h).2.2; omega
      exact ⟨[], [], _, lehN _, le_triple (leS rfl) (leS rfl) (leI rfl), rfl, rfl⟩

end
end Go.Proofs.YtflclafbieokiaaGreatDoor.Pa

/-
  Octal fields, in plain Lean: what a number's field is, and what a field's number. No program in sight.
-/
set_option linter.unusedVariables false
namespace Go.Proofs.YtflclafbieokiaaGreatDoor.Oc
open Go AL

def dig (n : Int) (j : Nat) : Int := 48 + n / 8 ^ j % 8
def digs (n : Int) : Nat → List Int
  | 0 => []
  | m + 1 => dig n m :: digs n m
theorem digs_length (n : Int) : ∀ m, (digs n m).length = m
  | 0 => rfl
  | m + 1 => by simp [digs, digs_length n m]
def fits (n w : Int) : Prop := 0 ≤ n ∧ n < 8 ^ (w - 1).toNat
instance (n w : Int) : Decidable (fits n w) := by unfold fits; exact inferInstance
def putE (n w : Int) : Int := if w < 2 ∨ w > 12 then 1 else if fits n w then 0 else 8
def putR (n w : Int) : List Int := if w < 2 ∨ w > 12 then [] else if fits n w then digs n (w - 1).toNat ++ [0] else []

theorem pow8_pos (j : Nat) : (0 : Int) < 8 ^ j := Int.pow_pos (by decide)
theorem div_succ (n : Int) (j : Nat) : n / 8 ^ (j + 1) = n / 8 ^ j / 8 := by
  rw [Int.pow_succ, Int.ediv_ediv_of_nonneg (Int.le_of_lt (pow8_pos j))]
theorem fits_iff {n : Int} {m : Nat} : n / 8 ^ m = 0 ↔ 0 ≤ n ∧ n < 8 ^ m := by
  have hp := pow8_pos m
  constructor
  · intro h
    have h1 := Int.emod_nonneg n (Int.ne_of_gt hp)
    have h2 := Int.emod_lt_of_pos n hp
    have h3 := Int.mul_ediv_add_emod n (8 ^ m)
    rw [h, Int.mul_zero, Int.zero_add] at h3
    omega
  · rintro ⟨h1, h2⟩
    exact Int.ediv_eq_zero_of_lt h1 h2
theorem dig_lo (n : Int) (j : Nat) : 48 ≤ dig n j := by
  unfold dig; have := Int.emod_nonneg (n / 8 ^ j) (show (8 : Int) ≠ 0 by decide); omega
theorem dig_hi (n : Int) (j : Nat) : dig n j < 56 := by
  unfold dig; have := Int.emod_lt_of_pos (n / 8 ^ j) (show (0 : Int) < 8 by decide); omega

def part (n : Int) (w j : Nat) : List Int := List.replicate (w - 1 - j) 0 ++ digs n j ++ [0]
theorem part_zero (n : Int) {w : Nat} (hw : 1 ≤ w) : part n w 0 = List.replicate w 0 := by
  unfold part digs
  rw [List.append_nil, Nat.sub_zero, ← List.replicate_succ', show w - 1 + 1 = w by omega]
theorem part_length (n : Int) {w j : Nat} (hj : j + 1 ≤ w) : (part n w j).length = w := by
  simp [part, digs_length]; omega
theorem part_succ (n : Int) {w j : Nat} (hj : j + 2 ≤ w) : (part n w j).set (w - 2 - j) (dig n j) = part n w (j + 1) := by
  unfold part
  rw [show w - 1 - j = (w - 2 - j) + 1 by omega, List.replicate_succ', show w - 1 - (j + 1) = w - 2 - j by omega]
  rw [List.append_assoc, List.append_assoc, List.set_append_right _ _ (by simp)]
  simp [digs]
theorem part_full (n : Int) {w : Nat} (hw : 1 ≤ w) : part n w (w - 1) = digs n (w - 1) ++ [0] := by
  simp [part]

def acc (xs : List Int) : Nat → Int
  | 0 => 0
  | k + 1 => 8 * acc xs k + (xs.getD k 0 - 48)
def acr (xs : List Int) : Nat → Int
  | 0 => 0
  | k + 1 => 8 * acr xs k + xs.getD k 0 % 8
def figure (c : Int) : Prop := 48 ≤ c ∧ c < 56
def valid (xs : List Int) : Prop := 2 ≤ xs.length ∧ xs.length ≤ 12 ∧ xs.getD (xs.length - 1) 0 = 0 ∧ ∀ i, i < xs.length - 1 → figure (xs.getD i 0)
open Classical in
noncomputable def getV (xs : List Int) : Int := if valid xs then acc xs (xs.length - 1) else 0
open Classical in
noncomputable def getE (xs : List Int) : Int := if valid xs then 0 else 2
theorem get_ok {xs : List Int} (h : valid xs) : getV xs = acc xs (xs.length - 1) ∧ getE xs = 0 := by simp [getV, getE, h]
theorem get_no {xs : List Int} (h : ¬ valid xs) : getV xs = 0 ∧ getE xs = 2 := by simp [getV, getE, h]

theorem digs_low (a c : Int) (h0 : 0 ≤ c) (h1 : c < 8) : ∀ m, digs (8 * a + c) (m + 1) = digs a m ++ [48 + c]
  | 0 => by simp [digs, dig]; omega
  | m + 1 => by
    have h2 : dig (8 * a + c) (m + 1) = dig a m := by
      unfold dig
      have : (8 * a + c) / 8 ^ (m + 1) = a / 8 ^ m := by
        rw [Int.pow_succ, Int.mul_comm (8 ^ m) 8, ← Int.ediv_ediv_of_nonneg (by decide)]
        congr 1
        omega
      rw [this]
    rw [digs, h2, digs_low a c h0 h1 m]
    rfl
theorem take_snoc_getD (xs : List Int) (k : Nat) (h : k < xs.length) : xs.take (k + 1) = xs.take k ++ [xs.getD k 0] := by
  rw [List.take_succ_eq_append_getElem h, List.getD_eq_getElem?_getD, List.getElem?_eq_getElem h]
  rfl
theorem acc_range {xs : List Int} : ∀ {m : Nat}, (∀ i, i < m → figure (xs.getD i 0)) → 0 ≤ acc xs m ∧ acc xs m < 8 ^ m
  | 0, _ => by simp [acc]
  | m + 1, h => by
    have h1 := acc_range (m := m) fun i hi => h i (by omega)
    have h2 := h m (by omega)
    unfold figure at h2
    have : (8 : Int) ^ (m + 1) = 8 * 8 ^ m := by rw [Int.pow_succ, Int.mul_comm]
    simp only [acc]
    omega
theorem digs_acc {xs : List Int} : ∀ {m : Nat}, m ≤ xs.length → (∀ i, i < m → figure (xs.getD i 0)) → digs (acc xs m) m = xs.take m
  | 0, _, _ => by simp [digs]
  | m + 1, hm, h => by
    have h1 := digs_acc (m := m) (by omega) fun i hi => h i (by omega)
    have h2 := h m (by omega)
    unfold figure at h2
    simp only [acc]
    rw [digs_low _ _ (by omega) (by omega), h1, take_snoc_getD xs m (by omega)]
    congr 2
    omega
theorem acr_eq {xs : List Int} : ∀ {m : Nat}, (∀ i, i < m → figure (xs.getD i 0)) → acr xs m = acc xs m
  | 0, _ => rfl
  | m + 1, h => by
    have h1 := acr_eq (m := m) fun i hi => h i (by omega)
    have h2 := h m (by omega)
    unfold figure at h2
    simp only [acc, acr, h1]
    omega
theorem acr_range {xs : List Int} (hx : ∀ x ∈ xs, 0 ≤ x ∧ x < 256) : ∀ m : Nat, 0 ≤ acr xs m ∧ acr xs m < 8 ^ m
  | 0 => by simp [acr]
  | m + 1 => by
    have h1 := acr_range hx m
    have : (8 : Int) ^ (m + 1) = 8 * 8 ^ m := by rw [Int.pow_succ, Int.mul_comm]
    simp only [acr]
    omega
theorem digs_get (n : Int) : ∀ (m i : Nat), i < m → (digs n m).getD i 0 = dig n (m - 1 - i)
  | m + 1, 0, _ => by simp [digs]
  | m + 1, i + 1, h => by
    simp only [digs, List.getD_cons_succ]
    rw [digs_get n m i (by omega)]
    congr 1
    omega
theorem pow8_mono {a b : Nat} (h : a ≤ b) : (8 : Int) ^ a ≤ 8 ^ b := by
  have : (8 : Nat) ^ a ≤ 8 ^ b := Nat.pow_le_pow_right (by decide) h
  exact_mod_cast this
theorem putR_range (n w : Int) : ∀ x ∈ putR n w, 0 ≤ x ∧ x < 256 := by
  intro x hx
  unfold putR at hx
  split at hx
  · simp at hx
  · split at hx
    · have : ∀ m, ∀ x ∈ digs n m, 0 ≤ x ∧ x < 256 := by
        intro m
        induction m with
        | zero => intro x hx; simp [digs] at hx
        | succ m ih =>
          intro x hx
          simp [digs] at hx
          rcases hx with rfl | hx
          · have := dig_lo n m; have := dig_hi n m; omega
          · exact ih x hx
      simp at hx
      rcases hx with hx | rfl
      · exact this _ x hx
      · omega
    · simp at hx
theorem put_back {xs : List Int} (hv : valid xs) : putE (acc xs (xs.length - 1)) xs.length = 0 ∧ putR (acc xs (xs.length - 1)) xs.length = xs := by
  obtain ⟨h1, h2, h3, h4⟩ := hv
  have hr := acc_range h4
  have hw : (((xs.length : Nat) : Int) - 1).toNat = xs.length - 1 := by omega
  have hf : fits (acc xs (xs.length - 1)) xs.length := by unfold fits; rw [hw]; exact hr
  have hok : ¬ (((xs.length : Nat) : Int) < 2 ∨ ((xs.length : Nat) : Int) > 12) := by omega
  refine ⟨by simp [putE, hok, hf], ?_⟩
  have : putR (acc xs (xs.length - 1)) xs.length = digs (acc xs (xs.length - 1)) (xs.length - 1) ++ [0] := by
    simp only [putR, hok, if_false, hf, if_true, hw]
  rw [this, digs_acc (by omega) h4]
  have h5 := take_snoc_getD xs (xs.length - 1) (by omega)
  rw [h3, show xs.length - 1 + 1 = xs.length by omega, List.take_length] at h5
  exact h5.symm
theorem digs_inj {a b : Int} : ∀ {m : Nat}, 0 ≤ a → a < 8 ^ m → 0 ≤ b → b < 8 ^ m → digs a m = digs b m → a = b := by
  intro m
  induction m generalizing a b with
  | zero => intro h1 h2 h3 h4 _; simp at h2 h4; omega
  | succ m ih =>
    intro h1 h2 h3 h4 h
    have ea : digs a (m + 1) = digs (a / 8) m ++ [48 + a % 8] := by
      have := digs_low (a / 8) (a % 8) (by omega) (by omega) m
      rwa [show 8 * (a / 8) + a % 8 = a by omega] at this
    have eb : digs b (m + 1) = digs (b / 8) m ++ [48 + b % 8] := by
      have := digs_low (b / 8) (b % 8) (by omega) (by omega) m
      rwa [show 8 * (b / 8) + b % 8 = b by omega] at this
    rw [ea, eb] at h
    have hp : (8 : Int) ^ (m + 1) = 8 * 8 ^ m := by rw [Int.pow_succ, Int.mul_comm]
    have h5 := List.append_inj' h rfl
    have h6 := ih (a := a / 8) (b := b / 8) (by omega) (by omega) (by omega) (by omega) h5.1
    have h7 : 48 + a % 8 = 48 + b % 8 := by simpa using h5.2
    omega
theorem put_field {n w : Int} (h : putE n w = 0) : ((putR n w).length : Int) = w ∧ valid (putR n w) ∧ acc (putR n w) ((putR n w).length - 1) = n := by
  have hok : ¬ (w < 2 ∨ w > 12) := fun h1 => by simp [putE, h1] at h
  have hf : fits n w := by
    by_cases hf : fits n w
    · exact hf
    · simp [putE, hok, hf] at h
  have e : putR n w = digs n (w - 1).toNat ++ [0] := by simp only [putR, hok, if_false, hf, if_true]
  have hl : (putR n w).length = (w - 1).toNat + 1 := by rw [e]; simp [digs_length]
  have hd : ∀ i, i < (w - 1).toNat → (putR n w).getD i 0 = dig n ((w - 1).toNat - 1 - i) := fun i hi => by
    rw [e, List.getD_eq_getElem?_getD, List.getElem?_append_left (by simpa [digs_length] using hi), ← List.getD_eq_getElem?_getD, digs_get n _ i hi]
  have hv : ∀ i, i < (putR n w).length - 1 → figure ((putR n w).getD i 0) := fun i hi => by
    rw [hd i (by omega)]
    exact ⟨dig_lo _ _, dig_hi _ _⟩
  have hlast : (putR n w).getD ((putR n w).length - 1) 0 = 0 := by
    rw [hl, e, List.getD_eq_getElem?_getD, List.getElem?_append_right (by simp [digs_length])]
    simp [digs_length]
  refine ⟨by rw [hl]; omega, ⟨by omega, by omega, hlast, hv⟩, ?_⟩
  have h1 := digs_acc (xs := putR n w) (m := (putR n w).length - 1) (by omega) hv
  have h2 := acc_range hv
  rw [hl] at h1 h2 ⊢
  simp only [Nat.add_sub_cancel] at h1 h2 ⊢
  have h3 : digs (acc (putR n w) (w - 1).toNat) (w - 1).toNat = digs n (w - 1).toNat := by
    rw [h1, e, List.take_left' (digs_length n _)]
  exact digs_inj h2.1 h2.2 hf.1 hf.2 h3
end Go.Proofs.YtflclafbieokiaaGreatDoor.Oc

/-
  The contracts of octal.Put and of its reference.
-/
set_option linter.unusedVariables false
set_option linter.unusedSectionVars false
namespace Go.Proofs.YtflclafbieokiaaGreatDoor.Oc
open Go AL
section
variable [Globs]

theorem putE_bad {n w : Int} (h : w < 2 ∨ w > 12) : putE n w = 1 ∧ putR n w = [] := by simp [putE, putR, h]
theorem putE_ok {n w : Int} (h : ¬ (w < 2 ∨ w > 12)) (hf : fits n w) : putE n w = 0 ∧ putR n w = digs n (w - 1).toNat ++ [0] := by simp [putE, putR, h, hf]
theorem putE_no {n w : Int} (h : ¬ (w < 2 ∨ w > 12)) (hf : ¬ fits n w) : putE n w = 8 ∧ putR n w = [] := by simp [putE, putR, h, hf]

def PutR (n w : Int) (r : AV) (h : List AO) : Prop := r = .tup 2 (pair (.roI .u8 (putR n w)) (int .i64 (putE n w))) ∧ h = []

set_option maxHeartbeats 1000000 in
set_option maxRecDepth 10000 in
theorem put_prog (n w : Int) : ACalls Tryz.prog 91 [int .i64 n, int .i64 w] [] (PutR n w) := by
  refine rcalls Tryz.func91 rfl (by decide) ?_
  have bad : (w < 2 ∨ w > 12) → ∃ l h1 b, LeH 0 [] l h1 ∧ LeV [] l (.tup 2 fun i => [.raw (.slice none 0 0), int .i64 1].getD i .top) b ∧ PutR n w b h1 := fun hw =>
    ⟨[], [], _, leh0, le_pair (.nilI .u8) (leI (putE_bad hw).1.symm), by unfold PutR; rw [(putE_bad hw).2]; exact ⟨rfl, rfl⟩⟩
  refine ⟨fun h => bad (.inl (by simpa using h)), fun h => ⟨fun h1 => bad (.inr (by simpa using h1)), fun h1 => ?_⟩⟩
  have hw2 : ¬ (w < 2) := by simpa using h
  have hw12 : ¬ (12 < w) := by simpa using h1
  have hok : ¬ (w < 2 ∨ w > 12) := by omega
  refine ⟨⟨by omega, by omega, by omega, by show w * 1 ≤ _; omega⟩, rfl, ?_⟩
  obtain ⟨m, hm⟩ : ∃ m : Nat, w = (m : Int) := ⟨w.toNat, by omega⟩
  subst hm
  have e0 : IntKind.i64.wrap ((m : Int) - 2) = (m : Int) - 2 := w64 (by omega) (by omega)
  refine ⟨Nat, fun j => [(0, int .i64 (n / 8 ^ j)), (6, .own 0 0 m 1), (7, int .i64 (m - 2 - j))], fun j => [.ints .u8 (part n m j)], fun j => j + 1 ≤ m, fun j => m - j,
    ⟨0, [0], by omega, leh1 rfl (leOint (by rw [part_zero n (by omega)]; simp)), ⟨leI (by simp), leOwn rfl rfl (by simp), leI (by rw [e0]; omega), trivial⟩⟩, fun j hj => ?_⟩
  refine ⟨fun h2 => ?_, fun h2 => ?_⟩
  · -- a round
    have h3 : (0 : Int) ≤ m - 2 - j := by simpa using h2
    have hpl := part_length n hj
    have hi : ((m : Int) - 2 - j).toNat = m - 2 - j := by omega
    refine ⟨⟨by omega, by omega⟩, by rw [hpl]; unfold addOff; omega, by decide, ?_⟩
    refine ⟨trivial, j + 1, [0], by show j + 1 + 1 ≤ m; omega, by show m - (j + 1) < m - j; omega, ?_, ?_⟩
    · refine leh1 rfl (leOint ?_)
      have e1 : Go.bits .and .i64 (n / 8 ^ j) 7 = n / 8 ^ j % 8 := bits_mask64 (n / 8 ^ j) 3 (by decide)
      have d0 := dig_lo n j
      have d1 := dig_hi n j
      unfold dig at d0 d1
      rw [e1, w8 (n := n / 8 ^ j % 8) (by omega) (by omega), w8 (by omega) (by omega), hi]
      unfold addOff
      rw [Nat.zero_add, Nat.mul_one]
      exact part_succ n (by omega)
    · refine ⟨leI ?_, leOwn rfl rfl rfl, leI ?_, trivial⟩
      · show (n / 8 ^ j).fdiv (2 ^ (min (3 : Int).toNat 64)) = _
        rw [div_succ, Int.fdiv_eq_ediv_of_nonneg _ (by decide)]
        rfl
      · rw [w64 (by omega) (by omega)]; omega
  · -- the end
    have h3 : ¬ ((0 : Int) ≤ m - 2 - j) := by simpa using h2
    have hjm : j = m - 1 := by have : j + 1 ≤ m := hj; omega
    subst hjm
    have hw1 : ((m : Int) - 1).toNat = m - 1 := by omega
    refine ⟨fun h4 => ?_, fun h4 => ?_⟩
    · have hnf : ¬ fits n m := by
        unfold fits
        rw [hw1, ← fits_iff]
        simpa using h4
      refine ⟨[], [], _, lehN _, le_pair (.nilI .u8) (leI (putE_no hok hnf).1.symm), ?_⟩
      unfold PutR; rw [(putE_no hok hnf).2]; exact ⟨rfl, rfl⟩
    · have hf : fits n m := by
        unfold fits
        rw [hw1, ← fits_iff]
        simpa using h4
      refine ⟨[], [], _, lehN _, le_pair (.giveI (putR n m) rfl (by simp) ?_ ?_) (leI (putE_ok hok hf).1.symm), rfl, rfl⟩
      · rw [part_length n (by omega)]; simp
      · rw [(putE_ok hok hf).2, part_full n (by omega), hw1]
        rw [List.drop_zero, List.take_of_length_le (by simp [digs_length]; omega)]

end

end Go.Proofs.YtflclafbieokiaaGreatDoor.Oc

/-
  The contracts of octal.Check and octal.Text.
-/
set_option linter.unusedVariables false
set_option linter.unusedSectionVars false
namespace Go.Proofs.YtflclafbieokiaaGreatDoor.Oc
open Go AL
section
variable [Globs]

def chkAt (i : Nat) (c : Int) : Int := if 148 ≤ i ∧ i < 156 then 32 else c
def chk (xs : List Int) : Nat → Int
  | 0 => 0
  | k + 1 => chk xs k + chkAt k (xs.getD k 0)
theorem chk_range {xs : List Int} (hx : ∀ x ∈ xs, 0 ≤ x ∧ x < 256) : ∀ k : Nat, 0 ≤ chk xs k ∧ chk xs k ≤ 256 * k
  | 0 => by simp [chk]
  | k + 1 => by
    have := chk_range hx k
    have hb := byteAt hx k
    simp only [chk, chkAt]
    split <;> omega

set_option maxHeartbeats 1000000 in
set_option maxRecDepth 10000 in
theorem check_prog (xs : List Int) (hx : ∀ x ∈ xs, 0 ≤ x ∧ x < 256) (hl : xs.length ≤ 281474976710656) : ACalls Tryz.prog 92 [.roI .u8 xs] [] (fun r h => r = int .i64 (chk xs xs.length) ∧ h = []) := by
  refine rcalls Tryz.func92 rfl (by decide) ?_
  refine ⟨Nat, fun k => [(6, .roI .u8 xs), (7, int .i64 xs.length), (8, int .i64 k), (3, int .i64 (chk xs k))], fun _ => [], fun k => k ≤ xs.length, fun k => xs.length - k,
    ⟨0, [], Nat.zero_le _, leh0, ⟨leRo rfl, leI rfl, leI rfl, leI rfl, trivial⟩⟩, fun k hk => ?_⟩
  refine ⟨fun h => ?_, fun h => ?_⟩
  · have hlt : k < xs.length := by have := yes h; omega
    have hb := byteAt hx k
    have hr := chk_range hx k
    have e1 : IntKind.i64.wrap ((k : Int) + 1) = ((k + 1 : Nat) : Int) := by rw [w64 (by omega) (by omega)]; omega
    refine ⟨⟨by omega, by omega⟩, ?_⟩
    refine ⟨fun h1 => ⟨fun h2 => ?_, fun h2 => ?_⟩, fun h1 => ?_⟩
    · have f1 := yes h1
      have f2 := yes h2
      refine ⟨trivial, k + 1, [], hlt, by show xs.length - (k + 1) < xs.length - k; omega, leh0, ⟨leRo rfl, leI rfl, leI e1, leI ?_, trivial⟩⟩
      have : chk xs (k + 1) = chk xs k + 32 := by simp only [chk, chkAt]; rw [if_pos (by omega)]
      rw [this, w64 (n := 32) (by omega) (by omega), w64 (by omega) (by omega)]
    · have f2 := no h2
      refine ⟨trivial, k + 1, [], hlt, by show xs.length - (k + 1) < xs.length - k; omega, leh0, ⟨leRo rfl, leI rfl, leI e1, leI ?_, trivial⟩⟩
      have : chk xs (k + 1) = chk xs k + xs.getD k 0 := by simp only [chk, chkAt]; rw [if_neg (by omega)]
      show IntKind.i64.wrap (chk xs k + IntKind.i64.wrap (xs.getD k 0)) = _
      rw [this, w64 (n := xs.getD k 0) (by omega) (by omega), w64 (by omega) (by omega)]
    · have f1 := no h1
      refine ⟨trivial, k + 1, [], hlt, by show xs.length - (k + 1) < xs.length - k; omega, leh0, ⟨leRo rfl, leI rfl, leI e1, leI ?_, trivial⟩⟩
      have : chk xs (k + 1) = chk xs k + xs.getD k 0 := by simp only [chk, chkAt]; rw [if_neg (by omega)]
      show IntKind.i64.wrap (chk xs k + IntKind.i64.wrap (xs.getD k 0)) = _
      rw [this, w64 (n := xs.getD k 0) (by omega) (by omega), w64 (by omega) (by omega)]
  · have : k = xs.length := by have := no h; omega
    subst this
    exact ⟨[], [], _, leh0, leI rfl, rfl, rfl⟩

def has0 (s : ByteArray) : Prop := 0 ≤ Lib.indexByte s.data.toList 0
instance (s : ByteArray) : Decidable (has0 s) := by unfold has0; exact inferInstance
def textE (s : ByteArray) (w : Int) : Int := if w < 1 ∨ w > 255 then 1 else if has0 s then 2 else if (s.size : Int) > w then 8 else 0
def textR (s : ByteArray) (w : Int) : List Int := if textE s w = 0 then intsOf s ++ List.replicate (w.toNat - s.size) 0 else []
def TextR (s : ByteArray) (w : Int) (r : AV) (h : List AO) : Prop := r = .tup 2 (pair (.roI .u8 (textR s w)) (int .i64 (textE s w))) ∧ h = []

theorem text_row (l : List Int) (m : Nat) (h : l.length ≤ m) :
    (((List.replicate m (0 : Int)).take 0 ++ l.take m ++ (List.replicate m 0).drop (0 + min l.length m)).drop 0).take m = l ++ List.replicate (m - l.length) 0 := by
  rw [List.take_zero, List.nil_append, List.drop_zero, Nat.zero_add, Nat.min_eq_left h, List.drop_replicate, List.take_of_length_le (l := l) h, List.take_of_length_le]
  simp; omega

theorem index_prog (s : ByteArray) : ACalls Tryz.prog 157 [str s, int .u8 0] [] (fun r h => r = int .i64 (Lib.indexByte s.data.toList 0) ∧ h = []) :=
  acalls_same (args := [.string s, .int .u8 0]) ⟨_, Tryz.func157, by decide, rfl⟩ fun w => Tryz.strings_IndexByte s 0 w

set_option maxHeartbeats 1000000 in
set_option maxRecDepth 10000 in
theorem text_prog (s : ByteArray) (w : Int) (hs : s.size ≤ 9223372036854775807) : ACalls Tryz.prog 120 [str s, int .i64 w] [] (TextR s w) := by
  refine rcalls Tryz.func120 rfl (by decide) ?_
  have bad : ∀ h e, e ≠ 0 → textE s w = e → ∃ l h1 b, LeH 0 h l h1 ∧ LeV h l (.tup 2 fun i => [.raw (.slice none 0 0), int .i64 e].getD i .top) b ∧ TextR s w b h1 := fun h e he hv =>
    ⟨[], [], _, lehN _, le_pair (.nilI .u8) (leI hv.symm), by unfold TextR textR; rw [hv, if_neg he]; exact ⟨rfl, rfl⟩⟩
  refine ⟨fun h => bad _ _ (by decide) ?_, fun h => ⟨fun h1 => bad _ _ (by decide) ?_, fun h1 => ?_⟩⟩
  · have := yes h; simp [textE, this]
  · have := yes h1; simp [textE]; omega
  have hok : ¬ (w < 1 ∨ w > 255) := by have := no h; have := no h1; omega
  refine ⟨[], _, index_prog s, ?_⟩
  rintro r h' ⟨rfl, rfl⟩
  refine ⟨.inl rfl, ?_⟩
  refine ⟨fun h2 => bad _ _ (by decide) ?_, fun h2 => ⟨fun h3 => bad _ _ (by decide) ?_, fun h3 => ?_⟩⟩
  · have h4 : has0 s := by simpa [has0] using yes h2
    simp only [textE, hok, if_false, h4, if_true]
  · have h4 : ¬ has0 s := by simpa [has0] using no h2
    have := yes h3
    simp only [textE, hok, if_false, h4]
    rw [if_pos (by omega)]
  have h4 : ¬ has0 s := by simpa [has0] using no h2
  have h5 := no h3
  have hE : textE s w = 0 := by
    simp only [textE, hok, if_false, h4]
    rw [if_neg (by omega)]
  have hil := intsOf_length s
  refine ⟨⟨by omega, by omega, by omega, by show w * 1 ≤ _; omega⟩, rfl, ?_⟩
  refine ⟨by simp, ?_⟩
  refine ⟨[], [], _, lehN _, le_pair (.giveI (textR s w) rfl (by simp) ?_ ?_) (leI hE.symm), rfl, rfl⟩
  · simp; omega
  · unfold textR
    rw [if_pos hE, ← hil]
    exact (text_row (intsOf s) w.toNat (by omega)).symm

end

end Go.Proofs.YtflclafbieokiaaGreatDoor.Oc

/-
  bytes.IndexByte at 0, over what is known of a row of bytes.
-/
set_option linter.unusedVariables false
namespace Go.Proofs
open Go.Shelf
set_option maxHeartbeats 1000000 in
set_option maxRecDepth 100000 in
theorem YtflclafbieokiaaGreatDoor.Any.bytes_IndexByte_none {P : Program} {ρ : Ren} (L : Lays.n187 P ρ) (c : Nat) (cv : Int) (w : World) :
    Calls P (ρ.f 187) #[.slice none 0 c, .int .u8 cv] w fun e w' => e = .returned (.int .i64 (-1)) ∧ w' = w := by
  have t3 := L.t3; have t5 := L.t5; have t37 := L.t37
  have a3 := L.a3; have a5 := L.a5; have a37 := L.a37
  have mixed := L.mixed; have z3 := L.z3; have v3 := L.v3; have z5 := L.z5; have v5 := L.v5; have z37 := L.z37; have v37 := L.v37
  go_enter L.f187, Body.n187_ntmps ρ
  go_wp2
  rw [run_callFunc_extern L.f255 (by kernel_rfl) (by kernel_rfl) (by kernel_rfl) (e := Extern.BytealgIndexByte.indexByte) (by kernel_rfl), Lib.run_indexByteNil w 0 c cv]
  simp only [Result.andThen]
  rw [Oper.upon_value]
  go_wp2
  go_ret
  exact ⟨rfl, rfl⟩
end Go.Proofs

set_option linter.unusedSectionVars false
namespace Go.Proofs.YtflclafbieokiaaGreatDoor.Oc
open Go AL
section
variable [Globs]

theorem indexByte_prog (ys : List Int) (hy : ∀ y ∈ ys, 0 ≤ y ∧ y < 256) : ACalls Tryz.prog 153 [.roI .u8 ys, int .u8 0] [] (fun r h => r = int .i64 (Lib.indexByte (Lib.bytesOf ys) 0) ∧ h = []) := by
  refine ⟨⟨_, Tryz.func153, by decide, rfl⟩, fun S0 L w vs hh hS hn hv => ?_⟩
  obtain ⟨v0, h0, A, cap, rfl, hcap, hc⟩ := hv 0 _ rfl
  obtain ⟨v1, h1, e1⟩ := hv 1 _ rfl
  have e1 : v1 = .int .u8 0 := e1
  subst e1
  have hvs : vs = #[.slice A ys.length cap, .int .u8 0] := by
    apply Array.ext_getElem?
    intro i
    match i with
    | 0 => rw [h0]; rfl
    | 1 => rw [h1]; rfl
    | i + 2 => rw [Array.getElem?_eq_none (by rw [hn]; simp)]; simp
  subst hvs
  have fin : ∀ (n : Int), n = Lib.indexByte (Lib.bytesOf ys) 0 → ∀ (e : Ending) (w' : World), e = .returned (.int .i64 n) ∧ w' = w → ∃ v r h' L', e = .returned v ∧ (r = int .i64 (Lib.indexByte (Lib.bytesOf ys) 0) ∧ h' = []) ∧ HRel ⟨w, S0, ([] : List AO).length, L⟩ h' L' w' ∧
      den w' (SS ⟨w, S0, ([] : List AO).length, L⟩ w' h' L') L' r v := by
    rintro n rfl e w' ⟨rfl, rfl⟩
    exact ⟨_, _, [], L, rfl, ⟨rfl, rfl⟩, hh, rfl⟩
  cases A with
  | none =>
    have hy0 : ys = [] := by
      cases ys with
      | nil => rfl
      | cons y r => obtain ⟨b, o, e, _⟩ := hc 0 (by simp); cases e
    subst hy0
    exact (YtflclafbieokiaaGreatDoor.Any.bytes_IndexByte_none Tryz.lays187 cap 0 w).mono fun e w' he => fin (-1) rfl e w' he
  | some A =>
    rcases ys with _ | ⟨y, r⟩
    · exact (Tryz.bytes_IndexByte_at A _ cap [] 0 w rfl (fun i hi => absurd hi (Nat.not_lt_zero _))).mono fun e w' he => fin _ rfl e w' he
    · refine (Tryz.bytes_IndexByte_at A _ cap (y :: r) 0 w rfl (fun i hi => ?_)).mono fun e w' he => fin _ rfl e w' he
      obtain ⟨b, o, e, _, h2⟩ := hc i hi
      cases e
      rw [Addr.add_mk]
      exact h2

theorem index0_iff {ys : List Int} (hy : ∀ y ∈ ys, 0 ≤ y ∧ y < 256) : 0 ≤ Lib.indexByte (Lib.bytesOf ys) 0 ↔ (0 : Int) ∈ ys := by
  have hget : ∀ i : Nat, (Lib.bytesOf ys)[i]? = some 0 ↔ ys[i]? = some 0 := fun i => by
    unfold Lib.bytesOf
    rw [List.getElem?_map]
    cases h : ys[i]? with
    | none => simp
    | some y =>
      have := hy y (List.mem_of_getElem? h)
      simp only [Option.map_some, Option.some.injEq]
      constructor
      · intro e
        have e2 : (UInt8.ofNat y.toNat).toNat = 0 := by rw [e]; rfl
        simp at e2
        omega
      · rintro rfl; rfl
  constructor
  · intro h
    obtain ⟨o, ho⟩ : ∃ o : Nat, Lib.indexByte (Lib.bytesOf ys) 0 = o := ⟨_, (Int.toNat_of_nonneg h).symm⟩
    exact List.mem_of_getElem? ((hget o).1 (Lib.indexByte_some ho).1)
  · intro h
    obtain ⟨i, hi, e⟩ := List.mem_iff_getElem.1 h
    have hge := Lib.indexByte_ge (Lib.bytesOf ys) 0
    by_cases h1 : Lib.indexByte (Lib.bytesOf ys) 0 = -1
    · exact absurd ((hget i).2 (by rw [List.getElem?_eq_getElem hi, e])) (Lib.indexByte_none h1 i)
    · omega

end

end Go.Proofs.YtflclafbieokiaaGreatDoor.Oc

/-
  The contracts of octal.Name and of the document's own Name.
-/
set_option linter.unusedVariables false
set_option linter.unusedSectionVars false
namespace Go.Proofs.YtflclafbieokiaaGreatDoor.Oc
open Go AL
section
variable [Globs]

def trimN (xs : List Int) : Nat → Nat
  | 0 => 0
  | k + 1 => if xs.getD k 0 = 0 then trimN xs k else k + 1
def nameN (xs : List Int) : Nat := trimN xs xs.length
def nameE (xs : List Int) : Int := if (0 : Int) ∈ xs.take (nameN xs) then 2 else 0
def nameR (xs : List Int) : ByteArray := if nameE xs = 0 then bytesOf (xs.take (nameN xs)) else ByteArray.empty
def NameR (xs : List Int) (r : AV) (h : List AO) : Prop := r = .tup 2 (pair (str (nameR xs)) (int .i64 (nameE xs))) ∧ h = []

theorem trimN_le (xs : List Int) : ∀ k, trimN xs k ≤ k
  | 0 => Nat.le_refl _
  | k + 1 => by
    unfold trimN
    split
    · exact Nat.le_succ_of_le (trimN_le xs k)
    · exact Nat.le_refl _
theorem trimN_gt {xs : List Int} {i : Nat} (hi : xs.getD i 0 ≠ 0) : ∀ k, i < k → i < trimN xs k
  | 0, h => absurd h (Nat.not_lt_zero _)
  | k + 1, h => by
    unfold trimN
    split
    · rename_i h0
      have : i ≠ k := fun e => hi (e ▸ h0)
      exact trimN_gt hi k (by omega)
    · exact h
theorem trimN_zero {xs : List Int} {n : Nat} : ∀ k, n ≤ k → (∀ j, n ≤ j → j < k → xs.getD j 0 = 0) → trimN xs k = trimN xs n
  | 0, h, _ => by rw [show n = 0 by omega]
  | k + 1, h, h0 => by
    rcases Nat.lt_or_ge k n with h1 | h1
    · rw [show n = k + 1 by omega]
    · have := h0 k h1 (Nat.lt_succ_self _)
      rw [trimN, if_pos this]
      exact trimN_zero k h1 fun j h2 h3 => h0 j h2 (by omega)
theorem trimN_self {xs : List Int} {n : Nat} (h : ∀ i, i < n → xs.getD i 0 ≠ 0) : trimN xs n = n := by
  cases n with
  | zero => rfl
  | succ n => rw [trimN, if_neg (h n (Nat.lt_succ_self _))]
theorem mem_take_iff {xs : List Int} {n : Nat} (hn : n ≤ xs.length) {c : Int} : c ∈ xs.take n ↔ ∃ i, i < n ∧ xs.getD i 0 = c := by
  constructor
  · intro h
    obtain ⟨i, hi, e⟩ := List.mem_iff_getElem.1 h
    simp at hi
    exact ⟨i, by omega, by rw [List.getD_eq_getElem?_getD, List.getElem?_eq_getElem (by omega)]; simpa using e⟩
  · rintro ⟨i, hi, e⟩
    refine List.mem_iff_getElem.2 ⟨i, by simp; omega, ?_⟩
    rw [List.getD_eq_getElem?_getD, List.getElem?_eq_getElem (by omega)] at e
    simpa using e
theorem name_ok {xs : List Int} {n : Nat} (hn : n ≤ xs.length) (h : ∀ i, i < n → xs.getD i 0 ≠ 0) (h0 : ∀ j, n ≤ j → j < xs.length → xs.getD j 0 = 0) : nameN xs = n ∧ nameE xs = 0 := by
  have h1 : nameN xs = n := by
    unfold nameN
    rw [trimN_zero _ hn h0, trimN_self h]
  refine ⟨h1, ?_⟩
  unfold nameE
  rw [h1, if_neg]
  intro hm
  obtain ⟨i, hi, e⟩ := (mem_take_iff hn).1 hm
  exact h i hi e
theorem name_bad {xs : List Int} {n i : Nat} (h0 : xs.getD n 0 = 0) (hni : n < i) (hi : i < xs.length) (h : xs.getD i 0 ≠ 0) : nameE xs = 2 := by
  have h1 : i < nameN xs := trimN_gt h _ hi
  unfold nameE
  rw [if_pos]
  exact (mem_take_iff (trimN_le _ _)).2 ⟨n, Nat.lt_trans hni h1, h0⟩

set_option maxHeartbeats 1000000 in
set_option maxRecDepth 10000 in
theorem trimByte_prog (xs : List Int) (hl : xs.length ≤ 281474976710656) : ACalls Tryz.prog 146 [.roI .u8 xs, int .u8 0] [] (fun r h => r = .roI .u8 (xs.take (nameN xs)) ∧ h = []) := by
  refine rcalls Tryz.func146 rfl (by decide) ?_
  refine ⟨List Int, fun ys => [(0, .roI .u8 ys), (1, int .u8 0)], fun _ => [], fun ys => ∃ k, k ≤ xs.length ∧ ys = xs.take k ∧ ys.length = k ∧ trimN xs k = nameN xs, fun ys => ys.length,
    ⟨xs, [], ⟨xs.length, Nat.le_refl _, by simp, rfl, rfl⟩, leh0, ⟨leRo rfl, leI rfl, trivial⟩⟩, ?_⟩
  rintro ys ⟨k, hk, hys, hlen, htr⟩
  have fin : k = trimN xs k → ys = xs.take (nameN xs) := fun e => by rw [hys, ← htr, ← e]
  have hlast : ∀ j, j < k → ys.getD j 0 = xs.getD j 0 := fun j hj => by
    rw [hys, List.getD_eq_getElem?_getD, List.getElem?_take, if_pos hj, List.getD_eq_getElem?_getD]
  refine ⟨fun h1 => ?_, fun h1 => ?_⟩
  · have f1 := yes h1
    have e1 : IntKind.i64.wrap ((ys.length : Int) - 1) = ((k - 1 : Nat) : Int) := by rw [w64 (by omega) (by omega)]; omega
    refine ⟨⟨by rw [e1]; omega, by rw [e1]; omega⟩, ?_⟩
    refine ⟨fun h2 => ?_, fun h2 => ?_⟩
    · have f2 := yes h2
      rw [e1] at f2
      refine ⟨⟨by rw [e1]; omega, by rw [e1]; omega⟩, ?_⟩
      have e2 : (ys.take ((k - 1 : Nat) : Int).toNat).drop 0 = xs.take (k - 1) := by
        rw [hys, List.drop_zero, List.take_take, Int.toNat_natCast, Nat.min_eq_left (by omega)]
      refine ⟨trivial, xs.take (k - 1), [], ⟨k - 1, by omega, rfl, by simp; omega, ?_⟩, by simp; omega, leh0, ⟨leRo (by rw [e1]; exact e2), leI rfl, trivial⟩⟩
      rw [← htr]
      obtain ⟨j, rfl⟩ : ∃ j, k = j + 1 := ⟨k - 1, by omega⟩
      have f3 : xs.getD j 0 = 0 := by rw [← hlast j (by omega)]; simpa using f2
      rw [trimN, if_pos f3]
      rfl
    · have f2 := no h2
      rw [e1] at f2
      refine ⟨[], [], _, leh0, leRo (fin ?_), rfl, rfl⟩
      obtain ⟨j, rfl⟩ : ∃ j, k = j + 1 := ⟨k - 1, by omega⟩
      have f3 : ¬ xs.getD j 0 = 0 := by rw [← hlast j (by omega)]; simpa using f2
      rw [trimN, if_neg f3]
  · have f1 := no h1
    refine ⟨[], [], _, leh0, leRo (fin ?_), rfl, rfl⟩
    obtain rfl : k = 0 := by omega
    rfl

set_option maxHeartbeats 1000000 in
set_option maxRecDepth 10000 in
theorem trim_prog (xs : List Int) (hl : xs.length ≤ 281474976710656) : ACalls Tryz.prog 152 [.roI .u8 xs, str ⟨#[0]⟩] [] (fun r h => r = .roI .u8 (xs.take (nameN xs)) ∧ h = []) := by
  refine rcalls Tryz.func152 rfl (by decide) ?_
  have d1 : decide ((⟨#[0]⟩ : ByteArray) = ByteArray.empty) = false := by decide
  refine ⟨fun h1 => ?_, fun h1 => ?_⟩
  · have f1 := yes h1
    have f2 : xs = [] := List.length_eq_zero_iff.1 (by omega)
    exact ⟨[], [], _, leh0, leRo (by subst f2; rfl), rfl, rfl⟩
  · refine ⟨fun h2 => absurd (yes h2) (by decide), fun _ => ?_⟩
    refine ⟨fun _ => ?_, fun h3 => absurd (no h3) (by decide)⟩
    refine ⟨⟨by decide, by decide⟩, ?_⟩
    refine ⟨fun _ => ?_, fun h3 => absurd (no h3) (by decide)⟩
    refine ⟨⟨by decide, by decide⟩, ?_⟩
    refine ⟨[], _, trimByte_prog xs hl, ?_⟩
    rintro r h ⟨rfl, rfl⟩
    refine ⟨.inl rfl, ?_⟩
    exact ⟨[], [], _, leh0, leRo rfl, rfl, rfl⟩

set_option maxHeartbeats 1000000 in
set_option maxRecDepth 10000 in
theorem name_prog (xs : List Int) (hx : ∀ x ∈ xs, 0 ≤ x ∧ x < 256) (hl : xs.length ≤ 281474976710656) : ACalls Tryz.prog 108 [.roI .u8 xs] [] (NameR xs) := by
  refine rcalls Tryz.func108 rfl (by decide) ?_
  have ht := trim_prog xs hl
  have hr : nameE xs = 0 → nameR xs = bytesOf (xs.take (nameN xs)) := fun h => by rw [nameR, if_pos h]
  have hr2 : nameE xs ≠ 0 → nameR xs = ByteArray.empty := fun h => by rw [nameR, if_neg h]
  have he : nameE xs = if (0 : Int) ∈ xs.take (nameN xs) then 2 else 0 := rfl
  have hys : ∀ x ∈ xs.take (nameN xs), 0 ≤ x ∧ x < 256 := fun x hm => hx x (List.mem_of_mem_take hm)
  unfold NameR
  generalize nameR xs = R at *
  generalize nameE xs = E at *
  generalize xs.take (nameN xs) = ys at *
  refine ⟨[], _, ht, ?_⟩
  rintro r h ⟨rfl, rfl⟩
  refine ⟨.inl rfl, ?_⟩
  refine ⟨[], _, indexByte_prog ys hys, ?_⟩
  rintro r h ⟨rfl, rfl⟩
  refine ⟨.inl rfl, ?_⟩
  refine ⟨fun h1 => ?_, fun h1 => ?_⟩
  · have f1 : (0 : Int) ∈ ys := (index0_iff hys).1 (yes h1)
    rw [if_pos f1] at he
    exact ⟨[], [], _, leh0, le_pair (leS (hr2 (by omega)).symm) (leI he.symm), rfl, rfl⟩
  · have f1 : ¬ (0 : Int) ∈ ys := fun h2 => no h1 ((index0_iff hys).2 h2)
    rw [if_neg f1] at he
    exact ⟨[], [], _, leh0, le_pair (leS (hr he).symm) (leI he.symm), rfl, rfl⟩

set_option maxHeartbeats 1000000 in
set_option maxRecDepth 10000 in
theorem name_ref (xs : List Int) (hx : ∀ x ∈ xs, 0 ≤ x ∧ x < 256) (hl : xs.length ≤ 281474976710656) : ACalls Tryz.prog 112 [.roI .u8 xs] [] (NameR xs) := by
  refine rcalls Tryz.func112 rfl (by decide) ?_
  have hr : nameE xs = 0 → nameR xs = bytesOf (xs.take (nameN xs)) := fun h => by rw [nameR, if_pos h]
  have hr2 : nameE xs ≠ 0 → nameR xs = ByteArray.empty := fun h => by rw [nameR, if_neg h]
  refine ⟨Nat, fun k => [(0, .roI .u8 xs), (4, int .i64 k)], fun _ => [], fun k => k ≤ xs.length ∧ ∀ i, i < k → xs.getD i 0 ≠ 0, fun k => xs.length - k,
    ⟨0, [], ⟨Nat.zero_le _, fun i hi => absurd hi (Nat.not_lt_zero _)⟩, leh0, ⟨leRo rfl, leI rfl, trivial⟩⟩, ?_⟩
  rintro k ⟨hk, hnz⟩
  refine ⟨fun h1 => ⟨⟨by omega, by have := yes h1; omega⟩, fun h2 => ?_, fun h2 => ?_⟩, fun h1 => ?_⟩
  · have f1 := yes h1
    have f2 : ¬ xs.getD k 0 = 0 := by simpa using yes h2
    have e1 : IntKind.i64.wrap ((k : Int) + 1) = ((k + 1 : Nat) : Int) := by rw [w64 (by omega) (by omega)]; omega
    refine ⟨trivial, k + 1, [], ⟨by omega, fun i hi => ?_⟩, by show xs.length - (k + 1) < xs.length - k; omega, leh0, ⟨leRo rfl, leI e1, trivial⟩⟩
    rcases Nat.lt_or_ge i k with h3 | h3
    · exact hnz i h3
    · rw [show i = k by omega]; exact f2
  all_goals
    have hz : k < xs.length → xs.getD k 0 = 0 := by
      first
        | (intro _; have f2 := no h2; simpa using f2)
        | (intro hlt; have f1 := no h1; omega)
    refine ⟨Nat, fun i => [(0, .roI .u8 xs), (4, int .i64 k), (5, int .i64 i)], fun _ => [], fun i => k ≤ i ∧ i ≤ xs.length ∧ ∀ j, k ≤ j → j < i → xs.getD j 0 = 0, fun i => xs.length - i,
      ⟨k, [], ⟨Nat.le_refl _, hk, fun j h1 h2 => absurd h1 (by omega)⟩, leh0, ⟨leRo rfl, leI rfl, leI rfl, trivial⟩⟩, ?_⟩
    rintro i ⟨hki, hi, h0⟩
    refine ⟨fun h3 => ⟨⟨by omega, by have := yes h3; omega⟩, fun h4 => ?_, fun h4 => ?_⟩, fun h3 => ?_⟩
    · have f3 := yes h3
      have f4 : ¬ xs.getD i 0 = 0 := by simpa using yes h4
      have hne : i ≠ k := fun e => f4 (e ▸ hz (by omega))
      have hE : nameE xs = 2 := name_bad (hz (by omega)) (by omega) (by omega) f4
      exact ⟨[], [], _, leh0, le_pair (leS (hr2 (by omega)).symm) (leI hE.symm), rfl, rfl⟩
    · have f3 := yes h3
      have f4 : xs.getD i 0 = 0 := by simpa using no h4
      have e1 : IntKind.i64.wrap ((i : Int) + 1) = ((i + 1 : Nat) : Int) := by rw [w64 (by omega) (by omega)]; omega
      refine ⟨trivial, i + 1, [], ⟨by omega, by omega, fun j g1 g2 => ?_⟩, by show xs.length - (i + 1) < xs.length - i; omega, leh0, ⟨leRo rfl, leI rfl, leI e1, trivial⟩⟩
      rcases Nat.lt_or_ge j i with h5 | h5
      · exact h0 j g1 h5
      · rw [show j = i by omega]; exact f4
    · have f3 := no h3
      obtain rfl : i = xs.length := by omega
      obtain ⟨e1, e2⟩ := name_ok hk hnz h0
      refine ⟨⟨by omega, by omega⟩, [], [], _, leh0, le_pair (leS ?_) (leI e2.symm), rfl, rfl⟩
      rw [hr e2, e1, List.drop_zero, Int.toNat_natCast]

end

end Go.Proofs.YtflclafbieokiaaGreatDoor.Oc

/-
  The contracts of the document's own Text and Check.
-/
set_option linter.unusedVariables false
set_option linter.unusedSectionVars false
namespace Go.Proofs.YtflclafbieokiaaGreatDoor.Oc
open Go AL
section
variable [Globs]

theorem has0_iff (s : ByteArray) : has0 s ↔ ∃ i, i < s.size ∧ (intsOf s).getD i 0 = 0 := by
  have hlen : s.data.toList.length = s.size := rfl
  have hget : ∀ i : Nat, i < s.size → (s.data.toList[i]? = some 0 ↔ (intsOf s).getD i 0 = 0) := fun i hi => by
    unfold intsOf
    rw [List.getD_eq_getElem?_getD, List.getElem?_map, List.getElem?_eq_getElem (by omega)]
    simp only [Option.map_some, Option.getD_some, Option.some.injEq]
    constructor
    · intro e; rw [e]; rfl
    · intro e
      have : (s.data.toList[i]'(by omega)).toNat = 0 := by omega
      exact UInt8.toNat_inj.1 (by simpa using this)
  unfold has0
  constructor
  · intro h
    obtain ⟨o, ho⟩ : ∃ o : Nat, Lib.indexByte s.data.toList 0 = o := ⟨_, (Int.toNat_of_nonneg h).symm⟩
    have h1 := (Lib.indexByte_some ho).1
    have h2 : o < s.size := by have := (List.getElem?_eq_some_iff.1 h1).1; omega
    exact ⟨o, h2, (hget o h2).1 h1⟩
  · rintro ⟨i, hi, e⟩
    have hge := Lib.indexByte_ge s.data.toList 0
    by_cases h1 : Lib.indexByte s.data.toList 0 = -1
    · exact absurd ((hget i hi).2 e) (Lib.indexByte_none h1 i)
    · omega

set_option maxHeartbeats 1000000 in
set_option maxRecDepth 10000 in
theorem text_ref (s : ByteArray) (w : Int) (hs : s.size ≤ 9223372036854775806) : ACalls Tryz.prog 126 [str s, int .i64 w] [] (TextR s w) := by
  refine rcalls Tryz.func126 rfl (by decide) ?_
  have bad : ∀ h e, e ≠ 0 → textE s w = e → ∃ l h1 b, LeH 0 h l h1 ∧ LeV h l (.tup 2 fun i => [.raw (.slice none 0 0), int .i64 e].getD i .top) b ∧ TextR s w b h1 := fun h e he hv =>
    ⟨[], [], _, lehN _, le_pair (.nilI .u8) (leI hv.symm), by unfold TextR textR; rw [hv, if_neg he]; exact ⟨rfl, rfl⟩⟩
  refine ⟨fun h => bad _ _ (by decide) ?_, fun h => ⟨fun h1 => bad _ _ (by decide) ?_, fun h1 => ?_⟩⟩
  · have := yes h; simp [textE, this]
  · have := yes h1; simp [textE]; omega
  have hok : ¬ (w < 1 ∨ w > 255) := by have := no h; have := no h1; omega
  have hil := intsOf_length s
  refine ⟨Nat, fun k => [(0, str s), (1, int .i64 w), (6, int .i64 k)], fun _ => [], fun k => k ≤ s.size ∧ ∀ i, i < k → (intsOf s).getD i 0 ≠ 0, fun k => s.size - k,
    ⟨0, [], ⟨Nat.zero_le _, fun i hi => absurd hi (Nat.not_lt_zero _)⟩, leh0, ⟨leS rfl, leI rfl, leI rfl, trivial⟩⟩, ?_⟩
  rintro k ⟨hk, hnz⟩
  refine ⟨fun h2 => ⟨⟨by omega, by have := yes h2; omega⟩, fun h3 => bad _ _ (by decide) ?_, fun h3 => ?_⟩, fun h2 => ?_⟩
  · have f2 := yes h2
    have f3 : (intsOf s).getD k 0 = 0 := by simpa using yes h3
    have h4 : has0 s := (has0_iff s).2 ⟨k, by omega, f3⟩
    simp only [textE, hok, if_false, h4, if_true]
  · have f2 := yes h2
    have f3 : ¬ (intsOf s).getD k 0 = 0 := by simpa using no h3
    have e1 : IntKind.i64.wrap ((k : Int) + 1) = ((k + 1 : Nat) : Int) := by rw [w64 (by omega) (by omega)]; omega
    refine ⟨trivial, k + 1, [], ⟨by omega, fun i hi => ?_⟩, by show s.size - (k + 1) < s.size - k; omega, leh0, ⟨leS rfl, leI rfl, leI e1, trivial⟩⟩
    rcases Nat.lt_or_ge i k with h5 | h5
    · exact hnz i h5
    · rw [show i = k by omega]; exact f3
  have f2 := no h2
  obtain rfl : k = s.size := by omega
  have h4 : ¬ has0 s := fun h4 => by
    obtain ⟨i, hi, e⟩ := (has0_iff s).1 h4
    exact hnz i hi e
  refine ⟨fun h3 => bad _ _ (by decide) ?_, fun h3 => ?_⟩
  · have := yes h3
    simp only [textE, hok, if_false, h4]
    rw [if_pos (by omega)]
  have h5 := no h3
  have hE : textE s w = 0 := by
    simp only [textE, hok, if_false, h4]
    rw [if_neg (by omega)]
  have hR : textR s w = intsOf s ++ List.replicate (w.toNat - s.size) 0 := by rw [textR, if_pos hE]
  unfold TextR
  generalize textE s w = E at *
  generalize textR s w = R at *
  refine ⟨Nat, fun j => [(1, int .i64 w), (7, .own 0 0 (s.size + j) 1)], fun j => [.ints .u8 (intsOf s ++ List.replicate j 0)], fun j => s.size + j ≤ w.toNat, fun j => w.toNat - j,
    ⟨0, [0], by omega, leh1 rfl (leOint (by simp)), ⟨leI rfl, leOwn rfl rfl rfl, trivial⟩⟩, fun j hj => ?_⟩
  have hj : s.size + j ≤ w.toNat := hj
  have hl : (intsOf s ++ List.replicate j (0 : Int)).length = s.size + j := by simp; omega
  refine ⟨fun h6 => ?_, fun h6 => ?_⟩
  · have f6 : ((s.size + j : Nat) : Int) < w := yes h6
    refine ⟨hl.symm, by decide, by rw [hl]; show (s.size + j + 1) * 1 ≤ _; omega, ?_⟩
    refine ⟨trivial, j + 1, [2], by show s.size + (j + 1) ≤ w.toNat; omega, by show w.toNat - (j + 1) < w.toNat - j; omega, leh1 rfl (leOint ?_), ⟨leI rfl, leOwn rfl rfl ?_, trivial⟩⟩
    · rw [List.replicate_succ', ← List.append_assoc]; rfl
    · show (intsOf s ++ List.replicate j (0 : Int)).length + 1 = _; rw [hl]; omega
  · have f6 : ¬ ((s.size + j : Nat) : Int) < w := no h6
    refine ⟨[], [], _, lehN _, le_pair (.giveI R rfl (by simp) (by rw [hl]; omega) ?_) (leI hE.symm), rfl, rfl⟩
    rw [hR, List.drop_zero, List.take_of_length_le (by omega), show j = w.toNat - s.size by omega]

set_option maxHeartbeats 1000000 in
set_option maxRecDepth 10000 in
theorem check_ref (xs : List Int) (hx : ∀ x ∈ xs, 0 ≤ x ∧ x < 256) (hl : xs.length ≤ 281474976710656) : ACalls Tryz.prog 100 [.roI .u8 xs] [] (fun r h => r = int .i64 (chk xs xs.length) ∧ h = []) := by
  refine rcalls Tryz.func100 rfl (by decide) ?_
  refine ⟨Nat, fun k => [(0, .roI .u8 xs), (4, int .i64 k), (3, int .i64 (chk xs k))], fun _ => [], fun k => k ≤ xs.length, fun k => xs.length - k,
    ⟨0, [], Nat.zero_le _, leh0, ⟨leRo rfl, leI rfl, leI rfl, trivial⟩⟩, fun k hk => ?_⟩
  have hk : k ≤ xs.length := hk
  have hr := chk_range hx k
  refine ⟨fun h => ?_, fun h => ?_⟩
  · have hlt : k < xs.length := by have := yes h; omega
    have hb := byteAt hx k
    have e1 : IntKind.i64.wrap ((k : Int) + 1) = ((k + 1 : Nat) : Int) := by rw [w64 (by omega) (by omega)]; omega
    have plain : ¬ (148 ≤ k ∧ k < 156) → IntKind.i64.wrap (chk xs k + IntKind.i64.wrap (xs.getD k 0)) = chk xs (k + 1) := fun hn => by
      have : chk xs (k + 1) = chk xs k + xs.getD k 0 := by simp only [chk, chkAt]; rw [if_neg hn]
      rw [this, w64 (n := xs.getD k 0) (by omega) (by omega), w64 (by omega) (by omega)]
    refine ⟨fun h1 => ⟨fun h2 => ?_, fun h2 => ?_⟩, fun h1 => ?_⟩
    · have f1 := yes h1
      have f2 := yes h2
      refine ⟨trivial, k + 1, [], hlt, by show xs.length - (k + 1) < xs.length - k; omega, leh0, ⟨leRo rfl, leI e1, leI ?_, trivial⟩⟩
      have : chk xs (k + 1) = chk xs k + 32 := by simp only [chk, chkAt]; rw [if_pos (by omega)]
      rw [this, w64 (by omega) (by omega)]
    · have f2 := no h2
      refine ⟨⟨by omega, by omega⟩, ?_⟩
      exact ⟨trivial, k + 1, [], hlt, by show xs.length - (k + 1) < xs.length - k; omega, leh0, ⟨leRo rfl, leI e1, leI (plain (by omega)), trivial⟩⟩
    · have f1 := no h1
      refine ⟨⟨by omega, by omega⟩, ?_⟩
      exact ⟨trivial, k + 1, [], hlt, by show xs.length - (k + 1) < xs.length - k; omega, leh0, ⟨leRo rfl, leI e1, leI (plain (by omega)), trivial⟩⟩
  · have : k = xs.length := by have := no h; omega
    subst this
    exact ⟨[], [], _, leh0, leI rfl, rfl, rfl⟩

end

end Go.Proofs.YtflclafbieokiaaGreatDoor.Oc

/-
  The contracts of octal.Get and of its reference.
-/
set_option linter.unusedVariables false
set_option linter.unusedSectionVars false
namespace Go.Proofs.YtflclafbieokiaaGreatDoor.Oc
open Go AL
section
variable [Globs]

def GetR (xs : List Int) (r : AV) (h : List AO) : Prop := r = .tup 2 (pair (int .i64 (getV xs)) (int .i64 (getE xs))) ∧ h = []

theorem sub8 {c : Int} (h0 : 48 ≤ c) (h1 : c < 56) : IntKind.u8.wrap (c - 48) = c - 48 := w8 (by omega) (by omega)

set_option maxHeartbeats 1000000 in
set_option maxRecDepth 10000 in
theorem get_prog (xs : List Int) (hx : ∀ x ∈ xs, 0 ≤ x ∧ x < 256) (hl : xs.length ≤ 9223372036854775807) : ACalls Tryz.prog 109 [.roI .u8 xs] [] (GetR xs) := by
  refine rcalls Tryz.func109 rfl (by decide) ?_
  have bad : ∀ h, ¬ valid xs → ∃ l h1 b, LeH 0 h l h1 ∧ LeV h l (.tup 2 fun i => [int .i64 0, int .i64 2].getD i .top) b ∧ GetR xs b h1 := fun h hv =>
    ⟨[], [], _, lehN _, le_pair (leI (get_no hv).1.symm) (leI (get_no hv).2.symm), rfl, rfl⟩
  refine ⟨fun h => bad _ fun hv => ?_, fun h => ⟨fun h1 => bad _ fun hv => ?_, fun h1 => ?_⟩⟩
  · have := yes h; have := hv.1; omega
  · have := yes h1; have := hv.2.1; omega
  have hl2 := no h
  have hl12 := no h1
  have e1 : IntKind.i64.wrap ((xs.length : Int) - 1) = (xs.length : Int) - 1 := w64 (by omega) (by omega)
  have e2 : ((xs.length : Int) - 1).toNat = xs.length - 1 := by omega
  refine ⟨⟨by rw [e1]; omega, by rw [e1]; omega⟩, ?_⟩
  refine ⟨fun h2 => bad _ fun hv => ?_, fun h2 => ?_⟩
  · have := yes h2; rw [e1, e2] at this; exact this hv.2.2.1
  have hlast : xs.getD (xs.length - 1) 0 = 0 := by
    have := no h2; rw [e1, e2] at this; simpa using this
  refine ⟨⟨by rw [e1]; omega, by rw [e1]; omega⟩, ?_⟩
  have hlen : ((xs.take (xs.length - 1)).drop 0).length = xs.length - 1 := by simp
  refine ⟨Nat, fun k => [(4, int .i64 (acc xs k)), (28, .roI .u8 (xs.take (xs.length - 1))), (29, int .i64 ((xs.length - 1 : Nat) : Int)), (30, int .i64 k)], fun _ => [], fun k => k ≤ xs.length - 1 ∧ ∀ i, i < k → figure (xs.getD i 0), fun k => xs.length - 1 - k,
    ⟨0, [], ⟨by omega, fun i hi => by omega⟩, leh0, ⟨leI rfl, leRo (by rw [e1, e2]; rfl), leI ?_, leI rfl, trivial⟩⟩, fun k hk => ?_⟩
  · rw [e1, e2, hlen]
  obtain ⟨hk, hfig⟩ := hk
  refine ⟨fun h3 => ?_, fun h3 => ?_⟩
  · have hlt : k < xs.length - 1 := by have := yes h3; omega
    have hg : (xs.take (xs.length - 1)).getD k 0 = xs.getD k 0 := by simp [List.getD_eq_getElem?_getD, List.getElem?_take_of_lt hlt]
    refine ⟨⟨by omega, by simp; omega⟩, ?_⟩
    have hc : (xs.take (xs.length - 1)).getD (k : Int).toNat 0 = xs.getD k 0 := hg
    refine ⟨fun h4 => bad _ fun hv => ?_, fun h4 => ⟨fun h5 => bad _ fun hv => ?_, fun h5 => ?_⟩⟩
    · have := yes h4; rw [hc] at this; have := (hv.2.2.2 k hlt).1; omega
    · have := yes h5; rw [hc] at this; have := (hv.2.2.2 k hlt).2; omega
    have f1 := no h4
    have f2 := no h5
    rw [hc] at f1 f2
    have hr := acc_range hfig
    have hp := pow8_mono (show k ≤ 11 by omega)
    refine ⟨trivial, k + 1, [], ⟨by omega, fun i hi => ?_⟩, by show xs.length - 1 - (k + 1) < xs.length - 1 - k; omega, leh0, ⟨leI ?_, leRo rfl, leI rfl, leI ?_, trivial⟩⟩
    · by_cases e : i < k
      · exact hfig i e
      · obtain rfl : i = k := by omega
        exact ⟨by omega, by omega⟩
    · rw [hc, sub8 (by omega) (by omega), w64 (n := 8 * acc xs k) (by omega) (by omega), w64 (n := xs.getD k 0 - 48) (by omega) (by omega), w64 (by omega) (by omega)]
      rfl
    · rw [w64 (by omega) (by omega)]; omega
  · have hk' : k = xs.length - 1 := by have := no h3; omega
    subst hk'
    have hv : valid xs := ⟨by omega, by omega, hlast, hfig⟩
    exact ⟨[], [], _, lehN _, le_pair (leI (get_ok hv).1.symm) (leI (get_ok hv).2.symm), rfl, rfl⟩

end

end Go.Proofs.YtflclafbieokiaaGreatDoor.Oc

/-
  The laws of octal fields: what they come to.
-/
set_option linter.unusedVariables false
set_option linter.unusedSectionVars false
namespace Go.Proofs.YtflclafbieokiaaGreatDoor.Oc
open Go AL
section
variable [Globs]

theorem ab : textR ⟨#[97, 98]⟩ 3 = [97, 98, 0] ∧ textE ⟨#[97, 98]⟩ 3 = 0 := by decide

end

end Go.Proofs.YtflclafbieokiaaGreatDoor.Oc

/-
  The law OctalBack, walked.
-/
set_option linter.unusedVariables false
set_option linter.unusedSectionVars false
namespace Go.Proofs.YtflclafbieokiaaGreatDoor.Oc
open Go AL
section
variable [Globs]

theorem getD_append_l {xs ys : List Int} {i : Nat} (h : i < xs.length) : (xs ++ ys).getD i 0 = xs.getD i 0 := by
  rw [List.getD_eq_getElem?_getD, List.getElem?_append_left h, List.getD_eq_getElem?_getD]
theorem getD_append_r {xs ys : List Int} {i : Nat} (h : xs.length ≤ i) : (xs ++ ys).getD i 0 = ys.getD (i - xs.length) 0 := by
  rw [List.getD_eq_getElem?_getD, List.getElem?_append_right h, List.getD_eq_getElem?_getD]
theorem getD_zeros (m i : Nat) : (List.replicate m (0 : Int)).getD i 0 = 0 := by
  rw [List.getD_eq_getElem?_getD]
  cases h : (List.replicate m (0 : Int))[i]? with
  | none => rfl
  | some v =>
    have := List.mem_of_getElem? h
    simpa using (List.mem_replicate.1 this).2
theorem textE_ok {s : ByteArray} {w : Int} (h : textE s w = 0) : ¬ (w < 1 ∨ w > 255) ∧ ¬ has0 s ∧ ¬ (s.size : Int) > w := by
  unfold textE at h
  split at h
  · omega
  · split at h
    · omega
    · split at h
      · omega
      · exact ⟨by assumption, by assumption, by assumption⟩
theorem textR_ok {s : ByteArray} {w : Int} (h : textE s w = 0) : textR s w = intsOf s ++ List.replicate (w.toNat - s.size) 0 := by rw [textR, if_pos h]
theorem textR_range (s : ByteArray) (w : Int) : ∀ x ∈ textR s w, 0 ≤ x ∧ x < 256 := by
  intro x hx
  unfold textR at hx
  split at hx
  · rcases List.mem_append.1 hx with h | h
    · exact intsOf_range s x h
    · have := (List.mem_replicate.1 h).2; omega
  · simp at hx
theorem text_name {s : ByteArray} {w : Int} (h : textE s w = 0) : nameE (textR s w) = 0 ∧ nameR (textR s w) = s ∧ ((textR s w).length : Int) = w := by
  obtain ⟨h1, h2, h3⟩ := textE_ok h
  have e := textR_ok h
  have hl := intsOf_length s
  have hlen : (textR s w).length = w.toNat := by rw [e]; simp; omega
  have hn : ∀ i, i < s.size → (textR s w).getD i 0 ≠ 0 := fun i hi h0 => h2 ((has0_iff s).2 ⟨i, hi, by rw [e, getD_append_l (by omega)] at h0; exact h0⟩)
  have hz : ∀ j, s.size ≤ j → j < (textR s w).length → (textR s w).getD j 0 = 0 := fun j hj _ => by rw [e, getD_append_r (by omega), getD_zeros]
  obtain ⟨g1, g2⟩ := name_ok (by omega) hn hz
  refine ⟨g2, ?_, by omega⟩
  rw [nameR, if_pos g2, g1, e, List.take_left' hl, bytesOf_intsOf]
end

end Go.Proofs.YtflclafbieokiaaGreatDoor.Oc

/-
  Headers of archives: what they are, and what is read out of one. No program in sight.
-/
set_option linter.unusedVariables false
namespace Go.Proofs.YtflclafbieokiaaGreatDoor.Hd
open Go AL Spl Oc Pa

theorem q_field {n w : Int} (h : putE n w = 0) : ((putR n w).length : Int) = w ∧ valid (putR n w) ∧ acc (putR n w) ((putR n w).length - 1) = n := by
  letI : Globs := ⟨[]⟩
  exact put_field h
theorem q_ok {n w : Int} (h : ¬ (w < 2 ∨ w > 12)) (hf : fits n w) : putE n w = 0 ∧ putR n w = digs n (w - 1).toNat ++ [0] := by
  letI : Globs := ⟨[]⟩
  exact putE_ok h hf
theorem q_name {s : ByteArray} {w : Int} (h : textE s w = 0) : nameE (textR s w) = 0 ∧ nameR (textR s w) = s ∧ ((textR s w).length : Int) = w := by
  letI : Globs := ⟨[]⟩
  exact text_name h
theorem q_text (s : ByteArray) (w : Int) : ∀ x ∈ textR s w, 0 ≤ x ∧ x < 256 := by
  letI : Globs := ⟨[]⟩
  exact textR_range s w
theorem q_range (n w : Int) : ∀ x ∈ putR n w, 0 ≤ x ∧ x < 256 := by
  letI : Globs := ⟨[]⟩
  exact putR_range n w
theorem q_l {xs ys : List Int} {i : Nat} (h : i < xs.length) : (xs ++ ys).getD i 0 = xs.getD i 0 := by
  letI : Globs := ⟨[]⟩
  exact getD_append_l h
theorem q_r {xs ys : List Int} {i : Nat} (h : xs.length ≤ i) : (xs ++ ys).getD i 0 = ys.getD (i - xs.length) 0 := by
  letI : Globs := ⟨[]⟩
  exact getD_append_r h

/-! Paths and their two fields. -/
def joinT (p n : ByteArray) : ByteArray := if p = ByteArray.empty then n else p ++ ⟨#[47]⟩ ++ n
def okJoin (p n : ByteArray) : Prop := okSplit (joinT p n) ∧ preS (joinT p n) = p ∧ nameS (joinT p n) = n
instance (p n : ByteArray) : Decidable (okJoin p n) := by unfold okJoin; infer_instance
def joinS (p n : ByteArray) : ByteArray := if okJoin p n then joinT p n else ByteArray.empty
def joinE (p n : ByteArray) : Int := if okJoin p n then 0 else 9

theorem pre_short {s : ByteArray} (h : s.size ≤ 100) : preS s = ByteArray.empty := if_neg fun x => x.2 h
theorem name_short {s : ByteArray} (g : okSplit s) (h : s.size ≤ 100) : nameS s = s := by unfold nameS; rw [if_pos g, if_pos h]
theorem pre_long {s : ByteArray} (g : okSplit s) (h : ¬ s.size ≤ 100) : preS s = s.extract 0 (cutS s) := if_pos ⟨g, h⟩
theorem name_long {s : ByteArray} (g : okSplit s) (h : ¬ s.size ≤ 100) : nameS s = s.extract (cutS s + 1) s.size := by unfold nameS; rw [if_pos g, if_neg h]
theorem cut_spec {s : ByteArray} (g : okSplit s) (h : ¬ s.size ≤ 100) : cutS s < s.size ∧ cutS s ≤ 155 ∧ s.size - 101 ≤ cutS s ∧ s.data.toList[cutS s]? = some 47 ∧ 0 < cutS s := by
  obtain ⟨g1, g2, g3⟩ := g
  obtain ⟨g4, g5⟩ := g3.resolve_left h
  have hl : s.data.toList.length = s.size := rfl
  have hc : s.data.toList[cutS s]? = some 47 := by
    have hlt : firstC 47 (s.data.toList.drop (s.size - 101)) < (s.data.toList.drop (s.size - 101)).length := by
      have : cutS s = (s.size - 101) + firstC 47 (s.data.toList.drop (s.size - 101)) := rfl
      rw [List.length_drop, hl]; omega
    have := firstC_at hlt
    rw [List.getElem?_drop] at this
    exact this
  refine ⟨g4, g5, Nat.le_add_right _ _, hc, ?_⟩
  rcases Nat.eq_zero_or_pos (cutS s) with h0 | h0
  · rw [h0] at hc
    have : ∃ r, s.data.toList = 47 :: r := by
      cases hd : s.data.toList with
      | nil => rw [hd] at hc; cases hc
      | cons x r => rw [hd] at hc; cases hc; exact ⟨r, rfl⟩
    obtain ⟨r, hr⟩ := this
    have := g1 [] (by rw [hr]; unfold pieces; rw [if_pos rfl]; exact List.mem_cons_self ..)
    exact absurd this.1 (by decide)
  · exact h0
theorem ba_empty {s : ByteArray} (h : s = ByteArray.empty) : s.size = 0 := by rw [h]; rfl
theorem join_split {s : ByteArray} (g : okSplit s) : joinT (preS s) (nameS s) = s := by
  unfold joinT
  by_cases h : s.size ≤ 100
  · rw [if_pos (pre_short h), name_short g h]
  · obtain ⟨c1, c2, c3, c4, c5⟩ := cut_spec g h
    have hl : s.data.toList.length = s.size := rfl
    rw [pre_long g h, name_long g h, if_neg fun e => by
      have := ba_empty e
      rw [ByteArray.size_extract] at this
      omega]
    refine bA_ext ?_
    have e1 : (s.extract 0 (cutS s) ++ ⟨#[47]⟩ ++ s.extract (cutS s + 1) s.size).data.toList = (s.extract 0 (cutS s)).data.toList ++ [47] ++ (s.extract (cutS s + 1) s.size).data.toList := by simp
    rw [e1, ext_list, ext_list, List.drop_zero, List.take_of_length_le (Nat.le_of_eq hl)]
    have hlt : cutS s < s.data.toList.length := by omega
    have e2 : s.data.toList = s.data.toList.take (cutS s) ++ s.data.toList[cutS s] :: s.data.toList.drop (cutS s + 1) := by
      rw [← List.drop_eq_getElem_cons hlt, List.take_append_drop]
    have e3 : s.data.toList[cutS s] = 47 := by
      rw [List.getElem?_eq_getElem hlt] at c4; exact Option.some.inj c4
    rw [e3] at e2
    rw [List.append_assoc]
    exact e2.symm
theorem okJoin_split {s : ByteArray} (g : okSplit s) : okJoin (preS s) (nameS s) ∧ joinS (preS s) (nameS s) = s ∧ joinE (preS s) (nameS s) = 0 := by
  have h : okJoin (preS s) (nameS s) := by unfold okJoin; rw [join_split g]; exact ⟨g, rfl, rfl⟩
  exact ⟨h, by unfold joinS; rw [if_pos h, join_split g], if_pos h⟩
theorem pre_size {s : ByteArray} (g : okSplit s) : (preS s).size ≤ 155 ∧ (nameS s).size ≤ 100 := by
  by_cases h : s.size ≤ 100
  · rw [pre_short h, name_short g h]
    exact ⟨Nat.zero_le _, h⟩
  · obtain ⟨c1, c2, c3, c4, c5⟩ := cut_spec g h
    rw [pre_long g h, name_long g h, ByteArray.size_extract, ByteArray.size_extract]
    omega
theorem parts_no0 {s : ByteArray} (h : okParts s) : ∀ c ∈ s.data.toList, c ≠ 0 := by
  intro c hc
  letI : Globs := ⟨[]⟩
  rw [← join_pieces 47 s.data.toList] at hc
  have mem : ∀ {ps : List (List UInt8)}, c ∈ joinC 47 ps → c = 47 ∨ ∃ p ∈ ps, c ∈ p := fun {ps} => by
    cases ps with
    | nil => intro h; simp [joinC] at h
    | cons p r =>
      intro h
      unfold joinC at h
      rcases List.mem_append.1 h with h | h
      · exact .inr ⟨p, by simp, h⟩
      · obtain ⟨q, hq, h⟩ := List.mem_flatMap.1 h
        rcases List.mem_cons.1 h with h | h
        · exact .inl h
        · exact .inr ⟨q, by simp [hq], h⟩
  rcases mem hc with rfl | ⟨p, hp, hx⟩
  · decide
  · obtain ⟨k, hk, rfl⟩ := List.mem_iff_getElem.1 hx
    have h5 := (h p hp).2.2.2.2 k (by rw [bA_size]; exact hk)
    obtain ⟨b, e1, e2⟩ := Pa.byte_get (s := bA p) (i := k) (by rw [bA_size]; exact hk)
    rw [bA_list, List.getElem?_eq_getElem hk] at e1
    rw [e2, ← Option.some.inj e1] at h5
    unfold letN at h5
    have h5 := of_decide_eq_true h5
    intro e
    rw [e] at h5
    have e3 : (((0 : UInt8).toNat : Nat) : Int) = 0 := rfl
    omega
theorem no0_has {s : ByteArray} (h : ∀ c ∈ s.data.toList, c ≠ 0) : ¬ has0 s := fun h0 => by
  letI : Globs := ⟨[]⟩
  obtain ⟨i, hi, e⟩ := (has0_iff s).1 h0
  obtain ⟨b, e1, e2⟩ := Pa.byte_get hi
  rw [e2] at e
  have hb : b = 0 := by
    have : b.toNat = 0 := by omega
    exact UInt8.toNat_inj.1 this
  exact h b (List.mem_of_getElem? e1) hb
theorem fields_no0 {s : ByteArray} (g : okSplit s) : ¬ has0 (preS s) ∧ ¬ has0 (nameS s) := by
  have h0 := parts_no0 g.1
  have ext : ∀ a b, ¬ has0 (s.extract a b) := fun a b => no0_has fun c hc => by
    rw [ext_list] at hc
    exact h0 c (List.mem_of_mem_take (List.mem_of_mem_drop hc))
  by_cases h : s.size ≤ 100
  · rw [pre_short h, name_short g h]
    exact ⟨no0_has (fun c hc => by cases hc), no0_has h0⟩
  · rw [pre_long g h, name_long g h]
    exact ⟨ext _ _, ext _ _⟩
theorem text_fits {s : ByteArray} {w : Int} (hw : 1 ≤ w ∧ w ≤ 255) (h0 : ¬ has0 s) (hs : (s.size : Int) ≤ w) : textE s w = 0 := by
  unfold textE
  rw [if_neg (by omega), if_neg h0, if_neg (by omega)]

/-! The bytes of a header. -/
def flagS : ByteArray := ⟨#[48]⟩
def ustarS : ByteArray := ⟨#[117, 115, 116, 97, 114]⟩
def zzS : ByteArray := ⟨#[48, 48]⟩
def emp : ByteArray := ByteArray.empty
def headA (s : ByteArray) (n : Int) : List Int := textR (nameS s) 100 ++ putR 420 8 ++ putR 0 8 ++ putR 0 8 ++ putR n 12 ++ putR 0 12
def headY : List Int := textR flagS 1 ++ textR emp 100 ++ textR ustarS 6 ++ textR zzS 2 ++ textR emp 32 ++ textR emp 32 ++ putR 0 8 ++ putR 0 8
def headZ (s : ByteArray) : List Int := headY ++ textR (preS s) 155 ++ textR emp 12
def headB (s : ByteArray) (n : Int) (m : List Int) : List Int := headA s n ++ m ++ headZ s
def headS (s : ByteArray) (n : Int) : Int := chk (headB s n (List.replicate 8 0)) 512
def okHd (s : ByteArray) (n : Int) : Prop := okSplit s ∧ 0 ≤ n ∧ n ≤ 4194304
instance (s : ByteArray) (n : Int) : Decidable (okHd s n) := by unfold okHd; infer_instance
def sumF (s : ByteArray) (n : Int) : List Int := putR (headS s n) 7 ++ [32]
def headR (s : ByteArray) (n : Int) : List Int := if okHd s n then headB s n (sumF s n) else []
def headE (s : ByteArray) (n : Int) : Int := if ¬ okSplit s then 9 else if n < 0 ∨ n > 4194304 then 8 else 0

theorem headE_iff {s : ByteArray} {n : Int} : headE s n = 0 ↔ okHd s n := by
  unfold headE okHd
  by_cases h : okSplit s
  · rw [if_neg (fun x => x h)]
    by_cases g : n < 0 ∨ n > 4194304
    · rw [if_pos g]; exact ⟨fun x => by omega, fun x => by omega⟩
    · rw [if_neg g]; exact ⟨fun _ => ⟨h, by omega⟩, fun _ => rfl⟩
  · rw [if_pos h]; exact ⟨fun x => by omega, fun x => absurd x.1 h⟩
theorem num_len {n : Int} {w : Nat} (hw : 2 ≤ w ∧ w ≤ 12) (hf : 0 ≤ n ∧ n < 8 ^ (w - 1)) : putE n w = 0 ∧ (putR n w).length = w := by
  have hf : fits n (w : Int) := by
    unfold fits
    rw [show ((w : Int) - 1).toNat = w - 1 by omega]
    exact hf
  obtain ⟨h1, h2⟩ := q_ok (n := n) (w := w) (by omega) hf
  refine ⟨h1, ?_⟩
  have := (q_field h1).1
  omega
theorem txt_len {s : ByteArray} {w : Nat} (h : textE s w = 0) : (textR s w).length = w := by
  have := (q_name h).2.2
  omega
theorem y_len : headY.length = 189 := by decide +kernel
theorem a_len {s : ByteArray} {n : Int} (h : okHd s n) : (headA s n).length = 148 := by
  obtain ⟨h1, h2, h3⟩ := h
  have e1 := txt_len (w := 100) (text_fits (by omega) (fields_no0 h1).2 (by have := (pre_size h1).2; omega))
  have e2 := (num_len (n := n) (w := 12) (by omega) ⟨h2, by omega⟩).2
  have e3 : (putR 420 8).length = 8 ∧ (putR 0 8).length = 8 ∧ (putR 0 12).length = 12 := by decide +kernel
  unfold headA
  simp only [List.length_append]
  have e1 : (textR (nameS s) 100).length = 100 := e1
  have e2 : (putR n 12).length = 12 := e2
  omega
theorem p_len {s : ByteArray} (h : okSplit s) : textE (preS s) 155 = 0 ∧ (textR (preS s) 155).length = 155 := by
  have e := text_fits (s := preS s) (w := 155) (by omega) (fields_no0 h).1 (by have := (pre_size h).1; omega)
  exact ⟨e, txt_len (w := 155) e⟩
theorem n_len {s : ByteArray} (h : okSplit s) : textE (nameS s) 100 = 0 ∧ (textR (nameS s) 100).length = 100 := by
  have e := text_fits (s := nameS s) (w := 100) (by omega) (fields_no0 h).2 (by have := (pre_size h).2; omega)
  exact ⟨e, txt_len (w := 100) e⟩
theorem z_len {s : ByteArray} (h : okSplit s) : (headZ s).length = 356 := by
  have e1 := (p_len h).2
  have e2 : (textR emp 12).length = 12 := by decide +kernel
  have e3 := y_len
  unfold headZ
  simp only [List.length_append]
  omega
theorem b_len {s : ByteArray} {n : Int} {m : List Int} (h : okHd s n) (hm : m.length = 8) : (headB s n m).length = 512 := by
  have := a_len h
  have := z_len h.1
  unfold headB
  simp only [List.length_append]
  omega
theorem b_range {s : ByteArray} {n : Int} {m : List Int} (hm : ∀ x ∈ m, 0 ≤ x ∧ x < 256) : ∀ x ∈ headB s n m, 0 ≤ x ∧ x < 256 := by
  intro x hx
  unfold headB headA headZ headY at hx
  simp only [List.mem_append] at hx
  rcases hx with (((((((hx | hx) | hx) | hx) | hx) | hx) | hx) | (((((((((hx | hx) | hx) | hx) | hx) | hx) | hx) | hx) | hx) | hx)) <;> first
    | exact q_text _ _ x hx
    | exact q_range _ _ x hx
    | exact hm x hx
theorem s_range {s : ByteArray} {n : Int} (h : okHd s n) : 0 ≤ headS s n ∧ headS s n < 262144 := by
  letI : Globs := ⟨[]⟩
  have := chk_range (xs := headB s n (List.replicate 8 0)) (b_range fun x hx => by have := (List.mem_replicate.1 hx).2; omega) 512
  unfold headS
  omega
theorem sum_len {s : ByteArray} {n : Int} (h : okHd s n) : putE (headS s n) 7 = 0 ∧ (sumF s n).length = 8 := by
  have := s_range h
  obtain ⟨e1, e2⟩ := num_len (n := headS s n) (w := 7) (by omega) ⟨this.1, by omega⟩
  refine ⟨e1, ?_⟩
  unfold sumF
  have e2 : (putR (headS s n) 7).length = 7 := e2
  rw [List.length_append, e2]; rfl
theorem sumF_range (s : ByteArray) (n : Int) : ∀ x ∈ sumF s n, 0 ≤ x ∧ x < 256 := by
  intro x hx
  rcases List.mem_append.1 hx with hx | hx
  · exact q_range _ _ x hx
  · have : x = 32 := by simpa using hx
    omega
theorem head_len {s : ByteArray} {n : Int} (h : okHd s n) : (headR s n).length = 512 := by
  unfold headR
  rw [if_pos h]
  exact b_len h (sum_len h).2
theorem head_range (s : ByteArray) (n : Int) : ∀ x ∈ headR s n, 0 ≤ x ∧ x < 256 := by
  unfold headR
  split
  · exact b_range (sumF_range s n)
  · intro x hx; cases hx
theorem mid {X Y Z : List Int} {a c : Nat} (hx : X.length = a) (hy : Y.length = c) : ((X ++ Y ++ Z).take (a + c)).drop a = Y := by
  subst hx hy
  rw [List.take_append_of_le_length (by simp), List.take_of_length_le (by simp), List.drop_left]
theorem first {X Z : List Int} {a : Nat} (hx : X.length = a) : (X ++ Z).take a = X := by
  subst hx; exact List.take_left

theorem head_name {s : ByteArray} {n : Int} (h : okHd s n) : (headR s n).take 100 = textR (nameS s) 100 := by
  unfold headR headB headA
  rw [if_pos h]
  simp only [List.append_assoc]
  exact first (n_len h.1).2
theorem head_size {s : ByteArray} {n : Int} (h : okHd s n) : ((headR s n).take 136).drop 124 = putR n 12 := by
  have e1 := (n_len h.1).2
  have e2 : (putR n 12).length = 12 := (num_len (n := n) (w := 12) (by omega) ⟨h.2.1, by have := h.2.2; omega⟩).2
  have e3 : (putR 420 8).length = 8 ∧ (putR 0 8).length = 8 := by decide +kernel
  unfold headR headB headA
  rw [if_pos h]
  have : textR (nameS s) 100 ++ putR 420 8 ++ putR 0 8 ++ putR 0 8 ++ putR n 12 ++ putR 0 12 ++ sumF s n ++ headZ s = (textR (nameS s) 100 ++ putR 420 8 ++ putR 0 8 ++ putR 0 8) ++ putR n 12 ++ (putR 0 12 ++ sumF s n ++ headZ s) := by simp only [List.append_assoc]
  rw [this]
  exact mid (a := 124) (c := 12) (by simp only [List.length_append]; omega) e2
theorem head_sum {s : ByteArray} {n : Int} (h : okHd s n) : ((headR s n).take 156).drop 148 = sumF s n := by
  unfold headR headB
  rw [if_pos h]
  exact mid (a := 148) (c := 8) (a_len h) (sum_len h).2
theorem head_pre {s : ByteArray} {n : Int} (h : okHd s n) : ((headR s n).take 500).drop 345 = textR (preS s) 155 := by
  unfold headR headB headZ
  rw [if_pos h]
  have : headA s n ++ sumF s n ++ (headY ++ textR (preS s) 155 ++ textR emp 12) = (headA s n ++ sumF s n ++ headY) ++ textR (preS s) 155 ++ textR emp 12 := by simp only [List.append_assoc]
  rw [this]
  have e1 := a_len h
  have e2 := (sum_len h).2
  have e3 := y_len
  exact mid (a := 345) (c := 155) (by simp only [List.length_append]; omega) (p_len h.1).2

/-! What is read out of bytes. -/
def fName (b : List Int) : List Int := b.take 100
def fPre (b : List Int) : List Int := (b.take 500).drop 345
def fSize (b : List Int) : List Int := (b.take 136).drop 124
noncomputable def fS (b : List Int) : ByteArray := joinS (nameR (fPre b)) (nameR (fName b))
noncomputable def fN (b : List Int) : Int := Oc.getV (fSize b)
def okGet (b : List Int) : Prop := okHd (fS b) (fN b) ∧ headR (fS b) (fN b) = b
noncomputable instance (b : List Int) : Decidable (okGet b) := by unfold okGet; infer_instance
noncomputable def getS (b : List Int) : ByteArray := if okGet b then fS b else ByteArray.empty
noncomputable def getN (b : List Int) : Int := if okGet b then fN b else 0
noncomputable def getEr (b : List Int) : Int := if b.length < 512 then 3 else if okGet b then 0 else 2

theorem head_back {s : ByteArray} {n : Int} (h : okHd s n) : nameE (fName (headR s n)) = 0 ∧ nameR (fName (headR s n)) = nameS s ∧ nameE (fPre (headR s n)) = 0 ∧ nameR (fPre (headR s n)) = preS s ∧ Oc.getE (fSize (headR s n)) = 0 ∧ fN (headR s n) = n ∧ fS (headR s n) = s := by
  have e1 := q_name (n_len h.1).1
  have e2 := q_name (p_len h.1).1
  have e3 := q_field (num_len (n := n) (w := 12) (by omega) ⟨h.2.1, by have := h.2.2; omega⟩).1
  have g1 : fName (headR s n) = textR (nameS s) 100 := head_name h
  have g2 : fPre (headR s n) = textR (preS s) 155 := head_pre h
  have g3 : fSize (headR s n) = putR n 12 := head_size h
  have e3 : valid (putR n 12) ∧ acc (putR n 12) ((putR n 12).length - 1) = n := e3.2
  unfold fS fN
  rw [g1, g2, g3]
  refine ⟨e1.1, e1.2.1, e2.1, e2.2.1, ?_, ?_, ?_⟩
  · unfold Oc.getE; rw [if_pos e3.1]
  · unfold Oc.getV; rw [if_pos e3.1]; exact e3.2
  · rw [e1.2.1, e2.2.1]; exact (okJoin_split h.1).2.1
theorem get_head {s : ByteArray} {n : Int} (h : okHd s n) : okGet (headR s n) ∧ getS (headR s n) = s ∧ getN (headR s n) = n ∧ getEr (headR s n) = 0 := by
  obtain ⟨_, _, _, _, _, h6, h7⟩ := head_back h
  have ok : okGet (headR s n) := by unfold okGet; rw [h6, h7]; exact ⟨h, rfl⟩
  refine ⟨ok, ?_, ?_, ?_⟩
  · unfold getS; rw [if_pos ok, h7]
  · unfold getN; rw [if_pos ok, h6]
  · unfold getEr; rw [if_neg (by rw [head_len h]; decide), if_pos ok]
theorem get_ok {b : List Int} (h : getEr b = 0) : okHd (getS b) (getN b) ∧ headR (getS b) (getN b) = b ∧ b.length = 512 := by
  unfold getEr at h
  split at h
  · omega
  · split at h
    · rename_i g
      unfold getS getN
      rw [if_pos g, if_pos g]
      exact ⟨g.1, g.2, by rw [← g.2]; exact head_len g.1⟩
    · omega
theorem get_no {b : List Int} (h : getEr b ≠ 0) : getS b = ByteArray.empty ∧ getN b = 0 := by
  have ng : ¬ okGet b := fun g => h (by
    unfold getEr
    rw [if_neg (by rw [← g.2, head_len g.1]; decide), if_pos g])
  unfold getS getN
  rw [if_neg ng, if_neg ng]
  exact ⟨rfl, rfl⟩
theorem get_len {b : List Int} (h : b.length < 512) : getEr b = 3 := if_pos h
/-! Sums. -/
theorem chk_congr {xs ys : List Int} : ∀ {n : Nat}, (∀ i, i < n → chkAt i (xs.getD i 0) = chkAt i (ys.getD i 0)) → chk xs n = chk ys n
  | 0, _ => rfl
  | n + 1, h => by
    simp only [chk]
    rw [chk_congr (n := n) fun i hi => h i (by omega), h n (by omega)]
theorem head_get {s : ByteArray} {n : Int} {m m' : List Int} (h : okHd s n) (hm : m.length = 8) (hm' : m'.length = 8) (i : Nat) : chkAt i ((headB s n m).getD i 0) = chkAt i ((headB s n m').getD i 0) := by
  have ha := a_len h
  unfold chkAt
  by_cases hi : 148 ≤ i ∧ i < 156
  · rw [if_pos hi, if_pos hi]
  · rw [if_neg hi, if_neg hi]
    unfold headB
    rcases Nat.lt_or_ge i 148 with h1 | h1
    · rw [List.append_assoc, List.append_assoc, q_l (by omega), q_l (by omega)]
    · rw [q_r (by rw [List.length_append]; omega), q_r (by rw [List.length_append]; omega), List.length_append, List.length_append, hm, hm']
end Go.Proofs.YtflclafbieokiaaGreatDoor.Hd

/-
  The row that header.Put lays fields into: header.laid and its closures.
-/
set_option linter.unusedVariables false
set_option linter.unusedSectionVars false
namespace Go.Proofs.YtflclafbieokiaaGreatDoor.Hd
open Go AL Oc
section
variable [Globs]

def LeOs (h : List AO) (l : List Nat) : List AO → List AO → Prop
  | [], [] => True
  | o :: a, p :: b => LeO h l o p ∧ LeOs h l a b
  | _, _ => False
theorem leOs_get {h : List AO} {l : List Nat} : ∀ {a b : List AO}, LeOs h l a b → a.length = b.length ∧ ∀ (i : Nat) (p : AO), b[i]? = some p → ∃ o, a[i]? = some o ∧ LeO h l o p
  | [], [], _ => ⟨rfl, fun i p hi => by simp at hi⟩
  | [], _ :: _, e => e.elim
  | _ :: _, [], e => e.elim
  | o :: a, q :: b, e => by
    obtain ⟨h1, h2⟩ := leOs_get e.2
    refine ⟨by simp [h1], fun i p hi => ?_⟩
    cases i with
    | zero => exact ⟨o, rfl, by cases hi; exact e.1⟩
    | succ i => exact h2 i p (by simpa using hi)
theorem lehId {np : Nat} {h h1 : List AO} (hnp : np ≤ h.length) (e : LeOs h (List.range h.length) h h1) : LeH np h (List.range h.length) h1 := by
  obtain ⟨h2, h3⟩ := leOs_get e
  have hr : ∀ i j, (List.range h.length)[i]? = some j → j = i := fun i j hi => by
    obtain ⟨hlt, he⟩ := List.getElem?_eq_some_iff.1 hi
    rw [List.getElem_range] at he
    exact he.symm
  refine ⟨by simp [h2], by simpa using hnp, fun i hi => ?_, List.nodup_range, fun i j o' hi ho => ?_⟩
  · rw [List.getElem?_range (by omega)]
  · obtain rfl := hr i j hi
    exact .inl (h3 _ _ ho)
def cloP (f id : Nat) : AV := .clo (.func f) 1 fun i => [AV.ptr id 0].getD i .top
theorem leClo {h : List AO} {l : List Nat} {f id id' : Nat} {g : Nat → AV} (hg : g 0 = .ptr id 0) (e : l[id']? = some id) : LeV h l (.clo (.func f) 1 g) (cloP f id') :=
  .clo _ _ _ _ fun i hi => by
    obtain rfl : i = 0 := by omega
    rw [hg]; exact .ptr _ e
theorem leOne {h : List AO} {l : List Nat} {a b : AV} (h0 : LeV h l a b) : LeO h l (.lst [a]) (.lst [b]) := .lst _ _ rfl fun i hi => by
  obtain rfl : i = 0 := by simpa using hi
  exact h0
def nilS : AV := .raw (.slice none 0 0)
def boxN : AO := .lst [nilS]
def boxR (id n : Nat) : AO := .lst [.own id 0 n 1]

def addB : AO := .lst [cloP 117 0]

def laidV : AV := .tup 3 (triple (cloP 118 1) (cloP 119 1) (cloP 121 0))

set_option maxHeartbeats 1000000 in
set_option maxRecDepth 10000 in
theorem laid_prog : ACalls Tryz.prog 90 [] [] (fun r h => r = laidV ∧ h = [boxN, addB]) := by
  refine rcalls Tryz.func90 rfl (by decide) ?_
  refine ⟨List.range 2, [boxN, addB], laidV, lehId (h := [.lst [nilS], .lst [.clo (.func 117) 1 _]]) (by decide) ⟨leOne (.raw _), leOne (leClo rfl rfl), trivial⟩, le_triple (leClo rfl rfl) (leClo rfl rfl) (leClo rfl rfl), rfl, rfl⟩

set_option maxHeartbeats 1000000 in
set_option maxRecDepth 10000 in
theorem add_first (ys : List Int) (hy : ys.length ≤ 1000000) : ACalls Tryz.prog 117 [.roI .u8 ys, int .i64 0, .ptr 0 0] [boxN] (fun r h => r = .top ∧ h = [boxR 1 ys.length, .ints .u8 ys]) := by
  refine rcalls Tryz.func117 rfl (by decide) ?_
  refine ⟨fun _ => ?_, fun e => absurd rfl (no e)⟩
  refine ⟨by show ys.length * 1 ≤ _; omega, ?_⟩
  exact ⟨List.range 2, [boxR 1 ys.length, .ints .u8 ys], .top, lehId (h := [.lst [.own 1 0 ys.length 1], .ints .u8 ys]) (by show 1 ≤ 2; decide) ⟨leOne (leOwn rfl rfl rfl), leOint rfl, trivial⟩, .top _, rfl, rfl⟩

set_option maxHeartbeats 1000000 in
set_option maxRecDepth 10000 in
theorem add_next (xs ys : List Int) (hx : xs.length ≤ 1000000) (hy : ys.length ≤ 1000000) : ACalls Tryz.prog 117 [.roI .u8 ys, int .i64 0, .ptr 0 0] [boxR 1 xs.length, .ints .u8 xs]
    (fun r h => r = .top ∧ h = [boxR 2 (xs ++ ys).length, .dead, .ints .u8 (xs ++ ys)]) := by
  refine rcalls Tryz.func117 rfl (by decide) ?_
  refine ⟨fun _ => ?_, fun e => absurd rfl (no e)⟩
  refine ⟨rfl, by show (xs.length + ys.length) * 1 ≤ _; omega, ?_⟩
  exact ⟨List.range 3, [boxR 2 (xs ++ ys).length, .dead, .ints .u8 (xs ++ ys)], .top, lehId (h := [.lst [.own 2 0 (xs.length + ys.length) 1], .dead, .ints .u8 (xs ++ ys)]) (by show 2 ≤ 3; decide) ⟨leOne (leOwn rfl rfl (by simp)), .dead _, leOint rfl, trivial⟩, .top _, rfl, rfl⟩

set_option maxHeartbeats 1000000 in
set_option maxRecDepth 10000 in
theorem text_first (s : ByteArray) (w : Int) (hs : s.size ≤ 9223372036854775807) (he : textE s w = 0) (hw : (textR s w).length ≤ 1000) :
    ACalls Tryz.prog 119 [str s, int .i64 w, .ptr 1 0] [boxN, addB] (fun r h => r = .top ∧ h = [boxR 2 (textR s w).length, addB, .ints .u8 (textR s w)]) := by
  have h1 := text_prog s w hs
  unfold TextR at h1
  rw [he] at h1
  generalize textR s w = ys at *
  refine rcalls Tryz.func119 rfl (by decide) ?_
  refine .inr ⟨6, by decide +kernel, ?_⟩
  refine ⟨_, rfl, ?_⟩
  refine ⟨_, rfl, ?_⟩
  refine ⟨_, rfl, ?_⟩
  refine ⟨_, ⟨[], _, h1, by rintro r h ⟨rfl, rfl⟩; exact ⟨.inl rfl, rfl, rfl⟩⟩, ?_⟩
  refine ⟨_, rfl, ?_⟩
  refine ⟨_, rfl, ?_⟩
  refine ⟨[0], _, add_first ys (by omega), ?_⟩
  rintro r h' ⟨rfl, rfl⟩
  refine ⟨.inl rfl, ?_⟩
  exact ⟨List.range 3, [boxR 2 ys.length, addB, .ints .u8 ys], .top, lehId (h := [.lst [.own 2 0 ys.length 1], addB, .ints .u8 ys]) (by show 2 ≤ 3; decide) ⟨leOne (leOwn rfl rfl rfl), leOne (leClo rfl rfl), leOint rfl, trivial⟩, .top _, rfl, rfl⟩

set_option maxHeartbeats 1000000 in
set_option maxRecDepth 10000 in
theorem text_next (s : ByteArray) (w : Int) (xs : List Int) (hx : xs.length ≤ 1000000) (hs : s.size ≤ 9223372036854775807) (he : textE s w = 0) (hw : (textR s w).length ≤ 1000) :
    ACalls Tryz.prog 119 [str s, int .i64 w, .ptr 1 0] [boxR 2 xs.length, addB, .ints .u8 xs]
      (fun r h => r = .top ∧ h = [boxR 3 (xs ++ textR s w).length, addB, .dead, .ints .u8 (xs ++ textR s w)]) := by
  have h1 := text_prog s w hs
  unfold TextR at h1
  rw [he] at h1
  generalize textR s w = ys at *
  refine rcalls Tryz.func119 rfl (by decide) ?_
  refine .inr ⟨6, by decide +kernel, ?_⟩
  refine ⟨_, rfl, ?_⟩
  refine ⟨_, rfl, ?_⟩
  refine ⟨_, rfl, ?_⟩
  refine ⟨_, ⟨[], _, h1, by rintro r h ⟨rfl, rfl⟩; exact ⟨.inl rfl, rfl, rfl⟩⟩, ?_⟩
  refine ⟨_, rfl, ?_⟩
  refine ⟨_, rfl, ?_⟩
  refine ⟨[0, 2], _, add_next xs ys hx (by omega), ?_⟩
  rintro r h' ⟨rfl, rfl⟩
  refine ⟨.inl rfl, ?_⟩
  exact ⟨List.range 4, [boxR 3 (xs ++ ys).length, addB, .dead, .ints .u8 (xs ++ ys)], .top, lehId (h := [.lst [.own 3 0 (xs ++ ys).length 1], addB, .dead, .ints .u8 (xs ++ ys)]) (by show 3 ≤ 4; decide) ⟨leOne (leOwn rfl rfl rfl), leOne (leClo rfl rfl), .dead _, leOint rfl, trivial⟩, .top _, rfl, rfl⟩

set_option maxHeartbeats 1000000 in
set_option maxRecDepth 10000 in
theorem num_next (n : Int) (w : Int) (xs : List Int) (hx : xs.length ≤ 1000000) (he : putE n w = 0) (hw : (putR n w).length ≤ 1000) :
    ACalls Tryz.prog 118 [int .i64 n, int .i64 w, .ptr 1 0] [boxR 2 xs.length, addB, .ints .u8 xs]
      (fun r h => r = .top ∧ h = [boxR 3 (xs ++ putR n w).length, addB, .dead, .ints .u8 (xs ++ putR n w)]) := by
  have h1 := put_prog n w
  unfold PutR at h1
  rw [he] at h1
  generalize putR n w = ys at *
  refine rcalls Tryz.func118 rfl (by decide) ?_
  refine .inr ⟨6, by decide +kernel, ?_⟩
  refine ⟨_, rfl, ?_⟩
  refine ⟨_, rfl, ?_⟩
  refine ⟨_, rfl, ?_⟩
  refine ⟨_, ⟨[], _, h1, by rintro r h ⟨rfl, rfl⟩; exact ⟨.inl rfl, rfl, rfl⟩⟩, ?_⟩
  refine ⟨_, rfl, ?_⟩
  refine ⟨_, rfl, ?_⟩
  refine ⟨[0, 2], _, add_next xs ys hx (by omega), ?_⟩
  rintro r h' ⟨rfl, rfl⟩
  refine ⟨.inl rfl, ?_⟩
  exact ⟨List.range 4, [boxR 3 (xs ++ ys).length, addB, .dead, .ints .u8 (xs ++ ys)], .top, lehId (h := [.lst [.own 3 0 (xs ++ ys).length 1], addB, .dead, .ints .u8 (xs ++ ys)]) (by show 3 ≤ 4; decide) ⟨leOne (leOwn rfl rfl rfl), leOne (leClo rfl rfl), .dead _, leOint rfl, trivial⟩, .top _, rfl, rfl⟩

set_option maxHeartbeats 1000000 in
set_option maxRecDepth 10000 in
theorem told_prog (xs : List Int) : ACalls Tryz.prog 121 [.ptr 0 0] [boxR 1 xs.length, .ints .u8 xs] (fun r h => r = .own 1 0 xs.length 1 ∧ h = [boxR 1 xs.length, .ints .u8 xs]) := by
  refine rcalls Tryz.func121 rfl (by decide) ?_
  exact ⟨List.range 2, [boxR 1 xs.length, .ints .u8 xs], .own 1 0 xs.length 1, lehId (h := [.lst [.own 1 0 xs.length 1], .ints .u8 xs]) (by show 2 ≤ 2; decide) ⟨leOne (leOwn rfl rfl rfl), leOint rfl, trivial⟩, leOwn rfl rfl rfl, rfl, rfl⟩
end
end Go.Proofs.YtflclafbieokiaaGreatDoor.Hd

/-
  The contract of the document's own Put of an octal field.
-/
set_option linter.unusedVariables false
set_option linter.unusedSectionVars false
namespace Go.Proofs.YtflclafbieokiaaGreatDoor.Oc
open Go AL
section
variable [Globs]

set_option maxHeartbeats 1000000 in
set_option maxRecDepth 10000 in
theorem put_ref (n w : Int) (hn63 : n < 9223372036854775808) : ACalls Tryz.prog 127 [int .i64 n, int .i64 w] [] (PutR n w) := by
  refine rcalls Tryz.func127 rfl (by decide) ?_
  have bad : (w < 2 ∨ w > 12) → ∃ l h1 b, LeH 0 [] l h1 ∧ LeV [] l (.tup 2 fun i => [.raw (.slice none 0 0), int .i64 1].getD i .top) b ∧ PutR n w b h1 := fun hw =>
    ⟨[], [], _, leh0, le_pair (.nilI .u8) (leI (putE_bad hw).1.symm), by unfold PutR; rw [(putE_bad hw).2]; exact ⟨rfl, rfl⟩⟩
  refine ⟨fun h => bad (.inl (by simpa using h)), fun h => ⟨fun h1 => bad (.inr (by simpa using h1)), fun h1 => ?_⟩⟩
  have hw2 : ¬ (w < 2) := by simpa using h
  have hw12 : ¬ (12 < w) := by simpa using h1
  have hok : ¬ (w < 2 ∨ w > 12) := by omega
  refine ⟨fun h2 => ?_, fun h2 => ?_⟩
  · have hnf : ¬ fits n w := by unfold fits; simp at h2; omega
    refine ⟨[], [], _, lehN _, le_pair (.nilI .u8) (leI (putE_no hok hnf).1.symm), ?_⟩
    unfold PutR; rw [(putE_no hok hnf).2]; exact ⟨rfl, rfl⟩
  have hn0 : 0 ≤ n := by simpa using h2
  obtain ⟨m, hm⟩ : ∃ m : Nat, w = (m : Int) := ⟨w.toNat, by omega⟩
  subst hm
  refine ⟨Nat, fun j => [(0, int .i64 (n / 8 ^ j)), (1, int .i64 m), (6, .own 0 0 (j + 1) 1), (7, int .i64 (1 + j))], fun j => [.ints .u8 (digs n j ++ [0])], fun j => j + 1 ≤ m, fun j => m - j,
    ⟨0, [0], by omega, leh1 rfl (leOint rfl), ⟨leI (by simp), leI rfl, leOwn rfl rfl rfl, leI rfl, trivial⟩⟩, fun j hj => ?_⟩
  refine ⟨fun h3 => ?_, fun h3 => ?_⟩
  · have h4 : (1 : Int) + j < m := by simpa using h3
    have hl : (digs n j ++ [0]).length = j + 1 := by simp [digs_length]
    have ht : ((digs n j ++ [0]).drop 0).take (j + 1) = digs n j ++ [0] := by rw [List.drop_zero, List.take_of_length_le (by omega)]
    have hp := pow8_pos j
    have hd0 : 0 ≤ n / 8 ^ j := Int.ediv_nonneg hn0 (Int.le_of_lt hp)
    refine ⟨by decide, rfl, by rw [hl]; omega, ?_, by decide, ?_⟩
    · rw [ht, hl]; show (1 + (j + 1)) * 1 ≤ _; omega
    · have e1 : (n / 8 ^ j).tmod 8 = n / 8 ^ j % 8 := Int.tmod_eq_emod_of_nonneg hd0
      have e2 : (n / 8 ^ j).tdiv 8 = n / 8 ^ (j + 1) := by rw [div_succ, Int.tdiv_eq_ediv_of_nonneg hd0]
      have d0 := dig_lo n j
      have d1 := dig_hi n j
      unfold dig at d0 d1
      refine ⟨trivial, j + 1, [2], by show j + 1 + 1 ≤ m; omega, by show m - (j + 1) < m - j; omega, ?_, ?_⟩
      · refine leh1 rfl (leOint ?_)
        rw [ht, e1, w64 (by omega) (by omega), w8 (by omega) (by omega)]
        rfl
      · refine ⟨leI ?_, leI rfl, leOwn rfl rfl ?_, leI ?_, trivial⟩
        · rw [e2]
          have h6 : n / 8 ^ (j + 1) ≤ n := Int.ediv_le_self _ hn0
          have h7 : 0 ≤ n / 8 ^ (j + 1) := Int.ediv_nonneg hn0 (Int.le_of_lt (pow8_pos _))
          exact w64 (by omega) (by omega)
        · rw [ht, hl]; simp; omega
        · rw [w64 (by omega) (by omega)]; omega
  · have h4 : ¬ ((1 : Int) + j < m) := by simpa using h3
    have hjm : j = m - 1 := by have : j + 1 ≤ m := hj; omega
    subst hjm
    have hw1 : ((m : Int) - 1).toNat = m - 1 := by omega
    refine ⟨fun h5 => ?_, fun h5 => ?_⟩
    · have hnf : ¬ fits n m := by
        unfold fits
        rw [hw1, ← fits_iff]
        simpa using h5
      refine ⟨[], [], _, lehN _, le_pair (.nilI .u8) (leI (putE_no hok hnf).1.symm), ?_⟩
      unfold PutR; rw [(putE_no hok hnf).2]; exact ⟨rfl, rfl⟩
    · have hf : fits n m := by
        unfold fits
        rw [hw1, ← fits_iff]
        simpa using h5
      refine ⟨[], [], _, lehN _, le_pair (.giveI (putR n m) rfl (by simp) ?_ ?_) (leI (putE_ok hok hf).1.symm), rfl, rfl⟩
      · simp [digs_length]
      · rw [(putE_ok hok hf).2, hw1, List.drop_zero, List.take_of_length_le (by simp [digs_length])]

end

end Go.Proofs.YtflclafbieokiaaGreatDoor.Oc

/-
  octal.Put once more, that hands its row over; the document's fields behind a row.
-/
set_option linter.unusedVariables false
set_option linter.unusedSectionVars false
namespace Go.Proofs.YtflclafbieokiaaGreatDoor.Hd
open Go AL Oc
section
variable [Globs]

def PutO (n w : Int) (r : AV) (h : List AO) : Prop := r = .tup 2 (pair (.own 0 0 (putR n w).length 1) (int .i64 0)) ∧ h = [.ints .u8 (putR n w)]
theorem vnil (k : IntKind) : VLe (.raw (.slice none 0 0)) (.roI k []) := fun w S L v hv => by
  obtain rfl : v = _ := hv
  exact ⟨none, 0, rfl, Nat.le_refl _, fun i hi => absurd hi (Nat.not_lt_zero _)⟩

set_option maxHeartbeats 1000000 in
set_option maxRecDepth 10000 in
theorem put_own (n w : Int) (he : putE n w = 0) : ACalls Tryz.prog 91 [int .i64 n, int .i64 w] [] (PutO n w) := by
  refine rcalls Tryz.func91 rfl (by decide) ?_
  have bad : (w < 2 ∨ w > 12) → ∃ l h1 b, LeH 0 [] l h1 ∧ LeV [] l (.tup 2 fun i => [.raw (.slice none 0 0), int .i64 1].getD i .top) b ∧ PutO n w b h1 := fun hw => by
    have := (putE_bad (n := n) hw).1; omega
  refine ⟨fun h => bad (.inl (by simpa using h)), fun h => ⟨fun h1 => bad (.inr (by simpa using h1)), fun h1 => ?_⟩⟩
  have hw2 : ¬ (w < 2) := by simpa using h
  have hw12 : ¬ (12 < w) := by simpa using h1
  have hok : ¬ (w < 2 ∨ w > 12) := by omega
  refine ⟨⟨by omega, by omega, by omega, by show w * 1 ≤ _; omega⟩, rfl, ?_⟩
  obtain ⟨m, hm⟩ : ∃ m : Nat, w = (m : Int) := ⟨w.toNat, by omega⟩
  subst hm
  have e0 : IntKind.i64.wrap ((m : Int) - 2) = (m : Int) - 2 := w64 (by omega) (by omega)
  refine ⟨Nat, fun j => [(0, int .i64 (n / 8 ^ j)), (6, .own 0 0 m 1), (7, int .i64 (m - 2 - j))], fun j => [.ints .u8 (Oc.part n m j)], fun j => j + 1 ≤ m, fun j => m - j,
    ⟨0, [0], by omega, leh1 rfl (leOint (by rw [part_zero n (by omega)]; simp)), ⟨leI (by simp), leOwn rfl rfl (by simp), leI (by rw [e0]; omega), trivial⟩⟩, fun j hj => ?_⟩
  refine ⟨fun h2 => ?_, fun h2 => ?_⟩
  · -- a round
    have h3 : (0 : Int) ≤ m - 2 - j := by simpa using h2
    have hpl := part_length n hj
    have hi : ((m : Int) - 2 - j).toNat = m - 2 - j := by omega
    refine ⟨⟨by omega, by omega⟩, by rw [hpl]; unfold addOff; omega, by decide, ?_⟩
    refine ⟨trivial, j + 1, [0], by show j + 1 + 1 ≤ m; omega, by show m - (j + 1) < m - j; omega, ?_, ?_⟩
    · refine leh1 rfl (leOint ?_)
      have e1 : Go.bits .and .i64 (n / 8 ^ j) 7 = n / 8 ^ j % 8 := bits_mask64 (n / 8 ^ j) 3 (by decide)
      have d0 := dig_lo n j
      have d1 := dig_hi n j
      unfold dig at d0 d1
      rw [e1, w8 (n := n / 8 ^ j % 8) (by omega) (by omega), w8 (by omega) (by omega), hi]
      unfold addOff
      rw [Nat.zero_add, Nat.mul_one]
      exact part_succ n (by omega)
    · refine ⟨leI ?_, leOwn rfl rfl rfl, leI ?_, trivial⟩
      · show (n / 8 ^ j).fdiv (2 ^ (min (3 : Int).toNat 64)) = _
        rw [div_succ, Int.fdiv_eq_ediv_of_nonneg _ (by decide)]
        rfl
      · rw [w64 (by omega) (by omega)]; omega
  · -- the end
    have h3 : ¬ ((0 : Int) ≤ m - 2 - j) := by simpa using h2
    have hjm : j = m - 1 := by have : j + 1 ≤ m := hj; omega
    subst hjm
    have hw1 : ((m : Int) - 1).toNat = m - 1 := by omega
    refine ⟨fun h4 => ?_, fun h4 => ?_⟩
    · have hnf : ¬ fits n m := by
        unfold fits
        rw [hw1, ← fits_iff]
        simpa using h4
      have := (putE_no hok hnf).1; omega
    · have hf : fits n m := by
        unfold fits
        rw [hw1, ← fits_iff]
        simpa using h4
      have hp : Oc.part n m (m - 1) = putR n m := by
        rw [(putE_ok hok hf).2, part_full n (by omega), hw1]
      have hpl : (Oc.part n m (m - 1)).length = m := part_length n (by omega)
      exact ⟨[0], [.ints .u8 (putR n m)], .tup 2 (pair (.own 0 0 (putR n m).length 1) (int .i64 0)), leh1 rfl (leOint hp), le_pair (leOwn rfl rfl (by rw [← hp, hpl])) (leI rfl), rfl, rfl⟩

set_option maxHeartbeats 1000000 in
set_option maxRecDepth 10000 in
theorem text7_ref (xs : List Int) (s : ByteArray) (w : Int) (hs : s.size ≤ 9223372036854775806) (hx : xs.length ≤ 1000000) (hw : (textR s w).length ≤ 1000) : ACalls Tryz.prog 98 [.roI .u8 xs, str s, int .i64 w] []
    (fun r h => r = .own 0 0 (xs ++ textR s w).length 1 ∧ h = [.ints .u8 (xs ++ textR s w)]) := by
  have h1 := text_ref s w hs
  unfold TextR at h1
  generalize textR s w = ys at *
  generalize textE s w = E at *
  refine rcalls Tryz.func98 rfl (by decide) ?_
  refine ⟨[], _, h1, ?_⟩
  rintro r hh ⟨rfl, rfl⟩
  refine ⟨.inl rfl, ?_⟩
  refine ⟨rfl, by show (0 + xs.length) * 1 ≤ _; omega, ?_⟩
  refine ⟨by simp, by show (([] ++ xs).length + ys.length) * 1 ≤ _; rw [List.nil_append]; omega, ?_⟩
  exact ⟨[2], [.ints .u8 (xs ++ ys)], .own 0 0 (xs ++ ys).length 1, leh1 rfl (leOint (by simp)), leOwn rfl rfl (by simp), rfl, rfl⟩

set_option maxHeartbeats 1000000 in
set_option maxRecDepth 10000 in
theorem num7_ref (xs : List Int) (n w : Int) (hn : n < 9223372036854775808) (hx : xs.length ≤ 1000000) (hw : (putR n w).length ≤ 1000) : ACalls Tryz.prog 99 [.roI .u8 xs, int .i64 n, int .i64 w] []
    (fun r h => r = .own 0 0 (xs ++ putR n w).length 1 ∧ h = [.ints .u8 (xs ++ putR n w)]) := by
  have h1 := put_ref n w hn
  unfold PutR at h1
  generalize putR n w = ys at *
  generalize putE n w = E at *
  refine rcalls Tryz.func99 rfl (by decide) ?_
  refine ⟨[], _, h1, ?_⟩
  rintro r hh ⟨rfl, rfl⟩
  refine ⟨.inl rfl, ?_⟩
  refine ⟨rfl, by show (0 + xs.length) * 1 ≤ _; omega, ?_⟩
  refine ⟨by simp, by show (([] ++ xs).length + ys.length) * 1 ≤ _; rw [List.nil_append]; omega, ?_⟩
  exact ⟨[2], [.ints .u8 (xs ++ ys)], .own 0 0 (xs ++ ys).length 1, leh1 rfl (leOint (by simp)), leOwn rfl rfl (by simp), rfl, rfl⟩

end
end Go.Proofs.YtflclafbieokiaaGreatDoor.Hd

/-
  Numbers and digests as text, in plain Lean. No program in sight.
-/
set_option linter.unusedVariables false
namespace Go.Proofs.YtflclafbieokiaaGreatDoor.Hx
open Go AL

def numS (n : Int) : ByteArray := ⟨(Lib.itoa n).toArray⟩
def isNum (s : ByteArray) (v : Int) : Prop := 0 ≤ v ∧ v < 9223372036854775808 ∧ s = numS v
open Classical in
noncomputable def readE (s : ByteArray) (most : Int) : Int := if h : ∃ v, isNum s v then (if Classical.choose h > most then 8 else 0) else 2
open Classical in
noncomputable def readV (s : ByteArray) (most : Int) : Int := if h : ∃ v, isNum s v then (if Classical.choose h > most then 0 else Classical.choose h) else 0
end Go.Proofs.YtflclafbieokiaaGreatDoor.Hx

/-
  Whether a text may be a path, a user's own one.
-/
set_option linter.unusedVariables false
set_option linter.unusedSectionVars false
namespace Go.Proofs.YtflclafbieokiaaGreatDoor.Pa
open Go AL Spl Hx

section
variable [Globs]

theorem cut_eq {s : ByteArray} {i : Nat} (h100 : ¬ s.size ≤ 100) (hi : i ≤ s.size) (hlo : s.size - 101 ≤ i) (hn : ∀ j, j < i → s.size - 101 ≤ j → ¬ (intsOf s).getD j 0 = 47) (hc : i = s.size ∨ i < s.size ∧ (intsOf s).getD i 0 = 47) : cutS s = i := by
  have hl : s.data.toList.length = s.size := rfl
  have : firstC 47 (s.data.toList.drop (s.size - 101)) = i - (s.size - 101) := by
    refine firstC_eq (by rw [List.length_drop, hl]; omega) (fun j hj e => ?_) ?_
    · rw [List.getElem?_drop] at e
      obtain ⟨b, e1, e2⟩ := byte_get (s := s) (i := s.size - 101 + j) (by omega)
      rw [e1] at e
      cases e
      exact hn (s.size - 101 + j) (by omega) (by omega) e2
    · rw [List.length_drop, hl]
      rcases hc with hc | ⟨h1, h2⟩
      · left; omega
      · right
        rw [List.getElem?_drop, show s.size - 101 + (i - (s.size - 101)) = i by omega]
        obtain ⟨b, e1, e2⟩ := byte_get (s := s) (i := i) h1
        rw [e1, (byte_is (c := 47) e2).1 h2]
  unfold cutS
  omega

set_option maxHeartbeats 2000000 in
set_option maxRecDepth 10000 in
theorem split_ref (s : ByteArray) (hs : s.size ≤ 9223372036854775805) : ACalls Tryz.prog 97 [str s] [] (SplitR s) := by
  have hl : s.data.toList.length = s.size := rfl
  have hbad := @split_bad s
  have hok : okSplit s ↔ okParts s ∧ s.size ≤ 254 ∧ (s.size ≤ 100 ∨ cutS s < s.size ∧ cutS s ≤ 155) := Iff.rfl
  have hce := @cut_eq _ s
  have hw := parts_ref s (by omega)
  unfold SplitR
  have hgood1 : okSplit s → s.size ≤ 100 → preS s = ByteArray.empty ∧ nameS s = s ∧ errS s = 0 := fun h h1 =>
    ⟨if_neg fun e => e.2 h1, by unfold nameS; rw [if_pos h, if_pos h1], if_pos h⟩
  have hgood2 : okSplit s → ¬ s.size ≤ 100 → preS s = s.extract 0 (cutS s) ∧ nameS s = s.extract (cutS s + 1) s.size ∧ errS s = 0 := fun h h1 =>
    ⟨if_pos ⟨h, h1⟩, by unfold nameS; rw [if_pos h, if_neg h1], if_pos h⟩
  generalize preS s = Pr at *
  generalize nameS s = Na at *
  generalize errS s = Er at *
  generalize cutS s = C at *
  refine rcalls Tryz.func97 rfl (by decide) ?_
  refine ⟨[], _, hw, ?_⟩
  rintro r hh ⟨rfl, rfl⟩
  refine ⟨.inl rfl, ?_⟩
  have bad : ∀ {h : List AO} {l : List Nat} {f : Nat → AV}, ¬ okSplit s → f 0 = str ByteArray.empty → f 1 = str ByteArray.empty → f 2 = int .i64 9 → LeV h l (.tup 3 f) (.tup 3 (triple (str Pr) (str Na) (int .i64 Er))) := fun h h0 h1 h2 => by
    obtain ⟨e1, e2, e3⟩ := hbad h
    exact le_triple (by rw [h0]; exact leS e1.symm) (by rw [h1]; exact leS e2.symm) (by rw [h2]; exact leI e3.symm)
  refine ⟨fun c1 => ?_, fun c1 => ⟨fun c2 => ?_, fun c2 => ?_⟩⟩
  · exact ⟨[], [], _, lehN _, bad (fun h => notT c1 h.1) rfl rfl rfl, rfl, rfl⟩
  · exact ⟨[], [], _, lehN _, bad (fun h => by have := h.2.1; have := yes c2; omega) rfl rfl rfl, rfl, rfl⟩
  · have g1 := notF c1
    have g2 : s.size ≤ 254 := by have := no c2; omega
    refine ⟨fun c3 => ?_, fun c3 => ?_⟩
    · have h1 : s.size ≤ 100 := by have := yes c3; omega
      obtain ⟨e1, e2, e3⟩ := hgood1 ⟨g1, g2, .inl h1⟩ h1
      exact ⟨[], [], _, lehN _, le_triple (leS e1.symm) (leS e2.symm) (leI e3.symm), rfl, rfl⟩
    · have h1 : ¬ s.size ≤ 100 := by have := no c3; omega
      refine ⟨Nat, fun k => [(0, str s), (5, int .i64 k)], fun _ => [], fun k => k ≤ s.size ∧ ∀ j, j < k → s.size - 101 ≤ j → ¬ (intsOf s).getD j 0 = 47, fun k => s.size - k,
        ⟨0, [], ⟨Nat.zero_le _, fun j hj => by omega⟩, lehN _, ⟨leS rfl, leI rfl, trivial⟩⟩, ?_⟩
      rintro k ⟨hk, hj⟩
      refine ⟨fun c => ?_, fun c => ?_⟩
      · have f1 : (k : Int) < s.size := yes c
        have e1 : IntKind.i64.wrap ((k : Int) + 1) = ((k + 1 : Nat) : Int) := by rw [w64 (by omega) (by omega)]; omega
        have e2 : IntKind.i64.wrap (IntKind.i64.wrap ((s.size : Int) - k) - 1) = (s.size : Int) - k - 1 := by rw [w64 (n := (s.size : Int) - k) (by omega) (by omega), w64 (by omega) (by omega)]
        have hto : ((k : Int)).toNat = k := by omega
        have q1 : (IntKind.i64.wrap ((k : Int) + 1)).toNat = k + 1 := by rw [e1]; omega
        have next : (s.size - 101 ≤ k → ¬ (intsOf s).getD k 0 = 47) → ∀ j, j < k + 1 → s.size - 101 ≤ j → ¬ (intsOf s).getD j 0 = 47 := fun h j h1 h2 => by
          rcases Nat.lt_or_ge j k with h3 | h3
          · exact hj j h3 h2
          · rw [show j = k by omega] at h2 ⊢; exact h h2
        refine ⟨⟨by omega, f1⟩, fun c4 => ⟨fun c5 => ?_, fun c5 => ?_⟩, fun c4 => ?_⟩
        · have c4 : (intsOf s).getD ((k : Int)).toNat 0 = 47 := yes c4
          have c5 := yes c5
          rw [hto] at c4
          rw [e2] at c5
          obtain rfl := hce h1 hk (by omega) hj (.inr ⟨by omega, c4⟩)
          refine ⟨fun c6 => ?_, fun c6 => ?_⟩
          · exact ⟨[], [], _, lehN _, bad (fun h => by have := (hok.1 h).2.2; have := yes c6; omega) rfl rfl rfl, rfl, rfl⟩
          · obtain ⟨d1, d2, d3⟩ := hgood2 (hok.2 ⟨g1, g2, .inr ⟨by omega, by have := no c6; omega⟩⟩) h1
            refine .inl ⟨⟨by decide +kernel, by decide +kernel⟩, ?_⟩
            refine ⟨⟨by omega, by omega⟩, ?_⟩
            refine ⟨⟨by rw [e1]; omega, by rw [e1]; omega⟩, ?_⟩
            exact ⟨[], [], _, lehN _, le_triple (leS (by rw [d1, hto])) (leS (by rw [d2, q1])) (leI d3.symm), rfl, rfl⟩
        · have c5 := no c5
          rw [e2] at c5
          exact ⟨trivial, k + 1, [], ⟨by show k + 1 ≤ _; omega, next fun h => by omega⟩, by show s.size - (k + 1) < s.size - k; omega, lehN _, ⟨leS rfl, leI e1, trivial⟩⟩
        · have c4 : ¬ (intsOf s).getD ((k : Int)).toNat 0 = 47 := no c4
          rw [hto] at c4
          exact ⟨trivial, k + 1, [], ⟨by show k + 1 ≤ _; omega, next fun h => c4⟩, by show s.size - (k + 1) < s.size - k; omega, lehN _, ⟨leS rfl, leI e1, trivial⟩⟩
      · have f1 : ¬ (k : Int) < s.size := no c
        obtain rfl : k = s.size := by omega
        have hC := hce h1 hk (by omega) hj (.inl rfl)
        exact ⟨[], [], _, lehN _, bad (fun h => by have := (hok.1 h).2.2; omega) rfl rfl rfl, rfl, rfl⟩

def longS (s : ByteArray) : ByteArray := s ++ ⟨#[126, 51, 49, 45, 49, 48, 57, 57, 53, 49, 49, 54, 50, 55, 55, 55, 54]⟩
def hasT (s : ByteArray) : Prop := (126 : UInt8) ∈ s.data.toList
instance (s : ByteArray) : Decidable (hasT s) := by unfold hasT; infer_instance
def okOwn (s : ByteArray) : Prop := okSplit s ∧ s.size ≤ 200 ∧ ¬ hasT s ∧ okSplit (longS s)
instance (s : ByteArray) : Decidable (okOwn s) := by unfold okOwn; infer_instance

end
end Go.Proofs.YtflclafbieokiaaGreatDoor.Pa

/-
  Paths out of two fields: path.Join and the document's.
-/
set_option linter.unusedVariables false
set_option linter.unusedSectionVars false
namespace Go.Proofs.YtflclafbieokiaaGreatDoor.Hd
open Go AL Spl Pa
section
variable [Globs]

def JoinR (p n : ByteArray) (r : AV) (h : List AO) : Prop := r = .tup 2 (pair (str (joinS p n)) (int .i64 (joinE p n))) ∧ h = []

set_option maxHeartbeats 1000000 in
set_option maxRecDepth 10000 in
theorem join_path (p n : ByteArray) (hp : p.size ≤ 281474976710656) (hn : n.size ≤ 281474976710656) : ACalls Tryz.prog 110 [str p, str n] [] (JoinR p n) := by
  obtain ⟨T, hT⟩ : ∃ T, joinT p n = T := ⟨_, rfl⟩
  have hsz : T.size ≤ 9223372036854775805 := by
    rw [← hT]; unfold joinT; split
    · omega
    · rw [ByteArray.size_append, ByteArray.size_append]; show p.size + 1 + n.size ≤ _; omega
  have h1 := split_path T hsz
  unfold JoinR
  refine rcalls Tryz.func110 rfl (by decide) ?_
  refine ⟨fun c => ?_, fun c => ?_⟩
  · have hpe : ¬ p = ByteArray.empty := yes c
    have hTe : p ++ ⟨#[47]⟩ ++ n = T := by rw [← hT]; unfold joinT; rw [if_neg hpe]
    refine ⟨by show p.size + 1 < _; omega, ?_⟩
    refine ⟨by rw [ByteArray.size_append]; show p.size + 1 + n.size < _; omega, ?_⟩
    rw [hTe]
    have h2 := h1
    have hZ : T = T := rfl
    have hl : joinT p n = T := hT
    clear h1
    unfold SplitR at h2
    have hbad : ¬ (errS T = 0 ∧ preS T = p ∧ nameS T = n) → ByteArray.empty = joinS p n ∧ (9 : Int) = joinE p n := fun h => by
      have : ¬ okJoin p n := fun g => h (by
        unfold okJoin at g; rw [hl] at g
        exact ⟨if_pos g.1, g.2⟩)
      unfold joinS joinE; rw [if_neg this, if_neg this]; exact ⟨rfl, rfl⟩
    have hgood : errS T = 0 → preS T = p → nameS T = n → T = joinS p n ∧ (0 : Int) = joinE p n := fun e1 e2 e3 => by
      have : okJoin p n := by
        unfold okJoin; rw [hl]
        refine ⟨Classical.byContradiction fun g => ?_, e2, e3⟩
        unfold errS at e1; rw [if_neg g] at e1; omega
      unfold joinS joinE; rw [if_pos this, if_pos this]; exact ⟨hl.symm, rfl⟩
    generalize errS T = E at *
    generalize preS T = P at *
    generalize nameS T = N at *
    generalize joinS p n = JS at *
    generalize joinE p n = JE at *
    refine ⟨[], _, h2, ?_⟩
    rintro r hh ⟨rfl, rfl⟩
    refine ⟨.inl rfl, ?_⟩
    refine ⟨fun c1 => ?_, fun c1 => ?_⟩
    · obtain ⟨g1, g2⟩ := hbad fun x => yes c1 x.1
      exact ⟨[], [], _, leh0, le_pair (leS g1) (leI g2), rfl, rfl⟩
    refine ⟨fun c2 => ?_, fun c2 => ?_⟩
    · obtain ⟨g1, g2⟩ := hbad fun x => yes c2 x.2.1
      exact ⟨[], [], _, leh0, le_pair (leS g1) (leI g2), rfl, rfl⟩
    refine ⟨fun c3 => ?_, fun c3 => ?_⟩
    · obtain ⟨g1, g2⟩ := hbad fun x => yes c3 x.2.2
      exact ⟨[], [], _, leh0, le_pair (leS g1) (leI g2), rfl, rfl⟩
    have k1 : E = 0 := Classical.byContradiction fun x => no c1 x
    have k2 : P = p := Classical.byContradiction fun x => no c2 x
    have k3 : N = n := Classical.byContradiction fun x => no c3 x
    obtain ⟨g1, g2⟩ := hgood k1 k2 k3
    exact ⟨[], [], _, leh0, le_pair (leS (hZ.trans g1)) (leI g2), rfl, rfl⟩
  · have hpe : p = ByteArray.empty := Classical.byContradiction fun x => no c x
    have hTe : n = T := by rw [← hT]; unfold joinT; rw [if_pos hpe]
    have h2 : ACalls Tryz.prog 89 [str n] [] (SplitR T) := by rw [hTe]; exact h1
    have hZ : n = T := hTe
    have hl : joinT p n = T := hT
    clear h1
    unfold SplitR at h2
    have hbad : ¬ (errS T = 0 ∧ preS T = p ∧ nameS T = n) → ByteArray.empty = joinS p n ∧ (9 : Int) = joinE p n := fun h => by
      have : ¬ okJoin p n := fun g => h (by
        unfold okJoin at g; rw [hl] at g
        exact ⟨if_pos g.1, g.2⟩)
      unfold joinS joinE; rw [if_neg this, if_neg this]; exact ⟨rfl, rfl⟩
    have hgood : errS T = 0 → preS T = p → nameS T = n → T = joinS p n ∧ (0 : Int) = joinE p n := fun e1 e2 e3 => by
      have : okJoin p n := by
        unfold okJoin; rw [hl]
        refine ⟨Classical.byContradiction fun g => ?_, e2, e3⟩
        unfold errS at e1; rw [if_neg g] at e1; omega
      unfold joinS joinE; rw [if_pos this, if_pos this]; exact ⟨hl.symm, rfl⟩
    generalize errS T = E at *
    generalize preS T = P at *
    generalize nameS T = N at *
    generalize joinS p n = JS at *
    generalize joinE p n = JE at *
    refine ⟨[], _, h2, ?_⟩
    rintro r hh ⟨rfl, rfl⟩
    refine ⟨.inl rfl, ?_⟩
    refine ⟨fun c1 => ?_, fun c1 => ?_⟩
    · obtain ⟨g1, g2⟩ := hbad fun x => yes c1 x.1
      exact ⟨[], [], _, leh0, le_pair (leS g1) (leI g2), rfl, rfl⟩
    refine ⟨fun c2 => ?_, fun c2 => ?_⟩
    · obtain ⟨g1, g2⟩ := hbad fun x => yes c2 x.2.1
      exact ⟨[], [], _, leh0, le_pair (leS g1) (leI g2), rfl, rfl⟩
    refine ⟨fun c3 => ?_, fun c3 => ?_⟩
    · obtain ⟨g1, g2⟩ := hbad fun x => yes c3 x.2.2
      exact ⟨[], [], _, leh0, le_pair (leS g1) (leI g2), rfl, rfl⟩
    have k1 : E = 0 := Classical.byContradiction fun x => no c1 x
    have k2 : P = p := Classical.byContradiction fun x => no c2 x
    have k3 : N = n := Classical.byContradiction fun x => no c3 x
    obtain ⟨g1, g2⟩ := hgood k1 k2 k3
    exact ⟨[], [], _, leh0, le_pair (leS (hZ.trans g1)) (leI g2), rfl, rfl⟩

set_option maxHeartbeats 1000000 in
set_option maxRecDepth 10000 in
theorem join_ref (p n : ByteArray) (hp : p.size ≤ 281474976710656) (hn : n.size ≤ 281474976710656) : ACalls Tryz.prog 114 [str p, str n] [] (JoinR p n) := by
  obtain ⟨T, hT⟩ : ∃ T, joinT p n = T := ⟨_, rfl⟩
  have hsz : T.size ≤ 9223372036854775805 := by
    rw [← hT]; unfold joinT; split
    · omega
    · rw [ByteArray.size_append, ByteArray.size_append]; show p.size + 1 + n.size ≤ _; omega
  have h1 := split_ref T hsz
  unfold JoinR
  refine rcalls Tryz.func114 rfl (by decide) ?_
  refine ⟨fun c => ?_, fun c => ?_⟩
  · have hpe : ¬ p = ByteArray.empty := yes c
    have hTe : p ++ ⟨#[47]⟩ ++ n = T := by rw [← hT]; unfold joinT; rw [if_neg hpe]
    refine ⟨by show p.size + 1 < _; omega, ?_⟩
    refine ⟨by rw [ByteArray.size_append]; show p.size + 1 + n.size < _; omega, ?_⟩
    rw [hTe]
    have h2 := h1
    have hZ : T = T := rfl
    have hl : joinT p n = T := hT
    clear h1
    unfold SplitR at h2
    have hbad : ¬ (errS T = 0 ∧ preS T = p ∧ nameS T = n) → ByteArray.empty = joinS p n ∧ (9 : Int) = joinE p n := fun h => by
      have : ¬ okJoin p n := fun g => h (by
        unfold okJoin at g; rw [hl] at g
        exact ⟨if_pos g.1, g.2⟩)
      unfold joinS joinE; rw [if_neg this, if_neg this]; exact ⟨rfl, rfl⟩
    have hgood : errS T = 0 → preS T = p → nameS T = n → T = joinS p n ∧ (0 : Int) = joinE p n := fun e1 e2 e3 => by
      have : okJoin p n := by
        unfold okJoin; rw [hl]
        refine ⟨Classical.byContradiction fun g => ?_, e2, e3⟩
        unfold errS at e1; rw [if_neg g] at e1; omega
      unfold joinS joinE; rw [if_pos this, if_pos this]; exact ⟨hl.symm, rfl⟩
    generalize errS T = E at *
    generalize preS T = P at *
    generalize nameS T = N at *
    generalize joinS p n = JS at *
    generalize joinE p n = JE at *
    refine ⟨[], _, h2, ?_⟩
    rintro r hh ⟨rfl, rfl⟩
    refine ⟨.inl rfl, ?_⟩
    refine ⟨fun c1 => ?_, fun c1 => ?_⟩
    · obtain ⟨g1, g2⟩ := hbad fun x => yes c1 x.1
      exact ⟨[], [], _, leh0, le_pair (leS g1) (leI g2), rfl, rfl⟩
    refine ⟨fun c2 => ?_, fun c2 => ?_⟩
    · obtain ⟨g1, g2⟩ := hbad fun x => yes c2 x.2.1
      exact ⟨[], [], _, leh0, le_pair (leS g1) (leI g2), rfl, rfl⟩
    refine ⟨fun c3 => ?_, fun c3 => ?_⟩
    · obtain ⟨g1, g2⟩ := hbad fun x => yes c3 x.2.2
      exact ⟨[], [], _, leh0, le_pair (leS g1) (leI g2), rfl, rfl⟩
    have k1 : E = 0 := Classical.byContradiction fun x => no c1 x
    have k2 : P = p := Classical.byContradiction fun x => no c2 x
    have k3 : N = n := Classical.byContradiction fun x => no c3 x
    obtain ⟨g1, g2⟩ := hgood k1 k2 k3
    exact ⟨[], [], _, leh0, le_pair (leS (hZ.trans g1)) (leI g2), rfl, rfl⟩
  · have hpe : p = ByteArray.empty := Classical.byContradiction fun x => no c x
    have hTe : n = T := by rw [← hT]; unfold joinT; rw [if_pos hpe]
    have h2 : ACalls Tryz.prog 97 [str n] [] (SplitR T) := by rw [hTe]; exact h1
    have hZ : n = T := hTe
    have hl : joinT p n = T := hT
    clear h1
    unfold SplitR at h2
    have hbad : ¬ (errS T = 0 ∧ preS T = p ∧ nameS T = n) → ByteArray.empty = joinS p n ∧ (9 : Int) = joinE p n := fun h => by
      have : ¬ okJoin p n := fun g => h (by
        unfold okJoin at g; rw [hl] at g
        exact ⟨if_pos g.1, g.2⟩)
      unfold joinS joinE; rw [if_neg this, if_neg this]; exact ⟨rfl, rfl⟩
    have hgood : errS T = 0 → preS T = p → nameS T = n → T = joinS p n ∧ (0 : Int) = joinE p n := fun e1 e2 e3 => by
      have : okJoin p n := by
        unfold okJoin; rw [hl]
        refine ⟨Classical.byContradiction fun g => ?_, e2, e3⟩
        unfold errS at e1; rw [if_neg g] at e1; omega
      unfold joinS joinE; rw [if_pos this, if_pos this]; exact ⟨hl.symm, rfl⟩
    generalize errS T = E at *
    generalize preS T = P at *
    generalize nameS T = N at *
    generalize joinS p n = JS at *
    generalize joinE p n = JE at *
    refine ⟨[], _, h2, ?_⟩
    rintro r hh ⟨rfl, rfl⟩
    refine ⟨.inl rfl, ?_⟩
    refine ⟨fun c1 => ?_, fun c1 => ?_⟩
    · obtain ⟨g1, g2⟩ := hbad fun x => yes c1 x.1
      exact ⟨[], [], _, leh0, le_pair (leS g1) (leI g2), rfl, rfl⟩
    refine ⟨fun c2 => ?_, fun c2 => ?_⟩
    · obtain ⟨g1, g2⟩ := hbad fun x => yes c2 x.2.1
      exact ⟨[], [], _, leh0, le_pair (leS g1) (leI g2), rfl, rfl⟩
    refine ⟨fun c3 => ?_, fun c3 => ?_⟩
    · obtain ⟨g1, g2⟩ := hbad fun x => yes c3 x.2.2
      exact ⟨[], [], _, leh0, le_pair (leS g1) (leI g2), rfl, rfl⟩
    have k1 : E = 0 := Classical.byContradiction fun x => no c1 x
    have k2 : P = p := Classical.byContradiction fun x => no c2 x
    have k3 : N = n := Classical.byContradiction fun x => no c3 x
    obtain ⟨g1, g2⟩ := hgood k1 k2 k3
    exact ⟨[], [], _, leh0, le_pair (leS (hZ.trans g1)) (leI g2), rfl, rfl⟩

end
end Go.Proofs.YtflclafbieokiaaGreatDoor.Hd

/-
  The contracts of header.Put and of the document's.
-/
set_option linter.unusedVariables false
set_option linter.unusedSimpArgs false
set_option linter.unusedSectionVars false
namespace Go.Proofs.YtflclafbieokiaaGreatDoor.Hd
open Go AL Oc Pa
section
variable [Globs]

def HPutR (s : ByteArray) (n : Int) (r : AV) (h : List AO) : Prop := r = .tup 2 (pair (.own 0 0 (headR s n).length 1) (int .i64 (headE s n))) ∧ h = [.ints .u8 (headR s n)]

structure Flds (s : ByteArray) (n : Int) : Prop where
  e0 : textE (nameS s) 100 = 0
  l0 : (textR (nameS s) 100).length = 100
  e1 : putE 420 8 = 0
  l1 : (putR 420 8).length = 8
  e2 : putE 0 8 = 0
  l2 : (putR 0 8).length = 8
  e3 : putE 0 8 = 0
  l3 : (putR 0 8).length = 8
  e4 : putE n 12 = 0
  l4 : (putR n 12).length = 12
  e5 : putE 0 12 = 0
  l5 : (putR 0 12).length = 12
  e6 : textE emp 8 = 0
  l6 : (textR emp 8).length = 8
  e7 : textE flagS 1 = 0
  l7 : (textR flagS 1).length = 1
  e8 : textE emp 100 = 0
  l8 : (textR emp 100).length = 100
  e9 : textE ustarS 6 = 0
  l9 : (textR ustarS 6).length = 6
  e10 : textE zzS 2 = 0
  l10 : (textR zzS 2).length = 2
  e11 : textE emp 32 = 0
  l11 : (textR emp 32).length = 32
  e12 : textE emp 32 = 0
  l12 : (textR emp 32).length = 32
  e13 : putE 0 8 = 0
  l13 : (putR 0 8).length = 8
  e14 : putE 0 8 = 0
  l14 : (putR 0 8).length = 8
  e15 : textE (preS s) 155 = 0
  l15 : (textR (preS s) 155).length = 155
  e16 : textE emp 12 = 0
  l16 : (textR emp 12).length = 12
theorem flds {s : ByteArray} {n : Int} (h : okHd s n) : Flds s n := by
  obtain ⟨a1, a2⟩ := n_len h.1
  obtain ⟨b1, b2⟩ := p_len h.1
  obtain ⟨c1, c2⟩ := num_len (n := n) (w := 12) (by omega) ⟨h.2.1, by have := h.2.2; omega⟩
  exact ⟨a1, a2, by decide +kernel, by decide +kernel, by decide +kernel, by decide +kernel, by decide +kernel, by decide +kernel, c1, c2, by decide +kernel, by decide +kernel, by decide +kernel, by decide +kernel, by decide +kernel, by decide +kernel, by decide +kernel, by decide +kernel, by decide +kernel, by decide +kernel, by decide +kernel, by decide +kernel, by decide +kernel, by decide +kernel, by decide +kernel, by decide +kernel, by decide +kernel, by decide +kernel, by decide +kernel, by decide +kernel, b1, b2, by decide +kernel, by decide +kernel⟩
theorem cat_head (s : ByteArray) (n : Int) : ((((((((((((((((textR (nameS s) 100 ++ putR 420 8) ++ putR 0 8) ++ putR 0 8) ++ putR n 12) ++ putR 0 12) ++ textR emp 8) ++ textR flagS 1) ++ textR emp 100) ++ textR ustarS 6) ++ textR zzS 2) ++ textR emp 32) ++ textR emp 32) ++ putR 0 8) ++ putR 0 8) ++ textR (preS s) 155) ++ textR emp 12) = headB s n (textR emp 8) := by
  unfold headB headZ headY headA
  simp only [List.append_assoc]
theorem head_new {s : ByteArray} {n : Int} {m : List Int} (h : okHd s n) (hm : m.length = 8) : headR s n = (headB s n m).take 148 ++ sumF s n ++ (headB s n m).drop 156 := by
  have ha := a_len h
  unfold headR
  rw [if_pos h]
  unfold headB
  have e1 : (headA s n ++ m ++ headZ s).take 148 = headA s n := by rw [List.append_assoc]; exact first ha
  have e2 : (headA s n ++ m ++ headZ s).drop 156 = headZ s := by
    rw [List.drop_append_of_le_length (by rw [List.length_append]; omega), List.drop_of_length_le (by rw [List.length_append]; omega), List.nil_append]
  rw [e1, e2]

set_option maxHeartbeats 4000000 in
set_option maxRecDepth 10000 in
theorem put_head (s : ByteArray) (n : Int) (hs : s.size ≤ 9223372036854775805) : ACalls Tryz.prog 73 [str s, int .i64 n] [] (HPutR s n) := by
  have hsp := split_path s hs
  unfold SplitR at hsp
  have herr : ¬ okHd s n → headR s n = [] := fun h => if_neg h
  have hE : ¬ errS s = 0 → errS s = headE s n := fun h => by
    have : ¬ okSplit s := fun g => h (if_pos g)
    unfold errS headE; rw [if_neg this, if_pos this]
  have hO : errS s = 0 → okSplit s := fun h => Classical.byContradiction fun g => by unfold errS at h; rw [if_neg g] at h; omega
  have hover : errS s = 0 → (n < 0 ∨ n > 4194304) → headE s n = 8 := fun h g => by unfold headE; rw [if_neg fun x => x (hO h), if_pos g]
  have hgood : errS s = 0 → ¬ (n < 0 ∨ n > 4194304) → okHd s n := fun h g => ⟨hO h, by omega, by omega⟩
  have bad : ∀ h, ¬ okHd s n → ∀ e, e = headE s n → ∃ l h1 b, LeH 0 h l h1 ∧ LeV h l (.tup 2 fun i => [.raw (.slice none 0 0), int .i64 e].getD i .top) b ∧ HPutR s n b h1 := fun h g e he => by
    unfold HPutR; rw [herr g, he]
    exact ⟨[h.length], [.ints .u8 []], _, lehE (Nat.le_refl _) .u8, le_pair (.nil 0 1 (by simp)) (leI rfl), rfl, rfl⟩
  refine rcalls Tryz.func73 rfl (by decide) ?_
  refine ⟨[], _, hsp, ?_⟩
  rintro r hh ⟨rfl, rfl⟩
  refine ⟨.inl rfl, ?_⟩
  refine ⟨fun c1 => ?_, fun c1 => ?_⟩
  · exact bad _ (fun h => yes c1 (if_pos h.1)) _ (hE (yes c1))
  have f1 : errS s = 0 := Classical.byContradiction fun x => no c1 x
  refine ⟨fun c2 => ?_, fun c2 => ?_⟩
  · have f2 : n < 0 := yes c2
    exact bad _ (fun h => by have := h.2.1; omega) _ (hover f1 (.inl f2)).symm
  have f2 : ¬ n < 0 := no c2
  refine ⟨fun c3 => ?_, fun c3 => ?_⟩
  · have f3 : n > 4194304 := yes c3
    exact bad _ (fun h => by have := h.2.2; omega) _ (hover f1 (.inr f3)).symm
  have f3 : ¬ n > 4194304 := no c3
  have ok := hgood f1 (by omega)
  obtain ⟨e0, l0, e1, l1, e2, l2, e3, l3, e4, l4, e5, l5, e6, l6, e7, l7, e8, l8, e9, l9, e10, l10, e11, l11, e12, l12, e13, l13, e14, l14, e15, l15, e16, l16⟩ := flds ok
  obtain ⟨p1, p2⟩ := pre_size ok.1
  have hcat := cat_head s n
  have r6 := q_text emp 8
  have hE0 : headE s n = 0 := headE_iff.2 ok
  have k0 := text_first (nameS s) 100 (by omega) e0 (by omega)
  have k1 := fun xs hx => num_next 420 8 xs hx e1 (by omega)
  have k2 := fun xs hx => num_next 0 8 xs hx e2 (by omega)
  have k3 := fun xs hx => num_next 0 8 xs hx e3 (by omega)
  have k4 := fun xs hx => num_next n 12 xs hx e4 (by omega)
  have k5 := fun xs hx => num_next 0 12 xs hx e5 (by omega)
  have k6 := fun xs hx => text_next emp 8 xs hx (by decide) e6 (by omega)
  have k7 := fun xs hx => text_next flagS 1 xs hx (by decide) e7 (by omega)
  have k8 := fun xs hx => text_next emp 100 xs hx (by decide) e8 (by omega)
  have k9 := fun xs hx => text_next ustarS 6 xs hx (by decide) e9 (by omega)
  have k10 := fun xs hx => text_next zzS 2 xs hx (by decide) e10 (by omega)
  have k11 := fun xs hx => text_next emp 32 xs hx (by decide) e11 (by omega)
  have k12 := fun xs hx => text_next emp 32 xs hx (by decide) e12 (by omega)
  have k13 := fun xs hx => num_next 0 8 xs hx e13 (by omega)
  have k14 := fun xs hx => num_next 0 8 xs hx e14 (by omega)
  have k15 := fun xs hx => text_next (preS s) 155 xs hx (by omega) e15 (by omega)
  have k16 := fun xs hx => text_next emp 12 xs hx (by decide) e16 (by omega)
  generalize textR (nameS s) 100 = F0 at *
  generalize putR 420 8 = F1 at *
  generalize putR 0 8 = F2 at *
  generalize putR n 12 = F4 at *
  generalize putR 0 12 = F5 at *
  generalize textR emp 8 = F6 at *
  generalize textR flagS 1 = F7 at *
  generalize textR emp 100 = F8 at *
  generalize textR ustarS 6 = F9 at *
  generalize textR zzS 2 = F10 at *
  generalize textR emp 32 = F11 at *
  generalize textR (preS s) 155 = F15 at *
  generalize textR emp 12 = F16 at *
  refine ⟨[], _, laid_prog, ?_⟩
  rintro r hh ⟨rfl, rfl⟩
  refine ⟨.inl rfl, ?_⟩
  refine ⟨[0, 1], _, k0, ?_⟩
  rintro r hh ⟨rfl, rfl⟩
  refine ⟨.inl rfl, ?_⟩
  refine ⟨[0, 1, 2], _, k1 _ (by simp only [List.length_append, l0, l1, l2, l4, l5, l6, l7, l8, l9, l10, l11, l15, l16]; decide), ?_⟩
  rintro r hh ⟨rfl, rfl⟩
  refine ⟨.inl rfl, ?_⟩
  refine ⟨[0, 1, 3], _, k2 _ (by simp only [List.length_append, l0, l1, l2, l4, l5, l6, l7, l8, l9, l10, l11, l15, l16]; decide), ?_⟩
  rintro r hh ⟨rfl, rfl⟩
  refine ⟨.inl rfl, ?_⟩
  refine ⟨[0, 1, 4], _, k3 _ (by simp only [List.length_append, l0, l1, l2, l4, l5, l6, l7, l8, l9, l10, l11, l15, l16]; decide), ?_⟩
  rintro r hh ⟨rfl, rfl⟩
  refine ⟨.inl rfl, ?_⟩
  refine ⟨[0, 1, 5], _, k4 _ (by simp only [List.length_append, l0, l1, l2, l4, l5, l6, l7, l8, l9, l10, l11, l15, l16]; decide), ?_⟩
  rintro r hh ⟨rfl, rfl⟩
  refine ⟨.inl rfl, ?_⟩
  refine ⟨[0, 1, 6], _, k5 _ (by simp only [List.length_append, l0, l1, l2, l4, l5, l6, l7, l8, l9, l10, l11, l15, l16]; decide), ?_⟩
  rintro r hh ⟨rfl, rfl⟩
  refine ⟨.inl rfl, ?_⟩
  refine ⟨[0, 1, 7], _, k6 _ (by simp only [List.length_append, l0, l1, l2, l4, l5, l6, l7, l8, l9, l10, l11, l15, l16]; decide), ?_⟩
  rintro r hh ⟨rfl, rfl⟩
  refine ⟨.inl rfl, ?_⟩
  refine ⟨[0, 1, 8], _, k7 _ (by simp only [List.length_append, l0, l1, l2, l4, l5, l6, l7, l8, l9, l10, l11, l15, l16]; decide), ?_⟩
  rintro r hh ⟨rfl, rfl⟩
  refine ⟨.inl rfl, ?_⟩
  refine ⟨[0, 1, 9], _, k8 _ (by simp only [List.length_append, l0, l1, l2, l4, l5, l6, l7, l8, l9, l10, l11, l15, l16]; decide), ?_⟩
  rintro r hh ⟨rfl, rfl⟩
  refine ⟨.inl rfl, ?_⟩
  refine ⟨[0, 1, 10], _, k9 _ (by simp only [List.length_append, l0, l1, l2, l4, l5, l6, l7, l8, l9, l10, l11, l15, l16]; decide), ?_⟩
  rintro r hh ⟨rfl, rfl⟩
  refine ⟨.inl rfl, ?_⟩
  refine ⟨[0, 1, 11], _, k10 _ (by simp only [List.length_append, l0, l1, l2, l4, l5, l6, l7, l8, l9, l10, l11, l15, l16]; decide), ?_⟩
  rintro r hh ⟨rfl, rfl⟩
  refine ⟨.inl rfl, ?_⟩
  refine ⟨[0, 1, 12], _, k11 _ (by simp only [List.length_append, l0, l1, l2, l4, l5, l6, l7, l8, l9, l10, l11, l15, l16]; decide), ?_⟩
  rintro r hh ⟨rfl, rfl⟩
  refine ⟨.inl rfl, ?_⟩
  refine ⟨[0, 1, 13], _, k12 _ (by simp only [List.length_append, l0, l1, l2, l4, l5, l6, l7, l8, l9, l10, l11, l15, l16]; decide), ?_⟩
  rintro r hh ⟨rfl, rfl⟩
  refine ⟨.inl rfl, ?_⟩
  refine ⟨[0, 1, 14], _, k13 _ (by simp only [List.length_append, l0, l1, l2, l4, l5, l6, l7, l8, l9, l10, l11, l15, l16]; decide), ?_⟩
  rintro r hh ⟨rfl, rfl⟩
  refine ⟨.inl rfl, ?_⟩
  refine ⟨[0, 1, 15], _, k14 _ (by simp only [List.length_append, l0, l1, l2, l4, l5, l6, l7, l8, l9, l10, l11, l15, l16]; decide), ?_⟩
  rintro r hh ⟨rfl, rfl⟩
  refine ⟨.inl rfl, ?_⟩
  refine ⟨[0, 1, 16], _, k15 _ (by simp only [List.length_append, l0, l1, l2, l4, l5, l6, l7, l8, l9, l10, l11, l15, l16]; decide), ?_⟩
  rintro r hh ⟨rfl, rfl⟩
  refine ⟨.inl rfl, ?_⟩
  refine ⟨[0, 1, 17], _, k16 _ (by simp only [List.length_append, l0, l1, l2, l4, l5, l6, l7, l8, l9, l10, l11, l15, l16]; decide), ?_⟩
  rintro r hh ⟨rfl, rfl⟩
  refine ⟨.inl rfl, ?_⟩
  refine ⟨[0, 18], _, told_prog _, ?_⟩
  rintro r hh ⟨rfl, rfl⟩
  refine ⟨.inl rfl, ?_⟩
  rw [hcat]
  have lB := b_len (s := s) (n := n) (m := F6) ok l6
  have rB := b_range (s := s) (n := n) (m := F6) r6
  have cB : chk (headB s n F6) (headB s n F6).length = headS s n := by
    rw [lB]; exact chk_congr fun i _ => head_get ok l6 (by simp) i
  have fB : headR s n = (headB s n F6).take 148 ++ sumF s n ++ (headB s n F6).drop 156 := head_new ok l6
  have hsum := sum_len ok
  have hput := put_own (headS s n) 7 hsum.1
  have hchk := check_prog (headB s n F6) rB (by rw [lB]; decide)
  have lQ : (putR (headS s n) 7).length = 7 := by have := hsum.2; unfold sumF at this; rw [List.length_append] at this; simpa using this
  unfold sumF at fB
  unfold PutO at hput
  rw [cB] at hchk
  clear hcat k0 k1 k2 k3 k4 k5 k6 k7 k8 k9 k10 k11 k12 k13 k14 k15 k16 cB hsum
  unfold HPutR
  rw [hE0]
  generalize headB s n F6 = B at *
  generalize headS s n = Z at *
  generalize putR Z 7 = Q at *
  have hchk2 : ACalls Tryz.prog 92 [.roI .u8 ((B.drop 0).take B.length)] [] (fun r h => r = int .i64 Z ∧ h = []) := by rw [List.drop_zero, List.take_length]; exact hchk
  refine ⟨[], _, by omega, hchk2, ?_⟩
  rintro r hh ⟨rfl, rfl⟩
  refine ⟨.inr ⟨trivial, fun o ho => by cases ho⟩, ?_⟩
  refine ⟨[], _, hput, ?_⟩
  rintro r hh ⟨rfl, rfl⟩
  refine ⟨.inl rfl, ?_⟩
  refine .inr ⟨5, by decide +kernel, ?_⟩
  refine ⟨_, rfl, ?_⟩
  refine ⟨_, ⟨⟨by omega, by omega⟩, rfl⟩, ?_⟩
  refine ⟨_, rfl, ?_⟩
  refine ⟨_, rfl, ?_⟩
  refine ⟨_, _, ⟨rfl, by show (Q.length + 1) * 1 ≤ _; omega, rfl, rfl⟩, ?_⟩
  refine ⟨by unfold addOff; simp [lB], by simp, ?_⟩
  refine ⟨[18], [.ints .u8 (headR s n)], .tup 2 (pair (.own 0 0 (headR s n).length 1) (int .i64 0)), leh1 rfl (leOint ?_), le_pair (leOwn rfl rfl ?_) (leI rfl), rfl, rfl⟩
  · have eS : List.take (Q.length + [(32 : Int)].length) (List.drop 0 (Q ++ [32])) = Q ++ [32] := by rw [List.drop_zero, List.take_of_length_le (by simp)]
    have lS : (Q ++ [(32 : Int)]).length = 8 := by simp [lQ]
    rw [eS, fB, lB, lS, show addOff 0 (Int.toNat 148) 1 = 148 from rfl, show Int.toNat 148 = 148 from rfl, List.take_of_length_le (l := Q ++ [(32 : Int)]) (by omega)]
    rfl
  · rw [lB, head_len ok]
end
end Go.Proofs.YtflclafbieokiaaGreatDoor.Hd

/-
  The contract of the document's header.
-/
set_option linter.unusedVariables false
set_option linter.unusedSimpArgs false
set_option linter.unusedSectionVars false
namespace Go.Proofs.YtflclafbieokiaaGreatDoor.Hd
open Go AL Oc Pa
section
variable [Globs]

theorem cat_ref (s : ByteArray) (n : Int) : ((((((((((((((((([] ++ textR (nameS s) 100) ++ putR 420 8) ++ putR 0 8) ++ putR 0 8) ++ putR n 12) ++ putR 0 12) ++ textR ⟨#[32, 32, 32, 32, 32, 32, 32, 32]⟩ 8) ++ textR flagS 1) ++ textR emp 100) ++ textR ustarS 6) ++ textR zzS 2) ++ textR emp 32) ++ textR emp 32) ++ putR 0 8) ++ putR 0 8) ++ textR (preS s) 155) ++ textR emp 12) = headB s n (textR ⟨#[32, 32, 32, 32, 32, 32, 32, 32]⟩ 8) := by
  unfold headB headZ headY headA
  simp only [List.append_assoc, List.nil_append]
def rowJ (B S : List Int) (j : Nat) : List Int := B.take 148 ++ S.take j ++ B.drop (148 + j)
theorem rowJ_len {B S : List Int} {j : Nat} (hb : B.length = 512) (hs : S.length = 8) (hj : j ≤ 8) : (rowJ B S j).length = 512 := by
  unfold rowJ
  simp only [List.length_append, List.length_take, List.length_drop]
  omega
theorem rowJ_set {B S : List Int} {j : Nat} (hb : B.length = 512) (hs : S.length = 8) (hj : j < 8) : (rowJ B S j).set (148 + j) (S.getD j 0) = rowJ B S (j + 1) := by
  unfold rowJ
  have e1 : (B.take 148 ++ S.take j).length = 148 + j := by simp only [List.length_append, List.length_take]; omega
  have e2 : B.drop (148 + j) = B[148 + j]'(by omega) :: B.drop (148 + j + 1) := List.drop_eq_getElem_cons (by omega)
  rw [List.set_append_right _ _ (by omega), e1, Nat.sub_self, e2, List.set_cons_zero]
  have e3 : S.take (j + 1) = S.take j ++ [S.getD j 0] := by
    rw [List.take_add_one, List.getD_eq_getElem?_getD, List.getElem?_eq_getElem (by omega)]; rfl
  rw [e3]
  simp [Nat.add_assoc]
theorem own_text7 (s : ByteArray) (w : Int) (hs : s.size ≤ 9223372036854775806) (hw : (textR s w).length ≤ 1000) (xs : List Int) (hx : xs.length ≤ 1000000) : ACalls Tryz.prog 98 [.roI .u8 ((xs.drop 0).take xs.length), str s, int .i64 w] []
    (fun r h => r = .own 0 0 (xs ++ textR s w).length 1 ∧ h = [.ints .u8 (xs ++ textR s w)]) := by
  rw [List.drop_zero, List.take_length]; exact text7_ref xs s w hs hx hw
theorem own_num7 (n w : Int) (hn : n < 9223372036854775808) (hw : (putR n w).length ≤ 1000) (xs : List Int) (hx : xs.length ≤ 1000000) : ACalls Tryz.prog 99 [.roI .u8 ((xs.drop 0).take xs.length), int .i64 n, int .i64 w] []
    (fun r h => r = .own 0 0 (xs ++ putR n w).length 1 ∧ h = [.ints .u8 (xs ++ putR n w)]) := by
  rw [List.drop_zero, List.take_length]; exact num7_ref xs n w hn hx hw

theorem nil_text7 (s : ByteArray) (w : Int) (hs : s.size ≤ 9223372036854775806) (hw : (textR s w).length ≤ 1000) : ACalls Tryz.prog 98 [.raw (.slice none 0 0), str s, int .i64 w] []
    (fun r h => r = .own 0 0 ([] ++ textR s w).length 1 ∧ h = [.ints .u8 ([] ++ textR s w)]) :=
  (text7_ref [] s w hs (by decide) hw).args ⟨vnil .u8, .refl _, .refl _, trivial⟩
theorem nil_num7 (n w : Int) (hn : n < 9223372036854775808) (hw : (putR n w).length ≤ 1000) : ACalls Tryz.prog 99 [.raw (.slice none 0 0), int .i64 n, int .i64 w] []
    (fun r h => r = .own 0 0 ([] ++ putR n w).length 1 ∧ h = [.ints .u8 ([] ++ putR n w)]) :=
  (num7_ref [] n w hn (by decide) hw).args ⟨vnil .u8, .refl _, .refl _, trivial⟩

set_option maxHeartbeats 4000000 in
set_option maxRecDepth 10000 in
theorem put_rhead (s : ByteArray) (n : Int) (hs : s.size ≤ 9223372036854775805) : ACalls Tryz.prog 79 [str s, int .i64 n] [] (HPutR s n) := by
  have hsp := split_ref s hs
  unfold SplitR at hsp
  have herr : ¬ okHd s n → headR s n = [] := fun h => if_neg h
  have hE : ¬ errS s = 0 → errS s = headE s n := fun h => by
    have : ¬ okSplit s := fun g => h (if_pos g)
    unfold errS headE; rw [if_neg this, if_pos this]
  have hO : errS s = 0 → okSplit s := fun h => Classical.byContradiction fun g => by unfold errS at h; rw [if_neg g] at h; omega
  have hover : errS s = 0 → (n < 0 ∨ n > 4194304) → headE s n = 8 := fun h g => by unfold headE; rw [if_neg fun x => x (hO h), if_pos g]
  have hgood : errS s = 0 → ¬ (n < 0 ∨ n > 4194304) → okHd s n := fun h g => ⟨hO h, by omega, by omega⟩
  have bad : ∀ h, ¬ okHd s n → ∀ e, e = headE s n → ∃ l h1 b, LeH 0 h l h1 ∧ LeV h l (.tup 2 fun i => [.raw (.slice none 0 0), int .i64 e].getD i .top) b ∧ HPutR s n b h1 := fun h g e he => by
    unfold HPutR; rw [herr g, he]
    exact ⟨[h.length], [.ints .u8 []], _, lehE (Nat.le_refl _) .u8, le_pair (.nil 0 1 (by simp)) (leI rfl), rfl, rfl⟩
  refine rcalls Tryz.func79 rfl (by decide) ?_
  refine ⟨[], _, hsp, ?_⟩
  rintro r hh ⟨rfl, rfl⟩
  refine ⟨.inl rfl, ?_⟩
  refine ⟨fun c1 => ?_, fun c1 => ?_⟩
  · exact bad _ (fun h => yes c1 (if_pos h.1)) _ (hE (yes c1))
  have f1 : errS s = 0 := Classical.byContradiction fun x => no c1 x
  refine ⟨fun c2 => ?_, fun c2 => ?_⟩
  · have f2 : n < 0 := yes c2
    exact bad _ (fun h => by have := h.2.1; omega) _ (hover f1 (.inl f2)).symm
  have f2 : ¬ n < 0 := no c2
  refine ⟨fun c3 => ?_, fun c3 => ?_⟩
  · have f3 : n > 4194304 := yes c3
    exact bad _ (fun h => by have := h.2.2; omega) _ (hover f1 (.inr f3)).symm
  have f3 : ¬ n > 4194304 := no c3
  have ok := hgood f1 (by omega)
  obtain ⟨e0, l0, e1, l1, e2, l2, e3, l3, e4, l4, e5, l5, e6, l6, e7, l7, e8, l8, e9, l9, e10, l10, e11, l11, e12, l12, e13, l13, e14, l14, e15, l15, e16, l16⟩ := flds ok
  obtain ⟨p1, p2⟩ := pre_size ok.1
  have m6 : (textR ⟨#[32, 32, 32, 32, 32, 32, 32, 32]⟩ 8).length = 8 := by decide +kernel
  have hcat := cat_ref s n
  have r6 := q_text ⟨#[32, 32, 32, 32, 32, 32, 32, 32]⟩ 8
  have hE0 : headE s n = 0 := headE_iff.2 ok
  have k0 := nil_text7 (nameS s) 100 (by omega) (by omega)
  have k1 := own_num7 420 8 (by omega) (by omega)
  have k2 := own_num7 0 8 (by omega) (by omega)
  have k3 := own_num7 0 8 (by omega) (by omega)
  have k4 := own_num7 n 12 (by omega) (by omega)
  have k5 := own_num7 0 12 (by omega) (by omega)
  have k6 := own_text7 ⟨#[32, 32, 32, 32, 32, 32, 32, 32]⟩ 8 (by decide) (by omega)
  have k7 := own_text7 flagS 1 (by decide) (by omega)
  have k8 := own_text7 emp 100 (by decide) (by omega)
  have k9 := own_text7 ustarS 6 (by decide) (by omega)
  have k10 := own_text7 zzS 2 (by decide) (by omega)
  have k11 := own_text7 emp 32 (by decide) (by omega)
  have k12 := own_text7 emp 32 (by decide) (by omega)
  have k13 := own_num7 0 8 (by omega) (by omega)
  have k14 := own_num7 0 8 (by omega) (by omega)
  have k15 := own_text7 (preS s) 155 (by omega) (by omega)
  have k16 := own_text7 emp 12 (by decide) (by omega)
  clear l6 e6
  have l6 := m6
  generalize textR (nameS s) 100 = F0 at *
  generalize putR 420 8 = F1 at *
  generalize putR 0 8 = F2 at *
  generalize putR n 12 = F4 at *
  generalize putR 0 12 = F5 at *
  generalize textR ⟨#[32, 32, 32, 32, 32, 32, 32, 32]⟩ 8 = F6 at *
  generalize textR flagS 1 = F7 at *
  generalize textR emp 100 = F8 at *
  generalize textR ustarS 6 = F9 at *
  generalize textR zzS 2 = F10 at *
  generalize textR emp 32 = F11 at *
  generalize textR (preS s) 155 = F15 at *
  generalize textR emp 12 = F16 at *
  refine ⟨[], _, k0, ?_⟩
  rintro r hh ⟨rfl, rfl⟩
  refine ⟨.inl rfl, ?_⟩
  refine ⟨[], _, by omega, k1 _ (by simp only [List.length_append, List.length_nil, l0, l1, l2, l4, l5, l6, l7, l8, l9, l10, l11, l15, l16]; decide), ?_⟩
  rintro r hh ⟨rfl, rfl⟩
  refine ⟨.inr ⟨trivial, fun o ho => by obtain rfl := List.mem_singleton.1 ho; trivial⟩, ?_⟩
  refine ⟨[], _, by omega, k2 _ (by simp only [List.length_append, List.length_nil, l0, l1, l2, l4, l5, l6, l7, l8, l9, l10, l11, l15, l16]; decide), ?_⟩
  rintro r hh ⟨rfl, rfl⟩
  refine ⟨.inr ⟨trivial, fun o ho => by obtain rfl := List.mem_singleton.1 ho; trivial⟩, ?_⟩
  refine ⟨[], _, by omega, k3 _ (by simp only [List.length_append, List.length_nil, l0, l1, l2, l4, l5, l6, l7, l8, l9, l10, l11, l15, l16]; decide), ?_⟩
  rintro r hh ⟨rfl, rfl⟩
  refine ⟨.inr ⟨trivial, fun o ho => by obtain rfl := List.mem_singleton.1 ho; trivial⟩, ?_⟩
  refine ⟨[], _, by omega, k4 _ (by simp only [List.length_append, List.length_nil, l0, l1, l2, l4, l5, l6, l7, l8, l9, l10, l11, l15, l16]; decide), ?_⟩
  rintro r hh ⟨rfl, rfl⟩
  refine ⟨.inr ⟨trivial, fun o ho => by obtain rfl := List.mem_singleton.1 ho; trivial⟩, ?_⟩
  refine ⟨[], _, by omega, k5 _ (by simp only [List.length_append, List.length_nil, l0, l1, l2, l4, l5, l6, l7, l8, l9, l10, l11, l15, l16]; decide), ?_⟩
  rintro r hh ⟨rfl, rfl⟩
  refine ⟨.inr ⟨trivial, fun o ho => by obtain rfl := List.mem_singleton.1 ho; trivial⟩, ?_⟩
  refine ⟨[], _, by omega, k6 _ (by simp only [List.length_append, List.length_nil, l0, l1, l2, l4, l5, l6, l7, l8, l9, l10, l11, l15, l16]; decide), ?_⟩
  rintro r hh ⟨rfl, rfl⟩
  refine ⟨.inr ⟨trivial, fun o ho => by obtain rfl := List.mem_singleton.1 ho; trivial⟩, ?_⟩
  refine ⟨[], _, by omega, k7 _ (by simp only [List.length_append, List.length_nil, l0, l1, l2, l4, l5, l6, l7, l8, l9, l10, l11, l15, l16]; decide), ?_⟩
  rintro r hh ⟨rfl, rfl⟩
  refine ⟨.inr ⟨trivial, fun o ho => by obtain rfl := List.mem_singleton.1 ho; trivial⟩, ?_⟩
  refine ⟨[], _, by omega, k8 _ (by simp only [List.length_append, List.length_nil, l0, l1, l2, l4, l5, l6, l7, l8, l9, l10, l11, l15, l16]; decide), ?_⟩
  rintro r hh ⟨rfl, rfl⟩
  refine ⟨.inr ⟨trivial, fun o ho => by obtain rfl := List.mem_singleton.1 ho; trivial⟩, ?_⟩
  refine ⟨[], _, by omega, k9 _ (by simp only [List.length_append, List.length_nil, l0, l1, l2, l4, l5, l6, l7, l8, l9, l10, l11, l15, l16]; decide), ?_⟩
  rintro r hh ⟨rfl, rfl⟩
  refine ⟨.inr ⟨trivial, fun o ho => by obtain rfl := List.mem_singleton.1 ho; trivial⟩, ?_⟩
  refine ⟨[], _, by omega, k10 _ (by simp only [List.length_append, List.length_nil, l0, l1, l2, l4, l5, l6, l7, l8, l9, l10, l11, l15, l16]; decide), ?_⟩
  rintro r hh ⟨rfl, rfl⟩
  refine ⟨.inr ⟨trivial, fun o ho => by obtain rfl := List.mem_singleton.1 ho; trivial⟩, ?_⟩
  refine ⟨[], _, by omega, k11 _ (by simp only [List.length_append, List.length_nil, l0, l1, l2, l4, l5, l6, l7, l8, l9, l10, l11, l15, l16]; decide), ?_⟩
  rintro r hh ⟨rfl, rfl⟩
  refine ⟨.inr ⟨trivial, fun o ho => by obtain rfl := List.mem_singleton.1 ho; trivial⟩, ?_⟩
  refine ⟨[], _, by omega, k12 _ (by simp only [List.length_append, List.length_nil, l0, l1, l2, l4, l5, l6, l7, l8, l9, l10, l11, l15, l16]; decide), ?_⟩
  rintro r hh ⟨rfl, rfl⟩
  refine ⟨.inr ⟨trivial, fun o ho => by obtain rfl := List.mem_singleton.1 ho; trivial⟩, ?_⟩
  refine ⟨[], _, by omega, k13 _ (by simp only [List.length_append, List.length_nil, l0, l1, l2, l4, l5, l6, l7, l8, l9, l10, l11, l15, l16]; decide), ?_⟩
  rintro r hh ⟨rfl, rfl⟩
  refine ⟨.inr ⟨trivial, fun o ho => by obtain rfl := List.mem_singleton.1 ho; trivial⟩, ?_⟩
  refine ⟨[], _, by omega, k14 _ (by simp only [List.length_append, List.length_nil, l0, l1, l2, l4, l5, l6, l7, l8, l9, l10, l11, l15, l16]; decide), ?_⟩
  rintro r hh ⟨rfl, rfl⟩
  refine ⟨.inr ⟨trivial, fun o ho => by obtain rfl := List.mem_singleton.1 ho; trivial⟩, ?_⟩
  refine ⟨[], _, by omega, k15 _ (by simp only [List.length_append, List.length_nil, l0, l1, l2, l4, l5, l6, l7, l8, l9, l10, l11, l15, l16]; decide), ?_⟩
  rintro r hh ⟨rfl, rfl⟩
  refine ⟨.inr ⟨trivial, fun o ho => by obtain rfl := List.mem_singleton.1 ho; trivial⟩, ?_⟩
  refine ⟨[], _, by omega, k16 _ (by simp only [List.length_append, List.length_nil, l0, l1, l2, l4, l5, l6, l7, l8, l9, l10, l11, l15, l16]; decide), ?_⟩
  rintro r hh ⟨rfl, rfl⟩
  refine ⟨.inr ⟨trivial, fun o ho => by obtain rfl := List.mem_singleton.1 ho; trivial⟩, ?_⟩
  rw [hcat]
  have lB := b_len (s := s) (n := n) (m := F6) ok l6
  have rB := b_range (s := s) (n := n) (m := F6) r6
  have cB : chk (headB s n F6) (headB s n F6).length = headS s n := by
    rw [lB]; exact chk_congr fun i _ => head_get ok l6 (by simp) i
  have fB : headR s n = (headB s n F6).take 148 ++ sumF s n ++ (headB s n F6).drop 156 := head_new ok l6
  have hsum := sum_len ok
  have hZ := s_range ok
  have lQ : (putR (headS s n) 7).length = 7 := by have := hsum.2; unfold sumF at this; rw [List.length_append] at this; simpa using this
  have hput := nil_num7 (headS s n) 7 (by omega) (by omega)
  have hchk := check_ref (headB s n F6) rB (by rw [lB]; decide)
  unfold sumF at fB
  rw [cB] at hchk
  clear hcat k0 k1 k2 k3 k4 k5 k6 k7 k8 k9 k10 k11 k12 k13 k14 k15 k16 cB hsum
  unfold HPutR
  rw [hE0]
  generalize headB s n F6 = B at *
  generalize headS s n = Z at *
  generalize putR Z 7 = Q at *
  have hchk2 : ACalls Tryz.prog 100 [.roI .u8 ((B.drop 0).take B.length)] [] (fun r h => r = int .i64 Z ∧ h = []) := by rw [List.drop_zero, List.take_length]; exact hchk
  refine ⟨[], _, by omega, hchk2, ?_⟩
  rintro r hh ⟨rfl, rfl⟩
  refine ⟨.inr ⟨trivial, fun o ho => by cases ho⟩, ?_⟩
  refine ⟨[], _, hput, ?_⟩
  rintro r hh ⟨rfl, rfl⟩
  refine ⟨.inl rfl, ?_⟩
  refine ⟨rfl, by simp, by show (([] ++ Q).length + _) * 1 ≤ _; simp [lQ], ?_⟩
  obtain ⟨SS, hSS⟩ : ∃ SS, SS = Q ++ [(32 : Int)] := ⟨_, rfl⟩
  have lS : SS.length = 8 := by rw [hSS]; simp [lQ]
  refine ⟨Nat, fun j => [(9, .own 0 0 512 1), (10, .own 1 0 8 1), (11, int .i64 j)], fun j => [.ints .u8 (rowJ B SS j), .ints .u8 SS], fun j => j ≤ 8, fun j => 8 - j,
    ⟨0, [16, 19], by omega, leh2 (by decide) rfl rfl (leOint ?_) (leOint ?_), ⟨leOwn rfl rfl ?_, leOwn rfl rfl ?_, leI rfl, trivial⟩⟩, fun j hj => ?_⟩
  · unfold rowJ; rw [List.take_zero, List.append_nil]; exact (List.take_append_drop 148 B).symm
  · rw [hSS]; rfl
  · rw [lB]
  · show ([] ++ Q).length + 1 = 8; simp [lQ]
  have hj : j ≤ 8 := hj
  have hrl := rowJ_len lB lS hj
  refine ⟨fun c4 => ?_, fun c4 => ?_⟩
  · have f4 : (j : Int) < 8 := yes c4
    have e1 : IntKind.i64.wrap ((j : Int) + 1) = ((j + 1 : Nat) : Int) := by rw [w64 (by omega) (by omega)]; omega
    have e2 : IntKind.i64.wrap (148 + (j : Int)) = ((148 + j : Nat) : Int) := by rw [w64 (by omega) (by omega)]; omega
    refine ⟨⟨by omega, by omega⟩, ?_⟩
    have a1 : addOff 0 (j : Int).toNat 1 = j := by unfold addOff; omega
    have a2 : addOff 0 (IntKind.i64.wrap (148 + (j : Int))).toNat 1 = 148 + j := by rw [e2]; unfold addOff; omega
    refine ⟨by rw [a1]; omega, ?_⟩
    refine ⟨⟨by omega, by omega⟩, ?_⟩
    refine ⟨by rw [a2]; omega, ?_⟩
    refine ⟨trivial, j + 1, [0, 1], by show j + 1 ≤ 8; omega, by show 8 - (j + 1) < 8 - j; omega, leh2 (by decide) rfl rfl (leOint ?_) (leOint rfl), ⟨leOwn rfl rfl rfl, leOwn rfl rfl rfl, leI e1, trivial⟩⟩
    rw [a1, a2]; exact rowJ_set lB lS (by omega)
  · have f4 : ¬ (j : Int) < 8 := no c4
    obtain rfl : j = 8 := by omega
    refine ⟨[0], [.ints .u8 (headR s n)], .tup 2 (pair (.own 0 0 (headR s n).length 1) (int .i64 0)), leh1 rfl (leOint ?_), le_pair (leOwn rfl rfl ?_) (leI rfl), rfl, rfl⟩
    · rw [fB, ← hSS]; unfold rowJ; rw [List.take_of_length_le (l := SS) (by omega)]
    · rw [head_len ok]
end
end Go.Proofs.YtflclafbieokiaaGreatDoor.Hd

/-
  The contract of the reference of octal.Get.
-/
set_option linter.unusedVariables false
set_option linter.unusedSectionVars false
namespace Go.Proofs.YtflclafbieokiaaGreatDoor.Oc
open Go AL
section
variable [Globs]

set_option maxHeartbeats 1000000 in
set_option maxRecDepth 10000 in
theorem get_ref (xs : List Int) (hx : ∀ x ∈ xs, 0 ≤ x ∧ x < 256) (hl : xs.length ≤ 9223372036854775807) : ACalls Tryz.prog 113 [.roI .u8 xs] [] (GetR xs) := by
  refine rcalls Tryz.func113 rfl (by decide) ?_
  have bad : ∀ h, ¬ valid xs → ∃ l h1 b, LeH 0 h l h1 ∧ LeV h l (.tup 2 fun i => [int .i64 0, int .i64 2].getD i .top) b ∧ GetR xs b h1 := fun h hv =>
    ⟨[], [], _, lehN _, le_pair (leI (get_no hv).1.symm) (leI (get_no hv).2.symm), rfl, rfl⟩
  -- behind the loop
  have back : ∀ k : Nat, k ≤ 12 → (xs.length - 1 ≤ k ∨ k = 12) → (k + 1 ≤ xs.length ∨ k = 0) → putE (acr xs k) xs.length = 0 → putR (acr xs k) xs.length = xs → valid xs ∧ acr xs k = acc xs (xs.length - 1) := fun k hk1 hk2 hk3 he hr => by
    have hf := put_field he
    rw [hr] at hf
    refine ⟨hf.2.1, ?_⟩
    have hkl : k = xs.length - 1 := by have := hf.2.1.1; have := hf.2.1.2.1; omega
    subst hkl
    exact hf.2.2.symm
  have forth : ∀ k : Nat, k ≤ 12 → (xs.length - 1 ≤ k ∨ k = 12) → (k + 1 ≤ xs.length ∨ k = 0) → valid xs → putE (acr xs k) xs.length = 0 ∧ putR (acr xs k) xs.length = xs ∧ acr xs k = getV xs := fun k hk1 hk2 hk3 hv => by
    have hkl : k = xs.length - 1 := by have := hv.1; have := hv.2.1; omega
    subst hkl
    have := put_back hv
    rw [acr_eq hv.2.2.2]
    exact ⟨this.1, this.2, (get_ok hv).1.symm⟩
  refine ⟨Nat, fun k => [(0, .roI .u8 xs), (4, int .i64 (acr xs k)), (5, int .i64 k)], fun _ => [], fun k => k ≤ 12 ∧ (k + 1 ≤ xs.length ∨ k = 0), fun k => 12 - k,
    ⟨0, [], ⟨by omega, .inr rfl⟩, leh0, ⟨leRo rfl, leI rfl, leI rfl, trivial⟩⟩, fun k hk => ?_⟩
  obtain ⟨hk12, hk⟩ := hk
  have hr := acr_range hx k
  have hp := pow8_mono hk12
  have e1 : IntKind.i64.wrap ((k : Int) + 1) = (k : Int) + 1 := w64 (by omega) (by omega)
  refine ⟨fun h => ⟨fun h1 => ?_, fun h1 => ?_⟩, fun h => ?_⟩
  · have f1 := yes h
    have f2 := yes h1
    rw [e1] at f1
    refine ⟨⟨by omega, by omega⟩, by decide, ?_⟩
    have hb := byteAt hx k
    have e2 : (xs.getD (k : Int).toNat 0).tmod 8 = xs.getD k 0 % 8 := Int.tmod_eq_emod_of_nonneg hb.1
    have hp2 := pow8_mono (show k ≤ 11 by omega)
    refine ⟨trivial, k + 1, [], ⟨by omega, by omega⟩, by show 12 - (k + 1) < 12 - k; omega, leh0, ⟨leRo rfl, leI ?_, leI e1, trivial⟩⟩
    rw [e2, w64 (n := 8 * acr xs k) (by omega) (by omega), w64 (n := xs.getD k 0 % 8) (by omega) (by omega), w64 (by omega) (by omega)]
    rfl
  all_goals
    have hk2 : xs.length - 1 ≤ k ∨ k = 12 := by
      first
        | (have := no h1; omega)
        | (have := no h; rw [e1] at this; omega)
    refine ⟨[], PutR (acr xs k) xs.length, put_ref _ _ (by omega), ?_⟩
    rintro r h' ⟨rfl, rfl⟩
    refine ⟨.inl rfl, ?_⟩
    refine ⟨fun h2 => bad _ fun hv => ?_, fun h2 => ⟨fun h3 => bad _ fun hv => ?_, fun h3 => ?_⟩⟩
    · exact yes h2 (forth k hk12 hk2 hk hv).1
    · exact yes h3 (by rw [(forth k hk12 hk2 hk hv).2.1])
    · have g1 : putE (acr xs k) xs.length = 0 := by simpa using no h2
      have g2 : bytesOf (putR (acr xs k) xs.length) = bytesOf xs := by simpa using no h3
      have g3 := back k hk12 hk2 hk g1 (bytesOf_inj (putR_range _ _) hx g2)
      exact ⟨[], [], _, lehN _, le_pair (leI (g3.2.trans (get_ok g3.1).1.symm)) (leI (get_ok g3.1).2.symm), rfl, rfl⟩

end

end Go.Proofs.YtflclafbieokiaaGreatDoor.Oc

/-
  The contracts of header.Get and of the document's.
-/
set_option linter.unusedVariables false
set_option linter.unusedSectionVars false
namespace Go.Proofs.YtflclafbieokiaaGreatDoor.Hd
open Go AL Oc Pa
section
variable [Globs]

theorem bytes_eq {xs ys : List Int} (hx : ∀ x ∈ xs, 0 ≤ x ∧ x < 256) (hy : ∀ x ∈ ys, 0 ≤ x ∧ x < 256) : bytesOf xs = bytesOf ys ↔ xs = ys := by
  constructor
  · intro h
    rw [← intsOf_bytesOf hx, ← intsOf_bytesOf hy, h]
  · intro h; rw [h]
theorem bytesOf_len (xs : List Int) : (bytesOf xs).size = xs.length := by simp [bytesOf, ByteArray.size]
theorem name_size (xs : List Int) : (nameR xs).size ≤ xs.length := by
  unfold nameR
  split
  · rw [bytesOf_len, List.length_take]; omega
  · exact Nat.zero_le _
theorem field_range {b : List Int} (hb : ∀ x ∈ b, 0 ≤ x ∧ x < 256) (i j : Nat) : ∀ x ∈ (b.take i).drop j, 0 ≤ x ∧ x < 256 := fun x hx => hb x (List.mem_of_mem_take (List.mem_of_mem_drop hx))
theorem field_len (b : List Int) (i j : Nat) : ((b.take i).drop j).length ≤ i := by
  rw [List.length_drop, List.length_take]; omega
theorem get_fields {b : List Int} (h : okGet b) : nameE (fName b) = 0 ∧ nameE (fPre b) = 0 ∧ Oc.getE (fSize b) = 0 ∧ joinE (nameR (fPre b)) (nameR (fName b)) = 0 := by
  obtain ⟨h1, h2⟩ := h
  obtain ⟨a1, a2, a3, a4, a5, a6, a7⟩ := head_back h1
  rw [h2] at a1 a2 a3 a4 a5
  refine ⟨a1, a3, a5, ?_⟩
  rw [a2, a4]
  exact (okJoin_split h1.1).2.2
theorem get_iff {b : List Int} : okGet b ↔ headE (fS b) (fN b) = 0 ∧ headR (fS b) (fN b) = b := by
  unfold okGet; rw [headE_iff]

set_option maxRecDepth 10000 in
theorem equal_prog (xs ys : List Int) (hx : ∀ x ∈ xs, 0 ≤ x ∧ x < 256) (hy : ∀ x ∈ ys, 0 ≤ x ∧ x < 256) : ACalls Tryz.prog 111 [.roI .u8 xs, .roI .u8 ys] [] (fun r h => r = bool (decide (xs = ys)) ∧ h = []) := by
  refine rcalls Tryz.func111 rfl (by decide) ?_
  exact ⟨[], [], _, leh0, leP (bytes_eq hx hy), rfl, rfl⟩

def HGetR (b : List Int) (r : AV) (h : List AO) : Prop := r = .tup 3 (triple (str (getS b)) (int .i64 (getN b)) (int .i64 (getEr b))) ∧ h = []

set_option maxHeartbeats 4000000 in
set_option maxRecDepth 10000 in
theorem hget_prog (b : List Int) (hb : ∀ x ∈ b, 0 ≤ x ∧ x < 256) (hl : b.length ≤ 281474976710656) : ACalls Tryz.prog 87 [.roI .u8 b] [] (HGetR b) := by
  have hbad : ∀ (X : List AO), ¬ okGet b → ¬ b.length < 512 → ∃ l h1 r, LeH 0 X l h1 ∧ LeV X l (.tup 3 fun i => [str ⟨#[]⟩, int .i64 0, int .i64 2].getD i .top) r ∧ HGetR b r h1 := fun X h g => by
    have e1 : getS b = ByteArray.empty := by unfold getS; rw [if_neg h]
    have e2 : getN b = 0 := by unfold getN; rw [if_neg h]
    have e3 : getEr b = 2 := by unfold getEr; rw [if_neg g, if_neg h]
    unfold HGetR
    rw [e1, e2, e3]
    exact ⟨[], [], _, lehN _, le_triple (leS rfl) (leI rfl) (leI rfl), rfl, rfl⟩
  have hshort : b.length < 512 → getS b = ByteArray.empty ∧ getN b = 0 ∧ getEr b = 3 := fun h => by
    have := get_len h
    exact ⟨(get_no (by rw [this]; decide)).1, (get_no (by rw [this]; decide)).2, this⟩
  have hok : okGet b → ¬ b.length < 512 → getS b = fS b ∧ getN b = fN b ∧ getEr b = 0 := fun h g => by
    unfold getS getN getEr
    rw [if_pos h, if_pos h, if_neg g, if_pos h]; exact ⟨rfl, rfl, rfl⟩
  have z1 := name_size (fName b)
  have z2 := name_size (fPre b)
  have y1 : (fName b).length ≤ 100 := by unfold fName; rw [List.length_take]; omega
  have y2 : (fPre b).length ≤ 500 := field_len b 500 345
  have y3 : (fSize b).length ≤ 136 := field_len b 136 124
  have x1 : ∀ x ∈ fName b, 0 ≤ x ∧ x < 256 := fun x hx => hb x (List.mem_of_mem_take hx)
  have x2 : ∀ x ∈ fPre b, 0 ≤ x ∧ x < 256 := field_range hb 500 345
  have x3 : ∀ x ∈ fSize b, 0 ≤ x ∧ x < 256 := field_range hb 136 124
  have hsz : (fS b).size ≤ 9223372036854775805 := by
    show (joinS _ _).size ≤ _
    unfold joinS
    split
    · unfold joinT
      split
      · omega
      · rw [ByteArray.size_append, ByteArray.size_append]; show (nameR (fPre b)).size + 1 + (nameR (fName b)).size ≤ _; omega
    · exact Nat.zero_le _
  have c1 := name_prog (fName b) x1 (by omega)
  have c2 := name_prog (fPre b) x2 (by omega)
  have c3 := get_prog (fSize b) x3 (by omega)
  have c4 := join_path (nameR (fPre b)) (nameR (fName b)) (by omega) (by omega)
  have c5 := put_head (fS b) (fN b) hsz
  have hr := head_range (fS b) (fN b)
  have c6 := equal_prog (headR (fS b) (fN b)) b hr hb
  have hf := fun h : okGet b => get_fields h
  have hi := get_iff (b := b)
  unfold NameR at c1 c2
  unfold GetR at c3
  unfold JoinR at c4
  unfold HPutR at c5
  have eS : joinS (nameR (fPre b)) (nameR (fName b)) = fS b := rfl
  have eN : Oc.getV (fSize b) = fN b := rfl
  rw [eS] at c4
  rw [eN] at c3
  have c1 : ACalls Tryz.prog 108 [.roI .u8 ((b.take 100).drop 0)] [] _ := c1
  have c2 : ACalls Tryz.prog 108 [.roI .u8 ((b.take 500).drop 345)] [] _ := c2
  have c3 : ACalls Tryz.prog 109 [.roI .u8 ((b.take 136).drop 124)] [] _ := c3
  generalize fS b = S at *
  generalize fN b = M at *
  generalize joinE (nameR (fPre b)) (nameR (fName b)) = JE at *
  generalize nameR (fPre b) = N2 at *
  generalize nameR (fName b) = N1 at *
  generalize nameE (fName b) = E1 at *
  generalize nameE (fPre b) = E2 at *
  generalize Oc.getE (fSize b) = E3 at *
  generalize headR S M = HR at *
  generalize headE S M = HE at *
  refine rcalls Tryz.func87 rfl (by decide) ?_
  refine ⟨fun g1 => ?_, fun g1 => ?_⟩
  · have f1 : b.length < 512 := by have := yes g1; omega
    obtain ⟨q1, q2, q3⟩ := hshort f1
    unfold HGetR
    rw [q1, q2, q3]
    exact ⟨[], [], _, leh0, le_triple (leS rfl) (leI rfl) (leI rfl), rfl, rfl⟩
  have f1 : ¬ b.length < 512 := by have := no g1; omega
  refine ⟨⟨by omega, by omega⟩, ?_⟩
  refine ⟨[], _, c1, ?_⟩
  rintro r hh ⟨rfl, rfl⟩
  refine ⟨.inl rfl, ?_⟩
  refine ⟨⟨by omega, by omega⟩, ⟨by omega, by omega⟩, ?_⟩
  refine ⟨[], _, c2, ?_⟩
  rintro r hh ⟨rfl, rfl⟩
  refine ⟨.inl rfl, ?_⟩
  refine ⟨⟨by omega, by omega⟩, ⟨by omega, by omega⟩, ?_⟩
  refine ⟨[], _, c3, ?_⟩
  rintro r hh ⟨rfl, rfl⟩
  refine ⟨.inl rfl, ?_⟩
  refine ⟨[], _, c4, ?_⟩
  rintro r hh ⟨rfl, rfl⟩
  refine ⟨.inl rfl, ?_⟩
  refine ⟨fun g2 => ?_, fun g2 => ?_⟩
  · exact hbad _ (fun h => yes g2 (hf h).1) f1
  refine ⟨fun g3 => ?_, fun g3 => ?_⟩
  · exact hbad _ (fun h => yes g3 (hf h).2.1) f1
  refine ⟨fun g4 => ?_, fun g4 => ?_⟩
  · exact hbad _ (fun h => yes g4 (hf h).2.2.1) f1
  refine ⟨fun g5 => ?_, fun g5 => ?_⟩
  · exact hbad _ (fun h => yes g5 (hf h).2.2.2) f1
  refine ⟨[], _, c5, ?_⟩
  rintro r hh ⟨rfl, rfl⟩
  refine ⟨.inl rfl, ?_⟩
  refine ⟨fun g6 => ?_, fun g6 => ?_⟩
  · exact hbad _ (fun h => yes g6 (hi.1 h).1) f1
  have f6 : HE = 0 := Classical.byContradiction fun x => no g6 x
  have c7 : ACalls Tryz.prog 111 [.roI .u8 ((HR.drop 0).take HR.length), .roI .u8 b] [] (fun r h => r = bool (decide (HR = b)) ∧ h = []) := by rw [List.drop_zero, List.take_length]; exact c6
  refine ⟨[], _, by omega, c7, ?_⟩
  rintro r hh ⟨rfl, rfl⟩
  refine ⟨.inr ⟨trivial, fun o ho => by cases ho⟩, ?_⟩
  refine ⟨fun g7 => ?_, fun g7 => ?_⟩
  · have f7 : ¬ HR = b := fun x => by rw [decide_eq_true x] at g7; cases g7
    exact hbad _ (fun h => f7 (hi.1 h).2) f1
  have f7 : HR = b := Classical.byContradiction fun x => by rw [decide_eq_false x] at g7; cases g7
  obtain ⟨q1, q2, q3⟩ := hok (hi.2 ⟨f6, f7⟩) f1
  unfold HGetR
  rw [q1, q2, q3]
  exact ⟨[], [], _, lehN _, le_triple (leS rfl) (leI rfl) (leI rfl), rfl, rfl⟩

set_option maxHeartbeats 4000000 in
set_option maxRecDepth 10000 in
theorem hget_ref (b : List Int) (hb : ∀ x ∈ b, 0 ≤ x ∧ x < 256) (hl : b.length ≤ 281474976710656) : ACalls Tryz.prog 88 [.roI .u8 b] [] (HGetR b) := by
  have hbad : ∀ (X : List AO), ¬ okGet b → ¬ b.length < 512 → ∃ l h1 r, LeH 0 X l h1 ∧ LeV X l (.tup 3 fun i => [str ⟨#[]⟩, int .i64 0, int .i64 2].getD i .top) r ∧ HGetR b r h1 := fun X h g => by
    have e1 : getS b = ByteArray.empty := by unfold getS; rw [if_neg h]
    have e2 : getN b = 0 := by unfold getN; rw [if_neg h]
    have e3 : getEr b = 2 := by unfold getEr; rw [if_neg g, if_neg h]
    unfold HGetR
    rw [e1, e2, e3]
    exact ⟨[], [], _, lehN _, le_triple (leS rfl) (leI rfl) (leI rfl), rfl, rfl⟩
  have hshort : b.length < 512 → getS b = ByteArray.empty ∧ getN b = 0 ∧ getEr b = 3 := fun h => by
    have := get_len h
    exact ⟨(get_no (by rw [this]; decide)).1, (get_no (by rw [this]; decide)).2, this⟩
  have hok : okGet b → ¬ b.length < 512 → getS b = fS b ∧ getN b = fN b ∧ getEr b = 0 := fun h g => by
    unfold getS getN getEr
    rw [if_pos h, if_pos h, if_neg g, if_pos h]; exact ⟨rfl, rfl, rfl⟩
  have z1 := name_size (fName b)
  have z2 := name_size (fPre b)
  have y1 : (fName b).length ≤ 100 := by unfold fName; rw [List.length_take]; omega
  have y2 : (fPre b).length ≤ 500 := field_len b 500 345
  have y3 : (fSize b).length ≤ 136 := field_len b 136 124
  have x1 : ∀ x ∈ fName b, 0 ≤ x ∧ x < 256 := fun x hx => hb x (List.mem_of_mem_take hx)
  have x2 : ∀ x ∈ fPre b, 0 ≤ x ∧ x < 256 := field_range hb 500 345
  have x3 : ∀ x ∈ fSize b, 0 ≤ x ∧ x < 256 := field_range hb 136 124
  have hsz : (fS b).size ≤ 9223372036854775805 := by
    show (joinS _ _).size ≤ _
    unfold joinS
    split
    · unfold joinT
      split
      · omega
      · rw [ByteArray.size_append, ByteArray.size_append]; show (nameR (fPre b)).size + 1 + (nameR (fName b)).size ≤ _; omega
    · exact Nat.zero_le _
  have c1 := name_ref (fName b) x1 (by omega)
  have c2 := name_ref (fPre b) x2 (by omega)
  have c3 := get_ref (fSize b) x3 (by omega)
  have c4 := join_ref (nameR (fPre b)) (nameR (fName b)) (by omega) (by omega)
  have c5 := put_rhead (fS b) (fN b) hsz
  have hr := head_range (fS b) (fN b)
  have c6 := bytes_eq hr hb
  have hf := fun h : okGet b => get_fields h
  have hi := get_iff (b := b)
  unfold NameR at c1 c2
  unfold GetR at c3
  unfold JoinR at c4
  unfold HPutR at c5
  have eS : joinS (nameR (fPre b)) (nameR (fName b)) = fS b := rfl
  have eN : Oc.getV (fSize b) = fN b := rfl
  rw [eS] at c4
  rw [eN] at c3
  have c1 : ACalls Tryz.prog 112 [.roI .u8 ((b.take 100).drop 0)] [] _ := c1
  have c2 : ACalls Tryz.prog 112 [.roI .u8 ((b.take 500).drop 345)] [] _ := c2
  have c3 : ACalls Tryz.prog 113 [.roI .u8 ((b.take 136).drop 124)] [] _ := c3
  generalize fS b = S at *
  generalize fN b = M at *
  generalize joinE (nameR (fPre b)) (nameR (fName b)) = JE at *
  generalize nameR (fPre b) = N2 at *
  generalize nameR (fName b) = N1 at *
  generalize nameE (fName b) = E1 at *
  generalize nameE (fPre b) = E2 at *
  generalize Oc.getE (fSize b) = E3 at *
  generalize headR S M = HR at *
  generalize headE S M = HE at *
  refine rcalls Tryz.func88 rfl (by decide) ?_
  refine ⟨fun g1 => ?_, fun g1 => ?_⟩
  · have f1 : b.length < 512 := by have := yes g1; omega
    obtain ⟨q1, q2, q3⟩ := hshort f1
    unfold HGetR
    rw [q1, q2, q3]
    exact ⟨[], [], _, leh0, le_triple (leS rfl) (leI rfl) (leI rfl), rfl, rfl⟩
  have f1 : ¬ b.length < 512 := by have := no g1; omega
  refine ⟨⟨by omega, by omega⟩, ?_⟩
  refine ⟨[], _, c1, ?_⟩
  rintro r hh ⟨rfl, rfl⟩
  refine ⟨.inl rfl, ?_⟩
  refine ⟨⟨by omega, by omega⟩, ⟨by omega, by omega⟩, ?_⟩
  refine ⟨[], _, c2, ?_⟩
  rintro r hh ⟨rfl, rfl⟩
  refine ⟨.inl rfl, ?_⟩
  refine ⟨⟨by omega, by omega⟩, ⟨by omega, by omega⟩, ?_⟩
  refine ⟨[], _, c3, ?_⟩
  rintro r hh ⟨rfl, rfl⟩
  refine ⟨.inl rfl, ?_⟩
  refine ⟨[], _, c4, ?_⟩
  rintro r hh ⟨rfl, rfl⟩
  refine ⟨.inl rfl, ?_⟩
  refine ⟨fun g5 => ?_, fun g5 => ?_⟩
  · exact hbad _ (fun h => yes g5 (hf h).2.2.2) f1
  refine ⟨[], _, c5, ?_⟩
  rintro r hh ⟨rfl, rfl⟩
  refine ⟨.inl rfl, ?_⟩
  refine ⟨fun g6 => ?_, fun g6 => ?_⟩
  · exact hbad _ (fun h => yes g6 (hi.1 h).1) f1
  have f6 : HE = 0 := Classical.byContradiction fun x => no g6 x
  refine ⟨by omega, ?_⟩
  have c7 : bytesOf (List.take HR.length (List.drop 0 HR)) = bytesOf b ↔ HR = b := by rw [List.drop_zero, List.take_length]; exact c6
  refine ⟨fun g7 => ?_, fun g7 => ?_⟩
  · have f7 : ¬ HR = b := fun x => yes g7 (c7.2 x)
    exact hbad _ (fun h => f7 (hi.1 h).2) f1
  have f7 : HR = b := c7.1 (Classical.byContradiction fun x => no g7 x)
  obtain ⟨q1, q2, q3⟩ := hok (hi.2 ⟨f6, f7⟩) f1
  unfold HGetR
  rw [q1, q2, q3]
  exact ⟨[], [], _, lehN _, le_triple (leS rfl) (leI rfl) (leI rfl), rfl, rfl⟩

end
end Go.Proofs.YtflclafbieokiaaGreatDoor.Hd

/-
  The laws of header, walked.
-/
set_option linter.unusedVariables false
set_option linter.unusedSectionVars false
namespace Go.Proofs.YtflclafbieokiaaGreatDoor.Hd
open Go AL Oc Pa Spl
section
variable [Globs]

theorem own_take {k : IntKind} {f : Nat} {xs : List Int} {R : AV → List AO → Prop} {tl : List AV} (h : ACalls Tryz.prog f (.roI k xs :: tl) [] R) : ACalls Tryz.prog f (.roI k ((xs.drop 0).take xs.length) :: tl) [] R := by
  rw [List.drop_zero, List.take_length]; exact h

end

end Go.Proofs.YtflclafbieokiaaGreatDoor.Hd

/-
  The contracts of header.Round, of header.Blank, and of the document's Round.
-/
set_option linter.unusedVariables false
set_option linter.unusedSectionVars false
namespace Go.Proofs.YtflclafbieokiaaGreatDoor.Hd
open Go AL Oc Pa Spl

def rndZ (n : Int) : Int := (max n 0 + 511) / 512 * 512
section
variable [Globs]

set_option maxRecDepth 10000 in
theorem round_prog (n : Int) (hn : n ≤ 4611686018427387904) : ACalls Tryz.prog 74 [int .i64 n] [] (fun r h => r = int .i64 (rndZ n) ∧ h = []) := by
  refine rcalls Tryz.func74 rfl (by decide) ?_
  refine ⟨by decide, ?_⟩
  refine ⟨[], [], _, lehN _, leI ?_, rfl, rfl⟩
  rw [w64 (n := max n 0 + 512) (by omega) (by omega), w64 (n := max n 0 + 512 - 1) (by omega) (by omega), Int.tdiv_eq_ediv_of_nonneg (by omega), w64 (n := (max n 0 + 512 - 1) / 512) (by omega) (by omega), w64 (by omega) (by omega)]
  unfold rndZ
  omega

set_option maxRecDepth 10000 in
theorem round_ref (n : Int) (hn : n ≤ 4611686018427387904) : ACalls Tryz.prog 80 [int .i64 n] [] (fun r h => r = int .i64 (rndZ n) ∧ h = []) := by
  refine rcalls Tryz.func80 rfl (by decide) ?_
  have hR : 0 ≤ rndZ n ∧ rndZ n ≤ 4611686018427388415 ∧ n ≤ rndZ n ∧ rndZ n % 512 = 0 ∧ ∀ z : Int, z % 512 = 0 → 0 ≤ z → n ≤ z → rndZ n ≤ z := by
    unfold rndZ
    refine ⟨by omega, by omega, by omega, by omega, fun z h1 h2 h3 => by omega⟩
  generalize rndZ n = R at *
  obtain ⟨h1, h2, h3, h4, h5⟩ := hR
  refine ⟨Nat, fun k => [(0, int .i64 n), (3, int .i64 (512 * k))], fun _ => [], fun k => (512 * k : Int) ≤ R, fun k => R.toNat - 512 * k,
    ⟨0, [], by omega, lehN _, ⟨leI rfl, leI rfl, trivial⟩⟩, ?_⟩
  intro k hk
  have hk : (512 * k : Int) ≤ R := hk
  refine ⟨fun c => ?_, fun c => ?_⟩
  · have f1 : (512 * k : Int) < n := yes c
    have e1 : IntKind.i64.wrap ((512 * k : Int) + 512) = 512 * ((k + 1 : Nat) : Int) := by rw [w64 (by omega) (by omega)]; omega
    exact ⟨trivial, k + 1, [], by show (512 * ((k + 1 : Nat) : Int)) ≤ R; omega, by show R.toNat - 512 * (k + 1) < R.toNat - 512 * k; omega, lehN _, ⟨leI rfl, leI e1, trivial⟩⟩
  · have f1 : ¬ (512 * k : Int) < n := no c
    have := h5 (512 * k) (by omega) (by omega) (by omega)
    exact ⟨[], [], _, lehN _, leI (by omega), rfl, rfl⟩

set_option maxRecDepth 10000 in
theorem trimR_prog (xs : List Int) (hl : xs.length ≤ 281474976710656) : ACalls Tryz.prog 146 [.roI .u8 xs, int .u8 0] [] (fun r h => (∃ k, k ≤ xs.length ∧ r = .roI .u8 (xs.take k) ∧ (∀ i, k ≤ i → i < xs.length → xs.getD i 0 = 0) ∧ (0 < k → xs.getD (k - 1) 0 ≠ 0)) ∧ h = []) := by
  refine rcalls Tryz.func146 rfl (by decide) ?_
  refine ⟨Nat, fun k => [(0, .roI .u8 (xs.take k)), (1, int .u8 0)], fun _ => [], fun k => k ≤ xs.length ∧ ∀ i, k ≤ i → i < xs.length → xs.getD i 0 = 0, fun k => k,
    ⟨xs.length, [], ⟨Nat.le_refl _, fun i h1 h2 => by omega⟩, lehN _, ⟨leRo (by rw [List.take_length]), leI rfl, trivial⟩⟩, ?_⟩
  rintro k ⟨hk, hz⟩
  have hlen : (xs.take k).length = k := by rw [List.length_take]; omega
  have e1 : 0 < k → IntKind.i64.wrap (((xs.take k).length : Int) - 1) = ((k - 1 : Nat) : Int) := fun h => by rw [hlen, w64 (by omega) (by omega)]; omega
  have gd : 0 < k → (xs.take k).getD (k - 1) 0 = xs.getD (k - 1) 0 := fun h => by
    rw [List.getD_eq_getElem?_getD, List.getElem?_take, if_pos (by omega), List.getD_eq_getElem?_getD]
  refine ⟨fun c => ?_, fun c => ?_⟩
  · have f1 : 0 < ((xs.take k).length : Int) := yes c
    have f2 : 0 < k := by omega
    have e1 := e1 f2
    have gd := gd f2
    refine ⟨⟨by rw [e1]; omega, by rw [e1]; omega⟩, ?_⟩
    refine ⟨fun c2 => ?_, fun c2 => ?_⟩
    · have f3 : (xs.take k).getD (IntKind.i64.wrap (((xs.take k).length : Int) - 1)).toNat 0 = 0 := yes c2
      rw [e1, Int.toNat_natCast, gd] at f3
      refine ⟨⟨by rw [e1]; omega, by rw [e1]; omega⟩, ?_⟩
      refine ⟨trivial, k - 1, [], ⟨by omega, fun i h1 h2 => ?_⟩, by show k - 1 < k; omega, lehN _, ⟨leRo ?_, leI rfl, trivial⟩⟩
      · by_cases h : i = k - 1
        · rw [h]; exact f3
        · exact hz i (by omega) h2
      · rw [e1, Int.toNat_natCast, List.take_take, List.drop_zero, Nat.min_eq_left (by omega)]
    · have f3 : ¬ (xs.take k).getD (IntKind.i64.wrap (((xs.take k).length : Int) - 1)).toNat 0 = 0 := no c2
      rw [e1, Int.toNat_natCast, gd] at f3
      exact ⟨[], [], _, lehN _, .same _ trivial, ⟨k, hk, rfl, hz, fun _ => f3⟩, rfl⟩
  · have f1 : ¬ 0 < ((xs.take k).length : Int) := no c
    exact ⟨[], [], _, lehN _, .same _ trivial, ⟨k, hk, rfl, hz, fun _ => by omega⟩, rfl⟩

set_option maxRecDepth 10000 in
theorem trimL_prog (xs : List Int) (hl : xs.length ≤ 281474976710656) : ACalls Tryz.prog 145 [.roI .u8 xs, int .u8 0] [] (fun r h => (∃ k, k ≤ xs.length ∧ r = .roI .u8 (xs.drop k) ∧ (∀ i, i < k → xs.getD i 0 = 0) ∧ (k < xs.length → xs.getD k 0 ≠ 0)) ∧ h = []) := by
  refine rcalls Tryz.func145 rfl (by decide) ?_
  refine ⟨Nat, fun k => [(0, .roI .u8 (xs.drop k)), (1, int .u8 0)], fun _ => [], fun k => k ≤ xs.length ∧ ∀ i, i < k → xs.getD i 0 = 0, fun k => xs.length - k,
    ⟨0, [], ⟨Nat.zero_le _, fun i h1 => by omega⟩, lehN _, ⟨leRo rfl, leI rfl, trivial⟩⟩, ?_⟩
  rintro k ⟨hk, hz⟩
  have hlen : (xs.drop k).length = xs.length - k := by rw [List.length_drop]
  have gd : k < xs.length → (xs.drop k).getD 0 0 = xs.getD k 0 := fun h => by
    rw [List.getD_eq_getElem?_getD, List.getElem?_drop, List.getD_eq_getElem?_getD]; rfl
  refine ⟨fun c => ?_, fun c => ?_⟩
  · have f1 : 0 < ((xs.drop k).length : Int) := yes c
    have f2 : k < xs.length := by omega
    have gd := gd f2
    refine ⟨⟨by omega, by omega⟩, ?_⟩
    refine ⟨fun c2 => ?_, fun c2 => ?_⟩
    · have f3 : (xs.drop k).getD 0 0 = 0 := yes c2
      rw [gd] at f3
      refine ⟨⟨by omega, by omega⟩, ?_⟩
      refine ⟨trivial, k + 1, [], ⟨by omega, fun i h1 => ?_⟩, by show xs.length - (k + 1) < xs.length - k; omega, lehN _, ⟨leRo ?_, leI rfl, trivial⟩⟩
      · by_cases h : i = k
        · rw [h]; exact f3
        · exact hz i (by omega)
      · rw [List.take_length, List.drop_drop]; rfl
    · have f3 : ¬ (xs.drop k).getD 0 0 = 0 := no c2
      rw [gd] at f3
      refine ⟨fun c3 => ?_, fun c3 => ?_⟩
      · have := yes c3; omega
      exact ⟨[], [], _, lehN _, .same _ trivial, ⟨k, hk, rfl, hz, fun _ => f3⟩, rfl⟩
  · have f1 : ¬ 0 < ((xs.drop k).length : Int) := no c
    refine ⟨fun c3 => ?_, fun c3 => ?_⟩
    · refine ⟨[], [], _, lehN _, .nilI .u8, ⟨k, hk, ?_, hz, fun _ => by omega⟩, rfl⟩
      rw [List.eq_nil_of_length_eq_zero (l := xs.drop k) (by omega)]
    · have := no c3; omega

theorem trimR_eq {xs : List Int} {k : Nat} (h : k ≤ xs.length ∧ (∀ i, k ≤ i → i < xs.length → xs.getD i 0 = 0) ∧ (0 < k → xs.getD (k - 1) 0 ≠ 0)) : k = nameN xs := by
  obtain ⟨h1, h2, h3⟩ := h
  have e : nameN xs = trimN xs k := trimN_zero xs.length h1 fun j a b => h2 j a b
  have hle := trimN_le xs k
  rcases Nat.eq_zero_or_pos k with h0 | h0
  · omega
  · have := trimN_gt (h3 h0) k (by omega)
    omega
theorem trimR_prog' (xs : List Int) (hl : xs.length ≤ 281474976710656) : ACalls Tryz.prog 146 [.roI .u8 xs, int .u8 0] [] (fun r h => r = .roI .u8 (xs.take (nameN xs)) ∧ h = []) :=
  (trimR_prog xs hl).mono fun r h ⟨⟨k, h1, h2, h3, h4⟩, h5⟩ => ⟨by rw [h2, trimR_eq ⟨h1, h3, h4⟩], h5⟩

set_option maxRecDepth 10000 in
theorem trim_prog (xs : List Int) (hl : xs.length ≤ 281474976710656) : ACalls Tryz.prog 107 [.roI .u8 xs, str ⟨#[0]⟩] [] (fun r h => (∃ ys : List Int, r = .roI .u8 ys ∧ (ys.length = 0 ↔ ∀ i, i < xs.length → xs.getD i 0 = 0)) ∧ h = []) := by
  have c1 := trimR_prog' xs hl
  have hN : nameN xs ≤ xs.length := trimN_le _ _
  have hlen : (xs.take (nameN xs)).length = nameN xs := by rw [List.length_take]; omega
  have c2 := trimL_prog (xs.take (nameN xs)) (by omega)
  have gd : ∀ i, i < nameN xs → (xs.take (nameN xs)).getD i 0 = xs.getD i 0 := fun i hi => by
    rw [List.getD_eq_getElem?_getD, List.getElem?_take, if_pos hi, List.getD_eq_getElem?_getD]
  have gz : ∀ i, nameN xs ≤ i → i < xs.length → xs.getD i 0 = 0 := fun i h1 h2 => Classical.byContradiction fun h => by
    have : i < nameN xs := trimN_gt h xs.length h2
    omega
  generalize xs.take (nameN xs) = Y at *
  generalize nameN xs = N at *
  refine rcalls Tryz.func107 rfl (by decide) ?_
  refine ⟨fun c => ?_, fun c => ?_⟩
  · have f1 : (xs.length : Int) = 0 := yes c
    exact ⟨[], [], _, lehN _, .nilI .u8, ⟨[], rfl, fun _ i hi => by omega, fun _ => rfl⟩, rfl⟩
  have f1 : ¬ (xs.length : Int) = 0 := no c
  refine ⟨fun c2 => absurd (yes c2) (by decide), fun _ => ?_⟩
  refine ⟨fun _ => ?_, fun e => absurd rfl (no e)⟩
  refine ⟨⟨by decide, by decide⟩, ?_⟩
  refine ⟨fun _ => ?_, fun e => absurd (by decide) (no e)⟩
  refine .inr ⟨6, by decide +kernel, ?_⟩
  refine ⟨_, rfl, ?_⟩
  refine ⟨_, rfl, ?_⟩
  refine ⟨_, ⟨⟨by decide, by decide⟩, rfl⟩, ?_⟩
  refine ⟨_, ⟨[], _, c1, by rintro r h ⟨rfl, rfl⟩; exact ⟨.inl rfl, rfl, rfl⟩⟩, ?_⟩
  refine ⟨_, rfl, ?_⟩
  refine ⟨_, ⟨⟨by decide, by decide⟩, rfl⟩, ?_⟩
  refine ⟨[], _, c2, ?_⟩
  rintro r hh ⟨⟨k, h1, rfl, h3, h4⟩, rfl⟩
  refine ⟨.inl rfl, ?_⟩
  refine ⟨[], [], _, lehN _, .same _ trivial, ⟨Y.drop k, rfl, fun h i hi => ?_, fun h => ?_⟩, rfl⟩
  · rw [List.length_drop] at h
    rcases Nat.lt_or_ge i N with g | g
    · rw [← gd i g]; exact h3 i (by omega)
    · exact gz i g hi
  · rw [List.length_drop]
    rcases Nat.lt_or_ge k Y.length with g | g
    · exact absurd ((gd k (by omega)).trans (h k (by omega))) (h4 g)
    · omega

set_option maxRecDepth 10000 in
theorem blank_prog (xs : List Int) (hl : xs.length ≤ 281474976710656) : ACalls Tryz.prog 86 [.roI .u8 xs] [] (fun r h => r = bool (decide (∀ i, i < xs.length → xs.getD i 0 = 0)) ∧ h = []) := by
  have c1 := trim_prog xs hl
  refine rcalls Tryz.func86 rfl (by decide) ?_
  refine ⟨[], _, c1, ?_⟩
  rintro r hh ⟨⟨ys, rfl, e⟩, rfl⟩
  refine ⟨.inl rfl, ?_⟩
  refine ⟨[], [], _, lehN _, leP ?_, rfl, rfl⟩
  rw [← e]; omega

end

end Go.Proofs.YtflclafbieokiaaGreatDoor.Hd

/-
  Archives: what they are, and what files are read out of one. No program in sight.
-/
set_option linter.unusedVariables false
namespace Go.Proofs.YtflclafbieokiaaGreatDoor.Us
open Go AL Spl Oc Pa Hd

def rnd (n : Nat) : Nat := (n + 511) / 512 * 512
def zer (n : Nat) : List Int := List.replicate n 0
def fileR (f : Fl) : List Int := headR f.path f.data.length ++ (f.data ++ zer (rnd f.data.length - f.data.length))
def bodyR (l : List Fl) : List Int := l.flatMap fileR
def okF (f : Fl) : Prop := okHd f.path f.data.length
instance (f : Fl) : Decidable (okF f) := by unfold okF; infer_instance
def okP (l : List Fl) : Prop := ∀ f ∈ l, okSplit f.path
instance (l : List Fl) : Decidable (okP l) := by unfold okP; infer_instance
def dupF (l : List Fl) : Prop := ¬ (l.map Fl.path).Nodup
instance (l : List Fl) : Decidable (dupF l) := by unfold dupF; infer_instance
def putE (l : List Fl) : Int := if okP l then (if dupF l then 7 else 0) else 9
def putR (l : List Fl) : List Int := if putE l = 0 then bodyR l ++ zer 1024 else []
def fitL (l : List Fl) : Prop := l.length ≤ 400 ∧ dataN l ≤ 4194304

theorem rnd_ge (n : Nat) : n ≤ rnd n := by unfold rnd; omega
theorem rnd_mod (n : Nat) : rnd n % 512 = 0 := by unfold rnd; omega
theorem zer_len (n : Nat) : (zer n).length = n := List.length_replicate
theorem okF_of {l : List Fl} (hf : dataN l ≤ 4194304) (h : okP l) : ∀ f ∈ l, okF f := fun f hm => ⟨h f hm, by omega, by have := data_mem hm; omega⟩
theorem okP_of {l : List Fl} (h : ∀ f ∈ l, okF f) : okP l := fun f hm => (h f hm).1
theorem file_len {f : Fl} (h : okF f) : (fileR f).length = 512 + rnd f.data.length := by
  unfold fileR
  rw [List.length_append, List.length_append, zer_len, head_len h]
  have := rnd_ge f.data.length
  omega
theorem body_cons (f : Fl) (l : List Fl) : bodyR (f :: l) = fileR f ++ bodyR l := rfl
theorem body_app (l m : List Fl) : bodyR (l ++ m) = bodyR l ++ bodyR m := List.flatMap_append
theorem body_mod : ∀ {l : List Fl}, (∀ f ∈ l, okF f) → (bodyR l).length % 512 = 0
  | [], _ => rfl
  | f :: l, h => by
    have h1 := file_len (h f (by simp))
    have h2 := body_mod (l := l) fun g hg => h g (by simp [hg])
    have h3 := rnd_mod f.data.length
    rw [body_cons, List.length_append]
    omega
theorem body_data : ∀ {l : List Fl}, (∀ f ∈ l, okF f) → 512 * l.length + dataN l ≤ (bodyR l).length
  | [], _ => Nat.le_refl _
  | f :: l, h => by
    have h1 := file_len (h f (by simp))
    have h2 := body_data (l := l) fun g hg => h g (by simp [hg])
    have h3 := rnd_ge f.data.length
    rw [body_cons, List.length_append]
    have : dataN (f :: l) = f.data.length + dataN l := rfl
    rw [List.length_cons]
    omega

def one (b : List Int) : Prop := 1024 < b.length ∧ getEr (b.take 512) = 0 ∧ rnd (getN (b.take 512)).toNat ≤ b.length - 512 ∧
  ((b.drop 512).take (rnd (getN (b.take 512)).toNat)).drop (getN (b.take 512)).toNat = zer (rnd (getN (b.take 512)).toNat - (getN (b.take 512)).toNat)
noncomputable def oneF (b : List Int) : Fl := ⟨getS (b.take 512), (b.drop 512).take (getN (b.take 512)).toNat⟩
noncomputable def restF (b : List Int) : List Int := b.drop (512 + rnd (getN (b.take 512)).toNat)
def arc (b : List Int) (l : List Fl) : Prop := (∀ f ∈ l, okF f) ∧ b = bodyR l ++ zer 1024

theorem arc_nil {b : List Int} : arc b [] ↔ b = zer 1024 :=
  ⟨fun h => h.2, fun h => ⟨fun f hf => (by cases hf), h⟩⟩
theorem arc_len {b : List Int} {l : List Fl} (h : arc b l) : 1024 ≤ b.length ∧ b.length % 512 = 0 ∧ (l ≠ [] → 1024 < b.length) := by
  obtain ⟨h1, rfl⟩ := h
  have h2 := body_mod h1
  rw [List.length_append, zer_len]
  refine ⟨by omega, by omega, fun hne => ?_⟩
  match l, hne with
  | f :: l, _ =>
    have := file_len (h1 f (by simp))
    rw [body_cons, List.length_append]
    omega
theorem oneF_data {b : List Int} (h : one b) : (oneF b).data.length = (getN (b.take 512)).toNat ∧ ((oneF b).data.length : Int) = getN (b.take 512) ∧ okF (oneF b) := by
  obtain ⟨h1, h2, h3, h4⟩ := h
  obtain ⟨g1, g2, g3⟩ := get_ok h2
  have e1 : (oneF b).data.length = (getN (b.take 512)).toNat := by
    unfold oneF
    dsimp only
    rw [List.length_take, List.length_drop]
    have := rnd_ge (getN (b.take 512)).toNat
    omega
  have e2 : ((oneF b).data.length : Int) = getN (b.take 512) := by rw [e1]; have := g1.2.1; omega
  refine ⟨e1, e2, ?_⟩
  show okHd (getS (b.take 512)) ((oneF b).data.length : Int)
  rw [e2]; exact g1
theorem one_split {b : List Int} (h : one b) : b = fileR (oneF b) ++ restF b := by
  obtain ⟨e1, e2, _⟩ := oneF_data h
  obtain ⟨h1, h2, h3, h4⟩ := h
  obtain ⟨g1, g2, g3⟩ := get_ok h2
  have hn := rnd_ge (getN (b.take 512)).toNat
  have hh : headR (oneF b).path ((oneF b).data.length : Int) = b.take 512 := by
    rw [e2]; exact g2
  unfold fileR
  rw [hh, e1]
  have hz : (oneF b).data ++ zer (rnd (getN (b.take 512)).toNat - (getN (b.take 512)).toNat) = (b.drop 512).take (rnd (getN (b.take 512)).toNat) := by
    rw [← h4]
    have : (oneF b).data = ((b.drop 512).take (rnd (getN (b.take 512)).toNat)).take (getN (b.take 512)).toNat := by
      rw [List.take_take, Nat.min_eq_left hn]; rfl
    rw [this, List.take_append_drop]
  rw [hz]
  unfold restF
  rw [← List.drop_drop, List.append_assoc, List.take_append_drop, List.take_append_drop]
theorem one_file {f : Fl} {r : List Int} (hf : okF f) (hr : 512 < r.length + rnd f.data.length) : one (fileR f ++ r) ∧ oneF (fileR f ++ r) = f ∧ restF (fileR f ++ r) = r := by
  have hl := file_len hf
  have hhl := head_len hf
  have t : (fileR f ++ r).take 512 = headR f.path f.data.length := by
    unfold fileR
    rw [List.append_assoc, ← hhl]; exact List.take_left
  obtain ⟨_, g1, g2, g3⟩ := get_head hf
  have hn := rnd_ge f.data.length
  have d : (fileR f ++ r).drop 512 = f.data ++ zer (rnd f.data.length - f.data.length) ++ r := by
    unfold fileR
    rw [List.append_assoc, ← hhl]
    exact List.drop_left
  have e : (getN ((fileR f ++ r).take 512)).toNat = f.data.length := by rw [t, g2]; omega
  have d2 : ((fileR f ++ r).drop 512).take (rnd f.data.length) = f.data ++ zer (rnd f.data.length - f.data.length) := by
    rw [d]
    have : (f.data ++ zer (rnd f.data.length - f.data.length)).length = rnd f.data.length := by rw [List.length_append, zer_len]; omega
    have h2 := @List.take_left _ (f.data ++ zer (rnd f.data.length - f.data.length)) r
    rw [this] at h2
    exact h2
  refine ⟨⟨?_, by rw [t]; exact g3, ?_, ?_⟩, ?_, ?_⟩
  · rw [List.length_append]; omega
  · rw [e, List.length_append]; omega
  · rw [e, d2]; exact List.drop_left
  · unfold oneF
    rw [e, t, g1, d, List.append_assoc, List.take_left]
  · unfold restF
    rw [e, ← hl]; exact List.drop_left
theorem arc_cons {b : List Int} {f : Fl} {l : List Fl} : arc b (f :: l) ↔ one b ∧ oneF b = f ∧ arc (restF b) l := by
  constructor
  · rintro ⟨h1, h2⟩
    have e : b = fileR f ++ (bodyR l ++ zer 1024) := by rw [h2, body_cons, List.append_assoc]
    obtain ⟨g1, g2, g3⟩ := one_file (f := f) (r := bodyR l ++ zer 1024) (h1 f (by simp)) (by rw [List.length_append, zer_len]; omega)
    rw [← e] at g1 g2 g3
    exact ⟨g1, g2, fun g hg => h1 g (by simp [hg]), g3⟩
  · rintro ⟨h1, rfl, h2, h3⟩
    refine ⟨fun g hg => ?_, ?_⟩
    · rcases List.mem_cons.1 hg with rfl | hg
      · exact (oneF_data h1).2.2
      · exact h2 g hg
    · rw [body_cons, List.append_assoc, ← h3]
      exact one_split h1
theorem arc_inj : ∀ {l m : List Fl} {b : List Int}, arc b l → arc b m → l = m
  | [], [], _, _, _ => rfl
  | [], f :: m, b, h, g => by
    have h1 := (arc_len g).2.2 (by simp)
    have h := arc_nil.1 h
    rw [h, zer_len] at h1
    omega
  | f :: l, [], b, h, g => by
    have h1 := (arc_len h).2.2 (by simp)
    have g := arc_nil.1 g
    rw [g, zer_len] at h1
    omega
  | f :: l, f' :: m, b, h, g => by
    obtain ⟨h1, h2, h3⟩ := arc_cons.1 h
    obtain ⟨g1, g2, g3⟩ := arc_cons.1 g
    rw [← h2, ← g2, arc_inj h3 g3]
theorem arc_app {l m : List Fl} {r : List Int} (hl : ∀ f ∈ l, okF f) (h : arc (bodyR l ++ r) m) (hr : 1024 ≤ r.length) : ∃ m', m = l ++ m' ∧ arc r m' := by
  induction l generalizing m with
  | nil => exact ⟨m, rfl, h⟩
  | cons f l ih =>
    rw [body_cons, List.append_assoc] at h
    have hf := hl f (by simp)
    obtain ⟨g1, g2, g3⟩ := one_file (f := f) (r := bodyR l ++ r) hf (by rw [List.length_append]; omega)
    match m, h with
    | [], h =>
      have h := arc_nil.1 h
      have := g1.1
      rw [h, zer_len] at this
      omega
    | f' :: m, h =>
      obtain ⟨h1, h2, h3⟩ := arc_cons.1 h
      rw [g2] at h2
      rw [g3] at h3
      subst h2
      obtain ⟨m', e, h4⟩ := ih (fun g hg => hl g (by simp [hg])) h3
      exact ⟨m', by rw [e]; rfl, h4⟩

/-! What files bytes are the archive of. -/
def isArc (b : List Int) (l : List Fl) : Prop := arc b l ∧ ¬ dupF l ∧ fitL l
open Classical in
noncomputable def getL (b : List Int) : List Fl := if h : ∃ l, isArc b l then h.choose else []
open Classical in
noncomputable def getE (b : List Int) : Int := if ∃ l, isArc b l then 0 else 2
theorem get_is {b : List Int} {l : List Fl} (h : isArc b l) : getL b = l ∧ getE b = 0 := by
  have he : ∃ l, isArc b l := ⟨l, h⟩
  refine ⟨?_, ?_⟩
  · unfold getL
    rw [dif_pos he]
    exact arc_inj he.choose_spec.1 h.1
  · unfold getE; rw [if_pos he]
theorem get_not {b : List Int} (h : ¬ ∃ l, isArc b l) : getL b = [] ∧ getE b = 2 := by
  refine ⟨?_, ?_⟩
  · unfold getL; rw [dif_neg h]
  · unfold getE; rw [if_neg h]
theorem putE_ok {l : List Fl} : putE l = 0 ↔ okP l ∧ ¬ dupF l := by
  unfold putE
  by_cases h : okP l
  · rw [if_pos h]
    by_cases g : dupF l
    · rw [if_pos g]; exact ⟨fun x => by omega, fun x => absurd g x.2⟩
    · rw [if_neg g]; exact ⟨fun _ => ⟨h, g⟩, fun _ => rfl⟩
  · rw [if_neg h]; exact ⟨fun x => by omega, fun x => absurd x.1 h⟩
theorem put_get {l : List Fl} (hf : fitL l) (h : putE l = 0) : isArc (putR l) l := by
  obtain ⟨h1, h2⟩ := putE_ok.1 h
  unfold putR
  rw [if_pos h]
  exact ⟨⟨okF_of hf.2 h1, rfl⟩, h2, hf⟩
theorem get_put {b : List Int} {l : List Fl} (h : isArc b l) : putE l = 0 ∧ putR l = b := by
  have h0 : putE l = 0 := putE_ok.2 ⟨okP_of h.1.1, h.2.1⟩
  refine ⟨h0, ?_⟩
  unfold putR
  rw [if_pos h0]
  exact h.1.2.symm
theorem getE_cases (b : List Int) : (∃ l, isArc b l ∧ getL b = l ∧ getE b = 0) ∨ (¬ ∃ l, isArc b l) ∧ getL b = [] ∧ getE b = 2 := by
  by_cases h : ∃ l, isArc b l
  · obtain ⟨l, h⟩ := h
    exact .inl ⟨l, h, get_is h⟩
  · exact .inr ⟨h, get_not h⟩

theorem zer_head : getEr (zer 512) ≠ 0 := fun h => by
  obtain ⟨h1, h2, _⟩ := get_ok h
  have h3 := head_sum h1
  rw [h2] at h3
  have h4 := congrArg (fun l : List Int => l.getLast?) h3
  unfold sumF at h4
  rw [List.getLast?_append] at h4
  revert h4
  decide
theorem put_app {l m : List Fl} (hl : putE l = 0) (hm : putE m = 0) : putE (l ++ m) = 0 ∧ putR (l ++ m) = (putR l).take ((putR l).length - 1024) ++ putR m ∨ putE (l ++ m) = 7 := by
  have h1 := putE_ok.1 hl
  have h2 := putE_ok.1 hm
  have hp : okP (l ++ m) := fun f hf => by
    rcases List.mem_append.1 hf with hf | hf
    · exact h1.1 f hf
    · exact h2.1 f hf
  by_cases hd : dupF (l ++ m)
  · right
    unfold putE
    rw [if_pos hp, if_pos hd]
  · left
    have h0 : putE (l ++ m) = 0 := putE_ok.2 ⟨hp, hd⟩
    refine ⟨h0, ?_⟩
    unfold putR
    rw [if_pos h0, if_pos hl, if_pos hm, body_app, List.length_append, zer_len, Nat.add_sub_cancel, List.take_left, List.append_assoc]
end Go.Proofs.YtflclafbieokiaaGreatDoor.Us

/-
  The contracts of slices.Clone, slices.Grow and slices.Concat of bytes.
-/
set_option linter.unusedVariables false
set_option linter.unusedSectionVars false
namespace Go.Proofs.YtflclafbieokiaaGreatDoor.Us
open Go AL Oc Pa Spl Hd

def catN (ls : List (List Int)) (k : Nat) : List Int := (ls.take k).flatten
theorem cat_succ {ls : List (List Int)} {k : Nat} (h : k < ls.length) : catN ls (k + 1) = catN ls k ++ ls.getD k [] := by
  unfold catN
  rw [List.take_succ_eq_append_getElem h, List.flatten_append, List.getD_eq_getElem?_getD, List.getElem?_eq_getElem h]
  simp
theorem cat_all (ls : List (List Int)) : catN ls ls.length = ls.flatten := by unfold catN; rw [List.take_length]
theorem cat_le {ls : List (List Int)} (k : Nat) : (catN ls k).length ≤ ls.flatten.length := by
  have : ls.flatten = (ls.take k).flatten ++ (ls.drop k).flatten := by rw [← List.flatten_append, List.take_append_drop]
  rw [this, List.length_append]; exact Nat.le_add_right _ _
section
variable [Globs]

set_option maxRecDepth 10000 in
theorem grow_prog (n : Int) (h0 : 0 ≤ n) (hl : n ≤ 140737488355328) : ACalls Tryz.prog 93 [.raw (.slice none 0 0), int .i64 n] [] (fun r h => r = .own 0 0 0 1 ∧ h = [.ints .u8 []]) := by
  refine rcalls Tryz.func93 rfl (by decide) ?_
  refine ⟨fun c => ?_, fun c => ?_⟩
  · have := yes c; omega
  have e0 : IntKind.i64.wrap (0 - 0) = 0 := by rw [w64 (by omega) (by omega)]; rfl
  have e1 : IntKind.i64.wrap (n - IntKind.i64.wrap (0 - 0)) = n := by rw [e0, w64 (by omega) (by omega)]; omega
  refine ⟨fun c => ?_, fun c => ?_⟩
  · refine ⟨⟨by decide, by decide⟩, ?_⟩
    refine ⟨by rw [e1]; exact ⟨h0, hl⟩, rfl, ?_, ?_⟩
    · rw [e1]; show (List.replicate n.toNat (0 : Int)).length * 1 ≤ _; rw [List.length_replicate]; omega
    refine ⟨⟨by decide, by omega⟩, ?_⟩
    exact ⟨[0], [.ints .u8 []], .own 0 0 0 1, leh1 rfl (.intsT _ _ _ 0 rfl), leOwn rfl rfl rfl, rfl, rfl⟩
  · exact ⟨[0], [.ints .u8 []], .own 0 0 0 1, lehE (Nat.le_refl _) .u8, .nil _ _ (by decide), rfl, rfl⟩

set_option maxHeartbeats 1000000 in
set_option maxRecDepth 10000 in
theorem concat_prog (ls : List (List Int)) (hn : ls.length ≤ 1000) (hl : ls.flatten.length ≤ 140737488355328) : ACalls Tryz.prog 75 [.ro ls.length 1 fun i => .roI .u8 (ls.getD i [])] [] (fun r h => r = .own 0 0 ls.flatten.length 1 ∧ h = [.ints .u8 ls.flatten]) := by
  have hs := @cat_succ ls
  have hle := @cat_le ls
  have ha := cat_all ls
  have h0 : catN ls 0 = [] := rfl
  generalize catN ls = F at *
  refine rcalls Tryz.func75 rfl (by decide) ?_
  refine ⟨Nat, fun k => [(0, .ro ls.length 1 fun i => .roI .u8 (ls.getD i [])), (9, .ro ls.length 1 fun i => .roI .u8 (ls.getD i [])), (10, int .i64 ls.length), (11, int .i64 k), (3, int .i64 (F k).length)], fun _ => [], fun k => k ≤ ls.length, fun k => ls.length - k,
    ⟨0, [], Nat.zero_le _, lehN _, ⟨.same _ trivial, .same _ trivial, leI rfl, leI rfl, leI (by rw [h0]; rfl), trivial⟩⟩, ?_⟩
  intro k hk
  have hk : k ≤ ls.length := hk
  have e1 : IntKind.i64.wrap ((k : Int) + 1) = ((k + 1 : Nat) : Int) := by rw [w64 (by omega) (by omega)]; omega
  refine ⟨fun c => ?_, fun c => ?_⟩
  · have f1 : (k : Int) < ls.length := yes c
    have hs := hs (k := k) (by omega)
    have hle := hle (k + 1)
    rw [hs, List.length_append] at hle
    have ek : (k : Int).toNat * 1 + 0 = k := by omega
    refine ⟨⟨by omega, by omega⟩, ?_⟩
    have e2 : IntKind.i64.wrap (((F k).length : Int) + ((ls.getD ((k : Int).toNat * 1 + 0) []).length : Int)) = ((F (k + 1)).length : Int) := by
      rw [ek, w64 (by omega) (by omega), hs, List.length_append]; omega
    refine ⟨fun c2 => ?_, fun c2 => ?_⟩
    · have := yes c2; rw [e2] at this; omega
    exact ⟨trivial, k + 1, [], by show k + 1 ≤ ls.length; omega, by show ls.length - (k + 1) < ls.length - k; omega, lehN _, ⟨.same _ trivial, .same _ trivial, leI rfl, leI e1, leI e2, trivial⟩⟩
  have f1 : ¬ (k : Int) < ls.length := no c
  obtain rfl : k = ls.length := by omega
  refine ⟨[], _, grow_prog _ (by omega) (by rw [ha]; omega), ?_⟩
  rintro r hh ⟨rfl, rfl⟩
  refine ⟨.inl rfl, ?_⟩
  refine ⟨Nat, fun k => [(0, .ro ls.length 1 fun i => .roI .u8 (ls.getD i [])), (25, .ro ls.length 1 fun i => .roI .u8 (ls.getD i [])), (26, int .i64 ls.length), (27, int .i64 k), (6, .own 0 0 (F k).length 1)], fun k => [.ints .u8 (F k)], fun k => k ≤ ls.length, fun k => ls.length - k,
    ⟨0, [0], Nat.zero_le _, leh1 rfl (leOint h0.symm), ⟨.same _ trivial, .same _ trivial, leI rfl, leI rfl, leOwn rfl rfl (by rw [h0]; rfl), trivial⟩⟩, ?_⟩
  intro k hk
  have hk : k ≤ ls.length := hk
  have e1 : IntKind.i64.wrap ((k : Int) + 1) = ((k + 1 : Nat) : Int) := by
    have : k ≤ 1000 := by omega
    rw [w64 (by omega) (by omega)]; omega
  refine ⟨fun c => ?_, fun c => ?_⟩
  · have f1 : (k : Int) < ls.length := yes c
    have hs := hs (k := k) (by omega)
    have hle := hle (k + 1)
    rw [hs, List.length_append] at hle
    have ek : (k : Int).toNat * 1 + 0 = k := by omega
    refine ⟨⟨by omega, by omega⟩, ?_⟩
    refine ⟨rfl, by rw [ek]; show ((F k).length + _) * 1 ≤ _; omega, ?_⟩
    refine ⟨trivial, k + 1, [1], by show k + 1 ≤ ls.length; omega, by show ls.length - (k + 1) < ls.length - k; omega, leh1 rfl (leOint ?_), ⟨.same _ trivial, .same _ trivial, leI rfl, leI e1, leOwn rfl rfl ?_, trivial⟩⟩
    · rw [ek, hs]
    · rw [ek, hs, List.length_append]
  · have f1 : ¬ (k : Int) < ls.length := no c
    obtain rfl : k = ls.length := by omega
    exact ⟨[0], [.ints .u8 ls.flatten], .own 0 0 ls.flatten.length 1, leh1 rfl (leOint ha), leOwn rfl rfl (by rw [ha]), rfl, rfl⟩
end
end Go.Proofs.YtflclafbieokiaaGreatDoor.Us

/-
  Files as they lie in rows, and how often each path was seen. No program in sight.
-/
set_option linter.unusedVariables false
set_option linter.unusedSectionVars false
namespace Go.Proofs.YtflclafbieokiaaGreatDoor.Us
open Go AL Oc Pa Spl Hd

/-! Sums, step by step. -/
theorem body_succ {l : List Fl} {k : Nat} (h : k < l.length) : bodyR (l.take (k + 1)) = bodyR (l.take k) ++ fileR (l.getD k fl0) := by
  rw [take_succ_fl h, body_app]
  unfold bodyR; simp
/-! How often each path was seen. -/
def bump (s : ByteArray) : List (ByteArray × Nat) → List (ByteArray × Nat)
  | [] => [(s, 1)]
  | p :: r => if p.1 = s then (p.1, p.2 + 1) :: r else p :: bump s r
def look (s : ByteArray) : List (ByteArray × Nat) → Option Nat
  | [] => none
  | p :: r => if p.1 = s then some p.2 else look s r
def tally (l : List Fl) : List (ByteArray × Nat) := l.foldl (fun m f => bump f.path m) []
def tallyV (m : List (ByteArray × Nat)) : List (ByteArray × AV) := m.map fun p => (p.1, int .i64 p.2)
theorem tally_snoc (l : List Fl) (f : Fl) : tally (l ++ [f]) = bump f.path (tally l) := by
  unfold tally; rw [List.foldl_append]; rfl
theorem look_getM (s : ByteArray) : ∀ m : List (ByteArray × Nat), getM s (tallyV m) = (look s m).map fun n => int .i64 (n : Nat)
  | [] => rfl
  | p :: r => by
    show (if p.1 = s then some (int .i64 p.2) else getM s (tallyV r)) = _
    unfold look
    by_cases h : p.1 = s
    · rw [if_pos h, if_pos h]; rfl
    · rw [if_neg h, if_neg h]; exact look_getM s r
theorem bump_setM (s : ByteArray) : ∀ m : List (ByteArray × Nat), setM s (int .i64 (((look s m).getD 0 + 1 : Nat) : Int)) (tallyV m) = tallyV (bump s m)
  | [] => rfl
  | p :: r => by
    show (if p.1 = s then (p.1, _) :: tallyV r else (p.1, int .i64 p.2) :: setM s _ (tallyV r)) = _
    unfold look bump
    by_cases h : p.1 = s
    · rw [if_pos h, if_pos h, if_pos h]; rfl
    · rw [if_neg h, if_neg h, if_neg h, bump_setM s r]; rfl
open Classical in
theorem bump_keys (s : ByteArray) : ∀ m : List (ByteArray × Nat), (bump s m).map Prod.fst = if s ∈ m.map Prod.fst then m.map Prod.fst else m.map Prod.fst ++ [s]
  | [] => by rw [if_neg (by simp)]; rfl
  | p :: r => by
    unfold bump
    by_cases h : p.1 = s
    · rw [if_pos h, if_pos (by rw [List.map_cons, h]; exact List.mem_cons_self ..)]; rfl
    · rw [if_neg h, List.map_cons, bump_keys s r]
      by_cases g : s ∈ r.map Prod.fst
      · rw [if_pos g, if_pos (by rw [List.map_cons]; exact List.mem_cons_of_mem _ g)]; rfl
      · rw [if_neg g, if_neg (by
          rw [List.map_cons]; intro x
          rcases List.mem_cons.1 x with x | x
          · exact h x.symm
          · exact g x)]
        rfl
theorem look_le (s t : ByteArray) : ∀ m : List (ByteArray × Nat), ∀ b, (∀ u, (look u m).getD 0 ≤ b) → (look s (bump t m)).getD 0 ≤ b + 1 := by
  intro m b hb
  have key : ∀ m : List (ByteArray × Nat), (look s (bump t m)).getD 0 ≤ (look s m).getD 0 + 1 := by
    intro m
    induction m with
    | nil =>
      unfold bump look
      by_cases h : t = s
      · rw [if_pos h]; exact Nat.le_refl _
      · rw [if_neg h]; exact Nat.zero_le _
    | cons p r ih =>
      unfold bump
      by_cases h : p.1 = t
      · rw [if_pos h]
        unfold look
        by_cases g : p.1 = s
        · rw [if_pos g, if_pos g]; exact Nat.le_refl _
        · rw [if_neg g, if_neg g]; exact Nat.le_succ _
      · rw [if_neg h]
        unfold look
        by_cases g : p.1 = s
        · rw [if_pos g, if_pos g]; exact Nat.le_succ _
        · rw [if_neg g, if_neg g]; exact ih
  exact Nat.le_trans (key m) (Nat.add_le_add_right (hb s) 1)
theorem rev_ind {α : Type} {p : List α → Prop} (h0 : p []) (h1 : ∀ l a, p l → p (l ++ [a])) (l : List α) : p l := by
  have : ∀ m : List α, p m.reverse := fun m => by
    induction m with
    | nil => exact h0
    | cons a m ih => rw [List.reverse_cons]; exact h1 _ _ ih
  have := this l.reverse
  rwa [List.reverse_reverse] at this
theorem tally_look (l : List Fl) (s : ByteArray) : (look s (tally l)).getD 0 ≤ l.length := by
  revert s
  refine rev_ind (p := fun l => ∀ s, (look s (tally l)).getD 0 ≤ l.length) (fun s => Nat.le_refl _) (fun l f ih s => ?_) l
  rw [tally_snoc, List.length_append]
  exact look_le s f.path (tally l) l.length ih
theorem tally_facts (l : List Fl) : (∀ s, s ∈ (tally l).map Prod.fst ↔ s ∈ l.map Fl.path) ∧ (tally l).length ≤ l.length ∧ ((tally l).length = l.length ↔ (l.map Fl.path).Nodup) := by
  refine rev_ind (p := fun l => (∀ s, s ∈ (tally l).map Prod.fst ↔ s ∈ l.map Fl.path) ∧ (tally l).length ≤ l.length ∧ ((tally l).length = l.length ↔ (l.map Fl.path).Nodup)) ⟨fun s => Iff.rfl, Nat.le_refl _, fun _ => List.nodup_nil, fun _ => rfl⟩ (fun l f ⟨i1, i2, i3⟩ => ?_) l
  have hk := bump_keys f.path (tally l)
  have hkl := congrArg List.length hk
  rw [List.length_map] at hkl
  rw [tally_snoc]
  have hlen : (l ++ [f]).length = l.length + 1 := by rw [List.length_append]; rfl
  have hmap : (l ++ [f]).map Fl.path = l.map Fl.path ++ [f.path] := by rw [List.map_append]; rfl
  have hnd : (l.map Fl.path ++ [f.path]).Nodup ↔ (l.map Fl.path).Nodup ∧ f.path ∉ l.map Fl.path := by
    rw [List.nodup_append]
    constructor
    · rintro ⟨a, _, c⟩
      exact ⟨a, fun h => c _ h _ (List.mem_singleton.2 rfl) rfl⟩
    · rintro ⟨a, b⟩
      exact ⟨a, List.nodup_cons.2 ⟨by simp, .nil⟩, fun x hx y hy e => b (by rw [List.mem_singleton.1 hy] at e; rw [← e]; exact hx)⟩
  by_cases h : f.path ∈ (tally l).map Prod.fst
  · rw [if_pos h] at hk hkl
    rw [List.length_map] at hkl
    refine ⟨fun s => ?_, by omega, ?_⟩
    · rw [hk, i1, hmap, List.mem_append, List.mem_singleton]
      exact ⟨.inl, fun x => x.elim id fun e => by rw [e]; exact (i1 _).1 h⟩
    · rw [hmap, hnd, hlen]
      exact ⟨fun e => by omega, fun x => absurd ((i1 _).1 h) x.2⟩
  · rw [if_neg h] at hk hkl
    rw [List.length_append, List.length_map, List.length_singleton] at hkl
    refine ⟨fun s => ?_, by omega, ?_⟩
    · rw [hk, hmap, List.mem_append, List.mem_append, i1]
    · rw [hmap, hnd, hlen, hkl]
      exact ⟨fun e => ⟨i3.1 (by omega), fun x => h ((i1 _).2 x)⟩, fun x => by have := i3.2 x.1; omega⟩
theorem tally_dup (l : List Fl) : (tally l).length < l.length ↔ dupF l := by
  obtain ⟨_, h2, h3⟩ := tally_facts l
  unfold dupF
  rw [← h3]; omega
theorem tallyV_len (m : List (ByteArray × Nat)) : (tallyV m).length = m.length := List.length_map _

end Go.Proofs.YtflclafbieokiaaGreatDoor.Us
