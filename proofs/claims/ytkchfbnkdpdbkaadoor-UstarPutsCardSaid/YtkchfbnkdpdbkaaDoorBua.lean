import Derived.Test.YtkchfbnkdpdbkaaDoorFwD
import Derived.Lib.Join
import Derived.Lib.Bytealg
import Derived.Test.YtkchfbnkdpdbkaaDoorShelfN
import Derived.Laws.RangeString
import Derived.RangeFuncNested
import Derived.RangeFuncBound
import Derived.RangeFuncCalls
import Derived.RangeFuncLeaves
import Derived.Shelf.Abstract
import Derived.Shelf.RegionOpen
import Derived.WalkKit
import Derived.OwnWalkIn
import Derived.TacticsInMore
import Derived.LoopNIn
import Derived.LoopIn
import Derived.Test.YtkchfbnkdpdbkaaDoorProg
import Derived.Lib.IndexLaws
import Derived.Shelf.Bytes.SlIndexAt
import Derived.Shelf.Lays
import Derived.Lib.Strings
import Derived.Lib.Walk
import Derived.Lib.BytesEntry
import Derived.Lib.ItoaLen
import Derived.Lib.ParseIntBTie
import GoSem.Core.Float
import Derived.Laws.ComplexArith
import Derived.Below

/-
  Texts that are cut at a sign, and put together with it. No program in sight.
-/
set_option linter.unusedVariables false
namespace Go.Proofs.YtkchfbnkdpdbkaaDoor.Spl
open Go AL

def pieces (c : UInt8) : List UInt8 → List (List UInt8)
  | [] => [[]]
  | x :: l => if x = c then [] :: pieces c l else match pieces c l with
    | p :: ps => (x :: p) :: ps
    | [] => [[x]]
def joinC (c : UInt8) : List (List UInt8) → List UInt8
  | [] => []
  | p :: r => p ++ r.flatMap fun q => c :: q
theorem pieces_ne (c : UInt8) : ∀ l, pieces c l ≠ []
  | [] => by simp [pieces]
  | x :: l => by
    unfold pieces
    split
    · simp
    · split <;> simp
theorem pieces_one {c : UInt8} : ∀ {a : List UInt8}, (∀ x ∈ a, x ≠ c) → pieces c a = [a]
  | [], _ => rfl
  | x :: a, h => by
    unfold pieces
    rw [if_neg (h x (by simp)), pieces_one fun y hy => h y (by simp [hy])]
theorem pieces_app {c : UInt8} (b : List UInt8) : ∀ {a : List UInt8}, (∀ x ∈ a, x ≠ c) → pieces c (a ++ c :: b) = a :: pieces c b
  | [], _ => by simp [pieces]
  | x :: a, h => by
    rw [List.cons_append]
    conv => lhs; unfold pieces
    rw [if_neg (h x (by simp)), pieces_app b fun y hy => h y (by simp [hy])]
theorem pieces_free {c : UInt8} : ∀ {l : List UInt8}, ∀ p ∈ pieces c l, ∀ x ∈ p, x ≠ c
  | [], p, h, x, hx => by simp [pieces] at h; subst h; cases hx
  | y :: l, p, h, x, hx => by
    unfold pieces at h
    split at h
    · rcases List.mem_cons.1 h with rfl | h
      · cases hx
      · exact pieces_free p h x hx
    · rename_i hy
      split at h
      · rename_i q qs e
        rcases List.mem_cons.1 h with rfl | h
        · rcases List.mem_cons.1 hx with rfl | hx
          · exact hy
          · exact pieces_free q (by rw [e]; simp) x hx
        · exact pieces_free p (by rw [e]; simp [h]) x hx
      · rename_i e; exact absurd e (pieces_ne c l)
theorem join_pieces (c : UInt8) : ∀ l, joinC c (pieces c l) = l
  | [] => rfl
  | x :: l => by
    have ih := join_pieces c l
    unfold pieces
    split
    · rename_i e
      subst e
      cases h : pieces x l with
      | nil => exact absurd h (pieces_ne x l)
      | cons p ps =>
        rw [h] at ih
        simp only [joinC, List.nil_append, List.flatMap_cons] at ih ⊢
        rw [List.cons_append, ih]
    · split
      · rename_i p ps e
        rw [e] at ih
        simp only [joinC, List.cons_append] at ih ⊢
        rw [ih]
      · rename_i e; exact absurd e (pieces_ne c l)
theorem join_cons (c : UInt8) (p q : List UInt8) (r : List (List UInt8)) : joinC c (p :: q :: r) = p ++ c :: joinC c (q :: r) := by
  simp [joinC]
theorem pieces_join {c : UInt8} : ∀ {ps : List (List UInt8)}, ps ≠ [] → (∀ p ∈ ps, ∀ x ∈ p, x ≠ c) → pieces c (joinC c ps) = ps
  | [], h, _ => absurd rfl h
  | [p], _, h => by
    have : joinC c [p] = p := by simp [joinC]
    rw [this, pieces_one (h p (by simp))]
  | p :: q :: r, _, h => by
    rw [join_cons, pieces_app _ (h p (by simp)), pieces_join (by simp) fun x hx => h x (by simp [hx])]
theorem join_snoc (c : UInt8) (p : List UInt8) : ∀ {ps : List (List UInt8)}, ps ≠ [] → joinC c (ps ++ [p]) = joinC c ps ++ c :: p
  | [], h => absurd rfl h
  | q :: r, _ => by simp [joinC]
theorem lib_join (c : UInt8) : ∀ ps, Lib.join ps [c] = joinC c ps
  | [] => rfl
  | p :: r => by
    rw [Lib.join_cons]
    show p ++ (List.map (fun x => [c] ++ x) r).flatten = p ++ List.flatMap (fun q => c :: q) r
    rw [List.flatMap_def]
    rfl
theorem pieces_len (c : UInt8) : ∀ l, (pieces c l).length = l.count c + 1
  | [] => rfl
  | x :: l => by
    have ih := pieces_len c l
    unfold pieces
    split
    · rename_i e; subst e; simp [ih]
    · rename_i hne
      split
      · rename_i p ps e
        rw [e] at ih
        rw [List.count_cons_of_ne hne]
        simpa using ih
      · rename_i e; exact absurd e (pieces_ne c l)
theorem join_inj {c : UInt8} {ps qs : List (List UInt8)} (hp : ps ≠ []) (hq : qs ≠ []) (fp : ∀ p ∈ ps, ∀ x ∈ p, x ≠ c) (fq : ∀ p ∈ qs, ∀ x ∈ p, x ≠ c) (h : joinC c ps = joinC c qs) : ps = qs := by
  rw [← pieces_join hp fp, h, pieces_join hq fq]
/-- The place of the first sign. -/
theorem pieces_cut {c : UInt8} {l : List UInt8} {k : Nat} (hk : k < l.length) (hc : l[k] = c) (hn : ∀ i (hi : i < k), l[i]'(by omega) ≠ c) : pieces c l = l.take k :: pieces c (l.drop (k + 1)) := by
  have e : l = l.take k ++ c :: l.drop (k + 1) := by
    conv => lhs; rw [← List.take_append_drop k l, List.drop_eq_getElem_cons hk, hc]
  conv => lhs; rw [e]
  rw [pieces_app]
  intro x hx
  obtain ⟨i, hi, rfl⟩ := List.getElem_of_mem hx
  have : i < k := by simp at hi; omega
  rw [List.getElem_take]
  exact hn i this

theorem rest_last {c : UInt8} {ps : List (List UInt8)} {k : Nat} (h : k + 1 = ps.length) : joinC c (ps.drop k) = ps.getD k [] := by
  have hk : k < ps.length := by omega
  rw [List.drop_eq_getElem_cons hk, List.drop_eq_nil_of_le (by omega), List.getD_eq_getElem?_getD, List.getElem?_eq_getElem hk]
  simp [joinC]
theorem rest_more {c : UInt8} {ps : List (List UInt8)} {k : Nat} (h : k + 1 < ps.length) : joinC c (ps.drop k) = ps.getD k [] ++ c :: joinC c (ps.drop (k + 1)) := by
  have hk : k < ps.length := by omega
  rw [List.drop_eq_getElem_cons hk, List.drop_eq_getElem_cons h, join_cons, List.getD_eq_getElem?_getD, List.getElem?_eq_getElem hk]
  rfl
/-- Where a piece begins. -/
def pre (ps : List (List UInt8)) : Nat → Nat
  | 0 => 0
  | k + 1 => pre ps k + (ps.getD k []).length + 1
theorem pre_drop (c : UInt8) (ps : List (List UInt8)) : ∀ k, k < ps.length → (joinC c ps).drop (pre ps k) = joinC c (ps.drop k)
  | 0, _ => rfl
  | k + 1, h => by
    have ih := pre_drop c ps k (by omega)
    rw [rest_more (by omega)] at ih
    show (joinC c ps).drop (pre ps k + (ps.getD k []).length + 1) = _
    rw [Nat.add_assoc, ← List.drop_drop, ih, List.drop_append, List.drop_eq_nil_of_le (by omega)]
    simp
theorem pre_end (c : UInt8) {ps : List (List UInt8)} {k : Nat} (h : k + 1 = ps.length) (hp : pre ps k ≤ (joinC c ps).length) : pre ps k + (ps.getD k []).length = (joinC c ps).length := by
  have h1 := pre_drop c ps k (by omega)
  rw [rest_last h] at h1
  have := congrArg List.length h1
  rw [List.length_drop] at this
  omega
theorem pre_le (c : UInt8) (ps : List (List UInt8)) : ∀ k, k < ps.length → pre ps k ≤ (joinC c ps).length
  | 0, _ => Nat.zero_le _
  | k + 1, h => by
    have h0 := pre_le c ps k (by omega)
    have h1 := pre_drop c ps k (by omega)
    rw [rest_more (by omega)] at h1
    have := congrArg List.length h1
    rw [List.length_drop, List.length_append, List.length_cons] at this
    show pre ps k + (ps.getD k []).length + 1 ≤ _
    omega
theorem pre_get {c : UInt8} {ps : List (List UInt8)} {k j : Nat} (hk : k < ps.length) (hj : j < (ps.getD k []).length) : (joinC c ps)[pre ps k + j]? = (ps.getD k [])[j]? := by
  have h1 := pre_drop c ps k hk
  have : ((joinC c ps).drop (pre ps k))[j]? = (ps.getD k [])[j]? := by
    rw [h1]
    rcases Nat.lt_or_ge (k + 1) ps.length with h | h
    · rw [rest_more h, List.getElem?_append_left hj]
    · rw [rest_last (by omega)]
  rwa [List.getElem?_drop] at this
theorem pre_sep {c : UInt8} {ps : List (List UInt8)} {k : Nat} (hk : k + 1 < ps.length) : (joinC c ps)[pre ps k + (ps.getD k []).length]? = some c := by
  have h1 := pre_drop c ps k (by omega)
  have : ((joinC c ps).drop (pre ps k))[(ps.getD k []).length]? = some c := by
    rw [h1, rest_more hk, List.getElem?_append_right (Nat.le_refl _)]
    simp
  rwa [List.getElem?_drop] at this
theorem pre_piece {c : UInt8} {ps : List (List UInt8)} {k : Nat} (hk : k < ps.length) : ((joinC c ps).take (pre ps k + (ps.getD k []).length)).drop (pre ps k) = ps.getD k [] := by
  have h1 := pre_drop c ps k hk
  rw [List.drop_take, h1, show pre ps k + (ps.getD k []).length - pre ps k = (ps.getD k []).length by omega]
  rcases Nat.lt_or_ge (k + 1) ps.length with h | h
  · rw [rest_more h, List.take_append_of_le_length (Nat.le_refl _), List.take_of_length_le (Nat.le_refl _)]
  · rw [rest_last (by omega), List.take_of_length_le (Nat.le_refl _)]
theorem piece_len {c : UInt8} {ps : List (List UInt8)} {k : Nat} (hk : k < ps.length) : (ps.getD k []).length ≤ (joinC c ps).length := by
  have := congrArg List.length (pre_piece (c := c) hk)
  rw [List.length_drop, List.length_take] at this
  omega
theorem rest_len (c : UInt8) (ps : List (List UInt8)) (k : Nat) (hk : k < ps.length) : (joinC c (ps.drop k)).length ≤ (joinC c ps).length := by
  have := congrArg List.length (pre_drop c ps k hk)
  rw [List.length_drop] at this
  omega
/-- The first sign of a text. -/
theorem index_app {c : UInt8} (b : List UInt8) : ∀ {a : List UInt8}, (∀ x ∈ a, x ≠ c) → Lib.indexByte (a ++ c :: b) c = (a.length : Int)
  | [], _ => by simp [Lib.indexByte]
  | x :: a, h => by
    have ih := index_app b (a := a) fun y hy => h y (by simp [hy])
    rw [List.cons_append]
    unfold Lib.indexByte
    have hx : (x == c) = false := by simpa using h x (by simp)
    have h2 : (Lib.indexByte (a ++ c :: b) c == -1) = false := by rw [ih]; simp
    rw [if_neg (by rw [hx]; decide), h2, ih]
    simp

end Go.Proofs.YtkchfbnkdpdbkaaDoor.Spl

/-
  The contract of strings.Split at a text of one sign.
-/
set_option linter.unusedVariables false
set_option linter.unusedSectionVars false
namespace Go.Proofs.YtkchfbnkdpdbkaaDoor.Spl
open Go AL

def bA (p : List UInt8) : ByteArray := ⟨p.toArray⟩
theorem bA_data (s : ByteArray) : bA s.data.toList = s := by unfold bA; cases s; simp
theorem bA_list (p : List UInt8) : (bA p).data.toList = p := by simp [bA]
theorem bA_size (p : List UInt8) : (bA p).size = p.length := by show p.toArray.size = _; simp
def sAt (ps : List ByteArray) (i : Nat) : ByteArray := ps.getD i ByteArray.empty
def pcs (c : UInt8) (s : ByteArray) : List ByteArray := (pieces c s.data.toList).map bA
theorem pcs_at {c : UInt8} {s : ByteArray} {k : Nat} (h : k < (pieces c s.data.toList).length) : sAt (pcs c s) k = bA ((pieces c s.data.toList).getD k []) := by
  unfold sAt pcs
  rw [List.getD_eq_getElem?_getD, List.getElem?_map, List.getElem?_eq_getElem h, List.getD_eq_getElem?_getD, List.getElem?_eq_getElem h]
  rfl
/-- The cells of the row of pieces, the first k of them filled. -/
def cellS (ps : List ByteArray) (k i : Nat) : ByteArray := if i < k then sAt ps i else ByteArray.empty
theorem cellS_new (P : List ByteArray) (k : Nat) : cellS P (k + 1) k = sAt P k := if_pos (Nat.lt_succ_self k)
theorem cellS_old (P : List ByteArray) {k i : Nat} (h : i ≠ k) : cellS P (k + 1) i = cellS P k i := by
  unfold cellS
  by_cases h2 : i < k
  · rw [if_pos h2, if_pos (by omega)]
  · rw [if_neg h2, if_neg (by omega)]
theorem bA_ext {s t : ByteArray} (h : s.data.toList = t.data.toList) : s = t := by rw [← bA_data s, h, bA_data]
theorem ext_list (s : ByteArray) (a b : Nat) : (s.extract a b).data.toList = (s.data.toList.take b).drop a := by
  rw [ByteArray.data_extract, Array.toList_extract]
  simp [List.drop_take]
theorem cut_left (p b : List UInt8) (c : UInt8) : (bA (p ++ c :: b)).extract 0 p.length = bA p := by
  refine bA_ext ?_
  rw [ext_list, bA_list, bA_list, List.drop_zero, List.take_append_of_le_length (Nat.le_refl _), List.take_of_length_le (Nat.le_refl _)]
theorem cut_right (p b : List UInt8) (c : UInt8) : (bA (p ++ c :: b)).extract (p.length + 1) (bA (p ++ c :: b)).size = bA b := by
  refine bA_ext ?_
  rw [ext_list, bA_list, bA_list, bA_size, List.take_of_length_le (Nat.le_refl _), List.drop_append, List.drop_eq_nil_of_le (by omega)]
  simp

section
variable [Globs]
abbrev textsV (ps : List ByteArray) : AV := .ro ps.length 1 fun i => str (sAt ps i)

theorem giveTexts {h : List AO} {l : List Nat} {id off len n : Nat} {f : Nat → AV} {ps : List ByteArray} (e : h[id]? = some (.row n f)) (hl : id ∉ l) (ho : off = 0) (he : len = ps.length) (hb : ps.length ≤ n) (hf : ∀ i, i < ps.length → f i = str (sAt ps i)) :
    LeV h l (.own id off len 1) (textsV ps) := by
  subst ho he
  exact .giveR _ e hl (by omega) (fun i hi => by rw [Nat.zero_add, hf i (by omega)]; exact .raw _) fun i hi => trivial

theorem indexOne_prog (s : ByteArray) (c : UInt8) : ACalls Tryd.prog 60 [str s, str ⟨#[c]⟩] [] (fun r h => r = int .i64 (Lib.indexByte s.data.toList c) ∧ h = []) :=
  acalls_same (args := [.string s, .string ⟨#[c]⟩]) ⟨_, Tryd.func60, by decide, rfl⟩ fun w => Tryd.strings_Index_one s c w

end
end Go.Proofs.YtkchfbnkdpdbkaaDoor.Spl

/-
  Parts of paths: what they are, and what the document's own functions say of them.
-/
set_option linter.unusedVariables false
set_option linter.unusedSectionVars false
namespace Go.Proofs.YtkchfbnkdpdbkaaDoor.Pa
open Go AL Spl

/-- May a byte stand in a part? -/
def letN (c : Int) : Bool := decide (97 ≤ c ∧ c ≤ 122 ∨ 65 ≤ c ∧ c ≤ 90 ∨ 48 ≤ c ∧ c ≤ 57 ∨ c = 45 ∨ c = 46 ∨ c = 95 ∨ c = 43 ∨ c = 126)
def allL (xs : List Int) : Bool := xs.all letN
def letters : ByteArray := ⟨#[97, 98, 99, 100, 101, 102, 103, 104, 105, 106, 107, 108, 109, 110, 111, 112, 113, 114, 115, 116, 117, 118, 119, 120, 121, 122, 65, 66, 67, 68, 69, 70, 71, 72, 73, 74, 75, 76, 77, 78, 79, 80, 81, 82, 83, 84, 85, 86, 87, 88, 89, 90, 48, 49, 50, 51, 52, 53, 54, 55, 56, 57, 45, 46, 95, 43, 126]⟩
def one : ByteArray := ⟨#[46]⟩
def two : ByteArray := ⟨#[46, 46]⟩
def okPart (p : ByteArray) : Prop := 1 ≤ p.size ∧ p.size ≤ 100 ∧ p ≠ one ∧ p ≠ two ∧ ∀ k, k < p.size → letN ((intsOf p).getD k 0) = true
instance (p : ByteArray) : Decidable (okPart p) := by unfold okPart; infer_instance

section
variable [Globs]

set_option maxHeartbeats 2000000 in
set_option maxRecDepth 10000 in
theorem letter_ref (c : Int) : ACalls Tryd.prog 110 [int .u8 c] [] (fun r h => r = bool (letN c) ∧ h = []) := by
  obtain ⟨B, hB⟩ : ∃ B, letN c = B := ⟨_, rfl⟩
  have hB' := hB
  unfold letN at hB'
  rw [hB]
  refine rcalls Tryd.func110 rfl (by decide) ?_
  repeat' (first | (refine ⟨fun h => ?_, fun h => ?_⟩ <;> first | replace h := yes h | replace h := no h) | fail)
  all_goals first
    | exact ⟨[], [], _, lehN _, leTB (by rw [← hB']; exact decide_eq_true (by omega)), rfl, rfl⟩
    | exact ⟨[], [], _, lehN _, leB (by rw [← hB']; exact decide_eq_decide.2 (by omega)), rfl, rfl⟩

set_option maxHeartbeats 2000000 in
set_option maxRecDepth 10000 in
theorem part_ref (s : ByteArray) (hs : s.size ≤ 9223372036854775806) : ACalls Tryd.prog 86 [str s] [] (fun r h => r = bool (decide (okPart s)) ∧ h = []) := by
  have hP : okPart s ↔ _ := Iff.rfl
  obtain ⟨B, hB⟩ : ∃ B, decide (okPart s) = B := ⟨_, rfl⟩
  rw [hB]
  have hf : ¬ okPart s → B = false := fun h => by rw [← hB]; exact decide_eq_false h
  have hl := letter_ref
  refine rcalls Tryd.func86 rfl (by decide) ?_
  refine ⟨Nat, fun k => [(0, str s), (3, int .i64 k)], fun _ => [], fun k => k ≤ s.size ∧ ∀ i, i < k → letN ((intsOf s).getD i 0) = true, fun k => s.size - k,
    ⟨0, [], ⟨Nat.zero_le _, by simp⟩, lehN _, ⟨leS rfl, leI rfl, trivial⟩⟩, ?_⟩
  rintro k ⟨hk, hj⟩
  refine ⟨fun c => ?_, fun c => ?_⟩
  · have f1 : (k : Int) < s.size := yes c
    have e1 : IntKind.i64.wrap ((k : Int) + 1) = ((k + 1 : Nat) : Int) := by rw [w64 (by omega) (by omega)]; omega
    have hlk := hl ((intsOf s).getD k 0)
    refine ⟨⟨by omega, f1⟩, ?_⟩
    refine ⟨[], _, hlk, ?_⟩
    rintro r hh ⟨rfl, rfl⟩
    refine ⟨.inl rfl, ?_⟩
    refine ⟨fun c2 => ?_, fun c2 => ?_⟩
    · exact ⟨[], [], _, lehN _, leFB (hf fun h => by have := h.2.2.2.2 k (by omega); rw [this] at c2; cases c2), rfl, rfl⟩
    · refine ⟨trivial, k + 1, [], ⟨by show k + 1 ≤ _; omega, fun i hi => ?_⟩, by show s.size - (k + 1) < s.size - k; omega, lehN _, ⟨leS rfl, leI e1, trivial⟩⟩
      rcases Nat.lt_or_ge i k with h | h
      · exact hj i h
      · rw [show i = k by omega]; exact unnot c2
  · have f1 : ¬ (k : Int) < s.size := no c
    obtain rfl : k = s.size := by omega
    refine ⟨fun c1 => ⟨fun c2 => ⟨fun c3 => ?_, fun c3 => ?_⟩, fun c2 => ?_⟩, fun c1 => ?_⟩
    · refine ⟨[], [], _, lehN _, leB ?_, rfl, rfl⟩
      rw [← hB]
      exact decide_eq_decide.2 ⟨fun h => ⟨by have := yes c1; omega, by have := yes c2; omega, yes c3, h, hj⟩, fun h => h.2.2.2.1⟩
    · exact ⟨[], [], _, lehN _, leFB (hf fun h => no c3 h.2.2.1), rfl, rfl⟩
    · exact ⟨[], [], _, lehN _, leFB (hf fun h => no c2 (by have := h.2.1; omega)), rfl, rfl⟩
    · exact ⟨[], [], _, lehN _, leFB (hf fun h => no c1 (by have := h.1; omega)), rfl, rfl⟩

end
end Go.Proofs.YtkchfbnkdpdbkaaDoor.Pa

/-
  The library's Trim at the letters of a part.
-/
set_option linter.unusedVariables false
set_option linter.unusedSectionVars false
namespace Go.Proofs.YtkchfbnkdpdbkaaDoor.Pa
open Go AL Spl

/-- Is i one of the first k letters? -/
def hasK (k i : Nat) : Bool := (List.range k).any fun j => decide ((intsOf letters).getD j 0 = i)
theorem has_all : ∀ i, i < 256 → hasK 67 i = letN i := by decide +kernel
theorem has_zero (i : Nat) : hasK 0 i = false := rfl
theorem has_succ (k i : Nat) : hasK (k + 1) i = (hasK k i || decide ((intsOf letters).getD k 0 = i)) := by
  unfold hasK
  rw [List.range_succ, List.any_append]
  simp
theorem letters_small : ∀ k, k < 67 → 0 ≤ (intsOf letters).getD k 0 ∧ (intsOf letters).getD k 0 < 128 := by decide +kernel
theorem letters_size : letters.size = 67 := rfl

section
variable [Globs]
abbrev setV : Nat → AV := fun i => bool (letN i)

set_option maxHeartbeats 2000000 in
set_option maxRecDepth 10000 in
theorem makeSet_prog : ACalls Tryd.prog 126 [str letters] [] (fun r h => r = .tup 2 (pair (.agg 256 setV) .tt) ∧ h = []) := by
  have hall := has_all
  have h0 := has_zero
  have hsu := has_succ
  have hsm := letters_small
  have hsz := letters_size
  generalize letters = s at *
  refine rcalls Tryd.func126 rfl (by decide) ?_
  refine ⟨rfl, ?_⟩
  refine ⟨Nat, fun k => [(0, str s), (2, .ptr 0 0), (4, int .i64 k)], fun k => [.row 256 fun i => bool (hasK k i)], fun k => k ≤ 67, fun k => 67 - k,
    ⟨0, [0], by omega, leh1 rfl (.row _ _ _ _ (Nat.le_refl _) fun i hi => leB (h0 i).symm), ⟨leS rfl, .ptr _ rfl, leI rfl, trivial⟩⟩, ?_⟩
  intro k hk
  have hk : k ≤ 67 := hk
  refine ⟨fun c => ?_, fun c => ?_⟩
  · have f1 : (k : Int) < s.size := yes c
    have hk' : k < 67 := by omega
    have e1 : IntKind.i64.wrap ((k : Int) + 1) = ((k + 1 : Nat) : Int) := by rw [w64 (by omega) (by omega)]; omega
    obtain ⟨b1, b2⟩ := hsm k hk'
    have hs1 := hsu k
    have hto : ((k : Int)).toNat = k := by omega
    refine ⟨⟨by omega, f1⟩, ?_⟩
    refine ⟨fun c2 => ?_, fun c2 => ?_⟩
    · have := yes c2; rw [hto] at this; omega
    have f2 : (0 : Int) ≤ (intsOf s).getD ((k : Int)).toNat 0 ∧ (intsOf s).getD ((k : Int)).toNat 0 < 128 := by rw [hto]; exact ⟨b1, b2⟩
    have ho : addOff 0 ((intsOf s).getD ((k : Int)).toNat 0).toNat 1 = ((intsOf s).getD k 0).toNat := by
      rw [hto]; unfold addOff; omega
    refine ⟨⟨f2.1, by show (intsOf s).getD ((k : Int)).toNat 0 < 256; omega⟩, ?_⟩
    refine ⟨by show addOff 0 ((intsOf s).getD ((k : Int)).toNat 0).toNat 1 < 256; rw [ho]; omega, fun i => if i = ((intsOf s).getD k 0).toNat then .tt else bool (hasK k i), fun i hi => ?_, ?_⟩
    · show _ = if i = addOff 0 ((intsOf s).getD ((k : Int)).toNat 0).toNat 1 then _ else _
      rw [ho]
    exact ⟨trivial, k + 1, [0], by show k + 1 ≤ 67; omega, by show 67 - (k + 1) < 67 - k; omega, leh1 rfl (.row _ _ _ _ (Nat.le_refl _) fun i hi => by
      rw [hs1 i]
      by_cases e : i = ((intsOf s).getD k 0).toNat
      · rw [if_pos e]
        have : (intsOf s).getD k 0 = (i : Int) := by omega
        exact leTB (by rw [decide_eq_true this]; exact Bool.or_true _)
      · rw [if_neg e]
        have : ¬ (intsOf s).getD k 0 = (i : Int) := by omega
        exact leB (by rw [decide_eq_false this, Bool.or_false])), ⟨leS rfl, .ptr _ rfl, leI e1, trivial⟩⟩
  · have f1 : ¬ (k : Int) < s.size := no c
    obtain rfl : k = 67 := by omega
    refine ⟨Nat.le_refl _, ?_⟩
    refine ⟨Nat.le_refl _, fun i hi => rfl, fun i => bool (hasK 67 i), fun i hi => ?_, ?_⟩
    · rw [if_pos ⟨Nat.zero_le _, by rw [Nat.zero_add]; exact hi⟩]
      show AL.bool _ = AL.bool (hasK 67 (0 + (i - 0)))
      rw [Nat.sub_zero, Nat.zero_add]
    refine ⟨Nat.le_refl _, [], [], _, lehN _, ?_, rfl, rfl⟩
    refine le_pair (a := .agg 256 setV) (b := .tt) (.agg _ _ _ fun i hi => ?_) .tt
    show LeV _ _ (AL.bool (hasK 67 (0 + i))) (AL.bool (letN i))
    rw [Nat.zero_add]
    exact leB (hall i hi)

theorem leS1 : LeH 1 [.row 256 setV] [0] [.row 256 setV] :=
  ⟨rfl, Nat.le_refl 1, fun i hi => by obtain rfl : i = 0 := by omega
                                      rfl, by simp, fun i j o' hl ho => by
    match i, hl, ho with
    | 0, hl, ho =>
      cases hl; cases ho
      exact .inl ⟨_, rfl, .row _ _ _ _ (Nat.le_refl _) fun i hi => .same _ trivial⟩⟩

set_option maxRecDepth 10000 in
theorem has_prog (c : Int) (h0 : 0 ≤ c) (h1 : c < 256) : ACalls Tryd.prog 140 [.ptr 0 0, int .u8 c] [.row 256 setV] (fun r h => r = bool (letN c) ∧ h = [.row 256 setV]) := by
  have e : ((c.toNat : Nat) : Int) = c := by omega
  refine rcalls Tryd.func140 rfl (by decide) ?_
  refine ⟨⟨h0, h1⟩, ?_⟩
  have ho : addOff 0 c.toNat 1 = c.toNat := by unfold addOff; omega
  refine ⟨by show addOff 0 c.toNat 1 < 256; rw [ho]; omega, ?_⟩
  refine ⟨[0], [.row 256 setV], _, leS1, leB ?_, rfl, rfl⟩
  show letN ((addOff 0 c.toNat 1 : Nat) : Int) = letN c
  rw [ho, e]

theorem ints_lt (s : ByteArray) (i : Nat) : 0 ≤ (intsOf s).getD i 0 ∧ (intsOf s).getD i 0 < 256 := by
  rcases Nat.lt_or_ge i (intsOf s).length with h | h
  · rw [List.getD_eq_getElem?_getD, List.getElem?_eq_getElem h]
    exact intsOf_range s _ (List.getElem_mem _)
  · rw [List.getD_eq_getElem?_getD, List.getElem?_eq_none h]
    exact ⟨by simp, by simp⟩
theorem ints_ext (s : ByteArray) {a b i : Nat} (hb : b ≤ s.size) (hi : a + i < b) : (intsOf (s.extract a b)).getD i 0 = (intsOf s).getD (a + i) 0 := by
  unfold intsOf
  rw [List.getD_eq_getElem?_getD, List.getD_eq_getElem?_getD, List.getElem?_map, List.getElem?_map]
  congr 2
  rw [ext_list, List.getElem?_drop, List.getElem?_take_of_lt hi]
def TrimRR (s : ByteArray) (r : AV) (h : List AO) : Prop :=
  ∃ k, k ≤ s.size ∧ r = str (s.extract 0 k) ∧ (k = 0 ∨ letN ((intsOf s).getD (k - 1) 0) = false) ∧ (∀ i, k ≤ i → i < s.size → letN ((intsOf s).getD i 0) = true) ∧ h = [.row 256 setV]

set_option maxHeartbeats 2000000 in
set_option maxRecDepth 10000 in
theorem trimR_prog (s : ByteArray) (hs : s.size ≤ 9223372036854775806) : ACalls Tryd.prog 128 [str s, .ptr 0 0] [.row 256 setV] (TrimRR s) := by
  refine rcalls Tryd.func128 rfl (by decide) ?_
  refine ⟨Nat, fun k => [(0, str (s.extract 0 k)), (1, .ptr 0 0)], fun k => [.row 256 setV], fun k => k ≤ s.size ∧ ∀ i, k ≤ i → i < s.size → letN ((intsOf s).getD i 0) = true, fun k => k,
    ⟨s.size, [0], ⟨Nat.le_refl _, fun i _ _ => by omega⟩, leS1, ⟨leS (by simp), .ptr _ rfl, trivial⟩⟩, ?_⟩
  rintro k ⟨hk, hj⟩
  have hX : (s.extract 0 k).size = k := by rw [ByteArray.size_extract]; omega
  have hc : 0 < k → (intsOf (s.extract 0 k)).getD (k - 1) 0 = (intsOf s).getD (k - 1) 0 := fun h => by rw [ints_ext s hk (by omega), Nat.zero_add]
  have hY : 0 < k → (s.extract 0 k).extract 0 (k - 1) = s.extract 0 (k - 1) := fun h => by
    rw [ByteArray.extract_extract]; congr 1; omega
  have leave : ∀ {t : List AV}, (k = 0 ∨ letN ((intsOf s).getD (k - 1) 0) = false) → True := fun _ => trivial
  refine ⟨fun c => ?_, fun c => ?_⟩
  · have f1 : 0 < ((s.extract 0 k).size : Int) := yes c
    have h0 : 0 < k := by omega
    have e1 : IntKind.i64.wrap (((s.extract 0 k).size : Int) - 1) = ((k - 1 : Nat) : Int) := by rw [w64 (by omega) (by omega)]; omega
    obtain ⟨b1, b2⟩ := ints_lt (s.extract 0 k) (k - 1)
    have hh := has_prog ((intsOf (s.extract 0 k)).getD (k - 1) 0) b1 b2
    have hto : (IntKind.i64.wrap (((s.extract 0 k).size : Int) - 1)).toNat = k - 1 := by rw [e1]; omega
    refine ⟨⟨by rw [e1]; omega, by rw [e1]; omega⟩, ?_⟩
    rw [← hto] at hh
    refine ⟨[0], _, fun i hi => trivial, hh, ?_⟩
    rintro r h' ⟨rfl, rfl⟩
    refine ⟨.inl rfl, ?_⟩
    have hX' := hX
    have hcc : (intsOf (s.extract 0 k)).getD (IntKind.i64.wrap (((s.extract 0 k).size : Int) - 1)).toNat 0 = (intsOf s).getD (k - 1) 0 := by rw [hto]; exact hc h0
    refine ⟨fun c2 => ?_, fun c2 => ?_⟩
    · refine ⟨[0], [.row 256 setV], _, leS1, leS rfl, k, hk, rfl, .inr ?_, hj, rfl⟩
      rw [hcc] at c2
      revert c2; cases letN ((intsOf s).getD (k - 1) 0) <;> simp
    · rw [hcc] at c2
      refine ⟨⟨by rw [e1]; omega, by rw [e1]; omega⟩, ?_⟩
      refine ⟨trivial, k - 1, [0], ⟨by show k - 1 ≤ s.size; omega, fun i h1 h2 => ?_⟩, by show k - 1 < k; omega, leS1, ⟨leS ?_, .ptr _ rfl, trivial⟩⟩
      · rcases Nat.lt_or_ge i k with h | h
        · rw [show i = k - 1 by have h1 : k - 1 ≤ i := h1; omega]; exact unnot c2
        · exact hj i h h2
      · show (s.extract 0 k).extract 0 _ = _
        rw [hto]; exact hY h0
  · have f1 : ¬ 0 < ((s.extract 0 k).size : Int) := no c
    obtain rfl : k = 0 := by omega
    exact ⟨[0], [.row 256 setV], _, leS1, leS rfl, 0, Nat.zero_le _, rfl, .inl rfl, hj, rfl⟩

def TrimLR (s : ByteArray) (r : AV) (h : List AO) : Prop :=
  ∃ k, k ≤ s.size ∧ r = str (s.extract k s.size) ∧ (k = s.size ∨ letN ((intsOf s).getD k 0) = false) ∧ (∀ i, i < k → letN ((intsOf s).getD i 0) = true) ∧ h = [.row 256 setV]

set_option maxHeartbeats 2000000 in
set_option maxRecDepth 10000 in
theorem trimL_prog (s : ByteArray) (hs : s.size ≤ 9223372036854775806) : ACalls Tryd.prog 127 [str s, .ptr 0 0] [.row 256 setV] (TrimLR s) := by
  refine rcalls Tryd.func127 rfl (by decide) ?_
  refine ⟨Nat, fun k => [(0, str (s.extract k s.size)), (1, .ptr 0 0)], fun k => [.row 256 setV], fun k => k ≤ s.size ∧ ∀ i, i < k → letN ((intsOf s).getD i 0) = true, fun k => s.size - k,
    ⟨0, [0], ⟨Nat.zero_le _, fun i hi => by omega⟩, leS1, ⟨leS (by simp), .ptr _ rfl, trivial⟩⟩, ?_⟩
  rintro k ⟨hk, hj⟩
  have hX : (s.extract k s.size).size = s.size - k := by rw [ByteArray.size_extract]; omega
  have hc : k < s.size → (intsOf (s.extract k s.size)).getD 0 0 = (intsOf s).getD k 0 := fun h => by rw [ints_ext s (Nat.le_refl _) (by omega), Nat.add_zero]
  have hY : k < s.size → (s.extract k s.size).extract 1 (s.extract k s.size).size = s.extract (k + 1) s.size := fun h => by
    rw [hX, ByteArray.extract_extract]; congr 1; omega
  refine ⟨fun c => ?_, fun c => ?_⟩
  · have f1 : 0 < ((s.extract k s.size).size : Int) := yes c
    have h0 : k < s.size := by omega
    obtain ⟨b1, b2⟩ := ints_lt (s.extract k s.size) 0
    have hh := has_prog ((intsOf (s.extract k s.size)).getD 0 0) b1 b2
    refine ⟨⟨by omega, by omega⟩, ?_⟩
    refine ⟨[0], _, fun i hi => trivial, hh, ?_⟩
    rintro r h' ⟨rfl, rfl⟩
    refine ⟨.inl rfl, ?_⟩
    have hcc := hc h0
    refine ⟨fun c2 => ?_, fun c2 => ?_⟩
    · refine ⟨[0], [.row 256 setV], _, leS1, leS rfl, k, hk, rfl, .inr ?_, hj, rfl⟩
      rw [hcc] at c2
      revert c2; cases letN ((intsOf s).getD k 0) <;> simp
    · refine ⟨⟨by omega, by omega⟩, ?_⟩
      refine ⟨trivial, k + 1, [0], ⟨by show k + 1 ≤ s.size; omega, fun i hi => ?_⟩, by show s.size - (k + 1) < s.size - k; omega, leS1, ⟨leS (hY h0), .ptr _ rfl, trivial⟩⟩
      rcases Nat.lt_or_ge i k with h | h
      · exact hj i h
      · rw [show i = k by have hi : i < k + 1 := hi; omega, ← hcc]; exact unnot c2
  · have f1 : ¬ 0 < ((s.extract k s.size).size : Int) := no c
    obtain rfl : k = s.size := by omega
    exact ⟨[0], [.row 256 setV], _, leS1, leS rfl, s.size, Nat.le_refl _, rfl, .inl rfl, hj, rfl⟩

/-- What is trimmed away wholly is letters alone. -/
def allLet (s : ByteArray) : Prop := ∀ i, i < s.size → letN ((intsOf s).getD i 0) = true

set_option maxHeartbeats 2000000 in
set_option maxRecDepth 10000 in
theorem trim_prog (s : ByteArray) (h0 : s ≠ ByteArray.empty) (hs : s.size ≤ 9223372036854775806) : ACalls Tryd.prog 102 [str s, str letters] [] (fun r h => (∃ t, r = str t ∧ (t = ByteArray.empty ↔ allLet s)) ∧ h = []) := by
  have hl : letters.size = 67 := rfl
  have hne : letters ≠ ByteArray.empty := by intro e; rw [e] at hl; cases hl
  have hm := makeSet_prog
  generalize letters = T at *
  refine rcalls Tryd.func102 rfl (by decide) ?_
  refine ⟨fun c => absurd (yes c) h0, fun _ => ⟨fun c => absurd (yes c) hne, fun _ => ?_⟩⟩
  refine ⟨fun c => absurd (yes c) (by omega), fun _ => ?_⟩
  refine ⟨[], _, hm, ?_⟩
  rintro r hh ⟨rfl, rfl⟩
  refine ⟨.inl rfl, ?_⟩
  refine ⟨rfl, ?_⟩
  refine ⟨Nat.le_refl _, fun i hi => rfl, setV, fun i hi => ?_, ?_⟩
  · rw [if_pos ⟨Nat.zero_le _, by rw [Nat.zero_add]; exact hi⟩]
    rfl
  refine ⟨[0], _, fun i hi => trivial, trimR_prog s hs, ?_⟩
  rintro r h' ⟨k, hk, rfl, h1, h2, rfl⟩
  refine ⟨.inl rfl, ?_⟩
  have hX : (s.extract 0 k).size = k := by rw [ByteArray.size_extract]; omega
  refine ⟨[0], _, fun i hi => trivial, trimL_prog (s.extract 0 k) (by omega), ?_⟩
  rintro r h' ⟨q, hq, rfl, h3, h4, rfl⟩
  refine ⟨.inl rfl, ?_⟩
  refine ⟨[], [], _, lehN _, leS rfl, ⟨_, rfl, ?_⟩, rfl⟩
  rw [hX] at hq h3 ⊢
  have hsz : ((s.extract 0 k).extract q k).size = k - q := by rw [ByteArray.size_extract, hX]; omega
  have hget : ∀ i, i < k → (intsOf (s.extract 0 k)).getD i 0 = (intsOf s).getD i 0 := fun i hi => by rw [ints_ext s hk (by omega), Nat.zero_add]
  constructor
  · intro e
    rw [e] at hsz
    have hsz : 0 = k - q := hsz
    obtain rfl : q = k := by omega
    rcases h1 with rfl | h1
    · exact fun i hi => h2 i (Nat.zero_le _) hi
    · rcases Nat.eq_zero_or_pos q with h0' | h0'
      · subst h0'; exact fun i hi => h2 i (Nat.zero_le _) hi
      · have := h4 (q - 1) (by omega)
        rw [hget _ (by omega), h1] at this; cases this
  · intro hall
    rcases h1 with rfl | h1
    · refine ByteArray.size_eq_zero_iff.1 ?_
      rw [hsz]; omega
    · rw [hall (k - 1) ?_] at h1
      · cases h1
      · rcases Nat.eq_zero_or_pos k with h0' | h0'
        · subst h0'
          exact Nat.pos_of_ne_zero fun e => h0 (ByteArray.size_eq_zero_iff.1 e)
        · omega

/-! Runes. -/
theorem letters_has : ∀ r : Nat, r < 128 → decide (0 ≤ Lib.indexByte letters.data.toList r.toUInt8) = letN (r : Int) := by decide +kernel

theorem containsRune_prog (r : Nat) (h : r < 128) : ACalls Tryd.prog 105 [str letters, int .i32 r] [] (fun x h => x = bool (letN (r : Int)) ∧ h = []) := by
  have := letters_has r h
  rw [← this]
  exact acalls_same (args := [.string letters, .int .i32 r]) ⟨_, Tryd.func105, by decide, rfl⟩ fun w => Tryd.strings_ContainsRune_ascii letters (r : Int) w (by omega) (by omega)

set_option maxRecDepth 10000 in
theorem partFn_prog (r : Nat) (h : r < 128) : ACalls Tryd.prog 104 [int .i32 r] [] (fun x h => x = bool (!letN (r : Int)) ∧ h = []) := by
  have hc := containsRune_prog r h
  refine rcalls Tryd.func104 rfl (by decide) ?_
  refine ⟨[], _, hc, ?_⟩
  rintro r hh ⟨rfl, rfl⟩
  refine ⟨.inl rfl, ?_⟩
  exact ⟨[], [], _, lehN _, leB rfl, rfl, rfl⟩

set_option maxHeartbeats 2000000 in
set_option maxRecDepth 10000 in
theorem indexFunc_prog (s : ByteArray) (hs : s.size ≤ 9223372036854775806) (hall : allLet s) : ACalls Tryd.prog 142 [str s, .raw (.func (.func 104) ⟨[]⟩ ⟨[]⟩), .tt] [] (fun x h => x = int .i64 (-1) ∧ h = []) := by
  have hdec : ∀ k, k < s.size → ∀ c q : Nat, Utf8.decode s k = (c, q) → (c : Int) = (intsOf s).getD k 0 ∧ c < 128 ∧ q = 1 ∧ letN (c : Int) = true := fun k hk c q e => by
    obtain ⟨b, hb, hi⟩ := intsOf_get hk
    have hl := hall k hk
    have hlt : (intsOf s).getD k 0 < 128 := by
      unfold letN at hl
      have := of_decide_eq_true hl
      omega
    have hbk : s[k]'hk = b := by
      rw [getElem?_pos s k hk] at hb
      exact Option.some.inj hb
    have hd := decode_ascii s k hk (by rw [hbk]; omega)
    rw [e, hbk] at hd
    obtain ⟨rfl, rfl⟩ := Prod.mk.inj hd
    exact ⟨hi.symm, by omega, rfl, by rw [← hi]; exact hl⟩
  refine rcalls Tryd.func142 rfl (by decide) ?_
  refine ⟨Nat, fun k => [(0, str s), (1, .raw (.func (.func 104) ⟨[]⟩ ⟨[]⟩)), (2, bool true), (10, .ptr 0 0)], fun k => [.siter s k], fun k => k ≤ s.size, fun k => s.size - k,
    ⟨0, [0], Nat.zero_le _, leh1 rfl (.siter _ _), ⟨leS rfl, .raw _, .ttr, .ptr _ rfl, trivial⟩⟩, ?_⟩
  intro k hk
  have hk : k ≤ s.size := hk
  refine ⟨fun h c q e => ?_, fun h => ?_⟩
  · obtain ⟨e1, e2, rfl, e4⟩ := hdec k h c q e
    have hp : ACalls Tryd.prog 104 [int .i32 c] [] (fun x h => x = bool false ∧ h = []) := by
      have := partFn_prog c e2
      rw [e4] at this
      exact this
    refine ⟨[], _, hp, ?_⟩
    rintro r hh ⟨rfl, rfl⟩
    refine ⟨.inl rfl, ?_⟩
    refine ⟨fun c2 => ?_, fun c2 => ?_⟩
    · cases c2
    · exact ⟨trivial, k + 1, [0], by show k + 1 ≤ s.size; omega, by show s.size - (k + 1) < s.size - k; omega, leh1 rfl (.siter _ _), ⟨leS rfl, .raw _, leB rfl, .ptr _ rfl, trivial⟩⟩
  · exact ⟨[], [], _, lehN _, leI rfl, rfl, rfl⟩

set_option maxRecDepth 10000 in
theorem containsFunc_prog (s : ByteArray) (hs : s.size ≤ 9223372036854775806) (hall : allLet s) : ACalls Tryd.prog 103 [str s, .raw (.func (.func 104) ⟨[]⟩ ⟨[]⟩)] [] (fun x h => x = bool false ∧ h = []) := by
  have h1 := indexFunc_prog s hs hall
  have h2 : ACalls Tryd.prog 131 [str s, .raw (.func (.func 104) ⟨[]⟩ ⟨[]⟩)] [] (fun x h => x = int .i64 (-1) ∧ h = []) := by
    refine rcalls Tryd.func131 rfl (by decide) ?_
    refine ⟨[], _, h1, ?_⟩
    rintro r hh ⟨rfl, rfl⟩
    refine ⟨.inl rfl, ?_⟩
    exact ⟨[], [], _, lehN _, leI rfl, rfl, rfl⟩
  refine rcalls Tryd.func103 rfl (by decide) ?_
  refine ⟨[], _, h2, ?_⟩
  rintro r hh ⟨rfl, rfl⟩
  refine ⟨.inl rfl, ?_⟩
  exact ⟨[], [], _, lehN _, leB rfl, rfl, rfl⟩

set_option maxHeartbeats 2000000 in
set_option maxRecDepth 10000 in
theorem part_prog (s : ByteArray) (hs : s.size ≤ 9223372036854775806) : ACalls Tryd.prog 83 [str s] [] (fun x h => x = bool (decide (okPart s)) ∧ h = []) := by
  have hP : okPart s ↔ _ := Iff.rfl
  obtain ⟨B, hB⟩ : ∃ B, decide (okPart s) = B := ⟨_, rfl⟩
  rw [hB]
  have hf : ¬ okPart s → B = false := fun h => by rw [← hB]; exact decide_eq_false h
  have ht := fun h => trim_prog s h hs
  have hc := containsFunc_prog s hs
  refine rcalls Tryd.func83 rfl (by decide) ?_
  have emp : ∀ {h : List AO} {l : List Nat}, s = ByteArray.empty → LeV h l .ff (bool B) := fun e => leFB (hf fun h => by have := h.1; rw [e] at this; cases this)
  refine ⟨fun c1 => ⟨fun c2 => ⟨fun c3 => ⟨fun c4 => ?_, fun c4 => ?_⟩, fun c3 => ?_⟩, fun c2 => ?_⟩, fun c1 => ?_⟩
  · have c1 := yes c1
    refine ⟨[], _, ht c1, ?_⟩
    rintro r h ⟨⟨t, rfl, hall⟩, rfl⟩
    refine ⟨.inl rfl, ?_⟩
    refine ⟨fun c5 => ?_, fun c5 => ?_⟩
    · have hl := hall.1 (yes c5)
      refine ⟨[], _, hc hl, ?_⟩
      rintro r hh ⟨rfl, rfl⟩
      refine ⟨.inl rfl, ?_⟩
      refine ⟨[], [], _, lehN _, leB ?_, rfl, rfl⟩
      rw [← hB]
      refine (decide_eq_true ?_).symm
      exact ⟨Nat.pos_of_ne_zero fun e => c1 (ByteArray.size_eq_zero_iff.1 e), by have := yes c2; omega, yes c3, yes c4, hl⟩
    · exact ⟨[], [], _, lehN _, leFB (hf fun h => no c5 (hall.2 h.2.2.2.2)), rfl, rfl⟩
  · exact ⟨[], [], _, lehN _, leFB (hf fun h => no c4 h.2.2.2.1), rfl, rfl⟩
  · exact ⟨[], [], _, lehN _, leFB (hf fun h => no c3 h.2.2.1), rfl, rfl⟩
  · exact ⟨[], [], _, lehN _, leFB (hf fun h => no c2 (by have := h.2.1; omega)), rfl, rfl⟩
  · exact ⟨[], [], _, lehN _, emp (Classical.not_not.1 (no c1)), rfl, rfl⟩

end
end Go.Proofs.YtkchfbnkdpdbkaaDoor.Pa

/-
  The closure of strings.SplitSeq at a sign of one byte, walked over whatever rounds.
-/
set_option linter.unusedVariables false
set_option linter.unusedSectionVars false
namespace Go.Proofs.YtkchfbnkdpdbkaaDoor.Pa
open Go Go.RowKit Go.Shelf AL Spl

/-- The rest of a text from its piece k on. -/
def restS (ps : List (List UInt8)) (k : Nat) : ByteArray := bA (joinC 47 (ps.drop k))
def pieceS (ps : List (List UInt8)) (k : Nat) : ByteArray := bA (ps.getD k [])
/-- The three captured variables, before piece k. -/
structure Boxes (ps : List (List UInt8)) (bs bp bv k : Nat) (W : World) : Prop where
  s : W.cell? ⟨bs, 0, none⟩ = some (.string (restS ps k))
  f : W.frozen? ⟨bs, 0, none⟩ = false
  p : W.cell? ⟨bp, 0, none⟩ = some (.string ⟨#[47]⟩)
  v : W.cell? ⟨bv, 0, none⟩ = some (.int .i64 0)
def leftAt (b : Nat) (W : World) : Nat := match W.cell? ⟨b, 0, none⟩ with | some (.string x) => x.size | _ => 0
/-- All but one block lies as it lay. -/
structure But (bs : Nat) (W W' : World) : Prop where
  os : W'.os = W.os
  tape : W'.tape = W.tape
  output : W'.output = W.output
  size : W'.heap.size = W.heap.size
  block : ∀ j, j ≠ bs → W'.heap[j]? = W.heap[j]?

theorem index_none {c : UInt8} : ∀ {a : List UInt8}, (∀ x ∈ a, x ≠ c) → Lib.indexByte a c = -1
  | [], _ => rfl
  | x :: a, h => by
    have ih := index_none fun y hy => h y (List.mem_cons_of_mem x hy)
    have h1 : (x == c) = false := by simpa using h x (by simp)
    unfold Lib.indexByte
    simp [h1, ih]

set_option maxHeartbeats 2000000 in
theorem seq_calls (n : Nat) (l bs bp bv : Nat) (ps : List (List UInt8)) (hps : 0 < ps.length) (hfree : ∀ p ∈ ps, ∀ x ∈ p, x ≠ 47) (hsm : ∀ k, k < ps.length → (joinC 47 (ps.drop k)).length ≤ 9223372036854775806) (hp : bp ≠ bs) (hv : bv ≠ bs) (J : Nat → World → Prop) (Jx : World → Prop)
    (hJ : ∀ k W W', J k W → But bs W W' → J k W')
    (hY : ∀ k W, k < ps.length → J k W → Boxes ps bs bp bv k W → YieldAt Fence.wide (n - 1) Tryd.prog l #[.string (pieceS ps k)] W fun e W' =>
      (e = .returned (.bool true) ∧ J (k + 1) W' ∧ Boxes ps bs bp bv k W') ∨ (e = .returned (.bool false) ∧ Jx W'))
    (W : World) (h0 : J 0 W) (hB : Boxes ps bs bp bv 0 W) :
    CallsIn Fence.wide n Tryd.prog 138 #[.func (.yield l) #[] #[], .pointer (some ⟨bp, 0, none⟩), .pointer (some ⟨bs, 0, none⟩), .pointer (some ⟨bv, 0, none⟩)] W fun e W' =>
      (∃ v, e = .returned v) ∧ (J ps.length W' ∨ Jx W') := by
  refine callsIn_of_wp Tryd.func138 rfl trivial ?_ rfl
  simp only [Tryd.ntmps138, List.size_toArray, List.length_cons, List.length_nil, Nat.reduceAdd, Nat.reduceSub, Array.replicate_succ, Array.replicate_zero, List.push_toArray, List.append_toArray, List.nil_append, List.cons_append]
  have hc1 := hB.p
  gi_wp2
  gi_loopw [] (fun wr => ∃ k, k < ps.length ∧ J k wr ∧ Boxes ps bs bp bv k wr) (fun wr => leftAt bs wr)
  case atStart => exact ⟨0, hps, h0, hB⟩
  case round =>
    obtain ⟨k, hk, hj, hb⟩ := hrel
    have c1 := hb.s
    have c2 := hb.p
    have c3 := hb.v
    have f1 := hb.f
    have hpk : ∀ x ∈ ps.getD k [], x ≠ 47 := by
      rw [List.getD_eq_getElem?_getD, List.getElem?_eq_getElem hk]
      exact hfree _ (List.getElem_mem _)
    obtain ⟨fn, tmps, assign, body, hy, hR⟩ := hY k wr hk hj hb
    have hI := Tryd.strings_Index_one (restS ps k) 47 wr
    unfold restS at hI c1
    rw [bA_list] at hI
    unfold pieceS at hy
    rcases Nat.lt_or_ge (k + 1) ps.length with hlt | hge
    · rw [rest_more hlt, index_app _ hpk] at hI
      rw [rest_more hlt] at c1
      have hnext : restS ps (k + 1) = bA (joinC 47 (ps.drop (k + 1))) := rfl
      have hrk : restS ps k = bA (ps.getD k [] ++ 47 :: joinC 47 (ps.drop (k + 1))) := by unfold restS; rw [rest_more hlt]
      obtain ⟨p, hpE⟩ : ∃ p, ps.getD k [] = p := ⟨_, rfl⟩
      obtain ⟨B, hBE⟩ : ∃ B, joinC 47 (ps.drop (k + 1)) = B := ⟨_, rfl⟩
      rw [hpE] at hI hy c1 hrk
      rw [hBE] at hI c1 hnext hrk
      have hsz : (bA (p ++ 47 :: B)).size = p.length + 1 + B.length := by rw [bA_size, List.length_append, List.length_cons]; omega
      have hcl : (bA (p ++ 47 :: B)).extract 0 p.length = bA p := cut_left _ _ _
      have hcr : (bA (p ++ 47 :: B)).extract (p.length + 1) (bA (p ++ 47 :: B)).size = bA B := cut_right _ _ _
      obtain ⟨X, hX⟩ : ∃ X, bA (p ++ 47 :: B) = X := ⟨_, rfl⟩
      obtain ⟨Y, hY'⟩ : ∃ Y, bA p = Y := ⟨_, rfl⟩
      obtain ⟨N, hN⟩ : ∃ N, p.length = N := ⟨_, rfl⟩
      rw [hX] at hI c1 hsz hcl hcr hrk
      rw [hY'] at hy hcl
      rw [hN] at hI hsz hcl hcr
      have hle := hsm k hk
      rw [rest_more hlt, List.length_append, List.length_cons, hpE, hBE, hN] at hle
      have hw1 : wrap64 (N : Int) = (N : Int) := by unfold wrap64; omega
      have hw2 : wrap64 ((N : Int) + 1) = (N : Int) + 1 := by unfold wrap64; omega
      have ht : ((N : Int) + 1).toNat = N + 1 := by omega
      have hbd : ¬ (N : Int) < 0 := by omega
      have hcr2 : X.extract (N + 1) (N + 1 + B.length) = bA B := by rw [← hsz]; exact hcr
      clear hpk hpE hBE
      gi_wp2_with (refine ⟨trivial, fun h => (by cases h), ?_⟩; refine (callsIn_wide.2 hI).mono ?_; rintro e w' ⟨rfl, rfl⟩)
      refine ⟨fun h => (by cases h), ?_⟩
      refine hR.mono ?_
      rintro e W1 (⟨rfl, hj1, hb1⟩ | ⟨rfl, hx1⟩)
      · have d1 := hb1.s
        rw [hrk] at d1
        have d2 := hb1.p
        have d4 := hb1.f
        gi_wp2
        go_roundw
        case rel =>
          refine ⟨k + 1, hlt, hJ _ _ _ hj1 ⟨rfl, rfl, rfl, Array.size_modify, fun j hj => Below.heap_setCell _ _ _ j hj⟩, ⟨?_, ?_, ?_, ?_⟩⟩
          · rw [hnext]; exact World.cell?_setCell_same' _ _ _ (by rw [d1]; rfl)
          · rw [World.frozen?_setCell]; exact hb1.f
          · exact (World.cell?_of_block (Below.heap_setCell _ _ _ _ hp)).trans hb1.p
          · exact (World.cell?_of_block (Below.heap_setCell _ _ _ _ hv)).trans hb1.v
        case measure =>
          have e1 := World.cell?_setCell_same' W1 ⟨bs, 0, none⟩ (.string (bA B)) (by rw [d1]; rfl)
          unfold leftAt
          rw [e1, c1]
          show (bA B).size < X.size
          rw [bA_size, hsz]
          omega
      · gi_wp2
        refine bodyPost_ret (results_none rfl _ _ _) rfl ?_
        exact ⟨⟨_, rfl⟩, .inr hx1⟩
    · have hkl : k + 1 = ps.length := by omega
      rw [rest_last hkl, index_none hpk] at hI
      rw [rest_last hkl] at c1
      obtain ⟨X, hX⟩ : ∃ X, bA (ps.getD k []) = X := ⟨_, rfl⟩
      rw [hX] at hI c1 hy
      clear hpk
      gi_wp2_with (refine ⟨trivial, fun h => (by cases h), ?_⟩; refine (callsIn_wide.2 hI).mono ?_; rintro e w' ⟨rfl, rfl⟩)
      refine ⟨fun h => (by cases h), ?_⟩
      refine hR.mono ?_
      rintro e W1 (⟨rfl, hj1, hb1⟩ | ⟨rfl, hx1⟩)
      · gi_wp2
        first | go_end0 | go_ret
        exact ⟨⟨_, rfl⟩, .inl (by rw [← hkl]; exact hj1)⟩
      · gi_wp2
        first | go_end0 | go_ret
        exact ⟨⟨_, rfl⟩, .inr hx1⟩

end Go.Proofs.YtkchfbnkdpdbkaaDoor.Pa

/-
  A range over strings.SplitSeq: whether all parts of a text may be.
-/
set_option linter.unusedVariables false
set_option linter.unusedSectionVars false
namespace Go.Proofs.YtkchfbnkdpdbkaaDoor.Pa
open Go Go.RowKit Go.Shelf AL Spl

abbrev box3 (s : ByteArray) (w : World) : World := ((w.alloc (.cells #[.string s] 9)).alloc (.cells #[.string ⟨#[47]⟩] 9)).alloc (.cells #[.int .i64 0] 3)
abbrev seqV (B : Nat) : Value := .func (.func 138) #[] #[.pointer (some ⟨B + 1, 0, none⟩), .pointer (some ⟨B, 0, none⟩), .pointer (some ⟨B + 2, 0, none⟩)]

theorem splitSeq_calls (n : Nat) (s : ByteArray) (w : World) : CallsIn Fence.wide n Tryd.prog 123 #[.string s, .string ⟨#[47]⟩, .int .i64 0] w fun e w' => e = .returned (seqV w.heap.size) ∧ w' = box3 s w := by
  refine callsIn_of_wp Tryd.func123 rfl trivial ?_ rfl
  simp only [Tryd.ntmps123, List.size_toArray, List.length_cons, List.length_nil, Nat.reduceAdd, Nat.reduceSub, Array.replicate_succ, Array.replicate_zero, List.push_toArray, List.append_toArray, List.nil_append, List.cons_append]
  gi_wp2
  first | go_end0 | go_ret
  exact ⟨rfl, rfl⟩

theorem SplitSeq_calls (n : Nat) (s : ByteArray) (w : World) : CallsIn Fence.wide n Tryd.prog 101 #[.string s, .string ⟨#[47]⟩] w fun e w' => e = .returned (seqV w.heap.size) ∧ w' = box3 s w := by
  refine callsIn_of_wp Tryd.func101 rfl trivial ?_ rfl
  simp only [Tryd.ntmps101, List.size_toArray, List.length_cons, List.length_nil, Nat.reduceAdd, Nat.reduceSub, Array.replicate_succ, Array.replicate_zero, List.push_toArray, List.append_toArray, List.nil_append, List.cons_append]
  gi_wp2_with (refine ⟨trivial, fun h => (by cases h), ?_⟩; refine (splitSeq_calls _ s w).mono ?_; rintro e w' ⟨rfl, rfl⟩)
  first | go_end0 | go_ret
  exact ⟨rfl, rfl⟩

theorem parts_calls (n : Nat) (s : ByteArray) (w : World) : CallsIn Fence.wide n Tryd.prog 82 #[.string s] w fun e w' => e = .returned (seqV w.heap.size) ∧ w' = box3 s w := by
  refine callsIn_of_wp Tryd.func82 rfl trivial ?_ rfl
  simp only [Tryd.ntmps82, List.size_toArray, List.length_cons, List.length_nil, Nat.reduceAdd, Nat.reduceSub, Array.replicate_succ, Array.replicate_zero, List.push_toArray, List.append_toArray, List.nil_append, List.cons_append]
  gi_wp2_with (refine ⟨trivial, fun h => (by cases h), ?_⟩; refine (SplitSeq_calls _ s w).mono ?_; rintro e w' ⟨rfl, rfl⟩)
  first | go_end0 | go_ret
  exact ⟨rfl, rfl⟩

/-- The loop's own code. -/
def rfOf : Code → Code × Code
  | .seq _ (.seq (.seq _ (.block _ (.rangeFunc _ _ a b))) _) => (a, b)
  | _ => (.skip, .skip)
def wholeRec (a b : Code) (s : ByteArray) (fn : FuncId) (A D : Nat) (q : Value) (st : LoopState) (pend : Option Code) : Loop :=
  { state := st, pending := pend, fn, tmps := #[.string s, undef, .pointer (some ⟨A, 0, none⟩), undef, .string s, q, undef, undef, undef, undef, undef, undef, undef], params := #[6], assign := a, body := b, defers := D }

structure Rec (r : LoopState → Option Code → Loop) : Prop where
  st : ∀ a b, (r a b).state = a
  pe : ∀ a b, (r a b).pending = b
  one : ∀ a b c, { r a b with state := c } = r c b
  two : ∀ a b c d, { r a b with state := c, pending := d } = r c d
theorem wholeRec_rec (a b : Code) (s : ByteArray) (fn : FuncId) (A D : Nat) (q : Value) : Rec (wholeRec a b s fn A D q) := ⟨fun _ _ => rfl, fun _ _ => rfl, fun _ _ _ => rfl, fun _ _ _ _ => rfl⟩

structure At (r : LoopState → Option Code → Loop) (n₀ : Nat) (w : World) (A l D : Nat) (st : LoopState) (pend : Option Code) (W : World) : Prop where
  c : W.cell? ⟨A, 0, none⟩ = some (.bool false)
  f : W.frozen? ⟨A, 0, none⟩ = false
  L : W.heap[l]? = some (.loop (r st pend))
  K : W.heap[D]? = some (.deferred (some []))
  B : Below n₀ w W

section
variable [Globs]
theorem glob_later {S : Nat → Prop} {n₀ : Nat} {w W : World} (hSn : ∀ b, S b → b < n₀) (hn : n₀ ≤ w.heap.size) (hg : Glob S w) (hb : Below n₀ w W) : Glob (fun b => b < W.heap.size) W :=
  hg.mono (fun b h => hb.block b (hSn b h)) (fun b h => Nat.lt_of_lt_of_le (hSn b h) (Nat.le_trans hn hb.size))
theorem part_calls (p : ByteArray) (hp : p.size ≤ 9223372036854775806) (W : World) (hg : Glob (fun b => b < W.heap.size) W) :
    Calls Tryd.prog 83 #[.string p] W fun e W' => e = .returned (.bool (decide (okPart p))) ∧ Below W.heap.size W W' :=
  (calls_of_acalls (part_prog p hp) (vs := #[.string p]) rfl (fun i x hx => by
    match i, hx with
    | 0, hx => cases hx; exact ⟨_, rfl, rfl⟩) hg).mono fun e W' ⟨v, r, h', L', S', h1, ⟨h2, _⟩, h3, h4⟩ => by
      subst h2
      have h3 : v = .bool (decide (okPart p)) := h3
      subst h3
      exact ⟨h1, h4⟩

set_option maxHeartbeats 2000000 in
theorem whole_round (m : Nat) (a b : Code) (hab : rfOf (Tryd.f59.body.getD .skip) = (a, b)) (r : LoopState → Option Code → Loop) (hr : Rec r) (n₀ : Nat) (w : World) (s p : ByteArray) (fn : FuncId) (A l D : Nat) (q : Value) (hn : n₀ ≤ w.heap.size) (hA : n₀ ≤ A) (hl : n₀ ≤ l) (hD : n₀ ≤ D) (hAl : A ≠ l) (hDl : D ≠ l) (hDA : D ≠ A) (hp : p.size ≤ 9223372036854775806)
    (S : Nat → Prop) (hSn : ∀ b, S b → b < n₀) (hg : Glob S w) (W : World) (h : At r n₀ w A l D .ready none W) (R : Ending → World → Prop)
    (hT : okPart p → ∀ W', At r n₀ w A l D .ready none W' → Below l W W' → R (.returned (.bool true)) W')
    (hF : ¬ okPart p → ∀ W', At r n₀ w A l D .done (some .ret) W' → R (.returned (.bool false)) W') :
    RoundIn Fence.wide m Tryd.prog l fn #[.string s, undef, .pointer (some ⟨A, 0, none⟩), undef, .string s, q, .string p, undef, undef, undef, undef, undef, undef] a b W R := by
  refine roundIn_of_wpIn trivial ?_
  have hll : l < W.heap.size := (Array.getElem?_eq_some_iff.1 h.L).1
  have hbr := run_beginRound (P := Tryd.prog) h.L (hr.st _ _)
  rw [hr.one] at hbr
  obtain ⟨W2, hW2⟩ : ∃ W2, W.putObj l (.loop (r .busy none)) = W2 := ⟨_, rfl⟩
  rw [hW2] at hbr
  have hc2 : W2.cell? ⟨A, 0, none⟩ = some (.bool false) := by rw [← hW2]; exact (World.cell?_of_block (World.putObj_heap_other hAl)).trans h.c
  have hf2 : W2.frozen? ⟨A, 0, none⟩ = false := by rw [← hW2]; exact (World.frozen?_of_block (World.putObj_heap_other hAl)).trans h.f
  have hK2 : W2.heap[D]? = some (.deferred (some [])) := by rw [← hW2]; exact (World.putObj_heap_other hDl).trans h.K
  have hL2 : W2.heap[l]? = some (.loop (r .busy none)) := by rw [← hW2]; exact World.putObj_heap_same hll
  have hb2 : Below l W W2 := by rw [← hW2]; exact ⟨rfl, rfl, rfl, by simp, fun k hk => World.putObj_heap_other (by omega)⟩
  have hA2 : A < W2.heap.size := by
    rcases Nat.lt_or_ge A W2.heap.size with h' | h'
    · exact h'
    · simp [World.cell?, h'] at hc2
  have hD2 : D < W2.heap.size := (Array.getElem?_eq_some_iff.1 hK2).1
  have hl2 : l < W2.heap.size := (Array.getElem?_eq_some_iff.1 hL2).1
  have hbn2 : Below n₀ w W2 := h.B.trans (hb2.mono hl)
  have hpc := part_calls p hp W2 (glob_later hSn hn hg hbn2)
  have hab' : (Code.region 2 _ false, Code.block 1 _) = (a, b) := hab
  cases hab'
  clear hab hW2
  have last : ∀ (W3 : World) (jump : Option Code), W3.heap[l]? = some (.loop (r .busy none)) → ∃ W4, (Instr.endRound l jump).run Tryd.prog W3 = .ok (.bool jump.isNone) W4 ∧ W4 = W3.putObj l (.loop (r (if jump.isNone then .ready else .done) jump)) := fun W3 jump h3 => by
    have := run_endRound (P := Tryd.prog) jump h3
    rw [hr.two] at this
    exact ⟨_, this, rfl⟩
  by_cases hok : okPart p
  · rw [decide_eq_true hok] at hpc
    gi_wp2_with (rw [Oper.semAt_eq _ _ _ (fun c h => by cases h)]; go_simp; try go_bits)
    refine ⟨_, hbr, ?_⟩
    gi_wp2_with (first
      | (rw [Oper.semAt_eq _ _ _ (fun c h => by cases h)]; go_simp; try go_bits)
      | (refine ⟨trivial, fun h => (by cases h), ?_⟩; refine (CallsIn.inRound l (callsIn_wide.2 hpc)).mono ?_; rintro e W3 ⟨rfl, hb3⟩))
    obtain ⟨W4, g1, rfl⟩ := last W3 none ((hb3.block _ hl2).trans hL2)
    have hl3 : l < W3.heap.size := Nat.lt_of_lt_of_le hl2 hb3.size
    have hb4 : Below l W3 (W3.putObj l (.loop (r .ready none))) := ⟨rfl, rfl, rfl, by simp, fun k hk => World.putObj_heap_other (by omega)⟩
    refine ⟨_, _, g1, hT hok _ ⟨?_, ?_, World.putObj_heap_same hl3, ?_, ?_⟩ ?_⟩
    · exact (World.cell?_of_block (World.putObj_heap_other hAl)).trans ((World.cell?_of_block (hb3.block _ hA2)).trans hc2)
    · exact (World.frozen?_of_block (World.putObj_heap_other hAl)).trans ((World.frozen?_of_block (hb3.block _ hA2)).trans hf2)
    · exact (World.putObj_heap_other hDl).trans ((hb3.block _ hD2).trans hK2)
    · exact (hbn2.trans (hb3.mono (by omega))).trans (hb4.mono hl)
    · exact (hb2.trans (hb3.mono (by omega))).trans hb4
  · rw [decide_eq_false hok] at hpc
    gi_wp2_with (rw [Oper.semAt_eq _ _ _ (fun c h => by cases h)]; go_simp; try go_bits)
    refine ⟨_, hbr, ?_⟩
    gi_wp2_with (first
      | (rw [Oper.semAt_eq _ _ _ (fun c h => by cases h)]; go_simp; try go_bits)
      | (refine ⟨trivial, fun h => (by cases h), ?_⟩; refine (CallsIn.inRound l (callsIn_wide.2 hpc)).mono ?_; rintro e W3 ⟨rfl, hb3⟩; have hc3 : W3.cell? ⟨A, 0, none⟩ = some (.bool false) := (World.cell?_of_block (hb3.block _ hA2)).trans hc2; have hf3 : W3.frozen? ⟨A, 0, none⟩ = false := (World.frozen?_of_block (hb3.block _ hA2)).trans hf2))
    have hL3 : (W3.setCell ⟨A, 0, none⟩ (.bool false)).heap[l]? = some (.loop (r .busy none)) := (Below.heap_setCell W3 _ _ l (Ne.symm hAl)).trans ((hb3.block _ hl2).trans hL2)
    obtain ⟨W4, g1, rfl⟩ := last _ (some .ret) hL3
    have hc3 : W3.cell? ⟨A, 0, none⟩ = some (.bool false) := (World.cell?_of_block (hb3.block _ hA2)).trans hc2
    have hf3 : W3.frozen? ⟨A, 0, none⟩ = false := (World.frozen?_of_block (hb3.block _ hA2)).trans hf2
    have hb4 : Below n₀ W3 (W3.setCell ⟨A, 0, none⟩ (.bool false)) := (Below.refl n₀ W3).setCell (p := ⟨A, 0, none⟩) hA _
    refine ⟨_, _, g1, hF hok _ ⟨?_, ?_, World.putObj_heap_same (Array.getElem?_eq_some_iff.1 hL3).1, ?_, ?_⟩⟩
    · exact (World.cell?_of_block (World.putObj_heap_other hAl)).trans (World.cell?_setCell_same' _ _ _ (by rw [hc3]; rfl))
    · exact (World.frozen?_of_block (World.putObj_heap_other hAl)).trans (by rw [World.frozen?_setCell]; exact hf3)
    · exact (World.putObj_heap_other hDl).trans ((Below.heap_setCell W3 _ _ D hDA).trans ((hb3.block _ hD2).trans hK2))
    · exact ((hbn2.trans (hb3.mono (by omega))).trans hb4).trans ⟨rfl, rfl, rfl, by simp, fun k hk => World.putObj_heap_other (by omega)⟩

def okWhole (s : ByteArray) : Prop := (∀ p ∈ pieces 47 s.data.toList, okPart (bA p)) ∧ s.size ≤ 254
instance (s : ByteArray) : Decidable (okWhole s) := by unfold okWhole; infer_instance

theorem okWhole_iff {s : ByteArray} {ps : List (List UInt8)} (h : pieces 47 s.data.toList = ps) : (∀ p ∈ pieces 47 s.data.toList, okPart (bA p)) ↔ ∀ k, k < ps.length → okPart (pieceS ps k) := by
  rw [h]
  constructor
  · intro ha k hk
    unfold pieceS
    rw [List.getD_eq_getElem?_getD, List.getElem?_eq_getElem hk]
    exact ha _ (List.getElem_mem _)
  · intro ha p hp
    obtain ⟨k, hk, rfl⟩ := List.getElem_of_mem hp
    have := ha k hk
    unfold pieceS at this
    rw [List.getD_eq_getElem?_getD, List.getElem?_eq_getElem hk] at this
    exact this

theorem six (h : Array Obj) (a b c d e f : Obj) : (((((h.push a).push b).push c).push d).push e).push f = h ++ #[a, b, c, d, e, f] := by
  apply Array.ext'
  simp
theorem six_at {h : Array Obj} {a b c d e f : Obj} {H : Array Obj} (hH : H = (((((h.push a).push b).push c).push d).push e).push f) (i : Nat) : H[h.size + i]? = #[a, b, c, d, e, f][i]? := by
  rw [hH, six, Array.getElem?_append_right (Nat.le_add_right _ _), Nat.add_sub_cancel_left]
theorem six_lt {h : Array Obj} {a b c d e f : Obj} {H : Array Obj} (hH : H = (((((h.push a).push b).push c).push d).push e).push f) {i : Nat} (hi : i < h.size) : H[i]? = h[i]? := by
  rw [hH, six, Array.getElem?_append_left hi]

abbrev loopW (a b : Code) (s : ByteArray) (fn : FuncId) (w : World) : World :=
  ((box3 s (w.alloc (.cells #[.bool false] 4))).alloc (.deferred (some []))).alloc (.loop (wholeRec a b s fn w.heap.size (w.heap.size + 4) (seqV (w.heap.size + 1)) .ready none))

set_option maxHeartbeats 2000000 in
theorem whole_loop (a b : Code) (hab : rfOf (Tryd.f59.body.getD .skip) = (a, b)) (s : ByteArray) (hs : s.size ≤ 9223372036854775806) (fn : FuncId) (w : World) (S : Nat → Prop) (hSn : ∀ b, S b → b < w.heap.size) (hg : Glob S w) :
    CallsIn Fence.wide 4 Tryd.prog 138 #[.func (.yield (w.heap.size + 5)) #[] #[], .pointer (some ⟨w.heap.size + 2, 0, none⟩), .pointer (some ⟨w.heap.size + 1, 0, none⟩), .pointer (some ⟨w.heap.size + 3, 0, none⟩)] (loopW a b s fn w) fun e W2 =>
      (∃ v, e = .returned v) ∧ ((At (wholeRec a b s fn w.heap.size (w.heap.size + 4) (seqV (w.heap.size + 1))) w.heap.size w w.heap.size (w.heap.size + 5) (w.heap.size + 4) .ready none W2 ∧ ∀ p ∈ pieces 47 s.data.toList, okPart (bA p)) ∨
        (At (wholeRec a b s fn w.heap.size (w.heap.size + 4) (seqV (w.heap.size + 1))) w.heap.size w w.heap.size (w.heap.size + 5) (w.heap.size + 4) .done (some .ret) W2 ∧ ¬ ∀ p ∈ pieces 47 s.data.toList, okPart (bA p))) := by
  have hl : s.data.toList.length = s.size := rfl
  have hfree := @pieces_free 47 s.data.toList
  have hjoin := join_pieces 47 s.data.toList
  have hpos : 0 < (pieces 47 s.data.toList).length := by rw [pieces_len]; omega
  obtain ⟨ps, hps⟩ : ∃ ps, pieces 47 s.data.toList = ps := ⟨_, rfl⟩
  rw [okWhole_iff hps]
  rw [hps] at hfree hjoin hpos
  have hsm : ∀ k, k < ps.length → (joinC 47 (ps.drop k)).length ≤ 9223372036854775806 := fun k hk => by
    have := rest_len 47 ps k hk
    rw [hjoin, hl] at this; omega
  have hpm : ∀ k, k < ps.length → (pieceS ps k).size ≤ 9223372036854775806 := fun k hk => by
    have := hsm k hk
    unfold pieceS
    rw [bA_size]
    rcases Nat.lt_or_ge (k + 1) ps.length with h | h
    · rw [rest_more h, List.length_append] at this; omega
    · rw [rest_last (by omega)] at this; omega
  have hr := wholeRec_rec a b s fn w.heap.size (w.heap.size + 4) (seqV (w.heap.size + 1))
  have hh : (loopW a b s fn w).heap = (((((w.heap.push (.cells #[.bool false] 4)).push (.cells #[.string s] 9)).push (.cells #[.string ⟨#[47]⟩] 9)).push (.cells #[.int .i64 0] 3)).push (.deferred (some []))).push (.loop (wholeRec a b s fn w.heap.size (w.heap.size + 4) (seqV (w.heap.size + 1)) .ready none)) := rfl
  have q0 : (loopW a b s fn w).heap[w.heap.size]? = some (.cells #[.bool false] 4) := six_at hh 0
  have q1 : (loopW a b s fn w).heap[w.heap.size + 1]? = some (.cells #[.string s] 9) := six_at hh 1
  have q2 : (loopW a b s fn w).heap[w.heap.size + 2]? = some (.cells #[.string ⟨#[47]⟩] 9) := six_at hh 2
  have q3 : (loopW a b s fn w).heap[w.heap.size + 3]? = some (.cells #[.int .i64 0] 3) := six_at hh 3
  have q4 : (loopW a b s fn w).heap[w.heap.size + 4]? = some (.deferred (some [])) := six_at hh 4
  have q5 : (loopW a b s fn w).heap[w.heap.size + 5]? = some (.loop (wholeRec a b s fn w.heap.size (w.heap.size + 4) (seqV (w.heap.size + 1)) .ready none)) := six_at hh 5
  have h0 : At (wholeRec a b s fn w.heap.size (w.heap.size + 4) (seqV (w.heap.size + 1))) w.heap.size w w.heap.size (w.heap.size + 5) (w.heap.size + 4) .ready none (loopW a b s fn w) := by
    exact ⟨by simp only [World.cell?, q0]; rfl, by simp only [World.frozen?, q0]; rfl, q5, q4, ⟨rfl, rfl, rfl, by rw [hh, six, Array.size_append]; omega, fun k hk => six_lt hh hk⟩⟩
  have hB : Boxes ps (w.heap.size + 1) (w.heap.size + 2) (w.heap.size + 3) 0 (loopW a b s fn w) := by
    refine ⟨?_, by simp only [World.frozen?, q1]; rfl, by simp only [World.cell?, q2]; rfl, by simp only [World.cell?, q3]; rfl⟩
    have : restS ps 0 = s := by unfold restS; rw [List.drop_zero, hjoin, bA_data]
    rw [this]
    simp only [World.cell?, q1]
    rfl
  generalize loopW a b s fn w = W1 at *
  clear hh q0 q1 q2 q3 q4 q5
  obtain ⟨r, hrE⟩ : ∃ r, wholeRec a b s fn w.heap.size (w.heap.size + 4) (seqV (w.heap.size + 1)) = r := ⟨_, rfl⟩
  refine (seq_calls 4 (w.heap.size + 5) (w.heap.size + 1) (w.heap.size + 2) (w.heap.size + 3) ps hpos hfree hsm (by omega) (by omega)
    (fun k W => At r w.heap.size w w.heap.size (w.heap.size + 5) (w.heap.size + 4) .ready none W ∧ ∀ i, i < k → okPart (pieceS ps i))
    (fun W => At r w.heap.size w w.heap.size (w.heap.size + 5) (w.heap.size + 4) .done (some .ret) W ∧ ¬ ∀ k, k < ps.length → okPart (pieceS ps k))
    ?_ ?_ W1 ⟨by rw [← hrE]; exact h0, by simp⟩ hB).mono ?_
  · rintro k W W' ⟨hat, hj⟩ hbut
    exact ⟨⟨(World.cell?_of_block (hbut.block _ (by show w.heap.size ≠ w.heap.size + 1; omega))).trans hat.c, (World.frozen?_of_block (hbut.block _ (by show w.heap.size ≠ w.heap.size + 1; omega))).trans hat.f, (hbut.block _ (by omega)).trans hat.L, (hbut.block _ (by omega)).trans hat.K,
      ⟨hbut.os.trans hat.B.os, hbut.tape.trans hat.B.tape, hbut.output.trans hat.B.output, by rw [hbut.size]; exact hat.B.size, fun j hj' => (hbut.block _ (by omega)).trans (hat.B.block j hj')⟩⟩, hj⟩
  · rintro k W hk ⟨hat, hj⟩ hb
    have hy : (Instr.yield (w.heap.size + 5) #[.string (pieceS ps k)]).run Tryd.prog W = .ok (.round (w.heap.size + 5) fn #[.string s, undef, .pointer (some ⟨w.heap.size, 0, none⟩), undef, .string s, seqV (w.heap.size + 1), .string (pieceS ps k), undef, undef, undef, undef, undef, undef] a b) W := by
      have hL := hat.L
      rw [← hrE] at hL
      simpa [wholeRec] using run_yield (P := Tryd.prog) (args := #[.string (pieceS ps k)]) hL rfl
    refine ⟨fn, _, a, b, hy, ?_⟩
    rw [hrE] at hr
    refine whole_round _ a b hab r hr w.heap.size w s (pieceS ps k) fn w.heap.size (w.heap.size + 5) (w.heap.size + 4) _ (Nat.le_refl _) (Nat.le_refl _) (by omega) (by omega) (by omega) (by omega) (by omega) (hpm k hk) S hSn hg W hat _ (fun hok W' h1 h2 => .inl ⟨rfl, ⟨h1, fun i hi => ?_⟩, ?_⟩) (fun hok W' h1 => .inr ⟨rfl, h1, fun hall => hok (hall k hk)⟩)
    · rcases Nat.lt_or_ge i k with h | h
      · exact hj i h
      · rw [show i = k by omega]; exact hok
    · exact ⟨(World.cell?_of_block (h2.block (w.heap.size + 1) (by omega))).trans hb.s, (World.frozen?_of_block (h2.block (w.heap.size + 1) (by omega))).trans hb.f, (World.cell?_of_block (h2.block (w.heap.size + 2) (by omega))).trans hb.p, (World.cell?_of_block (h2.block (w.heap.size + 3) (by omega))).trans hb.v⟩
  · rintro e W2 ⟨hv, h | h⟩
    · exact ⟨hv, .inl ⟨by rw [hrE]; exact h.1, h.2⟩⟩
    · exact ⟨hv, .inr ⟨by rw [hrE]; exact h.1, h.2⟩⟩

/-- What is known behind the loop. -/
structure Mid (w W : World) : Prop where
  c : W.cell? ⟨w.heap.size, 0, none⟩ = some (.bool false)
  f : W.frozen? ⟨w.heap.size, 0, none⟩ = false
  K : W.heap[w.heap.size + 4]? = some (.deferred (some []))
  B : Below w.heap.size w W
abbrev wholeT (s : ByteArray) (w : World) : Array Value := #[.string s, undef, .pointer (some ⟨w.heap.size, 0, none⟩), undef, .string s, seqV (w.heap.size + 1), undef, undef, undef, undef, undef, undef, undef]
abbrev wholeD (w : World) : Deferred := { target := .collected (w.heap.size + 4), args := #[] }

set_option maxHeartbeats 2000000 in
theorem whole_stmt (a b : Code) (hab : rfOf (Tryd.f59.body.getD .skip) = (a, b)) (s : ByteArray) (hs : s.size ≤ 9223372036854775806) (w : World) (S : Nat → Prop) (hSn : ∀ b, S b → b < w.heap.size) (hg : Glob S w) (Q : Exit → Act → World → Prop)
    (hT : (∀ p ∈ pieces 47 s.data.toList, okPart (bA p)) → ∀ W, Mid w W → Q .normal { tmps := wholeT s w, defers := [wholeD w] } W)
    (hF : ¬ (∀ p ∈ pieces 47 s.data.toList, okPart (bA p)) → ∀ W, Mid w W → Code.ret.wpIn Fence.wide 5 Tryd.prog Q { tmps := wholeT s w, defers := [wholeD w] } W) :
    (Code.rangeFunc (.tmp 5) #[6] a b).wpIn Fence.wide 5 Tryd.prog Q { tmps := wholeT s w, defers := [] } (box3 s (w.alloc (.cells #[.bool false] 4))) := by
  refine wpIn_rangeFunc ?_
  intro fn hfn
  have hsz : (box3 s (w.alloc (.cells #[.bool false] 4))).heap.size = w.heap.size + 4 := by simp
  have he := run_enterLoop_outer (P := Tryd.prog) (w := box3 s (w.alloc (.cells #[.bool false] 4))) fn (wholeT s w) #[6] a b
  rw [hsz] at he
  refine ⟨w.heap.size + 5, [wholeD w], loopW a b s fn w, { target := .fn (.func 138) #[.pointer (some ⟨w.heap.size + 2, 0, none⟩), .pointer (some ⟨w.heap.size + 1, 0, none⟩), .pointer (some ⟨w.heap.size + 3, 0, none⟩)], args := #[.func (.yield (w.heap.size + 5)) #[] #[]] }, loopW a b s fn w, 138,
    #[.func (.yield (w.heap.size + 5)) #[] #[], .pointer (some ⟨w.heap.size + 2, 0, none⟩), .pointer (some ⟨w.heap.size + 1, 0, none⟩), .pointer (some ⟨w.heap.size + 3, 0, none⟩)], loopW a b s fn w, he, ?_, ?_, ?_, fun _ => by omega, ?_⟩
  · simp [resolve, go_sem]
  · intro f' hf'; trivial
  · simp [invoke, go_sem]
  · have hr := wholeRec_rec a b s fn w.heap.size (w.heap.size + 4) (seqV (w.heap.size + 1))
    refine (whole_loop a b hab s hs fn w S hSn hg).mono ?_
    generalize wholeRec a b s fn w.heap.size (w.heap.size + 4) (seqV (w.heap.size + 1)) = r at *
    have fin : ∀ {W2 : World} {st : LoopState} {pe : Option Code}, At r w.heap.size w w.heap.size (w.heap.size + 5) (w.heap.size + 4) st pe W2 → st ≠ .busy → ∃ W3, (Instr.endLoop (w.heap.size + 5)).run Tryd.prog W2 = .ok pe W3 ∧ Mid w W3 := fun {W2 st pe} h2 hst => by
      have hend := run_endLoop (P := Tryd.prog) h2.L (by rw [hr.st]; exact hst)
      rw [hr.pe] at hend
      refine ⟨_, hend, ?_, ?_, ?_, ?_⟩
      · exact (World.cell?_of_block (World.putObj_heap_other (k := w.heap.size) (by omega))).trans h2.c
      · exact (World.frozen?_of_block (World.putObj_heap_other (k := w.heap.size) (by omega))).trans h2.f
      · exact (World.putObj_heap_other (by omega)).trans h2.K
      · exact h2.B.trans ⟨rfl, rfl, rfl, by simp, fun k hk => World.putObj_heap_other (by omega)⟩
    rintro e W2 ⟨⟨v, rfl⟩, ⟨h2, hall⟩ | ⟨h2, hall⟩⟩
    · obtain ⟨W3, g1, g2⟩ := fin h2 (by simp)
      exact ⟨none, W3, g1, hT hall W3 g2⟩
    · obtain ⟨W3, g1, g2⟩ := fin h2 (by simp)
      exact ⟨some .ret, W3, g1, hF hall W3 g2⟩

set_option maxHeartbeats 2000000 in
theorem whole_calls (s : ByteArray) (hs : s.size ≤ 9223372036854775806) (S0 : Nat → Prop) (w : World) (hg0 : Glob S0 w) :
    Calls Tryd.prog 59 #[.string s] w fun e w' => e = .returned (.bool (decide (okWhole s))) ∧ Below w.heap.size w w' := by
  obtain ⟨S, hSn, hg⟩ : ∃ S : Nat → Prop, (∀ b, S b → b < w.heap.size) ∧ Glob S w := by
    refine ⟨fun b => ∃ g ∈ Globs.l, g.1 = b, fun b hb => ?_, fun g hg => ⟨⟨g, hg, rfl⟩, (hg0 g hg).2⟩⟩
    obtain ⟨g, hg, rfl⟩ := hb
    obtain ⟨_, cs, el, fr, h, _⟩ := hg0 g hg
    exact (Array.getElem?_eq_some_iff.1 h).1
  refine (callsIn_wide (n := 5)).1 ?_
  refine callsIn_of_wp_marks Tryd.func59 rfl trivial ?_ rfl
  simp only [Tryd.ntmps59, List.size_toArray, List.length_cons, List.length_nil, Nat.reduceAdd, Nat.reduceSub, Array.replicate_succ, Array.replicate_zero, List.push_toArray, List.append_toArray, List.nil_append, List.cons_append]
  gi_wp2_with (refine ⟨trivial, ?_⟩; refine (parts_calls _ s _).mono ?_; rintro e w' ⟨rfl, rfl⟩)
  refine whole_stmt _ _ rfl s hs w S hSn hg _ (fun hall W hM => ?_) (fun hall W hM => ?_)
  · have hc := hM.c
    have hf := hM.f
    have hK := hM.K
    gi_wp2
    have hV : decide (okWhole s) = decide ((s.size : Int) ≤ 254) := decide_eq_decide.2 ⟨fun h => by have := h.2; omega, fun h => ⟨hall, by omega⟩⟩
    rw [hV]
    obtain ⟨V, hVE⟩ : ∃ V, Value.bool (decide ((s.size : Int) ≤ 254)) = V := ⟨_, rfl⟩
    have hK3 : (W.setCell ⟨w.heap.size, 0, none⟩ V).heap[w.heap.size + 4]? = some (.deferred (some [])) := (Below.heap_setCell W _ _ _ (by show w.heap.size + 4 ≠ w.heap.size; omega)).trans hK
    have hc4 : ((W.setCell ⟨w.heap.size, 0, none⟩ V).putObj (w.heap.size + 4) (.deferred none)).cell? ⟨w.heap.size, 0, none⟩ = some V :=
      (World.cell?_of_block (World.putObj_heap_other (k := w.heap.size) (by omega))).trans (World.cell?_setCell_same' _ _ _ (by rw [hc]; rfl))
    rw [hVE]
    refine ⟨by simp, .inl ⟨_, _, rfl, run_takeDeferred hK3, ?_⟩⟩
    refine ⟨V, ?_, rfl, ?_⟩
    · simp [results, Tryd.f59, go_sem, hc4]
    · exact (hM.B.trans ((Below.refl w.heap.size W).setCell (p := ⟨w.heap.size, 0, none⟩) (Nat.le_refl _) _)).trans ⟨rfl, rfl, rfl, by simp, fun k hk => World.putObj_heap_other (by omega)⟩
  · have hc := hM.c
    have hf := hM.f
    have hK := hM.K
    gi_wp2
    have hV : decide (okWhole s) = false := decide_eq_false fun h => hall h.1
    rw [hV]
    have hc4 : (W.putObj (w.heap.size + 4) (.deferred none)).cell? ⟨w.heap.size, 0, none⟩ = some (.bool false) := (World.cell?_of_block (World.putObj_heap_other (k := w.heap.size) (by omega))).trans hc
    refine ⟨by simp, .inl ⟨_, _, rfl, run_takeDeferred hK, ?_⟩⟩
    refine ⟨.bool false, ?_, rfl, ?_⟩
    · simp [results, Tryd.f59, go_sem, hc4]
    · exact hM.B.trans ⟨rfl, rfl, rfl, by simp, fun k hk => World.putObj_heap_other (by omega)⟩

/-- path.whole, as the walks take it. -/
theorem whole_prog (s : ByteArray) (hs : s.size ≤ 9223372036854775806) : ACalls Tryd.prog 59 [str s] [] (fun r h => r = bool (decide (okWhole s)) ∧ h = []) :=
  acalls_below (args := [.string s]) ⟨_, Tryd.func59, by decide, rfl⟩ trivial trivial fun S w hg =>
    (whole_calls s hs S w hg).mono fun e w' ⟨h1, h2⟩ => ⟨_, h1, rfl, h2⟩

end
end Go.Proofs.YtkchfbnkdpdbkaaDoor.Pa

/-
  The document's own functions of paths.
-/
set_option linter.unusedVariables false
set_option linter.unusedSectionVars false
namespace Go.Proofs.YtkchfbnkdpdbkaaDoor.Pa
open Go AL Spl

theorem byte_is {b c : UInt8} {n : Int} (h : n = (b.toNat : Int)) : n = (c.toNat : Int) ↔ b = c := by
  rw [h]
  constructor
  · intro e; exact UInt8.toNat_inj.1 (by omega)
  · intro e; rw [e]
def okParts (s : ByteArray) : Prop := ∀ p ∈ pieces 47 s.data.toList, okPart (bA p)
instance (s : ByteArray) : Decidable (okParts s) := by unfold okParts; infer_instance

section
variable [Globs]
theorem byte_get {s : ByteArray} {i : Nat} (h : i < s.size) : ∃ b, s.data.toList[i]? = some b ∧ (intsOf s).getD i 0 = (b.toNat : Int) := by
  obtain ⟨b, h1, h2⟩ := intsOf_get h
  refine ⟨b, ?_, h2⟩
  rw [getElem?_pos s i h] at h1
  have h3 : i < s.data.toList.length := h
  rw [List.getElem?_eq_getElem h3]
  exact h1

set_option maxHeartbeats 4000000 in
set_option maxRecDepth 10000 in
theorem parts_ref (s : ByteArray) (hs : s.size ≤ 9223372036854775805) : ACalls Tryd.prog 66 [str s] [] (fun r h => r = bool (decide (okParts s)) ∧ h = []) := by
  have hl : s.data.toList.length = s.size := rfl
  obtain ⟨ps, hps⟩ : ∃ ps, pieces 47 s.data.toList = ps := ⟨_, rfl⟩
  have hok : okParts s ↔ ∀ k, k < ps.length → okPart (pieceS ps k) := okWhole_iff hps
  obtain ⟨Z, hZ⟩ : ∃ Z, decide (okParts s) = Z := ⟨_, rfl⟩
  rw [hZ]
  have hno : ¬ okParts s → Z = false := fun h => by rw [← hZ]; exact decide_eq_false h
  have hyes : okParts s → Z = true := fun h => by rw [← hZ]; exact decide_eq_true h
  have hpos : 0 < ps.length := by rw [← hps, pieces_len]; omega
  have hjoin : joinC 47 ps = s.data.toList := by rw [← hps, join_pieces]
  have hfree : ∀ p ∈ ps, ∀ x ∈ p, x ≠ 47 := by rw [← hps]; exact pieces_free
  have hcnt : ps.length ≤ s.size + 1 := by
    have := List.count_le_length (a := (47 : UInt8)) (l := s.data.toList)
    rw [← hps, pieces_len]; omega
  have hle : ∀ k, k < ps.length → pre ps k + (ps.getD k []).length ≤ s.size := fun k hk => by
    rcases Nat.lt_or_ge (k + 1) ps.length with h | h
    · have := pre_le 47 ps (k + 1) h
      rw [hjoin, hl] at this
      have : pre ps (k + 1) = pre ps k + (ps.getD k []).length + 1 := rfl
      omega
    · have := pre_end 47 (ps := ps) (k := k) (by omega) (pre_le 47 ps k hk)
      rw [hjoin, hl] at this
      omega
  have hend : ∀ k, k + 1 = ps.length → pre ps k + (ps.getD k []).length = s.size := fun k hk => by
    have := pre_end 47 (ps := ps) (k := k) hk (pre_le 47 ps k (by omega))
    rwa [hjoin, hl] at this
  have hin : ∀ k j, k < ps.length → j < (ps.getD k []).length → ¬ (intsOf s).getD (pre ps k + j) 0 = 47 := fun k j hk hj h => by
    have h1 := hle k hk
    obtain ⟨b, e1, e2⟩ := byte_get (s := s) (i := pre ps k + j) (by omega)
    have e3 := (byte_is (c := 47) e2).1 h
    have e4 := pre_get (c := 47) hk hj
    rw [hjoin, e1, e3] at e4
    have hm : (47 : UInt8) ∈ ps.getD k [] := List.mem_of_getElem? e4.symm
    refine hfree (ps.getD k []) ?_ _ hm rfl
    rw [List.getD_eq_getElem?_getD, List.getElem?_eq_getElem hk]
    exact List.getElem_mem _
  have hout : ∀ k, k + 1 < ps.length → (intsOf s).getD (pre ps k + (ps.getD k []).length) 0 = 47 := fun k hk => by
    have h1 := pre_le 47 ps (k + 1) hk
    rw [hjoin, hl] at h1
    have h2 : pre ps (k + 1) = pre ps k + (ps.getD k []).length + 1 := rfl
    obtain ⟨b, e1, e2⟩ := byte_get (s := s) (i := pre ps k + (ps.getD k []).length) (by omega)
    have e4 := pre_sep (c := 47) hk
    rw [hjoin, e1] at e4
    cases e4
    exact e2
  have hcut : ∀ k, k < ps.length → s.extract (pre ps k) (pre ps k + (ps.getD k []).length) = pieceS ps k := fun k hk => by
    refine bA_ext ?_
    unfold pieceS
    rw [ext_list, bA_list, ← hjoin]
    exact pre_piece hk
  refine rcalls Tryd.func66 rfl (by decide) ?_
  refine ⟨Nat × Nat, fun x => [(0, str s), (3, int .i64 (pre ps x.1)), (4, int .i64 x.2)], fun x => [],
    fun x => x.1 ≤ ps.length ∧ (x.1 < ps.length → pre ps x.1 ≤ x.2 ∧ x.2 ≤ pre ps x.1 + (ps.getD x.1 []).length) ∧ (x.1 = ps.length → x.2 = s.size + 1) ∧ ∀ j, j < x.1 → okPart (pieceS ps j), fun x => s.size + 1 - x.2,
    ⟨(0, 0), [], ⟨by omega, fun _ => ⟨Nat.le_refl _, Nat.zero_le _⟩, fun h => by simp at h; omega, by simp⟩, lehN _, ⟨leS rfl, leI rfl, leI rfl, trivial⟩⟩, ?_⟩
  rintro ⟨k, i⟩ ⟨hk, hki, hke, hj⟩
  dsimp only at hk hki hke hj ⊢
  refine ⟨fun c1 => ?_, fun c1 => ?_⟩
  · have f1 : (i : Int) ≤ s.size := yes c1
    have hkl : k < ps.length := by
      rcases Nat.lt_or_ge k ps.length with h | h
      · exact h
      · have := hke (by omega); omega
    obtain ⟨hi1, hi2⟩ := hki hkl
    have e1 : IntKind.i64.wrap ((i : Int) + 1) = ((i + 1 : Nat) : Int) := by rw [w64 (by omega) (by omega)]; omega
    have hto : ((i : Int)).toNat = i := by omega
    have hpl := hle k hkl
    refine ⟨fun c2 => ?_, fun c2 => ⟨⟨by omega, by have := no c2; omega⟩, fun c3 => ?_, fun c3 => ?_⟩⟩
    case refine_3 =>
      have g2 := no c2
      have g3 : ¬ (intsOf s).getD ((i : Int)).toNat 0 = 47 := no c3
      rw [hto] at g3
      have hlt : ¬ i = pre ps k + (ps.getD k []).length := fun h => by
        rcases Nat.lt_or_ge (k + 1) ps.length with h1 | h1
        · exact g3 (by rw [h]; exact hout k h1)
        · exact g2 (by rw [h, hend k (by omega)])
      exact ⟨trivial, (k, i + 1), [], ⟨by omega, fun _ => ⟨by show pre ps k ≤ i + 1; omega, by show i + 1 ≤ pre ps k + (ps.getD k []).length; omega⟩, fun h => by have h : k = ps.length := h; omega, hj⟩, by show s.size + 1 - (i + 1) < s.size + 1 - i; omega, lehN _, ⟨leS rfl, leI rfl, leI e1, trivial⟩⟩
    all_goals
      have hlast : i = pre ps k + (ps.getD k []).length := by
        first
          | (have g2 := yes c2
             rcases Nat.lt_or_ge (k + 1) ps.length with h1 | h1
             · have := hle (k + 1) h1
               have : pre ps (k + 1) = pre ps k + (ps.getD k []).length + 1 := rfl
               omega
             · have := hend k (by omega); omega)
          | (have g3 : (intsOf s).getD ((i : Int)).toNat 0 = 47 := yes c3
             rw [hto] at g3
             rcases Nat.lt_or_ge i (pre ps k + (ps.getD k []).length) with h | h
             · refine absurd ?_ (hin k (i - pre ps k) hkl (by omega))
               rw [show pre ps k + (i - pre ps k) = i by omega]; exact g3
             · omega)
      have e2 : pre ps (k + 1) = i + 1 := by show pre ps k + (ps.getD k []).length + 1 = _; omega
      have hpi : s.extract (pre ps k) i = pieceS ps k := by rw [hlast]; exact hcut k hkl
      have hsz : (s.extract (pre ps k) i).size ≤ s.size := by rw [ByteArray.size_extract]; omega
      have hp := part_ref (s.extract (pre ps k) i) (by omega)
      refine ⟨⟨by omega, f1⟩, ⟨by omega, by omega⟩, ?_⟩
      refine ⟨[], _, hp, ?_⟩
      rintro r hh ⟨rfl, rfl⟩
      refine ⟨.inl rfl, ?_⟩
      refine ⟨fun c4 => ?_, fun c4 => ?_⟩
      · exact ⟨[], [], _, lehN _, leFB (hno fun h => notT c4 (by rw [hpi]; exact hok.1 h k hkl)), rfl, rfl⟩
      · refine ⟨trivial, (k + 1, i + 1), [], ⟨by show k + 1 ≤ _; omega, fun h => ⟨by show pre ps (k + 1) ≤ i + 1; omega, by show i + 1 ≤ pre ps (k + 1) + _; omega⟩, fun h => ?_, fun j hj' => ?_⟩, by show s.size + 1 - (i + 1) < s.size + 1 - i; omega, lehN _, ⟨leS rfl, leI ?_, leI e1, trivial⟩⟩
        · have h : k + 1 = ps.length := h
          have := hend k h
          show i + 1 = s.size + 1
          omega
        · have hj' : j < k + 1 := hj'
          rcases Nat.lt_or_ge j k with h | h
          · exact hj j h
          · rw [show j = k by omega, ← hpi]; exact notF c4
        · show IntKind.i64.wrap ((i : Int) + 1) = ((pre ps (k + 1) : Nat) : Int)
          rw [e1, e2]
  · have f1 : ¬ (i : Int) ≤ s.size := no c1
    have hkl : k = ps.length := by
      rcases Nat.lt_or_ge k ps.length with h | h
      · have := (hki h).2; have := hle k h; omega
      · omega
    subst hkl
    exact ⟨[], [], _, lehN _, leTB (hyes (hok.2 hj)), rfl, rfl⟩

end
end Go.Proofs.YtkchfbnkdpdbkaaDoor.Pa

/-
  A path's two fields, of both.
-/
set_option linter.unusedVariables false
set_option linter.unusedSectionVars false
namespace Go.Proofs.YtkchfbnkdpdbkaaDoor.Pa
open Go AL Spl

/-- The place of the first sign. -/
def firstC (c : UInt8) : List UInt8 → Nat
  | [] => 0
  | x :: l => if x = c then 0 else firstC c l + 1
theorem firstC_le (c : UInt8) : ∀ l, firstC c l ≤ l.length
  | [] => Nat.le_refl _
  | x :: l => by
    have := firstC_le c l
    unfold firstC
    split
    · omega
    · rw [List.length_cons]; omega
theorem firstC_at {c : UInt8} : ∀ {l : List UInt8}, firstC c l < l.length → l[firstC c l]? = some c
  | [], h => by cases h
  | x :: l, h => by
    unfold firstC at h ⊢
    split at h
    · rename_i e
      rw [if_pos e, e]; rfl
    · rename_i e
      rw [if_neg e, List.getElem?_cons_succ]
      exact firstC_at (by rw [List.length_cons] at h; omega)
theorem firstC_not {c : UInt8} : ∀ {l : List UInt8} {j : Nat}, j < firstC c l → l[j]? ≠ some c
  | [], j, h => by cases h
  | x :: l, j, h => by
    unfold firstC at h
    split at h
    · cases h
    · rename_i e
      cases j with
      | zero => simpa using e
      | succ j => rw [List.getElem?_cons_succ]; exact firstC_not (by omega)
theorem firstC_eq {c : UInt8} {l : List UInt8} {k : Nat} (hk : k ≤ l.length) (hn : ∀ j, j < k → l[j]? ≠ some c) (hc : k = l.length ∨ l[k]? = some c) : firstC c l = k := by
  rcases Nat.lt_trichotomy (firstC c l) k with h | h | h
  · exact absurd (firstC_at (by omega)) (hn _ h)
  · exact h
  · rcases hc with hc | hc
    · have := firstC_le c l; omega
    · exact absurd hc (firstC_not h)
theorem index_first (c : UInt8) : ∀ l : List UInt8, Lib.indexByte l c = if firstC c l < l.length then (firstC c l : Int) else -1
  | [] => rfl
  | x :: l => by
    have ih := index_first c l
    unfold Lib.indexByte firstC
    by_cases e : x = c
    · have : (x == c) = true := by simpa using e
      simp [e]
    · have h1 : (x == c) = false := by simpa using e
      rw [if_neg (by rw [h1]; decide), ih]
      rw [if_neg e]
      by_cases h2 : firstC c l < l.length
      · have h3 : ((firstC c l : Int) == -1) = false := by simp
        simp [h2, h3]
      · simp [h2]

/-- Where a long path is cut: the first slash that leaves a name short enough. -/
def cutS (s : ByteArray) : Nat := (s.size - 101) + firstC 47 (s.data.toList.drop (s.size - 101))
theorem cutS_le (s : ByteArray) : cutS s ≤ s.size := by
  have := firstC_le 47 (s.data.toList.drop (s.size - 101))
  rw [List.length_drop] at this
  have hl : s.data.toList.length = s.size := rfl
  unfold cutS; omega
def okSplit (s : ByteArray) : Prop := okParts s ∧ s.size ≤ 254 ∧ (s.size ≤ 100 ∨ cutS s < s.size ∧ cutS s ≤ 155)
instance (s : ByteArray) : Decidable (okSplit s) := by unfold okSplit; infer_instance
def preS (s : ByteArray) : ByteArray := if okSplit s ∧ ¬ s.size ≤ 100 then s.extract 0 (cutS s) else ByteArray.empty
def nameS (s : ByteArray) : ByteArray := if okSplit s then (if s.size ≤ 100 then s else s.extract (cutS s + 1) s.size) else ByteArray.empty
def errS (s : ByteArray) : Int := if okSplit s then 0 else 9

theorem split_bad {s : ByteArray} (h : ¬ okSplit s) : preS s = ByteArray.empty ∧ nameS s = ByteArray.empty ∧ errS s = 9 :=
  ⟨if_neg fun e => h e.1, if_neg h, if_neg h⟩

section
variable [Globs]
def SplitR (s : ByteArray) (r : AV) (h : List AO) : Prop := r = .tup 3 (triple (str (preS s)) (str (nameS s)) (int .i64 (errS s))) ∧ h = []

set_option maxHeartbeats 2000000 in
set_option maxRecDepth 10000 in
theorem split_path (s : ByteArray) (hs : s.size ≤ 9223372036854775805) : ACalls Tryd.prog 40 [str s] [] (SplitR s) := by
  have hl : s.data.toList.length = s.size := rfl
  have hbad := @split_bad s
  have hok : okSplit s ↔ okParts s ∧ s.size ≤ 254 ∧ (s.size ≤ 100 ∨ cutS s < s.size ∧ cutS s ≤ 155) := Iff.rfl
  have hcl := cutS_le s
  have hcut : cutS s = (s.size - 101) + firstC 47 (s.data.toList.drop (s.size - 101)) := rfl
  have hw := whole_prog s (by omega)
  have hwh : okWhole s ↔ okParts s ∧ s.size ≤ 254 := Iff.rfl
  unfold SplitR
  have hgood1 : okSplit s → s.size ≤ 100 → preS s = ByteArray.empty ∧ nameS s = s ∧ errS s = 0 := fun h h1 =>
    ⟨if_neg fun e => e.2 h1, by unfold nameS; rw [if_pos h, if_pos h1], if_pos h⟩
  have hgood2 : okSplit s → ¬ s.size ≤ 100 → preS s = s.extract 0 (cutS s) ∧ nameS s = s.extract (cutS s + 1) s.size ∧ errS s = 0 := fun h h1 =>
    ⟨if_pos ⟨h, h1⟩, by unfold nameS; rw [if_pos h, if_neg h1], if_pos h⟩
  generalize preS s = Pr at *
  generalize nameS s = Na at *
  generalize errS s = Er at *
  generalize cutS s = C at *
  refine rcalls Tryd.func40 rfl (by decide) ?_
  refine ⟨[], _, hw, ?_⟩
  rintro r hh ⟨rfl, rfl⟩
  refine ⟨.inl rfl, ?_⟩
  refine ⟨fun c1 => ?_, fun c1 => ⟨fun c2 => ?_, fun c2 => ?_⟩⟩
  · obtain ⟨rfl, rfl, rfl⟩ := hbad fun h => notT c1 (hwh.2 ⟨h.1, h.2.1⟩)
    exact ⟨[], [], _, lehN _, le_triple (leS rfl) (leS rfl) (leI rfl), rfl, rfl⟩
  · have h1 : s.size ≤ 100 := by have := yes c2; omega
    obtain ⟨rfl, e2, rfl⟩ := hgood1 ⟨(hwh.1 (notF c1)).1, (hwh.1 (notF c1)).2, .inl h1⟩ h1
    exact ⟨[], [], _, lehN _, le_triple (leS rfl) (leS e2.symm) (leI rfl), rfl, rfl⟩
  · have h1 : ¬ s.size ≤ 100 := by have := no c2; omega
    obtain ⟨g1, g2⟩ := hwh.1 (notF c1)
    have w1 : IntKind.i64.wrap ((s.size : Int) - 100) = (s.size : Int) - 100 := w64 (by omega) (by omega)
    have w2 : IntKind.i64.wrap (IntKind.i64.wrap ((s.size : Int) - 100) - 1) = ((s.size - 101 : Nat) : Int) := by rw [w1, w64 (by omega) (by omega)]; omega
    have w3 : (IntKind.i64.wrap (IntKind.i64.wrap ((s.size : Int) - 100) - 1)).toNat = s.size - 101 := by rw [w2]; omega
    have hI := indexOne_prog (s.extract (IntKind.i64.wrap (IntKind.i64.wrap ((s.size : Int) - 100) - 1)).toNat s.size) 47
    have hlist : (s.extract (IntKind.i64.wrap (IntKind.i64.wrap ((s.size : Int) - 100) - 1)).toNat s.size).data.toList = s.data.toList.drop (s.size - 101) := by
      rw [w3, ext_list, List.take_of_length_le (Nat.le_of_eq hl)]
    rw [hlist, index_first, List.length_drop, hl] at hI
    have hF := firstC_le 47 (s.data.toList.drop (s.size - 101))
    rw [List.length_drop, hl] at hF
    generalize firstC 47 (s.data.toList.drop (s.size - 101)) = F at *
    refine ⟨⟨by rw [w2]; omega, by rw [w2]; omega⟩, ?_⟩
    by_cases hlt : F < s.size - (s.size - 101)
    · rw [if_pos hlt] at hI
      refine ⟨[], _, hI, ?_⟩
      rintro r hh ⟨rfl, rfl⟩
      refine ⟨.inl rfl, ?_⟩
      have w4 : IntKind.i64.wrap (IntKind.i64.wrap (IntKind.i64.wrap ((s.size : Int) - 100) - 1) + (F : Int)) = (C : Int) := by rw [w2, w64 (by omega) (by omega)]; omega
      have w5 : (IntKind.i64.wrap (IntKind.i64.wrap (IntKind.i64.wrap ((s.size : Int) - 100) - 1) + (F : Int))).toNat = C := by rw [w4]; omega
      have w6 : IntKind.i64.wrap (IntKind.i64.wrap (IntKind.i64.wrap (IntKind.i64.wrap ((s.size : Int) - 100) - 1) + (F : Int)) + 1) = ((C + 1 : Nat) : Int) := by rw [w4, w64 (by omega) (by omega)]; omega
      have w7 : (IntKind.i64.wrap (IntKind.i64.wrap (IntKind.i64.wrap (IntKind.i64.wrap ((s.size : Int) - 100) - 1) + (F : Int)) + 1)).toNat = C + 1 := by rw [w6]; omega
      refine ⟨fun c3 => absurd (yes c3) (by omega), fun _ => ?_⟩
      refine ⟨fun c4 => ?_, fun c4 => ?_⟩
      · have c4 := yes c4
        obtain ⟨rfl, rfl, rfl⟩ := hbad fun h => by have := (hok.1 h).2.2; omega
        exact ⟨[], [], _, lehN _, le_triple (leS rfl) (leS rfl) (leI rfl), rfl, rfl⟩
      · have c4 := no c4
        obtain ⟨e1, e2, rfl⟩ := hgood2 (hok.2 ⟨g1, g2, .inr ⟨by omega, by omega⟩⟩) h1
        refine .inl ⟨⟨by decide +kernel, by decide +kernel⟩, ?_⟩
        refine ⟨⟨by rw [w4]; omega, by rw [w4]; omega⟩, ?_⟩
        refine ⟨⟨by rw [w6]; omega, by rw [w6]; omega⟩, ?_⟩
        exact ⟨[], [], _, lehN _, le_triple (leS (by rw [e1, w5])) (leS (by rw [e2, w7])) (leI rfl), rfl, rfl⟩
    · rw [if_neg hlt] at hI
      refine ⟨[], _, hI, ?_⟩
      rintro r hh ⟨rfl, rfl⟩
      refine ⟨.inl rfl, ?_⟩
      refine ⟨fun _ => ?_, fun c3 => absurd (by decide) (no c3)⟩
      obtain ⟨rfl, rfl, rfl⟩ := hbad fun h => by have := (hok.1 h).2.2; omega
      exact ⟨[], [], _, lehN _, le_triple (leS rfl) (leS rfl) (leI rfl), rfl, rfl⟩

end
end Go.Proofs.YtkchfbnkdpdbkaaDoor.Pa

/-
  Octal fields, in plain Lean: what a number's field is, and what a field's number. No program in sight.
-/
set_option linter.unusedVariables false
namespace Go.Proofs.YtkchfbnkdpdbkaaDoor.Oc
open Go AL

/-- The figure of place j. -/
def dig (n : Int) (j : Nat) : Int := 48 + n / 8 ^ j % 8
/-- The last m figures, the greatest first. -/
def digs (n : Int) : Nat → List Int
  | 0 => []
  | m + 1 => dig n m :: digs n m
theorem digs_length (n : Int) : ∀ m, (digs n m).length = m
  | 0 => rfl
  | m + 1 => by simp [digs, digs_length n m]
/-- Does a number fit? -/
def fits (n w : Int) : Prop := 0 ≤ n ∧ n < 8 ^ (w - 1).toNat
instance (n w : Int) : Decidable (fits n w) := by unfold fits; exact inferInstance
def putE (n w : Int) : Int := if w < 2 ∨ w > 12 then 1 else if fits n w then 0 else 8
def putR (n w : Int) : List Int := if w < 2 ∨ w > 12 then [] else if fits n w then digs n (w - 1).toNat ++ [0] else []

theorem pow8_pos (j : Nat) : (0 : Int) < 8 ^ j := Int.pow_pos (by decide)
theorem div_succ (n : Int) (j : Nat) : n / 8 ^ (j + 1) = n / 8 ^ j / 8 := by
  rw [Int.pow_succ, Int.ediv_ediv_of_nonneg (Int.le_of_lt (pow8_pos j))]
theorem fits_iff {n : Int} {m : Nat} : n / 8 ^ m = 0 ↔ 0 ≤ n ∧ n < 8 ^ m := by
  have hp := pow8_pos m
  constructor
  · intro h
    have h1 := Int.emod_nonneg n (Int.ne_of_gt hp)
    have h2 := Int.emod_lt_of_pos n hp
    have h3 := Int.mul_ediv_add_emod n (8 ^ m)
    rw [h, Int.mul_zero, Int.zero_add] at h3
    omega
  · rintro ⟨h1, h2⟩
    exact Int.ediv_eq_zero_of_lt h1 h2
theorem dig_lo (n : Int) (j : Nat) : 48 ≤ dig n j := by
  unfold dig; have := Int.emod_nonneg (n / 8 ^ j) (show (8 : Int) ≠ 0 by decide); omega
theorem dig_hi (n : Int) (j : Nat) : dig n j < 56 := by
  unfold dig; have := Int.emod_lt_of_pos (n / 8 ^ j) (show (0 : Int) < 8 by decide); omega

/-- The field so far: j figures and the end, from behind. -/
def part (n : Int) (w j : Nat) : List Int := List.replicate (w - 1 - j) 0 ++ digs n j ++ [0]
theorem part_zero (n : Int) {w : Nat} (hw : 1 ≤ w) : part n w 0 = List.replicate w 0 := by
  unfold part digs
  rw [List.append_nil, Nat.sub_zero, ← List.replicate_succ', show w - 1 + 1 = w by omega]
theorem part_length (n : Int) {w j : Nat} (hj : j + 1 ≤ w) : (part n w j).length = w := by
  simp [part, digs_length]; omega
theorem part_succ (n : Int) {w j : Nat} (hj : j + 2 ≤ w) : (part n w j).set (w - 2 - j) (dig n j) = part n w (j + 1) := by
  unfold part
  rw [show w - 1 - j = (w - 2 - j) + 1 by omega, List.replicate_succ', show w - 1 - (j + 1) = w - 2 - j by omega]
  rw [List.append_assoc, List.append_assoc, List.set_append_right _ _ (by simp)]
  simp [digs]
theorem part_full (n : Int) {w : Nat} (hw : 1 ≤ w) : part n w (w - 1) = digs n (w - 1) ++ [0] := by
  simp [part]

/-- What the first so many figures say. -/
def acc (xs : List Int) : Nat → Int
  | 0 => 0
  | k + 1 => 8 * acc xs k + (xs.getD k 0 - 48)
/-- The same, of any bytes. -/
def acr (xs : List Int) : Nat → Int
  | 0 => 0
  | k + 1 => 8 * acr xs k + xs.getD k 0 % 8
def figure (c : Int) : Prop := 48 ≤ c ∧ c < 56
/-- Is it a number's field? -/
def valid (xs : List Int) : Prop := 2 ≤ xs.length ∧ xs.length ≤ 12 ∧ xs.getD (xs.length - 1) 0 = 0 ∧ ∀ i, i < xs.length - 1 → figure (xs.getD i 0)
open Classical in
noncomputable def getV (xs : List Int) : Int := if valid xs then acc xs (xs.length - 1) else 0
open Classical in
noncomputable def getE (xs : List Int) : Int := if valid xs then 0 else 2
theorem get_ok {xs : List Int} (h : valid xs) : getV xs = acc xs (xs.length - 1) ∧ getE xs = 0 := by simp [getV, getE, h]
theorem get_no {xs : List Int} (h : ¬ valid xs) : getV xs = 0 ∧ getE xs = 2 := by simp [getV, getE, h]

theorem digs_low (a c : Int) (h0 : 0 ≤ c) (h1 : c < 8) : ∀ m, digs (8 * a + c) (m + 1) = digs a m ++ [48 + c]
  | 0 => by simp [digs, dig]; omega
  | m + 1 => by
    have h2 : dig (8 * a + c) (m + 1) = dig a m := by
      unfold dig
      have : (8 * a + c) / 8 ^ (m + 1) = a / 8 ^ m := by
        rw [Int.pow_succ, Int.mul_comm (8 ^ m) 8, ← Int.ediv_ediv_of_nonneg (by decide)]
        congr 1
        omega
      rw [this]
    rw [digs, h2, digs_low a c h0 h1 m]
    rfl
theorem take_snoc_getD (xs : List Int) (k : Nat) (h : k < xs.length) : xs.take (k + 1) = xs.take k ++ [xs.getD k 0] := by
  rw [List.take_succ_eq_append_getElem h, List.getD_eq_getElem?_getD, List.getElem?_eq_getElem h]
  rfl
theorem acc_range {xs : List Int} : ∀ {m : Nat}, (∀ i, i < m → figure (xs.getD i 0)) → 0 ≤ acc xs m ∧ acc xs m < 8 ^ m
  | 0, _ => by simp [acc]
  | m + 1, h => by
    have h1 := acc_range (m := m) fun i hi => h i (by omega)
    have h2 := h m (by omega)
    unfold figure at h2
    have : (8 : Int) ^ (m + 1) = 8 * 8 ^ m := by rw [Int.pow_succ, Int.mul_comm]
    simp only [acc]
    omega
theorem digs_acc {xs : List Int} : ∀ {m : Nat}, m ≤ xs.length → (∀ i, i < m → figure (xs.getD i 0)) → digs (acc xs m) m = xs.take m
  | 0, _, _ => by simp [digs]
  | m + 1, hm, h => by
    have h1 := digs_acc (m := m) (by omega) fun i hi => h i (by omega)
    have h2 := h m (by omega)
    unfold figure at h2
    simp only [acc]
    rw [digs_low _ _ (by omega) (by omega), h1, take_snoc_getD xs m (by omega)]
    congr 2
    omega
theorem acr_eq {xs : List Int} : ∀ {m : Nat}, (∀ i, i < m → figure (xs.getD i 0)) → acr xs m = acc xs m
  | 0, _ => rfl
  | m + 1, h => by
    have h1 := acr_eq (m := m) fun i hi => h i (by omega)
    have h2 := h m (by omega)
    unfold figure at h2
    simp only [acc, acr, h1]
    omega
theorem acr_range {xs : List Int} (hx : ∀ x ∈ xs, 0 ≤ x ∧ x < 256) : ∀ m : Nat, 0 ≤ acr xs m ∧ acr xs m < 8 ^ m
  | 0 => by simp [acr]
  | m + 1 => by
    have h1 := acr_range hx m
    have : (8 : Int) ^ (m + 1) = 8 * 8 ^ m := by rw [Int.pow_succ, Int.mul_comm]
    simp only [acr]
    omega
theorem digs_get (n : Int) : ∀ (m i : Nat), i < m → (digs n m).getD i 0 = dig n (m - 1 - i)
  | m + 1, 0, _ => by simp [digs]
  | m + 1, i + 1, h => by
    simp only [digs, List.getD_cons_succ]
    rw [digs_get n m i (by omega)]
    congr 1
    omega
theorem pow8_mono {a b : Nat} (h : a ≤ b) : (8 : Int) ^ a ≤ 8 ^ b := by
  have : (8 : Nat) ^ a ≤ 8 ^ b := Nat.pow_le_pow_right (by decide) h
  exact_mod_cast this
theorem putR_range (n w : Int) : ∀ x ∈ putR n w, 0 ≤ x ∧ x < 256 := by
  intro x hx
  unfold putR at hx
  split at hx
  · simp at hx
  · split at hx
    · have : ∀ m, ∀ x ∈ digs n m, 0 ≤ x ∧ x < 256 := by
        intro m
        induction m with
        | zero => intro x hx; simp [digs] at hx
        | succ m ih =>
          intro x hx
          simp [digs] at hx
          rcases hx with rfl | hx
          · have := dig_lo n m; have := dig_hi n m; omega
          · exact ih x hx
      simp at hx
      rcases hx with hx | rfl
      · exact this _ x hx
      · omega
    · simp at hx
/-- What is put back from a field is the field, or it is none. -/
theorem put_back {xs : List Int} (hv : valid xs) : putE (acc xs (xs.length - 1)) xs.length = 0 ∧ putR (acc xs (xs.length - 1)) xs.length = xs := by
  obtain ⟨h1, h2, h3, h4⟩ := hv
  have hr := acc_range h4
  have hw : (((xs.length : Nat) : Int) - 1).toNat = xs.length - 1 := by omega
  have hf : fits (acc xs (xs.length - 1)) xs.length := by unfold fits; rw [hw]; exact hr
  have hok : ¬ (((xs.length : Nat) : Int) < 2 ∨ ((xs.length : Nat) : Int) > 12) := by omega
  refine ⟨by simp [putE, hok, hf], ?_⟩
  have : putR (acc xs (xs.length - 1)) xs.length = digs (acc xs (xs.length - 1)) (xs.length - 1) ++ [0] := by
    simp only [putR, hok, if_false, hf, if_true, hw]
  rw [this, digs_acc (by omega) h4]
  have h5 := take_snoc_getD xs (xs.length - 1) (by omega)
  rw [h3, show xs.length - 1 + 1 = xs.length by omega, List.take_length] at h5
  exact h5.symm
theorem digs_inj {a b : Int} : ∀ {m : Nat}, 0 ≤ a → a < 8 ^ m → 0 ≤ b → b < 8 ^ m → digs a m = digs b m → a = b := by
  intro m
  induction m generalizing a b with
  | zero => intro h1 h2 h3 h4 _; simp at h2 h4; omega
  | succ m ih =>
    intro h1 h2 h3 h4 h
    have ea : digs a (m + 1) = digs (a / 8) m ++ [48 + a % 8] := by
      have := digs_low (a / 8) (a % 8) (by omega) (by omega) m
      rwa [show 8 * (a / 8) + a % 8 = a by omega] at this
    have eb : digs b (m + 1) = digs (b / 8) m ++ [48 + b % 8] := by
      have := digs_low (b / 8) (b % 8) (by omega) (by omega) m
      rwa [show 8 * (b / 8) + b % 8 = b by omega] at this
    rw [ea, eb] at h
    have hp : (8 : Int) ^ (m + 1) = 8 * 8 ^ m := by rw [Int.pow_succ, Int.mul_comm]
    have h5 := List.append_inj' h rfl
    have h6 := ih (a := a / 8) (b := b / 8) (by omega) (by omega) (by omega) (by omega) h5.1
    have h7 : 48 + a % 8 = 48 + b % 8 := by simpa using h5.2
    omega
theorem put_field {n w : Int} (h : putE n w = 0) : ((putR n w).length : Int) = w ∧ valid (putR n w) ∧ acc (putR n w) ((putR n w).length - 1) = n := by
  have hok : ¬ (w < 2 ∨ w > 12) := fun h1 => by simp [putE, h1] at h
  have hf : fits n w := by
    by_cases hf : fits n w
    · exact hf
    · simp [putE, hok, hf] at h
  have e : putR n w = digs n (w - 1).toNat ++ [0] := by simp only [putR, hok, if_false, hf, if_true]
  have hl : (putR n w).length = (w - 1).toNat + 1 := by rw [e]; simp [digs_length]
  have hd : ∀ i, i < (w - 1).toNat → (putR n w).getD i 0 = dig n ((w - 1).toNat - 1 - i) := fun i hi => by
    rw [e, List.getD_eq_getElem?_getD, List.getElem?_append_left (by simpa [digs_length] using hi), ← List.getD_eq_getElem?_getD, digs_get n _ i hi]
  have hv : ∀ i, i < (putR n w).length - 1 → figure ((putR n w).getD i 0) := fun i hi => by
    rw [hd i (by omega)]
    exact ⟨dig_lo _ _, dig_hi _ _⟩
  have hlast : (putR n w).getD ((putR n w).length - 1) 0 = 0 := by
    rw [hl, e, List.getD_eq_getElem?_getD, List.getElem?_append_right (by simp [digs_length])]
    simp [digs_length]
  refine ⟨by rw [hl]; omega, ⟨by omega, by omega, hlast, hv⟩, ?_⟩
  have h1 := digs_acc (xs := putR n w) (m := (putR n w).length - 1) (by omega) hv
  have h2 := acc_range hv
  rw [hl] at h1 h2 ⊢
  simp only [Nat.add_sub_cancel] at h1 h2 ⊢
  have h3 : digs (acc (putR n w) (w - 1).toNat) (w - 1).toNat = digs n (w - 1).toNat := by
    rw [h1, e, List.take_left' (digs_length n _)]
  exact digs_inj h2.1 h2.2 hf.1 hf.2 h3
end Go.Proofs.YtkchfbnkdpdbkaaDoor.Oc

/-
  The contracts of octal.Put and of its reference.
-/
set_option linter.unusedVariables false
set_option linter.unusedSectionVars false
namespace Go.Proofs.YtkchfbnkdpdbkaaDoor.Oc
open Go AL
section
variable [Globs]

theorem putE_bad {n w : Int} (h : w < 2 ∨ w > 12) : putE n w = 1 ∧ putR n w = [] := by simp [putE, putR, h]
theorem putE_ok {n w : Int} (h : ¬ (w < 2 ∨ w > 12)) (hf : fits n w) : putE n w = 0 ∧ putR n w = digs n (w - 1).toNat ++ [0] := by simp [putE, putR, h, hf]
theorem putE_no {n w : Int} (h : ¬ (w < 2 ∨ w > 12)) (hf : ¬ fits n w) : putE n w = 8 ∧ putR n w = [] := by simp [putE, putR, h, hf]

/-- What Put hands back. -/
def PutR (n w : Int) (r : AV) (h : List AO) : Prop := r = .tup 2 (pair (.roI .u8 (putR n w)) (int .i64 (putE n w))) ∧ h = []

set_option maxHeartbeats 1000000 in
set_option maxRecDepth 10000 in
theorem put_prog (n w : Int) : ACalls Tryd.prog 42 [int .i64 n, int .i64 w] [] (PutR n w) := by
  refine rcalls Tryd.func42 rfl (by decide) ?_
  have bad : (w < 2 ∨ w > 12) → ∃ l h1 b, LeH 0 [] l h1 ∧ LeV [] l (.tup 2 fun i => [.raw (.slice none 0 0), int .i64 1].getD i .top) b ∧ PutR n w b h1 := fun hw =>
    ⟨[], [], _, leh0, le_pair (.nilI .u8) (leI (putE_bad hw).1.symm), by unfold PutR; rw [(putE_bad hw).2]; exact ⟨rfl, rfl⟩⟩
  refine ⟨fun h => bad (.inl (by simpa using h)), fun h => ⟨fun h1 => bad (.inr (by simpa using h1)), fun h1 => ?_⟩⟩
  have hw2 : ¬ (w < 2) := by simpa using h
  have hw12 : ¬ (12 < w) := by simpa using h1
  have hok : ¬ (w < 2 ∨ w > 12) := by omega
  refine ⟨⟨by omega, by omega, by omega, by show w * 1 ≤ _; omega⟩, rfl, ?_⟩
  obtain ⟨m, hm⟩ : ∃ m : Nat, w = (m : Int) := ⟨w.toNat, by omega⟩
  subst hm
  have e0 : IntKind.i64.wrap ((m : Int) - 2) = (m : Int) - 2 := w64 (by omega) (by omega)
  refine ⟨Nat, fun j => [(0, int .i64 (n / 8 ^ j)), (6, .own 0 0 m 1), (7, int .i64 (m - 2 - j))], fun j => [.ints .u8 (part n m j)], fun j => j + 1 ≤ m, fun j => m - j,
    ⟨0, [0], by omega, leh1 rfl (leOint (by rw [part_zero n (by omega)]; simp)), ⟨leI (by simp), leOwn rfl rfl (by simp), leI (by rw [e0]; omega), trivial⟩⟩, fun j hj => ?_⟩
  refine ⟨fun h2 => ?_, fun h2 => ?_⟩
  · -- a round
    have h3 : (0 : Int) ≤ m - 2 - j := by simpa using h2
    have hpl := part_length n hj
    have hi : ((m : Int) - 2 - j).toNat = m - 2 - j := by omega
    refine ⟨⟨by omega, by omega⟩, by rw [hpl]; unfold addOff; omega, by decide, ?_⟩
    refine ⟨trivial, j + 1, [0], by show j + 1 + 1 ≤ m; omega, by show m - (j + 1) < m - j; omega, ?_, ?_⟩
    · refine leh1 rfl (leOint ?_)
      have e1 : Go.bits .and .i64 (n / 8 ^ j) 7 = n / 8 ^ j % 8 := bits_mask64 (n / 8 ^ j) 3 (by decide)
      have d0 := dig_lo n j
      have d1 := dig_hi n j
      unfold dig at d0 d1
      rw [e1, w8 (n := n / 8 ^ j % 8) (by omega) (by omega), w8 (by omega) (by omega), hi]
      unfold addOff
      rw [Nat.zero_add, Nat.mul_one]
      exact part_succ n (by omega)
    · refine ⟨leI ?_, leOwn rfl rfl rfl, leI ?_, trivial⟩
      · show (n / 8 ^ j).fdiv (2 ^ (min (3 : Int).toNat 64)) = _
        rw [div_succ, Int.fdiv_eq_ediv_of_nonneg _ (by decide)]
        rfl
      · rw [w64 (by omega) (by omega)]; omega
  · -- the end
    have h3 : ¬ ((0 : Int) ≤ m - 2 - j) := by simpa using h2
    have hjm : j = m - 1 := by have : j + 1 ≤ m := hj; omega
    subst hjm
    have hw1 : ((m : Int) - 1).toNat = m - 1 := by omega
    refine ⟨fun h4 => ?_, fun h4 => ?_⟩
    · have hnf : ¬ fits n m := by
        unfold fits
        rw [hw1, ← fits_iff]
        simpa using h4
      refine ⟨[], [], _, lehN _, le_pair (.nilI .u8) (leI (putE_no hok hnf).1.symm), ?_⟩
      unfold PutR; rw [(putE_no hok hnf).2]; exact ⟨rfl, rfl⟩
    · have hf : fits n m := by
        unfold fits
        rw [hw1, ← fits_iff]
        simpa using h4
      refine ⟨[], [], _, lehN _, le_pair (.giveI (putR n m) rfl (by simp) ?_ ?_) (leI (putE_ok hok hf).1.symm), rfl, rfl⟩
      · rw [part_length n (by omega)]; simp
      · rw [(putE_ok hok hf).2, part_full n (by omega), hw1]
        rw [List.drop_zero, List.take_of_length_le (by simp [digs_length]; omega)]

end

end Go.Proofs.YtkchfbnkdpdbkaaDoor.Oc

/-
  The contracts of octal.Check and octal.Text.
-/
set_option linter.unusedVariables false
set_option linter.unusedSectionVars false
namespace Go.Proofs.YtkchfbnkdpdbkaaDoor.Oc
open Go AL
section
variable [Globs]

/-- A byte of a header, as it counts in the sum. -/
def chkAt (i : Nat) (c : Int) : Int := if 148 ≤ i ∧ i < 156 then 32 else c
/-- The sum of the first so many bytes. -/
def chk (xs : List Int) : Nat → Int
  | 0 => 0
  | k + 1 => chk xs k + chkAt k (xs.getD k 0)
theorem chk_range {xs : List Int} (hx : ∀ x ∈ xs, 0 ≤ x ∧ x < 256) : ∀ k : Nat, 0 ≤ chk xs k ∧ chk xs k ≤ 256 * k
  | 0 => by simp [chk]
  | k + 1 => by
    have := chk_range hx k
    have hb := byteAt hx k
    simp only [chk, chkAt]
    split <;> omega

set_option maxHeartbeats 1000000 in
set_option maxRecDepth 10000 in
theorem check_prog (xs : List Int) (hx : ∀ x ∈ xs, 0 ≤ x ∧ x < 256) (hl : xs.length ≤ 281474976710656) : ACalls Tryd.prog 43 [.roI .u8 xs] [] (fun r h => r = int .i64 (chk xs xs.length) ∧ h = []) := by
  refine rcalls Tryd.func43 rfl (by decide) ?_
  refine ⟨Nat, fun k => [(6, .roI .u8 xs), (7, int .i64 xs.length), (8, int .i64 k), (3, int .i64 (chk xs k))], fun _ => [], fun k => k ≤ xs.length, fun k => xs.length - k,
    ⟨0, [], Nat.zero_le _, leh0, ⟨leRo rfl, leI rfl, leI rfl, leI rfl, trivial⟩⟩, fun k hk => ?_⟩
  refine ⟨fun h => ?_, fun h => ?_⟩
  · have hlt : k < xs.length := by have := yes h; omega
    have hb := byteAt hx k
    have hr := chk_range hx k
    have e1 : IntKind.i64.wrap ((k : Int) + 1) = ((k + 1 : Nat) : Int) := by rw [w64 (by omega) (by omega)]; omega
    refine ⟨⟨by omega, by omega⟩, ?_⟩
    refine ⟨fun h1 => ⟨fun h2 => ?_, fun h2 => ?_⟩, fun h1 => ?_⟩
    · have f1 := yes h1
      have f2 := yes h2
      refine ⟨trivial, k + 1, [], hlt, by show xs.length - (k + 1) < xs.length - k; omega, leh0, ⟨leRo rfl, leI rfl, leI e1, leI ?_, trivial⟩⟩
      have : chk xs (k + 1) = chk xs k + 32 := by simp only [chk, chkAt]; rw [if_pos (by omega)]
      rw [this, w64 (n := 32) (by omega) (by omega), w64 (by omega) (by omega)]
    · have f2 := no h2
      refine ⟨trivial, k + 1, [], hlt, by show xs.length - (k + 1) < xs.length - k; omega, leh0, ⟨leRo rfl, leI rfl, leI e1, leI ?_, trivial⟩⟩
      have : chk xs (k + 1) = chk xs k + xs.getD k 0 := by simp only [chk, chkAt]; rw [if_neg (by omega)]
      show IntKind.i64.wrap (chk xs k + IntKind.i64.wrap (xs.getD k 0)) = _
      rw [this, w64 (n := xs.getD k 0) (by omega) (by omega), w64 (by omega) (by omega)]
    · have f1 := no h1
      refine ⟨trivial, k + 1, [], hlt, by show xs.length - (k + 1) < xs.length - k; omega, leh0, ⟨leRo rfl, leI rfl, leI e1, leI ?_, trivial⟩⟩
      have : chk xs (k + 1) = chk xs k + xs.getD k 0 := by simp only [chk, chkAt]; rw [if_neg (by omega)]
      show IntKind.i64.wrap (chk xs k + IntKind.i64.wrap (xs.getD k 0)) = _
      rw [this, w64 (n := xs.getD k 0) (by omega) (by omega), w64 (by omega) (by omega)]
  · have : k = xs.length := by have := no h; omega
    subst this
    exact ⟨[], [], _, leh0, leI rfl, rfl, rfl⟩

/-- Has a text a byte that is 0? -/
def has0 (s : ByteArray) : Prop := 0 ≤ Lib.indexByte s.data.toList 0
instance (s : ByteArray) : Decidable (has0 s) := by unfold has0; exact inferInstance
def textE (s : ByteArray) (w : Int) : Int := if w < 1 ∨ w > 255 then 1 else if has0 s then 2 else if (s.size : Int) > w then 8 else 0
def textR (s : ByteArray) (w : Int) : List Int := if textE s w = 0 then intsOf s ++ List.replicate (w.toNat - s.size) 0 else []
def TextR (s : ByteArray) (w : Int) (r : AV) (h : List AO) : Prop := r = .tup 2 (pair (.roI .u8 (textR s w)) (int .i64 (textE s w))) ∧ h = []

theorem text_row (l : List Int) (m : Nat) (h : l.length ≤ m) :
    (((List.replicate m (0 : Int)).take 0 ++ l.take m ++ (List.replicate m 0).drop (0 + min l.length m)).drop 0).take m = l ++ List.replicate (m - l.length) 0 := by
  rw [List.take_zero, List.nil_append, List.drop_zero, Nat.zero_add, Nat.min_eq_left h, List.drop_replicate, List.take_of_length_le (l := l) h, List.take_of_length_le]
  simp; omega

theorem index_prog (s : ByteArray) : ACalls Tryd.prog 85 [str s, int .u8 0] [] (fun r h => r = int .i64 (Lib.indexByte s.data.toList 0) ∧ h = []) :=
  acalls_same (args := [.string s, .int .u8 0]) ⟨_, Tryd.func85, by decide, rfl⟩ fun w => Tryd.strings_IndexByte s 0 w

set_option maxHeartbeats 1000000 in
set_option maxRecDepth 10000 in
theorem text_prog (s : ByteArray) (w : Int) (hs : s.size ≤ 9223372036854775807) : ACalls Tryd.prog 64 [str s, int .i64 w] [] (TextR s w) := by
  refine rcalls Tryd.func64 rfl (by decide) ?_
  have bad : ∀ h e, e ≠ 0 → textE s w = e → ∃ l h1 b, LeH 0 h l h1 ∧ LeV h l (.tup 2 fun i => [.raw (.slice none 0 0), int .i64 e].getD i .top) b ∧ TextR s w b h1 := fun h e he hv =>
    ⟨[], [], _, lehN _, le_pair (.nilI .u8) (leI hv.symm), by unfold TextR textR; rw [hv, if_neg he]; exact ⟨rfl, rfl⟩⟩
  refine ⟨fun h => bad _ _ (by decide) ?_, fun h => ⟨fun h1 => bad _ _ (by decide) ?_, fun h1 => ?_⟩⟩
  · have := yes h; simp [textE, this]
  · have := yes h1; simp [textE]; omega
  have hok : ¬ (w < 1 ∨ w > 255) := by have := no h; have := no h1; omega
  refine ⟨[], _, index_prog s, ?_⟩
  rintro r h' ⟨rfl, rfl⟩
  refine ⟨.inl rfl, ?_⟩
  refine ⟨fun h2 => bad _ _ (by decide) ?_, fun h2 => ⟨fun h3 => bad _ _ (by decide) ?_, fun h3 => ?_⟩⟩
  · have h4 : has0 s := by simpa [has0] using yes h2
    simp only [textE, hok, if_false, h4, if_true]
  · have h4 : ¬ has0 s := by simpa [has0] using no h2
    have := yes h3
    simp only [textE, hok, if_false, h4]
    rw [if_pos (by omega)]
  have h4 : ¬ has0 s := by simpa [has0] using no h2
  have h5 := no h3
  have hE : textE s w = 0 := by
    simp only [textE, hok, if_false, h4]
    rw [if_neg (by omega)]
  have hil := intsOf_length s
  refine ⟨⟨by omega, by omega, by omega, by show w * 1 ≤ _; omega⟩, rfl, ?_⟩
  refine ⟨by simp, ?_⟩
  refine ⟨[], [], _, lehN _, le_pair (.giveI (textR s w) rfl (by simp) ?_ ?_) (leI hE.symm), rfl, rfl⟩
  · simp; omega
  · unfold textR
    rw [if_pos hE, ← hil]
    exact (text_row (intsOf s) w.toNat (by omega)).symm

end

end Go.Proofs.YtkchfbnkdpdbkaaDoor.Oc

/-
  bytes.IndexByte at 0, over what is known of a row of bytes.
-/
set_option linter.unusedVariables false
namespace Go.Proofs
open Go.Shelf
set_option maxHeartbeats 1000000 in
set_option maxRecDepth 100000 in
/-- bytes.IndexByte at a row that lies nowhere. -/
theorem YtkchfbnkdpdbkaaDoor.Any.bytes_IndexByte_none {P : Program} {ρ : Ren} (L : Lays.n187 P ρ) (c : Nat) (cv : Int) (w : World) :
    Calls P (ρ.f 187) #[.slice none 0 c, .int .u8 cv] w fun e w' => e = .returned (.int .i64 (-1)) ∧ w' = w := by
  have t3 := L.t3; have t5 := L.t5; have t37 := L.t37
  have a3 := L.a3; have a5 := L.a5; have a37 := L.a37
  have mixed := L.mixed; have z3 := L.z3; have v3 := L.v3; have z5 := L.z5; have v5 := L.v5; have z37 := L.z37; have v37 := L.v37
  go_enter L.f187, Body.n187_ntmps ρ
  go_wp2
  rw [run_callFunc_extern L.f255 (by kernel_rfl) (by kernel_rfl) (by kernel_rfl) (e := Extern.BytealgIndexByte.indexByte) (by kernel_rfl), Lib.run_indexByteNil w 0 c cv]
  simp only [Result.andThen]
  rw [Oper.upon_value]
  go_wp2
  go_ret
  exact ⟨rfl, rfl⟩
end Go.Proofs

set_option linter.unusedSectionVars false
namespace Go.Proofs.YtkchfbnkdpdbkaaDoor.Oc
open Go AL
section
variable [Globs]

theorem indexByte_prog (ys : List Int) (hy : ∀ y ∈ ys, 0 ≤ y ∧ y < 256) : ACalls Tryd.prog 70 [.roI .u8 ys, int .u8 0] [] (fun r h => r = int .i64 (Lib.indexByte (Lib.bytesOf ys) 0) ∧ h = []) := by
  refine ⟨⟨_, Tryd.func70, by decide, rfl⟩, fun S0 L w vs hh hS hn hv => ?_⟩
  obtain ⟨v0, h0, A, cap, rfl, hcap, hc⟩ := hv 0 _ rfl
  obtain ⟨v1, h1, e1⟩ := hv 1 _ rfl
  have e1 : v1 = .int .u8 0 := e1
  subst e1
  have hvs : vs = #[.slice A ys.length cap, .int .u8 0] := by
    apply Array.ext_getElem?
    intro i
    match i with
    | 0 => rw [h0]; rfl
    | 1 => rw [h1]; rfl
    | i + 2 => rw [Array.getElem?_eq_none (by rw [hn]; simp)]; simp
  subst hvs
  have fin : ∀ (n : Int), n = Lib.indexByte (Lib.bytesOf ys) 0 → ∀ (e : Ending) (w' : World), e = .returned (.int .i64 n) ∧ w' = w → ∃ v r h' L', e = .returned v ∧ (r = int .i64 (Lib.indexByte (Lib.bytesOf ys) 0) ∧ h' = []) ∧ HRel ⟨w, S0, ([] : List AO).length, L⟩ h' L' w' ∧
      den w' (SS ⟨w, S0, ([] : List AO).length, L⟩ w' h' L') L' r v := by
    rintro n rfl e w' ⟨rfl, rfl⟩
    exact ⟨_, _, [], L, rfl, ⟨rfl, rfl⟩, hh, rfl⟩
  cases A with
  | none =>
    have hy0 : ys = [] := by
      cases ys with
      | nil => rfl
      | cons y r => obtain ⟨b, o, e, _⟩ := hc 0 (by simp); cases e
    subst hy0
    exact (YtkchfbnkdpdbkaaDoor.Any.bytes_IndexByte_none Tryd.lays187 cap 0 w).mono fun e w' he => fin (-1) rfl e w' he
  | some A =>
    rcases ys with _ | ⟨y, r⟩
    · exact (Tryd.bytes_IndexByte_at A _ cap [] 0 w rfl (fun i hi => absurd hi (Nat.not_lt_zero _))).mono fun e w' he => fin _ rfl e w' he
    · refine (Tryd.bytes_IndexByte_at A _ cap (y :: r) 0 w rfl (fun i hi => ?_)).mono fun e w' he => fin _ rfl e w' he
      obtain ⟨b, o, e, _, h2⟩ := hc i hi
      cases e
      rw [Addr.add_mk]
      exact h2

theorem index0_iff {ys : List Int} (hy : ∀ y ∈ ys, 0 ≤ y ∧ y < 256) : 0 ≤ Lib.indexByte (Lib.bytesOf ys) 0 ↔ (0 : Int) ∈ ys := by
  have hget : ∀ i : Nat, (Lib.bytesOf ys)[i]? = some 0 ↔ ys[i]? = some 0 := fun i => by
    unfold Lib.bytesOf
    rw [List.getElem?_map]
    cases h : ys[i]? with
    | none => simp
    | some y =>
      have := hy y (List.mem_of_getElem? h)
      simp only [Option.map_some, Option.some.injEq]
      constructor
      · intro e
        have e2 : (UInt8.ofNat y.toNat).toNat = 0 := by rw [e]; rfl
        simp at e2
        omega
      · rintro rfl; rfl
  constructor
  · intro h
    obtain ⟨o, ho⟩ : ∃ o : Nat, Lib.indexByte (Lib.bytesOf ys) 0 = o := ⟨_, (Int.toNat_of_nonneg h).symm⟩
    exact List.mem_of_getElem? ((hget o).1 (Lib.indexByte_some ho).1)
  · intro h
    obtain ⟨i, hi, e⟩ := List.mem_iff_getElem.1 h
    have hge := Lib.indexByte_ge (Lib.bytesOf ys) 0
    by_cases h1 : Lib.indexByte (Lib.bytesOf ys) 0 = -1
    · exact absurd ((hget i).2 (by rw [List.getElem?_eq_getElem hi, e])) (Lib.indexByte_none h1 i)
    · omega

end

end Go.Proofs.YtkchfbnkdpdbkaaDoor.Oc

/-
  The contracts of octal.Name and of the document's own Name.
-/
set_option linter.unusedVariables false
set_option linter.unusedSectionVars false
namespace Go.Proofs.YtkchfbnkdpdbkaaDoor.Oc
open Go AL
section
variable [Globs]

/-- How many of the first so many bytes stand ahead of the zeros at the end. -/
def trimN (xs : List Int) : Nat → Nat
  | 0 => 0
  | k + 1 => if xs.getD k 0 = 0 then trimN xs k else k + 1
def nameN (xs : List Int) : Nat := trimN xs xs.length
def nameE (xs : List Int) : Int := if (0 : Int) ∈ xs.take (nameN xs) then 2 else 0
def nameR (xs : List Int) : ByteArray := if nameE xs = 0 then bytesOf (xs.take (nameN xs)) else ByteArray.empty
def NameR (xs : List Int) (r : AV) (h : List AO) : Prop := r = .tup 2 (pair (str (nameR xs)) (int .i64 (nameE xs))) ∧ h = []

theorem trimN_le (xs : List Int) : ∀ k, trimN xs k ≤ k
  | 0 => Nat.le_refl _
  | k + 1 => by
    unfold trimN
    split
    · exact Nat.le_succ_of_le (trimN_le xs k)
    · exact Nat.le_refl _
theorem trimN_gt {xs : List Int} {i : Nat} (hi : xs.getD i 0 ≠ 0) : ∀ k, i < k → i < trimN xs k
  | 0, h => absurd h (Nat.not_lt_zero _)
  | k + 1, h => by
    unfold trimN
    split
    · rename_i h0
      have : i ≠ k := fun e => hi (e ▸ h0)
      exact trimN_gt hi k (by omega)
    · exact h
theorem trimN_zero {xs : List Int} {n : Nat} : ∀ k, n ≤ k → (∀ j, n ≤ j → j < k → xs.getD j 0 = 0) → trimN xs k = trimN xs n
  | 0, h, _ => by rw [show n = 0 by omega]
  | k + 1, h, h0 => by
    rcases Nat.lt_or_ge k n with h1 | h1
    · rw [show n = k + 1 by omega]
    · have := h0 k h1 (Nat.lt_succ_self _)
      rw [trimN, if_pos this]
      exact trimN_zero k h1 fun j h2 h3 => h0 j h2 (by omega)
theorem trimN_self {xs : List Int} {n : Nat} (h : ∀ i, i < n → xs.getD i 0 ≠ 0) : trimN xs n = n := by
  cases n with
  | zero => rfl
  | succ n => rw [trimN, if_neg (h n (Nat.lt_succ_self _))]
theorem mem_take_iff {xs : List Int} {n : Nat} (hn : n ≤ xs.length) {c : Int} : c ∈ xs.take n ↔ ∃ i, i < n ∧ xs.getD i 0 = c := by
  constructor
  · intro h
    obtain ⟨i, hi, e⟩ := List.mem_iff_getElem.1 h
    simp at hi
    exact ⟨i, by omega, by rw [List.getD_eq_getElem?_getD, List.getElem?_eq_getElem (by omega)]; simpa using e⟩
  · rintro ⟨i, hi, e⟩
    refine List.mem_iff_getElem.2 ⟨i, by simp; omega, ?_⟩
    rw [List.getD_eq_getElem?_getD, List.getElem?_eq_getElem (by omega)] at e
    simpa using e
theorem name_ok {xs : List Int} {n : Nat} (hn : n ≤ xs.length) (h : ∀ i, i < n → xs.getD i 0 ≠ 0) (h0 : ∀ j, n ≤ j → j < xs.length → xs.getD j 0 = 0) : nameN xs = n ∧ nameE xs = 0 := by
  have h1 : nameN xs = n := by
    unfold nameN
    rw [trimN_zero _ hn h0, trimN_self h]
  refine ⟨h1, ?_⟩
  unfold nameE
  rw [h1, if_neg]
  intro hm
  obtain ⟨i, hi, e⟩ := (mem_take_iff hn).1 hm
  exact h i hi e
theorem name_bad {xs : List Int} {n i : Nat} (h0 : xs.getD n 0 = 0) (hni : n < i) (hi : i < xs.length) (h : xs.getD i 0 ≠ 0) : nameE xs = 2 := by
  have h1 : i < nameN xs := trimN_gt h _ hi
  unfold nameE
  rw [if_pos]
  exact (mem_take_iff (trimN_le _ _)).2 ⟨n, Nat.lt_trans hni h1, h0⟩

set_option maxHeartbeats 1000000 in
set_option maxRecDepth 10000 in
theorem trimByte_prog (xs : List Int) (hl : xs.length ≤ 281474976710656) : ACalls Tryd.prog 72 [.roI .u8 xs, int .u8 0] [] (fun r h => r = .roI .u8 (xs.take (nameN xs)) ∧ h = []) := by
  refine rcalls Tryd.func72 rfl (by decide) ?_
  refine ⟨List Int, fun ys => [(0, .roI .u8 ys), (1, int .u8 0)], fun _ => [], fun ys => ∃ k, k ≤ xs.length ∧ ys = xs.take k ∧ ys.length = k ∧ trimN xs k = nameN xs, fun ys => ys.length,
    ⟨xs, [], ⟨xs.length, Nat.le_refl _, by simp, rfl, rfl⟩, leh0, ⟨leRo rfl, leI rfl, trivial⟩⟩, ?_⟩
  rintro ys ⟨k, hk, hys, hlen, htr⟩
  have fin : k = trimN xs k → ys = xs.take (nameN xs) := fun e => by rw [hys, ← htr, ← e]
  have hlast : ∀ j, j < k → ys.getD j 0 = xs.getD j 0 := fun j hj => by
    rw [hys, List.getD_eq_getElem?_getD, List.getElem?_take, if_pos hj, List.getD_eq_getElem?_getD]
  refine ⟨fun h1 => ?_, fun h1 => ?_⟩
  · have f1 := yes h1
    have e1 : IntKind.i64.wrap ((ys.length : Int) - 1) = ((k - 1 : Nat) : Int) := by rw [w64 (by omega) (by omega)]; omega
    refine ⟨⟨by rw [e1]; omega, by rw [e1]; omega⟩, ?_⟩
    refine ⟨fun h2 => ?_, fun h2 => ?_⟩
    · have f2 := yes h2
      rw [e1] at f2
      refine ⟨⟨by rw [e1]; omega, by rw [e1]; omega⟩, ?_⟩
      have e2 : (ys.take ((k - 1 : Nat) : Int).toNat).drop 0 = xs.take (k - 1) := by
        rw [hys, List.drop_zero, List.take_take, Int.toNat_natCast, Nat.min_eq_left (by omega)]
      refine ⟨trivial, xs.take (k - 1), [], ⟨k - 1, by omega, rfl, by simp; omega, ?_⟩, by simp; omega, leh0, ⟨leRo (by rw [e1]; exact e2), leI rfl, trivial⟩⟩
      rw [← htr]
      obtain ⟨j, rfl⟩ : ∃ j, k = j + 1 := ⟨k - 1, by omega⟩
      have f3 : xs.getD j 0 = 0 := by rw [← hlast j (by omega)]; simpa using f2
      rw [trimN, if_pos f3]
      rfl
    · have f2 := no h2
      rw [e1] at f2
      refine ⟨[], [], _, leh0, leRo (fin ?_), rfl, rfl⟩
      obtain ⟨j, rfl⟩ : ∃ j, k = j + 1 := ⟨k - 1, by omega⟩
      have f3 : ¬ xs.getD j 0 = 0 := by rw [← hlast j (by omega)]; simpa using f2
      rw [trimN, if_neg f3]
  · have f1 := no h1
    refine ⟨[], [], _, leh0, leRo (fin ?_), rfl, rfl⟩
    obtain rfl : k = 0 := by omega
    rfl

set_option maxHeartbeats 1000000 in
set_option maxRecDepth 10000 in
theorem trim_prog (xs : List Int) (hl : xs.length ≤ 281474976710656) : ACalls Tryd.prog 69 [.roI .u8 xs, str ⟨#[0]⟩] [] (fun r h => r = .roI .u8 (xs.take (nameN xs)) ∧ h = []) := by
  refine rcalls Tryd.func69 rfl (by decide) ?_
  have d1 : decide ((⟨#[0]⟩ : ByteArray) = ByteArray.empty) = false := by decide
  refine ⟨fun h1 => ?_, fun h1 => ?_⟩
  · have f1 := yes h1
    have f2 : xs = [] := List.length_eq_zero_iff.1 (by omega)
    exact ⟨[], [], _, leh0, leRo (by subst f2; rfl), rfl, rfl⟩
  · refine ⟨fun h2 => absurd (yes h2) (by decide), fun _ => ?_⟩
    refine ⟨fun _ => ?_, fun h3 => absurd (no h3) (by decide)⟩
    refine ⟨⟨by decide, by decide⟩, ?_⟩
    refine ⟨fun _ => ?_, fun h3 => absurd (no h3) (by decide)⟩
    refine ⟨⟨by decide, by decide⟩, ?_⟩
    refine ⟨[], _, trimByte_prog xs hl, ?_⟩
    rintro r h ⟨rfl, rfl⟩
    refine ⟨.inl rfl, ?_⟩
    exact ⟨[], [], _, leh0, leRo rfl, rfl, rfl⟩

set_option maxHeartbeats 1000000 in
set_option maxRecDepth 10000 in
theorem name_prog (xs : List Int) (hx : ∀ x ∈ xs, 0 ≤ x ∧ x < 256) (hl : xs.length ≤ 281474976710656) : ACalls Tryd.prog 47 [.roI .u8 xs] [] (NameR xs) := by
  refine rcalls Tryd.func47 rfl (by decide) ?_
  have ht := trim_prog xs hl
  have hr : nameE xs = 0 → nameR xs = bytesOf (xs.take (nameN xs)) := fun h => by rw [nameR, if_pos h]
  have hr2 : nameE xs ≠ 0 → nameR xs = ByteArray.empty := fun h => by rw [nameR, if_neg h]
  have he : nameE xs = if (0 : Int) ∈ xs.take (nameN xs) then 2 else 0 := rfl
  have hys : ∀ x ∈ xs.take (nameN xs), 0 ≤ x ∧ x < 256 := fun x hm => hx x (List.mem_of_mem_take hm)
  unfold NameR
  generalize nameR xs = R at *
  generalize nameE xs = E at *
  generalize xs.take (nameN xs) = ys at *
  refine ⟨[], _, ht, ?_⟩
  rintro r h ⟨rfl, rfl⟩
  refine ⟨.inl rfl, ?_⟩
  refine ⟨[], _, indexByte_prog ys hys, ?_⟩
  rintro r h ⟨rfl, rfl⟩
  refine ⟨.inl rfl, ?_⟩
  refine ⟨fun h1 => ?_, fun h1 => ?_⟩
  · have f1 : (0 : Int) ∈ ys := (index0_iff hys).1 (yes h1)
    rw [if_pos f1] at he
    exact ⟨[], [], _, leh0, le_pair (leS (hr2 (by omega)).symm) (leI he.symm), rfl, rfl⟩
  · have f1 : ¬ (0 : Int) ∈ ys := fun h2 => no h1 ((index0_iff hys).2 h2)
    rw [if_neg f1] at he
    exact ⟨[], [], _, leh0, le_pair (leS (hr he).symm) (leI he.symm), rfl, rfl⟩

set_option maxHeartbeats 1000000 in
set_option maxRecDepth 10000 in
theorem name_ref (xs : List Int) (hx : ∀ x ∈ xs, 0 ≤ x ∧ x < 256) (hl : xs.length ≤ 281474976710656) : ACalls Tryd.prog 51 [.roI .u8 xs] [] (NameR xs) := by
  refine rcalls Tryd.func51 rfl (by decide) ?_
  have hr : nameE xs = 0 → nameR xs = bytesOf (xs.take (nameN xs)) := fun h => by rw [nameR, if_pos h]
  have hr2 : nameE xs ≠ 0 → nameR xs = ByteArray.empty := fun h => by rw [nameR, if_neg h]
  refine ⟨Nat, fun k => [(0, .roI .u8 xs), (4, int .i64 k)], fun _ => [], fun k => k ≤ xs.length ∧ ∀ i, i < k → xs.getD i 0 ≠ 0, fun k => xs.length - k,
    ⟨0, [], ⟨Nat.zero_le _, fun i hi => absurd hi (Nat.not_lt_zero _)⟩, leh0, ⟨leRo rfl, leI rfl, trivial⟩⟩, ?_⟩
  rintro k ⟨hk, hnz⟩
  refine ⟨fun h1 => ⟨⟨by omega, by have := yes h1; omega⟩, fun h2 => ?_, fun h2 => ?_⟩, fun h1 => ?_⟩
  · have f1 := yes h1
    have f2 : ¬ xs.getD k 0 = 0 := by simpa using yes h2
    have e1 : IntKind.i64.wrap ((k : Int) + 1) = ((k + 1 : Nat) : Int) := by rw [w64 (by omega) (by omega)]; omega
    refine ⟨trivial, k + 1, [], ⟨by omega, fun i hi => ?_⟩, by show xs.length - (k + 1) < xs.length - k; omega, leh0, ⟨leRo rfl, leI e1, trivial⟩⟩
    rcases Nat.lt_or_ge i k with h3 | h3
    · exact hnz i h3
    · rw [show i = k by omega]; exact f2
  all_goals
    have hz : k < xs.length → xs.getD k 0 = 0 := by
      first
        | (intro _; have f2 := no h2; simpa using f2)
        | (intro hlt; have f1 := no h1; omega)
    refine ⟨Nat, fun i => [(0, .roI .u8 xs), (4, int .i64 k), (5, int .i64 i)], fun _ => [], fun i => k ≤ i ∧ i ≤ xs.length ∧ ∀ j, k ≤ j → j < i → xs.getD j 0 = 0, fun i => xs.length - i,
      ⟨k, [], ⟨Nat.le_refl _, hk, fun j h1 h2 => absurd h1 (by omega)⟩, leh0, ⟨leRo rfl, leI rfl, leI rfl, trivial⟩⟩, ?_⟩
    rintro i ⟨hki, hi, h0⟩
    refine ⟨fun h3 => ⟨⟨by omega, by have := yes h3; omega⟩, fun h4 => ?_, fun h4 => ?_⟩, fun h3 => ?_⟩
    · have f3 := yes h3
      have f4 : ¬ xs.getD i 0 = 0 := by simpa using yes h4
      have hne : i ≠ k := fun e => f4 (e ▸ hz (by omega))
      have hE : nameE xs = 2 := name_bad (hz (by omega)) (by omega) (by omega) f4
      exact ⟨[], [], _, leh0, le_pair (leS (hr2 (by omega)).symm) (leI hE.symm), rfl, rfl⟩
    · have f3 := yes h3
      have f4 : xs.getD i 0 = 0 := by simpa using no h4
      have e1 : IntKind.i64.wrap ((i : Int) + 1) = ((i + 1 : Nat) : Int) := by rw [w64 (by omega) (by omega)]; omega
      refine ⟨trivial, i + 1, [], ⟨by omega, by omega, fun j g1 g2 => ?_⟩, by show xs.length - (i + 1) < xs.length - i; omega, leh0, ⟨leRo rfl, leI rfl, leI e1, trivial⟩⟩
      rcases Nat.lt_or_ge j i with h5 | h5
      · exact h0 j g1 h5
      · rw [show j = i by omega]; exact f4
    · have f3 := no h3
      obtain rfl : i = xs.length := by omega
      obtain ⟨e1, e2⟩ := name_ok hk hnz h0
      refine ⟨⟨by omega, by omega⟩, [], [], _, leh0, le_pair (leS ?_) (leI e2.symm), rfl, rfl⟩
      rw [hr e2, e1, List.drop_zero, Int.toNat_natCast]

end

end Go.Proofs.YtkchfbnkdpdbkaaDoor.Oc

/-
  The contracts of the document's own Text and Check.
-/
set_option linter.unusedVariables false
set_option linter.unusedSectionVars false
namespace Go.Proofs.YtkchfbnkdpdbkaaDoor.Oc
open Go AL
section
variable [Globs]

theorem has0_iff (s : ByteArray) : has0 s ↔ ∃ i, i < s.size ∧ (intsOf s).getD i 0 = 0 := by
  have hlen : s.data.toList.length = s.size := rfl
  have hget : ∀ i : Nat, i < s.size → (s.data.toList[i]? = some 0 ↔ (intsOf s).getD i 0 = 0) := fun i hi => by
    unfold intsOf
    rw [List.getD_eq_getElem?_getD, List.getElem?_map, List.getElem?_eq_getElem (by omega)]
    simp only [Option.map_some, Option.getD_some, Option.some.injEq]
    constructor
    · intro e; rw [e]; rfl
    · intro e
      have : (s.data.toList[i]'(by omega)).toNat = 0 := by omega
      exact UInt8.toNat_inj.1 (by simpa using this)
  unfold has0
  constructor
  · intro h
    obtain ⟨o, ho⟩ : ∃ o : Nat, Lib.indexByte s.data.toList 0 = o := ⟨_, (Int.toNat_of_nonneg h).symm⟩
    have h1 := (Lib.indexByte_some ho).1
    have h2 : o < s.size := by have := (List.getElem?_eq_some_iff.1 h1).1; omega
    exact ⟨o, h2, (hget o h2).1 h1⟩
  · rintro ⟨i, hi, e⟩
    have hge := Lib.indexByte_ge s.data.toList 0
    by_cases h1 : Lib.indexByte s.data.toList 0 = -1
    · exact absurd ((hget i hi).2 e) (Lib.indexByte_none h1 i)
    · omega

set_option maxHeartbeats 1000000 in
set_option maxRecDepth 10000 in
theorem text_ref (s : ByteArray) (w : Int) (hs : s.size ≤ 9223372036854775806) : ACalls Tryd.prog 67 [str s, int .i64 w] [] (TextR s w) := by
  refine rcalls Tryd.func67 rfl (by decide) ?_
  have bad : ∀ h e, e ≠ 0 → textE s w = e → ∃ l h1 b, LeH 0 h l h1 ∧ LeV h l (.tup 2 fun i => [.raw (.slice none 0 0), int .i64 e].getD i .top) b ∧ TextR s w b h1 := fun h e he hv =>
    ⟨[], [], _, lehN _, le_pair (.nilI .u8) (leI hv.symm), by unfold TextR textR; rw [hv, if_neg he]; exact ⟨rfl, rfl⟩⟩
  refine ⟨fun h => bad _ _ (by decide) ?_, fun h => ⟨fun h1 => bad _ _ (by decide) ?_, fun h1 => ?_⟩⟩
  · have := yes h; simp [textE, this]
  · have := yes h1; simp [textE]; omega
  have hok : ¬ (w < 1 ∨ w > 255) := by have := no h; have := no h1; omega
  have hil := intsOf_length s
  refine ⟨Nat, fun k => [(0, str s), (1, int .i64 w), (6, int .i64 k)], fun _ => [], fun k => k ≤ s.size ∧ ∀ i, i < k → (intsOf s).getD i 0 ≠ 0, fun k => s.size - k,
    ⟨0, [], ⟨Nat.zero_le _, fun i hi => absurd hi (Nat.not_lt_zero _)⟩, leh0, ⟨leS rfl, leI rfl, leI rfl, trivial⟩⟩, ?_⟩
  rintro k ⟨hk, hnz⟩
  refine ⟨fun h2 => ⟨⟨by omega, by have := yes h2; omega⟩, fun h3 => bad _ _ (by decide) ?_, fun h3 => ?_⟩, fun h2 => ?_⟩
  · have f2 := yes h2
    have f3 : (intsOf s).getD k 0 = 0 := by simpa using yes h3
    have h4 : has0 s := (has0_iff s).2 ⟨k, by omega, f3⟩
    simp only [textE, hok, if_false, h4, if_true]
  · have f2 := yes h2
    have f3 : ¬ (intsOf s).getD k 0 = 0 := by simpa using no h3
    have e1 : IntKind.i64.wrap ((k : Int) + 1) = ((k + 1 : Nat) : Int) := by rw [w64 (by omega) (by omega)]; omega
    refine ⟨trivial, k + 1, [], ⟨by omega, fun i hi => ?_⟩, by show s.size - (k + 1) < s.size - k; omega, leh0, ⟨leS rfl, leI rfl, leI e1, trivial⟩⟩
    rcases Nat.lt_or_ge i k with h5 | h5
    · exact hnz i h5
    · rw [show i = k by omega]; exact f3
  have f2 := no h2
  obtain rfl : k = s.size := by omega
  have h4 : ¬ has0 s := fun h4 => by
    obtain ⟨i, hi, e⟩ := (has0_iff s).1 h4
    exact hnz i hi e
  refine ⟨fun h3 => bad _ _ (by decide) ?_, fun h3 => ?_⟩
  · have := yes h3
    simp only [textE, hok, if_false, h4]
    rw [if_pos (by omega)]
  have h5 := no h3
  have hE : textE s w = 0 := by
    simp only [textE, hok, if_false, h4]
    rw [if_neg (by omega)]
  have hR : textR s w = intsOf s ++ List.replicate (w.toNat - s.size) 0 := by rw [textR, if_pos hE]
  unfold TextR
  generalize textE s w = E at *
  generalize textR s w = R at *
  refine ⟨Nat, fun j => [(1, int .i64 w), (7, .own 0 0 (s.size + j) 1)], fun j => [.ints .u8 (intsOf s ++ List.replicate j 0)], fun j => s.size + j ≤ w.toNat, fun j => w.toNat - j,
    ⟨0, [0], by omega, leh1 rfl (leOint (by simp)), ⟨leI rfl, leOwn rfl rfl rfl, trivial⟩⟩, fun j hj => ?_⟩
  have hj : s.size + j ≤ w.toNat := hj
  have hl : (intsOf s ++ List.replicate j (0 : Int)).length = s.size + j := by simp; omega
  refine ⟨fun h6 => ?_, fun h6 => ?_⟩
  · have f6 : ((s.size + j : Nat) : Int) < w := yes h6
    refine ⟨hl.symm, by decide, by rw [hl]; show (s.size + j + 1) * 1 ≤ _; omega, ?_⟩
    refine ⟨trivial, j + 1, [2], by show s.size + (j + 1) ≤ w.toNat; omega, by show w.toNat - (j + 1) < w.toNat - j; omega, leh1 rfl (leOint ?_), ⟨leI rfl, leOwn rfl rfl ?_, trivial⟩⟩
    · rw [List.replicate_succ', ← List.append_assoc]; rfl
    · show (intsOf s ++ List.replicate j (0 : Int)).length + 1 = _; rw [hl]; omega
  · have f6 : ¬ ((s.size + j : Nat) : Int) < w := no h6
    refine ⟨[], [], _, lehN _, le_pair (.giveI R rfl (by simp) (by rw [hl]; omega) ?_) (leI hE.symm), rfl, rfl⟩
    rw [hR, List.drop_zero, List.take_of_length_le (by omega), show j = w.toNat - s.size by omega]

set_option maxHeartbeats 1000000 in
set_option maxRecDepth 10000 in
theorem check_ref (xs : List Int) (hx : ∀ x ∈ xs, 0 ≤ x ∧ x < 256) (hl : xs.length ≤ 281474976710656) : ACalls Tryd.prog 25 [.roI .u8 xs] [] (fun r h => r = int .i64 (chk xs xs.length) ∧ h = []) := by
  refine rcalls Tryd.func25 rfl (by decide) ?_
  refine ⟨Nat, fun k => [(0, .roI .u8 xs), (4, int .i64 k), (3, int .i64 (chk xs k))], fun _ => [], fun k => k ≤ xs.length, fun k => xs.length - k,
    ⟨0, [], Nat.zero_le _, leh0, ⟨leRo rfl, leI rfl, leI rfl, trivial⟩⟩, fun k hk => ?_⟩
  have hk : k ≤ xs.length := hk
  have hr := chk_range hx k
  refine ⟨fun h => ?_, fun h => ?_⟩
  · have hlt : k < xs.length := by have := yes h; omega
    have hb := byteAt hx k
    have e1 : IntKind.i64.wrap ((k : Int) + 1) = ((k + 1 : Nat) : Int) := by rw [w64 (by omega) (by omega)]; omega
    have plain : ¬ (148 ≤ k ∧ k < 156) → IntKind.i64.wrap (chk xs k + IntKind.i64.wrap (xs.getD k 0)) = chk xs (k + 1) := fun hn => by
      have : chk xs (k + 1) = chk xs k + xs.getD k 0 := by simp only [chk, chkAt]; rw [if_neg hn]
      rw [this, w64 (n := xs.getD k 0) (by omega) (by omega), w64 (by omega) (by omega)]
    refine ⟨fun h1 => ⟨fun h2 => ?_, fun h2 => ?_⟩, fun h1 => ?_⟩
    · have f1 := yes h1
      have f2 := yes h2
      refine ⟨trivial, k + 1, [], hlt, by show xs.length - (k + 1) < xs.length - k; omega, leh0, ⟨leRo rfl, leI e1, leI ?_, trivial⟩⟩
      have : chk xs (k + 1) = chk xs k + 32 := by simp only [chk, chkAt]; rw [if_pos (by omega)]
      rw [this, w64 (by omega) (by omega)]
    · have f2 := no h2
      refine ⟨⟨by omega, by omega⟩, ?_⟩
      exact ⟨trivial, k + 1, [], hlt, by show xs.length - (k + 1) < xs.length - k; omega, leh0, ⟨leRo rfl, leI e1, leI (plain (by omega)), trivial⟩⟩
    · have f1 := no h1
      refine ⟨⟨by omega, by omega⟩, ?_⟩
      exact ⟨trivial, k + 1, [], hlt, by show xs.length - (k + 1) < xs.length - k; omega, leh0, ⟨leRo rfl, leI e1, leI (plain (by omega)), trivial⟩⟩
  · have : k = xs.length := by have := no h; omega
    subst this
    exact ⟨[], [], _, leh0, leI rfl, rfl, rfl⟩

end

end Go.Proofs.YtkchfbnkdpdbkaaDoor.Oc

/-
  The contracts of octal.Get and of its reference.
-/
set_option linter.unusedVariables false
set_option linter.unusedSectionVars false
namespace Go.Proofs.YtkchfbnkdpdbkaaDoor.Oc
open Go AL
section
variable [Globs]

def GetR (xs : List Int) (r : AV) (h : List AO) : Prop := r = .tup 2 (pair (int .i64 (getV xs)) (int .i64 (getE xs))) ∧ h = []

theorem sub8 {c : Int} (h0 : 48 ≤ c) (h1 : c < 56) : IntKind.u8.wrap (c - 48) = c - 48 := w8 (by omega) (by omega)

set_option maxHeartbeats 1000000 in
set_option maxRecDepth 10000 in
theorem get_prog (xs : List Int) (hx : ∀ x ∈ xs, 0 ≤ x ∧ x < 256) (hl : xs.length ≤ 9223372036854775807) : ACalls Tryd.prog 48 [.roI .u8 xs] [] (GetR xs) := by
  refine rcalls Tryd.func48 rfl (by decide) ?_
  have bad : ∀ h, ¬ valid xs → ∃ l h1 b, LeH 0 h l h1 ∧ LeV h l (.tup 2 fun i => [int .i64 0, int .i64 2].getD i .top) b ∧ GetR xs b h1 := fun h hv =>
    ⟨[], [], _, lehN _, le_pair (leI (get_no hv).1.symm) (leI (get_no hv).2.symm), rfl, rfl⟩
  refine ⟨fun h => bad _ fun hv => ?_, fun h => ⟨fun h1 => bad _ fun hv => ?_, fun h1 => ?_⟩⟩
  · have := yes h; have := hv.1; omega
  · have := yes h1; have := hv.2.1; omega
  have hl2 := no h
  have hl12 := no h1
  have e1 : IntKind.i64.wrap ((xs.length : Int) - 1) = (xs.length : Int) - 1 := w64 (by omega) (by omega)
  have e2 : ((xs.length : Int) - 1).toNat = xs.length - 1 := by omega
  refine ⟨⟨by rw [e1]; omega, by rw [e1]; omega⟩, ?_⟩
  refine ⟨fun h2 => bad _ fun hv => ?_, fun h2 => ?_⟩
  · have := yes h2; rw [e1, e2] at this; exact this hv.2.2.1
  have hlast : xs.getD (xs.length - 1) 0 = 0 := by
    have := no h2; rw [e1, e2] at this; simpa using this
  refine ⟨⟨by rw [e1]; omega, by rw [e1]; omega⟩, ?_⟩
  have hlen : ((xs.take (xs.length - 1)).drop 0).length = xs.length - 1 := by simp
  refine ⟨Nat, fun k => [(4, int .i64 (acc xs k)), (28, .roI .u8 (xs.take (xs.length - 1))), (29, int .i64 ((xs.length - 1 : Nat) : Int)), (30, int .i64 k)], fun _ => [], fun k => k ≤ xs.length - 1 ∧ ∀ i, i < k → figure (xs.getD i 0), fun k => xs.length - 1 - k,
    ⟨0, [], ⟨by omega, fun i hi => by omega⟩, leh0, ⟨leI rfl, leRo (by rw [e1, e2]; rfl), leI ?_, leI rfl, trivial⟩⟩, fun k hk => ?_⟩
  · rw [e1, e2, hlen]
  obtain ⟨hk, hfig⟩ := hk
  refine ⟨fun h3 => ?_, fun h3 => ?_⟩
  · have hlt : k < xs.length - 1 := by have := yes h3; omega
    have hg : (xs.take (xs.length - 1)).getD k 0 = xs.getD k 0 := by simp [List.getD_eq_getElem?_getD, List.getElem?_take_of_lt hlt]
    refine ⟨⟨by omega, by simp; omega⟩, ?_⟩
    have hc : (xs.take (xs.length - 1)).getD (k : Int).toNat 0 = xs.getD k 0 := hg
    refine ⟨fun h4 => bad _ fun hv => ?_, fun h4 => ⟨fun h5 => bad _ fun hv => ?_, fun h5 => ?_⟩⟩
    · have := yes h4; rw [hc] at this; have := (hv.2.2.2 k hlt).1; omega
    · have := yes h5; rw [hc] at this; have := (hv.2.2.2 k hlt).2; omega
    have f1 := no h4
    have f2 := no h5
    rw [hc] at f1 f2
    have hr := acc_range hfig
    have hp := pow8_mono (show k ≤ 11 by omega)
    refine ⟨trivial, k + 1, [], ⟨by omega, fun i hi => ?_⟩, by show xs.length - 1 - (k + 1) < xs.length - 1 - k; omega, leh0, ⟨leI ?_, leRo rfl, leI rfl, leI ?_, trivial⟩⟩
    · by_cases e : i < k
      · exact hfig i e
      · obtain rfl : i = k := by omega
        exact ⟨by omega, by omega⟩
    · rw [hc, sub8 (by omega) (by omega), w64 (n := 8 * acc xs k) (by omega) (by omega), w64 (n := xs.getD k 0 - 48) (by omega) (by omega), w64 (by omega) (by omega)]
      rfl
    · rw [w64 (by omega) (by omega)]; omega
  · have hk' : k = xs.length - 1 := by have := no h3; omega
    subst hk'
    have hv : valid xs := ⟨by omega, by omega, hlast, hfig⟩
    exact ⟨[], [], _, lehN _, le_pair (leI (get_ok hv).1.symm) (leI (get_ok hv).2.symm), rfl, rfl⟩

end

end Go.Proofs.YtkchfbnkdpdbkaaDoor.Oc

/-
  The laws of octal fields: what they come to.
-/
set_option linter.unusedVariables false
set_option linter.unusedSectionVars false
namespace Go.Proofs.YtkchfbnkdpdbkaaDoor.Oc
open Go AL
section
variable [Globs]

theorem val8 : getV [48, 49, 48, 0] = 8 ∧ getE [48, 49, 48, 0] = 0 := by
  have hv : valid [48, 49, 48, 0] := by
    refine ⟨by decide, by decide, by decide, fun i hi => ?_⟩
    match i, hi with
    | 0, _ => exact ⟨by decide, by decide⟩
    | 1, _ => exact ⟨by decide, by decide⟩
    | 2, _ => exact ⟨by decide, by decide⟩
  exact ⟨(get_ok hv).1.trans (by decide), (get_ok hv).2⟩
theorem put8 : putR 8 4 = [48, 49, 48, 0] ∧ putE 8 4 = 0 := by decide
theorem ab : textR ⟨#[97, 98]⟩ 3 = [97, 98, 0] ∧ textE ⟨#[97, 98]⟩ 3 = 0 := by decide

end

end Go.Proofs.YtkchfbnkdpdbkaaDoor.Oc

/-
  The law OctalBack, walked.
-/
set_option linter.unusedVariables false
set_option linter.unusedSectionVars false
namespace Go.Proofs.YtkchfbnkdpdbkaaDoor.Oc
open Go AL
section
variable [Globs]

theorem getD_append_l {xs ys : List Int} {i : Nat} (h : i < xs.length) : (xs ++ ys).getD i 0 = xs.getD i 0 := by
  rw [List.getD_eq_getElem?_getD, List.getElem?_append_left h, List.getD_eq_getElem?_getD]
theorem getD_append_r {xs ys : List Int} {i : Nat} (h : xs.length ≤ i) : (xs ++ ys).getD i 0 = ys.getD (i - xs.length) 0 := by
  rw [List.getD_eq_getElem?_getD, List.getElem?_append_right h, List.getD_eq_getElem?_getD]
theorem getD_zeros (m i : Nat) : (List.replicate m (0 : Int)).getD i 0 = 0 := by
  rw [List.getD_eq_getElem?_getD]
  cases h : (List.replicate m (0 : Int))[i]? with
  | none => rfl
  | some v =>
    have := List.mem_of_getElem? h
    simpa using (List.mem_replicate.1 this).2
theorem textE_ok {s : ByteArray} {w : Int} (h : textE s w = 0) : ¬ (w < 1 ∨ w > 255) ∧ ¬ has0 s ∧ ¬ (s.size : Int) > w := by
  unfold textE at h
  split at h
  · omega
  · split at h
    · omega
    · split at h
      · omega
      · exact ⟨by assumption, by assumption, by assumption⟩
theorem textR_ok {s : ByteArray} {w : Int} (h : textE s w = 0) : textR s w = intsOf s ++ List.replicate (w.toNat - s.size) 0 := by rw [textR, if_pos h]
theorem textR_range (s : ByteArray) (w : Int) : ∀ x ∈ textR s w, 0 ≤ x ∧ x < 256 := by
  intro x hx
  unfold textR at hx
  split at hx
  · rcases List.mem_append.1 hx with h | h
    · exact intsOf_range s x h
    · have := (List.mem_replicate.1 h).2; omega
  · simp at hx
/-- What was put as a text is got. -/
theorem text_name {s : ByteArray} {w : Int} (h : textE s w = 0) : nameE (textR s w) = 0 ∧ nameR (textR s w) = s ∧ ((textR s w).length : Int) = w := by
  obtain ⟨h1, h2, h3⟩ := textE_ok h
  have e := textR_ok h
  have hl := intsOf_length s
  have hlen : (textR s w).length = w.toNat := by rw [e]; simp; omega
  have hn : ∀ i, i < s.size → (textR s w).getD i 0 ≠ 0 := fun i hi h0 => h2 ((has0_iff s).2 ⟨i, hi, by rw [e, getD_append_l (by omega)] at h0; exact h0⟩)
  have hz : ∀ j, s.size ≤ j → j < (textR s w).length → (textR s w).getD j 0 = 0 := fun j hj _ => by rw [e, getD_append_r (by omega), getD_zeros]
  obtain ⟨g1, g2⟩ := name_ok (by omega) hn hz
  refine ⟨g2, ?_, by omega⟩
  rw [nameR, if_pos g2, g1, e, List.take_left' hl, bytesOf_intsOf]
theorem trimN_rest {xs : List Int} : ∀ k j, trimN xs k ≤ j → j < k → xs.getD j 0 = 0
  | 0, j, _, h => absurd h (Nat.not_lt_zero _)
  | k + 1, j, h1, h2 => by
    unfold trimN at h1
    split at h1
    · rename_i h0
      rcases Nat.lt_or_ge j k with h3 | h3
      · exact trimN_rest k j h1 h3
      · rw [show j = k by omega]; exact h0
    · omega
/-- What was got as a text is put as it stood. -/
theorem name_text {xs : List Int} (hx : ∀ x ∈ xs, 0 ≤ x ∧ x < 256) (h : nameE xs = 0) (h1 : 1 ≤ xs.length) (h2 : xs.length ≤ 255) : textE (nameR xs) xs.length = 0 ∧ textR (nameR xs) xs.length = xs := by
  have hN : nameN xs ≤ xs.length := trimN_le _ _
  have hr : nameR xs = bytesOf (xs.take (nameN xs)) := by rw [nameR, if_pos h]
  have hi : intsOf (nameR xs) = xs.take (nameN xs) := by rw [hr, intsOf_bytesOf (fun x hm => hx x (List.mem_of_mem_take hm))]
  have hsz : (nameR xs).size = nameN xs := by rw [← intsOf_length, hi]; simp; omega
  have hno : ¬ (0 : Int) ∈ xs.take (nameN xs) := fun hm => by rw [nameE, if_pos hm] at h; omega
  have h0 : ¬ has0 (nameR xs) := fun h0 => by
    obtain ⟨i, g1, g2⟩ := (has0_iff _).1 h0
    rw [hi] at g2
    refine hno ((mem_take_iff hN).2 ⟨i, by omega, ?_⟩)
    rw [List.getD_eq_getElem?_getD, List.getElem?_take, if_pos (by omega), ← List.getD_eq_getElem?_getD] at g2
    exact g2
  have hE : textE (nameR xs) xs.length = 0 := by
    unfold textE
    rw [if_neg (by omega), if_neg h0, if_neg (by omega)]
  refine ⟨hE, ?_⟩
  rw [textR_ok hE, hi, hsz, Int.toNat_natCast]
  apply List.ext_getElem?
  intro i
  rcases Nat.lt_or_ge i (nameN xs) with g | g
  · rw [List.getElem?_append_left (by simp; omega), List.getElem?_take, if_pos g]
  · rw [List.getElem?_append_right (by simp; omega)]
    rcases Nat.lt_or_ge i xs.length with g2 | g2
    · have g3 := trimN_rest xs.length i g g2
      rw [List.getD_eq_getElem?_getD, List.getElem?_eq_getElem g2] at g3
      rw [List.getElem?_eq_getElem g2, List.getElem?_replicate, if_pos (by simp; omega)]
      simpa using g3.symm
    · rw [List.getElem?_eq_none g2, List.getElem?_eq_none (by simp; omega)]

end

end Go.Proofs.YtkchfbnkdpdbkaaDoor.Oc

/-
  Headers of archives: what they are, and what is read out of one. No program in sight.
-/
set_option linter.unusedVariables false
namespace Go.Proofs.YtkchfbnkdpdbkaaDoor.Hd
open Go AL Spl Oc Pa

theorem q_field {n w : Int} (h : putE n w = 0) : ((putR n w).length : Int) = w ∧ valid (putR n w) ∧ acc (putR n w) ((putR n w).length - 1) = n := by
  letI : Globs := ⟨[]⟩
  exact put_field h
theorem q_ok {n w : Int} (h : ¬ (w < 2 ∨ w > 12)) (hf : fits n w) : putE n w = 0 ∧ putR n w = digs n (w - 1).toNat ++ [0] := by
  letI : Globs := ⟨[]⟩
  exact putE_ok h hf
theorem q_name {s : ByteArray} {w : Int} (h : textE s w = 0) : nameE (textR s w) = 0 ∧ nameR (textR s w) = s ∧ ((textR s w).length : Int) = w := by
  letI : Globs := ⟨[]⟩
  exact text_name h
theorem q_text (s : ByteArray) (w : Int) : ∀ x ∈ textR s w, 0 ≤ x ∧ x < 256 := by
  letI : Globs := ⟨[]⟩
  exact textR_range s w
theorem q_range (n w : Int) : ∀ x ∈ putR n w, 0 ≤ x ∧ x < 256 := by
  letI : Globs := ⟨[]⟩
  exact putR_range n w
theorem q_l {xs ys : List Int} {i : Nat} (h : i < xs.length) : (xs ++ ys).getD i 0 = xs.getD i 0 := by
  letI : Globs := ⟨[]⟩
  exact getD_append_l h
theorem q_r {xs ys : List Int} {i : Nat} (h : xs.length ≤ i) : (xs ++ ys).getD i 0 = ys.getD (i - xs.length) 0 := by
  letI : Globs := ⟨[]⟩
  exact getD_append_r h

/-! Paths and their two fields. -/
def joinT (p n : ByteArray) : ByteArray := if p = ByteArray.empty then n else p ++ ⟨#[47]⟩ ++ n
def okJoin (p n : ByteArray) : Prop := okSplit (joinT p n) ∧ preS (joinT p n) = p ∧ nameS (joinT p n) = n
instance (p n : ByteArray) : Decidable (okJoin p n) := by unfold okJoin; infer_instance
def joinS (p n : ByteArray) : ByteArray := if okJoin p n then joinT p n else ByteArray.empty
def joinE (p n : ByteArray) : Int := if okJoin p n then 0 else 9

theorem pre_short {s : ByteArray} (h : s.size ≤ 100) : preS s = ByteArray.empty := if_neg fun x => x.2 h
theorem name_short {s : ByteArray} (g : okSplit s) (h : s.size ≤ 100) : nameS s = s := by unfold nameS; rw [if_pos g, if_pos h]
theorem pre_long {s : ByteArray} (g : okSplit s) (h : ¬ s.size ≤ 100) : preS s = s.extract 0 (cutS s) := if_pos ⟨g, h⟩
theorem name_long {s : ByteArray} (g : okSplit s) (h : ¬ s.size ≤ 100) : nameS s = s.extract (cutS s + 1) s.size := by unfold nameS; rw [if_pos g, if_neg h]
theorem cut_spec {s : ByteArray} (g : okSplit s) (h : ¬ s.size ≤ 100) : cutS s < s.size ∧ cutS s ≤ 155 ∧ s.size - 101 ≤ cutS s ∧ s.data.toList[cutS s]? = some 47 ∧ 0 < cutS s := by
  obtain ⟨g1, g2, g3⟩ := g
  obtain ⟨g4, g5⟩ := g3.resolve_left h
  have hl : s.data.toList.length = s.size := rfl
  have hc : s.data.toList[cutS s]? = some 47 := by
    have hlt : firstC 47 (s.data.toList.drop (s.size - 101)) < (s.data.toList.drop (s.size - 101)).length := by
      have : cutS s = (s.size - 101) + firstC 47 (s.data.toList.drop (s.size - 101)) := rfl
      rw [List.length_drop, hl]; omega
    have := firstC_at hlt
    rw [List.getElem?_drop] at this
    exact this
  refine ⟨g4, g5, Nat.le_add_right _ _, hc, ?_⟩
  rcases Nat.eq_zero_or_pos (cutS s) with h0 | h0
  · rw [h0] at hc
    have : ∃ r, s.data.toList = 47 :: r := by
      cases hd : s.data.toList with
      | nil => rw [hd] at hc; cases hc
      | cons x r => rw [hd] at hc; cases hc; exact ⟨r, rfl⟩
    obtain ⟨r, hr⟩ := this
    have := g1 [] (by rw [hr]; unfold pieces; rw [if_pos rfl]; exact List.mem_cons_self ..)
    exact absurd this.1 (by decide)
  · exact h0
theorem ba_empty {s : ByteArray} (h : s = ByteArray.empty) : s.size = 0 := by rw [h]; rfl
theorem join_split {s : ByteArray} (g : okSplit s) : joinT (preS s) (nameS s) = s := by
  unfold joinT
  by_cases h : s.size ≤ 100
  · rw [if_pos (pre_short h), name_short g h]
  · obtain ⟨c1, c2, c3, c4, c5⟩ := cut_spec g h
    have hl : s.data.toList.length = s.size := rfl
    rw [pre_long g h, name_long g h, if_neg fun e => by
      have := ba_empty e
      rw [ByteArray.size_extract] at this
      omega]
    refine bA_ext ?_
    have e1 : (s.extract 0 (cutS s) ++ ⟨#[47]⟩ ++ s.extract (cutS s + 1) s.size).data.toList = (s.extract 0 (cutS s)).data.toList ++ [47] ++ (s.extract (cutS s + 1) s.size).data.toList := by simp
    rw [e1, ext_list, ext_list, List.drop_zero, List.take_of_length_le (Nat.le_of_eq hl)]
    have hlt : cutS s < s.data.toList.length := by omega
    have e2 : s.data.toList = s.data.toList.take (cutS s) ++ s.data.toList[cutS s] :: s.data.toList.drop (cutS s + 1) := by
      rw [← List.drop_eq_getElem_cons hlt, List.take_append_drop]
    have e3 : s.data.toList[cutS s] = 47 := by
      rw [List.getElem?_eq_getElem hlt] at c4; exact Option.some.inj c4
    rw [e3] at e2
    rw [List.append_assoc]
    exact e2.symm
theorem okJoin_split {s : ByteArray} (g : okSplit s) : okJoin (preS s) (nameS s) ∧ joinS (preS s) (nameS s) = s ∧ joinE (preS s) (nameS s) = 0 := by
  have h : okJoin (preS s) (nameS s) := by unfold okJoin; rw [join_split g]; exact ⟨g, rfl, rfl⟩
  exact ⟨h, by unfold joinS; rw [if_pos h, join_split g], if_pos h⟩
theorem pre_size {s : ByteArray} (g : okSplit s) : (preS s).size ≤ 155 ∧ (nameS s).size ≤ 100 := by
  by_cases h : s.size ≤ 100
  · rw [pre_short h, name_short g h]
    exact ⟨Nat.zero_le _, h⟩
  · obtain ⟨c1, c2, c3, c4, c5⟩ := cut_spec g h
    rw [pre_long g h, name_long g h, ByteArray.size_extract, ByteArray.size_extract]
    omega
theorem parts_no0 {s : ByteArray} (h : okParts s) : ∀ c ∈ s.data.toList, c ≠ 0 := by
  intro c hc
  letI : Globs := ⟨[]⟩
  rw [← join_pieces 47 s.data.toList] at hc
  have mem : ∀ {ps : List (List UInt8)}, c ∈ joinC 47 ps → c = 47 ∨ ∃ p ∈ ps, c ∈ p := fun {ps} => by
    cases ps with
    | nil => intro h; simp [joinC] at h
    | cons p r =>
      intro h
      unfold joinC at h
      rcases List.mem_append.1 h with h | h
      · exact .inr ⟨p, by simp, h⟩
      · obtain ⟨q, hq, h⟩ := List.mem_flatMap.1 h
        rcases List.mem_cons.1 h with h | h
        · exact .inl h
        · exact .inr ⟨q, by simp [hq], h⟩
  rcases mem hc with rfl | ⟨p, hp, hx⟩
  · decide
  · obtain ⟨k, hk, rfl⟩ := List.mem_iff_getElem.1 hx
    have h5 := (h p hp).2.2.2.2 k (by rw [bA_size]; exact hk)
    obtain ⟨b, e1, e2⟩ := Pa.byte_get (s := bA p) (i := k) (by rw [bA_size]; exact hk)
    rw [bA_list, List.getElem?_eq_getElem hk] at e1
    rw [e2, ← Option.some.inj e1] at h5
    unfold letN at h5
    have h5 := of_decide_eq_true h5
    intro e
    rw [e] at h5
    have e3 : (((0 : UInt8).toNat : Nat) : Int) = 0 := rfl
    omega
theorem no0_has {s : ByteArray} (h : ∀ c ∈ s.data.toList, c ≠ 0) : ¬ has0 s := fun h0 => by
  letI : Globs := ⟨[]⟩
  obtain ⟨i, hi, e⟩ := (has0_iff s).1 h0
  obtain ⟨b, e1, e2⟩ := Pa.byte_get hi
  rw [e2] at e
  have hb : b = 0 := by
    have : b.toNat = 0 := by omega
    exact UInt8.toNat_inj.1 this
  exact h b (List.mem_of_getElem? e1) hb
theorem fields_no0 {s : ByteArray} (g : okSplit s) : ¬ has0 (preS s) ∧ ¬ has0 (nameS s) := by
  have h0 := parts_no0 g.1
  have ext : ∀ a b, ¬ has0 (s.extract a b) := fun a b => no0_has fun c hc => by
    rw [ext_list] at hc
    exact h0 c (List.mem_of_mem_take (List.mem_of_mem_drop hc))
  by_cases h : s.size ≤ 100
  · rw [pre_short h, name_short g h]
    exact ⟨no0_has (fun c hc => by cases hc), no0_has h0⟩
  · rw [pre_long g h, name_long g h]
    exact ⟨ext _ _, ext _ _⟩
theorem text_fits {s : ByteArray} {w : Int} (hw : 1 ≤ w ∧ w ≤ 255) (h0 : ¬ has0 s) (hs : (s.size : Int) ≤ w) : textE s w = 0 := by
  unfold textE
  rw [if_neg (by omega), if_neg h0, if_neg (by omega)]

/-! The bytes of a header. -/
def flagS : ByteArray := ⟨#[48]⟩
def ustarS : ByteArray := ⟨#[117, 115, 116, 97, 114]⟩
def zzS : ByteArray := ⟨#[48, 48]⟩
def emp : ByteArray := ByteArray.empty
def headA (s : ByteArray) (n : Int) : List Int := textR (nameS s) 100 ++ putR 420 8 ++ putR 0 8 ++ putR 0 8 ++ putR n 12 ++ putR 0 12
def headY : List Int := textR flagS 1 ++ textR emp 100 ++ textR ustarS 6 ++ textR zzS 2 ++ textR emp 32 ++ textR emp 32 ++ putR 0 8 ++ putR 0 8
def headZ (s : ByteArray) : List Int := headY ++ textR (preS s) 155 ++ textR emp 12
def headB (s : ByteArray) (n : Int) (m : List Int) : List Int := headA s n ++ m ++ headZ s
def headS (s : ByteArray) (n : Int) : Int := chk (headB s n (List.replicate 8 0)) 512
def okHd (s : ByteArray) (n : Int) : Prop := okSplit s ∧ 0 ≤ n ∧ n ≤ 4194304
instance (s : ByteArray) (n : Int) : Decidable (okHd s n) := by unfold okHd; infer_instance
def sumF (s : ByteArray) (n : Int) : List Int := putR (headS s n) 7 ++ [32]
def headR (s : ByteArray) (n : Int) : List Int := if okHd s n then headB s n (sumF s n) else []
def headE (s : ByteArray) (n : Int) : Int := if ¬ okSplit s then 9 else if n < 0 ∨ n > 4194304 then 8 else 0

theorem headE_iff {s : ByteArray} {n : Int} : headE s n = 0 ↔ okHd s n := by
  unfold headE okHd
  by_cases h : okSplit s
  · rw [if_neg (fun x => x h)]
    by_cases g : n < 0 ∨ n > 4194304
    · rw [if_pos g]; exact ⟨fun x => by omega, fun x => by omega⟩
    · rw [if_neg g]; exact ⟨fun _ => ⟨h, by omega⟩, fun _ => rfl⟩
  · rw [if_pos h]; exact ⟨fun x => by omega, fun x => absurd x.1 h⟩
theorem num_len {n : Int} {w : Nat} (hw : 2 ≤ w ∧ w ≤ 12) (hf : 0 ≤ n ∧ n < 8 ^ (w - 1)) : putE n w = 0 ∧ (putR n w).length = w := by
  have hf : fits n (w : Int) := by
    unfold fits
    rw [show ((w : Int) - 1).toNat = w - 1 by omega]
    exact hf
  obtain ⟨h1, h2⟩ := q_ok (n := n) (w := w) (by omega) hf
  refine ⟨h1, ?_⟩
  have := (q_field h1).1
  omega
theorem txt_len {s : ByteArray} {w : Nat} (h : textE s w = 0) : (textR s w).length = w := by
  have := (q_name h).2.2
  omega
theorem y_len : headY.length = 189 := by decide +kernel
theorem a_len {s : ByteArray} {n : Int} (h : okHd s n) : (headA s n).length = 148 := by
  obtain ⟨h1, h2, h3⟩ := h
  have e1 := txt_len (w := 100) (text_fits (by omega) (fields_no0 h1).2 (by have := (pre_size h1).2; omega))
  have e2 := (num_len (n := n) (w := 12) (by omega) ⟨h2, by omega⟩).2
  have e3 : (putR 420 8).length = 8 ∧ (putR 0 8).length = 8 ∧ (putR 0 12).length = 12 := by decide +kernel
  unfold headA
  simp only [List.length_append]
  have e1 : (textR (nameS s) 100).length = 100 := e1
  have e2 : (putR n 12).length = 12 := e2
  omega
theorem p_len {s : ByteArray} (h : okSplit s) : textE (preS s) 155 = 0 ∧ (textR (preS s) 155).length = 155 := by
  have e := text_fits (s := preS s) (w := 155) (by omega) (fields_no0 h).1 (by have := (pre_size h).1; omega)
  exact ⟨e, txt_len (w := 155) e⟩
theorem n_len {s : ByteArray} (h : okSplit s) : textE (nameS s) 100 = 0 ∧ (textR (nameS s) 100).length = 100 := by
  have e := text_fits (s := nameS s) (w := 100) (by omega) (fields_no0 h).2 (by have := (pre_size h).2; omega)
  exact ⟨e, txt_len (w := 100) e⟩
theorem z_len {s : ByteArray} (h : okSplit s) : (headZ s).length = 356 := by
  have e1 := (p_len h).2
  have e2 : (textR emp 12).length = 12 := by decide +kernel
  have e3 := y_len
  unfold headZ
  simp only [List.length_append]
  omega
theorem b_len {s : ByteArray} {n : Int} {m : List Int} (h : okHd s n) (hm : m.length = 8) : (headB s n m).length = 512 := by
  have := a_len h
  have := z_len h.1
  unfold headB
  simp only [List.length_append]
  omega
theorem b_range {s : ByteArray} {n : Int} {m : List Int} (hm : ∀ x ∈ m, 0 ≤ x ∧ x < 256) : ∀ x ∈ headB s n m, 0 ≤ x ∧ x < 256 := by
  intro x hx
  unfold headB headA headZ headY at hx
  simp only [List.mem_append] at hx
  rcases hx with (((((((hx | hx) | hx) | hx) | hx) | hx) | hx) | (((((((((hx | hx) | hx) | hx) | hx) | hx) | hx) | hx) | hx) | hx)) <;> first
    | exact q_text _ _ x hx
    | exact q_range _ _ x hx
    | exact hm x hx
theorem s_range {s : ByteArray} {n : Int} (h : okHd s n) : 0 ≤ headS s n ∧ headS s n < 262144 := by
  letI : Globs := ⟨[]⟩
  have := chk_range (xs := headB s n (List.replicate 8 0)) (b_range fun x hx => by have := (List.mem_replicate.1 hx).2; omega) 512
  unfold headS
  omega
theorem sum_len {s : ByteArray} {n : Int} (h : okHd s n) : putE (headS s n) 7 = 0 ∧ (sumF s n).length = 8 := by
  have := s_range h
  obtain ⟨e1, e2⟩ := num_len (n := headS s n) (w := 7) (by omega) ⟨this.1, by omega⟩
  refine ⟨e1, ?_⟩
  unfold sumF
  have e2 : (putR (headS s n) 7).length = 7 := e2
  rw [List.length_append, e2]; rfl
theorem sumF_range (s : ByteArray) (n : Int) : ∀ x ∈ sumF s n, 0 ≤ x ∧ x < 256 := by
  intro x hx
  rcases List.mem_append.1 hx with hx | hx
  · exact q_range _ _ x hx
  · have : x = 32 := by simpa using hx
    omega
theorem head_len {s : ByteArray} {n : Int} (h : okHd s n) : (headR s n).length = 512 := by
  unfold headR
  rw [if_pos h]
  exact b_len h (sum_len h).2
theorem head_range (s : ByteArray) (n : Int) : ∀ x ∈ headR s n, 0 ≤ x ∧ x < 256 := by
  unfold headR
  split
  · exact b_range (sumF_range s n)
  · intro x hx; cases hx
/-- What stands in the middle. -/
theorem mid {X Y Z : List Int} {a c : Nat} (hx : X.length = a) (hy : Y.length = c) : ((X ++ Y ++ Z).take (a + c)).drop a = Y := by
  subst hx hy
  rw [List.take_append_of_le_length (by simp), List.take_of_length_le (by simp), List.drop_left]
theorem first {X Z : List Int} {a : Nat} (hx : X.length = a) : (X ++ Z).take a = X := by
  subst hx; exact List.take_left

/-- The fields of a header. -/
theorem head_name {s : ByteArray} {n : Int} (h : okHd s n) : (headR s n).take 100 = textR (nameS s) 100 := by
  unfold headR headB headA
  rw [if_pos h]
  simp only [List.append_assoc]
  exact first (n_len h.1).2
theorem head_size {s : ByteArray} {n : Int} (h : okHd s n) : ((headR s n).take 136).drop 124 = putR n 12 := by
  have e1 := (n_len h.1).2
  have e2 : (putR n 12).length = 12 := (num_len (n := n) (w := 12) (by omega) ⟨h.2.1, by have := h.2.2; omega⟩).2
  have e3 : (putR 420 8).length = 8 ∧ (putR 0 8).length = 8 := by decide +kernel
  unfold headR headB headA
  rw [if_pos h]
  have : textR (nameS s) 100 ++ putR 420 8 ++ putR 0 8 ++ putR 0 8 ++ putR n 12 ++ putR 0 12 ++ sumF s n ++ headZ s = (textR (nameS s) 100 ++ putR 420 8 ++ putR 0 8 ++ putR 0 8) ++ putR n 12 ++ (putR 0 12 ++ sumF s n ++ headZ s) := by simp only [List.append_assoc]
  rw [this]
  exact mid (a := 124) (c := 12) (by simp only [List.length_append]; omega) e2
theorem head_sum {s : ByteArray} {n : Int} (h : okHd s n) : ((headR s n).take 156).drop 148 = sumF s n := by
  unfold headR headB
  rw [if_pos h]
  exact mid (a := 148) (c := 8) (a_len h) (sum_len h).2
theorem head_pre {s : ByteArray} {n : Int} (h : okHd s n) : ((headR s n).take 500).drop 345 = textR (preS s) 155 := by
  unfold headR headB headZ
  rw [if_pos h]
  have : headA s n ++ sumF s n ++ (headY ++ textR (preS s) 155 ++ textR emp 12) = (headA s n ++ sumF s n ++ headY) ++ textR (preS s) 155 ++ textR emp 12 := by simp only [List.append_assoc]
  rw [this]
  have e1 := a_len h
  have e2 := (sum_len h).2
  have e3 := y_len
  exact mid (a := 345) (c := 155) (by simp only [List.length_append]; omega) (p_len h.1).2

/-! What is read out of bytes. -/
def fName (b : List Int) : List Int := b.take 100
def fPre (b : List Int) : List Int := (b.take 500).drop 345
def fSize (b : List Int) : List Int := (b.take 136).drop 124
noncomputable def fS (b : List Int) : ByteArray := joinS (nameR (fPre b)) (nameR (fName b))
noncomputable def fN (b : List Int) : Int := Oc.getV (fSize b)
def okGet (b : List Int) : Prop := okHd (fS b) (fN b) ∧ headR (fS b) (fN b) = b
noncomputable instance (b : List Int) : Decidable (okGet b) := by unfold okGet; infer_instance
noncomputable def getS (b : List Int) : ByteArray := if okGet b then fS b else ByteArray.empty
noncomputable def getN (b : List Int) : Int := if okGet b then fN b else 0
noncomputable def getEr (b : List Int) : Int := if b.length < 512 then 3 else if okGet b then 0 else 2

theorem head_back {s : ByteArray} {n : Int} (h : okHd s n) : nameE (fName (headR s n)) = 0 ∧ nameR (fName (headR s n)) = nameS s ∧ nameE (fPre (headR s n)) = 0 ∧ nameR (fPre (headR s n)) = preS s ∧ Oc.getE (fSize (headR s n)) = 0 ∧ fN (headR s n) = n ∧ fS (headR s n) = s := by
  have e1 := q_name (n_len h.1).1
  have e2 := q_name (p_len h.1).1
  have e3 := q_field (num_len (n := n) (w := 12) (by omega) ⟨h.2.1, by have := h.2.2; omega⟩).1
  have g1 : fName (headR s n) = textR (nameS s) 100 := head_name h
  have g2 : fPre (headR s n) = textR (preS s) 155 := head_pre h
  have g3 : fSize (headR s n) = putR n 12 := head_size h
  have e3 : valid (putR n 12) ∧ acc (putR n 12) ((putR n 12).length - 1) = n := e3.2
  unfold fS fN
  rw [g1, g2, g3]
  refine ⟨e1.1, e1.2.1, e2.1, e2.2.1, ?_, ?_, ?_⟩
  · unfold Oc.getE; rw [if_pos e3.1]
  · unfold Oc.getV; rw [if_pos e3.1]; exact e3.2
  · rw [e1.2.1, e2.2.1]; exact (okJoin_split h.1).2.1
theorem get_head {s : ByteArray} {n : Int} (h : okHd s n) : okGet (headR s n) ∧ getS (headR s n) = s ∧ getN (headR s n) = n ∧ getEr (headR s n) = 0 := by
  obtain ⟨_, _, _, _, _, h6, h7⟩ := head_back h
  have ok : okGet (headR s n) := by unfold okGet; rw [h6, h7]; exact ⟨h, rfl⟩
  refine ⟨ok, ?_, ?_, ?_⟩
  · unfold getS; rw [if_pos ok, h7]
  · unfold getN; rw [if_pos ok, h6]
  · unfold getEr; rw [if_neg (by rw [head_len h]; decide), if_pos ok]
theorem get_ok {b : List Int} (h : getEr b = 0) : okHd (getS b) (getN b) ∧ headR (getS b) (getN b) = b ∧ b.length = 512 := by
  unfold getEr at h
  split at h
  · omega
  · split at h
    · rename_i g
      unfold getS getN
      rw [if_pos g, if_pos g]
      exact ⟨g.1, g.2, by rw [← g.2]; exact head_len g.1⟩
    · omega
theorem get_no {b : List Int} (h : getEr b ≠ 0) : getS b = ByteArray.empty ∧ getN b = 0 := by
  have ng : ¬ okGet b := fun g => h (by
    unfold getEr
    rw [if_neg (by rw [← g.2, head_len g.1]; decide), if_pos g])
  unfold getS getN
  rw [if_neg ng, if_neg ng]
  exact ⟨rfl, rfl⟩
theorem get_len {b : List Int} (h : b.length < 512) : getEr b = 3 := if_pos h
theorem get_other {b : List Int} (h : 512 ≤ b.length) (g : b.length ≠ 512) : getEr b = 2 := by
  unfold getEr
  rw [if_neg (by omega), if_neg fun x => g (by rw [← x.2, head_len x.1])]
/-- Headers of unlike paths, or sizes, are unlike. -/
theorem head_inj {s t : ByteArray} {n m : Int} (h : okHd s n) (g : okHd t m) (e : headR s n = headR t m) : s = t ∧ n = m := by
  obtain ⟨_, a1, a2, _⟩ := get_head h
  obtain ⟨_, b1, b2, _⟩ := get_head g
  rw [e] at a1 a2
  exact ⟨a1.symm.trans b1, a2.symm.trans b2⟩

/-! Sums. -/
theorem chk_congr {xs ys : List Int} : ∀ {n : Nat}, (∀ i, i < n → chkAt i (xs.getD i 0) = chkAt i (ys.getD i 0)) → chk xs n = chk ys n
  | 0, _ => rfl
  | n + 1, h => by
    simp only [chk]
    rw [chk_congr (n := n) fun i hi => h i (by omega), h n (by omega)]
theorem chk_one {xs ys : List Int} {k : Nat} : ∀ {n : Nat}, (∀ i, i ≠ k → xs.getD i 0 = ys.getD i 0) → chk xs n - chk ys n = if k < n then chkAt k (xs.getD k 0) - chkAt k (ys.getD k 0) else 0
  | 0, _ => by simp [chk]
  | n + 1, h => by
    have ih := chk_one (n := n) h
    simp only [chk]
    by_cases hk : n = k
    · subst hk
      rw [if_neg (by omega)] at ih
      rw [if_pos (by omega)]
      omega
    · rw [h n hk]
      by_cases g : k < n
      · rw [if_pos g] at ih; rw [if_pos (by omega)]; omega
      · rw [if_neg g] at ih; rw [if_neg (by omega)]; omega
theorem head_get {s : ByteArray} {n : Int} {m m' : List Int} (h : okHd s n) (hm : m.length = 8) (hm' : m'.length = 8) (i : Nat) : chkAt i ((headB s n m).getD i 0) = chkAt i ((headB s n m').getD i 0) := by
  have ha := a_len h
  unfold chkAt
  by_cases hi : 148 ≤ i ∧ i < 156
  · rw [if_pos hi, if_pos hi]
  · rw [if_neg hi, if_neg hi]
    unfold headB
    rcases Nat.lt_or_ge i 148 with h1 | h1
    · rw [List.append_assoc, List.append_assoc, q_l (by omega), q_l (by omega)]
    · rw [q_r (by rw [List.length_append]; omega), q_r (by rw [List.length_append]; omega), List.length_append, List.length_append, hm, hm']
theorem head_chk {s : ByteArray} {n : Int} (h : okHd s n) : chk (headR s n) 512 = headS s n := by
  unfold headR headS
  rw [if_pos h]
  exact chk_congr fun i _ => head_get h (sum_len h).2 (by simp) i
theorem sum_inj {s t : ByteArray} {n m : Int} (h : okHd s n) (g : okHd t m) (e : sumF s n = sumF t m) : headS s n = headS t m := by
  have e1 := q_field (sum_len h).1
  have e2 := q_field (sum_len g).1
  unfold sumF at e
  have e := List.append_cancel_right e
  have a1 := e1.2.2
  rw [e] at a1
  exact a1.symm.trans e2.2.2
/-- A header with one byte turned is none. -/
theorem head_turned {s : ByteArray} {n : Int} (h : okHd s n) {b : List Int} {k : Nat} (hk : k < 512) (hl : b.length = 512) (hb : ∀ i, i ≠ k → b.getD i 0 = (headR s n).getD i 0) (hne : b.getD k 0 ≠ (headR s n).getD k 0) : getEr b = 2 := by
  unfold getEr
  rw [if_neg (by omega), if_neg]
  intro g
  obtain ⟨g1, g2⟩ := g
  obtain ⟨t, ht⟩ : ∃ t, fS b = t := ⟨_, rfl⟩
  obtain ⟨m, hm⟩ : ∃ m, fN b = m := ⟨_, rfl⟩
  rw [ht, hm] at g1 g2
  have f1 := head_sum h
  have f2 := head_sum g1
  rw [g2] at f2
  have c1 := head_chk h
  have c2 := head_chk g1
  rw [g2] at c2
  have hd := chk_one (xs := b) (ys := headR s n) (k := k) (n := 512) hb
  rw [if_pos hk, c1, c2] at hd
  have hlr := head_len h
  have get : ∀ (xs : List Int) (j : Nat), j < 8 → ((xs.take 156).drop 148).getD j 0 = xs.getD (148 + j) 0 := fun xs j hj => by
    rw [List.getD_eq_getElem?_getD, List.getElem?_drop, List.getElem?_take, if_pos (by omega), List.getD_eq_getElem?_getD]
  by_cases hi : 148 ≤ k ∧ k < 156
  · unfold chkAt at hd
    rw [if_pos hi, if_pos hi] at hd
    have hs : headS t m = headS s n := by omega
    have : sumF t m = sumF s n := by unfold sumF; rw [hs]
    rw [← f1, ← f2] at this
    have := congrArg (fun l : List Int => l.getD (k - 148) 0) this
    rw [get _ _ (by omega), get _ _ (by omega), show 148 + (k - 148) = k by omega] at this
    exact hne this
  · unfold chkAt at hd
    rw [if_neg hi, if_neg hi] at hd
    have : (b.take 156).drop 148 = ((headR s n).take 156).drop 148 := by
      apply List.ext_getElem
      · simp [hl, hlr]
      · intro j h1 h2
        have hj : j < 8 := by simp [hl] at h1; omega
        have e1 := get b j hj
        have e2 := get (headR s n) j hj
        rw [hb (148 + j) (by omega), ← e2] at e1
        rw [List.getD_eq_getElem?_getD, List.getElem?_eq_getElem h1, List.getD_eq_getElem?_getD, List.getElem?_eq_getElem h2] at e1
        exact e1
    rw [f1, f2] at this
    have := sum_inj g1 h this
    omega

end Go.Proofs.YtkchfbnkdpdbkaaDoor.Hd

/-
  The row that header.Put lays fields into: header.laid and its closures.
-/
set_option linter.unusedVariables false
set_option linter.unusedSectionVars false
namespace Go.Proofs.YtkchfbnkdpdbkaaDoor.Hd
open Go AL Oc
section
variable [Globs]

/-- Each block seen as its fellow. -/
def LeOs (h : List AO) (l : List Nat) : List AO → List AO → Prop
  | [], [] => True
  | o :: a, p :: b => LeO h l o p ∧ LeOs h l a b
  | _, _ => False
theorem leOs_get {h : List AO} {l : List Nat} : ∀ {a b : List AO}, LeOs h l a b → a.length = b.length ∧ ∀ (i : Nat) (p : AO), b[i]? = some p → ∃ o, a[i]? = some o ∧ LeO h l o p
  | [], [], _ => ⟨rfl, fun i p hi => by simp at hi⟩
  | [], _ :: _, e => e.elim
  | _ :: _, [], e => e.elim
  | o :: a, q :: b, e => by
    obtain ⟨h1, h2⟩ := leOs_get e.2
    refine ⟨by simp [h1], fun i p hi => ?_⟩
    cases i with
    | zero => exact ⟨o, rfl, by cases hi; exact e.1⟩
    | succ i => exact h2 i p (by simpa using hi)
theorem lehId {np : Nat} {h h1 : List AO} (hnp : np ≤ h.length) (e : LeOs h (List.range h.length) h h1) : LeH np h (List.range h.length) h1 := by
  obtain ⟨h2, h3⟩ := leOs_get e
  have hr : ∀ i j, (List.range h.length)[i]? = some j → j = i := fun i j hi => by
    obtain ⟨hlt, he⟩ := List.getElem?_eq_some_iff.1 hi
    rw [List.getElem_range] at he
    exact he.symm
  refine ⟨by simp [h2], by simpa using hnp, fun i hi => ?_, List.nodup_range, fun i j o' hi ho => ?_⟩
  · rw [List.getElem?_range (by omega)]
  · obtain rfl := hr i j hi
    exact .inl (h3 _ _ ho)
def cloP (f id : Nat) : AV := .clo (.func f) 1 fun i => [AV.ptr id 0].getD i .top
theorem leClo {h : List AO} {l : List Nat} {f id id' : Nat} {g : Nat → AV} (hg : g 0 = .ptr id 0) (e : l[id']? = some id) : LeV h l (.clo (.func f) 1 g) (cloP f id') :=
  .clo _ _ _ _ fun i hi => by
    obtain rfl : i = 0 := by omega
    rw [hg]; exact .ptr _ e
theorem leOne {h : List AO} {l : List Nat} {a b : AV} (h0 : LeV h l a b) : LeO h l (.lst [a]) (.lst [b]) := .lst _ _ rfl fun i hi => by
  obtain rfl : i = 0 := by simpa using hi
  exact h0
def nilS : AV := .raw (.slice none 0 0)
def boxN : AO := .lst [nilS]
def boxR (id n : Nat) : AO := .lst [.own id 0 n 1]

def addB : AO := .lst [cloP 61 0]

def laidV : AV := .tup 3 (triple (cloP 62 1) (cloP 63 1) (cloP 65 0))

set_option maxHeartbeats 1000000 in
set_option maxRecDepth 10000 in
theorem laid_prog : ACalls Tryd.prog 41 [] [] (fun r h => r = laidV ∧ h = [boxN, addB]) := by
  refine rcalls Tryd.func41 rfl (by decide) ?_
  refine ⟨List.range 2, [boxN, addB], laidV, lehId (h := [.lst [nilS], .lst [.clo (.func 61) 1 _]]) (by decide) ⟨leOne (.raw _), leOne (leClo rfl rfl), trivial⟩, le_triple (leClo rfl rfl) (leClo rfl rfl) (leClo rfl rfl), rfl, rfl⟩

set_option maxHeartbeats 1000000 in
set_option maxRecDepth 10000 in
theorem add_first (ys : List Int) (hy : ys.length ≤ 1000000) : ACalls Tryd.prog 61 [.roI .u8 ys, int .i64 0, .ptr 0 0] [boxN] (fun r h => r = .top ∧ h = [boxR 1 ys.length, .ints .u8 ys]) := by
  refine rcalls Tryd.func61 rfl (by decide) ?_
  refine ⟨fun _ => ?_, fun e => absurd rfl (no e)⟩
  refine ⟨by show ys.length * 1 ≤ _; omega, ?_⟩
  exact ⟨List.range 2, [boxR 1 ys.length, .ints .u8 ys], .top, lehId (h := [.lst [.own 1 0 ys.length 1], .ints .u8 ys]) (by show 1 ≤ 2; decide) ⟨leOne (leOwn rfl rfl rfl), leOint rfl, trivial⟩, .top _, rfl, rfl⟩

set_option maxHeartbeats 1000000 in
set_option maxRecDepth 10000 in
theorem add_next (xs ys : List Int) (hx : xs.length ≤ 1000000) (hy : ys.length ≤ 1000000) : ACalls Tryd.prog 61 [.roI .u8 ys, int .i64 0, .ptr 0 0] [boxR 1 xs.length, .ints .u8 xs]
    (fun r h => r = .top ∧ h = [boxR 2 (xs ++ ys).length, .dead, .ints .u8 (xs ++ ys)]) := by
  refine rcalls Tryd.func61 rfl (by decide) ?_
  refine ⟨fun _ => ?_, fun e => absurd rfl (no e)⟩
  refine ⟨rfl, by show (xs.length + ys.length) * 1 ≤ _; omega, ?_⟩
  exact ⟨List.range 3, [boxR 2 (xs ++ ys).length, .dead, .ints .u8 (xs ++ ys)], .top, lehId (h := [.lst [.own 2 0 (xs.length + ys.length) 1], .dead, .ints .u8 (xs ++ ys)]) (by show 2 ≤ 3; decide) ⟨leOne (leOwn rfl rfl (by simp)), .dead _, leOint rfl, trivial⟩, .top _, rfl, rfl⟩

set_option maxHeartbeats 1000000 in
set_option maxRecDepth 10000 in
theorem text_first (s : ByteArray) (w : Int) (hs : s.size ≤ 9223372036854775807) (he : textE s w = 0) (hw : (textR s w).length ≤ 1000) :
    ACalls Tryd.prog 63 [str s, int .i64 w, .ptr 1 0] [boxN, addB] (fun r h => r = .top ∧ h = [boxR 2 (textR s w).length, addB, .ints .u8 (textR s w)]) := by
  have h1 := text_prog s w hs
  unfold TextR at h1
  rw [he] at h1
  generalize textR s w = ys at *
  refine rcalls Tryd.func63 rfl (by decide) ?_
  refine .inr ⟨6, by decide +kernel, ?_⟩
  refine ⟨_, rfl, ?_⟩
  refine ⟨_, rfl, ?_⟩
  refine ⟨_, rfl, ?_⟩
  refine ⟨_, ⟨[], _, h1, by rintro r h ⟨rfl, rfl⟩; exact ⟨.inl rfl, rfl, rfl⟩⟩, ?_⟩
  refine ⟨_, rfl, ?_⟩
  refine ⟨_, rfl, ?_⟩
  refine ⟨[0], _, add_first ys (by omega), ?_⟩
  rintro r h' ⟨rfl, rfl⟩
  refine ⟨.inl rfl, ?_⟩
  exact ⟨List.range 3, [boxR 2 ys.length, addB, .ints .u8 ys], .top, lehId (h := [.lst [.own 2 0 ys.length 1], addB, .ints .u8 ys]) (by show 2 ≤ 3; decide) ⟨leOne (leOwn rfl rfl rfl), leOne (leClo rfl rfl), leOint rfl, trivial⟩, .top _, rfl, rfl⟩


set_option maxHeartbeats 1000000 in
set_option maxRecDepth 10000 in
theorem text_next (s : ByteArray) (w : Int) (xs : List Int) (hx : xs.length ≤ 1000000) (hs : s.size ≤ 9223372036854775807) (he : textE s w = 0) (hw : (textR s w).length ≤ 1000) :
    ACalls Tryd.prog 63 [str s, int .i64 w, .ptr 1 0] [boxR 2 xs.length, addB, .ints .u8 xs]
      (fun r h => r = .top ∧ h = [boxR 3 (xs ++ textR s w).length, addB, .dead, .ints .u8 (xs ++ textR s w)]) := by
  have h1 := text_prog s w hs
  unfold TextR at h1
  rw [he] at h1
  generalize textR s w = ys at *
  refine rcalls Tryd.func63 rfl (by decide) ?_
  refine .inr ⟨6, by decide +kernel, ?_⟩
  refine ⟨_, rfl, ?_⟩
  refine ⟨_, rfl, ?_⟩
  refine ⟨_, rfl, ?_⟩
  refine ⟨_, ⟨[], _, h1, by rintro r h ⟨rfl, rfl⟩; exact ⟨.inl rfl, rfl, rfl⟩⟩, ?_⟩
  refine ⟨_, rfl, ?_⟩
  refine ⟨_, rfl, ?_⟩
  refine ⟨[0, 2], _, add_next xs ys hx (by omega), ?_⟩
  rintro r h' ⟨rfl, rfl⟩
  refine ⟨.inl rfl, ?_⟩
  exact ⟨List.range 4, [boxR 3 (xs ++ ys).length, addB, .dead, .ints .u8 (xs ++ ys)], .top, lehId (h := [.lst [.own 3 0 (xs ++ ys).length 1], addB, .dead, .ints .u8 (xs ++ ys)]) (by show 3 ≤ 4; decide) ⟨leOne (leOwn rfl rfl rfl), leOne (leClo rfl rfl), .dead _, leOint rfl, trivial⟩, .top _, rfl, rfl⟩

set_option maxHeartbeats 1000000 in
set_option maxRecDepth 10000 in
theorem num_next (n : Int) (w : Int) (xs : List Int) (hx : xs.length ≤ 1000000) (he : putE n w = 0) (hw : (putR n w).length ≤ 1000) :
    ACalls Tryd.prog 62 [int .i64 n, int .i64 w, .ptr 1 0] [boxR 2 xs.length, addB, .ints .u8 xs]
      (fun r h => r = .top ∧ h = [boxR 3 (xs ++ putR n w).length, addB, .dead, .ints .u8 (xs ++ putR n w)]) := by
  have h1 := put_prog n w
  unfold PutR at h1
  rw [he] at h1
  generalize putR n w = ys at *
  refine rcalls Tryd.func62 rfl (by decide) ?_
  refine .inr ⟨6, by decide +kernel, ?_⟩
  refine ⟨_, rfl, ?_⟩
  refine ⟨_, rfl, ?_⟩
  refine ⟨_, rfl, ?_⟩
  refine ⟨_, ⟨[], _, h1, by rintro r h ⟨rfl, rfl⟩; exact ⟨.inl rfl, rfl, rfl⟩⟩, ?_⟩
  refine ⟨_, rfl, ?_⟩
  refine ⟨_, rfl, ?_⟩
  refine ⟨[0, 2], _, add_next xs ys hx (by omega), ?_⟩
  rintro r h' ⟨rfl, rfl⟩
  refine ⟨.inl rfl, ?_⟩
  exact ⟨List.range 4, [boxR 3 (xs ++ ys).length, addB, .dead, .ints .u8 (xs ++ ys)], .top, lehId (h := [.lst [.own 3 0 (xs ++ ys).length 1], addB, .dead, .ints .u8 (xs ++ ys)]) (by show 3 ≤ 4; decide) ⟨leOne (leOwn rfl rfl rfl), leOne (leClo rfl rfl), .dead _, leOint rfl, trivial⟩, .top _, rfl, rfl⟩

set_option maxHeartbeats 1000000 in
set_option maxRecDepth 10000 in
theorem told_prog (xs : List Int) : ACalls Tryd.prog 65 [.ptr 0 0] [boxR 1 xs.length, .ints .u8 xs] (fun r h => r = .own 1 0 xs.length 1 ∧ h = [boxR 1 xs.length, .ints .u8 xs]) := by
  refine rcalls Tryd.func65 rfl (by decide) ?_
  exact ⟨List.range 2, [boxR 1 xs.length, .ints .u8 xs], .own 1 0 xs.length 1, lehId (h := [.lst [.own 1 0 xs.length 1], .ints .u8 xs]) (by show 2 ≤ 2; decide) ⟨leOne (leOwn rfl rfl rfl), leOint rfl, trivial⟩, leOwn rfl rfl rfl, rfl, rfl⟩
end
end Go.Proofs.YtkchfbnkdpdbkaaDoor.Hd

/-
  The contract of the document's own Put of an octal field.
-/
set_option linter.unusedVariables false
set_option linter.unusedSectionVars false
namespace Go.Proofs.YtkchfbnkdpdbkaaDoor.Oc
open Go AL
section
variable [Globs]

set_option maxHeartbeats 1000000 in
set_option maxRecDepth 10000 in
theorem put_ref (n w : Int) (hn63 : n < 9223372036854775808) : ACalls Tryd.prog 68 [int .i64 n, int .i64 w] [] (PutR n w) := by
  refine rcalls Tryd.func68 rfl (by decide) ?_
  have bad : (w < 2 ∨ w > 12) → ∃ l h1 b, LeH 0 [] l h1 ∧ LeV [] l (.tup 2 fun i => [.raw (.slice none 0 0), int .i64 1].getD i .top) b ∧ PutR n w b h1 := fun hw =>
    ⟨[], [], _, leh0, le_pair (.nilI .u8) (leI (putE_bad hw).1.symm), by unfold PutR; rw [(putE_bad hw).2]; exact ⟨rfl, rfl⟩⟩
  refine ⟨fun h => bad (.inl (by simpa using h)), fun h => ⟨fun h1 => bad (.inr (by simpa using h1)), fun h1 => ?_⟩⟩
  have hw2 : ¬ (w < 2) := by simpa using h
  have hw12 : ¬ (12 < w) := by simpa using h1
  have hok : ¬ (w < 2 ∨ w > 12) := by omega
  refine ⟨fun h2 => ?_, fun h2 => ?_⟩
  · have hnf : ¬ fits n w := by unfold fits; simp at h2; omega
    refine ⟨[], [], _, lehN _, le_pair (.nilI .u8) (leI (putE_no hok hnf).1.symm), ?_⟩
    unfold PutR; rw [(putE_no hok hnf).2]; exact ⟨rfl, rfl⟩
  have hn0 : 0 ≤ n := by simpa using h2
  obtain ⟨m, hm⟩ : ∃ m : Nat, w = (m : Int) := ⟨w.toNat, by omega⟩
  subst hm
  refine ⟨Nat, fun j => [(0, int .i64 (n / 8 ^ j)), (1, int .i64 m), (6, .own 0 0 (j + 1) 1), (7, int .i64 (1 + j))], fun j => [.ints .u8 (digs n j ++ [0])], fun j => j + 1 ≤ m, fun j => m - j,
    ⟨0, [0], by omega, leh1 rfl (leOint rfl), ⟨leI (by simp), leI rfl, leOwn rfl rfl rfl, leI rfl, trivial⟩⟩, fun j hj => ?_⟩
  refine ⟨fun h3 => ?_, fun h3 => ?_⟩
  · have h4 : (1 : Int) + j < m := by simpa using h3
    have hl : (digs n j ++ [0]).length = j + 1 := by simp [digs_length]
    have ht : ((digs n j ++ [0]).drop 0).take (j + 1) = digs n j ++ [0] := by rw [List.drop_zero, List.take_of_length_le (by omega)]
    have hp := pow8_pos j
    have hd0 : 0 ≤ n / 8 ^ j := Int.ediv_nonneg hn0 (Int.le_of_lt hp)
    refine ⟨by decide, rfl, by rw [hl]; omega, ?_, by decide, ?_⟩
    · rw [ht, hl]; show (1 + (j + 1)) * 1 ≤ _; omega
    · have e1 : (n / 8 ^ j).tmod 8 = n / 8 ^ j % 8 := Int.tmod_eq_emod_of_nonneg hd0
      have e2 : (n / 8 ^ j).tdiv 8 = n / 8 ^ (j + 1) := by rw [div_succ, Int.tdiv_eq_ediv_of_nonneg hd0]
      have d0 := dig_lo n j
      have d1 := dig_hi n j
      unfold dig at d0 d1
      refine ⟨trivial, j + 1, [2], by show j + 1 + 1 ≤ m; omega, by show m - (j + 1) < m - j; omega, ?_, ?_⟩
      · refine leh1 rfl (leOint ?_)
        rw [ht, e1, w64 (by omega) (by omega), w8 (by omega) (by omega)]
        rfl
      · refine ⟨leI ?_, leI rfl, leOwn rfl rfl ?_, leI ?_, trivial⟩
        · rw [e2]
          have h6 : n / 8 ^ (j + 1) ≤ n := Int.ediv_le_self _ hn0
          have h7 : 0 ≤ n / 8 ^ (j + 1) := Int.ediv_nonneg hn0 (Int.le_of_lt (pow8_pos _))
          exact w64 (by omega) (by omega)
        · rw [ht, hl]; simp; omega
        · rw [w64 (by omega) (by omega)]; omega
  · have h4 : ¬ ((1 : Int) + j < m) := by simpa using h3
    have hjm : j = m - 1 := by have : j + 1 ≤ m := hj; omega
    subst hjm
    have hw1 : ((m : Int) - 1).toNat = m - 1 := by omega
    refine ⟨fun h5 => ?_, fun h5 => ?_⟩
    · have hnf : ¬ fits n m := by
        unfold fits
        rw [hw1, ← fits_iff]
        simpa using h5
      refine ⟨[], [], _, lehN _, le_pair (.nilI .u8) (leI (putE_no hok hnf).1.symm), ?_⟩
      unfold PutR; rw [(putE_no hok hnf).2]; exact ⟨rfl, rfl⟩
    · have hf : fits n m := by
        unfold fits
        rw [hw1, ← fits_iff]
        simpa using h5
      refine ⟨[], [], _, lehN _, le_pair (.giveI (putR n m) rfl (by simp) ?_ ?_) (leI (putE_ok hok hf).1.symm), rfl, rfl⟩
      · simp [digs_length]
      · rw [(putE_ok hok hf).2, hw1, List.drop_zero, List.take_of_length_le (by simp [digs_length])]

end

end Go.Proofs.YtkchfbnkdpdbkaaDoor.Oc

/-
  octal.Put once more, that hands its row over; the document's fields behind a row.
-/
set_option linter.unusedVariables false
set_option linter.unusedSectionVars false
namespace Go.Proofs.YtkchfbnkdpdbkaaDoor.Hd
open Go AL Oc
section
variable [Globs]

def PutO (n w : Int) (r : AV) (h : List AO) : Prop := r = .tup 2 (pair (.own 0 0 (putR n w).length 1) (int .i64 0)) ∧ h = [.ints .u8 (putR n w)]
theorem vnil (k : IntKind) : VLe (.raw (.slice none 0 0)) (.roI k []) := fun w S L v hv => by
  obtain rfl : v = _ := hv
  exact ⟨none, 0, rfl, Nat.le_refl _, fun i hi => absurd hi (Nat.not_lt_zero _)⟩

set_option maxHeartbeats 1000000 in
set_option maxRecDepth 10000 in
theorem put_own (n w : Int) (he : putE n w = 0) : ACalls Tryd.prog 42 [int .i64 n, int .i64 w] [] (PutO n w) := by
  refine rcalls Tryd.func42 rfl (by decide) ?_
  have bad : (w < 2 ∨ w > 12) → ∃ l h1 b, LeH 0 [] l h1 ∧ LeV [] l (.tup 2 fun i => [.raw (.slice none 0 0), int .i64 1].getD i .top) b ∧ PutO n w b h1 := fun hw => by
    have := (putE_bad (n := n) hw).1; omega
  refine ⟨fun h => bad (.inl (by simpa using h)), fun h => ⟨fun h1 => bad (.inr (by simpa using h1)), fun h1 => ?_⟩⟩
  have hw2 : ¬ (w < 2) := by simpa using h
  have hw12 : ¬ (12 < w) := by simpa using h1
  have hok : ¬ (w < 2 ∨ w > 12) := by omega
  refine ⟨⟨by omega, by omega, by omega, by show w * 1 ≤ _; omega⟩, rfl, ?_⟩
  obtain ⟨m, hm⟩ : ∃ m : Nat, w = (m : Int) := ⟨w.toNat, by omega⟩
  subst hm
  have e0 : IntKind.i64.wrap ((m : Int) - 2) = (m : Int) - 2 := w64 (by omega) (by omega)
  refine ⟨Nat, fun j => [(0, int .i64 (n / 8 ^ j)), (6, .own 0 0 m 1), (7, int .i64 (m - 2 - j))], fun j => [.ints .u8 (Oc.part n m j)], fun j => j + 1 ≤ m, fun j => m - j,
    ⟨0, [0], by omega, leh1 rfl (leOint (by rw [part_zero n (by omega)]; simp)), ⟨leI (by simp), leOwn rfl rfl (by simp), leI (by rw [e0]; omega), trivial⟩⟩, fun j hj => ?_⟩
  refine ⟨fun h2 => ?_, fun h2 => ?_⟩
  · -- a round
    have h3 : (0 : Int) ≤ m - 2 - j := by simpa using h2
    have hpl := part_length n hj
    have hi : ((m : Int) - 2 - j).toNat = m - 2 - j := by omega
    refine ⟨⟨by omega, by omega⟩, by rw [hpl]; unfold addOff; omega, by decide, ?_⟩
    refine ⟨trivial, j + 1, [0], by show j + 1 + 1 ≤ m; omega, by show m - (j + 1) < m - j; omega, ?_, ?_⟩
    · refine leh1 rfl (leOint ?_)
      have e1 : Go.bits .and .i64 (n / 8 ^ j) 7 = n / 8 ^ j % 8 := bits_mask64 (n / 8 ^ j) 3 (by decide)
      have d0 := dig_lo n j
      have d1 := dig_hi n j
      unfold dig at d0 d1
      rw [e1, w8 (n := n / 8 ^ j % 8) (by omega) (by omega), w8 (by omega) (by omega), hi]
      unfold addOff
      rw [Nat.zero_add, Nat.mul_one]
      exact part_succ n (by omega)
    · refine ⟨leI ?_, leOwn rfl rfl rfl, leI ?_, trivial⟩
      · show (n / 8 ^ j).fdiv (2 ^ (min (3 : Int).toNat 64)) = _
        rw [div_succ, Int.fdiv_eq_ediv_of_nonneg _ (by decide)]
        rfl
      · rw [w64 (by omega) (by omega)]; omega
  · -- the end
    have h3 : ¬ ((0 : Int) ≤ m - 2 - j) := by simpa using h2
    have hjm : j = m - 1 := by have : j + 1 ≤ m := hj; omega
    subst hjm
    have hw1 : ((m : Int) - 1).toNat = m - 1 := by omega
    refine ⟨fun h4 => ?_, fun h4 => ?_⟩
    · have hnf : ¬ fits n m := by
        unfold fits
        rw [hw1, ← fits_iff]
        simpa using h4
      have := (putE_no hok hnf).1; omega
    · have hf : fits n m := by
        unfold fits
        rw [hw1, ← fits_iff]
        simpa using h4
      have hp : Oc.part n m (m - 1) = putR n m := by
        rw [(putE_ok hok hf).2, part_full n (by omega), hw1]
      have hpl : (Oc.part n m (m - 1)).length = m := part_length n (by omega)
      exact ⟨[0], [.ints .u8 (putR n m)], .tup 2 (pair (.own 0 0 (putR n m).length 1) (int .i64 0)), leh1 rfl (leOint hp), le_pair (leOwn rfl rfl (by rw [← hp, hpl])) (leI rfl), rfl, rfl⟩

set_option maxHeartbeats 1000000 in
set_option maxRecDepth 10000 in
theorem text7_ref (xs : List Int) (s : ByteArray) (w : Int) (hs : s.size ≤ 9223372036854775806) (hx : xs.length ≤ 1000000) (hw : (textR s w).length ≤ 1000) : ACalls Tryd.prog 45 [.roI .u8 xs, str s, int .i64 w] []
    (fun r h => r = .own 0 0 (xs ++ textR s w).length 1 ∧ h = [.ints .u8 (xs ++ textR s w)]) := by
  have h1 := text_ref s w hs
  unfold TextR at h1
  generalize textR s w = ys at *
  generalize textE s w = E at *
  refine rcalls Tryd.func45 rfl (by decide) ?_
  refine ⟨[], _, h1, ?_⟩
  rintro r hh ⟨rfl, rfl⟩
  refine ⟨.inl rfl, ?_⟩
  refine ⟨rfl, by show (0 + xs.length) * 1 ≤ _; omega, ?_⟩
  refine ⟨by simp, by show (([] ++ xs).length + ys.length) * 1 ≤ _; rw [List.nil_append]; omega, ?_⟩
  exact ⟨[2], [.ints .u8 (xs ++ ys)], .own 0 0 (xs ++ ys).length 1, leh1 rfl (leOint (by simp)), leOwn rfl rfl (by simp), rfl, rfl⟩

set_option maxHeartbeats 1000000 in
set_option maxRecDepth 10000 in
theorem num7_ref (xs : List Int) (n w : Int) (hn : n < 9223372036854775808) (hx : xs.length ≤ 1000000) (hw : (putR n w).length ≤ 1000) : ACalls Tryd.prog 46 [.roI .u8 xs, int .i64 n, int .i64 w] []
    (fun r h => r = .own 0 0 (xs ++ putR n w).length 1 ∧ h = [.ints .u8 (xs ++ putR n w)]) := by
  have h1 := put_ref n w hn
  unfold PutR at h1
  generalize putR n w = ys at *
  generalize putE n w = E at *
  refine rcalls Tryd.func46 rfl (by decide) ?_
  refine ⟨[], _, h1, ?_⟩
  rintro r hh ⟨rfl, rfl⟩
  refine ⟨.inl rfl, ?_⟩
  refine ⟨rfl, by show (0 + xs.length) * 1 ≤ _; omega, ?_⟩
  refine ⟨by simp, by show (([] ++ xs).length + ys.length) * 1 ≤ _; rw [List.nil_append]; omega, ?_⟩
  exact ⟨[2], [.ints .u8 (xs ++ ys)], .own 0 0 (xs ++ ys).length 1, leh1 rfl (leOint (by simp)), leOwn rfl rfl (by simp), rfl, rfl⟩

end
end Go.Proofs.YtkchfbnkdpdbkaaDoor.Hd

/-
  Numbers and digests as text, in plain Lean. No program in sight.
-/
set_option linter.unusedVariables false
namespace Go.Proofs.YtkchfbnkdpdbkaaDoor.Hx
open Go AL

/-- A number's text. -/
def numS (n : Int) : ByteArray := ⟨(Lib.itoa n).toArray⟩
theorem numS_inj_list {n m : Int} (h : numS n = numS m) : Lib.itoa n = Lib.itoa m := by
  have := congrArg (fun s : ByteArray => s.data.toList) h
  simpa [numS] using this
theorem numS_list (n : Int) : (numS n).data.toList = Lib.itoa n := by simp [numS]
theorem ba_ext {s : ByteArray} {l : List UInt8} (h : s.data.toList = l) : s = ⟨l.toArray⟩ := by
  cases s with
  | mk d => simp at h; subst h; simp
theorem ba_append (a b : List UInt8) : (⟨a.toArray⟩ : ByteArray) ++ ⟨b.toArray⟩ = ⟨(a ++ b).toArray⟩ := by
  refine ba_ext ?_
  simp [ByteArray.data_append]

theorem dec_big {u : Nat} (h : ¬ u < 10) : Lib.decDigits u = Lib.decDigits (u / 10) ++ [UInt8.ofNat (48 + u % 10)] := by
  rw [Lib.decDigits, dif_neg h]
theorem digit_toNat {d : Nat} (h : d < 10) : (UInt8.ofNat (48 + d)).toNat = 48 + d := by
  simp; omega
theorem dec_digit : ∀ (u : Nat) (c : UInt8), c ∈ Lib.decDigits u → 48 ≤ c.toNat ∧ c.toNat ≤ 57 := by
  intro u
  induction u using Nat.strongRecOn with
  | _ u ih =>
    intro c hc
    by_cases h : u < 10
    · rw [Lib.decDigits_one h] at hc
      simp only [List.mem_singleton] at hc
      subst hc
      rw [digit_toNat h]; omega
    · rw [dec_big h] at hc
      rcases List.mem_append.1 hc with hc | hc
      · exact ih (u / 10) (by omega) c hc
      · simp only [List.mem_singleton] at hc
        subst hc
        rw [digit_toNat (by omega)]; omega
theorem parse_dec {M : Nat} (hM : M ≤ 18446744073709551615) : ∀ (u : Nat) (r : List UInt8), u ≤ M → Lib.parseUintM M 0 (Lib.decDigits u ++ r) = Lib.parseUintM M u r := by
  intro u
  induction u using Nat.strongRecOn with
  | _ u ih =>
    intro r hu
    by_cases h : u < 10
    · rw [Lib.decDigits_one h, List.singleton_append, Lib.parseUintM]
      have e := digit_toNat h
      rw [if_pos (by omega), if_neg (by omega), if_neg (by omega), e]
      congr 1
      omega
    · rw [dec_big h, List.append_assoc, ih (u / 10) (by omega) _ (by omega), List.singleton_append, Lib.parseUintM]
      have e := digit_toNat (show u % 10 < 10 by omega)
      rw [if_pos (by omega), if_neg (by omega), if_neg (by omega), e]
      congr 1
      omega
theorem dec_ne (u : Nat) : Lib.decDigits u ≠ [] := fun h => by
  have := Lib.decDigits_length u
  rw [h] at this
  have := Lib.nDigits_pos u
  simp at *
  omega
/-- A number's text is parsed as it. -/
theorem parse_itoa {v : Int} (h0 : 0 ≤ v) (h1 : v < 9223372036854775808) : Lib.parseIntB 64 (Lib.itoa v) = .ok v := by
  have e : Lib.itoa v = Lib.decDigits v.toNat := by unfold Lib.itoa; rw [if_neg (by omega)]
  rw [e]
  cases hl : Lib.decDigits v.toNat with
  | nil => exact absurd hl (dec_ne _)
  | cons c r =>
    have hc := dec_digit v.toNat c (by rw [hl]; simp)
    have hp := parse_dec (M := 2 ^ 64 - 1) (by decide) v.toNat [] (by omega)
    rw [List.append_nil, hl] at hp
    unfold Lib.parseIntB
    simp only []
    rw [if_neg (by omega)]
    unfold Lib.parseUintB
    rw [if_neg (by simp), hp]
    simp only [Lib.parseUintM]
    have h3 : ¬ c.toNat = 45 := by omega
    rw [if_neg (by simp only [h3, not_false_eq_true, true_and]; omega), if_neg (by simp [h3]), if_neg h3]
    congr 1
    omega
theorem numS_inj {v u : Int} (h0 : 0 ≤ v) (h1 : v < 9223372036854775808) (g0 : 0 ≤ u) (g1 : u < 9223372036854775808) (h : numS v = numS u) : v = u := by
  have e := numS_inj_list h
  have a := parse_itoa h0 h1
  have b := parse_itoa g0 g1
  rw [e, b] at a
  injection a with a
  exact a.symm

/-- Is it a number's text, of that number? -/
def isNum (s : ByteArray) (v : Int) : Prop := 0 ≤ v ∧ v < 9223372036854775808 ∧ s = numS v
theorem isNum_inj {s : ByteArray} {v u : Int} (h : isNum s v) (g : isNum s u) : v = u := numS_inj h.1 h.2.1 g.1 g.2.1 (h.2.2.symm.trans g.2.2)
open Classical in
noncomputable def readE (s : ByteArray) (most : Int) : Int := if h : ∃ v, isNum s v then (if Classical.choose h > most then 8 else 0) else 2
open Classical in
noncomputable def readV (s : ByteArray) (most : Int) : Int := if h : ∃ v, isNum s v then (if Classical.choose h > most then 0 else Classical.choose h) else 0
theorem read_ok {s : ByteArray} {v most : Int} (h : isNum s v) (hm : ¬ v > most) : readE s most = 0 ∧ readV s most = v := by
  have hx : ∃ v, isNum s v := ⟨v, h⟩
  have e : Classical.choose hx = v := isNum_inj (Classical.choose_spec hx) h
  unfold readE readV
  rw [dif_pos hx, dif_pos hx, e, if_neg hm, if_neg hm]
  exact ⟨rfl, rfl⟩
theorem read_over {s : ByteArray} {v most : Int} (h : isNum s v) (hm : v > most) : readE s most = 8 ∧ readV s most = 0 := by
  have hx : ∃ v, isNum s v := ⟨v, h⟩
  have e : Classical.choose hx = v := isNum_inj (Classical.choose_spec hx) h
  unfold readE readV
  rw [dif_pos hx, dif_pos hx, e, if_pos hm, if_pos hm]
  exact ⟨rfl, rfl⟩
theorem read_none {s : ByteArray} {most : Int} (h : ∀ v, ¬ isNum s v) : readE s most = 2 ∧ readV s most = 0 := by
  have hx : ¬ ∃ v, isNum s v := fun ⟨v, hv⟩ => h v hv
  unfold readE readV
  rw [dif_neg hx, dif_neg hx]
  exact ⟨rfl, rfl⟩

/-- How long a number's text is. -/
theorem nDigits_le : ∀ (k u : Nat), u < 10 ^ (k + 1) → Lib.nDigits u ≤ k + 1
  | 0, u, h => by rw [Lib.nDigits_small (by simpa using h)]; omega
  | k + 1, u, h => by
    by_cases h10 : u < 10
    · rw [Lib.nDigits_small h10]; omega
    · rw [Lib.nDigits_big h10]
      have := nDigits_le k (u / 10) (by rw [Nat.pow_succ] at h; omega)
      omega
theorem num_size {v : Int} (h0 : 0 ≤ v) (h1 : v < 9223372036854775808) : 1 ≤ (numS v).size ∧ (numS v).size ≤ 19 := by
  have e : (numS v).size = (Lib.decDigits v.toNat).length := by
    have : (numS v).size = (Lib.itoa v).length := by show (Lib.itoa v).toArray.size = _; simp
    rw [this]; unfold Lib.itoa; rw [if_neg (by omega)]
  rw [e, Lib.decDigits_length]
  exact ⟨Lib.nDigits_pos _, nDigits_le 18 _ (by omega)⟩
theorem num_size_le {v : Int} (h0 : -9223372036854775808 ≤ v) (h1 : v < 9223372036854775808) : (numS v).size ≤ 21 := by
  have e : (numS v).size = (Lib.itoa v).length := by show (Lib.itoa v).toArray.size = _; simp
  rw [e]
  exact Lib.itoa_length_le v h0 (by omega)
theorem num_digits {v : Int} (h0 : 0 ≤ v) : ∀ c ∈ (numS v).data.toList, 48 ≤ c.toNat ∧ c.toNat ≤ 57 := by
  intro c hc
  rw [numS_list] at hc
  unfold Lib.itoa at hc
  rw [if_neg (by omega)] at hc
  exact dec_digit _ c hc
theorem num_neg {v : Int} (h : v < 0) : ∃ r, (numS v).data.toList = 45 :: r := by
  rw [numS_list]
  unfold Lib.itoa
  rw [if_pos h]
  exact ⟨_, rfl⟩

/-- What digits spell, as an int64 reckons it. -/
def stepN (a c : Int) : Int := IntKind.i64.wrap (IntKind.i64.wrap (10 * a) + (c - 48))
def foldN (xs : List Int) (a : Int) : Int := xs.foldl stepN a
theorem foldN_dec : ∀ (u : Nat) (r : List Int), u < 9223372036854775808 → foldN ((Lib.decDigits u).map (fun b => (b.toNat : Int)) ++ r) 0 = foldN r u := by
  intro u
  induction u using Nat.strongRecOn with
  | _ u ih =>
    intro r hu
    by_cases h : u < 10
    · rw [Lib.decDigits_one h]
      have e := digit_toNat h
      simp only [List.map_cons, List.map_nil, List.singleton_append, foldN, List.foldl_cons]
      congr 1
      unfold stepN
      rw [e, w64 (n := 10 * 0) (by omega) (by omega), w64 (by omega) (by omega)]
      omega
    · rw [dec_big h, List.map_append, List.append_assoc, ih (u / 10) (by omega) _ (by omega)]
      have e := digit_toNat (show u % 10 < 10 by omega)
      simp only [List.map_cons, List.map_nil, List.singleton_append, foldN, List.foldl_cons]
      congr 1
      unfold stepN
      rw [e, w64 (n := 10 * ((u / 10 : Nat) : Int)) (by omega) (by omega), w64 (by omega) (by omega)]
      omega
theorem foldN_num {v : Int} (h0 : 0 ≤ v) (h1 : v < 9223372036854775808) : foldN (intsOf (numS v)) 0 = v := by
  have e : intsOf (numS v) = (Lib.decDigits v.toNat).map (fun b => (b.toNat : Int)) := by
    unfold intsOf
    rw [numS_list]
    unfold Lib.itoa
    rw [if_neg (by omega)]
  rw [e]
  have := foldN_dec v.toNat [] (by omega)
  rw [List.append_nil] at this
  rw [this]
  simp [foldN]
  omega
theorem foldN_range (xs : List Int) : -9223372036854775808 ≤ foldN xs 0 ∧ foldN xs 0 < 9223372036854775808 := by
  have go : ∀ (xs : List Int) (a : Int), (-9223372036854775808 ≤ a ∧ a < 9223372036854775808) → -9223372036854775808 ≤ foldN xs a ∧ foldN xs a < 9223372036854775808 := by
    intro xs
    induction xs with
    | nil => intro a h; exact h
    | cons x xs ih =>
      intro a _
      refine ih (stepN a x) ?_
      unfold stepN
      rw [IntKind.wrap_i64]
      omega
  exact go xs 0 (by omega)
theorem foldN_snoc (xs : List Int) (c : Int) : foldN (xs ++ [c]) 0 = stepN (foldN xs 0) c := by simp [foldN]

/-- The number's text, figure by figure. -/
theorem numS_small {n : Int} (h0 : 0 ≤ n) (h1 : n < 10) : numS n = bytesOf [48 + n] := by
  unfold numS Lib.itoa bytesOf
  rw [if_neg (by omega), Lib.decDigits_one (by omega)]
  simp only [List.map_cons, List.map_nil]
  rw [show (48 + n).toNat = 48 + n.toNat by omega]
theorem numS_big {n : Int} (h : 10 ≤ n) : numS n = numS (n / 10) ++ bytesOf [48 + n % 10] := by
  unfold numS Lib.itoa bytesOf
  rw [if_neg (by omega), if_neg (by omega), dec_big (by omega), ba_append]
  simp only [List.map_cons, List.map_nil]
  rw [show (n / 10).toNat = n.toNat / 10 by omega, show (48 + n % 10).toNat = 48 + n.toNat % 10 by omega]
theorem numS_nsmall {n : Int} (h0 : n < 0) (h1 : -10 < n) : numS n = ⟨#[45]⟩ ++ bytesOf [48 - n] := by
  unfold numS Lib.itoa bytesOf
  rw [if_pos h0, Lib.decDigits_one (by omega)]
  have := ba_append [45] [UInt8.ofNat (48 - n).toNat]
  simp only [List.map_cons, List.map_nil]
  rw [show (48 - n).toNat = 48 + n.natAbs by omega] at *
  exact this.symm
theorem numS_nbig {n : Int} (h : n ≤ -10) : numS n = numS (-(-n / 10)) ++ bytesOf [48 + -n % 10] := by
  unfold numS Lib.itoa bytesOf
  rw [if_pos (by omega), if_pos (by omega), dec_big (by omega), ba_append]
  simp only [List.map_cons, List.map_nil]
  rw [show (-(-n / 10)).natAbs = n.natAbs / 10 by omega, show (48 + -n % 10).toNat = 48 + n.natAbs % 10 by omega]
  rfl

end Go.Proofs.YtkchfbnkdpdbkaaDoor.Hx

/-
  Dots and their texts, in plain Lean. No program in sight.
-/
set_option linter.unusedVariables false
namespace Go.Proofs.YtkchfbnkdpdbkaaDoor.Dt
open Go AL Hx

/-- May a dot be? -/
def mayD (r q : Int) : Prop := 0 ≤ r ∧ r ≤ 31 ∧ 1 ≤ q ∧ q ≤ 1099511627776
instance (r q : Int) : Decidable (mayD r q) := by unfold mayD; exact inferInstance
/-- The order of two dots. -/
def cmpD (a b c d : Int) : Int := if a < c then -1 else if c < a then 1 else if b < d then -1 else if d < b then 1 else 0
/-- A dot's text. -/
def textD (r q : Int) : ByteArray := numS r ++ ⟨#[58]⟩ ++ numS q

/-- The place of the first colon. -/
def atL (l : List UInt8) : Nat := l.idxOf 58
def atS (s : ByteArray) : Nat := atL s.data.toList
def leftS (s : ByteArray) : ByteArray := s.extract 0 (atS s)
def rightS (s : ByteArray) : ByteArray := s.extract (atS s + 1) s.size

theorem at_first {l : List UInt8} {k : Nat} (hk : k < l.length) (hc : l[k] = 58) (hn : ∀ i (hi : i < k), l[i]'(by omega) ≠ 58) : atL l = k := by
  induction l generalizing k with
  | nil => simp at hk
  | cons c l ih =>
    unfold atL
    cases k with
    | zero => simp at hc; subst hc; simp
    | succ k =>
      have h0 := hn 0 (by omega)
      simp only [List.getElem_cons_zero] at h0
      rw [List.idxOf_cons, show (c == 58) = false by simpa using h0, cond_false]
      have := ih (k := k) (by simpa using hk) (by simpa using hc) (fun i hi => by have := hn (i + 1) (by omega); simpa using this)
      unfold atL at this
      rw [this]
theorem at_none {l : List UInt8} (hn : ∀ c ∈ l, c ≠ 58) : atL l = l.length := by
  unfold atL
  rw [List.idxOf_eq_length]
  exact fun h => hn 58 h rfl
theorem at_le (l : List UInt8) : atL l ≤ l.length := List.idxOf_le_length
theorem at_get {l : List UInt8} (h : atL l < l.length) : l[atL l] = 58 := by
  unfold atL
  exact List.getElem_idxOf h

theorem extract_list (s : ByteArray) (a b : Nat) : (s.extract a b).data.toList = (s.data.toList.take b).drop a := by
  rw [ByteArray.data_extract, Array.toList_extract]
  simp [List.drop_take]
theorem ba_ext' {s t : ByteArray} (h : s.data.toList = t.data.toList) : s = t := by
  cases s; cases t; simp at h; congr

/-- A text with a colon, put together. -/
theorem cut_join {s : ByteArray} (h : atS s < s.size) : leftS s ++ ⟨#[58]⟩ ++ rightS s = s := by
  refine ba_ext' ?_
  have hl : s.data.toList.length = s.size := rfl
  have h' : atL s.data.toList < s.data.toList.length := by rw [hl]; exact h
  simp only [ByteArray.data_append, Array.toList_append, leftS, rightS, extract_list, List.drop_zero]
  have h1 : s.data.toList.take s.size = s.data.toList := List.take_of_length_le (by omega)
  rw [h1]
  have h2 : s.data.toList.drop (atS s) = 58 :: s.data.toList.drop (atS s + 1) := by
    unfold atS
    rw [List.drop_eq_getElem_cons h']
    congr 1
    exact at_get h'
  have h3 := List.take_append_drop (atS s) s.data.toList
  rw [h2] at h3
  rw [List.append_assoc]
  exact h3

theorem num_no58 {n : Int} : ∀ c ∈ (numS n).data.toList, c ≠ 58 := by
  intro c hc
  by_cases h : 0 ≤ n
  · have := num_digits h c hc
    rintro rfl
    exact absurd this.2 (by decide)
  · rw [numS_list] at hc
    unfold Lib.itoa at hc
    rw [if_pos (by omega)] at hc
    rcases List.mem_cons.1 hc with rfl | hc
    · decide
    · have := dec_digit _ c hc
      rintro rfl
      exact absurd this.2 (by decide)

theorem text_list (r q : Int) : (textD r q).data.toList = (numS r).data.toList ++ 58 :: (numS q).data.toList := by
  unfold textD
  simp [ByteArray.data_append]
theorem text_at (r q : Int) : atS (textD r q) = (numS r).size := by
  have hl : (numS r).data.toList.length = (numS r).size := rfl
  unfold atS
  refine at_first (k := (numS r).size) ?_ ?_ ?_
  · rw [text_list]; simp
  · simp only [text_list]
    rw [List.getElem_append_right (by omega)]
    simp
  · intro i hi
    simp only [text_list]
    rw [List.getElem_append_left (by omega)]
    exact num_no58 _ (List.getElem_mem _)
theorem text_size (r q : Int) : (textD r q).size = (numS r).size + 1 + (numS q).size := by
  unfold textD
  rw [ByteArray.size_append, ByteArray.size_append]
  rfl
theorem text_left (r q : Int) : leftS (textD r q) = numS r := by
  refine ba_ext' ?_
  have hl : (numS r).data.toList.length = (numS r).size := rfl
  unfold leftS
  rw [extract_list, text_at, text_list, List.drop_zero, List.take_append_of_le_length (by omega), List.take_of_length_le (by omega)]
theorem text_right (r q : Int) : rightS (textD r q) = numS q := by
  refine ba_ext' ?_
  have hl : (numS r).data.toList.length = (numS r).size := rfl
  have hs : (textD r q).data.toList.length = (textD r q).size := rfl
  unfold rightS
  rw [extract_list, text_at, List.take_of_length_le (by omega), text_list, ← hl, List.drop_append, List.drop_eq_nil_of_le (by omega)]
  simp

/-- Is a text a dot's? Then of which. -/
def okP (s : ByteArray) : Prop := atS s < s.size ∧ readE (leftS s) 31 = 0 ∧ readE (rightS s) 1099511627776 = 0 ∧ mayD (readV (leftS s) 31) (readV (rightS s) 1099511627776)
open Classical in
noncomputable def parseE (s : ByteArray) : Int := if okP s then 0 else 2
open Classical in
noncomputable def parseR (s : ByteArray) : Int := if okP s then readV (leftS s) 31 else 0
open Classical in
noncomputable def parseQ (s : ByteArray) : Int := if okP s then readV (rightS s) 1099511627776 else 0

theorem parse_ok {s : ByteArray} (h : okP s) : parseE s = 0 ∧ parseR s = readV (leftS s) 31 ∧ parseQ s = readV (rightS s) 1099511627776 := by
  unfold parseE parseR parseQ
  rw [if_pos h, if_pos h, if_pos h]
  exact ⟨rfl, rfl, rfl⟩
theorem parse_bad {s : ByteArray} (h : ¬ okP s) : parseE s = 2 ∧ parseR s = 0 ∧ parseQ s = 0 := by
  unfold parseE parseR parseQ
  rw [if_neg h, if_neg h, if_neg h]
  exact ⟨rfl, rfl, rfl⟩
theorem read_num {s : ByteArray} {m : Int} (h : readE s m = 0) : isNum s (readV s m) ∧ readV s m ≤ m := by
  by_cases hx : ∃ v, isNum s v
  · obtain ⟨v, hv⟩ := hx
    by_cases hm : v > m
    · rw [(read_over hv hm).1] at h; omega
    · rw [(read_ok hv hm).2]; exact ⟨hv, by omega⟩
  · rw [(read_none (most := m) fun v hv => hx ⟨v, hv⟩).1] at h; omega
theorem neg_not' {n : Int} (h : n < 0) (v : Int) : ¬ isNum (numS n) v := fun hn => by
  obtain ⟨r, e⟩ := num_neg h
  have := num_digits hn.1 45 (by rw [← hn.2.2, e]; simp)
  exact absurd this.1 (by decide)
/-- What is parsed may be, and has the very text. -/
theorem parse_back {s : ByteArray} (h : okP s) : mayD (parseR s) (parseQ s) ∧ textD (parseR s) (parseQ s) = s := by
  obtain ⟨_, e2, e3⟩ := parse_ok h
  obtain ⟨h1, h2, h3, h4⟩ := h
  rw [e2, e3]
  refine ⟨h4, ?_⟩
  have g1 := (read_num h2).1.2.2
  have g2 := (read_num h3).1.2.2
  unfold textD
  rw [← g1, ← g2]
  exact cut_join h1
/-- A dot's text is parsed as it, if it may be, and else as none. -/
theorem parse_text {r q : Int} (hr : -9223372036854775808 ≤ r ∧ r < 9223372036854775808) (hq : -9223372036854775808 ≤ q ∧ q < 9223372036854775808) :
    (mayD r q → okP (textD r q) ∧ parseR (textD r q) = r ∧ parseQ (textD r q) = q) ∧ (¬ mayD r q → ¬ okP (textD r q)) := by
  have hat : atS (textD r q) < (textD r q).size := by rw [text_at, text_size]; omega
  refine ⟨fun h => ?_, fun h hok => ?_⟩
  · obtain ⟨h1, h2, h3, h4⟩ := h
    have a := read_ok (s := numS r) (v := r) (most := 31) ⟨h1, hr.2, rfl⟩ (by omega)
    have b := read_ok (s := numS q) (v := q) (most := 1099511627776) ⟨by omega, hq.2, rfl⟩ (by omega)
    have hok : okP (textD r q) := by
      unfold okP
      rw [text_left, text_right, a.1, a.2, b.1, b.2]
      exact ⟨hat, rfl, rfl, h1, h2, h3, h4⟩
    obtain ⟨_, e2, e3⟩ := parse_ok hok
    rw [e2, e3, text_left, text_right]
    exact ⟨hok, a.2, b.2⟩
  · obtain ⟨_, h2, h3, h4⟩ := hok
    rw [text_left] at h2 h4
    rw [text_right] at h3 h4
    have g1 := (read_num h2).1
    have g2 := (read_num h3).1
    have e1 : r = readV (numS r) 31 := by
      rcases Int.lt_or_le r 0 with hlt | hge
      · exact absurd g1 (neg_not' hlt _)
      · exact numS_inj hge hr.2 g1.1 g1.2.1 g1.2.2
    have e2 : q = readV (numS q) 1099511627776 := by
      rcases Int.lt_or_le q 0 with hlt | hge
      · exact absurd g2 (neg_not' hlt _)
      · exact numS_inj hge hq.2 g2.1 g2.2.1 g2.2.2
    rw [← e1, ← e2] at h4
    exact h h4

theorem text_inj {r q r' q' : Int} (hr : 0 ≤ r ∧ r < 9223372036854775808) (hq : 0 ≤ q ∧ q < 9223372036854775808) (hr' : 0 ≤ r' ∧ r' < 9223372036854775808) (hq' : 0 ≤ q' ∧ q' < 9223372036854775808)
    (h : textD r q = textD r' q') : r = r' ∧ q = q' := by
  have h1 : numS r = numS r' := by rw [← text_left r q, ← text_left r' q', h]
  have h2 : numS q = numS q' := by rw [← text_right r q, ← text_right r' q', h]
  exact ⟨numS_inj hr.1 hr.2 hr'.1 hr'.2 h1, numS_inj hq.1 hq.2 hq'.1 hq'.2 h2⟩
theorem text_size_le {r q : Int} (hr : -9223372036854775808 ≤ r ∧ r < 9223372036854775808) (hq : -9223372036854775808 ≤ q ∧ q < 9223372036854775808) : (textD r q).size ≤ 43 := by
  rw [text_size]
  have := num_size_le hr.1 hr.2
  have := num_size_le hq.1 hq.2
  omega
theorem text_ne (r q : Int) : textD r q ≠ ByteArray.empty := fun h => by
  have := text_size r q
  rw [h] at this
  have : ByteArray.empty.size = 0 := rfl
  omega

end Go.Proofs.YtkchfbnkdpdbkaaDoor.Dt

/-
  Integers as floats, and the sign of a difference. No program in sight.
-/
set_option linter.unusedVariables false
set_option linter.unusedSimpArgs false
namespace Go.Proofs.YtkchfbnkdpdbkaaDoor.Flt
open Ieee

theorem dbl : double.fractionBits = 52 ∧ double.exponentBits = 11 ∧ double.leastPlace = -1074 ∧ double.binade = 4503599627370496 ∧ double.signWeight = 9223372036854775808 ∧ double.infRung = 9218868437227405312 := by
  refine ⟨rfl, rfl, by decide, by decide, by decide, by decide⟩

theorem cut0 (neg : Bool) (n : Nat) : Toward.even.cut neg n 0 = n := by
  unfold Toward.cut
  simp [Nat.mod_one]

/-- A word that is read: its sign, its rung. -/
theorem read_word (neg : Bool) (rung : Nat) (h : rung ≤ 9218868437227405312) :
    double.read (double.word neg rung) = if rung < 4503599627370496 then .number neg rung (-1074) else if rung < 9218868437227405312 then .number neg (4503599627370496 + rung % 4503599627370496) (-1074 + (rung / 4503599627370496 - 1 : Nat)) else .infinity neg := by
  obtain ⟨_, _, e3, e4, e5, e6⟩ := dbl
  have h1 : double.word neg rung / 9223372036854775808 % 2 == 1 ↔ neg = true := by
    unfold Format.word
    rw [e5]
    cases neg
    · simp; omega
    · simp; omega
  have h2 : double.word neg rung % 9223372036854775808 = rung := by
    unfold Format.word
    rw [e5]
    cases neg
    · simp; omega
    · simp; omega
  have h3 : (double.word neg rung / 9223372036854775808 % 2 == 1) = neg := by
    cases neg
    · have : ¬ ((double.word false rung / 9223372036854775808 % 2 == 1) = true) := fun h => Bool.false_ne_true (h1.1 h)
      simpa using this
    · exact h1.2 rfl
  unfold Format.read
  simp only [e3, e4, e5, e6, h2, h3]
  split
  · rfl
  · split
    · rfl
    · rw [if_pos (by omega)]

theorem log2_bounds {n : Nat} (h : n ≠ 0) : 2 ^ n.log2 ≤ n ∧ n < 2 ^ (n.log2 + 1) := ⟨Nat.log2_self_le h, Nat.lt_log2_self⟩

/-- An integer as a float, read again. -/
theorem read_int (neg : Bool) (m : Nat) (h0 : m ≠ 0) (h : m < 9007199254740992) :
    double.read (double.nearest neg m 0) = .number neg (m * 2 ^ (52 - m.log2)) ((m.log2 : Int) - 52) := by
  obtain ⟨e1, _, e3, e4, e5, e6⟩ := dbl
  obtain ⟨hl, hu⟩ := log2_bounds h0
  have hL : m.log2 ≤ 52 := by
    have : m.log2 < 53 := (Nat.log2_lt h0).2 (by simpa using h)
    omega
  unfold Format.nearest
  rw [if_neg h0]
  simp only [e1, e3, e4, e6]
  have hlast : max ((0 : Int) + (m.log2 : Int) - (52 : Nat)) (-1074) = (m.log2 : Int) - 52 := by omega
  rw [hlast]
  have d1 : ((0 : Int) - ((m.log2 : Int) - 52)).toNat = 52 - m.log2 := by omega
  have d2 : (((m.log2 : Int) - 52) - 0).toNat = 0 := by omega
  rw [d1, d2, cut0, Nat.shiftLeft_eq]
  have hk : 4503599627370496 ≤ m * 2 ^ (52 - m.log2) ∧ m * 2 ^ (52 - m.log2) < 9007199254740992 := by
    have p1 : 2 ^ m.log2 * 2 ^ (52 - m.log2) = 4503599627370496 := by rw [← Nat.pow_add, show m.log2 + (52 - m.log2) = 52 by omega]
    have p2 : 2 ^ (m.log2 + 1) * 2 ^ (52 - m.log2) = 9007199254740992 := by rw [← Nat.pow_add, show m.log2 + 1 + (52 - m.log2) = 53 by omega]
    have hp : 0 < 2 ^ (52 - m.log2) := Nat.two_pow_pos _
    constructor
    · rw [← p1]; exact Nat.mul_le_mul_right _ hl
    · rw [← p2]; exact (Nat.mul_lt_mul_right hp).2 hu
  generalize hK : m * 2 ^ (52 - m.log2) = K at *
  have d3 : ((m.log2 : Int) - 52 - -1074).toNat = m.log2 + 1022 := by omega
  rw [d3, Nat.min_eq_left (by omega), read_word neg _ (by omega), if_neg (by omega), if_pos (by omega)]
  congr 1
  · omega
  · omega

/-- The sign of a number that is written and read again. -/
theorem read_sign (neg : Bool) (m : Nat) (p : Int) (h0 : m ≠ 0) (hp : -1074 ≤ p + m.log2 - 52) :
    (∃ k q, k ≠ 0 ∧ double.read (double.nearest neg m p) = .number neg k q) ∨ double.read (double.nearest neg m p) = .infinity neg := by
  obtain ⟨e1, _, e3, e4, e5, e6⟩ := dbl
  obtain ⟨hl, hu⟩ := log2_bounds h0
  unfold Format.nearest
  rw [if_neg h0]
  simp only [e1, e3, e4, e6]
  have hlast : max (p + (m.log2 : Int) - (52 : Nat)) (-1074) = p + (m.log2 : Int) - 52 := by omega
  rw [hlast]
  -- what is kept has 53 digits at least
  have hkept : 4503599627370496 ≤ Toward.even.cut neg (m <<< (p - (p + (m.log2 : Int) - 52)).toNat) ((p + (m.log2 : Int) - 52) - p).toNat := by
    by_cases h : m.log2 ≤ 52
    · have d1 : (p - (p + (m.log2 : Int) - 52)).toNat = 52 - m.log2 := by omega
      have d2 : ((p + (m.log2 : Int) - 52) - p).toNat = 0 := by omega
      rw [d1, d2, cut0, Nat.shiftLeft_eq]
      have p1 : 2 ^ m.log2 * 2 ^ (52 - m.log2) = 4503599627370496 := by rw [← Nat.pow_add, show m.log2 + (52 - m.log2) = 52 by omega]
      rw [← p1]; exact Nat.mul_le_mul_right _ hl
    · have d1 : (p - (p + (m.log2 : Int) - 52)).toNat = 0 := by omega
      have d2 : ((p + (m.log2 : Int) - 52) - p).toNat = m.log2 - 52 := by omega
      rw [d1, d2, Nat.shiftLeft_zero]
      unfold Toward.cut
      simp only []
      have : 4503599627370496 ≤ m / 1 <<< min (m.log2 - 52) (m.log2 + 2) := by
        rw [Nat.min_eq_left (by omega), Nat.shiftLeft_eq, Nat.one_mul, Nat.le_div_iff_mul_le (Nat.two_pow_pos _)]
        have p1 : 4503599627370496 * 2 ^ (m.log2 - 52) = 2 ^ m.log2 := by
          rw [show (4503599627370496 : Nat) = 2 ^ 52 by decide, ← Nat.pow_add, show 52 + (m.log2 - 52) = m.log2 by omega]
        omega
      omega
  generalize Toward.even.cut neg (m <<< (p - (p + (m.log2 : Int) - 52)).toNat) ((p + (m.log2 : Int) - 52) - p).toNat = K at *
  generalize (p + (m.log2 : Int) - 52 - -1074).toNat = E
  have hr : 4503599627370496 ≤ min (E * 4503599627370496 + K) 9218868437227405312 := Nat.le_min.2 ⟨Nat.le_trans hkept (Nat.le_add_left _ _), by omega⟩
  have hr2 : min (E * 4503599627370496 + K) 9218868437227405312 ≤ 9218868437227405312 := Nat.min_le_right _ _
  generalize min (E * 4503599627370496 + K) 9218868437227405312 = R at *
  rw [read_word neg R hr2, if_neg (by omega)]
  split
  · exact .inl ⟨_, _, by omega, rfl⟩
  · exact .inr rfl

/-- An int64 as a float. -/
def ofInt (x : Int) : Nat := double.nearest (decide (x < 0)) x.natAbs 0

theorem signed_neg (s : Bool) (m up : Nat) : signed (!s) m up = - signed s m up := by
  unfold signed
  cases s <;> simp
theorem read_ofInt {x : Int} (h : x.natAbs < 9007199254740992) : ∃ m i, double.read (ofInt x) = .number (decide (x < 0)) m i ∧ -1074 ≤ i ∧ i ≤ 0 ∧
    ∀ b : Int, b ≤ i → signed (decide (x < 0)) m (i - b).toNat = x * 2 ^ (-b).toNat := by
  by_cases h0 : x = 0
  · subst h0
    refine ⟨0, -1074, ?_, by decide, by decide, fun b hb => by simp [signed]⟩
    unfold ofInt Format.nearest
    rw [if_pos (by decide), read_word _ _ (by decide), if_pos (by decide)]
  · have hm : x.natAbs ≠ 0 := by omega
    have hL : x.natAbs.log2 ≤ 52 := by
      have : x.natAbs.log2 < 53 := (Nat.log2_lt hm).2 (by simpa using h)
      omega
    refine ⟨_, _, read_int _ _ hm h, by omega, by omega, fun b hb => ?_⟩
    have e : (52 - x.natAbs.log2) + (((x.natAbs.log2 : Int) - 52) - b).toNat = (-b).toNat := by omega
    have h1 : (x.natAbs * 2 ^ (52 - x.natAbs.log2)) <<< (((x.natAbs.log2 : Int) - 52) - b).toNat = x.natAbs * 2 ^ (-b).toNat := by
      rw [Nat.shiftLeft_eq, Nat.mul_assoc, ← Nat.pow_add, e]
    unfold signed
    rw [h1]
    by_cases hn : x < 0
    · simp only [hn, decide_true, if_true]
      have : (x.natAbs : Int) = -x := by omega
      push_cast
      rw [this, Int.neg_mul, Int.neg_neg]
    · simp only [hn, decide_false, Bool.false_eq_true, if_false]
      have : (x.natAbs : Int) = x := by omega
      push_cast
      rw [this]

theorem read_zero : double.read 0 = .number false 0 (-1074) := by decide

/-- The sign of a float. -/
def sgn (r : Nat) (c : Ordering) : Prop := double.order r 0 = some c ∧ double.order r r = some .eq

theorem sgn_zero (neg : Bool) (p : Int) : sgn (double.nearest neg 0 p) .eq := by
  have : double.read (double.nearest neg 0 p) = .number neg 0 (-1074) := by
    unfold Format.nearest
    rw [if_pos rfl, read_word _ _ (by decide), if_pos (by decide)]
  unfold sgn Format.order
  rw [this, read_zero]
  cases neg <;> decide
theorem compare_self (a : Int) : compare a a = .eq := by simp [compare, compareOfLessAndEq]
theorem sgn_read {r k : Nat} {q : Int} {neg : Bool} (hk : k ≠ 0) (h : double.read r = .number neg k q) : sgn r (if neg then .lt else .gt) := by
  unfold sgn Format.order
  rw [h, read_zero]
  refine ⟨?_, ?_⟩
  · simp only [Datum.order]
    have h0 : ∀ up, signed false 0 up = 0 := fun up => by simp [signed]
    rw [h0]
    have hp : ∀ up, (0 : Int) < ((k <<< up : Nat) : Int) := fun up => by
      rw [Nat.shiftLeft_eq]
      have : 0 < k * 2 ^ up := Nat.mul_pos (by omega) (Nat.two_pow_pos _)
      exact_mod_cast this
    have := hp (q - min q (-1074)).toNat
    cases neg
    · simp only [signed, Bool.false_eq_true, if_false, compare, compareOfLessAndEq]
      rw [if_neg (by omega), if_neg (by omega)]
    · simp only [signed, if_true, compare, compareOfLessAndEq]
      rw [if_pos (by omega)]
  · simp only [Datum.order, compare_self]
theorem sgn_inf {r : Nat} {neg : Bool} (h : double.read r = .infinity neg) : sgn r (if neg then .lt else .gt) := by
  unfold sgn Format.order
  rw [h, read_zero]
  cases neg <;> decide

/-- The difference of two integers that are small, as floats. -/
theorem sub_sgn {x y : Int} (hx : x.natAbs < 9007199254740992) (hy : y.natAbs < 9007199254740992) :
    ∃ r, double.sub (ofInt x) (ofInt y) = some r ∧ sgn r (if x < y then .lt else if x = y then .eq else .gt) := by
  obtain ⟨m, i, e1, i1, i2, hm⟩ := read_ofInt hx
  obtain ⟨n, j, e2, j1, j2, hn⟩ := read_ofInt hy
  unfold Format.sub
  rw [e1, e2]
  simp only [Datum.opposite, Datum.sum, Option.map_some]
  rw [signed_neg, hm _ (by omega), hn _ (by omega)]
  have hb : (-(min i j)).toNat ≤ 1074 := by omega
  have hb2 : min i j = -(((-(min i j)).toNat : Nat) : Int) := by omega
  generalize hB : (-(min i j)).toNat = B at *
  have ht : x * 2 ^ B + -(y * 2 ^ B) = (x - y) * 2 ^ B := by rw [Int.sub_mul]; omega
  rw [ht, hb2]
  have hpos : (0 : Int) < 2 ^ B := Int.pow_pos (by decide)
  refine ⟨_, rfl, ?_⟩
  unfold Format.write
  simp only []
  by_cases hxy : x = y
  · subst hxy
    have h0 : (x - x) * 2 ^ B = 0 := by rw [Int.sub_self, Int.zero_mul]
    have e : (if x < x then Ordering.lt else if x = x then .eq else .gt) = .eq := by rw [if_neg (Int.lt_irrefl x), if_pos rfl]
    rw [e, h0, if_pos rfl]
    exact sgn_zero _ _
  · have hne : (x - y) * 2 ^ B ≠ 0 := Int.mul_ne_zero (by omega) (Int.ne_of_gt hpos)
    rw [if_neg hne]
    have hmag : ((x - y) * 2 ^ B).natAbs ≠ 0 := by omega
    have hlog : B ≤ ((x - y) * 2 ^ B).natAbs.log2 := by
      rw [Nat.le_log2 hmag, Int.natAbs_mul]
      have h1 : ((2 : Int) ^ B).natAbs = 2 ^ B := by rw [Int.natAbs_pow]; rfl
      rw [h1]
      have h2 : 1 ≤ (x - y).natAbs := by omega
      calc 2 ^ B = 1 * 2 ^ B := by rw [Nat.one_mul]
        _ ≤ (x - y).natAbs * 2 ^ B := Nat.mul_le_mul_right _ h2
    have hsign : decide ((x - y) * 2 ^ B < 0) = decide (x < y) := by
      have : (x - y) * 2 ^ B < 0 ↔ x < y := by
        constructor
        · intro h
          rcases Int.lt_or_le x y with h' | h'
          · exact h'
          · have := Int.mul_nonneg (show 0 ≤ x - y by omega) (Int.le_of_lt hpos)
            omega
        · intro h
          have := Int.mul_pos (show 0 < y - x by omega) hpos
          have e : (x - y) * 2 ^ B = -((y - x) * 2 ^ B) := by rw [← Int.neg_mul]; congr 1; omega
          omega
      simp only [this]
    rw [hsign]
    have hres : sgn (double.nearest (decide (x < y)) ((x - y) * 2 ^ B).natAbs (-(B : Int))) (if (decide (x < y)) = true then .lt else .gt) := by
      rcases read_sign (decide (x < y)) ((x - y) * 2 ^ B).natAbs (-(B : Int)) hmag (by omega) with ⟨k, q, hk, e⟩ | e
      · exact sgn_read hk e
      · exact sgn_inf e
    by_cases hlt : x < y
    · simp only [hlt, decide_true, if_true] at hres ⊢; exact hres
    · simp only [hlt, decide_false, Bool.false_eq_true, if_false, hxy] at hres ⊢; exact hres

end Go.Proofs.YtkchfbnkdpdbkaaDoor.Flt

/-
  The contracts of dots' order, and of whether one may be: the program's and the document's.
-/
set_option linter.unusedVariables false
set_option linter.unusedSectionVars false
namespace Go.Proofs.YtkchfbnkdpdbkaaDoor.Dt
open Go AL Hx

def ordI : Ordering → Int
  | .lt => -1
  | .eq => 0
  | .gt => 1
def cmpI (a b : Int) : Int := if a < b then -1 else if b < a then 1 else 0
def ord (a b : Int) : Ordering := if a < b then .lt else if a = b then .eq else .gt
theorem ord_cmp (a b : Int) : ordI (ord a b) = cmpI a b := by
  unfold ord cmpI
  split
  · rfl
  · split
    · rw [if_neg (by omega)]; rfl
    · rw [if_pos (by omega)]; rfl
theorem cmp_two (a b c d : Int) : (if cmpI a c = 0 then cmpI b d else cmpI a c) = cmpD a b c d := by
  unfold cmpI cmpD
  by_cases h1 : a < c
  · simp [h1]
  · by_cases h2 : c < a
    · simp [h1, h2]
    · simp [h1, h2]

section
variable {P : Program}
theorem sgn0 : Flt.sgn 0 .eq := by
  refine ⟨?_, ?_⟩ <;>
  · unfold Ieee.Format.order
    rw [Flt.read_zero]
    decide
theorem run_neq {x : Nat} {c : Ordering} (h : Flt.sgn x c) (T : TypeId) (w : World) : (binOp .neq T (.float .f64 x) (.float .f64 x)).run P w = .ok (.bool false) w := by
  have : FloatKind.f64.format.order x x = some .eq := h.2
  simp [binOp, Op.floatCmp, this]
theorem run_lss {x : Nat} {c : Ordering} (h : Flt.sgn x c) (T : TypeId) (w : World) : (binOp .lss T (.float .f64 x) (.float .f64 0)).run P w = .ok (.bool (c == .lt)) w := by
  have : FloatKind.f64.format.order x 0 = some c := h.1
  simp [binOp, Op.floatCmp, this]
theorem run_gtr {x : Nat} {c : Ordering} (h : Flt.sgn x c) (T : TypeId) (w : World) : (binOp .gtr T (.float .f64 x) (.float .f64 0)).run P w = .ok (.bool (c == .gt)) w := by
  have : FloatKind.f64.format.order x 0 = some c := h.1
  simp [binOp, Op.floatCmp, this]
theorem run_conv (src dst : TypeId) (q : IntKind) (n : Int) (hs : (P.underlying src).isSome = true) (hd : P.underlying dst = some (.float .f64)) (w : World) :
    (convert src dst (.int q n)).run P w = .ok (.float .f64 (Flt.ofInt n)) w := run_convert_int_float w src dst q .f64 n hs hd
theorem run_csub (T : TypeId) {a b c d re im : Nat} (h1 : Ieee.double.sub a c = some re) (h2 : Ieee.double.sub b d = some im) (w : World) :
    (binOp .sub T (.complex .f64 a b) (.complex .f64 c d)).run P w = .ok (.complex .f64 re im) w := by
  refine run_complex_sum w .sub (.inr rfl) T .f64 a b c d re im ?_
  have e1 : floatBits .sub .f64 a c = some re := h1
  have e2 : floatBits .sub .f64 b d = some im := h2
  unfold cSumBits
  rw [e1, e2]
  rfl
end

section
variable [Globs]

/-- A number that fits into a float's 50 bits. -/
def fit (a b : Int) : Prop := -1125899906842624 < a ∧ a < 1125899906842624 ∧ -1125899906842624 < b ∧ b < 1125899906842624
instance (a b : Int) : Decidable (fit a b) := by unfold fit; exact inferInstance

end
end Go.Proofs.YtkchfbnkdpdbkaaDoor.Dt

/-
  The contracts of the numbers' texts: strconv's, hexa.Number, hexa.Read, and the document's own.
-/
set_option linter.unusedVariables false
set_option linter.unusedSectionVars false
namespace Go.Proofs.YtkchfbnkdpdbkaaDoor.Hx
open Go AL
section
variable [Globs]

def isIfc (cs : Array Value) : Prop := ∃ T u, cs = #[.iface T u]
def isTab (cs : Array Value) : Prop := cs = (Lib.pow10Tab.map (Value.int .u64)).toArray
/-- What strconv reads is known. -/
structure NumG : Prop where
  syn : (1, isIfc) ∈ Globs.l
  rng : (2, isIfc) ∈ Globs.l
  tab : (3, isTab) ∈ Globs.l

theorem below_grow {w : World} {k : Nat} {os : Array Obj} : RowKit.Below w.heap.size w (Sort.grow (w.drewN k) os) :=
  ⟨rfl, rfl, rfl, by simp [Sort.grow], fun i hi => by simp [Sort.grow]; exact Array.getElem?_append_left hi⟩

theorem format_prog (hG : NumG) (n : Int) (h0 : -9223372036854775808 ≤ n) (h1 : n < 9223372036854775808) : ACalls Tryd.prog 58 [int .i64 n, int .i64 10] [] (fun r h => r = str (numS n) ∧ h = []) := by
  refine acalls_below (args := [.int .i64 n, .int .i64 10]) ⟨_, Tryd.func58, by decide, rfl⟩ trivial trivial fun S w hg => ?_
  obtain ⟨cs, hv, hc⟩ := hg.var (P := Tryd.prog) (n := "internal/strconv.uint64pow10") (by kernel_rfl) hG.tab
  refine (Tryd.strconv_FormatInt_10 n h0 (by omega) w (by unfold Lib.TabIs; rw [hv]; exact congrArg some hc)).mono fun e w' he => ?_
  obtain ⟨rfl, k, os, rfl⟩ := he
  exact ⟨_, rfl, rfl, below_grow⟩

/-- What ParseInt hands back. -/
def parseT (s : ByteArray) : AV := match Lib.parseIntB 64 s.data.toList with
  | .ok v => .tup 2 (pair (int .i64 v) (.raw .nilIface))
  | .range => .tup 2 (pair (int .i64 (Lib.intSat 64 s.data.toList)) .ifc)
  | _ => .tup 2 (pair (int .i64 0) .ifc)
theorem den_pair {w : World} {S : Nat → Prop} {L : AL.Loc} {a b : AV} {u v : Value} (h1 : den w S L a u) (h2 : den w S L b v) : den w S L (.tup 2 (pair a b)) (.tuple #[u, v]) :=
  ⟨_, rfl, rfl, fun i hi => by
    match i, hi with
    | 0, _ => exact ⟨u, rfl, h1⟩
    | 1, _ => exact ⟨v, rfl, h2⟩⟩
theorem parseInt_prog (hG : NumG) (s : ByteArray) (hs : s.size ≤ 281474976710656) : ACalls Tryd.prog 57 [str s, int .i64 10, int .i64 64] [] (fun r h => r = parseT s ∧ h = []) := by
  have free : ∀ a b : AV, a.free → b.free → (AV.tup 2 (pair a b)).free := fun a b ha hb i hi => by
    match i, hi with
    | 0, _ => exact ha
    | 1, _ => exact hb
  have flat : ∀ a b : AV, a.flat → b.flat → (AV.tup 2 (pair a b)).flat := fun a b ha hb i hi => by
    match i, hi with
    | 0, _ => exact ha
    | 1, _ => exact hb
  refine acalls_below (args := [.string s, .int .i64 10, .int .i64 64]) ⟨_, Tryd.func57, by decide, rfl⟩ ?_ ?_ fun S w hg => ?_
  · unfold parseT; split
    · exact free _ _ trivial trivial
    · exact free _ _ trivial trivial
    · exact free _ _ trivial trivial
  · unfold parseT; split
    · exact flat _ _ trivial trivial
    · exact flat _ _ trivial trivial
    · exact flat _ _ trivial trivial
  unfold parseT
  cases hp : Lib.parseIntB 64 s.data.toList
  · rename_i v
    refine (Tryd.strconv_ParseInt_10_at64_ok s (by omega) v hp w).mono fun e w' he => ?_
    obtain ⟨rfl, hw⟩ := he
    refine ⟨_, rfl, den_pair rfl rfl, ?_⟩
    rcases hw with rfl | ⟨t, rfl⟩
    · exact .refl _ _
    · exact Lib.bytesWorld_below _ _ _
  · obtain ⟨cs, hv, tp, u, rfl⟩ := hg.var (P := Tryd.prog) (n := "strconv.ErrSyntax") (by kernel_rfl) hG.syn
    refine (Go.Proofs.Any.strconv_ParseInt_10_at64_syntax_var Tryd.laysC174 s hs hp tp u w hv).mono fun e w' he => ?_
    obtain ⟨N, rfl, _, _, hb⟩ := he
    exact ⟨_, rfl, den_pair rfl ⟨_, _, rfl⟩, hb⟩
  · obtain ⟨cs, hv, tp, u, rfl⟩ := hg.var (P := Tryd.prog) (n := "strconv.ErrRange") (by kernel_rfl) hG.rng
    refine (Tryd.strconv_ParseInt_10_at64_range_var s hs hp tp u w hv).mono fun e w' he => ?_
    obtain ⟨N, rfl, _, _, hb⟩ := he
    exact ⟨_, rfl, den_pair rfl ⟨_, _, rfl⟩, hb⟩

set_option maxHeartbeats 1000000 in
set_option maxRecDepth 10000 in
theorem number_prog (hG : NumG) (n : Int) (h0 : -9223372036854775808 ≤ n) (h1 : n < 9223372036854775808) : ACalls Tryd.prog 39 [int .i64 n] [] (fun r h => r = str (numS n) ∧ h = []) := by
  have hf := format_prog hG n h0 h1
  generalize numS n = S at *
  refine rcalls Tryd.func39 rfl (by decide) ?_
  refine ⟨[], _, hf, ?_⟩
  rintro r h ⟨rfl, rfl⟩
  refine ⟨.inl rfl, ?_⟩
  exact ⟨[], [], _, leh0, leS rfl, rfl, rfl⟩

/-- What Read hands back. -/
def ReadR (s : ByteArray) (most : Int) (r : AV) (h : List AO) : Prop := r = .tup 2 (pair (int .i64 (readV s most)) (int .i64 (readE s most))) ∧ h = []

set_option maxHeartbeats 1000000 in
set_option maxRecDepth 10000 in
theorem read_prog (hG : NumG) (s : ByteArray) (most : Int) (hs : s.size ≤ 281474976710656) : ACalls Tryd.prog 38 [str s, int .i64 most] [] (ReadR s most) := by
  have hp := parseInt_prog hG s hs
  have bad : (∀ v, ¬ isNum s v) → ∀ h, ∃ l h1 b, LeH 0 h l h1 ∧ LeV h l (.tup 2 fun i => [int .i64 0, int .i64 2].getD i .top) b ∧ ReadR s most b h1 := fun hn h => by
    obtain ⟨e1, e2⟩ := read_none (most := most) hn
    exact ⟨[], [], _, lehN _, le_pair (leI e2.symm) (leI e1.symm), rfl, rfl⟩
  refine rcalls Tryd.func38 rfl (by decide) ?_
  unfold parseT at hp
  cases hv : Lib.parseIntB 64 s.data.toList
  · rename_i v
    rw [hv] at hp
    have hb := Lib.parseIntB_bounds hv
    have hb1 : v < 9223372036854775808 := by have := hb.2; omega
    have hb0 : -9223372036854775808 ≤ v := by have := hb.1; omega
    refine ⟨[], _, hp, ?_⟩
    rintro r h ⟨rfl, rfl⟩
    refine ⟨.inl rfl, ?_⟩
    have uniq : ∀ u, isNum s u → u = v := fun u hn => by
      rw [hn.2.2, numS_list, parse_itoa hn.1 hn.2.1] at hv
      injection hv
    refine ⟨fun c1 => ?_, fun c1 => ?_⟩
    · refine ⟨fun _ => bad (fun u hn => ?_) _, fun e => by rw [c1] at e; cases e⟩
      have := uniq u hn
      have := hn.1
      have := yes c1
      omega
    · have c2 : 0 ≤ v := by have := no c1; omega
      have hf := number_prog hG v hb0 hb1
      obtain ⟨S, hS⟩ : ∃ S, numS v = S := ⟨_, rfl⟩
      rw [hS] at hf
      refine ⟨[], _, hf, ?_⟩
      rintro r h ⟨rfl, rfl⟩
      refine ⟨.inl rfl, ?_⟩
      refine ⟨fun d1 => ?_, fun d1 => ?_⟩
      · have d2 : ¬ S = s := of_decide_eq_true d1
        refine bad (fun u hn => ?_) _
        have e := uniq u hn
        subst e
        exact d2 (hS.symm.trans hn.2.2.symm)
      · have d2 : S = s := Classical.byContradiction fun hne => of_decide_eq_false d1 hne
        have hn : isNum s v := ⟨c2, hb1, by rw [hS, d2]⟩
        refine ⟨fun e1 => ?_, fun e1 => ?_⟩
        · obtain ⟨g1, g2⟩ := read_over hn (yes e1)
          exact ⟨[], [], _, lehN _, le_pair (leI g2.symm) (leI g1.symm), rfl, rfl⟩
        · obtain ⟨g1, g2⟩ := read_ok hn (no e1)
          exact ⟨[], [], _, lehN _, le_pair (leI g2.symm) (leI g1.symm), rfl, rfl⟩
  all_goals
    rw [hv] at hp
    refine ⟨[], _, hp, ?_⟩
    rintro r h ⟨rfl, rfl⟩
    refine ⟨.inl rfl, ?_⟩
    refine bad (fun v hn => ?_) _
    rw [hn.2.2, numS_list, parse_itoa hn.1 hn.2.1] at hv
    cases hv

end
end Go.Proofs.YtkchfbnkdpdbkaaDoor.Hx

/-
  The contracts of the dot behind one, and of a dot's text: the program's and the document's.
-/
set_option linter.unusedVariables false
set_option linter.unusedSectionVars false
namespace Go.Proofs.YtkchfbnkdpdbkaaDoor.Dt
open Go AL Hx

def nextE (a b : Int) : Int := if a < 0 ∨ 31 < a ∨ b < 0 ∨ 1099511627776 < b then 1 else if b = 1099511627776 then 8 else 0
def nextR (a b : Int) : Int := if nextE a b = 0 then a else 0
def nextQ (a b : Int) : Int := if nextE a b = 0 then b + 1 else 0
def NextR (a b : Int) (r : AV) (h : List AO) : Prop := r = .tup 2 (pair (dotV (nextR a b) (nextQ a b)) (int .i64 (nextE a b))) ∧ h = []
theorem next_bad {a b e : Int} (h : nextE a b = e) (he : e ≠ 0) : nextR a b = 0 ∧ nextQ a b = 0 := by
  unfold nextR nextQ
  rw [h, if_neg he, if_neg he]
  exact ⟨rfl, rfl⟩
theorem next_ok {a b : Int} (h : nextE a b = 0) : nextR a b = a ∧ nextQ a b = b + 1 ∧ 0 ≤ a ∧ a ≤ 31 ∧ 0 ≤ b ∧ b < 1099511627776 := by
  unfold nextR nextQ
  rw [h]
  refine ⟨rfl, rfl, ?_⟩
  unfold nextE at h
  split at h
  · omega
  · split at h <;> omega
theorem next_cases (a b : Int) : nextE a b = 0 ∨ nextE a b ≠ 0 ∧ (b < 0 ∨ b ≥ 1099511627776 ∨ a < 0 ∨ a > 31) := by
  unfold nextE
  split
  · right; omega
  · split
    · right; omega
    · left; rfl

section
variable [Globs]

end
end Go.Proofs.YtkchfbnkdpdbkaaDoor.Dt

/-
  Whether a text may be a path, a user's own one.
-/
set_option linter.unusedVariables false
set_option linter.unusedSectionVars false
namespace Go.Proofs.YtkchfbnkdpdbkaaDoor.Pa
open Go AL Spl Hx

section
variable [Globs]

theorem cut_eq {s : ByteArray} {i : Nat} (h100 : ¬ s.size ≤ 100) (hi : i ≤ s.size) (hlo : s.size - 101 ≤ i) (hn : ∀ j, j < i → s.size - 101 ≤ j → ¬ (intsOf s).getD j 0 = 47) (hc : i = s.size ∨ i < s.size ∧ (intsOf s).getD i 0 = 47) : cutS s = i := by
  have hl : s.data.toList.length = s.size := rfl
  have : firstC 47 (s.data.toList.drop (s.size - 101)) = i - (s.size - 101) := by
    refine firstC_eq (by rw [List.length_drop, hl]; omega) (fun j hj e => ?_) ?_
    · rw [List.getElem?_drop] at e
      obtain ⟨b, e1, e2⟩ := byte_get (s := s) (i := s.size - 101 + j) (by omega)
      rw [e1] at e
      cases e
      exact hn (s.size - 101 + j) (by omega) (by omega) e2
    · rw [List.length_drop, hl]
      rcases hc with hc | ⟨h1, h2⟩
      · left; omega
      · right
        rw [List.getElem?_drop, show s.size - 101 + (i - (s.size - 101)) = i by omega]
        obtain ⟨b, e1, e2⟩ := byte_get (s := s) (i := i) h1
        rw [e1, (byte_is (c := 47) e2).1 h2]
  unfold cutS
  omega

set_option maxHeartbeats 2000000 in
set_option maxRecDepth 10000 in
theorem split_ref (s : ByteArray) (hs : s.size ≤ 9223372036854775805) : ACalls Tryd.prog 44 [str s] [] (SplitR s) := by
  have hl : s.data.toList.length = s.size := rfl
  have hbad := @split_bad s
  have hok : okSplit s ↔ okParts s ∧ s.size ≤ 254 ∧ (s.size ≤ 100 ∨ cutS s < s.size ∧ cutS s ≤ 155) := Iff.rfl
  have hce := @cut_eq _ s
  have hw := parts_ref s (by omega)
  unfold SplitR
  have hgood1 : okSplit s → s.size ≤ 100 → preS s = ByteArray.empty ∧ nameS s = s ∧ errS s = 0 := fun h h1 =>
    ⟨if_neg fun e => e.2 h1, by unfold nameS; rw [if_pos h, if_pos h1], if_pos h⟩
  have hgood2 : okSplit s → ¬ s.size ≤ 100 → preS s = s.extract 0 (cutS s) ∧ nameS s = s.extract (cutS s + 1) s.size ∧ errS s = 0 := fun h h1 =>
    ⟨if_pos ⟨h, h1⟩, by unfold nameS; rw [if_pos h, if_neg h1], if_pos h⟩
  generalize preS s = Pr at *
  generalize nameS s = Na at *
  generalize errS s = Er at *
  generalize cutS s = C at *
  refine rcalls Tryd.func44 rfl (by decide) ?_
  refine ⟨[], _, hw, ?_⟩
  rintro r hh ⟨rfl, rfl⟩
  refine ⟨.inl rfl, ?_⟩
  have bad : ∀ {h : List AO} {l : List Nat} {f : Nat → AV}, ¬ okSplit s → f 0 = str ByteArray.empty → f 1 = str ByteArray.empty → f 2 = int .i64 9 → LeV h l (.tup 3 f) (.tup 3 (triple (str Pr) (str Na) (int .i64 Er))) := fun h h0 h1 h2 => by
    obtain ⟨e1, e2, e3⟩ := hbad h
    exact le_triple (by rw [h0]; exact leS e1.symm) (by rw [h1]; exact leS e2.symm) (by rw [h2]; exact leI e3.symm)
  refine ⟨fun c1 => ?_, fun c1 => ⟨fun c2 => ?_, fun c2 => ?_⟩⟩
  · exact ⟨[], [], _, lehN _, bad (fun h => notT c1 h.1) rfl rfl rfl, rfl, rfl⟩
  · exact ⟨[], [], _, lehN _, bad (fun h => by have := h.2.1; have := yes c2; omega) rfl rfl rfl, rfl, rfl⟩
  · have g1 := notF c1
    have g2 : s.size ≤ 254 := by have := no c2; omega
    refine ⟨fun c3 => ?_, fun c3 => ?_⟩
    · have h1 : s.size ≤ 100 := by have := yes c3; omega
      obtain ⟨e1, e2, e3⟩ := hgood1 ⟨g1, g2, .inl h1⟩ h1
      exact ⟨[], [], _, lehN _, le_triple (leS e1.symm) (leS e2.symm) (leI e3.symm), rfl, rfl⟩
    · have h1 : ¬ s.size ≤ 100 := by have := no c3; omega
      refine ⟨Nat, fun k => [(0, str s), (5, int .i64 k)], fun _ => [], fun k => k ≤ s.size ∧ ∀ j, j < k → s.size - 101 ≤ j → ¬ (intsOf s).getD j 0 = 47, fun k => s.size - k,
        ⟨0, [], ⟨Nat.zero_le _, fun j hj => by omega⟩, lehN _, ⟨leS rfl, leI rfl, trivial⟩⟩, ?_⟩
      rintro k ⟨hk, hj⟩
      refine ⟨fun c => ?_, fun c => ?_⟩
      · have f1 : (k : Int) < s.size := yes c
        have e1 : IntKind.i64.wrap ((k : Int) + 1) = ((k + 1 : Nat) : Int) := by rw [w64 (by omega) (by omega)]; omega
        have e2 : IntKind.i64.wrap (IntKind.i64.wrap ((s.size : Int) - k) - 1) = (s.size : Int) - k - 1 := by rw [w64 (n := (s.size : Int) - k) (by omega) (by omega), w64 (by omega) (by omega)]
        have hto : ((k : Int)).toNat = k := by omega
        have q1 : (IntKind.i64.wrap ((k : Int) + 1)).toNat = k + 1 := by rw [e1]; omega
        have next : (s.size - 101 ≤ k → ¬ (intsOf s).getD k 0 = 47) → ∀ j, j < k + 1 → s.size - 101 ≤ j → ¬ (intsOf s).getD j 0 = 47 := fun h j h1 h2 => by
          rcases Nat.lt_or_ge j k with h3 | h3
          · exact hj j h3 h2
          · rw [show j = k by omega] at h2 ⊢; exact h h2
        refine ⟨⟨by omega, f1⟩, fun c4 => ⟨fun c5 => ?_, fun c5 => ?_⟩, fun c4 => ?_⟩
        · have c4 : (intsOf s).getD ((k : Int)).toNat 0 = 47 := yes c4
          have c5 := yes c5
          rw [hto] at c4
          rw [e2] at c5
          obtain rfl := hce h1 hk (by omega) hj (.inr ⟨by omega, c4⟩)
          refine ⟨fun c6 => ?_, fun c6 => ?_⟩
          · exact ⟨[], [], _, lehN _, bad (fun h => by have := (hok.1 h).2.2; have := yes c6; omega) rfl rfl rfl, rfl, rfl⟩
          · obtain ⟨d1, d2, d3⟩ := hgood2 (hok.2 ⟨g1, g2, .inr ⟨by omega, by have := no c6; omega⟩⟩) h1
            refine .inl ⟨⟨by decide +kernel, by decide +kernel⟩, ?_⟩
            refine ⟨⟨by omega, by omega⟩, ?_⟩
            refine ⟨⟨by rw [e1]; omega, by rw [e1]; omega⟩, ?_⟩
            exact ⟨[], [], _, lehN _, le_triple (leS (by rw [d1, hto])) (leS (by rw [d2, q1])) (leI d3.symm), rfl, rfl⟩
        · have c5 := no c5
          rw [e2] at c5
          exact ⟨trivial, k + 1, [], ⟨by show k + 1 ≤ _; omega, next fun h => by omega⟩, by show s.size - (k + 1) < s.size - k; omega, lehN _, ⟨leS rfl, leI e1, trivial⟩⟩
        · have c4 : ¬ (intsOf s).getD ((k : Int)).toNat 0 = 47 := no c4
          rw [hto] at c4
          exact ⟨trivial, k + 1, [], ⟨by show k + 1 ≤ _; omega, next fun h => c4⟩, by show s.size - (k + 1) < s.size - k; omega, lehN _, ⟨leS rfl, leI e1, trivial⟩⟩
      · have f1 : ¬ (k : Int) < s.size := no c
        obtain rfl : k = s.size := by omega
        have hC := hce h1 hk (by omega) hj (.inl rfl)
        exact ⟨[], [], _, lehN _, bad (fun h => by have := (hok.1 h).2.2; omega) rfl rfl rfl, rfl, rfl⟩

theorem err_iff (s : ByteArray) : decide (errS s = 0) = decide (okSplit s) := decide_eq_decide.2 ⟨fun h => Classical.byContradiction fun hn => (by rw [(split_bad hn).2.2] at h; cases h), fun h => if_pos h⟩

def copyS (s : ByteArray) (r q : Int) : ByteArray := s ++ ⟨#[126]⟩ ++ numS r ++ ⟨#[45]⟩ ++ numS q

/-- The longest copy of a path. -/
def longS (s : ByteArray) : ByteArray := s ++ ⟨#[126, 51, 49, 45, 49, 48, 57, 57, 53, 49, 49, 54, 50, 55, 55, 55, 54]⟩
theorem copy_long (s : ByteArray) : copyS s 31 1099511627776 = longS s := by
  have h1 : numS 31 = ⟨#[51, 49]⟩ := by decide +kernel
  have h2 : numS 1099511627776 = ⟨#[49, 48, 57, 57, 53, 49, 49, 54, 50, 55, 55, 55, 54]⟩ := by decide +kernel
  unfold copyS longS
  rw [h1, h2]
  refine bA_ext ?_
  simp
theorem long_size (s : ByteArray) : (longS s).size = s.size + 17 := by
  unfold longS
  rw [ByteArray.size_append]
  rfl
def hasT (s : ByteArray) : Prop := (126 : UInt8) ∈ s.data.toList
instance (s : ByteArray) : Decidable (hasT s) := by unfold hasT; infer_instance
theorem has_at (s : ByteArray) : hasT s ↔ ∃ i, i < s.size ∧ (intsOf s).getD i 0 = 126 := by
  constructor
  · intro h
    obtain ⟨i, hi, e⟩ := List.getElem_of_mem h
    obtain ⟨b, e1, e2⟩ := byte_get (s := s) (i := i) hi
    rw [List.getElem?_eq_getElem hi, e] at e1
    cases e1
    exact ⟨i, hi, e2⟩
  · rintro ⟨i, hi, e⟩
    obtain ⟨b, e1, e2⟩ := byte_get (s := s) (i := i) hi
    rw [(byte_is (c := 126) e2).1 e] at e1
    exact List.mem_of_getElem? e1
def okOwn (s : ByteArray) : Prop := okSplit s ∧ s.size ≤ 200 ∧ ¬ hasT s ∧ okSplit (longS s)
instance (s : ByteArray) : Decidable (okOwn s) := by unfold okOwn; infer_instance

theorem has_index (s : ByteArray) : decide (0 ≤ Lib.indexByte s.data.toList 126) = true ↔ hasT s := by
  have hl : s.data.toList.length = s.size := rfl
  rw [decide_eq_true_eq, index_first, has_at]
  by_cases h : firstC 126 s.data.toList < s.data.toList.length
  · rw [if_pos h]
    refine ⟨fun _ => ⟨firstC 126 s.data.toList, h, ?_⟩, fun _ => by omega⟩
    obtain ⟨b, e1, e2⟩ := byte_get (s := s) h
    have := firstC_at h
    rw [e1] at this
    cases this
    exact e2
  · rw [if_neg h]
    refine ⟨fun e => by omega, fun ⟨i, h1, h2⟩ => ?_⟩
    obtain ⟨b, e1, e2⟩ := byte_get (s := s) h1
    rw [(byte_is (c := 126) e2).1 h2] at e1
    have := firstC_le 126 s.data.toList
    exact absurd e1 (firstC_not (by omega))

end
end Go.Proofs.YtkchfbnkdpdbkaaDoor.Pa

/-
  Paths out of two fields: path.Join and the document's.
-/
set_option linter.unusedVariables false
set_option linter.unusedSectionVars false
namespace Go.Proofs.YtkchfbnkdpdbkaaDoor.Hd
open Go AL Spl Pa
section
variable [Globs]

def JoinR (p n : ByteArray) (r : AV) (h : List AO) : Prop := r = .tup 2 (pair (str (joinS p n)) (int .i64 (joinE p n))) ∧ h = []


set_option maxHeartbeats 1000000 in
set_option maxRecDepth 10000 in
theorem join_path (p n : ByteArray) (hp : p.size ≤ 281474976710656) (hn : n.size ≤ 281474976710656) : ACalls Tryd.prog 49 [str p, str n] [] (JoinR p n) := by
  obtain ⟨T, hT⟩ : ∃ T, joinT p n = T := ⟨_, rfl⟩
  have hsz : T.size ≤ 9223372036854775805 := by
    rw [← hT]; unfold joinT; split
    · omega
    · rw [ByteArray.size_append, ByteArray.size_append]; show p.size + 1 + n.size ≤ _; omega
  have h1 := split_path T hsz
  unfold JoinR
  refine rcalls Tryd.func49 rfl (by decide) ?_
  refine ⟨fun c => ?_, fun c => ?_⟩
  · have hpe : ¬ p = ByteArray.empty := yes c
    have hTe : p ++ ⟨#[47]⟩ ++ n = T := by rw [← hT]; unfold joinT; rw [if_neg hpe]
    refine ⟨by show p.size + 1 < _; omega, ?_⟩
    refine ⟨by rw [ByteArray.size_append]; show p.size + 1 + n.size < _; omega, ?_⟩
    rw [hTe]
    have h2 := h1
    have hZ : T = T := rfl
    have hl : joinT p n = T := hT
    clear h1
    unfold SplitR at h2
    have hbad : ¬ (errS T = 0 ∧ preS T = p ∧ nameS T = n) → ByteArray.empty = joinS p n ∧ (9 : Int) = joinE p n := fun h => by
      have : ¬ okJoin p n := fun g => h (by
        unfold okJoin at g; rw [hl] at g
        exact ⟨if_pos g.1, g.2⟩)
      unfold joinS joinE; rw [if_neg this, if_neg this]; exact ⟨rfl, rfl⟩
    have hgood : errS T = 0 → preS T = p → nameS T = n → T = joinS p n ∧ (0 : Int) = joinE p n := fun e1 e2 e3 => by
      have : okJoin p n := by
        unfold okJoin; rw [hl]
        refine ⟨Classical.byContradiction fun g => ?_, e2, e3⟩
        unfold errS at e1; rw [if_neg g] at e1; omega
      unfold joinS joinE; rw [if_pos this, if_pos this]; exact ⟨hl.symm, rfl⟩
    generalize errS T = E at *
    generalize preS T = P at *
    generalize nameS T = N at *
    generalize joinS p n = JS at *
    generalize joinE p n = JE at *
    refine ⟨[], _, h2, ?_⟩
    rintro r hh ⟨rfl, rfl⟩
    refine ⟨.inl rfl, ?_⟩
    refine ⟨fun c1 => ?_, fun c1 => ?_⟩
    · obtain ⟨g1, g2⟩ := hbad fun x => yes c1 x.1
      exact ⟨[], [], _, leh0, le_pair (leS g1) (leI g2), rfl, rfl⟩
    refine ⟨fun c2 => ?_, fun c2 => ?_⟩
    · obtain ⟨g1, g2⟩ := hbad fun x => yes c2 x.2.1
      exact ⟨[], [], _, leh0, le_pair (leS g1) (leI g2), rfl, rfl⟩
    refine ⟨fun c3 => ?_, fun c3 => ?_⟩
    · obtain ⟨g1, g2⟩ := hbad fun x => yes c3 x.2.2
      exact ⟨[], [], _, leh0, le_pair (leS g1) (leI g2), rfl, rfl⟩
    have k1 : E = 0 := Classical.byContradiction fun x => no c1 x
    have k2 : P = p := Classical.byContradiction fun x => no c2 x
    have k3 : N = n := Classical.byContradiction fun x => no c3 x
    obtain ⟨g1, g2⟩ := hgood k1 k2 k3
    exact ⟨[], [], _, leh0, le_pair (leS (hZ.trans g1)) (leI g2), rfl, rfl⟩
  · have hpe : p = ByteArray.empty := Classical.byContradiction fun x => no c x
    have hTe : n = T := by rw [← hT]; unfold joinT; rw [if_pos hpe]
    have h2 : ACalls Tryd.prog 40 [str n] [] (SplitR T) := by rw [hTe]; exact h1
    have hZ : n = T := hTe
    have hl : joinT p n = T := hT
    clear h1
    unfold SplitR at h2
    have hbad : ¬ (errS T = 0 ∧ preS T = p ∧ nameS T = n) → ByteArray.empty = joinS p n ∧ (9 : Int) = joinE p n := fun h => by
      have : ¬ okJoin p n := fun g => h (by
        unfold okJoin at g; rw [hl] at g
        exact ⟨if_pos g.1, g.2⟩)
      unfold joinS joinE; rw [if_neg this, if_neg this]; exact ⟨rfl, rfl⟩
    have hgood : errS T = 0 → preS T = p → nameS T = n → T = joinS p n ∧ (0 : Int) = joinE p n := fun e1 e2 e3 => by
      have : okJoin p n := by
        unfold okJoin; rw [hl]
        refine ⟨Classical.byContradiction fun g => ?_, e2, e3⟩
        unfold errS at e1; rw [if_neg g] at e1; omega
      unfold joinS joinE; rw [if_pos this, if_pos this]; exact ⟨hl.symm, rfl⟩
    generalize errS T = E at *
    generalize preS T = P at *
    generalize nameS T = N at *
    generalize joinS p n = JS at *
    generalize joinE p n = JE at *
    refine ⟨[], _, h2, ?_⟩
    rintro r hh ⟨rfl, rfl⟩
    refine ⟨.inl rfl, ?_⟩
    refine ⟨fun c1 => ?_, fun c1 => ?_⟩
    · obtain ⟨g1, g2⟩ := hbad fun x => yes c1 x.1
      exact ⟨[], [], _, leh0, le_pair (leS g1) (leI g2), rfl, rfl⟩
    refine ⟨fun c2 => ?_, fun c2 => ?_⟩
    · obtain ⟨g1, g2⟩ := hbad fun x => yes c2 x.2.1
      exact ⟨[], [], _, leh0, le_pair (leS g1) (leI g2), rfl, rfl⟩
    refine ⟨fun c3 => ?_, fun c3 => ?_⟩
    · obtain ⟨g1, g2⟩ := hbad fun x => yes c3 x.2.2
      exact ⟨[], [], _, leh0, le_pair (leS g1) (leI g2), rfl, rfl⟩
    have k1 : E = 0 := Classical.byContradiction fun x => no c1 x
    have k2 : P = p := Classical.byContradiction fun x => no c2 x
    have k3 : N = n := Classical.byContradiction fun x => no c3 x
    obtain ⟨g1, g2⟩ := hgood k1 k2 k3
    exact ⟨[], [], _, leh0, le_pair (leS (hZ.trans g1)) (leI g2), rfl, rfl⟩

set_option maxHeartbeats 1000000 in
set_option maxRecDepth 10000 in
theorem join_ref (p n : ByteArray) (hp : p.size ≤ 281474976710656) (hn : n.size ≤ 281474976710656) : ACalls Tryd.prog 53 [str p, str n] [] (JoinR p n) := by
  obtain ⟨T, hT⟩ : ∃ T, joinT p n = T := ⟨_, rfl⟩
  have hsz : T.size ≤ 9223372036854775805 := by
    rw [← hT]; unfold joinT; split
    · omega
    · rw [ByteArray.size_append, ByteArray.size_append]; show p.size + 1 + n.size ≤ _; omega
  have h1 := split_ref T hsz
  unfold JoinR
  refine rcalls Tryd.func53 rfl (by decide) ?_
  refine ⟨fun c => ?_, fun c => ?_⟩
  · have hpe : ¬ p = ByteArray.empty := yes c
    have hTe : p ++ ⟨#[47]⟩ ++ n = T := by rw [← hT]; unfold joinT; rw [if_neg hpe]
    refine ⟨by show p.size + 1 < _; omega, ?_⟩
    refine ⟨by rw [ByteArray.size_append]; show p.size + 1 + n.size < _; omega, ?_⟩
    rw [hTe]
    have h2 := h1
    have hZ : T = T := rfl
    have hl : joinT p n = T := hT
    clear h1
    unfold SplitR at h2
    have hbad : ¬ (errS T = 0 ∧ preS T = p ∧ nameS T = n) → ByteArray.empty = joinS p n ∧ (9 : Int) = joinE p n := fun h => by
      have : ¬ okJoin p n := fun g => h (by
        unfold okJoin at g; rw [hl] at g
        exact ⟨if_pos g.1, g.2⟩)
      unfold joinS joinE; rw [if_neg this, if_neg this]; exact ⟨rfl, rfl⟩
    have hgood : errS T = 0 → preS T = p → nameS T = n → T = joinS p n ∧ (0 : Int) = joinE p n := fun e1 e2 e3 => by
      have : okJoin p n := by
        unfold okJoin; rw [hl]
        refine ⟨Classical.byContradiction fun g => ?_, e2, e3⟩
        unfold errS at e1; rw [if_neg g] at e1; omega
      unfold joinS joinE; rw [if_pos this, if_pos this]; exact ⟨hl.symm, rfl⟩
    generalize errS T = E at *
    generalize preS T = P at *
    generalize nameS T = N at *
    generalize joinS p n = JS at *
    generalize joinE p n = JE at *
    refine ⟨[], _, h2, ?_⟩
    rintro r hh ⟨rfl, rfl⟩
    refine ⟨.inl rfl, ?_⟩
    refine ⟨fun c1 => ?_, fun c1 => ?_⟩
    · obtain ⟨g1, g2⟩ := hbad fun x => yes c1 x.1
      exact ⟨[], [], _, leh0, le_pair (leS g1) (leI g2), rfl, rfl⟩
    refine ⟨fun c2 => ?_, fun c2 => ?_⟩
    · obtain ⟨g1, g2⟩ := hbad fun x => yes c2 x.2.1
      exact ⟨[], [], _, leh0, le_pair (leS g1) (leI g2), rfl, rfl⟩
    refine ⟨fun c3 => ?_, fun c3 => ?_⟩
    · obtain ⟨g1, g2⟩ := hbad fun x => yes c3 x.2.2
      exact ⟨[], [], _, leh0, le_pair (leS g1) (leI g2), rfl, rfl⟩
    have k1 : E = 0 := Classical.byContradiction fun x => no c1 x
    have k2 : P = p := Classical.byContradiction fun x => no c2 x
    have k3 : N = n := Classical.byContradiction fun x => no c3 x
    obtain ⟨g1, g2⟩ := hgood k1 k2 k3
    exact ⟨[], [], _, leh0, le_pair (leS (hZ.trans g1)) (leI g2), rfl, rfl⟩
  · have hpe : p = ByteArray.empty := Classical.byContradiction fun x => no c x
    have hTe : n = T := by rw [← hT]; unfold joinT; rw [if_pos hpe]
    have h2 : ACalls Tryd.prog 44 [str n] [] (SplitR T) := by rw [hTe]; exact h1
    have hZ : n = T := hTe
    have hl : joinT p n = T := hT
    clear h1
    unfold SplitR at h2
    have hbad : ¬ (errS T = 0 ∧ preS T = p ∧ nameS T = n) → ByteArray.empty = joinS p n ∧ (9 : Int) = joinE p n := fun h => by
      have : ¬ okJoin p n := fun g => h (by
        unfold okJoin at g; rw [hl] at g
        exact ⟨if_pos g.1, g.2⟩)
      unfold joinS joinE; rw [if_neg this, if_neg this]; exact ⟨rfl, rfl⟩
    have hgood : errS T = 0 → preS T = p → nameS T = n → T = joinS p n ∧ (0 : Int) = joinE p n := fun e1 e2 e3 => by
      have : okJoin p n := by
        unfold okJoin; rw [hl]
        refine ⟨Classical.byContradiction fun g => ?_, e2, e3⟩
        unfold errS at e1; rw [if_neg g] at e1; omega
      unfold joinS joinE; rw [if_pos this, if_pos this]; exact ⟨hl.symm, rfl⟩
    generalize errS T = E at *
    generalize preS T = P at *
    generalize nameS T = N at *
    generalize joinS p n = JS at *
    generalize joinE p n = JE at *
    refine ⟨[], _, h2, ?_⟩
    rintro r hh ⟨rfl, rfl⟩
    refine ⟨.inl rfl, ?_⟩
    refine ⟨fun c1 => ?_, fun c1 => ?_⟩
    · obtain ⟨g1, g2⟩ := hbad fun x => yes c1 x.1
      exact ⟨[], [], _, leh0, le_pair (leS g1) (leI g2), rfl, rfl⟩
    refine ⟨fun c2 => ?_, fun c2 => ?_⟩
    · obtain ⟨g1, g2⟩ := hbad fun x => yes c2 x.2.1
      exact ⟨[], [], _, leh0, le_pair (leS g1) (leI g2), rfl, rfl⟩
    refine ⟨fun c3 => ?_, fun c3 => ?_⟩
    · obtain ⟨g1, g2⟩ := hbad fun x => yes c3 x.2.2
      exact ⟨[], [], _, leh0, le_pair (leS g1) (leI g2), rfl, rfl⟩
    have k1 : E = 0 := Classical.byContradiction fun x => no c1 x
    have k2 : P = p := Classical.byContradiction fun x => no c2 x
    have k3 : N = n := Classical.byContradiction fun x => no c3 x
    obtain ⟨g1, g2⟩ := hgood k1 k2 k3
    exact ⟨[], [], _, leh0, le_pair (leS (hZ.trans g1)) (leI g2), rfl, rfl⟩

end
end Go.Proofs.YtkchfbnkdpdbkaaDoor.Hd

/-
  The contracts of header.Put and of the document's.
-/
set_option linter.unusedVariables false
set_option linter.unusedSimpArgs false
set_option linter.unusedSectionVars false
namespace Go.Proofs.YtkchfbnkdpdbkaaDoor.Hd
open Go AL Oc Pa
section
variable [Globs]

/-- What Put hands back: a row of its own. -/
def HPutR (s : ByteArray) (n : Int) (r : AV) (h : List AO) : Prop := r = .tup 2 (pair (.own 0 0 (headR s n).length 1) (int .i64 (headE s n))) ∧ h = [.ints .u8 (headR s n)]

/-- The fields of a header, and that each may be. -/
structure Flds (s : ByteArray) (n : Int) : Prop where
  e0 : textE (nameS s) 100 = 0
  l0 : (textR (nameS s) 100).length = 100
  e1 : putE 420 8 = 0
  l1 : (putR 420 8).length = 8
  e2 : putE 0 8 = 0
  l2 : (putR 0 8).length = 8
  e3 : putE 0 8 = 0
  l3 : (putR 0 8).length = 8
  e4 : putE n 12 = 0
  l4 : (putR n 12).length = 12
  e5 : putE 0 12 = 0
  l5 : (putR 0 12).length = 12
  e6 : textE emp 8 = 0
  l6 : (textR emp 8).length = 8
  e7 : textE flagS 1 = 0
  l7 : (textR flagS 1).length = 1
  e8 : textE emp 100 = 0
  l8 : (textR emp 100).length = 100
  e9 : textE ustarS 6 = 0
  l9 : (textR ustarS 6).length = 6
  e10 : textE zzS 2 = 0
  l10 : (textR zzS 2).length = 2
  e11 : textE emp 32 = 0
  l11 : (textR emp 32).length = 32
  e12 : textE emp 32 = 0
  l12 : (textR emp 32).length = 32
  e13 : putE 0 8 = 0
  l13 : (putR 0 8).length = 8
  e14 : putE 0 8 = 0
  l14 : (putR 0 8).length = 8
  e15 : textE (preS s) 155 = 0
  l15 : (textR (preS s) 155).length = 155
  e16 : textE emp 12 = 0
  l16 : (textR emp 12).length = 12
theorem flds {s : ByteArray} {n : Int} (h : okHd s n) : Flds s n := by
  obtain ⟨a1, a2⟩ := n_len h.1
  obtain ⟨b1, b2⟩ := p_len h.1
  obtain ⟨c1, c2⟩ := num_len (n := n) (w := 12) (by omega) ⟨h.2.1, by have := h.2.2; omega⟩
  exact ⟨a1, a2, by decide +kernel, by decide +kernel, by decide +kernel, by decide +kernel, by decide +kernel, by decide +kernel, c1, c2, by decide +kernel, by decide +kernel, by decide +kernel, by decide +kernel, by decide +kernel, by decide +kernel, by decide +kernel, by decide +kernel, by decide +kernel, by decide +kernel, by decide +kernel, by decide +kernel, by decide +kernel, by decide +kernel, by decide +kernel, by decide +kernel, by decide +kernel, by decide +kernel, by decide +kernel, by decide +kernel, b1, b2, by decide +kernel, by decide +kernel⟩
theorem cat_head (s : ByteArray) (n : Int) : ((((((((((((((((textR (nameS s) 100 ++ putR 420 8) ++ putR 0 8) ++ putR 0 8) ++ putR n 12) ++ putR 0 12) ++ textR emp 8) ++ textR flagS 1) ++ textR emp 100) ++ textR ustarS 6) ++ textR zzS 2) ++ textR emp 32) ++ textR emp 32) ++ putR 0 8) ++ putR 0 8) ++ textR (preS s) 155) ++ textR emp 12) = headB s n (textR emp 8) := by
  unfold headB headZ headY headA
  simp only [List.append_assoc]
theorem cat_head_ref (s : ByteArray) (n : Int) : ((((((((((((((((textR (nameS s) 100 ++ putR 420 8) ++ putR 0 8) ++ putR 0 8) ++ putR n 12) ++ putR 0 12) ++ textR ⟨#[32, 32, 32, 32, 32, 32, 32, 32]⟩ 8) ++ textR flagS 1) ++ textR emp 100) ++ textR ustarS 6) ++ textR zzS 2) ++ textR emp 32) ++ textR emp 32) ++ putR 0 8) ++ putR 0 8) ++ textR (preS s) 155) ++ textR emp 12) = headB s n (textR ⟨#[32, 32, 32, 32, 32, 32, 32, 32]⟩ 8) := by
  unfold headB headZ headY headA
  simp only [List.append_assoc]

theorem head_new {s : ByteArray} {n : Int} {m : List Int} (h : okHd s n) (hm : m.length = 8) : headR s n = (headB s n m).take 148 ++ sumF s n ++ (headB s n m).drop 156 := by
  have ha := a_len h
  unfold headR
  rw [if_pos h]
  unfold headB
  have e1 : (headA s n ++ m ++ headZ s).take 148 = headA s n := by rw [List.append_assoc]; exact first ha
  have e2 : (headA s n ++ m ++ headZ s).drop 156 = headZ s := by
    rw [List.drop_append_of_le_length (by rw [List.length_append]; omega), List.drop_of_length_le (by rw [List.length_append]; omega), List.nil_append]
  rw [e1, e2]

set_option maxHeartbeats 4000000 in
set_option maxRecDepth 10000 in
theorem put_head (s : ByteArray) (n : Int) (hs : s.size ≤ 9223372036854775805) : ACalls Tryd.prog 21 [str s, int .i64 n] [] (HPutR s n) := by
  have hsp := split_path s hs
  unfold SplitR at hsp
  have herr : ¬ okHd s n → headR s n = [] := fun h => if_neg h
  have hE : ¬ errS s = 0 → errS s = headE s n := fun h => by
    have : ¬ okSplit s := fun g => h (if_pos g)
    unfold errS headE; rw [if_neg this, if_pos this]
  have hO : errS s = 0 → okSplit s := fun h => Classical.byContradiction fun g => by unfold errS at h; rw [if_neg g] at h; omega
  have hover : errS s = 0 → (n < 0 ∨ n > 4194304) → headE s n = 8 := fun h g => by unfold headE; rw [if_neg fun x => x (hO h), if_pos g]
  have hgood : errS s = 0 → ¬ (n < 0 ∨ n > 4194304) → okHd s n := fun h g => ⟨hO h, by omega, by omega⟩
  have bad : ∀ h, ¬ okHd s n → ∀ e, e = headE s n → ∃ l h1 b, LeH 0 h l h1 ∧ LeV h l (.tup 2 fun i => [.raw (.slice none 0 0), int .i64 e].getD i .top) b ∧ HPutR s n b h1 := fun h g e he => by
    unfold HPutR; rw [herr g, he]
    exact ⟨[h.length], [.ints .u8 []], _, lehE (Nat.le_refl _) .u8, le_pair (.nil 0 1 (by simp)) (leI rfl), rfl, rfl⟩
  refine rcalls Tryd.func21 rfl (by decide) ?_
  refine ⟨[], _, hsp, ?_⟩
  rintro r hh ⟨rfl, rfl⟩
  refine ⟨.inl rfl, ?_⟩
  refine ⟨fun c1 => ?_, fun c1 => ?_⟩
  · exact bad _ (fun h => yes c1 (if_pos h.1)) _ (hE (yes c1))
  have f1 : errS s = 0 := Classical.byContradiction fun x => no c1 x
  refine ⟨fun c2 => ?_, fun c2 => ?_⟩
  · have f2 : n < 0 := yes c2
    exact bad _ (fun h => by have := h.2.1; omega) _ (hover f1 (.inl f2)).symm
  have f2 : ¬ n < 0 := no c2
  refine ⟨fun c3 => ?_, fun c3 => ?_⟩
  · have f3 : n > 4194304 := yes c3
    exact bad _ (fun h => by have := h.2.2; omega) _ (hover f1 (.inr f3)).symm
  have f3 : ¬ n > 4194304 := no c3
  have ok := hgood f1 (by omega)
  obtain ⟨e0, l0, e1, l1, e2, l2, e3, l3, e4, l4, e5, l5, e6, l6, e7, l7, e8, l8, e9, l9, e10, l10, e11, l11, e12, l12, e13, l13, e14, l14, e15, l15, e16, l16⟩ := flds ok
  obtain ⟨p1, p2⟩ := pre_size ok.1
  have hcat := cat_head s n
  have r6 := q_text emp 8
  have hE0 : headE s n = 0 := headE_iff.2 ok
  have k0 := text_first (nameS s) 100 (by omega) e0 (by omega)
  have k1 := fun xs hx => num_next 420 8 xs hx e1 (by omega)
  have k2 := fun xs hx => num_next 0 8 xs hx e2 (by omega)
  have k3 := fun xs hx => num_next 0 8 xs hx e3 (by omega)
  have k4 := fun xs hx => num_next n 12 xs hx e4 (by omega)
  have k5 := fun xs hx => num_next 0 12 xs hx e5 (by omega)
  have k6 := fun xs hx => text_next emp 8 xs hx (by decide) e6 (by omega)
  have k7 := fun xs hx => text_next flagS 1 xs hx (by decide) e7 (by omega)
  have k8 := fun xs hx => text_next emp 100 xs hx (by decide) e8 (by omega)
  have k9 := fun xs hx => text_next ustarS 6 xs hx (by decide) e9 (by omega)
  have k10 := fun xs hx => text_next zzS 2 xs hx (by decide) e10 (by omega)
  have k11 := fun xs hx => text_next emp 32 xs hx (by decide) e11 (by omega)
  have k12 := fun xs hx => text_next emp 32 xs hx (by decide) e12 (by omega)
  have k13 := fun xs hx => num_next 0 8 xs hx e13 (by omega)
  have k14 := fun xs hx => num_next 0 8 xs hx e14 (by omega)
  have k15 := fun xs hx => text_next (preS s) 155 xs hx (by omega) e15 (by omega)
  have k16 := fun xs hx => text_next emp 12 xs hx (by decide) e16 (by omega)
  generalize textR (nameS s) 100 = F0 at *
  generalize putR 420 8 = F1 at *
  generalize putR 0 8 = F2 at *
  generalize putR n 12 = F4 at *
  generalize putR 0 12 = F5 at *
  generalize textR emp 8 = F6 at *
  generalize textR flagS 1 = F7 at *
  generalize textR emp 100 = F8 at *
  generalize textR ustarS 6 = F9 at *
  generalize textR zzS 2 = F10 at *
  generalize textR emp 32 = F11 at *
  generalize textR (preS s) 155 = F15 at *
  generalize textR emp 12 = F16 at *
  refine ⟨[], _, laid_prog, ?_⟩
  rintro r hh ⟨rfl, rfl⟩
  refine ⟨.inl rfl, ?_⟩
  refine ⟨[0, 1], _, k0, ?_⟩
  rintro r hh ⟨rfl, rfl⟩
  refine ⟨.inl rfl, ?_⟩
  refine ⟨[0, 1, 2], _, k1 _ (by simp only [List.length_append, l0, l1, l2, l4, l5, l6, l7, l8, l9, l10, l11, l15, l16]; decide), ?_⟩
  rintro r hh ⟨rfl, rfl⟩
  refine ⟨.inl rfl, ?_⟩
  refine ⟨[0, 1, 3], _, k2 _ (by simp only [List.length_append, l0, l1, l2, l4, l5, l6, l7, l8, l9, l10, l11, l15, l16]; decide), ?_⟩
  rintro r hh ⟨rfl, rfl⟩
  refine ⟨.inl rfl, ?_⟩
  refine ⟨[0, 1, 4], _, k3 _ (by simp only [List.length_append, l0, l1, l2, l4, l5, l6, l7, l8, l9, l10, l11, l15, l16]; decide), ?_⟩
  rintro r hh ⟨rfl, rfl⟩
  refine ⟨.inl rfl, ?_⟩
  refine ⟨[0, 1, 5], _, k4 _ (by simp only [List.length_append, l0, l1, l2, l4, l5, l6, l7, l8, l9, l10, l11, l15, l16]; decide), ?_⟩
  rintro r hh ⟨rfl, rfl⟩
  refine ⟨.inl rfl, ?_⟩
  refine ⟨[0, 1, 6], _, k5 _ (by simp only [List.length_append, l0, l1, l2, l4, l5, l6, l7, l8, l9, l10, l11, l15, l16]; decide), ?_⟩
  rintro r hh ⟨rfl, rfl⟩
  refine ⟨.inl rfl, ?_⟩
  refine ⟨[0, 1, 7], _, k6 _ (by simp only [List.length_append, l0, l1, l2, l4, l5, l6, l7, l8, l9, l10, l11, l15, l16]; decide), ?_⟩
  rintro r hh ⟨rfl, rfl⟩
  refine ⟨.inl rfl, ?_⟩
  refine ⟨[0, 1, 8], _, k7 _ (by simp only [List.length_append, l0, l1, l2, l4, l5, l6, l7, l8, l9, l10, l11, l15, l16]; decide), ?_⟩
  rintro r hh ⟨rfl, rfl⟩
  refine ⟨.inl rfl, ?_⟩
  refine ⟨[0, 1, 9], _, k8 _ (by simp only [List.length_append, l0, l1, l2, l4, l5, l6, l7, l8, l9, l10, l11, l15, l16]; decide), ?_⟩
  rintro r hh ⟨rfl, rfl⟩
  refine ⟨.inl rfl, ?_⟩
  refine ⟨[0, 1, 10], _, k9 _ (by simp only [List.length_append, l0, l1, l2, l4, l5, l6, l7, l8, l9, l10, l11, l15, l16]; decide), ?_⟩
  rintro r hh ⟨rfl, rfl⟩
  refine ⟨.inl rfl, ?_⟩
  refine ⟨[0, 1, 11], _, k10 _ (by simp only [List.length_append, l0, l1, l2, l4, l5, l6, l7, l8, l9, l10, l11, l15, l16]; decide), ?_⟩
  rintro r hh ⟨rfl, rfl⟩
  refine ⟨.inl rfl, ?_⟩
  refine ⟨[0, 1, 12], _, k11 _ (by simp only [List.length_append, l0, l1, l2, l4, l5, l6, l7, l8, l9, l10, l11, l15, l16]; decide), ?_⟩
  rintro r hh ⟨rfl, rfl⟩
  refine ⟨.inl rfl, ?_⟩
  refine ⟨[0, 1, 13], _, k12 _ (by simp only [List.length_append, l0, l1, l2, l4, l5, l6, l7, l8, l9, l10, l11, l15, l16]; decide), ?_⟩
  rintro r hh ⟨rfl, rfl⟩
  refine ⟨.inl rfl, ?_⟩
  refine ⟨[0, 1, 14], _, k13 _ (by simp only [List.length_append, l0, l1, l2, l4, l5, l6, l7, l8, l9, l10, l11, l15, l16]; decide), ?_⟩
  rintro r hh ⟨rfl, rfl⟩
  refine ⟨.inl rfl, ?_⟩
  refine ⟨[0, 1, 15], _, k14 _ (by simp only [List.length_append, l0, l1, l2, l4, l5, l6, l7, l8, l9, l10, l11, l15, l16]; decide), ?_⟩
  rintro r hh ⟨rfl, rfl⟩
  refine ⟨.inl rfl, ?_⟩
  refine ⟨[0, 1, 16], _, k15 _ (by simp only [List.length_append, l0, l1, l2, l4, l5, l6, l7, l8, l9, l10, l11, l15, l16]; decide), ?_⟩
  rintro r hh ⟨rfl, rfl⟩
  refine ⟨.inl rfl, ?_⟩
  refine ⟨[0, 1, 17], _, k16 _ (by simp only [List.length_append, l0, l1, l2, l4, l5, l6, l7, l8, l9, l10, l11, l15, l16]; decide), ?_⟩
  rintro r hh ⟨rfl, rfl⟩
  refine ⟨.inl rfl, ?_⟩
  refine ⟨[0, 18], _, told_prog _, ?_⟩
  rintro r hh ⟨rfl, rfl⟩
  refine ⟨.inl rfl, ?_⟩
  rw [hcat]
  have lB := b_len (s := s) (n := n) (m := F6) ok l6
  have rB := b_range (s := s) (n := n) (m := F6) r6
  have cB : chk (headB s n F6) (headB s n F6).length = headS s n := by
    rw [lB]; exact chk_congr fun i _ => head_get ok l6 (by simp) i
  have fB : headR s n = (headB s n F6).take 148 ++ sumF s n ++ (headB s n F6).drop 156 := head_new ok l6
  have hsum := sum_len ok
  have hput := put_own (headS s n) 7 hsum.1
  have hchk := check_prog (headB s n F6) rB (by rw [lB]; decide)
  have lQ : (putR (headS s n) 7).length = 7 := by have := hsum.2; unfold sumF at this; rw [List.length_append] at this; simpa using this
  unfold sumF at fB
  unfold PutO at hput
  rw [cB] at hchk
  clear hcat k0 k1 k2 k3 k4 k5 k6 k7 k8 k9 k10 k11 k12 k13 k14 k15 k16 cB hsum
  unfold HPutR
  rw [hE0]
  generalize headB s n F6 = B at *
  generalize headS s n = Z at *
  generalize putR Z 7 = Q at *
  have hchk2 : ACalls Tryd.prog 43 [.roI .u8 ((B.drop 0).take B.length)] [] (fun r h => r = int .i64 Z ∧ h = []) := by rw [List.drop_zero, List.take_length]; exact hchk
  refine ⟨[], _, by omega, hchk2, ?_⟩
  rintro r hh ⟨rfl, rfl⟩
  refine ⟨.inr ⟨trivial, fun o ho => by cases ho⟩, ?_⟩
  refine ⟨[], _, hput, ?_⟩
  rintro r hh ⟨rfl, rfl⟩
  refine ⟨.inl rfl, ?_⟩
  refine .inr ⟨5, by decide +kernel, ?_⟩
  refine ⟨_, rfl, ?_⟩
  refine ⟨_, ⟨⟨by omega, by omega⟩, rfl⟩, ?_⟩
  refine ⟨_, rfl, ?_⟩
  refine ⟨_, rfl, ?_⟩
  refine ⟨_, _, ⟨rfl, by show (Q.length + 1) * 1 ≤ _; omega, rfl, rfl⟩, ?_⟩
  refine ⟨by unfold addOff; simp [lB], by simp, ?_⟩
  refine ⟨[18], [.ints .u8 (headR s n)], .tup 2 (pair (.own 0 0 (headR s n).length 1) (int .i64 0)), leh1 rfl (leOint ?_), le_pair (leOwn rfl rfl ?_) (leI rfl), rfl, rfl⟩
  · have eS : List.take (Q.length + [(32 : Int)].length) (List.drop 0 (Q ++ [32])) = Q ++ [32] := by rw [List.drop_zero, List.take_of_length_le (by simp)]
    have lS : (Q ++ [(32 : Int)]).length = 8 := by simp [lQ]
    rw [eS, fB, lB, lS, show addOff 0 (Int.toNat 148) 1 = 148 from rfl, show Int.toNat 148 = 148 from rfl, List.take_of_length_le (l := Q ++ [(32 : Int)]) (by omega)]
    rfl
  · rw [lB, head_len ok]
end
end Go.Proofs.YtkchfbnkdpdbkaaDoor.Hd
