/-
  The document's files behind a deed.
-/
import Derived.Test.YtflclafbieokiaaDkR
set_option linter.unusedVariables false
set_option linter.unusedSectionVars false
namespace Go.Proofs.Ytflclafbieokiaa.Dk
open Go AL Us

theorem rowF_take (M : List Fl) {k i : Nat} (hk : k ≤ M.length) (h : i < k * 2) : rowF (M.take k) i = rowF M i := by
  unfold rowF
  rw [List.getD_eq_getElem?_getD, List.getElem?_take, if_pos (by omega), List.getD_eq_getElem?_getD]
theorem rowF_drop (M : List Fl) {k i : Nat} : rowF (M.drop k) i = rowF M (k * 2 + i) := by
  unfold rowF
  rw [show (k * 2 + i) / 2 = k + i / 2 by omega, show (k * 2 + i) % 2 = i % 2 by omega, List.getD_eq_getElem?_getD, List.getElem?_drop, List.getD_eq_getElem?_getD]
theorem rowF_more (l m : List Fl) {i : Nat} : rowF (l ++ m) (l.length * 2 + i) = rowF m i := by
  unfold rowF
  rw [show (l.length * 2 + i) / 2 = l.length + i / 2 by omega, show (l.length * 2 + i) % 2 = i % 2 by omega, List.getD_eq_getElem?_getD, List.getElem?_append_right (by omega), Nat.add_sub_cancel_left, List.getD_eq_getElem?_getD]
theorem rowF_less (l m : List Fl) {i : Nat} (h : i < l.length * 2) : rowF (l ++ m) i = rowF l i := by
  unfold rowF
  rw [List.getD_eq_getElem?_getD, List.getElem?_append_left (by omega), List.getD_eq_getElem?_getD]

/-- A deed, as the document has it. -/
structure De4 where
  kind : Int
  name : ByteArray
  to : ByteArray
  data : List Int
def toDee (e : De4) : Dee := if e.kind = 1 then .wr e.name e.data else if e.kind = 2 then .mv e.name e.to else .rm e.name
def de4C (e : De4) : Nat → AV
  | 0 => int .i64 e.kind
  | 1 => str e.name
  | 2 => str e.to
  | _ => .roI .u8 e.data
abbrev de4V (e : De4) : AV := .agg 4 (de4C e)
section
variable [Globs]


set_option maxHeartbeats 1000000 in
set_option maxRecDepth 10000 in
theorem with_r (L : List Fl) (s : ByteArray) (v : List Int) (hl : L.length ≤ 1000000) : ACalls Try.prog 51 [flsV L, str s, .roI .u8 v] [] (fun r h => r = flsV (withR s v L) ∧ h = []) := by
  have h0 := without_r L s hl
  have hlen := without_len s L
  have hwd : withR s v L = (withoutR s L).takeWhile (fun f => ltS f.path s) ++ ⟨s, v⟩ :: (withoutR s L).dropWhile (fun f => ltS f.path s) := rfl
  generalize withoutR s L = M at *
  have hwa := fun {k : Nat} => while_at (p := fun f => ltS f.path s) (M := M) (k := k)
  refine rcalls Try.func51 rfl (by decide) ?_
  refine ⟨[], _, h0, ?_⟩
  rintro r hh ⟨rfl, rfl⟩
  refine ⟨.inl rfl, ?_⟩
  refine ⟨Nat, fun k => [(0, flsV M), (1, str s), (2, .roI .u8 v), (7, int .i64 k)], fun _ => [], fun k => k ≤ M.length ∧ ∀ i, i < k → ltS (M.getD i fl0).path s = true, fun k => M.length - k,
    ⟨0, [], ⟨Nat.zero_le _, fun i hi => by omega⟩, lehN _, ⟨.same _ trivial, leS rfl, leRo rfl, leI rfl, trivial⟩⟩, ?_⟩
  rintro k ⟨hk, hlt⟩
  have e1 : IntKind.i64.wrap ((k : Int) + 1) = ((k + 1 : Nat) : Int) := by rw [w64 (by omega) (by omega)]; omega
  have fin : (k < M.length → ltS (M.getD k fl0).path s = false) → withR s v L = M.take k ++ [⟨s, v⟩] ++ M.drop k := fun h => by
    obtain ⟨a, b⟩ := hwa hk hlt h
    rw [hwd, a, b, List.append_assoc]; rfl
  refine ⟨fun c => ?_, fun c => ?_⟩
  · have f1 : (k : Int) < M.length := yes c
    obtain ⟨F, hF⟩ : ∃ F, M.getD k fl0 = F := ⟨_, rfl⟩
    refine ⟨⟨by omega, by omega⟩, flC F, fun c hc => by rw [Int.toNat_natCast, rowF_at M hc, hF], ?_⟩
    refine ⟨fun c2 => ?_, fun c2 => ?_⟩
    · have f2 : ltS F.path s = true := c2
      refine ⟨trivial, k + 1, [], ⟨by omega, fun i hi => ?_⟩, by show M.length - (k + 1) < M.length - k; omega, lehN _, ⟨.same _ trivial, leS rfl, leRo rfl, leI e1, trivial⟩⟩
      by_cases e : i = k
      · rw [e, hF]; exact f2
      · exact hlt i (by omega)
    · have f2 : ltS F.path s = false := c2
      have fin := fin fun _ => by rw [hF]; exact f2
      have hkl : (M.take k).length = k := by rw [List.length_take]; omega
      obtain ⟨O1, hO1⟩ : ∃ O1, M.take k = O1 := ⟨_, rfl⟩
      obtain ⟨N, hN⟩ : ∃ N : Fl, (⟨s, v⟩ : Fl) = N := ⟨_, rfl⟩
      rw [hO1] at hkl fin
      rw [hN] at fin
      refine ⟨⟨by omega, by omega⟩, ?_⟩
      refine ⟨rfl, fun i hi => by simp at hi, by show (0 + ((k : Int).toNat - 0)) * 40 ≤ _; omega, fun i hi => rowCell1 M _, rowF O1, fun i hi => by simp at hi, fun i hi => ?_, ?_⟩
      · show rowF O1 (0 + i) = rowF M (0 * 2 + i)
        have hi : i < ((k : Int).toNat - 0) * 2 := hi
        rw [Nat.zero_add, ← hO1]
        exact rowF_take M hk (by omega)
      refine ⟨?_, fun i hi => rowCell1 O1 i, Nat.le_refl 2, by show (0 + ((k : Int).toNat - 0) + 1) * 40 ≤ _; omega, fun i hi => ?_, rowF (O1 ++ [N]), fun i hi => ?_, fun i hi => ?_, ?_⟩
      · rfl
      · match i, hi with
        | 0, _ => rfl
        | 1, _ => rfl
      · have hi : i < (0 + ((k : Int).toNat - 0)) * 2 := hi
        exact rowF_less O1 [N] (by omega)
      · show rowF (O1 ++ [N]) ((0 + ((k : Int).toNat - 0)) * 2 + i) = _
        rw [show 0 + ((k : Int).toNat - 0) = O1.length by omega, rowF_more, ← hN]
        match i, hi with
        | 0, _ => rfl
        | 1, _ => rfl
      refine ⟨⟨by omega, by omega⟩, ?_⟩
      refine ⟨?_, fun i hi => rowCell1 (O1 ++ [N]) i, by show (0 + ((k : Int).toNat - 0) + 1 + (M.length - (k : Int).toNat)) * 40 ≤ _; omega, fun i hi => rowCell1 M _, rowF (O1 ++ [N] ++ M.drop k), fun i hi => ?_, fun i hi => ?_, ?_⟩
      · rfl
      · have hi : i < (0 + ((k : Int).toNat - 0) + 1) * 2 := hi
        exact rowF_less (O1 ++ [N]) (M.drop k) (by rw [List.length_append, List.length_singleton]; omega)
      · show rowF (O1 ++ [N] ++ M.drop k) ((0 + ((k : Int).toNat - 0) + 1) * 2 + i) = rowF M ((k : Int).toNat * 2 + i)
        rw [show 0 + ((k : Int).toNat - 0) + 1 = (O1 ++ [N]).length by rw [List.length_append, List.length_singleton]; omega, rowF_more, rowF_drop, Int.toNat_natCast]
      have hol : (O1 ++ [N] ++ M.drop k).length = 0 + ((k : Int).toNat - 0) + 1 + (M.length - (k : Int).toNat) := by
        rw [List.length_append, List.length_append, List.length_singleton, List.length_drop]; omega
      rw [fin]
      refine ⟨[], [], _, lehN _, .seen (.giveR (rowF (O1 ++ [N] ++ M.drop k)) rfl (by simp) (Nat.le_of_eq (Nat.zero_add _)) (fun i hi => cast (congrArg (fun j => LeV _ _ (rowF (O1 ++ [N] ++ M.drop k) j) (rowF (O1 ++ [N] ++ M.drop k) i)) (Nat.zero_add i).symm) (LeV.same _ (rowFree _ i))) fun i hi => rowFree _ i) (vrsU hol.symm fun i hi => rfl), rfl, rfl⟩
  · have f1 : ¬ (k : Int) < M.length := no c
    have fin := fin fun h => by omega
    have hkl : (M.take k).length = k := by rw [List.length_take]; omega
    obtain ⟨O1, hO1⟩ : ∃ O1, M.take k = O1 := ⟨_, rfl⟩
    obtain ⟨N, hN⟩ : ∃ N : Fl, (⟨s, v⟩ : Fl) = N := ⟨_, rfl⟩
    rw [hO1] at hkl fin
    rw [hN] at fin
    refine ⟨⟨by omega, by omega⟩, ?_⟩
    refine ⟨rfl, fun i hi => by simp at hi, by show (0 + ((k : Int).toNat - 0)) * 40 ≤ _; omega, fun i hi => rowCell1 M _, rowF O1, fun i hi => by simp at hi, fun i hi => ?_, ?_⟩
    · show rowF O1 (0 + i) = rowF M (0 * 2 + i)
      have hi : i < ((k : Int).toNat - 0) * 2 := hi
      rw [Nat.zero_add, ← hO1]
      exact rowF_take M hk (by omega)
    refine ⟨?_, fun i hi => rowCell1 O1 i, Nat.le_refl 2, by show (0 + ((k : Int).toNat - 0) + 1) * 40 ≤ _; omega, fun i hi => ?_, rowF (O1 ++ [N]), fun i hi => ?_, fun i hi => ?_, ?_⟩
    · rfl
    · match i, hi with
      | 0, _ => rfl
      | 1, _ => rfl
    · have hi : i < (0 + ((k : Int).toNat - 0)) * 2 := hi
      exact rowF_less O1 [N] (by omega)
    · show rowF (O1 ++ [N]) ((0 + ((k : Int).toNat - 0)) * 2 + i) = _
      rw [show 0 + ((k : Int).toNat - 0) = O1.length by omega, rowF_more, ← hN]
      match i, hi with
      | 0, _ => rfl
      | 1, _ => rfl
    refine ⟨⟨by omega, by omega⟩, ?_⟩
    refine ⟨?_, fun i hi => rowCell1 (O1 ++ [N]) i, by show (0 + ((k : Int).toNat - 0) + 1 + (M.length - (k : Int).toNat)) * 40 ≤ _; omega, fun i hi => rowCell1 M _, rowF (O1 ++ [N] ++ M.drop k), fun i hi => ?_, fun i hi => ?_, ?_⟩
    · rfl
    · have hi : i < (0 + ((k : Int).toNat - 0) + 1) * 2 := hi
      exact rowF_less (O1 ++ [N]) (M.drop k) (by rw [List.length_append, List.length_singleton]; omega)
    · show rowF (O1 ++ [N] ++ M.drop k) ((0 + ((k : Int).toNat - 0) + 1) * 2 + i) = rowF M ((k : Int).toNat * 2 + i)
      rw [show 0 + ((k : Int).toNat - 0) + 1 = (O1 ++ [N]).length by rw [List.length_append, List.length_singleton]; omega, rowF_more, rowF_drop, Int.toNat_natCast]
    have hol : (O1 ++ [N] ++ M.drop k).length = 0 + ((k : Int).toNat - 0) + 1 + (M.length - (k : Int).toNat) := by
      rw [List.length_append, List.length_append, List.length_singleton, List.length_drop]; omega
    rw [fin]
    refine ⟨[], [], _, lehN _, .seen (.giveR (rowF (O1 ++ [N] ++ M.drop k)) rfl (by simp) (Nat.le_of_eq (Nat.zero_add _)) (fun i hi => cast (congrArg (fun j => LeV _ _ (rowF (O1 ++ [N] ++ M.drop k) j) (rowF (O1 ++ [N] ++ M.drop k) i)) (Nat.zero_add i).symm) (LeV.same _ (rowFree _ i))) fun i hi => rowFree _ i) (vrsU hol.symm fun i hi => rfl), rfl, rfl⟩
end
end Go.Proofs.Ytflclafbieokiaa.Dk
