/-
  The contract of the document's own Read.
-/
import Derived.Test.YthckagkciefliaaGreatDoorHxNum
set_option linter.unusedVariables false
set_option linter.unusedSectionVars false
namespace Go.Proofs.YthckagkciefliaaGreatDoor.Hx
open Go AL

theorem ints_get {s : ByteArray} {i : Nat} (hi : i < s.size) : ∃ c, c ∈ s.data.toList ∧ s.data.toList[i]? = some c ∧ (intsOf s).getD i 0 = (c.toNat : Int) := by
  have hl : s.data.toList.length = s.size := rfl
  refine ⟨s.data.toList[i]'(by omega), List.getElem_mem _, by rw [List.getElem?_eq_getElem], ?_⟩
  unfold intsOf
  rw [List.getD_eq_getElem?_getD, List.getElem?_map, List.getElem?_eq_getElem (by omega)]
  rfl
theorem num_get {s : ByteArray} {v : Int} (h : isNum s v) {i : Nat} (hi : i < s.size) : 48 ≤ (intsOf s).getD i 0 ∧ (intsOf s).getD i 0 ≤ 57 := by
  obtain ⟨c, h1, _, h3⟩ := ints_get hi
  rw [h3]
  rw [h.2.2] at h1
  have := num_digits h.1 c h1
  omega
theorem take_snoc {xs : List Int} {k : Nat} (h : k < xs.length) : xs.take (k + 1) = xs.take k ++ [xs.getD k 0] := by
  rw [List.take_succ_eq_append_getElem h, List.getD_eq_getElem?_getD, List.getElem?_eq_getElem h]
  rfl

section
variable [Globs]

set_option maxHeartbeats 1000000 in
set_option maxRecDepth 10000 in
theorem read_ref (s : ByteArray) (most : Int) (hs : s.size ≤ 281474976710656) : ACalls Tryz.prog 66 [str s, int .i64 most] [] (ReadR s most) := by
  have bad : (∀ v, ¬ isNum s v) → ∀ h, ∃ l h1 b, LeH 0 h l h1 ∧ LeV h l (.tup 2 fun i => [int .i64 0, int .i64 2].getD i .top) b ∧ ReadR s most b h1 := fun hn h => by
    obtain ⟨e1, e2⟩ := read_none (most := most) hn
    exact ⟨[], [], _, lehN _, le_pair (leI e2.symm) (leI e1.symm), rfl, rfl⟩
  have hil : (intsOf s).length = s.size := intsOf_length s
  have hsz : ∀ v, isNum s v → 1 ≤ s.size ∧ s.size ≤ 19 := fun v h => by rw [h.2.2]; exact num_size h.1 h.2.1
  refine rcalls Tryz.func66 rfl (by decide) ?_
  refine ⟨fun c1 => ?_, fun c1 => ⟨fun c2 => ?_, fun c2 => ?_⟩⟩
  · refine bad (fun v h => ?_) _
    have := hsz v h
    have := yes c1
    omega
  · refine bad (fun v h => ?_) _
    have := hsz v h
    have := yes c2
    omega
  refine ⟨Nat, fun k => [(0, str s), (1, int .i64 most), (6, int .i64 (foldN ((intsOf s).take k) 0)), (7, int .i64 k)], fun _ => [], fun k => k ≤ s.size ∧ ∀ i, i < k → 48 ≤ (intsOf s).getD i 0 ∧ (intsOf s).getD i 0 ≤ 57, fun k => s.size - k,
    ⟨0, [], ⟨Nat.zero_le _, fun i hi => absurd hi (Nat.not_lt_zero _)⟩, leh0, ⟨leS rfl, leI rfl, leI rfl, leI rfl, trivial⟩⟩, ?_⟩
  rintro k ⟨hk, hdig⟩
  refine ⟨fun h1 => ⟨⟨by omega, by have := yes h1; omega⟩, fun c3 => ?_, fun c3 => ⟨⟨by omega, by have := yes h1; omega⟩, fun c4 => ?_, fun c4 => ?_⟩⟩, fun h1 => ?_⟩
  · have f1 := yes h1
    refine bad (fun v h => ?_) _
    have := num_get h (i := k) (by omega)
    have f3 : (intsOf s).getD k 0 < 48 := yes c3
    omega
  · have f1 := yes h1
    refine bad (fun v h => ?_) _
    have := num_get h (i := k) (by omega)
    have f3 : 57 < (intsOf s).getD k 0 := yes c4
    omega
  · have f1 := yes h1
    have f3 : ¬ (intsOf s).getD k 0 < 48 := no c3
    have f4 : ¬ 57 < (intsOf s).getD k 0 := no c4
    have e1 : IntKind.i64.wrap ((k : Int) + 1) = ((k + 1 : Nat) : Int) := by rw [w64 (by omega) (by omega)]; omega
    refine ⟨⟨by omega, by omega⟩, ?_⟩
    refine ⟨trivial, k + 1, [], ⟨by omega, fun i hi => ?_⟩, by show s.size - (k + 1) < s.size - k; omega, leh0, ⟨leS rfl, leI rfl, leI ?_, leI e1, trivial⟩⟩
    · rcases Nat.lt_or_ge i k with h5 | h5
      · exact hdig i h5
      · rw [show i = k by omega]; omega
    · rw [take_snoc (by omega), foldN_snoc]
      show IntKind.i64.wrap (IntKind.i64.wrap (10 * _) + IntKind.i64.wrap (IntKind.u8.wrap ((intsOf s).getD k 0 - 48))) = _
      rw [w8 (by omega) (by omega), w64 (n := (intsOf s).getD k 0 - 48) (by omega) (by omega)]
      rfl
  · have f1 := no h1
    obtain rfl : k = s.size := by omega
    have ht : (intsOf s).take s.size = intsOf s := List.take_of_length_le (by omega)
    have hN : ∀ v, isNum s v → foldN (intsOf s) 0 = v := fun v h => by
      have := foldN_num h.1 h.2.1
      rwa [← h.2.2] at this
    have hr := foldN_range (intsOf s)
    have hc := number_ref _ (foldN (intsOf s) 0) (Nat.le_refl _) hr.1 hr.2
    rw [← ht] at hc
    obtain ⟨S, hS⟩ : ∃ S, numS (foldN ((intsOf s).take s.size) 0) = S := ⟨_, rfl⟩
    rw [hS] at hc
    rw [ht] at hS
    refine ⟨[], _, hc, ?_⟩
    rintro r h ⟨rfl, rfl⟩
    refine ⟨.inl rfl, ?_⟩
    refine ⟨fun d1 => ?_, fun d1 => ?_⟩
    · have d2 : ¬ S = s := of_decide_eq_true d1
      refine bad (fun v h => d2 ?_) _
      rw [← hS, hN v h, h.2.2]
    · have d2 : S = s := Classical.byContradiction fun hne => of_decide_eq_false d1 hne
      have hn : isNum s (foldN (intsOf s) 0) := by
        refine ⟨Classical.byContradiction fun hlt => ?_, hr.2, by rw [hS, d2]⟩
        obtain ⟨r, e⟩ := num_neg (v := foldN (intsOf s) 0) (by omega)
        rw [hS, d2] at e
        have hpos : 0 < s.size := by
          have : s.data.toList.length = s.size := rfl
          rw [e] at this
          simp at this
          omega
        have := hdig 0 hpos
        obtain ⟨c, _, g2, g3⟩ := ints_get hpos
        rw [e] at g2
        simp at g2
        subst g2
        rw [g3] at this
        have h45 : ((45 : UInt8).toNat : Int) = 45 := rfl
        omega
      have hn2 : isNum s (foldN ((intsOf s).take s.size) 0) := by rw [ht]; exact hn
      refine ⟨fun e1 => ?_, fun e1 => ?_⟩
      · obtain ⟨g1, g2⟩ := read_over hn2 (yes e1)
        exact ⟨[], [], _, lehN _, le_pair (leI g2.symm) (leI g1.symm), rfl, rfl⟩
      · obtain ⟨g1, g2⟩ := read_ok hn2 (no e1)
        exact ⟨[], [], _, lehN _, le_pair (leI g2.symm) (leI g1.symm), rfl, rfl⟩

end
end Go.Proofs.YthckagkciefliaaGreatDoor.Hx
