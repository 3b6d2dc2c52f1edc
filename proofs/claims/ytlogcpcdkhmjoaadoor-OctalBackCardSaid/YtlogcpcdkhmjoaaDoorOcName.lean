/-
  The contracts of octal.Name and of the document's own Name.
-/
import Derived.Test.YtlogcpcdkhmjoaaDoorOcText
import Derived.Test.YtlogcpcdkhmjoaaDoorOcByte
set_option linter.unusedVariables false
set_option linter.unusedSectionVars false
namespace Go.Proofs.YtlogcpcdkhmjoaaDoor.Oc
open Go AL
section
variable [Globs]

/-- How many of the first so many bytes stand ahead of the zeros at the end. -/
def trimN (xs : List Int) : Nat → Nat
  | 0 => 0
  | k + 1 => if xs.getD k 0 = 0 then trimN xs k else k + 1
def nameN (xs : List Int) : Nat := trimN xs xs.length
def nameE (xs : List Int) : Int := if (0 : Int) ∈ xs.take (nameN xs) then 2 else 0
def nameR (xs : List Int) : ByteArray := if nameE xs = 0 then bytesOf (xs.take (nameN xs)) else ByteArray.empty
def NameR (xs : List Int) (r : AV) (h : List AO) : Prop := r = .tup 2 (pair (str (nameR xs)) (int .i64 (nameE xs))) ∧ h = []

theorem trimN_le (xs : List Int) : ∀ k, trimN xs k ≤ k
  | 0 => Nat.le_refl _
  | k + 1 => by
    unfold trimN
    split
    · exact Nat.le_succ_of_le (trimN_le xs k)
    · exact Nat.le_refl _
theorem trimN_gt {xs : List Int} {i : Nat} (hi : xs.getD i 0 ≠ 0) : ∀ k, i < k → i < trimN xs k
  | 0, h => absurd h (Nat.not_lt_zero _)
  | k + 1, h => by
    unfold trimN
    split
    · rename_i h0
      have : i ≠ k := fun e => hi (e ▸ h0)
      exact trimN_gt hi k (by omega)
    · exact h
theorem trimN_zero {xs : List Int} {n : Nat} : ∀ k, n ≤ k → (∀ j, n ≤ j → j < k → xs.getD j 0 = 0) → trimN xs k = trimN xs n
  | 0, h, _ => by rw [show n = 0 by omega]
  | k + 1, h, h0 => by
    rcases Nat.lt_or_ge k n with h1 | h1
    · rw [show n = k + 1 by omega]
    · have := h0 k h1 (Nat.lt_succ_self _)
      rw [trimN, if_pos this]
      exact trimN_zero k h1 fun j h2 h3 => h0 j h2 (by omega)
theorem trimN_self {xs : List Int} {n : Nat} (h : ∀ i, i < n → xs.getD i 0 ≠ 0) : trimN xs n = n := by
  cases n with
  | zero => rfl
  | succ n => rw [trimN, if_neg (h n (Nat.lt_succ_self _))]
theorem mem_take_iff {xs : List Int} {n : Nat} (hn : n ≤ xs.length) {c : Int} : c ∈ xs.take n ↔ ∃ i, i < n ∧ xs.getD i 0 = c := by
  constructor
  · intro h
    obtain ⟨i, hi, e⟩ := List.mem_iff_getElem.1 h
    simp at hi
    exact ⟨i, by omega, by rw [List.getD_eq_getElem?_getD, List.getElem?_eq_getElem (by omega)]; simpa using e⟩
  · rintro ⟨i, hi, e⟩
    refine List.mem_iff_getElem.2 ⟨i, by simp; omega, ?_⟩
    rw [List.getD_eq_getElem?_getD, List.getElem?_eq_getElem (by omega)] at e
    simpa using e
theorem name_ok {xs : List Int} {n : Nat} (hn : n ≤ xs.length) (h : ∀ i, i < n → xs.getD i 0 ≠ 0) (h0 : ∀ j, n ≤ j → j < xs.length → xs.getD j 0 = 0) : nameN xs = n ∧ nameE xs = 0 := by
  have h1 : nameN xs = n := by
    unfold nameN
    rw [trimN_zero _ hn h0, trimN_self h]
  refine ⟨h1, ?_⟩
  unfold nameE
  rw [h1, if_neg]
  intro hm
  obtain ⟨i, hi, e⟩ := (mem_take_iff hn).1 hm
  exact h i hi e
theorem name_bad {xs : List Int} {n i : Nat} (h0 : xs.getD n 0 = 0) (hni : n < i) (hi : i < xs.length) (h : xs.getD i 0 ≠ 0) : nameE xs = 2 := by
  have h1 : i < nameN xs := trimN_gt h _ hi
  unfold nameE
  rw [if_pos]
  exact (mem_take_iff (trimN_le _ _)).2 ⟨n, Nat.lt_trans hni h1, h0⟩

set_option maxHeartbeats 1000000 in
set_option maxRecDepth 10000 in
theorem trimByte_prog (xs : List Int) (hl : xs.length ≤ 281474976710656) : ACalls Tryd.prog 37 [.roI .u8 xs, int .u8 0] [] (fun r h => r = .roI .u8 (xs.take (nameN xs)) ∧ h = []) := by
  refine rcalls Tryd.func37 rfl (by decide) ?_
  refine ⟨List Int, fun ys => [(0, .roI .u8 ys), (1, int .u8 0)], fun _ => [], fun ys => ∃ k, k ≤ xs.length ∧ ys = xs.take k ∧ ys.length = k ∧ trimN xs k = nameN xs, fun ys => ys.length,
    ⟨xs, [], ⟨xs.length, Nat.le_refl _, by simp, rfl, rfl⟩, leh0, ⟨leRo rfl, leI rfl, trivial⟩⟩, ?_⟩
  rintro ys ⟨k, hk, hys, hlen, htr⟩
  have fin : k = trimN xs k → ys = xs.take (nameN xs) := fun e => by rw [hys, ← htr, ← e]
  have hlast : ∀ j, j < k → ys.getD j 0 = xs.getD j 0 := fun j hj => by
    rw [hys, List.getD_eq_getElem?_getD, List.getElem?_take, if_pos hj, List.getD_eq_getElem?_getD]
  refine ⟨fun h1 => ?_, fun h1 => ?_⟩
  · have f1 := yes h1
    have e1 : IntKind.i64.wrap ((ys.length : Int) - 1) = ((k - 1 : Nat) : Int) := by rw [w64 (by omega) (by omega)]; omega
    refine ⟨⟨by rw [e1]; omega, by rw [e1]; omega⟩, ?_⟩
    refine ⟨fun h2 => ?_, fun h2 => ?_⟩
    · have f2 := yes h2
      rw [e1] at f2
      refine ⟨⟨by rw [e1]; omega, by rw [e1]; omega⟩, ?_⟩
      have e2 : (ys.take ((k - 1 : Nat) : Int).toNat).drop 0 = xs.take (k - 1) := by
        rw [hys, List.drop_zero, List.take_take, Int.toNat_natCast, Nat.min_eq_left (by omega)]
      refine ⟨trivial, xs.take (k - 1), [], ⟨k - 1, by omega, rfl, by simp; omega, ?_⟩, by simp; omega, leh0, ⟨leRo (by rw [e1]; exact e2), leI rfl, trivial⟩⟩
      rw [← htr]
      obtain ⟨j, rfl⟩ : ∃ j, k = j + 1 := ⟨k - 1, by omega⟩
      have f3 : xs.getD j 0 = 0 := by rw [← hlast j (by omega)]; simpa using f2
      rw [trimN, if_pos f3]
      rfl
    · have f2 := no h2
      rw [e1] at f2
      refine ⟨[], [], _, leh0, leRo (fin ?_), rfl, rfl⟩
      obtain ⟨j, rfl⟩ : ∃ j, k = j + 1 := ⟨k - 1, by omega⟩
      have f3 : ¬ xs.getD j 0 = 0 := by rw [← hlast j (by omega)]; simpa using f2
      rw [trimN, if_neg f3]
  · have f1 := no h1
    refine ⟨[], [], _, leh0, leRo (fin ?_), rfl, rfl⟩
    obtain rfl : k = 0 := by omega
    rfl

set_option maxHeartbeats 1000000 in
set_option maxRecDepth 10000 in
theorem trim_prog (xs : List Int) (hl : xs.length ≤ 281474976710656) : ACalls Tryd.prog 30 [.roI .u8 xs, str ⟨#[0]⟩] [] (fun r h => r = .roI .u8 (xs.take (nameN xs)) ∧ h = []) := by
  refine rcalls Tryd.func30 rfl (by decide) ?_
  have d1 : decide ((⟨#[0]⟩ : ByteArray) = ByteArray.empty) = false := by decide
  refine ⟨fun h1 => ?_, fun h1 => ?_⟩
  · have f1 := yes h1
    have f2 : xs = [] := List.length_eq_zero_iff.1 (by omega)
    exact ⟨[], [], _, leh0, leRo (by subst f2; rfl), rfl, rfl⟩
  · refine ⟨fun h2 => absurd (yes h2) (by decide), fun _ => ?_⟩
    refine ⟨fun _ => ?_, fun h3 => absurd (no h3) (by decide)⟩
    refine ⟨⟨by decide, by decide⟩, ?_⟩
    refine ⟨fun _ => ?_, fun h3 => absurd (no h3) (by decide)⟩
    refine ⟨⟨by decide, by decide⟩, ?_⟩
    refine ⟨[], _, trimByte_prog xs hl, ?_⟩
    rintro r h ⟨rfl, rfl⟩
    refine ⟨.inl rfl, ?_⟩
    exact ⟨[], [], _, leh0, leRo rfl, rfl, rfl⟩

set_option maxHeartbeats 1000000 in
set_option maxRecDepth 10000 in
theorem name_prog (xs : List Int) (hx : ∀ x ∈ xs, 0 ≤ x ∧ x < 256) (hl : xs.length ≤ 281474976710656) : ACalls Tryd.prog 14 [.roI .u8 xs] [] (NameR xs) := by
  refine rcalls Tryd.func14 rfl (by decide) ?_
  have ht := trim_prog xs hl
  have hr : nameE xs = 0 → nameR xs = bytesOf (xs.take (nameN xs)) := fun h => by rw [nameR, if_pos h]
  have hr2 : nameE xs ≠ 0 → nameR xs = ByteArray.empty := fun h => by rw [nameR, if_neg h]
  have he : nameE xs = if (0 : Int) ∈ xs.take (nameN xs) then 2 else 0 := rfl
  have hys : ∀ x ∈ xs.take (nameN xs), 0 ≤ x ∧ x < 256 := fun x hm => hx x (List.mem_of_mem_take hm)
  unfold NameR
  generalize nameR xs = R at *
  generalize nameE xs = E at *
  generalize xs.take (nameN xs) = ys at *
  refine ⟨[], _, ht, ?_⟩
  rintro r h ⟨rfl, rfl⟩
  refine ⟨.inl rfl, ?_⟩
  refine ⟨[], _, indexByte_prog ys hys, ?_⟩
  rintro r h ⟨rfl, rfl⟩
  refine ⟨.inl rfl, ?_⟩
  refine ⟨fun h1 => ?_, fun h1 => ?_⟩
  · have f1 : (0 : Int) ∈ ys := (index0_iff hys).1 (yes h1)
    rw [if_pos f1] at he
    exact ⟨[], [], _, leh0, le_pair (leS (hr2 (by omega)).symm) (leI he.symm), rfl, rfl⟩
  · have f1 : ¬ (0 : Int) ∈ ys := fun h2 => no h1 ((index0_iff hys).2 h2)
    rw [if_neg f1] at he
    exact ⟨[], [], _, leh0, le_pair (leS (hr he).symm) (leI he.symm), rfl, rfl⟩

set_option maxHeartbeats 1000000 in
set_option maxRecDepth 10000 in
theorem name_ref (xs : List Int) (hx : ∀ x ∈ xs, 0 ≤ x ∧ x < 256) (hl : xs.length ≤ 281474976710656) : ACalls Tryd.prog 15 [.roI .u8 xs] [] (NameR xs) := by
  refine rcalls Tryd.func15 rfl (by decide) ?_
  have hr : nameE xs = 0 → nameR xs = bytesOf (xs.take (nameN xs)) := fun h => by rw [nameR, if_pos h]
  have hr2 : nameE xs ≠ 0 → nameR xs = ByteArray.empty := fun h => by rw [nameR, if_neg h]
  refine ⟨Nat, fun k => [(0, .roI .u8 xs), (4, int .i64 k)], fun _ => [], fun k => k ≤ xs.length ∧ ∀ i, i < k → xs.getD i 0 ≠ 0, fun k => xs.length - k,
    ⟨0, [], ⟨Nat.zero_le _, fun i hi => absurd hi (Nat.not_lt_zero _)⟩, leh0, ⟨leRo rfl, leI rfl, trivial⟩⟩, ?_⟩
  rintro k ⟨hk, hnz⟩
  refine ⟨fun h1 => ⟨⟨by omega, by have := yes h1; omega⟩, fun h2 => ?_, fun h2 => ?_⟩, fun h1 => ?_⟩
  · have f1 := yes h1
    have f2 : ¬ xs.getD k 0 = 0 := by simpa using yes h2
    have e1 : IntKind.i64.wrap ((k : Int) + 1) = ((k + 1 : Nat) : Int) := by rw [w64 (by omega) (by omega)]; omega
    refine ⟨trivial, k + 1, [], ⟨by omega, fun i hi => ?_⟩, by show xs.length - (k + 1) < xs.length - k; omega, leh0, ⟨leRo rfl, leI e1, trivial⟩⟩
    rcases Nat.lt_or_ge i k with h3 | h3
    · exact hnz i h3
    · rw [show i = k by omega]; exact f2
  all_goals
    have hz : k < xs.length → xs.getD k 0 = 0 := by
      first
        | (intro _; have f2 := no h2; simpa using f2)
        | (intro hlt; have f1 := no h1; omega)
    refine ⟨Nat, fun i => [(0, .roI .u8 xs), (4, int .i64 k), (5, int .i64 i)], fun _ => [], fun i => k ≤ i ∧ i ≤ xs.length ∧ ∀ j, k ≤ j → j < i → xs.getD j 0 = 0, fun i => xs.length - i,
      ⟨k, [], ⟨Nat.le_refl _, hk, fun j h1 h2 => absurd h1 (by omega)⟩, leh0, ⟨leRo rfl, leI rfl, leI rfl, trivial⟩⟩, ?_⟩
    rintro i ⟨hki, hi, h0⟩
    refine ⟨fun h3 => ⟨⟨by omega, by have := yes h3; omega⟩, fun h4 => ?_, fun h4 => ?_⟩, fun h3 => ?_⟩
    · have f3 := yes h3
      have f4 : ¬ xs.getD i 0 = 0 := by simpa using yes h4
      have hne : i ≠ k := fun e => f4 (e ▸ hz (by omega))
      have hE : nameE xs = 2 := name_bad (hz (by omega)) (by omega) (by omega) f4
      exact ⟨[], [], _, leh0, le_pair (leS (hr2 (by omega)).symm) (leI hE.symm), rfl, rfl⟩
    · have f3 := yes h3
      have f4 : xs.getD i 0 = 0 := by simpa using no h4
      have e1 : IntKind.i64.wrap ((i : Int) + 1) = ((i + 1 : Nat) : Int) := by rw [w64 (by omega) (by omega)]; omega
      refine ⟨trivial, i + 1, [], ⟨by omega, by omega, fun j g1 g2 => ?_⟩, by show xs.length - (i + 1) < xs.length - i; omega, leh0, ⟨leRo rfl, leI rfl, leI e1, trivial⟩⟩
      rcases Nat.lt_or_ge j i with h5 | h5
      · exact h0 j g1 h5
      · rw [show j = i by omega]; exact f4
    · have f3 := no h3
      obtain rfl : i = xs.length := by omega
      obtain ⟨e1, e2⟩ := name_ok hk hnz h0
      refine ⟨⟨by omega, by omega⟩, [], [], _, leh0, le_pair (leS ?_) (leI e2.symm), rfl, rfl⟩
      rw [hr e2, e1, List.drop_zero, Int.toNat_natCast]

end

end Go.Proofs.YtlogcpcdkhmjoaaDoor.Oc
