/-
  Plain lemmas: numbers, rows of bytes. No program in sight.
-/
import Derived.Test.YtmohncaoimeneaaDoorAlOps
import Derived.Laws.BitsLemmas
set_option linter.unusedVariables false
namespace Go.Proofs.YtmohncaoimeneaaDoor.AL
open Go

theorem w64 {n : Int} (h0 : -9223372036854775808 ≤ n) (h1 : n < 9223372036854775808) : IntKind.i64.wrap n = n := by
  rw [IntKind.wrap_i64]; omega
theorem w8 {n : Int} (h0 : 0 ≤ n) (h1 : n < 256) : IntKind.u8.wrap n = n := by
  rw [IntKind.wrap_u8]; omega

theorem bytesOf_inj {xs ys : List Int} (hx : ∀ x ∈ xs, 0 ≤ x ∧ x < 256) (hy : ∀ y ∈ ys, 0 ≤ y ∧ y < 256) (h : bytesOf xs = bytesOf ys) : xs = ys := by
  have h1 : (bytesOf xs).data.toList.map (fun b => (b.toNat : Int)) = (bytesOf ys).data.toList.map (fun b => (b.toNat : Int)) := by rw [h]
  have go : ∀ (l : List Int), (∀ x ∈ l, 0 ≤ x ∧ x < 256) → (bytesOf l).data.toList.map (fun b => (b.toNat : Int)) = l := by
    intro l hl
    simp only [bytesOf, List.map_map]
    conv => rhs; rw [← List.map_id l]
    apply List.map_congr_left
    intro x hx
    have := hl x hx
    simp
    omega
  rw [go xs hx, go ys hy] at h1
  exact h1
theorem intsOf_bytesOf {xs : List Int} (hx : ∀ x ∈ xs, 0 ≤ x ∧ x < 256) : intsOf (bytesOf xs) = xs := by
  unfold intsOf
  simp only [bytesOf, List.map_map]
  conv => rhs; rw [← List.map_id xs]
  apply List.map_congr_left
  intro x h
  have := hx x h
  simp
  omega
theorem intsOf_range (s : ByteArray) : ∀ x ∈ intsOf s, 0 ≤ x ∧ x < 256 := by
  intro x hx
  unfold intsOf at hx
  obtain ⟨b, _, rfl⟩ := List.mem_map.1 hx
  have := b.toNat_lt
  omega
theorem bytesOf_intsOf (s : ByteArray) : bytesOf (intsOf s) = s := by
  unfold bytesOf intsOf
  rw [List.map_map]
  have : (s.data.toList.map ((fun n : Int => UInt8.ofNat n.toNat) ∘ fun b => (b.toNat : Int))) = s.data.toList := by
    conv => rhs; rw [← List.map_id s.data.toList]
    apply List.map_congr_left
    intro b _
    simp
  rw [this]
theorem byteAt {xs : List Int} (hx : ∀ x ∈ xs, 0 ≤ x ∧ x < 256) (i : Nat) : 0 ≤ xs.getD i 0 ∧ xs.getD i 0 < 256 := by
  rw [List.getD_eq_getElem?_getD]
  cases h : xs[i]? with
  | none => simp
  | some v => exact hx v (List.mem_of_getElem? h)

/-- A mask of the last k bits. -/
theorem bits_mask64 (x : Int) (k : Nat) (hk : k < 63) : Go.bits .and .i64 x (2 ^ k - 1) = x % 2 ^ k := by
  have h1 : (2 : Int) ^ k - 1 = ((2 ^ k - 1 : Nat) : Int) := by
    have : 0 < 2 ^ k := Nat.two_pow_pos k
    rw [Int.natCast_sub this]; simp
  have hlt : (2 : Nat) ^ k < 2 ^ 63 := Nat.pow_lt_pow_right (by decide) hk
  have h2 : ((BitVec.ofInt 64 x) &&& (BitVec.ofInt 64 ((2 ^ k - 1 : Nat) : Int))).toNat = (x % 2 ^ 64).toNat % 2 ^ k := by
    rw [BitVec.toNat_and, BitVec.toNat_ofInt, BitVec.ofInt_natCast, BitVec.toNat_ofNat, Nat.mod_eq_of_lt (by omega : 2 ^ k - 1 < 2 ^ 64), Nat.and_two_pow_sub_one_eq_mod]
    rfl
  have h3 : (((x % 2 ^ 64).toNat % 2 ^ k : Nat) : Int) = x % 2 ^ k := by
    rw [Int.natCast_emod, Int.toNat_of_nonneg (Int.emod_nonneg _ (by decide))]
    have : ((2 ^ k : Nat) : Int) = 2 ^ k := by simp
    rw [this]
    exact Int.emod_emod_of_dvd x ⟨2 ^ (64 - k), by rw [← Int.pow_add]; congr 1; omega⟩
  unfold Go.bits
  simp only []
  rw [h1]
  show IntKind.i64.wrap (((BitVec.ofInt 64 x) &&& (BitVec.ofInt 64 ((2 ^ k - 1 : Nat) : Int))).toNat : Int) = _
  rw [h2, h3]
  have h4 := Int.emod_nonneg x (show (2 : Int) ^ k ≠ 0 from Int.ne_of_gt (Int.pow_pos (by decide)))
  have h5 := Int.emod_lt_of_pos x (show (0 : Int) < 2 ^ k from Int.pow_pos (by decide))
  have h6 : (2 : Int) ^ k < 2 ^ 63 := by exact_mod_cast hlt
  exact w64 (by omega) (by omega)

end Go.Proofs.YtmohncaoimeneaaDoor.AL
