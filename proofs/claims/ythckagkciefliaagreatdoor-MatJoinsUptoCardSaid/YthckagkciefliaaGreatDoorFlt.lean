/-
  Integers as floats, and the sign of a difference. No program in sight.
-/
import GoSem.Core.Float
import Derived.Laws.ComplexArith
set_option linter.unusedVariables false
set_option linter.unusedSimpArgs false
namespace Go.Proofs.YthckagkciefliaaGreatDoor.Flt
open Ieee

theorem dbl : double.fractionBits = 52 ∧ double.exponentBits = 11 ∧ double.leastPlace = -1074 ∧ double.binade = 4503599627370496 ∧ double.signWeight = 9223372036854775808 ∧ double.infRung = 9218868437227405312 := by
  refine ⟨rfl, rfl, by decide, by decide, by decide, by decide⟩

theorem cut0 (neg : Bool) (n : Nat) : Toward.even.cut neg n 0 = n := by
  unfold Toward.cut
  simp [Nat.mod_one]

/-- A word that is read: its sign, its rung. -/
theorem read_word (neg : Bool) (rung : Nat) (h : rung ≤ 9218868437227405312) :
    double.read (double.word neg rung) = if rung < 4503599627370496 then .number neg rung (-1074) else if rung < 9218868437227405312 then .number neg (4503599627370496 + rung % 4503599627370496) (-1074 + (rung / 4503599627370496 - 1 : Nat)) else .infinity neg := by
  obtain ⟨_, _, e3, e4, e5, e6⟩ := dbl
  have h1 : double.word neg rung / 9223372036854775808 % 2 == 1 ↔ neg = true := by
    unfold Format.word
    rw [e5]
    cases neg
    · simp; omega
    · simp; omega
  have h2 : double.word neg rung % 9223372036854775808 = rung := by
    unfold Format.word
    rw [e5]
    cases neg
    · simp; omega
    · simp; omega
  have h3 : (double.word neg rung / 9223372036854775808 % 2 == 1) = neg := by
    cases neg
    · have : ¬ ((double.word false rung / 9223372036854775808 % 2 == 1) = true) := fun h => Bool.false_ne_true (h1.1 h)
      simpa using this
    · exact h1.2 rfl
  unfold Format.read
  simp only [e3, e4, e5, e6, h2, h3]
  split
  · rfl
  · split
    · rfl
    · rw [if_pos (by omega)]

theorem log2_bounds {n : Nat} (h : n ≠ 0) : 2 ^ n.log2 ≤ n ∧ n < 2 ^ (n.log2 + 1) := ⟨Nat.log2_self_le h, Nat.lt_log2_self⟩

/-- An integer as a float, read again. -/
theorem read_int (neg : Bool) (m : Nat) (h0 : m ≠ 0) (h : m < 9007199254740992) :
    double.read (double.nearest neg m 0) = .number neg (m * 2 ^ (52 - m.log2)) ((m.log2 : Int) - 52) := by
  obtain ⟨e1, _, e3, e4, e5, e6⟩ := dbl
  obtain ⟨hl, hu⟩ := log2_bounds h0
  have hL : m.log2 ≤ 52 := by
    have : m.log2 < 53 := (Nat.log2_lt h0).2 (by simpa using h)
    omega
  unfold Format.nearest
  rw [if_neg h0]
  simp only [e1, e3, e4, e6]
  have hlast : max ((0 : Int) + (m.log2 : Int) - (52 : Nat)) (-1074) = (m.log2 : Int) - 52 := by omega
  rw [hlast]
  have d1 : ((0 : Int) - ((m.log2 : Int) - 52)).toNat = 52 - m.log2 := by omega
  have d2 : (((m.log2 : Int) - 52) - 0).toNat = 0 := by omega
  rw [d1, d2, cut0, Nat.shiftLeft_eq]
  have hk : 4503599627370496 ≤ m * 2 ^ (52 - m.log2) ∧ m * 2 ^ (52 - m.log2) < 9007199254740992 := by
    have p1 : 2 ^ m.log2 * 2 ^ (52 - m.log2) = 4503599627370496 := by rw [← Nat.pow_add, show m.log2 + (52 - m.log2) = 52 by omega]
    have p2 : 2 ^ (m.log2 + 1) * 2 ^ (52 - m.log2) = 9007199254740992 := by rw [← Nat.pow_add, show m.log2 + 1 + (52 - m.log2) = 53 by omega]
    have hp : 0 < 2 ^ (52 - m.log2) := Nat.two_pow_pos _
    constructor
    · rw [← p1]; exact Nat.mul_le_mul_right _ hl
    · rw [← p2]; exact (Nat.mul_lt_mul_right hp).2 hu
  generalize hK : m * 2 ^ (52 - m.log2) = K at *
  have d3 : ((m.log2 : Int) - 52 - -1074).toNat = m.log2 + 1022 := by omega
  rw [d3, Nat.min_eq_left (by omega), read_word neg _ (by omega), if_neg (by omega), if_pos (by omega)]
  congr 1
  · omega
  · omega

/-- The sign of a number that is written and read again. -/
theorem read_sign (neg : Bool) (m : Nat) (p : Int) (h0 : m ≠ 0) (hp : -1074 ≤ p + m.log2 - 52) :
    (∃ k q, k ≠ 0 ∧ double.read (double.nearest neg m p) = .number neg k q) ∨ double.read (double.nearest neg m p) = .infinity neg := by
  obtain ⟨e1, _, e3, e4, e5, e6⟩ := dbl
  obtain ⟨hl, hu⟩ := log2_bounds h0
  unfold Format.nearest
  rw [if_neg h0]
  simp only [e1, e3, e4, e6]
  have hlast : max (p + (m.log2 : Int) - (52 : Nat)) (-1074) = p + (m.log2 : Int) - 52 := by omega
  rw [hlast]
  -- what is kept has 53 digits at least
  have hkept : 4503599627370496 ≤ Toward.even.cut neg (m <<< (p - (p + (m.log2 : Int) - 52)).toNat) ((p + (m.log2 : Int) - 52) - p).toNat := by
    by_cases h : m.log2 ≤ 52
    · have d1 : (p - (p + (m.log2 : Int) - 52)).toNat = 52 - m.log2 := by omega
      have d2 : ((p + (m.log2 : Int) - 52) - p).toNat = 0 := by omega
      rw [d1, d2, cut0, Nat.shiftLeft_eq]
      have p1 : 2 ^ m.log2 * 2 ^ (52 - m.log2) = 4503599627370496 := by rw [← Nat.pow_add, show m.log2 + (52 - m.log2) = 52 by omega]
      rw [← p1]; exact Nat.mul_le_mul_right _ hl
    · have d1 : (p - (p + (m.log2 : Int) - 52)).toNat = 0 := by omega
      have d2 : ((p + (m.log2 : Int) - 52) - p).toNat = m.log2 - 52 := by omega
      rw [d1, d2, Nat.shiftLeft_zero]
      unfold Toward.cut
      simp only []
      have : 4503599627370496 ≤ m / 1 <<< min (m.log2 - 52) (m.log2 + 2) := by
        rw [Nat.min_eq_left (by omega), Nat.shiftLeft_eq, Nat.one_mul, Nat.le_div_iff_mul_le (Nat.two_pow_pos _)]
        have p1 : 4503599627370496 * 2 ^ (m.log2 - 52) = 2 ^ m.log2 := by
          rw [show (4503599627370496 : Nat) = 2 ^ 52 by decide, ← Nat.pow_add, show 52 + (m.log2 - 52) = m.log2 by omega]
        omega
      omega
  generalize Toward.even.cut neg (m <<< (p - (p + (m.log2 : Int) - 52)).toNat) ((p + (m.log2 : Int) - 52) - p).toNat = K at *
  generalize (p + (m.log2 : Int) - 52 - -1074).toNat = E
  have hr : 4503599627370496 ≤ min (E * 4503599627370496 + K) 9218868437227405312 := Nat.le_min.2 ⟨Nat.le_trans hkept (Nat.le_add_left _ _), by omega⟩
  have hr2 : min (E * 4503599627370496 + K) 9218868437227405312 ≤ 9218868437227405312 := Nat.min_le_right _ _
  generalize min (E * 4503599627370496 + K) 9218868437227405312 = R at *
  rw [read_word neg R hr2, if_neg (by omega)]
  split
  · exact .inl ⟨_, _, by omega, rfl⟩
  · exact .inr rfl

/-- An int64 as a float. -/
def ofInt (x : Int) : Nat := double.nearest (decide (x < 0)) x.natAbs 0

theorem signed_neg (s : Bool) (m up : Nat) : signed (!s) m up = - signed s m up := by
  unfold signed
  cases s <;> simp
theorem read_ofInt {x : Int} (h : x.natAbs < 9007199254740992) : ∃ m i, double.read (ofInt x) = .number (decide (x < 0)) m i ∧ -1074 ≤ i ∧ i ≤ 0 ∧
    ∀ b : Int, b ≤ i → signed (decide (x < 0)) m (i - b).toNat = x * 2 ^ (-b).toNat := by
  by_cases h0 : x = 0
  · subst h0
    refine ⟨0, -1074, ?_, by decide, by decide, fun b hb => by simp [signed]⟩
    unfold ofInt Format.nearest
    rw [if_pos (by decide), read_word _ _ (by decide), if_pos (by decide)]
  · have hm : x.natAbs ≠ 0 := by omega
    have hL : x.natAbs.log2 ≤ 52 := by
      have : x.natAbs.log2 < 53 := (Nat.log2_lt hm).2 (by simpa using h)
      omega
    refine ⟨_, _, read_int _ _ hm h, by omega, by omega, fun b hb => ?_⟩
    have e : (52 - x.natAbs.log2) + (((x.natAbs.log2 : Int) - 52) - b).toNat = (-b).toNat := by omega
    have h1 : (x.natAbs * 2 ^ (52 - x.natAbs.log2)) <<< (((x.natAbs.log2 : Int) - 52) - b).toNat = x.natAbs * 2 ^ (-b).toNat := by
      rw [Nat.shiftLeft_eq, Nat.mul_assoc, ← Nat.pow_add, e]
    unfold signed
    rw [h1]
    by_cases hn : x < 0
    · simp only [hn, decide_true, if_true]
      have : (x.natAbs : Int) = -x := by omega
      push_cast
      rw [this, Int.neg_mul, Int.neg_neg]
    · simp only [hn, decide_false, Bool.false_eq_true, if_false]
      have : (x.natAbs : Int) = x := by omega
      push_cast
      rw [this]

theorem read_zero : double.read 0 = .number false 0 (-1074) := by decide

/-- The sign of a float. -/
def sgn (r : Nat) (c : Ordering) : Prop := double.order r 0 = some c ∧ double.order r r = some .eq

theorem sgn_zero (neg : Bool) (p : Int) : sgn (double.nearest neg 0 p) .eq := by
  have : double.read (double.nearest neg 0 p) = .number neg 0 (-1074) := by
    unfold Format.nearest
    rw [if_pos rfl, read_word _ _ (by decide), if_pos (by decide)]
  unfold sgn Format.order
  rw [this, read_zero]
  cases neg <;> decide
theorem compare_self (a : Int) : compare a a = .eq := by simp [compare, compareOfLessAndEq]
theorem sgn_read {r k : Nat} {q : Int} {neg : Bool} (hk : k ≠ 0) (h : double.read r = .number neg k q) : sgn r (if neg then .lt else .gt) := by
  unfold sgn Format.order
  rw [h, read_zero]
  refine ⟨?_, ?_⟩
  · simp only [Datum.order]
    have h0 : ∀ up, signed false 0 up = 0 := fun up => by simp [signed]
    rw [h0]
    have hp : ∀ up, (0 : Int) < ((k <<< up : Nat) : Int) := fun up => by
      rw [Nat.shiftLeft_eq]
      have : 0 < k * 2 ^ up := Nat.mul_pos (by omega) (Nat.two_pow_pos _)
      exact_mod_cast this
    have := hp (q - min q (-1074)).toNat
    cases neg
    · simp only [signed, Bool.false_eq_true, if_false, compare, compareOfLessAndEq]
      rw [if_neg (by omega), if_neg (by omega)]
    · simp only [signed, if_true, compare, compareOfLessAndEq]
      rw [if_pos (by omega)]
  · simp only [Datum.order, compare_self]
theorem sgn_inf {r : Nat} {neg : Bool} (h : double.read r = .infinity neg) : sgn r (if neg then .lt else .gt) := by
  unfold sgn Format.order
  rw [h, read_zero]
  cases neg <;> decide

/-- The difference of two integers that are small, as floats. -/
theorem sub_sgn {x y : Int} (hx : x.natAbs < 9007199254740992) (hy : y.natAbs < 9007199254740992) :
    ∃ r, double.sub (ofInt x) (ofInt y) = some r ∧ sgn r (if x < y then .lt else if x = y then .eq else .gt) := by
  obtain ⟨m, i, e1, i1, i2, hm⟩ := read_ofInt hx
  obtain ⟨n, j, e2, j1, j2, hn⟩ := read_ofInt hy
  unfold Format.sub
  rw [e1, e2]
  simp only [Datum.opposite, Datum.sum, Option.map_some]
  rw [signed_neg, hm _ (by omega), hn _ (by omega)]
  have hb : (-(min i j)).toNat ≤ 1074 := by omega
  have hb2 : min i j = -(((-(min i j)).toNat : Nat) : Int) := by omega
  generalize hB : (-(min i j)).toNat = B at *
  have ht : x * 2 ^ B + -(y * 2 ^ B) = (x - y) * 2 ^ B := by rw [Int.sub_mul]; omega
  rw [ht, hb2]
  have hpos : (0 : Int) < 2 ^ B := Int.pow_pos (by decide)
  refine ⟨_, rfl, ?_⟩
  unfold Format.write
  simp only []
  by_cases hxy : x = y
  · subst hxy
    have h0 : (x - x) * 2 ^ B = 0 := by rw [Int.sub_self, Int.zero_mul]
    have e : (if x < x then Ordering.lt else if x = x then .eq else .gt) = .eq := by rw [if_neg (Int.lt_irrefl x), if_pos rfl]
    rw [e, h0, if_pos rfl]
    exact sgn_zero _ _
  · have hne : (x - y) * 2 ^ B ≠ 0 := Int.mul_ne_zero (by omega) (Int.ne_of_gt hpos)
    rw [if_neg hne]
    have hmag : ((x - y) * 2 ^ B).natAbs ≠ 0 := by omega
    have hlog : B ≤ ((x - y) * 2 ^ B).natAbs.log2 := by
      rw [Nat.le_log2 hmag, Int.natAbs_mul]
      have h1 : ((2 : Int) ^ B).natAbs = 2 ^ B := by rw [Int.natAbs_pow]; rfl
      rw [h1]
      have h2 : 1 ≤ (x - y).natAbs := by omega
      calc 2 ^ B = 1 * 2 ^ B := by rw [Nat.one_mul]
        _ ≤ (x - y).natAbs * 2 ^ B := Nat.mul_le_mul_right _ h2
    have hsign : decide ((x - y) * 2 ^ B < 0) = decide (x < y) := by
      have : (x - y) * 2 ^ B < 0 ↔ x < y := by
        constructor
        · intro h
          rcases Int.lt_or_le x y with h' | h'
          · exact h'
          · have := Int.mul_nonneg (show 0 ≤ x - y by omega) (Int.le_of_lt hpos)
            omega
        · intro h
          have := Int.mul_pos (show 0 < y - x by omega) hpos
          have e : (x - y) * 2 ^ B = -((y - x) * 2 ^ B) := by rw [← Int.neg_mul]; congr 1; omega
          omega
      simp only [this]
    rw [hsign]
    have hres : sgn (double.nearest (decide (x < y)) ((x - y) * 2 ^ B).natAbs (-(B : Int))) (if (decide (x < y)) = true then .lt else .gt) := by
      rcases read_sign (decide (x < y)) ((x - y) * 2 ^ B).natAbs (-(B : Int)) hmag (by omega) with ⟨k, q, hk, e⟩ | e
      · exact sgn_read hk e
      · exact sgn_inf e
    by_cases hlt : x < y
    · simp only [hlt, decide_true, if_true] at hres ⊢; exact hres
    · simp only [hlt, decide_false, Bool.false_eq_true, if_false, hxy] at hres ⊢; exact hres

end Go.Proofs.YthckagkciefliaaGreatDoor.Flt
