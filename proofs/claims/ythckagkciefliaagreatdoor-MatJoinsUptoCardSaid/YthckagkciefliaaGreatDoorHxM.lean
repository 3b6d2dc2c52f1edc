/-
  Numbers and digests as text, in plain Lean. No program in sight.
-/
import Derived.Test.YthckagkciefliaaGreatDoorFwD
import Derived.Lib.ItoaLen
import Derived.Lib.ParseIntBTie
set_option linter.unusedVariables false
namespace Go.Proofs.YthckagkciefliaaGreatDoor.Hx
open Go AL

/-- A number's text. -/
def numS (n : Int) : ByteArray := ⟨(Lib.itoa n).toArray⟩
theorem numS_inj_list {n m : Int} (h : numS n = numS m) : Lib.itoa n = Lib.itoa m := by
  have := congrArg (fun s : ByteArray => s.data.toList) h
  simpa [numS] using this
theorem numS_list (n : Int) : (numS n).data.toList = Lib.itoa n := by simp [numS]
theorem ba_ext {s : ByteArray} {l : List UInt8} (h : s.data.toList = l) : s = ⟨l.toArray⟩ := by
  cases s with
  | mk d => simp at h; subst h; simp
theorem ba_append (a b : List UInt8) : (⟨a.toArray⟩ : ByteArray) ++ ⟨b.toArray⟩ = ⟨(a ++ b).toArray⟩ := by
  refine ba_ext ?_
  simp [ByteArray.data_append]

theorem dec_big {u : Nat} (h : ¬ u < 10) : Lib.decDigits u = Lib.decDigits (u / 10) ++ [UInt8.ofNat (48 + u % 10)] := by
  rw [Lib.decDigits, dif_neg h]
theorem digit_toNat {d : Nat} (h : d < 10) : (UInt8.ofNat (48 + d)).toNat = 48 + d := by
  simp; omega
theorem dec_digit : ∀ (u : Nat) (c : UInt8), c ∈ Lib.decDigits u → 48 ≤ c.toNat ∧ c.toNat ≤ 57 := by
  intro u
  induction u using Nat.strongRecOn with
  | _ u ih =>
    intro c hc
    by_cases h : u < 10
    · rw [Lib.decDigits_one h] at hc
      simp only [List.mem_singleton] at hc
      subst hc
      rw [digit_toNat h]; omega
    · rw [dec_big h] at hc
      rcases List.mem_append.1 hc with hc | hc
      · exact ih (u / 10) (by omega) c hc
      · simp only [List.mem_singleton] at hc
        subst hc
        rw [digit_toNat (by omega)]; omega
theorem parse_dec {M : Nat} (hM : M ≤ 18446744073709551615) : ∀ (u : Nat) (r : List UInt8), u ≤ M → Lib.parseUintM M 0 (Lib.decDigits u ++ r) = Lib.parseUintM M u r := by
  intro u
  induction u using Nat.strongRecOn with
  | _ u ih =>
    intro r hu
    by_cases h : u < 10
    · rw [Lib.decDigits_one h, List.singleton_append, Lib.parseUintM]
      have e := digit_toNat h
      rw [if_pos (by omega), if_neg (by omega), if_neg (by omega), e]
      congr 1
      omega
    · rw [dec_big h, List.append_assoc, ih (u / 10) (by omega) _ (by omega), List.singleton_append, Lib.parseUintM]
      have e := digit_toNat (show u % 10 < 10 by omega)
      rw [if_pos (by omega), if_neg (by omega), if_neg (by omega), e]
      congr 1
      omega
theorem dec_ne (u : Nat) : Lib.decDigits u ≠ [] := fun h => by
  have := Lib.decDigits_length u
  rw [h] at this
  have := Lib.nDigits_pos u
  simp at *
  omega
/-- A number's text is parsed as it. -/
theorem parse_itoa {v : Int} (h0 : 0 ≤ v) (h1 : v < 9223372036854775808) : Lib.parseIntB 64 (Lib.itoa v) = .ok v := by
  have e : Lib.itoa v = Lib.decDigits v.toNat := by unfold Lib.itoa; rw [if_neg (by omega)]
  rw [e]
  cases hl : Lib.decDigits v.toNat with
  | nil => exact absurd hl (dec_ne _)
  | cons c r =>
    have hc := dec_digit v.toNat c (by rw [hl]; simp)
    have hp := parse_dec (M := 2 ^ 64 - 1) (by decide) v.toNat [] (by omega)
    rw [List.append_nil, hl] at hp
    unfold Lib.parseIntB
    simp only []
    rw [if_neg (by omega)]
    unfold Lib.parseUintB
    rw [if_neg (by simp), hp]
    simp only [Lib.parseUintM]
    have h3 : ¬ c.toNat = 45 := by omega
    rw [if_neg (by simp only [h3, not_false_eq_true, true_and]; omega), if_neg (by simp [h3]), if_neg h3]
    congr 1
    omega
theorem numS_inj {v u : Int} (h0 : 0 ≤ v) (h1 : v < 9223372036854775808) (g0 : 0 ≤ u) (g1 : u < 9223372036854775808) (h : numS v = numS u) : v = u := by
  have e := numS_inj_list h
  have a := parse_itoa h0 h1
  have b := parse_itoa g0 g1
  rw [e, b] at a
  injection a with a
  exact a.symm

/-- Is it a number's text, of that number? -/
def isNum (s : ByteArray) (v : Int) : Prop := 0 ≤ v ∧ v < 9223372036854775808 ∧ s = numS v
theorem isNum_inj {s : ByteArray} {v u : Int} (h : isNum s v) (g : isNum s u) : v = u := numS_inj h.1 h.2.1 g.1 g.2.1 (h.2.2.symm.trans g.2.2)
open Classical in
noncomputable def readE (s : ByteArray) (most : Int) : Int := if h : ∃ v, isNum s v then (if Classical.choose h > most then 8 else 0) else 2
open Classical in
noncomputable def readV (s : ByteArray) (most : Int) : Int := if h : ∃ v, isNum s v then (if Classical.choose h > most then 0 else Classical.choose h) else 0
theorem read_ok {s : ByteArray} {v most : Int} (h : isNum s v) (hm : ¬ v > most) : readE s most = 0 ∧ readV s most = v := by
  have hx : ∃ v, isNum s v := ⟨v, h⟩
  have e : Classical.choose hx = v := isNum_inj (Classical.choose_spec hx) h
  unfold readE readV
  rw [dif_pos hx, dif_pos hx, e, if_neg hm, if_neg hm]
  exact ⟨rfl, rfl⟩
theorem read_over {s : ByteArray} {v most : Int} (h : isNum s v) (hm : v > most) : readE s most = 8 ∧ readV s most = 0 := by
  have hx : ∃ v, isNum s v := ⟨v, h⟩
  have e : Classical.choose hx = v := isNum_inj (Classical.choose_spec hx) h
  unfold readE readV
  rw [dif_pos hx, dif_pos hx, e, if_pos hm, if_pos hm]
  exact ⟨rfl, rfl⟩
theorem read_none {s : ByteArray} {most : Int} (h : ∀ v, ¬ isNum s v) : readE s most = 2 ∧ readV s most = 0 := by
  have hx : ¬ ∃ v, isNum s v := fun ⟨v, hv⟩ => h v hv
  unfold readE readV
  rw [dif_neg hx, dif_neg hx]
  exact ⟨rfl, rfl⟩

/-- How long a number's text is. -/
theorem nDigits_le : ∀ (k u : Nat), u < 10 ^ (k + 1) → Lib.nDigits u ≤ k + 1
  | 0, u, h => by rw [Lib.nDigits_small (by simpa using h)]; omega
  | k + 1, u, h => by
    by_cases h10 : u < 10
    · rw [Lib.nDigits_small h10]; omega
    · rw [Lib.nDigits_big h10]
      have := nDigits_le k (u / 10) (by rw [Nat.pow_succ] at h; omega)
      omega
theorem num_size {v : Int} (h0 : 0 ≤ v) (h1 : v < 9223372036854775808) : 1 ≤ (numS v).size ∧ (numS v).size ≤ 19 := by
  have e : (numS v).size = (Lib.decDigits v.toNat).length := by
    have : (numS v).size = (Lib.itoa v).length := by show (Lib.itoa v).toArray.size = _; simp
    rw [this]; unfold Lib.itoa; rw [if_neg (by omega)]
  rw [e, Lib.decDigits_length]
  exact ⟨Lib.nDigits_pos _, nDigits_le 18 _ (by omega)⟩
theorem num_size_le {v : Int} (h0 : -9223372036854775808 ≤ v) (h1 : v < 9223372036854775808) : (numS v).size ≤ 21 := by
  have e : (numS v).size = (Lib.itoa v).length := by show (Lib.itoa v).toArray.size = _; simp
  rw [e]
  exact Lib.itoa_length_le v h0 (by omega)
theorem num_digits {v : Int} (h0 : 0 ≤ v) : ∀ c ∈ (numS v).data.toList, 48 ≤ c.toNat ∧ c.toNat ≤ 57 := by
  intro c hc
  rw [numS_list] at hc
  unfold Lib.itoa at hc
  rw [if_neg (by omega)] at hc
  exact dec_digit _ c hc
theorem num_neg {v : Int} (h : v < 0) : ∃ r, (numS v).data.toList = 45 :: r := by
  rw [numS_list]
  unfold Lib.itoa
  rw [if_pos h]
  exact ⟨_, rfl⟩

/-- What digits spell, as an int64 reckons it. -/
def stepN (a c : Int) : Int := IntKind.i64.wrap (IntKind.i64.wrap (10 * a) + (c - 48))
def foldN (xs : List Int) (a : Int) : Int := xs.foldl stepN a
theorem foldN_dec : ∀ (u : Nat) (r : List Int), u < 9223372036854775808 → foldN ((Lib.decDigits u).map (fun b => (b.toNat : Int)) ++ r) 0 = foldN r u := by
  intro u
  induction u using Nat.strongRecOn with
  | _ u ih =>
    intro r hu
    by_cases h : u < 10
    · rw [Lib.decDigits_one h]
      have e := digit_toNat h
      simp only [List.map_cons, List.map_nil, List.singleton_append, foldN, List.foldl_cons]
      congr 1
      unfold stepN
      rw [e, w64 (n := 10 * 0) (by omega) (by omega), w64 (by omega) (by omega)]
      omega
    · rw [dec_big h, List.map_append, List.append_assoc, ih (u / 10) (by omega) _ (by omega)]
      have e := digit_toNat (show u % 10 < 10 by omega)
      simp only [List.map_cons, List.map_nil, List.singleton_append, foldN, List.foldl_cons]
      congr 1
      unfold stepN
      rw [e, w64 (n := 10 * ((u / 10 : Nat) : Int)) (by omega) (by omega), w64 (by omega) (by omega)]
      omega
theorem foldN_num {v : Int} (h0 : 0 ≤ v) (h1 : v < 9223372036854775808) : foldN (intsOf (numS v)) 0 = v := by
  have e : intsOf (numS v) = (Lib.decDigits v.toNat).map (fun b => (b.toNat : Int)) := by
    unfold intsOf
    rw [numS_list]
    unfold Lib.itoa
    rw [if_neg (by omega)]
  rw [e]
  have := foldN_dec v.toNat [] (by omega)
  rw [List.append_nil] at this
  rw [this]
  simp [foldN]
  omega
theorem foldN_range (xs : List Int) : -9223372036854775808 ≤ foldN xs 0 ∧ foldN xs 0 < 9223372036854775808 := by
  have go : ∀ (xs : List Int) (a : Int), (-9223372036854775808 ≤ a ∧ a < 9223372036854775808) → -9223372036854775808 ≤ foldN xs a ∧ foldN xs a < 9223372036854775808 := by
    intro xs
    induction xs with
    | nil => intro a h; exact h
    | cons x xs ih =>
      intro a _
      refine ih (stepN a x) ?_
      unfold stepN
      rw [IntKind.wrap_i64]
      omega
  exact go xs 0 (by omega)
theorem foldN_snoc (xs : List Int) (c : Int) : foldN (xs ++ [c]) 0 = stepN (foldN xs 0) c := by simp [foldN]

/-- The number's text, figure by figure. -/
theorem numS_small {n : Int} (h0 : 0 ≤ n) (h1 : n < 10) : numS n = bytesOf [48 + n] := by
  unfold numS Lib.itoa bytesOf
  rw [if_neg (by omega), Lib.decDigits_one (by omega)]
  simp only [List.map_cons, List.map_nil]
  rw [show (48 + n).toNat = 48 + n.toNat by omega]
theorem numS_big {n : Int} (h : 10 ≤ n) : numS n = numS (n / 10) ++ bytesOf [48 + n % 10] := by
  unfold numS Lib.itoa bytesOf
  rw [if_neg (by omega), if_neg (by omega), dec_big (by omega), ba_append]
  simp only [List.map_cons, List.map_nil]
  rw [show (n / 10).toNat = n.toNat / 10 by omega, show (48 + n % 10).toNat = 48 + n.toNat % 10 by omega]
theorem numS_nsmall {n : Int} (h0 : n < 0) (h1 : -10 < n) : numS n = ⟨#[45]⟩ ++ bytesOf [48 - n] := by
  unfold numS Lib.itoa bytesOf
  rw [if_pos h0, Lib.decDigits_one (by omega)]
  have := ba_append [45] [UInt8.ofNat (48 - n).toNat]
  simp only [List.map_cons, List.map_nil]
  rw [show (48 - n).toNat = 48 + n.natAbs by omega] at *
  exact this.symm
theorem numS_nbig {n : Int} (h : n ≤ -10) : numS n = numS (-(-n / 10)) ++ bytesOf [48 + -n % 10] := by
  unfold numS Lib.itoa bytesOf
  rw [if_pos (by omega), if_pos (by omega), dec_big (by omega), ba_append]
  simp only [List.map_cons, List.map_nil]
  rw [show (-(-n / 10)).natAbs = n.natAbs / 10 by omega, show (48 + -n % 10).toNat = 48 + n.natAbs % 10 by omega]
  rfl

end Go.Proofs.YthckagkciefliaaGreatDoor.Hx
