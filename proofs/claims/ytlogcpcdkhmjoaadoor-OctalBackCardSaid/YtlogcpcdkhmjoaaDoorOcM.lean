/-
  Octal fields, in plain Lean: what a number's field is, and what a field's number. No program in sight.
-/
import Derived.Test.YtlogcpcdkhmjoaaDoorAlUse
set_option linter.unusedVariables false
namespace Go.Proofs.YtlogcpcdkhmjoaaDoor.Oc
open Go AL

/-- The figure of place j. -/
def dig (n : Int) (j : Nat) : Int := 48 + n / 8 ^ j % 8
/-- The last m figures, the greatest first. -/
def digs (n : Int) : Nat → List Int
  | 0 => []
  | m + 1 => dig n m :: digs n m
theorem digs_length (n : Int) : ∀ m, (digs n m).length = m
  | 0 => rfl
  | m + 1 => by simp [digs, digs_length n m]
/-- Does a number fit? -/
def fits (n w : Int) : Prop := 0 ≤ n ∧ n < 8 ^ (w - 1).toNat
instance (n w : Int) : Decidable (fits n w) := by unfold fits; exact inferInstance
def putE (n w : Int) : Int := if w < 2 ∨ w > 12 then 1 else if fits n w then 0 else 8
def putR (n w : Int) : List Int := if w < 2 ∨ w > 12 then [] else if fits n w then digs n (w - 1).toNat ++ [0] else []

theorem pow8_pos (j : Nat) : (0 : Int) < 8 ^ j := Int.pow_pos (by decide)
theorem div_succ (n : Int) (j : Nat) : n / 8 ^ (j + 1) = n / 8 ^ j / 8 := by
  rw [Int.pow_succ, Int.ediv_ediv_of_nonneg (Int.le_of_lt (pow8_pos j))]
theorem fits_iff {n : Int} {m : Nat} : n / 8 ^ m = 0 ↔ 0 ≤ n ∧ n < 8 ^ m := by
  have hp := pow8_pos m
  constructor
  · intro h
    have h1 := Int.emod_nonneg n (Int.ne_of_gt hp)
    have h2 := Int.emod_lt_of_pos n hp
    have h3 := Int.mul_ediv_add_emod n (8 ^ m)
    rw [h, Int.mul_zero, Int.zero_add] at h3
    omega
  · rintro ⟨h1, h2⟩
    exact Int.ediv_eq_zero_of_lt h1 h2
theorem dig_lo (n : Int) (j : Nat) : 48 ≤ dig n j := by
  unfold dig; have := Int.emod_nonneg (n / 8 ^ j) (show (8 : Int) ≠ 0 by decide); omega
theorem dig_hi (n : Int) (j : Nat) : dig n j < 56 := by
  unfold dig; have := Int.emod_lt_of_pos (n / 8 ^ j) (show (0 : Int) < 8 by decide); omega

/-- The field so far: j figures and the end, from behind. -/
def part (n : Int) (w j : Nat) : List Int := List.replicate (w - 1 - j) 0 ++ digs n j ++ [0]
theorem part_zero (n : Int) {w : Nat} (hw : 1 ≤ w) : part n w 0 = List.replicate w 0 := by
  unfold part digs
  rw [List.append_nil, Nat.sub_zero, ← List.replicate_succ', show w - 1 + 1 = w by omega]
theorem part_length (n : Int) {w j : Nat} (hj : j + 1 ≤ w) : (part n w j).length = w := by
  simp [part, digs_length]; omega
theorem part_succ (n : Int) {w j : Nat} (hj : j + 2 ≤ w) : (part n w j).set (w - 2 - j) (dig n j) = part n w (j + 1) := by
  unfold part
  rw [show w - 1 - j = (w - 2 - j) + 1 by omega, List.replicate_succ', show w - 1 - (j + 1) = w - 2 - j by omega]
  rw [List.append_assoc, List.append_assoc, List.set_append_right _ _ (by simp)]
  simp [digs]
theorem part_full (n : Int) {w : Nat} (hw : 1 ≤ w) : part n w (w - 1) = digs n (w - 1) ++ [0] := by
  simp [part]

/-- What the first so many figures say. -/
def acc (xs : List Int) : Nat → Int
  | 0 => 0
  | k + 1 => 8 * acc xs k + (xs.getD k 0 - 48)
/-- The same, of any bytes. -/
def acr (xs : List Int) : Nat → Int
  | 0 => 0
  | k + 1 => 8 * acr xs k + xs.getD k 0 % 8
def figure (c : Int) : Prop := 48 ≤ c ∧ c < 56
/-- Is it a number's field? -/
def valid (xs : List Int) : Prop := 2 ≤ xs.length ∧ xs.length ≤ 12 ∧ xs.getD (xs.length - 1) 0 = 0 ∧ ∀ i, i < xs.length - 1 → figure (xs.getD i 0)
open Classical in
noncomputable def getV (xs : List Int) : Int := if valid xs then acc xs (xs.length - 1) else 0
open Classical in
noncomputable def getE (xs : List Int) : Int := if valid xs then 0 else 2
theorem get_ok {xs : List Int} (h : valid xs) : getV xs = acc xs (xs.length - 1) ∧ getE xs = 0 := by simp [getV, getE, h]
theorem get_no {xs : List Int} (h : ¬ valid xs) : getV xs = 0 ∧ getE xs = 2 := by simp [getV, getE, h]

theorem digs_low (a c : Int) (h0 : 0 ≤ c) (h1 : c < 8) : ∀ m, digs (8 * a + c) (m + 1) = digs a m ++ [48 + c]
  | 0 => by simp [digs, dig]; omega
  | m + 1 => by
    have h2 : dig (8 * a + c) (m + 1) = dig a m := by
      unfold dig
      have : (8 * a + c) / 8 ^ (m + 1) = a / 8 ^ m := by
        rw [Int.pow_succ, Int.mul_comm (8 ^ m) 8, ← Int.ediv_ediv_of_nonneg (by decide)]
        congr 1
        omega
      rw [this]
    rw [digs, h2, digs_low a c h0 h1 m]
    rfl
theorem take_snoc_getD (xs : List Int) (k : Nat) (h : k < xs.length) : xs.take (k + 1) = xs.take k ++ [xs.getD k 0] := by
  rw [List.take_succ_eq_append_getElem h, List.getD_eq_getElem?_getD, List.getElem?_eq_getElem h]
  rfl
theorem acc_range {xs : List Int} : ∀ {m : Nat}, (∀ i, i < m → figure (xs.getD i 0)) → 0 ≤ acc xs m ∧ acc xs m < 8 ^ m
  | 0, _ => by simp [acc]
  | m + 1, h => by
    have h1 := acc_range (m := m) fun i hi => h i (by omega)
    have h2 := h m (by omega)
    unfold figure at h2
    have : (8 : Int) ^ (m + 1) = 8 * 8 ^ m := by rw [Int.pow_succ, Int.mul_comm]
    simp only [acc]
    omega
theorem digs_acc {xs : List Int} : ∀ {m : Nat}, m ≤ xs.length → (∀ i, i < m → figure (xs.getD i 0)) → digs (acc xs m) m = xs.take m
  | 0, _, _ => by simp [digs]
  | m + 1, hm, h => by
    have h1 := digs_acc (m := m) (by omega) fun i hi => h i (by omega)
    have h2 := h m (by omega)
    unfold figure at h2
    simp only [acc]
    rw [digs_low _ _ (by omega) (by omega), h1, take_snoc_getD xs m (by omega)]
    congr 2
    omega
theorem acr_eq {xs : List Int} : ∀ {m : Nat}, (∀ i, i < m → figure (xs.getD i 0)) → acr xs m = acc xs m
  | 0, _ => rfl
  | m + 1, h => by
    have h1 := acr_eq (m := m) fun i hi => h i (by omega)
    have h2 := h m (by omega)
    unfold figure at h2
    simp only [acc, acr, h1]
    omega
theorem acr_range {xs : List Int} (hx : ∀ x ∈ xs, 0 ≤ x ∧ x < 256) : ∀ m : Nat, 0 ≤ acr xs m ∧ acr xs m < 8 ^ m
  | 0 => by simp [acr]
  | m + 1 => by
    have h1 := acr_range hx m
    have : (8 : Int) ^ (m + 1) = 8 * 8 ^ m := by rw [Int.pow_succ, Int.mul_comm]
    simp only [acr]
    omega
theorem digs_get (n : Int) : ∀ (m i : Nat), i < m → (digs n m).getD i 0 = dig n (m - 1 - i)
  | m + 1, 0, _ => by simp [digs]
  | m + 1, i + 1, h => by
    simp only [digs, List.getD_cons_succ]
    rw [digs_get n m i (by omega)]
    congr 1
    omega
theorem pow8_mono {a b : Nat} (h : a ≤ b) : (8 : Int) ^ a ≤ 8 ^ b := by
  have : (8 : Nat) ^ a ≤ 8 ^ b := Nat.pow_le_pow_right (by decide) h
  exact_mod_cast this
theorem putR_range (n w : Int) : ∀ x ∈ putR n w, 0 ≤ x ∧ x < 256 := by
  intro x hx
  unfold putR at hx
  split at hx
  · simp at hx
  · split at hx
    · have : ∀ m, ∀ x ∈ digs n m, 0 ≤ x ∧ x < 256 := by
        intro m
        induction m with
        | zero => intro x hx; simp [digs] at hx
        | succ m ih =>
          intro x hx
          simp [digs] at hx
          rcases hx with rfl | hx
          · have := dig_lo n m; have := dig_hi n m; omega
          · exact ih x hx
      simp at hx
      rcases hx with hx | rfl
      · exact this _ x hx
      · omega
    · simp at hx
/-- What is put back from a field is the field, or it is none. -/
theorem put_back {xs : List Int} (hv : valid xs) : putE (acc xs (xs.length - 1)) xs.length = 0 ∧ putR (acc xs (xs.length - 1)) xs.length = xs := by
  obtain ⟨h1, h2, h3, h4⟩ := hv
  have hr := acc_range h4
  have hw : (((xs.length : Nat) : Int) - 1).toNat = xs.length - 1 := by omega
  have hf : fits (acc xs (xs.length - 1)) xs.length := by unfold fits; rw [hw]; exact hr
  have hok : ¬ (((xs.length : Nat) : Int) < 2 ∨ ((xs.length : Nat) : Int) > 12) := by omega
  refine ⟨by simp [putE, hok, hf], ?_⟩
  have : putR (acc xs (xs.length - 1)) xs.length = digs (acc xs (xs.length - 1)) (xs.length - 1) ++ [0] := by
    simp only [putR, hok, if_false, hf, if_true, hw]
  rw [this, digs_acc (by omega) h4]
  have h5 := take_snoc_getD xs (xs.length - 1) (by omega)
  rw [h3, show xs.length - 1 + 1 = xs.length by omega, List.take_length] at h5
  exact h5.symm
theorem digs_inj {a b : Int} : ∀ {m : Nat}, 0 ≤ a → a < 8 ^ m → 0 ≤ b → b < 8 ^ m → digs a m = digs b m → a = b := by
  intro m
  induction m generalizing a b with
  | zero => intro h1 h2 h3 h4 _; simp at h2 h4; omega
  | succ m ih =>
    intro h1 h2 h3 h4 h
    have ea : digs a (m + 1) = digs (a / 8) m ++ [48 + a % 8] := by
      have := digs_low (a / 8) (a % 8) (by omega) (by omega) m
      rwa [show 8 * (a / 8) + a % 8 = a by omega] at this
    have eb : digs b (m + 1) = digs (b / 8) m ++ [48 + b % 8] := by
      have := digs_low (b / 8) (b % 8) (by omega) (by omega) m
      rwa [show 8 * (b / 8) + b % 8 = b by omega] at this
    rw [ea, eb] at h
    have hp : (8 : Int) ^ (m + 1) = 8 * 8 ^ m := by rw [Int.pow_succ, Int.mul_comm]
    have h5 := List.append_inj' h rfl
    have h6 := ih (a := a / 8) (b := b / 8) (by omega) (by omega) (by omega) (by omega) h5.1
    have h7 : 48 + a % 8 = 48 + b % 8 := by simpa using h5.2
    omega
theorem put_field {n w : Int} (h : putE n w = 0) : ((putR n w).length : Int) = w ∧ valid (putR n w) ∧ acc (putR n w) ((putR n w).length - 1) = n := by
  have hok : ¬ (w < 2 ∨ w > 12) := fun h1 => by simp [putE, h1] at h
  have hf : fits n w := by
    by_cases hf : fits n w
    · exact hf
    · simp [putE, hok, hf] at h
  have e : putR n w = digs n (w - 1).toNat ++ [0] := by simp only [putR, hok, if_false, hf, if_true]
  have hl : (putR n w).length = (w - 1).toNat + 1 := by rw [e]; simp [digs_length]
  have hd : ∀ i, i < (w - 1).toNat → (putR n w).getD i 0 = dig n ((w - 1).toNat - 1 - i) := fun i hi => by
    rw [e, List.getD_eq_getElem?_getD, List.getElem?_append_left (by simpa [digs_length] using hi), ← List.getD_eq_getElem?_getD, digs_get n _ i hi]
  have hv : ∀ i, i < (putR n w).length - 1 → figure ((putR n w).getD i 0) := fun i hi => by
    rw [hd i (by omega)]
    exact ⟨dig_lo _ _, dig_hi _ _⟩
  have hlast : (putR n w).getD ((putR n w).length - 1) 0 = 0 := by
    rw [hl, e, List.getD_eq_getElem?_getD, List.getElem?_append_right (by simp [digs_length])]
    simp [digs_length]
  refine ⟨by rw [hl]; omega, ⟨by omega, by omega, hlast, hv⟩, ?_⟩
  have h1 := digs_acc (xs := putR n w) (m := (putR n w).length - 1) (by omega) hv
  have h2 := acc_range hv
  rw [hl] at h1 h2 ⊢
  simp only [Nat.add_sub_cancel] at h1 h2 ⊢
  have h3 : digs (acc (putR n w) (w - 1).toNat) (w - 1).toNat = digs n (w - 1).toNat := by
    rw [h1, e, List.take_left' (digs_length n _)]
  exact digs_inj h2.1 h2.2 hf.1 hf.2 h3
end Go.Proofs.YtlogcpcdkhmjoaaDoor.Oc
