/-
  Digests as text, in plain Lean. No program in sight.
-/
import Derived.Test.YtlogcpcdkhmjoaaDoorAlPlain
set_option linter.unusedVariables false
namespace Go.Proofs.YtlogcpcdkhmjoaaDoor.Hx
open Go AL

def fig (n : Int) : Int := if n < 10 then 48 + n else 87 + n
def hexL : List Int → List Int
  | [] => []
  | c :: r => fig (c / 16) :: fig (c % 16) :: hexL r
def textS (xs : List Int) : ByteArray := bytesOf (hexL xs)
theorem hexL_snoc : ∀ (xs : List Int) (c : Int), hexL (xs ++ [c]) = hexL xs ++ [fig (c / 16), fig (c % 16)]
  | [], c => rfl
  | x :: xs, c => by simp [hexL, hexL_snoc xs c]
theorem hexL_length : ∀ xs : List Int, (hexL xs).length = 2 * xs.length
  | [] => rfl
  | x :: xs => by simp [hexL, hexL_length xs]; omega
theorem fig_range {n : Int} (h0 : 0 ≤ n) (h1 : n < 16) : 48 ≤ fig n ∧ fig n < 103 := by unfold fig; split <;> omega

/-- Is it a figure, and which? -/
def hexd (c : Int) : Prop := (48 ≤ c ∧ c ≤ 57) ∨ (97 ≤ c ∧ c ≤ 102)
instance (c : Int) : Decidable (hexd c) := by unfold hexd; exact inferInstance
def nv (c : Int) : Int := if c ≤ 57 then c - 48 else c - 87
theorem nv_range {c : Int} (h : hexd c) : 0 ≤ nv c ∧ nv c < 16 := by unfold hexd at h; unfold nv; split <;> omega
theorem fig_nv {c : Int} (h : hexd c) : fig (nv c) = c := by unfold hexd at h; unfold nv fig; split <;> split <;> omega
theorem nv_fig {n : Int} (h0 : 0 ≤ n) (h1 : n < 16) : nv (fig n) = n ∧ hexd (fig n) := by unfold fig nv hexd; split <;> split <;> omega

def parseOK (xs : List Int) : Prop := xs.length = 64 ∧ ∀ i, i < 64 → hexd (xs.getD i 0)
def full (xs : List Int) (i : Nat) : Int := 16 * nv (xs.getD (2 * i) 0) + nv (xs.getD (2 * i + 1) 0)
def pd (xs : List Int) : List Int := (List.range 32).map (full xs)
open Classical in
noncomputable def parseD (xs : List Int) : List Int := if parseOK xs then pd xs else List.replicate 32 0
open Classical in
noncomputable def parseE (xs : List Int) : Int := if parseOK xs then 0 else 2
theorem parse_ok {xs : List Int} (h : parseOK xs) : parseE xs = 0 ∧ parseD xs = pd xs := by unfold parseE parseD; rw [if_pos h, if_pos h]; exact ⟨rfl, rfl⟩
theorem parse_no {xs : List Int} (h : ¬ parseOK xs) : parseE xs = 2 ∧ parseD xs = List.replicate 32 0 := by unfold parseE parseD; rw [if_neg h, if_neg h]; exact ⟨rfl, rfl⟩

/-- The digest so far: the first k figures are read. -/
def dpart (xs : List Int) (k : Nat) : List Int := (List.range 32).map fun i => if 2 * i + 1 < k then full xs i else if 2 * i < k then nv (xs.getD (2 * i) 0) else 0
theorem dpart_length (xs : List Int) (k : Nat) : (dpart xs k).length = 32 := by simp [dpart]
theorem dpart_get (xs : List Int) (k i : Nat) (h : i < 32) : (dpart xs k).getD i 0 = if 2 * i + 1 < k then full xs i else if 2 * i < k then nv (xs.getD (2 * i) 0) else 0 := by
  unfold dpart
  rw [List.getD_eq_getElem?_getD, List.getElem?_map, List.getElem?_range h]
  rfl
theorem dpart_zero (xs : List Int) : dpart xs 0 = List.replicate 32 0 := by
  apply List.ext_getElem?
  intro i
  rcases Nat.lt_or_ge i 32 with h | h
  · have := dpart_get xs 0 i h
    rw [List.getD_eq_getElem?_getD, List.getElem?_eq_getElem (by rw [dpart_length]; exact h)] at this
    rw [List.getElem?_eq_getElem (by rw [dpart_length]; exact h), List.getElem?_replicate, if_pos h]
    simpa using this
  · rw [List.getElem?_eq_none (by rw [dpart_length]; exact h), List.getElem?_eq_none (by simpa using h)]
theorem dpart_full (xs : List Int) : dpart xs 64 = pd xs := by
  unfold dpart pd
  apply List.map_congr_left
  intro i hi
  rw [if_pos (by have := List.mem_range.1 hi; omega)]
theorem dpart_set {xs : List Int} {k j : Nat} {v : Int} (hj : j < 32) (hv : v = if 2 * j + 1 < k then full xs j else if 2 * j < k then nv (xs.getD (2 * j) 0) else 0) {m : Nat}
    (hm : ∀ i, i < 32 → i ≠ j → (2 * i + 1 < m ↔ 2 * i + 1 < k) ∧ (2 * i < m ↔ 2 * i < k)) : (dpart xs m).set j v = dpart xs k := by
  apply List.ext_getElem?
  intro i
  rw [List.getElem?_set]
  rcases Nat.lt_or_ge i 32 with h | h
  · have e1 := dpart_get xs k i h
    have e2 := dpart_get xs m i h
    rw [List.getD_eq_getElem?_getD, List.getElem?_eq_getElem (by rw [dpart_length]; exact h)] at e1 e2
    simp only [Option.getD_some] at e1 e2
    rw [List.getElem?_eq_getElem (by rw [dpart_length]; exact h), List.getElem?_eq_getElem (by rw [dpart_length]; exact h), e1, e2]
    by_cases hij : j = i
    · subst hij
      rw [if_pos rfl, if_pos (by rw [dpart_length]; exact h), hv]
    · rw [if_neg hij]
      obtain ⟨g1, g2⟩ := hm i h (Ne.symm hij)
      simp only [g1, g2]
  · rw [List.getElem?_eq_none (by rw [dpart_length]; exact h)]
    by_cases hij : j = i
    · omega
    · rw [if_neg hij, List.getElem?_eq_none (by rw [dpart_length]; exact h)]
/-- One figure more. -/
theorem dpart_succ {xs : List Int} {k : Nat} (hk : k < 64) : (dpart xs k).set (k / 2) (16 * (dpart xs k).getD (k / 2) 0 + nv (xs.getD k 0)) = dpart xs (k + 1) := by
  refine dpart_set (by omega) ?_ (fun i _ hij => by omega)
  rw [dpart_get xs k (k / 2) (by omega)]
  by_cases he : k % 2 = 0
  · rw [if_neg (by omega), if_neg (by omega), if_neg (by omega), if_pos (by omega), show 2 * (k / 2) = k by omega]; omega
  · rw [if_neg (by omega), if_pos (by omega), if_pos (by omega)]
    unfold full
    rw [show 2 * (k / 2) + 1 = k by omega]
/-- Two figures more. -/
theorem dpart_two {xs : List Int} {i : Nat} (hi : i < 32) : (dpart xs (2 * i)).set i (full xs i) = dpart xs (2 * (i + 1)) := by
  refine dpart_set hi ?_ (fun j _ hij => by omega)
  rw [if_pos (by omega)]

theorem or_nib : ∀ a n : Fin 16, Go.bits .or .u8 (IntKind.u8.wrap ((a.val : Int) * 2 ^ (min 4 8))) n.val = 16 * a.val + n.val := by decide +kernel
theorem or_nib' {a n : Int} (h0 : 0 ≤ a) (h1 : a < 16) (g0 : 0 ≤ n) (g1 : n < 16) : Go.bits .or .u8 (IntKind.u8.wrap (a * 2 ^ (min 4 8))) n = 16 * a + n := by
  have := or_nib ⟨a.toNat, by omega⟩ ⟨n.toNat, by omega⟩
  rwa [show ((a.toNat : Nat) : Int) = a by omega, show ((n.toNat : Nat) : Int) = n by omega] at this
theorem and_low : ∀ c : Fin 256, Go.bits .and .u8 (c.val : Int) 15 = (c.val : Int) % 16 := by decide +kernel
theorem and_low' {c : Int} (h0 : 0 ≤ c) (h1 : c < 256) : Go.bits .and .u8 c 15 = c % 16 := by
  have := and_low ⟨c.toNat, by omega⟩
  rwa [show ((c.toNat : Nat) : Int) = c by omega] at this
def figs : ByteArray := ⟨#[48, 49, 50, 51, 52, 53, 54, 55, 56, 57, 97, 98, 99, 100, 101, 102]⟩
theorem figs_get : ∀ q : Fin 16, (intsOf figs).getD q.val 0 = fig q.val := by decide
theorem figs_get' {q : Int} (h0 : 0 ≤ q) (h1 : q < 16) : (intsOf figs).getD q.toNat 0 = fig q := by
  have := figs_get ⟨q.toNat, by omega⟩
  rw [show ((q.toNat : Nat) : Int) = q by omega] at this
  exact this

end Go.Proofs.YtlogcpcdkhmjoaaDoor.Hx
