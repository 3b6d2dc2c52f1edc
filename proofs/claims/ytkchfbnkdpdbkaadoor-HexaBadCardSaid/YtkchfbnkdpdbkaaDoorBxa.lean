import Derived.Test.YtkchfbnkdpdbkaaDoorFwD
import Derived.Test.YtkchfbnkdpdbkaaDoorProg
import Derived.Lib.ItoaLen
import Derived.Lib.ParseIntBTie
import Derived.Test.YtkchfbnkdpdbkaaDoorShelfN
import Derived.Below
import Derived.Test.YtkchfbnkdpdbkaaDoorRows
import Derived.Stop.LaidErr
import Derived.Lib.LaidTab
import Derived.LaidMore

/-
  Digests as text, in plain Lean. No program in sight.
-/
set_option linter.unusedVariables false
namespace Go.Proofs.YtkchfbnkdpdbkaaDoor.Hx
open Go AL

def fig (n : Int) : Int := if n < 10 then 48 + n else 87 + n
def hexL : List Int → List Int
  | [] => []
  | c :: r => fig (c / 16) :: fig (c % 16) :: hexL r
def textS (xs : List Int) : ByteArray := bytesOf (hexL xs)
theorem hexL_snoc : ∀ (xs : List Int) (c : Int), hexL (xs ++ [c]) = hexL xs ++ [fig (c / 16), fig (c % 16)]
  | [], c => rfl
  | x :: xs, c => by simp [hexL, hexL_snoc xs c]
theorem hexL_length : ∀ xs : List Int, (hexL xs).length = 2 * xs.length
  | [] => rfl
  | x :: xs => by simp [hexL, hexL_length xs]; omega
theorem fig_range {n : Int} (h0 : 0 ≤ n) (h1 : n < 16) : 48 ≤ fig n ∧ fig n < 103 := by unfold fig; split <;> omega

/-- Is it a figure, and which? -/
def hexd (c : Int) : Prop := (48 ≤ c ∧ c ≤ 57) ∨ (97 ≤ c ∧ c ≤ 102)
instance (c : Int) : Decidable (hexd c) := by unfold hexd; exact inferInstance
def nv (c : Int) : Int := if c ≤ 57 then c - 48 else c - 87
theorem nv_range {c : Int} (h : hexd c) : 0 ≤ nv c ∧ nv c < 16 := by unfold hexd at h; unfold nv; split <;> omega
theorem fig_nv {c : Int} (h : hexd c) : fig (nv c) = c := by unfold hexd at h; unfold nv fig; split <;> split <;> omega
theorem nv_fig {n : Int} (h0 : 0 ≤ n) (h1 : n < 16) : nv (fig n) = n ∧ hexd (fig n) := by unfold fig nv hexd; split <;> split <;> omega

def parseOK (xs : List Int) : Prop := xs.length = 64 ∧ ∀ i, i < 64 → hexd (xs.getD i 0)
def full (xs : List Int) (i : Nat) : Int := 16 * nv (xs.getD (2 * i) 0) + nv (xs.getD (2 * i + 1) 0)
def pd (xs : List Int) : List Int := (List.range 32).map (full xs)
open Classical in
noncomputable def parseD (xs : List Int) : List Int := if parseOK xs then pd xs else List.replicate 32 0
open Classical in
noncomputable def parseE (xs : List Int) : Int := if parseOK xs then 0 else 2
theorem parse_ok {xs : List Int} (h : parseOK xs) : parseE xs = 0 ∧ parseD xs = pd xs := by unfold parseE parseD; rw [if_pos h, if_pos h]; exact ⟨rfl, rfl⟩
theorem parse_no {xs : List Int} (h : ¬ parseOK xs) : parseE xs = 2 ∧ parseD xs = List.replicate 32 0 := by unfold parseE parseD; rw [if_neg h, if_neg h]; exact ⟨rfl, rfl⟩

/-- The digest so far: the first k figures are read. -/
def dpart (xs : List Int) (k : Nat) : List Int := (List.range 32).map fun i => if 2 * i + 1 < k then full xs i else if 2 * i < k then nv (xs.getD (2 * i) 0) else 0
theorem dpart_length (xs : List Int) (k : Nat) : (dpart xs k).length = 32 := by simp [dpart]
theorem dpart_get (xs : List Int) (k i : Nat) (h : i < 32) : (dpart xs k).getD i 0 = if 2 * i + 1 < k then full xs i else if 2 * i < k then nv (xs.getD (2 * i) 0) else 0 := by
  unfold dpart
  rw [List.getD_eq_getElem?_getD, List.getElem?_map, List.getElem?_range h]
  rfl
theorem dpart_zero (xs : List Int) : dpart xs 0 = List.replicate 32 0 := by
  apply List.ext_getElem?
  intro i
  rcases Nat.lt_or_ge i 32 with h | h
  · have := dpart_get xs 0 i h
    rw [List.getD_eq_getElem?_getD, List.getElem?_eq_getElem (by rw [dpart_length]; exact h)] at this
    rw [List.getElem?_eq_getElem (by rw [dpart_length]; exact h), List.getElem?_replicate, if_pos h]
    simpa using this
  · rw [List.getElem?_eq_none (by rw [dpart_length]; exact h), List.getElem?_eq_none (by simpa using h)]
theorem dpart_full (xs : List Int) : dpart xs 64 = pd xs := by
  unfold dpart pd
  apply List.map_congr_left
  intro i hi
  rw [if_pos (by have := List.mem_range.1 hi; omega)]
theorem dpart_set {xs : List Int} {k j : Nat} {v : Int} (hj : j < 32) (hv : v = if 2 * j + 1 < k then full xs j else if 2 * j < k then nv (xs.getD (2 * j) 0) else 0) {m : Nat}
    (hm : ∀ i, i < 32 → i ≠ j → (2 * i + 1 < m ↔ 2 * i + 1 < k) ∧ (2 * i < m ↔ 2 * i < k)) : (dpart xs m).set j v = dpart xs k := by
  apply List.ext_getElem?
  intro i
  rw [List.getElem?_set]
  rcases Nat.lt_or_ge i 32 with h | h
  · have e1 := dpart_get xs k i h
    have e2 := dpart_get xs m i h
    rw [List.getD_eq_getElem?_getD, List.getElem?_eq_getElem (by rw [dpart_length]; exact h)] at e1 e2
    simp only [Option.getD_some] at e1 e2
    rw [List.getElem?_eq_getElem (by rw [dpart_length]; exact h), List.getElem?_eq_getElem (by rw [dpart_length]; exact h), e1, e2]
    by_cases hij : j = i
    · subst hij
      rw [if_pos rfl, if_pos (by rw [dpart_length]; exact h), hv]
    · rw [if_neg hij]
      obtain ⟨g1, g2⟩ := hm i h (Ne.symm hij)
      simp only [g1, g2]
  · rw [List.getElem?_eq_none (by rw [dpart_length]; exact h)]
    by_cases hij : j = i
    · omega
    · rw [if_neg hij, List.getElem?_eq_none (by rw [dpart_length]; exact h)]
/-- One figure more. -/
theorem dpart_succ {xs : List Int} {k : Nat} (hk : k < 64) : (dpart xs k).set (k / 2) (16 * (dpart xs k).getD (k / 2) 0 + nv (xs.getD k 0)) = dpart xs (k + 1) := by
  refine dpart_set (by omega) ?_ (fun i _ hij => by omega)
  rw [dpart_get xs k (k / 2) (by omega)]
  by_cases he : k % 2 = 0
  · rw [if_neg (by omega), if_neg (by omega), if_neg (by omega), if_pos (by omega), show 2 * (k / 2) = k by omega]; omega
  · rw [if_neg (by omega), if_pos (by omega), if_pos (by omega)]
    unfold full
    rw [show 2 * (k / 2) + 1 = k by omega]
/-- Two figures more. -/
theorem dpart_two {xs : List Int} {i : Nat} (hi : i < 32) : (dpart xs (2 * i)).set i (full xs i) = dpart xs (2 * (i + 1)) := by
  refine dpart_set hi ?_ (fun j _ hij => by omega)
  rw [if_pos (by omega)]

theorem or_nib : ∀ a n : Fin 16, Go.bits .or .u8 (IntKind.u8.wrap ((a.val : Int) * 2 ^ (min 4 8))) n.val = 16 * a.val + n.val := by decide +kernel
theorem or_nib' {a n : Int} (h0 : 0 ≤ a) (h1 : a < 16) (g0 : 0 ≤ n) (g1 : n < 16) : Go.bits .or .u8 (IntKind.u8.wrap (a * 2 ^ (min 4 8))) n = 16 * a + n := by
  have := or_nib ⟨a.toNat, by omega⟩ ⟨n.toNat, by omega⟩
  rwa [show ((a.toNat : Nat) : Int) = a by omega, show ((n.toNat : Nat) : Int) = n by omega] at this
theorem and_low : ∀ c : Fin 256, Go.bits .and .u8 (c.val : Int) 15 = (c.val : Int) % 16 := by decide +kernel
theorem and_low' {c : Int} (h0 : 0 ≤ c) (h1 : c < 256) : Go.bits .and .u8 c 15 = c % 16 := by
  have := and_low ⟨c.toNat, by omega⟩
  rwa [show ((c.toNat : Nat) : Int) = c by omega] at this
def figs : ByteArray := ⟨#[48, 49, 50, 51, 52, 53, 54, 55, 56, 57, 97, 98, 99, 100, 101, 102]⟩
theorem figs_get : ∀ q : Fin 16, (intsOf figs).getD q.val 0 = fig q.val := by decide
theorem figs_get' {q : Int} (h0 : 0 ≤ q) (h1 : q < 16) : (intsOf figs).getD q.toNat 0 = fig q := by
  have := figs_get ⟨q.toNat, by omega⟩
  rw [show ((q.toNat : Nat) : Int) = q by omega] at this
  exact this

end Go.Proofs.YtkchfbnkdpdbkaaDoor.Hx

/-
  The contracts of a digest's text: hexa.Text and the document's own.
-/
set_option linter.unusedVariables false
set_option linter.unusedSectionVars false
namespace Go.Proofs.YtkchfbnkdpdbkaaDoor.Hx
open Go AL
theorem take_snoc' {xs : List Int} {k : Nat} (h : k < xs.length) : xs.take (k + 1) = xs.take k ++ [xs.getD k 0] := by
  rw [List.take_succ_eq_append_getElem h, List.getD_eq_getElem?_getD, List.getElem?_eq_getElem h]
  rfl
section
variable [Globs]

theorem fdiv16 {c : Int} (h0 : 0 ≤ c) : c.fdiv (2 ^ (min (4 : Int).toNat IntKind.u8.bits)) = c / 16 := by
  have : (2 : Int) ^ (min (4 : Int).toNat IntKind.u8.bits) = 16 := by decide
  rw [this, Int.fdiv_eq_ediv_of_nonneg _ (by decide)]

set_option maxHeartbeats 1000000 in
set_option maxRecDepth 10000 in
theorem text_prog (xs : List Int) (hl : xs.length = 32) (hx : ∀ x ∈ xs, 0 ≤ x ∧ x < 256) : ACalls Tryd.prog 18 [.aggI .u8 xs] [] (fun r h => r = str (textS xs) ∧ h = []) := by
  have hT : textS xs = bytesOf (hexL xs) := rfl
  generalize textS xs = T at *
  refine rcalls Tryd.func18 rfl (by decide) ?_
  refine ⟨hl.symm, ?_⟩
  refine ⟨by rw [hl]; decide, ?_⟩
  refine ⟨Nat, fun k => [(6, .aggI .u8 xs), (7, int .i64 k), (3, .own 0 0 (2 * k) 1)], fun k => [.ints .u8 (hexL (xs.take k))], fun k => k ≤ 32, fun k => 32 - k,
    ⟨0, [1], by omega, lehE (by simp) .u8, ⟨by rw [List.drop_zero, List.take_of_length_le (by rw [hl]; decide)]; exact .aggI _ _, leI rfl, .nil _ _ (by simp), trivial⟩⟩, ?_⟩
  intro k hk
  have hk : k ≤ 32 := hk
  refine ⟨fun c1 => ?_, fun c1 => ?_⟩
  · have f1 : (k : Int) < 32 := yes c1
    have hb := byteAt hx k
    refine ⟨⟨by omega, f1⟩, by omega, ?_⟩
    have hin : ((k : Int)).toNat = k := by omega
    have hlen : (hexL (xs.take k)).length = 2 * k := by rw [hexL_length]; simp; omega
    refine .inr ⟨8, by decide +kernel, ?_⟩
    refine ⟨_, rfl, ?_⟩
    refine ⟨_, rfl, ?_⟩
    refine ⟨_, ⟨by decide, rfl⟩, ?_⟩
    refine ⟨_, ⟨⟨by rw [hin, fdiv16 hb.1]; omega, by rw [hin, fdiv16 hb.1]; show _ < (16 : Int); omega⟩, rfl⟩, ?_⟩
    refine ⟨_, rfl, ?_⟩
    refine ⟨_, rfl, ?_⟩
    refine ⟨_, ⟨⟨by rw [hin, and_low' hb.1 hb.2]; omega, by rw [hin, and_low' hb.1 hb.2]; show _ < (16 : Int); omega⟩, rfl⟩, ?_⟩
    refine ⟨_, rfl, ?_⟩
    refine ⟨hlen.symm, ?_⟩
    refine ⟨by rw [hlen]; show (2 * k + 2) * 1 ≤ _; omega, ?_⟩
    have e1 : IntKind.i64.wrap ((k : Int) + 1) = ((k + 1 : Nat) : Int) := by rw [w64 (by omega) (by omega)]; omega
    refine ⟨trivial, k + 1, [1], by omega, by show 32 - (k + 1) < 32 - k; omega, leh1 rfl (leOint ?_), ⟨.aggI _ _, leI e1, leOwn rfl rfl ?_, trivial⟩⟩
    · rw [take_snoc' (by omega), hexL_snoc]
      congr 1
      show [_, _] = [_, _]
      have g1 := figs_get' (q := xs.getD k 0 / 16) (by omega) (by omega)
      have g2 := figs_get' (q := xs.getD k 0 % 16) (by omega) (by omega)
      rw [hin, fdiv16 hb.1, and_low' hb.1 hb.2, ← g1, ← g2]
      rfl
    · show (hexL (xs.take k)).length + 2 = _; rw [hlen]; omega
  · have f1 : ¬ (k : Int) < 32 := no c1
    obtain rfl : k = 32 := by omega
    have ht : xs.take 32 = xs := List.take_of_length_le (by omega)
    refine ⟨by rw [hexL_length]; simp; omega, ?_⟩
    refine ⟨[], [], _, lehN _, leS ?_, rfl, rfl⟩
    rw [ht, hT, List.drop_zero, List.take_of_length_le (by rw [hexL_length]; omega)]

end
end Go.Proofs.YtkchfbnkdpdbkaaDoor.Hx

/-
  The contracts of a digest out of a text: hexa.Parse and the document's own.
-/
set_option linter.unusedVariables false
set_option linter.unusedSectionVars false
namespace Go.Proofs.YtkchfbnkdpdbkaaDoor.Hx
open Go AL
section
variable [Globs]

theorem take3232 (Z : List Int) (h : Z.length = 32) : List.take 32 (List.take 32 Z) = Z := by
  rw [List.take_of_length_le (by rw [List.length_take]; omega), List.take_of_length_le (by omega)]
theorem leAggI {h : List AO} {l : List Nat} {k : IntKind} {x y : List Int} (e : x = y) : LeV h l (.aggI k x) (.aggI k y) := by subst e; exact .aggI _ _
/-- What Parse hands back. -/
def ParseR (s : ByteArray) (r : AV) (h : List AO) : Prop := r = .tup 2 (pair (.aggI .u8 (parseD (intsOf s))) (int .i64 (parseE (intsOf s)))) ∧ h = []

set_option maxHeartbeats 2000000 in
set_option maxRecDepth 10000 in
theorem parse_prog (s : ByteArray) (hs : s.size ≤ 281474976710656) : ACalls Tryd.prog 19 [str s] [] (ParseR s) := by
  have hil : (intsOf s).length = s.size := intsOf_length s
  have hb := fun i => byteAt (intsOf_range s) i
  have hok : parseOK (intsOf s) → parseE (intsOf s) = 0 ∧ parseD (intsOf s) = pd (intsOf s) := fun h => parse_ok h
  have hno : ¬ parseOK (intsOf s) → parseE (intsOf s) = 2 ∧ parseD (intsOf s) = List.replicate 32 0 := fun h => parse_no h
  unfold ParseR
  generalize parseE (intsOf s) = E at *
  generalize parseD (intsOf s) = D at *
  refine rcalls Tryd.func19 rfl (by decide) ?_
  refine ⟨rfl, ?_⟩
  refine ⟨Unit, fun _ => 0, fun _ => [(2, .ptr 0 0)], fun _ => [.ints .u8 (List.replicate 32 0)], fun _ => ¬ parseOK (intsOf s), fun _ => 0, ?_, ?_⟩
  · refine ⟨rfl, ?_⟩
    refine ⟨fun c1 => ?_, fun c1 => ?_⟩
    · have f1 : ¬ (s.size : Int) = 64 := of_decide_eq_true c1
      exact ⟨trivial, (), [0], rfl, fun h => f1 (by rw [← hil, h.1]; rfl), leh1 rfl (leOint rfl), ⟨.ptr _ rfl, trivial⟩⟩
    have f1 : (s.size : Int) = 64 := Classical.byContradiction fun h => of_decide_eq_false c1 h
    have h64 : s.size = 64 := by omega
    refine ⟨Nat, fun k => [(0, str s), (12, int .i64 s.size), (13, int .i64 k), (4, .ptr 1 0), (2, .ptr 0 0)], fun k => [.ints .u8 (List.replicate 32 0), .ints .u8 (dpart (intsOf s) k)],
      fun k => k ≤ 64 ∧ ∀ i, i < k → hexd ((intsOf s).getD i 0), fun k => 64 - k,
      ⟨0, [0, 1], ⟨by omega, fun i hi => absurd hi (Nat.not_lt_zero _)⟩, leh2 (by decide) rfl rfl (leOint rfl) (leOint (dpart_zero _).symm), ⟨leS rfl, leI rfl, leI rfl, .ptr _ rfl, .ptr _ rfl, trivial⟩⟩, ?_⟩
    rintro k ⟨hk, hdig⟩
    have hbk := hb k
    refine ⟨fun h1 => ?_, fun h1 => ?_⟩
    · have f2 : (k : Int) < s.size := yes h1
      have hin : ((k : Int)).toNat = k := by omega
      have e1 : IntKind.i64.wrap ((k : Int) + 1) = ((k + 1 : Nat) : Int) := by rw [w64 (by omega) (by omega)]; omega
      have e2 : IntKind.i64.wrap ((k : Int).tdiv 2) = ((k / 2 : Nat) : Int) := by
        rw [Int.tdiv_eq_ediv_of_nonneg (by omega), w64 (by omega) (by omega)]; omega
      have hoff : addOff 0 (IntKind.i64.wrap ((k : Int).tdiv 2)).toNat 1 = k / 2 := by rw [e2, Int.toNat_natCast]; simp [addOff]
      have hdl := dpart_length (intsOf s) k
      have hg := dpart_get (intsOf s) k (k / 2) (by omega)
      -- the figure, and what the digest is behind it
      have step : ∀ v, hexd ((intsOf s).getD k 0) → v = nv ((intsOf s).getD k 0) →
          (dpart (intsOf s) k).set (k / 2) (Go.bits .or .u8 (IntKind.u8.wrap ((dpart (intsOf s) k).getD (k / 2) 0 * 2 ^ (min 4 8))) v) = dpart (intsOf s) (k + 1) := fun v hh hv => by
        have hn := nv_range hh
        have ha : 0 ≤ (dpart (intsOf s) k).getD (k / 2) 0 ∧ (dpart (intsOf s) k).getD (k / 2) 0 < 16 := by
          rw [hg, if_neg (by omega)]
          split
          · exact nv_range (hdig _ (by omega))
          · omega
        rw [hv, or_nib' ha.1 ha.2 hn.1 hn.2]
        exact dpart_succ (by omega)
      have next : hexd ((intsOf s).getD k 0) → ∀ i, i < k + 1 → hexd ((intsOf s).getD i 0) := fun hh i hi => by
        rcases Nat.lt_or_ge i k with h5 | h5
        · exact hdig i h5
        · rw [show i = k by omega]; exact hh
      have hgo : ¬ hexd ((intsOf s).getD k 0) → ¬ parseOK (intsOf s) := fun hn h => hn (h.2 k (by omega))
      refine ⟨⟨by omega, f2⟩, ?_⟩
      refine ⟨fun c2 => ⟨fun c3 => ?_, fun c3 => ⟨fun c4 => ⟨fun c5 => ?_, fun c5 => ?_⟩, fun c4 => ?_⟩⟩, fun c2 => ⟨fun c4 => ⟨fun c5 => ?_, fun c5 => ?_⟩, fun c4 => ?_⟩⟩
      · have g2 : 48 ≤ (intsOf s).getD k 0 := yes c2
        have g3 : (intsOf s).getD k 0 ≤ 57 := yes c3
        have hh : hexd ((intsOf s).getD k 0) := .inl ⟨g2, g3⟩
        refine ⟨by decide, by decide, ⟨by rw [e2]; omega, by rw [e2]; show _ < (32 : Int); omega⟩, by rw [hoff]; omega, by decide, ⟨by rw [e2]; omega, by rw [e2]; show _ < (32 : Int); omega⟩, by rw [hoff]; omega, ?_⟩
        refine ⟨trivial, k + 1, [0, 1], ⟨by omega, next hh⟩, by show 64 - (k + 1) < 64 - k; omega, leh2 (by decide) rfl rfl (leOint rfl) (leOint ?_), ⟨leS rfl, leI rfl, leI e1, .ptr _ rfl, .ptr _ rfl, trivial⟩⟩
        rw [hoff]
        exact step _ hh (by rw [hin, w8 (by omega) (by omega)]; unfold nv; rw [if_pos g3])
      · have g2 : 97 ≤ (intsOf s).getD k 0 := yes c4
        have g3 : (intsOf s).getD k 0 ≤ 102 := yes c5
        have hh : hexd ((intsOf s).getD k 0) := .inr ⟨g2, g3⟩
        refine ⟨by decide, by decide, ⟨by rw [e2]; omega, by rw [e2]; show _ < (32 : Int); omega⟩, by rw [hoff]; omega, by decide, ⟨by rw [e2]; omega, by rw [e2]; show _ < (32 : Int); omega⟩, by rw [hoff]; omega, ?_⟩
        refine ⟨trivial, k + 1, [0, 1], ⟨by omega, next hh⟩, by show 64 - (k + 1) < 64 - k; omega, leh2 (by decide) rfl rfl (leOint rfl) (leOint ?_), ⟨leS rfl, leI rfl, leI e1, .ptr _ rfl, .ptr _ rfl, trivial⟩⟩
        rw [hoff]
        exact step _ hh (by rw [hin, w8 (n := (intsOf s).getD k 0 - 97) (by omega) (by omega), w8 (by omega) (by omega)]; unfold nv; rw [if_neg (by omega)]; omega)
      · have g2 : ¬ (intsOf s).getD k 0 ≤ 57 := no c3
        have g3 : ¬ (intsOf s).getD k 0 ≤ 102 := no c5
        exact ⟨trivial, (), [0], rfl, hgo (fun hh => by unfold hexd at hh; omega), leh1 rfl (leOint rfl), ⟨.ptr _ rfl, trivial⟩⟩
      · have g2 : ¬ (intsOf s).getD k 0 ≤ 57 := no c3
        have g3 : ¬ 97 ≤ (intsOf s).getD k 0 := no c4
        exact ⟨trivial, (), [0], rfl, hgo (fun hh => by unfold hexd at hh; omega), leh1 rfl (leOint rfl), ⟨.ptr _ rfl, trivial⟩⟩
      · have g2 : ¬ 48 ≤ (intsOf s).getD k 0 := no c2
        have g3 : 97 ≤ (intsOf s).getD k 0 := yes c4
        omega
      · have g2 : ¬ 48 ≤ (intsOf s).getD k 0 := no c2
        have g3 : 97 ≤ (intsOf s).getD k 0 := yes c4
        omega
      · have g2 : ¬ 48 ≤ (intsOf s).getD k 0 := no c2
        exact ⟨trivial, (), [0], rfl, hgo (fun hh => by unfold hexd at hh; omega), leh1 rfl (leOint rfl), ⟨.ptr _ rfl, trivial⟩⟩
    · have f2 : ¬ (k : Int) < s.size := no h1
      obtain rfl : k = 64 := by omega
      obtain ⟨g1, g2⟩ := hok ⟨by omega, hdig⟩
      have hdl := dpart_length (intsOf s) 64
      have hfl := dpart_full (intsOf s)
      refine ⟨by rw [hdl]; decide, ?_⟩
      refine ⟨by simp [hdl], by simp, ?_⟩
      refine ⟨by simp [hdl], ?_⟩
      refine ⟨[], [], _, lehN _, le_pair (leAggI ?_) (leI g1.symm), rfl, rfl⟩
      rw [g2, ← hfl]
      simp [hdl]
      exact take3232 _ hdl
  · rintro _ hn
    obtain ⟨g1, g2⟩ := hno hn
    refine ⟨rfl, by decide, ?_⟩
    refine ⟨by decide, ?_⟩
    exact ⟨[], [], _, lehN _, le_pair (leAggI (by rw [g2]; rfl)) (leI g1.symm), rfl, rfl⟩

theorem lePtr {h : List AO} {l : List Nat} {id id' off : Nat} (e : l[id']? = some id) : LeV h l (.ptr id off) (.ptr id' off) := .ptr _ e
/-- A figure's value. -/
def vl (c : Int) : Int := if hexd c then nv c else -1

end
end Go.Proofs.YtkchfbnkdpdbkaaDoor.Hx

/-
  Numbers and digests as text, in plain Lean. No program in sight.
-/
set_option linter.unusedVariables false
namespace Go.Proofs.YtkchfbnkdpdbkaaDoor.Hx
open Go AL

/-- A number's text. -/
def numS (n : Int) : ByteArray := ⟨(Lib.itoa n).toArray⟩
theorem numS_inj_list {n m : Int} (h : numS n = numS m) : Lib.itoa n = Lib.itoa m := by
  have := congrArg (fun s : ByteArray => s.data.toList) h
  simpa [numS] using this
theorem numS_list (n : Int) : (numS n).data.toList = Lib.itoa n := by simp [numS]
theorem ba_ext {s : ByteArray} {l : List UInt8} (h : s.data.toList = l) : s = ⟨l.toArray⟩ := by
  cases s with
  | mk d => simp at h; subst h; simp
theorem ba_append (a b : List UInt8) : (⟨a.toArray⟩ : ByteArray) ++ ⟨b.toArray⟩ = ⟨(a ++ b).toArray⟩ := by
  refine ba_ext ?_
  simp [ByteArray.data_append]

theorem dec_big {u : Nat} (h : ¬ u < 10) : Lib.decDigits u = Lib.decDigits (u / 10) ++ [UInt8.ofNat (48 + u % 10)] := by
  rw [Lib.decDigits, dif_neg h]
theorem digit_toNat {d : Nat} (h : d < 10) : (UInt8.ofNat (48 + d)).toNat = 48 + d := by
  simp; omega
theorem dec_digit : ∀ (u : Nat) (c : UInt8), c ∈ Lib.decDigits u → 48 ≤ c.toNat ∧ c.toNat ≤ 57 := by
  intro u
  induction u using Nat.strongRecOn with
  | _ u ih =>
    intro c hc
    by_cases h : u < 10
    · rw [Lib.decDigits_one h] at hc
      simp only [List.mem_singleton] at hc
      subst hc
      rw [digit_toNat h]; omega
    · rw [dec_big h] at hc
      rcases List.mem_append.1 hc with hc | hc
      · exact ih (u / 10) (by omega) c hc
      · simp only [List.mem_singleton] at hc
        subst hc
        rw [digit_toNat (by omega)]; omega
theorem parse_dec {M : Nat} (hM : M ≤ 18446744073709551615) : ∀ (u : Nat) (r : List UInt8), u ≤ M → Lib.parseUintM M 0 (Lib.decDigits u ++ r) = Lib.parseUintM M u r := by
  intro u
  induction u using Nat.strongRecOn with
  | _ u ih =>
    intro r hu
    by_cases h : u < 10
    · rw [Lib.decDigits_one h, List.singleton_append, Lib.parseUintM]
      have e := digit_toNat h
      rw [if_pos (by omega), if_neg (by omega), if_neg (by omega), e]
      congr 1
      omega
    · rw [dec_big h, List.append_assoc, ih (u / 10) (by omega) _ (by omega), List.singleton_append, Lib.parseUintM]
      have e := digit_toNat (show u % 10 < 10 by omega)
      rw [if_pos (by omega), if_neg (by omega), if_neg (by omega), e]
      congr 1
      omega
theorem dec_ne (u : Nat) : Lib.decDigits u ≠ [] := fun h => by
  have := Lib.decDigits_length u
  rw [h] at this
  have := Lib.nDigits_pos u
  simp at *
  omega
/-- A number's text is parsed as it. -/
theorem parse_itoa {v : Int} (h0 : 0 ≤ v) (h1 : v < 9223372036854775808) : Lib.parseIntB 64 (Lib.itoa v) = .ok v := by
  have e : Lib.itoa v = Lib.decDigits v.toNat := by unfold Lib.itoa; rw [if_neg (by omega)]
  rw [e]
  cases hl : Lib.decDigits v.toNat with
  | nil => exact absurd hl (dec_ne _)
  | cons c r =>
    have hc := dec_digit v.toNat c (by rw [hl]; simp)
    have hp := parse_dec (M := 2 ^ 64 - 1) (by decide) v.toNat [] (by omega)
    rw [List.append_nil, hl] at hp
    unfold Lib.parseIntB
    simp only []
    rw [if_neg (by omega)]
    unfold Lib.parseUintB
    rw [if_neg (by simp), hp]
    simp only [Lib.parseUintM]
    have h3 : ¬ c.toNat = 45 := by omega
    rw [if_neg (by simp only [h3, not_false_eq_true, true_and]; omega), if_neg (by simp [h3]), if_neg h3]
    congr 1
    omega
theorem numS_inj {v u : Int} (h0 : 0 ≤ v) (h1 : v < 9223372036854775808) (g0 : 0 ≤ u) (g1 : u < 9223372036854775808) (h : numS v = numS u) : v = u := by
  have e := numS_inj_list h
  have a := parse_itoa h0 h1
  have b := parse_itoa g0 g1
  rw [e, b] at a
  injection a with a
  exact a.symm

/-- Is it a number's text, of that number? -/
def isNum (s : ByteArray) (v : Int) : Prop := 0 ≤ v ∧ v < 9223372036854775808 ∧ s = numS v
theorem isNum_inj {s : ByteArray} {v u : Int} (h : isNum s v) (g : isNum s u) : v = u := numS_inj h.1 h.2.1 g.1 g.2.1 (h.2.2.symm.trans g.2.2)
open Classical in
noncomputable def readE (s : ByteArray) (most : Int) : Int := if h : ∃ v, isNum s v then (if Classical.choose h > most then 8 else 0) else 2
open Classical in
noncomputable def readV (s : ByteArray) (most : Int) : Int := if h : ∃ v, isNum s v then (if Classical.choose h > most then 0 else Classical.choose h) else 0
theorem read_ok {s : ByteArray} {v most : Int} (h : isNum s v) (hm : ¬ v > most) : readE s most = 0 ∧ readV s most = v := by
  have hx : ∃ v, isNum s v := ⟨v, h⟩
  have e : Classical.choose hx = v := isNum_inj (Classical.choose_spec hx) h
  unfold readE readV
  rw [dif_pos hx, dif_pos hx, e, if_neg hm, if_neg hm]
  exact ⟨rfl, rfl⟩
theorem read_over {s : ByteArray} {v most : Int} (h : isNum s v) (hm : v > most) : readE s most = 8 ∧ readV s most = 0 := by
  have hx : ∃ v, isNum s v := ⟨v, h⟩
  have e : Classical.choose hx = v := isNum_inj (Classical.choose_spec hx) h
  unfold readE readV
  rw [dif_pos hx, dif_pos hx, e, if_pos hm, if_pos hm]
  exact ⟨rfl, rfl⟩
theorem read_none {s : ByteArray} {most : Int} (h : ∀ v, ¬ isNum s v) : readE s most = 2 ∧ readV s most = 0 := by
  have hx : ¬ ∃ v, isNum s v := fun ⟨v, hv⟩ => h v hv
  unfold readE readV
  rw [dif_neg hx, dif_neg hx]
  exact ⟨rfl, rfl⟩

/-- How long a number's text is. -/
theorem nDigits_le : ∀ (k u : Nat), u < 10 ^ (k + 1) → Lib.nDigits u ≤ k + 1
  | 0, u, h => by rw [Lib.nDigits_small (by simpa using h)]; omega
  | k + 1, u, h => by
    by_cases h10 : u < 10
    · rw [Lib.nDigits_small h10]; omega
    · rw [Lib.nDigits_big h10]
      have := nDigits_le k (u / 10) (by rw [Nat.pow_succ] at h; omega)
      omega
theorem num_size {v : Int} (h0 : 0 ≤ v) (h1 : v < 9223372036854775808) : 1 ≤ (numS v).size ∧ (numS v).size ≤ 19 := by
  have e : (numS v).size = (Lib.decDigits v.toNat).length := by
    have : (numS v).size = (Lib.itoa v).length := by show (Lib.itoa v).toArray.size = _; simp
    rw [this]; unfold Lib.itoa; rw [if_neg (by omega)]
  rw [e, Lib.decDigits_length]
  exact ⟨Lib.nDigits_pos _, nDigits_le 18 _ (by omega)⟩
theorem num_size_le {v : Int} (h0 : -9223372036854775808 ≤ v) (h1 : v < 9223372036854775808) : (numS v).size ≤ 21 := by
  have e : (numS v).size = (Lib.itoa v).length := by show (Lib.itoa v).toArray.size = _; simp
  rw [e]
  exact Lib.itoa_length_le v h0 (by omega)
theorem num_digits {v : Int} (h0 : 0 ≤ v) : ∀ c ∈ (numS v).data.toList, 48 ≤ c.toNat ∧ c.toNat ≤ 57 := by
  intro c hc
  rw [numS_list] at hc
  unfold Lib.itoa at hc
  rw [if_neg (by omega)] at hc
  exact dec_digit _ c hc
theorem num_neg {v : Int} (h : v < 0) : ∃ r, (numS v).data.toList = 45 :: r := by
  rw [numS_list]
  unfold Lib.itoa
  rw [if_pos h]
  exact ⟨_, rfl⟩

/-- What digits spell, as an int64 reckons it. -/
def stepN (a c : Int) : Int := IntKind.i64.wrap (IntKind.i64.wrap (10 * a) + (c - 48))
def foldN (xs : List Int) (a : Int) : Int := xs.foldl stepN a
theorem foldN_dec : ∀ (u : Nat) (r : List Int), u < 9223372036854775808 → foldN ((Lib.decDigits u).map (fun b => (b.toNat : Int)) ++ r) 0 = foldN r u := by
  intro u
  induction u using Nat.strongRecOn with
  | _ u ih =>
    intro r hu
    by_cases h : u < 10
    · rw [Lib.decDigits_one h]
      have e := digit_toNat h
      simp only [List.map_cons, List.map_nil, List.singleton_append, foldN, List.foldl_cons]
      congr 1
      unfold stepN
      rw [e, w64 (n := 10 * 0) (by omega) (by omega), w64 (by omega) (by omega)]
      omega
    · rw [dec_big h, List.map_append, List.append_assoc, ih (u / 10) (by omega) _ (by omega)]
      have e := digit_toNat (show u % 10 < 10 by omega)
      simp only [List.map_cons, List.map_nil, List.singleton_append, foldN, List.foldl_cons]
      congr 1
      unfold stepN
      rw [e, w64 (n := 10 * ((u / 10 : Nat) : Int)) (by omega) (by omega), w64 (by omega) (by omega)]
      omega
theorem foldN_num {v : Int} (h0 : 0 ≤ v) (h1 : v < 9223372036854775808) : foldN (intsOf (numS v)) 0 = v := by
  have e : intsOf (numS v) = (Lib.decDigits v.toNat).map (fun b => (b.toNat : Int)) := by
    unfold intsOf
    rw [numS_list]
    unfold Lib.itoa
    rw [if_neg (by omega)]
  rw [e]
  have := foldN_dec v.toNat [] (by omega)
  rw [List.append_nil] at this
  rw [this]
  simp [foldN]
  omega
theorem foldN_range (xs : List Int) : -9223372036854775808 ≤ foldN xs 0 ∧ foldN xs 0 < 9223372036854775808 := by
  have go : ∀ (xs : List Int) (a : Int), (-9223372036854775808 ≤ a ∧ a < 9223372036854775808) → -9223372036854775808 ≤ foldN xs a ∧ foldN xs a < 9223372036854775808 := by
    intro xs
    induction xs with
    | nil => intro a h; exact h
    | cons x xs ih =>
      intro a _
      refine ih (stepN a x) ?_
      unfold stepN
      rw [IntKind.wrap_i64]
      omega
  exact go xs 0 (by omega)
theorem foldN_snoc (xs : List Int) (c : Int) : foldN (xs ++ [c]) 0 = stepN (foldN xs 0) c := by simp [foldN]

/-- The number's text, figure by figure. -/
theorem numS_small {n : Int} (h0 : 0 ≤ n) (h1 : n < 10) : numS n = bytesOf [48 + n] := by
  unfold numS Lib.itoa bytesOf
  rw [if_neg (by omega), Lib.decDigits_one (by omega)]
  simp only [List.map_cons, List.map_nil]
  rw [show (48 + n).toNat = 48 + n.toNat by omega]
theorem numS_big {n : Int} (h : 10 ≤ n) : numS n = numS (n / 10) ++ bytesOf [48 + n % 10] := by
  unfold numS Lib.itoa bytesOf
  rw [if_neg (by omega), if_neg (by omega), dec_big (by omega), ba_append]
  simp only [List.map_cons, List.map_nil]
  rw [show (n / 10).toNat = n.toNat / 10 by omega, show (48 + n % 10).toNat = 48 + n.toNat % 10 by omega]
theorem numS_nsmall {n : Int} (h0 : n < 0) (h1 : -10 < n) : numS n = ⟨#[45]⟩ ++ bytesOf [48 - n] := by
  unfold numS Lib.itoa bytesOf
  rw [if_pos h0, Lib.decDigits_one (by omega)]
  have := ba_append [45] [UInt8.ofNat (48 - n).toNat]
  simp only [List.map_cons, List.map_nil]
  rw [show (48 - n).toNat = 48 + n.natAbs by omega] at *
  exact this.symm
theorem numS_nbig {n : Int} (h : n ≤ -10) : numS n = numS (-(-n / 10)) ++ bytesOf [48 + -n % 10] := by
  unfold numS Lib.itoa bytesOf
  rw [if_pos (by omega), if_pos (by omega), dec_big (by omega), ba_append]
  simp only [List.map_cons, List.map_nil]
  rw [show (-(-n / 10)).natAbs = n.natAbs / 10 by omega, show (48 + -n % 10).toNat = 48 + n.natAbs % 10 by omega]
  rfl

end Go.Proofs.YtkchfbnkdpdbkaaDoor.Hx

/-
  The contracts of the numbers' texts: strconv's, hexa.Number, hexa.Read, and the document's own.
-/
set_option linter.unusedVariables false
set_option linter.unusedSectionVars false
namespace Go.Proofs.YtkchfbnkdpdbkaaDoor.Hx
open Go AL
section
variable [Globs]

def isIfc (cs : Array Value) : Prop := ∃ T u, cs = #[.iface T u]
def isTab (cs : Array Value) : Prop := cs = (Lib.pow10Tab.map (Value.int .u64)).toArray
/-- What strconv reads is known. -/
structure NumG : Prop where
  syn : (1, isIfc) ∈ Globs.l
  rng : (2, isIfc) ∈ Globs.l
  tab : (3, isTab) ∈ Globs.l

theorem below_grow {w : World} {k : Nat} {os : Array Obj} : RowKit.Below w.heap.size w (Sort.grow (w.drewN k) os) :=
  ⟨rfl, rfl, rfl, by simp [Sort.grow], fun i hi => by simp [Sort.grow]; exact Array.getElem?_append_left hi⟩

theorem format_prog (hG : NumG) (n : Int) (h0 : -9223372036854775808 ≤ n) (h1 : n < 9223372036854775808) : ACalls Tryd.prog 58 [int .i64 n, int .i64 10] [] (fun r h => r = str (numS n) ∧ h = []) := by
  refine acalls_below (args := [.int .i64 n, .int .i64 10]) ⟨_, Tryd.func58, by decide, rfl⟩ trivial trivial fun S w hg => ?_
  obtain ⟨cs, hv, hc⟩ := hg.var (P := Tryd.prog) (n := "internal/strconv.uint64pow10") (by kernel_rfl) hG.tab
  refine (Tryd.strconv_FormatInt_10 n h0 (by omega) w (by unfold Lib.TabIs; rw [hv]; exact congrArg some hc)).mono fun e w' he => ?_
  obtain ⟨rfl, k, os, rfl⟩ := he
  exact ⟨_, rfl, rfl, below_grow⟩

/-- What ParseInt hands back. -/
def parseT (s : ByteArray) : AV := match Lib.parseIntB 64 s.data.toList with
  | .ok v => .tup 2 (pair (int .i64 v) (.raw .nilIface))
  | .range => .tup 2 (pair (int .i64 (Lib.intSat 64 s.data.toList)) .ifc)
  | _ => .tup 2 (pair (int .i64 0) .ifc)
theorem den_pair {w : World} {S : Nat → Prop} {L : AL.Loc} {a b : AV} {u v : Value} (h1 : den w S L a u) (h2 : den w S L b v) : den w S L (.tup 2 (pair a b)) (.tuple #[u, v]) :=
  ⟨_, rfl, rfl, fun i hi => by
    match i, hi with
    | 0, _ => exact ⟨u, rfl, h1⟩
    | 1, _ => exact ⟨v, rfl, h2⟩⟩
theorem parseInt_prog (hG : NumG) (s : ByteArray) (hs : s.size ≤ 281474976710656) : ACalls Tryd.prog 57 [str s, int .i64 10, int .i64 64] [] (fun r h => r = parseT s ∧ h = []) := by
  have free : ∀ a b : AV, a.free → b.free → (AV.tup 2 (pair a b)).free := fun a b ha hb i hi => by
    match i, hi with
    | 0, _ => exact ha
    | 1, _ => exact hb
  have flat : ∀ a b : AV, a.flat → b.flat → (AV.tup 2 (pair a b)).flat := fun a b ha hb i hi => by
    match i, hi with
    | 0, _ => exact ha
    | 1, _ => exact hb
  refine acalls_below (args := [.string s, .int .i64 10, .int .i64 64]) ⟨_, Tryd.func57, by decide, rfl⟩ ?_ ?_ fun S w hg => ?_
  · unfold parseT; split
    · exact free _ _ trivial trivial
    · exact free _ _ trivial trivial
    · exact free _ _ trivial trivial
  · unfold parseT; split
    · exact flat _ _ trivial trivial
    · exact flat _ _ trivial trivial
    · exact flat _ _ trivial trivial
  unfold parseT
  cases hp : Lib.parseIntB 64 s.data.toList
  · rename_i v
    refine (Tryd.strconv_ParseInt_10_at64_ok s (by omega) v hp w).mono fun e w' he => ?_
    obtain ⟨rfl, hw⟩ := he
    refine ⟨_, rfl, den_pair rfl rfl, ?_⟩
    rcases hw with rfl | ⟨t, rfl⟩
    · exact .refl _ _
    · exact Lib.bytesWorld_below _ _ _
  · obtain ⟨cs, hv, tp, u, rfl⟩ := hg.var (P := Tryd.prog) (n := "strconv.ErrSyntax") (by kernel_rfl) hG.syn
    refine (Go.Proofs.Any.strconv_ParseInt_10_at64_syntax_var Tryd.laysC174 s hs hp tp u w hv).mono fun e w' he => ?_
    obtain ⟨N, rfl, _, _, hb⟩ := he
    exact ⟨_, rfl, den_pair rfl ⟨_, _, rfl⟩, hb⟩
  · obtain ⟨cs, hv, tp, u, rfl⟩ := hg.var (P := Tryd.prog) (n := "strconv.ErrRange") (by kernel_rfl) hG.rng
    refine (Tryd.strconv_ParseInt_10_at64_range_var s hs hp tp u w hv).mono fun e w' he => ?_
    obtain ⟨N, rfl, _, _, hb⟩ := he
    exact ⟨_, rfl, den_pair rfl ⟨_, _, rfl⟩, hb⟩

set_option maxHeartbeats 1000000 in
set_option maxRecDepth 10000 in
theorem number_prog (hG : NumG) (n : Int) (h0 : -9223372036854775808 ≤ n) (h1 : n < 9223372036854775808) : ACalls Tryd.prog 39 [int .i64 n] [] (fun r h => r = str (numS n) ∧ h = []) := by
  have hf := format_prog hG n h0 h1
  generalize numS n = S at *
  refine rcalls Tryd.func39 rfl (by decide) ?_
  refine ⟨[], _, hf, ?_⟩
  rintro r h ⟨rfl, rfl⟩
  refine ⟨.inl rfl, ?_⟩
  exact ⟨[], [], _, leh0, leS rfl, rfl, rfl⟩

/-- What Read hands back. -/
def ReadR (s : ByteArray) (most : Int) (r : AV) (h : List AO) : Prop := r = .tup 2 (pair (int .i64 (readV s most)) (int .i64 (readE s most))) ∧ h = []

set_option maxHeartbeats 1000000 in
set_option maxRecDepth 10000 in
theorem read_prog (hG : NumG) (s : ByteArray) (most : Int) (hs : s.size ≤ 281474976710656) : ACalls Tryd.prog 38 [str s, int .i64 most] [] (ReadR s most) := by
  have hp := parseInt_prog hG s hs
  have bad : (∀ v, ¬ isNum s v) → ∀ h, ∃ l h1 b, LeH 0 h l h1 ∧ LeV h l (.tup 2 fun i => [int .i64 0, int .i64 2].getD i .top) b ∧ ReadR s most b h1 := fun hn h => by
    obtain ⟨e1, e2⟩ := read_none (most := most) hn
    exact ⟨[], [], _, lehN _, le_pair (leI e2.symm) (leI e1.symm), rfl, rfl⟩
  refine rcalls Tryd.func38 rfl (by decide) ?_
  unfold parseT at hp
  cases hv : Lib.parseIntB 64 s.data.toList
  · rename_i v
    rw [hv] at hp
    have hb := Lib.parseIntB_bounds hv
    have hb1 : v < 9223372036854775808 := by have := hb.2; omega
    have hb0 : -9223372036854775808 ≤ v := by have := hb.1; omega
    refine ⟨[], _, hp, ?_⟩
    rintro r h ⟨rfl, rfl⟩
    refine ⟨.inl rfl, ?_⟩
    have uniq : ∀ u, isNum s u → u = v := fun u hn => by
      rw [hn.2.2, numS_list, parse_itoa hn.1 hn.2.1] at hv
      injection hv
    refine ⟨fun c1 => ?_, fun c1 => ?_⟩
    · refine ⟨fun _ => bad (fun u hn => ?_) _, fun e => by rw [c1] at e; cases e⟩
      have := uniq u hn
      have := hn.1
      have := yes c1
      omega
    · have c2 : 0 ≤ v := by have := no c1; omega
      have hf := number_prog hG v hb0 hb1
      obtain ⟨S, hS⟩ : ∃ S, numS v = S := ⟨_, rfl⟩
      rw [hS] at hf
      refine ⟨[], _, hf, ?_⟩
      rintro r h ⟨rfl, rfl⟩
      refine ⟨.inl rfl, ?_⟩
      refine ⟨fun d1 => ?_, fun d1 => ?_⟩
      · have d2 : ¬ S = s := of_decide_eq_true d1
        refine bad (fun u hn => ?_) _
        have e := uniq u hn
        subst e
        exact d2 (hS.symm.trans hn.2.2.symm)
      · have d2 : S = s := Classical.byContradiction fun hne => of_decide_eq_false d1 hne
        have hn : isNum s v := ⟨c2, hb1, by rw [hS, d2]⟩
        refine ⟨fun e1 => ?_, fun e1 => ?_⟩
        · obtain ⟨g1, g2⟩ := read_over hn (yes e1)
          exact ⟨[], [], _, lehN _, le_pair (leI g2.symm) (leI g1.symm), rfl, rfl⟩
        · obtain ⟨g1, g2⟩ := read_ok hn (no e1)
          exact ⟨[], [], _, lehN _, le_pair (leI g2.symm) (leI g1.symm), rfl, rfl⟩
  all_goals
    rw [hv] at hp
    refine ⟨[], _, hp, ?_⟩
    rintro r h ⟨rfl, rfl⟩
    refine ⟨.inl rfl, ?_⟩
    refine bad (fun v hn => ?_) _
    rw [hn.2.2, numS_list, parse_itoa hn.1 hn.2.1] at hv
    cases hv

end
end Go.Proofs.YtkchfbnkdpdbkaaDoor.Hx

/-
  The contract of the document's own Read.
-/
set_option linter.unusedVariables false
set_option linter.unusedSectionVars false
namespace Go.Proofs.YtkchfbnkdpdbkaaDoor.Hx
open Go AL

theorem ints_get {s : ByteArray} {i : Nat} (hi : i < s.size) : ∃ c, c ∈ s.data.toList ∧ s.data.toList[i]? = some c ∧ (intsOf s).getD i 0 = (c.toNat : Int) := by
  have hl : s.data.toList.length = s.size := rfl
  refine ⟨s.data.toList[i]'(by omega), List.getElem_mem _, by rw [List.getElem?_eq_getElem], ?_⟩
  unfold intsOf
  rw [List.getD_eq_getElem?_getD, List.getElem?_map, List.getElem?_eq_getElem (by omega)]
  rfl
theorem num_get {s : ByteArray} {v : Int} (h : isNum s v) {i : Nat} (hi : i < s.size) : 48 ≤ (intsOf s).getD i 0 ∧ (intsOf s).getD i 0 ≤ 57 := by
  obtain ⟨c, h1, _, h3⟩ := ints_get hi
  rw [h3]
  rw [h.2.2] at h1
  have := num_digits h.1 c h1
  omega
theorem take_snoc {xs : List Int} {k : Nat} (h : k < xs.length) : xs.take (k + 1) = xs.take k ++ [xs.getD k 0] := by
  rw [List.take_succ_eq_append_getElem h, List.getD_eq_getElem?_getD, List.getElem?_eq_getElem h]
  rfl

section
variable [Globs]

end
end Go.Proofs.YtkchfbnkdpdbkaaDoor.Hx

/-
  What the laws of hexa ask first, and how a digest's text is parsed as it.
-/
set_option linter.unusedVariables false
set_option linter.unusedSectionVars false
namespace Go.Proofs.YtkchfbnkdpdbkaaDoor.Hx
open Go AL

theorem intsOf_len (s : ByteArray) : (intsOf s).length = s.size := by
  unfold intsOf; rw [List.length_map, Array.length_toList]; rfl
theorem hexL_get : ∀ (xs : List Int) (i : Nat), i < xs.length → (hexL xs).getD (2 * i) 0 = fig (xs.getD i 0 / 16) ∧ (hexL xs).getD (2 * i + 1) 0 = fig (xs.getD i 0 % 16)
  | [], i, h => absurd h (Nat.not_lt_zero _)
  | x :: xs, 0, _ => ⟨rfl, rfl⟩
  | x :: xs, i + 1, h => by
    have := hexL_get xs i (by simpa using h)
    rw [show 2 * (i + 1) = 2 * i + 1 + 1 by omega]
    simpa [hexL] using this
theorem hexL_range {xs : List Int} (hx : ∀ x ∈ xs, 0 ≤ x ∧ x < 256) : ∀ y ∈ hexL xs, 0 ≤ y ∧ y < 256 := by
  induction xs with
  | nil => intro y hy; simp [hexL] at hy
  | cons x xs ih =>
    intro y hy
    have h1 := hx x (by simp)
    simp only [hexL, List.mem_cons] at hy
    rcases hy with rfl | rfl | hy
    · have := fig_range (n := x / 16) (by omega) (by omega); omega
    · have := fig_range (n := x % 16) (by omega) (by omega); omega
    · exact ih (fun z hz => hx z (by simp [hz])) y hy
/-- A digest's text is parsed as it. -/
theorem parse_text {xs : List Int} (hl : xs.length = 32) (hx : ∀ x ∈ xs, 0 ≤ x ∧ x < 256) : parseE (intsOf (textS xs)) = 0 ∧ parseD (intsOf (textS xs)) = xs ∧ (textS xs).size = 64 := by
  have e : intsOf (textS xs) = hexL xs := intsOf_bytesOf (hexL_range hx)
  have hlen : (hexL xs).length = 64 := by rw [hexL_length]; omega
  have hd : ∀ i, i < 32 → hexd ((hexL xs).getD (2 * i) 0) ∧ hexd ((hexL xs).getD (2 * i + 1) 0) ∧ full (hexL xs) i = xs.getD i 0 := fun i hi => by
    have hb := byteAt hx i
    obtain ⟨g1, g2⟩ := hexL_get xs i (by omega)
    obtain ⟨n1, n2⟩ := nv_fig (n := xs.getD i 0 / 16) (by omega) (by omega)
    obtain ⟨m1, m2⟩ := nv_fig (n := xs.getD i 0 % 16) (by omega) (by omega)
    refine ⟨by rw [g1]; exact n2, by rw [g2]; exact m2, ?_⟩
    unfold full
    rw [g1, g2, n1, m1]
    omega
  have hok : parseOK (hexL xs) := ⟨hlen, fun i hi => by
    rcases Nat.mod_two_eq_zero_or_one i with h | h
    · have := (hd (i / 2) (by omega)).1
      rwa [show 2 * (i / 2) = i by omega] at this
    · have := (hd (i / 2) (by omega)).2.1
      rwa [show 2 * (i / 2) + 1 = i by omega] at this⟩
  rw [e]
  obtain ⟨h1, h2⟩ := parse_ok hok
  refine ⟨h1, ?_, ?_⟩
  · rw [h2]
    unfold pd
    apply List.ext_getElem?
    intro i
    rw [List.getElem?_map]
    rcases Nat.lt_or_ge i 32 with h | h
    · rw [List.getElem?_range h]
      have := (hd i h).2.2
      rw [List.getD_eq_getElem?_getD, List.getElem?_eq_getElem (by omega)] at this
      rw [List.getElem?_eq_getElem (by omega)]
      simpa using this
    · rw [List.getElem?_eq_none (by simpa using h), List.getElem?_eq_none (by omega)]
      rfl
  · rw [← intsOf_len, e]; exact hlen
/-- What is parsed has the very text. -/
theorem text_parse {s : ByteArray} (h : parseE (intsOf s) = 0) : textS (parseD (intsOf s)) = s := by
  have hok : parseOK (intsOf s) := Classical.byContradiction fun hn => by rw [(parse_no hn).1] at h; omega
  rw [(parse_ok hok).2]
  obtain ⟨hl, hd⟩ := hok
  have hfl : (pd (intsOf s)).length = 32 := by simp [pd]
  have hg : ∀ i, i < 32 → (pd (intsOf s)).getD i 0 = full (intsOf s) i := fun i hi => by
    unfold pd
    rw [List.getD_eq_getElem?_getD, List.getElem?_map, List.getElem?_range hi]
    rfl
  have : hexL (pd (intsOf s)) = intsOf s := by
    apply List.ext_getElem?
    intro i
    have hlen : (hexL (pd (intsOf s))).length = 64 := by rw [hexL_length, hfl]
    rcases Nat.lt_or_ge i 64 with hi | hi
    · have h1 : (hexL (pd (intsOf s))).getD i 0 = (intsOf s).getD i 0 := by
        obtain ⟨g1, g2⟩ := hexL_get (pd (intsOf s)) (i / 2) (by omega)
        rw [hg (i / 2) (by omega)] at g1 g2
        unfold full at g1 g2
        have a1 := nv_range (hd (2 * (i / 2)) (by omega))
        have a2 := nv_range (hd (2 * (i / 2) + 1) (by omega))
        rcases Nat.mod_two_eq_zero_or_one i with h | h
        · rw [show 2 * (i / 2) = i by omega] at *
          rw [g1, show (16 * nv ((intsOf s).getD i 0) + nv ((intsOf s).getD (i + 1) 0)) / 16 = nv ((intsOf s).getD i 0) by omega]
          exact fig_nv (hd i hi)
        · rw [show 2 * (i / 2) + 1 = i by omega] at *
          rw [g2, show (16 * nv ((intsOf s).getD (2 * (i / 2)) 0) + nv ((intsOf s).getD i 0)) % 16 = nv ((intsOf s).getD i 0) by omega]
          exact fig_nv (hd i hi)
      rw [List.getD_eq_getElem?_getD, List.getD_eq_getElem?_getD, List.getElem?_eq_getElem (by omega), List.getElem?_eq_getElem (by omega)] at h1
      rw [List.getElem?_eq_getElem (by omega), List.getElem?_eq_getElem (by omega)]
      simpa using h1
    · rw [List.getElem?_eq_none (by omega), List.getElem?_eq_none (by omega)]
  unfold textS
  rw [this, bytesOf_intsOf]
theorem textS_inj {xs ys : List Int} (hl : xs.length = 32) (hx : ∀ x ∈ xs, 0 ≤ x ∧ x < 256) (gl : ys.length = 32) (hy : ∀ x ∈ ys, 0 ≤ x ∧ x < 256) (h : textS xs = textS ys) : xs = ys := by
  have a := (parse_text hl hx).2.1
  have b := (parse_text gl hy).2.1
  rw [h, b] at a
  exact a.symm
theorem pd_range {xs : List Int} (h : parseOK xs) : ∀ x ∈ pd xs, 0 ≤ x ∧ x < 256 := by
  intro x hx
  unfold pd at hx
  obtain ⟨i, hi, rfl⟩ := List.mem_map.1 hx
  have hi := List.mem_range.1 hi
  have a1 := nv_range (h.2 (2 * i) (by omega))
  have a2 := nv_range (h.2 (2 * i + 1) (by omega))
  unfold full
  omega
theorem parseD_ok (xs : List Int) : (parseD xs).length = 32 ∧ ∀ x ∈ parseD xs, 0 ≤ x ∧ x < 256 := by
  by_cases h : parseOK xs
  · rw [(parse_ok h).2]; exact ⟨by simp [pd], pd_range h⟩
  · rw [(parse_no h).2]
    refine ⟨by simp, fun x hx => ?_⟩
    have := (List.mem_replicate.1 hx).2; omega
theorem parseE_cases (xs : List Int) : parseE xs = 0 ∨ parseE xs = 2 ∧ parseD xs = List.replicate 32 0 := by
  by_cases h : parseOK xs
  · exact .inl (parse_ok h).1
  · exact .inr ⟨(parse_no h).1, (parse_no h).2⟩

/-- Is 7, or 07, a number's text? -/
theorem num7 : isNum ⟨#[55]⟩ 7 := ⟨by decide, by decide, by rw [numS_small (by decide) (by decide)]; decide⟩
theorem num07 (v : Int) : ¬ isNum ⟨#[48, 55]⟩ v := fun h => by
  have e : foldN (intsOf ⟨#[48, 55]⟩) 0 = v := by
    have := foldN_num h.1 h.2.1
    rwa [← h.2.2] at this
  have e7 : foldN (intsOf ⟨#[48, 55]⟩) 0 = 7 := by decide
  have hv : v = 7 := by rw [← e, e7]
  subst hv
  have := h.2.2.trans num7.2.2.symm
  have h2 := congrArg ByteArray.size this
  exact absurd h2 (by decide)
theorem num12 : numS (-12) = ⟨#[45, 49, 50]⟩ := by
  rw [numS_nbig (by decide), show -(- -12 / 10) = (-1 : Int) by decide, numS_nsmall (by decide) (by decide)]
  decide
/-- The digest that the first law asks of. -/
def d255 : List Int := 255 :: List.replicate 31 0
theorem ff255 : (textS d255).extract 0 2 = ⟨#[102, 102]⟩ := by decide +kernel

section
variable [Globs]
set_option maxHeartbeats 2000000 in
set_option maxRecDepth 10000 in
theorem awake_prog (hG : NumG) : ACalls Tryd.prog 17 [] [] (fun r h => r = .tt ∧ h = []) := by
  have hl : d255.length = 32 := by decide
  have hx : ∀ x ∈ d255, 0 ≤ x ∧ x < 256 := by decide
  have ht := text_prog d255 hl hx
  obtain ⟨p1, p2, p3⟩ := parse_text hl hx
  have hp := parse_prog (textS d255) (by omega)
  have hr7 := read_prog hG ⟨#[55]⟩ 6 (by decide)
  have hr07 := read_prog hG ⟨#[48, 55]⟩ 9 (by decide)
  have hn := number_prog hG (-12) (by decide) (by decide)
  have e7 := (read_over (most := 6) num7 (by decide)).1
  have e07 := (read_none (most := 9) num07).1
  have en := num12
  have hff := ff255
  unfold ParseR at hp
  unfold ReadR at hr7 hr07
  rw [p1, p2] at hp
  generalize textS d255 = T at *
  generalize readV ⟨#[55]⟩ 6 = V7 at *
  generalize readE ⟨#[55]⟩ 6 = E7 at *
  generalize readV ⟨#[48, 55]⟩ 9 = V07 at *
  generalize readE ⟨#[48, 55]⟩ 9 = E07 at *
  generalize numS (-12) = N12 at *
  have h64 : (T.size : Int) = 64 := by omega
  refine rcalls Tryd.func17 rfl (by decide) ?_
  refine ⟨rfl, ?_⟩
  refine ⟨rfl, by decide, ?_⟩
  refine ⟨by decide, ?_⟩
  refine ⟨[], _, ht, ?_⟩
  rintro r h ⟨rfl, rfl⟩
  refine ⟨.inl rfl, ?_⟩
  refine ⟨[], _, hp, ?_⟩
  rintro r h ⟨rfl, rfl⟩
  refine ⟨.inl rfl, ?_⟩
  refine ⟨rfl, ?_⟩
  refine ⟨rfl, by decide, ?_⟩
  refine ⟨[], _, hr7, ?_⟩
  rintro r h ⟨rfl, rfl⟩
  refine ⟨.inl rfl, ?_⟩
  refine ⟨[], _, hr07, ?_⟩
  rintro r h ⟨rfl, rfl⟩
  refine ⟨.inl rfl, ?_⟩
  refine ⟨fun _ => ?_, fun e => absurd h64 (no e)⟩
  refine ⟨⟨by decide, by omega⟩, ?_⟩
  refine ⟨fun _ => ?_, fun e => absurd hff (no e)⟩
  refine ⟨by decide, ?_⟩
  refine ⟨by decide, ?_⟩
  refine ⟨by decide, by decide, ?_⟩
  refine ⟨fun _ => ?_, fun e => absurd (by decide) (no e)⟩
  refine ⟨fun _ => ?_, fun e => absurd rfl (no e)⟩
  refine ⟨fun _ => ?_, fun e => absurd e7 (no e)⟩
  refine ⟨fun _ => ?_, fun e => absurd e07 (no e)⟩
  refine ⟨[], _, hn, ?_⟩
  rintro r h ⟨rfl, rfl⟩
  refine ⟨.inl rfl, ?_⟩
  exact ⟨[], [], .tt, lehN _, leTT (decide_eq_true en), rfl, rfl⟩

end
end Go.Proofs.YtkchfbnkdpdbkaaDoor.Hx

/-
  HexaBad: a digest's text with one byte less, or more, or another one.
-/
set_option linter.unusedVariables false
set_option linter.unusedSectionVars false
namespace Go.Proofs.YtkchfbnkdpdbkaaDoor.Hx
open Go AL

theorem ints_app (a b : ByteArray) : intsOf (a ++ b) = intsOf a ++ intsOf b := by
  unfold intsOf
  rw [← List.map_append]
  simp
theorem ints_ext (s : ByteArray) (a b : Nat) : intsOf (s.extract a b) = ((intsOf s).take b).drop a := by
  unfold intsOf
  rw [ByteArray.data_extract, Array.toList_extract, ← List.map_take, ← List.map_drop]
  simp [List.drop_take]
theorem ints_inj {a b : ByteArray} (h : intsOf a = intsOf b) : a = b := by
  rw [← bytesOf_intsOf a, ← bytesOf_intsOf b, h]
/-- The text with byte k another one. -/
def swap (s : ByteArray) (k : Nat) (c : Int) : ByteArray := s.extract 0 k ++ bytesOf [c] ++ s.extract (k + 1) s.size
theorem swap_ints {s : ByteArray} {k : Nat} {c : Int} (hk : k < s.size) (hc : 0 ≤ c ∧ c < 256) : intsOf (swap s k c) = (intsOf s).set k c := by
  unfold swap
  have hl := intsOf_len s
  have hb : intsOf (bytesOf [c]) = [c] := intsOf_bytesOf fun x hx => (List.mem_singleton.1 hx) ▸ hc
  rw [ints_app, ints_app, ints_ext, ints_ext, hb, List.drop_zero, List.take_of_length_le (l := intsOf s) (i := s.size) (by omega)]
  rw [List.set_eq_take_append_cons_drop, if_pos (by omega)]
  simp
theorem swap_ok {s : ByteArray} {k : Nat} {c : Int} (hs : parseOK (intsOf s)) (hk : k < 64) (hc : 0 ≤ c ∧ c < 256) : parseOK (intsOf (swap s k c)) ↔ hexd c := by
  have h64 : s.size = 64 := by rw [← intsOf_len]; exact hs.1
  rw [swap_ints (by omega) hc]
  constructor
  · intro h
    have := h.2 k hk
    rwa [List.getD_eq_getElem?_getD, List.getElem?_set_self (by rw [hs.1]; exact hk)] at this
  · intro h
    refine ⟨by rw [List.length_set]; exact hs.1, fun i hi => ?_⟩
    by_cases e : k = i
    · subst e
      rw [List.getD_eq_getElem?_getD, List.getElem?_set_self (by rw [hs.1]; exact hk)]; exact h
    · rw [List.getD_eq_getElem?_getD, List.getElem?_set_ne e, ← List.getD_eq_getElem?_getD]
      exact hs.2 i hi
theorem swap_same {s : ByteArray} {k : Nat} {c : Int} (hk : k < s.size) (hc : 0 ≤ c ∧ c < 256) : swap s k c = s ↔ (intsOf s).getD k 0 = c := by
  have hl := intsOf_len s
  constructor
  · intro h
    have h1 := swap_ints hk hc
    rw [h] at h1
    rw [h1, List.getD_eq_getElem?_getD, List.getElem?_set_self (by omega)]
    rfl
  · intro h
    refine ints_inj ?_
    rw [swap_ints hk hc, ← h]
    apply List.ext_getElem?
    intro i
    by_cases e : k = i
    · subst e
      rw [List.getElem?_set_self (by omega), List.getD_eq_getElem?_getD, List.getElem?_eq_getElem (by omega)]
      rfl
    · rw [List.getElem?_set_ne e]
/-- What the law asks of the third text. -/
theorem swap_back {d : List Int} {k : Nat} {c : Int} (hl : d.length = 32) (hx : ∀ x ∈ d, 0 ≤ x ∧ x < 256) (hk : k < 64) (hc : 0 ≤ c ∧ c < 256) :
    (parseE (intsOf (swap (textS d) k c)) = 0 ↔ hexd c) ∧ (hexd c → (parseD (intsOf (swap (textS d) k c)) = d ↔ (intsOf (textS d)).getD k 0 = c)) := by
  obtain ⟨p1, p2, p3⟩ := parse_text hl hx
  have hok : parseOK (intsOf (textS d)) := Classical.byContradiction fun hn => by rw [(parse_no hn).1] at p1; omega
  have h1 := swap_ok hok hk hc
  refine ⟨⟨fun h => h1.1 (Classical.byContradiction fun hn => by rw [(parse_no hn).1] at h; omega), fun h => (parse_ok (h1.2 h)).1⟩, fun hh => ?_⟩
  rw [← swap_same (by omega) hc]
  have h2 := text_parse (parse_ok (h1.2 hh)).1
  constructor
  · intro e
    rw [e] at h2
    exact h2.symm
  · intro e
    rw [e]; exact p2
theorem short_bad {s : ByteArray} (h : s.size ≠ 64) : parseE (intsOf s) = 2 := (parse_no fun h1 => h (by rw [← intsOf_len]; exact h1.1)).1

end Go.Proofs.YtkchfbnkdpdbkaaDoor.Hx

/-
  The laws of hexa, walked: HexaTexts, HexaNumbers, HexaReads, HexaBack.
-/
set_option linter.unusedVariables false
set_option linter.unusedSectionVars false
namespace Go.Proofs.YtkchfbnkdpdbkaaDoor.Hx
open Go AL

theorem drop32 {d : List Int} (hl : d.length = 32) : List.take 32 (List.drop 0 d) = d := by rw [List.drop_zero, List.take_of_length_le (by omega)]
theorem neg_not {n : Int} (h : n < 0) (v : Int) : ¬ isNum (numS n) v := fun hn => by
  obtain ⟨r, e⟩ := num_neg h
  have := num_digits hn.1 45 (by rw [← hn.2.2, e]; simp)
  exact absurd this.1 (by decide)
theorem read_isNum {s : ByteArray} {m : Int} (h : readE s m = 0) : isNum s (readV s m) := by
  by_cases hx : ∃ v, isNum s v
  · obtain ⟨v, hv⟩ := hx
    by_cases hm : v > m
    · rw [(read_over hv hm).1] at h; omega
    · rw [(read_ok hv hm).2]; exact hv
  · rw [(read_none (most := m) fun v hv => hx ⟨v, hv⟩).1] at h; omega

section

variable [Globs]

end
end Go.Proofs.YtkchfbnkdpdbkaaDoor.Hx

/-
  The law HexaBad, walked.
-/
set_option linter.unusedVariables false
set_option linter.unusedSectionVars false
namespace Go.Proofs.YtkchfbnkdpdbkaaDoor.Hx
open Go AL
section
variable [Globs]
theorem deqT {p : Prop} [Decidable p] (h : p) : bool (decide p) = bool true := by rw [decide_eq_true h]
theorem deqF {p : Prop} [Decidable p] (h : ¬ p) : bool (decide p) = bool false := by rw [decide_eq_false h]
theorem hexd_iff {c : Int} : hexd c ↔ ((48 ≤ c ∧ c ≤ 57) ∨ (97 ≤ c ∧ c ≤ 102)) := by
  unfold hexd; omega



set_option maxHeartbeats 2000000 in
set_option maxRecDepth 10000 in
theorem bad_prog (hG : NumG) (d : List Int) (n c : Int) (hl : d.length = 32) (hd : ∀ x ∈ d, 0 ≤ x ∧ x < 256) (hn : 0 ≤ n ∧ n < 256) (hc : 0 ≤ c ∧ c < 256) :
    ACalls Tryd.prog 3 [.aggI .u8 d, int .u8 n, int .u8 c] [] (fun r h => r = .tt ∧ h = []) := by
  have h3 := text_prog d hl hd
  have hsz : (textS d).size = 64 := (parse_text hl hd).2.2
  have hbk := fun k hk => swap_back hl hd (k := k) (c := c) hk hc
  generalize textS d = T at *
  rw [← drop32 hl] at h3
  refine rcalls Tryd.func3 rfl (by decide) ?_
  refine ⟨hl.symm, ?_⟩
  refine ⟨[], _, awake_prog hG, ?_⟩
  rintro r hh ⟨rfl, rfl⟩
  refine ⟨.inl rfl, ?_⟩
  refine ⟨by rw [hl]; decide, ?_⟩
  refine ⟨[], _, h3, ?_⟩
  rintro r hh ⟨rfl, rfl⟩
  refine ⟨.inl rfl, ?_⟩
  refine ⟨fun e => absurd (yes e) (by simp [hsz]), fun _ => ?_⟩
  refine ⟨by decide, ?_⟩
  obtain ⟨k, hk, eK⟩ : ∃ k : Nat, k < 64 ∧ (IntKind.i64.wrap n).tmod 64 = (k : Int) := by
    rw [w64 (by omega) (by omega), Int.tmod_eq_emod_of_nonneg hn.1]
    exact ⟨(n % 64).toNat, by omega, by omega⟩
  rw [eK]
  have e1 : IntKind.i64.wrap ((k : Int) + 1) = ((k + 1 : Nat) : Int) := by rw [w64 (by omega) (by omega)]; omega
  have et : (IntKind.i64.wrap ((k : Int) + 1)).toNat = k + 1 := by rw [e1]; exact Int.toNat_natCast _
  obtain ⟨b1, b2⟩ := hbk k hk
  have s1 : (T.extract 0 (k : Int).toNat ++ T.extract (IntKind.i64.wrap ((k : Int) + 1)).toNat T.size).size = 63 := by
    rw [et, ByteArray.size_append, ByteArray.size_extract, ByteArray.size_extract, hsz, Int.toNat_natCast]; omega
  have s2 : (T.extract 0 (k : Int).toNat ++ ⟨#[48]⟩ ++ T.extract (k : Int).toNat T.size).size = 65 := by
    rw [ByteArray.size_append, ByteArray.size_append, ByteArray.size_extract, ByteArray.size_extract, hsz, Int.toNat_natCast]
    show min k 64 - 0 + 1 + (min 64 64 - k) = 65
    omega
  have e3 : T.extract 0 (k : Int).toNat ++ bytesOf [c] ++ T.extract (IntKind.i64.wrap ((k : Int) + 1)).toNat T.size = swap T k c := by
    rw [et]; rfl
  have s3 : (swap T k c).size = 64 := by
    unfold swap
    rw [ByteArray.size_append, ByteArray.size_append, ByteArray.size_extract, ByteArray.size_extract, hsz]
    have : (bytesOf [c]).size = 1 := by simp [bytesOf, ByteArray.size]
    rw [this]; omega
  have p1 := parse_prog _ (show _ ≤ _ by rw [s1]; decide)
  have p2 := parse_prog _ (show _ ≤ _ by rw [s2]; decide)
  have p3 := parse_prog (swap T k c) (by rw [s3]; decide)
  rw [← e3] at p3
  have q1 := short_bad (s := T.extract 0 (k : Int).toNat ++ T.extract (IntKind.i64.wrap ((k : Int) + 1)).toNat T.size) (by rw [s1]; decide)
  have q2 := short_bad (s := T.extract 0 (k : Int).toNat ++ ⟨#[48]⟩ ++ T.extract (k : Int).toNat T.size) (by rw [s2]; decide)
  have l1 := (parseD_ok (intsOf (T.extract 0 (k : Int).toNat ++ T.extract (IntKind.i64.wrap ((k : Int) + 1)).toNat T.size))).1
  have l2 := (parseD_ok (intsOf (T.extract 0 (k : Int).toNat ++ ⟨#[48]⟩ ++ T.extract (k : Int).toNat T.size))).1
  have l3 := (parseD_ok (intsOf (swap T k c))).1
  unfold ParseR at p1 p2 p3
  rw [e3] at p3
  rw [q1] at p1
  rw [q2] at p2
  generalize parseD (intsOf (T.extract 0 (k : Int).toNat ++ T.extract (IntKind.i64.wrap ((k : Int) + 1)).toNat T.size)) = D1 at *
  generalize parseD (intsOf (T.extract 0 (k : Int).toNat ++ ⟨#[48]⟩ ++ T.extract (k : Int).toNat T.size)) = D2 at *
  generalize parseD (intsOf (swap T k c)) = D3 at *
  generalize parseE (intsOf (swap T k c)) = E3 at *
  rw [← e3] at p3
  refine .inr ⟨14, by decide +kernel, ?_⟩
  refine ⟨_, rfl, ?_⟩
  refine ⟨_, rfl, ?_⟩
  refine ⟨_, ⟨⟨by omega, by omega⟩, rfl⟩, ?_⟩
  refine ⟨_, rfl, ?_⟩
  refine ⟨_, rfl, ?_⟩
  refine ⟨_, rfl, ?_⟩
  refine ⟨_, ⟨⟨by omega, by omega⟩, rfl⟩, ?_⟩
  have zb : ∀ a b, (T.extract a b).size ≤ 64 := fun a b => by rw [ByteArray.size_extract, hsz]; omega
  refine ⟨_, ⟨Nat.lt_of_le_of_lt (Nat.add_le_add (zb _ _) (zb _ _)) (by decide), rfl⟩, ?_⟩
  refine ⟨_, ⟨[], _, p1, by rintro r h ⟨rfl, rfl⟩; exact ⟨.inl rfl, rfl, rfl⟩⟩, ?_⟩
  refine ⟨_, rfl, ?_⟩
  refine ⟨_, rfl, ?_⟩
  refine ⟨_, rfl, ?_⟩
  refine ⟨_, _, ⟨rfl, rfl, rfl⟩, ?_⟩
  refine ⟨_, _, ⟨l1.symm, by simp, rfl, rfl⟩, ?_⟩
  refine .inr ⟨14, by decide +kernel, ?_⟩
  refine ⟨_, rfl, ?_⟩
  refine ⟨_, rfl, ?_⟩
  refine ⟨_, ⟨⟨by omega, by omega⟩, rfl⟩, ?_⟩
  refine ⟨_, ⟨Nat.lt_of_le_of_lt (Nat.add_le_add (zb _ _) (Nat.le_refl _)) (by decide), rfl⟩, ?_⟩
  refine ⟨_, rfl, ?_⟩
  refine ⟨_, rfl, ?_⟩
  refine ⟨_, ⟨⟨by omega, by omega⟩, rfl⟩, ?_⟩
  refine ⟨_, ⟨Nat.lt_of_le_of_lt (Nat.add_le_add (Nat.le_of_eq ByteArray.size_append) (zb _ _)) (Nat.lt_of_le_of_lt (Nat.add_le_add (Nat.add_le_add (zb _ _) (Nat.le_refl _)) (Nat.le_refl _)) (by decide)), rfl⟩, ?_⟩
  refine ⟨_, ⟨[], _, p2, by rintro r h ⟨rfl, rfl⟩; exact ⟨.inl rfl, rfl, rfl⟩⟩, ?_⟩
  refine ⟨_, rfl, ?_⟩
  refine ⟨_, rfl, ?_⟩
  refine ⟨_, rfl, ?_⟩
  refine ⟨_, _, ⟨rfl, rfl, rfl⟩, ?_⟩
  refine ⟨_, _, ⟨l2.symm, by simp, rfl, rfl⟩, ?_⟩
  refine .inr ⟨18, by decide +kernel, ?_⟩
  refine ⟨_, rfl, ?_⟩
  refine ⟨_, rfl, ?_⟩
  refine ⟨_, ⟨⟨by omega, by omega⟩, rfl⟩, ?_⟩
  refine ⟨_, rfl, ?_⟩
  refine ⟨_, rfl, ?_⟩
  refine ⟨_, rfl, ?_⟩
  refine ⟨_, ⟨Nat.lt_of_le_of_lt (Nat.add_le_add (zb _ _) (Nat.le_refl _)) ?_, rfl⟩, ?_⟩
  · have : (bytesOf [c]).size = 1 := by simp [bytesOf, ByteArray.size]
    rw [this]; decide
  refine ⟨_, rfl, ?_⟩
  refine ⟨_, rfl, ?_⟩
  refine ⟨_, rfl, ?_⟩
  refine ⟨_, ⟨⟨by omega, by omega⟩, rfl⟩, ?_⟩
  refine ⟨_, ⟨Nat.lt_of_le_of_lt (Nat.add_le_add (Nat.le_of_eq ByteArray.size_append) (zb _ _)) (Nat.lt_of_le_of_lt (Nat.add_le_add (Nat.add_le_add (zb _ _) (Nat.le_of_eq (show (bytesOf [c]).size = 1 by simp [bytesOf, ByteArray.size]))) (Nat.le_refl _)) (by decide)), rfl⟩, ?_⟩
  refine ⟨_, ⟨[], _, p3, by rintro r h ⟨rfl, rfl⟩; exact ⟨.inl rfl, rfl, rfl⟩⟩, ?_⟩
  refine ⟨_, rfl, ?_⟩
  refine ⟨_, rfl, ?_⟩
  refine ⟨_, rfl, ?_⟩
  refine ⟨_, _, ⟨rfl, rfl, rfl⟩, ?_⟩
  refine ⟨_, _, ⟨l3.symm, by simp, rfl, rfl⟩, ?_⟩
  refine ⟨fun g1 => ?_, fun g1 => ?_⟩
  · have f1 : (48 : Int) ≤ c := yes g1
    refine ⟨fun g2 => ?_, fun g2 => ?_⟩
    · have f2 : c ≤ 57 := yes g2
      have hx : hexd c := by unfold hexd; omega
      refine .inr ⟨30, by decide +kernel, ?_⟩
      refine ⟨_, rfl, ?_⟩
      try rw [g5]
      refine ⟨_, rfl, ?_⟩
      refine ⟨_, rfl, ?_⟩
      refine ⟨_, deqT rfl, ?_⟩
      refine ⟨_, rfl, ?_⟩
      refine ⟨_, rfl, ?_⟩
      refine ⟨_, rfl, ?_⟩
      refine ⟨_, deqT rfl, ?_⟩
      refine ⟨_, rfl, ?_⟩
      refine ⟨_, rfl, ?_⟩
      refine ⟨_, rfl, ?_⟩
      refine ⟨_, deqT (b1.2 hx), ?_⟩
      refine ⟨_, rfl, ?_⟩
      refine ⟨_, rfl, ?_⟩
      refine ⟨_, rfl, ?_⟩
      refine ⟨_, rfl, ?_⟩
      refine ⟨_, rfl, ?_⟩
      refine ⟨_, rfl, ?_⟩
      refine ⟨_, rfl, ?_⟩
      refine ⟨_, ⟨by simp [l3], rfl⟩, ?_⟩
      refine ⟨_, ⟨by simp [hl], rfl⟩, ?_⟩
      refine ⟨_, ⟨by simp [l3], by simp [hl], rfl⟩, ?_⟩
      refine ⟨_, rfl, ?_⟩
      refine ⟨_, rfl, ?_⟩
      refine ⟨_, ⟨⟨by omega, by omega⟩, rfl⟩, ?_⟩
      refine ⟨_, rfl, ?_⟩
      refine ⟨_, rfl, ?_⟩
      refine ⟨_, rfl, ?_⟩
      refine ⟨_, rfl, ?_⟩
      refine ⟨_, rfl, ?_⟩
      refine ⟨[], [], .tt, lehN _, leTT ?_, rfl, rfl⟩
      have e9 : List.take (30 + 2) (List.drop 0 (List.take 0 (List.replicate 32 0) ++ D3 ++ List.drop (0 + D3.length) (List.replicate 32 0))) = D3 := by
        rw [l3]; simp; exact List.take_of_length_le (by omega)
      rw [e9, show List.take (30 + 2) (List.drop 0 d) = d from drop32 hl]
      exact beq_iff_eq.2 (decide_eq_decide.2 (b2 hx))
    have f2 : ¬ c ≤ 57 := no g2
    refine ⟨fun g3 => ?_, fun g3 => ?_⟩
    · have f3 : (97 : Int) ≤ c := yes g3
      by_cases g4 : c ≤ 102
      · have g5 : decide (c ≤ 102) = true := decide_eq_true g4
        have hx : hexd c := by unfold hexd; omega
        refine .inr ⟨30, by decide +kernel, ?_⟩
        refine ⟨_, rfl, ?_⟩
        try rw [g5]
        refine ⟨_, rfl, ?_⟩
        refine ⟨_, rfl, ?_⟩
        refine ⟨_, deqT rfl, ?_⟩
        refine ⟨_, rfl, ?_⟩
        refine ⟨_, rfl, ?_⟩
        refine ⟨_, rfl, ?_⟩
        refine ⟨_, deqT rfl, ?_⟩
        refine ⟨_, rfl, ?_⟩
        refine ⟨_, rfl, ?_⟩
        refine ⟨_, rfl, ?_⟩
        refine ⟨_, deqT (b1.2 hx), ?_⟩
        refine ⟨_, rfl, ?_⟩
        refine ⟨_, rfl, ?_⟩
        refine ⟨_, rfl, ?_⟩
        refine ⟨_, rfl, ?_⟩
        refine ⟨_, rfl, ?_⟩
        refine ⟨_, rfl, ?_⟩
        refine ⟨_, rfl, ?_⟩
        refine ⟨_, ⟨by simp [l3], rfl⟩, ?_⟩
        refine ⟨_, ⟨by simp [hl], rfl⟩, ?_⟩
        refine ⟨_, ⟨by simp [l3], by simp [hl], rfl⟩, ?_⟩
        refine ⟨_, rfl, ?_⟩
        refine ⟨_, rfl, ?_⟩
        refine ⟨_, ⟨⟨by omega, by omega⟩, rfl⟩, ?_⟩
        refine ⟨_, rfl, ?_⟩
        refine ⟨_, rfl, ?_⟩
        refine ⟨_, rfl, ?_⟩
        refine ⟨_, rfl, ?_⟩
        refine ⟨_, rfl, ?_⟩
        refine ⟨[], [], .tt, lehN _, leTT ?_, rfl, rfl⟩
        have e9 : List.take (30 + 2) (List.drop 0 (List.take 0 (List.replicate 32 0) ++ D3 ++ List.drop (0 + D3.length) (List.replicate 32 0))) = D3 := by
          rw [l3]; simp; exact List.take_of_length_le (by omega)
        rw [e9, show List.take (30 + 2) (List.drop 0 d) = d from drop32 hl]
        exact beq_iff_eq.2 (decide_eq_decide.2 (b2 hx))
      · have g5 : decide (c ≤ 102) = false := decide_eq_false g4
        have hx : ¬ hexd c := by unfold hexd; omega
        refine .inr ⟨30, by decide +kernel, ?_⟩
        refine ⟨_, rfl, ?_⟩
        try rw [g5]
        refine ⟨_, rfl, ?_⟩
        refine ⟨_, rfl, ?_⟩
        refine ⟨_, deqT rfl, ?_⟩
        refine ⟨_, rfl, ?_⟩
        refine ⟨_, rfl, ?_⟩
        refine ⟨_, rfl, ?_⟩
        refine ⟨_, deqT rfl, ?_⟩
        refine ⟨_, rfl, ?_⟩
        refine ⟨_, rfl, ?_⟩
        refine ⟨_, rfl, ?_⟩
        refine ⟨_, deqF (fun h => hx (b1.1 h)), ?_⟩
        refine ⟨_, rfl, ?_⟩
        refine ⟨_, rfl, ?_⟩
        refine ⟨_, rfl, ?_⟩
        refine ⟨_, rfl, ?_⟩
        refine ⟨_, rfl, ?_⟩
        refine ⟨_, rfl, ?_⟩
        refine ⟨_, rfl, ?_⟩
        refine ⟨_, rfl, ?_⟩
        refine ⟨_, rfl, ?_⟩
        refine ⟨_, rfl, ?_⟩
        refine ⟨_, rfl, ?_⟩
        refine ⟨_, rfl, ?_⟩
        refine ⟨_, rfl, ?_⟩
        refine ⟨_, rfl, ?_⟩
        refine ⟨_, rfl, ?_⟩
        refine ⟨_, rfl, ?_⟩
        refine ⟨_, rfl, ?_⟩
        refine ⟨_, rfl, ?_⟩
        exact ⟨[], [], .tt, lehN _, .tt, rfl, rfl⟩
    · have f3 : ¬ (97 : Int) ≤ c := no g3
      have hx : ¬ hexd c := by unfold hexd; omega
      refine .inr ⟨30, by decide +kernel, ?_⟩
      refine ⟨_, rfl, ?_⟩
      try rw [g5]
      refine ⟨_, rfl, ?_⟩
      refine ⟨_, rfl, ?_⟩
      refine ⟨_, deqT rfl, ?_⟩
      refine ⟨_, rfl, ?_⟩
      refine ⟨_, rfl, ?_⟩
      refine ⟨_, rfl, ?_⟩
      refine ⟨_, deqT rfl, ?_⟩
      refine ⟨_, rfl, ?_⟩
      refine ⟨_, rfl, ?_⟩
      refine ⟨_, rfl, ?_⟩
      refine ⟨_, deqF (fun h => hx (b1.1 h)), ?_⟩
      refine ⟨_, rfl, ?_⟩
      refine ⟨_, rfl, ?_⟩
      refine ⟨_, rfl, ?_⟩
      refine ⟨_, rfl, ?_⟩
      refine ⟨_, rfl, ?_⟩
      refine ⟨_, rfl, ?_⟩
      refine ⟨_, rfl, ?_⟩
      refine ⟨_, rfl, ?_⟩
      refine ⟨_, rfl, ?_⟩
      refine ⟨_, rfl, ?_⟩
      refine ⟨_, rfl, ?_⟩
      refine ⟨_, rfl, ?_⟩
      refine ⟨_, rfl, ?_⟩
      refine ⟨_, rfl, ?_⟩
      refine ⟨_, rfl, ?_⟩
      refine ⟨_, rfl, ?_⟩
      refine ⟨_, rfl, ?_⟩
      refine ⟨_, rfl, ?_⟩
      exact ⟨[], [], .tt, lehN _, .tt, rfl, rfl⟩
  have f1 : ¬ (48 : Int) ≤ c := no g1
  refine ⟨fun g3 => ?_, fun g3 => ?_⟩
  · have f3 : (97 : Int) ≤ c := yes g3
    omega
  · have f3 : ¬ (97 : Int) ≤ c := no g3
    have hx : ¬ hexd c := by unfold hexd; omega
    refine .inr ⟨30, by decide +kernel, ?_⟩
    refine ⟨_, rfl, ?_⟩
    try rw [g5]
    refine ⟨_, rfl, ?_⟩
    refine ⟨_, rfl, ?_⟩
    refine ⟨_, deqT rfl, ?_⟩
    refine ⟨_, rfl, ?_⟩
    refine ⟨_, rfl, ?_⟩
    refine ⟨_, rfl, ?_⟩
    refine ⟨_, deqT rfl, ?_⟩
    refine ⟨_, rfl, ?_⟩
    refine ⟨_, rfl, ?_⟩
    refine ⟨_, rfl, ?_⟩
    refine ⟨_, deqF (fun h => hx (b1.1 h)), ?_⟩
    refine ⟨_, rfl, ?_⟩
    refine ⟨_, rfl, ?_⟩
    refine ⟨_, rfl, ?_⟩
    refine ⟨_, rfl, ?_⟩
    refine ⟨_, rfl, ?_⟩
    refine ⟨_, rfl, ?_⟩
    refine ⟨_, rfl, ?_⟩
    refine ⟨_, rfl, ?_⟩
    refine ⟨_, rfl, ?_⟩
    refine ⟨_, rfl, ?_⟩
    refine ⟨_, rfl, ?_⟩
    refine ⟨_, rfl, ?_⟩
    refine ⟨_, rfl, ?_⟩
    refine ⟨_, rfl, ?_⟩
    refine ⟨_, rfl, ?_⟩
    refine ⟨_, rfl, ?_⟩
    refine ⟨_, rfl, ?_⟩
    refine ⟨_, rfl, ?_⟩
    exact ⟨[], [], .tt, lehN _, .tt, rfl, rfl⟩
end
end Go.Proofs.YtkchfbnkdpdbkaaDoor.Hx

/-
  What every row of this program's laws wants: its knobs and its layout.
-/
namespace Go.Proofs.YtkchfbnkdpdbkaaDoor.AL
open Go Go.RowKit Go.ChangeShapes

theorem own : ownKnob Tryd.prog.godebug = none := by kernel_rfl
theorem laidOut : laidOutB Tryd.prog = true := by kernel_rfl
theorem wf_i64 {n : Int} (h : (Lit.int .i64 n).wf = true) : -9223372036854775808 ≤ n ∧ n < 9223372036854775808 := by
  simp only [Lit.wf, Bool.and_eq_true, decide_eq_true_eq] at h; exact ⟨Int.le_trans (by decide) h.1, Int.lt_of_le_of_lt h.2 (by decide)⟩
theorem wf_u8 {n : Int} (h : (Lit.int .u8 n).wf = true) : 0 ≤ n ∧ n < 256 := by
  simp only [Lit.wf, Bool.and_eq_true, decide_eq_true_eq] at h; exact ⟨Int.le_trans (by decide) h.1, Int.lt_of_le_of_lt h.2 (by decide)⟩
theorem wf_u16 {n : Int} (h : (Lit.int .u16 n).wf = true) : 0 ≤ n ∧ n < 65536 := by
  simp only [Lit.wf, Bool.and_eq_true, decide_eq_true_eq] at h; exact ⟨Int.le_trans (by decide) h.1, Int.lt_of_le_of_lt h.2 (by decide)⟩
theorem wf_u32 {n : Int} (h : (Lit.int .u32 n).wf = true) : 0 ≤ n ∧ n < 4294967296 := by
  simp only [Lit.wf, Bool.and_eq_true, decide_eq_true_eq] at h; exact ⟨Int.le_trans (by decide) h.1, Int.lt_of_le_of_lt h.2 (by decide)⟩
end Go.Proofs.YtkchfbnkdpdbkaaDoor.AL

/-
  What the laws' rows list gives the walks: strconv's two errors and its table of powers.
-/
set_option linter.unusedVariables false
namespace Go.Proofs.YtkchfbnkdpdbkaaDoor.Hx
open Go AL

abbrev numGlobs : Globs := ⟨[(1, isIfc), (2, isIfc), (3, isTab)]⟩
theorem numG : @NumG numGlobs := @NumG.mk numGlobs (.head _) (.tail _ (.head _)) (.tail _ (.tail _ (.head _)))

theorem heap_of_var {P : Program} {W : World} {n : String} {g : Nat} {cs : Array Value} (hn : P.globalNamed n = some g) (hv : W.var? P n = some cs) : g < W.heap.size ∧ ∃ el fr, W.heap[g]? = some (.cells cs el fr) := by
  simp only [World.var?, hn, Option.bind_some] at hv
  split at hv
  · rename_i c el fr e
    cases hv
    exact ⟨(Array.getElem?_eq_some_iff.1 e).1, el, fr, e⟩
  · cases hv

theorem errRow (u : TypeId) (h : Tryd.prog.typeName? 3 u = some "*errors.errorString") : u = 168 :=
  typeName_ptr_named (nm := "errors.errorString") (by kernel_rfl) (by kernel_rfl) (by decide) u h

def laidNum : List (String × DataW Unit) := [("math/bits.deBruijn32tab", Rows.laid_math_bits_deBruijn32tab), ("math/bits.deBruijn64tab", Rows.laid_math_bits_deBruijn64tab), ("internal/strconv.uint64pow10", Rows.laid_internal_strconv_uint64pow10), ("strconv.ErrRange", Rows.laid_strconv_ErrRange), ("strconv.ErrSyntax", Rows.laid_strconv_ErrSyntax)]

theorem glob_num {W : World} (hL : laidMetH Tryd.prog laidNum W) : @Glob numGlobs (fun b => b < W.heap.size) W := by
  rw [MakeChecks.laidMetH_plain _ _ _ (by kernel_rfl)] at hL
  have h3 : laidMet Tryd.prog (("internal/strconv.uint64pow10", Lib.tabData .u64 Lib.pow10Tab) :: [("strconv.ErrRange", Rows.laid_strconv_ErrRange), ("strconv.ErrSyntax", Rows.laid_strconv_ErrSyntax)]) W := hL.tail.tail
  have ht := Lib.tabIs_of_head (P := Tryd.prog) (g := 3) (t := 147) (e := 125) (n := 20) (by kernel_rfl) (by kernel_rfl) (by kernel_rfl) (by kernel_rfl) (by kernel_rfl) (by kernel_rfl) h3
  have h4 := h3.tail
  obtain ⟨a1, s1, hv1, -, -, -⟩ := laid_sentinel (g := 2) (ti := 97) (tp := 168) (te := 170) (ts := 9) h4 (by kernel_rfl) (by kernel_rfl) Tryd.underlying97 errRow Tryd.underlying168 Tryd.underlying170 rfl rfl Tryd.underlying9 (by kernel_rfl) (by kernel_rfl)
  obtain ⟨a0, s0, hv0, -, -, -⟩ := laid_sentinel (g := 1) (ti := 97) (tp := 168) (te := 170) (ts := 9) h4.tail (by kernel_rfl) (by kernel_rfl) Tryd.underlying97 errRow Tryd.underlying168 Tryd.underlying170 rfl rfl Tryd.underlying9 (by kernel_rfl) (by kernel_rfl)
  intro g hg
  have hg : g ∈ [(1, isIfc), (2, isIfc), (3, isTab)] := hg
  simp only [List.mem_cons, List.not_mem_nil, or_false] at hg
  rcases hg with rfl | rfl | rfl
  · obtain ⟨h1, el, fr, h2⟩ := heap_of_var (P := Tryd.prog) (by kernel_rfl) hv0
    exact ⟨h1, _, el, fr, h2, _, _, rfl⟩
  · obtain ⟨h1, el, fr, h2⟩ := heap_of_var (P := Tryd.prog) (by kernel_rfl) hv1
    exact ⟨h1, _, el, fr, h2, _, _, rfl⟩
  · obtain ⟨h1, el, fr, h2⟩ := heap_of_var (P := Tryd.prog) (by kernel_rfl) ht
    exact ⟨h1, _, el, fr, h2, rfl⟩

end Go.Proofs.YtkchfbnkdpdbkaaDoor.Hx
