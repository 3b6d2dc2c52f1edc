/-
  The contracts of a digest's text: hexa.Text and the document's own.
-/
import Derived.Test.YtlogcpcdkhmjoaaDoorHxD
import Derived.Test.YtlogcpcdkhmjoaaDoorAlRec
import Derived.Test.YtlogcpcdkhmjoaaDoorProg
set_option linter.unusedVariables false
set_option linter.unusedSectionVars false
namespace Go.Proofs.YtlogcpcdkhmjoaaDoor.Hx
open Go AL
theorem take_snoc' {xs : List Int} {k : Nat} (h : k < xs.length) : xs.take (k + 1) = xs.take k ++ [xs.getD k 0] := by
  rw [List.take_succ_eq_append_getElem h, List.getD_eq_getElem?_getD, List.getElem?_eq_getElem h]
  rfl
section
variable [Globs]

set_option maxHeartbeats 1000000 in
set_option maxRecDepth 10000 in
theorem figure_prog (n : Int) (h0 : 0 ≤ n) (h1 : n < 16) : ACalls Tryd.prog 33 [int .u8 n] [] (fun r h => r = int .u8 (fig n) ∧ h = []) := by
  have e : fig n = if n < 10 then 48 + n else 87 + n := rfl
  generalize fig n = F at *
  refine rcalls Tryd.func33 rfl (by decide) ?_
  refine ⟨fun c => ?_, fun c => ?_⟩
  · have := yes c
    rw [if_pos this] at e
    exact ⟨[], [], _, leh0, leI (by rw [w8 (by omega) (by omega)]; exact e.symm), rfl, rfl⟩
  · have := no c
    rw [if_neg this] at e
    exact ⟨[], [], _, leh0, leI (by rw [w8 (by omega) (by omega)]; exact e.symm), rfl, rfl⟩

theorem fdiv16 {c : Int} (h0 : 0 ≤ c) : c.fdiv (2 ^ (min (4 : Int).toNat IntKind.u8.bits)) = c / 16 := by
  have : (2 : Int) ^ (min (4 : Int).toNat IntKind.u8.bits) = 16 := by decide
  rw [this, Int.fdiv_eq_ediv_of_nonneg _ (by decide)]

set_option maxHeartbeats 1000000 in
set_option maxRecDepth 10000 in
theorem text_prog (xs : List Int) (hl : xs.length = 32) (hx : ∀ x ∈ xs, 0 ≤ x ∧ x < 256) : ACalls Tryd.prog 23 [.aggI .u8 xs] [] (fun r h => r = str (textS xs) ∧ h = []) := by
  have hT : textS xs = bytesOf (hexL xs) := rfl
  generalize textS xs = T at *
  refine rcalls Tryd.func23 rfl (by decide) ?_
  refine ⟨hl.symm, ?_⟩
  refine ⟨by rw [hl]; decide, ?_⟩
  refine ⟨Nat, fun k => [(6, .aggI .u8 xs), (7, int .i64 k), (3, .own 0 0 (2 * k) 1)], fun k => [.ints .u8 (hexL (xs.take k))], fun k => k ≤ 32, fun k => 32 - k,
    ⟨0, [1], by omega, lehE (by simp) .u8, ⟨by rw [List.drop_zero, List.take_of_length_le (by rw [hl]; decide)]; exact .aggI _ _, leI rfl, .nil _ _ (by simp), trivial⟩⟩, ?_⟩
  intro k hk
  have hk : k ≤ 32 := hk
  refine ⟨fun c1 => ?_, fun c1 => ?_⟩
  · have f1 : (k : Int) < 32 := yes c1
    have hb := byteAt hx k
    refine ⟨⟨by omega, f1⟩, by omega, ?_⟩
    have hin : ((k : Int)).toNat = k := by omega
    have hlen : (hexL (xs.take k)).length = 2 * k := by rw [hexL_length]; simp; omega
    refine .inr ⟨8, by decide +kernel, ?_⟩
    refine ⟨_, rfl, ?_⟩
    refine ⟨_, rfl, ?_⟩
    refine ⟨_, ⟨by decide, rfl⟩, ?_⟩
    refine ⟨_, ⟨⟨by rw [hin, fdiv16 hb.1]; omega, by rw [hin, fdiv16 hb.1]; show _ < (16 : Int); omega⟩, rfl⟩, ?_⟩
    refine ⟨_, rfl, ?_⟩
    refine ⟨_, rfl, ?_⟩
    refine ⟨_, ⟨⟨by rw [hin, and_low' hb.1 hb.2]; omega, by rw [hin, and_low' hb.1 hb.2]; show _ < (16 : Int); omega⟩, rfl⟩, ?_⟩
    refine ⟨_, rfl, ?_⟩
    refine ⟨hlen.symm, ?_⟩
    refine ⟨by rw [hlen]; show (2 * k + 2) * 1 ≤ _; omega, ?_⟩
    have e1 : IntKind.i64.wrap ((k : Int) + 1) = ((k + 1 : Nat) : Int) := by rw [w64 (by omega) (by omega)]; omega
    refine ⟨trivial, k + 1, [1], by omega, by show 32 - (k + 1) < 32 - k; omega, leh1 rfl (leOint ?_), ⟨.aggI _ _, leI e1, leOwn rfl rfl ?_, trivial⟩⟩
    · rw [take_snoc' (by omega), hexL_snoc]
      congr 1
      show [_, _] = [_, _]
      have g1 := figs_get' (q := xs.getD k 0 / 16) (by omega) (by omega)
      have g2 := figs_get' (q := xs.getD k 0 % 16) (by omega) (by omega)
      rw [hin, fdiv16 hb.1, and_low' hb.1 hb.2, ← g1, ← g2]
      rfl
    · show (hexL (xs.take k)).length + 2 = _; rw [hlen]; omega
  · have f1 : ¬ (k : Int) < 32 := no c1
    obtain rfl : k = 32 := by omega
    have ht : xs.take 32 = xs := List.take_of_length_le (by omega)
    refine ⟨by rw [hexL_length]; simp; omega, ?_⟩
    refine ⟨[], [], _, lehN _, leS ?_, rfl, rfl⟩
    rw [ht, hT, List.drop_zero, List.take_of_length_le (by rw [hexL_length]; omega)]

set_option maxHeartbeats 1000000 in
set_option maxRecDepth 10000 in
theorem text_ref (xs : List Int) (hl : xs.length = 32) (hx : ∀ x ∈ xs, 0 ≤ x ∧ x < 256) : ACalls Tryd.prog 24 [.aggI .u8 xs] [] (fun r h => r = str (textS xs) ∧ h = []) := by
  have hT : textS xs = bytesOf (hexL xs) := rfl
  generalize textS xs = T at *
  refine rcalls Tryd.func24 rfl (by decide) ?_
  refine ⟨hl.symm, ?_⟩
  refine ⟨Nat, fun k => [(1, .ptr 0 0), (4, int .i64 k), (3, .own 1 0 (2 * k) 1)], fun k => [.ints .u8 xs, .ints .u8 (hexL (xs.take k))], fun k => k ≤ 32, fun k => 32 - k,
    ⟨0, [0, 1], by omega, leh1E rfl (leOint rfl) (by simp) .u8, ⟨.ptr _ rfl, leI rfl, .nil _ _ (by simp), trivial⟩⟩, ?_⟩
  intro k hk
  have hk : k ≤ 32 := hk
  refine ⟨fun c1 => ?_, fun c1 => ?_⟩
  · have f1 : (k : Int) < 32 := yes c1
    have hb := byteAt hx k
    have hin : ((k : Int)).toNat = k := by omega
    have hoff : addOff 0 ((k : Int)).toNat 1 = k := by simp [addOff]
    have hlen : (hexL (xs.take k)).length = 2 * k := by rw [hexL_length]; simp; omega
    have d1 : (xs.getD k 0).tdiv 16 = xs.getD k 0 / 16 := Int.tdiv_eq_ediv_of_nonneg hb.1
    have d2 : (xs.getD k 0).tmod 16 = xs.getD k 0 % 16 := Int.tmod_eq_emod_of_nonneg hb.1
    have q1 : IntKind.u8.wrap ((xs.getD (addOff 0 ((k : Int)).toNat 1) 0).tdiv 16) = xs.getD k 0 / 16 := by rw [hoff, d1, w8 (by omega) (by omega)]
    have q2 : (xs.getD (addOff 0 ((k : Int)).toNat 1) 0).tmod 16 = xs.getD k 0 % 16 := by rw [hoff, d2]
    have hc1 := figure_prog (IntKind.u8.wrap ((xs.getD (addOff 0 ((k : Int)).toNat 1) 0).tdiv 16)) (by rw [q1]; omega) (by rw [q1]; omega)
    have hc2 := figure_prog ((xs.getD (addOff 0 ((k : Int)).toNat 1) 0).tmod 16) (by rw [q2]; omega) (by rw [q2]; omega)
    have e3 : fig (IntKind.u8.wrap ((xs.getD (addOff 0 ((k : Int)).toNat 1) 0).tdiv 16)) = fig (xs.getD k 0 / 16) := by rw [q1]
    have e4 : fig ((xs.getD (addOff 0 ((k : Int)).toNat 1) 0).tmod 16) = fig (xs.getD k 0 % 16) := by rw [q2]
    generalize fig (IntKind.u8.wrap ((xs.getD (addOff 0 ((k : Int)).toNat 1) 0).tdiv 16)) = A1 at *
    generalize fig ((xs.getD (addOff 0 ((k : Int)).toNat 1) 0).tmod 16) = A2 at *
    refine .inr ⟨12, by decide +kernel, ?_⟩
    refine ⟨_, rfl, ?_⟩
    refine ⟨_, rfl, ?_⟩
    refine ⟨_, ⟨⟨by omega, f1⟩, rfl⟩, ?_⟩
    refine ⟨_, ⟨by rw [hoff]; omega, rfl⟩, ?_⟩
    refine ⟨_, ⟨by decide, rfl⟩, ?_⟩
    refine ⟨_, ⟨[], _, hc1, by rintro r h ⟨rfl, rfl⟩; exact ⟨.inl rfl, rfl, rfl⟩⟩, ?_⟩
    refine ⟨_, rfl, ?_⟩
    refine ⟨_, ⟨⟨by omega, f1⟩, rfl⟩, ?_⟩
    refine ⟨_, ⟨by rw [hoff]; omega, rfl⟩, ?_⟩
    refine ⟨_, ⟨by decide, rfl⟩, ?_⟩
    refine ⟨_, ⟨[], _, hc2, by rintro r h ⟨rfl, rfl⟩; exact ⟨.inl rfl, rfl, rfl⟩⟩, ?_⟩
    refine ⟨_, rfl, ?_⟩
    refine ⟨hlen.symm, ?_⟩
    refine ⟨by rw [hlen]; show (2 * k + 2) * 1 ≤ _; omega, ?_⟩
    have e1 : IntKind.i64.wrap ((k : Int) + 1) = ((k + 1 : Nat) : Int) := by rw [w64 (by omega) (by omega)]; omega
    refine ⟨trivial, k + 1, [0, 2], by omega, by show 32 - (k + 1) < 32 - k; omega, leh2 (by decide) rfl rfl (leOint rfl) (leOint ?_), ⟨.ptr _ rfl, leI e1, leOwn rfl rfl ?_, trivial⟩⟩
    · rw [take_snoc' (by omega), hexL_snoc, ← e3, ← e4]
    · show (hexL (xs.take k)).length + 2 = _; rw [hlen]; omega
  · have f1 : ¬ (k : Int) < 32 := no c1
    obtain rfl : k = 32 := by omega
    have ht : xs.take 32 = xs := List.take_of_length_le (by omega)
    refine ⟨by rw [hexL_length]; simp; omega, ?_⟩
    refine ⟨[], [], _, lehN _, leS ?_, rfl, rfl⟩
    rw [ht, hT, List.drop_zero, List.take_of_length_le (by rw [hexL_length]; omega)]

end
end Go.Proofs.YtlogcpcdkhmjoaaDoor.Hx
