/-
  The contracts of the document's own Text and Check.
-/
import Derived.Test.YtlogcpcdkhmjoaaDoorOcText
set_option linter.unusedVariables false
set_option linter.unusedSectionVars false
namespace Go.Proofs.YtlogcpcdkhmjoaaDoor.Oc
open Go AL
section
variable [Globs]

theorem has0_iff (s : ByteArray) : has0 s ↔ ∃ i, i < s.size ∧ (intsOf s).getD i 0 = 0 := by
  have hlen : s.data.toList.length = s.size := rfl
  have hget : ∀ i : Nat, i < s.size → (s.data.toList[i]? = some 0 ↔ (intsOf s).getD i 0 = 0) := fun i hi => by
    unfold intsOf
    rw [List.getD_eq_getElem?_getD, List.getElem?_map, List.getElem?_eq_getElem (by omega)]
    simp only [Option.map_some, Option.getD_some, Option.some.injEq]
    constructor
    · intro e; rw [e]; rfl
    · intro e
      have : (s.data.toList[i]'(by omega)).toNat = 0 := by omega
      exact UInt8.toNat_inj.1 (by simpa using this)
  unfold has0
  constructor
  · intro h
    obtain ⟨o, ho⟩ : ∃ o : Nat, Lib.indexByte s.data.toList 0 = o := ⟨_, (Int.toNat_of_nonneg h).symm⟩
    have h1 := (Lib.indexByte_some ho).1
    have h2 : o < s.size := by have := (List.getElem?_eq_some_iff.1 h1).1; omega
    exact ⟨o, h2, (hget o h2).1 h1⟩
  · rintro ⟨i, hi, e⟩
    have hge := Lib.indexByte_ge s.data.toList 0
    by_cases h1 : Lib.indexByte s.data.toList 0 = -1
    · exact absurd ((hget i hi).2 e) (Lib.indexByte_none h1 i)
    · omega

set_option maxHeartbeats 1000000 in
set_option maxRecDepth 10000 in
theorem text_ref (s : ByteArray) (w : Int) (hs : s.size ≤ 9223372036854775806) : ACalls Tryd.prog 13 [str s, int .i64 w] [] (TextR s w) := by
  refine rcalls Tryd.func13 rfl (by decide) ?_
  have bad : ∀ h e, e ≠ 0 → textE s w = e → ∃ l h1 b, LeH 0 h l h1 ∧ LeV h l (.tup 2 fun i => [.raw (.slice none 0 0), int .i64 e].getD i .top) b ∧ TextR s w b h1 := fun h e he hv =>
    ⟨[], [], _, lehN _, le_pair (.nilI .u8) (leI hv.symm), by unfold TextR textR; rw [hv, if_neg he]; exact ⟨rfl, rfl⟩⟩
  refine ⟨fun h => bad _ _ (by decide) ?_, fun h => ⟨fun h1 => bad _ _ (by decide) ?_, fun h1 => ?_⟩⟩
  · have := yes h; simp [textE, this]
  · have := yes h1; simp [textE]; omega
  have hok : ¬ (w < 1 ∨ w > 255) := by have := no h; have := no h1; omega
  have hil := intsOf_length s
  refine ⟨Nat, fun k => [(0, str s), (1, int .i64 w), (6, int .i64 k)], fun _ => [], fun k => k ≤ s.size ∧ ∀ i, i < k → (intsOf s).getD i 0 ≠ 0, fun k => s.size - k,
    ⟨0, [], ⟨Nat.zero_le _, fun i hi => absurd hi (Nat.not_lt_zero _)⟩, leh0, ⟨leS rfl, leI rfl, leI rfl, trivial⟩⟩, ?_⟩
  rintro k ⟨hk, hnz⟩
  refine ⟨fun h2 => ⟨⟨by omega, by have := yes h2; omega⟩, fun h3 => bad _ _ (by decide) ?_, fun h3 => ?_⟩, fun h2 => ?_⟩
  · have f2 := yes h2
    have f3 : (intsOf s).getD k 0 = 0 := by simpa using yes h3
    have h4 : has0 s := (has0_iff s).2 ⟨k, by omega, f3⟩
    simp only [textE, hok, if_false, h4, if_true]
  · have f2 := yes h2
    have f3 : ¬ (intsOf s).getD k 0 = 0 := by simpa using no h3
    have e1 : IntKind.i64.wrap ((k : Int) + 1) = ((k + 1 : Nat) : Int) := by rw [w64 (by omega) (by omega)]; omega
    refine ⟨trivial, k + 1, [], ⟨by omega, fun i hi => ?_⟩, by show s.size - (k + 1) < s.size - k; omega, leh0, ⟨leS rfl, leI rfl, leI e1, trivial⟩⟩
    rcases Nat.lt_or_ge i k with h5 | h5
    · exact hnz i h5
    · rw [show i = k by omega]; exact f3
  have f2 := no h2
  obtain rfl : k = s.size := by omega
  have h4 : ¬ has0 s := fun h4 => by
    obtain ⟨i, hi, e⟩ := (has0_iff s).1 h4
    exact hnz i hi e
  refine ⟨fun h3 => bad _ _ (by decide) ?_, fun h3 => ?_⟩
  · have := yes h3
    simp only [textE, hok, if_false, h4]
    rw [if_pos (by omega)]
  have h5 := no h3
  have hE : textE s w = 0 := by
    simp only [textE, hok, if_false, h4]
    rw [if_neg (by omega)]
  have hR : textR s w = intsOf s ++ List.replicate (w.toNat - s.size) 0 := by rw [textR, if_pos hE]
  unfold TextR
  generalize textE s w = E at *
  generalize textR s w = R at *
  refine ⟨Nat, fun j => [(1, int .i64 w), (7, .own 0 0 (s.size + j) 1)], fun j => [.ints .u8 (intsOf s ++ List.replicate j 0)], fun j => s.size + j ≤ w.toNat, fun j => w.toNat - j,
    ⟨0, [0], by omega, leh1 rfl (leOint (by simp)), ⟨leI rfl, leOwn rfl rfl rfl, trivial⟩⟩, fun j hj => ?_⟩
  have hj : s.size + j ≤ w.toNat := hj
  have hl : (intsOf s ++ List.replicate j (0 : Int)).length = s.size + j := by simp; omega
  refine ⟨fun h6 => ?_, fun h6 => ?_⟩
  · have f6 : ((s.size + j : Nat) : Int) < w := yes h6
    refine ⟨hl.symm, by decide, by rw [hl]; show (s.size + j + 1) * 1 ≤ _; omega, ?_⟩
    refine ⟨trivial, j + 1, [2], by show s.size + (j + 1) ≤ w.toNat; omega, by show w.toNat - (j + 1) < w.toNat - j; omega, leh1 rfl (leOint ?_), ⟨leI rfl, leOwn rfl rfl ?_, trivial⟩⟩
    · rw [List.replicate_succ', ← List.append_assoc]; rfl
    · show (intsOf s ++ List.replicate j (0 : Int)).length + 1 = _; rw [hl]; omega
  · have f6 : ¬ ((s.size + j : Nat) : Int) < w := no h6
    refine ⟨[], [], _, lehN _, le_pair (.giveI R rfl (by simp) (by rw [hl]; omega) ?_) (leI hE.symm), rfl, rfl⟩
    rw [hR, List.drop_zero, List.take_of_length_le (by omega), show j = w.toNat - s.size by omega]

set_option maxHeartbeats 1000000 in
set_option maxRecDepth 10000 in
theorem check_ref (xs : List Int) (hx : ∀ x ∈ xs, 0 ≤ x ∧ x < 256) (hl : xs.length ≤ 281474976710656) : ACalls Tryd.prog 17 [.roI .u8 xs] [] (fun r h => r = int .i64 (chk xs xs.length) ∧ h = []) := by
  refine rcalls Tryd.func17 rfl (by decide) ?_
  refine ⟨Nat, fun k => [(0, .roI .u8 xs), (4, int .i64 k), (3, int .i64 (chk xs k))], fun _ => [], fun k => k ≤ xs.length, fun k => xs.length - k,
    ⟨0, [], Nat.zero_le _, leh0, ⟨leRo rfl, leI rfl, leI rfl, trivial⟩⟩, fun k hk => ?_⟩
  have hk : k ≤ xs.length := hk
  have hr := chk_range hx k
  refine ⟨fun h => ?_, fun h => ?_⟩
  · have hlt : k < xs.length := by have := yes h; omega
    have hb := byteAt hx k
    have e1 : IntKind.i64.wrap ((k : Int) + 1) = ((k + 1 : Nat) : Int) := by rw [w64 (by omega) (by omega)]; omega
    have plain : ¬ (148 ≤ k ∧ k < 156) → IntKind.i64.wrap (chk xs k + IntKind.i64.wrap (xs.getD k 0)) = chk xs (k + 1) := fun hn => by
      have : chk xs (k + 1) = chk xs k + xs.getD k 0 := by simp only [chk, chkAt]; rw [if_neg hn]
      rw [this, w64 (n := xs.getD k 0) (by omega) (by omega), w64 (by omega) (by omega)]
    refine ⟨fun h1 => ⟨fun h2 => ?_, fun h2 => ?_⟩, fun h1 => ?_⟩
    · have f1 := yes h1
      have f2 := yes h2
      refine ⟨trivial, k + 1, [], hlt, by show xs.length - (k + 1) < xs.length - k; omega, leh0, ⟨leRo rfl, leI e1, leI ?_, trivial⟩⟩
      have : chk xs (k + 1) = chk xs k + 32 := by simp only [chk, chkAt]; rw [if_pos (by omega)]
      rw [this, w64 (by omega) (by omega)]
    · have f2 := no h2
      refine ⟨⟨by omega, by omega⟩, ?_⟩
      exact ⟨trivial, k + 1, [], hlt, by show xs.length - (k + 1) < xs.length - k; omega, leh0, ⟨leRo rfl, leI e1, leI (plain (by omega)), trivial⟩⟩
    · have f1 := no h1
      refine ⟨⟨by omega, by omega⟩, ?_⟩
      exact ⟨trivial, k + 1, [], hlt, by show xs.length - (k + 1) < xs.length - k; omega, leh0, ⟨leRo rfl, leI e1, leI (plain (by omega)), trivial⟩⟩
  · have : k = xs.length := by have := no h; omega
    subst this
    exact ⟨[], [], _, leh0, leI rfl, rfl, rfl⟩

end

end Go.Proofs.YtlogcpcdkhmjoaaDoor.Oc
