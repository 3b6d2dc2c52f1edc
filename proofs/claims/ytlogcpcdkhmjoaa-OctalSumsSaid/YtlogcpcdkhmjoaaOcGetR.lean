/-
  The contract of the reference of octal.Get.
-/
import Derived.Test.YtlogcpcdkhmjoaaOcGet
set_option linter.unusedVariables false
namespace Go.Proofs.Ytlogcpcdkhmjoaa.Oc
open Go AL

set_option maxHeartbeats 1000000 in
set_option maxRecDepth 10000 in
theorem get_ref (xs : List Int) (hx : ∀ x ∈ xs, 0 ≤ x ∧ x < 256) (hl : xs.length ≤ 9223372036854775807) : ACalls Try.prog 11 [.roI .u8 xs] [] (GetR xs) := by
  refine acalls Try.func11 rfl (by decide) ?_
  have bad : ∀ h, ¬ valid xs → ∃ l h1 b, LeH 0 h l h1 ∧ LeV h l (.tup 2 fun i => [int .i64 0, int .i64 2].getD i .top) b ∧ GetR xs b h1 := fun h hv =>
    ⟨[], [], _, lehN _, le_pair (leI (get_no hv).1.symm) (leI (get_no hv).2.symm), rfl, rfl⟩
  -- behind the loop
  have back : ∀ k : Nat, k ≤ 12 → (xs.length - 1 ≤ k ∨ k = 12) → (k + 1 ≤ xs.length ∨ k = 0) → putE (acr xs k) xs.length = 0 → putR (acr xs k) xs.length = xs → valid xs ∧ acr xs k = acc xs (xs.length - 1) := fun k hk1 hk2 hk3 he hr => by
    have hf := put_field he
    rw [hr] at hf
    refine ⟨hf.2.1, ?_⟩
    have hkl : k = xs.length - 1 := by have := hf.2.1.1; have := hf.2.1.2.1; omega
    subst hkl
    exact hf.2.2.symm
  have forth : ∀ k : Nat, k ≤ 12 → (xs.length - 1 ≤ k ∨ k = 12) → (k + 1 ≤ xs.length ∨ k = 0) → valid xs → putE (acr xs k) xs.length = 0 ∧ putR (acr xs k) xs.length = xs ∧ acr xs k = getV xs := fun k hk1 hk2 hk3 hv => by
    have hkl : k = xs.length - 1 := by have := hv.1; have := hv.2.1; omega
    subst hkl
    have := put_back hv
    rw [acr_eq hv.2.2.2]
    exact ⟨this.1, this.2, (get_ok hv).1.symm⟩
  refine ⟨Nat, fun k => [(0, .roI .u8 xs), (4, int .i64 (acr xs k)), (5, int .i64 k)], fun _ => [], fun k => k ≤ 12 ∧ (k + 1 ≤ xs.length ∨ k = 0), fun k => 12 - k,
    ⟨0, [], ⟨by omega, .inr rfl⟩, leh0, ⟨leRo rfl, leI rfl, leI rfl, trivial⟩⟩, fun k hk => ?_⟩
  obtain ⟨hk12, hk⟩ := hk
  have hr := acr_range hx k
  have hp := pow8_mono hk12
  have e1 : IntKind.i64.wrap ((k : Int) + 1) = (k : Int) + 1 := w64 (by omega) (by omega)
  refine ⟨fun h => ⟨fun h1 => ?_, fun h1 => ?_⟩, fun h => ?_⟩
  · have f1 := yes h
    have f2 := yes h1
    rw [e1] at f1
    refine ⟨⟨by omega, by omega⟩, by decide, ?_⟩
    have hb := byteAt hx k
    have e2 : (xs.getD (k : Int).toNat 0).tmod 8 = xs.getD k 0 % 8 := Int.tmod_eq_emod_of_nonneg hb.1
    have hp2 := pow8_mono (show k ≤ 11 by omega)
    refine ⟨trivial, k + 1, [], ⟨by omega, by omega⟩, by show 12 - (k + 1) < 12 - k; omega, leh0, ⟨leRo rfl, leI ?_, leI e1, trivial⟩⟩
    rw [e2, w64 (n := 8 * acr xs k) (by omega) (by omega), w64 (n := xs.getD k 0 % 8) (by omega) (by omega), w64 (by omega) (by omega)]
    rfl
  all_goals
    have hk2 : xs.length - 1 ≤ k ∨ k = 12 := by
      first
        | (have := no h1; omega)
        | (have := no h; rw [e1] at this; omega)
    refine ⟨[], PutR (acr xs k) xs.length, put_ref _ _ (by omega), ?_⟩
    rintro r h' ⟨rfl, rfl⟩
    refine ⟨.inl rfl, ?_⟩
    refine ⟨fun h2 => bad _ fun hv => ?_, fun h2 => ⟨fun h3 => bad _ fun hv => ?_, fun h3 => ?_⟩⟩
    · exact yes h2 (forth k hk12 hk2 hk hv).1
    · exact yes h3 (by rw [(forth k hk12 hk2 hk hv).2.1])
    · have g1 : putE (acr xs k) xs.length = 0 := by simpa using no h2
      have g2 : bytesOf (putR (acr xs k) xs.length) = bytesOf xs := by simpa using no h3
      have g3 := back k hk12 hk2 hk g1 (bytesOf_inj (putR_range _ _) hx g2)
      exact ⟨[], [], _, lehN _, le_pair (leI (g3.2.trans (get_ok g3.1).1.symm)) (leI (get_ok g3.1).2.symm), rfl, rfl⟩

end Go.Proofs.Ytlogcpcdkhmjoaa.Oc
