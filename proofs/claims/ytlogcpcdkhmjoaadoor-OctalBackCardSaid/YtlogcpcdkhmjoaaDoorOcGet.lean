/-
  The contracts of octal.Get and of its reference.
-/
import Derived.Test.YtlogcpcdkhmjoaaDoorOcPut
set_option linter.unusedVariables false
set_option linter.unusedSectionVars false
namespace Go.Proofs.YtlogcpcdkhmjoaaDoor.Oc
open Go AL
section
variable [Globs]

def GetR (xs : List Int) (r : AV) (h : List AO) : Prop := r = .tup 2 (pair (int .i64 (getV xs)) (int .i64 (getE xs))) ∧ h = []

theorem sub8 {c : Int} (h0 : 48 ≤ c) (h1 : c < 56) : IntKind.u8.wrap (c - 48) = c - 48 := w8 (by omega) (by omega)

set_option maxHeartbeats 1000000 in
set_option maxRecDepth 10000 in
theorem get_prog (xs : List Int) (hx : ∀ x ∈ xs, 0 ≤ x ∧ x < 256) (hl : xs.length ≤ 9223372036854775807) : ACalls Tryd.prog 19 [.roI .u8 xs] [] (GetR xs) := by
  refine rcalls Tryd.func19 rfl (by decide) ?_
  have bad : ∀ h, ¬ valid xs → ∃ l h1 b, LeH 0 h l h1 ∧ LeV h l (.tup 2 fun i => [int .i64 0, int .i64 2].getD i .top) b ∧ GetR xs b h1 := fun h hv =>
    ⟨[], [], _, lehN _, le_pair (leI (get_no hv).1.symm) (leI (get_no hv).2.symm), rfl, rfl⟩
  refine ⟨fun h => bad _ fun hv => ?_, fun h => ⟨fun h1 => bad _ fun hv => ?_, fun h1 => ?_⟩⟩
  · have := yes h; have := hv.1; omega
  · have := yes h1; have := hv.2.1; omega
  have hl2 := no h
  have hl12 := no h1
  have e1 : IntKind.i64.wrap ((xs.length : Int) - 1) = (xs.length : Int) - 1 := w64 (by omega) (by omega)
  have e2 : ((xs.length : Int) - 1).toNat = xs.length - 1 := by omega
  refine ⟨⟨by rw [e1]; omega, by rw [e1]; omega⟩, ?_⟩
  refine ⟨fun h2 => bad _ fun hv => ?_, fun h2 => ?_⟩
  · have := yes h2; rw [e1, e2] at this; exact this hv.2.2.1
  have hlast : xs.getD (xs.length - 1) 0 = 0 := by
    have := no h2; rw [e1, e2] at this; simpa using this
  refine ⟨⟨by rw [e1]; omega, by rw [e1]; omega⟩, ?_⟩
  have hlen : ((xs.take (xs.length - 1)).drop 0).length = xs.length - 1 := by simp
  refine ⟨Nat, fun k => [(4, int .i64 (acc xs k)), (28, .roI .u8 (xs.take (xs.length - 1))), (29, int .i64 ((xs.length - 1 : Nat) : Int)), (30, int .i64 k)], fun _ => [], fun k => k ≤ xs.length - 1 ∧ ∀ i, i < k → figure (xs.getD i 0), fun k => xs.length - 1 - k,
    ⟨0, [], ⟨by omega, fun i hi => by omega⟩, leh0, ⟨leI rfl, leRo (by rw [e1, e2]; rfl), leI ?_, leI rfl, trivial⟩⟩, fun k hk => ?_⟩
  · rw [e1, e2, hlen]
  obtain ⟨hk, hfig⟩ := hk
  refine ⟨fun h3 => ?_, fun h3 => ?_⟩
  · have hlt : k < xs.length - 1 := by have := yes h3; omega
    have hg : (xs.take (xs.length - 1)).getD k 0 = xs.getD k 0 := by simp [List.getD_eq_getElem?_getD, List.getElem?_take_of_lt hlt]
    refine ⟨⟨by omega, by simp; omega⟩, ?_⟩
    have hc : (xs.take (xs.length - 1)).getD (k : Int).toNat 0 = xs.getD k 0 := hg
    refine ⟨fun h4 => bad _ fun hv => ?_, fun h4 => ⟨fun h5 => bad _ fun hv => ?_, fun h5 => ?_⟩⟩
    · have := yes h4; rw [hc] at this; have := (hv.2.2.2 k hlt).1; omega
    · have := yes h5; rw [hc] at this; have := (hv.2.2.2 k hlt).2; omega
    have f1 := no h4
    have f2 := no h5
    rw [hc] at f1 f2
    have hr := acc_range hfig
    have hp := pow8_mono (show k ≤ 11 by omega)
    refine ⟨trivial, k + 1, [], ⟨by omega, fun i hi => ?_⟩, by show xs.length - 1 - (k + 1) < xs.length - 1 - k; omega, leh0, ⟨leI ?_, leRo rfl, leI rfl, leI ?_, trivial⟩⟩
    · by_cases e : i < k
      · exact hfig i e
      · obtain rfl : i = k := by omega
        exact ⟨by omega, by omega⟩
    · rw [hc, sub8 (by omega) (by omega), w64 (n := 8 * acc xs k) (by omega) (by omega), w64 (n := xs.getD k 0 - 48) (by omega) (by omega), w64 (by omega) (by omega)]
      rfl
    · rw [w64 (by omega) (by omega)]; omega
  · have hk' : k = xs.length - 1 := by have := no h3; omega
    subst hk'
    have hv : valid xs := ⟨by omega, by omega, hlast, hfig⟩
    exact ⟨[], [], _, lehN _, le_pair (leI (get_ok hv).1.symm) (leI (get_ok hv).2.symm), rfl, rfl⟩

end

end Go.Proofs.YtlogcpcdkhmjoaaDoor.Oc
