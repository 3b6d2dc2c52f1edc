/-
  The document's disk: what a deed does.
-/
import Derived.Test.YtflclafbieokiaaDkR2
set_option linter.unusedVariables false
set_option linter.unusedSectionVars false
namespace Go.Proofs.Ytflclafbieokiaa.Dk
open Go AL Us

theorem withR_len (s : ByteArray) (v : List Int) (L : List Fl) : (withR s v L).length ≤ L.length + 1 := by
  rw [(withR_perm s v L).length_eq, List.length_cons]
  have := without_len s L
  omega
theorem actR_len (d : Dee) (L : List Fl) : (actR d L).length ≤ L.length + 1 := by
  cases d with
  | wr n b => exact withR_len n b L
  | mv a t =>
    refine Nat.le_trans (withR_len ..) ?_
    have := without_len a L
    omega
  | rm a =>
    have := without_len a L
    exact Nat.le_trans this (Nat.le_succ _)
section
variable [Globs]

set_option maxRecDepth 10000 in
theorem done_r (L : List Fl) (e : De4) (hl : L.length ≤ 999999) : ACalls Try.prog 50 [flsV L, de4V e] [] (fun r h => r = flsV (actR (toDee e) L) ∧ h = []) := by
  obtain ⟨k, n, t, b⟩ := e
  have hg := get_r L n (by omega)
  have hw := with_r L n b (by omega)
  have hwo := without_r L n (by omega)
  have hlen := without_len n L
  have hw2 := with_r (withoutR n L) t ((getR n L).getD []) (by omega)
  have e1 : k = 1 → actR (toDee ⟨k, n, t, b⟩) L = withR n b L := fun h => by unfold toDee; rw [if_pos h]; rfl
  have e2 : k = 2 → actR (toDee ⟨k, n, t, b⟩) L = withR t ((getR n L).getD []) (withoutR n L) := fun h => by unfold toDee; rw [if_neg (by show ¬ k = 1; omega), if_pos h]; rfl
  have e3 : k ≠ 1 → k ≠ 2 → actR (toDee ⟨k, n, t, b⟩) L = withoutR n L := fun h g => by unfold toDee; rw [if_neg h, if_neg g]; rfl
  obtain ⟨A, hA⟩ : ∃ A, actR (toDee ⟨k, n, t, b⟩) L = A := ⟨_, rfl⟩
  rw [hA] at e1 e2 e3 ⊢
  generalize (getR n L).getD [] = G at *
  generalize (getR n L).isSome = B at *
  generalize withoutR n L = M at *
  refine rcalls Try.func50 rfl (by decide) ?_
  refine ⟨fun c => ?_, fun c => ?_⟩
  · have f1 : k = 1 := yes c
    refine ⟨[], _, hw, ?_⟩
    rintro r hh ⟨rfl, rfl⟩
    refine ⟨.inl rfl, ?_⟩
    exact ⟨[], [], _, lehN _, .same _ trivial, by rw [e1 f1], rfl⟩
  have f1 : ¬ k = 1 := no c
  refine ⟨fun c => ?_, fun c => ?_⟩
  · have f2 : k = 2 := yes c
    refine ⟨[], _, hg, ?_⟩
    rintro r hh ⟨rfl, rfl⟩
    refine ⟨.inl rfl, ?_⟩
    refine .inr ⟨7, by decide +kernel, ?_⟩
    refine ⟨_, rfl, ?_⟩
    refine ⟨_, rfl, ?_⟩
    refine ⟨_, rfl, ?_⟩
    refine ⟨_, ⟨[], _, hwo, by rintro r h ⟨rfl, rfl⟩; exact ⟨.inl rfl, rfl, rfl⟩⟩, ?_⟩
    refine ⟨_, rfl, ?_⟩
    refine ⟨_, rfl, ?_⟩
    refine ⟨_, rfl, ?_⟩
    refine ⟨[], _, hw2, ?_⟩
    rintro r hh ⟨rfl, rfl⟩
    refine ⟨.inl rfl, ?_⟩
    exact ⟨[], [], _, lehN _, .same _ trivial, by rw [e2 f2], rfl⟩
  have f2 : ¬ k = 2 := no c
  refine ⟨[], _, hwo, ?_⟩
  rintro r hh ⟨rfl, rfl⟩
  refine ⟨.inl rfl, ?_⟩
  exact ⟨[], [], _, lehN _, .same _ trivial, by rw [e3 f1 f2], rfl⟩
end
end Go.Proofs.Ytflclafbieokiaa.Dk
