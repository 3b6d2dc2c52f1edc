/-
  The program's disk: files renamed, removed, synced; a new disk.
-/
import Derived.Test.YtflclafbieokiaaDkQ2
set_option linter.unusedVariables false
set_option linter.unusedSectionVars false
set_option linter.unusedSimpArgs false
namespace Go.Proofs.Ytflclafbieokiaa.Dk
open Go AL Us
section
variable [Globs]

theorem vsole {f g : Nat → AV} (h0 : VLe (f 0) (g 0)) : ∀ i, i < 1 → VLe (f i) (g i) := fun i hi => by
  obtain rfl : i = 0 := by omega
  exact h0
theorem sole {f : Nat → AV} (h0 : (f 0).free) : ∀ i, i < 1 → (f i).free := fun i hi => by
  obtain rfl : i = 0 := by omega
  exact h0


set_option maxHeartbeats 1000000 in
set_option maxRecDepth 10000 in
theorem rename_p (d : DkF) (a t : ByteArray) (hl : d.deeds.length ≤ 100000) :
    ACalls Try.prog 20 [.ptr 0 0, str a, str t] (dkH d) (doneP d (.mv a t)) := by
  have hm := may_p t
  have hh := has_p d a
  have hn := note_mv d a t hl
  have he : errF d (.mv a t) = if ¬ mayN t then 1 else if getF a d.now = none then 6 else 0 := rfl
  unfold doneP
  generalize errF d (.mv a t) = E at *
  generalize getF a d.now = G at *
  refine rcalls Try.func20 rfl (by decide) ?_
  refine ⟨[], _, hm, ?_⟩
  rintro r hh ⟨rfl, rfl⟩
  refine ⟨.inl rfl, ?_⟩
  refine ⟨fun c => ?_, fun c => ?_⟩
  · have f1 : ¬ mayN t := of_decide_eq_false (by revert c; cases decide (mayN t) <;> simp)
    rw [if_pos f1] at he
    exact ⟨[0, 1, 2, 3], dkH d, _, lehDk rfl rfl rfl rfl rfl rfl rfl rfl, leI rfl, .inr ⟨by omega, by rw [he], rfl⟩⟩
  have f1 : mayN t := of_decide_eq_true (by revert c; cases decide (mayN t) <;> simp)
  rw [if_neg (fun h => h f1)] at he
  refine ⟨[0, 1, 2, 3], _, (by (try simp only [ren_fmV]); exact fmVFree _), (by (try simp only [ren_fmV]); exact fmVFree _), (by (try simp only [ren_rowP]); exact fun i _ => rowPFree _ i), at_h ?_ (hh), ?_⟩
  · exact dkH_eq (by first | simp only [ren_fmV] | rfl) (by first | simp only [ren_fmV] | rfl) (by first | simp only [ren_rowP] | rfl)
  rintro r hh ⟨rfl, rfl⟩
  refine ⟨.inl rfl, ?_⟩
  refine ⟨fun c => ?_, fun c => ?_⟩
  · have f2 : G = none := by revert c; cases G <;> simp
    rw [if_pos f2] at he
    exact ⟨[0, 1, 2, 3], dkH d, _, lehDk rfl rfl rfl rfl (by simp only [ren_fmV]) (by simp only [ren_fmV]) rfl (by simp only [ren_rowP]), leI rfl, .inr ⟨by omega, by rw [he], rfl⟩⟩
  have f2 : ¬ G = none := by revert c; cases G <;> simp
  rw [if_neg f2] at he
  refine ⟨[0, 1, 2, 3, 1004, 1005], _, (by (try simp only [ren_fmV]); exact fmVFree _), (by (try simp only [ren_fmV]); exact fmVFree _), (by (try simp only [ren_rowP]); exact fun i _ => rowPFree _ i), fourF (two trivial trivial) trivial trivial trivial, at_h ?_ (hn.args ⟨VLe.refl _, vagg (vfour (vclo (vtwo (vone (VLe.refl _)) (vone (VLe.refl _)))) (VLe.refl _) (VLe.refl _) vnilI), trivial⟩), ?_⟩
  · exact dkH_eq (by simp only [ren_fmV]) (by simp only [ren_fmV]) (by simp only [ren_rowP])
  rintro r hh ⟨rfl, rfl⟩
  refine ⟨.inl rfl, ?_⟩
  exact ⟨[0, 1, 2, 3, 6], dkN (noteF d (.mv a t)), _, leh_rel (Nat.le_of_ble_eq_true rfl) (first4 rfl rfl rfl rfl) (by decide)
    ⟨⟨_, rfl, leDkA rfl rfl rfl rfl rfl⟩, ⟨_, rfl, leMap (by simp only [ren_fmV])⟩, ⟨_, rfl, leMap (by simp only [ren_fmV])⟩, ⟨_, rfl, .dead _⟩, ⟨_, rfl, leRowQ rfl (by simp only [ren_rowP])⟩, trivial⟩, leI rfl, .inl ⟨he, rfl, rfl⟩⟩

set_option maxHeartbeats 1000000 in
set_option maxRecDepth 10000 in
theorem remove_p (d : DkF) (a : ByteArray) (hl : d.deeds.length ≤ 100000) :
    ACalls Try.prog 22 [.ptr 0 0, str a] (dkH d) (doneP d (.rm a)) := by
  have hh := has_p d a
  have hn := note_rm d a hl
  have he : errF d (.rm a) = if getF a d.now = none then 6 else 0 := rfl
  unfold doneP
  generalize errF d (.rm a) = E at *
  generalize getF a d.now = G at *
  refine rcalls Try.func22 rfl (by decide) ?_
  refine ⟨[0, 1, 2, 3], _, (by (try simp only [ren_fmV]); exact fmVFree _), (by (try simp only [ren_fmV]); exact fmVFree _), (by (try simp only [ren_rowP]); exact fun i _ => rowPFree _ i), at_h ?_ (hh), ?_⟩
  · exact dkH_eq (by first | simp only [ren_fmV] | rfl) (by first | simp only [ren_fmV] | rfl) (by first | simp only [ren_rowP] | rfl)
  rintro r hh ⟨rfl, rfl⟩
  refine ⟨.inl rfl, ?_⟩
  refine ⟨fun c => ?_, fun c => ?_⟩
  · have f2 : G = none := by revert c; cases G <;> simp
    rw [if_pos f2] at he
    exact ⟨[0, 1, 2, 3], dkH d, _, lehDk rfl rfl rfl rfl (by simp only [ren_fmV]) (by simp only [ren_fmV]) rfl (by simp only [ren_rowP]), leI rfl, .inr ⟨by omega, by rw [he], rfl⟩⟩
  have f2 : ¬ G = none := by revert c; cases G <;> simp
  rw [if_neg f2] at he
  refine ⟨[0, 1, 2, 3, 1004], _, (by (try simp only [ren_fmV]); exact fmVFree _), (by (try simp only [ren_fmV]); exact fmVFree _), (by (try simp only [ren_rowP]); exact fun i _ => rowPFree _ i), fourF (sole trivial) trivial trivial trivial, at_h ?_ (hn.args ⟨VLe.refl _, vagg (vfour (vclo (vsole (vone (VLe.refl _)))) (VLe.refl _) (VLe.refl _) vnilI), trivial⟩), ?_⟩
  · exact dkH_eq (by simp only [ren_fmV]) (by simp only [ren_fmV]) (by simp only [ren_rowP])
  rintro r hh ⟨rfl, rfl⟩
  refine ⟨.inl rfl, ?_⟩
  exact ⟨[0, 1, 2, 3, 5], dkN (noteF d (.rm a)), _, leh_rel (Nat.le_of_ble_eq_true rfl) (first4 rfl rfl rfl rfl) (by decide)
    ⟨⟨_, rfl, leDkA rfl rfl rfl rfl rfl⟩, ⟨_, rfl, leMap (by simp only [ren_fmV])⟩, ⟨_, rfl, leMap (by simp only [ren_fmV])⟩, ⟨_, rfl, .dead _⟩, ⟨_, rfl, leRowQ rfl (by simp only [ren_rowP])⟩, trivial⟩, leI rfl, .inl ⟨he, rfl, rfl⟩⟩
end
end Go.Proofs.Ytflclafbieokiaa.Dk
