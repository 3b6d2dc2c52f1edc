/-
  The laws of disks: the document's example.
-/
import Derived.Test.YtflclafbieokiaaDkL2
set_option linter.unusedVariables false
set_option linter.unusedSectionVars false
set_option linter.unusedSimpArgs false
namespace Go.Proofs.Ytflclafbieokiaa.Dk
open Go AL Us

abbrev nA : ByteArray := ⟨#[97]⟩
abbrev nB : ByteArray := ⟨#[98]⟩
theorem ltAB : ltS nA nB = true := by
  unfold ltS
  rw [Lib.toList_data, Lib.toList_data]
  decide
def exD0 : DkF := newF 100
def exD1 : DkF := noteF exD0 (.wr nA [120])
def exD2 : DkF := syncF exD1
def exD3 : DkF := noteF exD2 (.wr nB [121, 122])
def exD4 : DkF := noteF exD3 (.rm nA)
def exD5 : DkF := crashF exD4 1 0
theorem ex1 : errF exD0 (.wr nA [120]) = 0 := by decide
theorem ex2 : errF exD2 (.wr nB [121, 122]) = 0 := by decide
theorem ex3 : errF exD3 (.rm nA) = 0 := by decide
theorem ex5 : exD5.now = [(nA, [120]), (nB, [121, 122])] := by decide
theorem exR : RelF exD5.now [⟨nA, [120]⟩, ⟨nB, [121, 122]⟩] := by
  rw [ex5]
  exact ⟨by decide, List.pairwise_cons.2 ⟨fun f hf => (by rw [List.mem_singleton.1 hf]; exact ltAB), List.pairwise_singleton ..⟩, .refl _⟩
section
variable [Globs]

set_option maxHeartbeats 2000000 in
set_option maxRecDepth 10000 in
theorem dk_awake : ACalls Try.prog 9 [] [] (fun r h => r = .tt ∧ h = []) := by
  have h0 := new_p 100
  have h1 := write_p exD0 nA [120] (by decide) (by decide) (by decide)
  have h2 := sync_p exD1
  have h3 := write_p exD2 nB [121, 122] (by decide) (by decide) (by decide)
  have h4 := remove_p exD3 nA (by decide)
  have h5 := crash_p exD4 1 0 (by decide)
  have h6 := list_p exD5 exR.keys (fun p hp => by
    rw [ex5] at hp
    rcases List.mem_cons.1 hp with rfl | hp
    · decide
    · rw [List.mem_singleton.1 hp]; decide) (by decide)
  have h7 := size_p exD5 (by decide)
  have h8 := pending_p exD5
  have h6n : ∀ ns, NamesOf exD5.now ns → ns = [nA, nB] := fun ns h => names_are exR h
  have e1 := ex1
  have e2 := ex2
  have e3 := ex3
  have es : sizeF exD5.now = 3 := by decide
  have ed : exD5.deeds.length = 0 := by decide
  unfold doneP at h1 h3 h4
  rw [show noteF exD0 (.wr nA [120]) = exD1 from rfl] at h1
  rw [show syncF exD1 = exD2 from rfl] at h2
  rw [show noteF exD2 (.wr nB [121, 122]) = exD3 from rfl] at h3
  rw [show noteF exD3 (.rm nA) = exD4 from rfl] at h4
  rw [show crashF exD4 1 0 = exD5 from rfl] at h5
  rw [show newF 100 = exD0 from rfl] at h0
  rw [es] at h7
  generalize exD5 = D5 at *
  generalize exD4 = D4 at *
  generalize exD3 = D3 at *
  generalize exD2 = D2 at *
  generalize exD1 = D1 at *
  generalize exD0 = D0 at *
  refine rcalls Try.func9 rfl (by decide) ?_
  refine ⟨[], _, h0, ?_⟩
  rintro r hh ⟨rfl, rfl⟩
  refine ⟨.inl rfl, ?_⟩
  refine ⟨by decide, ?_⟩
  refine ⟨[0, 1, 2, 3, 1004], _, (by (try simp only [ren_fmV]); exact fmVFree _), (by (try simp only [ren_fmV]); exact fmVFree _), (by (try simp only [ren_rowP]); exact fun i _ => rowPFree _ i), at_h ?_ (h1.args ⟨VLe.refl _, VLe.refl _, VLe.refl (.roI .u8 [120]), trivial⟩), ?_⟩
  · exact dkH_eq (by first | simp only [ren_fmV] | rfl) (by first | simp only [ren_fmV] | rfl) (by first | simp only [ren_rowP] | rfl)
  rintro r hh (⟨he, rfl, rfl⟩ | ⟨he, rfl, rfl⟩)
  rotate_left
  · exact absurd e1 he
  refine ⟨.inl rfl, ?_⟩
  refine ⟨[0, 1, 2, 5], _, (by (try simp only [ren_fmV]); exact fmVFree _), (by (try simp only [ren_fmV]); exact fmVFree _), (by (try simp only [ren_rowP]); exact fun i _ => rowPFree _ i), at_h ?_ (h2), ?_⟩
  · exact dkH_eq (by first | simp only [ren_fmV] | rfl) (by first | simp only [ren_fmV] | rfl) (by first | simp only [ren_rowP] | rfl)
  rintro r hh ⟨rfl, rfl⟩
  refine ⟨.inl rfl, ?_⟩
  refine ⟨by decide, ?_⟩
  refine ⟨[0, 1, 6, 5, 1007], _, (by (try simp only [ren_fmV]); exact fmVFree _), (by (try simp only [ren_fmV]); exact fmVFree _), (by (try simp only [ren_rowP]); exact fun i _ => rowPFree _ i), at_h ?_ (h3.args ⟨VLe.refl _, VLe.refl _, VLe.refl (.roI .u8 [121, 122]), trivial⟩), ?_⟩
  · exact dkH_eq (by first | simp only [ren_fmV] | rfl) (by first | simp only [ren_fmV] | rfl) (by first | simp only [ren_rowP] | rfl)
  rintro r hh (⟨he, rfl, rfl⟩ | ⟨he, rfl, rfl⟩)
  rotate_left
  · exact absurd e2 he
  refine ⟨.inl rfl, ?_⟩
  refine ⟨[0, 1, 6, 8], _, (by (try simp only [ren_fmV]); exact fmVFree _), (by (try simp only [ren_fmV]); exact fmVFree _), (by (try simp only [ren_rowP]); exact fun i _ => rowPFree _ i), at_h ?_ (h4), ?_⟩
  · exact dkH_eq (by first | simp only [ren_fmV] | rfl) (by first | simp only [ren_fmV] | rfl) (by first | simp only [ren_rowP] | rfl)
  rintro r hh (⟨he, rfl, rfl⟩ | ⟨he, rfl, rfl⟩)
  rotate_left
  · exact absurd e3 he
  refine ⟨.inl rfl, ?_⟩
  refine ⟨[0, 1, 6, 9], _, (by (try simp only [ren_fmV]); exact fmVFree _), (by (try simp only [ren_fmV]); exact fmVFree _), (by (try simp only [ren_rowP]); exact fun i _ => rowPFree _ i), at_h ?_ (h5), ?_⟩
  · exact dkH_eq (by first | simp only [ren_fmV] | rfl) (by first | simp only [ren_fmV] | rfl) (by first | simp only [ren_rowP] | rfl)
  rintro r hh ⟨rfl, rfl⟩
  refine ⟨.inl rfl, ?_⟩
  refine ⟨[0, 10, 11, 9], _, (by (try simp only [ren_fmV]); exact fmVFree _), (by (try simp only [ren_fmV]); exact fmVFree _), (by (try simp only [ren_rowP]); exact fun i _ => rowPFree _ i), at_h ?_ (h6), ?_⟩
  · exact dkH_eq (by first | simp only [ren_fmV] | rfl) (by first | simp only [ren_fmV] | rfl) (by first | simp only [ren_rowP] | rfl)
  rintro r hh ⟨ns, hns, rfl, rfl⟩
  obtain rfl := h6n ns hns
  refine ⟨.inl rfl, ?_⟩
  refine ⟨fun _ => ?_, fun e => absurd rfl (no e)⟩
  refine ⟨fun _ => ?_, fun e => absurd rfl (no e)⟩
  refine ⟨fun _ => ?_, fun e => absurd rfl (no e)⟩
  refine ⟨fun _ => ?_, fun e => absurd rfl (no e)⟩
  refine ⟨⟨by decide, by decide⟩, ?_⟩
  refine ⟨fun _ => ?_, fun e => absurd rfl (no e)⟩
  refine ⟨⟨by decide, by decide⟩, ?_⟩
  refine ⟨fun _ => ?_, fun e => absurd rfl (no e)⟩
  refine ⟨[0, 10, 11, 9], _, (by (try simp only [ren_fmV]); exact fmVFree _), (by (try simp only [ren_fmV]); exact fmVFree _), (by (try simp only [ren_rowP]); exact fun i _ => rowPFree _ i), at_h ?_ (h7), ?_⟩
  · exact dkH_eq (by first | simp only [ren_fmV] | rfl) (by first | simp only [ren_fmV] | rfl) (by first | simp only [ren_rowP] | rfl)
  rintro r hh ⟨rfl, rfl⟩
  refine ⟨.inl rfl, ?_⟩
  refine ⟨fun _ => ?_, fun e => absurd rfl (no e)⟩
  refine ⟨[0, 10, 11, 9], _, (by (try simp only [ren_fmV]); exact fmVFree _), (by (try simp only [ren_fmV]); exact fmVFree _), (by (try simp only [ren_rowP]); exact fun i _ => rowPFree _ i), at_h ?_ (h8), ?_⟩
  · exact dkH_eq (by first | simp only [ren_fmV] | rfl) (by first | simp only [ren_fmV] | rfl) (by first | simp only [ren_rowP] | rfl)
  rintro r hh ⟨rfl, rfl⟩
  refine ⟨.inl rfl, ?_⟩
  exact ⟨[], [], .tt, lehN _, leTT (decide_eq_true (by show (D5.deeds.length : Int) = 0; omega)), rfl, rfl⟩
end
end Go.Proofs.Ytflclafbieokiaa.Dk
