/-
  The laws of disks: deeds that are small; what a deed does.
-/
import Derived.Test.YtflclafbieokiaaDkL
import Derived.Test.YtflclafbieokiaaDkQ5
set_option linter.unusedVariables false
set_option linter.unusedSectionVars false
set_option linter.unusedSimpArgs false
namespace Go.Proofs.Ytflclafbieokiaa.Dk
open Go AL Us
section
variable [Globs]


set_option maxRecDepth 10000 in
theorem small_p (l : List De6) : ACalls Try.prog 11 [de6s l] [] (fun r h => r = bool (decide (smallD l)) ∧ h = []) := by
  refine rcalls Try.func11 rfl (by decide) ?_
  refine ⟨Nat, fun k => [(0, de6s l), (3, int .i64 k)], fun _ => [], fun k => k ≤ l.length ∧ k ≤ 60 ∧ ∀ e ∈ l.take k, e.data.length ≤ 100, fun k => 60 - k,
    ⟨0, [], ⟨Nat.zero_le _, Nat.zero_le _, fun e he => by simp at he⟩, lehN _, ⟨.same _ trivial, leI rfl, trivial⟩⟩, ?_⟩
  rintro k ⟨hk, h60, hkk⟩
  have e1 : IntKind.i64.wrap ((k : Int) + 1) = ((k + 1 : Nat) : Int) := by rw [w64 (by omega) (by omega)]; omega
  refine ⟨fun c => ?_, fun c => ?_⟩
  · have f1 : (k : Int) < l.length := yes c
    refine ⟨fun c => ?_, fun c => ?_⟩
    · have f2 : (k : Int) < 60 := yes c
      have ht := take6 (l := l) (k := k) (by omega)
      have hm := mem6 (l := l) (k := k) (by omega)
      have h6 : ∀ c, c < 6 → rowG l ((k : Int).toNat * 6 + c) = de6C (l.getD k d60) c := fun c hc => by rw [Int.toNat_natCast]; exact rowG_at l hc
      have hin : l.getD k d60 ∈ l.take 60 := by
        have hlt : k < l.length := by omega
        have e : (l.take 60)[k]? = l[k]? := List.getElem?_take_of_lt (by omega)
        rw [List.getElem?_eq_getElem hlt] at e
        rw [List.getD_eq_getElem?_getD, List.getElem?_eq_getElem hlt]
        exact List.mem_of_getElem? e
      generalize l.getD k d60 = E at *
      refine ⟨⟨by omega, by omega⟩, de6C E, fun c hc => h6 c hc, ?_⟩
      refine ⟨fun c => ?_, fun c => ?_⟩
      · have f3 : (E.data.length : Int) > 100 := yes c
        exact ⟨[], [], _, lehN _, leFP fun h => by have := h E hin; omega, rfl, rfl⟩
      have f3 : ¬ (E.data.length : Int) > 100 := no c
      refine ⟨trivial, k + 1, [], ⟨by omega, by omega, fun e he => ?_⟩, by show 60 - (k + 1) < 60 - k; omega, lehN _, ⟨.same _ trivial, leI e1, trivial⟩⟩
      rw [ht] at he
      rcases List.mem_append.1 he with he | he
      · exact hkk e he
      · rw [List.mem_singleton.1 he]; omega
    · have f2 : ¬ (k : Int) < 60 := no c
      refine ⟨[], [], _, lehN _, leTP ?_, rfl, rfl⟩
      unfold smallD
      rw [show (60 : Nat) = k by omega]
      exact hkk
  · have f1 : ¬ (k : Int) < l.length := no c
    refine ⟨[], [], _, lehN _, leTP ?_, rfl, rfl⟩
    unfold smallD
    rw [List.take_of_length_le (by omega)] at hkk ⊢
    exact hkk

def afterP (d : DkF) (e : De6) (r : AV) (h : List AO) : Prop := r = int .i64 (ansF d e) ∧ (h = dkH (stepF d e) ∨ h = dkN (stepF d e) ∨ h = dkY (stepF d e) ∨ h = dkZ (stepF d e))
theorem kD1 {e : De6} (h : e.kind = 1) : isD e := by unfold isD; omega
theorem kD2 {e : De6} (h : e.kind = 2) : isD e := by unfold isD; omega
theorem kD3 {e : De6} (h : e.kind = 3) : isD e := by unfold isD; omega
theorem vd6 {f : Nat → AV} {e : De6} (h : ∀ i, i < 6 → f i = de6C e i) : VLe (.agg 6 f) (de6V e) := vagg fun i hi => by rw [h i hi]; exact VLe.refl _


set_option maxHeartbeats 1000000 in
set_option maxRecDepth 10000 in
theorem do_p (d : DkF) (e : De6) (hs : sizeF d.now ≤ 2305843009213693952) (hb : e.data.length ≤ 140737488355328) (hl : d.deeds.length ≤ 100000) :
    ACalls Try.prog 12 [.ptr 0 0, de6V e] (dkH d) (afterP d e) := by
  have h1 := write_p d e.name e.data hs hb hl
  have h2 := rename_p d e.name e.to hl
  have h3 := remove_p d e.name hl
  have h4 := sync_p d
  have h5 := crash_p d e.a e.b hl
  have hst : ∀ E, isD e → toDee (de4 e) = E → (errF d E = 0 → stepF d e = noteF d E) ∧ (errF d E ≠ 0 → stepF d e = d) ∧ ansF d e = errF d E := fun E hi h => by
    unfold stepF ansF doF
    rw [if_pos hi, if_pos hi, h]
    refine ⟨fun g => by rw [if_pos g]; rfl, fun g => by rw [if_neg g], rfl⟩
  have hsy : e.kind = 4 → stepF d e = syncF d ∧ ansF d e = 0 := fun h => by
    have hn : ¬ isD e := by unfold isD; omega
    unfold stepF ansF
    rw [if_neg hn, if_neg hn, if_pos h]; exact ⟨rfl, rfl⟩
  have hcr : ¬ isD e → e.kind ≠ 4 → stepF d e = crashF d e.a e.b ∧ ansF d e = 0 := fun hi h => by
    unfold stepF ansF
    rw [if_neg hi, if_neg hi, if_neg h]; exact ⟨rfl, rfl⟩
  unfold afterP
  generalize stepF d e = S at *
  generalize ansF d e = A at *
  obtain ⟨K, a, b, n, t, D⟩ := e
  simp only at h1 h2 h3 h4 h5 hsy hcr
  refine rcalls Try.func12 rfl (by decide) ?_
  refine ⟨fun c => ?_, fun c => ?_⟩
  · have f1 : K = 1 := yes c
    subst f1
    obtain ⟨g1, g2, g3⟩ := hst (.wr n D) (kD1 rfl) rfl
    refine ⟨[0, 1, 2, 3], _, (by (try simp only [ren_fmV]); exact fmVFree _), (by (try simp only [ren_fmV]); exact fmVFree _), (by (try simp only [ren_rowP]); exact fun i _ => rowPFree _ i), at_h ?_ (h1), ?_⟩
    · exact dkH_eq (by first | simp only [ren_fmV] | rfl) (by first | simp only [ren_fmV] | rfl) (by first | simp only [ren_rowP] | rfl)
    rintro r hh (⟨he, rfl, rfl⟩ | ⟨he, rfl, rfl⟩)
    · refine ⟨.inl rfl, ?_⟩
      rw [g1 he, g3, he]
      exact ⟨[0, 1, 2, 3, 5], dkN (noteF d (.wr n D)), _, leh_rel (Nat.le_of_ble_eq_true rfl) (first4 rfl rfl rfl rfl) (by decide)
        ⟨⟨_, rfl, leDkA rfl rfl rfl rfl rfl⟩, ⟨_, rfl, leMap (by simp only [ren_fmV])⟩, ⟨_, rfl, leMap (by simp only [ren_fmV])⟩, ⟨_, rfl, .dead _⟩, ⟨_, rfl, leRowQ rfl (by simp only [ren_rowP])⟩, trivial⟩, leI (rfl), rfl, .inr (.inl rfl)⟩
    · refine ⟨.inl rfl, ?_⟩
      rw [g2 he, g3]
      exact ⟨[0, 1, 2, 3], dkH d, _, lehDk rfl rfl rfl rfl (by simp only [ren_fmV]) (by simp only [ren_fmV]) rfl (by simp only [ren_rowP]), leI (rfl), rfl, .inl rfl⟩
  refine ⟨fun c => ?_, fun c => ?_⟩
  · have f1 : K = 2 := yes c
    subst f1
    obtain ⟨g1, g2, g3⟩ := hst (.mv n t) (kD2 rfl) rfl
    refine ⟨[0, 1, 2, 3], _, (by (try simp only [ren_fmV]); exact fmVFree _), (by (try simp only [ren_fmV]); exact fmVFree _), (by (try simp only [ren_rowP]); exact fun i _ => rowPFree _ i), at_h ?_ (h2), ?_⟩
    · exact dkH_eq (by first | simp only [ren_fmV] | rfl) (by first | simp only [ren_fmV] | rfl) (by first | simp only [ren_rowP] | rfl)
    rintro r hh (⟨he, rfl, rfl⟩ | ⟨he, rfl, rfl⟩)
    · refine ⟨.inl rfl, ?_⟩
      rw [g1 he, g3, he]
      exact ⟨[0, 1, 2, 3, 5], dkN (noteF d (.mv n t)), _, leh_rel (Nat.le_of_ble_eq_true rfl) (first4 rfl rfl rfl rfl) (by decide)
        ⟨⟨_, rfl, leDkA rfl rfl rfl rfl rfl⟩, ⟨_, rfl, leMap (by simp only [ren_fmV])⟩, ⟨_, rfl, leMap (by simp only [ren_fmV])⟩, ⟨_, rfl, .dead _⟩, ⟨_, rfl, leRowQ rfl (by simp only [ren_rowP])⟩, trivial⟩, leI (rfl), rfl, .inr (.inl rfl)⟩
    · refine ⟨.inl rfl, ?_⟩
      rw [g2 he, g3]
      exact ⟨[0, 1, 2, 3], dkH d, _, lehDk rfl rfl rfl rfl (by simp only [ren_fmV]) (by simp only [ren_fmV]) rfl (by simp only [ren_rowP]), leI (rfl), rfl, .inl rfl⟩
  refine ⟨fun c => ?_, fun c => ?_⟩
  · have f1 : K = 3 := yes c
    subst f1
    obtain ⟨g1, g2, g3⟩ := hst (.rm n) (kD3 rfl) rfl
    refine ⟨[0, 1, 2, 3], _, (by (try simp only [ren_fmV]); exact fmVFree _), (by (try simp only [ren_fmV]); exact fmVFree _), (by (try simp only [ren_rowP]); exact fun i _ => rowPFree _ i), at_h ?_ (h3), ?_⟩
    · exact dkH_eq (by first | simp only [ren_fmV] | rfl) (by first | simp only [ren_fmV] | rfl) (by first | simp only [ren_rowP] | rfl)
    rintro r hh (⟨he, rfl, rfl⟩ | ⟨he, rfl, rfl⟩)
    · refine ⟨.inl rfl, ?_⟩
      rw [g1 he, g3, he]
      exact ⟨[0, 1, 2, 3, 5], dkN (noteF d (.rm n)), _, leh_rel (Nat.le_of_ble_eq_true rfl) (first4 rfl rfl rfl rfl) (by decide)
        ⟨⟨_, rfl, leDkA rfl rfl rfl rfl rfl⟩, ⟨_, rfl, leMap (by simp only [ren_fmV])⟩, ⟨_, rfl, leMap (by simp only [ren_fmV])⟩, ⟨_, rfl, .dead _⟩, ⟨_, rfl, leRowQ rfl (by simp only [ren_rowP])⟩, trivial⟩, leI (rfl), rfl, .inr (.inl rfl)⟩
    · refine ⟨.inl rfl, ?_⟩
      rw [g2 he, g3]
      exact ⟨[0, 1, 2, 3], dkH d, _, lehDk rfl rfl rfl rfl (by simp only [ren_fmV]) (by simp only [ren_fmV]) rfl (by simp only [ren_rowP]), leI (rfl), rfl, .inl rfl⟩
  refine ⟨fun c => ?_, fun c => ?_⟩
  · have f1 : K = 4 := yes c
    obtain ⟨g1, g2⟩ := hsy f1
    rw [g1, g2]
    refine ⟨[0, 1, 2, 3], _, (by (try simp only [ren_fmV]); exact fmVFree _), (by (try simp only [ren_fmV]); exact fmVFree _), (by (try simp only [ren_rowP]); exact fun i _ => rowPFree _ i), at_h ?_ (h4), ?_⟩
    · exact dkH_eq (by first | simp only [ren_fmV] | rfl) (by first | simp only [ren_fmV] | rfl) (by first | simp only [ren_rowP] | rfl)
    rintro r hh ⟨rfl, rfl⟩
    refine ⟨.inl rfl, ?_⟩
    exact ⟨[0, 1, 2, 3, 5], dkY (syncF d), _, leh_rel (Nat.le_of_ble_eq_true rfl) (first4 rfl rfl rfl rfl) (by decide)
      ⟨⟨_, rfl, leDkA rfl rfl rfl rfl rfl⟩, ⟨_, rfl, leMap (by simp only [ren_fmV])⟩, ⟨_, rfl, .dead _⟩, ⟨_, rfl, leRowQ rfl (by simp only [ren_rowP])⟩, ⟨_, rfl, leMap (by simp only [ren_fmV])⟩, trivial⟩, leI rfl, rfl, .inr (.inr (.inl rfl))⟩
  · have f1 : ¬ K = 4 := no c
    rename_i c1 c2 c3
    have f2 : ¬ K = 1 := no c1
    have f3 : ¬ K = 2 := no c2
    have f4 : ¬ K = 3 := no c3
    obtain ⟨g1, g2⟩ := hcr (by unfold isD; show ¬ (1 ≤ K ∧ K ≤ 3); omega) f1
    rw [g1, g2]
    refine ⟨[0, 1, 2, 3], _, (by (try simp only [ren_fmV]); exact fmVFree _), (by (try simp only [ren_fmV]); exact fmVFree _), (by (try simp only [ren_rowP]); exact fun i _ => rowPFree _ i), at_h ?_ (h5), ?_⟩
    · exact dkH_eq (by first | simp only [ren_fmV] | rfl) (by first | simp only [ren_fmV] | rfl) (by first | simp only [ren_rowP] | rfl)
    rintro r hh ⟨rfl, rfl⟩
    refine ⟨.inl rfl, ?_⟩
    exact ⟨[0, 1, 2, 3, 5, 6], dkZ (crashF d a b), _, leh_rel (Nat.le_of_ble_eq_true rfl) (first4 rfl rfl rfl rfl) (by decide)
      ⟨⟨_, rfl, leDkA rfl rfl rfl rfl rfl⟩, ⟨_, rfl, .dead _⟩, ⟨_, rfl, .dead _⟩, ⟨_, rfl, leRowQ rfl (by simp only [ren_rowP])⟩, ⟨_, rfl, leMap (by simp only [ren_fmV])⟩, ⟨_, rfl, leMap (by simp only [ren_fmV])⟩, trivial⟩, leI rfl, rfl, .inr (.inr (.inr rfl))⟩
end
end Go.Proofs.Ytflclafbieokiaa.Dk
