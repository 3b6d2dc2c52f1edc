import Derived.Test.YtflclafbieokiaaGreatDoorRows
import Derived.Test.YtflclafbieokiaaGreatDoorFwD
import Derived.Test.YtflclafbieokiaaGreatDoorBqc

/-
  The law JournalAgain, walked.
-/
set_option linter.unusedVariables false
set_option linter.unusedSectionVars false
set_option linter.unusedSimpArgs false
set_option maxRecDepth 10000
namespace Go.Proofs.YtflclafbieokiaaGreatDoor.Jr
open Go AL Us Dk Sh
theorem four1 {P : Nat → Prop} (h0 : P 0) (h1 : P 1) (h2 : P 2) (h3 : P 3) : ∀ i, i < 4 → P i := fun i hi => by
  match i, hi with
  | 0, _ => exact h0
  | 1, _ => exact h1
  | 2, _ => exact h2
  | 3, _ => exact h3
section
variable [Globs]
theorem vbr {f : Nat → AV} {B : BrJ} (h0 : f 0 = brC B 0) (h1 : f 1 = brC B 1) (h2 : f 2 = brC B 2) (h3 : f 3 = brC B 3) : VLe (.agg 4 f) (brV B) := vagg fun i hi => by
  match i, hi with
  | 0, _ => rw [h0]; exact VLe.refl _
  | 1, _ => rw [h1]; exact VLe.refl _
  | 2, _ => rw [h2]; exact VLe.refl _
  | 3, _ => rw [h3]; exact VLe.refl _

set_option maxHeartbeats 4000000 in
theorem again_p (was l : List Fl) (B : BrJ) (hB : okBr B) (hz0 : okSizes was) (hz : okSizes l) : ACalls Tryz.prog 5 [flsV was, flsV l, brV B] [] (fun r h => r = .tt ∧ h = []) := by
  refine rcalls Tryz.func5 rfl (by decide) ?_
  refine ⟨[], _, awake_p, ?_⟩
  rintro r hh ⟨rfl, rfl⟩
  refine ⟨.inl rfl, ?_⟩
  by_cases hs0 : smallF was
  rotate_left
  · refine ⟨[], _, (small_j was).not (decide_eq_false hs0), ?_⟩
    rintro r hh ⟨rfl, rfl⟩
    refine ⟨.inl rfl, ?_⟩
    exact ⟨[], [], .tt, lehN _, .same _ trivial, rfl, rfl⟩
  refine ⟨[], _, (small_j was).yes (decide_eq_true hs0), ?_⟩
  rintro r hh ⟨rfl, rfl⟩
  refine ⟨.inl rfl, ?_⟩
  by_cases hs : smallF l
  rotate_left
  · refine ⟨[], _, (small_j l).not (decide_eq_false hs), ?_⟩
    rintro r hh ⟨rfl, rfl⟩
    refine ⟨.inl rfl, ?_⟩
    exact ⟨[], [], .tt, lehN _, .same _ trivial, rfl, rfl⟩
  refine ⟨[], _, (small_j l).yes (decide_eq_true hs), ?_⟩
  rintro r hh ⟨rfl, rfl⟩
  refine ⟨.inl rfl, ?_⟩
  have hb0 : okBytes was := fun f hf => (hz0 f hf).2
  have hb : okBytes l := fun f hf => (hz f hf).2
  have hld := laid_p was 100000 hs0 hb0
  refine ⟨[], _, hld, ?_⟩
  rintro r hh ⟨rfl, rfl⟩
  refine ⟨.inl rfl, ?_⟩
  have hfl := fine_laid (room := 100000) hs0 hb0
  have hcm := fun s => commit_q (laidJ was 100000) l s hfl (by decide) hs hz
  refine ⟨by decide, ?_⟩
  refine ⟨[1, 2, 3, 4], _, (by (try simp only [ren_fmV]); exact fmVFree _), (by (try simp only [ren_fmV]); exact fmVFree _), (by (try simp only [ren_rowP]); exact fun i _ => rowPFree _ i), at_h ?_ ((hcm _)), ?_⟩
  · exact dkH_eq (by first | simp only [ren_fmV] | rfl) (by first | simp only [ren_fmV] | rfl) (by first | simp only [ren_rowP] | rfl)
  rintro r hh hc
  rcases com_cases hc with ⟨_, rfl, rfl⟩ | ⟨_, hp, k, hk, rfl, hh1⟩
  · have hfd := fine_more hfl (show 8 ≤ 50 by decide)
    generalize laidJ was 100000 = D at *
    obtain ⟨hfr, hst⟩ := fine_recv hfd B
    have hrv := recovered_p D B hB (fit_more hfd.fit (by omega)) hfd.nomv
    have hno : getF intN (recvJ D B).now = none := rc_none (fine_crs hfd B _ (Nat.min_le_left 5 B.again.length)).2.2.2
    unfold recvR at hrv
    generalize recvJ D B = R at *
    have hf1 := files_q R hfr (by omega)
    have hrc := recover_q R hfr (by omega)
    have hcr := crash_p R 0 0 (by have := (fit_len hfr.fit).1; omega) hfr.nomv
    have hf2 := files_q (crashF R 0 0) (fine_crash hfr 0 0) (by omega)
    have hnow : (crashF R 0 0).now = R.now := (crash_now hst.2.1 0 0).trans hst.1
    have hbs := ls_bytes hfr.keys hfr.fit.now
    have hln : (lsJ R.now).length ≤ 100000 := by have := ls_len hfr.keys; have := hfr.fit.nowL; omega
    have hsm := same_q hbs hbs hln hln rfl
    have hsm2 := same_q (a := lsJ (crashF R 0 0).now) (b := lsJ R.now) (by rw [hnow]; exact hbs) hbs (by rw [hnow]; exact hln) hln (by rw [hnow])
    refine ⟨.inl rfl, ?_⟩
    refine ⟨[1, 2, 3, 4], _, (by (try simp only [ren_fmV]); exact fmVFree _), (by (try simp only [ren_fmV]); exact fmVFree _), (by (try simp only [ren_rowP]); exact fun i _ => rowPFree _ i), four1 trivial trivial trivial trivial, at_h ?_ (hrv.args ⟨VLe.refl _, vbr rfl rfl rfl rfl, trivial⟩), ?_⟩
    · exact dkH_eq (by first | simp only [ren_fmV] | rfl) (by first | simp only [ren_fmV] | rfl) (by first | simp only [ren_rowP] | rfl)
    rintro r hh ⟨rfl, (rfl | rfl)⟩
    · refine ⟨.inl rfl, ?_⟩
      refine ⟨[1, 5, 6, 4], _, (by (try simp only [ren_fmV]); exact fmVFree _), (by (try simp only [ren_fmV]); exact fmVFree _), (by (try simp only [ren_rowP]); exact fun i _ => rowPFree _ i), at_h ?_ (hf1), ?_⟩
      · exact dkH_eq (by first | simp only [ren_fmV] | rfl) (by first | simp only [ren_fmV] | rfl) (by first | simp only [ren_rowP] | rfl)
      rintro r hh ⟨rfl, rfl⟩
      refine ⟨.inl rfl, ?_⟩
      unfold recR at hrc
      refine ⟨[1, 5, 6, 4], _, (by (try simp only [ren_fmV]); exact fmVFree _), (by (try simp only [ren_fmV]); exact fmVFree _), (by (try simp only [ren_rowP]); exact fun i _ => rowPFree _ i), at_h ?_ (hrc), ?_⟩
      · exact dkH_eq (by first | simp only [ren_fmV] | rfl) (by first | simp only [ren_fmV] | rfl) (by first | simp only [ren_rowP] | rfl)
      rintro r hh ⟨rfl, (⟨hn, rfl⟩ | ⟨hn, rfl⟩)⟩
      rotate_left
      · exact absurd hno hn
      refine ⟨.inl rfl, ?_⟩
      refine ⟨[1, 5, 6, 4], _, (by (try simp only [ren_fmV]); exact fmVFree _), (by (try simp only [ren_fmV]); exact fmVFree _), (by (try simp only [ren_rowP]); exact fun i _ => rowPFree _ i), at_h ?_ (hf1), ?_⟩
      · exact dkH_eq (by first | simp only [ren_fmV] | rfl) (by first | simp only [ren_fmV] | rfl) (by first | simp only [ren_rowP] | rfl)
      rintro r hh ⟨rfl, rfl⟩
      refine ⟨.inl rfl, ?_⟩
      refine ⟨[1, 5, 6, 4], _, (by (try simp only [ren_fmV]); exact fmVFree _), (by (try simp only [ren_fmV]); exact fmVFree _), (by (try simp only [ren_rowP]); exact fun i _ => rowPFree _ i), at_h ?_ (hcr), ?_⟩
      · exact dkH_eq (by first | simp only [ren_fmV] | rfl) (by first | simp only [ren_fmV] | rfl) (by first | simp only [ren_rowP] | rfl)
      rintro r hh ⟨rfl, rfl⟩
      refine ⟨.inl rfl, ?_⟩
      refine ⟨[], _, hsm, ?_⟩
      rintro r hh ⟨rfl, rfl⟩
      refine ⟨.inl rfl, ?_⟩
      refine ⟨[1, 7, 8, 4], _, (by (try simp only [ren_fmV]); exact fmVFree _), (by (try simp only [ren_fmV]); exact fmVFree _), (by (try simp only [ren_rowP]); exact fun i _ => rowPFree _ i), at_h ?_ (hf2), ?_⟩
      · exact dkH_eq (by first | simp only [ren_fmV] | rfl) (by first | simp only [ren_fmV] | rfl) (by first | simp only [ren_rowP] | rfl)
      rintro r hh ⟨rfl, rfl⟩
      refine ⟨.inl rfl, ?_⟩
      refine ⟨[], _, hsm2, ?_⟩
      rintro r hh ⟨rfl, rfl⟩
      refine ⟨.inl rfl, ?_⟩
      exact ⟨[], [], .tt, lehN _, .same _ trivial, rfl, rfl⟩
    · refine ⟨.inl rfl, ?_⟩
      refine ⟨[1, 5, 6, 7], _, (by (try simp only [ren_fmV]); exact fmVFree _), (by (try simp only [ren_fmV]); exact fmVFree _), (by (try simp only [ren_rowP]); exact fun i _ => rowPFree _ i), at_h ?_ (hf1), ?_⟩
      · exact dkH_eq (by first | simp only [ren_fmV] | rfl) (by first | simp only [ren_fmV] | rfl) (by first | simp only [ren_rowP] | rfl)
      rintro r hh ⟨rfl, rfl⟩
      refine ⟨.inl rfl, ?_⟩
      unfold recR at hrc
      refine ⟨[1, 5, 6, 7], _, (by (try simp only [ren_fmV]); exact fmVFree _), (by (try simp only [ren_fmV]); exact fmVFree _), (by (try simp only [ren_rowP]); exact fun i _ => rowPFree _ i), at_h ?_ (hrc), ?_⟩
      · exact dkH_eq (by first | simp only [ren_fmV] | rfl) (by first | simp only [ren_fmV] | rfl) (by first | simp only [ren_rowP] | rfl)
      rintro r hh ⟨rfl, (⟨hn, rfl⟩ | ⟨hn, rfl⟩)⟩
      rotate_left
      · exact absurd hno hn
      refine ⟨.inl rfl, ?_⟩
      refine ⟨[1, 5, 6, 7], _, (by (try simp only [ren_fmV]); exact fmVFree _), (by (try simp only [ren_fmV]); exact fmVFree _), (by (try simp only [ren_rowP]); exact fun i _ => rowPFree _ i), at_h ?_ (hf1), ?_⟩
      · exact dkH_eq (by first | simp only [ren_fmV] | rfl) (by first | simp only [ren_fmV] | rfl) (by first | simp only [ren_rowP] | rfl)
      rintro r hh ⟨rfl, rfl⟩
      refine ⟨.inl rfl, ?_⟩
      refine ⟨[1, 5, 6, 7], _, (by (try simp only [ren_fmV]); exact fmVFree _), (by (try simp only [ren_fmV]); exact fmVFree _), (by (try simp only [ren_rowP]); exact fun i _ => rowPFree _ i), at_h ?_ (hcr), ?_⟩
      · exact dkH_eq (by first | simp only [ren_fmV] | rfl) (by first | simp only [ren_fmV] | rfl) (by first | simp only [ren_rowP] | rfl)
      rintro r hh ⟨rfl, rfl⟩
      refine ⟨.inl rfl, ?_⟩
      refine ⟨[], _, hsm, ?_⟩
      rintro r hh ⟨rfl, rfl⟩
      refine ⟨.inl rfl, ?_⟩
      refine ⟨[1, 8, 9, 7], _, (by (try simp only [ren_fmV]); exact fmVFree _), (by (try simp only [ren_fmV]); exact fmVFree _), (by (try simp only [ren_rowP]); exact fun i _ => rowPFree _ i), at_h ?_ (hf2), ?_⟩
      · exact dkH_eq (by first | simp only [ren_fmV] | rfl) (by first | simp only [ren_fmV] | rfl) (by first | simp only [ren_rowP] | rfl)
      rintro r hh ⟨rfl, rfl⟩
      refine ⟨.inl rfl, ?_⟩
      refine ⟨[], _, hsm2, ?_⟩
      rintro r hh ⟨rfl, rfl⟩
      refine ⟨.inl rfl, ?_⟩
      exact ⟨[], [], .tt, lehN _, .same _ trivial, rfl, rfl⟩
  have hfd := fine_more (fine_cm hfl hs hb hp k) (show 8 + k ≤ 50 by have := hs.2; omega)
  rcases hh1 with ⟨rfl, rfl⟩ | ⟨rfl, rfl⟩ | ⟨_, rfl⟩
  · have hfd : FineJ 50 (laidJ was 100000) := hfd
    generalize laidJ was 100000 = D at *
    obtain ⟨hfr, hst⟩ := fine_recv hfd B
    have hrv := recovered_p D B hB (fit_more hfd.fit (by omega)) hfd.nomv
    have hno : getF intN (recvJ D B).now = none := rc_none (fine_crs hfd B _ (Nat.min_le_left 5 B.again.length)).2.2.2
    unfold recvR at hrv
    generalize recvJ D B = R at *
    have hf1 := files_q R hfr (by omega)
    have hrc := recover_q R hfr (by omega)
    have hcr := crash_p R 0 0 (by have := (fit_len hfr.fit).1; omega) hfr.nomv
    have hf2 := files_q (crashF R 0 0) (fine_crash hfr 0 0) (by omega)
    have hnow : (crashF R 0 0).now = R.now := (crash_now hst.2.1 0 0).trans hst.1
    have hbs := ls_bytes hfr.keys hfr.fit.now
    have hln : (lsJ R.now).length ≤ 100000 := by have := ls_len hfr.keys; have := hfr.fit.nowL; omega
    have hsm := same_q hbs hbs hln hln rfl
    have hsm2 := same_q (a := lsJ (crashF R 0 0).now) (b := lsJ R.now) (by rw [hnow]; exact hbs) hbs (by rw [hnow]; exact hln) hln (by rw [hnow])
    refine ⟨.inl rfl, ?_⟩
    refine ⟨[1, 2, 3, 4], _, (by (try simp only [ren_fmV]); exact fmVFree _), (by (try simp only [ren_fmV]); exact fmVFree _), (by (try simp only [ren_rowP]); exact fun i _ => rowPFree _ i), four1 trivial trivial trivial trivial, at_h ?_ (hrv.args ⟨VLe.refl _, vbr rfl rfl rfl rfl, trivial⟩), ?_⟩
    · exact dkH_eq (by first | simp only [ren_fmV] | rfl) (by first | simp only [ren_fmV] | rfl) (by first | simp only [ren_rowP] | rfl)
    rintro r hh ⟨rfl, (rfl | rfl)⟩
    · refine ⟨.inl rfl, ?_⟩
      refine ⟨[1, 5, 6, 4], _, (by (try simp only [ren_fmV]); exact fmVFree _), (by (try simp only [ren_fmV]); exact fmVFree _), (by (try simp only [ren_rowP]); exact fun i _ => rowPFree _ i), at_h ?_ (hf1), ?_⟩
      · exact dkH_eq (by first | simp only [ren_fmV] | rfl) (by first | simp only [ren_fmV] | rfl) (by first | simp only [ren_rowP] | rfl)
      rintro r hh ⟨rfl, rfl⟩
      refine ⟨.inl rfl, ?_⟩
      unfold recR at hrc
      refine ⟨[1, 5, 6, 4], _, (by (try simp only [ren_fmV]); exact fmVFree _), (by (try simp only [ren_fmV]); exact fmVFree _), (by (try simp only [ren_rowP]); exact fun i _ => rowPFree _ i), at_h ?_ (hrc), ?_⟩
      · exact dkH_eq (by first | simp only [ren_fmV] | rfl) (by first | simp only [ren_fmV] | rfl) (by first | simp only [ren_rowP] | rfl)
      rintro r hh ⟨rfl, (⟨hn, rfl⟩ | ⟨hn, rfl⟩)⟩
      rotate_left
      · exact absurd hno hn
      refine ⟨.inl rfl, ?_⟩
      refine ⟨[1, 5, 6, 4], _, (by (try simp only [ren_fmV]); exact fmVFree _), (by (try simp only [ren_fmV]); exact fmVFree _), (by (try simp only [ren_rowP]); exact fun i _ => rowPFree _ i), at_h ?_ (hf1), ?_⟩
      · exact dkH_eq (by first | simp only [ren_fmV] | rfl) (by first | simp only [ren_fmV] | rfl) (by first | simp only [ren_rowP] | rfl)
      rintro r hh ⟨rfl, rfl⟩
      refine ⟨.inl rfl, ?_⟩
      refine ⟨[1, 5, 6, 4], _, (by (try simp only [ren_fmV]); exact fmVFree _), (by (try simp only [ren_fmV]); exact fmVFree _), (by (try simp only [ren_rowP]); exact fun i _ => rowPFree _ i), at_h ?_ (hcr), ?_⟩
      · exact dkH_eq (by first | simp only [ren_fmV] | rfl) (by first | simp only [ren_fmV] | rfl) (by first | simp only [ren_rowP] | rfl)
      rintro r hh ⟨rfl, rfl⟩
      refine ⟨.inl rfl, ?_⟩
      refine ⟨[], _, hsm, ?_⟩
      rintro r hh ⟨rfl, rfl⟩
      refine ⟨.inl rfl, ?_⟩
      refine ⟨[1, 7, 8, 4], _, (by (try simp only [ren_fmV]); exact fmVFree _), (by (try simp only [ren_fmV]); exact fmVFree _), (by (try simp only [ren_rowP]); exact fun i _ => rowPFree _ i), at_h ?_ (hf2), ?_⟩
      · exact dkH_eq (by first | simp only [ren_fmV] | rfl) (by first | simp only [ren_fmV] | rfl) (by first | simp only [ren_rowP] | rfl)
      rintro r hh ⟨rfl, rfl⟩
      refine ⟨.inl rfl, ?_⟩
      refine ⟨[], _, hsm2, ?_⟩
      rintro r hh ⟨rfl, rfl⟩
      refine ⟨.inl rfl, ?_⟩
      exact ⟨[], [], .tt, lehN _, .same _ trivial, rfl, rfl⟩
    · refine ⟨.inl rfl, ?_⟩
      refine ⟨[1, 5, 6, 7], _, (by (try simp only [ren_fmV]); exact fmVFree _), (by (try simp only [ren_fmV]); exact fmVFree _), (by (try simp only [ren_rowP]); exact fun i _ => rowPFree _ i), at_h ?_ (hf1), ?_⟩
      · exact dkH_eq (by first | simp only [ren_fmV] | rfl) (by first | simp only [ren_fmV] | rfl) (by first | simp only [ren_rowP] | rfl)
      rintro r hh ⟨rfl, rfl⟩
      refine ⟨.inl rfl, ?_⟩
      unfold recR at hrc
      refine ⟨[1, 5, 6, 7], _, (by (try simp only [ren_fmV]); exact fmVFree _), (by (try simp only [ren_fmV]); exact fmVFree _), (by (try simp only [ren_rowP]); exact fun i _ => rowPFree _ i), at_h ?_ (hrc), ?_⟩
      · exact dkH_eq (by first | simp only [ren_fmV] | rfl) (by first | simp only [ren_fmV] | rfl) (by first | simp only [ren_rowP] | rfl)
      rintro r hh ⟨rfl, (⟨hn, rfl⟩ | ⟨hn, rfl⟩)⟩
      rotate_left
      · exact absurd hno hn
      refine ⟨.inl rfl, ?_⟩
      refine ⟨[1, 5, 6, 7], _, (by (try simp only [ren_fmV]); exact fmVFree _), (by (try simp only [ren_fmV]); exact fmVFree _), (by (try simp only [ren_rowP]); exact fun i _ => rowPFree _ i), at_h ?_ (hf1), ?_⟩
      · exact dkH_eq (by first | simp only [ren_fmV] | rfl) (by first | simp only [ren_fmV] | rfl) (by first | simp only [ren_rowP] | rfl)
      rintro r hh ⟨rfl, rfl⟩
      refine ⟨.inl rfl, ?_⟩
      refine ⟨[1, 5, 6, 7], _, (by (try simp only [ren_fmV]); exact fmVFree _), (by (try simp only [ren_fmV]); exact fmVFree _), (by (try simp only [ren_rowP]); exact fun i _ => rowPFree _ i), at_h ?_ (hcr), ?_⟩
      · exact dkH_eq (by first | simp only [ren_fmV] | rfl) (by first | simp only [ren_fmV] | rfl) (by first | simp only [ren_rowP] | rfl)
      rintro r hh ⟨rfl, rfl⟩
      refine ⟨.inl rfl, ?_⟩
      refine ⟨[], _, hsm, ?_⟩
      rintro r hh ⟨rfl, rfl⟩
      refine ⟨.inl rfl, ?_⟩
      refine ⟨[1, 8, 9, 7], _, (by (try simp only [ren_fmV]); exact fmVFree _), (by (try simp only [ren_fmV]); exact fmVFree _), (by (try simp only [ren_rowP]); exact fun i _ => rowPFree _ i), at_h ?_ (hf2), ?_⟩
      · exact dkH_eq (by first | simp only [ren_fmV] | rfl) (by first | simp only [ren_fmV] | rfl) (by first | simp only [ren_rowP] | rfl)
      rintro r hh ⟨rfl, rfl⟩
      refine ⟨.inl rfl, ?_⟩
      refine ⟨[], _, hsm2, ?_⟩
      rintro r hh ⟨rfl, rfl⟩
      refine ⟨.inl rfl, ?_⟩
      exact ⟨[], [], .tt, lehN _, .same _ trivial, rfl, rfl⟩
  · generalize cmJ l (intL l) (laidJ was 100000) 1 = D at *
    obtain ⟨hfr, hst⟩ := fine_recv hfd B
    have hrv := recovered_p D B hB (fit_more hfd.fit (by omega)) hfd.nomv
    have hno : getF intN (recvJ D B).now = none := rc_none (fine_crs hfd B _ (Nat.min_le_left 5 B.again.length)).2.2.2
    unfold recvR at hrv
    generalize recvJ D B = R at *
    have hf1 := files_q R hfr (by omega)
    have hrc := recover_q R hfr (by omega)
    have hcr := crash_p R 0 0 (by have := (fit_len hfr.fit).1; omega) hfr.nomv
    have hf2 := files_q (crashF R 0 0) (fine_crash hfr 0 0) (by omega)
    have hnow : (crashF R 0 0).now = R.now := (crash_now hst.2.1 0 0).trans hst.1
    have hbs := ls_bytes hfr.keys hfr.fit.now
    have hln : (lsJ R.now).length ≤ 100000 := by have := ls_len hfr.keys; have := hfr.fit.nowL; omega
    have hsm := same_q hbs hbs hln hln rfl
    have hsm2 := same_q (a := lsJ (crashF R 0 0).now) (b := lsJ R.now) (by rw [hnow]; exact hbs) hbs (by rw [hnow]; exact hln) hln (by rw [hnow])
    refine ⟨.inl rfl, ?_⟩
    refine ⟨[1, 2, 3, 5], _, (by (try simp only [ren_fmV]); exact fmVFree _), (by (try simp only [ren_fmV]); exact fmVFree _), (by (try simp only [ren_rowP]); exact fun i _ => rowPFree _ i), four1 trivial trivial trivial trivial, at_h ?_ (hrv.args ⟨VLe.refl _, vbr rfl rfl rfl rfl, trivial⟩), ?_⟩
    · exact dkH_eq (by first | simp only [ren_fmV] | rfl) (by first | simp only [ren_fmV] | rfl) (by first | simp only [ren_rowP] | rfl)
    rintro r hh ⟨rfl, (rfl | rfl)⟩
    · refine ⟨.inl rfl, ?_⟩
      refine ⟨[1, 6, 7, 5], _, (by (try simp only [ren_fmV]); exact fmVFree _), (by (try simp only [ren_fmV]); exact fmVFree _), (by (try simp only [ren_rowP]); exact fun i _ => rowPFree _ i), at_h ?_ (hf1), ?_⟩
      · exact dkH_eq (by first | simp only [ren_fmV] | rfl) (by first | simp only [ren_fmV] | rfl) (by first | simp only [ren_rowP] | rfl)
      rintro r hh ⟨rfl, rfl⟩
      refine ⟨.inl rfl, ?_⟩
      unfold recR at hrc
      refine ⟨[1, 6, 7, 5], _, (by (try simp only [ren_fmV]); exact fmVFree _), (by (try simp only [ren_fmV]); exact fmVFree _), (by (try simp only [ren_rowP]); exact fun i _ => rowPFree _ i), at_h ?_ (hrc), ?_⟩
      · exact dkH_eq (by first | simp only [ren_fmV] | rfl) (by first | simp only [ren_fmV] | rfl) (by first | simp only [ren_rowP] | rfl)
      rintro r hh ⟨rfl, (⟨hn, rfl⟩ | ⟨hn, rfl⟩)⟩
      rotate_left
      · exact absurd hno hn
      refine ⟨.inl rfl, ?_⟩
      refine ⟨[1, 6, 7, 5], _, (by (try simp only [ren_fmV]); exact fmVFree _), (by (try simp only [ren_fmV]); exact fmVFree _), (by (try simp only [ren_rowP]); exact fun i _ => rowPFree _ i), at_h ?_ (hf1), ?_⟩
      · exact dkH_eq (by first | simp only [ren_fmV] | rfl) (by first | simp only [ren_fmV] | rfl) (by first | simp only [ren_rowP] | rfl)
      rintro r hh ⟨rfl, rfl⟩
      refine ⟨.inl rfl, ?_⟩
      refine ⟨[1, 6, 7, 5], _, (by (try simp only [ren_fmV]); exact fmVFree _), (by (try simp only [ren_fmV]); exact fmVFree _), (by (try simp only [ren_rowP]); exact fun i _ => rowPFree _ i), at_h ?_ (hcr), ?_⟩
      · exact dkH_eq (by first | simp only [ren_fmV] | rfl) (by first | simp only [ren_fmV] | rfl) (by first | simp only [ren_rowP] | rfl)
      rintro r hh ⟨rfl, rfl⟩
      refine ⟨.inl rfl, ?_⟩
      refine ⟨[], _, hsm, ?_⟩
      rintro r hh ⟨rfl, rfl⟩
      refine ⟨.inl rfl, ?_⟩
      refine ⟨[1, 8, 9, 5], _, (by (try simp only [ren_fmV]); exact fmVFree _), (by (try simp only [ren_fmV]); exact fmVFree _), (by (try simp only [ren_rowP]); exact fun i _ => rowPFree _ i), at_h ?_ (hf2), ?_⟩
      · exact dkH_eq (by first | simp only [ren_fmV] | rfl) (by first | simp only [ren_fmV] | rfl) (by first | simp only [ren_rowP] | rfl)
      rintro r hh ⟨rfl, rfl⟩
      refine ⟨.inl rfl, ?_⟩
      refine ⟨[], _, hsm2, ?_⟩
      rintro r hh ⟨rfl, rfl⟩
      refine ⟨.inl rfl, ?_⟩
      exact ⟨[], [], .tt, lehN _, .same _ trivial, rfl, rfl⟩
    · refine ⟨.inl rfl, ?_⟩
      refine ⟨[1, 6, 7, 8], _, (by (try simp only [ren_fmV]); exact fmVFree _), (by (try simp only [ren_fmV]); exact fmVFree _), (by (try simp only [ren_rowP]); exact fun i _ => rowPFree _ i), at_h ?_ (hf1), ?_⟩
      · exact dkH_eq (by first | simp only [ren_fmV] | rfl) (by first | simp only [ren_fmV] | rfl) (by first | simp only [ren_rowP] | rfl)
      rintro r hh ⟨rfl, rfl⟩
      refine ⟨.inl rfl, ?_⟩
      unfold recR at hrc
      refine ⟨[1, 6, 7, 8], _, (by (try simp only [ren_fmV]); exact fmVFree _), (by (try simp only [ren_fmV]); exact fmVFree _), (by (try simp only [ren_rowP]); exact fun i _ => rowPFree _ i), at_h ?_ (hrc), ?_⟩
      · exact dkH_eq (by first | simp only [ren_fmV] | rfl) (by first | simp only [ren_fmV] | rfl) (by first | simp only [ren_rowP] | rfl)
      rintro r hh ⟨rfl, (⟨hn, rfl⟩ | ⟨hn, rfl⟩)⟩
      rotate_left
      · exact absurd hno hn
      refine ⟨.inl rfl, ?_⟩
      refine ⟨[1, 6, 7, 8], _, (by (try simp only [ren_fmV]); exact fmVFree _), (by (try simp only [ren_fmV]); exact fmVFree _), (by (try simp only [ren_rowP]); exact fun i _ => rowPFree _ i), at_h ?_ (hf1), ?_⟩
      · exact dkH_eq (by first | simp only [ren_fmV] | rfl) (by first | simp only [ren_fmV] | rfl) (by first | simp only [ren_rowP] | rfl)
      rintro r hh ⟨rfl, rfl⟩
      refine ⟨.inl rfl, ?_⟩
      refine ⟨[1, 6, 7, 8], _, (by (try simp only [ren_fmV]); exact fmVFree _), (by (try simp only [ren_fmV]); exact fmVFree _), (by (try simp only [ren_rowP]); exact fun i _ => rowPFree _ i), at_h ?_ (hcr), ?_⟩
      · exact dkH_eq (by first | simp only [ren_fmV] | rfl) (by first | simp only [ren_fmV] | rfl) (by first | simp only [ren_rowP] | rfl)
      rintro r hh ⟨rfl, rfl⟩
      refine ⟨.inl rfl, ?_⟩
      refine ⟨[], _, hsm, ?_⟩
      rintro r hh ⟨rfl, rfl⟩
      refine ⟨.inl rfl, ?_⟩
      refine ⟨[1, 9, 10, 8], _, (by (try simp only [ren_fmV]); exact fmVFree _), (by (try simp only [ren_fmV]); exact fmVFree _), (by (try simp only [ren_rowP]); exact fun i _ => rowPFree _ i), at_h ?_ (hf2), ?_⟩
      · exact dkH_eq (by first | simp only [ren_fmV] | rfl) (by first | simp only [ren_fmV] | rfl) (by first | simp only [ren_rowP] | rfl)
      rintro r hh ⟨rfl, rfl⟩
      refine ⟨.inl rfl, ?_⟩
      refine ⟨[], _, hsm2, ?_⟩
      rintro r hh ⟨rfl, rfl⟩
      refine ⟨.inl rfl, ?_⟩
      exact ⟨[], [], .tt, lehN _, .same _ trivial, rfl, rfl⟩
  · generalize cmJ l (intL l) (laidJ was 100000) k = D at *
    obtain ⟨hfr, hst⟩ := fine_recv hfd B
    have hrv := recovered_p D B hB (fit_more hfd.fit (by omega)) hfd.nomv
    have hno : getF intN (recvJ D B).now = none := rc_none (fine_crs hfd B _ (Nat.min_le_left 5 B.again.length)).2.2.2
    unfold recvR at hrv
    generalize recvJ D B = R at *
    have hf1 := files_q R hfr (by omega)
    have hrc := recover_q R hfr (by omega)
    have hcr := crash_p R 0 0 (by have := (fit_len hfr.fit).1; omega) hfr.nomv
    have hf2 := files_q (crashF R 0 0) (fine_crash hfr 0 0) (by omega)
    have hnow : (crashF R 0 0).now = R.now := (crash_now hst.2.1 0 0).trans hst.1
    have hbs := ls_bytes hfr.keys hfr.fit.now
    have hln : (lsJ R.now).length ≤ 100000 := by have := ls_len hfr.keys; have := hfr.fit.nowL; omega
    have hsm := same_q hbs hbs hln hln rfl
    have hsm2 := same_q (a := lsJ (crashF R 0 0).now) (b := lsJ R.now) (by rw [hnow]; exact hbs) hbs (by rw [hnow]; exact hln) hln (by rw [hnow])
    refine ⟨.inl rfl, ?_⟩
    refine ⟨[1, 2, 6, 5], _, (by (try simp only [ren_fmV]); exact fmVFree _), (by (try simp only [ren_fmV]); exact fmVFree _), (by (try simp only [ren_rowP]); exact fun i _ => rowPFree _ i), four1 trivial trivial trivial trivial, at_h ?_ (hrv.args ⟨VLe.refl _, vbr rfl rfl rfl rfl, trivial⟩), ?_⟩
    · exact dkH_eq (by first | simp only [ren_fmV] | rfl) (by first | simp only [ren_fmV] | rfl) (by first | simp only [ren_rowP] | rfl)
    rintro r hh ⟨rfl, (rfl | rfl)⟩
    · refine ⟨.inl rfl, ?_⟩
      refine ⟨[1, 7, 8, 5], _, (by (try simp only [ren_fmV]); exact fmVFree _), (by (try simp only [ren_fmV]); exact fmVFree _), (by (try simp only [ren_rowP]); exact fun i _ => rowPFree _ i), at_h ?_ (hf1), ?_⟩
      · exact dkH_eq (by first | simp only [ren_fmV] | rfl) (by first | simp only [ren_fmV] | rfl) (by first | simp only [ren_rowP] | rfl)
      rintro r hh ⟨rfl, rfl⟩
      refine ⟨.inl rfl, ?_⟩
      unfold recR at hrc
      refine ⟨[1, 7, 8, 5], _, (by (try simp only [ren_fmV]); exact fmVFree _), (by (try simp only [ren_fmV]); exact fmVFree _), (by (try simp only [ren_rowP]); exact fun i _ => rowPFree _ i), at_h ?_ (hrc), ?_⟩
      · exact dkH_eq (by first | simp only [ren_fmV] | rfl) (by first | simp only [ren_fmV] | rfl) (by first | simp only [ren_rowP] | rfl)
      rintro r hh ⟨rfl, (⟨hn, rfl⟩ | ⟨hn, rfl⟩)⟩
      rotate_left
      · exact absurd hno hn
      refine ⟨.inl rfl, ?_⟩
      refine ⟨[1, 7, 8, 5], _, (by (try simp only [ren_fmV]); exact fmVFree _), (by (try simp only [ren_fmV]); exact fmVFree _), (by (try simp only [ren_rowP]); exact fun i _ => rowPFree _ i), at_h ?_ (hf1), ?_⟩
      · exact dkH_eq (by first | simp only [ren_fmV] | rfl) (by first | simp only [ren_fmV] | rfl) (by first | simp only [ren_rowP] | rfl)
      rintro r hh ⟨rfl, rfl⟩
      refine ⟨.inl rfl, ?_⟩
      refine ⟨[1, 7, 8, 5], _, (by (try simp only [ren_fmV]); exact fmVFree _), (by (try simp only [ren_fmV]); exact fmVFree _), (by (try simp only [ren_rowP]); exact fun i _ => rowPFree _ i), at_h ?_ (hcr), ?_⟩
      · exact dkH_eq (by first | simp only [ren_fmV] | rfl) (by first | simp only [ren_fmV] | rfl) (by first | simp only [ren_rowP] | rfl)
      rintro r hh ⟨rfl, rfl⟩
      refine ⟨.inl rfl, ?_⟩
      refine ⟨[], _, hsm, ?_⟩
      rintro r hh ⟨rfl, rfl⟩
      refine ⟨.inl rfl, ?_⟩
      refine ⟨[1, 9, 10, 5], _, (by (try simp only [ren_fmV]); exact fmVFree _), (by (try simp only [ren_fmV]); exact fmVFree _), (by (try simp only [ren_rowP]); exact fun i _ => rowPFree _ i), at_h ?_ (hf2), ?_⟩
      · exact dkH_eq (by first | simp only [ren_fmV] | rfl) (by first | simp only [ren_fmV] | rfl) (by first | simp only [ren_rowP] | rfl)
      rintro r hh ⟨rfl, rfl⟩
      refine ⟨.inl rfl, ?_⟩
      refine ⟨[], _, hsm2, ?_⟩
      rintro r hh ⟨rfl, rfl⟩
      refine ⟨.inl rfl, ?_⟩
      exact ⟨[], [], .tt, lehN _, .same _ trivial, rfl, rfl⟩
    · refine ⟨.inl rfl, ?_⟩
      refine ⟨[1, 7, 8, 9], _, (by (try simp only [ren_fmV]); exact fmVFree _), (by (try simp only [ren_fmV]); exact fmVFree _), (by (try simp only [ren_rowP]); exact fun i _ => rowPFree _ i), at_h ?_ (hf1), ?_⟩
      · exact dkH_eq (by first | simp only [ren_fmV] | rfl) (by first | simp only [ren_fmV] | rfl) (by first | simp only [ren_rowP] | rfl)
      rintro r hh ⟨rfl, rfl⟩
      refine ⟨.inl rfl, ?_⟩
      unfold recR at hrc
      refine ⟨[1, 7, 8, 9], _, (by (try simp only [ren_fmV]); exact fmVFree _), (by (try simp only [ren_fmV]); exact fmVFree _), (by (try simp only [ren_rowP]); exact fun i _ => rowPFree _ i), at_h ?_ (hrc), ?_⟩
      · exact dkH_eq (by first | simp only [ren_fmV] | rfl) (by first | simp only [ren_fmV] | rfl) (by first | simp only [ren_rowP] | rfl)
      rintro r hh ⟨rfl, (⟨hn, rfl⟩ | ⟨hn, rfl⟩)⟩
      rotate_left
      · exact absurd hno hn
      refine ⟨.inl rfl, ?_⟩
      refine ⟨[1, 7, 8, 9], _, (by (try simp only [ren_fmV]); exact fmVFree _), (by (try simp only [ren_fmV]); exact fmVFree _), (by (try simp only [ren_rowP]); exact fun i _ => rowPFree _ i), at_h ?_ (hf1), ?_⟩
      · exact dkH_eq (by first | simp only [ren_fmV] | rfl) (by first | simp only [ren_fmV] | rfl) (by first | simp only [ren_rowP] | rfl)
      rintro r hh ⟨rfl, rfl⟩
      refine ⟨.inl rfl, ?_⟩
      refine ⟨[1, 7, 8, 9], _, (by (try simp only [ren_fmV]); exact fmVFree _), (by (try simp only [ren_fmV]); exact fmVFree _), (by (try simp only [ren_rowP]); exact fun i _ => rowPFree _ i), at_h ?_ (hcr), ?_⟩
      · exact dkH_eq (by first | simp only [ren_fmV] | rfl) (by first | simp only [ren_fmV] | rfl) (by first | simp only [ren_rowP] | rfl)
      rintro r hh ⟨rfl, rfl⟩
      refine ⟨.inl rfl, ?_⟩
      refine ⟨[], _, hsm, ?_⟩
      rintro r hh ⟨rfl, rfl⟩
      refine ⟨.inl rfl, ?_⟩
      refine ⟨[1, 10, 11, 9], _, (by (try simp only [ren_fmV]); exact fmVFree _), (by (try simp only [ren_fmV]); exact fmVFree _), (by (try simp only [ren_rowP]); exact fun i _ => rowPFree _ i), at_h ?_ (hf2), ?_⟩
      · exact dkH_eq (by first | simp only [ren_fmV] | rfl) (by first | simp only [ren_fmV] | rfl) (by first | simp only [ren_rowP] | rfl)
      rintro r hh ⟨rfl, rfl⟩
      refine ⟨.inl rfl, ?_⟩
      refine ⟨[], _, hsm2, ?_⟩
      rintro r hh ⟨rfl, rfl⟩
      refine ⟨.inl rfl, ?_⟩
      exact ⟨[], [], .tt, lehN _, .same _ trivial, rfl, rfl⟩
theorem again_q (was l : List Fl) (B : BrJ) (hz0 : okSizes was) (hz : okSizes l) (hB : okBr B) : ACalls Tryz.prog 5 [flsV was, flsV l, brV B] [] (fun r h => r = .tt ∧ h = []) := again_p was l B hB hz0 hz
end
end Go.Proofs.YtflclafbieokiaaGreatDoor.Jr

/-
  What every row of this program's laws wants: its knobs and its layout.
-/
namespace Go.Proofs.YtflclafbieokiaaGreatDoor.AL
open Go Go.RowKit Go.ChangeShapes

theorem own : ownKnob Tryz.prog.godebug = none := by kernel_rfl
theorem laidOut : laidOutB Tryz.prog = true := by kernel_rfl
theorem wf_u8 {n : Int} (h : (Lit.int .u8 n).wf = true) : 0 ≤ n ∧ n < 256 := by
  simp only [Lit.wf, Bool.and_eq_true, decide_eq_true_eq] at h; exact ⟨Int.le_trans (by decide) h.1, Int.lt_of_le_of_lt h.2 (by decide)⟩
end Go.Proofs.YtflclafbieokiaaGreatDoor.AL

/-
  Files that came in. No program in sight.
-/
set_option linter.unusedVariables false
set_option linter.unusedSectionVars false
namespace Go.Proofs.YtflclafbieokiaaGreatDoor.AL
open Go Go.ChangeShapes Go.WideShapes Go.ChangeAt Go.RowKit Go.Deep Go.Joins Go.WideElems
open Go.Proofs.YtflclafbieokiaaGreatDoor.Us

section
variable {H : Type} {enc : TypeId × Value → H} {P : Program}

structure FiT (P : Program) (t e : TypeId) (f0 f1 : Field) : Prop where
  s : P.underlying t = some (.struct #[f0, f1])
  c : P.cellsOf t = 2
  off : f0.offset = 0 ∧ f1.offset = 1
  path : P.underlying f0.type = some .string
  cpath : P.cellsOf f0.type = 1
  data : P.underlying f1.type = some (.slice e)
  cdata : P.cellsOf f1.type = 1
  byte : P.underlying e = some (.int .u8)
  cbyte : P.cellsOf e = 1
  bbyte : P.bytesOf e = 1
theorem fiT : ∃ F : Field × Field, FiT Tryz.prog 36 5 F.1 F.2 :=
  ⟨⟨_, _⟩, { s := Tryz.underlying36, c := (by kernel_rfl), off := ⟨rfl, rfl⟩, path := (by kernel_rfl), cpath := (by kernel_rfl), data := (by kernel_rfl), cdata := (by kernel_rfl), byte := (by kernel_rfl), cbyte := (by kernel_rfl), bbyte := (by kernel_rfl) }⟩

theorem ro_ints {w : World} {S : Nat → Prop} {L : Loc} {xs : List Int} {f : Nat → AV} {v : Value} (h : den w S L (.ro xs.length 1 f) v) (hf : ∀ i, i < xs.length → f i = int .u8 (xs.getD i 0)) : den w S L (.roI .u8 xs) v := by
  obtain ⟨A, cap, e, hc, hd⟩ := h
  refine ⟨A, cap, e, hc, fun i hi => ?_⟩
  obtain ⟨u, h1, h2⟩ := hd i (by omega)
  rw [hf i hi] at h2
  obtain rfl := h2
  exact h1
theorem all_mem {e : TypeId} {d : DataW H} {n : Nat} (hn : n ∈ d.weights P e) : ∀ {es : List (DataW H)}, d ∈ es → n ∈ DataW.weightsAll P e es
  | x :: es, h => by
    unfold DataW.weightsAll
    rcases List.mem_cons.1 h with rfl | h
    · exact List.mem_append_left _ hn
    · exact List.mem_append_right _ (all_mem hn h)

theorem trod_rows2 {W : World} {fuel base c : Nat} {sp : Nat → Bool} {hd : Bool} {t e : TypeId} {u : Value} {x : DataW H × List MemPlace} (ht : P.underlying t = some (.slice e)) (hC : P.cellsOf e = c) (hc : 0 < c)
    (hf : DataW.trod enc P W base sp hd fuel t [u] = some x) (hlt : ∀ p ∈ x.2, p.block < W.heap.size) :
    ∃ (A : Option Addr) (len cap n : Nat) (cs : Nat → List Value) (y : Nat → DataW H × List MemPlace), u = .slice A len cap ∧ len ≤ cap ∧ len ≤ maxLen ∧ (x.1 = .nil ∧ len = 0 ∨ ∃ es rs, x.1 = .slice es rs ∧ es.length = len) ∧
      ∀ i, i < len → DataW.trod enc P W base sp hd n e (cs i) = some (y i) ∧ (cs i).length = c ∧ (∀ p ∈ (y i).2, p ∈ x.2) ∧ (∀ n ∈ (y i).1.weights P e, n ∈ x.1.weights P t) ∧ ∀ j, j < c → ∃ v, (cs i)[j]? = some v ∧ rcell W (allB W) A (i * c + j) v := by
  rcases DataW.trod_slice ht hf with ⟨hcs, rfl⟩ | ⟨a, len, cap, elems, rest, n, _, hcs, rfl, hb, hl, hm, hlen, hel, hsp, hns⟩
  · simp at hcs
    subst hcs
    exact ⟨none, 0, 0, 0, fun _ => [], fun _ => (.nil, []), rfl, Nat.le_refl _, Nat.zero_le _, .inl ⟨rfl, rfl⟩, fun i hi => absurd hi (Nat.not_lt_zero _)⟩
  · simp at hcs
    subst hcs
    have key : ∀ i, ∃ (q : List Value × (DataW H × List MemPlace)), i < len → DataW.trod enc P W base sp hd n e q.1 = some q.2 ∧ q.1.length = c ∧ elems[i]? = some q.2 ∧ ∀ j, j < c → ∃ v, q.1[j]? = some v ∧ W.cell? ((a.add (i * c)).add j) = some v := fun i => by
      by_cases hi : i < len
      · have h2 := hel i hi
        rw [List.getElem?_eq_getElem (by omega), Option.bind_eq_some_iff] at h2
        obtain ⟨cs, hcc, hy⟩ := h2
        rw [hC] at hcc
        obtain ⟨_, hlen2, hcell⟩ := World.cells?_some hcc
        refine ⟨(cs, _), fun _ => ⟨hy, hlen2, by rw [List.getElem?_eq_getElem (by omega)], fun j hj => ⟨cs[j]'(by omega), List.getElem?_eq_getElem (by show j < cs.length; omega), ?_⟩⟩⟩
        rw [hcell j (by omega), List.getElem?_eq_getElem (by omega)]
      · exact ⟨([], (.nil, [])), fun h => absurd h hi⟩
    refine ⟨some a, len, cap, n, fun i => (key i).choose.1, fun i => (key i).choose.2, rfl, hl, by omega, .inr ⟨_, _, rfl, by simp [hlen]⟩, fun i hi => ?_⟩
    obtain ⟨h1, h2, h3, h4⟩ := (key i).choose_spec hi
    refine ⟨h1, h2, fun p hp => ?_, fun n hn => ?_, fun j hj => ?_⟩
    · refine List.mem_append_right _ (List.mem_flatMap.2 ⟨_, List.mem_append_left _ (List.mem_of_getElem? h3), hp⟩)
    · unfold DataW.weights
      rw [ht]
      exact List.mem_cons_of_mem _ (List.mem_append_left _ (all_mem hn (List.mem_map.2 ⟨_, List.mem_of_getElem? h3, rfl⟩)))
    · obtain ⟨v, h5, h6⟩ := h4 j hj
      obtain ⟨_, _, _, k4⟩ := (key 0).choose_spec (by omega)
      obtain ⟨v0, _, k6⟩ := k4 0 hc
      obtain ⟨ab, ao, spot⟩ := a
      have hspot : spot = none := by simpa [Addr.add] using World.cell?_spot k6
      subst hspot
      rw [Addr.add_lit, Addr.add_lit, Nat.add_assoc] at h6
      refine ⟨v, h5, ab, ao, rfl, ?_, h6⟩
      refine hlt (.cell ab (ao + (i * c + j))) (List.mem_append_left _ ?_)
      simp only [MemPlace.row, List.mem_map, List.mem_range]
      refine ⟨i * c + j, ?_, rfl⟩
      rw [hC]
      have : i * c + j < (i + 1) * c := by rw [Nat.add_mul]; omega
      have h7 : (i + 1) * c ≤ elems.length * c := Nat.mul_le_mul_right _ (by omega)
      have h8 : elems.length * c ≤ (elems.length + rest.length) * c := Nat.mul_le_mul_right _ (by omega)
      omega

theorem open_list2 {α : Type} (cell : α → Nat → AV) (dflt : α) (good : DataW H → α → Prop) {W : World} {fuel base c : Nat} {sp : Nat → Bool} {hd : Bool} {t e : TypeId} {u : Value} {x : DataW H × List MemPlace} (ht : P.underlying t = some (.slice e)) (hC : P.cellsOf e = c) (hc : 0 < c)
    (hel : ∀ (n : Nat) (cs : List Value) (y : DataW H × List MemPlace), DataW.trod enc P W base sp hd n e cs = some y → (∀ p ∈ y.2, p.block < W.heap.size) → ∃ a, good y.1 a ∧ ∀ j, j < c → ∀ v, cs[j]? = some v → den W (allB W) .zero (cell a j) v)
    (hf : DataW.trod enc P W base sp hd fuel t [u] = some x) (hlt : ∀ p ∈ x.2, p.block < W.heap.size) :
    ∃ L : List α, (∀ a ∈ L, ∃ z : DataW H, good z a ∧ ∀ n ∈ z.weights P e, n ∈ x.1.weights P t) ∧ L.length ≤ maxLen ∧ den W (allB W) .zero (.ro L.length c fun i => cell (L.getD (i / c) dflt) (i % c)) u ∧ (x.1 = .nil ∧ L = [] ∨ ∃ es rs, x.1 = .slice es rs ∧ es.length = L.length) := by
  obtain ⟨A, len, cap, n, cs, y, rfl, h1, h2, h3, h4⟩ := trod_rows2 ht hC hc hf hlt
  have key : ∀ i, ∃ a, i < len → good (y i).1 a ∧ ∀ j, j < c → ∀ v, (cs i)[j]? = some v → den W (allB W) .zero (cell a j) v := fun i => by
    by_cases hi : i < len
    · obtain ⟨g1, g2, g3, _, g4⟩ := h4 i hi
      obtain ⟨a, k1, k2⟩ := hel n (cs i) (y i) g1 (fun p hp => hlt p (g3 p hp))
      exact ⟨a, fun _ => ⟨k1, k2⟩⟩
    · exact ⟨dflt, fun h => absurd h hi⟩
  let L : List α := (List.range len).map fun i => (key i).choose
  have hL : L.length = len := by simp [L]
  have hget : ∀ i, i < len → L.getD i dflt = (key i).choose := fun i hi => by simp [L, List.getD_eq_getElem?_getD, hi]
  refine ⟨L, fun a ha => ?_, by rw [hL]; exact h2, ⟨A, cap, by rw [hL], by rw [hL]; exact h1, fun i hi => ?_⟩, ?_⟩
  · obtain ⟨i, hi, rfl⟩ := List.mem_map.1 ha
    exact ⟨_, ((key i).choose_spec (List.mem_range.1 hi)).1, (h4 i (List.mem_range.1 hi)).2.2.2.1⟩
  · rw [hL] at hi
    have hi2 : i / c < len := (Nat.div_lt_iff_lt_mul hc).2 hi
    obtain ⟨_, _, _, _, g4⟩ := h4 (i / c) hi2
    obtain ⟨v, g5, g6⟩ := g4 (i % c) (Nat.mod_lt _ hc)
    refine ⟨v, ?_, ?_⟩
    · have e : i / c * c + i % c = i := by rw [Nat.mul_comm]; exact Nat.div_add_mod i c
      rwa [e] at g6
    · show den W (allB W) .zero (cell (L.getD (i / c) dflt) (i % c)) v
      rw [hget _ hi2]
      exact ((key (i / c)).choose_spec hi2).2 _ (Nat.mod_lt _ hc) v g5
  · rcases h3 with ⟨a, b⟩ | ⟨es, rs, a, b⟩
    · exact .inl ⟨a, by apply List.eq_nil_of_length_eq_zero; omega⟩
    · exact .inr ⟨es, rs, a, by omega⟩

theorem open_file_cells {W : World} {n base : Nat} {t e : TypeId} {f0 f1 : Field} {cs : List Value} {y : DataW H × List MemPlace} (T : FiT P t e f0 f1)
    (hf : DataW.trod enc P W base (fun _ => true) true n t cs = some y) (hlt : ∀ p ∈ y.2, p.block < W.heap.size) :
    ∃ f : Fl, (∀ x ∈ f.data, 0 ≤ x ∧ x < 256) ∧ (∀ R, (∀ n ∈ y.1.weights P t, n ≤ R) → f.path.size ≤ R ∧ f.data.length ≤ R) ∧ ∀ j, j < 2 → ∀ v, cs[j]? = some v → den W (allB W) .zero (flC f j) v := by
  obtain ⟨o0, o1⟩ := T.off
  obtain ⟨xs, m, _, hy, hlen, hxl, hfs⟩ := DataW.trod_struct T.s hf
  have hx : xs.length = 2 := hxl
  have e0 := hfs 0 f0 rfl
  have e1 := hfs 1 f1 rfl
  rw [T.cpath, o0, List.getElem?_eq_getElem (by omega)] at e0
  rw [T.cdata, o1, List.getElem?_eq_getElem (by omega)] at e1
  obtain ⟨s, qs, hxs, _⟩ := DataW.trod_string T.path e0
  have hlt1 : ∀ p ∈ (xs[1]'(by omega)).2, p.block < W.heap.size := fun p hp => hlt p (by
    rw [hy]; exact List.mem_flatMap.2 ⟨_, List.getElem_mem (by omega), hp⟩)
  have one : ∃ u, (cs.drop 1).take 1 = [u] := by
    rcases DataW.trod_slice T.data e1 with ⟨hcs, _⟩ | ⟨a, len, cap, elems, rest, n', _, hcs, _⟩
    · exact ⟨_, hcs⟩
    · exact ⟨_, hcs⟩
  obtain ⟨u, hu⟩ := one
  rw [hu] at e1
  obtain ⟨D, d1, d2, d3, d4⟩ := open_list (fun (x : Int) (_ : Nat) => int .u8 x) 0 (fun x => 0 ≤ x ∧ x < 256) (c := 1) T.data T.cbyte (by decide) (fun n cs y h hl => by
    obtain ⟨z, e1, _, hw⟩ := DataW.trod_int T.byte h
    refine ⟨z, wf_u8 hw, fun j hj v hv => ?_⟩
    obtain rfl : j = 0 := by omega
    rw [e1] at hv
    cases hv
    rfl) e1 hlt1
  refine ⟨⟨s, D⟩, d1, fun R hR => ?_, fun j hj v hv => ?_⟩
  · have hy1 : y.1 = .agg (xs.map (·.1)) := by rw [hy]
    rw [hy1] at hR
    have mem : ∀ {j : Nat} {f : Field} {d : DataW H}, (#[f0, f1] : Array Field)[j]? = some f → (xs.map (·.1))[j]? = some d → ∀ n ∈ d.weights P f.type, n ∈ DataW.weights P t (.agg (xs.map (·.1))) := fun {j f d} hj hd n hn => by
      unfold DataW.weights
      rw [T.s]
      refine DataW.weights_mem_each (j := j) (t := f.type) (d := d) ?_ hd n hn
      have h2 : ([f0, f1] : List Field)[j]? = some f := by simpa using hj
      show (([f0, f1] : List Field).map (·.type))[j]? = _
      rw [List.getElem?_map, h2]; rfl
    refine ⟨?_, ?_⟩
    · refine hR _ (mem (j := 0) (f := f0) (d := .lit (.string s.data.toList)) rfl (by rw [List.getElem?_map, List.getElem?_eq_getElem (by omega), hxs]; rfl) _ ?_)
      unfold DataW.weights
      exact List.mem_singleton.2 rfl
    · rcases d4 with ⟨_, rfl⟩ | ⟨es, rs, h1, h2⟩
      · exact Nat.zero_le _
      · have h3 := hR _ (mem (j := 1) (f := f1) (d := (xs[1]'(by omega)).1) rfl (by rw [List.getElem?_map, List.getElem?_eq_getElem (by omega)]; rfl) ((es.length + rs.length) * P.bytesOf e) (by
          rw [h1]
          unfold DataW.weights
          rw [T.data]
          exact List.mem_cons_self ..))
        rw [T.bbyte] at h3
        show D.length ≤ R
        omega
  · match j, hj with
    | 0, _ =>
      have : (cs.drop 0).take 1 = [.string s] := qs
      rw [one_cell this hv]; rfl
    | 1, _ =>
      rw [one_cell hu hv]
      exact ro_ints d3 fun i hi => by
        show int .u8 (D.getD (i / 1) 0) = _
        rw [Nat.div_one]

theorem open_files {W : World} {base : Nat} {tv t e : TypeId} {f0 f1 : Field} {v : Value} {d : DataW H} {ps : List MemPlace} (htv : P.underlying tv = some (.slice t)) (T : FiT P t e f0 f1)
    (hval : Value.okWide P W .any base tv v) (h : DataW.Trod enc P W 0 (fun _ => true) true tv v d ps) (hlt : ∀ x ∈ ps, x.block < W.heap.size) :
    ∃ L : List Fl, den W (allB W) .zero (flsV L) v ∧ (d = .nil ∧ L = [] ∨ ∃ es rs, d = .slice es rs ∧ es.length = L.length) ∧ okBytes L ∧
      ∀ R, (∀ n ∈ d.weights P tv, n ≤ R) → ∀ f ∈ L, f.path.size ≤ R ∧ f.data.length ≤ R := by
  obtain ⟨a1, len, cap, rfl⟩ := okWide_slice htv hval
  obtain ⟨fuel, hf⟩ := h
  obtain ⟨L, h1, _, h2, h3⟩ := open_list2 flC fl0 (fun z f => (∀ x ∈ f.data, 0 ≤ x ∧ x < 256) ∧ ∀ R, (∀ n ∈ z.weights P t, n ≤ R) → f.path.size ≤ R ∧ f.data.length ≤ R) (c := 2) htv T.c (by decide) (fun n cs y hy hl => by
    obtain ⟨f, g1, g2, g3⟩ := open_file_cells T hy hl
    exact ⟨f, ⟨g1, g2⟩, g3⟩) hf hlt
  refine ⟨L, h2, h3, fun f hf => ?_, fun R hR f hf => ?_⟩
  · obtain ⟨z, g, _⟩ := h1 f hf
    exact g.1
  · obtain ⟨z, g, hz⟩ := h1 f hf
    exact g.2 R fun n hn => hR n (hz n hn)
end
end Go.Proofs.YtflclafbieokiaaGreatDoor.AL

/-
  Where a commit is broken off, as it came in. No program in sight.
-/
set_option linter.unusedVariables false
set_option linter.unusedSectionVars false
namespace Go.Proofs.YtflclafbieokiaaGreatDoor.AL
open Go Go.ChangeShapes Go.WideShapes Go.ChangeAt Go.RowKit Go.Deep Go.Joins Go.WideElems
open Go.Proofs.YtflclafbieokiaaGreatDoor.Jr

section
variable {H : Type} {enc : TypeId × Value → H} {P : Program}

structure BrT (P : Program) (t ea u : TypeId) (f0 f1 f2 f3 : Field) : Prop where
  s : P.underlying t = some (.struct #[f0, f1, f2, f3])
  c : P.cellsOf t = 4
  off : f0.offset = 0 ∧ f1.offset = 1 ∧ f2.offset = 2 ∧ f3.offset = 3
  k0 : P.underlying f0.type = some (.int .u8)
  c0 : P.cellsOf f0.type = 1
  k1 : P.underlying f1.type = some (.int .u8)
  c1 : P.cellsOf f1.type = 1
  k2 : P.underlying f2.type = some (.int .u8)
  c2 : P.cellsOf f2.type = 1
  again : P.underlying f3.type = some (.slice ea)
  cagain : P.cellsOf f3.type = 1
  arr : P.underlying ea = some (.array 2 u)
  carr : P.cellsOf ea = 2
  byte : P.underlying u = some (.int .u8)
  cbyte : P.cellsOf u = 1
structure Fs4 where
  f0 : Field
  f1 : Field
  f2 : Field
  f3 : Field
theorem brT : ∃ F : Fs4, ∃ ea : TypeId, BrT Tryz.prog 53 ea 5 F.f0 F.f1 F.f2 F.f3 :=
  ⟨⟨_, _, _, _⟩, _, { s := Tryz.underlying53, c := (by kernel_rfl), off := ⟨rfl, rfl, rfl, rfl⟩, k0 := (by kernel_rfl), c0 := (by kernel_rfl), k1 := (by kernel_rfl), c1 := (by kernel_rfl), k2 := (by kernel_rfl), c2 := (by kernel_rfl), again := Tryz.underlying51, cagain := (by kernel_rfl), arr := Tryz.underlying86, carr := (by kernel_rfl), byte := (by kernel_rfl), cbyte := (by kernel_rfl) }⟩

theorem nat_u8 {x : Int} (h : (Lit.int .u8 x).wf = true) : ∃ n : Nat, x = (n : Int) ∧ n < 256 := by
  have := wf_u8 h
  exact ⟨x.toNat, by omega, by omega⟩
theorem one_at {cs : List Value} {off : Nat} {u : Value} (h : (cs.drop off).take 1 = [u]) : cs[off]? = some u := by
  have := congrArg (fun l : List Value => l[0]?) h
  simpa using this
theorem open_pair {W : World} {m base : Nat} {sp : Nat → Bool} {hd : Bool} {t e : TypeId} {cs : List Value} {x : DataW H × List MemPlace} (ht : P.underlying t = some (.array 2 e)) (he : P.underlying e = some (.int .u8)) (hc : P.cellsOf e = 1)
    (hf : DataW.trod enc P W base sp hd m t cs = some x) : ∃ a : Nat × Nat, (a.1 < 256 ∧ a.2 < 256) ∧ ∀ j, j < 2 → ∀ v, cs[j]? = some v → v = .int .u8 (((if j = 0 then a.1 else a.2 : Nat)) : Int) := by
  obtain ⟨ys, m', _, _, _, hl, hel⟩ := DataW.trod_array ht hf
  have each : ∀ i, i < 2 → ∃ z : Nat, cs[i]? = some (.int .u8 (z : Int)) ∧ z < 256 := fun i hi => by
    have h1 := hel i hi
    rw [hc, Nat.mul_one, List.getElem?_eq_getElem (by omega)] at h1
    obtain ⟨z, e1, _, hw⟩ := DataW.trod_int he h1
    obtain ⟨n, rfl, hn⟩ := nat_u8 hw
    exact ⟨n, one_at e1, hn⟩
  obtain ⟨a, ha, ha2⟩ := each 0 (by decide)
  obtain ⟨b, hb, hb2⟩ := each 1 (by decide)
  refine ⟨(a, b), ⟨ha2, hb2⟩, fun j hj v hv => ?_⟩
  match j, hj with
  | 0, _ => rw [ha] at hv; cases hv; rfl
  | 1, _ => rw [hb] at hv; cases hv; rfl

theorem open_brk {W : World} {base : Nat} {t ea u : TypeId} {f0 f1 f2 f3 : Field} {v : Value} {d : DataW H} {ps : List MemPlace} (T : BrT P t ea u f0 f1 f2 f3)
    (hval : Value.okWide P W .any base t v) (h : DataW.Trod enc P W 0 (fun _ => true) true t v d ps) (hlt : ∀ x ∈ ps, x.block < W.heap.size) :
    ∃ B : BrJ, den W (allB W) .zero (brV B) v ∧ okBr B := by
  obtain ⟨cs, rfl, hsz⟩ := okWide_struct T.s hval
  obtain ⟨fuel, hf⟩ := h
  have hlen : cs.size = 4 := hsz.trans T.c
  obtain ⟨o0, o1, o2, o3⟩ := T.off
  obtain ⟨m0, z0, e0, _⟩ := field_at T.s hf hlt 0 (f := f0) rfl
  obtain ⟨m1, z1, e1, _⟩ := field_at T.s hf hlt 1 (f := f1) rfl
  obtain ⟨m2, z2, e2, _⟩ := field_at T.s hf hlt 2 (f := f2) rfl
  obtain ⟨m3, z3, e3, l3⟩ := field_at T.s hf hlt 3 (f := f3) rfl
  rw [o0, T.c0] at e0
  rw [o1, T.c1] at e1
  rw [o2, T.c2] at e2
  rw [o3, T.cagain] at e3
  obtain ⟨a, q0, _, w0⟩ := DataW.trod_int T.k0 e0
  obtain ⟨b, q1, _, w1⟩ := DataW.trod_int T.k1 e1
  obtain ⟨c, q2, _, w2⟩ := DataW.trod_int T.k2 e2
  obtain ⟨a, rfl, ha⟩ := nat_u8 w0
  obtain ⟨b, rfl, hb⟩ := nat_u8 w1
  obtain ⟨c, rfl, hc⟩ := nat_u8 w2
  have one : ∃ u, ((Value.agg cs).cells.toList.drop 3).take 1 = [u] := by
    rcases DataW.trod_slice T.again e3 with ⟨hcs, _⟩ | ⟨a, len, cap, elems, rest, n', _, hcs, _⟩
    · exact ⟨_, hcs⟩
    · exact ⟨_, hcs⟩
  obtain ⟨u, hu⟩ := one
  rw [hu] at e3
  obtain ⟨D, d1, d2, d3, d4⟩ := open_list (fun (x : Nat × Nat) (j : Nat) => int .u8 (((if j = 0 then x.1 else x.2 : Nat)) : Int)) (0, 0) (fun x => x.1 < 256 ∧ x.2 < 256) (c := 2) T.again T.carr (by decide) (fun n cs y h hl => by
    obtain ⟨x, hx, h2⟩ := open_pair T.arr T.byte T.cbyte h
    exact ⟨x, hx, fun j hj v hv => h2 j hj v hv⟩) e3 l3
  refine ⟨⟨a, b, c, D⟩, ⟨cs, rfl, hlen, fun i hi => ?_⟩, ⟨ha, hb, hc, d1⟩⟩
  match i, hi with
  | 0, _ => exact ⟨_, by have := one_at q0; simpa [Value.cells] using this, rfl⟩
  | 1, _ => exact ⟨_, by have := one_at q1; simpa [Value.cells] using this, rfl⟩
  | 2, _ => exact ⟨_, by have := one_at q2; simpa [Value.cells] using this, rfl⟩
  | 3, _ => exact ⟨_, by have := one_at hu; simpa [Value.cells] using this, by
      obtain ⟨A, cap, e, hc, hd⟩ := d3
      exact ⟨A, cap, e, hc, hd⟩⟩
end
end Go.Proofs.YtflclafbieokiaaGreatDoor.AL
