/-
  The law JournalAgain, walked.
-/
import Derived.Test.YtflclafbieokiaaGreatDoorBrg
set_option linter.unusedVariables false
set_option linter.unusedSectionVars false
set_option linter.unusedSimpArgs false
set_option maxRecDepth 10000
namespace Go.Proofs.YtflclafbieokiaaGreatDoor.Jr
open Go AL Us Dk Sh
section
variable [Globs]


set_option maxHeartbeats 4000000 in
theorem again_p (was l : List Fl) (B : BrJ) (hB : okBr B) (hz0 : okSizes was) (hz : okSizes l) : ACalls Tryz.prog 5 [flsV was, flsV l, brV B] [] (fun r h => r = .tt ∧ h = []) := by
  refine rcalls Tryz.func5 rfl (by decide) ?_
  refine ⟨[], _, awake_p, ?_⟩
  rintro r hh ⟨rfl, rfl⟩
  refine ⟨.inl rfl, ?_⟩
  by_cases hs0 : smallF was
  rotate_left
  · refine ⟨[], _, (small_j was).not (decide_eq_false hs0), ?_⟩
    rintro r hh ⟨rfl, rfl⟩
    refine ⟨.inl rfl, ?_⟩
    exact ⟨[], [], .tt, lehN _, .same _ trivial, rfl, rfl⟩
  refine ⟨[], _, (small_j was).yes (decide_eq_true hs0), ?_⟩
  rintro r hh ⟨rfl, rfl⟩
  refine ⟨.inl rfl, ?_⟩
  by_cases hs : smallF l
  rotate_left
  · refine ⟨[], _, (small_j l).not (decide_eq_false hs), ?_⟩
    rintro r hh ⟨rfl, rfl⟩
    refine ⟨.inl rfl, ?_⟩
    exact ⟨[], [], .tt, lehN _, .same _ trivial, rfl, rfl⟩
  refine ⟨[], _, (small_j l).yes (decide_eq_true hs), ?_⟩
  rintro r hh ⟨rfl, rfl⟩
  refine ⟨.inl rfl, ?_⟩
  have hb0 : okBytes was := fun f hf => (hz0 f hf).2
  have hb : okBytes l := fun f hf => (hz f hf).2
  have hld := laid_p was 100000 hs0 hb0
  refine ⟨[], _, hld, ?_⟩
  rintro r hh ⟨rfl, rfl⟩
  refine ⟨.inl rfl, ?_⟩
  have hfl := fine_laid (room := 100000) hs0 hb0
  have hcm := fun s => commit_q (laidJ was 100000) l s hfl (by decide) hs hz
  refine ⟨by decide, ?_⟩
  refine ⟨[1, 2, 3, 4], _, (by (try simp only [ren_fmV]); exact fmVFree _), (by (try simp only [ren_fmV]); exact fmVFree _), (by (try simp only [ren_rowP]); exact fun i _ => rowPFree _ i), at_h ?_ ((hcm _)), ?_⟩
  · exact dkH_eq (by first | simp only [ren_fmV] | rfl) (by first | simp only [ren_fmV] | rfl) (by first | simp only [ren_rowP] | rfl)
  rintro r hh hc
  rcases com_cases hc with ⟨_, rfl, rfl⟩ | ⟨_, hp, k, hk, rfl, hh1⟩
  · have hfd := fine_more hfl (show 8 ≤ 50 by decide)
    generalize laidJ was 100000 = D at *
    obtain ⟨hfr, hst⟩ := fine_recv hfd B
    have hrv := recovered_p D B hB (fit_more hfd.fit (by omega)) hfd.nomv
    have hno : getF intN (recvJ D B).now = none := rc_none (fine_crs hfd B _ (Nat.min_le_left 5 B.again.length)).2.2.2
    unfold recvR at hrv
    generalize recvJ D B = R at *
    have hf1 := files_q R hfr (by omega)
    have hrc := recover_q R hfr (by omega)
    have hcr := crash_p R 0 0 (by have := (fit_len hfr.fit).1; omega) hfr.nomv
    have hf2 := files_q (crashF R 0 0) (fine_crash hfr 0 0) (by omega)
    have hnow : (crashF R 0 0).now = R.now := (crash_now hst.2.1 0 0).trans hst.1
    have hbs := ls_bytes hfr.keys hfr.fit.now
    have hln : (lsJ R.now).length ≤ 100000 := by have := ls_len hfr.keys; have := hfr.fit.nowL; omega
    have hsm := same_q hbs hbs hln hln rfl
    have hsm2 := same_q (a := lsJ (crashF R 0 0).now) (b := lsJ R.now) (by rw [hnow]; exact hbs) hbs (by rw [hnow]; exact hln) hln (by rw [hnow])
    refine ⟨.inl rfl, ?_⟩
    refine ⟨[1, 2, 3, 4], _, (by (try simp only [ren_fmV]); exact fmVFree _), (by (try simp only [ren_fmV]); exact fmVFree _), (by (try simp only [ren_rowP]); exact fun i _ => rowPFree _ i), four1 trivial trivial trivial trivial, at_h ?_ (hrv.args ⟨VLe.refl _, vbr rfl rfl rfl rfl, trivial⟩), ?_⟩
    · exact dkH_eq (by first | simp only [ren_fmV] | rfl) (by first | simp only [ren_fmV] | rfl) (by first | simp only [ren_rowP] | rfl)
    rintro r hh ⟨rfl, (rfl | rfl)⟩
    · refine ⟨.inl rfl, ?_⟩
      refine ⟨[1, 5, 6, 4], _, (by (try simp only [ren_fmV]); exact fmVFree _), (by (try simp only [ren_fmV]); exact fmVFree _), (by (try simp only [ren_rowP]); exact fun i _ => rowPFree _ i), at_h ?_ (hf1), ?_⟩
      · exact dkH_eq (by first | simp only [ren_fmV] | rfl) (by first | simp only [ren_fmV] | rfl) (by first | simp only [ren_rowP] | rfl)
      rintro r hh ⟨rfl, rfl⟩
      refine ⟨.inl rfl, ?_⟩
      unfold recR at hrc
      refine ⟨[1, 5, 6, 4], _, (by (try simp only [ren_fmV]); exact fmVFree _), (by (try simp only [ren_fmV]); exact fmVFree _), (by (try simp only [ren_rowP]); exact fun i _ => rowPFree _ i), at_h ?_ (hrc), ?_⟩
      · exact dkH_eq (by first | simp only [ren_fmV] | rfl) (by first | simp only [ren_fmV] | rfl) (by first | simp only [ren_rowP] | rfl)
      rintro r hh ⟨rfl, (⟨hn, rfl⟩ | ⟨hn, rfl⟩)⟩
      rotate_left
      · exact absurd hno hn
      refine ⟨.inl rfl, ?_⟩
      refine ⟨[1, 5, 6, 4], _, (by (try simp only [ren_fmV]); exact fmVFree _), (by (try simp only [ren_fmV]); exact fmVFree _), (by (try simp only [ren_rowP]); exact fun i _ => rowPFree _ i), at_h ?_ (hf1), ?_⟩
      · exact dkH_eq (by first | simp only [ren_fmV] | rfl) (by first | simp only [ren_fmV] | rfl) (by first | simp only [ren_rowP] | rfl)
      rintro r hh ⟨rfl, rfl⟩
      refine ⟨.inl rfl, ?_⟩
      refine ⟨[1, 5, 6, 4], _, (by (try simp only [ren_fmV]); exact fmVFree _), (by (try simp only [ren_fmV]); exact fmVFree _), (by (try simp only [ren_rowP]); exact fun i _ => rowPFree _ i), at_h ?_ (hcr), ?_⟩
      · exact dkH_eq (by first | simp only [ren_fmV] | rfl) (by first | simp only [ren_fmV] | rfl) (by first | simp only [ren_rowP] | rfl)
      rintro r hh ⟨rfl, rfl⟩
      refine ⟨.inl rfl, ?_⟩
      refine ⟨[], _, hsm, ?_⟩
      rintro r hh ⟨rfl, rfl⟩
      refine ⟨.inl rfl, ?_⟩
      refine ⟨[1, 7, 8, 4], _, (by (try simp only [ren_fmV]); exact fmVFree _), (by (try simp only [ren_fmV]); exact fmVFree _), (by (try simp only [ren_rowP]); exact fun i _ => rowPFree _ i), at_h ?_ (hf2), ?_⟩
      · exact dkH_eq (by first | simp only [ren_fmV] | rfl) (by first | simp only [ren_fmV] | rfl) (by first | simp only [ren_rowP] | rfl)
      rintro r hh ⟨rfl, rfl⟩
      refine ⟨.inl rfl, ?_⟩
      refine ⟨[], _, hsm2, ?_⟩
      rintro r hh ⟨rfl, rfl⟩
      refine ⟨.inl rfl, ?_⟩
      exact ⟨[], [], .tt, lehN _, .same _ trivial, rfl, rfl⟩
    · refine ⟨.inl rfl, ?_⟩
      refine ⟨[1, 5, 6, 7], _, (by (try simp only [ren_fmV]); exact fmVFree _), (by (try simp only [ren_fmV]); exact fmVFree _), (by (try simp only [ren_rowP]); exact fun i _ => rowPFree _ i), at_h ?_ (hf1), ?_⟩
      · exact dkH_eq (by first | simp only [ren_fmV] | rfl) (by first | simp only [ren_fmV] | rfl) (by first | simp only [ren_rowP] | rfl)
      rintro r hh ⟨rfl, rfl⟩
      refine ⟨.inl rfl, ?_⟩
      unfold recR at hrc
      refine ⟨[1, 5, 6, 7], _, (by (try simp only [ren_fmV]); exact fmVFree _), (by (try simp only [ren_fmV]); exact fmVFree _), (by (try simp only [ren_rowP]); exact fun i _ => rowPFree _ i), at_h ?_ (hrc), ?_⟩
      · exact dkH_eq (by first | simp only [ren_fmV] | rfl) (by first | simp only [ren_fmV] | rfl) (by first | simp only [ren_rowP] | rfl)
      rintro r hh ⟨rfl, (⟨hn, rfl⟩ | ⟨hn, rfl⟩)⟩
      rotate_left
      · exact absurd hno hn
      refine ⟨.inl rfl, ?_⟩
      refine ⟨[1, 5, 6, 7], _, (by (try simp only [ren_fmV]); exact fmVFree _), (by (try simp only [ren_fmV]); exact fmVFree _), (by (try simp only [ren_rowP]); exact fun i _ => rowPFree _ i), at_h ?_ (hf1), ?_⟩
      · exact dkH_eq (by first | simp only [ren_fmV] | rfl) (by first | simp only [ren_fmV] | rfl) (by first | simp only [ren_rowP] | rfl)
      rintro r hh ⟨rfl, rfl⟩
      refine ⟨.inl rfl, ?_⟩
      refine ⟨[1, 5, 6, 7], _, (by (try simp only [ren_fmV]); exact fmVFree _), (by (try simp only [ren_fmV]); exact fmVFree _), (by (try simp only [ren_rowP]); exact fun i _ => rowPFree _ i), at_h ?_ (hcr), ?_⟩
      · exact dkH_eq (by first | simp only [ren_fmV] | rfl) (by first | simp only [ren_fmV] | rfl) (by first | simp only [ren_rowP] | rfl)
      rintro r hh ⟨rfl, rfl⟩
      refine ⟨.inl rfl, ?_⟩
      refine ⟨[], _, hsm, ?_⟩
      rintro r hh ⟨rfl, rfl⟩
      refine ⟨.inl rfl, ?_⟩
      refine ⟨[1, 8, 9, 7], _, (by (try simp only [ren_fmV]); exact fmVFree _), (by (try simp only [ren_fmV]); exact fmVFree _), (by (try simp only [ren_rowP]); exact fun i _ => rowPFree _ i), at_h ?_ (hf2), ?_⟩
      · exact dkH_eq (by first | simp only [ren_fmV] | rfl) (by first | simp only [ren_fmV] | rfl) (by first | simp only [ren_rowP] | rfl)
      rintro r hh ⟨rfl, rfl⟩
      refine ⟨.inl rfl, ?_⟩
      refine ⟨[], _, hsm2, ?_⟩
      rintro r hh ⟨rfl, rfl⟩
      refine ⟨.inl rfl, ?_⟩
      exact ⟨[], [], .tt, lehN _, .same _ trivial, rfl, rfl⟩
  have hfd := fine_more (fine_cm hfl hs hb hp k) (show 8 + k ≤ 50 by have := hs.2; omega)
  rcases hh1 with ⟨rfl, rfl⟩ | ⟨rfl, rfl⟩ | ⟨_, rfl⟩
  · have hfd : FineJ 50 (laidJ was 100000) := hfd
    generalize laidJ was 100000 = D at *
    obtain ⟨hfr, hst⟩ := fine_recv hfd B
    have hrv := recovered_p D B hB (fit_more hfd.fit (by omega)) hfd.nomv
    have hno : getF intN (recvJ D B).now = none := rc_none (fine_crs hfd B _ (Nat.min_le_left 5 B.again.length)).2.2.2
    unfold recvR at hrv
    generalize recvJ D B = R at *
    have hf1 := files_q R hfr (by omega)
    have hrc := recover_q R hfr (by omega)
    have hcr := crash_p R 0 0 (by have := (fit_len hfr.fit).1; omega) hfr.nomv
    have hf2 := files_q (crashF R 0 0) (fine_crash hfr 0 0) (by omega)
    have hnow : (crashF R 0 0).now = R.now := (crash_now hst.2.1 0 0).trans hst.1
    have hbs := ls_bytes hfr.keys hfr.fit.now
    have hln : (lsJ R.now).length ≤ 100000 := by have := ls_len hfr.keys; have := hfr.fit.nowL; omega
    have hsm := same_q hbs hbs hln hln rfl
    have hsm2 := same_q (a := lsJ (crashF R 0 0).now) (b := lsJ R.now) (by rw [hnow]; exact hbs) hbs (by rw [hnow]; exact hln) hln (by rw [hnow])
    refine ⟨.inl rfl, ?_⟩
    refine ⟨[1, 2, 3, 4], _, (by (try simp only [ren_fmV]); exact fmVFree _), (by (try simp only [ren_fmV]); exact fmVFree _), (by (try simp only [ren_rowP]); exact fun i _ => rowPFree _ i), four1 trivial trivial trivial trivial, at_h ?_ (hrv.args ⟨VLe.refl _, vbr rfl rfl rfl rfl, trivial⟩), ?_⟩
    · exact dkH_eq (by first | simp only [ren_fmV] | rfl) (by first | simp only [ren_fmV] | rfl) (by first | simp only [ren_rowP] | rfl)
    rintro r hh ⟨rfl, (rfl | rfl)⟩
    · refine ⟨.inl rfl, ?_⟩
      refine ⟨[1, 5, 6, 4], _, (by (try simp only [ren_fmV]); exact fmVFree _), (by (try simp only [ren_fmV]); exact fmVFree _), (by (try simp only [ren_rowP]); exact fun i _ => rowPFree _ i), at_h ?_ (hf1), ?_⟩
      · exact dkH_eq (by first | simp only [ren_fmV] | rfl) (by first | simp only [ren_fmV] | rfl) (by first | simp only [ren_rowP] | rfl)
      rintro r hh ⟨rfl, rfl⟩
      refine ⟨.inl rfl, ?_⟩
      unfold recR at hrc
      refine ⟨[1, 5, 6, 4], _, (by (try simp only [ren_fmV]); exact fmVFree _), (by (try simp only [ren_fmV]); exact fmVFree _), (by (try simp only [ren_rowP]); exact fun i _ => rowPFree _ i), at_h ?_ (hrc), ?_⟩
      · exact dkH_eq (by first | simp only [ren_fmV] | rfl) (by first | simp only [ren_fmV] | rfl) (by first | simp only [ren_rowP] | rfl)
      rintro r hh ⟨rfl, (⟨hn, rfl⟩ | ⟨hn, rfl⟩)⟩
      rotate_left
      · exact absurd hno hn
      refine ⟨.inl rfl, ?_⟩
      refine ⟨[1, 5, 6, 4], _, (by (try simp only [ren_fmV]); exact fmVFree _), (by (try simp only [ren_fmV]); exact fmVFree _), (by (try simp only [ren_rowP]); exact fun i _ => rowPFree _ i), at_h ?_ (hf1), ?_⟩
      · exact dkH_eq (by first | simp only [ren_fmV] | rfl) (by first | simp only [ren_fmV] | rfl) (by first | simp only [ren_rowP] | rfl)
      rintro r hh ⟨rfl, rfl⟩
      refine ⟨.inl rfl, ?_⟩
      refine ⟨[1, 5, 6, 4], _, (by (try simp only [ren_fmV]); exact fmVFree _), (by (try simp only [ren_fmV]); exact fmVFree _), (by (try simp only [ren_rowP]); exact fun i _ => rowPFree _ i), at_h ?_ (hcr), ?_⟩
      · exact dkH_eq (by first | simp only [ren_fmV] | rfl) (by first | simp only [ren_fmV] | rfl) (by first | simp only [ren_rowP] | rfl)
      rintro r hh ⟨rfl, rfl⟩
      refine ⟨.inl rfl, ?_⟩
      refine ⟨[], _, hsm, ?_⟩
      rintro r hh ⟨rfl, rfl⟩
      refine ⟨.inl rfl, ?_⟩
      refine ⟨[1, 7, 8, 4], _, (by (try simp only [ren_fmV]); exact fmVFree _), (by (try simp only [ren_fmV]); exact fmVFree _), (by (try simp only [ren_rowP]); exact fun i _ => rowPFree _ i), at_h ?_ (hf2), ?_⟩
      · exact dkH_eq (by first | simp only [ren_fmV] | rfl) (by first | simp only [ren_fmV] | rfl) (by first | simp only [ren_rowP] | rfl)
      rintro r hh ⟨rfl, rfl⟩
      refine ⟨.inl rfl, ?_⟩
      refine ⟨[], _, hsm2, ?_⟩
      rintro r hh ⟨rfl, rfl⟩
      refine ⟨.inl rfl, ?_⟩
      exact ⟨[], [], .tt, lehN _, .same _ trivial, rfl, rfl⟩
    · refine ⟨.inl rfl, ?_⟩
      refine ⟨[1, 5, 6, 7], _, (by (try simp only [ren_fmV]); exact fmVFree _), (by (try simp only [ren_fmV]); exact fmVFree _), (by (try simp only [ren_rowP]); exact fun i _ => rowPFree _ i), at_h ?_ (hf1), ?_⟩
      · exact dkH_eq (by first | simp only [ren_fmV] | rfl) (by first | simp only [ren_fmV] | rfl) (by first | simp only [ren_rowP] | rfl)
      rintro r hh ⟨rfl, rfl⟩
      refine ⟨.inl rfl, ?_⟩
      unfold recR at hrc
      refine ⟨[1, 5, 6, 7], _, (by (try simp only [ren_fmV]); exact fmVFree _), (by (try simp only [ren_fmV]); exact fmVFree _), (by (try simp only [ren_rowP]); exact fun i _ => rowPFree _ i), at_h ?_ (hrc), ?_⟩
      · exact dkH_eq (by first | simp only [ren_fmV] | rfl) (by first | simp only [ren_fmV] | rfl) (by first | simp only [ren_rowP] | rfl)
      rintro r hh ⟨rfl, (⟨hn, rfl⟩ | ⟨hn, rfl⟩)⟩
      rotate_left
      · exact absurd hno hn
      refine ⟨.inl rfl, ?_⟩
      refine ⟨[1, 5, 6, 7], _, (by (try simp only [ren_fmV]); exact fmVFree _), (by (try simp only [ren_fmV]); exact fmVFree _), (by (try simp only [ren_rowP]); exact fun i _ => rowPFree _ i), at_h ?_ (hf1), ?_⟩
      · exact dkH_eq (by first | simp only [ren_fmV] | rfl) (by first | simp only [ren_fmV] | rfl) (by first | simp only [ren_rowP] | rfl)
      rintro r hh ⟨rfl, rfl⟩
      refine ⟨.inl rfl, ?_⟩
      refine ⟨[1, 5, 6, 7], _, (by (try simp only [ren_fmV]); exact fmVFree _), (by (try simp only [ren_fmV]); exact fmVFree _), (by (try simp only [ren_rowP]); exact fun i _ => rowPFree _ i), at_h ?_ (hcr), ?_⟩
      · exact dkH_eq (by first | simp only [ren_fmV] | rfl) (by first | simp only [ren_fmV] | rfl) (by first | simp only [ren_rowP] | rfl)
      rintro r hh ⟨rfl, rfl⟩
      refine ⟨.inl rfl, ?_⟩
      refine ⟨[], _, hsm, ?_⟩
      rintro r hh ⟨rfl, rfl⟩
      refine ⟨.inl rfl, ?_⟩
      refine ⟨[1, 8, 9, 7], _, (by (try simp only [ren_fmV]); exact fmVFree _), (by (try simp only [ren_fmV]); exact fmVFree _), (by (try simp only [ren_rowP]); exact fun i _ => rowPFree _ i), at_h ?_ (hf2), ?_⟩
      · exact dkH_eq (by first | simp only [ren_fmV] | rfl) (by first | simp only [ren_fmV] | rfl) (by first | simp only [ren_rowP] | rfl)
      rintro r hh ⟨rfl, rfl⟩
      refine ⟨.inl rfl, ?_⟩
      refine ⟨[], _, hsm2, ?_⟩
      rintro r hh ⟨rfl, rfl⟩
      refine ⟨.inl rfl, ?_⟩
      exact ⟨[], [], .tt, lehN _, .same _ trivial, rfl, rfl⟩
  · generalize cmJ l (intL l) (laidJ was 100000) 1 = D at *
    obtain ⟨hfr, hst⟩ := fine_recv hfd B
    have hrv := recovered_p D B hB (fit_more hfd.fit (by omega)) hfd.nomv
    have hno : getF intN (recvJ D B).now = none := rc_none (fine_crs hfd B _ (Nat.min_le_left 5 B.again.length)).2.2.2
    unfold recvR at hrv
    generalize recvJ D B = R at *
    have hf1 := files_q R hfr (by omega)
    have hrc := recover_q R hfr (by omega)
    have hcr := crash_p R 0 0 (by have := (fit_len hfr.fit).1; omega) hfr.nomv
    have hf2 := files_q (crashF R 0 0) (fine_crash hfr 0 0) (by omega)
    have hnow : (crashF R 0 0).now = R.now := (crash_now hst.2.1 0 0).trans hst.1
    have hbs := ls_bytes hfr.keys hfr.fit.now
    have hln : (lsJ R.now).length ≤ 100000 := by have := ls_len hfr.keys; have := hfr.fit.nowL; omega
    have hsm := same_q hbs hbs hln hln rfl
    have hsm2 := same_q (a := lsJ (crashF R 0 0).now) (b := lsJ R.now) (by rw [hnow]; exact hbs) hbs (by rw [hnow]; exact hln) hln (by rw [hnow])
    refine ⟨.inl rfl, ?_⟩
    refine ⟨[1, 2, 3, 5], _, (by (try simp only [ren_fmV]); exact fmVFree _), (by (try simp only [ren_fmV]); exact fmVFree _), (by (try simp only [ren_rowP]); exact fun i _ => rowPFree _ i), four1 trivial trivial trivial trivial, at_h ?_ (hrv.args ⟨VLe.refl _, vbr rfl rfl rfl rfl, trivial⟩), ?_⟩
    · exact dkH_eq (by first | simp only [ren_fmV] | rfl) (by first | simp only [ren_fmV] | rfl) (by first | simp only [ren_rowP] | rfl)
    rintro r hh ⟨rfl, (rfl | rfl)⟩
    · refine ⟨.inl rfl, ?_⟩
      refine ⟨[1, 6, 7, 5], _, (by (try simp only [ren_fmV]); exact fmVFree _), (by (try simp only [ren_fmV]); exact fmVFree _), (by (try simp only [ren_rowP]); exact fun i _ => rowPFree _ i), at_h ?_ (hf1), ?_⟩
      · exact dkH_eq (by first | simp only [ren_fmV] | rfl) (by first | simp only [ren_fmV] | rfl) (by first | simp only [ren_rowP] | rfl)
      rintro r hh ⟨rfl, rfl⟩
      refine ⟨.inl rfl, ?_⟩
      unfold recR at hrc
      refine ⟨[1, 6, 7, 5], _, (by (try simp only [ren_fmV]); exact fmVFree _), (by (try simp only [ren_fmV]); exact fmVFree _), (by (try simp only [ren_rowP]); exact fun i _ => rowPFree _ i), at_h ?_ (hrc), ?_⟩
      · exact dkH_eq (by first | simp only [ren_fmV] | rfl) (by first | simp only [ren_fmV] | rfl) (by first | simp only [ren_rowP] | rfl)
      rintro r hh ⟨rfl, (⟨hn, rfl⟩ | ⟨hn, rfl⟩)⟩
      rotate_left
      · exact absurd hno hn
      refine ⟨.inl rfl, ?_⟩
      refine ⟨[1, 6, 7, 5], _, (by (try simp only [ren_fmV]); exact fmVFree _), (by (try simp only [ren_fmV]); exact fmVFree _), (by (try simp only [ren_rowP]); exact fun i _ => rowPFree _ i), at_h ?_ (hf1), ?_⟩
      · exact dkH_eq (by first | simp only [ren_fmV] | rfl) (by first | simp only [ren_fmV] | rfl) (by first | simp only [ren_rowP] | rfl)
      rintro r hh ⟨rfl, rfl⟩
      refine ⟨.inl rfl, ?_⟩
      refine ⟨[1, 6, 7, 5], _, (by (try simp only [ren_fmV]); exact fmVFree _), (by (try simp only [ren_fmV]); exact fmVFree _), (by (try simp only [ren_rowP]); exact fun i _ => rowPFree _ i), at_h ?_ (hcr), ?_⟩
      · exact dkH_eq (by first | simp only [ren_fmV] | rfl) (by first | simp only [ren_fmV] | rfl) (by first | simp only [ren_rowP] | rfl)
      rintro r hh ⟨rfl, rfl⟩
      refine ⟨.inl rfl, ?_⟩
      refine ⟨[], _, hsm, ?_⟩
      rintro r hh ⟨rfl, rfl⟩
      refine ⟨.inl rfl, ?_⟩
      refine ⟨[1, 8, 9, 5], _, (by (try simp only [ren_fmV]); exact fmVFree _), (by (try simp only [ren_fmV]); exact fmVFree _), (by (try simp only [ren_rowP]); exact fun i _ => rowPFree _ i), at_h ?_ (hf2), ?_⟩
      · exact dkH_eq (by first | simp only [ren_fmV] | rfl) (by first | simp only [ren_fmV] | rfl) (by first | simp only [ren_rowP] | rfl)
      rintro r hh ⟨rfl, rfl⟩
      refine ⟨.inl rfl, ?_⟩
      refine ⟨[], _, hsm2, ?_⟩
      rintro r hh ⟨rfl, rfl⟩
      refine ⟨.inl rfl, ?_⟩
      exact ⟨[], [], .tt, lehN _, .same _ trivial, rfl, rfl⟩
    · refine ⟨.inl rfl, ?_⟩
      refine ⟨[1, 6, 7, 8], _, (by (try simp only [ren_fmV]); exact fmVFree _), (by (try simp only [ren_fmV]); exact fmVFree _), (by (try simp only [ren_rowP]); exact fun i _ => rowPFree _ i), at_h ?_ (hf1), ?_⟩
      · exact dkH_eq (by first | simp only [ren_fmV] | rfl) (by first | simp only [ren_fmV] | rfl) (by first | simp only [ren_rowP] | rfl)
      rintro r hh ⟨rfl, rfl⟩
      refine ⟨.inl rfl, ?_⟩
      unfold recR at hrc
      refine ⟨[1, 6, 7, 8], _, (by (try simp only [ren_fmV]); exact fmVFree _), (by (try simp only [ren_fmV]); exact fmVFree _), (by (try simp only [ren_rowP]); exact fun i _ => rowPFree _ i), at_h ?_ (hrc), ?_⟩
      · exact dkH_eq (by first | simp only [ren_fmV] | rfl) (by first | simp only [ren_fmV] | rfl) (by first | simp only [ren_rowP] | rfl)
      rintro r hh ⟨rfl, (⟨hn, rfl⟩ | ⟨hn, rfl⟩)⟩
      rotate_left
      · exact absurd hno hn
      refine ⟨.inl rfl, ?_⟩
      refine ⟨[1, 6, 7, 8], _, (by (try simp only [ren_fmV]); exact fmVFree _), (by (try simp only [ren_fmV]); exact fmVFree _), (by (try simp only [ren_rowP]); exact fun i _ => rowPFree _ i), at_h ?_ (hf1), ?_⟩
      · exact dkH_eq (by first | simp only [ren_fmV] | rfl) (by first | simp only [ren_fmV] | rfl) (by first | simp only [ren_rowP] | rfl)
      rintro r hh ⟨rfl, rfl⟩
      refine ⟨.inl rfl, ?_⟩
      refine ⟨[1, 6, 7, 8], _, (by (try simp only [ren_fmV]); exact fmVFree _), (by (try simp only [ren_fmV]); exact fmVFree _), (by (try simp only [ren_rowP]); exact fun i _ => rowPFree _ i), at_h ?_ (hcr), ?_⟩
      · exact dkH_eq (by first | simp only [ren_fmV] | rfl) (by first | simp only [ren_fmV] | rfl) (by first | simp only [ren_rowP] | rfl)
      rintro r hh ⟨rfl, rfl⟩
      refine ⟨.inl rfl, ?_⟩
      refine ⟨[], _, hsm, ?_⟩
      rintro r hh ⟨rfl, rfl⟩
      refine ⟨.inl rfl, ?_⟩
      refine ⟨[1, 9, 10, 8], _, (by (try simp only [ren_fmV]); exact fmVFree _), (by (try simp only [ren_fmV]); exact fmVFree _), (by (try simp only [ren_rowP]); exact fun i _ => rowPFree _ i), at_h ?_ (hf2), ?_⟩
      · exact dkH_eq (by first | simp only [ren_fmV] | rfl) (by first | simp only [ren_fmV] | rfl) (by first | simp only [ren_rowP] | rfl)
      rintro r hh ⟨rfl, rfl⟩
      refine ⟨.inl rfl, ?_⟩
      refine ⟨[], _, hsm2, ?_⟩
      rintro r hh ⟨rfl, rfl⟩
      refine ⟨.inl rfl, ?_⟩
      exact ⟨[], [], .tt, lehN _, .same _ trivial, rfl, rfl⟩
  · generalize cmJ l (intL l) (laidJ was 100000) k = D at *
    obtain ⟨hfr, hst⟩ := fine_recv hfd B
    have hrv := recovered_p D B hB (fit_more hfd.fit (by omega)) hfd.nomv
    have hno : getF intN (recvJ D B).now = none := rc_none (fine_crs hfd B _ (Nat.min_le_left 5 B.again.length)).2.2.2
    unfold recvR at hrv
    generalize recvJ D B = R at *
    have hf1 := files_q R hfr (by omega)
    have hrc := recover_q R hfr (by omega)
    have hcr := crash_p R 0 0 (by have := (fit_len hfr.fit).1; omega) hfr.nomv
    have hf2 := files_q (crashF R 0 0) (fine_crash hfr 0 0) (by omega)
    have hnow : (crashF R 0 0).now = R.now := (crash_now hst.2.1 0 0).trans hst.1
    have hbs := ls_bytes hfr.keys hfr.fit.now
    have hln : (lsJ R.now).length ≤ 100000 := by have := ls_len hfr.keys; have := hfr.fit.nowL; omega
    have hsm := same_q hbs hbs hln hln rfl
    have hsm2 := same_q (a := lsJ (crashF R 0 0).now) (b := lsJ R.now) (by rw [hnow]; exact hbs) hbs (by rw [hnow]; exact hln) hln (by rw [hnow])
    refine ⟨.inl rfl, ?_⟩
    refine ⟨[1, 2, 6, 5], _, (by (try simp only [ren_fmV]); exact fmVFree _), (by (try simp only [ren_fmV]); exact fmVFree _), (by (try simp only [ren_rowP]); exact fun i _ => rowPFree _ i), four1 trivial trivial trivial trivial, at_h ?_ (hrv.args ⟨VLe.refl _, vbr rfl rfl rfl rfl, trivial⟩), ?_⟩
    · exact dkH_eq (by first | simp only [ren_fmV] | rfl) (by first | simp only [ren_fmV] | rfl) (by first | simp only [ren_rowP] | rfl)
    rintro r hh ⟨rfl, (rfl | rfl)⟩
    · refine ⟨.inl rfl, ?_⟩
      refine ⟨[1, 7, 8, 5], _, (by (try simp only [ren_fmV]); exact fmVFree _), (by (try simp only [ren_fmV]); exact fmVFree _), (by (try simp only [ren_rowP]); exact fun i _ => rowPFree _ i), at_h ?_ (hf1), ?_⟩
      · exact dkH_eq (by first | simp only [ren_fmV] | rfl) (by first | simp only [ren_fmV] | rfl) (by first | simp only [ren_rowP] | rfl)
      rintro r hh ⟨rfl, rfl⟩
      refine ⟨.inl rfl, ?_⟩
      unfold recR at hrc
      refine ⟨[1, 7, 8, 5], _, (by (try simp only [ren_fmV]); exact fmVFree _), (by (try simp only [ren_fmV]); exact fmVFree _), (by (try simp only [ren_rowP]); exact fun i _ => rowPFree _ i), at_h ?_ (hrc), ?_⟩
      · exact dkH_eq (by first | simp only [ren_fmV] | rfl) (by first | simp only [ren_fmV] | rfl) (by first | simp only [ren_rowP] | rfl)
      rintro r hh ⟨rfl, (⟨hn, rfl⟩ | ⟨hn, rfl⟩)⟩
      rotate_left
      · exact absurd hno hn
      refine ⟨.inl rfl, ?_⟩
      refine ⟨[1, 7, 8, 5], _, (by (try simp only [ren_fmV]); exact fmVFree _), (by (try simp only [ren_fmV]); exact fmVFree _), (by (try simp only [ren_rowP]); exact fun i _ => rowPFree _ i), at_h ?_ (hf1), ?_⟩
      · exact dkH_eq (by first | simp only [ren_fmV] | rfl) (by first | simp only [ren_fmV] | rfl) (by first | simp only [ren_rowP] | rfl)
      rintro r hh ⟨rfl, rfl⟩
      refine ⟨.inl rfl, ?_⟩
      refine ⟨[1, 7, 8, 5], _, (by (try simp only [ren_fmV]); exact fmVFree _), (by (try simp only [ren_fmV]); exact fmVFree _), (by (try simp only [ren_rowP]); exact fun i _ => rowPFree _ i), at_h ?_ (hcr), ?_⟩
      · exact dkH_eq (by first | simp only [ren_fmV] | rfl) (by first | simp only [ren_fmV] | rfl) (by first | simp only [ren_rowP] | rfl)
      rintro r hh ⟨rfl, rfl⟩
      refine ⟨.inl rfl, ?_⟩
      refine ⟨[], _, hsm, ?_⟩
      rintro r hh ⟨rfl, rfl⟩
      refine ⟨.inl rfl, ?_⟩
      refine ⟨[1, 9, 10, 5], _, (by (try simp only [ren_fmV]); exact fmVFree _), (by (try simp only [ren_fmV]); exact fmVFree _), (by (try simp only [ren_rowP]); exact fun i _ => rowPFree _ i), at_h ?_ (hf2), ?_⟩
      · exact dkH_eq (by first | simp only [ren_fmV] | rfl) (by first | simp only [ren_fmV] | rfl) (by first | simp only [ren_rowP] | rfl)
      rintro r hh ⟨rfl, rfl⟩
      refine ⟨.inl rfl, ?_⟩
      refine ⟨[], _, hsm2, ?_⟩
      rintro r hh ⟨rfl, rfl⟩
      refine ⟨.inl rfl, ?_⟩
      exact ⟨[], [], .tt, lehN _, .same _ trivial, rfl, rfl⟩
    · refine ⟨.inl rfl, ?_⟩
      refine ⟨[1, 7, 8, 9], _, (by (try simp only [ren_fmV]); exact fmVFree _), (by (try simp only [ren_fmV]); exact fmVFree _), (by (try simp only [ren_rowP]); exact fun i _ => rowPFree _ i), at_h ?_ (hf1), ?_⟩
      · exact dkH_eq (by first | simp only [ren_fmV] | rfl) (by first | simp only [ren_fmV] | rfl) (by first | simp only [ren_rowP] | rfl)
      rintro r hh ⟨rfl, rfl⟩
      refine ⟨.inl rfl, ?_⟩
      unfold recR at hrc
      refine ⟨[1, 7, 8, 9], _, (by (try simp only [ren_fmV]); exact fmVFree _), (by (try simp only [ren_fmV]); exact fmVFree _), (by (try simp only [ren_rowP]); exact fun i _ => rowPFree _ i), at_h ?_ (hrc), ?_⟩
      · exact dkH_eq (by first | simp only [ren_fmV] | rfl) (by first | simp only [ren_fmV] | rfl) (by first | simp only [ren_rowP] | rfl)
      rintro r hh ⟨rfl, (⟨hn, rfl⟩ | ⟨hn, rfl⟩)⟩
      rotate_left
      · exact absurd hno hn
      refine ⟨.inl rfl, ?_⟩
      refine ⟨[1, 7, 8, 9], _, (by (try simp only [ren_fmV]); exact fmVFree _), (by (try simp only [ren_fmV]); exact fmVFree _), (by (try simp only [ren_rowP]); exact fun i _ => rowPFree _ i), at_h ?_ (hf1), ?_⟩
      · exact dkH_eq (by first | simp only [ren_fmV] | rfl) (by first | simp only [ren_fmV] | rfl) (by first | simp only [ren_rowP] | rfl)
      rintro r hh ⟨rfl, rfl⟩
      refine ⟨.inl rfl, ?_⟩
      refine ⟨[1, 7, 8, 9], _, (by (try simp only [ren_fmV]); exact fmVFree _), (by (try simp only [ren_fmV]); exact fmVFree _), (by (try simp only [ren_rowP]); exact fun i _ => rowPFree _ i), at_h ?_ (hcr), ?_⟩
      · exact dkH_eq (by first | simp only [ren_fmV] | rfl) (by first | simp only [ren_fmV] | rfl) (by first | simp only [ren_rowP] | rfl)
      rintro r hh ⟨rfl, rfl⟩
      refine ⟨.inl rfl, ?_⟩
      refine ⟨[], _, hsm, ?_⟩
      rintro r hh ⟨rfl, rfl⟩
      refine ⟨.inl rfl, ?_⟩
      refine ⟨[1, 10, 11, 9], _, (by (try simp only [ren_fmV]); exact fmVFree _), (by (try simp only [ren_fmV]); exact fmVFree _), (by (try simp only [ren_rowP]); exact fun i _ => rowPFree _ i), at_h ?_ (hf2), ?_⟩
      · exact dkH_eq (by first | simp only [ren_fmV] | rfl) (by first | simp only [ren_fmV] | rfl) (by first | simp only [ren_rowP] | rfl)
      rintro r hh ⟨rfl, rfl⟩
      refine ⟨.inl rfl, ?_⟩
      refine ⟨[], _, hsm2, ?_⟩
      rintro r hh ⟨rfl, rfl⟩
      refine ⟨.inl rfl, ?_⟩
      exact ⟨[], [], .tt, lehN _, .same _ trivial, rfl, rfl⟩
theorem again_q (was l : List Fl) (B : BrJ) (hz0 : okSizes was) (hz : okSizes l) (hB : okBr B) : ACalls Tryz.prog 5 [flsV was, flsV l, brV B] [] (fun r h => r = .tt ∧ h = []) := again_p was l B hB hz0 hz
end
end Go.Proofs.YtflclafbieokiaaGreatDoor.Jr
