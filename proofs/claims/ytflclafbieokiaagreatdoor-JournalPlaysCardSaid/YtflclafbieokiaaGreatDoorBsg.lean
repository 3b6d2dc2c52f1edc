import Derived.Test.YtflclafbieokiaaGreatDoorRows
import Derived.Test.YtflclafbieokiaaGreatDoorBsf

/-
  The law JournalPlays, walked.
-/
set_option linter.unusedVariables false
set_option linter.unusedSectionVars false
set_option linter.unusedSimpArgs false
set_option maxRecDepth 10000
namespace Go.Proofs.YtflclafbieokiaaGreatDoor.Jr
open Go AL Us Dk Sh
section
variable [Globs]
theorem leIn {h : List AO} {m : List Nat} {k : IntKind} {xs : List Int} : LeO h m (.ints k xs) (.ints k xs) := leOint rfl

set_option maxHeartbeats 8000000 in
theorem plays_p (was l : List Fl) (xs : List Int) (hz0 : okSizes was) (hz : okSizes l) (hx : xs.length = 2) : ACalls Tryz.prog 3 [flsV was, flsV l, .aggI .i64 xs] [] (fun r h => r = .tt ∧ h = []) := by
  refine rcalls Tryz.func3 rfl (by decide) ?_
  refine ⟨hx.symm, ?_⟩
  refine ⟨[], _, awake_p, ?_⟩
  rintro r hh ⟨rfl, rfl⟩
  refine ⟨.inl rfl, ?_⟩
  by_cases hs0 : smallF was
  rotate_left
  · refine ⟨[], _, (small_j was).not (decide_eq_false hs0), ?_⟩
    rintro r hh ⟨rfl, rfl⟩
    refine ⟨.inl rfl, ?_⟩
    exact ⟨[], [], .tt, lehN _, .same _ trivial, rfl, rfl⟩
  refine ⟨[], _, (small_j was).yes (decide_eq_true hs0), ?_⟩
  rintro r hh ⟨rfl, rfl⟩
  refine ⟨.inl rfl, ?_⟩
  by_cases hs : smallF l
  rotate_left
  · refine ⟨[], _, (small_j l).not (decide_eq_false hs), ?_⟩
    rintro r hh ⟨rfl, rfl⟩
    refine ⟨.inl rfl, ?_⟩
    exact ⟨[], [], .tt, lehN _, .same _ trivial, rfl, rfl⟩
  refine ⟨[], _, (small_j l).yes (decide_eq_true hs), ?_⟩
  rintro r hh ⟨rfl, rfl⟩
  refine ⟨.inl rfl, ?_⟩
  have hb0 : okBytes was := fun f hf => (hz0 f hf).2
  have hb : okBytes l := fun f hf => (hz f hf).2
  have hld := laid_p was (xs.getD 0 0) hs0 hb0
  have hn := new_r (xs.getD 0 0)
  have hfl := fine_laid (room := xs.getD 0 0) hs0 hb0
  have h80 := hs0.2
  have hfw := fun i (hi : i ≤ was.length) => fit_wr (L := was) (fit_new 20000 (xs.getD 0 0)) (fun f hf => ⟨by have := small_all hs0 f hf; omega, hb0 f hf⟩) i hi
  have hr00 : RelD (newF (xs.getD 0 0)) (dkdR (newD (xs.getD 0 0))) := rel_new (xs.getD 0 0)
  have hrw := rel_wrs hr00 was
  have hrD : RelD (laidJ was (xs.getD 0 0)) (dkdR (syncD (wrsD was (newD (xs.getD 0 0)) was.length))) := rel_syD (hrw was.length)
  have hrm := room_wrs was (newD (xs.getD 0 0))
  have hr0 : 0 ≤ (newD (xs.getD 0 0)).room := Int.le_max_right ..
  rw [show (⟨[], [], [], max (xs.getD 0 0) 0⟩ : DkD) = newD (xs.getD 0 0) from rfl] at hn
  generalize newD (xs.getD 0 0) = X0 at *
  generalize laidJ was (xs.getD 0 0) = D at *
  refine ⟨⟨by decide, by decide⟩, ?_⟩
  refine ⟨by rw [hx]; decide, ?_⟩
  refine ⟨[], _, hld, ?_⟩
  rintro r hh ⟨rfl, rfl⟩
  refine ⟨.inl rfl, ?_⟩
  refine ⟨[], _, hn, ?_⟩
  rintro r hh ⟨rfl, rfl⟩
  refine ⟨.inl rfl, ?_⟩
  refine ⟨Nat, fun k => [(0, flsV was), (1, flsV l), (5, .ptr 4 0), (7, .tt), (9, .ptr 0 0), (10, .ptr 5 0), (11, int .i64 (k : Int))], fun k => dkH D ++ [.ints .i64 xs, .lst ((List.range 4).map (dkdC (wrsD was X0 k)))], fun k => k ≤ was.length, fun k => was.length - k,
    ⟨0, [1, 2, 3, 4, 0, 5], Nat.zero_le _, ?_, ⟨.same _ trivial, .same _ trivial, .ptr 0 rfl, .same _ trivial, .ptr 0 rfl, .ptr 0 rfl, leI rfl, trivial⟩⟩, ?_⟩
  · exact leh_relG (by decide) ⟨.inl ⟨_, rfl, leDkL rfl rfl rfl rfl rfl⟩, .inl ⟨_, rfl, leMap (by simp only [ren_fmV])⟩, .inl ⟨_, rfl, leMap (by simp only [ren_fmV])⟩, .inl ⟨_, rfl, leRowQ rfl (by simp only [ren_rowP])⟩, .inl ⟨_, rfl, leIn⟩, .inl ⟨_, rfl, leX rfl rfl rfl rfl rfl⟩, trivial⟩
  intro k hk
  have hk : k ≤ was.length := hk
  have e1 : IntKind.i64.wrap ((k : Int) + 1) = ((k + 1 : Nat) : Int) := by rw [w64 (by omega) (by omega)]; omega
  have hfd0 := fit_doc (hfw k hk) (hrw k) (by omega) (by omega)
  refine ⟨fun c => ?_, fun c => ?_⟩
  · have f1 : (k : Int) < was.length := yes c
    have b1 : 0 ≤ (k : Int) ∧ (k : Int) < was.length := ⟨by omega, f1⟩
    have h6 : ∀ c, c < 2 → rowF was ((k : Int).toNat * 2 + c) = flC (was.getD k fl0) c := fun c hc => by rw [Int.toNat_natCast]; exact rowF_at was hc
    have hmem := small_all hs0 _ (get_mem (l := was) (k := k) (by omega))
    have hun : wrsD was X0 (k + 1) = doD (wrsD was X0 k) (eWr (was.getD k fl0).path (was.getD k fl0).data) := rfl
    generalize was.getD k fl0 = F at *
    have hdo := do_r (wrsD was X0 k) (eWr F.path F.data) hfd0 (by show F.data.length ≤ _; omega) (by rw [hrm]; exact hr0)
    rw [← hun] at hdo
    unfold tupR at hdo
    generalize errD (wrsD was X0 k) (eWr F.path F.data) = E at *
    generalize hY : wrsD was X0 (k + 1) = Y at *
    refine .inr ⟨18, by decide +kernel, ?_⟩
    refine ⟨_, rfl, ?_⟩
    refine ⟨_, rfl, ?_⟩
    refine ⟨_, rfl, ?_⟩
    refine ⟨_, ⟨b1, flC F, fun c hc => h6 c hc, rfl⟩, ?_⟩
    refine ⟨_, rfl, ?_⟩
    refine ⟨_, rfl, ?_⟩
    refine ⟨_, rfl, ?_⟩
    refine ⟨_, rfl, ?_⟩
    refine ⟨_, ⟨b1, flC F, fun c hc => h6 c hc, rfl⟩, ?_⟩
    refine ⟨_, rfl, ?_⟩
    refine ⟨_, rfl, ?_⟩
    refine ⟨_, rfl, ?_⟩
    refine ⟨_, ⟨[], _, (fun i hi => fr4 (dkdC_free (wrsD was X0 k)) hi), four1 trivial trivial trivial trivial, hdo.args ⟨vdk fun i hi => ld4 hi, vde (four1 rfl rfl rfl rfl), trivial⟩, by rintro r h ⟨rfl, rfl⟩; exact ⟨.inl rfl, rfl, rfl⟩⟩, ?_⟩
    refine ⟨_, rfl, ?_⟩
    refine ⟨_, rfl, ?_⟩
    refine ⟨_, rfl, ?_⟩
    refine ⟨_, _, ⟨rfl, rfl⟩, ?_⟩
    refine ⟨_, _, ⟨rfl, rfl⟩, ?_⟩
    refine ⟨trivial, k + 1, [0, 1, 2, 3, 4, 5], by show k + 1 ≤ was.length; omega, by show was.length - (k + 1) < was.length - k; omega, ?_, ⟨.same _ trivial, .same _ trivial, .ptr 0 rfl, .same _ trivial, .ptr 0 rfl, .ptr 0 rfl, leI e1, trivial⟩⟩
    show LeH 0 _ _ (dkH D ++ [.ints .i64 xs, .lst ((List.range 4).map (dkdC (wrsD was X0 (k + 1))))])
    rw [hY]
    exact leh_relG (by decide) ⟨.inl ⟨_, rfl, leDkL rfl rfl rfl rfl rfl⟩, .inl ⟨_, rfl, leMap rfl⟩, .inl ⟨_, rfl, leMap rfl⟩, .inl ⟨_, rfl, leRowP _⟩, .inl ⟨_, rfl, leIn⟩, .inl ⟨_, rfl, leX rfl rfl rfl rfl rfl⟩, trivial⟩
  have f1 : ¬ (k : Int) < was.length := no c
  obtain rfl : k = was.length := by omega
  have hs8 := sync_r (wrsD was X0 was.length)
  rw [show (⟨(wrsD was X0 was.length).files, (wrsD was X0 was.length).files, [], (wrsD was X0 was.length).room⟩ : DkD) = syncD (wrsD was X0 was.length) from rfl] at hs8
  have hrx : 0 ≤ (syncD (wrsD was X0 was.length)).room := by show 0 ≤ (wrsD was X0 was.length).room; rw [hrm]; exact hr0
  generalize syncD (wrsD was X0 was.length) = X at *
  refine ⟨[], _, (fun i hi => fr4 (dkdC_free (wrsD was X0 was.length)) hi), hs8.args ⟨vdk fun i hi => ld4 hi, trivial⟩, ?_⟩
  rintro r hh ⟨rfl, rfl⟩
  refine ⟨.inl rfl, ?_⟩
  have hcm := commit_q D l (xs.getD 1 0) hfl (by decide) hs hz
  have hcd := commit_d D X l (xs.getD 1 0) hrD (fine_more hfl (by decide)) hs hz hrx
  refine ⟨⟨by decide, by decide⟩, ?_⟩
  refine ⟨by rw [hx]; decide, ?_⟩
  refine ⟨[0, 1, 2, 3], _, (by (try simp only [ren_fmV]); exact fmVFree _), (by (try simp only [ren_fmV]); exact fmVFree _), (by (try simp only [ren_rowP]); exact fun i _ => rowPFree _ i), at_h ?_ (hcm), ?_⟩
  · exact dkH_eq (by first | simp only [ren_fmV] | rfl) (by first | simp only [ren_fmV] | rfl) (by first | simp only [ren_rowP] | rfl)
  rintro r hh hc
  unfold comDR at hcd
  have hfq : FineJ 50 D := fine_more hfl (by decide)
  have hst := steps_p l.length (by have := hs.2; omega)
  have hl8 := hs.2
  rcases com_cases hc with ⟨hE, hr1, rfl⟩ | ⟨hE, hp, k, hk, hr1, hh1⟩
  · obtain ⟨bz, hbz⟩ : ∃ bz : Bool, bz = false := ⟨_, rfl⟩
    obtain ⟨E, hEE⟩ : ∃ E, comE D l (putE l) (intL l).length = E := ⟨_, rfl⟩
    rw [hEE, ← hbz] at hr1
    subst hr1
    have hcd : ACalls Tryz.prog 15 [dkdV X, flsV l, int .i64 (xs.getD 1 0)] [] (fun r h => r = .tup 3 (triple (dkdV X) (bool bz) (int .i64 E)) ∧ h = []) := hcd.mono fun r h ⟨h1, h2⟩ => by
      rcases h2 with ⟨_, h2⟩ | ⟨h3, _⟩
      · rw [hbz, ← hEE]; exact ⟨h2, h1⟩
      · exact absurd h3 hE
    have hRC : RelD D (dkdR X) := hrD
    have hfc : FineJ 80 D := fine_more hfq (by decide)
    have hrxc := hrx
    have hg := (good_all hfc.good).2
    have hrel := hRC.now
    have hfiles := files_j D X.files hrel (fun p hp => ⟨(hfc.fit.now p hp).1, Nat.le_trans (hfc.fit.now p hp).2.1 (by decide)⟩) (by have := hfc.fit.nowL; omega)
    have hload := load_p D X.files hrel (fun p hp => ⟨(hfc.fit.now p hp).1, Nat.le_trans (hfc.fit.now p hp).2.1 (by decide)⟩) (by have := hfc.fit.nowL; omega)
    have hlen : X.files.length ≤ 1000 := by have := rel_len hrel; have e : (dkdR X).files = X.files := rfl; rw [e] at this; have := hfc.fit.nowL; omega
    have hloadd := load_d X (by omega)
    have hbf : okBytes X.files := fit_bytes hrel hfc.fit.now
    have hbl : okBytes (withoutR intN X.files) := fun f hf => hbf f (List.mem_filter.1 hf).1
    have hll := without_le intN X.files
    have hsm1 := same_q hbf hbf (by omega) (by omega) rfl
    have hsm2 := same_q hbl hbl (by omega) (by omega) rfl
    refine ⟨.inl rfl, ?_⟩
    refine ⟨⟨by decide, by decide⟩, ?_⟩
    refine ⟨by rw [hx]; decide, ?_⟩
    refine ⟨[], _, four1 trivial trivial trivial trivial, hcd.args ⟨vdk4 rfl rfl rfl rfl, VLe.refl _, VLe.refl _, trivial⟩, ?_⟩
    rintro r hh ⟨rfl, rfl⟩
    refine ⟨.inl rfl, ?_⟩
    refine .inr ⟨23, by decide +kernel, ?_⟩
    refine ⟨_, rfl, ?_⟩
    refine ⟨_, rfl, ?_⟩
    refine ⟨_, rfl, ?_⟩
    have vB : (bz != bz) = false := by cases bz <;> rfl
    have vE : decide (¬ E = E) = false := by simp
    rw [vB]
    refine ⟨_, rfl, ?_⟩
    refine ⟨_, rfl, ?_⟩
    refine ⟨_, rfl, ?_⟩
    refine ⟨_, rfl, ?_⟩
    rw [vE]
    refine ⟨_, rfl, ?_⟩
    refine ⟨_, rfl, ?_⟩
    refine ⟨_, rfl, ?_⟩
    refine ⟨_, ⟨[0, 1, 2, 3], _, (by (try simp only [ren_fmV]); exact fmVFree _), (by (try simp only [ren_fmV]); exact fmVFree _), (by (try simp only [ren_rowP]); exact fun i _ => rowPFree _ i), at_h (by exact dkH_eq (by first | simp only [ren_fmV] | rfl) (by first | simp only [ren_fmV] | rfl) (by first | simp only [ren_rowP] | rfl)) (hfiles), by rintro r h ⟨rfl, rfl⟩; exact ⟨.inl rfl, by first | rfl | (simp only [ren_fmV, ren_rowP]; done) | (simp only [ren_fmV, ren_rowP]; rfl), rfl⟩⟩, ?_⟩
    refine ⟨_, rfl, ?_⟩
    refine ⟨_, rfl, ?_⟩
    refine ⟨_, ⟨[], _, hsm1, by rintro r h ⟨rfl, rfl⟩; exact ⟨.inl rfl, rfl, rfl⟩⟩, ?_⟩
    refine ⟨_, rfl, ?_⟩
    refine ⟨_, rfl, ?_⟩
    refine ⟨_, rfl, ?_⟩
    refine ⟨_, rfl, ?_⟩
    refine ⟨_, ⟨[0, 1, 2, 3], _, (by (try simp only [ren_fmV]); exact fmVFree _), (by (try simp only [ren_fmV]); exact fmVFree _), (by (try simp only [ren_rowP]); exact fun i _ => rowPFree _ i), at_h (by exact dkH_eq (by first | simp only [ren_fmV] | rfl) (by first | simp only [ren_fmV] | rfl) (by first | simp only [ren_rowP] | rfl)) (hload), by rintro r h ⟨rfl, rfl⟩; exact ⟨.inl rfl, by first | rfl | (simp only [ren_fmV, ren_rowP]; done) | (simp only [ren_fmV, ren_rowP]; rfl), rfl⟩⟩, ?_⟩
    refine ⟨_, rfl, ?_⟩
    refine ⟨_, ⟨[], _, four1 trivial trivial trivial trivial, hloadd.args ⟨vdk4 rfl rfl rfl rfl, trivial⟩, by rintro r h ⟨rfl, rfl⟩; exact ⟨.inl rfl, rfl, rfl⟩⟩, ?_⟩
    refine ⟨_, ⟨[], _, hsm2, by rintro r h ⟨rfl, rfl⟩; exact ⟨.inl rfl, rfl, rfl⟩⟩, ?_⟩
    refine ⟨_, rfl, ?_⟩
    have hrec := recover_q D hfc (by decide)
    unfold recR at hrec
    have hrecd := recover_d D X hRC (fine_more hfc (by decide)) hrxc
    have hR3 := rel_rcD hRC
    have hf3 := fine_rc hfc
    have hr1 : getF intN (D).now = none → rcJ D = D := fun h => if_pos h
    have hr2 : getF intN (D).now ≠ none → rcJ D = recJ D := fun h => if_neg h
    generalize recD X = V at *
    refine ⟨[0, 1, 2, 3], _, (by (try simp only [ren_fmV]); exact fmVFree _), (by (try simp only [ren_fmV]); exact fmVFree _), (by (try simp only [ren_rowP]); exact fun i _ => rowPFree _ i), at_h ?_ (hrec), ?_⟩
    · exact dkH_eq (by first | simp only [ren_fmV] | rfl) (by first | simp only [ren_fmV] | rfl) (by first | simp only [ren_rowP] | rfl)
    rintro r hh ⟨rfl, (⟨hn9, rfl⟩ | ⟨hn9, rfl⟩)⟩
    · rw [hr1 hn9] at hR3 hf3
      have hrel3 := hR3.now
      have hfiles3 := files_j D V.files hrel3 (fun p hp => ⟨(hf3.fit.now p hp).1, Nat.le_trans (hf3.fit.now p hp).2.1 (by decide)⟩) (by have := hf3.fit.nowL; omega)
      have hlen3 : V.files.length ≤ 1000 := by have := rel_len hrel3; have e : (dkdR V).files = V.files := rfl; rw [e] at this; have := hf3.fit.nowL; omega
      have hbf3 : okBytes V.files := fit_bytes hrel3 hf3.fit.now
      have hsm3 := same_q hbf3 hbf3 (by omega) (by omega) rfl
      refine ⟨.inl rfl, ?_⟩
      refine .inr ⟨18, by decide +kernel, ?_⟩
      refine ⟨_, rfl, ?_⟩
      refine ⟨_, rfl, ?_⟩
      refine ⟨_, rfl, ?_⟩
      refine ⟨_, ⟨[0, 1, 2, 3], _, (by (try simp only [ren_fmV]); exact fmVFree _), (by (try simp only [ren_fmV]); exact fmVFree _), (by (try simp only [ren_rowP]); exact fun i _ => rowPFree _ i), at_h (by exact dkH_eq (by first | simp only [ren_fmV] | rfl) (by first | simp only [ren_fmV] | rfl) (by first | simp only [ren_rowP] | rfl)) (hfiles3), by rintro r h ⟨rfl, rfl⟩; exact ⟨.inl rfl, by first | rfl | (simp only [ren_fmV, ren_rowP]; done) | (simp only [ren_fmV, ren_rowP]; rfl), rfl⟩⟩, ?_⟩
      refine ⟨_, rfl, ?_⟩
      refine ⟨_, ⟨[], _, four1 trivial trivial trivial trivial, hrecd.args ⟨vdk4 rfl rfl rfl rfl, trivial⟩, by rintro r h ⟨rfl, rfl⟩; exact ⟨.inl rfl, rfl, rfl⟩⟩, ?_⟩
      refine ⟨_, rfl, ?_⟩
      refine ⟨_, ⟨[], _, hsm3, by rintro r h ⟨rfl, rfl⟩; exact ⟨.inl rfl, rfl, rfl⟩⟩, ?_⟩
      refine ⟨_, rfl, ?_⟩
      refine ⟨_, rfl, ?_⟩
      refine ⟨_, rfl, ?_⟩
      refine ⟨_, rfl, ?_⟩
      refine ⟨_, ⟨[], _, hst, by rintro r h ⟨rfl, rfl⟩; exact ⟨.inl rfl, rfl, rfl⟩⟩, ?_⟩
      refine ⟨_, rfl, ?_⟩
      refine ⟨_, rfl, ?_⟩
      refine ⟨_, rfl, ?_⟩
      refine ⟨_, rfl, ?_⟩
      refine ⟨_, rfl, ?_⟩
      exact ⟨[], [], .tt, lehN _, leTT (decide_eq_true (by rw [w64 (by omega) (by omega)]; omega)), rfl, rfl⟩
    · rw [hr2 hn9] at hR3 hf3
      generalize recJ D = RR at *
      have hrel3 := hR3.now
      have hfiles3 := files_j RR V.files hrel3 (fun p hp => ⟨(hf3.fit.now p hp).1, Nat.le_trans (hf3.fit.now p hp).2.1 (by decide)⟩) (by have := hf3.fit.nowL; omega)
      have hlen3 : V.files.length ≤ 1000 := by have := rel_len hrel3; have e : (dkdR V).files = V.files := rfl; rw [e] at this; have := hf3.fit.nowL; omega
      have hbf3 : okBytes V.files := fit_bytes hrel3 hf3.fit.now
      have hsm3 := same_q hbf3 hbf3 (by omega) (by omega) rfl
      refine ⟨.inl rfl, ?_⟩
      refine .inr ⟨18, by decide +kernel, ?_⟩
      refine ⟨_, rfl, ?_⟩
      refine ⟨_, rfl, ?_⟩
      refine ⟨_, rfl, ?_⟩
      refine ⟨_, ⟨[0, 1, 8, 7], _, (by (try simp only [ren_fmV]); exact fmVFree _), (by (try simp only [ren_fmV]); exact fmVFree _), (by (try simp only [ren_rowP]); exact fun i _ => rowPFree _ i), at_h (by exact dkH_eq (by first | simp only [ren_fmV] | rfl) (by first | simp only [ren_fmV] | rfl) (by first | simp only [ren_rowP] | rfl)) (hfiles3), by rintro r h ⟨rfl, rfl⟩; exact ⟨.inl rfl, by first | rfl | (simp only [ren_fmV, ren_rowP]; done) | (simp only [ren_fmV, ren_rowP]; rfl), rfl⟩⟩, ?_⟩
      refine ⟨_, rfl, ?_⟩
      refine ⟨_, ⟨[], _, four1 trivial trivial trivial trivial, hrecd.args ⟨vdk4 rfl rfl rfl rfl, trivial⟩, by rintro r h ⟨rfl, rfl⟩; exact ⟨.inl rfl, rfl, rfl⟩⟩, ?_⟩
      refine ⟨_, rfl, ?_⟩
      refine ⟨_, ⟨[], _, hsm3, by rintro r h ⟨rfl, rfl⟩; exact ⟨.inl rfl, rfl, rfl⟩⟩, ?_⟩
      refine ⟨_, rfl, ?_⟩
      refine ⟨_, rfl, ?_⟩
      refine ⟨_, rfl, ?_⟩
      refine ⟨_, rfl, ?_⟩
      refine ⟨_, ⟨[], _, hst, by rintro r h ⟨rfl, rfl⟩; exact ⟨.inl rfl, rfl, rfl⟩⟩, ?_⟩
      refine ⟨_, rfl, ?_⟩
      refine ⟨_, rfl, ?_⟩
      refine ⟨_, rfl, ?_⟩
      refine ⟨_, rfl, ?_⟩
      refine ⟨_, rfl, ?_⟩
      exact ⟨[], [], .tt, lehN _, leTT (decide_eq_true (by rw [w64 (by omega) (by omega)]; omega)), rfl, rfl⟩
  · have hfc : FineJ 80 (cmJ l (intL l) D k) := fine_more (fine_cm hfl hs hb hp k) (by omega)
    have hRC := rel_cm hrD l (intL l) k
    have hrxc : 0 ≤ (cmD l (intL l) X k).room := by rw [room_cmD]; exact hrx
    obtain ⟨bz, hbz⟩ : ∃ bz : Bool, bz = decide (((l.length + 5 : Nat) : Int) ≤ xs.getD 1 0) := ⟨_, rfl⟩
    rw [← hbz] at hr1
    obtain ⟨E, hEE⟩ : ∃ E : Int, E = 0 := ⟨_, rfl⟩
    rw [← hEE] at hr1
    subst hr1
    have hcd : ACalls Tryz.prog 15 [dkdV X, flsV l, int .i64 (xs.getD 1 0)] [] (fun r h => r = .tup 3 (triple (dkdV (cmD l (intL l) X k)) (bool bz) (int .i64 E)) ∧ h = []) := hcd.mono fun r h ⟨h1, h2⟩ => by
      rcases h2 with ⟨h3, _⟩ | ⟨_, h2⟩
      · exact absurd hE h3
      · rw [hbz, hEE, hk]; exact ⟨h2, h1⟩
    rcases hh1 with ⟨rfl, rfl⟩ | ⟨rfl, rfl⟩ | ⟨_, rfl⟩
    · have hfc : FineJ 80 D := hfc
      have hRC : RelD D (dkdR X) := hrD
      have hrxc := hrx
      have hcd : ACalls Tryz.prog 15 [dkdV X, flsV l, int .i64 (xs.getD 1 0)] [] (fun r h => r = .tup 3 (triple (dkdV X) (bool bz) (int .i64 E)) ∧ h = []) := hcd
      have hg := (good_all hfc.good).2
      have hrel := hRC.now
      have hfiles := files_j D X.files hrel (fun p hp => ⟨(hfc.fit.now p hp).1, Nat.le_trans (hfc.fit.now p hp).2.1 (by decide)⟩) (by have := hfc.fit.nowL; omega)
      have hload := load_p D X.files hrel (fun p hp => ⟨(hfc.fit.now p hp).1, Nat.le_trans (hfc.fit.now p hp).2.1 (by decide)⟩) (by have := hfc.fit.nowL; omega)
      have hlen : X.files.length ≤ 1000 := by have := rel_len hrel; have e : (dkdR X).files = X.files := rfl; rw [e] at this; have := hfc.fit.nowL; omega
      have hloadd := load_d X (by omega)
      have hbf : okBytes X.files := fit_bytes hrel hfc.fit.now
      have hbl : okBytes (withoutR intN X.files) := fun f hf => hbf f (List.mem_filter.1 hf).1
      have hll := without_le intN X.files
      have hsm1 := same_q hbf hbf (by omega) (by omega) rfl
      have hsm2 := same_q hbl hbl (by omega) (by omega) rfl
      refine ⟨.inl rfl, ?_⟩
      refine ⟨⟨by decide, by decide⟩, ?_⟩
      refine ⟨by rw [hx]; decide, ?_⟩
      refine ⟨[], _, four1 trivial trivial trivial trivial, hcd.args ⟨vdk4 rfl rfl rfl rfl, VLe.refl _, VLe.refl _, trivial⟩, ?_⟩
      rintro r hh ⟨rfl, rfl⟩
      refine ⟨.inl rfl, ?_⟩
      refine .inr ⟨23, by decide +kernel, ?_⟩
      refine ⟨_, rfl, ?_⟩
      refine ⟨_, rfl, ?_⟩
      refine ⟨_, rfl, ?_⟩
      have vB : (bz != bz) = false := by cases bz <;> rfl
      have vE : decide (¬ E = E) = false := by simp
      rw [vB]
      refine ⟨_, rfl, ?_⟩
      refine ⟨_, rfl, ?_⟩
      refine ⟨_, rfl, ?_⟩
      refine ⟨_, rfl, ?_⟩
      rw [vE]
      refine ⟨_, rfl, ?_⟩
      refine ⟨_, rfl, ?_⟩
      refine ⟨_, rfl, ?_⟩
      refine ⟨_, ⟨[0, 1, 2, 3], _, (by (try simp only [ren_fmV]); exact fmVFree _), (by (try simp only [ren_fmV]); exact fmVFree _), (by (try simp only [ren_rowP]); exact fun i _ => rowPFree _ i), at_h (by exact dkH_eq (by first | simp only [ren_fmV] | rfl) (by first | simp only [ren_fmV] | rfl) (by first | simp only [ren_rowP] | rfl)) (hfiles), by rintro r h ⟨rfl, rfl⟩; exact ⟨.inl rfl, by first | rfl | (simp only [ren_fmV, ren_rowP]; done) | (simp only [ren_fmV, ren_rowP]; rfl), rfl⟩⟩, ?_⟩
      refine ⟨_, rfl, ?_⟩
      refine ⟨_, rfl, ?_⟩
      refine ⟨_, ⟨[], _, hsm1, by rintro r h ⟨rfl, rfl⟩; exact ⟨.inl rfl, rfl, rfl⟩⟩, ?_⟩
      refine ⟨_, rfl, ?_⟩
      refine ⟨_, rfl, ?_⟩
      refine ⟨_, rfl, ?_⟩
      refine ⟨_, rfl, ?_⟩
      refine ⟨_, ⟨[0, 1, 2, 3], _, (by (try simp only [ren_fmV]); exact fmVFree _), (by (try simp only [ren_fmV]); exact fmVFree _), (by (try simp only [ren_rowP]); exact fun i _ => rowPFree _ i), at_h (by exact dkH_eq (by first | simp only [ren_fmV] | rfl) (by first | simp only [ren_fmV] | rfl) (by first | simp only [ren_rowP] | rfl)) (hload), by rintro r h ⟨rfl, rfl⟩; exact ⟨.inl rfl, by first | rfl | (simp only [ren_fmV, ren_rowP]; done) | (simp only [ren_fmV, ren_rowP]; rfl), rfl⟩⟩, ?_⟩
      refine ⟨_, rfl, ?_⟩
      refine ⟨_, ⟨[], _, four1 trivial trivial trivial trivial, hloadd.args ⟨vdk4 rfl rfl rfl rfl, trivial⟩, by rintro r h ⟨rfl, rfl⟩; exact ⟨.inl rfl, rfl, rfl⟩⟩, ?_⟩
      refine ⟨_, ⟨[], _, hsm2, by rintro r h ⟨rfl, rfl⟩; exact ⟨.inl rfl, rfl, rfl⟩⟩, ?_⟩
      refine ⟨_, rfl, ?_⟩
      have hrec := recover_q D hfc (by decide)
      unfold recR at hrec
      have hrecd := recover_d D X hRC (fine_more hfc (by decide)) hrxc
      have hR3 := rel_rcD hRC
      have hf3 := fine_rc hfc
      have hr1 : getF intN (D).now = none → rcJ D = D := fun h => if_pos h
      have hr2 : getF intN (D).now ≠ none → rcJ D = recJ D := fun h => if_neg h
      generalize recD X = V at *
      refine ⟨[0, 1, 2, 3], _, (by (try simp only [ren_fmV]); exact fmVFree _), (by (try simp only [ren_fmV]); exact fmVFree _), (by (try simp only [ren_rowP]); exact fun i _ => rowPFree _ i), at_h ?_ (hrec), ?_⟩
      · exact dkH_eq (by first | simp only [ren_fmV] | rfl) (by first | simp only [ren_fmV] | rfl) (by first | simp only [ren_rowP] | rfl)
      rintro r hh ⟨rfl, (⟨hn9, rfl⟩ | ⟨hn9, rfl⟩)⟩
      · rw [hr1 hn9] at hR3 hf3
        have hrel3 := hR3.now
        have hfiles3 := files_j D V.files hrel3 (fun p hp => ⟨(hf3.fit.now p hp).1, Nat.le_trans (hf3.fit.now p hp).2.1 (by decide)⟩) (by have := hf3.fit.nowL; omega)
        have hlen3 : V.files.length ≤ 1000 := by have := rel_len hrel3; have e : (dkdR V).files = V.files := rfl; rw [e] at this; have := hf3.fit.nowL; omega
        have hbf3 : okBytes V.files := fit_bytes hrel3 hf3.fit.now
        have hsm3 := same_q hbf3 hbf3 (by omega) (by omega) rfl
        refine ⟨.inl rfl, ?_⟩
        refine .inr ⟨18, by decide +kernel, ?_⟩
        refine ⟨_, rfl, ?_⟩
        refine ⟨_, rfl, ?_⟩
        refine ⟨_, rfl, ?_⟩
        refine ⟨_, ⟨[0, 1, 2, 3], _, (by (try simp only [ren_fmV]); exact fmVFree _), (by (try simp only [ren_fmV]); exact fmVFree _), (by (try simp only [ren_rowP]); exact fun i _ => rowPFree _ i), at_h (by exact dkH_eq (by first | simp only [ren_fmV] | rfl) (by first | simp only [ren_fmV] | rfl) (by first | simp only [ren_rowP] | rfl)) (hfiles3), by rintro r h ⟨rfl, rfl⟩; exact ⟨.inl rfl, by first | rfl | (simp only [ren_fmV, ren_rowP]; done) | (simp only [ren_fmV, ren_rowP]; rfl), rfl⟩⟩, ?_⟩
        refine ⟨_, rfl, ?_⟩
        refine ⟨_, ⟨[], _, four1 trivial trivial trivial trivial, hrecd.args ⟨vdk4 rfl rfl rfl rfl, trivial⟩, by rintro r h ⟨rfl, rfl⟩; exact ⟨.inl rfl, rfl, rfl⟩⟩, ?_⟩
        refine ⟨_, rfl, ?_⟩
        refine ⟨_, ⟨[], _, hsm3, by rintro r h ⟨rfl, rfl⟩; exact ⟨.inl rfl, rfl, rfl⟩⟩, ?_⟩
        refine ⟨_, rfl, ?_⟩
        refine ⟨_, rfl, ?_⟩
        refine ⟨_, rfl, ?_⟩
        refine ⟨_, rfl, ?_⟩
        refine ⟨_, ⟨[], _, hst, by rintro r h ⟨rfl, rfl⟩; exact ⟨.inl rfl, rfl, rfl⟩⟩, ?_⟩
        refine ⟨_, rfl, ?_⟩
        refine ⟨_, rfl, ?_⟩
        refine ⟨_, rfl, ?_⟩
        refine ⟨_, rfl, ?_⟩
        refine ⟨_, rfl, ?_⟩
        exact ⟨[], [], .tt, lehN _, leTT (decide_eq_true (by rw [w64 (by omega) (by omega)]; omega)), rfl, rfl⟩
      · rw [hr2 hn9] at hR3 hf3
        generalize recJ D = RR at *
        have hrel3 := hR3.now
        have hfiles3 := files_j RR V.files hrel3 (fun p hp => ⟨(hf3.fit.now p hp).1, Nat.le_trans (hf3.fit.now p hp).2.1 (by decide)⟩) (by have := hf3.fit.nowL; omega)
        have hlen3 : V.files.length ≤ 1000 := by have := rel_len hrel3; have e : (dkdR V).files = V.files := rfl; rw [e] at this; have := hf3.fit.nowL; omega
        have hbf3 : okBytes V.files := fit_bytes hrel3 hf3.fit.now
        have hsm3 := same_q hbf3 hbf3 (by omega) (by omega) rfl
        refine ⟨.inl rfl, ?_⟩
        refine .inr ⟨18, by decide +kernel, ?_⟩
        refine ⟨_, rfl, ?_⟩
        refine ⟨_, rfl, ?_⟩
        refine ⟨_, rfl, ?_⟩
        refine ⟨_, ⟨[0, 1, 8, 7], _, (by (try simp only [ren_fmV]); exact fmVFree _), (by (try simp only [ren_fmV]); exact fmVFree _), (by (try simp only [ren_rowP]); exact fun i _ => rowPFree _ i), at_h (by exact dkH_eq (by first | simp only [ren_fmV] | rfl) (by first | simp only [ren_fmV] | rfl) (by first | simp only [ren_rowP] | rfl)) (hfiles3), by rintro r h ⟨rfl, rfl⟩; exact ⟨.inl rfl, by first | rfl | (simp only [ren_fmV, ren_rowP]; done) | (simp only [ren_fmV, ren_rowP]; rfl), rfl⟩⟩, ?_⟩
        refine ⟨_, rfl, ?_⟩
        refine ⟨_, ⟨[], _, four1 trivial trivial trivial trivial, hrecd.args ⟨vdk4 rfl rfl rfl rfl, trivial⟩, by rintro r h ⟨rfl, rfl⟩; exact ⟨.inl rfl, rfl, rfl⟩⟩, ?_⟩
        refine ⟨_, rfl, ?_⟩
        refine ⟨_, ⟨[], _, hsm3, by rintro r h ⟨rfl, rfl⟩; exact ⟨.inl rfl, rfl, rfl⟩⟩, ?_⟩
        refine ⟨_, rfl, ?_⟩
        refine ⟨_, rfl, ?_⟩
        refine ⟨_, rfl, ?_⟩
        refine ⟨_, rfl, ?_⟩
        refine ⟨_, ⟨[], _, hst, by rintro r h ⟨rfl, rfl⟩; exact ⟨.inl rfl, rfl, rfl⟩⟩, ?_⟩
        refine ⟨_, rfl, ?_⟩
        refine ⟨_, rfl, ?_⟩
        refine ⟨_, rfl, ?_⟩
        refine ⟨_, rfl, ?_⟩
        refine ⟨_, rfl, ?_⟩
        exact ⟨[], [], .tt, lehN _, leTT (decide_eq_true (by rw [w64 (by omega) (by omega)]; omega)), rfl, rfl⟩
    · generalize cmJ l (intL l) D 1 = C at *
      generalize cmD l (intL l) X 1 = XC at *
      have hg := (good_all hfc.good).2
      have hrel := hRC.now
      have hfiles := files_j C XC.files hrel (fun p hp => ⟨(hfc.fit.now p hp).1, Nat.le_trans (hfc.fit.now p hp).2.1 (by decide)⟩) (by have := hfc.fit.nowL; omega)
      have hload := load_p C XC.files hrel (fun p hp => ⟨(hfc.fit.now p hp).1, Nat.le_trans (hfc.fit.now p hp).2.1 (by decide)⟩) (by have := hfc.fit.nowL; omega)
      have hlen : XC.files.length ≤ 1000 := by have := rel_len hrel; have e : (dkdR XC).files = XC.files := rfl; rw [e] at this; have := hfc.fit.nowL; omega
      have hloadd := load_d XC (by omega)
      have hbf : okBytes XC.files := fit_bytes hrel hfc.fit.now
      have hbl : okBytes (withoutR intN XC.files) := fun f hf => hbf f (List.mem_filter.1 hf).1
      have hll := without_le intN XC.files
      have hsm1 := same_q hbf hbf (by omega) (by omega) rfl
      have hsm2 := same_q hbl hbl (by omega) (by omega) rfl
      refine ⟨.inl rfl, ?_⟩
      refine ⟨⟨by decide, by decide⟩, ?_⟩
      refine ⟨by rw [hx]; decide, ?_⟩
      refine ⟨[], _, four1 trivial trivial trivial trivial, hcd.args ⟨vdk4 rfl rfl rfl rfl, VLe.refl _, VLe.refl _, trivial⟩, ?_⟩
      rintro r hh ⟨rfl, rfl⟩
      refine ⟨.inl rfl, ?_⟩
      refine .inr ⟨23, by decide +kernel, ?_⟩
      refine ⟨_, rfl, ?_⟩
      refine ⟨_, rfl, ?_⟩
      refine ⟨_, rfl, ?_⟩
      have vB : (bz != bz) = false := by cases bz <;> rfl
      have vE : decide (¬ E = E) = false := by simp
      rw [vB]
      refine ⟨_, rfl, ?_⟩
      refine ⟨_, rfl, ?_⟩
      refine ⟨_, rfl, ?_⟩
      refine ⟨_, rfl, ?_⟩
      rw [vE]
      refine ⟨_, rfl, ?_⟩
      refine ⟨_, rfl, ?_⟩
      refine ⟨_, rfl, ?_⟩
      refine ⟨_, ⟨[0, 1, 2, 6], _, (by (try simp only [ren_fmV]); exact fmVFree _), (by (try simp only [ren_fmV]); exact fmVFree _), (by (try simp only [ren_rowP]); exact fun i _ => rowPFree _ i), at_h (by exact dkH_eq (by first | simp only [ren_fmV] | rfl) (by first | simp only [ren_fmV] | rfl) (by first | simp only [ren_rowP] | rfl)) (hfiles), by rintro r h ⟨rfl, rfl⟩; exact ⟨.inl rfl, by first | rfl | (simp only [ren_fmV, ren_rowP]; done) | (simp only [ren_fmV, ren_rowP]; rfl), rfl⟩⟩, ?_⟩
      refine ⟨_, rfl, ?_⟩
      refine ⟨_, rfl, ?_⟩
      refine ⟨_, ⟨[], _, hsm1, by rintro r h ⟨rfl, rfl⟩; exact ⟨.inl rfl, rfl, rfl⟩⟩, ?_⟩
      refine ⟨_, rfl, ?_⟩
      refine ⟨_, rfl, ?_⟩
      refine ⟨_, rfl, ?_⟩
      refine ⟨_, rfl, ?_⟩
      refine ⟨_, ⟨[0, 1, 2, 6], _, (by (try simp only [ren_fmV]); exact fmVFree _), (by (try simp only [ren_fmV]); exact fmVFree _), (by (try simp only [ren_rowP]); exact fun i _ => rowPFree _ i), at_h (by exact dkH_eq (by first | simp only [ren_fmV] | rfl) (by first | simp only [ren_fmV] | rfl) (by first | simp only [ren_rowP] | rfl)) (hload), by rintro r h ⟨rfl, rfl⟩; exact ⟨.inl rfl, by first | rfl | (simp only [ren_fmV, ren_rowP]; done) | (simp only [ren_fmV, ren_rowP]; rfl), rfl⟩⟩, ?_⟩
      refine ⟨_, rfl, ?_⟩
      refine ⟨_, ⟨[], _, four1 trivial trivial trivial trivial, hloadd.args ⟨vdk4 rfl rfl rfl rfl, trivial⟩, by rintro r h ⟨rfl, rfl⟩; exact ⟨.inl rfl, rfl, rfl⟩⟩, ?_⟩
      refine ⟨_, ⟨[], _, hsm2, by rintro r h ⟨rfl, rfl⟩; exact ⟨.inl rfl, rfl, rfl⟩⟩, ?_⟩
      refine ⟨_, rfl, ?_⟩
      have hrec := recover_q C hfc (by decide)
      unfold recR at hrec
      have hrecd := recover_d C XC hRC (fine_more hfc (by decide)) hrxc
      have hR3 := rel_rcD hRC
      have hf3 := fine_rc hfc
      have hr1 : getF intN (C).now = none → rcJ C = C := fun h => if_pos h
      have hr2 : getF intN (C).now ≠ none → rcJ C = recJ C := fun h => if_neg h
      generalize recD XC = V at *
      refine ⟨[0, 1, 2, 6], _, (by (try simp only [ren_fmV]); exact fmVFree _), (by (try simp only [ren_fmV]); exact fmVFree _), (by (try simp only [ren_rowP]); exact fun i _ => rowPFree _ i), at_h ?_ (hrec), ?_⟩
      · exact dkH_eq (by first | simp only [ren_fmV] | rfl) (by first | simp only [ren_fmV] | rfl) (by first | simp only [ren_rowP] | rfl)
      rintro r hh ⟨rfl, (⟨hn9, rfl⟩ | ⟨hn9, rfl⟩)⟩
      · rw [hr1 hn9] at hR3 hf3
        have hrel3 := hR3.now
        have hfiles3 := files_j C V.files hrel3 (fun p hp => ⟨(hf3.fit.now p hp).1, Nat.le_trans (hf3.fit.now p hp).2.1 (by decide)⟩) (by have := hf3.fit.nowL; omega)
        have hlen3 : V.files.length ≤ 1000 := by have := rel_len hrel3; have e : (dkdR V).files = V.files := rfl; rw [e] at this; have := hf3.fit.nowL; omega
        have hbf3 : okBytes V.files := fit_bytes hrel3 hf3.fit.now
        have hsm3 := same_q hbf3 hbf3 (by omega) (by omega) rfl
        refine ⟨.inl rfl, ?_⟩
        refine .inr ⟨18, by decide +kernel, ?_⟩
        refine ⟨_, rfl, ?_⟩
        refine ⟨_, rfl, ?_⟩
        refine ⟨_, rfl, ?_⟩
        refine ⟨_, ⟨[0, 1, 2, 6], _, (by (try simp only [ren_fmV]); exact fmVFree _), (by (try simp only [ren_fmV]); exact fmVFree _), (by (try simp only [ren_rowP]); exact fun i _ => rowPFree _ i), at_h (by exact dkH_eq (by first | simp only [ren_fmV] | rfl) (by first | simp only [ren_fmV] | rfl) (by first | simp only [ren_rowP] | rfl)) (hfiles3), by rintro r h ⟨rfl, rfl⟩; exact ⟨.inl rfl, by first | rfl | (simp only [ren_fmV, ren_rowP]; done) | (simp only [ren_fmV, ren_rowP]; rfl), rfl⟩⟩, ?_⟩
        refine ⟨_, rfl, ?_⟩
        refine ⟨_, ⟨[], _, four1 trivial trivial trivial trivial, hrecd.args ⟨vdk4 rfl rfl rfl rfl, trivial⟩, by rintro r h ⟨rfl, rfl⟩; exact ⟨.inl rfl, rfl, rfl⟩⟩, ?_⟩
        refine ⟨_, rfl, ?_⟩
        refine ⟨_, ⟨[], _, hsm3, by rintro r h ⟨rfl, rfl⟩; exact ⟨.inl rfl, rfl, rfl⟩⟩, ?_⟩
        refine ⟨_, rfl, ?_⟩
        refine ⟨_, rfl, ?_⟩
        refine ⟨_, rfl, ?_⟩
        refine ⟨_, rfl, ?_⟩
        refine ⟨_, ⟨[], _, hst, by rintro r h ⟨rfl, rfl⟩; exact ⟨.inl rfl, rfl, rfl⟩⟩, ?_⟩
        refine ⟨_, rfl, ?_⟩
        refine ⟨_, rfl, ?_⟩
        refine ⟨_, rfl, ?_⟩
        refine ⟨_, rfl, ?_⟩
        refine ⟨_, rfl, ?_⟩
        exact ⟨[], [], .tt, lehN _, leTT (decide_eq_true (by rw [w64 (by omega) (by omega)]; omega)), rfl, rfl⟩
      · rw [hr2 hn9] at hR3 hf3
        generalize recJ C = RR at *
        have hrel3 := hR3.now
        have hfiles3 := files_j RR V.files hrel3 (fun p hp => ⟨(hf3.fit.now p hp).1, Nat.le_trans (hf3.fit.now p hp).2.1 (by decide)⟩) (by have := hf3.fit.nowL; omega)
        have hlen3 : V.files.length ≤ 1000 := by have := rel_len hrel3; have e : (dkdR V).files = V.files := rfl; rw [e] at this; have := hf3.fit.nowL; omega
        have hbf3 : okBytes V.files := fit_bytes hrel3 hf3.fit.now
        have hsm3 := same_q hbf3 hbf3 (by omega) (by omega) rfl
        refine ⟨.inl rfl, ?_⟩
        refine .inr ⟨18, by decide +kernel, ?_⟩
        refine ⟨_, rfl, ?_⟩
        refine ⟨_, rfl, ?_⟩
        refine ⟨_, rfl, ?_⟩
        refine ⟨_, ⟨[0, 1, 9, 8], _, (by (try simp only [ren_fmV]); exact fmVFree _), (by (try simp only [ren_fmV]); exact fmVFree _), (by (try simp only [ren_rowP]); exact fun i _ => rowPFree _ i), at_h (by exact dkH_eq (by first | simp only [ren_fmV] | rfl) (by first | simp only [ren_fmV] | rfl) (by first | simp only [ren_rowP] | rfl)) (hfiles3), by rintro r h ⟨rfl, rfl⟩; exact ⟨.inl rfl, by first | rfl | (simp only [ren_fmV, ren_rowP]; done) | (simp only [ren_fmV, ren_rowP]; rfl), rfl⟩⟩, ?_⟩
        refine ⟨_, rfl, ?_⟩
        refine ⟨_, ⟨[], _, four1 trivial trivial trivial trivial, hrecd.args ⟨vdk4 rfl rfl rfl rfl, trivial⟩, by rintro r h ⟨rfl, rfl⟩; exact ⟨.inl rfl, rfl, rfl⟩⟩, ?_⟩
        refine ⟨_, rfl, ?_⟩
        refine ⟨_, ⟨[], _, hsm3, by rintro r h ⟨rfl, rfl⟩; exact ⟨.inl rfl, rfl, rfl⟩⟩, ?_⟩
        refine ⟨_, rfl, ?_⟩
        refine ⟨_, rfl, ?_⟩
        refine ⟨_, rfl, ?_⟩
        refine ⟨_, rfl, ?_⟩
        refine ⟨_, ⟨[], _, hst, by rintro r h ⟨rfl, rfl⟩; exact ⟨.inl rfl, rfl, rfl⟩⟩, ?_⟩
        refine ⟨_, rfl, ?_⟩
        refine ⟨_, rfl, ?_⟩
        refine ⟨_, rfl, ?_⟩
        refine ⟨_, rfl, ?_⟩
        refine ⟨_, rfl, ?_⟩
        exact ⟨[], [], .tt, lehN _, leTT (decide_eq_true (by rw [w64 (by omega) (by omega)]; omega)), rfl, rfl⟩
    · generalize cmJ l (intL l) D k = C at *
      generalize cmD l (intL l) X k = XC at *
      have hg := (good_all hfc.good).2
      have hrel := hRC.now
      have hfiles := files_j C XC.files hrel (fun p hp => ⟨(hfc.fit.now p hp).1, Nat.le_trans (hfc.fit.now p hp).2.1 (by decide)⟩) (by have := hfc.fit.nowL; omega)
      have hload := load_p C XC.files hrel (fun p hp => ⟨(hfc.fit.now p hp).1, Nat.le_trans (hfc.fit.now p hp).2.1 (by decide)⟩) (by have := hfc.fit.nowL; omega)
      have hlen : XC.files.length ≤ 1000 := by have := rel_len hrel; have e : (dkdR XC).files = XC.files := rfl; rw [e] at this; have := hfc.fit.nowL; omega
      have hloadd := load_d XC (by omega)
      have hbf : okBytes XC.files := fit_bytes hrel hfc.fit.now
      have hbl : okBytes (withoutR intN XC.files) := fun f hf => hbf f (List.mem_filter.1 hf).1
      have hll := without_le intN XC.files
      have hsm1 := same_q hbf hbf (by omega) (by omega) rfl
      have hsm2 := same_q hbl hbl (by omega) (by omega) rfl
      refine ⟨.inl rfl, ?_⟩
      refine ⟨⟨by decide, by decide⟩, ?_⟩
      refine ⟨by rw [hx]; decide, ?_⟩
      refine ⟨[], _, four1 trivial trivial trivial trivial, hcd.args ⟨vdk4 rfl rfl rfl rfl, VLe.refl _, VLe.refl _, trivial⟩, ?_⟩
      rintro r hh ⟨rfl, rfl⟩
      refine ⟨.inl rfl, ?_⟩
      refine .inr ⟨23, by decide +kernel, ?_⟩
      refine ⟨_, rfl, ?_⟩
      refine ⟨_, rfl, ?_⟩
      refine ⟨_, rfl, ?_⟩
      have vB : (bz != bz) = false := by cases bz <;> rfl
      have vE : decide (¬ E = E) = false := by simp
      rw [vB]
      refine ⟨_, rfl, ?_⟩
      refine ⟨_, rfl, ?_⟩
      refine ⟨_, rfl, ?_⟩
      refine ⟨_, rfl, ?_⟩
      rw [vE]
      refine ⟨_, rfl, ?_⟩
      refine ⟨_, rfl, ?_⟩
      refine ⟨_, rfl, ?_⟩
      refine ⟨_, ⟨[0, 1, 7, 6], _, (by (try simp only [ren_fmV]); exact fmVFree _), (by (try simp only [ren_fmV]); exact fmVFree _), (by (try simp only [ren_rowP]); exact fun i _ => rowPFree _ i), at_h (by exact dkH_eq (by first | simp only [ren_fmV] | rfl) (by first | simp only [ren_fmV] | rfl) (by first | simp only [ren_rowP] | rfl)) (hfiles), by rintro r h ⟨rfl, rfl⟩; exact ⟨.inl rfl, by first | rfl | (simp only [ren_fmV, ren_rowP]; done) | (simp only [ren_fmV, ren_rowP]; rfl), rfl⟩⟩, ?_⟩
      refine ⟨_, rfl, ?_⟩
      refine ⟨_, rfl, ?_⟩
      refine ⟨_, ⟨[], _, hsm1, by rintro r h ⟨rfl, rfl⟩; exact ⟨.inl rfl, rfl, rfl⟩⟩, ?_⟩
      refine ⟨_, rfl, ?_⟩
      refine ⟨_, rfl, ?_⟩
      refine ⟨_, rfl, ?_⟩
      refine ⟨_, rfl, ?_⟩
      refine ⟨_, ⟨[0, 1, 7, 6], _, (by (try simp only [ren_fmV]); exact fmVFree _), (by (try simp only [ren_fmV]); exact fmVFree _), (by (try simp only [ren_rowP]); exact fun i _ => rowPFree _ i), at_h (by exact dkH_eq (by first | simp only [ren_fmV] | rfl) (by first | simp only [ren_fmV] | rfl) (by first | simp only [ren_rowP] | rfl)) (hload), by rintro r h ⟨rfl, rfl⟩; exact ⟨.inl rfl, by first | rfl | (simp only [ren_fmV, ren_rowP]; done) | (simp only [ren_fmV, ren_rowP]; rfl), rfl⟩⟩, ?_⟩
      refine ⟨_, rfl, ?_⟩
      refine ⟨_, ⟨[], _, four1 trivial trivial trivial trivial, hloadd.args ⟨vdk4 rfl rfl rfl rfl, trivial⟩, by rintro r h ⟨rfl, rfl⟩; exact ⟨.inl rfl, rfl, rfl⟩⟩, ?_⟩
      refine ⟨_, ⟨[], _, hsm2, by rintro r h ⟨rfl, rfl⟩; exact ⟨.inl rfl, rfl, rfl⟩⟩, ?_⟩
      refine ⟨_, rfl, ?_⟩
      have hrec := recover_q C hfc (by decide)
      unfold recR at hrec
      have hrecd := recover_d C XC hRC (fine_more hfc (by decide)) hrxc
      have hR3 := rel_rcD hRC
      have hf3 := fine_rc hfc
      have hr1 : getF intN (C).now = none → rcJ C = C := fun h => if_pos h
      have hr2 : getF intN (C).now ≠ none → rcJ C = recJ C := fun h => if_neg h
      generalize recD XC = V at *
      refine ⟨[0, 1, 7, 6], _, (by (try simp only [ren_fmV]); exact fmVFree _), (by (try simp only [ren_fmV]); exact fmVFree _), (by (try simp only [ren_rowP]); exact fun i _ => rowPFree _ i), at_h ?_ (hrec), ?_⟩
      · exact dkH_eq (by first | simp only [ren_fmV] | rfl) (by first | simp only [ren_fmV] | rfl) (by first | simp only [ren_rowP] | rfl)
      rintro r hh ⟨rfl, (⟨hn9, rfl⟩ | ⟨hn9, rfl⟩)⟩
      · rw [hr1 hn9] at hR3 hf3
        have hrel3 := hR3.now
        have hfiles3 := files_j C V.files hrel3 (fun p hp => ⟨(hf3.fit.now p hp).1, Nat.le_trans (hf3.fit.now p hp).2.1 (by decide)⟩) (by have := hf3.fit.nowL; omega)
        have hlen3 : V.files.length ≤ 1000 := by have := rel_len hrel3; have e : (dkdR V).files = V.files := rfl; rw [e] at this; have := hf3.fit.nowL; omega
        have hbf3 : okBytes V.files := fit_bytes hrel3 hf3.fit.now
        have hsm3 := same_q hbf3 hbf3 (by omega) (by omega) rfl
        refine ⟨.inl rfl, ?_⟩
        refine .inr ⟨18, by decide +kernel, ?_⟩
        refine ⟨_, rfl, ?_⟩
        refine ⟨_, rfl, ?_⟩
        refine ⟨_, rfl, ?_⟩
        refine ⟨_, ⟨[0, 1, 7, 6], _, (by (try simp only [ren_fmV]); exact fmVFree _), (by (try simp only [ren_fmV]); exact fmVFree _), (by (try simp only [ren_rowP]); exact fun i _ => rowPFree _ i), at_h (by exact dkH_eq (by first | simp only [ren_fmV] | rfl) (by first | simp only [ren_fmV] | rfl) (by first | simp only [ren_rowP] | rfl)) (hfiles3), by rintro r h ⟨rfl, rfl⟩; exact ⟨.inl rfl, by first | rfl | (simp only [ren_fmV, ren_rowP]; done) | (simp only [ren_fmV, ren_rowP]; rfl), rfl⟩⟩, ?_⟩
        refine ⟨_, rfl, ?_⟩
        refine ⟨_, ⟨[], _, four1 trivial trivial trivial trivial, hrecd.args ⟨vdk4 rfl rfl rfl rfl, trivial⟩, by rintro r h ⟨rfl, rfl⟩; exact ⟨.inl rfl, rfl, rfl⟩⟩, ?_⟩
        refine ⟨_, rfl, ?_⟩
        refine ⟨_, ⟨[], _, hsm3, by rintro r h ⟨rfl, rfl⟩; exact ⟨.inl rfl, rfl, rfl⟩⟩, ?_⟩
        refine ⟨_, rfl, ?_⟩
        refine ⟨_, rfl, ?_⟩
        refine ⟨_, rfl, ?_⟩
        refine ⟨_, rfl, ?_⟩
        refine ⟨_, ⟨[], _, hst, by rintro r h ⟨rfl, rfl⟩; exact ⟨.inl rfl, rfl, rfl⟩⟩, ?_⟩
        refine ⟨_, rfl, ?_⟩
        refine ⟨_, rfl, ?_⟩
        refine ⟨_, rfl, ?_⟩
        refine ⟨_, rfl, ?_⟩
        refine ⟨_, rfl, ?_⟩
        exact ⟨[], [], .tt, lehN _, leTT (decide_eq_true (by rw [w64 (by omega) (by omega)]; omega)), rfl, rfl⟩
      · rw [hr2 hn9] at hR3 hf3
        generalize recJ C = RR at *
        have hrel3 := hR3.now
        have hfiles3 := files_j RR V.files hrel3 (fun p hp => ⟨(hf3.fit.now p hp).1, Nat.le_trans (hf3.fit.now p hp).2.1 (by decide)⟩) (by have := hf3.fit.nowL; omega)
        have hlen3 : V.files.length ≤ 1000 := by have := rel_len hrel3; have e : (dkdR V).files = V.files := rfl; rw [e] at this; have := hf3.fit.nowL; omega
        have hbf3 : okBytes V.files := fit_bytes hrel3 hf3.fit.now
        have hsm3 := same_q hbf3 hbf3 (by omega) (by omega) rfl
        refine ⟨.inl rfl, ?_⟩
        refine .inr ⟨18, by decide +kernel, ?_⟩
        refine ⟨_, rfl, ?_⟩
        refine ⟨_, rfl, ?_⟩
        refine ⟨_, rfl, ?_⟩
        refine ⟨_, ⟨[0, 1, 10, 9], _, (by (try simp only [ren_fmV]); exact fmVFree _), (by (try simp only [ren_fmV]); exact fmVFree _), (by (try simp only [ren_rowP]); exact fun i _ => rowPFree _ i), at_h (by exact dkH_eq (by first | simp only [ren_fmV] | rfl) (by first | simp only [ren_fmV] | rfl) (by first | simp only [ren_rowP] | rfl)) (hfiles3), by rintro r h ⟨rfl, rfl⟩; exact ⟨.inl rfl, by first | rfl | (simp only [ren_fmV, ren_rowP]; done) | (simp only [ren_fmV, ren_rowP]; rfl), rfl⟩⟩, ?_⟩
        refine ⟨_, rfl, ?_⟩
        refine ⟨_, ⟨[], _, four1 trivial trivial trivial trivial, hrecd.args ⟨vdk4 rfl rfl rfl rfl, trivial⟩, by rintro r h ⟨rfl, rfl⟩; exact ⟨.inl rfl, rfl, rfl⟩⟩, ?_⟩
        refine ⟨_, rfl, ?_⟩
        refine ⟨_, ⟨[], _, hsm3, by rintro r h ⟨rfl, rfl⟩; exact ⟨.inl rfl, rfl, rfl⟩⟩, ?_⟩
        refine ⟨_, rfl, ?_⟩
        refine ⟨_, rfl, ?_⟩
        refine ⟨_, rfl, ?_⟩
        refine ⟨_, rfl, ?_⟩
        refine ⟨_, ⟨[], _, hst, by rintro r h ⟨rfl, rfl⟩; exact ⟨.inl rfl, rfl, rfl⟩⟩, ?_⟩
        refine ⟨_, rfl, ?_⟩
        refine ⟨_, rfl, ?_⟩
        refine ⟨_, rfl, ?_⟩
        refine ⟨_, rfl, ?_⟩
        refine ⟨_, rfl, ?_⟩
        exact ⟨[], [], .tt, lehN _, leTT (decide_eq_true (by rw [w64 (by omega) (by omega)]; omega)), rfl, rfl⟩
end
end Go.Proofs.YtflclafbieokiaaGreatDoor.Jr

/-
  What every row of this program's laws wants: its knobs and its layout.
-/
namespace Go.Proofs.YtflclafbieokiaaGreatDoor.AL
open Go Go.RowKit Go.ChangeShapes

theorem own : ownKnob Tryz.prog.godebug = none := by kernel_rfl
theorem laidOut : laidOutB Tryz.prog = true := by kernel_rfl
theorem wf_u8 {n : Int} (h : (Lit.int .u8 n).wf = true) : 0 ≤ n ∧ n < 256 := by
  simp only [Lit.wf, Bool.and_eq_true, decide_eq_true_eq] at h; exact ⟨Int.le_trans (by decide) h.1, Int.lt_of_le_of_lt h.2 (by decide)⟩
end Go.Proofs.YtflclafbieokiaaGreatDoor.AL

/-
  Files that came in. No program in sight.
-/
set_option linter.unusedVariables false
set_option linter.unusedSectionVars false
namespace Go.Proofs.YtflclafbieokiaaGreatDoor.AL
open Go Go.ChangeShapes Go.WideShapes Go.ChangeAt Go.RowKit Go.Deep Go.Joins Go.WideElems
open Go.Proofs.YtflclafbieokiaaGreatDoor.Us

section
variable {H : Type} {enc : TypeId × Value → H} {P : Program}

structure FiT (P : Program) (t e : TypeId) (f0 f1 : Field) : Prop where
  s : P.underlying t = some (.struct #[f0, f1])
  c : P.cellsOf t = 2
  off : f0.offset = 0 ∧ f1.offset = 1
  path : P.underlying f0.type = some .string
  cpath : P.cellsOf f0.type = 1
  data : P.underlying f1.type = some (.slice e)
  cdata : P.cellsOf f1.type = 1
  byte : P.underlying e = some (.int .u8)
  cbyte : P.cellsOf e = 1
  bbyte : P.bytesOf e = 1
theorem fiT : ∃ F : Field × Field, FiT Tryz.prog 36 5 F.1 F.2 :=
  ⟨⟨_, _⟩, { s := Tryz.underlying36, c := (by kernel_rfl), off := ⟨rfl, rfl⟩, path := (by kernel_rfl), cpath := (by kernel_rfl), data := (by kernel_rfl), cdata := (by kernel_rfl), byte := (by kernel_rfl), cbyte := (by kernel_rfl), bbyte := (by kernel_rfl) }⟩

theorem ro_ints {w : World} {S : Nat → Prop} {L : Loc} {xs : List Int} {f : Nat → AV} {v : Value} (h : den w S L (.ro xs.length 1 f) v) (hf : ∀ i, i < xs.length → f i = int .u8 (xs.getD i 0)) : den w S L (.roI .u8 xs) v := by
  obtain ⟨A, cap, e, hc, hd⟩ := h
  refine ⟨A, cap, e, hc, fun i hi => ?_⟩
  obtain ⟨u, h1, h2⟩ := hd i (by omega)
  rw [hf i hi] at h2
  obtain rfl := h2
  exact h1
theorem all_mem {e : TypeId} {d : DataW H} {n : Nat} (hn : n ∈ d.weights P e) : ∀ {es : List (DataW H)}, d ∈ es → n ∈ DataW.weightsAll P e es
  | x :: es, h => by
    unfold DataW.weightsAll
    rcases List.mem_cons.1 h with rfl | h
    · exact List.mem_append_left _ hn
    · exact List.mem_append_right _ (all_mem hn h)

theorem trod_rows2 {W : World} {fuel base c : Nat} {sp : Nat → Bool} {hd : Bool} {t e : TypeId} {u : Value} {x : DataW H × List MemPlace} (ht : P.underlying t = some (.slice e)) (hC : P.cellsOf e = c) (hc : 0 < c)
    (hf : DataW.trod enc P W base sp hd fuel t [u] = some x) (hlt : ∀ p ∈ x.2, p.block < W.heap.size) :
    ∃ (A : Option Addr) (len cap n : Nat) (cs : Nat → List Value) (y : Nat → DataW H × List MemPlace), u = .slice A len cap ∧ len ≤ cap ∧ len ≤ maxLen ∧ (x.1 = .nil ∧ len = 0 ∨ ∃ es rs, x.1 = .slice es rs ∧ es.length = len) ∧
      ∀ i, i < len → DataW.trod enc P W base sp hd n e (cs i) = some (y i) ∧ (cs i).length = c ∧ (∀ p ∈ (y i).2, p ∈ x.2) ∧ (∀ n ∈ (y i).1.weights P e, n ∈ x.1.weights P t) ∧ ∀ j, j < c → ∃ v, (cs i)[j]? = some v ∧ rcell W (allB W) A (i * c + j) v := by
  rcases DataW.trod_slice ht hf with ⟨hcs, rfl⟩ | ⟨a, len, cap, elems, rest, n, _, hcs, rfl, hb, hl, hm, hlen, hel, hsp, hns⟩
  · simp at hcs
    subst hcs
    exact ⟨none, 0, 0, 0, fun _ => [], fun _ => (.nil, []), rfl, Nat.le_refl _, Nat.zero_le _, .inl ⟨rfl, rfl⟩, fun i hi => absurd hi (Nat.not_lt_zero _)⟩
  · simp at hcs
    subst hcs
    have key : ∀ i, ∃ (q : List Value × (DataW H × List MemPlace)), i < len → DataW.trod enc P W base sp hd n e q.1 = some q.2 ∧ q.1.length = c ∧ elems[i]? = some q.2 ∧ ∀ j, j < c → ∃ v, q.1[j]? = some v ∧ W.cell? ((a.add (i * c)).add j) = some v := fun i => by
      by_cases hi : i < len
      · have h2 := hel i hi
        rw [List.getElem?_eq_getElem (by omega), Option.bind_eq_some_iff] at h2
        obtain ⟨cs, hcc, hy⟩ := h2
        rw [hC] at hcc
        obtain ⟨_, hlen2, hcell⟩ := World.cells?_some hcc
        refine ⟨(cs, _), fun _ => ⟨hy, hlen2, by rw [List.getElem?_eq_getElem (by omega)], fun j hj => ⟨cs[j]'(by omega), List.getElem?_eq_getElem (by show j < cs.length; omega), ?_⟩⟩⟩
        rw [hcell j (by omega), List.getElem?_eq_getElem (by omega)]
      · exact ⟨([], (.nil, [])), fun h => absurd h hi⟩
    refine ⟨some a, len, cap, n, fun i => (key i).choose.1, fun i => (key i).choose.2, rfl, hl, by omega, .inr ⟨_, _, rfl, by simp [hlen]⟩, fun i hi => ?_⟩
    obtain ⟨h1, h2, h3, h4⟩ := (key i).choose_spec hi
    refine ⟨h1, h2, fun p hp => ?_, fun n hn => ?_, fun j hj => ?_⟩
    · refine List.mem_append_right _ (List.mem_flatMap.2 ⟨_, List.mem_append_left _ (List.mem_of_getElem? h3), hp⟩)
    · unfold DataW.weights
      rw [ht]
      exact List.mem_cons_of_mem _ (List.mem_append_left _ (all_mem hn (List.mem_map.2 ⟨_, List.mem_of_getElem? h3, rfl⟩)))
    · obtain ⟨v, h5, h6⟩ := h4 j hj
      obtain ⟨_, _, _, k4⟩ := (key 0).choose_spec (by omega)
      obtain ⟨v0, _, k6⟩ := k4 0 hc
      obtain ⟨ab, ao, spot⟩ := a
      have hspot : spot = none := by simpa [Addr.add] using World.cell?_spot k6
      subst hspot
      rw [Addr.add_lit, Addr.add_lit, Nat.add_assoc] at h6
      refine ⟨v, h5, ab, ao, rfl, ?_, h6⟩
      refine hlt (.cell ab (ao + (i * c + j))) (List.mem_append_left _ ?_)
      simp only [MemPlace.row, List.mem_map, List.mem_range]
      refine ⟨i * c + j, ?_, rfl⟩
      rw [hC]
      have : i * c + j < (i + 1) * c := by rw [Nat.add_mul]; omega
      have h7 : (i + 1) * c ≤ elems.length * c := Nat.mul_le_mul_right _ (by omega)
      have h8 : elems.length * c ≤ (elems.length + rest.length) * c := Nat.mul_le_mul_right _ (by omega)
      omega

theorem open_list2 {α : Type} (cell : α → Nat → AV) (dflt : α) (good : DataW H → α → Prop) {W : World} {fuel base c : Nat} {sp : Nat → Bool} {hd : Bool} {t e : TypeId} {u : Value} {x : DataW H × List MemPlace} (ht : P.underlying t = some (.slice e)) (hC : P.cellsOf e = c) (hc : 0 < c)
    (hel : ∀ (n : Nat) (cs : List Value) (y : DataW H × List MemPlace), DataW.trod enc P W base sp hd n e cs = some y → (∀ p ∈ y.2, p.block < W.heap.size) → ∃ a, good y.1 a ∧ ∀ j, j < c → ∀ v, cs[j]? = some v → den W (allB W) .zero (cell a j) v)
    (hf : DataW.trod enc P W base sp hd fuel t [u] = some x) (hlt : ∀ p ∈ x.2, p.block < W.heap.size) :
    ∃ L : List α, (∀ a ∈ L, ∃ z : DataW H, good z a ∧ ∀ n ∈ z.weights P e, n ∈ x.1.weights P t) ∧ L.length ≤ maxLen ∧ den W (allB W) .zero (.ro L.length c fun i => cell (L.getD (i / c) dflt) (i % c)) u ∧ (x.1 = .nil ∧ L = [] ∨ ∃ es rs, x.1 = .slice es rs ∧ es.length = L.length) := by
  obtain ⟨A, len, cap, n, cs, y, rfl, h1, h2, h3, h4⟩ := trod_rows2 ht hC hc hf hlt
  have key : ∀ i, ∃ a, i < len → good (y i).1 a ∧ ∀ j, j < c → ∀ v, (cs i)[j]? = some v → den W (allB W) .zero (cell a j) v := fun i => by
    by_cases hi : i < len
    · obtain ⟨g1, g2, g3, _, g4⟩ := h4 i hi
      obtain ⟨a, k1, k2⟩ := hel n (cs i) (y i) g1 (fun p hp => hlt p (g3 p hp))
      exact ⟨a, fun _ => ⟨k1, k2⟩⟩
    · exact ⟨dflt, fun h => absurd h hi⟩
  let L : List α := (List.range len).map fun i => (key i).choose
  have hL : L.length = len := by simp [L]
  have hget : ∀ i, i < len → L.getD i dflt = (key i).choose := fun i hi => by simp [L, List.getD_eq_getElem?_getD, hi]
  refine ⟨L, fun a ha => ?_, by rw [hL]; exact h2, ⟨A, cap, by rw [hL], by rw [hL]; exact h1, fun i hi => ?_⟩, ?_⟩
  · obtain ⟨i, hi, rfl⟩ := List.mem_map.1 ha
    exact ⟨_, ((key i).choose_spec (List.mem_range.1 hi)).1, (h4 i (List.mem_range.1 hi)).2.2.2.1⟩
  · rw [hL] at hi
    have hi2 : i / c < len := (Nat.div_lt_iff_lt_mul hc).2 hi
    obtain ⟨_, _, _, _, g4⟩ := h4 (i / c) hi2
    obtain ⟨v, g5, g6⟩ := g4 (i % c) (Nat.mod_lt _ hc)
    refine ⟨v, ?_, ?_⟩
    · have e : i / c * c + i % c = i := by rw [Nat.mul_comm]; exact Nat.div_add_mod i c
      rwa [e] at g6
    · show den W (allB W) .zero (cell (L.getD (i / c) dflt) (i % c)) v
      rw [hget _ hi2]
      exact ((key (i / c)).choose_spec hi2).2 _ (Nat.mod_lt _ hc) v g5
  · rcases h3 with ⟨a, b⟩ | ⟨es, rs, a, b⟩
    · exact .inl ⟨a, by apply List.eq_nil_of_length_eq_zero; omega⟩
    · exact .inr ⟨es, rs, a, by omega⟩

theorem open_file_cells {W : World} {n base : Nat} {t e : TypeId} {f0 f1 : Field} {cs : List Value} {y : DataW H × List MemPlace} (T : FiT P t e f0 f1)
    (hf : DataW.trod enc P W base (fun _ => true) true n t cs = some y) (hlt : ∀ p ∈ y.2, p.block < W.heap.size) :
    ∃ f : Fl, (∀ x ∈ f.data, 0 ≤ x ∧ x < 256) ∧ (∀ R, (∀ n ∈ y.1.weights P t, n ≤ R) → f.path.size ≤ R ∧ f.data.length ≤ R) ∧ ∀ j, j < 2 → ∀ v, cs[j]? = some v → den W (allB W) .zero (flC f j) v := by
  obtain ⟨o0, o1⟩ := T.off
  obtain ⟨xs, m, _, hy, hlen, hxl, hfs⟩ := DataW.trod_struct T.s hf
  have hx : xs.length = 2 := hxl
  have e0 := hfs 0 f0 rfl
  have e1 := hfs 1 f1 rfl
  rw [T.cpath, o0, List.getElem?_eq_getElem (by omega)] at e0
  rw [T.cdata, o1, List.getElem?_eq_getElem (by omega)] at e1
  obtain ⟨s, qs, hxs, _⟩ := DataW.trod_string T.path e0
  have hlt1 : ∀ p ∈ (xs[1]'(by omega)).2, p.block < W.heap.size := fun p hp => hlt p (by
    rw [hy]; exact List.mem_flatMap.2 ⟨_, List.getElem_mem (by omega), hp⟩)
  have one : ∃ u, (cs.drop 1).take 1 = [u] := by
    rcases DataW.trod_slice T.data e1 with ⟨hcs, _⟩ | ⟨a, len, cap, elems, rest, n', _, hcs, _⟩
    · exact ⟨_, hcs⟩
    · exact ⟨_, hcs⟩
  obtain ⟨u, hu⟩ := one
  rw [hu] at e1
  obtain ⟨D, d1, d2, d3, d4⟩ := open_list (fun (x : Int) (_ : Nat) => int .u8 x) 0 (fun x => 0 ≤ x ∧ x < 256) (c := 1) T.data T.cbyte (by decide) (fun n cs y h hl => by
    obtain ⟨z, e1, _, hw⟩ := DataW.trod_int T.byte h
    refine ⟨z, wf_u8 hw, fun j hj v hv => ?_⟩
    obtain rfl : j = 0 := by omega
    rw [e1] at hv
    cases hv
    rfl) e1 hlt1
  refine ⟨⟨s, D⟩, d1, fun R hR => ?_, fun j hj v hv => ?_⟩
  · have hy1 : y.1 = .agg (xs.map (·.1)) := by rw [hy]
    rw [hy1] at hR
    have mem : ∀ {j : Nat} {f : Field} {d : DataW H}, (#[f0, f1] : Array Field)[j]? = some f → (xs.map (·.1))[j]? = some d → ∀ n ∈ d.weights P f.type, n ∈ DataW.weights P t (.agg (xs.map (·.1))) := fun {j f d} hj hd n hn => by
      unfold DataW.weights
      rw [T.s]
      refine DataW.weights_mem_each (j := j) (t := f.type) (d := d) ?_ hd n hn
      have h2 : ([f0, f1] : List Field)[j]? = some f := by simpa using hj
      show (([f0, f1] : List Field).map (·.type))[j]? = _
      rw [List.getElem?_map, h2]; rfl
    refine ⟨?_, ?_⟩
    · refine hR _ (mem (j := 0) (f := f0) (d := .lit (.string s.data.toList)) rfl (by rw [List.getElem?_map, List.getElem?_eq_getElem (by omega), hxs]; rfl) _ ?_)
      unfold DataW.weights
      exact List.mem_singleton.2 rfl
    · rcases d4 with ⟨_, rfl⟩ | ⟨es, rs, h1, h2⟩
      · exact Nat.zero_le _
      · have h3 := hR _ (mem (j := 1) (f := f1) (d := (xs[1]'(by omega)).1) rfl (by rw [List.getElem?_map, List.getElem?_eq_getElem (by omega)]; rfl) ((es.length + rs.length) * P.bytesOf e) (by
          rw [h1]
          unfold DataW.weights
          rw [T.data]
          exact List.mem_cons_self ..))
        rw [T.bbyte] at h3
        show D.length ≤ R
        omega
  · match j, hj with
    | 0, _ =>
      have : (cs.drop 0).take 1 = [.string s] := qs
      rw [one_cell this hv]; rfl
    | 1, _ =>
      rw [one_cell hu hv]
      exact ro_ints d3 fun i hi => by
        show int .u8 (D.getD (i / 1) 0) = _
        rw [Nat.div_one]

theorem open_files {W : World} {base : Nat} {tv t e : TypeId} {f0 f1 : Field} {v : Value} {d : DataW H} {ps : List MemPlace} (htv : P.underlying tv = some (.slice t)) (T : FiT P t e f0 f1)
    (hval : Value.okWide P W .any base tv v) (h : DataW.Trod enc P W 0 (fun _ => true) true tv v d ps) (hlt : ∀ x ∈ ps, x.block < W.heap.size) :
    ∃ L : List Fl, den W (allB W) .zero (flsV L) v ∧ (d = .nil ∧ L = [] ∨ ∃ es rs, d = .slice es rs ∧ es.length = L.length) ∧ okBytes L ∧
      ∀ R, (∀ n ∈ d.weights P tv, n ≤ R) → ∀ f ∈ L, f.path.size ≤ R ∧ f.data.length ≤ R := by
  obtain ⟨a1, len, cap, rfl⟩ := okWide_slice htv hval
  obtain ⟨fuel, hf⟩ := h
  obtain ⟨L, h1, _, h2, h3⟩ := open_list2 flC fl0 (fun z f => (∀ x ∈ f.data, 0 ≤ x ∧ x < 256) ∧ ∀ R, (∀ n ∈ z.weights P t, n ≤ R) → f.path.size ≤ R ∧ f.data.length ≤ R) (c := 2) htv T.c (by decide) (fun n cs y hy hl => by
    obtain ⟨f, g1, g2, g3⟩ := open_file_cells T hy hl
    exact ⟨f, ⟨g1, g2⟩, g3⟩) hf hlt
  refine ⟨L, h2, h3, fun f hf => ?_, fun R hR f hf => ?_⟩
  · obtain ⟨z, g, _⟩ := h1 f hf
    exact g.1
  · obtain ⟨z, g, hz⟩ := h1 f hf
    exact g.2 R fun n hn => hR n (hz n hn)
end
end Go.Proofs.YtflclafbieokiaaGreatDoor.AL

/-
  Where a commit is broken off, as it came in. No program in sight.
-/
set_option linter.unusedVariables false
set_option linter.unusedSectionVars false
namespace Go.Proofs.YtflclafbieokiaaGreatDoor.AL
open Go Go.ChangeShapes Go.WideShapes Go.ChangeAt Go.RowKit Go.Deep Go.Joins Go.WideElems
open Go.Proofs.YtflclafbieokiaaGreatDoor.Jr

section
variable {H : Type} {enc : TypeId × Value → H} {P : Program}

structure BrT (P : Program) (t ea u : TypeId) (f0 f1 f2 f3 : Field) : Prop where
  s : P.underlying t = some (.struct #[f0, f1, f2, f3])
  c : P.cellsOf t = 4
  off : f0.offset = 0 ∧ f1.offset = 1 ∧ f2.offset = 2 ∧ f3.offset = 3
  k0 : P.underlying f0.type = some (.int .u8)
  c0 : P.cellsOf f0.type = 1
  k1 : P.underlying f1.type = some (.int .u8)
  c1 : P.cellsOf f1.type = 1
  k2 : P.underlying f2.type = some (.int .u8)
  c2 : P.cellsOf f2.type = 1
  again : P.underlying f3.type = some (.slice ea)
  cagain : P.cellsOf f3.type = 1
  arr : P.underlying ea = some (.array 2 u)
  carr : P.cellsOf ea = 2
  byte : P.underlying u = some (.int .u8)
  cbyte : P.cellsOf u = 1
structure Fs4 where
  f0 : Field
  f1 : Field
  f2 : Field
  f3 : Field
end
end Go.Proofs.YtflclafbieokiaaGreatDoor.AL
