/-
  The law JournalThrough, walked.
-/
import Derived.Test.YtflclafbieokiaaGreatDoorBrg
set_option linter.unusedVariables false
set_option linter.unusedSectionVars false
set_option linter.unusedSimpArgs false
set_option maxRecDepth 10000
namespace Go.Proofs.YtflclafbieokiaaGreatDoor.Jr
open Go AL Us Dk Sh

theorem cm_no {l : List Fl} {d : DkF} (h : CmOk l d) : getF intN (cmJ l (intL l) d (l.length + 5)).now = none := by
  rw [cm_end h]; exact (new_W h).2
theorem cm_stab {l : List Fl} {d : DkF} (h : CmOk l d) : Stab (cmJ l (intL l) d (l.length + 5)) := ⟨by rw [cm_5]; rfl, by rw [cm_5]; rfl, good_cm h.good _⟩
theorem cm_get {l : List Fl} {d : DkF} (h : CmOk l d) {f : Fl} (hf : f ∈ l) : getF f.path (cmJ l (intL l) d (l.length + 5)).now = some f.data := by
  have hn : f.path ≠ intN := fun e => h.bad f hf (.inl e)
  have hd : (l.map Fl.path).Nodup := Classical.byContradiction fun x => (putE_ok.1 h.pe).2 x
  rw [cm_end h]
  show getF f.path (delF intN _) = _
  rw [get_del_other hn, get_W hn]
  exact sets_get hd hf
section
variable [Globs]

theorem com0_q {k : Nat} (d : DkF) (l : List Fl) (h : FineJ k d) (hk : k ≤ 1000) (hs : smallF l) (hz : okSizes l) : ACalls Tryz.prog 14 [.ptr 0 0, flsV l, int .i64 0] (dkH d) (fun r h => r = .tup 2 (pair .ff .top) ∧ h = dkH d) :=
  lessD (commit_q d l 0 h hk hs hz) fun r h' hc => by
    rcases com_cases hc with ⟨_, e1, e2⟩ | ⟨_, _, k, hk0, e1, hh1⟩
    · subst e1 e2
      exact ⟨[0, 1, 2, 3], dkH d, .tup 2 (pair .ff .top), lehDk rfl rfl rfl rfl rfl rfl rfl rfl, le_pair .rff (.top _), rfl, rfl⟩
    · have hdec : decide (((l.length + 5 : Nat) : Int) ≤ 0) = false := decide_eq_false (by omega)
      rw [hdec] at e1
      have hk00 : k = 0 := by rw [hk0]; exact Nat.min_eq_right (Nat.zero_le _)
      subst hk00
      rcases hh1 with ⟨_, e2⟩ | ⟨h1, _⟩ | ⟨h1, _⟩
      · subst e1 e2
        exact ⟨[0, 1, 2, 3], dkH d, .tup 2 (pair .ff .top), lehDk rfl rfl rfl rfl rfl rfl rfl rfl, le_pair .rff (.top _), rfl, rfl⟩
      · cases h1
      · omega

def comT (d : DkF) (l : List Fl) (r : AV) (h : List AO) : Prop := (∃ e : Int, e ≠ 0 ∧ r = .tup 2 (pair .ff (int .i64 e)) ∧ h = dkH d) ∨ (CmOk l d ∧ r = .tup 2 (pair .tt (int .i64 0)) ∧ h = dkT (cmJ l (intL l) d (l.length + 5)))
theorem com100_q {k : Nat} (d : DkF) (l : List Fl) (h : FineJ k d) (hk : k ≤ 1000) (hs : smallF l) (hz : okSizes l) (hst : Stab d) (hn : getF intN d.now = none) : ACalls Tryz.prog 14 [.ptr 0 0, flsV l, int .i64 100] (dkH d) (comT d l) :=
  lessD (commit_q d l 100 h hk hs hz) fun r h' hc => by
    rcases com_cases hc with ⟨hE, e1, e2⟩ | ⟨hE, _, k, hk0, e1, hh1⟩
    · subst e1 e2
      exact ⟨[0, 1, 2, 3], dkH d, .tup 2 (pair .ff (int .i64 _)), lehDk rfl rfl rfl rfl rfl rfl rfl rfl, le_pair .rff (leI rfl), .inl ⟨_, hE, rfl, rfl⟩⟩
    · have h8 := hs.2
      have hdec : decide (((l.length + 5 : Nat) : Int) ≤ 100) = true := decide_eq_true (by omega)
      rw [hdec] at e1
      have hk00 : k = l.length + 5 := by
        rw [hk0, show (100 : Int).toNat = 100 from rfl]; omega
      subst hk00
      rcases hh1 with ⟨h1, _⟩ | ⟨h1, _⟩ | ⟨_, e2⟩
      · omega
      · omega
      · subst e1 e2
        exact ⟨[0, 1, 2, 3, 4, 5], dkT (cmJ l (intL l) d (l.length + 5)), .tup 2 (pair .tt (int .i64 0)), lehK (n := 4) (by decide) (by decide) (by decide) ⟨⟨_, rfl, leDkA rfl rfl rfl rfl rfl⟩, ⟨_, rfl, leMap rfl⟩, ⟨_, rfl, .dead _⟩, ⟨_, rfl, .dead _⟩, ⟨_, rfl, leRowQ rfl rfl⟩, ⟨_, rfl, leMap rfl⟩, trivial⟩, le_pair .rtt (leI rfl), .inr ⟨cm_ok hst hn (small_fitL hs) hE, rfl, rfl⟩⟩
theorem get_t (d : DkF) (F : Fl) (h : getF F.path d.now = some F.data) (hl : F.data.length ≤ 140737488355328) : ACalls Tryz.prog 25 [.ptr 0 0, str F.path] (dkH d) (fun r h => r = .tup 2 (pair (.roI .u8 F.data) .tt) ∧ h = dkH d) :=
  lessD (get_ro d F.path fun v hv => by rw [h] at hv; cases hv; exact hl) fun r h' ⟨e1, e2⟩ => by
    subst e1 e2
    rw [h]
    exact ⟨[0, 1, 2, 3], dkH d, .tup 2 (pair (.roI .u8 F.data) .tt), lehDk rfl rfl rfl rfl rfl rfl rfl rfl, le_pair (.same _ trivial) .rtt, rfl, rfl⟩


set_option maxHeartbeats 4000000 in
theorem through_p (was l : List Fl) (xs : List Int) (hz0 : okSizes was) (hz : okSizes l) (hx : xs.length = 2) : ACalls Tryz.prog 6 [flsV was, flsV l, .aggI .i64 xs] [] (fun r h => r = .tt ∧ h = []) := by
  refine rcalls Tryz.func6 rfl (by decide) ?_
  refine ⟨hx.symm, ?_⟩
  refine ⟨[], _, awake_p, ?_⟩
  rintro r hh ⟨rfl, rfl⟩
  refine ⟨.inl rfl, ?_⟩
  refine ⟨⟨by decide, by decide⟩, ?_⟩
  refine ⟨by rw [hx]; decide, ?_⟩
  refine ⟨⟨by decide, by decide⟩, ?_⟩
  refine ⟨by rw [hx]; decide, ?_⟩
  by_cases hs0 : smallF was
  rotate_left
  · refine ⟨[], _, (small_j was).not (decide_eq_false hs0), ?_⟩
    rintro r hh ⟨rfl, rfl⟩
    refine ⟨.inl rfl, ?_⟩
    exact ⟨[], [], .tt, lehN _, .same _ trivial, rfl, rfl⟩
  refine ⟨[], _, (small_j was).yes (decide_eq_true hs0), ?_⟩
  rintro r hh ⟨rfl, rfl⟩
  refine ⟨.inl rfl, ?_⟩
  by_cases hs : smallF l
  rotate_left
  · refine ⟨[], _, (small_j l).not (decide_eq_false hs), ?_⟩
    rintro r hh ⟨rfl, rfl⟩
    refine ⟨.inl rfl, ?_⟩
    exact ⟨[], [], .tt, lehN _, .same _ trivial, rfl, rfl⟩
  refine ⟨[], _, (small_j l).yes (decide_eq_true hs), ?_⟩
  rintro r hh ⟨rfl, rfl⟩
  refine ⟨.inl rfl, ?_⟩
  have hb0 : okBytes was := fun f hf => (hz0 f hf).2
  have hb : okBytes l := fun f hf => (hz f hf).2
  have hld := laid_p was 100000 hs0 hb0
  refine ⟨[], _, hld, ?_⟩
  rintro r hh ⟨rfl, rfl⟩
  refine ⟨.inl rfl, ?_⟩
  have hfl := fine_laid (room := 100000) hs0 hb0
  have hrc0 := recover_q (laidJ was 100000) hfl (by decide)
  have hst0 := stab_rc (stab_laid was 100000)
  have hno0 := rc_none (good_laid was 100000)
  have hfd := fine_rc hfl
  unfold recR at hrc0
  have hr1 : getF intN (laidJ was 100000).now = none → rcJ (laidJ was 100000) = laidJ was 100000 := fun h => if_pos h
  have hr2 : getF intN (laidJ was 100000).now ≠ none → rcJ (laidJ was 100000) = recJ (laidJ was 100000) := fun h => if_neg h
  refine ⟨[1, 2, 3, 4], _, (by (try simp only [ren_fmV]); exact fmVFree _), (by (try simp only [ren_fmV]); exact fmVFree _), (by (try simp only [ren_rowP]); exact fun i _ => rowPFree _ i), at_h ?_ (hrc0), ?_⟩
  · exact dkH_eq (by first | simp only [ren_fmV] | rfl) (by first | simp only [ren_fmV] | rfl) (by first | simp only [ren_rowP] | rfl)
  rintro r hh ⟨rfl, (⟨hn, rfl⟩ | ⟨hn, rfl⟩)⟩
  · rw [hr1 hn] at hst0 hno0 hfd
    generalize laidJ was 100000 = D at *
    have h8 := hs.2
    have hld0 := load_q D hfd (by decide)
    have hc0 := com0_q D l hfd (by decide) hs hz
    have hc1 := com100_q D l hfd (by decide) hs hz hst0 hno0
    unfold comT at hc1
    have hbs0 := ld_bytes hfd.keys hfd.fit.now
    have hln0 : (ldJ D.now).length ≤ 100000 := by have := ld_len hfd.keys; have := hfd.fit.nowL; omega
    have hsm0 := same_q hbs0 hbs0 hln0 hln0 rfl
    refine ⟨.inl rfl, ?_⟩
    refine ⟨[1, 2, 3, 4], _, (by (try simp only [ren_fmV]); exact fmVFree _), (by (try simp only [ren_fmV]); exact fmVFree _), (by (try simp only [ren_rowP]); exact fun i _ => rowPFree _ i), at_h ?_ (hld0), ?_⟩
    · exact dkH_eq (by first | simp only [ren_fmV] | rfl) (by first | simp only [ren_fmV] | rfl) (by first | simp only [ren_rowP] | rfl)
    rintro r hh ⟨rfl, rfl⟩
    refine ⟨.inl rfl, ?_⟩
    refine ⟨[1, 2, 3, 4], _, (by (try simp only [ren_fmV]); exact fmVFree _), (by (try simp only [ren_fmV]); exact fmVFree _), (by (try simp only [ren_rowP]); exact fun i _ => rowPFree _ i), at_h ?_ (hc0), ?_⟩
    · exact dkH_eq (by first | simp only [ren_fmV] | rfl) (by first | simp only [ren_fmV] | rfl) (by first | simp only [ren_rowP] | rfl)
    rintro r hh ⟨rfl, rfl⟩
    refine ⟨.inl rfl, ?_⟩
    refine ⟨[1, 2, 3, 4], _, (by (try simp only [ren_fmV]); exact fmVFree _), (by (try simp only [ren_fmV]); exact fmVFree _), (by (try simp only [ren_rowP]); exact fun i _ => rowPFree _ i), at_h ?_ (hld0), ?_⟩
    · exact dkH_eq (by first | simp only [ren_fmV] | rfl) (by first | simp only [ren_fmV] | rfl) (by first | simp only [ren_rowP] | rfl)
    rintro r hh ⟨rfl, rfl⟩
    refine ⟨.inl rfl, ?_⟩
    refine ⟨[], _, hsm0, ?_⟩
    rintro r hh ⟨rfl, rfl⟩
    refine ⟨.inl rfl, ?_⟩
    refine ⟨[1, 2, 3, 4], _, (by (try simp only [ren_fmV]); exact fmVFree _), (by (try simp only [ren_fmV]); exact fmVFree _), (by (try simp only [ren_rowP]); exact fun i _ => rowPFree _ i), at_h ?_ (hc1), ?_⟩
    · exact dkH_eq (by first | simp only [ren_fmV] | rfl) (by first | simp only [ren_fmV] | rfl) (by first | simp only [ren_rowP] | rfl)
    rintro r hh (⟨e, he, rfl, rfl⟩ | ⟨hcm, rfl, rfl⟩)
    · refine ⟨.inl rfl, ?_⟩
      refine ⟨fun _ => ?_, fun c => absurd (no c) (fun x => x he)⟩
      exact ⟨[], [], .tt, lehN _, .same _ trivial, rfl, rfl⟩
    refine ⟨.inl rfl, ?_⟩
    refine ⟨fun c => absurd rfl (yes c), fun _ => ?_⟩
    have hno := cm_no hcm
    have hst := cm_stab hcm
    have hfe := fine_cm hfd hs hb hcm.pe (l.length + 5)
    have hgt := fun f hf => cm_get hcm (f := f) hf
    generalize cmJ l (intL l) D (l.length + 5) = E at *
    have hfe : FineJ 100 E := fine_more hfe (by omega)
    have hfl1 := files_q E hfe (by decide)
    have hcr := crash_p E (xs.getD 0 0) (xs.getD 1 0) (by have := (fit_len hfe.fit).1; omega) hfe.nomv
    have hnow : (crashF E (xs.getD 0 0) (xs.getD 1 0)).now = E.now := (crash_now hst.2.1 _ _).trans hst.1
    have hfc := fine_crash hfe (xs.getD 0 0) (xs.getD 1 0)
    have hdc : (crashF E (xs.getD 0 0) (xs.getD 1 0)).deeds.length = 0 := rfl
    generalize crashF E (xs.getD 0 0) (xs.getD 1 0) = C at *
    have hrc := recover_q C hfc (by decide)
    unfold recR at hrc
    rw [← hnow] at hno
    have hfl2 := files_q C hfc (by decide)
    rw [hnow] at hfl2
    have hpe := pending_p C
    rw [hdc] at hpe
    have hbs := ls_bytes hfe.keys hfe.fit.now
    have hln : (lsJ E.now).length ≤ 100000 := by have := ls_len hfe.keys; have := hfe.fit.nowL; omega
    have hsm := same_q hbs hbs hln hln rfl
    rw [← hnow] at hgt
    refine ⟨[1, 2, 6, 5], _, (by (try simp only [ren_fmV]); exact fmVFree _), (by (try simp only [ren_fmV]); exact fmVFree _), (by (try simp only [ren_rowP]); exact fun i _ => rowPFree _ i), at_h ?_ (hfl1), ?_⟩
    · exact dkH_eq (by first | simp only [ren_fmV] | rfl) (by first | simp only [ren_fmV] | rfl) (by first | simp only [ren_rowP] | rfl)
    rintro r hh ⟨rfl, rfl⟩
    refine ⟨.inl rfl, ?_⟩
    refine ⟨[1, 2, 6, 5], _, (by (try simp only [ren_fmV]); exact fmVFree _), (by (try simp only [ren_fmV]); exact fmVFree _), (by (try simp only [ren_rowP]); exact fun i _ => rowPFree _ i), at_h ?_ (hcr), ?_⟩
    · exact dkH_eq (by first | simp only [ren_fmV] | rfl) (by first | simp only [ren_fmV] | rfl) (by first | simp only [ren_rowP] | rfl)
    rintro r hh ⟨rfl, rfl⟩
    refine ⟨.inl rfl, ?_⟩
    refine ⟨[1, 7, 8, 5], _, (by (try simp only [ren_fmV]); exact fmVFree _), (by (try simp only [ren_fmV]); exact fmVFree _), (by (try simp only [ren_rowP]); exact fun i _ => rowPFree _ i), at_h ?_ (hrc), ?_⟩
    · exact dkH_eq (by first | simp only [ren_fmV] | rfl) (by first | simp only [ren_fmV] | rfl) (by first | simp only [ren_rowP] | rfl)
    rintro r hh ⟨rfl, (⟨_, rfl⟩ | ⟨hn2, rfl⟩)⟩
    rotate_left
    · exact absurd hno hn2
    refine ⟨.inl rfl, ?_⟩
    refine ⟨Nat, fun k => [(1, flsV l), (7, .tt), (10, .ptr 0 0), (12, .ff), (14, .tt), (15, .tt), (17, flsV (lsJ E.now)), (18, int .i64 (k : Int))], fun k => dkH C, fun k => k ≤ l.length, fun k => l.length - k,
      ⟨0, [1, 7, 8, 5], Nat.zero_le _, ?_, ?_⟩, ?_⟩
    · exact leh_relG (by decide) ⟨.inl ⟨_, rfl, leDkL rfl rfl rfl rfl rfl⟩, .inl ⟨_, rfl, leMap (by simp only [ren_fmV])⟩, .inl ⟨_, rfl, leMap (by simp only [ren_fmV])⟩, .inl ⟨_, rfl, leRowQ rfl (by simp only [ren_rowP])⟩, trivial⟩
    · exact ⟨.same _ trivial, .same _ trivial, .ptr 0 rfl, .same _ trivial, .same _ trivial, .same _ trivial, .same _ trivial, leI rfl, trivial⟩
    intro j hj
    have hj : j ≤ l.length := hj
    have e1 : IntKind.i64.wrap ((j : Int) + 1) = ((j + 1 : Nat) : Int) := by rw [w64 (by omega) (by omega)]; omega
    refine ⟨fun c => ?_, fun c => ?_⟩
    · have f1 : (j : Int) < l.length := yes c
      have b1 : 0 ≤ (j : Int) ∧ (j : Int) < l.length := ⟨by omega, f1⟩
      have hmem := get_mem (l := l) (k := j) (by omega)
      have h6 : ∀ c, c < 2 → rowF l ((j : Int).toNat * 2 + c) = flC (l.getD j fl0) c := fun c hc => by rw [Int.toNat_natCast]; exact rowF_at l hc
      generalize l.getD j fl0 = F at *
      have hgg := get_t C F (hgt F hmem) (by have := small_all hs F hmem; omega)
      refine ⟨b1, flC F, fun c hc => h6 c hc, ?_⟩
      refine ⟨[0, 1, 2, 3], _, (by (try simp only [ren_fmV]); exact fmVFree _), (by (try simp only [ren_fmV]); exact fmVFree _), (by (try simp only [ren_rowP]); exact fun i _ => rowPFree _ i), at_h ?_ (hgg), ?_⟩
      · exact dkH_eq (by first | simp only [ren_fmV] | rfl) (by first | simp only [ren_fmV] | rfl) (by first | simp only [ren_rowP] | rfl)
      rintro r hh ⟨rfl, rfl⟩
      refine ⟨.inl rfl, ?_⟩
      refine .inl ⟨⟨by decide +kernel, by decide +kernel⟩, ?_⟩
      refine ⟨b1, flC F, fun c hc => h6 c hc, ?_⟩
      refine ⟨fun c => absurd rfl (yes c), fun _ => ?_⟩
      refine ⟨trivial, j + 1, [0, 1, 2, 3], by show j + 1 ≤ l.length; omega, by show l.length - (j + 1) < l.length - j; omega, ?_, ⟨.same _ trivial, .same _ trivial, .ptr 0 rfl, .same _ trivial, .same _ trivial, .same _ trivial, .same _ trivial, leI e1, trivial⟩⟩
      exact leh_relG (by decide) ⟨.inl ⟨_, rfl, leDkL rfl rfl rfl rfl rfl⟩, .inl ⟨_, rfl, leMap (by simp only [ren_fmV])⟩, .inl ⟨_, rfl, leMap (by simp only [ren_fmV])⟩, .inl ⟨_, rfl, leRowQ rfl (by simp only [ren_rowP])⟩, trivial⟩
    · have f1 : ¬ (j : Int) < l.length := no c
      refine ⟨[0, 1, 2, 3], _, (by (try simp only [ren_fmV]); exact fmVFree _), (by (try simp only [ren_fmV]); exact fmVFree _), (by (try simp only [ren_rowP]); exact fun i _ => rowPFree _ i), at_h ?_ (hpe), ?_⟩
      · exact dkH_eq (by first | simp only [ren_fmV] | rfl) (by first | simp only [ren_fmV] | rfl) (by first | simp only [ren_rowP] | rfl)
      rintro r hh ⟨rfl, rfl⟩
      refine ⟨.inl rfl, ?_⟩
      refine ⟨fun _ => ?_, fun e => absurd rfl (no e)⟩
      refine ⟨[0, 1, 2, 3], _, (by (try simp only [ren_fmV]); exact fmVFree _), (by (try simp only [ren_fmV]); exact fmVFree _), (by (try simp only [ren_rowP]); exact fun i _ => rowPFree _ i), at_h ?_ (hfl2), ?_⟩
      · exact dkH_eq (by first | simp only [ren_fmV] | rfl) (by first | simp only [ren_fmV] | rfl) (by first | simp only [ren_rowP] | rfl)
      rintro r hh ⟨rfl, rfl⟩
      refine ⟨.inl rfl, ?_⟩
      refine ⟨[], _, hsm, ?_⟩
      rintro r hh ⟨rfl, rfl⟩
      refine ⟨.inl rfl, ?_⟩
      exact ⟨[], [], .tt, lehN _, .same _ trivial, rfl, rfl⟩
  · rw [hr2 hn] at hst0 hno0 hfd
    generalize recJ (laidJ was 100000) = D at *
    have h8 := hs.2
    have hld0 := load_q D hfd (by decide)
    have hc0 := com0_q D l hfd (by decide) hs hz
    have hc1 := com100_q D l hfd (by decide) hs hz hst0 hno0
    unfold comT at hc1
    have hbs0 := ld_bytes hfd.keys hfd.fit.now
    have hln0 : (ldJ D.now).length ≤ 100000 := by have := ld_len hfd.keys; have := hfd.fit.nowL; omega
    have hsm0 := same_q hbs0 hbs0 hln0 hln0 rfl
    refine ⟨.inl rfl, ?_⟩
    refine ⟨[1, 2, 6, 5], _, (by (try simp only [ren_fmV]); exact fmVFree _), (by (try simp only [ren_fmV]); exact fmVFree _), (by (try simp only [ren_rowP]); exact fun i _ => rowPFree _ i), at_h ?_ (hld0), ?_⟩
    · exact dkH_eq (by first | simp only [ren_fmV] | rfl) (by first | simp only [ren_fmV] | rfl) (by first | simp only [ren_rowP] | rfl)
    rintro r hh ⟨rfl, rfl⟩
    refine ⟨.inl rfl, ?_⟩
    refine ⟨[1, 2, 6, 5], _, (by (try simp only [ren_fmV]); exact fmVFree _), (by (try simp only [ren_fmV]); exact fmVFree _), (by (try simp only [ren_rowP]); exact fun i _ => rowPFree _ i), at_h ?_ (hc0), ?_⟩
    · exact dkH_eq (by first | simp only [ren_fmV] | rfl) (by first | simp only [ren_fmV] | rfl) (by first | simp only [ren_rowP] | rfl)
    rintro r hh ⟨rfl, rfl⟩
    refine ⟨.inl rfl, ?_⟩
    refine ⟨[1, 2, 6, 5], _, (by (try simp only [ren_fmV]); exact fmVFree _), (by (try simp only [ren_fmV]); exact fmVFree _), (by (try simp only [ren_rowP]); exact fun i _ => rowPFree _ i), at_h ?_ (hld0), ?_⟩
    · exact dkH_eq (by first | simp only [ren_fmV] | rfl) (by first | simp only [ren_fmV] | rfl) (by first | simp only [ren_rowP] | rfl)
    rintro r hh ⟨rfl, rfl⟩
    refine ⟨.inl rfl, ?_⟩
    refine ⟨[], _, hsm0, ?_⟩
    rintro r hh ⟨rfl, rfl⟩
    refine ⟨.inl rfl, ?_⟩
    refine ⟨[1, 2, 6, 5], _, (by (try simp only [ren_fmV]); exact fmVFree _), (by (try simp only [ren_fmV]); exact fmVFree _), (by (try simp only [ren_rowP]); exact fun i _ => rowPFree _ i), at_h ?_ (hc1), ?_⟩
    · exact dkH_eq (by first | simp only [ren_fmV] | rfl) (by first | simp only [ren_fmV] | rfl) (by first | simp only [ren_rowP] | rfl)
    rintro r hh (⟨e, he, rfl, rfl⟩ | ⟨hcm, rfl, rfl⟩)
    · refine ⟨.inl rfl, ?_⟩
      refine ⟨fun _ => ?_, fun c => absurd (no c) (fun x => x he)⟩
      exact ⟨[], [], .tt, lehN _, .same _ trivial, rfl, rfl⟩
    refine ⟨.inl rfl, ?_⟩
    refine ⟨fun c => absurd rfl (yes c), fun _ => ?_⟩
    have hno := cm_no hcm
    have hst := cm_stab hcm
    have hfe := fine_cm hfd hs hb hcm.pe (l.length + 5)
    have hgt := fun f hf => cm_get hcm (f := f) hf
    generalize cmJ l (intL l) D (l.length + 5) = E at *
    have hfe : FineJ 100 E := fine_more hfe (by omega)
    have hfl1 := files_q E hfe (by decide)
    have hcr := crash_p E (xs.getD 0 0) (xs.getD 1 0) (by have := (fit_len hfe.fit).1; omega) hfe.nomv
    have hnow : (crashF E (xs.getD 0 0) (xs.getD 1 0)).now = E.now := (crash_now hst.2.1 _ _).trans hst.1
    have hfc := fine_crash hfe (xs.getD 0 0) (xs.getD 1 0)
    have hdc : (crashF E (xs.getD 0 0) (xs.getD 1 0)).deeds.length = 0 := rfl
    generalize crashF E (xs.getD 0 0) (xs.getD 1 0) = C at *
    have hrc := recover_q C hfc (by decide)
    unfold recR at hrc
    rw [← hnow] at hno
    have hfl2 := files_q C hfc (by decide)
    rw [hnow] at hfl2
    have hpe := pending_p C
    rw [hdc] at hpe
    have hbs := ls_bytes hfe.keys hfe.fit.now
    have hln : (lsJ E.now).length ≤ 100000 := by have := ls_len hfe.keys; have := hfe.fit.nowL; omega
    have hsm := same_q hbs hbs hln hln rfl
    rw [← hnow] at hgt
    refine ⟨[1, 2, 8, 7], _, (by (try simp only [ren_fmV]); exact fmVFree _), (by (try simp only [ren_fmV]); exact fmVFree _), (by (try simp only [ren_rowP]); exact fun i _ => rowPFree _ i), at_h ?_ (hfl1), ?_⟩
    · exact dkH_eq (by first | simp only [ren_fmV] | rfl) (by first | simp only [ren_fmV] | rfl) (by first | simp only [ren_rowP] | rfl)
    rintro r hh ⟨rfl, rfl⟩
    refine ⟨.inl rfl, ?_⟩
    refine ⟨[1, 2, 8, 7], _, (by (try simp only [ren_fmV]); exact fmVFree _), (by (try simp only [ren_fmV]); exact fmVFree _), (by (try simp only [ren_rowP]); exact fun i _ => rowPFree _ i), at_h ?_ (hcr), ?_⟩
    · exact dkH_eq (by first | simp only [ren_fmV] | rfl) (by first | simp only [ren_fmV] | rfl) (by first | simp only [ren_rowP] | rfl)
    rintro r hh ⟨rfl, rfl⟩
    refine ⟨.inl rfl, ?_⟩
    refine ⟨[1, 9, 10, 7], _, (by (try simp only [ren_fmV]); exact fmVFree _), (by (try simp only [ren_fmV]); exact fmVFree _), (by (try simp only [ren_rowP]); exact fun i _ => rowPFree _ i), at_h ?_ (hrc), ?_⟩
    · exact dkH_eq (by first | simp only [ren_fmV] | rfl) (by first | simp only [ren_fmV] | rfl) (by first | simp only [ren_rowP] | rfl)
    rintro r hh ⟨rfl, (⟨_, rfl⟩ | ⟨hn2, rfl⟩)⟩
    rotate_left
    · exact absurd hno hn2
    refine ⟨.inl rfl, ?_⟩
    refine ⟨Nat, fun k => [(1, flsV l), (7, .tt), (10, .ptr 0 0), (12, .ff), (14, .tt), (15, .tt), (17, flsV (lsJ E.now)), (18, int .i64 (k : Int))], fun k => dkH C, fun k => k ≤ l.length, fun k => l.length - k,
      ⟨0, [1, 9, 10, 7], Nat.zero_le _, ?_, ?_⟩, ?_⟩
    · exact leh_relG (by decide) ⟨.inl ⟨_, rfl, leDkL rfl rfl rfl rfl rfl⟩, .inl ⟨_, rfl, leMap (by simp only [ren_fmV])⟩, .inl ⟨_, rfl, leMap (by simp only [ren_fmV])⟩, .inl ⟨_, rfl, leRowQ rfl (by simp only [ren_rowP])⟩, trivial⟩
    · exact ⟨.same _ trivial, .same _ trivial, .ptr 0 rfl, .same _ trivial, .same _ trivial, .same _ trivial, .same _ trivial, leI rfl, trivial⟩
    intro j hj
    have hj : j ≤ l.length := hj
    have e1 : IntKind.i64.wrap ((j : Int) + 1) = ((j + 1 : Nat) : Int) := by rw [w64 (by omega) (by omega)]; omega
    refine ⟨fun c => ?_, fun c => ?_⟩
    · have f1 : (j : Int) < l.length := yes c
      have b1 : 0 ≤ (j : Int) ∧ (j : Int) < l.length := ⟨by omega, f1⟩
      have hmem := get_mem (l := l) (k := j) (by omega)
      have h6 : ∀ c, c < 2 → rowF l ((j : Int).toNat * 2 + c) = flC (l.getD j fl0) c := fun c hc => by rw [Int.toNat_natCast]; exact rowF_at l hc
      generalize l.getD j fl0 = F at *
      have hgg := get_t C F (hgt F hmem) (by have := small_all hs F hmem; omega)
      refine ⟨b1, flC F, fun c hc => h6 c hc, ?_⟩
      refine ⟨[0, 1, 2, 3], _, (by (try simp only [ren_fmV]); exact fmVFree _), (by (try simp only [ren_fmV]); exact fmVFree _), (by (try simp only [ren_rowP]); exact fun i _ => rowPFree _ i), at_h ?_ (hgg), ?_⟩
      · exact dkH_eq (by first | simp only [ren_fmV] | rfl) (by first | simp only [ren_fmV] | rfl) (by first | simp only [ren_rowP] | rfl)
      rintro r hh ⟨rfl, rfl⟩
      refine ⟨.inl rfl, ?_⟩
      refine .inl ⟨⟨by decide +kernel, by decide +kernel⟩, ?_⟩
      refine ⟨b1, flC F, fun c hc => h6 c hc, ?_⟩
      refine ⟨fun c => absurd rfl (yes c), fun _ => ?_⟩
      refine ⟨trivial, j + 1, [0, 1, 2, 3], by show j + 1 ≤ l.length; omega, by show l.length - (j + 1) < l.length - j; omega, ?_, ⟨.same _ trivial, .same _ trivial, .ptr 0 rfl, .same _ trivial, .same _ trivial, .same _ trivial, .same _ trivial, leI e1, trivial⟩⟩
      exact leh_relG (by decide) ⟨.inl ⟨_, rfl, leDkL rfl rfl rfl rfl rfl⟩, .inl ⟨_, rfl, leMap (by simp only [ren_fmV])⟩, .inl ⟨_, rfl, leMap (by simp only [ren_fmV])⟩, .inl ⟨_, rfl, leRowQ rfl (by simp only [ren_rowP])⟩, trivial⟩
    · have f1 : ¬ (j : Int) < l.length := no c
      refine ⟨[0, 1, 2, 3], _, (by (try simp only [ren_fmV]); exact fmVFree _), (by (try simp only [ren_fmV]); exact fmVFree _), (by (try simp only [ren_rowP]); exact fun i _ => rowPFree _ i), at_h ?_ (hpe), ?_⟩
      · exact dkH_eq (by first | simp only [ren_fmV] | rfl) (by first | simp only [ren_fmV] | rfl) (by first | simp only [ren_rowP] | rfl)
      rintro r hh ⟨rfl, rfl⟩
      refine ⟨.inl rfl, ?_⟩
      refine ⟨fun _ => ?_, fun e => absurd rfl (no e)⟩
      refine ⟨[0, 1, 2, 3], _, (by (try simp only [ren_fmV]); exact fmVFree _), (by (try simp only [ren_fmV]); exact fmVFree _), (by (try simp only [ren_rowP]); exact fun i _ => rowPFree _ i), at_h ?_ (hfl2), ?_⟩
      · exact dkH_eq (by first | simp only [ren_fmV] | rfl) (by first | simp only [ren_fmV] | rfl) (by first | simp only [ren_rowP] | rfl)
      rintro r hh ⟨rfl, rfl⟩
      refine ⟨.inl rfl, ?_⟩
      refine ⟨[], _, hsm, ?_⟩
      rintro r hh ⟨rfl, rfl⟩
      refine ⟨.inl rfl, ?_⟩
      exact ⟨[], [], .tt, lehN _, .same _ trivial, rfl, rfl⟩
end
end Go.Proofs.YtflclafbieokiaaGreatDoor.Jr
