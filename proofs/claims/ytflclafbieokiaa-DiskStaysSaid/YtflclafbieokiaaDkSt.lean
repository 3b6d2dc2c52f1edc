/-
  The law DiskStays, walked.
-/
import Derived.Test.YtflclafbieokiaaDkL3
set_option linter.unusedVariables false
set_option linter.unusedSectionVars false
set_option linter.unusedSimpArgs false
namespace Go.Proofs.Ytflclafbieokiaa.Dk
open Go AL Us

theorem crash_synced (d : DkF) (a b : Int) : crashF (syncF d) a b = syncF d := by
  have e : crashM (syncF d) a b = d.now := by
    have h1 : nextD (syncF d).deeds a = none := by
      unfold nextD
      split
      · exact List.getElem?_nil
      · rfl
    unfold crashM
    rw [h1]
    show lostF ((([] : List Dee).take a.toNat).foldl (fun m e => actF e m) d.now) none b = d.now
    rw [List.take_nil]; rfl
  unfold crashF
  rw [e]; rfl
section
variable [Globs]


set_option maxHeartbeats 4000000 in
set_option maxRecDepth 10000 in
theorem stays_p (l : List De6) (a b : Int) (hb : okD6 l) : ACalls Try.prog 3 [de6s l, int .i64 a, int .i64 b] [] (fun r h => r = .tt ∧ h = []) := by
  have h0 := new_p 3000
  have hsm := small_p l
  have hrel := st_rel 3000 l
  have hfs := fun {k : Nat} (h : k < l.length) => stF_succ (d := newF 3000) (l := l) (k := k) h
  have hz0 : stF (newF 3000) l 0 = newF 3000 := by unfold stF; rw [List.take_zero]; rfl
  have hfit := st_fit 3000 l
  generalize stF (newF 3000) l = SF at *
  generalize stD (newD 3000) l = SD at *
  generalize newF 3000 = D0 at *
  refine rcalls Try.func3 rfl (by decide) ?_
  refine ⟨[], _, dk_awake, ?_⟩
  rintro r hh ⟨rfl, rfl⟩
  refine ⟨.inl rfl, ?_⟩
  refine ⟨[], _, h0, ?_⟩
  rintro r hh ⟨rfl, rfl⟩
  refine ⟨.inl rfl, ?_⟩
  refine ⟨[], _, hsm, ?_⟩
  rintro r hh ⟨rfl, rfl⟩
  refine ⟨.inl rfl, ?_⟩
  refine ⟨fun c => ?_, fun c => ?_⟩
  · exact ⟨[], [], .tt, lehN _, LeV.same _ trivial, rfl, rfl⟩
  have hs : smallD l := Classical.byContradiction fun x => (by rw [decide_eq_false x] at c; cases c)
  have hfit := hfit hs hb
  have hsa := fun {k : Nat} (h : k < l.length) (g : k < 60) => small_at hs hb h g
  clear hsm c hs h0
  refine ⟨Nat, fun k => [(0, de6s l), (1, int .i64 a), (2, int .i64 b), (7, .tt), (8, .ptr 0 0), (9, int .i64 k)], fun k => dkH (SF k), fun k => k ≤ l.length ∧ k ≤ 60, fun k => 60 - k,
    ⟨0, [0, 1, 2, 3], ⟨Nat.zero_le _, Nat.zero_le _⟩, ?_, ?_⟩, ?_⟩
  · show LeH 0 _ [0, 1, 2, 3] (dkH (SF 0))
    rw [hz0]
    exact leh_relG (by decide) ⟨.inl ⟨_, rfl, leDkL rfl rfl rfl rfl rfl⟩, .inl ⟨_, rfl, leMap (by simp only [ren_fmV])⟩, .inl ⟨_, rfl, leMap (by simp only [ren_fmV])⟩, .inl ⟨_, rfl, leRowQ rfl (by simp only [ren_rowP])⟩, trivial⟩
  · exact ⟨.same _ trivial, leI rfl, leI rfl, .same _ trivial, .ptr 0 rfl, leI rfl, trivial⟩
  rintro k ⟨hk, h60⟩
  have e1 : IntKind.i64.wrap ((k : Int) + 1) = ((k + 1 : Nat) : Int) := by rw [w64 (by omega) (by omega)]; omega
  refine ⟨fun c => ?_, fun c => ?_⟩
  · have f1 : (k : Int) < l.length := yes c
    refine ⟨fun c => ?_, fun c => ?_⟩
    · have f2 : (k : Int) < 60 := yes c
      have hlt : k < l.length := by omega
      have hfs := hfs hlt
      have hfit0 := hfit k hk h60
      have hsa := hsa hlt (by omega)
      have h6 : ∀ c, c < 6 → rowG l ((k : Int).toNat * 6 + c) = de6C (l.getD k d60) c := fun c hc => by rw [Int.toNat_natCast]; exact rowG_at l hc
      generalize l.getD k d60 = E at *
      have hdo := do_p (SF k) E (by have := fit_size hfit0; omega) (by have := hsa.1; omega) (by have := (fit_len hfit0).1; omega)
      unfold afterP at hdo
      rw [← hfs] at hdo
      generalize ansF (SF k) E = A at *
      have b1 : 0 ≤ (k : Int) ∧ (k : Int) < l.length := ⟨by omega, f1⟩
      refine ⟨b1, de6C E, fun c hc => h6 c hc, ?_⟩
      refine ⟨[0, 1, 2, 3], _, (by (try simp only [ren_fmV]); exact fmVFree _), (by (try simp only [ren_fmV]); exact fmVFree _), (by (try simp only [ren_rowP]); exact fun i _ => rowPFree _ i), (fun i hi => de6C_free E _), at_h ?_ (hdo.args ⟨VLe.refl _, vd6 (fun i hi => rfl), trivial⟩), ?_⟩
      · exact dkH_eq (by first | simp only [ren_fmV] | rfl) (by first | simp only [ren_fmV] | rfl) (by first | simp only [ren_rowP] | rfl)
      rintro r hh ⟨rfl, hsh⟩
      rcases hsh with rfl | rfl | rfl | rfl
      · refine ⟨.inl rfl, ?_⟩
        refine ⟨trivial, k + 1, [0, 1, 2, 3], ⟨by omega, by omega⟩, by show 60 - (k + 1) < 60 - k; omega, ?_, ⟨.same _ trivial, leI rfl, leI rfl, .same _ trivial, .ptr 0 rfl, leI e1, trivial⟩⟩
        exact leh_relG (by decide) ⟨.inl ⟨_, rfl, leDkL rfl rfl rfl rfl rfl⟩, .inl ⟨_, rfl, leMap (by simp only [ren_fmV])⟩, .inl ⟨_, rfl, leMap (by simp only [ren_fmV])⟩, .inl ⟨_, rfl, leRowQ rfl (by simp only [ren_rowP])⟩, trivial⟩
      · refine ⟨.inl rfl, ?_⟩
        refine ⟨trivial, k + 1, [0, 1, 2, 4], ⟨by omega, by omega⟩, by show 60 - (k + 1) < 60 - k; omega, ?_, ⟨.same _ trivial, leI rfl, leI rfl, .same _ trivial, .ptr 0 rfl, leI e1, trivial⟩⟩
        exact leh_relG (by decide) ⟨.inl ⟨_, rfl, leDkL rfl rfl rfl rfl rfl⟩, .inl ⟨_, rfl, leMap (by simp only [ren_fmV])⟩, .inl ⟨_, rfl, leMap (by simp only [ren_fmV])⟩, .inl ⟨_, rfl, leRowQ rfl (by simp only [ren_rowP])⟩, trivial⟩
      · refine ⟨.inl rfl, ?_⟩
        refine ⟨trivial, k + 1, [0, 1, 4, 3], ⟨by omega, by omega⟩, by show 60 - (k + 1) < 60 - k; omega, ?_, ⟨.same _ trivial, leI rfl, leI rfl, .same _ trivial, .ptr 0 rfl, leI e1, trivial⟩⟩
        exact leh_relG (by decide) ⟨.inl ⟨_, rfl, leDkL rfl rfl rfl rfl rfl⟩, .inl ⟨_, rfl, leMap (by simp only [ren_fmV])⟩, .inl ⟨_, rfl, leMap (by simp only [ren_fmV])⟩, .inl ⟨_, rfl, leRowQ rfl (by simp only [ren_rowP])⟩, trivial⟩
      · refine ⟨.inl rfl, ?_⟩
        refine ⟨trivial, k + 1, [0, 4, 5, 3], ⟨by omega, by omega⟩, by show 60 - (k + 1) < 60 - k; omega, ?_, ⟨.same _ trivial, leI rfl, leI rfl, .same _ trivial, .ptr 0 rfl, leI e1, trivial⟩⟩
        exact leh_relG (by decide) ⟨.inl ⟨_, rfl, leDkL rfl rfl rfl rfl rfl⟩, .inl ⟨_, rfl, leMap (by simp only [ren_fmV])⟩, .inl ⟨_, rfl, leMap (by simp only [ren_fmV])⟩, .inl ⟨_, rfl, leRowQ rfl (by simp only [ren_rowP])⟩, trivial⟩
    · have f2 : ¬ (k : Int) < 60 := no c
      have hfitk := hfit k hk h60
      have hrelk := hrel k hk
      have hsy := sync_p (SF k)
      have hR : RelF (syncF (SF k)).now (SD k).files := hrelk.now
      have hF := fit_sync hfitk
      have hlf : (SD k).files.length = (SF k).now.length := rel_len hrelk.now
      have hnl := hfitk.nowL
      have hd0 : (syncF (SF k)).deeds.length = 0 := rfl
      have hfiles := files_p (syncF (SF k)) (SD k).files hR (fun p hp => ⟨(hF.now p hp).1, by have := (hF.now p hp).2.1; omega⟩) (by have := hF.nowL; omega)
      have hcr1 := crash_p (syncF (SF k)) a b (by omega)
      have hcr2 := crash_p (syncF (SF k)) b a (by omega)
      rw [crash_synced] at hcr1 hcr2
      have hsame := (same_ref (SD k).files (SD k).files (fit_bytes hrelk.now hfitk.now) (fit_bytes hrelk.now hfitk.now) (by omega) (by omega)).yes (decide_eq_true rfl)
      have hpend := pending_p (syncF (SF k))
      generalize syncF (SF k) = DD at *
      refine ⟨[0, 1, 2, 3], _, (by (try simp only [ren_fmV]); exact fmVFree _), (by (try simp only [ren_fmV]); exact fmVFree _), (by (try simp only [ren_rowP]); exact fun i _ => rowPFree _ i), at_h ?_ (hsy), ?_⟩
      · exact dkH_eq (by first | simp only [ren_fmV] | rfl) (by first | simp only [ren_fmV] | rfl) (by first | simp only [ren_rowP] | rfl)
      rintro r hh ⟨rfl, rfl⟩
      refine ⟨.inl rfl, ?_⟩
      refine ⟨[0, 1, 4, 3], _, (by (try simp only [ren_fmV]); exact fmVFree _), (by (try simp only [ren_fmV]); exact fmVFree _), (by (try simp only [ren_rowP]); exact fun i _ => rowPFree _ i), at_h ?_ (hfiles), ?_⟩
      · exact dkH_eq (by first | simp only [ren_fmV] | rfl) (by first | simp only [ren_fmV] | rfl) (by first | simp only [ren_rowP] | rfl)
      rintro r hh ⟨rfl, rfl⟩
      refine ⟨.inl rfl, ?_⟩
      refine ⟨[0, 1, 4, 3], _, (by (try simp only [ren_fmV]); exact fmVFree _), (by (try simp only [ren_fmV]); exact fmVFree _), (by (try simp only [ren_rowP]); exact fun i _ => rowPFree _ i), at_h ?_ (hcr1), ?_⟩
      · exact dkH_eq (by first | simp only [ren_fmV] | rfl) (by first | simp only [ren_fmV] | rfl) (by first | simp only [ren_rowP] | rfl)
      rintro r hh ⟨rfl, rfl⟩
      refine ⟨.inl rfl, ?_⟩
      refine ⟨[0, 5, 6, 3], _, (by (try simp only [ren_fmV]); exact fmVFree _), (by (try simp only [ren_fmV]); exact fmVFree _), (by (try simp only [ren_rowP]); exact fun i _ => rowPFree _ i), at_h ?_ (hcr2), ?_⟩
      · exact dkH_eq (by first | simp only [ren_fmV] | rfl) (by first | simp only [ren_fmV] | rfl) (by first | simp only [ren_rowP] | rfl)
      rintro r hh ⟨rfl, rfl⟩
      refine ⟨.inl rfl, ?_⟩
      refine ⟨[0, 7, 8, 3], _, (by (try simp only [ren_fmV]); exact fmVFree _), (by (try simp only [ren_fmV]); exact fmVFree _), (by (try simp only [ren_rowP]); exact fun i _ => rowPFree _ i), at_h ?_ (hfiles), ?_⟩
      · exact dkH_eq (by first | simp only [ren_fmV] | rfl) (by first | simp only [ren_fmV] | rfl) (by first | simp only [ren_rowP] | rfl)
      rintro r hh ⟨rfl, rfl⟩
      refine ⟨.inl rfl, ?_⟩
      refine ⟨[], _, hsame, ?_⟩
      rintro r hh ⟨rfl, rfl⟩
      refine ⟨.inl rfl, ?_⟩
      refine ⟨[0, 7, 8, 3], _, (by (try simp only [ren_fmV]); exact fmVFree _), (by (try simp only [ren_fmV]); exact fmVFree _), (by (try simp only [ren_rowP]); exact fun i _ => rowPFree _ i), at_h ?_ (hpend), ?_⟩
      · exact dkH_eq (by first | simp only [ren_fmV] | rfl) (by first | simp only [ren_fmV] | rfl) (by first | simp only [ren_rowP] | rfl)
      rintro r hh ⟨rfl, rfl⟩
      refine ⟨.inl rfl, ?_⟩
      exact ⟨[], [], .tt, lehN _, leTT (decide_eq_true (by show (DD.deeds.length : Int) = 0; omega)), rfl, rfl⟩
  · have f1 : ¬ (k : Int) < l.length := no c
    have hfitk := hfit k hk h60
    have hrelk := hrel k hk
    have hsy := sync_p (SF k)
    have hR : RelF (syncF (SF k)).now (SD k).files := hrelk.now
    have hF := fit_sync hfitk
    have hlf : (SD k).files.length = (SF k).now.length := rel_len hrelk.now
    have hnl := hfitk.nowL
    have hd0 : (syncF (SF k)).deeds.length = 0 := rfl
    have hfiles := files_p (syncF (SF k)) (SD k).files hR (fun p hp => ⟨(hF.now p hp).1, by have := (hF.now p hp).2.1; omega⟩) (by have := hF.nowL; omega)
    have hcr1 := crash_p (syncF (SF k)) a b (by omega)
    have hcr2 := crash_p (syncF (SF k)) b a (by omega)
    rw [crash_synced] at hcr1 hcr2
    have hsame := (same_ref (SD k).files (SD k).files (fit_bytes hrelk.now hfitk.now) (fit_bytes hrelk.now hfitk.now) (by omega) (by omega)).yes (decide_eq_true rfl)
    have hpend := pending_p (syncF (SF k))
    generalize syncF (SF k) = DD at *
    refine ⟨[0, 1, 2, 3], _, (by (try simp only [ren_fmV]); exact fmVFree _), (by (try simp only [ren_fmV]); exact fmVFree _), (by (try simp only [ren_rowP]); exact fun i _ => rowPFree _ i), at_h ?_ (hsy), ?_⟩
    · exact dkH_eq (by first | simp only [ren_fmV] | rfl) (by first | simp only [ren_fmV] | rfl) (by first | simp only [ren_rowP] | rfl)
    rintro r hh ⟨rfl, rfl⟩
    refine ⟨.inl rfl, ?_⟩
    refine ⟨[0, 1, 4, 3], _, (by (try simp only [ren_fmV]); exact fmVFree _), (by (try simp only [ren_fmV]); exact fmVFree _), (by (try simp only [ren_rowP]); exact fun i _ => rowPFree _ i), at_h ?_ (hfiles), ?_⟩
    · exact dkH_eq (by first | simp only [ren_fmV] | rfl) (by first | simp only [ren_fmV] | rfl) (by first | simp only [ren_rowP] | rfl)
    rintro r hh ⟨rfl, rfl⟩
    refine ⟨.inl rfl, ?_⟩
    refine ⟨[0, 1, 4, 3], _, (by (try simp only [ren_fmV]); exact fmVFree _), (by (try simp only [ren_fmV]); exact fmVFree _), (by (try simp only [ren_rowP]); exact fun i _ => rowPFree _ i), at_h ?_ (hcr1), ?_⟩
    · exact dkH_eq (by first | simp only [ren_fmV] | rfl) (by first | simp only [ren_fmV] | rfl) (by first | simp only [ren_rowP] | rfl)
    rintro r hh ⟨rfl, rfl⟩
    refine ⟨.inl rfl, ?_⟩
    refine ⟨[0, 5, 6, 3], _, (by (try simp only [ren_fmV]); exact fmVFree _), (by (try simp only [ren_fmV]); exact fmVFree _), (by (try simp only [ren_rowP]); exact fun i _ => rowPFree _ i), at_h ?_ (hcr2), ?_⟩
    · exact dkH_eq (by first | simp only [ren_fmV] | rfl) (by first | simp only [ren_fmV] | rfl) (by first | simp only [ren_rowP] | rfl)
    rintro r hh ⟨rfl, rfl⟩
    refine ⟨.inl rfl, ?_⟩
    refine ⟨[0, 7, 8, 3], _, (by (try simp only [ren_fmV]); exact fmVFree _), (by (try simp only [ren_fmV]); exact fmVFree _), (by (try simp only [ren_rowP]); exact fun i _ => rowPFree _ i), at_h ?_ (hfiles), ?_⟩
    · exact dkH_eq (by first | simp only [ren_fmV] | rfl) (by first | simp only [ren_fmV] | rfl) (by first | simp only [ren_rowP] | rfl)
    rintro r hh ⟨rfl, rfl⟩
    refine ⟨.inl rfl, ?_⟩
    refine ⟨[], _, hsame, ?_⟩
    rintro r hh ⟨rfl, rfl⟩
    refine ⟨.inl rfl, ?_⟩
    refine ⟨[0, 7, 8, 3], _, (by (try simp only [ren_fmV]); exact fmVFree _), (by (try simp only [ren_fmV]); exact fmVFree _), (by (try simp only [ren_rowP]); exact fun i _ => rowPFree _ i), at_h ?_ (hpend), ?_⟩
    · exact dkH_eq (by first | simp only [ren_fmV] | rfl) (by first | simp only [ren_fmV] | rfl) (by first | simp only [ren_rowP] | rfl)
    rintro r hh ⟨rfl, rfl⟩
    refine ⟨.inl rfl, ?_⟩
    exact ⟨[], [], .tt, lehN _, leTT (decide_eq_true (by show (DD.deeds.length : Int) = 0; omega)), rfl, rfl⟩

end
end Go.Proofs.Ytflclafbieokiaa.Dk
