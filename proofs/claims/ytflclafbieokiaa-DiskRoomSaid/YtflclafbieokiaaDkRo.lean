/-
  The law DiskRoom, walked.
-/
import Derived.Test.YtflclafbieokiaaDkL3
set_option linter.unusedVariables false
set_option linter.unusedSectionVars false
set_option linter.unusedSimpArgs false
namespace Go.Proofs.Ytflclafbieokiaa.Dk
open Go AL Us

section
variable [Globs]


set_option maxHeartbeats 4000000 in
set_option maxRecDepth 10000 in
theorem room_l (room : Int) (l : List De6) (hr0 : 0 ≤ room ∧ room < 256) (hb : okD6 l) : ACalls Try.prog 7 [int .u8 room, de6s l] [] (fun r h => r = .tt ∧ h = []) := by
  have hw : IntKind.i64.wrap room = room := by rw [w64 (by omega) (by omega)]
  have h0 : ACalls Try.prog 10 [int .i64 (IntKind.i64.wrap room)] [] (fun r h => r = .ptr 0 0 ∧ h = dkH (newF room)) := by rw [hw]; exact new_p room
  have hsm := small_p l
  have hrel := st_rel room l
  have hfs := fun {k : Nat} (h : k < l.length) => stF_succ (d := newF room) (l := l) (k := k) h
  have hz0 : stF (newF room) l 0 = newF room := by unfold stF; rw [List.take_zero]; rfl
  have hfit := st_fit room l
  have hgood := st_good room l
  have hroom := st_room room l
  generalize stF (newF room) l = SF at *
  generalize stD (newD room) l = SD at *
  generalize newF room = D0 at *
  refine rcalls Try.func7 rfl (by decide) ?_
  refine ⟨[], _, dk_awake, ?_⟩
  rintro r hh ⟨rfl, rfl⟩
  refine ⟨.inl rfl, ?_⟩
  refine ⟨[], _, h0, ?_⟩
  rintro r hh ⟨rfl, rfl⟩
  refine ⟨.inl rfl, ?_⟩
  refine ⟨[], _, hsm, ?_⟩
  rintro r hh ⟨rfl, rfl⟩
  refine ⟨.inl rfl, ?_⟩
  refine ⟨fun c => ?_, fun c => ?_⟩
  · exact ⟨[], [], .tt, lehN _, LeV.same _ trivial, rfl, rfl⟩
  have hs : smallD l := Classical.byContradiction fun x => (by rw [decide_eq_false x] at c; cases c)
  have hfit := hfit hs hb
  have hsa := fun {k : Nat} (h : k < l.length) (g : k < 60) => small_at hs hb h g
  clear hsm c hs h0
  refine ⟨Nat, fun k => [(0, int .u8 room), (1, de6s l), (5, .tt), (6, .ptr 0 0), (7, int .i64 k)], fun k => dkH (SF k), fun k => k ≤ l.length ∧ k ≤ 60, fun k => 60 - k,
    ⟨0, [0, 1, 2, 3], ⟨Nat.zero_le _, Nat.zero_le _⟩, ?_, ?_⟩, ?_⟩
  · show LeH 0 _ [0, 1, 2, 3] (dkH (SF 0))
    rw [hz0]
    exact leh_relG (by decide) ⟨.inl ⟨_, rfl, leDkL rfl rfl rfl rfl rfl⟩, .inl ⟨_, rfl, leMap (by simp only [ren_fmV])⟩, .inl ⟨_, rfl, leMap (by simp only [ren_fmV])⟩, .inl ⟨_, rfl, leRowQ rfl (by simp only [ren_rowP])⟩, trivial⟩
  · exact ⟨leI rfl, .same _ trivial, .same _ trivial, .ptr 0 rfl, leI rfl, trivial⟩
  rintro k ⟨hk, h60⟩
  have e1 : IntKind.i64.wrap ((k : Int) + 1) = ((k + 1 : Nat) : Int) := by rw [w64 (by omega) (by omega)]; omega
  refine ⟨fun c => ?_, fun c => ?_⟩
  · have f1 : (k : Int) < l.length := yes c
    refine ⟨fun c => ?_, fun c => ?_⟩
    · have f2 : (k : Int) < 60 := yes c
      have hlt : k < l.length := by omega
      have hfs := hfs hlt
      have hfit0 := hfit k hk h60
      have hsa := hsa hlt (by omega)
      have h6 : ∀ c, c < 6 → rowG l ((k : Int).toNat * 6 + c) = de6C (l.getD k d60) c := fun c hc => by rw [Int.toNat_natCast]; exact rowG_at l hc
      generalize l.getD k d60 = E at *
      have hrel0 := hrel k hk
      have hrel1 := hrel (k + 1) hlt
      have hfit1 := hfit (k + 1) hlt (by omega)
      have hgood1 := (good_all (hgood (k + 1) hlt)).1
      rw [hroom (k + 1) hlt] at hgood1
      have hno : ansF (SF k) E ≠ 0 → (SD (k + 1)).files = (SD k).files := fun h => by
        have e : SF (k + 1) = SF k := by rw [hfs]; exact ans_no h
        have := hrel1.now
        rw [e] at this
        exact rel_uniq this hrel0.now
      have hlf0 : (SD k).files.length = (SF k).now.length := rel_len hrel0.now
      have hlf : (SD (k + 1)).files.length = (SF (k + 1)).now.length := rel_len hrel1.now
      have hnl0 := hfit0.nowL
      have hnl := hfit1.nowL
      have hfits := fit_size hfit1
      have hfiles0 := files_p (SF k) (SD k).files hrel0.now (fun p hp => ⟨(hfit0.now p hp).1, by have := (hfit0.now p hp).2.1; omega⟩) (by omega)
      have hfiles := files_p (SF (k + 1)) (SD (k + 1)).files hrel1.now (fun p hp => ⟨(hfit1.now p hp).1, by have := (hfit1.now p hp).2.1; omega⟩) (by omega)
      have hsame := same_ref (SD (k + 1)).files (SD k).files (fit_bytes hrel1.now hfit1.now) (fit_bytes hrel0.now hfit0.now) (by omega) (by omega)
      have hsize := size_p (SF (k + 1)) (by omega)
      have hdo := do_p (SF k) E (by have := fit_size hfit0; omega) (by have := hsa.1; omega) (by have := (fit_len hfit0).1; omega)
      unfold afterP at hdo
      rw [← hfs] at hdo
      generalize ansF (SF k) E = A at *
      have b1 : 0 ≤ (k : Int) ∧ (k : Int) < l.length := ⟨by omega, f1⟩
      generalize sizeF (SF (k + 1)).now = Z at *
      refine ⟨[0, 1, 2, 3], _, (by (try simp only [ren_fmV]); exact fmVFree _), (by (try simp only [ren_fmV]); exact fmVFree _), (by (try simp only [ren_rowP]); exact fun i _ => rowPFree _ i), at_h ?_ (hfiles0), ?_⟩
      · exact dkH_eq (by first | simp only [ren_fmV] | rfl) (by first | simp only [ren_fmV] | rfl) (by first | simp only [ren_rowP] | rfl)
      rintro r hh ⟨rfl, rfl⟩
      refine ⟨.inl rfl, ?_⟩
      refine ⟨b1, de6C E, fun c hc => h6 c hc, ?_⟩
      refine ⟨[0, 1, 2, 3], _, (by (try simp only [ren_fmV]); exact fmVFree _), (by (try simp only [ren_fmV]); exact fmVFree _), (by (try simp only [ren_rowP]); exact fun i _ => rowPFree _ i), (fun i hi => de6C_free E _), at_h ?_ (hdo.args ⟨VLe.refl _, vd6 (fun i hi => rfl), trivial⟩), ?_⟩
      · exact dkH_eq (by first | simp only [ren_fmV] | rfl) (by first | simp only [ren_fmV] | rfl) (by first | simp only [ren_rowP] | rfl)
      rintro r hh ⟨rfl, hsh⟩
      rcases hsh with rfl | rfl | rfl | rfl
      · refine ⟨.inl rfl, ?_⟩
        refine ⟨[0, 1, 2, 3], _, (by (try simp only [ren_fmV]); exact fmVFree _), (by (try simp only [ren_fmV]); exact fmVFree _), (by (try simp only [ren_rowP]); exact fun i _ => rowPFree _ i), at_h ?_ (hsize), ?_⟩
        · exact dkH_eq (by first | simp only [ren_fmV] | rfl) (by first | simp only [ren_fmV] | rfl) (by first | simp only [ren_rowP] | rfl)
        rintro r hh ⟨rfl, rfl⟩
        refine ⟨.inl rfl, ?_⟩
        refine ⟨fun c => absurd (show IntKind.i64.wrap room < (Z : Int) from yes c) (by rw [hw]; omega), fun _ => ?_⟩
        refine ⟨fun c => ?_, fun c => ?_⟩
        · have hA : ¬ A = 0 := yes c
          have hS := hsame.yes (decide_eq_true (hno hA))
          refine ⟨[0, 1, 2, 3], _, (by (try simp only [ren_fmV]); exact fmVFree _), (by (try simp only [ren_fmV]); exact fmVFree _), (by (try simp only [ren_rowP]); exact fun i _ => rowPFree _ i), at_h ?_ (hfiles), ?_⟩
          · exact dkH_eq (by first | simp only [ren_fmV] | rfl) (by first | simp only [ren_fmV] | rfl) (by first | simp only [ren_rowP] | rfl)
          rintro r hh ⟨rfl, rfl⟩
          refine ⟨.inl rfl, ?_⟩
          refine ⟨[], _, hS, ?_⟩
          rintro r hh ⟨rfl, rfl⟩
          refine ⟨.inl rfl, ?_⟩
          refine ⟨trivial, k + 1, [0, 1, 2, 3], ⟨by omega, by omega⟩, by show 60 - (k + 1) < 60 - k; omega, ?_, ⟨leI rfl, .same _ trivial, .same _ trivial, .ptr 0 rfl, leI e1, trivial⟩⟩
          exact leh_relG (by decide) ⟨.inl ⟨_, rfl, leDkL rfl rfl rfl rfl rfl⟩, .inl ⟨_, rfl, leMap (by simp only [ren_fmV])⟩, .inl ⟨_, rfl, leMap (by simp only [ren_fmV])⟩, .inl ⟨_, rfl, leRowQ rfl (by simp only [ren_rowP])⟩, trivial⟩
        · refine ⟨trivial, k + 1, [0, 1, 2, 3], ⟨by omega, by omega⟩, by show 60 - (k + 1) < 60 - k; omega, ?_, ⟨leI rfl, .same _ trivial, .same _ trivial, .ptr 0 rfl, leI e1, trivial⟩⟩
          exact leh_relG (by decide) ⟨.inl ⟨_, rfl, leDkL rfl rfl rfl rfl rfl⟩, .inl ⟨_, rfl, leMap (by simp only [ren_fmV])⟩, .inl ⟨_, rfl, leMap (by simp only [ren_fmV])⟩, .inl ⟨_, rfl, leRowQ rfl (by simp only [ren_rowP])⟩, trivial⟩
      · refine ⟨.inl rfl, ?_⟩
        refine ⟨[0, 1, 2, 4], _, (by (try simp only [ren_fmV]); exact fmVFree _), (by (try simp only [ren_fmV]); exact fmVFree _), (by (try simp only [ren_rowP]); exact fun i _ => rowPFree _ i), at_h ?_ (hsize), ?_⟩
        · exact dkH_eq (by first | simp only [ren_fmV] | rfl) (by first | simp only [ren_fmV] | rfl) (by first | simp only [ren_rowP] | rfl)
        rintro r hh ⟨rfl, rfl⟩
        refine ⟨.inl rfl, ?_⟩
        refine ⟨fun c => absurd (show IntKind.i64.wrap room < (Z : Int) from yes c) (by rw [hw]; omega), fun _ => ?_⟩
        refine ⟨fun c => ?_, fun c => ?_⟩
        · have hA : ¬ A = 0 := yes c
          have hS := hsame.yes (decide_eq_true (hno hA))
          refine ⟨[0, 1, 2, 4], _, (by (try simp only [ren_fmV]); exact fmVFree _), (by (try simp only [ren_fmV]); exact fmVFree _), (by (try simp only [ren_rowP]); exact fun i _ => rowPFree _ i), at_h ?_ (hfiles), ?_⟩
          · exact dkH_eq (by first | simp only [ren_fmV] | rfl) (by first | simp only [ren_fmV] | rfl) (by first | simp only [ren_rowP] | rfl)
          rintro r hh ⟨rfl, rfl⟩
          refine ⟨.inl rfl, ?_⟩
          refine ⟨[], _, hS, ?_⟩
          rintro r hh ⟨rfl, rfl⟩
          refine ⟨.inl rfl, ?_⟩
          refine ⟨trivial, k + 1, [0, 1, 2, 4], ⟨by omega, by omega⟩, by show 60 - (k + 1) < 60 - k; omega, ?_, ⟨leI rfl, .same _ trivial, .same _ trivial, .ptr 0 rfl, leI e1, trivial⟩⟩
          exact leh_relG (by decide) ⟨.inl ⟨_, rfl, leDkL rfl rfl rfl rfl rfl⟩, .inl ⟨_, rfl, leMap (by simp only [ren_fmV])⟩, .inl ⟨_, rfl, leMap (by simp only [ren_fmV])⟩, .inl ⟨_, rfl, leRowQ rfl (by simp only [ren_rowP])⟩, trivial⟩
        · refine ⟨trivial, k + 1, [0, 1, 2, 4], ⟨by omega, by omega⟩, by show 60 - (k + 1) < 60 - k; omega, ?_, ⟨leI rfl, .same _ trivial, .same _ trivial, .ptr 0 rfl, leI e1, trivial⟩⟩
          exact leh_relG (by decide) ⟨.inl ⟨_, rfl, leDkL rfl rfl rfl rfl rfl⟩, .inl ⟨_, rfl, leMap (by simp only [ren_fmV])⟩, .inl ⟨_, rfl, leMap (by simp only [ren_fmV])⟩, .inl ⟨_, rfl, leRowQ rfl (by simp only [ren_rowP])⟩, trivial⟩
      · refine ⟨.inl rfl, ?_⟩
        refine ⟨[0, 1, 4, 3], _, (by (try simp only [ren_fmV]); exact fmVFree _), (by (try simp only [ren_fmV]); exact fmVFree _), (by (try simp only [ren_rowP]); exact fun i _ => rowPFree _ i), at_h ?_ (hsize), ?_⟩
        · exact dkH_eq (by first | simp only [ren_fmV] | rfl) (by first | simp only [ren_fmV] | rfl) (by first | simp only [ren_rowP] | rfl)
        rintro r hh ⟨rfl, rfl⟩
        refine ⟨.inl rfl, ?_⟩
        refine ⟨fun c => absurd (show IntKind.i64.wrap room < (Z : Int) from yes c) (by rw [hw]; omega), fun _ => ?_⟩
        refine ⟨fun c => ?_, fun c => ?_⟩
        · have hA : ¬ A = 0 := yes c
          have hS := hsame.yes (decide_eq_true (hno hA))
          refine ⟨[0, 1, 4, 3], _, (by (try simp only [ren_fmV]); exact fmVFree _), (by (try simp only [ren_fmV]); exact fmVFree _), (by (try simp only [ren_rowP]); exact fun i _ => rowPFree _ i), at_h ?_ (hfiles), ?_⟩
          · exact dkH_eq (by first | simp only [ren_fmV] | rfl) (by first | simp only [ren_fmV] | rfl) (by first | simp only [ren_rowP] | rfl)
          rintro r hh ⟨rfl, rfl⟩
          refine ⟨.inl rfl, ?_⟩
          refine ⟨[], _, hS, ?_⟩
          rintro r hh ⟨rfl, rfl⟩
          refine ⟨.inl rfl, ?_⟩
          refine ⟨trivial, k + 1, [0, 1, 4, 3], ⟨by omega, by omega⟩, by show 60 - (k + 1) < 60 - k; omega, ?_, ⟨leI rfl, .same _ trivial, .same _ trivial, .ptr 0 rfl, leI e1, trivial⟩⟩
          exact leh_relG (by decide) ⟨.inl ⟨_, rfl, leDkL rfl rfl rfl rfl rfl⟩, .inl ⟨_, rfl, leMap (by simp only [ren_fmV])⟩, .inl ⟨_, rfl, leMap (by simp only [ren_fmV])⟩, .inl ⟨_, rfl, leRowQ rfl (by simp only [ren_rowP])⟩, trivial⟩
        · refine ⟨trivial, k + 1, [0, 1, 4, 3], ⟨by omega, by omega⟩, by show 60 - (k + 1) < 60 - k; omega, ?_, ⟨leI rfl, .same _ trivial, .same _ trivial, .ptr 0 rfl, leI e1, trivial⟩⟩
          exact leh_relG (by decide) ⟨.inl ⟨_, rfl, leDkL rfl rfl rfl rfl rfl⟩, .inl ⟨_, rfl, leMap (by simp only [ren_fmV])⟩, .inl ⟨_, rfl, leMap (by simp only [ren_fmV])⟩, .inl ⟨_, rfl, leRowQ rfl (by simp only [ren_rowP])⟩, trivial⟩
      · refine ⟨.inl rfl, ?_⟩
        refine ⟨[0, 4, 5, 3], _, (by (try simp only [ren_fmV]); exact fmVFree _), (by (try simp only [ren_fmV]); exact fmVFree _), (by (try simp only [ren_rowP]); exact fun i _ => rowPFree _ i), at_h ?_ (hsize), ?_⟩
        · exact dkH_eq (by first | simp only [ren_fmV] | rfl) (by first | simp only [ren_fmV] | rfl) (by first | simp only [ren_rowP] | rfl)
        rintro r hh ⟨rfl, rfl⟩
        refine ⟨.inl rfl, ?_⟩
        refine ⟨fun c => absurd (show IntKind.i64.wrap room < (Z : Int) from yes c) (by rw [hw]; omega), fun _ => ?_⟩
        refine ⟨fun c => ?_, fun c => ?_⟩
        · have hA : ¬ A = 0 := yes c
          have hS := hsame.yes (decide_eq_true (hno hA))
          refine ⟨[0, 4, 5, 3], _, (by (try simp only [ren_fmV]); exact fmVFree _), (by (try simp only [ren_fmV]); exact fmVFree _), (by (try simp only [ren_rowP]); exact fun i _ => rowPFree _ i), at_h ?_ (hfiles), ?_⟩
          · exact dkH_eq (by first | simp only [ren_fmV] | rfl) (by first | simp only [ren_fmV] | rfl) (by first | simp only [ren_rowP] | rfl)
          rintro r hh ⟨rfl, rfl⟩
          refine ⟨.inl rfl, ?_⟩
          refine ⟨[], _, hS, ?_⟩
          rintro r hh ⟨rfl, rfl⟩
          refine ⟨.inl rfl, ?_⟩
          refine ⟨trivial, k + 1, [0, 4, 5, 3], ⟨by omega, by omega⟩, by show 60 - (k + 1) < 60 - k; omega, ?_, ⟨leI rfl, .same _ trivial, .same _ trivial, .ptr 0 rfl, leI e1, trivial⟩⟩
          exact leh_relG (by decide) ⟨.inl ⟨_, rfl, leDkL rfl rfl rfl rfl rfl⟩, .inl ⟨_, rfl, leMap (by simp only [ren_fmV])⟩, .inl ⟨_, rfl, leMap (by simp only [ren_fmV])⟩, .inl ⟨_, rfl, leRowQ rfl (by simp only [ren_rowP])⟩, trivial⟩
        · refine ⟨trivial, k + 1, [0, 4, 5, 3], ⟨by omega, by omega⟩, by show 60 - (k + 1) < 60 - k; omega, ?_, ⟨leI rfl, .same _ trivial, .same _ trivial, .ptr 0 rfl, leI e1, trivial⟩⟩
          exact leh_relG (by decide) ⟨.inl ⟨_, rfl, leDkL rfl rfl rfl rfl rfl⟩, .inl ⟨_, rfl, leMap (by simp only [ren_fmV])⟩, .inl ⟨_, rfl, leMap (by simp only [ren_fmV])⟩, .inl ⟨_, rfl, leRowQ rfl (by simp only [ren_rowP])⟩, trivial⟩
    · have f2 : ¬ (k : Int) < 60 := no c
      have hrm := room_p (SF k)
      have hroomk := hroom k hk
      refine ⟨[0, 1, 2, 3], _, (by (try simp only [ren_fmV]); exact fmVFree _), (by (try simp only [ren_fmV]); exact fmVFree _), (by (try simp only [ren_rowP]); exact fun i _ => rowPFree _ i), at_h ?_ (hrm), ?_⟩
      · exact dkH_eq (by first | simp only [ren_fmV] | rfl) (by first | simp only [ren_fmV] | rfl) (by first | simp only [ren_rowP] | rfl)
      rintro r hh ⟨rfl, rfl⟩
      refine ⟨.inl rfl, ?_⟩
      exact ⟨[], [], .tt, lehN _, leTT (decide_eq_true (by show (SF k).room = IntKind.i64.wrap room; rw [hw]; omega)), rfl, rfl⟩
  · have f1 : ¬ (k : Int) < l.length := no c
    have hrm := room_p (SF k)
    have hroomk := hroom k hk
    refine ⟨[0, 1, 2, 3], _, (by (try simp only [ren_fmV]); exact fmVFree _), (by (try simp only [ren_fmV]); exact fmVFree _), (by (try simp only [ren_rowP]); exact fun i _ => rowPFree _ i), at_h ?_ (hrm), ?_⟩
    · exact dkH_eq (by first | simp only [ren_fmV] | rfl) (by first | simp only [ren_fmV] | rfl) (by first | simp only [ren_rowP] | rfl)
    rintro r hh ⟨rfl, rfl⟩
    refine ⟨.inl rfl, ?_⟩
    exact ⟨[], [], .tt, lehN _, leTT (decide_eq_true (by show (SF k).room = IntKind.i64.wrap room; rw [hw]; omega)), rfl, rfl⟩


end
end Go.Proofs.Ytflclafbieokiaa.Dk
