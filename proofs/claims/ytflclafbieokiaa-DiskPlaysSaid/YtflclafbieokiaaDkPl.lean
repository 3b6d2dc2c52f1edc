/-
  The law DiskPlays, walked.
-/
import Derived.Test.YtflclafbieokiaaDkL3
set_option linter.unusedVariables false
set_option linter.unusedSectionVars false
set_option linter.unusedSimpArgs false
namespace Go.Proofs.Ytflclafbieokiaa.Dk
open Go AL Us
section
variable [Globs]

theorem leX {h : List AO} {l : List Nat} {xs : List AV} {X : DkD} (hl : xs.length = 4) (h0 : xs.getD 0 .top = dkdC X 0) (h1 : xs.getD 1 .top = dkdC X 1) (h2 : xs.getD 2 .top = dkdC X 2) (h3 : xs.getD 3 .top = dkdC X 3) : LeO h l (.lst xs) (.lst ((List.range 4).map (dkdC X))) := .lst _ _ (by rw [hl]; rfl) fun i hi => by
  have hi : i < 4 := by rw [← hl]; exact hi
  match i, hi with
  | 0, _ => rw [h0]; exact .same _ (dkdC_free X 0)
  | 1, _ => rw [h1]; exact .same _ (dkdC_free X 1)
  | 2, _ => rw [h2]; exact .same _ (dkdC_free X 2)
  | 3, _ => rw [h3]; exact .same _ (dkdC_free X 3)


set_option maxHeartbeats 4000000 in
set_option maxRecDepth 10000 in
theorem plays_p (room : Int) (l : List De6) (hb : okD6 l) : ACalls Try.prog 6 [int .i64 room, de6s l] [] (fun r h => r = .tt ∧ h = []) := by
  have h0 := new_p room
  have hx0 := new_r room
  have hsm := small_p l
  have hrel := st_rel room l
  have hgood := st_good room l
  have hroom := st_room room l
  have hfs := fun {k : Nat} (h : k < l.length) => stF_succ (d := newF room) (l := l) (k := k) h
  have hds := fun {k : Nat} (h : k < l.length) => stD_succ (d := newD room) (l := l) (k := k) h
  have hz0 : stF (newF room) l 0 = newF room := by unfold stF; rw [List.take_zero]; rfl
  have hz1 : stD (newD room) l 0 = newD room := by unfold stD; rw [List.take_zero]; rfl
  refine rcalls Try.func6 rfl (by decide) ?_
  refine ⟨[], _, dk_awake, ?_⟩
  rintro r hh ⟨rfl, rfl⟩
  refine ⟨.inl rfl, ?_⟩
  refine ⟨[], _, h0, ?_⟩
  rintro r hh ⟨rfl, rfl⟩
  refine ⟨.inl rfl, ?_⟩
  refine ⟨[], _, hx0, ?_⟩
  rintro r hh ⟨rfl, rfl⟩
  refine ⟨.inl rfl, ?_⟩
  refine ⟨[], _, hsm, ?_⟩
  rintro r hh ⟨rfl, rfl⟩
  refine ⟨.inl rfl, ?_⟩
  refine ⟨fun c => ?_, fun c => ?_⟩
  · exact ⟨[], [], .tt, lehN _, LeV.same _ trivial, rfl, rfl⟩
  have hs : smallD l := Classical.byContradiction fun x => (by rw [decide_eq_false x] at c; cases c)
  have hfit := st_fit room l hs hb
  have hsa := fun {k : Nat} (h : k < l.length) (g : k < 60) => small_at hs hb h g
  clear hsm c hs h0 hx0
  rw [show (⟨[], [], [], max room 0⟩ : DkD) = newD room from rfl]
  generalize stF (newF room) l = SF at *
  generalize stD (newD room) l = SD at *
  refine ⟨Nat, fun k => [(1, de6s l), (5, .tt), (6, .ptr 0 0), (7, .ptr 4 0), (8, int .i64 k)], fun k => dkH (SF k) ++ [.lst ((List.range 4).map (dkdC (SD k)))], fun k => k ≤ l.length ∧ k ≤ 60, fun k => 60 - k,
    ⟨0, [0, 1, 2, 3, 4], ⟨Nat.zero_le _, Nat.zero_le _⟩, ?_, ?_⟩, ?_⟩
  · show LeH 0 _ [0, 1, 2, 3, 4] (dkH (SF 0) ++ [.lst ((List.range 4).map (dkdC (SD 0)))])
    rw [hz0, hz1]
    exact leh_relG (by decide) ⟨.inl ⟨_, rfl, leDkL rfl rfl rfl rfl rfl⟩, .inl ⟨_, rfl, leMap (by simp only [ren_fmV])⟩, .inl ⟨_, rfl, leMap (by simp only [ren_fmV])⟩, .inl ⟨_, rfl, leRowQ rfl (by simp only [ren_rowP])⟩, .inl ⟨_, rfl, leX rfl rfl rfl rfl rfl⟩, trivial⟩
  · exact ⟨.same _ trivial, .same _ trivial, .ptr 0 rfl, .ptr 0 rfl, leI rfl, trivial⟩
  rintro k ⟨hk, h60⟩
  have e1 : IntKind.i64.wrap ((k : Int) + 1) = ((k + 1 : Nat) : Int) := by rw [w64 (by omega) (by omega)]; omega
  refine ⟨fun c => ?_, fun c => ?_⟩
  · have f1 : (k : Int) < l.length := yes c
    refine ⟨fun c => ?_, fun c => ?_⟩
    · have f2 : (k : Int) < 60 := yes c
      have hlt : k < l.length := by omega
      have hfs := hfs hlt
      have hds := hds hlt
      have hrel0 := hrel k hk
      have hfit0 := hfit k hk h60
      have hgood0 := hgood k hk
      have hsa := hsa hlt (by omega)
      have h6 : ∀ c, c < 6 → rowG l ((k : Int).toNat * 6 + c) = de6C (l.getD k d60) c := fun c hc => by rw [Int.toNat_natCast]; exact rowG_at l hc
      generalize l.getD k d60 = E at *
      have hrel1 := hrel (k + 1) hlt
      have hfit1 := hfit (k + 1) hlt (by omega)
      have hroom1 := hroom (k + 1) hlt
      have hdo := do_p (SF k) E (by have := fit_size hfit0; omega) (by have := hsa.1; omega) (by have := (fit_len hfit0).1; omega)
      have hwant := want_p (SD k) E (fit_doc hfit0 hrel0 (by omega) (by omega)) (by have := hsa.1; omega) (by have := hgood0.room; rw [hrel0.room] at this; exact this)
      rw [← hds, ← ans_same hrel0] at hwant
      unfold afterP at hdo
      rw [← hfs] at hdo
      generalize ansF (SF k) E = A at *
      have vA : decide (¬ A = A) = false := by simp
      have hfits := fit_size hfit1
      have hfitl := fit_len hfit1
      have hfiles := files_p (SF (k + 1)) (SD (k + 1)).files hrel1.now (fun p hp => ⟨(hfit1.now p hp).1, by have := (hfit1.now p hp).2.1; omega⟩) (by have := hfit1.nowL; omega)
      have hlf : (SD (k + 1)).files.length = (SF (k + 1)).now.length := rel_len hrel1.now
      have hnl := hfit1.nowL
      have hsame := (same_ref (SD (k + 1)).files (SD (k + 1)).files (fit_bytes hrel1.now hfit1.now) (fit_bytes hrel1.now hfit1.now) (by omega) (by omega)).yes (decide_eq_true rfl)
      have hsize := size_p (SF (k + 1)) (by omega)
      have hsn : sizeF (SF (k + 1)).now = dataN (SD (k + 1)).files := rel_size hrel1.now
      have hsz := size_r (SD (k + 1)).files (by omega) (by omega)
      rw [← hsn] at hsz
      have hpend := pending_p (SF (k + 1))
      have hdn : (SF (k + 1)).deeds.length = (SD (k + 1)).deeds.length := by rw [hrel1.deeds]; exact List.length_map _
      rw [hdn] at hpend
      have hrm := room_p (SF (k + 1))
      rw [show (SF (k + 1)).room = (SD (k + 1)).room from hrel1.room] at hrm
      generalize sizeF (SF (k + 1)).now = Z at *
      have vZ : decide (¬ ((Z : Nat) : Int) = (Z : Nat)) = false := by simp
      have vP : decide (¬ (((SD (k + 1)).deeds.length : Nat) : Int) = ((SD (k + 1)).deeds.length : Nat)) = false := by simp
      have vR : decide (¬ (SD (k + 1)).room = (SD (k + 1)).room) = false := by simp
      have b1 : 0 ≤ (k : Int) ∧ (k : Int) < l.length := ⟨by omega, f1⟩
      refine ⟨b1, de6C E, fun c hc => h6 c hc, ?_⟩
      refine ⟨[0, 1, 2, 3], _, (by (try simp only [ren_fmV]); exact fmVFree _), (by (try simp only [ren_fmV]); exact fmVFree _), (by (try simp only [ren_rowP]); exact fun i _ => rowPFree _ i), (fun i hi => de6C_free E _), at_h ?_ (hdo.args ⟨VLe.refl _, vd6 (fun i hi => rfl), trivial⟩), ?_⟩
      · exact dkH_eq (by first | simp only [ren_fmV] | rfl) (by first | simp only [ren_fmV] | rfl) (by first | simp only [ren_rowP] | rfl)
      rintro r hh ⟨rfl, hsh⟩
      rcases hsh with rfl | rfl | rfl | rfl
      · refine ⟨.inl rfl, ?_⟩
        refine .inr ⟨11, by decide +kernel, ?_⟩
        refine ⟨_, rfl, ?_⟩
        refine ⟨_, rfl, ?_⟩
        refine ⟨_, rfl, ?_⟩
        refine ⟨_, ⟨b1, de6C E, fun c hc => h6 c hc, rfl⟩, ?_⟩
        refine ⟨_, rfl, ?_⟩
        refine ⟨_, ⟨[], _, (fun i hi => fr4 (dkdC_free (SD k)) hi), (fun i hi => de6C_free E _), hwant.args ⟨vdk fun i hi => ld4 hi, vd6 (fun i hi => rfl), trivial⟩, by rintro r h ⟨rfl, rfl⟩; exact ⟨.inl rfl, rfl, rfl⟩⟩, ?_⟩
        refine ⟨_, rfl, ?_⟩
        refine ⟨_, rfl, ?_⟩
        refine ⟨_, rfl, ?_⟩
        refine ⟨_, _, ⟨rfl, rfl⟩, ?_⟩
        refine ⟨_, _, ⟨rfl, rfl⟩, ?_⟩
        refine .inr ⟨32, by decide +kernel, ?_⟩
        refine ⟨_, rfl, ?_⟩
        refine ⟨_, rfl, ?_⟩
        refine ⟨_, rfl, ?_⟩
        rw [vA]
        refine ⟨_, rfl, ?_⟩
        refine ⟨_, rfl, ?_⟩
        refine ⟨_, ⟨[0, 1, 2, 3], _, (by (try simp only [ren_fmV]); exact fmVFree _), (by (try simp only [ren_fmV]); exact fmVFree _), (by (try simp only [ren_rowP]); exact fun i _ => rowPFree _ i), at_h (by exact dkH_eq (by first | simp only [ren_fmV] | rfl) (by first | simp only [ren_fmV] | rfl) (by first | simp only [ren_rowP] | rfl)) (hfiles), by rintro r h ⟨rfl, rfl⟩; exact ⟨.inl rfl, by first | rfl | (simp only [ren_fmV, ren_rowP]; done) | (simp only [ren_fmV, ren_rowP]; rfl), rfl⟩⟩, ?_⟩
        refine ⟨_, rfl, ?_⟩
        refine ⟨_, rfl, ?_⟩
        refine ⟨_, ⟨[], _, hsame, by rintro r h ⟨rfl, rfl⟩; exact ⟨.inl rfl, rfl, rfl⟩⟩, ?_⟩
        refine ⟨_, rfl, ?_⟩
        refine ⟨_, rfl, ?_⟩
        refine ⟨_, rfl, ?_⟩
        refine ⟨_, rfl, ?_⟩
        refine ⟨_, ⟨[0, 1, 2, 3], _, (by (try simp only [ren_fmV]); exact fmVFree _), (by (try simp only [ren_fmV]); exact fmVFree _), (by (try simp only [ren_rowP]); exact fun i _ => rowPFree _ i), at_h (by exact dkH_eq (by first | simp only [ren_fmV] | rfl) (by first | simp only [ren_fmV] | rfl) (by first | simp only [ren_rowP] | rfl)) (hsize), by rintro r h ⟨rfl, rfl⟩; exact ⟨.inl rfl, by first | rfl | (simp only [ren_fmV, ren_rowP]; done) | (simp only [ren_fmV, ren_rowP]; rfl), rfl⟩⟩, ?_⟩
        refine ⟨_, rfl, ?_⟩
        refine ⟨_, rfl, ?_⟩
        refine ⟨_, ⟨[], _, hsz, by rintro r h ⟨rfl, rfl⟩; exact ⟨.inl rfl, rfl, rfl⟩⟩, ?_⟩
        refine ⟨_, rfl, ?_⟩
        rw [vZ]
        refine ⟨_, rfl, ?_⟩
        refine ⟨_, rfl, ?_⟩
        refine ⟨_, rfl, ?_⟩
        refine ⟨_, ⟨[0, 1, 2, 3], _, (by (try simp only [ren_fmV]); exact fmVFree _), (by (try simp only [ren_fmV]); exact fmVFree _), (by (try simp only [ren_rowP]); exact fun i _ => rowPFree _ i), at_h (by exact dkH_eq (by first | simp only [ren_fmV] | rfl) (by first | simp only [ren_fmV] | rfl) (by first | simp only [ren_rowP] | rfl)) (hpend), by rintro r h ⟨rfl, rfl⟩; exact ⟨.inl rfl, by first | rfl | (simp only [ren_fmV, ren_rowP]; done) | (simp only [ren_fmV, ren_rowP]; rfl), rfl⟩⟩, ?_⟩
        refine ⟨_, rfl, ?_⟩
        refine ⟨_, rfl, ?_⟩
        refine ⟨_, rfl, ?_⟩
        refine ⟨_, rfl, ?_⟩
        rw [vP]
        refine ⟨_, rfl, ?_⟩
        refine ⟨_, rfl, ?_⟩
        refine ⟨_, rfl, ?_⟩
        refine ⟨_, ⟨[0, 1, 2, 3], _, (by (try simp only [ren_fmV]); exact fmVFree _), (by (try simp only [ren_fmV]); exact fmVFree _), (by (try simp only [ren_rowP]); exact fun i _ => rowPFree _ i), at_h (by exact dkH_eq (by first | simp only [ren_fmV] | rfl) (by first | simp only [ren_fmV] | rfl) (by first | simp only [ren_rowP] | rfl)) (hrm), by rintro r h ⟨rfl, rfl⟩; exact ⟨.inl rfl, by first | rfl | (simp only [ren_fmV, ren_rowP]; done) | (simp only [ren_fmV, ren_rowP]; rfl), rfl⟩⟩, ?_⟩
        refine ⟨_, rfl, ?_⟩
        refine ⟨_, rfl, ?_⟩
        refine ⟨fun c => (by cases c), fun _ => ?_⟩
        refine ⟨fun c => absurd rfl (yes c), fun _ => ?_⟩
        refine ⟨trivial, k + 1, [0, 1, 2, 3, 4], ⟨by omega, by omega⟩, by show 60 - (k + 1) < 60 - k; omega, ?_, ⟨.same _ trivial, .same _ trivial, .ptr 0 rfl, .ptr 0 rfl, leI e1, trivial⟩⟩
        exact leh_relG (by decide) ⟨.inl ⟨_, rfl, leDkL rfl rfl rfl rfl rfl⟩, .inl ⟨_, rfl, leMap (by simp only [ren_fmV])⟩, .inl ⟨_, rfl, leMap (by simp only [ren_fmV])⟩, .inl ⟨_, rfl, leRowQ rfl (by simp only [ren_rowP])⟩, .inl ⟨_, rfl, leX rfl rfl rfl rfl rfl⟩, trivial⟩
      · refine ⟨.inl rfl, ?_⟩
        refine .inr ⟨11, by decide +kernel, ?_⟩
        refine ⟨_, rfl, ?_⟩
        refine ⟨_, rfl, ?_⟩
        refine ⟨_, rfl, ?_⟩
        refine ⟨_, ⟨b1, de6C E, fun c hc => h6 c hc, rfl⟩, ?_⟩
        refine ⟨_, rfl, ?_⟩
        refine ⟨_, ⟨[], _, (fun i hi => fr4 (dkdC_free (SD k)) hi), (fun i hi => de6C_free E _), hwant.args ⟨vdk fun i hi => ld4 hi, vd6 (fun i hi => rfl), trivial⟩, by rintro r h ⟨rfl, rfl⟩; exact ⟨.inl rfl, rfl, rfl⟩⟩, ?_⟩
        refine ⟨_, rfl, ?_⟩
        refine ⟨_, rfl, ?_⟩
        refine ⟨_, rfl, ?_⟩
        refine ⟨_, _, ⟨rfl, rfl⟩, ?_⟩
        refine ⟨_, _, ⟨rfl, rfl⟩, ?_⟩
        refine .inr ⟨32, by decide +kernel, ?_⟩
        refine ⟨_, rfl, ?_⟩
        refine ⟨_, rfl, ?_⟩
        refine ⟨_, rfl, ?_⟩
        rw [vA]
        refine ⟨_, rfl, ?_⟩
        refine ⟨_, rfl, ?_⟩
        refine ⟨_, ⟨[0, 1, 2, 5], _, (by (try simp only [ren_fmV]); exact fmVFree _), (by (try simp only [ren_fmV]); exact fmVFree _), (by (try simp only [ren_rowP]); exact fun i _ => rowPFree _ i), at_h (by exact dkH_eq (by first | simp only [ren_fmV] | rfl) (by first | simp only [ren_fmV] | rfl) (by first | simp only [ren_rowP] | rfl)) (hfiles), by rintro r h ⟨rfl, rfl⟩; exact ⟨.inl rfl, by first | rfl | (simp only [ren_fmV, ren_rowP]; done) | (simp only [ren_fmV, ren_rowP]; rfl), rfl⟩⟩, ?_⟩
        refine ⟨_, rfl, ?_⟩
        refine ⟨_, rfl, ?_⟩
        refine ⟨_, ⟨[], _, hsame, by rintro r h ⟨rfl, rfl⟩; exact ⟨.inl rfl, rfl, rfl⟩⟩, ?_⟩
        refine ⟨_, rfl, ?_⟩
        refine ⟨_, rfl, ?_⟩
        refine ⟨_, rfl, ?_⟩
        refine ⟨_, rfl, ?_⟩
        refine ⟨_, ⟨[0, 1, 2, 5], _, (by (try simp only [ren_fmV]); exact fmVFree _), (by (try simp only [ren_fmV]); exact fmVFree _), (by (try simp only [ren_rowP]); exact fun i _ => rowPFree _ i), at_h (by exact dkH_eq (by first | simp only [ren_fmV] | rfl) (by first | simp only [ren_fmV] | rfl) (by first | simp only [ren_rowP] | rfl)) (hsize), by rintro r h ⟨rfl, rfl⟩; exact ⟨.inl rfl, by first | rfl | (simp only [ren_fmV, ren_rowP]; done) | (simp only [ren_fmV, ren_rowP]; rfl), rfl⟩⟩, ?_⟩
        refine ⟨_, rfl, ?_⟩
        refine ⟨_, rfl, ?_⟩
        refine ⟨_, ⟨[], _, hsz, by rintro r h ⟨rfl, rfl⟩; exact ⟨.inl rfl, rfl, rfl⟩⟩, ?_⟩
        refine ⟨_, rfl, ?_⟩
        rw [vZ]
        refine ⟨_, rfl, ?_⟩
        refine ⟨_, rfl, ?_⟩
        refine ⟨_, rfl, ?_⟩
        refine ⟨_, ⟨[0, 1, 2, 5], _, (by (try simp only [ren_fmV]); exact fmVFree _), (by (try simp only [ren_fmV]); exact fmVFree _), (by (try simp only [ren_rowP]); exact fun i _ => rowPFree _ i), at_h (by exact dkH_eq (by first | simp only [ren_fmV] | rfl) (by first | simp only [ren_fmV] | rfl) (by first | simp only [ren_rowP] | rfl)) (hpend), by rintro r h ⟨rfl, rfl⟩; exact ⟨.inl rfl, by first | rfl | (simp only [ren_fmV, ren_rowP]; done) | (simp only [ren_fmV, ren_rowP]; rfl), rfl⟩⟩, ?_⟩
        refine ⟨_, rfl, ?_⟩
        refine ⟨_, rfl, ?_⟩
        refine ⟨_, rfl, ?_⟩
        refine ⟨_, rfl, ?_⟩
        rw [vP]
        refine ⟨_, rfl, ?_⟩
        refine ⟨_, rfl, ?_⟩
        refine ⟨_, rfl, ?_⟩
        refine ⟨_, ⟨[0, 1, 2, 5], _, (by (try simp only [ren_fmV]); exact fmVFree _), (by (try simp only [ren_fmV]); exact fmVFree _), (by (try simp only [ren_rowP]); exact fun i _ => rowPFree _ i), at_h (by exact dkH_eq (by first | simp only [ren_fmV] | rfl) (by first | simp only [ren_fmV] | rfl) (by first | simp only [ren_rowP] | rfl)) (hrm), by rintro r h ⟨rfl, rfl⟩; exact ⟨.inl rfl, by first | rfl | (simp only [ren_fmV, ren_rowP]; done) | (simp only [ren_fmV, ren_rowP]; rfl), rfl⟩⟩, ?_⟩
        refine ⟨_, rfl, ?_⟩
        refine ⟨_, rfl, ?_⟩
        refine ⟨fun c => (by cases c), fun _ => ?_⟩
        refine ⟨fun c => absurd rfl (yes c), fun _ => ?_⟩
        refine ⟨trivial, k + 1, [0, 1, 2, 5, 4], ⟨by omega, by omega⟩, by show 60 - (k + 1) < 60 - k; omega, ?_, ⟨.same _ trivial, .same _ trivial, .ptr 0 rfl, .ptr 0 rfl, leI e1, trivial⟩⟩
        exact leh_relG (by decide) ⟨.inl ⟨_, rfl, leDkL rfl rfl rfl rfl rfl⟩, .inl ⟨_, rfl, leMap (by simp only [ren_fmV])⟩, .inl ⟨_, rfl, leMap (by simp only [ren_fmV])⟩, .inl ⟨_, rfl, leRowQ rfl (by simp only [ren_rowP])⟩, .inl ⟨_, rfl, leX rfl rfl rfl rfl rfl⟩, trivial⟩
      · refine ⟨.inl rfl, ?_⟩
        refine .inr ⟨11, by decide +kernel, ?_⟩
        refine ⟨_, rfl, ?_⟩
        refine ⟨_, rfl, ?_⟩
        refine ⟨_, rfl, ?_⟩
        refine ⟨_, ⟨b1, de6C E, fun c hc => h6 c hc, rfl⟩, ?_⟩
        refine ⟨_, rfl, ?_⟩
        refine ⟨_, ⟨[], _, (fun i hi => fr4 (dkdC_free (SD k)) hi), (fun i hi => de6C_free E _), hwant.args ⟨vdk fun i hi => ld4 hi, vd6 (fun i hi => rfl), trivial⟩, by rintro r h ⟨rfl, rfl⟩; exact ⟨.inl rfl, rfl, rfl⟩⟩, ?_⟩
        refine ⟨_, rfl, ?_⟩
        refine ⟨_, rfl, ?_⟩
        refine ⟨_, rfl, ?_⟩
        refine ⟨_, _, ⟨rfl, rfl⟩, ?_⟩
        refine ⟨_, _, ⟨rfl, rfl⟩, ?_⟩
        refine .inr ⟨32, by decide +kernel, ?_⟩
        refine ⟨_, rfl, ?_⟩
        refine ⟨_, rfl, ?_⟩
        refine ⟨_, rfl, ?_⟩
        rw [vA]
        refine ⟨_, rfl, ?_⟩
        refine ⟨_, rfl, ?_⟩
        refine ⟨_, ⟨[0, 1, 5, 3], _, (by (try simp only [ren_fmV]); exact fmVFree _), (by (try simp only [ren_fmV]); exact fmVFree _), (by (try simp only [ren_rowP]); exact fun i _ => rowPFree _ i), at_h (by exact dkH_eq (by first | simp only [ren_fmV] | rfl) (by first | simp only [ren_fmV] | rfl) (by first | simp only [ren_rowP] | rfl)) (hfiles), by rintro r h ⟨rfl, rfl⟩; exact ⟨.inl rfl, by first | rfl | (simp only [ren_fmV, ren_rowP]; done) | (simp only [ren_fmV, ren_rowP]; rfl), rfl⟩⟩, ?_⟩
        refine ⟨_, rfl, ?_⟩
        refine ⟨_, rfl, ?_⟩
        refine ⟨_, ⟨[], _, hsame, by rintro r h ⟨rfl, rfl⟩; exact ⟨.inl rfl, rfl, rfl⟩⟩, ?_⟩
        refine ⟨_, rfl, ?_⟩
        refine ⟨_, rfl, ?_⟩
        refine ⟨_, rfl, ?_⟩
        refine ⟨_, rfl, ?_⟩
        refine ⟨_, ⟨[0, 1, 5, 3], _, (by (try simp only [ren_fmV]); exact fmVFree _), (by (try simp only [ren_fmV]); exact fmVFree _), (by (try simp only [ren_rowP]); exact fun i _ => rowPFree _ i), at_h (by exact dkH_eq (by first | simp only [ren_fmV] | rfl) (by first | simp only [ren_fmV] | rfl) (by first | simp only [ren_rowP] | rfl)) (hsize), by rintro r h ⟨rfl, rfl⟩; exact ⟨.inl rfl, by first | rfl | (simp only [ren_fmV, ren_rowP]; done) | (simp only [ren_fmV, ren_rowP]; rfl), rfl⟩⟩, ?_⟩
        refine ⟨_, rfl, ?_⟩
        refine ⟨_, rfl, ?_⟩
        refine ⟨_, ⟨[], _, hsz, by rintro r h ⟨rfl, rfl⟩; exact ⟨.inl rfl, rfl, rfl⟩⟩, ?_⟩
        refine ⟨_, rfl, ?_⟩
        rw [vZ]
        refine ⟨_, rfl, ?_⟩
        refine ⟨_, rfl, ?_⟩
        refine ⟨_, rfl, ?_⟩
        refine ⟨_, ⟨[0, 1, 5, 3], _, (by (try simp only [ren_fmV]); exact fmVFree _), (by (try simp only [ren_fmV]); exact fmVFree _), (by (try simp only [ren_rowP]); exact fun i _ => rowPFree _ i), at_h (by exact dkH_eq (by first | simp only [ren_fmV] | rfl) (by first | simp only [ren_fmV] | rfl) (by first | simp only [ren_rowP] | rfl)) (hpend), by rintro r h ⟨rfl, rfl⟩; exact ⟨.inl rfl, by first | rfl | (simp only [ren_fmV, ren_rowP]; done) | (simp only [ren_fmV, ren_rowP]; rfl), rfl⟩⟩, ?_⟩
        refine ⟨_, rfl, ?_⟩
        refine ⟨_, rfl, ?_⟩
        refine ⟨_, rfl, ?_⟩
        refine ⟨_, rfl, ?_⟩
        rw [vP]
        refine ⟨_, rfl, ?_⟩
        refine ⟨_, rfl, ?_⟩
        refine ⟨_, rfl, ?_⟩
        refine ⟨_, ⟨[0, 1, 5, 3], _, (by (try simp only [ren_fmV]); exact fmVFree _), (by (try simp only [ren_fmV]); exact fmVFree _), (by (try simp only [ren_rowP]); exact fun i _ => rowPFree _ i), at_h (by exact dkH_eq (by first | simp only [ren_fmV] | rfl) (by first | simp only [ren_fmV] | rfl) (by first | simp only [ren_rowP] | rfl)) (hrm), by rintro r h ⟨rfl, rfl⟩; exact ⟨.inl rfl, by first | rfl | (simp only [ren_fmV, ren_rowP]; done) | (simp only [ren_fmV, ren_rowP]; rfl), rfl⟩⟩, ?_⟩
        refine ⟨_, rfl, ?_⟩
        refine ⟨_, rfl, ?_⟩
        refine ⟨fun c => (by cases c), fun _ => ?_⟩
        refine ⟨fun c => absurd rfl (yes c), fun _ => ?_⟩
        refine ⟨trivial, k + 1, [0, 1, 5, 3, 4], ⟨by omega, by omega⟩, by show 60 - (k + 1) < 60 - k; omega, ?_, ⟨.same _ trivial, .same _ trivial, .ptr 0 rfl, .ptr 0 rfl, leI e1, trivial⟩⟩
        exact leh_relG (by decide) ⟨.inl ⟨_, rfl, leDkL rfl rfl rfl rfl rfl⟩, .inl ⟨_, rfl, leMap (by simp only [ren_fmV])⟩, .inl ⟨_, rfl, leMap (by simp only [ren_fmV])⟩, .inl ⟨_, rfl, leRowQ rfl (by simp only [ren_rowP])⟩, .inl ⟨_, rfl, leX rfl rfl rfl rfl rfl⟩, trivial⟩
      · refine ⟨.inl rfl, ?_⟩
        refine .inr ⟨11, by decide +kernel, ?_⟩
        refine ⟨_, rfl, ?_⟩
        refine ⟨_, rfl, ?_⟩
        refine ⟨_, rfl, ?_⟩
        refine ⟨_, ⟨b1, de6C E, fun c hc => h6 c hc, rfl⟩, ?_⟩
        refine ⟨_, rfl, ?_⟩
        refine ⟨_, ⟨[], _, (fun i hi => fr4 (dkdC_free (SD k)) hi), (fun i hi => de6C_free E _), hwant.args ⟨vdk fun i hi => ld4 hi, vd6 (fun i hi => rfl), trivial⟩, by rintro r h ⟨rfl, rfl⟩; exact ⟨.inl rfl, rfl, rfl⟩⟩, ?_⟩
        refine ⟨_, rfl, ?_⟩
        refine ⟨_, rfl, ?_⟩
        refine ⟨_, rfl, ?_⟩
        refine ⟨_, _, ⟨rfl, rfl⟩, ?_⟩
        refine ⟨_, _, ⟨rfl, rfl⟩, ?_⟩
        refine .inr ⟨32, by decide +kernel, ?_⟩
        refine ⟨_, rfl, ?_⟩
        refine ⟨_, rfl, ?_⟩
        refine ⟨_, rfl, ?_⟩
        rw [vA]
        refine ⟨_, rfl, ?_⟩
        refine ⟨_, rfl, ?_⟩
        refine ⟨_, ⟨[0, 5, 6, 3], _, (by (try simp only [ren_fmV]); exact fmVFree _), (by (try simp only [ren_fmV]); exact fmVFree _), (by (try simp only [ren_rowP]); exact fun i _ => rowPFree _ i), at_h (by exact dkH_eq (by first | simp only [ren_fmV] | rfl) (by first | simp only [ren_fmV] | rfl) (by first | simp only [ren_rowP] | rfl)) (hfiles), by rintro r h ⟨rfl, rfl⟩; exact ⟨.inl rfl, by first | rfl | (simp only [ren_fmV, ren_rowP]; done) | (simp only [ren_fmV, ren_rowP]; rfl), rfl⟩⟩, ?_⟩
        refine ⟨_, rfl, ?_⟩
        refine ⟨_, rfl, ?_⟩
        refine ⟨_, ⟨[], _, hsame, by rintro r h ⟨rfl, rfl⟩; exact ⟨.inl rfl, rfl, rfl⟩⟩, ?_⟩
        refine ⟨_, rfl, ?_⟩
        refine ⟨_, rfl, ?_⟩
        refine ⟨_, rfl, ?_⟩
        refine ⟨_, rfl, ?_⟩
        refine ⟨_, ⟨[0, 5, 6, 3], _, (by (try simp only [ren_fmV]); exact fmVFree _), (by (try simp only [ren_fmV]); exact fmVFree _), (by (try simp only [ren_rowP]); exact fun i _ => rowPFree _ i), at_h (by exact dkH_eq (by first | simp only [ren_fmV] | rfl) (by first | simp only [ren_fmV] | rfl) (by first | simp only [ren_rowP] | rfl)) (hsize), by rintro r h ⟨rfl, rfl⟩; exact ⟨.inl rfl, by first | rfl | (simp only [ren_fmV, ren_rowP]; done) | (simp only [ren_fmV, ren_rowP]; rfl), rfl⟩⟩, ?_⟩
        refine ⟨_, rfl, ?_⟩
        refine ⟨_, rfl, ?_⟩
        refine ⟨_, ⟨[], _, hsz, by rintro r h ⟨rfl, rfl⟩; exact ⟨.inl rfl, rfl, rfl⟩⟩, ?_⟩
        refine ⟨_, rfl, ?_⟩
        rw [vZ]
        refine ⟨_, rfl, ?_⟩
        refine ⟨_, rfl, ?_⟩
        refine ⟨_, rfl, ?_⟩
        refine ⟨_, ⟨[0, 5, 6, 3], _, (by (try simp only [ren_fmV]); exact fmVFree _), (by (try simp only [ren_fmV]); exact fmVFree _), (by (try simp only [ren_rowP]); exact fun i _ => rowPFree _ i), at_h (by exact dkH_eq (by first | simp only [ren_fmV] | rfl) (by first | simp only [ren_fmV] | rfl) (by first | simp only [ren_rowP] | rfl)) (hpend), by rintro r h ⟨rfl, rfl⟩; exact ⟨.inl rfl, by first | rfl | (simp only [ren_fmV, ren_rowP]; done) | (simp only [ren_fmV, ren_rowP]; rfl), rfl⟩⟩, ?_⟩
        refine ⟨_, rfl, ?_⟩
        refine ⟨_, rfl, ?_⟩
        refine ⟨_, rfl, ?_⟩
        refine ⟨_, rfl, ?_⟩
        rw [vP]
        refine ⟨_, rfl, ?_⟩
        refine ⟨_, rfl, ?_⟩
        refine ⟨_, rfl, ?_⟩
        refine ⟨_, ⟨[0, 5, 6, 3], _, (by (try simp only [ren_fmV]); exact fmVFree _), (by (try simp only [ren_fmV]); exact fmVFree _), (by (try simp only [ren_rowP]); exact fun i _ => rowPFree _ i), at_h (by exact dkH_eq (by first | simp only [ren_fmV] | rfl) (by first | simp only [ren_fmV] | rfl) (by first | simp only [ren_rowP] | rfl)) (hrm), by rintro r h ⟨rfl, rfl⟩; exact ⟨.inl rfl, by first | rfl | (simp only [ren_fmV, ren_rowP]; done) | (simp only [ren_fmV, ren_rowP]; rfl), rfl⟩⟩, ?_⟩
        refine ⟨_, rfl, ?_⟩
        refine ⟨_, rfl, ?_⟩
        refine ⟨fun c => (by cases c), fun _ => ?_⟩
        refine ⟨fun c => absurd rfl (yes c), fun _ => ?_⟩
        refine ⟨trivial, k + 1, [0, 5, 6, 3, 4], ⟨by omega, by omega⟩, by show 60 - (k + 1) < 60 - k; omega, ?_, ⟨.same _ trivial, .same _ trivial, .ptr 0 rfl, .ptr 0 rfl, leI e1, trivial⟩⟩
        exact leh_relG (by decide) ⟨.inl ⟨_, rfl, leDkL rfl rfl rfl rfl rfl⟩, .inl ⟨_, rfl, leMap (by simp only [ren_fmV])⟩, .inl ⟨_, rfl, leMap (by simp only [ren_fmV])⟩, .inl ⟨_, rfl, leRowQ rfl (by simp only [ren_rowP])⟩, .inl ⟨_, rfl, leX rfl rfl rfl rfl rfl⟩, trivial⟩
    · have f2 : ¬ (k : Int) < 60 := no c
      exact ⟨[], [], .tt, lehN _, LeV.same _ trivial, rfl, rfl⟩
  · have f1 : ¬ (k : Int) < l.length := no c
    exact ⟨[], [], .tt, lehN _, LeV.same _ trivial, rfl, rfl⟩
end
end Go.Proofs.Ytflclafbieokiaa.Dk
