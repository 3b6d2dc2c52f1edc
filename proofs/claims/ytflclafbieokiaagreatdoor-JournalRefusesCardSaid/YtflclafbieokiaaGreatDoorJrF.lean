/-
  The law JournalRefuses, walked.
-/
import Derived.Test.YtflclafbieokiaaGreatDoorBrg
set_option linter.unusedVariables false
set_option linter.unusedSectionVars false
set_option linter.unusedSimpArgs false
set_option maxRecDepth 10000
namespace Go.Proofs.YtflclafbieokiaaGreatDoor.Jr
open Go AL Oc Pa Spl Hd Us Dk Sh

def reX : Fl := ⟨aA, [120]⟩
def reL (w : Nat) : List Fl := [reX, if w = 0 then ⟨intN, []⟩ else if w = 1 then ⟨ByteArray.empty, []⟩ else if w = 2 then ⟨aA, []⟩ else ⟨bB, List.replicate 1000 0⟩]
def reE (w : Nat) : Int := if w = 0 then 1 else if w = 1 then 1 else if w = 2 then 7 else 5
theorem re_bytes (w : Nat) : okBytes (reL w) := fun f hf x hx => by
  unfold reL at hf
  rcases List.mem_cons.1 hf with rfl | hf
  · rw [List.mem_singleton.1 hx]; decide
  · rw [List.mem_singleton.1 hf] at hx
    split at hx
    · cases hx
    split at hx
    · cases hx
    split at hx
    · cases hx
    · rw [List.eq_of_mem_replicate hx]; decide
theorem re_fit (w : Nat) : fitL (reL w) ∧ okSizes (reL w) ∧ ∀ f ∈ reL w, f.data.length ≤ 1000 := by
  have hb := re_bytes w
  have h : ∀ f ∈ reL w, f.path.size ≤ 281474976710656 ∧ f.data.length ≤ 1000 := fun f hf => by
    unfold reL at hf
    rcases List.mem_cons.1 hf with rfl | hf
    · exact ⟨by decide, by decide⟩
    · rw [List.mem_singleton.1 hf]
      split
      · exact ⟨by decide, by decide⟩
      split
      · exact ⟨by decide, by decide⟩
      split
      · exact ⟨by decide, by decide⟩
      · exact ⟨by decide, by rw [List.length_replicate]; exact Nat.le_refl _⟩
  refine ⟨⟨by show 2 ≤ 400; decide, ?_⟩, fun f hf => ⟨(h f hf).1, hb f hf⟩, fun f hf => (h f hf).2⟩
  have := data_szB (B := 1000) (fun f hf => (h f hf).2) 2
  rw [List.take_of_length_le (by show 2 ≤ 2; decide)] at this
  omega
theorem re_int (w : Nat) (h : putE (reL w) = 0) : okV 10000000 (intL (reL w)) := by
  letI : Globs := ⟨[]⟩
  obtain ⟨h1, h2, h3⟩ := re_fit w
  have g1 := putR_le h1 h
  have g2 := h1.2
  have g3 := h1.1
  refine ⟨by unfold intL; rw [List.length_append, sumS_len0]; omega, fun x hx => ?_⟩
  rcases List.mem_append.1 (show x ∈ putR (reL w) ++ sumS (putR (reL w)) from hx) with hx | hx
  · exact put_bytes (re_bytes w) x hx
  · exact sumS_rng _ x hx
theorem re_err (w : Nat) (d : DkF) (hr : d.room = 2000) : comE d (reL w) (putE (reL w)) (intL (reL w)).length = reE w := by
  have hx : ¬ badF reX := by decide
  by_cases c0 : w = 0
  · subst c0
    exact if_pos ⟨⟨intN, []⟩, List.mem_cons_of_mem _ (List.mem_cons_self ..), .inl rfl⟩
  by_cases c1 : w = 1
  · subst c1
    exact if_pos ⟨⟨ByteArray.empty, []⟩, List.mem_cons_of_mem _ (List.mem_cons_self ..), .inr (.inl rfl)⟩
  have eE : reE w = if w = 2 then 7 else 5 := by unfold reE; rw [if_neg c0, if_neg c1]
  have eL : reL w = [reX, if w = 2 then ⟨aA, []⟩ else ⟨bB, List.replicate 1000 0⟩] := by unfold reL; rw [if_neg c0, if_neg c1]
  rw [eE, eL]
  by_cases c2 : w = 2
  · rw [if_pos c2, if_pos c2]
    have ho : okP [reX, ⟨aA, []⟩] := fun f hf => by
      rcases List.mem_cons.1 hf with rfl | hf
      · exact ok_a
      · rw [List.mem_singleton.1 hf]; exact ok_a
    have hp : Us.putE [reX, ⟨aA, []⟩] = 7 := by
      unfold Us.putE
      rw [if_pos ho, if_pos]
      intro h
      have h : [aA, aA].Nodup := h
      simp at h
    have hb : ¬ ∃ f ∈ [reX, ⟨aA, []⟩], badF f := fun ⟨f, hf, g⟩ => by
      rcases List.mem_cons.1 hf with rfl | hf
      · exact hx g
      · rw [List.mem_singleton.1 hf] at g
        revert g
        decide
    unfold comE
    rw [hp, if_neg hb, if_pos (by decide)]
  · rw [if_neg c2, if_neg c2]
    have hp : putE [reX, ⟨bB, List.replicate 1000 0⟩] = 0 := putE_ok.2 ⟨fun f hf => by
      rcases List.mem_cons.1 hf with rfl | hf
      · exact ok_a
      · rw [List.mem_singleton.1 hf]; exact ok_b, fun h => h (by
        show [aA, bB].Nodup
        exact List.nodup_cons.2 ⟨by simp [ab_ne], List.nodup_cons.2 ⟨by simp, .nil⟩⟩)⟩
    have hf := (re_fit w).1
    rw [eL, if_neg c2] at hf
    have hl := put_size hf hp
    have hz : sizeN ([reX, ⟨bB, List.replicate 1000 0⟩].map fun f => f.data.length) = 3584 := by
      show sizeN [1, (List.replicate 1000 (0 : Int)).length] = 3584
      rw [List.length_replicate]; rfl
    have hb : ¬ ∃ f ∈ [reX, ⟨bB, List.replicate 1000 0⟩], badF f := fun ⟨f, hf, g⟩ => by
      rcases List.mem_cons.1 hf with rfl | hf
      · exact hx g
      · rw [List.mem_singleton.1 hf] at g
        rcases g with g | g | g
        · exact absurd g (by decide)
        · exact absurd g (by decide)
        · exact absurd g (by decide)
    unfold comE
    rw [hp, if_neg hb, if_neg (by decide), if_pos]
    rw [hr]
    unfold intL
    rw [List.length_append, hl, hz]
    omega
def nilV : AV := .raw (.slice none 0 0)
def reG (s : ByteArray) (c : AV) : Nat → AV
  | 0 => .raw (.string ⟨#[97]⟩)
  | 1 => .roI .u8 [120]
  | 2 => .raw (.string s)
  | _ => c
section
variable [Globs]

theorem vnil : VLe (.raw (.slice none 0 0)) (.roI .u8 []) := fun w S L v hv => by
  obtain rfl := hv
  exact ⟨none, 0, rfl, Nat.le_refl _, fun i hi => by simp at hi⟩
theorem vrsU2 {n : Nat} {f : Nat → AV} {l : List Fl} (e : n = l.length) (h : ∀ i, i < n * 2 → VLe (f i) (rowF l i)) : VLe (.ro n 2 f) (flsV l) := fun w S L v hv => by
  subst e
  obtain ⟨A, cap, e, hc, hd⟩ := hv
  refine ⟨A, cap, e, hc, fun i hi => ?_⟩
  obtain ⟨u, h1, h2⟩ := hd i hi
  exact ⟨u, h1, h i hi w S .zero u h2⟩



set_option maxHeartbeats 4000000 in
theorem refuses_p (was : List Fl) (w : Int) (hz0 : okSizes was) (hw : 0 ≤ w ∧ w < 256) : ACalls Tryz.prog 7 [flsV was, int .u8 w] [] (fun r h => r = .tt ∧ h = []) := by
  refine rcalls Tryz.func7 rfl (by decide) ?_
  refine ⟨[], _, awake_p, ?_⟩
  rintro r hh ⟨rfl, rfl⟩
  refine ⟨.inl rfl, ?_⟩
  by_cases hs0 : smallF was
  rotate_left
  · refine ⟨[], _, (small_j was).not (decide_eq_false hs0), ?_⟩
    rintro r hh ⟨rfl, rfl⟩
    refine ⟨.inl rfl, ?_⟩
    exact ⟨[], [], .tt, lehN _, .same _ trivial, rfl, rfl⟩
  refine ⟨[], _, (small_j was).yes (decide_eq_true hs0), ?_⟩
  rintro r hh ⟨rfl, rfl⟩
  refine ⟨.inl rfl, ?_⟩
  have hb0 : okBytes was := fun f hf => (hz0 f hf).2
  have hld := laid_p was 2000 hs0 hb0
  refine ⟨[], _, hld, ?_⟩
  rintro r hh ⟨rfl, rfl⟩
  refine ⟨.inl rfl, ?_⟩
  have hfl := fine_laid (room := 2000) hs0 hb0
  have hrm : (laidJ was 2000).room = 2000 := (room_laid was 2000).trans (Int.max_eq_left (by decide))
  have hde : (laidJ was 2000).deeds.length = 0 := rfl
  have hpe := pending_p (laidJ was 2000)
  rw [hde] at hpe
  generalize laidJ was 2000 = D at *
  have hf1 := files_q D hfl (by decide)
  have hbs := ls_bytes hfl.keys hfl.fit.now
  have hln : (lsJ D.now).length ≤ 100000 := by have := ls_len hfl.keys; have := hfl.fit.nowL; omega
  have hsm := same_q hbs hbs hln hln rfl
  have hcm : ∀ v, ACalls Tryz.prog 14 [.ptr 0 0, flsV (reL v), int .i64 100] (dkH D) (fun r h => r = .tup 2 (pair (bool false) (int .i64 (reE v))) ∧ h = dkH D) := fun v => by
    obtain ⟨h1, h2, h3⟩ := re_fit v
    refine lessD (commit_p D (reL v) 100 h1 h2 (fit_more (fit_B hfl.fit) (by decide)) (fun f hf => ⟨by have := h3 f hf; omega, re_bytes v f hf⟩) (re_int v)) fun r h' hc => ?_
    have he := re_err v D hrm
    have hne : reE v ≠ 0 := by unfold reE; repeat' split
                               all_goals decide
    rcases hc with ⟨_, e1, e2⟩ | ⟨g, _⟩
    · rw [he] at e1
      subst e1 e2
      exact ⟨[0, 1, 2, 3], dkH D, _, lehDk rfl rfl rfl rfl rfl rfl rfl rfl, le_pair (AL.leB rfl) (leI rfl), rfl, rfl⟩
    · rw [he] at g; exact absurd g hne
  refine ⟨[0, 1, 2, 3], _, (by (try simp only [ren_fmV]); exact fmVFree _), (by (try simp only [ren_fmV]); exact fmVFree _), (by (try simp only [ren_rowP]); exact fun i _ => rowPFree _ i), at_h ?_ (hf1), ?_⟩
  · exact dkH_eq (by first | simp only [ren_fmV] | rfl) (by first | simp only [ren_fmV] | rfl) (by first | simp only [ren_rowP] | rfl)
  rintro r hh ⟨rfl, rfl⟩
  refine ⟨.inl rfl, ?_⟩
  refine ⟨by decide, ?_⟩
  refine ⟨by decide, ?_⟩
  refine ⟨fun c => ?_, fun c => ?_⟩
  · refine ⟨rfl, twoF (by rfl) (by rfl), Nat.le_refl 2, by show (1 + 1) * 40 ≤ _; decide, twoF (by rfl) (by rfl), reG ⟨"intent".toUTF8.data⟩ nilV, twoF (by rfl) (by rfl), twoF (by rfl) (by rfl), ?_⟩
    refine ⟨[0, 1, 2, 3, 1007], _, by decide, four4 trivial trivial trivial trivial, (by (try simp only [ren_fmV]); exact fmVFree _), (by (try simp only [ren_fmV]); exact fmVFree _), (by (try simp only [ren_rowP]); exact fun i _ => rowPFree _ i), at_h ?_ ((hcm 0).args ⟨VLe.refl _, vrsU2 rfl (four4 (VLe.refl _) (VLe.refl _) (VLe.refl _) (vnil)), VLe.refl _, trivial⟩), ?_⟩
    · exact dkH_eq (by first | simp only [ren_fmV] | rfl) (by first | simp only [ren_fmV] | rfl) (by first | simp only [ren_rowP] | rfl)
    rintro r hh ⟨rfl, rfl⟩
    refine ⟨.inl rfl, ?_⟩
    refine ⟨fun _ => ?_, fun e => by cases e⟩
    refine ⟨fun _ => ?_, fun e => absurd (show reE 0 = 1 from rfl) (no e)⟩
    refine ⟨[0, 1, 2, 3], _, (by (try simp only [ren_fmV]); exact fmVFree _), (by (try simp only [ren_fmV]); exact fmVFree _), (by (try simp only [ren_rowP]); exact fun i _ => rowPFree _ i), at_h ?_ (hf1), ?_⟩
    · exact dkH_eq (by first | simp only [ren_fmV] | rfl) (by first | simp only [ren_fmV] | rfl) (by first | simp only [ren_rowP] | rfl)
    rintro r hh ⟨rfl, rfl⟩
    refine ⟨.inl rfl, ?_⟩
    refine ⟨[], _, hsm, ?_⟩
    rintro r hh ⟨rfl, rfl⟩
    refine ⟨.inl rfl, ?_⟩
    refine ⟨[0, 1, 2, 3], _, (by (try simp only [ren_fmV]); exact fmVFree _), (by (try simp only [ren_fmV]); exact fmVFree _), (by (try simp only [ren_rowP]); exact fun i _ => rowPFree _ i), at_h ?_ (hpe), ?_⟩
    · exact dkH_eq (by first | simp only [ren_fmV] | rfl) (by first | simp only [ren_fmV] | rfl) (by first | simp only [ren_rowP] | rfl)
    rintro r hh ⟨rfl, rfl⟩
    refine ⟨.inl rfl, ?_⟩
    exact ⟨[], [], .tt, lehN _, leTT (decide_eq_true (by decide)), rfl, rfl⟩
  refine ⟨fun c => ?_, fun c => ?_⟩
  · refine ⟨rfl, twoF (by rfl) (by rfl), Nat.le_refl 2, by show (1 + 1) * 40 ≤ _; decide, twoF (by rfl) (by rfl), reG ByteArray.empty nilV, twoF (by rfl) (by rfl), twoF (by rfl) (by rfl), ?_⟩
    refine ⟨[0, 1, 2, 3, 1007], _, by decide, four4 trivial trivial trivial trivial, (by (try simp only [ren_fmV]); exact fmVFree _), (by (try simp only [ren_fmV]); exact fmVFree _), (by (try simp only [ren_rowP]); exact fun i _ => rowPFree _ i), at_h ?_ ((hcm 1).args ⟨VLe.refl _, vrsU2 rfl (four4 (VLe.refl _) (VLe.refl _) (VLe.refl _) (vnil)), VLe.refl _, trivial⟩), ?_⟩
    · exact dkH_eq (by first | simp only [ren_fmV] | rfl) (by first | simp only [ren_fmV] | rfl) (by first | simp only [ren_rowP] | rfl)
    rintro r hh ⟨rfl, rfl⟩
    refine ⟨.inl rfl, ?_⟩
    refine ⟨fun _ => ?_, fun e => by cases e⟩
    refine ⟨fun _ => ?_, fun e => absurd (show reE 1 = 1 from rfl) (no e)⟩
    refine ⟨[0, 1, 2, 3], _, (by (try simp only [ren_fmV]); exact fmVFree _), (by (try simp only [ren_fmV]); exact fmVFree _), (by (try simp only [ren_rowP]); exact fun i _ => rowPFree _ i), at_h ?_ (hf1), ?_⟩
    · exact dkH_eq (by first | simp only [ren_fmV] | rfl) (by first | simp only [ren_fmV] | rfl) (by first | simp only [ren_rowP] | rfl)
    rintro r hh ⟨rfl, rfl⟩
    refine ⟨.inl rfl, ?_⟩
    refine ⟨[], _, hsm, ?_⟩
    rintro r hh ⟨rfl, rfl⟩
    refine ⟨.inl rfl, ?_⟩
    refine ⟨[0, 1, 2, 3], _, (by (try simp only [ren_fmV]); exact fmVFree _), (by (try simp only [ren_fmV]); exact fmVFree _), (by (try simp only [ren_rowP]); exact fun i _ => rowPFree _ i), at_h ?_ (hpe), ?_⟩
    · exact dkH_eq (by first | simp only [ren_fmV] | rfl) (by first | simp only [ren_fmV] | rfl) (by first | simp only [ren_rowP] | rfl)
    rintro r hh ⟨rfl, rfl⟩
    refine ⟨.inl rfl, ?_⟩
    exact ⟨[], [], .tt, lehN _, leTT (decide_eq_true (by decide)), rfl, rfl⟩
  refine ⟨fun c => ?_, fun c => ?_⟩
  · refine ⟨rfl, twoF (by rfl) (by rfl), Nat.le_refl 2, by show (1 + 1) * 40 ≤ _; decide, twoF (by rfl) (by rfl), reG ⟨#[97]⟩ nilV, twoF (by rfl) (by rfl), twoF (by rfl) (by rfl), ?_⟩
    refine ⟨[0, 1, 2, 3, 1007], _, by decide, four4 trivial trivial trivial trivial, (by (try simp only [ren_fmV]); exact fmVFree _), (by (try simp only [ren_fmV]); exact fmVFree _), (by (try simp only [ren_rowP]); exact fun i _ => rowPFree _ i), at_h ?_ ((hcm 2).args ⟨VLe.refl _, vrsU2 rfl (four4 (VLe.refl _) (VLe.refl _) (VLe.refl _) (vnil)), VLe.refl _, trivial⟩), ?_⟩
    · exact dkH_eq (by first | simp only [ren_fmV] | rfl) (by first | simp only [ren_fmV] | rfl) (by first | simp only [ren_rowP] | rfl)
    rintro r hh ⟨rfl, rfl⟩
    refine ⟨.inl rfl, ?_⟩
    refine ⟨fun _ => ?_, fun e => by cases e⟩
    refine ⟨fun _ => ?_, fun e => absurd (show reE 2 = 7 from rfl) (no e)⟩
    refine ⟨[0, 1, 2, 3], _, (by (try simp only [ren_fmV]); exact fmVFree _), (by (try simp only [ren_fmV]); exact fmVFree _), (by (try simp only [ren_rowP]); exact fun i _ => rowPFree _ i), at_h ?_ (hf1), ?_⟩
    · exact dkH_eq (by first | simp only [ren_fmV] | rfl) (by first | simp only [ren_fmV] | rfl) (by first | simp only [ren_rowP] | rfl)
    rintro r hh ⟨rfl, rfl⟩
    refine ⟨.inl rfl, ?_⟩
    refine ⟨[], _, hsm, ?_⟩
    rintro r hh ⟨rfl, rfl⟩
    refine ⟨.inl rfl, ?_⟩
    refine ⟨[0, 1, 2, 3], _, (by (try simp only [ren_fmV]); exact fmVFree _), (by (try simp only [ren_fmV]); exact fmVFree _), (by (try simp only [ren_rowP]); exact fun i _ => rowPFree _ i), at_h ?_ (hpe), ?_⟩
    · exact dkH_eq (by first | simp only [ren_fmV] | rfl) (by first | simp only [ren_fmV] | rfl) (by first | simp only [ren_rowP] | rfl)
    rintro r hh ⟨rfl, rfl⟩
    refine ⟨.inl rfl, ?_⟩
    exact ⟨[], [], .tt, lehN _, leTT (decide_eq_true (by decide)), rfl, rfl⟩
  refine ⟨by decide, ?_⟩
  refine ⟨rfl, ?_⟩
  refine ⟨rfl, twoF (by rfl) (by rfl), Nat.le_refl 2, by show (1 + 1) * 40 ≤ _; decide, twoF (by rfl) (by rfl), reG ⟨#[98]⟩ (.own 6 0 1000 1), twoF (by rfl) (by rfl), twoF (by rfl) (by rfl), ?_⟩
  have hcell : VLe (.roI .u8 (List.take 1000 (List.drop 0 (List.replicate (Int.toNat 1000) (0 : Int))))) (rowF (reL 3) 3) := by
    show VLe _ (.roI .u8 (List.replicate 1000 0))
    rw [List.drop_zero, List.take_of_length_le (by rw [List.length_replicate]; exact Nat.le_refl 1000)]
    exact VLe.refl _
  refine ⟨[0, 1, 2, 3, 1008, 1008, 1006], _, (by rw [List.length_replicate]; exact Nat.le_refl 1000), by decide, (by (try simp only [ren_fmV]); exact fmVFree _), (by (try simp only [ren_fmV]); exact fmVFree _), (by (try simp only [ren_rowP]); exact fun i _ => rowPFree _ i), at_h ?_ ((hcm 3).args ⟨VLe.refl _, vrsU2 rfl (four4 (VLe.refl _) (VLe.refl _) (VLe.refl _) (hcell)), VLe.refl _, trivial⟩), ?_⟩
  · exact dkH_eq (by first | simp only [ren_fmV] | rfl) (by first | simp only [ren_fmV] | rfl) (by first | simp only [ren_rowP] | rfl)
  rintro r hh ⟨rfl, rfl⟩
  refine ⟨.inl rfl, ?_⟩
  refine ⟨fun _ => ?_, fun e => by cases e⟩
  refine ⟨fun _ => ?_, fun e => absurd (show reE 3 = 5 from rfl) (no e)⟩
  refine ⟨[0, 1, 2, 3], _, (by (try simp only [ren_fmV]); exact fmVFree _), (by (try simp only [ren_fmV]); exact fmVFree _), (by (try simp only [ren_rowP]); exact fun i _ => rowPFree _ i), at_h ?_ (hf1), ?_⟩
  · exact dkH_eq (by first | simp only [ren_fmV] | rfl) (by first | simp only [ren_fmV] | rfl) (by first | simp only [ren_rowP] | rfl)
  rintro r hh ⟨rfl, rfl⟩
  refine ⟨.inl rfl, ?_⟩
  refine ⟨[], _, hsm, ?_⟩
  rintro r hh ⟨rfl, rfl⟩
  refine ⟨.inl rfl, ?_⟩
  refine ⟨[0, 1, 2, 3], _, (by (try simp only [ren_fmV]); exact fmVFree _), (by (try simp only [ren_fmV]); exact fmVFree _), (by (try simp only [ren_rowP]); exact fun i _ => rowPFree _ i), at_h ?_ (hpe), ?_⟩
  · exact dkH_eq (by first | simp only [ren_fmV] | rfl) (by first | simp only [ren_fmV] | rfl) (by first | simp only [ren_rowP] | rfl)
  rintro r hh ⟨rfl, rfl⟩
  refine ⟨.inl rfl, ?_⟩
  exact ⟨[], [], .tt, lehN _, leTT (decide_eq_true (by decide)), rfl, rfl⟩
end
end Go.Proofs.YtflclafbieokiaaGreatDoor.Jr
