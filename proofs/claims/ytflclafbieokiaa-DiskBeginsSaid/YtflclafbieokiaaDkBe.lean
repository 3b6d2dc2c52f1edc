/-
  The law DiskBegins, walked.
-/
import Derived.Test.YtflclafbieokiaaDkBeL
set_option linter.unusedVariables false
set_option linter.unusedSectionVars false
set_option linter.unusedSimpArgs false
namespace Go.Proofs.Ytflclafbieokiaa.Dk
open Go AL Us
theorem vrsNil0 : VLe (.raw (.slice none 0 0)) (flsV []) := fun w S L v hv => by
  obtain rfl := hv
  exact ⟨none, 0, rfl, Nat.le_refl _, fun i hi => by simp at hi⟩
section
variable [Globs]
theorem leSts {h : List AO} {l : List Nat} {n : Nat} {f : Nat → AV} {T : List (List Fl)} (hn : n = T.length) (hf : ∀ i, i < n * 1 → f i = rowS T i) : LeO h l (.row (n * 1) f) (.row (T.length * 1) (rowS T)) := by
  subst hn
  exact .row _ _ _ _ (Nat.le_refl _) fun i hi => by rw [hf i hi]; exact .same _ trivial
theorem leSts0 {h : List AO} {l : List Nat} : LeO h l (.row (1 * 1) fun _ => .raw (.slice none 0 0)) (.row ((Sts []).length * 1) (rowS (Sts []))) :=
  .row _ _ _ _ (Nat.le_refl _) fun i hi => by
    obtain rfl : i = 0 := by have hi : i < 1 := hi; omega
    exact .seen (.same _ trivial) vrsNil0
theorem leDon {h : List AO} {l : List Nat} {n : Nat} {f : Nat → AV} {D : List De6} (hn : n = D.length) (hf : ∀ i, i < n * 6 → f i = rowG D i) : LeO h l (.row (n * 6) f) (.row (D.length * 6) (rowG D)) := by
  subst hn
  exact .row _ _ _ _ (Nat.le_refl _) fun i hi => by rw [hf i hi]; exact .same _ (rowGFree D i)
theorem lst6 {f : Nat → AV} (hf : ∀ i, (f i).free) {i : Nat} (hi : i < 6) : ((List.map f (List.range 6)).getD (0 + i) AV.top).free := by
  match i, hi with
  | 0, _ => exact hf 0
  | 1, _ => exact hf 1
  | 2, _ => exact hf 2
  | 3, _ => exact hf 3
  | 4, _ => exact hf 4
  | 5, _ => exact hf 5

theorem six {f : Nat → AV} (h0 : (f 0).free) (h1 : (f 1).free) (h2 : (f 2).free) (h3 : (f 3).free) (h4 : (f 4).free) (h5 : (f 5).free) : ∀ i, i < 6 → (f i).free := fun i hi => by
  match i, hi with
  | 0, _ => exact h0
  | 1, _ => exact h1
  | 2, _ => exact h2
  | 3, _ => exact h3
  | 4, _ => exact h4
  | 5, _ => exact h5
theorem vsix {f : Nat → AV} {e : De6} (h0 : f 0 = de6C e 0) (h1 : f 1 = de6C e 1) (h2 : f 2 = de6C e 2) (h3 : f 3 = de6C e 3) (h4 : f 4 = de6C e 4) (h5 : f 5 = de6C e 5) : VLe (.agg 6 f) (de6V e) := vd6 fun i hi => by
  match i, hi with
  | 0, _ => exact h0
  | 1, _ => exact h1
  | 2, _ => exact h2
  | 3, _ => exact h3
  | 4, _ => exact h4
  | 5, _ => exact h5


set_option maxHeartbeats 4000000 in
set_option maxRecDepth 10000 in
theorem begins_nat (l : List De6) (keep bytes : Nat) (hb : okD6 l) (hk0 : keep < 256) (hy0 : bytes < 256) : ACalls Try.prog 4 [de6s l, int .u8 (keep : Int), int .u8 (bytes : Int)] [] (fun r h => r = .tt ∧ h = []) := by
  have h0 := new_p 3000
  have hw1 : IntKind.i64.wrap (keep : Int) = (keep : Int) := by rw [w64 (by omega) (by omega)]
  have hw2 : IntKind.i64.wrap (bytes : Int) = (bytes : Int) := by rw [w64 (by omega) (by omega)]
  have hsm := small_p l
  have hss := fun {k : Nat} (h : k < l.length) => bgS_succ (l := l) (k := k) h
  have hz0 : bgS l 0 = (newF 3000, []) := by unfold bgS; rw [List.take_zero]; rfl
  have hbg := bg_ok l
  generalize bgS l = BS at *
  generalize newF 3000 = D0 at *
  refine rcalls Try.func4 rfl (by decide) ?_
  refine ⟨[], _, dk_awake, ?_⟩
  rintro r hh ⟨rfl, rfl⟩
  refine ⟨.inl rfl, ?_⟩
  refine ⟨[], _, h0, ?_⟩
  rintro r hh ⟨rfl, rfl⟩
  refine ⟨.inl rfl, ?_⟩
  refine ⟨[], _, hsm, ?_⟩
  rintro r hh ⟨rfl, rfl⟩
  refine ⟨.inl rfl, ?_⟩
  refine ⟨fun c => ?_, fun c => ?_⟩
  · exact ⟨[], [], .tt, lehN _, LeV.same _ trivial, rfl, rfl⟩
  have hs : smallD l := Classical.byContradiction fun x => (by rw [decide_eq_false x] at c; cases c)
  have hbg := hbg hs hb
  have hsa := fun {k : Nat} (h : k < l.length) (g : k < 60) => small_at hs hb h g
  clear hsm c hs h0
  refine ⟨by decide, by decide, fun i hi => ?_, (fun _ => .raw (.slice none 0 0)), fun i hi => ?_, ?_⟩
  · obtain rfl : i = 0 := by omega
    rfl
  · obtain rfl : i = 0 := by omega
    rfl
  refine ⟨Nat, fun k => [(0, de6s l), (1, int .u8 (keep : Int)), (2, int .u8 (bytes : Int)), (7, .tt), (8, .ptr 0 0), (9, .own 4 0 (Sts (BS k).2).length 1), (10, .own 5 0 (BS k).2.length 6), (11, int .i64 k)],
    fun k => dkH (BS k).1 ++ [.row ((Sts (BS k).2).length * 1) (rowS (Sts (BS k).2)), .row ((BS k).2.length * 6) (rowG (BS k).2)], fun k => k ≤ l.length ∧ k ≤ 60, fun k => 60 - k,
    ⟨0, [0, 1, 2, 3, 5, 6], ⟨Nat.zero_le _, Nat.zero_le _⟩, ?_, ?_⟩, ?_⟩
  · show LeH 0 _ [0, 1, 2, 3, 5, 6] (dkH (BS 0).1 ++ [.row ((Sts (BS 0).2).length * 1) (rowS (Sts (BS 0).2)), .row ((BS 0).2.length * 6) (rowG (BS 0).2)])
    rw [hz0]
    exact leh_relG (by decide) ⟨.inl ⟨_, rfl, leDkL rfl rfl rfl rfl rfl⟩, .inl ⟨_, rfl, leMap (by simp only [ren_fmV])⟩, .inl ⟨_, rfl, leMap (by simp only [ren_fmV])⟩, .inl ⟨_, rfl, leRowQ rfl (by simp only [ren_rowP])⟩, .inl ⟨_, rfl, leSts0⟩, .inr ⟨Nat.le_refl 6, .inr (.inr ⟨_, rfl⟩)⟩, trivial⟩
  · refine ⟨.same _ trivial, leI rfl, leI rfl, .same _ trivial, .ptr 0 rfl, ?_, ?_, leI rfl, trivial⟩
    · rw [hz0]; exact leOwn rfl rfl rfl
    · rw [hz0]; exact .nil _ _ (by decide)
  rintro k ⟨hk, h60⟩
  have e1 : IntKind.i64.wrap ((k : Int) + 1) = ((k + 1 : Nat) : Int) := by rw [w64 (by omega) (by omega)]; omega
  have hbg0 := hbg k hk h60
  refine ⟨fun c => ?_, fun c => ?_⟩
  · have f1 : (k : Int) < l.length := yes c
    refine ⟨fun c => ?_, fun c => ?_⟩
    · have f2 : (k : Int) < 60 := yes c
      have hlt : k < l.length := by omega
      have hss := hss hlt
      have hsa := hsa hlt (by omega)
      have h6 : ∀ c, c < 6 → rowG l ((k : Int).toNat * 6 + c) = de6C (l.getD k d60) c := fun c hc => by rw [Int.toNat_natCast]; exact rowG_at l hc
      generalize l.getD k d60 = E at *
      have b1 : 0 ≤ (k : Int) ∧ (k : Int) < l.length := ⟨by omega, f1⟩
      refine ⟨b1, de6C E, fun c hc => h6 c hc, ?_⟩
      refine ⟨fun c => ?_, fun c => ?_⟩
      · have f3 : E.kind < 1 := yes c
        have hsk : BS (k + 1) = BS k := by rw [hss]; exact if_neg fun h => by have := h.1.1; omega
        refine ⟨trivial, k + 1, [0, 1, 2, 3, 4, 5], ⟨by omega, by omega⟩, by show 60 - (k + 1) < 60 - k; omega, ?_, ⟨.same _ trivial, leI rfl, leI rfl, .same _ trivial, .ptr 0 rfl, leOwn rfl rfl ?_, leOwn rfl rfl ?_, leI e1, trivial⟩⟩
        · show LeH 0 _ [0, 1, 2, 3, 4, 5] (dkH (BS (k + 1)).1 ++ [.row ((Sts (BS (k + 1)).2).length * 1) (rowS (Sts (BS (k + 1)).2)), .row ((BS (k + 1)).2.length * 6) (rowG (BS (k + 1)).2)])
          rw [hsk]
          exact leh_relG (by decide) ⟨.inl ⟨_, rfl, leDkL rfl rfl rfl rfl rfl⟩, .inl ⟨_, rfl, leMap (by simp only [ren_fmV])⟩, .inl ⟨_, rfl, leMap (by simp only [ren_fmV])⟩, .inl ⟨_, rfl, leRowQ rfl (by simp only [ren_rowP])⟩, .inl ⟨_, rfl, leSts rfl fun i hi => rfl⟩, .inl ⟨_, rfl, leDon rfl fun i hi => rfl⟩, trivial⟩
        · rw [hsk]
        · rw [hsk]
      have f3 : ¬ E.kind < 1 := no c
      refine ⟨fun c => ?_, fun c => ?_⟩
      · have f4 : E.kind > 3 := yes c
        have hsk : BS (k + 1) = BS k := by rw [hss]; exact if_neg fun h => by have := h.1.2; omega
        refine ⟨trivial, k + 1, [0, 1, 2, 3, 4, 5], ⟨by omega, by omega⟩, by show 60 - (k + 1) < 60 - k; omega, ?_, ⟨.same _ trivial, leI rfl, leI rfl, .same _ trivial, .ptr 0 rfl, leOwn rfl rfl ?_, leOwn rfl rfl ?_, leI e1, trivial⟩⟩
        · show LeH 0 _ [0, 1, 2, 3, 4, 5] (dkH (BS (k + 1)).1 ++ [.row ((Sts (BS (k + 1)).2).length * 1) (rowS (Sts (BS (k + 1)).2)), .row ((BS (k + 1)).2.length * 6) (rowG (BS (k + 1)).2)])
          rw [hsk]
          exact leh_relG (by decide) ⟨.inl ⟨_, rfl, leDkL rfl rfl rfl rfl rfl⟩, .inl ⟨_, rfl, leMap (by simp only [ren_fmV])⟩, .inl ⟨_, rfl, leMap (by simp only [ren_fmV])⟩, .inl ⟨_, rfl, leRowQ rfl (by simp only [ren_rowP])⟩, .inl ⟨_, rfl, leSts rfl fun i hi => rfl⟩, .inl ⟨_, rfl, leDon rfl fun i hi => rfl⟩, trivial⟩
        · rw [hsk]
        · rw [hsk]
      have f4 : ¬ E.kind > 3 := no c
      have hi : isD E := ⟨by omega, by omega⟩
      have hdo := do_d (BS k).1 E hi (by have := fit_size hbg0.fit; omega) (by have := hsa.1; omega) (by have := (fit_len hbg0.fit).1; omega)
      refine ⟨[0, 1, 2, 3], _, (by (try simp only [ren_fmV]); exact fmVFree _), (by (try simp only [ren_fmV]); exact fmVFree _), (by (try simp only [ren_rowP]); exact fun i _ => rowPFree _ i), (six trivial trivial trivial trivial trivial trivial), at_h ?_ (hdo.args ⟨VLe.refl _, vsix rfl rfl rfl rfl rfl rfl, trivial⟩), ?_⟩
      · exact dkH_eq (by first | simp only [ren_fmV] | rfl) (by first | simp only [ren_fmV] | rfl) (by first | simp only [ren_rowP] | rfl)
      rintro r hh (⟨he, rfl, rfl⟩ | ⟨he, rfl, rfl⟩)
      rotate_left
      · refine ⟨.inl rfl, ?_⟩
        have hsk : BS (k + 1) = BS k := by rw [hss]; exact if_neg fun h => he h.2
        refine ⟨fun c => absurd (yes c) he, fun _ => ?_⟩
        refine ⟨trivial, k + 1, [0, 1, 2, 3, 4, 5], ⟨by omega, by omega⟩, by show 60 - (k + 1) < 60 - k; omega, ?_, ⟨.same _ trivial, leI rfl, leI rfl, .same _ trivial, .ptr 0 rfl, leOwn rfl rfl ?_, leOwn rfl rfl ?_, leI e1, trivial⟩⟩
        · show LeH 0 _ [0, 1, 2, 3, 4, 5] (dkH (BS (k + 1)).1 ++ [.row ((Sts (BS (k + 1)).2).length * 1) (rowS (Sts (BS (k + 1)).2)), .row ((BS (k + 1)).2.length * 6) (rowG (BS (k + 1)).2)])
          rw [hsk]
          exact leh_relG (by decide) ⟨.inl ⟨_, rfl, leDkL rfl rfl rfl rfl rfl⟩, .inl ⟨_, rfl, leMap (by simp only [ren_fmV])⟩, .inl ⟨_, rfl, leMap (by simp only [ren_fmV])⟩, .inl ⟨_, rfl, leRowQ rfl (by simp only [ren_rowP])⟩, .inl ⟨_, rfl, leSts rfl fun i hi => rfl⟩, .inl ⟨_, rfl, leDon rfl fun i hi => rfl⟩, trivial⟩
        · rw [hsk]
        · rw [hsk]
      refine ⟨.inl rfl, ?_⟩
      have hsk : BS (k + 1) = (stepF (BS k).1 E, (BS k).2 ++ [E]) := by rw [hss]; exact if_pos ⟨hi, he⟩
      have hb1 := hbg (k + 1) hlt (by omega)
      rw [hsk] at hb1
      have hb1 : BgOk (k + 1) (stepF (BS k).1 E) ((BS k).2 ++ [E]) := hb1
      have hr1 := bg_rel hb1
      have hfiles := files_p (stepF (BS k).1 E) (Lst ((BS k).2 ++ [E])) hr1 (fun p hp => ⟨(hb1.fit.now p hp).1, by have := (hb1.fit.now p hp).2.1; omega⟩) (by have := hb1.fit.nowL; omega)
      have hst := sts_more (BS k).2 E
      have hsl := sts_len (BS k).2
      have hdl := hbg0.len
      refine ⟨fun _ => ?_, fun e => absurd rfl (no e)⟩
      refine ⟨[0, 1, 2, 7], _, (by (try simp only [ren_fmV]); exact fmVFree _), (by (try simp only [ren_fmV]); exact fmVFree _), (by (try simp only [ren_rowP]); exact fun i _ => rowPFree _ i), at_h ?_ (hfiles), ?_⟩
      · exact dkH_eq (by first | simp only [ren_fmV] | rfl) (by first | simp only [ren_fmV] | rfl) (by first | simp only [ren_rowP] | rfl)
      rintro r hh ⟨rfl, rfl⟩
      refine ⟨.inl rfl, ?_⟩
      refine ⟨rfl, fun i _ => rfl, Nat.le_refl 1, by show ((Sts (BS k).2).length + 1) * 24 ≤ _; omega, fun i hi => ?_, rowS (Sts (BS k).2 ++ [Lst ((BS k).2 ++ [E])]), fun i hi => rowS_old _ _ (by omega), fun i hi => ?_, ?_⟩
      · obtain rfl : i = 0 := by omega
        rfl
      · obtain rfl : i = 0 := by omega
        show rowS _ ((Sts (BS k).2).length * 1 + 0) = _
        rw [Nat.mul_one, Nat.add_zero, rowS_new]
        rfl
      refine ⟨rfl, fun i _ => de6C_cell1 _ _, Nat.le_refl 6, by show ((BS k).2.length + 1) * 80 ≤ _; omega, fun i hi => ?_, rowG ((BS k).2 ++ [E]), fun i hi => rowG_old _ _ hi, fun i hi => ?_, ?_⟩
      · match i, hi with
        | 0, _ => rfl
        | 1, _ => rfl
        | 2, _ => rfl
        | 3, _ => rfl
        | 4, _ => rfl
        | 5, _ => rfl
      · show rowG _ ((BS k).2.length * 6 + i) = _
        rw [rowG_new _ _ (by omega)]
        match i, hi with
        | 0, _ => rfl
        | 1, _ => rfl
        | 2, _ => rfl
        | 3, _ => rfl
        | 4, _ => rfl
        | 5, _ => rfl
      refine ⟨trivial, k + 1, [0, 1, 2, 7, 9, 11], ⟨by omega, by omega⟩, by show 60 - (k + 1) < 60 - k; omega, ?_, ⟨.same _ trivial, leI rfl, leI rfl, .same _ trivial, .ptr 0 rfl, leOwn rfl rfl ?_, leOwn rfl rfl ?_, leI e1, trivial⟩⟩
      · show LeH 0 _ [0, 1, 2, 7, 9, 11] (dkH (BS (k + 1)).1 ++ [.row ((Sts (BS (k + 1)).2).length * 1) (rowS (Sts (BS (k + 1)).2)), .row ((BS (k + 1)).2.length * 6) (rowG (BS (k + 1)).2)])
        rw [hsk]
        show LeH 0 _ [0, 1, 2, 7, 9, 11] (dkH (stepF (BS k).1 E) ++ [.row ((Sts ((BS k).2 ++ [E])).length * 1) (rowS (Sts ((BS k).2 ++ [E]))), .row (((BS k).2 ++ [E]).length * 6) (rowG ((BS k).2 ++ [E]))])
        rw [hst]
        exact leh_relG (by decide) ⟨.inl ⟨_, rfl, leDkL rfl rfl rfl rfl rfl⟩, .inl ⟨_, rfl, leMap (by simp only [ren_fmV])⟩, .inl ⟨_, rfl, leMap (by simp only [ren_fmV])⟩, .inl ⟨_, rfl, leRowQ rfl (by simp only [ren_rowP])⟩, .inl ⟨_, rfl, leSts (by rw [List.length_append]; rfl) fun i hi => rfl⟩, .inl ⟨_, rfl, leDon (by rw [List.length_append]; rfl) fun i hi => rfl⟩, trivial⟩
      · rw [hsk]; show _ = (Sts ((BS k).2 ++ [E])).length; rw [hst, List.length_append]; rfl
      · rw [hsk]; show _ = ((BS k).2 ++ [E]).length; rw [List.length_append]; rfl
    · have f2 : ¬ (k : Int) < 60 := no c
      have hdl := hbg0.len
      have hsl := sts_len (BS k).2
      have hw3 : IntKind.i64.wrap (((BS k).2.length : Int) + 1) = (((BS k).2.length + 1 : Nat) : Int) := by rw [w64 (by omega) (by omega)]; omega
      obtain ⟨K, eK, hK⟩ : ∃ K : Nat, (IntKind.i64.wrap (keep : Int)).tmod (IntKind.i64.wrap (((BS k).2.length : Int) + 1)) = (K : Int) ∧ K ≤ (BS k).2.length :=
        ⟨keep % ((BS k).2.length + 1), by rw [hw1, hw3]; exact (Int.ofNat_tmod _ _).symm, by have := Nat.mod_lt keep (show 0 < (BS k).2.length + 1 by omega); omega⟩
      have hcr : ACalls Try.prog 15 [.ptr 0 0, int .i64 (K : Int), int .i64 (IntKind.i64.wrap (bytes : Int))] (dkH (BS k).1) (fun r h => r = .top ∧ h = dkZ (crashF (BS k).1 K bytes)) := by
        rw [hw2]; exact crash_p (BS k).1 K bytes (by have := (fit_len hbg0.fit).1; omega)
      have hat := bg_at hbg0 hK (B := bytes) (by omega)
      have hfc := fit_crash hbg0.fit K bytes
      have hwas := bg_was hbg0 K
      have hwg := sts_get (BS k).2 hK
      have hdat : K < (BS k).2.length → okV 100 ((BS k).2.getD K d60).data := fun h => hbg0.oks _ (mem6 h)
      generalize crashF (BS k).1 K bytes = dC at *
      generalize crashL (bgX (BS k).1.room (BS k).2) K bytes = NL at *
      generalize Lst ((BS k).2.take K) = W at *
      have hfiles := files_p dC NL hat.rel (fun p hp => ⟨(hfc.now p hp).1, by have := (hfc.now p hp).2.1; omega⟩) (by have := hfc.nowL; omega)
      have hnl := rel_len hat.rel
      have hnl2 := hfc.nowL
      have hsame := same_ref NL W (fit_bytes hat.rel hfc.now) hwas.1 (by omega) (by have := hwas.2; omega)
      refine ⟨by rw [hw3]; omega, ?_⟩
      rw [eK]
      refine ⟨[0, 1, 2, 3], _, (by (try simp only [ren_fmV]); exact fmVFree _), (by (try simp only [ren_fmV]); exact fmVFree _), (by (try simp only [ren_rowP]); exact fun i _ => rowPFree _ i), at_h ?_ (hcr), ?_⟩
      · exact dkH_eq (by first | simp only [ren_fmV] | rfl) (by first | simp only [ren_fmV] | rfl) (by first | simp only [ren_rowP] | rfl)
      rintro r hh ⟨rfl, rfl⟩
      refine ⟨.inl rfl, ?_⟩
      refine ⟨[0, 6, 7, 3], _, (by (try simp only [ren_fmV]); exact fmVFree _), (by (try simp only [ren_fmV]); exact fmVFree _), (by (try simp only [ren_rowP]); exact fun i _ => rowPFree _ i), at_h ?_ (hfiles), ?_⟩
      · exact dkH_eq (by first | simp only [ren_fmV] | rfl) (by first | simp only [ren_fmV] | rfl) (by first | simp only [ren_rowP] | rfl)
      rintro r hh ⟨rfl, rfl⟩
      refine ⟨.inl rfl, ?_⟩
      refine ⟨⟨by omega, by omega⟩, by show 0 + (K : Int).toNat * 1 + 1 ≤ (Sts (BS k).2).length * 1; omega, ?_⟩
      rw [show rowS (Sts (BS k).2) (addOff 0 (K : Int).toNat 1) = flsV W from by
        show flsV ((Sts (BS k).2).getD (0 + (K : Int).toNat * 1) []) = flsV W
        rw [show 0 + (K : Int).toNat * 1 = K by omega, hwg]]
      refine ⟨fun c => ?_, fun c => ?_⟩
      · have g1 : (K : Int) = (BS k).2.length := yes c
        have hS := hsame.yes (decide_eq_true (hat.same fun h => by omega))
        refine ⟨[], _, hS, ?_⟩
        rintro r hh ⟨rfl, rfl⟩
        refine ⟨.inl rfl, ?_⟩
        exact ⟨[], [], .tt, lehN _, LeV.same _ trivial, rfl, rfl⟩
      have g1 : ¬ (K : Int) = (BS k).2.length := no c
      have hKl : K < (BS k).2.length := by omega
      have hdat := hdat hKl
      have hfld : ∀ c x, x = c → c < 6 → rowG (BS k).2 (addOff 0 (K : Int).toNat 6 + x) = de6C ((BS k).2.getD K d60) c := fun c x hx hc => by
        subst hx
        show rowG (BS k).2 (0 + (K : Int).toNat * 6 + x) = _
        rw [show 0 + (K : Int).toNat * 6 + x = K * 6 + x by omega]
        exact rowG_at _ hc
      have hown := hat.own hKl
      have hoth := hat.other
      have hsm := hat.same
      have hnlw := hat.len
      generalize (BS k).2.getD K d60 = E at *
      refine ⟨⟨by omega, by omega⟩, by show 0 + (K : Int).toNat * 6 + 0 < (BS k).2.length * 6; omega, ?_⟩
      rw [hfld 0]
      rotate_left
      · rfl
      · decide
      refine ⟨fun c => ?_, fun c => ?_⟩
      · have g2 : ¬ E.kind = 1 := yes c
        have hS := hsame.yes (decide_eq_true (hsm fun h => g2 h.2))
        refine ⟨[], _, hS, ?_⟩
        rintro r hh ⟨rfl, rfl⟩
        refine ⟨.inl rfl, ?_⟩
        exact ⟨[], [], .tt, lehN _, LeV.same _ trivial, rfl, rfl⟩
      have g2 : E.kind = 1 := Classical.byContradiction fun x => no c x
      have hown := hown g2
      have hget : ACalls Try.prog 18 [.ptr 0 0, str E.name] (dkH dC) (fun r h => r = .tup 2 (pair (.roI .u8 (E.data.take bytes)) (bool true)) ∧ h = dkH dC) := by
        have := get_ro dC E.name fun v hv => by
          rw [hown] at hv
          cases hv
          have := hdat.1
          rw [List.length_take]; omega
        rw [hown] at this
        exact this
      refine ⟨⟨by omega, by omega⟩, by show 0 + (K : Int).toNat * 6 + 3 < (BS k).2.length * 6; omega, ?_⟩
      rw [hfld 3]
      rotate_left
      · rfl
      · decide
      refine ⟨[0, 6, 7, 3], _, (by (try simp only [ren_fmV]); exact fmVFree _), (by (try simp only [ren_fmV]); exact fmVFree _), (by (try simp only [ren_rowP]); exact fun i _ => rowPFree _ i), at_h ?_ (hget), ?_⟩
      · exact dkH_eq (by first | simp only [ren_fmV] | rfl) (by first | simp only [ren_fmV] | rfl) (by first | simp only [ren_rowP] | rfl)
      rintro r hh ⟨rfl, rfl⟩
      refine ⟨.inl rfl, ?_⟩
      refine ⟨⟨by omega, by omega⟩, by show 0 + (K : Int).toNat * 6 + 5 < (BS k).2.length * 6; omega, ?_⟩
      rw [hfld 5]
      rotate_left
      · rfl
      · decide
      obtain ⟨Nn, eN, hN⟩ : ∃ Nn : Nat, min (IntKind.i64.wrap (bytes : Int)) (E.data.length : Int) = (Nn : Int) ∧ E.data.take Nn = E.data.take bytes ∧ Nn ≤ E.data.length :=
        ⟨min bytes E.data.length, by rw [hw2]; omega, by
          rcases Nat.le_total bytes E.data.length with g | g
          · rw [Nat.min_eq_left g]
          · rw [Nat.min_eq_right g, List.take_of_length_le (Nat.le_refl _), List.take_of_length_le g], by omega⟩
      refine ⟨Nat, fun i => [(7, .tt), (8, .ptr 0 0), (10, .own 4 0 (BS k).2.length 6), (13, int .i64 (K : Int)), (14, flsV NL), (15, flsV W), (16, .roI .u8 (E.data.take bytes)), (17, bool true), (18, int .i64 (Nn : Int)), (19, int .i64 (i : Int))],
        fun _ => dkH dC ++ [.row ((BS k).2.length * 6) (rowG (BS k).2)], fun i => i ≤ W.length, fun i => W.length - i,
        ⟨0, [0, 6, 7, 3, 5], Nat.zero_le _, ?_, ?_⟩, ?_⟩
      · exact leh_relG (by decide) ⟨.inl ⟨_, rfl, leDkL rfl rfl rfl rfl rfl⟩, .inl ⟨_, rfl, leMap (by simp only [ren_fmV])⟩, .inl ⟨_, rfl, leMap (by simp only [ren_fmV])⟩, .inl ⟨_, rfl, leRowQ rfl (by simp only [ren_rowP])⟩, .inl ⟨_, rfl, leDon rfl fun i hi => rfl⟩, trivial⟩
      · exact ⟨.same _ trivial, .ptr 0 rfl, leOwn rfl rfl rfl, leI rfl, .same _ trivial, .same _ trivial, .same _ trivial, .same _ trivial, leI eN, leI rfl, trivial⟩
      intro i hi
      have hi : i ≤ W.length := hi
      have hwl := hwas.2
      have e2 : IntKind.i64.wrap ((i : Int) + 1) = ((i + 1 : Nat) : Int) := by rw [w64 (by omega) (by omega)]; omega
      refine ⟨fun c => ?_, fun c => ?_⟩
      · have g3 : (i : Int) < W.length := yes c
        have b3 : 0 ≤ (i : Int) ∧ (i : Int) < W.length := ⟨by omega, g3⟩
        have h2 : ∀ c, c < 2 → rowF W ((i : Int).toNat * 2 + c) = flC (W.getD i fl0) c := fun c hc => by rw [Int.toNat_natCast]; exact rowF_at W hc
        have hoth := hoth i (by omega)
        have hgt := fun hl => get_ro dC (W.getD i fl0).path hl
        generalize W.getD i fl0 = F at *
        by_cases hp : F.path = E.name
        · have hgl := hgt fun v hv => by
            have := (getF_mem hat.rel.keys).1 hv
            have := (hfc.now _ this).2.1
            have h3 : v.length ≤ 100 := this
            omega
          have vp : decide (¬ F.path = E.name) = false := by simp [hp]
          generalize (getF F.path dC.now).getD [] = X at *
          generalize (getF F.path dC.now).isSome = X2 at *
          refine ⟨b3, flC F, fun c hc => h2 c hc, ?_⟩
          refine ⟨[0, 1, 2, 3], _, (by (try simp only [ren_fmV]); exact fmVFree _), (by (try simp only [ren_fmV]); exact fmVFree _), (by (try simp only [ren_rowP]); exact fun i _ => rowPFree _ i), at_h ?_ (hgl), ?_⟩
          · exact dkH_eq (by first | simp only [ren_fmV] | rfl) (by first | simp only [ren_fmV] | rfl) (by first | simp only [ren_rowP] | rfl)
          rintro r hh ⟨rfl, rfl⟩
          refine ⟨.inl rfl, ?_⟩
          refine .inr ⟨23, by decide +kernel, ?_⟩
          refine ⟨_, rfl, ?_⟩
          refine ⟨_, rfl, ?_⟩
          refine ⟨_, ⟨b3, flC F, fun c hc => h2 c hc, rfl⟩, ?_⟩
          refine ⟨_, rfl, ?_⟩
          refine ⟨_, rfl, ?_⟩
          refine ⟨_, rfl, ?_⟩
          refine ⟨_, rfl, ?_⟩
          refine ⟨_, ⟨⟨by omega, by omega⟩, rfl⟩, ?_⟩
          refine ⟨_, rfl, ?_⟩
          refine ⟨_, ⟨by show 0 + (K : Int).toNat * 6 + 3 < (BS k).2.length * 6; omega, rfl⟩, ?_⟩
          rw [hfld 3]
          rotate_left
          · rfl
          · decide
          refine ⟨_, rfl, ?_⟩
          rw [vp]
          refine ⟨_, rfl, ?_⟩
          refine ⟨_, rfl, ?_⟩
          refine ⟨_, rfl, ?_⟩
          refine ⟨_, rfl, ?_⟩
          refine ⟨_, rfl, ?_⟩
          refine ⟨_, rfl, ?_⟩
          refine ⟨_, rfl, ?_⟩
          refine ⟨_, rfl, ?_⟩
          refine ⟨_, rfl, ?_⟩
          refine ⟨_, rfl, ?_⟩
          refine ⟨_, rfl, ?_⟩
          refine ⟨_, rfl, ?_⟩
          refine ⟨fun c => (by cases c), fun _ => ?_⟩
          refine ⟨trivial, i + 1, [0, 1, 2, 3, 4], by show i + 1 ≤ W.length; omega, by show W.length - (i + 1) < W.length - i; omega, ?_, ⟨.same _ trivial, .ptr 0 rfl, leOwn rfl rfl rfl, leI rfl, .same _ trivial, .same _ trivial, .same _ trivial, .same _ trivial, leI rfl, leI e2, trivial⟩⟩
          exact leh_relG (by decide) ⟨.inl ⟨_, rfl, leDkL rfl rfl rfl rfl rfl⟩, .inl ⟨_, rfl, leMap (by simp only [ren_fmV])⟩, .inl ⟨_, rfl, leMap (by simp only [ren_fmV])⟩, .inl ⟨_, rfl, leRowQ rfl (by simp only [ren_rowP])⟩, .inl ⟨_, rfl, leDon rfl fun i hi => rfl⟩, trivial⟩
        · have hoth := hoth hp
          have hgl := hgt fun v hv => by
            have := (getF_mem hat.rel.keys).1 hv
            have := (hfc.now _ this).2.1
            have h3 : v.length ≤ 100 := this
            omega
          rw [hoth] at hgl
          have hgl : ACalls Try.prog 18 [.ptr 0 0, str F.path] (dkH dC) (fun r h => r = .tup 2 (pair (.roI .u8 F.data) (bool true)) ∧ h = dkH dC) := hgl
          have vp : decide (¬ F.path = E.name) = true := by simp [hp]
          refine ⟨b3, flC F, fun c hc => h2 c hc, ?_⟩
          refine ⟨[0, 1, 2, 3], _, (by (try simp only [ren_fmV]); exact fmVFree _), (by (try simp only [ren_fmV]); exact fmVFree _), (by (try simp only [ren_rowP]); exact fun i _ => rowPFree _ i), at_h ?_ (hgl), ?_⟩
          · exact dkH_eq (by first | simp only [ren_fmV] | rfl) (by first | simp only [ren_fmV] | rfl) (by first | simp only [ren_rowP] | rfl)
          rintro r hh ⟨rfl, rfl⟩
          refine ⟨.inl rfl, ?_⟩
          refine .inr ⟨23, by decide +kernel, ?_⟩
          refine ⟨_, rfl, ?_⟩
          refine ⟨_, rfl, ?_⟩
          refine ⟨_, ⟨b3, flC F, fun c hc => h2 c hc, rfl⟩, ?_⟩
          refine ⟨_, rfl, ?_⟩
          refine ⟨_, rfl, ?_⟩
          refine ⟨_, rfl, ?_⟩
          refine ⟨_, rfl, ?_⟩
          refine ⟨_, ⟨⟨by omega, by omega⟩, rfl⟩, ?_⟩
          refine ⟨_, rfl, ?_⟩
          refine ⟨_, ⟨by show 0 + (K : Int).toNat * 6 + 3 < (BS k).2.length * 6; omega, rfl⟩, ?_⟩
          rw [hfld 3]
          rotate_left
          · rfl
          · decide
          refine ⟨_, rfl, ?_⟩
          rw [vp]
          refine ⟨_, rfl, ?_⟩
          refine ⟨_, rfl, ?_⟩
          refine ⟨_, rfl, ?_⟩
          refine ⟨_, rfl, ?_⟩
          refine ⟨_, rfl, ?_⟩
          refine ⟨_, rfl, ?_⟩
          refine ⟨_, rfl, ?_⟩
          refine ⟨_, rfl, ?_⟩
          refine ⟨_, ⟨b3, flC F, fun c hc => h2 c hc, rfl⟩, ?_⟩
          refine ⟨_, rfl, ?_⟩
          refine ⟨_, rfl, ?_⟩
          refine ⟨_, rfl, ?_⟩
          refine ⟨fun c => (by cases c), fun _ => ?_⟩
          refine ⟨fun _ => ?_, fun c => (by cases c)⟩
          refine ⟨fun c => absurd rfl (yes c), fun _ => ?_⟩
          refine ⟨trivial, i + 1, [0, 1, 2, 3, 4], by show i + 1 ≤ W.length; omega, by show W.length - (i + 1) < W.length - i; omega, ?_, ⟨.same _ trivial, .ptr 0 rfl, leOwn rfl rfl rfl, leI rfl, .same _ trivial, .same _ trivial, .same _ trivial, .same _ trivial, leI rfl, leI e2, trivial⟩⟩
          exact leh_relG (by decide) ⟨.inl ⟨_, rfl, leDkL rfl rfl rfl rfl rfl⟩, .inl ⟨_, rfl, leMap (by simp only [ren_fmV])⟩, .inl ⟨_, rfl, leMap (by simp only [ren_fmV])⟩, .inl ⟨_, rfl, leRowQ rfl (by simp only [ren_rowP])⟩, .inl ⟨_, rfl, leDon rfl fun i hi => rfl⟩, trivial⟩
      · have g3 : ¬ (i : Int) < W.length := no c
        refine .inr ⟨23, by decide +kernel, ?_⟩
        refine ⟨_, rfl, ?_⟩
        refine ⟨_, rfl, ?_⟩
        refine ⟨_, rfl, ?_⟩
        refine ⟨_, rfl, ?_⟩
        refine ⟨_, rfl, ?_⟩
        refine ⟨_, rfl, ?_⟩
        refine ⟨_, rfl, ?_⟩
        refine ⟨_, rfl, ?_⟩
        refine ⟨_, rfl, ?_⟩
        refine ⟨_, ⟨⟨by omega, by omega⟩, rfl⟩, ?_⟩
        refine ⟨_, rfl, ?_⟩
        refine ⟨_, ⟨by show 0 + (K : Int).toNat * 6 + 5 < (BS k).2.length * 6; omega, rfl⟩, ?_⟩
        rw [hfld 5]
        rotate_left
        · rfl
        · decide
        refine ⟨_, rfl, ?_⟩
        refine ⟨_, ⟨⟨by omega, by omega⟩, rfl⟩, ?_⟩
        refine ⟨_, rfl, ?_⟩
        refine ⟨_, rfl, ?_⟩
        have hv : decide (bytesOf (E.data.take bytes) = bytesOf ((E.data.take (Nn : Int).toNat).drop 0)) = true := decide_eq_true (by rw [List.drop_zero, Int.toNat_natCast, hN.1])
        rw [hv]
        refine ⟨_, rfl, ?_⟩
        refine ⟨_, rfl, ?_⟩
        refine ⟨_, rfl, ?_⟩
        refine ⟨_, rfl, ?_⟩
        refine ⟨_, rfl, ?_⟩
        refine ⟨_, rfl, ?_⟩
        refine ⟨_, rfl, ?_⟩
        refine ⟨fun _ => ?_, fun c => (by cases c)⟩
        exact ⟨[], [], .tt, lehN _, leTT (decide_eq_true (by show (NL.length : Int) ≤ IntKind.i64.wrap ((W.length : Int) + 1); rw [w64 (by omega) (by omega)]; omega)), rfl, rfl⟩
  · have f1 : ¬ (k : Int) < l.length := no c
    have hdl := hbg0.len
    have hsl := sts_len (BS k).2
    have hw3 : IntKind.i64.wrap (((BS k).2.length : Int) + 1) = (((BS k).2.length + 1 : Nat) : Int) := by rw [w64 (by omega) (by omega)]; omega
    obtain ⟨K, eK, hK⟩ : ∃ K : Nat, (IntKind.i64.wrap (keep : Int)).tmod (IntKind.i64.wrap (((BS k).2.length : Int) + 1)) = (K : Int) ∧ K ≤ (BS k).2.length :=
      ⟨keep % ((BS k).2.length + 1), by rw [hw1, hw3]; exact (Int.ofNat_tmod _ _).symm, by have := Nat.mod_lt keep (show 0 < (BS k).2.length + 1 by omega); omega⟩
    have hcr : ACalls Try.prog 15 [.ptr 0 0, int .i64 (K : Int), int .i64 (IntKind.i64.wrap (bytes : Int))] (dkH (BS k).1) (fun r h => r = .top ∧ h = dkZ (crashF (BS k).1 K bytes)) := by
      rw [hw2]; exact crash_p (BS k).1 K bytes (by have := (fit_len hbg0.fit).1; omega)
    have hat := bg_at hbg0 hK (B := bytes) (by omega)
    have hfc := fit_crash hbg0.fit K bytes
    have hwas := bg_was hbg0 K
    have hwg := sts_get (BS k).2 hK
    have hdat : K < (BS k).2.length → okV 100 ((BS k).2.getD K d60).data := fun h => hbg0.oks _ (mem6 h)
    generalize crashF (BS k).1 K bytes = dC at *
    generalize crashL (bgX (BS k).1.room (BS k).2) K bytes = NL at *
    generalize Lst ((BS k).2.take K) = W at *
    have hfiles := files_p dC NL hat.rel (fun p hp => ⟨(hfc.now p hp).1, by have := (hfc.now p hp).2.1; omega⟩) (by have := hfc.nowL; omega)
    have hnl := rel_len hat.rel
    have hnl2 := hfc.nowL
    have hsame := same_ref NL W (fit_bytes hat.rel hfc.now) hwas.1 (by omega) (by have := hwas.2; omega)
    refine ⟨by rw [hw3]; omega, ?_⟩
    rw [eK]
    refine ⟨[0, 1, 2, 3], _, (by (try simp only [ren_fmV]); exact fmVFree _), (by (try simp only [ren_fmV]); exact fmVFree _), (by (try simp only [ren_rowP]); exact fun i _ => rowPFree _ i), at_h ?_ (hcr), ?_⟩
    · exact dkH_eq (by first | simp only [ren_fmV] | rfl) (by first | simp only [ren_fmV] | rfl) (by first | simp only [ren_rowP] | rfl)
    rintro r hh ⟨rfl, rfl⟩
    refine ⟨.inl rfl, ?_⟩
    refine ⟨[0, 6, 7, 3], _, (by (try simp only [ren_fmV]); exact fmVFree _), (by (try simp only [ren_fmV]); exact fmVFree _), (by (try simp only [ren_rowP]); exact fun i _ => rowPFree _ i), at_h ?_ (hfiles), ?_⟩
    · exact dkH_eq (by first | simp only [ren_fmV] | rfl) (by first | simp only [ren_fmV] | rfl) (by first | simp only [ren_rowP] | rfl)
    rintro r hh ⟨rfl, rfl⟩
    refine ⟨.inl rfl, ?_⟩
    refine ⟨⟨by omega, by omega⟩, by show 0 + (K : Int).toNat * 1 + 1 ≤ (Sts (BS k).2).length * 1; omega, ?_⟩
    rw [show rowS (Sts (BS k).2) (addOff 0 (K : Int).toNat 1) = flsV W from by
      show flsV ((Sts (BS k).2).getD (0 + (K : Int).toNat * 1) []) = flsV W
      rw [show 0 + (K : Int).toNat * 1 = K by omega, hwg]]
    refine ⟨fun c => ?_, fun c => ?_⟩
    · have g1 : (K : Int) = (BS k).2.length := yes c
      have hS := hsame.yes (decide_eq_true (hat.same fun h => by omega))
      refine ⟨[], _, hS, ?_⟩
      rintro r hh ⟨rfl, rfl⟩
      refine ⟨.inl rfl, ?_⟩
      exact ⟨[], [], .tt, lehN _, LeV.same _ trivial, rfl, rfl⟩
    have g1 : ¬ (K : Int) = (BS k).2.length := no c
    have hKl : K < (BS k).2.length := by omega
    have hdat := hdat hKl
    have hfld : ∀ c x, x = c → c < 6 → rowG (BS k).2 (addOff 0 (K : Int).toNat 6 + x) = de6C ((BS k).2.getD K d60) c := fun c x hx hc => by
      subst hx
      show rowG (BS k).2 (0 + (K : Int).toNat * 6 + x) = _
      rw [show 0 + (K : Int).toNat * 6 + x = K * 6 + x by omega]
      exact rowG_at _ hc
    have hown := hat.own hKl
    have hoth := hat.other
    have hsm := hat.same
    have hnlw := hat.len
    generalize (BS k).2.getD K d60 = E at *
    refine ⟨⟨by omega, by omega⟩, by show 0 + (K : Int).toNat * 6 + 0 < (BS k).2.length * 6; omega, ?_⟩
    rw [hfld 0]
    rotate_left
    · rfl
    · decide
    refine ⟨fun c => ?_, fun c => ?_⟩
    · have g2 : ¬ E.kind = 1 := yes c
      have hS := hsame.yes (decide_eq_true (hsm fun h => g2 h.2))
      refine ⟨[], _, hS, ?_⟩
      rintro r hh ⟨rfl, rfl⟩
      refine ⟨.inl rfl, ?_⟩
      exact ⟨[], [], .tt, lehN _, LeV.same _ trivial, rfl, rfl⟩
    have g2 : E.kind = 1 := Classical.byContradiction fun x => no c x
    have hown := hown g2
    have hget : ACalls Try.prog 18 [.ptr 0 0, str E.name] (dkH dC) (fun r h => r = .tup 2 (pair (.roI .u8 (E.data.take bytes)) (bool true)) ∧ h = dkH dC) := by
      have := get_ro dC E.name fun v hv => by
        rw [hown] at hv
        cases hv
        have := hdat.1
        rw [List.length_take]; omega
      rw [hown] at this
      exact this
    refine ⟨⟨by omega, by omega⟩, by show 0 + (K : Int).toNat * 6 + 3 < (BS k).2.length * 6; omega, ?_⟩
    rw [hfld 3]
    rotate_left
    · rfl
    · decide
    refine ⟨[0, 6, 7, 3], _, (by (try simp only [ren_fmV]); exact fmVFree _), (by (try simp only [ren_fmV]); exact fmVFree _), (by (try simp only [ren_rowP]); exact fun i _ => rowPFree _ i), at_h ?_ (hget), ?_⟩
    · exact dkH_eq (by first | simp only [ren_fmV] | rfl) (by first | simp only [ren_fmV] | rfl) (by first | simp only [ren_rowP] | rfl)
    rintro r hh ⟨rfl, rfl⟩
    refine ⟨.inl rfl, ?_⟩
    refine ⟨⟨by omega, by omega⟩, by show 0 + (K : Int).toNat * 6 + 5 < (BS k).2.length * 6; omega, ?_⟩
    rw [hfld 5]
    rotate_left
    · rfl
    · decide
    obtain ⟨Nn, eN, hN⟩ : ∃ Nn : Nat, min (IntKind.i64.wrap (bytes : Int)) (E.data.length : Int) = (Nn : Int) ∧ E.data.take Nn = E.data.take bytes ∧ Nn ≤ E.data.length :=
      ⟨min bytes E.data.length, by rw [hw2]; omega, by
        rcases Nat.le_total bytes E.data.length with g | g
        · rw [Nat.min_eq_left g]
        · rw [Nat.min_eq_right g, List.take_of_length_le (Nat.le_refl _), List.take_of_length_le g], by omega⟩
    refine ⟨Nat, fun i => [(7, .tt), (8, .ptr 0 0), (10, .own 4 0 (BS k).2.length 6), (13, int .i64 (K : Int)), (14, flsV NL), (15, flsV W), (16, .roI .u8 (E.data.take bytes)), (17, bool true), (18, int .i64 (Nn : Int)), (19, int .i64 (i : Int))],
      fun _ => dkH dC ++ [.row ((BS k).2.length * 6) (rowG (BS k).2)], fun i => i ≤ W.length, fun i => W.length - i,
      ⟨0, [0, 6, 7, 3, 5], Nat.zero_le _, ?_, ?_⟩, ?_⟩
    · exact leh_relG (by decide) ⟨.inl ⟨_, rfl, leDkL rfl rfl rfl rfl rfl⟩, .inl ⟨_, rfl, leMap (by simp only [ren_fmV])⟩, .inl ⟨_, rfl, leMap (by simp only [ren_fmV])⟩, .inl ⟨_, rfl, leRowQ rfl (by simp only [ren_rowP])⟩, .inl ⟨_, rfl, leDon rfl fun i hi => rfl⟩, trivial⟩
    · exact ⟨.same _ trivial, .ptr 0 rfl, leOwn rfl rfl rfl, leI rfl, .same _ trivial, .same _ trivial, .same _ trivial, .same _ trivial, leI eN, leI rfl, trivial⟩
    intro i hi
    have hi : i ≤ W.length := hi
    have hwl := hwas.2
    have e2 : IntKind.i64.wrap ((i : Int) + 1) = ((i + 1 : Nat) : Int) := by rw [w64 (by omega) (by omega)]; omega
    refine ⟨fun c => ?_, fun c => ?_⟩
    · have g3 : (i : Int) < W.length := yes c
      have b3 : 0 ≤ (i : Int) ∧ (i : Int) < W.length := ⟨by omega, g3⟩
      have h2 : ∀ c, c < 2 → rowF W ((i : Int).toNat * 2 + c) = flC (W.getD i fl0) c := fun c hc => by rw [Int.toNat_natCast]; exact rowF_at W hc
      have hoth := hoth i (by omega)
      have hgt := fun hl => get_ro dC (W.getD i fl0).path hl
      generalize W.getD i fl0 = F at *
      by_cases hp : F.path = E.name
      · have hgl := hgt fun v hv => by
          have := (getF_mem hat.rel.keys).1 hv
          have := (hfc.now _ this).2.1
          have h3 : v.length ≤ 100 := this
          omega
        have vp : decide (¬ F.path = E.name) = false := by simp [hp]
        generalize (getF F.path dC.now).getD [] = X at *
        generalize (getF F.path dC.now).isSome = X2 at *
        refine ⟨b3, flC F, fun c hc => h2 c hc, ?_⟩
        refine ⟨[0, 1, 2, 3], _, (by (try simp only [ren_fmV]); exact fmVFree _), (by (try simp only [ren_fmV]); exact fmVFree _), (by (try simp only [ren_rowP]); exact fun i _ => rowPFree _ i), at_h ?_ (hgl), ?_⟩
        · exact dkH_eq (by first | simp only [ren_fmV] | rfl) (by first | simp only [ren_fmV] | rfl) (by first | simp only [ren_rowP] | rfl)
        rintro r hh ⟨rfl, rfl⟩
        refine ⟨.inl rfl, ?_⟩
        refine .inr ⟨23, by decide +kernel, ?_⟩
        refine ⟨_, rfl, ?_⟩
        refine ⟨_, rfl, ?_⟩
        refine ⟨_, ⟨b3, flC F, fun c hc => h2 c hc, rfl⟩, ?_⟩
        refine ⟨_, rfl, ?_⟩
        refine ⟨_, rfl, ?_⟩
        refine ⟨_, rfl, ?_⟩
        refine ⟨_, rfl, ?_⟩
        refine ⟨_, ⟨⟨by omega, by omega⟩, rfl⟩, ?_⟩
        refine ⟨_, rfl, ?_⟩
        refine ⟨_, ⟨by show 0 + (K : Int).toNat * 6 + 3 < (BS k).2.length * 6; omega, rfl⟩, ?_⟩
        rw [hfld 3]
        rotate_left
        · rfl
        · decide
        refine ⟨_, rfl, ?_⟩
        rw [vp]
        refine ⟨_, rfl, ?_⟩
        refine ⟨_, rfl, ?_⟩
        refine ⟨_, rfl, ?_⟩
        refine ⟨_, rfl, ?_⟩
        refine ⟨_, rfl, ?_⟩
        refine ⟨_, rfl, ?_⟩
        refine ⟨_, rfl, ?_⟩
        refine ⟨_, rfl, ?_⟩
        refine ⟨_, rfl, ?_⟩
        refine ⟨_, rfl, ?_⟩
        refine ⟨_, rfl, ?_⟩
        refine ⟨_, rfl, ?_⟩
        refine ⟨fun c => (by cases c), fun _ => ?_⟩
        refine ⟨trivial, i + 1, [0, 1, 2, 3, 4], by show i + 1 ≤ W.length; omega, by show W.length - (i + 1) < W.length - i; omega, ?_, ⟨.same _ trivial, .ptr 0 rfl, leOwn rfl rfl rfl, leI rfl, .same _ trivial, .same _ trivial, .same _ trivial, .same _ trivial, leI rfl, leI e2, trivial⟩⟩
        exact leh_relG (by decide) ⟨.inl ⟨_, rfl, leDkL rfl rfl rfl rfl rfl⟩, .inl ⟨_, rfl, leMap (by simp only [ren_fmV])⟩, .inl ⟨_, rfl, leMap (by simp only [ren_fmV])⟩, .inl ⟨_, rfl, leRowQ rfl (by simp only [ren_rowP])⟩, .inl ⟨_, rfl, leDon rfl fun i hi => rfl⟩, trivial⟩
      · have hoth := hoth hp
        have hgl := hgt fun v hv => by
          have := (getF_mem hat.rel.keys).1 hv
          have := (hfc.now _ this).2.1
          have h3 : v.length ≤ 100 := this
          omega
        rw [hoth] at hgl
        have hgl : ACalls Try.prog 18 [.ptr 0 0, str F.path] (dkH dC) (fun r h => r = .tup 2 (pair (.roI .u8 F.data) (bool true)) ∧ h = dkH dC) := hgl
        have vp : decide (¬ F.path = E.name) = true := by simp [hp]
        refine ⟨b3, flC F, fun c hc => h2 c hc, ?_⟩
        refine ⟨[0, 1, 2, 3], _, (by (try simp only [ren_fmV]); exact fmVFree _), (by (try simp only [ren_fmV]); exact fmVFree _), (by (try simp only [ren_rowP]); exact fun i _ => rowPFree _ i), at_h ?_ (hgl), ?_⟩
        · exact dkH_eq (by first | simp only [ren_fmV] | rfl) (by first | simp only [ren_fmV] | rfl) (by first | simp only [ren_rowP] | rfl)
        rintro r hh ⟨rfl, rfl⟩
        refine ⟨.inl rfl, ?_⟩
        refine .inr ⟨23, by decide +kernel, ?_⟩
        refine ⟨_, rfl, ?_⟩
        refine ⟨_, rfl, ?_⟩
        refine ⟨_, ⟨b3, flC F, fun c hc => h2 c hc, rfl⟩, ?_⟩
        refine ⟨_, rfl, ?_⟩
        refine ⟨_, rfl, ?_⟩
        refine ⟨_, rfl, ?_⟩
        refine ⟨_, rfl, ?_⟩
        refine ⟨_, ⟨⟨by omega, by omega⟩, rfl⟩, ?_⟩
        refine ⟨_, rfl, ?_⟩
        refine ⟨_, ⟨by show 0 + (K : Int).toNat * 6 + 3 < (BS k).2.length * 6; omega, rfl⟩, ?_⟩
        rw [hfld 3]
        rotate_left
        · rfl
        · decide
        refine ⟨_, rfl, ?_⟩
        rw [vp]
        refine ⟨_, rfl, ?_⟩
        refine ⟨_, rfl, ?_⟩
        refine ⟨_, rfl, ?_⟩
        refine ⟨_, rfl, ?_⟩
        refine ⟨_, rfl, ?_⟩
        refine ⟨_, rfl, ?_⟩
        refine ⟨_, rfl, ?_⟩
        refine ⟨_, rfl, ?_⟩
        refine ⟨_, ⟨b3, flC F, fun c hc => h2 c hc, rfl⟩, ?_⟩
        refine ⟨_, rfl, ?_⟩
        refine ⟨_, rfl, ?_⟩
        refine ⟨_, rfl, ?_⟩
        refine ⟨fun c => (by cases c), fun _ => ?_⟩
        refine ⟨fun _ => ?_, fun c => (by cases c)⟩
        refine ⟨fun c => absurd rfl (yes c), fun _ => ?_⟩
        refine ⟨trivial, i + 1, [0, 1, 2, 3, 4], by show i + 1 ≤ W.length; omega, by show W.length - (i + 1) < W.length - i; omega, ?_, ⟨.same _ trivial, .ptr 0 rfl, leOwn rfl rfl rfl, leI rfl, .same _ trivial, .same _ trivial, .same _ trivial, .same _ trivial, leI rfl, leI e2, trivial⟩⟩
        exact leh_relG (by decide) ⟨.inl ⟨_, rfl, leDkL rfl rfl rfl rfl rfl⟩, .inl ⟨_, rfl, leMap (by simp only [ren_fmV])⟩, .inl ⟨_, rfl, leMap (by simp only [ren_fmV])⟩, .inl ⟨_, rfl, leRowQ rfl (by simp only [ren_rowP])⟩, .inl ⟨_, rfl, leDon rfl fun i hi => rfl⟩, trivial⟩
    · have g3 : ¬ (i : Int) < W.length := no c
      refine .inr ⟨23, by decide +kernel, ?_⟩
      refine ⟨_, rfl, ?_⟩
      refine ⟨_, rfl, ?_⟩
      refine ⟨_, rfl, ?_⟩
      refine ⟨_, rfl, ?_⟩
      refine ⟨_, rfl, ?_⟩
      refine ⟨_, rfl, ?_⟩
      refine ⟨_, rfl, ?_⟩
      refine ⟨_, rfl, ?_⟩
      refine ⟨_, rfl, ?_⟩
      refine ⟨_, ⟨⟨by omega, by omega⟩, rfl⟩, ?_⟩
      refine ⟨_, rfl, ?_⟩
      refine ⟨_, ⟨by show 0 + (K : Int).toNat * 6 + 5 < (BS k).2.length * 6; omega, rfl⟩, ?_⟩
      rw [hfld 5]
      rotate_left
      · rfl
      · decide
      refine ⟨_, rfl, ?_⟩
      refine ⟨_, ⟨⟨by omega, by omega⟩, rfl⟩, ?_⟩
      refine ⟨_, rfl, ?_⟩
      refine ⟨_, rfl, ?_⟩
      have hv : decide (bytesOf (E.data.take bytes) = bytesOf ((E.data.take (Nn : Int).toNat).drop 0)) = true := decide_eq_true (by rw [List.drop_zero, Int.toNat_natCast, hN.1])
      rw [hv]
      refine ⟨_, rfl, ?_⟩
      refine ⟨_, rfl, ?_⟩
      refine ⟨_, rfl, ?_⟩
      refine ⟨_, rfl, ?_⟩
      refine ⟨_, rfl, ?_⟩
      refine ⟨_, rfl, ?_⟩
      refine ⟨_, rfl, ?_⟩
      refine ⟨fun _ => ?_, fun c => (by cases c)⟩
      exact ⟨[], [], .tt, lehN _, leTT (decide_eq_true (by show (NL.length : Int) ≤ IntKind.i64.wrap ((W.length : Int) + 1); rw [w64 (by omega) (by omega)]; omega)), rfl, rfl⟩

theorem begins_p (l : List De6) (keep bytes : Int) (hb : okD6 l) (hk0 : 0 ≤ keep ∧ keep < 256) (hy0 : 0 ≤ bytes ∧ bytes < 256) : ACalls Try.prog 4 [de6s l, int .u8 keep, int .u8 bytes] [] (fun r h => r = .tt ∧ h = []) := by
  obtain ⟨q, rfl⟩ : ∃ q : Nat, keep = q := ⟨keep.toNat, by omega⟩
  obtain ⟨y, rfl⟩ : ∃ y : Nat, bytes = y := ⟨bytes.toNat, by omega⟩
  exact begins_nat l q y hb (by omega) (by omega)
end
end Go.Proofs.Ytflclafbieokiaa.Dk
