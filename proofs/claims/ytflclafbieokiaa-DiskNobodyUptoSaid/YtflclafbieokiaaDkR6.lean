/-
  The document's disk: what is lost.
-/
import Derived.Test.YtflclafbieokiaaDkR5
set_option linter.unusedVariables false
set_option linter.unusedSectionVars false
namespace Go.Proofs.Ytflclafbieokiaa.Dk
open Go AL Us

def foldE (L : List Fl) (ds : List De4) : List Fl := ds.foldl (fun L e => actR (toDee e) L) L
theorem foldE_len (ds : List De4) : ∀ L : List Fl, (foldE L ds).length ≤ L.length + ds.length := by
  induction ds with
  | nil => intro L; exact Nat.le_refl _
  | cons e ds ih =>
    intro L
    have h1 := ih (actR (toDee e) L)
    have h2 := actR_len (toDee e) L
    show (foldE (actR (toDee e) L) ds).length ≤ _
    rw [List.length_cons]; omega
theorem foldE_succ {L : List Fl} {D : List De4} {k : Nat} (h : k < D.length) : foldE L (D.take (k + 1)) = actR (toDee (D.getD k de0)) (foldE L (D.take k)) := by
  unfold foldE
  rw [List.take_succ_eq_append_getElem h, List.foldl_append, List.getD_eq_getElem?_getD, List.getElem?_eq_getElem h]; rfl
def crashD (d : DkD) (keep bytes : Int) : DkD := ⟨crashL (dkdR d) keep bytes, crashL (dkdR d) keep bytes, [], d.room⟩
theorem dkdR_crash (d : DkD) (keep bytes : Int) : dkdR (crashD d keep bytes) = crashR (dkdR d) keep bytes := rfl
theorem fold_map (D : List De4) : ∀ L : List Fl, (D.map toDee).foldl (fun L e => actR e L) L = foldE L D := by
  induction D with
  | nil => intro L; rfl
  | cons e D ih => intro L; exact ih _
theorem crash_none (d : DkD) (keep bytes : Int) (h : ¬ (0 ≤ keep ∧ keep < d.deeds.length ∧ 0 ≤ bytes ∧ (d.deeds.getD keep.toNat de0).kind = 1)) : crashL (dkdR d) keep bytes = foldE d.synced (d.deeds.take keep.toNat) := by
  unfold crashL
  show lostR (((d.deeds.map toDee).take keep.toNat).foldl (fun L e => actR e L) d.synced) (nextD (d.deeds.map toDee) keep) bytes = _
  rw [← List.map_take, fold_map]
  unfold lostR nextD
  split
  · rename_i n b hn
    split at hn
    · rename_i hk
      rw [List.getElem?_map] at hn
      cases he : d.deeds[keep.toNat]? with
      | none => rw [he] at hn; cases hn
      | some e =>
        rw [he] at hn
        have hlt := (List.getElem?_eq_some_iff.1 he).1
        have e1 : d.deeds.getD keep.toNat de0 = e := by rw [List.getD_eq_getElem?_getD, he]; rfl
        have hk1 : e.kind = 1 := by
          refine Classical.byContradiction fun x => ?_
          have hn : some (toDee e) = some (.wr n b) := hn
          unfold toDee at hn
          rw [if_neg x] at hn
          split at hn
          · injection hn with hn; cases hn
          · injection hn with hn; cases hn
        rw [if_neg]
        intro hb
        exact h ⟨hk, by omega, hb, by rw [e1]; exact hk1⟩
    · cases hn
  · rfl
theorem crash_some (d : DkD) (keep bytes : Int) (h : 0 ≤ keep ∧ keep < d.deeds.length ∧ 0 ≤ bytes ∧ (d.deeds.getD keep.toNat de0).kind = 1) : crashL (dkdR d) keep bytes = withR (d.deeds.getD keep.toNat de0).name ((d.deeds.getD keep.toNat de0).data.take bytes.toNat) (foldE d.synced (d.deeds.take keep.toNat)) := by
  obtain ⟨h1, h2, h3, h4⟩ := h
  have hlt : keep.toNat < d.deeds.length := by omega
  have e1 : d.deeds.getD keep.toNat de0 = d.deeds[keep.toNat] := by rw [List.getD_eq_getElem?_getD, List.getElem?_eq_getElem hlt]; rfl
  unfold crashL
  show lostR (((d.deeds.map toDee).take keep.toNat).foldl (fun L e => actR e L) d.synced) (nextD (d.deeds.map toDee) keep) bytes = _
  rw [← List.map_take, fold_map]
  have e2 : nextD (d.deeds.map toDee) keep = some (.wr d.deeds[keep.toNat].name d.deeds[keep.toNat].data) := by
    unfold nextD
    rw [if_pos h1, List.getElem?_map, List.getElem?_eq_getElem hlt]
    show some (toDee d.deeds[keep.toNat]) = _
    rw [e1] at h4
    unfold toDee
    rw [if_pos h4]
  rw [e2, e1]
  show (if 0 ≤ bytes then _ else _) = _
  rw [if_pos h3]
section
variable [Globs]

theorem leD4 {h : List AO} {l : List Nat} {f : Nat → AV} (hf : ∀ i, (f i).free) : LeO h l (.lst ((List.range 4).map f)) (.lst ((List.range 4).map f)) := leLst _ fun i hi => by
  have hi : i < 4 := by simpa using hi
  have := fr4 hf hi
  rwa [Nat.zero_add] at this
theorem vdk4 {f : Nat → AV} {d : DkD} (h0 : f 0 = dkdC d 0) (h1 : f 1 = dkdC d 1) (h2 : f 2 = dkdC d 2) (h3 : f 3 = dkdC d 3) : VLe (.agg 4 f) (dkdV d) := vdk fun i hi => by
  match i, hi with
  | 0, _ => exact h0
  | 1, _ => exact h1
  | 2, _ => exact h2
  | 3, _ => exact h3
theorem fr4' {f : Nat → AV} (h0 : (f 0).free) (h1 : (f 1).free) (h2 : (f 2).free) (h3 : (f 3).free) : ∀ i, i < 4 → (f i).free := fun i hi => by
  match i, hi with
  | 0, _ => exact h0
  | 1, _ => exact h1
  | 2, _ => exact h2
  | 3, _ => exact h3
theorem leTop4 {h : List AO} {l : List Nat} {a b c d : AV} : LeO h l (.lst [a, b, c, d]) (.lst (tops 4)) := .lst _ _ rfl fun i hi => by
  have hi : i < 4 := hi
  match i, hi with
  | 0, _ => exact .top _
  | 1, _ => exact .top _
  | 2, _ => exact .top _
  | 3, _ => exact .top _


set_option maxHeartbeats 1000000 in
set_option maxRecDepth 10000 in
theorem crash_r (d : DkD) (keep bytes : Int) (hf : FitD d) : ACalls Try.prog 41 [dkdV d, int .i64 keep, int .i64 bytes] [] (fun r h => r = dkdV (crashD d keep bytes) ∧ h = []) := by
  have hnone := crash_none d keep bytes
  have hsome := crash_some d keep bytes
  have hfl := fun k => foldE_len (d.deeds.take k) d.synced
  have hfs := fun {k : Nat} (h : k < d.deeds.length) => foldE_succ (L := d.synced) h
  have h1 := hf.synced
  have h2 := hf.deeds
  have hsync := fun L => sync_r ⟨L, d.synced, d.deeds, d.room⟩
  unfold crashD
  obtain ⟨F, S, D, R⟩ := d
  simp only at hsync hnone hsome hfl hfs h1 h2 ⊢
  obtain ⟨C, hC⟩ : ∃ C, crashL (dkdR ⟨F, S, D, R⟩) keep bytes = C := ⟨_, rfl⟩
  rw [hC] at hnone hsome ⊢
  clear hC
  have hf0 : foldE S [] = S := rfl
  generalize hfe : foldE S = FE at *
  clear hfe
  refine rcalls Try.func41 rfl (by decide) ?_
  refine ⟨Nat, fun k => [(1, int .i64 keep), (2, int .i64 bytes), (3, .ptr 0 0), (6, .ptr 1 0), (7, flsV (FE (D.take k))), (8, int .i64 k)], fun _ => [.lst ((List.range 4).map (dkdC ⟨F, S, D, R⟩)), .lst (tops 4)], fun k => k ≤ D.length ∧ k ≤ keep.toNat, fun k => D.length - k,
    ⟨0, [0, 1], ⟨Nat.zero_le _, Nat.zero_le _⟩, ?_, ?_⟩, ?_⟩
  · exact leh2 (by decide) rfl rfl (leD4 (dkdC_free ⟨F, S, D, R⟩)) leTop4
  · exact ⟨leI rfl, leI rfl, .ptr 0 rfl, .ptr 0 rfl, by rw [List.take_zero, hf0]; exact .same _ trivial, leI rfl, trivial⟩
  rintro k ⟨hk, hkk⟩
  have e1 : IntKind.i64.wrap ((k : Int) + 1) = ((k + 1 : Nat) : Int) := by rw [w64 (by omega) (by omega)]; omega
  refine ⟨fun c => ?_, fun c => ?_⟩
  · have f1 : (k : Int) < keep := yes c
    refine ⟨fun c => ?_, fun c => ?_⟩
    · have f2 : (k : Int) < D.length := yes c
      have hfs := hfs (k := k) (by omega)
      have hfl := hfl k
      have h4 : ∀ c, c < 4 → rowE D ((k : Int).toNat * 4 + c) = de4C (D.getD k de0) c := fun c hc => by rw [Int.toNat_natCast]; exact rowE_at D hc
      obtain ⟨E, hE⟩ : ∃ E, D.getD k de0 = E := ⟨_, rfl⟩
      rw [hE] at h4 hfs
      obtain ⟨M, hM⟩ : ∃ M, FE (D.take k) = M := ⟨_, rfl⟩
      rw [hM] at hfs hfl ⊢
      have hdone := done_r M E (by rw [List.length_take] at hfl; omega)
      rw [← hfs] at hdone
      refine ⟨⟨by omega, f2⟩, de4C E, fun c hc => h4 c hc, ?_⟩
      refine ⟨[], _, (fun i hi => de4C_free E _), hdone.args ⟨VLe.refl _, vde fun i hi => rfl, trivial⟩, ?_⟩
      rintro r hh ⟨rfl, rfl⟩
      refine ⟨.inl rfl, ?_⟩
      refine ⟨trivial, k + 1, [0, 1], ⟨by omega, by omega⟩, by show D.length - (k + 1) < D.length - k; omega, leh2 (by decide) rfl rfl (leD4 (dkdC_free ⟨F, S, D, R⟩)) leTop4, ⟨leI rfl, leI rfl, .ptr 0 rfl, .ptr 0 rfl, .same _ trivial, leI e1, trivial⟩⟩
    · have f2 : ¬ (k : Int) < D.length := no c
      have eT : D.take k = D.take keep.toNat := by rw [List.take_of_length_le (by omega), List.take_of_length_le (by omega)]
      rw [eT]
      refine ⟨fun c => ?_, fun c => ?_⟩
      · have g1 : 0 ≤ keep := yes c
        refine ⟨fun c => ?_, fun c => ?_⟩
        · have g2 : keep < D.length := yes c
          refine ⟨fun c => ?_, fun c => ?_⟩
          · have g3 : 0 ≤ bytes := yes c
            have b1 : 0 ≤ keep ∧ keep < D.length := ⟨g1, g2⟩
            have h4 : ∀ c, c < 4 → rowE D (keep.toNat * 4 + c) = de4C (D.getD keep.toNat de0) c := fun c hc => rowE_at D hc
            have hfl := hfl keep.toNat
            obtain ⟨E, hE⟩ : ∃ E, D.getD keep.toNat de0 = E := ⟨_, rfl⟩
            rw [hE] at h4 hnone hsome
            refine ⟨b1, de4C E, fun c hc => h4 c hc, ?_⟩
            refine ⟨fun c => ?_, fun c => ?_⟩
            · have g4 : E.kind = 1 := yes c
              have hsome := hsome ⟨g1, g2, g3, g4⟩
              refine ⟨b1, de4C E, fun c hc => h4 c hc, ?_⟩
              refine ⟨fun c => ?_, fun c => ?_⟩
              · have g5 : bytes < E.data.length := yes c
                refine .inr ⟨7, by decide +kernel, ?_⟩
                refine ⟨_, rfl, ?_⟩
                refine ⟨_, rfl, ?_⟩
                refine ⟨_, rfl, ?_⟩
                refine ⟨_, rfl, ?_⟩
                refine ⟨_, rfl, ?_⟩
                refine ⟨_, rfl, ?_⟩
                refine ⟨_, ⟨⟨by omega, by omega⟩, rfl⟩, ?_⟩
                have hw : ∀ X, X = E.data.take bytes.toNat → ACalls Try.prog 51 [flsV (FE (D.take keep.toNat)), str E.name, .roI .u8 X] [] (fun r h => r = flsV C ∧ h = []) := fun X hX => by
                  rw [hsome, hX]; exact with_r _ _ _ (by rw [List.length_take] at hfl; omega)
                refine ⟨[], _, hw _ (by rw [List.drop_zero] <;> (rw [List.take_of_length_le (by omega), List.take_of_length_le (by omega)])), ?_⟩
                rintro r hh ⟨rfl, rfl⟩
                refine ⟨.inl rfl, ?_⟩
                refine ⟨[], _, (fr4' trivial trivial trivial trivial), (hsync _).args ⟨vdk4 rfl rfl rfl rfl, trivial⟩, ?_⟩
                rintro r hh ⟨rfl, rfl⟩
                refine ⟨.inl rfl, ?_⟩
                exact ⟨[], [], _, lehN _, leDk rfl rfl rfl rfl rfl, rfl, rfl⟩
              · have g5 : ¬ bytes < E.data.length := no c
                refine .inr ⟨7, by decide +kernel, ?_⟩
                refine ⟨_, rfl, ?_⟩
                refine ⟨_, rfl, ?_⟩
                refine ⟨_, rfl, ?_⟩
                refine ⟨_, rfl, ?_⟩
                refine ⟨_, rfl, ?_⟩
                refine ⟨_, rfl, ?_⟩
                refine ⟨_, ⟨⟨by omega, by omega⟩, rfl⟩, ?_⟩
                have hw : ∀ X, X = E.data.take bytes.toNat → ACalls Try.prog 51 [flsV (FE (D.take keep.toNat)), str E.name, .roI .u8 X] [] (fun r h => r = flsV C ∧ h = []) := fun X hX => by
                  rw [hsome, hX]; exact with_r _ _ _ (by rw [List.length_take] at hfl; omega)
                refine ⟨[], _, hw _ (by rw [List.drop_zero] <;> (rw [List.take_of_length_le (by omega), List.take_of_length_le (by omega)])), ?_⟩
                rintro r hh ⟨rfl, rfl⟩
                refine ⟨.inl rfl, ?_⟩
                refine ⟨[], _, (fr4' trivial trivial trivial trivial), (hsync _).args ⟨vdk4 rfl rfl rfl rfl, trivial⟩, ?_⟩
                rintro r hh ⟨rfl, rfl⟩
                refine ⟨.inl rfl, ?_⟩
                exact ⟨[], [], _, lehN _, leDk rfl rfl rfl rfl rfl, rfl, rfl⟩
            · have g4 : ¬ E.kind = 1 := no c
              have hnone := hnone fun h => g4 h.2.2.2
              rw [← hnone]
              refine ⟨[], _, (fr4' trivial trivial trivial trivial), (hsync _).args ⟨vdk4 rfl rfl rfl rfl, trivial⟩, ?_⟩
              rintro r hh ⟨rfl, rfl⟩
              refine ⟨.inl rfl, ?_⟩
              exact ⟨[], [], _, lehN _, leDk rfl rfl rfl rfl rfl, rfl, rfl⟩
          · have g3 : ¬ 0 ≤ bytes := no c
            have hnone := hnone fun h => by omega
            rw [← hnone]
            refine ⟨[], _, (fr4' trivial trivial trivial trivial), (hsync _).args ⟨vdk4 rfl rfl rfl rfl, trivial⟩, ?_⟩
            rintro r hh ⟨rfl, rfl⟩
            refine ⟨.inl rfl, ?_⟩
            exact ⟨[], [], _, lehN _, leDk rfl rfl rfl rfl rfl, rfl, rfl⟩
        · have g2 : ¬ keep < D.length := no c
          have hnone := hnone fun h => by omega
          rw [← hnone]
          refine ⟨[], _, (fr4' trivial trivial trivial trivial), (hsync _).args ⟨vdk4 rfl rfl rfl rfl, trivial⟩, ?_⟩
          rintro r hh ⟨rfl, rfl⟩
          refine ⟨.inl rfl, ?_⟩
          exact ⟨[], [], _, lehN _, leDk rfl rfl rfl rfl rfl, rfl, rfl⟩
      · have g1 : ¬ 0 ≤ keep := no c
        have hnone := hnone fun h => by omega
        rw [← hnone]
        refine ⟨[], _, (fr4' trivial trivial trivial trivial), (hsync _).args ⟨vdk4 rfl rfl rfl rfl, trivial⟩, ?_⟩
        rintro r hh ⟨rfl, rfl⟩
        refine ⟨.inl rfl, ?_⟩
        exact ⟨[], [], _, lehN _, leDk rfl rfl rfl rfl rfl, rfl, rfl⟩
  · have f1 : ¬ (k : Int) < keep := no c
    have eT : D.take k = D.take keep.toNat := by rw [show k = keep.toNat by omega]
    rw [eT]
    refine ⟨fun c => ?_, fun c => ?_⟩
    · have g1 : 0 ≤ keep := yes c
      refine ⟨fun c => ?_, fun c => ?_⟩
      · have g2 : keep < D.length := yes c
        refine ⟨fun c => ?_, fun c => ?_⟩
        · have g3 : 0 ≤ bytes := yes c
          have b1 : 0 ≤ keep ∧ keep < D.length := ⟨g1, g2⟩
          have h4 : ∀ c, c < 4 → rowE D (keep.toNat * 4 + c) = de4C (D.getD keep.toNat de0) c := fun c hc => rowE_at D hc
          have hfl := hfl keep.toNat
          obtain ⟨E, hE⟩ : ∃ E, D.getD keep.toNat de0 = E := ⟨_, rfl⟩
          rw [hE] at h4 hnone hsome
          refine ⟨b1, de4C E, fun c hc => h4 c hc, ?_⟩
          refine ⟨fun c => ?_, fun c => ?_⟩
          · have g4 : E.kind = 1 := yes c
            have hsome := hsome ⟨g1, g2, g3, g4⟩
            refine ⟨b1, de4C E, fun c hc => h4 c hc, ?_⟩
            refine ⟨fun c => ?_, fun c => ?_⟩
            · have g5 : bytes < E.data.length := yes c
              refine .inr ⟨7, by decide +kernel, ?_⟩
              refine ⟨_, rfl, ?_⟩
              refine ⟨_, rfl, ?_⟩
              refine ⟨_, rfl, ?_⟩
              refine ⟨_, rfl, ?_⟩
              refine ⟨_, rfl, ?_⟩
              refine ⟨_, rfl, ?_⟩
              refine ⟨_, ⟨⟨by omega, by omega⟩, rfl⟩, ?_⟩
              have hw : ∀ X, X = E.data.take bytes.toNat → ACalls Try.prog 51 [flsV (FE (D.take keep.toNat)), str E.name, .roI .u8 X] [] (fun r h => r = flsV C ∧ h = []) := fun X hX => by
                rw [hsome, hX]; exact with_r _ _ _ (by rw [List.length_take] at hfl; omega)
              refine ⟨[], _, hw _ (by rw [List.drop_zero] <;> (rw [List.take_of_length_le (by omega), List.take_of_length_le (by omega)])), ?_⟩
              rintro r hh ⟨rfl, rfl⟩
              refine ⟨.inl rfl, ?_⟩
              refine ⟨[], _, (fr4' trivial trivial trivial trivial), (hsync _).args ⟨vdk4 rfl rfl rfl rfl, trivial⟩, ?_⟩
              rintro r hh ⟨rfl, rfl⟩
              refine ⟨.inl rfl, ?_⟩
              exact ⟨[], [], _, lehN _, leDk rfl rfl rfl rfl rfl, rfl, rfl⟩
            · have g5 : ¬ bytes < E.data.length := no c
              refine .inr ⟨7, by decide +kernel, ?_⟩
              refine ⟨_, rfl, ?_⟩
              refine ⟨_, rfl, ?_⟩
              refine ⟨_, rfl, ?_⟩
              refine ⟨_, rfl, ?_⟩
              refine ⟨_, rfl, ?_⟩
              refine ⟨_, rfl, ?_⟩
              refine ⟨_, ⟨⟨by omega, by omega⟩, rfl⟩, ?_⟩
              have hw : ∀ X, X = E.data.take bytes.toNat → ACalls Try.prog 51 [flsV (FE (D.take keep.toNat)), str E.name, .roI .u8 X] [] (fun r h => r = flsV C ∧ h = []) := fun X hX => by
                rw [hsome, hX]; exact with_r _ _ _ (by rw [List.length_take] at hfl; omega)
              refine ⟨[], _, hw _ (by rw [List.drop_zero] <;> (rw [List.take_of_length_le (by omega), List.take_of_length_le (by omega)])), ?_⟩
              rintro r hh ⟨rfl, rfl⟩
              refine ⟨.inl rfl, ?_⟩
              refine ⟨[], _, (fr4' trivial trivial trivial trivial), (hsync _).args ⟨vdk4 rfl rfl rfl rfl, trivial⟩, ?_⟩
              rintro r hh ⟨rfl, rfl⟩
              refine ⟨.inl rfl, ?_⟩
              exact ⟨[], [], _, lehN _, leDk rfl rfl rfl rfl rfl, rfl, rfl⟩
          · have g4 : ¬ E.kind = 1 := no c
            have hnone := hnone fun h => g4 h.2.2.2
            rw [← hnone]
            refine ⟨[], _, (fr4' trivial trivial trivial trivial), (hsync _).args ⟨vdk4 rfl rfl rfl rfl, trivial⟩, ?_⟩
            rintro r hh ⟨rfl, rfl⟩
            refine ⟨.inl rfl, ?_⟩
            exact ⟨[], [], _, lehN _, leDk rfl rfl rfl rfl rfl, rfl, rfl⟩
        · have g3 : ¬ 0 ≤ bytes := no c
          have hnone := hnone fun h => by omega
          rw [← hnone]
          refine ⟨[], _, (fr4' trivial trivial trivial trivial), (hsync _).args ⟨vdk4 rfl rfl rfl rfl, trivial⟩, ?_⟩
          rintro r hh ⟨rfl, rfl⟩
          refine ⟨.inl rfl, ?_⟩
          exact ⟨[], [], _, lehN _, leDk rfl rfl rfl rfl rfl, rfl, rfl⟩
      · have g2 : ¬ keep < D.length := no c
        have hnone := hnone fun h => by omega
        rw [← hnone]
        refine ⟨[], _, (fr4' trivial trivial trivial trivial), (hsync _).args ⟨vdk4 rfl rfl rfl rfl, trivial⟩, ?_⟩
        rintro r hh ⟨rfl, rfl⟩
        refine ⟨.inl rfl, ?_⟩
        exact ⟨[], [], _, lehN _, leDk rfl rfl rfl rfl rfl, rfl, rfl⟩
    · have g1 : ¬ 0 ≤ keep := no c
      have hnone := hnone fun h => by omega
      rw [← hnone]
      refine ⟨[], _, (fr4' trivial trivial trivial trivial), (hsync _).args ⟨vdk4 rfl rfl rfl rfl, trivial⟩, ?_⟩
      rintro r hh ⟨rfl, rfl⟩
      refine ⟨.inl rfl, ?_⟩
      exact ⟨[], [], _, lehN _, leDk rfl rfl rfl rfl rfl, rfl, rfl⟩
end
end Go.Proofs.Ytflclafbieokiaa.Dk
