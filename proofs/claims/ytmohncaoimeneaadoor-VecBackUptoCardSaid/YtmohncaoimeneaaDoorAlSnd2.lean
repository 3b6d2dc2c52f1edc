/-
  The state's own logic is sound: what only computes and reads, part 2. No program in sight.
-/
import Derived.Test.YtmohncaoimeneaaDoorAlSnd
set_option linter.unusedVariables false
set_option linter.unusedSectionVars false
namespace Go.Proofs.YtmohncaoimeneaaDoor.AL
open Go
variable [Globs]

section
variable {P : Program} {C : Ctx} {t : List AV} {h : List AO} {L : Loc} {a : Act} {w : World}

/-- Cells that read so, one behind the other. -/
theorem run_loadCellsFrom (A : Addr) (hA : A.spot = none) : ∀ (n i : Nat) (acc : Array Value) (us : List Value) (w : World), us.length = n →
    (∀ j, j < n → w.cell? ⟨A.block, A.off + i + j, none⟩ = us[j]?) → (loadCellsFrom A i n acc).run P w = .ok (acc ++ us.toArray) w
  | 0, i, acc, us, w, hn, hc => by
    have : us = [] := List.length_eq_zero_iff.1 hn
    subst this
    simp [loadCellsFrom]
  | n + 1, i, acc, us, w, hn, hc => by
    obtain ⟨u, us, rfl⟩ : ∃ u r, us = u :: r := by
      cases us with
      | nil => simp at hn
      | cons u r => exact ⟨u, r, rfl⟩
    have h0 : w.cell? (A.add i) = some u := by
      have := hc 0 (by omega)
      unfold Addr.add
      split
      · rename_i e; subst e; obtain ⟨b, o, sp⟩ := A; simp at hA; subst hA; simpa using this
      · simpa using this
    unfold loadCellsFrom
    simp only [Sem.run_bind, run_load, h0, Result.andThen_ok]
    rw [run_loadCellsFrom A hA n (i + 1) (acc.push u) us w (by simpa using hn) (fun j hj => by
      have := hc (j + 1) (by omega)
      simpa [Nat.add_assoc, Nat.add_comm 1] using this)]
    simp
theorem run_loadCells (A : Addr) (hA : A.spot = none) {us : List Value} {w : World} {n : Nat} (hn : us.length = n)
    (hc : ∀ j, j < n → w.cell? ⟨A.block, A.off + j, none⟩ = us[j]?) : (loadCells A n).run P w = .ok us.toArray w := by
  unfold loadCells
  rw [run_loadCellsFrom A hA n 0 #[] us w hn (by simpa using hc)]
  simp

theorem choose_cells {n : Nat} {p : Nat → Value → Prop} {c : Nat → Option Value} (h : ∀ i, i < n → ∃ u, c i = some u ∧ p i u) :
    ∃ us : List Value, us.length = n ∧ ∀ i, i < n → ∃ u, c i = some u ∧ us[i]? = some u ∧ p i u := by
  induction n with
  | zero => exact ⟨[], rfl, fun i hi => by omega⟩
  | succ n ih =>
    obtain ⟨us, h1, h2⟩ := ih fun i hi => h i (by omega)
    obtain ⟨u, h3, h4⟩ := h n (by omega)
    refine ⟨us ++ [u], by simp [h1], fun i hi => ?_⟩
    rcases Nat.lt_or_ge i n with hi' | hi'
    · obtain ⟨x, h5, h6, h7⟩ := h2 i hi'
      exact ⟨x, h5, by rw [List.getElem?_append_left (by omega)]; exact h6, h7⟩
    · have : i = n := by omega
      subst this
      exact ⟨u, h3, by rw [List.getElem?_append_right (by omega)]; simp [h1], h4⟩

/-- A variable of cells that read so. -/
theorem loadVar_agg {T : TypeId} {s : Nat} {A : Addr} (hA : A.spot = none) (hag : aggB P T = some true) (hs : ∀ w, (sizeOf T).run P w = .ok s w) {us : List Value} {w : World} (hn : us.length = s)
    (hc : ∀ j, j < s → w.cell? ⟨A.block, A.off + j, none⟩ = us[j]?) : (loadVar T A).run P w = .ok (.agg us.toArray) w := by
  unfold loadVar
  simp only [Sem.run_bind, run_isAgg hag, Result.andThen_ok, if_true, hs, run_loadCells A hA hn hc]
  rfl
theorem loadVar_one {T : TypeId} {A : Addr} (hag : aggB P T = some false) {u : Value} {w : World}
    (hc : w.cell? A = some u) : (loadVar T A).run P w = .ok u w := by
  unfold loadVar
  simp [Sem.run_bind, run_isAgg hag, Result.andThen_ok, hc]

theorem Rel.obj (hr : HRel C h L w) {id : Nat} {o : AO} (ho : h[id]? = some o) : objIs w (SS C w h L) L (L.b id) (L.sz id) o := hr.objs id o ho

theorem underlying_some {T : TypeId} (hT : aggB P T = false ∨ aggB P T = some true) : True := trivial

theorem loadK_spec (hr : HRel C h L w) {T : TypeId} {x : AV} {vx : Value} {K : AV → Prop} (hx : den w (SS C w h L) L x vx)
    (hk : loadK P T h x K) : Gives P w (den w (SS C w h L) L) (Instr.loadAt T vx) K := by
  unfold loadK at hk
  split at hk
  · -- rp
    rename_i n f
    obtain ⟨A, rfl, hc⟩ := hx
    split at hk
    · rename_i hag
      obtain ⟨s, hs, _, hk⟩ := sizeK_spec hk
      obtain ⟨hle, hk⟩ := sure_iff.1 hk
      obtain ⟨us, h1, h2⟩ := choose_cells (n := s) (c := fun i => w.cell? ⟨A.block, A.off + i, none⟩) (p := fun i u => rcell w (SS C w h L) (some A) i u ∧ den w (SS C w h L) L (f i) u) (by
        intro i hi
        obtain ⟨u, ⟨b, o, e, hb, hcell⟩, hd⟩ := hc i (by omega)
        cases e
        exact ⟨u, hcell, ⟨b, o, rfl, hb, hcell⟩, den_zero L hd⟩)
      have hsp : A.spot = none ∨ s = 0 := by
        rcases Nat.eq_zero_or_pos s with h0 | h0
        · exact .inr h0
        · obtain ⟨u, ⟨b, o, e, hb, hcell⟩, hd⟩ := hc 0 (by omega)
          cases e; exact .inl rfl
      refine ⟨.agg us.toArray, .agg s f, fun w' hw => ?_, ⟨us.toArray, rfl, by simp [h1], fun i hi => ?_⟩, hk⟩
      · rcases hsp with hsp | hsp
        · show (loadVar T A).run P w' = _
          exact loadVar_agg hsp hag hs h1 fun j hj => by
            obtain ⟨u, h3, h4, _⟩ := h2 j hj
            rw [hw.cell h3, h4]
        · subst hsp
          have : us = [] := List.length_eq_zero_iff.1 h1
          subst this
          show (loadVar T A).run P w' = _
          unfold loadVar
          simp only [Sem.run_bind, run_isAgg hag, Result.andThen_ok, if_true, hs, loadCells, loadCellsFrom]
          rfl
      · obtain ⟨u, h3, h4, _, h5⟩ := h2 i hi
        exact ⟨u, by simpa using h4, h5⟩
    · rename_i hag
      obtain ⟨h0, hk⟩ := sure_iff.1 hk
      obtain ⟨u, ⟨b, o, e, hb, hcell⟩, hd⟩ := hc 0 h0
      cases e
      exact ⟨u, _, fun w' hw => loadVar_one hag (hw.cell (by simpa using hcell)), den_zero L hd, hk⟩
    · exact hk.elim
  · -- ptr
    rename_i id off
    obtain ⟨hid, b, hb, rfl⟩ := hx
    obtain ⟨o, ho, hk⟩ := getO_iff.1 hk
    have hob := hr.objs id o ho
    have get : ∀ {n : Nat} {p : Nat → Value → Prop}, cellsAre w (L.b id) (L.sz id) n p → ∀ i, i < n → ∃ u, w.cell? ⟨b, i, none⟩ = some u ∧ p i u := fun hc i hi => own_cell hc hb hi
    have many : ∀ {n s : Nat} {p : Nat → Value → Prop} (f : Nat → AV), cellsAre w (L.b id) (L.sz id) n p → off + s ≤ n → (∀ w, (sizeOf T).run P w = .ok s w) → aggB P T = some true →
        (∀ i u, i < s → p (off + i) u → den w (SS C w h L) L (f i) u) → ∃ us : List Value, us.length = s ∧
        (∀ w', Ext w w' → (loadVar T ⟨b, off, none⟩).run P w' = .ok (.agg us.toArray) w') ∧ ∀ i, i < s → ∃ u, us.toArray[i]? = some u ∧ p (off + i) u ∧ den w (SS C w h L) L (f i) u := by
      intro n s p f hc hle hs hag hp
      obtain ⟨us, h1, h2⟩ := choose_cells (n := s) (c := fun i => w.cell? ⟨b, off + i, none⟩) (p := fun i u => p (off + i) u ∧ den w (SS C w h L) L (f i) u) (by
        intro i hi
        obtain ⟨u, h3, h4⟩ := get hc (off + i) (by omega)
        exact ⟨u, h3, h4, hp i u hi h4⟩)
      refine ⟨us, h1, fun w' hw => loadVar_agg rfl hag hs h1 fun j hj => ?_, fun i hi => ?_⟩
      · obtain ⟨u, h3, h4, _⟩ := h2 j hj
        rw [hw.cell h3, h4]
      · obtain ⟨u, h3, h4, h5, h6⟩ := h2 i hi
        exact ⟨u, by simpa using h4, h5, h6⟩
    split at hk
    · -- lst
      split at hk
      · rename_i hag
        obtain ⟨s, hs, _, hk⟩ := sizeK_spec hk
        obtain ⟨hle, hk⟩ := sure_iff.1 hk
        obtain ⟨us, h1, h2, h3⟩ := many _ hob hle hs hag (fun i u _ hp => hp)
        exact ⟨_, .agg s _, h2, ⟨_, rfl, by simp [h1], fun i hi => let ⟨u, h4, _, h5⟩ := h3 i hi; ⟨u, h4, h5⟩⟩, hk⟩
      · rename_i hag
        obtain ⟨hle, hk⟩ := sure_iff.1 hk
        have hk := getK_iff.1 hk
        obtain ⟨u, h1, h2⟩ := get hob off hle
        exact ⟨u, _, fun w' hw => loadVar_one hag (hw.cell h1), h2, hk⟩
      · exact hk.elim
    · -- ints
      split at hk
      · rename_i k xs _ hag
        obtain ⟨s, hs, _, hk⟩ := sizeK_spec hk
        obtain ⟨hle, hk⟩ := hk
        obtain ⟨us, h1, h2, h3⟩ := many (fun _ => .top) hob hle hs hag (fun i u _ hp => trivial)
        refine ⟨_, _, h2, ?_, hk⟩
        show Value.agg us.toArray = _
        congr 2
        apply List.ext_getElem?
        intro i
        rcases Nat.lt_or_ge i s with hi | hi
        · obtain ⟨u, h4, h5, _⟩ := h3 i hi
          have h4' : us[i]? = some u := by simpa using h4
          rw [h4', h5, List.getElem?_map, List.getElem?_take_of_lt hi, List.getElem?_drop, List.getD_eq_getElem?_getD, List.getElem?_eq_getElem (by omega)]
          rfl
        · rw [List.getElem?_eq_none (by omega), List.getElem?_eq_none (by simp; omega)]
      · rename_i hag
        obtain ⟨hle, hk⟩ := hk
        obtain ⟨u, h1, rfl⟩ := get hob off hle
        exact ⟨_, .raw _, fun w' hw => loadVar_one hag (hw.cell h1), rfl, hk⟩
      · exact hk.elim
    · -- row
      split at hk
      · rename_i hag
        obtain ⟨s, hs, _, hk⟩ := sizeK_spec hk
        obtain ⟨hle, hk⟩ := hk
        obtain ⟨us, h1, h2, h3⟩ := many _ hob hle hs hag (fun i u _ hp => hp)
        exact ⟨_, .agg s _, h2, ⟨_, rfl, by simp [h1], fun i hi => let ⟨u, h4, _, h5⟩ := h3 i hi; ⟨u, h4, h5⟩⟩, hk⟩
      · rename_i hag
        obtain ⟨hle, hk⟩ := hk
        obtain ⟨u, h1, h2⟩ := get hob off hle
        exact ⟨u, _, fun w' hw => loadVar_one hag (hw.cell h1), h2, hk⟩
      · exact hk.elim
    · exact hk.elim
  · exact hk.elim

end
end Go.Proofs.YtmohncaoimeneaaDoor.AL
