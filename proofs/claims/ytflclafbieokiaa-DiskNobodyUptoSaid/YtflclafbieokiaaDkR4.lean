/-
  The document's disk: what is noted, done, synced.
-/
import Derived.Test.YtflclafbieokiaaDkR3
set_option linter.unusedVariables false
set_option linter.unusedSectionVars false
namespace Go.Proofs.Ytflclafbieokiaa.Dk
open Go AL Us

def de0 : De4 := ⟨0, ByteArray.empty, ByteArray.empty, []⟩
def rowE (l : List De4) (i : Nat) : AV := de4C (l.getD (i / 4) de0) (i % 4)
abbrev desV (l : List De4) : AV := .rs l.length 4 (rowE l)
theorem rowE_at (l : List De4) {k c : Nat} (h : c < 4) : rowE l (k * 4 + c) = de4C (l.getD k de0) c := by
  unfold rowE
  rw [show (k * 4 + c) / 4 = k by omega, show (k * 4 + c) % 4 = c by omega]
theorem rowE_old (l : List De4) (e : De4) {i : Nat} (h : i < l.length * 4) : rowE (l ++ [e]) i = rowE l i := by
  unfold rowE
  have : i / 4 < l.length := by omega
  rw [List.getD_eq_getElem?_getD, List.getElem?_append_left this, List.getD_eq_getElem?_getD]
theorem rowE_new (l : List De4) (e : De4) {i : Nat} (h : i < 4) : rowE (l ++ [e]) (l.length * 4 + i) = de4C e i := by
  unfold rowE
  have h1 : (l.length * 4 + i) / 4 = l.length := by omega
  have h2 : (l.length * 4 + i) % 4 = i := by omega
  rw [h1, h2, List.getD_eq_getElem?_getD, List.getElem?_append_right (Nat.le_refl _), Nat.sub_self]
  rfl
theorem de4C_free (e : De4) : ∀ c, (de4C e c).free
  | 0 => trivial
  | 1 => trivial
  | 2 => trivial
  | _ + 3 => trivial
theorem de4C_cell1 (e : De4) : ∀ c, cell1 (de4C e c) = true
  | 0 => rfl
  | 1 => rfl
  | 2 => rfl
  | _ + 3 => rfl
theorem rowEFree (l : List De4) (i : Nat) : (rowE l i).free := de4C_free _ _
theorem rowECell1 (l : List De4) (i : Nat) : cell1 (rowE l i) = true := de4C_cell1 _ _
theorem vrs {n m sz : Nat} {f g : Nat → AV} (e : n = m) (h : ∀ i, i < n * sz → f i = g i) : VLe (.ro n sz f) (.rs m sz g) := fun w S L v hv => by
  subst e
  obtain ⟨A, cap, e, hc, hd⟩ := hv
  refine ⟨A, cap, e, hc, fun i hi => ?_⟩
  obtain ⟨u, h1, h2⟩ := hd i hi
  exact ⟨u, h1, by rw [← h i hi]; exact h2⟩
theorem ld4 {f : Nat → AV} {i : Nat} (hi : i < 4) : (List.map f (List.range 4)).getD (0 + i) AV.top = f i := by
  match i, hi with
  | 0, _ => rfl
  | 1, _ => rfl
  | 2, _ => rfl
  | 3, _ => rfl
theorem fr4 {f : Nat → AV} (h : ∀ i, (f i).free) {i : Nat} (hi : i < 4) : ((List.map f (List.range 4)).getD (0 + i) AV.top).free := by rw [ld4 hi]; exact h i
/-- The document's disk. -/
structure DkD where
  files : List Fl
  synced : List Fl
  deeds : List De4
  room : Int
def dkdC (d : DkD) : Nat → AV
  | 0 => flsV d.files
  | 1 => flsV d.synced
  | 2 => desV d.deeds
  | _ => int .i64 d.room
abbrev dkdV (d : DkD) : AV := .agg 4 (dkdC d)
def dkdR (d : DkD) : DkR := ⟨d.files, d.synced, d.deeds.map toDee, d.room⟩
def noteD (d : DkD) (e : De4) : DkD := ⟨actR (toDee e) d.files, d.synced, d.deeds ++ [e], d.room⟩
section
variable [Globs]
theorem vde {f : Nat → AV} {e : De4} (h : ∀ i, i < 4 → f i = de4C e i) : VLe (.agg 4 f) (de4V e) := vagg fun i hi => by rw [h i hi]; exact VLe.refl _

set_option maxRecDepth 10000 in
theorem new_r (room : Int) : ACalls Try.prog 24 [int .i64 room] [] (fun r h => r = dkdV ⟨[], [], [], max room 0⟩ ∧ h = []) := by
  refine rcalls Try.func24 rfl (by decide) ?_
  refine ⟨[], [], _, lehN _, .agg 4 _ (dkdC ⟨[], [], [], max room 0⟩) fun i hi => ?_, rfl, rfl⟩
  match i, hi with
  | 0, _ => exact .seen (.nilR 2 (rowF [])) (vrs rfl fun _ _ => rfl)
  | 1, _ => exact .seen (.nilR 2 (rowF [])) (vrs rfl fun _ _ => rfl)
  | 2, _ => exact .seen (.nilR 4 (rowE [])) (vrs rfl fun _ _ => rfl)
  | 3, _ => exact leI rfl

set_option maxRecDepth 10000 in
theorem may_r (s : ByteArray) : ACalls Try.prog 46 [str s] [] (fun r h => r = bool (decide (mayN s)) ∧ h = []) := by
  refine rcalls Try.func46 rfl (by decide) ?_
  refine ⟨fun c => ?_, fun c => ?_⟩
  · have f1 : (s.size : Int) ≥ 1 := yes c
    exact ⟨[], [], _, lehN _, .same _ trivial, congrArg AL.bool (decide_eq_decide.2 (by unfold mayN; omega)), rfl⟩
  · have f1 : ¬ (s.size : Int) ≥ 1 := no c
    exact ⟨[], [], _, lehN _, leFP fun h => f1 (by unfold mayN at h; omega), rfl, rfl⟩

set_option maxRecDepth 10000 in
theorem sync_r (d : DkD) : ACalls Try.prog 40 [dkdV d] [] (fun r h => r = dkdV ⟨d.files, d.files, [], d.room⟩ ∧ h = []) := by
  refine rcalls Try.func40 rfl (by decide) ?_
  refine ⟨[], [], _, lehN _, .agg 4 _ (dkdC ⟨d.files, d.files, [], d.room⟩) fun i hi => ?_, rfl, rfl⟩
  match i, hi with
  | 0, _ => exact .same _ trivial
  | 1, _ => exact .same _ trivial
  | 2, _ => exact .seen (.nilR 4 (rowE [])) (vrs rfl fun _ _ => rfl)
  | 3, _ => exact leI rfl

set_option maxHeartbeats 1000000 in
set_option maxRecDepth 10000 in
theorem note_r (d : DkD) (e : De4) (hl : d.files.length ≤ 999999) (hd : d.deeds.length ≤ 100000) : ACalls Try.prog 48 [dkdV d, de4V e] [] (fun r h => r = dkdV (noteD d e) ∧ h = []) := by
  have hdo := done_r d.files e hl
  obtain ⟨F, S, D, R⟩ := d
  obtain ⟨F', hF⟩ : ∃ F', actR (toDee e) F = F' := ⟨_, rfl⟩
  have eN : noteD ⟨F, S, D, R⟩ e = ⟨F', S, D ++ [e], R⟩ := by rw [← hF]; rfl
  rw [eN]
  simp only at hdo hd
  rw [hF] at hdo
  clear hF eN
  refine rcalls Try.func48 rfl (by decide) ?_
  refine ⟨[], _, fun i hi => fr4 (de4C_free e) hi, hdo.args ⟨VLe.refl _, vde fun i hi => ld4 hi, trivial⟩, ?_⟩
  rintro r hh ⟨rfl, rfl⟩
  refine ⟨.inl rfl, ?_⟩
  refine ⟨rfl, fun i hi => by simp at hi, by show (0 + D.length) * 64 ≤ _; omega, fun i hi => rowECell1 D _, rowE D, fun i hi => by simp at hi, fun i hi => by show rowE D (0 + i) = _; rw [Nat.zero_add], ?_⟩
  refine ⟨rfl, fun i hi => rowECell1 D i, Nat.le_refl 4, by show (0 + D.length + 1) * 64 ≤ _; omega, fun i hi => ?_, rowE (D ++ [e]), fun i hi => ?_, fun i hi => ?_, ?_⟩
  · match i, hi with
    | 0, _ => rfl
    | 1, _ => rfl
    | 2, _ => rfl
    | 3, _ => rfl
  · exact rowE_old D e (by simpa using hi)
  · show rowE (D ++ [e]) ((0 + D.length) * 4 + i) = _
    rw [Nat.zero_add, rowE_new D e hi]
    match i, hi with
    | 0, _ => rfl
    | 1, _ => rfl
    | 2, _ => rfl
    | 3, _ => rfl
  refine ⟨[], [], _, lehN _, .agg 4 _ (dkdC ⟨F', S, D ++ [e], R⟩) fun i hi => ?_, rfl, rfl⟩
  match i, hi with
  | 0, _ => exact .same _ trivial
  | 1, _ => exact .same _ trivial
  | 2, _ => exact .seen (.giveR (rowE (D ++ [e])) rfl (by simp) (Nat.le_of_eq (Nat.zero_add _)) (fun i hi => cast (congrArg (fun j => LeV _ _ (rowE (D ++ [e]) j) (rowE (D ++ [e]) i)) (Nat.zero_add i).symm) (LeV.same _ (rowEFree _ i))) fun i hi => rowEFree _ i) (vrs (by simp) fun i hi => rfl)
  | 3, _ => exact leI rfl
end
end Go.Proofs.Ytflclafbieokiaa.Dk
