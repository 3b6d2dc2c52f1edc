/-
  The contracts of octal.Check and octal.Text.
-/
import Derived.Test.YtlogcpcdkhmjoaaDoorOcPut
import Derived.Test.YtlogcpcdkhmjoaaDoorShelf
import Derived.Lib.IndexLaws
set_option linter.unusedVariables false
set_option linter.unusedSectionVars false
namespace Go.Proofs.YtlogcpcdkhmjoaaDoor.Oc
open Go AL
section
variable [Globs]

/-- A byte of a header, as it counts in the sum. -/
def chkAt (i : Nat) (c : Int) : Int := if 148 ≤ i ∧ i < 156 then 32 else c
/-- The sum of the first so many bytes. -/
def chk (xs : List Int) : Nat → Int
  | 0 => 0
  | k + 1 => chk xs k + chkAt k (xs.getD k 0)
theorem chk_range {xs : List Int} (hx : ∀ x ∈ xs, 0 ≤ x ∧ x < 256) : ∀ k : Nat, 0 ≤ chk xs k ∧ chk xs k ≤ 256 * k
  | 0 => by simp [chk]
  | k + 1 => by
    have := chk_range hx k
    have hb := byteAt hx k
    simp only [chk, chkAt]
    split <;> omega

set_option maxHeartbeats 1000000 in
set_option maxRecDepth 10000 in
theorem check_prog (xs : List Int) (hx : ∀ x ∈ xs, 0 ≤ x ∧ x < 256) (hl : xs.length ≤ 281474976710656) : ACalls Tryd.prog 16 [.roI .u8 xs] [] (fun r h => r = int .i64 (chk xs xs.length) ∧ h = []) := by
  refine rcalls Tryd.func16 rfl (by decide) ?_
  refine ⟨Nat, fun k => [(6, .roI .u8 xs), (7, int .i64 xs.length), (8, int .i64 k), (3, int .i64 (chk xs k))], fun _ => [], fun k => k ≤ xs.length, fun k => xs.length - k,
    ⟨0, [], Nat.zero_le _, leh0, ⟨leRo rfl, leI rfl, leI rfl, leI rfl, trivial⟩⟩, fun k hk => ?_⟩
  refine ⟨fun h => ?_, fun h => ?_⟩
  · have hlt : k < xs.length := by have := yes h; omega
    have hb := byteAt hx k
    have hr := chk_range hx k
    have e1 : IntKind.i64.wrap ((k : Int) + 1) = ((k + 1 : Nat) : Int) := by rw [w64 (by omega) (by omega)]; omega
    refine ⟨⟨by omega, by omega⟩, ?_⟩
    refine ⟨fun h1 => ⟨fun h2 => ?_, fun h2 => ?_⟩, fun h1 => ?_⟩
    · have f1 := yes h1
      have f2 := yes h2
      refine ⟨trivial, k + 1, [], hlt, by show xs.length - (k + 1) < xs.length - k; omega, leh0, ⟨leRo rfl, leI rfl, leI e1, leI ?_, trivial⟩⟩
      have : chk xs (k + 1) = chk xs k + 32 := by simp only [chk, chkAt]; rw [if_pos (by omega)]
      rw [this, w64 (n := 32) (by omega) (by omega), w64 (by omega) (by omega)]
    · have f2 := no h2
      refine ⟨trivial, k + 1, [], hlt, by show xs.length - (k + 1) < xs.length - k; omega, leh0, ⟨leRo rfl, leI rfl, leI e1, leI ?_, trivial⟩⟩
      have : chk xs (k + 1) = chk xs k + xs.getD k 0 := by simp only [chk, chkAt]; rw [if_neg (by omega)]
      show IntKind.i64.wrap (chk xs k + IntKind.i64.wrap (xs.getD k 0)) = _
      rw [this, w64 (n := xs.getD k 0) (by omega) (by omega), w64 (by omega) (by omega)]
    · have f1 := no h1
      refine ⟨trivial, k + 1, [], hlt, by show xs.length - (k + 1) < xs.length - k; omega, leh0, ⟨leRo rfl, leI rfl, leI e1, leI ?_, trivial⟩⟩
      have : chk xs (k + 1) = chk xs k + xs.getD k 0 := by simp only [chk, chkAt]; rw [if_neg (by omega)]
      show IntKind.i64.wrap (chk xs k + IntKind.i64.wrap (xs.getD k 0)) = _
      rw [this, w64 (n := xs.getD k 0) (by omega) (by omega), w64 (by omega) (by omega)]
  · have : k = xs.length := by have := no h; omega
    subst this
    exact ⟨[], [], _, leh0, leI rfl, rfl, rfl⟩

/-- Has a text a byte that is 0? -/
def has0 (s : ByteArray) : Prop := 0 ≤ Lib.indexByte s.data.toList 0
instance (s : ByteArray) : Decidable (has0 s) := by unfold has0; exact inferInstance
def textE (s : ByteArray) (w : Int) : Int := if w < 1 ∨ w > 255 then 1 else if has0 s then 2 else if (s.size : Int) > w then 8 else 0
def textR (s : ByteArray) (w : Int) : List Int := if textE s w = 0 then intsOf s ++ List.replicate (w.toNat - s.size) 0 else []
def TextR (s : ByteArray) (w : Int) (r : AV) (h : List AO) : Prop := r = .tup 2 (pair (.roI .u8 (textR s w)) (int .i64 (textE s w))) ∧ h = []

theorem text_row (l : List Int) (m : Nat) (h : l.length ≤ m) :
    (((List.replicate m (0 : Int)).take 0 ++ l.take m ++ (List.replicate m 0).drop (0 + min l.length m)).drop 0).take m = l ++ List.replicate (m - l.length) 0 := by
  rw [List.take_zero, List.nil_append, List.drop_zero, Nat.zero_add, Nat.min_eq_left h, List.drop_replicate, List.take_of_length_le (l := l) h, List.take_of_length_le]
  simp; omega

theorem index_prog (s : ByteArray) : ACalls Tryd.prog 29 [str s, int .u8 0] [] (fun r h => r = int .i64 (Lib.indexByte s.data.toList 0) ∧ h = []) :=
  acalls_same (args := [.string s, .int .u8 0]) ⟨_, Tryd.func29, by decide, rfl⟩ fun w => Tryd.strings_IndexByte s 0 w

set_option maxHeartbeats 1000000 in
set_option maxRecDepth 10000 in
theorem text_prog (s : ByteArray) (w : Int) (hs : s.size ≤ 9223372036854775807) : ACalls Tryd.prog 12 [str s, int .i64 w] [] (TextR s w) := by
  refine rcalls Tryd.func12 rfl (by decide) ?_
  have bad : ∀ h e, e ≠ 0 → textE s w = e → ∃ l h1 b, LeH 0 h l h1 ∧ LeV h l (.tup 2 fun i => [.raw (.slice none 0 0), int .i64 e].getD i .top) b ∧ TextR s w b h1 := fun h e he hv =>
    ⟨[], [], _, lehN _, le_pair (.nilI .u8) (leI hv.symm), by unfold TextR textR; rw [hv, if_neg he]; exact ⟨rfl, rfl⟩⟩
  refine ⟨fun h => bad _ _ (by decide) ?_, fun h => ⟨fun h1 => bad _ _ (by decide) ?_, fun h1 => ?_⟩⟩
  · have := yes h; simp [textE, this]
  · have := yes h1; simp [textE]; omega
  have hok : ¬ (w < 1 ∨ w > 255) := by have := no h; have := no h1; omega
  refine ⟨[], _, index_prog s, ?_⟩
  rintro r h' ⟨rfl, rfl⟩
  refine ⟨.inl rfl, ?_⟩
  refine ⟨fun h2 => bad _ _ (by decide) ?_, fun h2 => ⟨fun h3 => bad _ _ (by decide) ?_, fun h3 => ?_⟩⟩
  · have h4 : has0 s := by simpa [has0] using yes h2
    simp only [textE, hok, if_false, h4, if_true]
  · have h4 : ¬ has0 s := by simpa [has0] using no h2
    have := yes h3
    simp only [textE, hok, if_false, h4]
    rw [if_pos (by omega)]
  have h4 : ¬ has0 s := by simpa [has0] using no h2
  have h5 := no h3
  have hE : textE s w = 0 := by
    simp only [textE, hok, if_false, h4]
    rw [if_neg (by omega)]
  have hil := intsOf_length s
  refine ⟨⟨by omega, by omega, by omega, by show w * 1 ≤ _; omega⟩, rfl, ?_⟩
  refine ⟨by simp, ?_⟩
  refine ⟨[], [], _, lehN _, le_pair (.giveI (textR s w) rfl (by simp) ?_ ?_) (leI hE.symm), rfl, rfl⟩
  · simp; omega
  · unfold textR
    rw [if_pos hE, ← hil]
    exact (text_row (intsOf s) w.toNat (by omega)).symm

end

end Go.Proofs.YtlogcpcdkhmjoaaDoor.Oc
