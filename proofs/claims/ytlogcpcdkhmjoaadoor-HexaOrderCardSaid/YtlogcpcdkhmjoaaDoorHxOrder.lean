/-
  The law HexaOrder, walked.
-/
import Derived.Test.YtlogcpcdkhmjoaaDoorHxLaws
set_option linter.unusedVariables false
set_option linter.unusedSectionVars false
namespace Go.Proofs.YtlogcpcdkhmjoaaDoor.Hx
open Go AL

def u8 (n : Int) : UInt8 := UInt8.ofNat n.toNat
theorem u8_lt {a b : Int} (h0 : 0 ≤ a) (h1 : a < 256) (g0 : 0 ≤ b) (g1 : b < 256) : decide (u8 a < u8 b) = decide (a < b) := by
  have : u8 a < u8 b ↔ a < b := by
    unfold u8
    rw [UInt8.lt_iff_toNat_lt]
    simp
    omega
  simp only [this]
theorem u8_eq {a b : Int} (h0 : 0 ≤ a) (h1 : a < 256) (g0 : 0 ≤ b) (g1 : b < 256) : (u8 a == u8 b) = decide (a = b) := by
  have : u8 a = u8 b ↔ a = b := by
    unfold u8
    rw [← UInt8.toNat_inj]
    simp
    omega
  rw [Bool.eq_iff_iff]
  simp [this]
theorem less_hex : ∀ (xs ys : List Int), xs.length = ys.length → (∀ x ∈ xs, 0 ≤ x ∧ x < 256) → (∀ y ∈ ys, 0 ≤ y ∧ y < 256) →
    Op.bytesLess ((hexL xs).map u8) ((hexL ys).map u8) = Op.bytesLess (xs.map u8) (ys.map u8)
  | [], [], _, _, _ => rfl
  | [], _ :: _, h, _, _ => by simp at h
  | _ :: _, [], h, _, _ => by simp at h
  | x :: xs, y :: ys, h, hx, hy => by
    have ih := less_hex xs ys (by simpa using h) (fun z hz => hx z (by simp [hz])) (fun z hz => hy z (by simp [hz]))
    have h1 := hx x (by simp)
    have h2 := hy y (by simp)
    have a1 := fig_range (n := x / 16) (by omega) (by omega)
    have a2 := fig_range (n := x % 16) (by omega) (by omega)
    have b1 := fig_range (n := y / 16) (by omega) (by omega)
    have b2 := fig_range (n := y % 16) (by omega) (by omega)
    simp only [hexL, List.map_cons, Op.bytesLess]
    rw [ih, u8_lt (by omega) (by omega) (by omega) (by omega), u8_lt (by omega) (by omega) (by omega) (by omega), u8_lt (by omega) (by omega) (by omega) (by omega),
      u8_eq (by omega) (by omega) (by omega) (by omega), u8_eq (by omega) (by omega) (by omega) (by omega), u8_eq (by omega) (by omega) (by omega) (by omega)]
    have c1 : fig (x / 16) < fig (y / 16) ↔ x / 16 < y / 16 := by unfold fig; split <;> split <;> omega
    have c2 : fig (x / 16) = fig (y / 16) ↔ x / 16 = y / 16 := by unfold fig; split <;> split <;> omega
    have c3 : fig (x % 16) < fig (y % 16) ↔ x % 16 < y % 16 := by unfold fig; split <;> split <;> omega
    have c4 : fig (x % 16) = fig (y % 16) ↔ x % 16 = y % 16 := by unfold fig; split <;> split <;> omega
    simp only [c1, c2, c3, c4]
    generalize Op.bytesLess (xs.map u8) (ys.map u8) = r
    rw [Bool.eq_iff_iff]
    cases r <;> simp <;> omega
theorem bytesOf_toList (xs : List Int) : (bytesOf xs).toList = xs.map u8 := by
  rw [ByteArray.toList_eq]
  simp [bytesOf, u8]
theorem less_text {xs ys : List Int} (hl : xs.length = 32) (hx : ∀ x ∈ xs, 0 ≤ x ∧ x < 256) (gl : ys.length = 32) (hy : ∀ x ∈ ys, 0 ≤ x ∧ x < 256) :
    Op.bytesLess (textS xs).toList (textS ys).toList = Op.bytesLess (bytesOf xs).toList (bytesOf ys).toList := by
  unfold textS
  rw [bytesOf_toList, bytesOf_toList, bytesOf_toList, bytesOf_toList]
  exact less_hex xs ys (by omega) hx hy

section
variable [Globs]
set_option maxHeartbeats 2000000 in
set_option maxRecDepth 10000 in
theorem order_prog (hG : NumG) (a b : List Int) (al : a.length = 32) (ha : ∀ x ∈ a, 0 ≤ x ∧ x < 256) (bl : b.length = 32) (hb : ∀ x ∈ b, 0 ≤ x ∧ x < 256) :
    ACalls Tryd.prog 9 [.aggI .u8 a, .aggI .u8 b] [] (fun r h => r = .tt ∧ h = []) := by
  have h1 := text_prog a al ha
  have h2 := text_prog b bl hb
  have hlt := less_text al ha bl hb
  have heq : (decide (textS a = textS b) == decide (a = b)) = true := by
    by_cases h : a = b
    · subst h; simp
    · have : ¬ textS a = textS b := fun e => h (textS_inj al ha bl hb e)
      simp [h, this]
  have da := drop32 al
  have db := drop32 bl
  generalize textS a = A at *
  generalize textS b = B at *
  rw [← da] at h1
  rw [← db] at h2
  refine rcalls Tryd.func9 rfl (by decide) ?_
  refine ⟨al.symm, ?_⟩
  refine ⟨bl.symm, ?_⟩
  refine ⟨[], _, awake_prog hG, ?_⟩
  rintro r h ⟨rfl, rfl⟩
  refine ⟨.inl rfl, ?_⟩
  refine ⟨by rw [al]; decide, ?_⟩
  refine ⟨by rw [al]; decide, ?_⟩
  refine ⟨by rw [bl]; decide, ?_⟩
  refine ⟨by rw [bl]; decide, ?_⟩
  refine .inl ⟨⟨by decide +kernel, by decide +kernel⟩, ?_⟩
  refine ⟨by rw [al]; decide, ?_⟩
  refine ⟨.string A, h1.mono fun r h ⟨e1, e2⟩ => ⟨.inl e1, e2⟩, ?_⟩
  refine ⟨by rw [bl]; decide, ?_⟩
  refine ⟨.string B, h2.mono fun r h ⟨e1, e2⟩ => ⟨.inl e1, e2⟩, ?_⟩
  refine ⟨fun _ => ?_, fun e => ?_⟩
  · refine ⟨by rw [al]; decide, ?_⟩
    refine ⟨.string A, h1.mono fun r h ⟨e1, e2⟩ => ⟨.inl e1, e2⟩, ?_⟩
    refine ⟨by rw [bl]; decide, ?_⟩
    refine ⟨.string B, h2.mono fun r h ⟨e1, e2⟩ => ⟨.inl e1, e2⟩, ?_⟩
    refine ⟨by rw [al]; decide, ?_⟩
    refine ⟨by rw [bl]; decide, ?_⟩
    refine ⟨by rw [List.length_take, List.length_drop, al]; decide, by rw [List.length_take, List.length_drop, bl]; decide, ?_⟩
    refine ⟨[], [], .tt, lehN _, leTT ?_, rfl, rfl⟩
    show (decide (A = B) == decide (List.take 32 (List.drop 0 a) = List.take 32 (List.drop 0 b))) = true
    rw [da, db]
    exact heq
  · exfalso
    have e' : (Op.bytesLess A.toList B.toList == Op.bytesLess (bytesOf (List.take 32 (List.drop 0 a))).toList (bytesOf (List.take 32 (List.drop 0 b))).toList) = false := e
    rw [da, db, hlt] at e'
    simp at e'

end
end Go.Proofs.YtlogcpcdkhmjoaaDoor.Hx
