/-
  The program's disk: a file written.
-/
import Derived.Test.YtflclafbieokiaaDkQ
set_option linter.unusedVariables false
set_option linter.unusedSectionVars false
set_option linter.unusedSimpArgs false
namespace Go.Proofs.Ytflclafbieokiaa.Dk
open Go AL Us
section
variable [Globs]

theorem vclo {fn : Fn} {n : Nat} {f g : Nat → AV} (h : ∀ i, i < n → VLe (f i) (g i)) : VLe (.clo fn n f) (.clo fn n g) := fun w S L v hv => by
  obtain ⟨vs, e, hn, hd⟩ := hv
  refine ⟨vs, e, hn, fun i hi => ?_⟩
  obtain ⟨u, h1, h2⟩ := hd i hi
  exact ⟨u, h1, h i hi w S L u h2⟩
theorem vone {f : Nat → AV} {a : AV} (h : VLe (f 0) a) : VLe (.rp 1 f) (one a) := fun w S L v hv => by
  obtain ⟨A, e, hd⟩ := hv
  refine ⟨A, e, fun i hi => ?_⟩
  obtain ⟨u, h1, h2⟩ := hd i hi
  obtain rfl : i = 0 := by omega
  exact ⟨u, h1, h w S .zero u h2⟩
theorem vnilI : VLe (.raw (.slice none 0 0)) (.roI .u8 []) := fun w S L v hv => by
  obtain rfl := hv
  exact ⟨none, 0, rfl, Nat.le_refl _, fun i hi => absurd hi (Nat.not_lt_zero _)⟩
theorem vff : VLe .ff (bool false) := fun w S L v hv => hv
theorem vtt : VLe .tt (bool true) := fun w S L v hv => hv
theorem vtwo {f g : Nat → AV} (h0 : VLe (f 0) (g 0)) (h1 : VLe (f 1) (g 1)) : ∀ i, i < 2 → VLe (f i) (g i) := fun i hi => by
  match i, hi with
  | 0, _ => exact h0
  | 1, _ => exact h1
theorem vfour {f g : Nat → AV} (h0 : VLe (f 0) (g 0)) (h1 : VLe (f 1) (g 1)) (h2 : VLe (f 2) (g 2)) (h3 : VLe (f 3) (g 3)) : ∀ i, i < 4 → VLe (f i) (g i) := fun i hi => by
  match i, hi with
  | 0, _ => exact h0
  | 1, _ => exact h1
  | 2, _ => exact h2
  | 3, _ => exact h3
theorem two {f : Nat → AV} (h0 : (f 0).free) (h1 : (f 1).free) : ∀ i, i < 2 → (f i).free := fun i hi => by
  match i, hi with
  | 0, _ => exact h0
  | 1, _ => exact h1
theorem fourF {f : Nat → AV} (h0 : (f 0).free) (h1 : (f 1).free) (h2 : (f 2).free) (h3 : (f 3).free) : ∀ i, i < 4 → (f i).free := fun i hi => by
  match i, hi with
  | 0, _ => exact h0
  | 1, _ => exact h1
  | 2, _ => exact h2
  | 3, _ => exact h3
theorem vcut {k : IntKind} {b : List Int} : VLe (.roI k ((b.drop 0).take b.length)) (.roI k b) := by
  rw [List.drop_zero, List.take_length]; exact VLe.refl _
/-- What a deed is answered, and how the disk then lies. -/
def doneP (d : DkF) (e : Dee) (r : AV) (h : List AO) : Prop := (errF d e = 0 ∧ r = int .i64 0 ∧ h = dkN (noteF d e)) ∨ (errF d e ≠ 0 ∧ r = int .i64 (errF d e) ∧ h = dkH d)


set_option maxHeartbeats 1000000 in
set_option maxRecDepth 10000 in
theorem write_p (d : DkF) (n : ByteArray) (b : List Int) (hs : sizeF d.now ≤ 2305843009213693952) (hb : b.length ≤ 140737488355328) (hl : d.deeds.length ≤ 100000) :
    ACalls Try.prog 19 [.ptr 0 0, str n, .roI .u8 b] (dkH d) (doneP d (.wr n b)) := by
  have hm := may_p n
  have hsz := size_prog d.now (by omega)
  have hg := get_fmV n d.now
  have hgl := size_del n d.now
  have hn := note_wr d n b hl
  have hc := clone_prog b hb
  have he : errF d (.wr n b) = if ¬ mayN n then 1 else if (sizeF d.now : Int) - ((getF n d.now).getD []).length + b.length > d.room then 5 else 0 := rfl
  unfold doneP
  generalize errF d (.wr n b) = E at *
  refine rcalls Try.func19 rfl (by decide) ?_
  refine ⟨[], _, hm, ?_⟩
  rintro r hh ⟨rfl, rfl⟩
  refine ⟨.inl rfl, ?_⟩
  refine ⟨fun c => ?_, fun c => ?_⟩
  · have f1 : ¬ mayN n := of_decide_eq_false (by revert c; cases decide (mayN n) <;> simp)
    rw [if_pos f1] at he
    exact ⟨[0, 1, 2, 3], dkH d, _, lehDk rfl rfl rfl rfl rfl rfl rfl rfl, leI rfl, .inr ⟨by omega, by rw [he], rfl⟩⟩
  have f1 : mayN n := of_decide_eq_true (by revert c; cases decide (mayN n) <;> simp)
  rw [if_neg (fun h => h f1)] at he
  obtain ⟨G, hG⟩ : ∃ G, getF n d.now = G := ⟨_, rfl⟩
  rw [hG] at hg hgl he
  cases G with
  | none =>
    have hgl : sizeF (delF n d.now) + 0 = sizeF d.now := hgl
    have he : E = if (sizeF d.now : Int) - (0 : Nat) + b.length > d.room then 5 else 0 := he
    refine .inr ⟨20, by decide +kernel, ?_⟩
    refine ⟨_, rfl, ?_⟩
    refine ⟨_, rfl, ?_⟩
    refine ⟨_, rfl, ?_⟩
    refine ⟨_, rfl, ?_⟩
    refine ⟨_, ⟨[1], _, fmVFree _, hsz, by rintro r h ⟨rfl, rfl⟩; exact ⟨.inl rfl, by simp only [ren_fmV], rfl⟩⟩, ?_⟩
    refine ⟨_, rfl, ?_⟩
    refine ⟨_, rfl, ?_⟩
    refine ⟨_, rfl, ?_⟩
    refine ⟨_, rfl, ?_⟩
    refine ⟨_, rfl, ?_⟩
    refine ⟨.raw (.slice none 0 0), ⟨fun v hv => (by rw [hg] at hv; cases hv), fun _ => rfl⟩, ?_⟩
    refine ⟨_, rfl, ?_⟩
    refine ⟨_, rfl, ?_⟩
    refine ⟨_, rfl, ?_⟩
    refine ⟨_, rfl, ?_⟩
    refine ⟨_, rfl, ?_⟩
    refine ⟨_, rfl, ?_⟩
    refine ⟨_, rfl, ?_⟩
    refine ⟨_, rfl, ?_⟩
    refine ⟨_, rfl, ?_⟩
    have w1 : IntKind.i64.wrap (IntKind.i64.wrap ((sizeF d.now : Int) - 0) + (b.length : Int)) = (sizeF d.now : Int) - (0 : Nat) + b.length := by rw [w64 (n := (sizeF d.now : Int) - 0) (by omega) (by omega), w64 (by omega) (by omega)]; omega
    refine ⟨fun c => ?_, fun c => ?_⟩
    · have f3 := yes c
      rw [w1] at f3
      rw [if_pos f3] at he
      exact ⟨[0, 1, 2, 3], dkH d, _, lehDk rfl rfl rfl rfl rfl rfl rfl rfl, leI rfl, .inr ⟨by omega, by rw [he], rfl⟩⟩
    have f3 := no c
    rw [w1] at f3
    rw [if_neg f3] at he
    refine ⟨[], _, hc, ?_⟩
    rintro r hh ⟨rfl, rfl⟩
    refine ⟨.inl rfl, ?_⟩
    refine ⟨[0, 1, 2, 3, 1004, 1005, 1006], _, Nat.le_of_eq (Nat.zero_add _), Nat.le_of_eq (Nat.zero_add _), fmVFree _, fmVFree _, fun i _ => rowPFree _ i, fourF (two trivial trivial) trivial trivial trivial, hn.args ⟨VLe.refl _, vagg (vfour (vclo (vtwo (vone ?_) (vone ?_))) vtt (VLe.refl _) ?_), trivial⟩, ?_⟩
    · exact vcut
    · exact VLe.refl _
    · exact vcut
    rintro r hh ⟨rfl, rfl⟩
    refine ⟨.inl rfl, ?_⟩
    exact ⟨[0, 1, 2, 3, 7], dkN (noteF d (.wr n b)), _, leh_rel (Nat.le_of_ble_eq_true rfl) (first4 rfl rfl rfl rfl) (by decide)
      ⟨⟨_, rfl, leDkA rfl rfl rfl rfl rfl⟩, ⟨_, rfl, leMap (by simp only [ren_fmV])⟩, ⟨_, rfl, leMap (by simp only [ren_fmV])⟩, ⟨_, rfl, .dead _⟩, ⟨_, rfl, leRowQ rfl (by simp only [ren_rowP])⟩, trivial⟩, leI rfl, .inl ⟨he, rfl, rfl⟩⟩
  | some x =>
    have hgl : sizeF (delF n d.now) + x.length = sizeF d.now := hgl
    have he : E = if (sizeF d.now : Int) - x.length + b.length > d.room then 5 else 0 := he
    refine .inr ⟨20, by decide +kernel, ?_⟩
    refine ⟨_, rfl, ?_⟩
    refine ⟨_, rfl, ?_⟩
    refine ⟨_, rfl, ?_⟩
    refine ⟨_, rfl, ?_⟩
    refine ⟨_, ⟨[1], _, fmVFree _, hsz, by rintro r h ⟨rfl, rfl⟩; exact ⟨.inl rfl, by simp only [ren_fmV], rfl⟩⟩, ?_⟩
    refine ⟨_, rfl, ?_⟩
    refine ⟨_, rfl, ?_⟩
    refine ⟨_, rfl, ?_⟩
    refine ⟨_, rfl, ?_⟩
    refine ⟨_, rfl, ?_⟩
    refine ⟨.roI .u8 x, ⟨fun v hv => (by rw [hg] at hv; exact (Option.some.inj hv).symm), fun hv => (by rw [hg] at hv; cases hv)⟩, ?_⟩
    refine ⟨_, rfl, ?_⟩
    refine ⟨_, rfl, ?_⟩
    refine ⟨_, rfl, ?_⟩
    refine ⟨_, rfl, ?_⟩
    refine ⟨_, rfl, ?_⟩
    refine ⟨_, rfl, ?_⟩
    refine ⟨_, rfl, ?_⟩
    refine ⟨_, rfl, ?_⟩
    refine ⟨_, rfl, ?_⟩
    have w1 : IntKind.i64.wrap (IntKind.i64.wrap ((sizeF d.now : Int) - x.length) + (b.length : Int)) = (sizeF d.now : Int) - x.length + b.length := by rw [w64 (n := (sizeF d.now : Int) - x.length) (by omega) (by omega), w64 (by omega) (by omega)]
    refine ⟨fun c => ?_, fun c => ?_⟩
    · have f3 := yes c
      rw [w1] at f3
      rw [if_pos f3] at he
      exact ⟨[0, 1, 2, 3], dkH d, _, lehDk rfl rfl rfl rfl rfl rfl rfl rfl, leI rfl, .inr ⟨by omega, by rw [he], rfl⟩⟩
    have f3 := no c
    rw [w1] at f3
    rw [if_neg f3] at he
    refine ⟨[], _, hc, ?_⟩
    rintro r hh ⟨rfl, rfl⟩
    refine ⟨.inl rfl, ?_⟩
    refine ⟨[0, 1, 2, 3, 1004, 1005, 1006], _, Nat.le_of_eq (Nat.zero_add _), Nat.le_of_eq (Nat.zero_add _), fmVFree _, fmVFree _, fun i _ => rowPFree _ i, fourF (two trivial trivial) trivial trivial trivial, hn.args ⟨VLe.refl _, vagg (vfour (vclo (vtwo (vone ?_) (vone ?_))) vtt (VLe.refl _) ?_), trivial⟩, ?_⟩
    · exact vcut
    · exact VLe.refl _
    · exact vcut
    rintro r hh ⟨rfl, rfl⟩
    refine ⟨.inl rfl, ?_⟩
    exact ⟨[0, 1, 2, 3, 7], dkN (noteF d (.wr n b)), _, leh_rel (Nat.le_of_ble_eq_true rfl) (first4 rfl rfl rfl rfl) (by decide)
      ⟨⟨_, rfl, leDkA rfl rfl rfl rfl rfl⟩, ⟨_, rfl, leMap (by simp only [ren_fmV])⟩, ⟨_, rfl, leMap (by simp only [ren_fmV])⟩, ⟨_, rfl, .dead _⟩, ⟨_, rfl, leRowQ rfl (by simp only [ren_rowP])⟩, trivial⟩, leI rfl, .inl ⟨he, rfl, rfl⟩⟩
end
end Go.Proofs.Ytflclafbieokiaa.Dk
