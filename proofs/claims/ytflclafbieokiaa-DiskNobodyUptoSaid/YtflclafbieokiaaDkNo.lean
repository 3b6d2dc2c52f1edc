/-
  The law DiskNobody, walked: a disk that is nil; what is handed in may be written over.
-/
import Derived.Test.YtflclafbieokiaaDkL3
set_option linter.unusedVariables false
set_option linter.unusedSectionVars false
set_option linter.unusedSimpArgs false
set_option maxRecDepth 10000
namespace Go.Proofs.Ytflclafbieokiaa.Dk
open Go AL Us
section
variable [Globs]

abbrev dkNil : AV := .raw (.pointer none)
theorem sync_nil : ACalls Try.prog 13 [dkNil] [] (fun r h => r = .top ∧ h = []) := by
  refine rcalls Try.func13 rfl (by decide) ?_
  exact ⟨[], [], .top, lehN _, .top _, rfl, rfl⟩
theorem crash_nil (a b : Int) : ACalls Try.prog 15 [dkNil, int .i64 a, int .i64 b] [] (fun r h => r = .top ∧ h = []) := by
  refine rcalls Try.func15 rfl (by decide) ?_
  exact ⟨[], [], .top, lehN _, .top _, rfl, rfl⟩
theorem get_nil (s : ByteArray) : ACalls Try.prog 18 [dkNil, str s] [] (fun r h => r = .tup 2 (pair (.raw (.slice none 0 0)) .ff) ∧ h = []) := by
  refine rcalls Try.func18 rfl (by decide) ?_
  exact ⟨[], [], .tup 2 (pair (.raw (.slice none 0 0)) .ff), lehN _, le_pair (.same _ trivial) (.same _ trivial), rfl, rfl⟩
theorem write_nil (s : ByteArray) (b : List Int) : ACalls Try.prog 19 [dkNil, str s, .roI .u8 b] [] (fun r h => r = int .i64 1 ∧ h = []) := by
  refine rcalls Try.func19 rfl (by decide) ?_
  exact ⟨[], [], _, lehN _, leI rfl, rfl, rfl⟩
theorem rename_nil (s t : ByteArray) : ACalls Try.prog 20 [dkNil, str s, str t] [] (fun r h => r = int .i64 1 ∧ h = []) := by
  refine rcalls Try.func20 rfl (by decide) ?_
  exact ⟨[], [], _, lehN _, leI rfl, rfl, rfl⟩
theorem remove_nil (s : ByteArray) : ACalls Try.prog 22 [dkNil, str s] [] (fun r h => r = int .i64 1 ∧ h = []) := by
  refine rcalls Try.func22 rfl (by decide) ?_
  exact ⟨[], [], _, lehN _, leI rfl, rfl, rfl⟩
theorem list_nil : ACalls Try.prog 23 [dkNil] [] (fun r h => r = .raw (.slice none 0 0) ∧ h = []) := by
  refine rcalls Try.func23 rfl (by decide) ?_
  exact ⟨[], [], _, lehN _, .same _ trivial, rfl, rfl⟩
theorem size_nil : ACalls Try.prog 21 [dkNil] [] (fun r h => r = int .i64 0 ∧ h = []) := by
  refine rcalls Try.func21 rfl (by decide) ?_
  exact ⟨[], [], _, lehN _, leI rfl, rfl, rfl⟩
theorem room_nil : ACalls Try.prog 27 [dkNil] [] (fun r h => r = int .i64 0 ∧ h = []) := by
  refine rcalls Try.func27 rfl (by decide) ?_
  exact ⟨[], [], _, lehN _, leI rfl, rfl, rfl⟩
theorem pending_nil : ACalls Try.prog 17 [dkNil] [] (fun r h => r = int .i64 0 ∧ h = []) := by
  refine rcalls Try.func17 rfl (by decide) ?_
  exact ⟨[], [], _, lehN _, leI rfl, rfl, rfl⟩

theorem first5 {l : List Nat} {a b c d e : Nat} (ha : a = 0) (hb : b = 1) (hc : c = 2) (hd : d = 3) (he : e = 4) : ∀ i, i < 5 → (a :: b :: c :: d :: e :: l)[i]? = some i := fun i hi => by
  subst ha hb hc hd he
  match i, hi with
  | 0, _ => rfl
  | 1, _ => rfl
  | 2, _ => rfl
  | 3, _ => rfl
  | 4, _ => rfl
/-- A disk behind a write of bytes that are the caller's. -/
abbrev dkB (d : DkF) (b : List Int) : List AO := [dkL d, .map (fmV d.now), .map (fmV d.synced), .row (d.deeds.length * 4) (rowP d.deeds), .ints .u8 b]
theorem dkB_eq {d : DkF} {b : List Int} {x y : List (ByteArray × AV)} {f : Nat → AV} {c : List Int} (hx : x = fmV d.now) (hy : y = fmV d.synced) (hf : f = rowP d.deeds) (hc : c = b) : [dkL d, .map x, .map y, .row (d.deeds.length * 4) f, .ints .u8 c] = dkB d b := by rw [hx, hy, hf, hc]
abbrev dkM (d : DkF) (b : List Int) : List AO := [dkA 1 2 5 d, .map (fmV d.now), .map (fmV d.synced), .dead, .ints .u8 b, .row (d.deeds.length * 4) (rowP d.deeds)]


set_option maxHeartbeats 1000000 in
set_option maxRecDepth 10000 in
theorem write_own (d : DkF) (n : ByteArray) (b : List Int) (hs : sizeF d.now ≤ 2305843009213693952) (hb : b.length ≤ 140737488355328) (hl : d.deeds.length ≤ 100000) :
    ACalls Try.prog 19 [.ptr 0 0, str n, .own 4 0 b.length 1] (dkB d b) (fun r h => (errF d (.wr n b) = 0 ∧ r = int .i64 0 ∧ h = dkM (noteF d (.wr n b)) b) ∨ (errF d (.wr n b) ≠ 0 ∧ r = int .i64 (errF d (.wr n b)) ∧ h = dkB d b)) := by
  have hm := may_p n
  have hsz := size_prog d.now (by omega)
  have hg := get_fmV n d.now
  have hgl := size_del n d.now
  have hn := note_wr d n b hl
  have hc : ACalls Try.prog 30 [.roI .u8 ((b.drop 0).take b.length)] [] (fun r h => r = .own 0 0 b.length 1 ∧ h = [.ints .u8 b]) := by
    rw [List.drop_zero, List.take_length]; exact clone_prog b hb
  have he : errF d (.wr n b) = if ¬ mayN n then 1 else if (sizeF d.now : Int) - ((getF n d.now).getD []).length + b.length > d.room then 5 else 0 := rfl
  generalize errF d (.wr n b) = E at *
  refine rcalls Try.func19 rfl (by decide) ?_
  refine ⟨[], _, hm, ?_⟩
  rintro r hh ⟨rfl, rfl⟩
  refine ⟨.inl rfl, ?_⟩
  refine ⟨fun c => ?_, fun c => ?_⟩
  · have f1 : ¬ mayN n := of_decide_eq_false (by revert c; cases decide (mayN n) <;> simp)
    rw [if_pos f1] at he
    exact ⟨[0, 1, 2, 3, 4], dkB d b, _, leh_rel (Nat.le_of_ble_eq_true rfl) (first5 rfl rfl rfl rfl rfl) (by decide)
      ⟨⟨_, rfl, leDkL rfl rfl rfl rfl rfl⟩, ⟨_, rfl, leMap (by first | rfl | simp only [ren_fmV])⟩, ⟨_, rfl, leMap (by first | rfl | simp only [ren_fmV])⟩, ⟨_, rfl, leRowQ rfl (by first | rfl | simp only [ren_rowP])⟩, ⟨_, rfl, leOint rfl⟩, trivial⟩, leI rfl, .inr ⟨by omega, by rw [he], rfl⟩⟩
  have f1 : mayN n := of_decide_eq_true (by revert c; cases decide (mayN n) <;> simp)
  rw [if_neg (fun h => h f1)] at he
  obtain ⟨G, hG⟩ : ∃ G, getF n d.now = G := ⟨_, rfl⟩
  rw [hG] at hg hgl he
  cases G with
  | none =>
    have hgl : sizeF (delF n d.now) + 0 = sizeF d.now := hgl
    have he : E = if (sizeF d.now : Int) - (0 : Nat) + b.length > d.room then 5 else 0 := he
    refine .inr ⟨20, by decide +kernel, ?_⟩
    refine ⟨_, rfl, ?_⟩
    refine ⟨_, rfl, ?_⟩
    refine ⟨_, rfl, ?_⟩
    refine ⟨_, rfl, ?_⟩
    refine ⟨_, ⟨[1], _, fmVFree _, hsz, by rintro r h ⟨rfl, rfl⟩; exact ⟨.inl rfl, by simp only [ren_fmV], rfl⟩⟩, ?_⟩
    refine ⟨_, rfl, ?_⟩
    refine ⟨_, rfl, ?_⟩
    refine ⟨_, rfl, ?_⟩
    refine ⟨_, rfl, ?_⟩
    refine ⟨_, rfl, ?_⟩
    refine ⟨.raw (.slice none 0 0), ⟨fun v hv => (by rw [hg] at hv; cases hv), fun _ => rfl⟩, ?_⟩
    refine ⟨_, rfl, ?_⟩
    refine ⟨_, rfl, ?_⟩
    refine ⟨_, rfl, ?_⟩
    refine ⟨_, rfl, ?_⟩
    refine ⟨_, rfl, ?_⟩
    refine ⟨_, rfl, ?_⟩
    refine ⟨_, rfl, ?_⟩
    refine ⟨_, rfl, ?_⟩
    refine ⟨_, rfl, ?_⟩
    have w1 : IntKind.i64.wrap (IntKind.i64.wrap ((sizeF d.now : Int) - 0) + (b.length : Int)) = (sizeF d.now : Int) - (0 : Nat) + b.length := by rw [w64 (n := (sizeF d.now : Int) - 0) (by omega) (by omega), w64 (by omega) (by omega)]; omega
    refine ⟨fun c => ?_, fun c => ?_⟩
    · have f3 := yes c
      rw [w1] at f3
      rw [if_pos f3] at he
      exact ⟨[0, 1, 2, 3, 4], dkB d b, _, leh_rel (Nat.le_of_ble_eq_true rfl) (first5 rfl rfl rfl rfl rfl) (by decide)
        ⟨⟨_, rfl, leDkL rfl rfl rfl rfl rfl⟩, ⟨_, rfl, leMap (by first | rfl | simp only [ren_fmV])⟩, ⟨_, rfl, leMap (by first | rfl | simp only [ren_fmV])⟩, ⟨_, rfl, leRowQ rfl (by first | rfl | simp only [ren_rowP])⟩, ⟨_, rfl, leOint rfl⟩, trivial⟩, leI rfl, .inr ⟨by omega, by rw [he], rfl⟩⟩
    have f3 := no c
    rw [w1] at f3
    rw [if_neg f3] at he
    refine ⟨[], _, by omega, hc, ?_⟩
    rintro r hh ⟨rfl, rfl⟩
    refine ⟨.inr ⟨trivial, fun o ho => (by rw [List.mem_singleton.1 ho]; exact trivial)⟩, ?_⟩
    refine ⟨[0, 1, 2, 3, 1005, 1006, 1007], _, Nat.le_of_eq (Nat.zero_add _), Nat.le_of_eq (Nat.zero_add _), fmVFree _, fmVFree _, fun i _ => rowPFree _ i, fourF (two trivial trivial) trivial trivial trivial, hn.args ⟨VLe.refl _, vagg (vfour (vclo (vtwo (vone ?_) (vone ?_))) vtt (VLe.refl _) ?_), trivial⟩, ?_⟩
    · exact vcut
    · exact VLe.refl _
    · exact vcut
    rintro r hh ⟨rfl, rfl⟩
    refine ⟨.inl rfl, ?_⟩
    exact ⟨[0, 1, 2, 3, 4, 8], dkM (noteF d (.wr n b)) b, _, leh_rel (Nat.le_of_ble_eq_true rfl) (first5 rfl rfl rfl rfl rfl) (by decide)
      ⟨⟨_, rfl, leDkA rfl rfl rfl rfl rfl⟩, ⟨_, rfl, leMap (by simp only [ren_fmV])⟩, ⟨_, rfl, leMap (by simp only [ren_fmV])⟩, ⟨_, rfl, .dead _⟩, ⟨_, rfl, leOint rfl⟩, ⟨_, rfl, leRowQ rfl (by simp only [ren_rowP])⟩, trivial⟩, leI rfl, .inl ⟨he, rfl, rfl⟩⟩
  | some x =>
    have hgl : sizeF (delF n d.now) + x.length = sizeF d.now := hgl
    have he : E = if (sizeF d.now : Int) - x.length + b.length > d.room then 5 else 0 := he
    refine .inr ⟨20, by decide +kernel, ?_⟩
    refine ⟨_, rfl, ?_⟩
    refine ⟨_, rfl, ?_⟩
    refine ⟨_, rfl, ?_⟩
    refine ⟨_, rfl, ?_⟩
    refine ⟨_, ⟨[1], _, fmVFree _, hsz, by rintro r h ⟨rfl, rfl⟩; exact ⟨.inl rfl, by simp only [ren_fmV], rfl⟩⟩, ?_⟩
    refine ⟨_, rfl, ?_⟩
    refine ⟨_, rfl, ?_⟩
    refine ⟨_, rfl, ?_⟩
    refine ⟨_, rfl, ?_⟩
    refine ⟨_, rfl, ?_⟩
    refine ⟨.roI .u8 x, ⟨fun v hv => (by rw [hg] at hv; exact (Option.some.inj hv).symm), fun hv => (by rw [hg] at hv; cases hv)⟩, ?_⟩
    refine ⟨_, rfl, ?_⟩
    refine ⟨_, rfl, ?_⟩
    refine ⟨_, rfl, ?_⟩
    refine ⟨_, rfl, ?_⟩
    refine ⟨_, rfl, ?_⟩
    refine ⟨_, rfl, ?_⟩
    refine ⟨_, rfl, ?_⟩
    refine ⟨_, rfl, ?_⟩
    refine ⟨_, rfl, ?_⟩
    have w1 : IntKind.i64.wrap (IntKind.i64.wrap ((sizeF d.now : Int) - x.length) + (b.length : Int)) = (sizeF d.now : Int) - x.length + b.length := by rw [w64 (n := (sizeF d.now : Int) - x.length) (by omega) (by omega), w64 (by omega) (by omega)]
    refine ⟨fun c => ?_, fun c => ?_⟩
    · have f3 := yes c
      rw [w1] at f3
      rw [if_pos f3] at he
      exact ⟨[0, 1, 2, 3, 4], dkB d b, _, leh_rel (Nat.le_of_ble_eq_true rfl) (first5 rfl rfl rfl rfl rfl) (by decide)
        ⟨⟨_, rfl, leDkL rfl rfl rfl rfl rfl⟩, ⟨_, rfl, leMap (by first | rfl | simp only [ren_fmV])⟩, ⟨_, rfl, leMap (by first | rfl | simp only [ren_fmV])⟩, ⟨_, rfl, leRowQ rfl (by first | rfl | simp only [ren_rowP])⟩, ⟨_, rfl, leOint rfl⟩, trivial⟩, leI rfl, .inr ⟨by omega, by rw [he], rfl⟩⟩
    have f3 := no c
    rw [w1] at f3
    rw [if_neg f3] at he
    refine ⟨[], _, by omega, hc, ?_⟩
    rintro r hh ⟨rfl, rfl⟩
    refine ⟨.inr ⟨trivial, fun o ho => (by rw [List.mem_singleton.1 ho]; exact trivial)⟩, ?_⟩
    refine ⟨[0, 1, 2, 3, 1005, 1006, 1007], _, Nat.le_of_eq (Nat.zero_add _), Nat.le_of_eq (Nat.zero_add _), fmVFree _, fmVFree _, fun i _ => rowPFree _ i, fourF (two trivial trivial) trivial trivial trivial, hn.args ⟨VLe.refl _, vagg (vfour (vclo (vtwo (vone ?_) (vone ?_))) vtt (VLe.refl _) ?_), trivial⟩, ?_⟩
    · exact vcut
    · exact VLe.refl _
    · exact vcut
    rintro r hh ⟨rfl, rfl⟩
    refine ⟨.inl rfl, ?_⟩
    exact ⟨[0, 1, 2, 3, 4, 8], dkM (noteF d (.wr n b)) b, _, leh_rel (Nat.le_of_ble_eq_true rfl) (first5 rfl rfl rfl rfl rfl) (by decide)
      ⟨⟨_, rfl, leDkA rfl rfl rfl rfl rfl⟩, ⟨_, rfl, leMap (by simp only [ren_fmV])⟩, ⟨_, rfl, leMap (by simp only [ren_fmV])⟩, ⟨_, rfl, .dead _⟩, ⟨_, rfl, leOint rfl⟩, ⟨_, rfl, leRowQ rfl (by simp only [ren_rowP])⟩, trivial⟩, leI rfl, .inl ⟨he, rfl, rfl⟩⟩


set_option maxHeartbeats 4000000 in
theorem nobody_p (name : ByteArray) (data : List Int) (hb : okB data) (hl : data.length ≤ 140737488355328) : ACalls Try.prog 8 [str name, .roI .u8 data] [] (fun r h => r = .tt ∧ h = []) := by
  have h0 := new_p 1048576
  have h1 := write_own (newF 1048576) ⟨#[120]⟩ data (by decide) hl (by decide)
  have hg0 : getF ⟨#[120]⟩ (newF 1048576).now = none := rfl
  have hg1 : getF ⟨#[120]⟩ (noteF (newF 1048576) (.wr ⟨#[120]⟩ data)).now = some data := get_set_same _ _ _
  have k0 := get_p (newF 1048576) ⟨#[120]⟩ (fun v hv => by rw [hg0] at hv; cases hv)
  have k1 := get_p (noteF (newF 1048576) (.wr ⟨#[120]⟩ data)) ⟨#[120]⟩ (fun v hv => by rw [hg1] at hv; cases hv; exact hl)
  have m0 := get_ro (newF 1048576) ⟨#[120]⟩ (fun v hv => by rw [hg0] at hv; cases hv)
  have m1 := get_ro (noteF (newF 1048576) (.wr ⟨#[120]⟩ data)) ⟨#[120]⟩ (fun v hv => by rw [hg1] at hv; cases hv; exact hl)
  rw [hg0] at k0 m0
  rw [hg1] at k1 m1
  clear hg0 hg1
  generalize errF (newF 1048576) (.wr ⟨#[120]⟩ data) = E at *
  generalize noteF (newF 1048576) (.wr ⟨#[120]⟩ data) = D1 at *
  generalize newF 1048576 = D0 at *
  refine rcalls Try.func8 rfl (by decide) ?_
  refine ⟨[], _, dk_awake, ?_⟩
  rintro r hh ⟨rfl, rfl⟩
  refine ⟨.inl rfl, ?_⟩
  refine ⟨[], _, sync_nil, ?_⟩
  rintro r hh ⟨rfl, rfl⟩
  refine ⟨.inl rfl, ?_⟩
  refine ⟨[], _, crash_nil 1 1, ?_⟩
  rintro r hh ⟨rfl, rfl⟩
  refine ⟨.inl rfl, ?_⟩
  refine ⟨[], _, get_nil name, ?_⟩
  rintro r hh ⟨rfl, rfl⟩
  refine ⟨.inl rfl, ?_⟩
  refine ⟨[], _, h0, ?_⟩
  rintro r hh ⟨rfl, rfl⟩
  refine ⟨.inl rfl, ?_⟩
  refine ⟨rfl, by show (0 + data.length) * 1 ≤ _; omega, ?_⟩
  have h1' : ACalls Try.prog 19 [.ptr 0 0, str ⟨#[120]⟩, .own 4 0 (0 + data.length) 1] (dkB D0 data) (fun r h => (E = 0 ∧ r = int .i64 0 ∧ h = dkM D1 data) ∨ (E ≠ 0 ∧ r = int .i64 E ∧ h = dkB D0 data)) := by rw [Nat.zero_add]; exact h1
  refine ⟨[0, 1, 2, 3, 5], _, (by (try simp only [ren_fmV]); exact fmVFree _), (by (try simp only [ren_fmV]); exact fmVFree _), (by (try simp only [ren_rowP]); exact fun i _ => rowPFree _ i), at_h ?_ h1', ?_⟩
  · exact dkB_eq (by first | simp only [ren_fmV] | rfl) (by first | simp only [ren_fmV] | rfl) (by first | simp only [ren_rowP] | rfl) (List.nil_append _)
  rintro r hh (⟨he, rfl, rfl⟩ | ⟨he, rfl, rfl⟩)
  · refine ⟨.inl rfl, ?_⟩
    refine ⟨Nat × List Int, fun x => [(0, str name), (1, .roI .u8 data), (5, .tt), (6, dkNil), (8, .ff), (9, .ptr 0 0), (10, .own 4 0 data.length 1), (11, int .i64 0), (12, int .i64 (x.1 : Int))],
      fun x => dkH D1 ++ [.ints .u8 x.2], fun x => x.1 ≤ data.length ∧ x.2.length = data.length, fun x => data.length - x.1,
      ⟨(0, _), [0, 1, 2, 6, 5], ⟨Nat.zero_le _, rfl⟩, ?_, ?_⟩, ?_⟩
    · exact leh_relG (by decide) ⟨.inl ⟨_, rfl, leDkL rfl rfl rfl rfl rfl⟩, .inl ⟨_, rfl, leMap (by simp only [ren_fmV])⟩, .inl ⟨_, rfl, leMap (by simp only [ren_fmV])⟩, .inl ⟨_, rfl, leRowQ rfl (by simp only [ren_rowP])⟩, .inl ⟨_, rfl, leOint rfl⟩, trivial⟩
    · exact ⟨.same _ trivial, .same _ trivial, .same _ trivial, .same _ trivial, .same _ trivial, .ptr 0 rfl, leOwn rfl rfl (Nat.zero_add _), leI rfl, leI rfl, trivial⟩
    rintro ⟨i, ys⟩ ⟨hi, hy⟩
    have hi : i ≤ data.length := hi
    have hy : ys.length = data.length := hy
    have e1 : IntKind.i64.wrap ((i : Int) + 1) = ((i + 1 : Nat) : Int) := by rw [w64 (by omega) (by omega)]; omega
    refine ⟨fun c => ?_, fun c => ?_⟩
    · have f1 : (i : Int) < data.length := yes c
      refine ⟨⟨by omega, by omega⟩, by show addOff 0 (i : Int).toNat 1 < ys.length; unfold addOff; omega, ⟨by omega, by omega⟩, by show addOff 0 (i : Int).toNat 1 < ys.length; unfold addOff; omega, ?_⟩
      exact ⟨trivial, (i + 1, _), [0, 1, 2, 3, 4], ⟨by show i + 1 ≤ data.length; omega, by simp [hy]⟩, by show data.length - (i + 1) < data.length - i; omega,
        leh_relG (by decide) ⟨.inl ⟨_, rfl, leDkL rfl rfl rfl rfl rfl⟩, .inl ⟨_, rfl, leMap (by first | rfl | simp only [ren_fmV])⟩, .inl ⟨_, rfl, leMap (by first | rfl | simp only [ren_fmV])⟩, .inl ⟨_, rfl, leRowQ rfl (by first | rfl | simp only [ren_rowP])⟩, .inl ⟨_, rfl, leOint rfl⟩, trivial⟩,
        ⟨.same _ trivial, .same _ trivial, .same _ trivial, .same _ trivial, .same _ trivial, .ptr 0 rfl, leOwn rfl rfl rfl, leI rfl, leI e1, trivial⟩⟩
    have f1 : ¬ (i : Int) < data.length := no c
    refine ⟨[0, 1, 2, 3], _, (by (try simp only [ren_fmV]); exact fmVFree _), (by (try simp only [ren_fmV]); exact fmVFree _), (by (try simp only [ren_rowP]); exact fun i _ => rowPFree _ i), at_h ?_ (k1), ?_⟩
    · exact dkH_eq (by first | simp only [ren_fmV] | rfl) (by first | simp only [ren_fmV] | rfl) (by first | simp only [ren_rowP] | rfl)
    rintro r hh ⟨xs, hxs, rfl, rfl⟩
    refine ⟨.inl rfl, ?_⟩
    have hxl : xs.length ≤ data.length := by rw [hxs]; first | exact Nat.le_refl _ | exact Nat.zero_le _
    clear hxs
    refine ⟨Nat × List Int, fun x => [(0, str name), (1, .roI .u8 data), (5, .tt), (6, dkNil), (8, .ff), (9, .ptr 0 0), (11, int .i64 0), (13, .own 4 0 xs.length 1), (15, int .i64 (x.1 : Int))],
      fun x => dkH D1 ++ [.ints .u8 x.2], fun x => x.1 ≤ xs.length ∧ x.2.length = xs.length, fun x => xs.length - x.1,
      ⟨(0, _), [0, 1, 2, 3, 5], ⟨Nat.zero_le _, rfl⟩, ?_, ?_⟩, ?_⟩
    · exact leh_relG (by decide) ⟨.inl ⟨_, rfl, leDkL rfl rfl rfl rfl rfl⟩, .inl ⟨_, rfl, leMap (by simp only [ren_fmV])⟩, .inl ⟨_, rfl, leMap (by simp only [ren_fmV])⟩, .inl ⟨_, rfl, leRowQ rfl (by simp only [ren_rowP])⟩, .inl ⟨_, rfl, leOint rfl⟩, trivial⟩
    · exact ⟨.same _ trivial, .same _ trivial, .same _ trivial, .same _ trivial, .same _ trivial, .ptr 0 rfl, leI rfl, leOwn rfl rfl rfl, leI rfl, trivial⟩
    rintro ⟨j, zs⟩ ⟨hj, hz⟩
    have hj : j ≤ xs.length := hj
    have hz : zs.length = xs.length := hz
    have e2 : IntKind.i64.wrap ((j : Int) + 1) = ((j + 1 : Nat) : Int) := by rw [w64 (by omega) (by omega)]; omega
    refine ⟨fun c => ?_, fun c => ?_⟩
    · have f2 : (j : Int) < xs.length := yes c
      refine ⟨⟨by omega, by omega⟩, by show addOff 0 (j : Int).toNat 1 < zs.length; unfold addOff; omega, ⟨by omega, by omega⟩, by show addOff 0 (j : Int).toNat 1 < zs.length; unfold addOff; omega, ?_⟩
      exact ⟨trivial, (j + 1, _), [0, 1, 2, 3, 4], ⟨by show j + 1 ≤ xs.length; omega, by simp [hz]⟩, by show xs.length - (j + 1) < xs.length - j; omega,
        leh_relG (by decide) ⟨.inl ⟨_, rfl, leDkL rfl rfl rfl rfl rfl⟩, .inl ⟨_, rfl, leMap (by first | rfl | simp only [ren_fmV])⟩, .inl ⟨_, rfl, leMap (by first | rfl | simp only [ren_fmV])⟩, .inl ⟨_, rfl, leRowQ rfl (by first | rfl | simp only [ren_rowP])⟩, .inl ⟨_, rfl, leOint rfl⟩, trivial⟩,
        ⟨.same _ trivial, .same _ trivial, .same _ trivial, .same _ trivial, .same _ trivial, .ptr 0 rfl, leI rfl, leOwn rfl rfl rfl, leI e2, trivial⟩⟩
    have f2 : ¬ (j : Int) < xs.length := no c
    refine ⟨[0, 1, 2, 3], _, (by (try simp only [ren_fmV]); exact fmVFree _), (by (try simp only [ren_fmV]); exact fmVFree _), (by (try simp only [ren_rowP]); exact fun i _ => rowPFree _ i), at_h ?_ (m1), ?_⟩
    · exact dkH_eq (by first | simp only [ren_fmV] | rfl) (by first | simp only [ren_fmV] | rfl) (by first | simp only [ren_rowP] | rfl)
    rintro r hh ⟨rfl, rfl⟩
    refine ⟨.inl rfl, ?_⟩
    refine ⟨[], _, write_nil name data, ?_⟩
    rintro r hh ⟨rfl, rfl⟩
    refine ⟨.inl rfl, ?_⟩
    refine ⟨fun _ => ?_, fun e => absurd rfl (no e)⟩
    refine ⟨[], _, rename_nil name name, ?_⟩
    rintro r hh ⟨rfl, rfl⟩
    refine ⟨.inl rfl, ?_⟩
    refine ⟨fun _ => ?_, fun e => absurd rfl (no e)⟩
    refine ⟨[], _, remove_nil name, ?_⟩
    rintro r hh ⟨rfl, rfl⟩
    refine ⟨.inl rfl, ?_⟩
    refine ⟨fun _ => ?_, fun e => absurd rfl (no e)⟩
    refine ⟨[], _, list_nil, ?_⟩
    rintro r hh ⟨rfl, rfl⟩
    refine ⟨.inl rfl, ?_⟩
    refine ⟨fun _ => ?_, fun e => absurd rfl (no e)⟩
    refine ⟨[], _, size_nil, ?_⟩
    rintro r hh ⟨rfl, rfl⟩
    refine ⟨.inl rfl, ?_⟩
    refine ⟨fun _ => ?_, fun e => absurd rfl (no e)⟩
    refine ⟨[], _, room_nil, ?_⟩
    rintro r hh ⟨rfl, rfl⟩
    refine ⟨.inl rfl, ?_⟩
    refine ⟨fun _ => ?_, fun e => absurd rfl (no e)⟩
    refine ⟨[], _, pending_nil, ?_⟩
    rintro r hh ⟨rfl, rfl⟩
    refine ⟨.inl rfl, ?_⟩
    refine ⟨fun _ => ?_, fun e => absurd rfl (no e)⟩
    refine ⟨fun c => absurd rfl (yes c), fun _ => ?_⟩
    exact ⟨[], [], .tt, lehN _, leTT (decide_eq_true rfl), rfl, rfl⟩
  · refine ⟨.inl rfl, ?_⟩
    refine ⟨Nat × List Int, fun x => [(0, str name), (1, .roI .u8 data), (5, .tt), (6, dkNil), (8, .ff), (9, .ptr 0 0), (10, .own 4 0 data.length 1), (11, int .i64 E), (12, int .i64 (x.1 : Int))],
      fun x => dkH D0 ++ [.ints .u8 x.2], fun x => x.1 ≤ data.length ∧ x.2.length = data.length, fun x => data.length - x.1,
      ⟨(0, _), [0, 1, 2, 3, 5], ⟨Nat.zero_le _, rfl⟩, ?_, ?_⟩, ?_⟩
    · exact leh_relG (by decide) ⟨.inl ⟨_, rfl, leDkL rfl rfl rfl rfl rfl⟩, .inl ⟨_, rfl, leMap (by simp only [ren_fmV])⟩, .inl ⟨_, rfl, leMap (by simp only [ren_fmV])⟩, .inl ⟨_, rfl, leRowQ rfl (by simp only [ren_rowP])⟩, .inl ⟨_, rfl, leOint rfl⟩, trivial⟩
    · exact ⟨.same _ trivial, .same _ trivial, .same _ trivial, .same _ trivial, .same _ trivial, .ptr 0 rfl, leOwn rfl rfl (Nat.zero_add _), leI rfl, leI rfl, trivial⟩
    rintro ⟨i, ys⟩ ⟨hi, hy⟩
    have hi : i ≤ data.length := hi
    have hy : ys.length = data.length := hy
    have e1 : IntKind.i64.wrap ((i : Int) + 1) = ((i + 1 : Nat) : Int) := by rw [w64 (by omega) (by omega)]; omega
    refine ⟨fun c => ?_, fun c => ?_⟩
    · have f1 : (i : Int) < data.length := yes c
      refine ⟨⟨by omega, by omega⟩, by show addOff 0 (i : Int).toNat 1 < ys.length; unfold addOff; omega, ⟨by omega, by omega⟩, by show addOff 0 (i : Int).toNat 1 < ys.length; unfold addOff; omega, ?_⟩
      exact ⟨trivial, (i + 1, _), [0, 1, 2, 3, 4], ⟨by show i + 1 ≤ data.length; omega, by simp [hy]⟩, by show data.length - (i + 1) < data.length - i; omega,
        leh_relG (by decide) ⟨.inl ⟨_, rfl, leDkL rfl rfl rfl rfl rfl⟩, .inl ⟨_, rfl, leMap (by first | rfl | simp only [ren_fmV])⟩, .inl ⟨_, rfl, leMap (by first | rfl | simp only [ren_fmV])⟩, .inl ⟨_, rfl, leRowQ rfl (by first | rfl | simp only [ren_rowP])⟩, .inl ⟨_, rfl, leOint rfl⟩, trivial⟩,
        ⟨.same _ trivial, .same _ trivial, .same _ trivial, .same _ trivial, .same _ trivial, .ptr 0 rfl, leOwn rfl rfl rfl, leI rfl, leI e1, trivial⟩⟩
    have f1 : ¬ (i : Int) < data.length := no c
    refine ⟨[0, 1, 2, 3], _, (by (try simp only [ren_fmV]); exact fmVFree _), (by (try simp only [ren_fmV]); exact fmVFree _), (by (try simp only [ren_rowP]); exact fun i _ => rowPFree _ i), at_h ?_ (k0), ?_⟩
    · exact dkH_eq (by first | simp only [ren_fmV] | rfl) (by first | simp only [ren_fmV] | rfl) (by first | simp only [ren_rowP] | rfl)
    rintro r hh ⟨xs, hxs, rfl, rfl⟩
    refine ⟨.inl rfl, ?_⟩
    have hxl : xs.length ≤ data.length := by rw [hxs]; first | exact Nat.le_refl _ | exact Nat.zero_le _
    clear hxs
    refine ⟨Nat × List Int, fun x => [(0, str name), (1, .roI .u8 data), (5, .tt), (6, dkNil), (8, .ff), (9, .ptr 0 0), (11, int .i64 E), (13, .own 4 0 xs.length 1), (15, int .i64 (x.1 : Int))],
      fun x => dkH D0 ++ [.ints .u8 x.2], fun x => x.1 ≤ xs.length ∧ x.2.length = xs.length, fun x => xs.length - x.1,
      ⟨(0, _), [0, 1, 2, 3, 5], ⟨Nat.zero_le _, rfl⟩, ?_, ?_⟩, ?_⟩
    · exact leh_relG (by decide) ⟨.inl ⟨_, rfl, leDkL rfl rfl rfl rfl rfl⟩, .inl ⟨_, rfl, leMap (by simp only [ren_fmV])⟩, .inl ⟨_, rfl, leMap (by simp only [ren_fmV])⟩, .inl ⟨_, rfl, leRowQ rfl (by simp only [ren_rowP])⟩, .inl ⟨_, rfl, leOint rfl⟩, trivial⟩
    · exact ⟨.same _ trivial, .same _ trivial, .same _ trivial, .same _ trivial, .same _ trivial, .ptr 0 rfl, leI rfl, leOwn rfl rfl rfl, leI rfl, trivial⟩
    rintro ⟨j, zs⟩ ⟨hj, hz⟩
    have hj : j ≤ xs.length := hj
    have hz : zs.length = xs.length := hz
    have e2 : IntKind.i64.wrap ((j : Int) + 1) = ((j + 1 : Nat) : Int) := by rw [w64 (by omega) (by omega)]; omega
    refine ⟨fun c => ?_, fun c => ?_⟩
    · have f2 : (j : Int) < xs.length := yes c
      refine ⟨⟨by omega, by omega⟩, by show addOff 0 (j : Int).toNat 1 < zs.length; unfold addOff; omega, ⟨by omega, by omega⟩, by show addOff 0 (j : Int).toNat 1 < zs.length; unfold addOff; omega, ?_⟩
      exact ⟨trivial, (j + 1, _), [0, 1, 2, 3, 4], ⟨by show j + 1 ≤ xs.length; omega, by simp [hz]⟩, by show xs.length - (j + 1) < xs.length - j; omega,
        leh_relG (by decide) ⟨.inl ⟨_, rfl, leDkL rfl rfl rfl rfl rfl⟩, .inl ⟨_, rfl, leMap (by first | rfl | simp only [ren_fmV])⟩, .inl ⟨_, rfl, leMap (by first | rfl | simp only [ren_fmV])⟩, .inl ⟨_, rfl, leRowQ rfl (by first | rfl | simp only [ren_rowP])⟩, .inl ⟨_, rfl, leOint rfl⟩, trivial⟩,
        ⟨.same _ trivial, .same _ trivial, .same _ trivial, .same _ trivial, .same _ trivial, .ptr 0 rfl, leI rfl, leOwn rfl rfl rfl, leI e2, trivial⟩⟩
    have f2 : ¬ (j : Int) < xs.length := no c
    refine ⟨[0, 1, 2, 3], _, (by (try simp only [ren_fmV]); exact fmVFree _), (by (try simp only [ren_fmV]); exact fmVFree _), (by (try simp only [ren_rowP]); exact fun i _ => rowPFree _ i), at_h ?_ (m0), ?_⟩
    · exact dkH_eq (by first | simp only [ren_fmV] | rfl) (by first | simp only [ren_fmV] | rfl) (by first | simp only [ren_rowP] | rfl)
    rintro r hh ⟨rfl, rfl⟩
    refine ⟨.inl rfl, ?_⟩
    refine ⟨[], _, write_nil name data, ?_⟩
    rintro r hh ⟨rfl, rfl⟩
    refine ⟨.inl rfl, ?_⟩
    refine ⟨fun _ => ?_, fun e => absurd rfl (no e)⟩
    refine ⟨[], _, rename_nil name name, ?_⟩
    rintro r hh ⟨rfl, rfl⟩
    refine ⟨.inl rfl, ?_⟩
    refine ⟨fun _ => ?_, fun e => absurd rfl (no e)⟩
    refine ⟨[], _, remove_nil name, ?_⟩
    rintro r hh ⟨rfl, rfl⟩
    refine ⟨.inl rfl, ?_⟩
    refine ⟨fun _ => ?_, fun e => absurd rfl (no e)⟩
    refine ⟨[], _, list_nil, ?_⟩
    rintro r hh ⟨rfl, rfl⟩
    refine ⟨.inl rfl, ?_⟩
    refine ⟨fun _ => ?_, fun e => absurd rfl (no e)⟩
    refine ⟨[], _, size_nil, ?_⟩
    rintro r hh ⟨rfl, rfl⟩
    refine ⟨.inl rfl, ?_⟩
    refine ⟨fun _ => ?_, fun e => absurd rfl (no e)⟩
    refine ⟨[], _, room_nil, ?_⟩
    rintro r hh ⟨rfl, rfl⟩
    refine ⟨.inl rfl, ?_⟩
    refine ⟨fun _ => ?_, fun e => absurd rfl (no e)⟩
    refine ⟨[], _, pending_nil, ?_⟩
    rintro r hh ⟨rfl, rfl⟩
    refine ⟨.inl rfl, ?_⟩
    refine ⟨fun _ => ?_, fun e => absurd rfl (no e)⟩
    refine ⟨fun c => ?_, fun c => ?_⟩
    · exact ⟨[], [], .tt, lehN _, LeV.same _ trivial, rfl, rfl⟩
    · exact absurd he (no c)
end
end Go.Proofs.Ytflclafbieokiaa.Dk
