import Derived.Laws.BitsLemmas
import Derived.Test.YtkchfbnkdpdbkaaDoorRows
import Derived.Test.YtkchfbnkdpdbkaaDoorFwD
import Derived.Test.YtkchfbnkdpdbkaaDoorBua

/-
  The contract of the document's header.
-/
set_option linter.unusedVariables false
set_option linter.unusedSimpArgs false
set_option linter.unusedSectionVars false
namespace Go.Proofs.YtkchfbnkdpdbkaaDoor.Hd
open Go AL Oc Pa
section
variable [Globs]

theorem cat_ref (s : ByteArray) (n : Int) : ((((((((((((((((([] ++ textR (nameS s) 100) ++ putR 420 8) ++ putR 0 8) ++ putR 0 8) ++ putR n 12) ++ putR 0 12) ++ textR ⟨#[32, 32, 32, 32, 32, 32, 32, 32]⟩ 8) ++ textR flagS 1) ++ textR emp 100) ++ textR ustarS 6) ++ textR zzS 2) ++ textR emp 32) ++ textR emp 32) ++ putR 0 8) ++ putR 0 8) ++ textR (preS s) 155) ++ textR emp 12) = headB s n (textR ⟨#[32, 32, 32, 32, 32, 32, 32, 32]⟩ 8) := by
  unfold headB headZ headY headA
  simp only [List.append_assoc, List.nil_append]
def rowJ (B S : List Int) (j : Nat) : List Int := B.take 148 ++ S.take j ++ B.drop (148 + j)
theorem rowJ_len {B S : List Int} {j : Nat} (hb : B.length = 512) (hs : S.length = 8) (hj : j ≤ 8) : (rowJ B S j).length = 512 := by
  unfold rowJ
  simp only [List.length_append, List.length_take, List.length_drop]
  omega
theorem rowJ_set {B S : List Int} {j : Nat} (hb : B.length = 512) (hs : S.length = 8) (hj : j < 8) : (rowJ B S j).set (148 + j) (S.getD j 0) = rowJ B S (j + 1) := by
  unfold rowJ
  have e1 : (B.take 148 ++ S.take j).length = 148 + j := by simp only [List.length_append, List.length_take]; omega
  have e2 : B.drop (148 + j) = B[148 + j]'(by omega) :: B.drop (148 + j + 1) := List.drop_eq_getElem_cons (by omega)
  rw [List.set_append_right _ _ (by omega), e1, Nat.sub_self, e2, List.set_cons_zero]
  have e3 : S.take (j + 1) = S.take j ++ [S.getD j 0] := by
    rw [List.take_add_one, List.getD_eq_getElem?_getD, List.getElem?_eq_getElem (by omega)]; rfl
  rw [e3]
  simp [Nat.add_assoc]
theorem own_text7 (s : ByteArray) (w : Int) (hs : s.size ≤ 9223372036854775806) (hw : (textR s w).length ≤ 1000) (xs : List Int) (hx : xs.length ≤ 1000000) : ACalls Tryd.prog 45 [.roI .u8 ((xs.drop 0).take xs.length), str s, int .i64 w] []
    (fun r h => r = .own 0 0 (xs ++ textR s w).length 1 ∧ h = [.ints .u8 (xs ++ textR s w)]) := by
  rw [List.drop_zero, List.take_length]; exact text7_ref xs s w hs hx hw
theorem own_num7 (n w : Int) (hn : n < 9223372036854775808) (hw : (putR n w).length ≤ 1000) (xs : List Int) (hx : xs.length ≤ 1000000) : ACalls Tryd.prog 46 [.roI .u8 ((xs.drop 0).take xs.length), int .i64 n, int .i64 w] []
    (fun r h => r = .own 0 0 (xs ++ putR n w).length 1 ∧ h = [.ints .u8 (xs ++ putR n w)]) := by
  rw [List.drop_zero, List.take_length]; exact num7_ref xs n w hn hx hw

theorem nil_text7 (s : ByteArray) (w : Int) (hs : s.size ≤ 9223372036854775806) (hw : (textR s w).length ≤ 1000) : ACalls Tryd.prog 45 [.raw (.slice none 0 0), str s, int .i64 w] []
    (fun r h => r = .own 0 0 ([] ++ textR s w).length 1 ∧ h = [.ints .u8 ([] ++ textR s w)]) :=
  (text7_ref [] s w hs (by decide) hw).args ⟨vnil .u8, .refl _, .refl _, trivial⟩
theorem nil_num7 (n w : Int) (hn : n < 9223372036854775808) (hw : (putR n w).length ≤ 1000) : ACalls Tryd.prog 46 [.raw (.slice none 0 0), int .i64 n, int .i64 w] []
    (fun r h => r = .own 0 0 ([] ++ putR n w).length 1 ∧ h = [.ints .u8 ([] ++ putR n w)]) :=
  (num7_ref [] n w hn (by decide) hw).args ⟨vnil .u8, .refl _, .refl _, trivial⟩

set_option maxHeartbeats 4000000 in
set_option maxRecDepth 10000 in
theorem put_rhead (s : ByteArray) (n : Int) (hs : s.size ≤ 9223372036854775805) : ACalls Tryd.prog 22 [str s, int .i64 n] [] (HPutR s n) := by
  have hsp := split_ref s hs
  unfold SplitR at hsp
  have herr : ¬ okHd s n → headR s n = [] := fun h => if_neg h
  have hE : ¬ errS s = 0 → errS s = headE s n := fun h => by
    have : ¬ okSplit s := fun g => h (if_pos g)
    unfold errS headE; rw [if_neg this, if_pos this]
  have hO : errS s = 0 → okSplit s := fun h => Classical.byContradiction fun g => by unfold errS at h; rw [if_neg g] at h; omega
  have hover : errS s = 0 → (n < 0 ∨ n > 4194304) → headE s n = 8 := fun h g => by unfold headE; rw [if_neg fun x => x (hO h), if_pos g]
  have hgood : errS s = 0 → ¬ (n < 0 ∨ n > 4194304) → okHd s n := fun h g => ⟨hO h, by omega, by omega⟩
  have bad : ∀ h, ¬ okHd s n → ∀ e, e = headE s n → ∃ l h1 b, LeH 0 h l h1 ∧ LeV h l (.tup 2 fun i => [.raw (.slice none 0 0), int .i64 e].getD i .top) b ∧ HPutR s n b h1 := fun h g e he => by
    unfold HPutR; rw [herr g, he]
    exact ⟨[h.length], [.ints .u8 []], _, lehE (Nat.le_refl _) .u8, le_pair (.nil 0 1 (by simp)) (leI rfl), rfl, rfl⟩
  refine rcalls Tryd.func22 rfl (by decide) ?_
  refine ⟨[], _, hsp, ?_⟩
  rintro r hh ⟨rfl, rfl⟩
  refine ⟨.inl rfl, ?_⟩
  refine ⟨fun c1 => ?_, fun c1 => ?_⟩
  · exact bad _ (fun h => yes c1 (if_pos h.1)) _ (hE (yes c1))
  have f1 : errS s = 0 := Classical.byContradiction fun x => no c1 x
  refine ⟨fun c2 => ?_, fun c2 => ?_⟩
  · have f2 : n < 0 := yes c2
    exact bad _ (fun h => by have := h.2.1; omega) _ (hover f1 (.inl f2)).symm
  have f2 : ¬ n < 0 := no c2
  refine ⟨fun c3 => ?_, fun c3 => ?_⟩
  · have f3 : n > 4194304 := yes c3
    exact bad _ (fun h => by have := h.2.2; omega) _ (hover f1 (.inr f3)).symm
  have f3 : ¬ n > 4194304 := no c3
  have ok := hgood f1 (by omega)
  obtain ⟨e0, l0, e1, l1, e2, l2, e3, l3, e4, l4, e5, l5, e6, l6, e7, l7, e8, l8, e9, l9, e10, l10, e11, l11, e12, l12, e13, l13, e14, l14, e15, l15, e16, l16⟩ := flds ok
  obtain ⟨p1, p2⟩ := pre_size ok.1
  have m6 : (textR ⟨#[32, 32, 32, 32, 32, 32, 32, 32]⟩ 8).length = 8 := by decide +kernel
  have hcat := cat_ref s n
  have r6 := q_text ⟨#[32, 32, 32, 32, 32, 32, 32, 32]⟩ 8
  have hE0 : headE s n = 0 := headE_iff.2 ok
  have k0 := nil_text7 (nameS s) 100 (by omega) (by omega)
  have k1 := own_num7 420 8 (by omega) (by omega)
  have k2 := own_num7 0 8 (by omega) (by omega)
  have k3 := own_num7 0 8 (by omega) (by omega)
  have k4 := own_num7 n 12 (by omega) (by omega)
  have k5 := own_num7 0 12 (by omega) (by omega)
  have k6 := own_text7 ⟨#[32, 32, 32, 32, 32, 32, 32, 32]⟩ 8 (by decide) (by omega)
  have k7 := own_text7 flagS 1 (by decide) (by omega)
  have k8 := own_text7 emp 100 (by decide) (by omega)
  have k9 := own_text7 ustarS 6 (by decide) (by omega)
  have k10 := own_text7 zzS 2 (by decide) (by omega)
  have k11 := own_text7 emp 32 (by decide) (by omega)
  have k12 := own_text7 emp 32 (by decide) (by omega)
  have k13 := own_num7 0 8 (by omega) (by omega)
  have k14 := own_num7 0 8 (by omega) (by omega)
  have k15 := own_text7 (preS s) 155 (by omega) (by omega)
  have k16 := own_text7 emp 12 (by decide) (by omega)
  clear l6 e6
  have l6 := m6
  generalize textR (nameS s) 100 = F0 at *
  generalize putR 420 8 = F1 at *
  generalize putR 0 8 = F2 at *
  generalize putR n 12 = F4 at *
  generalize putR 0 12 = F5 at *
  generalize textR ⟨#[32, 32, 32, 32, 32, 32, 32, 32]⟩ 8 = F6 at *
  generalize textR flagS 1 = F7 at *
  generalize textR emp 100 = F8 at *
  generalize textR ustarS 6 = F9 at *
  generalize textR zzS 2 = F10 at *
  generalize textR emp 32 = F11 at *
  generalize textR (preS s) 155 = F15 at *
  generalize textR emp 12 = F16 at *
  refine ⟨[], _, k0, ?_⟩
  rintro r hh ⟨rfl, rfl⟩
  refine ⟨.inl rfl, ?_⟩
  refine ⟨[], _, by omega, k1 _ (by simp only [List.length_append, List.length_nil, l0, l1, l2, l4, l5, l6, l7, l8, l9, l10, l11, l15, l16]; decide), ?_⟩
  rintro r hh ⟨rfl, rfl⟩
  refine ⟨.inr ⟨trivial, fun o ho => by obtain rfl := List.mem_singleton.1 ho; trivial⟩, ?_⟩
  refine ⟨[], _, by omega, k2 _ (by simp only [List.length_append, List.length_nil, l0, l1, l2, l4, l5, l6, l7, l8, l9, l10, l11, l15, l16]; decide), ?_⟩
  rintro r hh ⟨rfl, rfl⟩
  refine ⟨.inr ⟨trivial, fun o ho => by obtain rfl := List.mem_singleton.1 ho; trivial⟩, ?_⟩
  refine ⟨[], _, by omega, k3 _ (by simp only [List.length_append, List.length_nil, l0, l1, l2, l4, l5, l6, l7, l8, l9, l10, l11, l15, l16]; decide), ?_⟩
  rintro r hh ⟨rfl, rfl⟩
  refine ⟨.inr ⟨trivial, fun o ho => by obtain rfl := List.mem_singleton.1 ho; trivial⟩, ?_⟩
  refine ⟨[], _, by omega, k4 _ (by simp only [List.length_append, List.length_nil, l0, l1, l2, l4, l5, l6, l7, l8, l9, l10, l11, l15, l16]; decide), ?_⟩
  rintro r hh ⟨rfl, rfl⟩
  refine ⟨.inr ⟨trivial, fun o ho => by obtain rfl := List.mem_singleton.1 ho; trivial⟩, ?_⟩
  refine ⟨[], _, by omega, k5 _ (by simp only [List.length_append, List.length_nil, l0, l1, l2, l4, l5, l6, l7, l8, l9, l10, l11, l15, l16]; decide), ?_⟩
  rintro r hh ⟨rfl, rfl⟩
  refine ⟨.inr ⟨trivial, fun o ho => by obtain rfl := List.mem_singleton.1 ho; trivial⟩, ?_⟩
  refine ⟨[], _, by omega, k6 _ (by simp only [List.length_append, List.length_nil, l0, l1, l2, l4, l5, l6, l7, l8, l9, l10, l11, l15, l16]; decide), ?_⟩
  rintro r hh ⟨rfl, rfl⟩
  refine ⟨.inr ⟨trivial, fun o ho => by obtain rfl := List.mem_singleton.1 ho; trivial⟩, ?_⟩
  refine ⟨[], _, by omega, k7 _ (by simp only [List.length_append, List.length_nil, l0, l1, l2, l4, l5, l6, l7, l8, l9, l10, l11, l15, l16]; decide), ?_⟩
  rintro r hh ⟨rfl, rfl⟩
  refine ⟨.inr ⟨trivial, fun o ho => by obtain rfl := List.mem_singleton.1 ho; trivial⟩, ?_⟩
  refine ⟨[], _, by omega, k8 _ (by simp only [List.length_append, List.length_nil, l0, l1, l2, l4, l5, l6, l7, l8, l9, l10, l11, l15, l16]; decide), ?_⟩
  rintro r hh ⟨rfl, rfl⟩
  refine ⟨.inr ⟨trivial, fun o ho => by obtain rfl := List.mem_singleton.1 ho; trivial⟩, ?_⟩
  refine ⟨[], _, by omega, k9 _ (by simp only [List.length_append, List.length_nil, l0, l1, l2, l4, l5, l6, l7, l8, l9, l10, l11, l15, l16]; decide), ?_⟩
  rintro r hh ⟨rfl, rfl⟩
  refine ⟨.inr ⟨trivial, fun o ho => by obtain rfl := List.mem_singleton.1 ho; trivial⟩, ?_⟩
  refine ⟨[], _, by omega, k10 _ (by simp only [List.length_append, List.length_nil, l0, l1, l2, l4, l5, l6, l7, l8, l9, l10, l11, l15, l16]; decide), ?_⟩
  rintro r hh ⟨rfl, rfl⟩
  refine ⟨.inr ⟨trivial, fun o ho => by obtain rfl := List.mem_singleton.1 ho; trivial⟩, ?_⟩
  refine ⟨[], _, by omega, k11 _ (by simp only [List.length_append, List.length_nil, l0, l1, l2, l4, l5, l6, l7, l8, l9, l10, l11, l15, l16]; decide), ?_⟩
  rintro r hh ⟨rfl, rfl⟩
  refine ⟨.inr ⟨trivial, fun o ho => by obtain rfl := List.mem_singleton.1 ho; trivial⟩, ?_⟩
  refine ⟨[], _, by omega, k12 _ (by simp only [List.length_append, List.length_nil, l0, l1, l2, l4, l5, l6, l7, l8, l9, l10, l11, l15, l16]; decide), ?_⟩
  rintro r hh ⟨rfl, rfl⟩
  refine ⟨.inr ⟨trivial, fun o ho => by obtain rfl := List.mem_singleton.1 ho; trivial⟩, ?_⟩
  refine ⟨[], _, by omega, k13 _ (by simp only [List.length_append, List.length_nil, l0, l1, l2, l4, l5, l6, l7, l8, l9, l10, l11, l15, l16]; decide), ?_⟩
  rintro r hh ⟨rfl, rfl⟩
  refine ⟨.inr ⟨trivial, fun o ho => by obtain rfl := List.mem_singleton.1 ho; trivial⟩, ?_⟩
  refine ⟨[], _, by omega, k14 _ (by simp only [List.length_append, List.length_nil, l0, l1, l2, l4, l5, l6, l7, l8, l9, l10, l11, l15, l16]; decide), ?_⟩
  rintro r hh ⟨rfl, rfl⟩
  refine ⟨.inr ⟨trivial, fun o ho => by obtain rfl := List.mem_singleton.1 ho; trivial⟩, ?_⟩
  refine ⟨[], _, by omega, k15 _ (by simp only [List.length_append, List.length_nil, l0, l1, l2, l4, l5, l6, l7, l8, l9, l10, l11, l15, l16]; decide), ?_⟩
  rintro r hh ⟨rfl, rfl⟩
  refine ⟨.inr ⟨trivial, fun o ho => by obtain rfl := List.mem_singleton.1 ho; trivial⟩, ?_⟩
  refine ⟨[], _, by omega, k16 _ (by simp only [List.length_append, List.length_nil, l0, l1, l2, l4, l5, l6, l7, l8, l9, l10, l11, l15, l16]; decide), ?_⟩
  rintro r hh ⟨rfl, rfl⟩
  refine ⟨.inr ⟨trivial, fun o ho => by obtain rfl := List.mem_singleton.1 ho; trivial⟩, ?_⟩
  rw [hcat]
  have lB := b_len (s := s) (n := n) (m := F6) ok l6
  have rB := b_range (s := s) (n := n) (m := F6) r6
  have cB : chk (headB s n F6) (headB s n F6).length = headS s n := by
    rw [lB]; exact chk_congr fun i _ => head_get ok l6 (by simp) i
  have fB : headR s n = (headB s n F6).take 148 ++ sumF s n ++ (headB s n F6).drop 156 := head_new ok l6
  have hsum := sum_len ok
  have hZ := s_range ok
  have lQ : (putR (headS s n) 7).length = 7 := by have := hsum.2; unfold sumF at this; rw [List.length_append] at this; simpa using this
  have hput := nil_num7 (headS s n) 7 (by omega) (by omega)
  have hchk := check_ref (headB s n F6) rB (by rw [lB]; decide)
  unfold sumF at fB
  rw [cB] at hchk
  clear hcat k0 k1 k2 k3 k4 k5 k6 k7 k8 k9 k10 k11 k12 k13 k14 k15 k16 cB hsum
  unfold HPutR
  rw [hE0]
  generalize headB s n F6 = B at *
  generalize headS s n = Z at *
  generalize putR Z 7 = Q at *
  have hchk2 : ACalls Tryd.prog 25 [.roI .u8 ((B.drop 0).take B.length)] [] (fun r h => r = int .i64 Z ∧ h = []) := by rw [List.drop_zero, List.take_length]; exact hchk
  refine ⟨[], _, by omega, hchk2, ?_⟩
  rintro r hh ⟨rfl, rfl⟩
  refine ⟨.inr ⟨trivial, fun o ho => by cases ho⟩, ?_⟩
  refine ⟨[], _, hput, ?_⟩
  rintro r hh ⟨rfl, rfl⟩
  refine ⟨.inl rfl, ?_⟩
  refine ⟨rfl, by simp, by show (([] ++ Q).length + _) * 1 ≤ _; simp [lQ], ?_⟩
  obtain ⟨SS, hSS⟩ : ∃ SS, SS = Q ++ [(32 : Int)] := ⟨_, rfl⟩
  have lS : SS.length = 8 := by rw [hSS]; simp [lQ]
  refine ⟨Nat, fun j => [(9, .own 0 0 512 1), (10, .own 1 0 8 1), (11, int .i64 j)], fun j => [.ints .u8 (rowJ B SS j), .ints .u8 SS], fun j => j ≤ 8, fun j => 8 - j,
    ⟨0, [16, 19], by omega, leh2 (by decide) rfl rfl (leOint ?_) (leOint ?_), ⟨leOwn rfl rfl ?_, leOwn rfl rfl ?_, leI rfl, trivial⟩⟩, fun j hj => ?_⟩
  · unfold rowJ; rw [List.take_zero, List.append_nil]; exact (List.take_append_drop 148 B).symm
  · rw [hSS]; rfl
  · rw [lB]
  · show ([] ++ Q).length + 1 = 8; simp [lQ]
  have hj : j ≤ 8 := hj
  have hrl := rowJ_len lB lS hj
  refine ⟨fun c4 => ?_, fun c4 => ?_⟩
  · have f4 : (j : Int) < 8 := yes c4
    have e1 : IntKind.i64.wrap ((j : Int) + 1) = ((j + 1 : Nat) : Int) := by rw [w64 (by omega) (by omega)]; omega
    have e2 : IntKind.i64.wrap (148 + (j : Int)) = ((148 + j : Nat) : Int) := by rw [w64 (by omega) (by omega)]; omega
    refine ⟨⟨by omega, by omega⟩, ?_⟩
    have a1 : addOff 0 (j : Int).toNat 1 = j := by unfold addOff; omega
    have a2 : addOff 0 (IntKind.i64.wrap (148 + (j : Int))).toNat 1 = 148 + j := by rw [e2]; unfold addOff; omega
    refine ⟨by rw [a1]; omega, ?_⟩
    refine ⟨⟨by omega, by omega⟩, ?_⟩
    refine ⟨by rw [a2]; omega, ?_⟩
    refine ⟨trivial, j + 1, [0, 1], by show j + 1 ≤ 8; omega, by show 8 - (j + 1) < 8 - j; omega, leh2 (by decide) rfl rfl (leOint ?_) (leOint rfl), ⟨leOwn rfl rfl rfl, leOwn rfl rfl rfl, leI e1, trivial⟩⟩
    rw [a1, a2]; exact rowJ_set lB lS (by omega)
  · have f4 : ¬ (j : Int) < 8 := no c4
    obtain rfl : j = 8 := by omega
    refine ⟨[0], [.ints .u8 (headR s n)], .tup 2 (pair (.own 0 0 (headR s n).length 1) (int .i64 0)), leh1 rfl (leOint ?_), le_pair (leOwn rfl rfl ?_) (leI rfl), rfl, rfl⟩
    · rw [fB, ← hSS]; unfold rowJ; rw [List.take_of_length_le (l := SS) (by omega)]
    · rw [head_len ok]
end
end Go.Proofs.YtkchfbnkdpdbkaaDoor.Hd

/-
  The contract of the reference of octal.Get.
-/
set_option linter.unusedVariables false
set_option linter.unusedSectionVars false
namespace Go.Proofs.YtkchfbnkdpdbkaaDoor.Oc
open Go AL
section
variable [Globs]

set_option maxHeartbeats 1000000 in
set_option maxRecDepth 10000 in
theorem get_ref (xs : List Int) (hx : ∀ x ∈ xs, 0 ≤ x ∧ x < 256) (hl : xs.length ≤ 9223372036854775807) : ACalls Tryd.prog 52 [.roI .u8 xs] [] (GetR xs) := by
  refine rcalls Tryd.func52 rfl (by decide) ?_
  have bad : ∀ h, ¬ valid xs → ∃ l h1 b, LeH 0 h l h1 ∧ LeV h l (.tup 2 fun i => [int .i64 0, int .i64 2].getD i .top) b ∧ GetR xs b h1 := fun h hv =>
    ⟨[], [], _, lehN _, le_pair (leI (get_no hv).1.symm) (leI (get_no hv).2.symm), rfl, rfl⟩
  -- behind the loop
  have back : ∀ k : Nat, k ≤ 12 → (xs.length - 1 ≤ k ∨ k = 12) → (k + 1 ≤ xs.length ∨ k = 0) → putE (acr xs k) xs.length = 0 → putR (acr xs k) xs.length = xs → valid xs ∧ acr xs k = acc xs (xs.length - 1) := fun k hk1 hk2 hk3 he hr => by
    have hf := put_field he
    rw [hr] at hf
    refine ⟨hf.2.1, ?_⟩
    have hkl : k = xs.length - 1 := by have := hf.2.1.1; have := hf.2.1.2.1; omega
    subst hkl
    exact hf.2.2.symm
  have forth : ∀ k : Nat, k ≤ 12 → (xs.length - 1 ≤ k ∨ k = 12) → (k + 1 ≤ xs.length ∨ k = 0) → valid xs → putE (acr xs k) xs.length = 0 ∧ putR (acr xs k) xs.length = xs ∧ acr xs k = getV xs := fun k hk1 hk2 hk3 hv => by
    have hkl : k = xs.length - 1 := by have := hv.1; have := hv.2.1; omega
    subst hkl
    have := put_back hv
    rw [acr_eq hv.2.2.2]
    exact ⟨this.1, this.2, (get_ok hv).1.symm⟩
  refine ⟨Nat, fun k => [(0, .roI .u8 xs), (4, int .i64 (acr xs k)), (5, int .i64 k)], fun _ => [], fun k => k ≤ 12 ∧ (k + 1 ≤ xs.length ∨ k = 0), fun k => 12 - k,
    ⟨0, [], ⟨by omega, .inr rfl⟩, leh0, ⟨leRo rfl, leI rfl, leI rfl, trivial⟩⟩, fun k hk => ?_⟩
  obtain ⟨hk12, hk⟩ := hk
  have hr := acr_range hx k
  have hp := pow8_mono hk12
  have e1 : IntKind.i64.wrap ((k : Int) + 1) = (k : Int) + 1 := w64 (by omega) (by omega)
  refine ⟨fun h => ⟨fun h1 => ?_, fun h1 => ?_⟩, fun h => ?_⟩
  · have f1 := yes h
    have f2 := yes h1
    rw [e1] at f1
    refine ⟨⟨by omega, by omega⟩, by decide, ?_⟩
    have hb := byteAt hx k
    have e2 : (xs.getD (k : Int).toNat 0).tmod 8 = xs.getD k 0 % 8 := Int.tmod_eq_emod_of_nonneg hb.1
    have hp2 := pow8_mono (show k ≤ 11 by omega)
    refine ⟨trivial, k + 1, [], ⟨by omega, by omega⟩, by show 12 - (k + 1) < 12 - k; omega, leh0, ⟨leRo rfl, leI ?_, leI e1, trivial⟩⟩
    rw [e2, w64 (n := 8 * acr xs k) (by omega) (by omega), w64 (n := xs.getD k 0 % 8) (by omega) (by omega), w64 (by omega) (by omega)]
    rfl
  all_goals
    have hk2 : xs.length - 1 ≤ k ∨ k = 12 := by
      first
        | (have := no h1; omega)
        | (have := no h; rw [e1] at this; omega)
    refine ⟨[], PutR (acr xs k) xs.length, put_ref _ _ (by omega), ?_⟩
    rintro r h' ⟨rfl, rfl⟩
    refine ⟨.inl rfl, ?_⟩
    refine ⟨fun h2 => bad _ fun hv => ?_, fun h2 => ⟨fun h3 => bad _ fun hv => ?_, fun h3 => ?_⟩⟩
    · exact yes h2 (forth k hk12 hk2 hk hv).1
    · exact yes h3 (by rw [(forth k hk12 hk2 hk hv).2.1])
    · have g1 : putE (acr xs k) xs.length = 0 := by simpa using no h2
      have g2 : bytesOf (putR (acr xs k) xs.length) = bytesOf xs := by simpa using no h3
      have g3 := back k hk12 hk2 hk g1 (bytesOf_inj (putR_range _ _) hx g2)
      exact ⟨[], [], _, lehN _, le_pair (leI (g3.2.trans (get_ok g3.1).1.symm)) (leI (get_ok g3.1).2.symm), rfl, rfl⟩

end

end Go.Proofs.YtkchfbnkdpdbkaaDoor.Oc

/-
  The contracts of header.Get and of the document's.
-/
set_option linter.unusedVariables false
set_option linter.unusedSectionVars false
namespace Go.Proofs.YtkchfbnkdpdbkaaDoor.Hd
open Go AL Oc Pa
section
variable [Globs]

theorem bytes_eq {xs ys : List Int} (hx : ∀ x ∈ xs, 0 ≤ x ∧ x < 256) (hy : ∀ x ∈ ys, 0 ≤ x ∧ x < 256) : bytesOf xs = bytesOf ys ↔ xs = ys := by
  constructor
  · intro h
    rw [← intsOf_bytesOf hx, ← intsOf_bytesOf hy, h]
  · intro h; rw [h]
theorem bytesOf_len (xs : List Int) : (bytesOf xs).size = xs.length := by simp [bytesOf, ByteArray.size]
theorem name_size (xs : List Int) : (nameR xs).size ≤ xs.length := by
  unfold nameR
  split
  · rw [bytesOf_len, List.length_take]; omega
  · exact Nat.zero_le _
theorem field_range {b : List Int} (hb : ∀ x ∈ b, 0 ≤ x ∧ x < 256) (i j : Nat) : ∀ x ∈ (b.take i).drop j, 0 ≤ x ∧ x < 256 := fun x hx => hb x (List.mem_of_mem_take (List.mem_of_mem_drop hx))
theorem field_len (b : List Int) (i j : Nat) : ((b.take i).drop j).length ≤ i := by
  rw [List.length_drop, List.length_take]; omega
theorem get_fields {b : List Int} (h : okGet b) : nameE (fName b) = 0 ∧ nameE (fPre b) = 0 ∧ Oc.getE (fSize b) = 0 ∧ joinE (nameR (fPre b)) (nameR (fName b)) = 0 := by
  obtain ⟨h1, h2⟩ := h
  obtain ⟨a1, a2, a3, a4, a5, a6, a7⟩ := head_back h1
  rw [h2] at a1 a2 a3 a4 a5
  refine ⟨a1, a3, a5, ?_⟩
  rw [a2, a4]
  exact (okJoin_split h1.1).2.2
theorem get_iff {b : List Int} : okGet b ↔ headE (fS b) (fN b) = 0 ∧ headR (fS b) (fN b) = b := by
  unfold okGet; rw [headE_iff]

set_option maxRecDepth 10000 in
theorem equal_prog (xs ys : List Int) (hx : ∀ x ∈ xs, 0 ≤ x ∧ x < 256) (hy : ∀ x ∈ ys, 0 ≤ x ∧ x < 256) : ACalls Tryd.prog 50 [.roI .u8 xs, .roI .u8 ys] [] (fun r h => r = bool (decide (xs = ys)) ∧ h = []) := by
  refine rcalls Tryd.func50 rfl (by decide) ?_
  exact ⟨[], [], _, leh0, leP (bytes_eq hx hy), rfl, rfl⟩

def HGetR (b : List Int) (r : AV) (h : List AO) : Prop := r = .tup 3 (triple (str (getS b)) (int .i64 (getN b)) (int .i64 (getEr b))) ∧ h = []


set_option maxHeartbeats 4000000 in
set_option maxRecDepth 10000 in
theorem hget_prog (b : List Int) (hb : ∀ x ∈ b, 0 ≤ x ∧ x < 256) (hl : b.length ≤ 281474976710656) : ACalls Tryd.prog 23 [.roI .u8 b] [] (HGetR b) := by
  have hbad : ∀ (X : List AO), ¬ okGet b → ¬ b.length < 512 → ∃ l h1 r, LeH 0 X l h1 ∧ LeV X l (.tup 3 fun i => [str ⟨#[]⟩, int .i64 0, int .i64 2].getD i .top) r ∧ HGetR b r h1 := fun X h g => by
    have e1 : getS b = ByteArray.empty := by unfold getS; rw [if_neg h]
    have e2 : getN b = 0 := by unfold getN; rw [if_neg h]
    have e3 : getEr b = 2 := by unfold getEr; rw [if_neg g, if_neg h]
    unfold HGetR
    rw [e1, e2, e3]
    exact ⟨[], [], _, lehN _, le_triple (leS rfl) (leI rfl) (leI rfl), rfl, rfl⟩
  have hshort : b.length < 512 → getS b = ByteArray.empty ∧ getN b = 0 ∧ getEr b = 3 := fun h => by
    have := get_len h
    exact ⟨(get_no (by rw [this]; decide)).1, (get_no (by rw [this]; decide)).2, this⟩
  have hok : okGet b → ¬ b.length < 512 → getS b = fS b ∧ getN b = fN b ∧ getEr b = 0 := fun h g => by
    unfold getS getN getEr
    rw [if_pos h, if_pos h, if_neg g, if_pos h]; exact ⟨rfl, rfl, rfl⟩
  have z1 := name_size (fName b)
  have z2 := name_size (fPre b)
  have y1 : (fName b).length ≤ 100 := by unfold fName; rw [List.length_take]; omega
  have y2 : (fPre b).length ≤ 500 := field_len b 500 345
  have y3 : (fSize b).length ≤ 136 := field_len b 136 124
  have x1 : ∀ x ∈ fName b, 0 ≤ x ∧ x < 256 := fun x hx => hb x (List.mem_of_mem_take hx)
  have x2 : ∀ x ∈ fPre b, 0 ≤ x ∧ x < 256 := field_range hb 500 345
  have x3 : ∀ x ∈ fSize b, 0 ≤ x ∧ x < 256 := field_range hb 136 124
  have hsz : (fS b).size ≤ 9223372036854775805 := by
    show (joinS _ _).size ≤ _
    unfold joinS
    split
    · unfold joinT
      split
      · omega
      · rw [ByteArray.size_append, ByteArray.size_append]; show (nameR (fPre b)).size + 1 + (nameR (fName b)).size ≤ _; omega
    · exact Nat.zero_le _
  have c1 := name_prog (fName b) x1 (by omega)
  have c2 := name_prog (fPre b) x2 (by omega)
  have c3 := get_prog (fSize b) x3 (by omega)
  have c4 := join_path (nameR (fPre b)) (nameR (fName b)) (by omega) (by omega)
  have c5 := put_head (fS b) (fN b) hsz
  have hr := head_range (fS b) (fN b)
  have c6 := equal_prog (headR (fS b) (fN b)) b hr hb
  have hf := fun h : okGet b => get_fields h
  have hi := get_iff (b := b)
  unfold NameR at c1 c2
  unfold GetR at c3
  unfold JoinR at c4
  unfold HPutR at c5
  have eS : joinS (nameR (fPre b)) (nameR (fName b)) = fS b := rfl
  have eN : Oc.getV (fSize b) = fN b := rfl
  rw [eS] at c4
  rw [eN] at c3
  have c1 : ACalls Tryd.prog 47 [.roI .u8 ((b.take 100).drop 0)] [] _ := c1
  have c2 : ACalls Tryd.prog 47 [.roI .u8 ((b.take 500).drop 345)] [] _ := c2
  have c3 : ACalls Tryd.prog 48 [.roI .u8 ((b.take 136).drop 124)] [] _ := c3
  generalize fS b = S at *
  generalize fN b = M at *
  generalize joinE (nameR (fPre b)) (nameR (fName b)) = JE at *
  generalize nameR (fPre b) = N2 at *
  generalize nameR (fName b) = N1 at *
  generalize nameE (fName b) = E1 at *
  generalize nameE (fPre b) = E2 at *
  generalize Oc.getE (fSize b) = E3 at *
  generalize headR S M = HR at *
  generalize headE S M = HE at *
  refine rcalls Tryd.func23 rfl (by decide) ?_
  refine ⟨fun g1 => ?_, fun g1 => ?_⟩
  · have f1 : b.length < 512 := by have := yes g1; omega
    obtain ⟨q1, q2, q3⟩ := hshort f1
    unfold HGetR
    rw [q1, q2, q3]
    exact ⟨[], [], _, leh0, le_triple (leS rfl) (leI rfl) (leI rfl), rfl, rfl⟩
  have f1 : ¬ b.length < 512 := by have := no g1; omega
  refine ⟨⟨by omega, by omega⟩, ?_⟩
  refine ⟨[], _, c1, ?_⟩
  rintro r hh ⟨rfl, rfl⟩
  refine ⟨.inl rfl, ?_⟩
  refine ⟨⟨by omega, by omega⟩, ⟨by omega, by omega⟩, ?_⟩
  refine ⟨[], _, c2, ?_⟩
  rintro r hh ⟨rfl, rfl⟩
  refine ⟨.inl rfl, ?_⟩
  refine ⟨⟨by omega, by omega⟩, ⟨by omega, by omega⟩, ?_⟩
  refine ⟨[], _, c3, ?_⟩
  rintro r hh ⟨rfl, rfl⟩
  refine ⟨.inl rfl, ?_⟩
  refine ⟨[], _, c4, ?_⟩
  rintro r hh ⟨rfl, rfl⟩
  refine ⟨.inl rfl, ?_⟩
  refine ⟨fun g2 => ?_, fun g2 => ?_⟩
  · exact hbad _ (fun h => yes g2 (hf h).1) f1
  refine ⟨fun g3 => ?_, fun g3 => ?_⟩
  · exact hbad _ (fun h => yes g3 (hf h).2.1) f1
  refine ⟨fun g4 => ?_, fun g4 => ?_⟩
  · exact hbad _ (fun h => yes g4 (hf h).2.2.1) f1
  refine ⟨fun g5 => ?_, fun g5 => ?_⟩
  · exact hbad _ (fun h => yes g5 (hf h).2.2.2) f1
  refine ⟨[], _, c5, ?_⟩
  rintro r hh ⟨rfl, rfl⟩
  refine ⟨.inl rfl, ?_⟩
  refine ⟨fun g6 => ?_, fun g6 => ?_⟩
  · exact hbad _ (fun h => yes g6 (hi.1 h).1) f1
  have f6 : HE = 0 := Classical.byContradiction fun x => no g6 x
  have c7 : ACalls Tryd.prog 50 [.roI .u8 ((HR.drop 0).take HR.length), .roI .u8 b] [] (fun r h => r = bool (decide (HR = b)) ∧ h = []) := by rw [List.drop_zero, List.take_length]; exact c6
  refine ⟨[], _, by omega, c7, ?_⟩
  rintro r hh ⟨rfl, rfl⟩
  refine ⟨.inr ⟨trivial, fun o ho => by cases ho⟩, ?_⟩
  refine ⟨fun g7 => ?_, fun g7 => ?_⟩
  · have f7 : ¬ HR = b := fun x => by rw [decide_eq_true x] at g7; cases g7
    exact hbad _ (fun h => f7 (hi.1 h).2) f1
  have f7 : HR = b := Classical.byContradiction fun x => by rw [decide_eq_false x] at g7; cases g7
  obtain ⟨q1, q2, q3⟩ := hok (hi.2 ⟨f6, f7⟩) f1
  unfold HGetR
  rw [q1, q2, q3]
  exact ⟨[], [], _, lehN _, le_triple (leS rfl) (leI rfl) (leI rfl), rfl, rfl⟩

set_option maxHeartbeats 4000000 in
set_option maxRecDepth 10000 in
theorem hget_ref (b : List Int) (hb : ∀ x ∈ b, 0 ≤ x ∧ x < 256) (hl : b.length ≤ 281474976710656) : ACalls Tryd.prog 24 [.roI .u8 b] [] (HGetR b) := by
  have hbad : ∀ (X : List AO), ¬ okGet b → ¬ b.length < 512 → ∃ l h1 r, LeH 0 X l h1 ∧ LeV X l (.tup 3 fun i => [str ⟨#[]⟩, int .i64 0, int .i64 2].getD i .top) r ∧ HGetR b r h1 := fun X h g => by
    have e1 : getS b = ByteArray.empty := by unfold getS; rw [if_neg h]
    have e2 : getN b = 0 := by unfold getN; rw [if_neg h]
    have e3 : getEr b = 2 := by unfold getEr; rw [if_neg g, if_neg h]
    unfold HGetR
    rw [e1, e2, e3]
    exact ⟨[], [], _, lehN _, le_triple (leS rfl) (leI rfl) (leI rfl), rfl, rfl⟩
  have hshort : b.length < 512 → getS b = ByteArray.empty ∧ getN b = 0 ∧ getEr b = 3 := fun h => by
    have := get_len h
    exact ⟨(get_no (by rw [this]; decide)).1, (get_no (by rw [this]; decide)).2, this⟩
  have hok : okGet b → ¬ b.length < 512 → getS b = fS b ∧ getN b = fN b ∧ getEr b = 0 := fun h g => by
    unfold getS getN getEr
    rw [if_pos h, if_pos h, if_neg g, if_pos h]; exact ⟨rfl, rfl, rfl⟩
  have z1 := name_size (fName b)
  have z2 := name_size (fPre b)
  have y1 : (fName b).length ≤ 100 := by unfold fName; rw [List.length_take]; omega
  have y2 : (fPre b).length ≤ 500 := field_len b 500 345
  have y3 : (fSize b).length ≤ 136 := field_len b 136 124
  have x1 : ∀ x ∈ fName b, 0 ≤ x ∧ x < 256 := fun x hx => hb x (List.mem_of_mem_take hx)
  have x2 : ∀ x ∈ fPre b, 0 ≤ x ∧ x < 256 := field_range hb 500 345
  have x3 : ∀ x ∈ fSize b, 0 ≤ x ∧ x < 256 := field_range hb 136 124
  have hsz : (fS b).size ≤ 9223372036854775805 := by
    show (joinS _ _).size ≤ _
    unfold joinS
    split
    · unfold joinT
      split
      · omega
      · rw [ByteArray.size_append, ByteArray.size_append]; show (nameR (fPre b)).size + 1 + (nameR (fName b)).size ≤ _; omega
    · exact Nat.zero_le _
  have c1 := name_ref (fName b) x1 (by omega)
  have c2 := name_ref (fPre b) x2 (by omega)
  have c3 := get_ref (fSize b) x3 (by omega)
  have c4 := join_ref (nameR (fPre b)) (nameR (fName b)) (by omega) (by omega)
  have c5 := put_rhead (fS b) (fN b) hsz
  have hr := head_range (fS b) (fN b)
  have c6 := bytes_eq hr hb
  have hf := fun h : okGet b => get_fields h
  have hi := get_iff (b := b)
  unfold NameR at c1 c2
  unfold GetR at c3
  unfold JoinR at c4
  unfold HPutR at c5
  have eS : joinS (nameR (fPre b)) (nameR (fName b)) = fS b := rfl
  have eN : Oc.getV (fSize b) = fN b := rfl
  rw [eS] at c4
  rw [eN] at c3
  have c1 : ACalls Tryd.prog 51 [.roI .u8 ((b.take 100).drop 0)] [] _ := c1
  have c2 : ACalls Tryd.prog 51 [.roI .u8 ((b.take 500).drop 345)] [] _ := c2
  have c3 : ACalls Tryd.prog 52 [.roI .u8 ((b.take 136).drop 124)] [] _ := c3
  generalize fS b = S at *
  generalize fN b = M at *
  generalize joinE (nameR (fPre b)) (nameR (fName b)) = JE at *
  generalize nameR (fPre b) = N2 at *
  generalize nameR (fName b) = N1 at *
  generalize nameE (fName b) = E1 at *
  generalize nameE (fPre b) = E2 at *
  generalize Oc.getE (fSize b) = E3 at *
  generalize headR S M = HR at *
  generalize headE S M = HE at *
  refine rcalls Tryd.func24 rfl (by decide) ?_
  refine ⟨fun g1 => ?_, fun g1 => ?_⟩
  · have f1 : b.length < 512 := by have := yes g1; omega
    obtain ⟨q1, q2, q3⟩ := hshort f1
    unfold HGetR
    rw [q1, q2, q3]
    exact ⟨[], [], _, leh0, le_triple (leS rfl) (leI rfl) (leI rfl), rfl, rfl⟩
  have f1 : ¬ b.length < 512 := by have := no g1; omega
  refine ⟨⟨by omega, by omega⟩, ?_⟩
  refine ⟨[], _, c1, ?_⟩
  rintro r hh ⟨rfl, rfl⟩
  refine ⟨.inl rfl, ?_⟩
  refine ⟨⟨by omega, by omega⟩, ⟨by omega, by omega⟩, ?_⟩
  refine ⟨[], _, c2, ?_⟩
  rintro r hh ⟨rfl, rfl⟩
  refine ⟨.inl rfl, ?_⟩
  refine ⟨⟨by omega, by omega⟩, ⟨by omega, by omega⟩, ?_⟩
  refine ⟨[], _, c3, ?_⟩
  rintro r hh ⟨rfl, rfl⟩
  refine ⟨.inl rfl, ?_⟩
  refine ⟨[], _, c4, ?_⟩
  rintro r hh ⟨rfl, rfl⟩
  refine ⟨.inl rfl, ?_⟩
  refine ⟨fun g5 => ?_, fun g5 => ?_⟩
  · exact hbad _ (fun h => yes g5 (hf h).2.2.2) f1
  refine ⟨[], _, c5, ?_⟩
  rintro r hh ⟨rfl, rfl⟩
  refine ⟨.inl rfl, ?_⟩
  refine ⟨fun g6 => ?_, fun g6 => ?_⟩
  · exact hbad _ (fun h => yes g6 (hi.1 h).1) f1
  have f6 : HE = 0 := Classical.byContradiction fun x => no g6 x
  refine ⟨by omega, ?_⟩
  have c7 : bytesOf (List.take HR.length (List.drop 0 HR)) = bytesOf b ↔ HR = b := by rw [List.drop_zero, List.take_length]; exact c6
  refine ⟨fun g7 => ?_, fun g7 => ?_⟩
  · have f7 : ¬ HR = b := fun x => yes g7 (c7.2 x)
    exact hbad _ (fun h => f7 (hi.1 h).2) f1
  have f7 : HR = b := c7.1 (Classical.byContradiction fun x => no g7 x)
  obtain ⟨q1, q2, q3⟩ := hok (hi.2 ⟨f6, f7⟩) f1
  unfold HGetR
  rw [q1, q2, q3]
  exact ⟨[], [], _, lehN _, le_triple (leS rfl) (leI rfl) (leI rfl), rfl, rfl⟩

end
end Go.Proofs.YtkchfbnkdpdbkaaDoor.Hd

/-
  The laws of header, walked.
-/
set_option linter.unusedVariables false
set_option linter.unusedSectionVars false
namespace Go.Proofs.YtkchfbnkdpdbkaaDoor.Hd
open Go AL Oc Pa Spl
section
variable [Globs]

def oneA : ByteArray := ⟨#[97]⟩
theorem okA : okHd oneA 3 := by
  refine ⟨⟨?_, by decide, .inl (by decide)⟩, by decide, by decide⟩
  intro p hp
  have : p = [97] := by
    have : pieces 47 oneA.data.toList = [[97]] := by decide +kernel
    rw [this] at hp
    simpa using hp
  subst this
  decide +kernel
theorem own_take {k : IntKind} {f : Nat} {xs : List Int} {R : AV → List AO → Prop} {tl : List AV} (h : ACalls Tryd.prog f (.roI k xs :: tl) [] R) : ACalls Tryd.prog f (.roI k ((xs.drop 0).take xs.length) :: tl) [] R := by
  rw [List.drop_zero, List.take_length]; exact h

set_option maxHeartbeats 2000000 in
set_option maxRecDepth 10000 in
theorem hd_awake : ACalls Tryd.prog 20 [] [] (fun r h => r = .tt ∧ h = []) := by
  have h1 := put_head oneA 3 (by decide)
  have h2 := hget_prog (headR oneA 3) (head_range _ _) (by rw [head_len okA]; decide)
  obtain ⟨g1, g2, g3, g4⟩ := get_head okA
  have e0 : headE oneA 3 = 0 := headE_iff.2 okA
  have hl := head_len okA
  have s1 : (headR oneA 3).getD 0 0 = 97 := by
    have := head_name okA
    have h : (headR oneA 3).getD 0 0 = ((headR oneA 3).take 100).getD 0 0 := by simp [List.getD_eq_getElem?_getD]
    rw [h, this]
    decide +kernel
  have s2 : bytesOf (((headR oneA 3).take 136).drop 124) = ⟨#[48, 48, 48, 48, 48, 48, 48, 48, 48, 48, 51, 0]⟩ := by
    rw [head_size okA]; decide +kernel
  have s3 : bytesOf (((headR oneA 3).take 263).drop 257) = ⟨#[117, 115, 116, 97, 114, 0]⟩ := by
    have e1 := a_len okA
    have e2 := (sum_len okA).2
    have : headR oneA 3 = (headA oneA 3 ++ sumF oneA 3 ++ textR flagS 1 ++ textR emp 100) ++ textR ustarS 6 ++ (textR zzS 2 ++ textR emp 32 ++ textR emp 32 ++ putR 0 8 ++ putR 0 8 ++ textR (preS oneA) 155 ++ textR emp 12) := by
      unfold headR headB headZ headY
      rw [if_pos okA]
      simp only [List.append_assoc]
    have e3 : (textR flagS 1).length = 1 ∧ (textR emp 100).length = 100 ∧ (textR ustarS 6).length = 6 := by decide +kernel
    rw [this, mid (a := 257) (c := 6) (by simp only [List.length_append]; omega) e3.2.2]
    decide +kernel
  unfold HPutR at h1
  unfold HGetR at h2
  rw [g2, g3, g4] at h2
  rw [e0] at h1
  have h2 := own_take h2
  rw [List.drop_take] at s2 s3
  generalize headR oneA 3 = B at *
  refine rcalls Tryd.func20 rfl (by decide) ?_
  refine ⟨[], _, h1, ?_⟩
  rintro r hh ⟨rfl, rfl⟩
  refine ⟨.inl rfl, ?_⟩
  refine ⟨fun g => absurd (yes g) (by rw [hl]; decide), fun _ => ?_⟩
  refine ⟨[], _, by omega, h2, ?_⟩
  rintro r hh ⟨rfl, rfl⟩
  refine ⟨.inr ⟨fun i hi => ?_, fun o ho => by cases ho⟩, ?_⟩
  · match i, hi with
    | 0, _ => trivial
    | 1, _ => trivial
    | 2, _ => trivial
  refine ⟨fun _ => ?_, fun e => absurd rfl (no e)⟩
  refine ⟨⟨by omega, by omega⟩, ?_⟩
  refine ⟨by show 0 < B.length; omega, ?_⟩
  refine ⟨fun _ => ?_, fun e => absurd s1 (no e)⟩
  refine ⟨⟨by omega, by omega⟩, ⟨by omega, by omega⟩, ?_⟩
  refine ⟨by show addOff 0 124 1 + 12 ≤ B.length; unfold addOff; omega, ?_⟩
  refine ⟨fun _ => ?_, fun e => absurd s2 (no e)⟩
  refine ⟨⟨by omega, by omega⟩, ⟨by omega, by omega⟩, ?_⟩
  refine ⟨by show addOff 0 257 1 + 6 ≤ B.length; unfold addOff; omega, ?_⟩
  refine ⟨fun _ => ?_, fun e => absurd s3 (no e)⟩
  refine ⟨fun _ => ?_, fun e => absurd rfl (no e)⟩
  refine ⟨fun _ => ?_, fun e => absurd rfl (no e)⟩
  exact ⟨[], [], .tt, lehN _, leTT (decide_eq_true rfl), rfl, rfl⟩

set_option maxHeartbeats 2000000 in
set_option maxRecDepth 10000 in
theorem puts_prog (s : ByteArray) (n : Int) (b : List Int) (hs : s.size ≤ 281474976710656) (hn : -9223372036854775808 ≤ n ∧ n < 9223372036854775808) (hb : ∀ x ∈ b, 0 ≤ x ∧ x < 256) (hl : b.length ≤ 281474976710656) :
    ACalls Tryd.prog 4 [str s, int .i64 n, .roI .u8 b] [] (fun r h => r = .tt ∧ h = []) := by
  have h1 := put_head s n (by omega)
  have h2 := put_rhead s n (by omega)
  have h3 := hget_prog b hb hl
  have h4 := hget_ref b hb hl
  unfold HPutR at h1 h2
  unfold HGetR at h3 h4
  generalize headR s n = X at *
  generalize headE s n = E at *
  generalize getS b = S at *
  generalize getN b = M at *
  generalize getEr b = F at *
  refine rcalls Tryd.func4 rfl (by decide) ?_
  refine ⟨[], _, hd_awake, ?_⟩
  rintro r hh ⟨rfl, rfl⟩
  refine ⟨.inl rfl, ?_⟩
  refine ⟨[], _, h1, ?_⟩
  rintro r hh ⟨rfl, rfl⟩
  refine ⟨.inl rfl, ?_⟩
  refine ⟨[], _, h2, ?_⟩
  rintro r hh ⟨rfl, rfl⟩
  refine ⟨.inl rfl, ?_⟩
  refine ⟨[], _, h3, ?_⟩
  rintro r hh ⟨rfl, rfl⟩
  refine ⟨.inl rfl, ?_⟩
  refine ⟨[], _, h4, ?_⟩
  rintro r hh ⟨rfl, rfl⟩
  refine ⟨.inl rfl, ?_⟩
  refine ⟨by omega, ?_⟩
  refine ⟨by omega, ?_⟩
  refine ⟨fun _ => ?_, fun e => absurd rfl (no e)⟩
  refine ⟨fun _ => ?_, fun e => absurd rfl (no e)⟩
  refine ⟨fun _ => ?_, fun e => absurd rfl (no e)⟩
  refine ⟨fun _ => ?_, fun e => absurd rfl (no e)⟩
  exact ⟨[], [], .tt, lehN _, leTT (decide_eq_true rfl), rfl, rfl⟩


set_option maxHeartbeats 2000000 in
set_option maxRecDepth 10000 in
theorem back_prog (s : ByteArray) (n : Int) (b : List Int) (hs : s.size ≤ 281474976710656) (hn : -9223372036854775808 ≤ n ∧ n < 9223372036854775808) (hb : ∀ x ∈ b, 0 ≤ x ∧ x < 256) (hl : b.length ≤ 281474976710656) :
    ACalls Tryd.prog 5 [str s, int .i64 n, .roI .u8 b] [] (fun r h => r = .tt ∧ h = []) := by
  have h1 := put_head s n (by omega)
  have h3 := hget_prog b hb hl
  have hX : (headR s n).length ≤ 512 := by
    by_cases h : okHd s n
    · rw [head_len h]; decide
    · unfold headR; rw [if_neg h]; exact Nat.zero_le _
  have h2 := own_take (hget_prog (headR s n) (head_range s n) (by omega))
  have hgs : (getS b).size ≤ 9223372036854775805 := by
    by_cases h : getEr b = 0
    · have := (get_ok h).1.1.2.1; omega
    · rw [(get_no h).1]; exact Nat.zero_le _
  have h4 := put_head (getS b) (getN b) hgs
  have k1 : headE s n = 0 → (headR s n).length = 512 ∧ getS (headR s n) = s ∧ getN (headR s n) = n ∧ getEr (headR s n) = 0 := fun h => by
    have ok := headE_iff.1 h
    exact ⟨head_len ok, (get_head ok).2⟩
  have k2 : getEr b ≠ 0 → getS b = ByteArray.empty ∧ getN b = 0 := fun h => get_no h
  have k3 : getEr b = 0 → headE (getS b) (getN b) = 0 ∧ headR (getS b) (getN b) = b := fun h => ⟨headE_iff.2 (get_ok h).1, (get_ok h).2.1⟩
  unfold HPutR at h1 h4
  unfold HGetR at h2 h3
  generalize getS (headR s n) = S1 at *
  generalize getN (headR s n) = M1 at *
  generalize getEr (headR s n) = F1 at *
  generalize headR s n = X at *
  generalize headE s n = E at *
  generalize headR (getS b) (getN b) = Y at *
  generalize headE (getS b) (getN b) = G at *
  generalize getS b = S at *
  generalize getN b = M at *
  generalize getEr b = F at *
  refine rcalls Tryd.func5 rfl (by decide) ?_
  refine ⟨[], _, hd_awake, ?_⟩
  rintro r hh ⟨rfl, rfl⟩
  refine ⟨.inl rfl, ?_⟩
  refine ⟨[], _, h1, ?_⟩
  rintro r hh ⟨rfl, rfl⟩
  refine ⟨.inl rfl, ?_⟩
  refine ⟨fun c1 => ?_, fun c1 => ?_⟩
  · obtain ⟨q1, q2, q3, q4⟩ := k1 (yes c1)
    refine ⟨[], _, by omega, h2, ?_⟩
    rintro r hh ⟨rfl, rfl⟩
    refine ⟨.inr ⟨fun i hi => ?_, fun o ho => by cases ho⟩, ?_⟩
    · match i, hi with
      | 0, _ => trivial
      | 1, _ => trivial
      | 2, _ => trivial
    refine ⟨fun c2 => absurd q4 (yes c2), fun c2 => ?_⟩
    refine ⟨fun c3 => absurd q2 (yes c3), fun c3 => ?_⟩
    refine ⟨fun c4 => absurd q3 (yes c4), fun c4 => ?_⟩
    refine ⟨fun c5 => absurd (yes c5) (by rw [q1]; decide), fun c5 => ?_⟩
    refine ⟨[], _, h3, ?_⟩
    rintro r hh ⟨rfl, rfl⟩
    refine ⟨.inl rfl, ?_⟩
    refine ⟨fun c6 => ?_, fun c6 => ?_⟩
    · obtain ⟨q5, q6⟩ := k2 (yes c6)
      refine ⟨fun _ => ?_, fun e => absurd q5 (no e)⟩
      exact ⟨[], [], .tt, lehN _, leTT (decide_eq_true q6), rfl, rfl⟩
    have f6 : F = 0 := Classical.byContradiction fun x => no c6 x
    obtain ⟨q5, q6⟩ := k3 f6
    refine ⟨[], _, h4, ?_⟩
    rintro r hh ⟨rfl, rfl⟩
    refine ⟨.inl rfl, ?_⟩
    refine ⟨fun _ => ?_, fun e => absurd q5 (no e)⟩
    refine ⟨by omega, ?_⟩
    exact ⟨[], [], .tt, lehN _, leTT (decide_eq_true (by rw [List.drop_zero, List.take_length, q6])), rfl, rfl⟩
  · refine ⟨[], _, h3, ?_⟩
    rintro r hh ⟨rfl, rfl⟩
    refine ⟨.inl rfl, ?_⟩
    refine ⟨fun c6 => ?_, fun c6 => ?_⟩
    · obtain ⟨q5, q6⟩ := k2 (yes c6)
      refine ⟨fun _ => ?_, fun e => absurd q5 (no e)⟩
      exact ⟨[], [], .tt, lehN _, leTT (decide_eq_true q6), rfl, rfl⟩
    have f6 : F = 0 := Classical.byContradiction fun x => no c6 x
    obtain ⟨q5, q6⟩ := k3 f6
    refine ⟨[], _, h4, ?_⟩
    rintro r hh ⟨rfl, rfl⟩
    refine ⟨.inl rfl, ?_⟩
    refine ⟨fun _ => ?_, fun e => absurd q5 (no e)⟩
    refine ⟨by omega, ?_⟩
    exact ⟨[], [], .tt, lehN _, leTT (decide_eq_true (by rw [List.drop_zero, List.take_length, q6])), rfl, rfl⟩
end
end Go.Proofs.YtkchfbnkdpdbkaaDoor.Hd

/-
  The contracts of header.Round, of header.Blank, and of the document's Round.
-/
set_option linter.unusedVariables false
set_option linter.unusedSectionVars false
namespace Go.Proofs.YtkchfbnkdpdbkaaDoor.Hd
open Go AL Oc Pa Spl

/-- A size up to whole blocks. -/
def rndZ (n : Int) : Int := (max n 0 + 511) / 512 * 512
section
variable [Globs]

set_option maxRecDepth 10000 in
theorem round_prog (n : Int) (hn : n ≤ 4611686018427387904) : ACalls Tryd.prog 26 [int .i64 n] [] (fun r h => r = int .i64 (rndZ n) ∧ h = []) := by
  refine rcalls Tryd.func26 rfl (by decide) ?_
  refine ⟨by decide, ?_⟩
  refine ⟨[], [], _, lehN _, leI ?_, rfl, rfl⟩
  rw [w64 (n := max n 0 + 512) (by omega) (by omega), w64 (n := max n 0 + 512 - 1) (by omega) (by omega), Int.tdiv_eq_ediv_of_nonneg (by omega), w64 (n := (max n 0 + 512 - 1) / 512) (by omega) (by omega), w64 (by omega) (by omega)]
  unfold rndZ
  omega

set_option maxRecDepth 10000 in
theorem round_ref (n : Int) (hn : n ≤ 4611686018427387904) : ACalls Tryd.prog 27 [int .i64 n] [] (fun r h => r = int .i64 (rndZ n) ∧ h = []) := by
  refine rcalls Tryd.func27 rfl (by decide) ?_
  have hR : 0 ≤ rndZ n ∧ rndZ n ≤ 4611686018427388415 ∧ n ≤ rndZ n ∧ rndZ n % 512 = 0 ∧ ∀ z : Int, z % 512 = 0 → 0 ≤ z → n ≤ z → rndZ n ≤ z := by
    unfold rndZ
    refine ⟨by omega, by omega, by omega, by omega, fun z h1 h2 h3 => by omega⟩
  generalize rndZ n = R at *
  obtain ⟨h1, h2, h3, h4, h5⟩ := hR
  refine ⟨Nat, fun k => [(0, int .i64 n), (3, int .i64 (512 * k))], fun _ => [], fun k => (512 * k : Int) ≤ R, fun k => R.toNat - 512 * k,
    ⟨0, [], by omega, lehN _, ⟨leI rfl, leI rfl, trivial⟩⟩, ?_⟩
  intro k hk
  have hk : (512 * k : Int) ≤ R := hk
  refine ⟨fun c => ?_, fun c => ?_⟩
  · have f1 : (512 * k : Int) < n := yes c
    have e1 : IntKind.i64.wrap ((512 * k : Int) + 512) = 512 * ((k + 1 : Nat) : Int) := by rw [w64 (by omega) (by omega)]; omega
    exact ⟨trivial, k + 1, [], by show (512 * ((k + 1 : Nat) : Int)) ≤ R; omega, by show R.toNat - 512 * (k + 1) < R.toNat - 512 * k; omega, lehN _, ⟨leI rfl, leI e1, trivial⟩⟩
  · have f1 : ¬ (512 * k : Int) < n := no c
    have := h5 (512 * k) (by omega) (by omega) (by omega)
    exact ⟨[], [], _, lehN _, leI (by omega), rfl, rfl⟩

set_option maxRecDepth 10000 in
theorem trimR_prog (xs : List Int) (hl : xs.length ≤ 281474976710656) : ACalls Tryd.prog 72 [.roI .u8 xs, int .u8 0] [] (fun r h => (∃ k, k ≤ xs.length ∧ r = .roI .u8 (xs.take k) ∧ (∀ i, k ≤ i → i < xs.length → xs.getD i 0 = 0) ∧ (0 < k → xs.getD (k - 1) 0 ≠ 0)) ∧ h = []) := by
  refine rcalls Tryd.func72 rfl (by decide) ?_
  refine ⟨Nat, fun k => [(0, .roI .u8 (xs.take k)), (1, int .u8 0)], fun _ => [], fun k => k ≤ xs.length ∧ ∀ i, k ≤ i → i < xs.length → xs.getD i 0 = 0, fun k => k,
    ⟨xs.length, [], ⟨Nat.le_refl _, fun i h1 h2 => by omega⟩, lehN _, ⟨leRo (by rw [List.take_length]), leI rfl, trivial⟩⟩, ?_⟩
  rintro k ⟨hk, hz⟩
  have hlen : (xs.take k).length = k := by rw [List.length_take]; omega
  have e1 : 0 < k → IntKind.i64.wrap (((xs.take k).length : Int) - 1) = ((k - 1 : Nat) : Int) := fun h => by rw [hlen, w64 (by omega) (by omega)]; omega
  have gd : 0 < k → (xs.take k).getD (k - 1) 0 = xs.getD (k - 1) 0 := fun h => by
    rw [List.getD_eq_getElem?_getD, List.getElem?_take, if_pos (by omega), List.getD_eq_getElem?_getD]
  refine ⟨fun c => ?_, fun c => ?_⟩
  · have f1 : 0 < ((xs.take k).length : Int) := yes c
    have f2 : 0 < k := by omega
    have e1 := e1 f2
    have gd := gd f2
    refine ⟨⟨by rw [e1]; omega, by rw [e1]; omega⟩, ?_⟩
    refine ⟨fun c2 => ?_, fun c2 => ?_⟩
    · have f3 : (xs.take k).getD (IntKind.i64.wrap (((xs.take k).length : Int) - 1)).toNat 0 = 0 := yes c2
      rw [e1, Int.toNat_natCast, gd] at f3
      refine ⟨⟨by rw [e1]; omega, by rw [e1]; omega⟩, ?_⟩
      refine ⟨trivial, k - 1, [], ⟨by omega, fun i h1 h2 => ?_⟩, by show k - 1 < k; omega, lehN _, ⟨leRo ?_, leI rfl, trivial⟩⟩
      · by_cases h : i = k - 1
        · rw [h]; exact f3
        · exact hz i (by omega) h2
      · rw [e1, Int.toNat_natCast, List.take_take, List.drop_zero, Nat.min_eq_left (by omega)]
    · have f3 : ¬ (xs.take k).getD (IntKind.i64.wrap (((xs.take k).length : Int) - 1)).toNat 0 = 0 := no c2
      rw [e1, Int.toNat_natCast, gd] at f3
      exact ⟨[], [], _, lehN _, .same _ trivial, ⟨k, hk, rfl, hz, fun _ => f3⟩, rfl⟩
  · have f1 : ¬ 0 < ((xs.take k).length : Int) := no c
    exact ⟨[], [], _, lehN _, .same _ trivial, ⟨k, hk, rfl, hz, fun _ => by omega⟩, rfl⟩

set_option maxRecDepth 10000 in
theorem trimL_prog (xs : List Int) (hl : xs.length ≤ 281474976710656) : ACalls Tryd.prog 71 [.roI .u8 xs, int .u8 0] [] (fun r h => (∃ k, k ≤ xs.length ∧ r = .roI .u8 (xs.drop k) ∧ (∀ i, i < k → xs.getD i 0 = 0) ∧ (k < xs.length → xs.getD k 0 ≠ 0)) ∧ h = []) := by
  refine rcalls Tryd.func71 rfl (by decide) ?_
  refine ⟨Nat, fun k => [(0, .roI .u8 (xs.drop k)), (1, int .u8 0)], fun _ => [], fun k => k ≤ xs.length ∧ ∀ i, i < k → xs.getD i 0 = 0, fun k => xs.length - k,
    ⟨0, [], ⟨Nat.zero_le _, fun i h1 => by omega⟩, lehN _, ⟨leRo rfl, leI rfl, trivial⟩⟩, ?_⟩
  rintro k ⟨hk, hz⟩
  have hlen : (xs.drop k).length = xs.length - k := by rw [List.length_drop]
  have gd : k < xs.length → (xs.drop k).getD 0 0 = xs.getD k 0 := fun h => by
    rw [List.getD_eq_getElem?_getD, List.getElem?_drop, List.getD_eq_getElem?_getD]; rfl
  refine ⟨fun c => ?_, fun c => ?_⟩
  · have f1 : 0 < ((xs.drop k).length : Int) := yes c
    have f2 : k < xs.length := by omega
    have gd := gd f2
    refine ⟨⟨by omega, by omega⟩, ?_⟩
    refine ⟨fun c2 => ?_, fun c2 => ?_⟩
    · have f3 : (xs.drop k).getD 0 0 = 0 := yes c2
      rw [gd] at f3
      refine ⟨⟨by omega, by omega⟩, ?_⟩
      refine ⟨trivial, k + 1, [], ⟨by omega, fun i h1 => ?_⟩, by show xs.length - (k + 1) < xs.length - k; omega, lehN _, ⟨leRo ?_, leI rfl, trivial⟩⟩
      · by_cases h : i = k
        · rw [h]; exact f3
        · exact hz i (by omega)
      · rw [List.take_length, List.drop_drop]; rfl
    · have f3 : ¬ (xs.drop k).getD 0 0 = 0 := no c2
      rw [gd] at f3
      refine ⟨fun c3 => ?_, fun c3 => ?_⟩
      · have := yes c3; omega
      exact ⟨[], [], _, lehN _, .same _ trivial, ⟨k, hk, rfl, hz, fun _ => f3⟩, rfl⟩
  · have f1 : ¬ 0 < ((xs.drop k).length : Int) := no c
    refine ⟨fun c3 => ?_, fun c3 => ?_⟩
    · refine ⟨[], [], _, lehN _, .nilI .u8, ⟨k, hk, ?_, hz, fun _ => by omega⟩, rfl⟩
      rw [List.eq_nil_of_length_eq_zero (l := xs.drop k) (by omega)]
    · have := no c3; omega

theorem trimR_eq {xs : List Int} {k : Nat} (h : k ≤ xs.length ∧ (∀ i, k ≤ i → i < xs.length → xs.getD i 0 = 0) ∧ (0 < k → xs.getD (k - 1) 0 ≠ 0)) : k = nameN xs := by
  obtain ⟨h1, h2, h3⟩ := h
  have e : nameN xs = trimN xs k := trimN_zero xs.length h1 fun j a b => h2 j a b
  have hle := trimN_le xs k
  rcases Nat.eq_zero_or_pos k with h0 | h0
  · omega
  · have := trimN_gt (h3 h0) k (by omega)
    omega
theorem trimR_prog' (xs : List Int) (hl : xs.length ≤ 281474976710656) : ACalls Tryd.prog 72 [.roI .u8 xs, int .u8 0] [] (fun r h => r = .roI .u8 (xs.take (nameN xs)) ∧ h = []) :=
  (trimR_prog xs hl).mono fun r h ⟨⟨k, h1, h2, h3, h4⟩, h5⟩ => ⟨by rw [h2, trimR_eq ⟨h1, h3, h4⟩], h5⟩

set_option maxRecDepth 10000 in
theorem trim_prog (xs : List Int) (hl : xs.length ≤ 281474976710656) : ACalls Tryd.prog 54 [.roI .u8 xs, str ⟨#[0]⟩] [] (fun r h => (∃ ys : List Int, r = .roI .u8 ys ∧ (ys.length = 0 ↔ ∀ i, i < xs.length → xs.getD i 0 = 0)) ∧ h = []) := by
  have c1 := trimR_prog' xs hl
  have hN : nameN xs ≤ xs.length := trimN_le _ _
  have hlen : (xs.take (nameN xs)).length = nameN xs := by rw [List.length_take]; omega
  have c2 := trimL_prog (xs.take (nameN xs)) (by omega)
  have gd : ∀ i, i < nameN xs → (xs.take (nameN xs)).getD i 0 = xs.getD i 0 := fun i hi => by
    rw [List.getD_eq_getElem?_getD, List.getElem?_take, if_pos hi, List.getD_eq_getElem?_getD]
  have gz : ∀ i, nameN xs ≤ i → i < xs.length → xs.getD i 0 = 0 := fun i h1 h2 => Classical.byContradiction fun h => by
    have : i < nameN xs := trimN_gt h xs.length h2
    omega
  generalize xs.take (nameN xs) = Y at *
  generalize nameN xs = N at *
  refine rcalls Tryd.func54 rfl (by decide) ?_
  refine ⟨fun c => ?_, fun c => ?_⟩
  · have f1 : (xs.length : Int) = 0 := yes c
    exact ⟨[], [], _, lehN _, .nilI .u8, ⟨[], rfl, fun _ i hi => by omega, fun _ => rfl⟩, rfl⟩
  have f1 : ¬ (xs.length : Int) = 0 := no c
  refine ⟨fun c2 => absurd (yes c2) (by decide), fun _ => ?_⟩
  refine ⟨fun _ => ?_, fun e => absurd rfl (no e)⟩
  refine ⟨⟨by decide, by decide⟩, ?_⟩
  refine ⟨fun _ => ?_, fun e => absurd (by decide) (no e)⟩
  refine .inr ⟨6, by decide +kernel, ?_⟩
  refine ⟨_, rfl, ?_⟩
  refine ⟨_, rfl, ?_⟩
  refine ⟨_, ⟨⟨by decide, by decide⟩, rfl⟩, ?_⟩
  refine ⟨_, ⟨[], _, c1, by rintro r h ⟨rfl, rfl⟩; exact ⟨.inl rfl, rfl, rfl⟩⟩, ?_⟩
  refine ⟨_, rfl, ?_⟩
  refine ⟨_, ⟨⟨by decide, by decide⟩, rfl⟩, ?_⟩
  refine ⟨[], _, c2, ?_⟩
  rintro r hh ⟨⟨k, h1, rfl, h3, h4⟩, rfl⟩
  refine ⟨.inl rfl, ?_⟩
  refine ⟨[], [], _, lehN _, .same _ trivial, ⟨Y.drop k, rfl, fun h i hi => ?_, fun h => ?_⟩, rfl⟩
  · rw [List.length_drop] at h
    rcases Nat.lt_or_ge i N with g | g
    · rw [← gd i g]; exact h3 i (by omega)
    · exact gz i g hi
  · rw [List.length_drop]
    rcases Nat.lt_or_ge k Y.length with g | g
    · exact absurd ((gd k (by omega)).trans (h k (by omega))) (h4 g)
    · omega

set_option maxRecDepth 10000 in
theorem trim_nil : ACalls Tryd.prog 54 [.raw (.slice none 0 0), str ⟨#[0]⟩] [] (fun r h => r = .raw (.slice none 0 0) ∧ h = []) := by
  refine rcalls Tryd.func54 rfl (by decide) ?_
  refine ⟨fun c => ?_, fun c => absurd rfl (no c)⟩
  exact ⟨[], [], _, lehN _, .raw _, rfl, rfl⟩

set_option maxRecDepth 10000 in
theorem blank_prog (xs : List Int) (hl : xs.length ≤ 281474976710656) : ACalls Tryd.prog 28 [.roI .u8 xs] [] (fun r h => r = bool (decide (∀ i, i < xs.length → xs.getD i 0 = 0)) ∧ h = []) := by
  have c1 := trim_prog xs hl
  refine rcalls Tryd.func28 rfl (by decide) ?_
  refine ⟨[], _, c1, ?_⟩
  rintro r hh ⟨⟨ys, rfl, e⟩, rfl⟩
  refine ⟨.inl rfl, ?_⟩
  refine ⟨[], [], _, lehN _, leP ?_, rfl, rfl⟩
  rw [← e]; omega

set_option maxRecDepth 10000 in
theorem blank_nil : ACalls Tryd.prog 28 [.raw (.slice none 0 0)] [] (fun r h => r = .tt ∧ h = []) := by
  have c1 := trim_nil
  refine rcalls Tryd.func28 rfl (by decide) ?_
  refine ⟨[], _, c1, ?_⟩
  rintro r hh ⟨rfl, rfl⟩
  refine ⟨.inl rfl, ?_⟩
  exact ⟨[], [], _, lehN _, leTT rfl, rfl, rfl⟩


set_option maxHeartbeats 2000000 in
set_option maxRecDepth 10000 in
theorem rounds_prog (n : Int) (b : List Int) (hn : -9223372036854775808 ≤ n ∧ n < 9223372036854775808) (hb : ∀ x ∈ b, 0 ≤ x ∧ x < 256) (hl : b.length ≤ 281474976710656) :
    ACalls Tryd.prog 9 [int .i64 n, .roI .u8 b] [] (fun r h => r = .tt ∧ h = []) := by
  obtain ⟨N, eN, hN⟩ : ∃ N : Int, Int.tmod n 100000 = N ∧ -100000 < N ∧ N < 100000 := by
    have h1 := Int.tmod_lt_of_pos n (b := 100000) (by decide)
    have h2 := Int.lt_tmod_of_pos n (b := 100000) (by decide)
    exact ⟨_, rfl, h2, h1⟩
  have h1 := round_prog (n.tmod 100000) (by omega)
  have h2 := round_ref (n.tmod 100000) (by omega)
  have h3 := blank_prog b hl
  have h4 := blank_nil
  have hR : 0 ≤ rndZ (n.tmod 100000) ∧ rndZ (n.tmod 100000) < 200000 ∧ n.tmod 100000 ≤ rndZ (n.tmod 100000) ∧ rndZ (n.tmod 100000) % 512 = 0 ∧ (rndZ (n.tmod 100000) = 0 ∨ rndZ (n.tmod 100000) - 512 < n.tmod 100000) := by
    unfold rndZ
    rw [eN]
    refine ⟨by omega, by omega, by omega, by omega, by omega⟩
  generalize rndZ (n.tmod 100000) = R at *
  refine rcalls Tryd.func9 rfl (by decide) ?_
  refine ⟨[], _, hd_awake, ?_⟩
  rintro r hh ⟨rfl, rfl⟩
  refine ⟨.inl rfl, ?_⟩
  refine ⟨by decide, ?_⟩
  refine ⟨[], _, h1, ?_⟩
  rintro r hh ⟨rfl, rfl⟩
  refine ⟨.inl rfl, ?_⟩
  refine ⟨Nat, fun k => [(0, int .i64 n), (1, .roI .u8 b), (5, .tt), (6, int .i64 R), (7, bool (decide (∀ i, i < k → b.getD i 0 = 0))), (8, int .i64 k)], fun _ => [], fun k => k ≤ b.length, fun k => b.length - k,
    ⟨0, [], Nat.zero_le _, lehN _, ⟨leI rfl, leRo rfl, .tt, leI rfl, ?_, leI rfl, trivial⟩⟩, ?_⟩
  · exact leTB (decide_eq_true fun i hi => by omega)
  intro k hk
  have hk : k ≤ b.length := hk
  refine ⟨fun c => ?_, fun c => ?_⟩
  · have f1 : (k : Int) < b.length := yes c
    have e1 : IntKind.i64.wrap ((k : Int) + 1) = ((k + 1 : Nat) : Int) := by rw [w64 (by omega) (by omega)]; omega
    refine ⟨fun c2 => ?_, fun c2 => ?_⟩
    · have f2 := yes c2
      refine ⟨⟨by omega, by omega⟩, ?_⟩
      refine ⟨trivial, k + 1, [], by show k + 1 ≤ b.length; omega, by show b.length - (k + 1) < b.length - k; omega, lehN _, ⟨leI rfl, leRo rfl, .tt, leI rfl, leP ?_, leI e1, trivial⟩⟩
      show b.getD (k : Int).toNat 0 = 0 ↔ _
      rw [Int.toNat_natCast]
      exact ⟨fun h i hi => if e : i = k then e ▸ h else f2 i (by omega), fun h => h k (Nat.lt_succ_self k)⟩
    · have f2 := no c2
      refine ⟨trivial, k + 1, [], by show k + 1 ≤ b.length; omega, by show b.length - (k + 1) < b.length - k; omega, lehN _, ⟨leI rfl, leRo rfl, .tt, leI rfl, leFP fun h => f2 fun i hi => h i (by omega), leI e1, trivial⟩⟩
  · have f1 : ¬ (k : Int) < b.length := no c
    obtain rfl : k = b.length := by omega
    refine ⟨by decide, ?_⟩
    refine ⟨[], _, h2, ?_⟩
    rintro r hh ⟨rfl, rfl⟩
    refine ⟨.inl rfl, ?_⟩
    obtain ⟨r1, r2, r3, r4, r5⟩ := hR
    have r4 : R.tmod 512 = 0 := by rw [Int.tmod_eq_emod_of_nonneg r1]; exact r4
    refine ⟨fun _ => ?_, fun e => absurd rfl (no e)⟩
    refine ⟨by decide, ?_⟩
    refine ⟨fun _ => ?_, fun e => absurd r4 (no e)⟩
    refine ⟨by decide, ?_⟩
    refine ⟨fun _ => ?_, fun e => absurd r3 (no e)⟩
    refine ⟨fun _ => ?_, fun e => absurd r1 (no e)⟩
    refine ⟨fun c => ?_, fun c => ?_⟩
    · refine ⟨[], _, h3, ?_⟩
      rintro r hh ⟨rfl, rfl⟩
      refine ⟨.inl rfl, ?_⟩
      refine ⟨fun _ => ?_, fun e => absurd (beq_iff_eq.2 rfl) (by rw [e]; decide)⟩
      refine ⟨[], _, h4, ?_⟩
      rintro r hh ⟨rfl, rfl⟩
      refine ⟨.inl rfl, ?_⟩
      exact ⟨[], [], .tt, lehN _, .tt, rfl, rfl⟩
    · refine ⟨by decide, ?_⟩
      refine ⟨fun _ => ?_, fun e => ?_⟩
      · refine ⟨[], _, h3, ?_⟩
        rintro r hh ⟨rfl, rfl⟩
        refine ⟨.inl rfl, ?_⟩
        refine ⟨fun _ => ?_, fun e => absurd (beq_iff_eq.2 rfl) (by rw [e]; decide)⟩
        refine ⟨[], _, h4, ?_⟩
        rintro r hh ⟨rfl, rfl⟩
        refine ⟨.inl rfl, ?_⟩
        exact ⟨[], [], .tt, lehN _, .tt, rfl, rfl⟩
      · have g := no e
        have f3 : ¬ R = 0 := no c
        rw [w64 (by omega) (by omega)] at g
        omega
end
end Go.Proofs.YtkchfbnkdpdbkaaDoor.Hd

/-
  Archives: what they are, and what files are read out of one. No program in sight.
-/
set_option linter.unusedVariables false
namespace Go.Proofs.YtkchfbnkdpdbkaaDoor.Us
open Go AL Spl Oc Pa Hd

structure Fl where
  path : ByteArray
  data : List Int
def rnd (n : Nat) : Nat := (n + 511) / 512 * 512
def zer (n : Nat) : List Int := List.replicate n 0
def fileR (f : Fl) : List Int := headR f.path f.data.length ++ (f.data ++ zer (rnd f.data.length - f.data.length))
def bodyR (l : List Fl) : List Int := l.flatMap fileR
def okF (f : Fl) : Prop := okHd f.path f.data.length
instance (f : Fl) : Decidable (okF f) := by unfold okF; infer_instance
def dataN (l : List Fl) : Nat := (l.map fun f => f.data.length).sum
def okP (l : List Fl) : Prop := ∀ f ∈ l, okSplit f.path
instance (l : List Fl) : Decidable (okP l) := by unfold okP; infer_instance
def dupF (l : List Fl) : Prop := ¬ (l.map Fl.path).Nodup
instance (l : List Fl) : Decidable (dupF l) := by unfold dupF; infer_instance
def putE (l : List Fl) : Int := if okP l then (if dupF l then 7 else 0) else 9
def putR (l : List Fl) : List Int := if putE l = 0 then bodyR l ++ zer 1024 else []
/-- Lists of files that are small enough. -/
def fitL (l : List Fl) : Prop := l.length ≤ 400 ∧ dataN l ≤ 4194304

theorem rnd_ge (n : Nat) : n ≤ rnd n := by unfold rnd; omega
theorem rnd_mod (n : Nat) : rnd n % 512 = 0 := by unfold rnd; omega
theorem zer_len (n : Nat) : (zer n).length = n := List.length_replicate
theorem data_mem {l : List Fl} {f : Fl} (h : f ∈ l) : f.data.length ≤ dataN l := by
  unfold dataN
  induction l with
  | nil => cases h
  | cons g l ih =>
    rw [List.map_cons, List.sum_cons]
    rcases List.mem_cons.1 h with rfl | h
    · omega
    · have := ih h; omega
theorem okF_of {l : List Fl} (hf : dataN l ≤ 4194304) (h : okP l) : ∀ f ∈ l, okF f := fun f hm => ⟨h f hm, by omega, by have := data_mem hm; omega⟩
theorem okP_of {l : List Fl} (h : ∀ f ∈ l, okF f) : okP l := fun f hm => (h f hm).1
theorem file_len {f : Fl} (h : okF f) : (fileR f).length = 512 + rnd f.data.length := by
  unfold fileR
  rw [List.length_append, List.length_append, zer_len, head_len h]
  have := rnd_ge f.data.length
  omega
theorem body_cons (f : Fl) (l : List Fl) : bodyR (f :: l) = fileR f ++ bodyR l := rfl
theorem body_app (l m : List Fl) : bodyR (l ++ m) = bodyR l ++ bodyR m := List.flatMap_append
theorem body_mod : ∀ {l : List Fl}, (∀ f ∈ l, okF f) → (bodyR l).length % 512 = 0
  | [], _ => rfl
  | f :: l, h => by
    have h1 := file_len (h f (by simp))
    have h2 := body_mod (l := l) fun g hg => h g (by simp [hg])
    have h3 := rnd_mod f.data.length
    rw [body_cons, List.length_append]
    omega
theorem body_data : ∀ {l : List Fl}, (∀ f ∈ l, okF f) → 512 * l.length + dataN l ≤ (bodyR l).length
  | [], _ => Nat.le_refl _
  | f :: l, h => by
    have h1 := file_len (h f (by simp))
    have h2 := body_data (l := l) fun g hg => h g (by simp [hg])
    have h3 := rnd_ge f.data.length
    rw [body_cons, List.length_append]
    have : dataN (f :: l) = f.data.length + dataN l := rfl
    rw [List.length_cons]
    omega

/-- One file at the front of bytes. -/
def one (b : List Int) : Prop := 1024 < b.length ∧ getEr (b.take 512) = 0 ∧ rnd (getN (b.take 512)).toNat ≤ b.length - 512 ∧
  ((b.drop 512).take (rnd (getN (b.take 512)).toNat)).drop (getN (b.take 512)).toNat = zer (rnd (getN (b.take 512)).toNat - (getN (b.take 512)).toNat)
noncomputable def oneF (b : List Int) : Fl := ⟨getS (b.take 512), (b.drop 512).take (getN (b.take 512)).toNat⟩
noncomputable def restF (b : List Int) : List Int := b.drop (512 + rnd (getN (b.take 512)).toNat)
/-- Files, and then the end. -/
def arc (b : List Int) (l : List Fl) : Prop := (∀ f ∈ l, okF f) ∧ b = bodyR l ++ zer 1024

theorem arc_nil {b : List Int} : arc b [] ↔ b = zer 1024 :=
  ⟨fun h => h.2, fun h => ⟨fun f hf => (by cases hf), h⟩⟩
theorem arc_len {b : List Int} {l : List Fl} (h : arc b l) : 1024 ≤ b.length ∧ b.length % 512 = 0 ∧ (l ≠ [] → 1024 < b.length) := by
  obtain ⟨h1, rfl⟩ := h
  have h2 := body_mod h1
  rw [List.length_append, zer_len]
  refine ⟨by omega, by omega, fun hne => ?_⟩
  match l, hne with
  | f :: l, _ =>
    have := file_len (h1 f (by simp))
    rw [body_cons, List.length_append]
    omega
theorem oneF_data {b : List Int} (h : one b) : (oneF b).data.length = (getN (b.take 512)).toNat ∧ ((oneF b).data.length : Int) = getN (b.take 512) ∧ okF (oneF b) := by
  obtain ⟨h1, h2, h3, h4⟩ := h
  obtain ⟨g1, g2, g3⟩ := get_ok h2
  have e1 : (oneF b).data.length = (getN (b.take 512)).toNat := by
    unfold oneF
    dsimp only
    rw [List.length_take, List.length_drop]
    have := rnd_ge (getN (b.take 512)).toNat
    omega
  have e2 : ((oneF b).data.length : Int) = getN (b.take 512) := by rw [e1]; have := g1.2.1; omega
  refine ⟨e1, e2, ?_⟩
  show okHd (getS (b.take 512)) ((oneF b).data.length : Int)
  rw [e2]; exact g1
theorem one_split {b : List Int} (h : one b) : b = fileR (oneF b) ++ restF b := by
  obtain ⟨e1, e2, _⟩ := oneF_data h
  obtain ⟨h1, h2, h3, h4⟩ := h
  obtain ⟨g1, g2, g3⟩ := get_ok h2
  have hn := rnd_ge (getN (b.take 512)).toNat
  have hh : headR (oneF b).path ((oneF b).data.length : Int) = b.take 512 := by
    rw [e2]; exact g2
  unfold fileR
  rw [hh, e1]
  have hz : (oneF b).data ++ zer (rnd (getN (b.take 512)).toNat - (getN (b.take 512)).toNat) = (b.drop 512).take (rnd (getN (b.take 512)).toNat) := by
    rw [← h4]
    have : (oneF b).data = ((b.drop 512).take (rnd (getN (b.take 512)).toNat)).take (getN (b.take 512)).toNat := by
      rw [List.take_take, Nat.min_eq_left hn]; rfl
    rw [this, List.take_append_drop]
  rw [hz]
  unfold restF
  rw [← List.drop_drop, List.append_assoc, List.take_append_drop, List.take_append_drop]
theorem one_file {f : Fl} {r : List Int} (hf : okF f) (hr : 512 < r.length + rnd f.data.length) : one (fileR f ++ r) ∧ oneF (fileR f ++ r) = f ∧ restF (fileR f ++ r) = r := by
  have hl := file_len hf
  have hhl := head_len hf
  have t : (fileR f ++ r).take 512 = headR f.path f.data.length := by
    unfold fileR
    rw [List.append_assoc, ← hhl]; exact List.take_left
  obtain ⟨_, g1, g2, g3⟩ := get_head hf
  have hn := rnd_ge f.data.length
  have d : (fileR f ++ r).drop 512 = f.data ++ zer (rnd f.data.length - f.data.length) ++ r := by
    unfold fileR
    rw [List.append_assoc, ← hhl]
    exact List.drop_left
  have e : (getN ((fileR f ++ r).take 512)).toNat = f.data.length := by rw [t, g2]; omega
  have d2 : ((fileR f ++ r).drop 512).take (rnd f.data.length) = f.data ++ zer (rnd f.data.length - f.data.length) := by
    rw [d]
    have : (f.data ++ zer (rnd f.data.length - f.data.length)).length = rnd f.data.length := by rw [List.length_append, zer_len]; omega
    have h2 := @List.take_left _ (f.data ++ zer (rnd f.data.length - f.data.length)) r
    rw [this] at h2
    exact h2
  refine ⟨⟨?_, by rw [t]; exact g3, ?_, ?_⟩, ?_, ?_⟩
  · rw [List.length_append]; omega
  · rw [e, List.length_append]; omega
  · rw [e, d2]; exact List.drop_left
  · unfold oneF
    rw [e, t, g1, d, List.append_assoc, List.take_left]
  · unfold restF
    rw [e, ← hl]; exact List.drop_left
theorem arc_cons {b : List Int} {f : Fl} {l : List Fl} : arc b (f :: l) ↔ one b ∧ oneF b = f ∧ arc (restF b) l := by
  constructor
  · rintro ⟨h1, h2⟩
    have e : b = fileR f ++ (bodyR l ++ zer 1024) := by rw [h2, body_cons, List.append_assoc]
    obtain ⟨g1, g2, g3⟩ := one_file (f := f) (r := bodyR l ++ zer 1024) (h1 f (by simp)) (by rw [List.length_append, zer_len]; omega)
    rw [← e] at g1 g2 g3
    exact ⟨g1, g2, fun g hg => h1 g (by simp [hg]), g3⟩
  · rintro ⟨h1, rfl, h2, h3⟩
    refine ⟨fun g hg => ?_, ?_⟩
    · rcases List.mem_cons.1 hg with rfl | hg
      · exact (oneF_data h1).2.2
      · exact h2 g hg
    · rw [body_cons, List.append_assoc, ← h3]
      exact one_split h1
theorem arc_inj : ∀ {l m : List Fl} {b : List Int}, arc b l → arc b m → l = m
  | [], [], _, _, _ => rfl
  | [], f :: m, b, h, g => by
    have h1 := (arc_len g).2.2 (by simp)
    have h := arc_nil.1 h
    rw [h, zer_len] at h1
    omega
  | f :: l, [], b, h, g => by
    have h1 := (arc_len h).2.2 (by simp)
    have g := arc_nil.1 g
    rw [g, zer_len] at h1
    omega
  | f :: l, f' :: m, b, h, g => by
    obtain ⟨h1, h2, h3⟩ := arc_cons.1 h
    obtain ⟨g1, g2, g3⟩ := arc_cons.1 g
    rw [← h2, ← g2, arc_inj h3 g3]
theorem arc_app {l m : List Fl} {r : List Int} (hl : ∀ f ∈ l, okF f) (h : arc (bodyR l ++ r) m) (hr : 1024 ≤ r.length) : ∃ m', m = l ++ m' ∧ arc r m' := by
  induction l generalizing m with
  | nil => exact ⟨m, rfl, h⟩
  | cons f l ih =>
    rw [body_cons, List.append_assoc] at h
    have hf := hl f (by simp)
    obtain ⟨g1, g2, g3⟩ := one_file (f := f) (r := bodyR l ++ r) hf (by rw [List.length_append]; omega)
    match m, h with
    | [], h =>
      have h := arc_nil.1 h
      have := g1.1
      rw [h, zer_len] at this
      omega
    | f' :: m, h =>
      obtain ⟨h1, h2, h3⟩ := arc_cons.1 h
      rw [g2] at h2
      rw [g3] at h3
      subst h2
      obtain ⟨m', e, h4⟩ := ih (fun g hg => hl g (by simp [hg])) h3
      exact ⟨m', by rw [e]; rfl, h4⟩

/-! What files bytes are the archive of. -/
def isArc (b : List Int) (l : List Fl) : Prop := arc b l ∧ ¬ dupF l ∧ fitL l
open Classical in
noncomputable def getL (b : List Int) : List Fl := if h : ∃ l, isArc b l then h.choose else []
open Classical in
noncomputable def getE (b : List Int) : Int := if ∃ l, isArc b l then 0 else 2
theorem get_is {b : List Int} {l : List Fl} (h : isArc b l) : getL b = l ∧ getE b = 0 := by
  have he : ∃ l, isArc b l := ⟨l, h⟩
  refine ⟨?_, ?_⟩
  · unfold getL
    rw [dif_pos he]
    exact arc_inj he.choose_spec.1 h.1
  · unfold getE; rw [if_pos he]
theorem get_not {b : List Int} (h : ¬ ∃ l, isArc b l) : getL b = [] ∧ getE b = 2 := by
  refine ⟨?_, ?_⟩
  · unfold getL; rw [dif_neg h]
  · unfold getE; rw [if_neg h]
theorem putE_ok {l : List Fl} : putE l = 0 ↔ okP l ∧ ¬ dupF l := by
  unfold putE
  by_cases h : okP l
  · rw [if_pos h]
    by_cases g : dupF l
    · rw [if_pos g]; exact ⟨fun x => by omega, fun x => absurd g x.2⟩
    · rw [if_neg g]; exact ⟨fun _ => ⟨h, g⟩, fun _ => rfl⟩
  · rw [if_neg h]; exact ⟨fun x => by omega, fun x => absurd x.1 h⟩
/-- What is put is got. -/
theorem put_get {l : List Fl} (hf : fitL l) (h : putE l = 0) : isArc (putR l) l := by
  obtain ⟨h1, h2⟩ := putE_ok.1 h
  unfold putR
  rw [if_pos h]
  exact ⟨⟨okF_of hf.2 h1, rfl⟩, h2, hf⟩
/-- What is got is put as it stood. -/
theorem get_put {b : List Int} {l : List Fl} (h : isArc b l) : putE l = 0 ∧ putR l = b := by
  have h0 : putE l = 0 := putE_ok.2 ⟨okP_of h.1.1, h.2.1⟩
  refine ⟨h0, ?_⟩
  unfold putR
  rw [if_pos h0]
  exact h.1.2.symm
theorem getE_cases (b : List Int) : (∃ l, isArc b l ∧ getL b = l ∧ getE b = 0) ∨ (¬ ∃ l, isArc b l) ∧ getL b = [] ∧ getE b = 2 := by
  by_cases h : ∃ l, isArc b l
  · obtain ⟨l, h⟩ := h
    exact .inl ⟨l, h, get_is h⟩
  · exact .inr ⟨h, get_not h⟩

/-! No beginning of an archive is one, and nothing that begins with one. -/
theorem zer_app (a b : Nat) : zer a ++ zer b = zer (a + b) := List.replicate_append_replicate ..
theorem zer_head : getEr (zer 512) ≠ 0 := fun h => by
  obtain ⟨h1, h2, _⟩ := get_ok h
  have h3 := head_sum h1
  rw [h2] at h3
  have h4 := congrArg (fun l : List Int => l.getLast?) h3
  unfold sumF at h4
  rw [List.getLast?_append] at h4
  revert h4
  decide
theorem zer_more {r : List Int} {l : List Fl} (h : arc (zer 1024 ++ r) l) : r = [] := by
  match l, h with
  | [], h =>
    have h := congrArg List.length (arc_nil.1 h)
    rw [List.length_append, zer_len] at h
    exact List.eq_nil_of_length_eq_zero (by omega)
  | f :: l, h =>
    have h1 := (arc_cons.1 h).1.2.1
    have : (zer 1024 ++ r).take 512 = zer 512 := by
      rw [show (1024 : Nat) = 512 + 512 from rfl, ← zer_app, List.append_assoc]
      have := @List.take_left _ (zer 512) (zer 512 ++ r)
      rw [zer_len] at this
      exact this
    rw [this] at h1
    exact absurd h1 zer_head
theorem arc_more {b r : List Int} {l m : List Fl} (h : arc b l) (g : arc (b ++ r) m) : r = [] := by
  obtain ⟨h1, rfl⟩ := h
  rw [List.append_assoc] at g
  obtain ⟨m', _, h2⟩ := arc_app h1 g (by rw [List.length_append, zer_len]; omega)
  exact zer_more h2
theorem cut_none {b : List Int} {l : List Fl} (h : arc b l) {k : Nat} (hk : k < b.length) : getE (b.take k) = 2 := by
  refine (get_not ?_).2
  rintro ⟨m, hm⟩
  have h2 : arc (b.take k ++ b.drop k) l := by rw [List.take_append_drop]; exact h
  have := arc_more hm.1 h2
  have := congrArg List.length this
  rw [List.length_drop] at this
  simp at this
  omega
theorem more_none {b r : List Int} {l : List Fl} (h : arc b l) (hr : r ≠ []) : getE (b ++ r) = 2 := by
  refine (get_not ?_).2
  rintro ⟨m, hm⟩
  exact hr (arc_more h hm.1)
theorem put_app {l m : List Fl} (hl : putE l = 0) (hm : putE m = 0) : putE (l ++ m) = 0 ∧ putR (l ++ m) = (putR l).take ((putR l).length - 1024) ++ putR m ∨ putE (l ++ m) = 7 := by
  have h1 := putE_ok.1 hl
  have h2 := putE_ok.1 hm
  have hp : okP (l ++ m) := fun f hf => by
    rcases List.mem_append.1 hf with hf | hf
    · exact h1.1 f hf
    · exact h2.1 f hf
  by_cases hd : dupF (l ++ m)
  · right
    unfold putE
    rw [if_pos hp, if_pos hd]
  · left
    have h0 : putE (l ++ m) = 0 := putE_ok.2 ⟨hp, hd⟩
    refine ⟨h0, ?_⟩
    unfold putR
    rw [if_pos h0, if_pos hl, if_pos hm, body_app, List.length_append, zer_len, Nat.add_sub_cancel, List.take_left, List.append_assoc]
theorem put_app_no {l m : List Fl} (h : putE l ≠ 0 ∨ putE m ≠ 0) : putE (l ++ m) ≠ 0 := fun h0 => by
  obtain ⟨g1, g2⟩ := putE_ok.1 h0
  unfold dupF at g2
  rw [Classical.not_not, List.map_append] at g2
  obtain ⟨n1, n2, _⟩ := List.nodup_append.1 g2
  rcases h with h | h
  · exact h (putE_ok.2 ⟨fun f hf => g1 f (by simp [hf]), fun x => x n1⟩)
  · exact h (putE_ok.2 ⟨fun f hf => g1 f (by simp [hf]), fun x => x n2⟩)
/-- How many bytes an archive has. -/
def sizeN (l : List Nat) : Nat := 1024 + (l.map fun n => 512 + rnd n).sum
theorem body_size : ∀ {l : List Fl}, (∀ f ∈ l, okF f) → (bodyR l).length = (l.map fun f => 512 + rnd f.data.length).sum
  | [], _ => rfl
  | f :: l, h => by
    rw [body_cons, List.length_append, file_len (h f (by simp)), body_size fun g hg => h g (by simp [hg]), List.map_cons, List.sum_cons]
theorem put_size {l : List Fl} (hf : fitL l) (h : putE l = 0) : (putR l).length = sizeN (l.map fun f => f.data.length) := by
  unfold putR sizeN
  rw [if_pos h, List.length_append, zer_len, body_size (okF_of hf.2 (putE_ok.1 h).1), List.map_map]
  show _ + _ = _ + (l.map fun f => 512 + rnd f.data.length).sum
  omega

end Go.Proofs.YtkchfbnkdpdbkaaDoor.Us

/-
  The contracts of slices.Clone, slices.Grow and slices.Concat of bytes.
-/
set_option linter.unusedVariables false
set_option linter.unusedSectionVars false
namespace Go.Proofs.YtkchfbnkdpdbkaaDoor.Us
open Go AL Oc Pa Spl Hd

/-- The first so many rows, one behind the other. -/
def catN (ls : List (List Int)) (k : Nat) : List Int := (ls.take k).flatten
theorem cat_succ {ls : List (List Int)} {k : Nat} (h : k < ls.length) : catN ls (k + 1) = catN ls k ++ ls.getD k [] := by
  unfold catN
  rw [List.take_succ_eq_append_getElem h, List.flatten_append, List.getD_eq_getElem?_getD, List.getElem?_eq_getElem h]
  simp
theorem cat_all (ls : List (List Int)) : catN ls ls.length = ls.flatten := by unfold catN; rw [List.take_length]
theorem cat_le {ls : List (List Int)} (k : Nat) : (catN ls k).length ≤ ls.flatten.length := by
  have : ls.flatten = (ls.take k).flatten ++ (ls.drop k).flatten := by rw [← List.flatten_append, List.take_append_drop]
  rw [this, List.length_append]; exact Nat.le_add_right _ _
section
variable [Globs]

set_option maxRecDepth 10000 in
theorem clone_prog (xs : List Int) (hl : xs.length ≤ 140737488355328) : ACalls Tryd.prog 55 [.roI .u8 xs] [] (fun r h => r = .own 0 0 xs.length 1 ∧ h = [.ints .u8 xs]) := by
  refine rcalls Tryd.func55 rfl (by decide) ?_
  refine ⟨fun c => ?_, ?_⟩
  · obtain rfl := List.eq_nil_of_length_eq_zero c
    exact ⟨[0], [.ints .u8 []], .own 0 0 0 1, lehE (Nat.le_refl _) .u8, .nil _ _ (by decide), rfl, rfl⟩
  refine ⟨rfl, by show (0 + xs.length) * 1 ≤ _; omega, ?_⟩
  exact ⟨[1], [.ints .u8 xs], .own 0 0 xs.length 1, leh1 rfl (leOint rfl), leOwn rfl rfl (Nat.zero_add _), rfl, rfl⟩

set_option maxRecDepth 10000 in
theorem grow_prog (n : Int) (h0 : 0 ≤ n) (hl : n ≤ 140737488355328) : ACalls Tryd.prog 78 [.raw (.slice none 0 0), int .i64 n] [] (fun r h => r = .own 0 0 0 1 ∧ h = [.ints .u8 []]) := by
  refine rcalls Tryd.func78 rfl (by decide) ?_
  refine ⟨fun c => ?_, fun c => ?_⟩
  · have := yes c; omega
  have e0 : IntKind.i64.wrap (0 - 0) = 0 := by rw [w64 (by omega) (by omega)]; rfl
  have e1 : IntKind.i64.wrap (n - IntKind.i64.wrap (0 - 0)) = n := by rw [e0, w64 (by omega) (by omega)]; omega
  refine ⟨fun c => ?_, fun c => ?_⟩
  · refine ⟨⟨by decide, by decide⟩, ?_⟩
    refine ⟨by rw [e1]; exact ⟨h0, hl⟩, rfl, ?_, ?_⟩
    · rw [e1]; show (List.replicate n.toNat (0 : Int)).length * 1 ≤ _; rw [List.length_replicate]; omega
    refine ⟨⟨by decide, by omega⟩, ?_⟩
    exact ⟨[0], [.ints .u8 []], .own 0 0 0 1, leh1 rfl (.intsT _ _ _ 0 rfl), leOwn rfl rfl rfl, rfl, rfl⟩
  · exact ⟨[0], [.ints .u8 []], .own 0 0 0 1, lehE (Nat.le_refl _) .u8, .nil _ _ (by decide), rfl, rfl⟩

set_option maxHeartbeats 1000000 in
set_option maxRecDepth 10000 in
theorem concat_prog (ls : List (List Int)) (hn : ls.length ≤ 1000) (hl : ls.flatten.length ≤ 140737488355328) : ACalls Tryd.prog 56 [.ro ls.length 1 fun i => .roI .u8 (ls.getD i [])] [] (fun r h => r = .own 0 0 ls.flatten.length 1 ∧ h = [.ints .u8 ls.flatten]) := by
  have hs := @cat_succ ls
  have hle := @cat_le ls
  have ha := cat_all ls
  have h0 : catN ls 0 = [] := rfl
  generalize catN ls = F at *
  refine rcalls Tryd.func56 rfl (by decide) ?_
  refine ⟨Nat, fun k => [(0, .ro ls.length 1 fun i => .roI .u8 (ls.getD i [])), (9, .ro ls.length 1 fun i => .roI .u8 (ls.getD i [])), (10, int .i64 ls.length), (11, int .i64 k), (3, int .i64 (F k).length)], fun _ => [], fun k => k ≤ ls.length, fun k => ls.length - k,
    ⟨0, [], Nat.zero_le _, lehN _, ⟨.same _ trivial, .same _ trivial, leI rfl, leI rfl, leI (by rw [h0]; rfl), trivial⟩⟩, ?_⟩
  intro k hk
  have hk : k ≤ ls.length := hk
  have e1 : IntKind.i64.wrap ((k : Int) + 1) = ((k + 1 : Nat) : Int) := by rw [w64 (by omega) (by omega)]; omega
  refine ⟨fun c => ?_, fun c => ?_⟩
  · have f1 : (k : Int) < ls.length := yes c
    have hs := hs (k := k) (by omega)
    have hle := hle (k + 1)
    rw [hs, List.length_append] at hle
    have ek : (k : Int).toNat * 1 + 0 = k := by omega
    refine ⟨⟨by omega, by omega⟩, ?_⟩
    have e2 : IntKind.i64.wrap (((F k).length : Int) + ((ls.getD ((k : Int).toNat * 1 + 0) []).length : Int)) = ((F (k + 1)).length : Int) := by
      rw [ek, w64 (by omega) (by omega), hs, List.length_append]; omega
    refine ⟨fun c2 => ?_, fun c2 => ?_⟩
    · have := yes c2; rw [e2] at this; omega
    exact ⟨trivial, k + 1, [], by show k + 1 ≤ ls.length; omega, by show ls.length - (k + 1) < ls.length - k; omega, lehN _, ⟨.same _ trivial, .same _ trivial, leI rfl, leI e1, leI e2, trivial⟩⟩
  have f1 : ¬ (k : Int) < ls.length := no c
  obtain rfl : k = ls.length := by omega
  refine ⟨[], _, grow_prog _ (by omega) (by rw [ha]; omega), ?_⟩
  rintro r hh ⟨rfl, rfl⟩
  refine ⟨.inl rfl, ?_⟩
  refine ⟨Nat, fun k => [(0, .ro ls.length 1 fun i => .roI .u8 (ls.getD i [])), (25, .ro ls.length 1 fun i => .roI .u8 (ls.getD i [])), (26, int .i64 ls.length), (27, int .i64 k), (6, .own 0 0 (F k).length 1)], fun k => [.ints .u8 (F k)], fun k => k ≤ ls.length, fun k => ls.length - k,
    ⟨0, [0], Nat.zero_le _, leh1 rfl (leOint h0.symm), ⟨.same _ trivial, .same _ trivial, leI rfl, leI rfl, leOwn rfl rfl (by rw [h0]; rfl), trivial⟩⟩, ?_⟩
  intro k hk
  have hk : k ≤ ls.length := hk
  have e1 : IntKind.i64.wrap ((k : Int) + 1) = ((k + 1 : Nat) : Int) := by
    have : k ≤ 1000 := by omega
    rw [w64 (by omega) (by omega)]; omega
  refine ⟨fun c => ?_, fun c => ?_⟩
  · have f1 : (k : Int) < ls.length := yes c
    have hs := hs (k := k) (by omega)
    have hle := hle (k + 1)
    rw [hs, List.length_append] at hle
    have ek : (k : Int).toNat * 1 + 0 = k := by omega
    refine ⟨⟨by omega, by omega⟩, ?_⟩
    refine ⟨rfl, by rw [ek]; show ((F k).length + _) * 1 ≤ _; omega, ?_⟩
    refine ⟨trivial, k + 1, [1], by show k + 1 ≤ ls.length; omega, by show ls.length - (k + 1) < ls.length - k; omega, leh1 rfl (leOint ?_), ⟨.same _ trivial, .same _ trivial, leI rfl, leI e1, leOwn rfl rfl ?_, trivial⟩⟩
    · rw [ek, hs]
    · rw [ek, hs, List.length_append]
  · have f1 : ¬ (k : Int) < ls.length := no c
    obtain rfl : k = ls.length := by omega
    exact ⟨[0], [.ints .u8 ls.flatten], .own 0 0 ls.flatten.length 1, leh1 rfl (leOint ha), leOwn rfl rfl (by rw [ha]), rfl, rfl⟩
end
end Go.Proofs.YtkchfbnkdpdbkaaDoor.Us

/-
  Files as they lie in rows, and how often each path was seen. No program in sight.
-/
set_option linter.unusedVariables false
set_option linter.unusedSectionVars false
namespace Go.Proofs.YtkchfbnkdpdbkaaDoor.Us
open Go AL Oc Pa Spl Hd

def fl0 : Fl := ⟨ByteArray.empty, []⟩
def flC (f : Fl) : Nat → AV
  | 0 => str f.path
  | _ => .roI .u8 f.data
def rowF (l : List Fl) (i : Nat) : AV := flC (l.getD (i / 2) fl0) (i % 2)
abbrev flsV (l : List Fl) : AV := .rs l.length 2 (rowF l)
theorem rowF_at (l : List Fl) {k c : Nat} (h : c < 2) : rowF l (k * 2 + c) = flC (l.getD k fl0) c := by
  unfold rowF
  rw [show (k * 2 + c) / 2 = k by omega, show (k * 2 + c) % 2 = c by omega]
theorem rowF_old (l : List Fl) (e : Fl) {i : Nat} (h : i < l.length * 2) : rowF (l ++ [e]) i = rowF l i := by
  unfold rowF
  have : i / 2 < l.length := by omega
  rw [List.getD_eq_getElem?_getD, List.getElem?_append_left this, List.getD_eq_getElem?_getD]
theorem rowF_new (l : List Fl) (e : Fl) {i : Nat} (h : i < 2) : rowF (l ++ [e]) (l.length * 2 + i) = flC e i := by
  unfold rowF
  have h1 : (l.length * 2 + i) / 2 = l.length := by omega
  have h2 : (l.length * 2 + i) % 2 = i := by omega
  rw [h1, h2, List.getD_eq_getElem?_getD, List.getElem?_append_right (Nat.le_refl _), Nat.sub_self]
  rfl
theorem flC_free (f : Fl) : ∀ c, (flC f c).free
  | 0 => trivial
  | _ + 1 => trivial
theorem flC_cell1 (f : Fl) : ∀ c, cell1 (flC f c) = true
  | 0 => rfl
  | _ + 1 => rfl

/-! Sums, step by step. -/
theorem data_app (l m : List Fl) : dataN (l ++ m) = dataN l + dataN m := by
  unfold dataN; rw [List.map_append, List.sum_append]
theorem take_succ_fl {l : List Fl} {k : Nat} (h : k < l.length) : l.take (k + 1) = l.take k ++ [l.getD k fl0] := by
  rw [List.take_succ_eq_append_getElem h, List.getD_eq_getElem?_getD, List.getElem?_eq_getElem h]; rfl
theorem data_succ {l : List Fl} {k : Nat} (h : k < l.length) : dataN (l.take (k + 1)) = dataN (l.take k) + (l.getD k fl0).data.length := by
  rw [take_succ_fl h, data_app]; rfl
theorem data_le (l : List Fl) (k : Nat) : dataN (l.take k) ≤ dataN l := by
  have := data_app (l.take k) (l.drop k)
  rw [List.take_append_drop] at this
  omega
theorem body_succ {l : List Fl} {k : Nat} (h : k < l.length) : bodyR (l.take (k + 1)) = bodyR (l.take k) ++ fileR (l.getD k fl0) := by
  rw [take_succ_fl h, body_app]
  unfold bodyR; simp
theorem get_mem {l : List Fl} {k : Nat} (h : k < l.length) : l.getD k fl0 ∈ l := by
  rw [List.getD_eq_getElem?_getD, List.getElem?_eq_getElem h]; exact List.getElem_mem h

/-! How often each path was seen. -/
def bump (s : ByteArray) : List (ByteArray × Nat) → List (ByteArray × Nat)
  | [] => [(s, 1)]
  | p :: r => if p.1 = s then (p.1, p.2 + 1) :: r else p :: bump s r
def look (s : ByteArray) : List (ByteArray × Nat) → Option Nat
  | [] => none
  | p :: r => if p.1 = s then some p.2 else look s r
def tally (l : List Fl) : List (ByteArray × Nat) := l.foldl (fun m f => bump f.path m) []
def tallyV (m : List (ByteArray × Nat)) : List (ByteArray × AV) := m.map fun p => (p.1, int .i64 p.2)
theorem tally_snoc (l : List Fl) (f : Fl) : tally (l ++ [f]) = bump f.path (tally l) := by
  unfold tally; rw [List.foldl_append]; rfl
theorem look_getM (s : ByteArray) : ∀ m : List (ByteArray × Nat), getM s (tallyV m) = (look s m).map fun n => int .i64 (n : Nat)
  | [] => rfl
  | p :: r => by
    show (if p.1 = s then some (int .i64 p.2) else getM s (tallyV r)) = _
    unfold look
    by_cases h : p.1 = s
    · rw [if_pos h, if_pos h]; rfl
    · rw [if_neg h, if_neg h]; exact look_getM s r
theorem bump_setM (s : ByteArray) : ∀ m : List (ByteArray × Nat), setM s (int .i64 (((look s m).getD 0 + 1 : Nat) : Int)) (tallyV m) = tallyV (bump s m)
  | [] => rfl
  | p :: r => by
    show (if p.1 = s then (p.1, _) :: tallyV r else (p.1, int .i64 p.2) :: setM s _ (tallyV r)) = _
    unfold look bump
    by_cases h : p.1 = s
    · rw [if_pos h, if_pos h, if_pos h]; rfl
    · rw [if_neg h, if_neg h, if_neg h, bump_setM s r]; rfl
open Classical in
theorem bump_keys (s : ByteArray) : ∀ m : List (ByteArray × Nat), (bump s m).map Prod.fst = if s ∈ m.map Prod.fst then m.map Prod.fst else m.map Prod.fst ++ [s]
  | [] => by rw [if_neg (by simp)]; rfl
  | p :: r => by
    unfold bump
    by_cases h : p.1 = s
    · rw [if_pos h, if_pos (by rw [List.map_cons, h]; exact List.mem_cons_self ..)]; rfl
    · rw [if_neg h, List.map_cons, bump_keys s r]
      by_cases g : s ∈ r.map Prod.fst
      · rw [if_pos g, if_pos (by rw [List.map_cons]; exact List.mem_cons_of_mem _ g)]; rfl
      · rw [if_neg g, if_neg (by
          rw [List.map_cons]; intro x
          rcases List.mem_cons.1 x with x | x
          · exact h x.symm
          · exact g x)]
        rfl
theorem look_le (s t : ByteArray) : ∀ m : List (ByteArray × Nat), ∀ b, (∀ u, (look u m).getD 0 ≤ b) → (look s (bump t m)).getD 0 ≤ b + 1 := by
  intro m b hb
  have key : ∀ m : List (ByteArray × Nat), (look s (bump t m)).getD 0 ≤ (look s m).getD 0 + 1 := by
    intro m
    induction m with
    | nil =>
      unfold bump look
      by_cases h : t = s
      · rw [if_pos h]; exact Nat.le_refl _
      · rw [if_neg h]; exact Nat.zero_le _
    | cons p r ih =>
      unfold bump
      by_cases h : p.1 = t
      · rw [if_pos h]
        unfold look
        by_cases g : p.1 = s
        · rw [if_pos g, if_pos g]; exact Nat.le_refl _
        · rw [if_neg g, if_neg g]; exact Nat.le_succ _
      · rw [if_neg h]
        unfold look
        by_cases g : p.1 = s
        · rw [if_pos g, if_pos g]; exact Nat.le_succ _
        · rw [if_neg g, if_neg g]; exact ih
  exact Nat.le_trans (key m) (Nat.add_le_add_right (hb s) 1)
theorem rev_ind {α : Type} {p : List α → Prop} (h0 : p []) (h1 : ∀ l a, p l → p (l ++ [a])) (l : List α) : p l := by
  have : ∀ m : List α, p m.reverse := fun m => by
    induction m with
    | nil => exact h0
    | cons a m ih => rw [List.reverse_cons]; exact h1 _ _ ih
  have := this l.reverse
  rwa [List.reverse_reverse] at this
theorem tally_look (l : List Fl) (s : ByteArray) : (look s (tally l)).getD 0 ≤ l.length := by
  revert s
  refine rev_ind (p := fun l => ∀ s, (look s (tally l)).getD 0 ≤ l.length) (fun s => Nat.le_refl _) (fun l f ih s => ?_) l
  rw [tally_snoc, List.length_append]
  exact look_le s f.path (tally l) l.length ih
theorem tally_facts (l : List Fl) : (∀ s, s ∈ (tally l).map Prod.fst ↔ s ∈ l.map Fl.path) ∧ (tally l).length ≤ l.length ∧ ((tally l).length = l.length ↔ (l.map Fl.path).Nodup) := by
  refine rev_ind (p := fun l => (∀ s, s ∈ (tally l).map Prod.fst ↔ s ∈ l.map Fl.path) ∧ (tally l).length ≤ l.length ∧ ((tally l).length = l.length ↔ (l.map Fl.path).Nodup)) ⟨fun s => Iff.rfl, Nat.le_refl _, fun _ => List.nodup_nil, fun _ => rfl⟩ (fun l f ⟨i1, i2, i3⟩ => ?_) l
  have hk := bump_keys f.path (tally l)
  have hkl := congrArg List.length hk
  rw [List.length_map] at hkl
  rw [tally_snoc]
  have hlen : (l ++ [f]).length = l.length + 1 := by rw [List.length_append]; rfl
  have hmap : (l ++ [f]).map Fl.path = l.map Fl.path ++ [f.path] := by rw [List.map_append]; rfl
  have hnd : (l.map Fl.path ++ [f.path]).Nodup ↔ (l.map Fl.path).Nodup ∧ f.path ∉ l.map Fl.path := by
    rw [List.nodup_append]
    constructor
    · rintro ⟨a, _, c⟩
      exact ⟨a, fun h => c _ h _ (List.mem_singleton.2 rfl) rfl⟩
    · rintro ⟨a, b⟩
      exact ⟨a, List.nodup_cons.2 ⟨by simp, .nil⟩, fun x hx y hy e => b (by rw [List.mem_singleton.1 hy] at e; rw [← e]; exact hx)⟩
  by_cases h : f.path ∈ (tally l).map Prod.fst
  · rw [if_pos h] at hk hkl
    rw [List.length_map] at hkl
    refine ⟨fun s => ?_, by omega, ?_⟩
    · rw [hk, i1, hmap, List.mem_append, List.mem_singleton]
      exact ⟨.inl, fun x => x.elim id fun e => by rw [e]; exact (i1 _).1 h⟩
    · rw [hmap, hnd, hlen]
      exact ⟨fun e => by omega, fun x => absurd ((i1 _).1 h) x.2⟩
  · rw [if_neg h] at hk hkl
    rw [List.length_append, List.length_map, List.length_singleton] at hkl
    refine ⟨fun s => ?_, by omega, ?_⟩
    · rw [hk, hmap, List.mem_append, List.mem_append, i1]
    · rw [hmap, hnd, hlen, hkl]
      exact ⟨fun e => ⟨i3.1 (by omega), fun x => h ((i1 _).2 x)⟩, fun x => by have := i3.2 x.1; omega⟩
theorem tally_dup (l : List Fl) : (tally l).length < l.length ↔ dupF l := by
  obtain ⟨_, h2, h3⟩ := tally_facts l
  unfold dupF
  rw [← h3]; omega
theorem tallyV_len (m : List (ByteArray × Nat)) : (tallyV m).length = m.length := List.length_map _

end Go.Proofs.YtkchfbnkdpdbkaaDoor.Us

/-
  What is read out of the rest of an archive. No program in sight.
-/
set_option linter.unusedVariables false
set_option linter.unusedSectionVars false
namespace Go.Proofs.YtkchfbnkdpdbkaaDoor.Us
open Go AL Oc Pa Spl Hd

theorem arc_rest {l m : List Fl} {r : List Int} (hl : ∀ f ∈ l, okF f) (h : arc (bodyR l ++ r) m) : 1024 ≤ r.length ∧ r.length % 512 = 0 := by
  induction l generalizing m with
  | nil => exact ⟨(arc_len h).1, (arc_len h).2.1⟩
  | cons f l ih =>
    rw [body_cons, List.append_assoc] at h
    have hf := hl f (by simp)
    have hfl := file_len hf
    have hm := rnd_mod f.data.length
    obtain ⟨a1, a2, a3⟩ := arc_len h
    rw [List.length_append] at a1 a2
    have body : ∀ g ∈ l, okF g := fun g hg => hl g (by simp [hg])
    rcases Nat.lt_or_ge 512 ((bodyR l ++ r).length + rnd f.data.length) with hlt | hge
    · obtain ⟨g1, g2, g3⟩ := one_file (f := f) (r := bodyR l ++ r) hf hlt
      match m, h with
      | [], h =>
        have h := arc_nil.1 h
        have := g1.1
        rw [h, zer_len] at this
        omega
      | f' :: m, h =>
        obtain ⟨h1, h2, h3⟩ := arc_cons.1 h
        rw [g3] at h3
        exact ih body h3
    · exfalso
      match m, h with
      | f' :: m, h =>
        have := a3 (by simp)
        rw [List.length_append] at this
        omega
      | [], h =>
        have h := arc_nil.1 h
        have t : (fileR f ++ (bodyR l ++ r)).take 512 = headR f.path f.data.length := by
          unfold fileR
          rw [List.append_assoc, ← head_len hf]; exact List.take_left
        have z : (zer 1024).take 512 = zer 512 := by unfold zer; rw [List.take_replicate]; rfl
        rw [h, z] at t
        have := (get_head hf).2.2.2
        rw [← t] at this
        exact zer_head this
/-- The end of an archive. -/
theorem arc_end {l m : List Fl} {r : List Int} (hl : ∀ f ∈ l, okF f) (hr : r.length = 1024) (h : arc (bodyR l ++ r) m) : m = l ∧ r = zer 1024 := by
  obtain ⟨m', rfl, h2⟩ := arc_app hl h (by omega)
  have : m' = [] := Classical.byContradiction fun x => by have := (arc_len h2).2.2 x; omega
  subst this
  exact ⟨List.append_nil _, arc_nil.1 h2⟩
/-- One file more. -/
theorem arc_one {l m : List Fl} {r : List Int} (hl : ∀ f ∈ l, okF f) (hr : 1024 < r.length) (h : arc (bodyR l ++ r) m) : one r := by
  obtain ⟨m', _, h2⟩ := arc_app hl h (by omega)
  match m', h2 with
  | [], h2 => rw [arc_nil.1 h2, zer_len] at hr; omega
  | f :: m', h2 => exact (arc_cons.1 h2).1
theorem is_end {b : List Int} {l : List Fl} {r : List Int} (hb : b = bodyR l ++ r) (hl : ∀ f ∈ l, okF f) (hr : r.length = 1024) (hz : r = zer 1024) (hd : ¬ dupF l) (hf : fitL l) : getL b = l ∧ getE b = 0 :=
  get_is (l := l) ⟨⟨hl, by rw [hb, hz]⟩, hd, hf⟩
theorem no_end {b : List Int} {l : List Fl} {r : List Int} (hb : b = bodyR l ++ r) (hl : ∀ f ∈ l, okF f) (hr : r.length = 1024) (h : ¬ (r = zer 1024 ∧ ¬ dupF l ∧ fitL l)) : getL b = [] ∧ getE b = 2 :=
  get_not fun ⟨m, h1, h2, h3⟩ => by
    rw [hb] at h1
    obtain ⟨rfl, e⟩ := arc_end hl hr h1
    exact h ⟨e, h2, h3⟩
theorem no_len {b : List Int} {l : List Fl} {r : List Int} (hb : b = bodyR l ++ r) (hl : ∀ f ∈ l, okF f) (h : r.length < 1024 ∨ ¬ r.length % 512 = 0) : getL b = [] ∧ getE b = 2 :=
  get_not fun ⟨m, h1, _⟩ => by
    rw [hb] at h1
    have := arc_rest hl h1
    omega
theorem no_one {b : List Int} {l : List Fl} {r : List Int} (hb : b = bodyR l ++ r) (hl : ∀ f ∈ l, okF f) (hr : 1024 < r.length) (h : ¬ one r) : getL b = [] ∧ getE b = 2 :=
  get_not fun ⟨m, h1, _⟩ => by
    rw [hb] at h1
    exact h (arc_one hl hr h1)
theorem step_one {b : List Int} {l : List Fl} {r : List Int} (hb : b = bodyR l ++ r) (hl : ∀ f ∈ l, okF f) (h : one r) : b = bodyR (l ++ [oneF r]) ++ restF r ∧ (∀ f ∈ l ++ [oneF r], okF f) ∧ (restF r).length < r.length := by
  refine ⟨?_, fun f hf => ?_, ?_⟩
  · have : bodyR [oneF r] = fileR (oneF r) := by unfold bodyR; simp
    rw [body_app, this, List.append_assoc, ← one_split h]; exact hb
  · rcases List.mem_append.1 hf with hf | hf
    · exact hl f hf
    · rw [List.mem_singleton.1 hf]; exact (oneF_data h).2.2
  · have := h.1
    unfold restF
    rw [List.length_drop]; omega
theorem blank_zer {r : List Int} {n : Nat} (h : r.length = n) : (∀ i, i < r.length → r.getD i 0 = 0) ↔ r = zer n := by
  subst h
  constructor
  · intro h
    apply List.ext_getElem
    · rw [zer_len]
    · intro i h1 h2
      have := h i h1
      rw [List.getD_eq_getElem?_getD, List.getElem?_eq_getElem h1] at this
      have e : (zer r.length)[i] = 0 := List.getElem_replicate ..
      rw [e]; exact this
  · intro h i hi
    rw [h]
    unfold zer
    rw [List.getD_eq_getElem?_getD, List.getElem?_replicate]; split <;> rfl
theorem getN_range (b : List Int) : 0 ≤ getN b ∧ getN b ≤ 4194304 := by
  by_cases h : getEr b = 0
  · exact (get_ok h).1.2
  · rw [(get_no h).2]; decide

end Go.Proofs.YtkchfbnkdpdbkaaDoor.Us

/-
  The contract of ustar.Put.
-/
set_option linter.unusedVariables false
set_option linter.unusedSectionVars false
namespace Go.Proofs.YtkchfbnkdpdbkaaDoor.Us
open Go AL Oc Pa Spl Hd

theorem rndZ_nat (n : Nat) : rndZ (n : Int) = ((rnd n : Nat) : Int) := by unfold rndZ rnd; omega
theorem vroU {n sz : Nat} {f g : Nat → AV} (h : ∀ i, i < n * sz → f i = g i) : VLe (.ro n sz f) (.ro n sz g) := fun w S L v hv => by
  obtain ⟨A, cap, e, hc, hd⟩ := hv
  refine ⟨A, cap, e, hc, fun i hi => ?_⟩
  obtain ⟨u, h1, h2⟩ := hd i hi
  exact ⟨u, h1, by rw [← h i hi]; exact h2⟩
theorem leOmap {h : List AO} {l : List Nat} {x : List (ByteArray × AV)} {m : List (ByteArray × Nat)} (e : x = tallyV m) : LeO h l (.map x) (.map (tallyV m)) := by
  subst e
  refine .map _ _ rfl fun i hi => ⟨rfl, ?_⟩
  obtain ⟨v, hv⟩ : ∃ v, ((tallyV m).getD i mz).2 = .raw v := by
    have hi' : i < m.length := by rw [tallyV_len] at hi; exact hi
    refine ⟨.int .i64 (m[i].2 : Nat), ?_⟩
    unfold tallyV
    rw [List.getD_eq_getElem?_getD, List.getElem?_map, List.getElem?_eq_getElem hi']
    rfl
  rw [hv]; exact .raw _
theorem body_max : ∀ {l : List Fl}, (∀ f ∈ l, okF f) → (bodyR l).length ≤ dataN l + l.length * 1535
  | [], _ => Nat.zero_le _
  | f :: l, h => by
    have h1 := file_len (h f (by simp))
    have h2 := body_max (l := l) fun g hg => h g (by simp [hg])
    have h3 : rnd f.data.length ≤ f.data.length + 511 := by unfold rnd; omega
    rw [body_cons, List.length_append]
    have : dataN (f :: l) = f.data.length + dataN l := rfl
    rw [List.length_cons]
    omega
def okSizes (l : List Fl) : Prop := ∀ f ∈ l, f.path.size ≤ 281474976710656 ∧ ∀ x ∈ f.data, 0 ≤ x ∧ x < 256
section
variable [Globs]

def UPutR (l : List Fl) (r : AV) (h : List AO) : Prop := r = .tup 2 (pair (.own 0 0 (putR l).length 1) (int .i64 (putE l))) ∧ h = [.ints .u8 (putR l)]

set_option maxHeartbeats 4000000 in
set_option maxRecDepth 10000 in
theorem uput_prog (l : List Fl) (hf : fitL l) (hs : okSizes l) : ACalls Tryd.prog 34 [flsV l] [] (UPutR l) := by
  obtain ⟨hl, hd⟩ := hf
  have hds := @data_succ l
  have hdl := data_le l
  have hat := fun (k : Nat) {c : Nat} (h : c < 2) => rowF_at l (k := k) h
  unfold UPutR
  refine rcalls Tryd.func34 rfl (by decide) ?_
  refine ⟨Nat, fun k => [(0, flsV l), (4, int .i64 (dataN (l.take k) : Nat)), (14, flsV l), (15, int .i64 l.length), (16, int .i64 k)], fun _ => [], fun k => k ≤ l.length, fun k => l.length - k,
    ⟨0, [], Nat.zero_le _, lehN _, ⟨.same _ trivial, leI rfl, .same _ trivial, leI rfl, leI rfl, trivial⟩⟩, ?_⟩
  intro k hk
  have hk : k ≤ l.length := hk
  have e1 : IntKind.i64.wrap ((k : Int) + 1) = ((k + 1 : Nat) : Int) := by rw [w64 (by omega) (by omega)]; omega
  refine ⟨fun c => ?_, fun c => ?_⟩
  · have f1 : (k : Int) < l.length := yes c
    have hds := hds (k := k) (by omega)
    have hle := hdl (k + 1)
    obtain ⟨F, hF⟩ : ∃ F, l.getD k fl0 = F := ⟨_, rfl⟩
    rw [hF] at hds
    have ek : (k : Int).toNat = k := by omega
    refine ⟨⟨by omega, by omega⟩, flC F, fun c hc => by rw [ek, hat k hc, hF], ?_⟩
    refine ⟨trivial, k + 1, [], by show k + 1 ≤ l.length; omega, by show l.length - (k + 1) < l.length - k; omega, lehN _, ⟨.same _ trivial, leI ?_, .same _ trivial, leI rfl, leI e1, trivial⟩⟩
    rw [w64 (by omega) (by omega)]; omega
  have f1 : ¬ (k : Int) < l.length := no c
  obtain rfl : k = l.length := by omega
  rw [List.take_length]
  refine ⟨fun c => ?_, fun c => ?_⟩
  · have := yes c; omega
  refine ⟨fun c => ?_, fun c => ?_⟩
  · have := yes c; omega
  have hbs := @body_succ l
  have hts : ∀ {k : Nat}, k < l.length → tally (l.take (k + 1)) = bump (l.getD k fl0).path (tally (l.take k)) := fun {k} h => by rw [take_succ_fl h, tally_snoc]
  have htl := fun k => tally_look (l.take k)
  have hok : ∀ {k : Nat}, k < l.length → (okF (l.getD k fl0) ↔ okSplit (l.getD k fl0).path) := fun {k} h => by
    have := data_mem (get_mem h)
    unfold okF okHd
    exact ⟨fun x => x.1, fun x => ⟨x, by omega, by omega⟩⟩
  have hbad : ∀ f ∈ l, 0 ≤ (f.data.length : Int) ∧ (f.data.length : Int) ≤ 4194304 → ¬ headE f.path f.data.length = 0 → putE l = 9 ∧ putR l = [] ∧ headE f.path f.data.length = 9 := fun f hm hb h => by
    have h9 : ¬ okSplit f.path := fun x => h (headE_iff.2 ⟨x, hb.1, hb.2⟩)
    have e9 : putE l = 9 := if_neg fun x => h9 (x f hm)
    refine ⟨e9, ?_, ?_⟩
    · unfold putR; rw [if_neg (by rw [e9]; decide)]
    · unfold headE; rw [if_pos h9]
  have hmem := fun {k : Nat} (h : k < l.length) => get_mem h
  have hbl : ∀ k, (∀ f ∈ l.take k, okF f) → (bodyR (l.take k)).length ≤ 4194304 + 400 * 1535 := fun k h => by
    have h1 := body_max h
    have h2 := data_le l k
    have h3 : (l.take k).length ≤ 400 := by rw [List.length_take]; omega
    omega
  refine ⟨Nat, fun k => [(0, flsV l), (7, .own 1 0 (bodyR (l.take k)).length 1), (8, .mp 0), (34, flsV l), (35, int .i64 l.length), (36, int .i64 k)], fun k => [.map (tallyV (tally (l.take k))), .ints .u8 (bodyR (l.take k))], fun k => k ≤ l.length ∧ ∀ f ∈ l.take k, okF f, fun k => l.length - k,
    ⟨0, [0, 1], ⟨Nat.zero_le _, fun f hf => by simp at hf⟩, ?_, ⟨.same _ trivial, .nil _ _ (by decide), .mp rfl, .same _ trivial, leI rfl, leI rfl, trivial⟩⟩, ?_⟩
  · exact leh1E rfl (.map [] [] rfl fun i hi => absurd hi (by simp)) (by decide) .u8
  rintro k ⟨hk, hall⟩
  have e1 : IntKind.i64.wrap ((k : Int) + 1) = ((k + 1 : Nat) : Int) := by rw [w64 (by omega) (by omega)]; omega
  refine ⟨fun c => ?_, fun c => ?_⟩
  · have f1 : (k : Int) < l.length := yes c
    have hbs := hbs (k := k) (by omega)
    have hts := hts (k := k) (by omega)
    have hok := hok (k := k) (by omega)
    have hm := hmem (k := k) (by omega)
    have htl := htl k
    have ek : (k : Int).toNat = k := by omega
    have hat : ∀ c, c < 2 → rowF l ((k : Int).toNat * 2 + c) = flC (l.getD k fl0) c := fun c hc => by rw [ek]; exact hat k hc
    have hfl := hs _ hm
    have hdm := data_mem hm
    have htk := take_succ_fl (l := l) (k := k) (by omega)
    generalize l.getD k fl0 = F at *
    have h1 := put_head F.path F.data.length (by omega)
    have h2 := round_prog (F.data.length : Int) (by omega)
    rw [rndZ_nat] at h2
    unfold HPutR at h1
    refine ⟨⟨by omega, by omega⟩, flC F, fun c hc => hat c hc, ?_⟩
    refine ⟨[], _, h1, ?_⟩
    rintro r hh ⟨rfl, rfl⟩
    refine ⟨.inl rfl, ?_⟩
    refine ⟨fun c2 => ?_, fun c2 => ?_⟩
    · have f2 : ¬ headE F.path F.data.length = 0 := yes c2
      obtain ⟨q1, q2, q3⟩ := hbad F hm (by omega) f2
      rw [q1, q2]
      exact ⟨[20], [.ints .u8 []], _, lehE (Nat.le_of_ble_eq_true rfl) .u8, le_pair (.nil _ _ (by decide)) (leI q3), rfl, rfl⟩
    have f2 : headE F.path F.data.length = 0 := Classical.byContradiction fun x => no c2 x
    have hokF : okF F := headE_iff.1 f2
    have hrl := head_len hokF
    have hrn := rnd_ge F.data.length
    have e2 : IntKind.i64.wrap (((rnd F.data.length : Nat) : Int) - (F.data.length : Int)) = ((rnd F.data.length - F.data.length : Nat) : Int) := by
      have : rnd F.data.length ≤ F.data.length + 511 := by unfold rnd; omega
      rw [w64 (by omega) (by omega)]; omega
    refine .inr ⟨7, by decide +kernel, ?_⟩
    refine ⟨_, rfl, ?_⟩
    refine ⟨_, rfl, ?_⟩
    refine ⟨_, rfl, ?_⟩
    refine ⟨_, ⟨[], _, h2, by rintro r h ⟨rfl, rfl⟩; exact ⟨.inl rfl, rfl, rfl⟩⟩, ?_⟩
    refine ⟨_, rfl, ?_⟩
    refine ⟨_, rfl, ?_⟩
    refine ⟨_, rfl, ?_⟩
    have hr511 : rnd F.data.length ≤ F.data.length + 511 := by unfold rnd; omega
    refine ⟨?_, rfl, ?_⟩
    · rw [e2]; refine ⟨by omega, by omega, by omega, ?_⟩
      show ((rnd F.data.length - F.data.length : Nat) : Int) * 1 ≤ _
      omega
    obtain ⟨C, eC⟩ : ∃ C, bodyR (l.take (k + 1)) = C := ⟨_, rfl⟩
    have hcat : [bodyR (l.take k), headR F.path F.data.length, F.data, zer (rnd F.data.length - F.data.length)].flatten = C := by
      rw [← eC, hbs]
      unfold fileR
      simp
    have hC : C.length ≤ 140737488355328 := by
      have := hbl (k + 1) (by
        intro f hfm
        rw [htk] at hfm
        rcases List.mem_append.1 hfm with h | h
        · exact hall f h
        · rw [List.mem_singleton.1 h]; exact hokF)
      rw [eC] at this
      omega
    have hcc := concat_prog [bodyR (l.take k), headR F.path F.data.length, F.data, zer (rnd F.data.length - F.data.length)] (by simp) (by rw [hcat]; exact hC)
    rw [hcat] at hcc
    refine ⟨[1005, 1001, 1003, 1004], (fun r h => r = .own 0 0 C.length 1 ∧ h = [.ints .u8 C]), ?_⟩
    refine ⟨by omega, by omega, by rw [List.length_replicate]; omega, Nat.le_refl 4, hcc.args ⟨vroU fun i hi => ?_, trivial⟩, ?_⟩
    · match i, hi with
      | 0, _ => show AV.roI _ _ = AV.roI _ _; rw [List.drop_zero, List.take_length]; rfl
      | 1, _ => show AV.roI _ _ = AV.roI _ _; rw [List.drop_zero, List.take_length]; rfl
      | 2, _ => rfl
      | 3, _ =>
        show AV.roI _ _ = AV.roI _ _
        rw [List.drop_zero, List.take_of_length_le (by rw [List.length_replicate]; omega), e2]; rfl
    rintro r hh ⟨rfl, rfl⟩
    refine ⟨.inl rfl, ?_⟩
    have hall' : ∀ f ∈ l.take (k + 1), okF f := by
      intro f hfm
      rw [htk] at hfm
      rcases List.mem_append.1 hfm with h | h
      · exact hall f h
      · rw [List.mem_singleton.1 h]; exact hokF
    have hbm := bump_setM F.path (tally (l.take k))
    rw [← hts] at hbm
    have hlk := htl F.path
    have htl400 : (l.take k).length ≤ 400 := by rw [List.length_take]; omega
    refine ⟨fun v hv => ?_, fun hn => ?_⟩
    · rw [look_getM] at hv
      obtain ⟨n, hn, rfl⟩ := Option.map_eq_some_iff.1 hv
      rw [hn] at hlk hbm
      have hlk : n ≤ (l.take k).length := hlk
      have e3 : IntKind.i64.wrap ((n : Int) + 1) = ((n + 1 : Nat) : Int) := by rw [w64 (by omega) (by omega)]; omega
      refine ⟨trivial, k + 1, [0, 6], ⟨by omega, hall'⟩, by show l.length - (k + 1) < l.length - k; omega, leh2 (by decide) rfl rfl (leOmap ?_) (leOint eC.symm), ⟨.same _ trivial, leOwn rfl rfl (by rw [eC]), .mp rfl, .same _ trivial, leI rfl, leI e1, trivial⟩⟩
      rw [e3]; exact hbm
    · rw [look_getM] at hn
      have hn := Option.map_eq_none_iff.1 hn
      rw [hn] at hbm
      have e3 : IntKind.i64.wrap ((0 : Int) + 1) = ((0 + 1 : Nat) : Int) := by rw [w64 (by omega) (by omega)]; rfl
      refine ⟨trivial, k + 1, [0, 6], ⟨by omega, hall'⟩, by show l.length - (k + 1) < l.length - k; omega, leh2 (by decide) rfl rfl (leOmap ?_) (leOint eC.symm), ⟨.same _ trivial, leOwn rfl rfl (by rw [eC]), .mp rfl, .same _ trivial, leI rfl, leI e1, trivial⟩⟩
      rw [e3]; exact hbm
  · have f1 : ¬ (k : Int) < l.length := no c
    obtain rfl : k = l.length := by omega
    have hb := hbl l.length hall
    have eT : l.take l.length = l := List.take_length
    rw [eT] at hb hall
    have hP : okP l := okP_of hall
    have htd := tally_dup l
    refine ⟨fun c => ?_, fun c => ?_⟩
    · have g1 := yes c
      rw [eT, tallyV_len] at g1
      have hdup : dupF l := htd.1 (by omega)
      have e7 : putE l = 7 := by unfold putE; rw [if_pos hP, if_pos hdup]
      have r7 : putR l = [] := by unfold putR; rw [if_neg (by rw [e7]; decide)]
      rw [e7, r7]
      exact ⟨[20], [.ints .u8 []], _, lehE (Nat.le_of_ble_eq_true rfl) .u8, le_pair (.nil _ _ (by decide)) (leI rfl), rfl, rfl⟩
    · have g1 := no c
      rw [eT, tallyV_len] at g1
      have hdup : ¬ dupF l := fun h => by have := htd.2 h; omega
      have e0 : putE l = 0 := putE_ok.2 ⟨hP, hdup⟩
      have r0 : putR l = bodyR l ++ zer 1024 := by unfold putR; rw [if_pos e0]
      rw [e0, r0]
      refine ⟨rfl, ⟨by decide, by decide⟩, rfl, ?_, ?_⟩
      · show ((bodyR (l.take l.length)).length + (List.replicate (1024 : Int).toNat (0 : Int)).length) * 1 ≤ _
        rw [eT, List.length_replicate]; omega
      exact ⟨[2], [.ints .u8 (bodyR l ++ zer 1024)], _, leh1 rfl (leOint (by rw [eT]; rfl)), le_pair (leOwn rfl rfl (by rw [eT, List.length_append]; rfl)) (leI rfl), rfl, rfl⟩
end
end Go.Proofs.YtkchfbnkdpdbkaaDoor.Us

/-
  The contract of ustar.Get.
-/
set_option linter.unusedVariables false
set_option linter.unusedSectionVars false
set_option linter.unusedSimpArgs false
namespace Go.Proofs.YtkchfbnkdpdbkaaDoor.Us
open Go AL Oc Pa Spl Hd

theorem row_free (fs : List Fl) (i : Nat) : (rowF fs i).free := flC_free _ _
theorem row_cell1 (fs : List Fl) (i : Nat) : cell1 (rowF fs i) = true := flC_cell1 _ _
theorem map_noneU {s : ByteArray} {m : List (ByteArray × Nat)} (h : getM s (tallyV m) = none) : look s m = none := by
  rw [look_getM] at h; exact Option.map_eq_none_iff.1 h
section
variable [Globs]

theorem leh3 {h : List AO} {a b c : Nat} {o0 o1 o2 p0 p1 p2 : AO} (hd : [a, b, c].Nodup) (ha : h[a]? = some p0) (hb : h[b]? = some p1) (hc : h[c]? = some p2)
    (l0 : LeO h [a, b, c] p0 o0) (l1 : LeO h [a, b, c] p1 o1) (l2 : LeO h [a, b, c] p2 o2) : LeH 0 h [a, b, c] [o0, o1, o2] :=
  ⟨rfl, Nat.zero_le _, fun i hi => absurd hi (Nat.not_lt_zero _), hd, fun i j o' hi ho => by
    match i, hi, ho with
    | 0, hi, ho => cases hi; cases ho; exact .inl ⟨_, ha, l0⟩
    | 1, hi, ho => cases hi; cases ho; exact .inl ⟨_, hb, l1⟩
    | 2, hi, ho => cases hi; cases ho; exact .inl ⟨_, hc, l2⟩
    | i + 3, hi, ho => simp at hi⟩
theorem lehRU {h : List AO} {j : Nat} (hj : h.length ≤ j) (g : Nat → AV) : LeH 0 h [j] [.row 0 g] :=
  ⟨rfl, Nat.zero_le _, fun i hi => absurd hi (Nat.not_lt_zero _), List.nodup_cons.2 ⟨by simp, .nil⟩, fun i m p hi hp => by
    cases i with
    | zero => simp at hi hp; subst hi hp; exact .inr ⟨Nat.zero_le _, hj, .inr (.inr ⟨g, rfl⟩)⟩
    | succ i => simp at hi⟩
theorem boxTop {h : List AO} {l : List Nat} {a b : AV} : LeO h l (.lst [a, b]) (.lst [.top, .top]) := .lst _ _ rfl fun i hi => by
  match i, hi with
  | 0, _ => exact .top _
  | 1, _ => exact .top _

def UGetR (b : List Int) (r : AV) (h : List AO) : Prop := r = .tup 2 (pair (.own 0 0 (getL b).length 2) (int .i64 (getE b))) ∧ h = [.row ((getL b).length * 2) (rowF (getL b))]

/-- Where the walk stands: at a file, or at the end of what is none. -/
def labG : Option (List Fl × List Int) → Nat
  | none => 0
  | some _ => 1
def slG : Option (List Fl × List Int) → List (Nat × AV)
  | none => []
  | some (fs, r) => [(0, .roI .u8 r), (4, .own 2 0 fs.length 2), (5, .ptr 0 0), (8, int .i64 (dataN fs : Nat)), (10, .mp 1)]
def hpG : Option (List Fl × List Int) → List AO
  | none => []
  | some (fs, r) => [.lst [.top, .top], .map (tallyV (tally fs)), .row (fs.length * 2) (rowF fs)]
def invG (b : List Int) : Option (List Fl × List Int) → Prop
  | none => getL b = [] ∧ getE b = 2
  | some (fs, r) => b = bodyR fs ++ r ∧ ∀ f ∈ fs, okF f
def muG : Option (List Fl × List Int) → Nat
  | none => 0
  | some (fs, r) => r.length + 1

set_option maxHeartbeats 8000000 in
set_option maxRecDepth 10000 in
theorem uget_prog (b : List Int) (hb : ∀ x ∈ b, 0 ≤ x ∧ x < 256) (hl : b.length ≤ 281474976710656) : ACalls Tryd.prog 30 [.roI .u8 b] [] (UGetR b) := by
  unfold UGetR
  refine rcalls Tryd.func30 rfl (by decide) ?_
  refine ⟨Option (List Fl × List Int), labG, slG, hpG, invG b, muG, ?_, ?_⟩
  · have hx1 : b = bodyR [] ++ b := rfl
    have hx2 : ∀ f ∈ ([] : List Fl), okF f := fun f hf => by cases hf
    have hr := hb
    have rl := hl
    have hm := body_mod hx2
    have hdt := body_data hx2
    have hxl := congrArg List.length hx1
    rw [List.length_append] at hxl
    have r1 : ∀ x ∈ b.take 512, 0 ≤ x ∧ x < 256 := fun x hx => hr x (List.mem_of_mem_take hx)
    have h1 := hget_prog (b.take 512) r1 (by rw [List.length_take]; omega)
    have h1 : ACalls Tryd.prog 23 [.roI .u8 ((b.take 512).drop 0)] [] _ := h1
    have hN := getN_range (b.take 512)
    have hone : one b ↔ 1024 < b.length ∧ getEr (b.take 512) = 0 ∧ rnd (getN (b.take 512)).toNat ≤ b.length - 512 ∧ ((b.drop 512).take (rnd (getN (b.take 512)).toNat)).drop (getN (b.take 512)).toNat = zer (rnd (getN (b.take 512)).toNat - (getN (b.take 512)).toNat) := Iff.rfl
    have hof : (oneF b).path = getS (b.take 512) ∧ (oneF b).data = (b.drop 512).take (getN (b.take 512)).toNat := ⟨rfl, rfl⟩
    have hrf : restF b = b.drop (512 + rnd (getN (b.take 512)).toNat) := rfl
    have hst := fun h : one b => step_one hx1 hx2 h
    have htd := tally_dup ([] : List Fl)
    have htl := fun s => tally_look ([] : List Fl) s
    have hbz := @blank_zer b 1024
    have hdd := data_app ([] : List Fl) [oneF b]
    have hts := tally_snoc ([] : List Fl) (oneF b)
    have hold := fun {i : Nat} (h : i < ([] : List Fl).length * 2) => rowF_old ([] : List Fl) (oneF b) h
    have hnew := fun {i : Nat} (h : i < 2) => rowF_new ([] : List Fl) (oneF b) h
    have hd1 : dataN [oneF b] = (oneF b).data.length := rfl
    generalize oneF b = F at *
    generalize restF b = RF at *
    unfold HGetR at h1
    obtain ⟨N, hNe⟩ : ∃ N : Nat, getN (b.take 512) = (N : Int) := ⟨(getN (b.take 512)).toNat, by omega⟩
    rw [hNe] at h1 hN hone hof hrf
    rw [Int.toNat_natCast] at hone hof hrf
    generalize getS (b.take 512) = S at *
    generalize getEr (b.take 512) = E at *
    have h2 := round_prog (N : Int) (by omega)
    rw [rndZ_nat] at h2
    have h3 := blank_prog b (by omega)
    have hb512 : ((b.take b.length).drop 512) = b.drop 512 := by rw [List.take_length]
    have hrn := rnd_ge N
    have hr511 : rnd N ≤ N + 511 := by unfold rnd; omega
    have h4 := blank_prog ((((b.take b.length).drop 512).take (rnd N)).drop N) (by simp only [List.length_drop, List.length_take]; omega)
    have h5 := clone_prog ((((b.take b.length).drop 512).take N).drop 0) (by simp only [List.length_drop, List.length_take]; omega)
    have hlen5 : ((((b.take b.length).drop 512).take N).drop 0) = (b.drop 512).take N := by rw [hb512, List.drop_zero]
    have hl512 : ((b.take b.length).drop 512).length = b.length - 512 := by rw [hb512, List.length_drop]
    refine ⟨fun c => ?_, fun c => ?_⟩
    · have f1 : (b.length : Int) < 1024 := yes c
      exact ⟨trivial, none, [], rfl, no_len hx1 hx2 (.inl (by omega)), lehN _, trivial⟩
    have f1 : ¬ (b.length : Int) < 1024 := no c
    refine ⟨by decide, ?_⟩
    refine ⟨fun c => ?_, fun c => ?_⟩
    · have f2 : ¬ (b.length : Int).tmod 512 = 0 := yes c
      rw [Int.tmod_eq_emod_of_nonneg (by omega)] at f2
      exact ⟨trivial, none, [], rfl, no_len hx1 hx2 (.inr (by omega)), lehN _, trivial⟩
    refine ⟨fun c => ?_, fun c => ?_⟩
    · have f3 : (b.length : Int) = 1024 := yes c
      have hbz := hbz (by omega)
      refine ⟨[], _, h3, ?_⟩
      rintro r hh ⟨rfl, rfl⟩
      refine ⟨.inl rfl, ?_⟩
      refine ⟨fun c => ?_, fun c => ?_⟩
      · have f4 := fun x => notT c (hbz.2 x)
        exact ⟨trivial, none, [], rfl, no_end hx1 hx2 (by omega) fun x => f4 x.1, lehN _, trivial⟩
      have f4 := hbz.1 (notF c)
      refine ⟨fun c => ?_, fun c => ?_⟩
      · have f5 := yes c
        exact ⟨trivial, none, [], rfl, no_end hx1 hx2 (by omega) fun x => (by have := x.2.2.2; have z0 : dataN ([] : List Fl) = 0 := rfl; have z1 : ([] : List Fl).length = 0 := rfl; have z2 : (tally []).length = 0 := rfl; omega), lehN _, trivial⟩
      have f5 := no c
      refine ⟨fun c => ?_, fun c => ?_⟩
      · have f6 := yes c
        exact ⟨trivial, none, [], rfl, no_end hx1 hx2 (by omega) fun x => (by have := x.2.2.1; have z0 : dataN ([] : List Fl) = 0 := rfl; have z1 : ([] : List Fl).length = 0 := rfl; have z2 : (tally []).length = 0 := rfl; omega), lehN _, trivial⟩
      have f6 := no c
      refine ⟨fun c => ?_, fun c => ?_⟩
      · have f7 := yes c
        have z3 : (tallyV (tally [])).length = 0 := rfl; try rw [tallyV_len] at f7
        exact ⟨trivial, none, [], rfl, no_end hx1 hx2 (by omega) fun x => x.2.1 (htd.1 (by have z0 : dataN ([] : List Fl) = 0 := rfl; have z1 : ([] : List Fl).length = 0 := rfl; have z2 : (tally []).length = 0 := rfl; omega)), lehN _, trivial⟩
      have f7 := no c
      have z3 : (tallyV (tally [])).length = 0 := rfl; try rw [tallyV_len] at f7
      obtain ⟨q1, q2⟩ := is_end hx1 hx2 (by omega) f4 (fun x => by have := htd.2 x; have z0 : dataN ([] : List Fl) = 0 := rfl; have z1 : ([] : List Fl).length = 0 := rfl; have z2 : (tally []).length = 0 := rfl; omega) ⟨by have z0 : dataN ([] : List Fl) = 0 := rfl; have z1 : ([] : List Fl).length = 0 := rfl; have z2 : (tally []).length = 0 := rfl; omega, by have z0 : dataN ([] : List Fl) = 0 := rfl; have z1 : ([] : List Fl).length = 0 := rfl; have z2 : (tally []).length = 0 := rfl; omega⟩
      rw [q1, q2]
      exact ⟨[20], [.row 0 (rowF [])], _, lehRU (Nat.le_of_ble_eq_true rfl) _, le_pair (.nil _ _ (by decide)) (leI rfl), rfl, rfl⟩
    have f3 : ¬ (b.length : Int) = 1024 := no c
    refine ⟨⟨by omega, by omega⟩, ?_⟩
    refine ⟨[], _, h1, ?_⟩
    rintro r hh ⟨rfl, rfl⟩
    refine ⟨.inl rfl, ?_⟩
    refine ⟨⟨by omega, by omega⟩, ?_⟩
    refine ⟨[], _, h2, ?_⟩
    rintro r hh ⟨rfl, rfl⟩
    refine ⟨.inl rfl, ?_⟩
    refine ⟨fun c => ?_, fun c => ?_⟩
    · have f4 : ¬ E = 0 := yes c
      exact ⟨trivial, none, [], rfl, no_one hx1 hx2 (by omega) fun x => f4 (hone.1 x).2.1, lehN _, trivial⟩
    have f4 : E = 0 := Classical.byContradiction fun x => no c x
    refine ⟨fun c => ?_, fun c => ?_⟩
    · have f5 : (((b.take b.length).drop 512).length : Int) < (rnd N : Nat) := yes c
      rw [hl512] at f5
      exact ⟨trivial, none, [], rfl, no_one hx1 hx2 (by omega) fun x => (by have := (hone.1 x).2.2.1; omega), lehN _, trivial⟩
    have f5 : ¬ (((b.take b.length).drop 512).length : Int) < (rnd N : Nat) := no c
    have B1 : (0 : Int) ≤ (rnd N : Nat) ∧ ((rnd N : Nat) : Int) ≤ (((b.take b.length).drop 512).length : Int) := by omega
    have B2 : (0 : Int) ≤ (N : Nat) ∧ ((N : Nat) : Int) ≤ ((((rnd N : Nat) : Int).toNat : Nat) : Int) := by omega
    have B3 : (0 : Int) ≤ (N : Nat) ∧ ((N : Nat) : Int) ≤ (((b.take b.length).drop 512).length : Int) := by omega
    rw [hl512] at f5
    refine ⟨B1, B2, ?_⟩
    refine ⟨[], _, h4, ?_⟩
    rintro r hh ⟨rfl, rfl⟩
    refine ⟨.inl rfl, ?_⟩
    have hz4 := @blank_zer ((((b.take b.length).drop 512).take (rnd N)).drop N) (rnd N - N) (by simp only [List.length_drop, List.length_take]; omega)
    rw [hb512] at hz4
    refine ⟨fun c => ?_, fun c => ?_⟩
    · have f6 := notT c
      rw [hb512] at f6
      exact ⟨trivial, none, [], rfl, no_one hx1 hx2 (by omega) fun x => f6 (hz4.2 (hone.1 x).2.2.2), lehN _, trivial⟩
    have f6 := notF c
    rw [hb512] at f6
    have ok : one b := hone.2 ⟨by omega, f4, by omega, hz4.1 f6⟩
    obtain ⟨s1, s2, s3⟩ := hst ok
    refine ⟨B3, ?_⟩
    refine ⟨[], _, h5, ?_⟩
    rintro r hh ⟨rfl, rfl⟩
    refine ⟨.inl rfl, ?_⟩
    refine ⟨Nat.le_refl 2, by show 1 * 40 ≤ _; omega, fun i hi => ?_, (fun i => if i < 0 * 2 then .top else if i = 0 * 2 then str S else .own 2 0 ((((b.take b.length).drop 512).take N).drop 0).length 1), fun i hi => ?_, ?_⟩
    · match i, hi with
      | 0, _ => rfl
      | 1, _ => rfl
    · match i, hi with
      | 0, _ => rfl
      | 1, _ => rfl
    have hbm := bump_setM S (tally ([] : List Fl))
    rw [← hof.1, ← hts, hof.1] at hbm
    have hlk := htl S
    have hFl : F.data.length = N := by rw [hof.2, List.length_take, List.length_drop]; omega
    have eall : IntKind.i64.wrap (((dataN ([] : List Fl) : Nat) : Int) + (N : Int)) = ((dataN (([] : List Fl) ++ [F]) : Nat) : Int) := by
      rw [w64 (by omega) (by omega), hdd, hd1, hFl]; omega
    have eRF : (((((b.take b.length).drop 512).take ((b.take b.length).drop 512).length).drop ((rnd N : Nat) : Int).toNat)) = RF := by
      rw [List.take_length, hb512, List.drop_drop, hrf]; rfl
    have fin : ∀ (n : Nat) (h : List AO) (p0 : AO), (look S (tally ([] : List Fl))).getD 0 = n → n ≤ ([] : List Fl).length → p0 = .lst [str S, .own 2 0 ((((b.take b.length).drop 512).take N).drop 0).length 1] →
        h[0]? = some p0 → h[1]? = some (.map (setM S (int .i64 (IntKind.i64.wrap ((n : Int) + 1))) (tallyV (tally ([] : List Fl))))) → h[2]? = some (.ints .u8 ((((b.take b.length).drop 512).take N).drop 0)) →
        h[4]? = some (.row ((([] : List Fl).length + 1) * 2) (fun i => if i < ([] : List Fl).length * 2 then rowF ([] : List Fl) i else if i = ([] : List Fl).length * 2 then str S else .own 2 0 ((((b.take b.length).drop 512).take N).drop 0).length 1)) →
        LeH 0 h [0, 1, 4] (hpG (some (([] : List Fl) ++ [F], RF))) := fun n h p0 e1 e2 e3 h0 h1 h2 h3 => by
      subst e3
      show LeH 0 h [0, 1, 4] [.lst [.top, .top], .map (tallyV (tally (([] : List Fl) ++ [F]))), .row ((([] : List Fl) ++ [F]).length * 2) (rowF (([] : List Fl) ++ [F]))]
      refine leh3 (by decide) h0 h1 h3 boxTop (leOmap ?_) (.row _ _ _ _ ?_ fun i hi => ?_)
      · rw [e1] at hbm
        rw [w64 (by omega) (by omega)]; exact hbm
      · first | exact Nat.le_refl _ | exact Nat.le_of_eq (by rw [List.length_append]; rfl)
      · rw [List.length_append, List.length_singleton] at hi
        by_cases g : i < ([] : List Fl).length * 2
        · rw [if_pos g, hold g]; exact .same _ (row_free ([] : List Fl) i)
        · obtain ⟨j, rfl⟩ : ∃ j, i = ([] : List Fl).length * 2 + j := ⟨i - ([] : List Fl).length * 2, by omega⟩
          rw [if_neg g, hnew (by omega)]
          match j, hi with
          | 0, _ => rw [if_pos (by omega)]; exact leS hof.1.symm
          | 1, _ =>
            rw [if_neg (by omega)]
            exact .giveI F.data h2 (by decide) (by omega) (by rw [hlen5, List.drop_zero, List.take_length]; exact hof.2)
          | j + 2, hj => omega
    refine ⟨fun v hv => ?_, fun hn => ?_⟩
    · obtain ⟨n, hn, rfl⟩ : ∃ n : Nat, look S (tally ([] : List Fl)) = some n ∧ v = int .i64 (n : Nat) := by
        have hv : getM S (tallyV (tally ([] : List Fl))) = some v := hv
        rw [look_getM] at hv
        obtain ⟨n, hn, e⟩ := Option.map_eq_some_iff.1 hv
        exact ⟨n, hn, e.symm⟩
      have g1 : (look S (tally ([] : List Fl))).getD 0 = n := by rw [hn]; rfl
      refine ⟨B1, ?_⟩
      exact ⟨trivial, some (([] : List Fl) ++ [F], RF), [0, 1, 4], rfl, ⟨s1, s2⟩, fin n _ _ g1 (by omega) rfl rfl rfl rfl rfl, ⟨leRo eRF, leOwn rfl rfl (by rw [List.length_append]; rfl), .ptr 0 rfl, leI eall, .mp rfl, trivial⟩⟩
    · have hn := map_noneU (m := tally ([] : List Fl)) hn
      have g1 : (look S (tally ([] : List Fl))).getD 0 = 0 := by rw [hn]; rfl
      refine ⟨B1, ?_⟩
      exact ⟨trivial, some (([] : List Fl) ++ [F], RF), [0, 1, 4], rfl, ⟨s1, s2⟩, fin 0 _ _ g1 (Nat.zero_le _) rfl rfl rfl rfl rfl, ⟨leRo eRF, leOwn rfl rfl (by rw [List.length_append]; rfl), .ptr 0 rfl, leI eall, .mp rfl, trivial⟩⟩

  · rintro (_ | ⟨fs, r⟩) hx
    · obtain ⟨q1, q2⟩ := hx
      rw [q1, q2]
      exact ⟨[20], [.row 0 (rowF [])], _, lehRU (Nat.le_of_ble_eq_true rfl) _, le_pair (.nil _ _ (by decide)) (leI rfl), rfl, rfl⟩
    · obtain ⟨hx1, hx2⟩ := hx
      have rl : r.length ≤ 281474976710656 := by
        have := congrArg List.length hx1
        rw [List.length_append] at this
        omega
      have hr : ∀ x ∈ r, 0 ≤ x ∧ x < 256 := fun x hx => hb x (by rw [hx1]; exact List.mem_append_right _ hx)
      have hm := body_mod hx2
      have hdt := body_data hx2
      have hxl := congrArg List.length hx1
      rw [List.length_append] at hxl
      have r1 : ∀ x ∈ r.take 512, 0 ≤ x ∧ x < 256 := fun x hx => hr x (List.mem_of_mem_take hx)
      have h1 := hget_prog (r.take 512) r1 (by rw [List.length_take]; omega)
      have h1 : ACalls Tryd.prog 23 [.roI .u8 ((r.take 512).drop 0)] [] _ := h1
      have hN := getN_range (r.take 512)
      have hone : one r ↔ 1024 < r.length ∧ getEr (r.take 512) = 0 ∧ rnd (getN (r.take 512)).toNat ≤ r.length - 512 ∧ ((r.drop 512).take (rnd (getN (r.take 512)).toNat)).drop (getN (r.take 512)).toNat = zer (rnd (getN (r.take 512)).toNat - (getN (r.take 512)).toNat) := Iff.rfl
      have hof : (oneF r).path = getS (r.take 512) ∧ (oneF r).data = (r.drop 512).take (getN (r.take 512)).toNat := ⟨rfl, rfl⟩
      have hrf : restF r = r.drop (512 + rnd (getN (r.take 512)).toNat) := rfl
      have hst := fun h : one r => step_one hx1 hx2 h
      have htd := tally_dup fs
      have htl := fun s => tally_look fs s
      have hbz := @blank_zer r 1024
      have hdd := data_app fs [oneF r]
      have hts := tally_snoc fs (oneF r)
      have hold := fun {i : Nat} (h : i < fs.length * 2) => rowF_old fs (oneF r) h
      have hnew := fun {i : Nat} (h : i < 2) => rowF_new fs (oneF r) h
      have hd1 : dataN [oneF r] = (oneF r).data.length := rfl
      generalize oneF r = F at *
      generalize restF r = RF at *
      unfold HGetR at h1
      obtain ⟨N, hNe⟩ : ∃ N : Nat, getN (r.take 512) = (N : Int) := ⟨(getN (r.take 512)).toNat, by omega⟩
      rw [hNe] at h1 hN hone hof hrf
      rw [Int.toNat_natCast] at hone hof hrf
      generalize getS (r.take 512) = S at *
      generalize getEr (r.take 512) = E at *
      have h2 := round_prog (N : Int) (by omega)
      rw [rndZ_nat] at h2
      have h3 := blank_prog r (by omega)
      have hb512 : ((r.take r.length).drop 512) = r.drop 512 := by rw [List.take_length]
      have hrn := rnd_ge N
      have hr511 : rnd N ≤ N + 511 := by unfold rnd; omega
      have h4 := blank_prog ((((r.take r.length).drop 512).take (rnd N)).drop N) (by simp only [List.length_drop, List.length_take]; omega)
      have h5 := clone_prog ((((r.take r.length).drop 512).take N).drop 0) (by simp only [List.length_drop, List.length_take]; omega)
      have hlen5 : ((((r.take r.length).drop 512).take N).drop 0) = (r.drop 512).take N := by rw [hb512, List.drop_zero]
      have hl512 : ((r.take r.length).drop 512).length = r.length - 512 := by rw [hb512, List.length_drop]
      refine ⟨fun c => ?_, fun c => ?_⟩
      · have f1 : (r.length : Int) < 1024 := yes c
        exact ⟨trivial, none, [], rfl, no_len hx1 hx2 (.inl (by omega)), by show 0 < _ + 1; omega, lehN _, trivial⟩
      have f1 : ¬ (r.length : Int) < 1024 := no c
      refine ⟨by decide, ?_⟩
      refine ⟨fun c => ?_, fun c => ?_⟩
      · have f2 : ¬ (r.length : Int).tmod 512 = 0 := yes c
        rw [Int.tmod_eq_emod_of_nonneg (by omega)] at f2
        exact ⟨trivial, none, [], rfl, no_len hx1 hx2 (.inr (by omega)), by show 0 < _ + 1; omega, lehN _, trivial⟩
      refine ⟨fun c => ?_, fun c => ?_⟩
      · have f3 : (r.length : Int) = 1024 := yes c
        have hbz := hbz (by omega)
        refine ⟨[], _, h3, ?_⟩
        rintro r hh ⟨rfl, rfl⟩
        refine ⟨.inl rfl, ?_⟩
        refine ⟨fun c => ?_, fun c => ?_⟩
        · have f4 := fun x => notT c (hbz.2 x)
          exact ⟨trivial, none, [], rfl, no_end hx1 hx2 (by omega) fun x => f4 x.1, by show 0 < _ + 1; omega, lehN _, trivial⟩
        have f4 := hbz.1 (notF c)
        refine ⟨fun c => ?_, fun c => ?_⟩
        · have f5 := yes c
          exact ⟨trivial, none, [], rfl, no_end hx1 hx2 (by omega) fun x => (by have := x.2.2.2; omega), by show 0 < _ + 1; omega, lehN _, trivial⟩
        have f5 := no c
        refine ⟨fun c => ?_, fun c => ?_⟩
        · have f6 := yes c
          exact ⟨trivial, none, [], rfl, no_end hx1 hx2 (by omega) fun x => (by have := x.2.2.1; omega), by show 0 < _ + 1; omega, lehN _, trivial⟩
        have f6 := no c
        refine ⟨fun c => ?_, fun c => ?_⟩
        · have f7 := yes c
          rw [tallyV_len] at f7
          exact ⟨trivial, none, [], rfl, no_end hx1 hx2 (by omega) fun x => x.2.1 (htd.1 (by omega)), by show 0 < _ + 1; omega, lehN _, trivial⟩
        have f7 := no c
        rw [tallyV_len] at f7
        obtain ⟨q1, q2⟩ := is_end hx1 hx2 (by omega) f4 (fun x => by have := htd.2 x; omega) ⟨by omega, by omega⟩
        rw [q1, q2]
        exact ⟨[2], [.row (fs.length * 2) (rowF fs)], _, leh1 rfl (.row _ _ _ _ (Nat.le_refl _) fun i hi => .same _ (row_free fs i)), le_pair (leOwn rfl rfl rfl) (leI rfl), rfl, rfl⟩
      have f3 : ¬ (r.length : Int) = 1024 := no c
      refine ⟨⟨by omega, by omega⟩, ?_⟩
      refine ⟨[], _, h1, ?_⟩
      rintro r hh ⟨rfl, rfl⟩
      refine ⟨.inl rfl, ?_⟩
      refine ⟨⟨by omega, by omega⟩, ?_⟩
      refine ⟨[], _, h2, ?_⟩
      rintro r hh ⟨rfl, rfl⟩
      refine ⟨.inl rfl, ?_⟩
      refine ⟨fun c => ?_, fun c => ?_⟩
      · have f4 : ¬ E = 0 := yes c
        exact ⟨trivial, none, [], rfl, no_one hx1 hx2 (by omega) fun x => f4 (hone.1 x).2.1, by show 0 < _ + 1; omega, lehN _, trivial⟩
      have f4 : E = 0 := Classical.byContradiction fun x => no c x
      refine ⟨fun c => ?_, fun c => ?_⟩
      · have f5 : (((r.take r.length).drop 512).length : Int) < (rnd N : Nat) := yes c
        rw [hl512] at f5
        exact ⟨trivial, none, [], rfl, no_one hx1 hx2 (by omega) fun x => (by have := (hone.1 x).2.2.1; omega), by show 0 < _ + 1; omega, lehN _, trivial⟩
      have f5 : ¬ (((r.take r.length).drop 512).length : Int) < (rnd N : Nat) := no c
      have B1 : (0 : Int) ≤ (rnd N : Nat) ∧ ((rnd N : Nat) : Int) ≤ (((r.take r.length).drop 512).length : Int) := by omega
      have B2 : (0 : Int) ≤ (N : Nat) ∧ ((N : Nat) : Int) ≤ ((((rnd N : Nat) : Int).toNat : Nat) : Int) := by omega
      have B3 : (0 : Int) ≤ (N : Nat) ∧ ((N : Nat) : Int) ≤ (((r.take r.length).drop 512).length : Int) := by omega
      rw [hl512] at f5
      refine ⟨B1, B2, ?_⟩
      refine ⟨[], _, h4, ?_⟩
      rintro r hh ⟨rfl, rfl⟩
      refine ⟨.inl rfl, ?_⟩
      have hz4 := @blank_zer ((((r.take r.length).drop 512).take (rnd N)).drop N) (rnd N - N) (by simp only [List.length_drop, List.length_take]; omega)
      rw [hb512] at hz4
      refine ⟨fun c => ?_, fun c => ?_⟩
      · have f6 := notT c
        rw [hb512] at f6
        exact ⟨trivial, none, [], rfl, no_one hx1 hx2 (by omega) fun x => f6 (hz4.2 (hone.1 x).2.2.2), by show 0 < _ + 1; omega, lehN _, trivial⟩
      have f6 := notF c
      rw [hb512] at f6
      have ok : one r := hone.2 ⟨by omega, f4, by omega, hz4.1 f6⟩
      obtain ⟨s1, s2, s3⟩ := hst ok
      refine ⟨B3, ?_⟩
      refine ⟨[], _, h5, ?_⟩
      rintro r hh ⟨rfl, rfl⟩
      refine ⟨.inl rfl, ?_⟩
      refine ⟨rfl, fun i _ => row_cell1 fs i, Nat.le_refl 2, by show (fs.length + 1) * 40 ≤ _; omega, fun i hi => ?_, (fun i => if i < fs.length * 2 then rowF fs i else if i = fs.length * 2 then str S else .own 3 0 ((((r.take r.length).drop 512).take N).drop 0).length 1), fun i hi => if_pos hi, fun i hi => ?_, ?_⟩
      · match i, hi with
        | 0, _ => rfl
        | 1, _ => rfl
      · match i, hi with
        | 0, _ =>
          show (if fs.length * 2 + 0 < fs.length * 2 then _ else if fs.length * 2 + 0 = fs.length * 2 then _ else _) = _
          rw [if_neg (by omega), if_pos (by omega)]; rfl
        | 1, _ =>
          show (if fs.length * 2 + 1 < fs.length * 2 then _ else if fs.length * 2 + 1 = fs.length * 2 then _ else _) = _
          rw [if_neg (by omega), if_neg (by omega)]; rfl
      have hbm := bump_setM S (tally fs)
      rw [← hof.1, ← hts, hof.1] at hbm
      have hlk := htl S
      have hFl : F.data.length = N := by rw [hof.2, List.length_take, List.length_drop]; omega
      have eall : IntKind.i64.wrap (((dataN fs : Nat) : Int) + (N : Int)) = ((dataN (fs ++ [F]) : Nat) : Int) := by
        rw [w64 (by omega) (by omega), hdd, hd1, hFl]; omega
      have eRF : (((((r.take r.length).drop 512).take ((r.take r.length).drop 512).length).drop ((rnd N : Nat) : Int).toNat)) = RF := by
        rw [List.take_length, hb512, List.drop_drop, hrf]; rfl
      have fin : ∀ (n : Nat) (h : List AO) (p0 : AO), (look S (tally fs)).getD 0 = n → n ≤ fs.length → p0 = .lst [str S, .own 3 0 ((((r.take r.length).drop 512).take N).drop 0).length 1] →
          h[0]? = some p0 → h[1]? = some (.map (setM S (int .i64 (IntKind.i64.wrap ((n : Int) + 1))) (tallyV (tally fs)))) → h[3]? = some (.ints .u8 ((((r.take r.length).drop 512).take N).drop 0)) →
          h[5]? = some (.row ((fs.length + 1) * 2) (fun i => if i < fs.length * 2 then rowF fs i else if i = fs.length * 2 then str S else .own 3 0 ((((r.take r.length).drop 512).take N).drop 0).length 1)) →
          LeH 0 h [0, 1, 5] (hpG (some (fs ++ [F], RF))) := fun n h p0 e1 e2 e3 h0 h1 h2 h3 => by
        subst e3
        show LeH 0 h [0, 1, 5] [.lst [.top, .top], .map (tallyV (tally (fs ++ [F]))), .row ((fs ++ [F]).length * 2) (rowF (fs ++ [F]))]
        refine leh3 (by decide) h0 h1 h3 boxTop (leOmap ?_) (.row _ _ _ _ ?_ fun i hi => ?_)
        · rw [e1] at hbm
          rw [w64 (by omega) (by omega)]; exact hbm
        · first | exact Nat.le_refl _ | exact Nat.le_of_eq (by rw [List.length_append]; rfl)
        · rw [List.length_append, List.length_singleton] at hi
          by_cases g : i < fs.length * 2
          · rw [if_pos g, hold g]; exact .same _ (row_free fs i)
          · obtain ⟨j, rfl⟩ : ∃ j, i = fs.length * 2 + j := ⟨i - fs.length * 2, by omega⟩
            rw [if_neg g, hnew (by omega)]
            match j, hi with
            | 0, _ => rw [if_pos (by omega)]; exact leS hof.1.symm
            | 1, _ =>
              rw [if_neg (by omega)]
              exact .giveI F.data h2 (by decide) (by omega) (by rw [hlen5, List.drop_zero, List.take_length]; exact hof.2)
            | j + 2, hj => omega
      refine ⟨fun v hv => ?_, fun hn => ?_⟩
      · obtain ⟨n, hn, rfl⟩ : ∃ n : Nat, look S (tally fs) = some n ∧ v = int .i64 (n : Nat) := by
          have hv : getM S (tallyV (tally fs)) = some v := hv
          rw [look_getM] at hv
          obtain ⟨n, hn, e⟩ := Option.map_eq_some_iff.1 hv
          exact ⟨n, hn, e.symm⟩
        have g1 : (look S (tally fs)).getD 0 = n := by rw [hn]; rfl
        refine ⟨B1, ?_⟩
        exact ⟨trivial, some (fs ++ [F], RF), [0, 1, 5], rfl, ⟨s1, s2⟩, by show RF.length + 1 < r.length + 1; omega, fin n _ _ g1 (by omega) rfl rfl rfl rfl rfl, ⟨leRo eRF, leOwn rfl rfl (by rw [List.length_append]; rfl), .ptr 0 rfl, leI eall, .mp rfl, trivial⟩⟩
      · have hn := map_noneU (m := tally fs) hn
        have g1 : (look S (tally fs)).getD 0 = 0 := by rw [hn]; rfl
        refine ⟨B1, ?_⟩
        exact ⟨trivial, some (fs ++ [F], RF), [0, 1, 5], rfl, ⟨s1, s2⟩, by show RF.length + 1 < r.length + 1; omega, fin 0 _ _ g1 (Nat.zero_le _) rfl rfl rfl rfl rfl, ⟨leRo eRF, leOwn rfl rfl (by rw [List.length_append]; rfl), .ptr 0 rfl, leI eall, .mp rfl, trivial⟩⟩

end
end Go.Proofs.YtkchfbnkdpdbkaaDoor.Us

/-
  The contract of the document's archives.
-/
set_option linter.unusedVariables false
set_option linter.unusedSectionVars false
namespace Go.Proofs.YtkchfbnkdpdbkaaDoor.Us
open Go AL Oc Pa Spl Hd

theorem nodup_paths (l : List Fl) : ¬ dupF l ↔ ∀ a, a < l.length → ∀ b, b < a → (l.getD a fl0).path ≠ (l.getD b fl0).path := by
  unfold dupF
  rw [Classical.not_not]
  unfold List.Nodup
  rw [List.pairwise_iff_getElem]
  have get : ∀ i, i < l.length → ∀ h, (l.map Fl.path)[i]'h = (l.getD i fl0).path := fun i hi h => by
    rw [List.getElem_map, List.getD_eq_getElem?_getD, List.getElem?_eq_getElem hi]; rfl
  constructor
  · intro h a ha b hb e
    have := h b a (by rw [List.length_map]; omega) (by rw [List.length_map]; exact ha) hb
    rw [get b (by omega), get a ha] at this
    exact this e.symm
  · intro h i j hi hj hij e
    rw [List.length_map] at hi hj
    rw [get i hi, get j hj] at e
    exact h j hj i hij e.symm
section
variable [Globs]

/-- What a call hands back, known less. -/
theorem less {P : Program} {f : FuncId} {xs : List AV} {hp : List AO} {R R' : AV → List AO → Prop} (hc : ACalls P f xs hp R) (hr : ∀ r h', R r h' → ∃ l h1 b, LeH hp.length h' l h1 ∧ LeV h' l r b ∧ R' b h1) : ACalls P f xs hp R' :=
  ⟨hc.1, fun S0 L w vs hh hS hn hv => (hc.2 S0 L w vs hh hS hn hv).mono fun e w' ⟨v, r, h', L', h1, h2, h3, h4⟩ => by
    obtain ⟨l, h1', b, g1, g2, g3⟩ := hr _ _ h2
    exact ⟨v, b, h1', L'.view l, h1, g3, leh_rel h3 g1, LeV.den h3 (leh_seen h3 g1) g2 h4⟩⟩
theorem put_ro (s : ByteArray) (n : Int) (hs : s.size ≤ 9223372036854775805) : ACalls Tryd.prog 22 [str s, int .i64 n] [] (fun r h => r = .tup 2 (pair (.roI .u8 (headR s n)) (int .i64 (headE s n))) ∧ h = []) :=
  less (put_rhead s n hs) fun r h' ⟨e1, e2⟩ => by
    subst e1 e2
    exact ⟨[], [], _, lehN _, le_pair (.giveI (headR s n) rfl (by simp) (Nat.le_of_eq (Nat.zero_add _)) (by rw [List.drop_zero, List.take_length])) (leI rfl), rfl, rfl⟩

set_option maxHeartbeats 4000000 in
set_option maxRecDepth 10000 in
theorem uput_ref (l : List Fl) (hf : fitL l) (hs : okSizes l) : ACalls Tryd.prog 35 [flsV l] [] (UPutR l) := by
  obtain ⟨hl, hd⟩ := hf
  have hds := @data_succ l
  have hdl := data_le l
  have hnd := nodup_paths l
  have hat := fun (k : Nat) {c : Nat} (h : c < 2) => rowF_at l (k := k) h
  unfold UPutR
  refine rcalls Tryd.func35 rfl (by decide) ?_
  refine ⟨Nat, fun k => [(0, flsV l), (4, int .i64 (dataN (l.take k) : Nat)), (5, int .i64 k)], fun _ => [], fun k => k ≤ l.length, fun k => l.length - k,
    ⟨0, [], Nat.zero_le _, lehN _, ⟨.same _ trivial, leI rfl, leI rfl, trivial⟩⟩, ?_⟩
  intro k hk
  have hk : k ≤ l.length := hk
  have e1 : IntKind.i64.wrap ((k : Int) + 1) = ((k + 1 : Nat) : Int) := by rw [w64 (by omega) (by omega)]; omega
  refine ⟨fun c => ?_, fun c => ?_⟩
  · have f1 : (k : Int) < l.length := yes c
    have hds := hds (k := k) (by omega)
    have hle := hdl (k + 1)
    obtain ⟨F, hF⟩ : ∃ F, l.getD k fl0 = F := ⟨_, rfl⟩
    rw [hF] at hds
    have ek : (k : Int).toNat = k := by omega
    refine ⟨⟨by omega, by omega⟩, flC F, fun c hc => by rw [ek, hat k hc, hF], ?_⟩
    refine ⟨trivial, k + 1, [], by show k + 1 ≤ l.length; omega, by show l.length - (k + 1) < l.length - k; omega, lehN _, ⟨.same _ trivial, leI ?_, leI e1, trivial⟩⟩
    rw [w64 (by omega) (by omega)]; omega
  have f1 : ¬ (k : Int) < l.length := no c
  obtain rfl : k = l.length := by omega
  rw [List.take_length]
  refine ⟨fun c => ?_, fun c => ?_⟩
  · have := yes c; omega
  refine ⟨fun c => ?_, fun c => ?_⟩
  · have := yes c; omega
  have hbs := @body_succ l
  have hbad : ∀ f ∈ l, 0 ≤ (f.data.length : Int) ∧ (f.data.length : Int) ≤ 4194304 → ¬ headE f.path f.data.length = 0 → putE l = 9 ∧ putR l = [] ∧ headE f.path f.data.length = 9 := fun f hm hb h => by
    have h9 : ¬ okSplit f.path := fun x => h (headE_iff.2 ⟨x, hb.1, hb.2⟩)
    have e9 : putE l = 9 := if_neg fun x => h9 (x f hm)
    refine ⟨e9, ?_, ?_⟩
    · unfold putR; rw [if_neg (by rw [e9]; decide)]
    · unfold headE; rw [if_pos h9]
  have hmem := fun {k : Nat} (h : k < l.length) => get_mem h
  have hbl : ∀ k, (∀ f ∈ l.take k, okF f) → (bodyR (l.take k)).length ≤ 4194304 + 400 * 1535 := fun k h => by
    have h1 := body_max h
    have h2 := data_le l k
    have h3 : (l.take k).length ≤ 400 := by rw [List.length_take]; omega
    omega
  refine ⟨Nat, fun k => [(0, flsV l), (6, .own 0 0 (bodyR (l.take k)).length 1), (7, int .i64 k)], fun k => [.ints .u8 (bodyR (l.take k))], fun k => k ≤ l.length ∧ ∀ f ∈ l.take k, okF f, fun k => l.length - k,
    ⟨0, [0], ⟨Nat.zero_le _, fun f hf => by simp at hf⟩, lehE (Nat.le_refl _) .u8, ⟨.same _ trivial, .nil _ _ (by decide), leI rfl, trivial⟩⟩, ?_⟩
  rintro k ⟨hk, hall⟩
  have e1 : IntKind.i64.wrap ((k : Int) + 1) = ((k + 1 : Nat) : Int) := by rw [w64 (by omega) (by omega)]; omega
  refine ⟨fun c => ?_, fun c => ?_⟩
  · have f1 : (k : Int) < l.length := yes c
    have hbs := hbs (k := k) (by omega)
    have hm := hmem (k := k) (by omega)
    have ek : (k : Int).toNat = k := by omega
    have hat : ∀ c, c < 2 → rowF l ((k : Int).toNat * 2 + c) = flC (l.getD k fl0) c := fun c hc => by rw [ek]; exact hat k hc
    have hfl := hs _ hm
    have hdm := data_mem hm
    have htk := take_succ_fl (l := l) (k := k) (by omega)
    have hbl1 := hbl (k + 1)
    have hbl0 := hbl k hall
    generalize l.getD k fl0 = F at *
    have h1 := put_ro F.path F.data.length (by omega)
    have h2 := round_ref (F.data.length : Int) (by omega)
    rw [rndZ_nat] at h2
    have bI : 0 ≤ (k : Int) ∧ (k : Int) < l.length := ⟨by omega, f1⟩
    refine .inr ⟨16, by decide +kernel, ?_⟩
    refine ⟨_, rfl, ?_⟩
    refine ⟨_, rfl, ?_⟩
    refine ⟨_, ⟨bI, flC F, fun c hc => hat c hc, rfl⟩, ?_⟩
    refine ⟨_, rfl, ?_⟩
    refine ⟨_, rfl, ?_⟩
    refine ⟨_, rfl, ?_⟩
    refine ⟨_, rfl, ?_⟩
    refine ⟨_, ⟨bI, flC F, fun c hc => hat c hc, rfl⟩, ?_⟩
    refine ⟨_, rfl, ?_⟩
    refine ⟨_, rfl, ?_⟩
    refine ⟨_, rfl, ?_⟩
    refine ⟨_, ⟨[], _, h1, by rintro r h ⟨rfl, rfl⟩; exact ⟨.inl rfl, rfl, rfl⟩⟩, ?_⟩
    refine ⟨_, rfl, ?_⟩
    refine ⟨_, rfl, ?_⟩
    refine ⟨_, rfl, ?_⟩
    refine ⟨_, rfl, ?_⟩
    refine ⟨fun c2 => ?_, fun c2 => ?_⟩
    · have f2 : ¬ headE F.path F.data.length = 0 := yes c2
      obtain ⟨q1, q2, q3⟩ := hbad F hm (by omega) f2
      rw [q1, q2]
      exact ⟨[20], [.ints .u8 []], _, lehE (Nat.le_of_ble_eq_true rfl) .u8, le_pair (.nil _ _ (by decide)) (leI q3), rfl, rfl⟩
    have f2 : headE F.path F.data.length = 0 := Classical.byContradiction fun x => no c2 x
    have hokF : okF F := headE_iff.1 f2
    have hrl := head_len hokF
    have hrn := rnd_ge F.data.length
    have hr511 : rnd F.data.length ≤ F.data.length + 511 := by unfold rnd; omega
    have e2 : IntKind.i64.wrap (((rnd F.data.length : Nat) : Int) - (F.data.length : Int)) = ((rnd F.data.length - F.data.length : Nat) : Int) := by
      rw [w64 (by omega) (by omega)]; omega
    have hall' : ∀ f ∈ l.take (k + 1), okF f := by
      intro f hfm
      rw [htk] at hfm
      rcases List.mem_append.1 hfm with h | h
      · exact hall f h
      · rw [List.mem_singleton.1 h]; exact hokF
    have hbl1 := hbl1 hall'
    refine ⟨rfl, by show ((bodyR (l.take k)).length + _) * 1 ≤ _; omega, ?_⟩
    refine ⟨bI, flC F, fun c hc => hat c hc, ?_⟩
    refine ⟨by rw [List.length_append], by show ((bodyR (l.take k) ++ headR F.path F.data.length).length + F.data.length) * 1 ≤ _; rw [List.length_append]; omega, ?_⟩
    refine .inr ⟨15, by decide +kernel, ?_⟩
    refine ⟨_, rfl, ?_⟩
    refine ⟨_, rfl, ?_⟩
    refine ⟨_, rfl, ?_⟩
    refine ⟨_, ⟨bI, flC F, fun c hc => hat c hc, rfl⟩, ?_⟩
    refine ⟨_, rfl, ?_⟩
    refine ⟨_, rfl, ?_⟩
    refine ⟨_, rfl, ?_⟩
    refine ⟨_, ⟨[], _, h2, by rintro r h ⟨rfl, rfl⟩; exact ⟨.inl rfl, rfl, rfl⟩⟩, ?_⟩
    refine ⟨_, rfl, ?_⟩
    refine ⟨_, rfl, ?_⟩
    refine ⟨_, ⟨bI, flC F, fun c hc => hat c hc, rfl⟩, ?_⟩
    refine ⟨_, rfl, ?_⟩
    refine ⟨_, rfl, ?_⟩
    refine ⟨_, rfl, ?_⟩
    refine ⟨_, rfl, ?_⟩
    refine ⟨by simp only [List.length_append], ⟨by rw [e2]; omega, by rw [e2]; omega⟩, rfl, ?_, ?_⟩
    · show ((bodyR (l.take k) ++ headR F.path F.data.length ++ F.data).length + (List.replicate _ (0 : Int)).length) * 1 ≤ _
      rw [List.length_append, List.length_append, List.length_replicate, e2]; omega
    have hC : bodyR (l.take k) ++ headR F.path F.data.length ++ F.data ++ List.replicate (IntKind.i64.wrap (((rnd F.data.length : Nat) : Int) - (F.data.length : Int))).toNat 0 = bodyR (l.take (k + 1)) := by
      rw [hbs, e2]
      unfold fileR zer
      simp
    refine ⟨trivial, k + 1, [3], ⟨by omega, hall'⟩, by show l.length - (k + 1) < l.length - k; omega, leh1 rfl (leOint hC), ⟨.same _ trivial, leOwn rfl rfl ?_, leI e1, trivial⟩⟩
    rw [← hC]; simp only [List.length_append]
  have f1 : ¬ (k : Int) < l.length := no c
  obtain rfl : k = l.length := by omega
  have hb := hbl l.length hall
  have eT : l.take l.length = l := List.take_length
  rw [eT] at hb hall
  have hP : okP l := okP_of hall
  refine ⟨Nat, fun i => [(0, flsV l), (6, .own 0 0 (bodyR l).length 1), (10, int .i64 i)], fun _ => [.ints .u8 (bodyR l)], fun i => i ≤ l.length ∧ ∀ a, a < i → ∀ b, b < a → (l.getD a fl0).path ≠ (l.getD b fl0).path, fun i => l.length - i,
    ⟨0, [0], ⟨Nat.zero_le _, fun a ha => by omega⟩, leh1 rfl (leOint (by rw [eT])), ⟨.same _ trivial, leOwn rfl rfl (by rw [eT]), leI rfl, trivial⟩⟩, ?_⟩
  rintro i ⟨hi, hfree⟩
  have ei : IntKind.i64.wrap ((i : Int) + 1) = ((i + 1 : Nat) : Int) := by rw [w64 (by omega) (by omega)]; omega
  refine ⟨fun c => ?_, fun c => ?_⟩
  · have f2 : (i : Int) < l.length := yes c
    refine ⟨Nat, fun j => [(0, flsV l), (6, .own 0 0 (bodyR l).length 1), (10, int .i64 i), (11, int .i64 j)], fun _ => [.ints .u8 (bodyR l)], fun j => j ≤ i ∧ ∀ b, b < j → (l.getD i fl0).path ≠ (l.getD b fl0).path, fun j => i - j,
      ⟨0, [0], ⟨Nat.zero_le _, fun a ha => by omega⟩, leh1 rfl (leOint rfl), ⟨.same _ trivial, leOwn rfl rfl rfl, leI rfl, leI rfl, trivial⟩⟩, ?_⟩
    rintro j ⟨hj, hfj⟩
    have ej : IntKind.i64.wrap ((j : Int) + 1) = ((j + 1 : Nat) : Int) := by rw [w64 (by omega) (by omega)]; omega
    refine ⟨fun c => ?_, fun c => ?_⟩
    · have f3 : (j : Int) < i := yes c
      have h1 : ∀ c, c < 2 → rowF l ((i : Int).toNat * 2 + c) = flC (l.getD i fl0) c := fun c hc => by rw [show (i : Int).toNat = i by omega]; exact hat i hc
      have h2 : ∀ c, c < 2 → rowF l ((j : Int).toNat * 2 + c) = flC (l.getD j fl0) c := fun c hc => by rw [show (j : Int).toNat = j by omega]; exact hat j hc
      refine .inr ⟨10, by decide +kernel, ?_⟩
      refine ⟨_, rfl, ?_⟩
      refine ⟨_, rfl, ?_⟩
      refine ⟨_, ⟨⟨by omega, by omega⟩, flC (l.getD i fl0), fun c hc => h1 c hc, rfl⟩, ?_⟩
      refine ⟨_, rfl, ?_⟩
      refine ⟨_, rfl, ?_⟩
      refine ⟨_, rfl, ?_⟩
      refine ⟨_, rfl, ?_⟩
      refine ⟨_, ⟨⟨by omega, by omega⟩, flC (l.getD j fl0), fun c hc => h2 c hc, rfl⟩, ?_⟩
      refine ⟨_, rfl, ?_⟩
      refine ⟨_, rfl, ?_⟩
      refine ⟨fun c4 => ?_, fun c4 => ?_⟩
      · have f4 : (l.getD i fl0).path = (l.getD j fl0).path := yes c4
        have hdup : dupF l := Classical.byContradiction fun h => hnd.1 h i (by omega) j (by omega) f4
        have e7 : putE l = 7 := by unfold putE; rw [if_pos hP, if_pos hdup]
        have r7 : putR l = [] := by unfold putR; rw [if_neg (by rw [e7]; decide)]
        rw [e7, r7]
        exact ⟨[20], [.ints .u8 []], _, lehE (Nat.le_of_ble_eq_true rfl) .u8, le_pair (.nil _ _ (by decide)) (leI rfl), rfl, rfl⟩
      · have f4 : ¬ (l.getD i fl0).path = (l.getD j fl0).path := no c4
        refine ⟨trivial, j + 1, [0], ⟨by omega, fun b hb => ?_⟩, by show i - (j + 1) < i - j; omega, leh1 rfl (leOint rfl), ⟨.same _ trivial, leOwn rfl rfl rfl, leI rfl, leI ej, trivial⟩⟩
        by_cases e : b = j
        · rw [e]; exact f4
        · exact hfj b (by omega)
    · have f3 : ¬ (j : Int) < i := no c
      refine ⟨trivial, i + 1, [0], ⟨by omega, fun a ha b hb => ?_⟩, by show l.length - (i + 1) < l.length - i; omega, leh1 rfl (leOint rfl), ⟨.same _ trivial, leOwn rfl rfl rfl, leI ei, trivial⟩⟩
      by_cases e : a = i
      · rw [e]; exact hfj b (by omega)
      · exact hfree a (by omega) b hb
  · have f2 : ¬ (i : Int) < l.length := no c
    have hdup : ¬ dupF l := hnd.2 fun a ha b hb => hfree a (by omega) b hb
    have e0 : putE l = 0 := putE_ok.2 ⟨hP, hdup⟩
    have r0 : putR l = bodyR l ++ zer 1024 := by unfold putR; rw [if_pos e0]
    rw [e0, r0]
    refine ⟨rfl, ⟨by decide, by decide⟩, rfl, ?_, ?_⟩
    · show ((bodyR l).length + (List.replicate (1024 : Int).toNat (0 : Int)).length) * 1 ≤ _
      rw [List.length_replicate]; omega
    exact ⟨[1], [.ints .u8 (bodyR l ++ zer 1024)], _, leh1 rfl (leOint rfl), le_pair (leOwn rfl rfl (by rw [List.length_append]; rfl)) (leI rfl), rfl, rfl⟩
end
end Go.Proofs.YtkchfbnkdpdbkaaDoor.Us

/-
  The contracts of the document's Get, Size, and Same, and of ustar.Size.
-/
set_option linter.unusedVariables false
set_option linter.unusedSectionVars false
namespace Go.Proofs.YtkchfbnkdpdbkaaDoor.Us
open Go AL Oc Pa Spl Hd

/-- The first so many sizes. -/
def szs (l : List Nat) (k : Nat) : Nat := 1024 + ((l.take k).map fun n => 512 + rnd n).sum
theorem szs_succ {l : List Nat} {k : Nat} (h : k < l.length) : szs l (k + 1) = szs l k + (512 + rnd (l.getD k 0)) := by
  unfold szs
  rw [List.take_succ_eq_append_getElem h, List.map_append, List.sum_append, List.getD_eq_getElem?_getD, List.getElem?_eq_getElem h]
  simp; omega
theorem szs_all (l : List Nat) : szs l l.length = sizeN l := by unfold szs sizeN; rw [List.take_length]
theorem szs_le {l : List Nat} (hl : ∀ n ∈ l, n ≤ 4194304) : ∀ k, szs l k ≤ 1024 + k * 4195328
  | 0 => by unfold szs; simp
  | k + 1 => by
    have ih := szs_le hl k
    rcases Nat.lt_or_ge k l.length with h | h
    · rw [szs_succ h]
      have hm : l.getD k 0 ∈ l := by rw [List.getD_eq_getElem?_getD, List.getElem?_eq_getElem h]; exact List.getElem_mem h
      have := hl _ hm
      have : rnd (l.getD k 0) ≤ l.getD k 0 + 511 := by unfold rnd; omega
      omega
    · have : szs l (k + 1) = szs l k := by unfold szs; rw [List.take_of_length_le (by omega), List.take_of_length_le (by omega)]
      omega
def nats (l : List Nat) : List Int := l.map (fun n : Nat => Int.ofNat n)
theorem nats_len (l : List Nat) : (nats l).length = l.length := by unfold nats; exact List.length_map _
theorem nats_get (l : List Nat) {k : Nat} (h : k < l.length) : (nats l).getD k 0 = ((l.getD k 0 : Nat) : Int) := by
  unfold nats
  rw [List.getD_eq_getElem?_getD, List.getElem?_map, List.getD_eq_getElem?_getD, List.getElem?_eq_getElem h]; rfl
section
variable [Globs]

set_option maxRecDepth 10000 in
theorem usize_prog (l : List Nat) (hl : l.length ≤ 400) (hb : ∀ n ∈ l, n ≤ 4194304) : ACalls Tryd.prog 36 [.roI .i64 (nats l)] [] (fun r h => r = int .i64 (sizeN l : Nat) ∧ h = []) := by
  have hs := @szs_succ l
  have hle := szs_le hb
  have ha := szs_all l
  have hn := nats_len l
  have hg := fun {k : Nat} (h : k < l.length) => nats_get l h
  have h0 : szs l 0 = 1024 := rfl
  have hm : ∀ {k : Nat}, k < l.length → l.getD k 0 ≤ 4194304 := fun {k} h => hb _ (by rw [List.getD_eq_getElem?_getD, List.getElem?_eq_getElem h]; exact List.getElem_mem h)
  generalize szs l = Z at *
  refine rcalls Tryd.func36 rfl (by decide) ?_
  refine ⟨Nat, fun k => [(3, int .i64 (Z k : Nat)), (6, .roI .i64 (nats l)), (7, int .i64 (nats l).length), (8, int .i64 k)], fun _ => [], fun k => k ≤ l.length, fun k => l.length - k,
    ⟨0, [], Nat.zero_le _, lehN _, ⟨leI (by rw [h0]; rfl), leRo rfl, leI rfl, leI rfl, trivial⟩⟩, ?_⟩
  intro k hk
  have hk : k ≤ l.length := hk
  refine ⟨fun c => ?_, fun c => ?_⟩
  · have f1 : (k : Int) < (nats l).length := yes c
    have hs := hs (k := k) (by omega)
    have hle := hle (k + 1)
    have hg := hg (k := k) (by omega)
    have hm := hm (k := k) (by omega)
    have e1 : IntKind.i64.wrap ((k : Int) + 1) = ((k + 1 : Nat) : Int) := by rw [w64 (by omega) (by omega)]; omega
    have h1 := round_prog ((nats l).getD (k : Int).toNat 0) (by rw [Int.toNat_natCast, hg]; omega)
    rw [Int.toNat_natCast, hg, rndZ_nat] at h1
    have h1 : ACalls Tryd.prog 26 [int .i64 ((nats l).getD (k : Int).toNat 0)] [] (fun r h => r = int .i64 ((rnd (l.getD k 0) : Nat) : Int) ∧ h = []) := by rw [Int.toNat_natCast, hg]; exact h1
    refine ⟨⟨by omega, by omega⟩, ?_⟩
    refine ⟨[], _, h1, ?_⟩
    rintro r hh ⟨rfl, rfl⟩
    refine ⟨.inl rfl, ?_⟩
    refine ⟨trivial, k + 1, [], by show k + 1 ≤ l.length; omega, by show l.length - (k + 1) < l.length - k; omega, lehN _, ⟨leI ?_, leRo rfl, leI rfl, leI e1, trivial⟩⟩
    rw [w64 (n := 512 + _) (by omega) (by omega), w64 (by omega) (by omega)]; omega
  · have f1 : ¬ (k : Int) < (nats l).length := no c
    obtain rfl : k = l.length := by omega
    exact ⟨[], [], _, lehN _, leI (by rw [ha]), rfl, rfl⟩

set_option maxRecDepth 10000 in
theorem usize_ref (l : List Nat) (hl : l.length ≤ 400) (hb : ∀ n ∈ l, n ≤ 4194304) : ACalls Tryd.prog 37 [.roI .i64 (nats l)] [] (fun r h => r = int .i64 (sizeN l : Nat) ∧ h = []) := by
  have hs := @szs_succ l
  have hle := szs_le hb
  have ha := szs_all l
  have hn := nats_len l
  have hg := fun {k : Nat} (h : k < l.length) => nats_get l h
  have h0 : szs l 0 = 1024 := rfl
  have hm : ∀ {k : Nat}, k < l.length → l.getD k 0 ≤ 4194304 := fun {k} h => hb _ (by rw [List.getD_eq_getElem?_getD, List.getElem?_eq_getElem h]; exact List.getElem_mem h)
  generalize szs l = Z at *
  refine rcalls Tryd.func37 rfl (by decide) ?_
  refine ⟨Nat, fun k => [(0, .roI .i64 (nats l)), (3, int .i64 (Z k : Nat)), (4, int .i64 k)], fun _ => [], fun k => k ≤ l.length, fun k => l.length - k,
    ⟨0, [], Nat.zero_le _, lehN _, ⟨leRo rfl, leI (by rw [h0]; rfl), leI rfl, trivial⟩⟩, ?_⟩
  intro k hk
  have hk : k ≤ l.length := hk
  refine ⟨fun c => ?_, fun c => ?_⟩
  · have f1 : (k : Int) < (nats l).length := yes c
    have hs := hs (k := k) (by omega)
    have hle := hle (k + 1)
    have hg := hg (k := k) (by omega)
    have hm := hm (k := k) (by omega)
    have e1 : IntKind.i64.wrap ((k : Int) + 1) = ((k + 1 : Nat) : Int) := by rw [w64 (by omega) (by omega)]; omega
    have h1 := round_ref ((nats l).getD (k : Int).toNat 0) (by rw [Int.toNat_natCast, hg]; omega)
    rw [Int.toNat_natCast, hg, rndZ_nat] at h1
    have h1 : ACalls Tryd.prog 27 [int .i64 ((nats l).getD (k : Int).toNat 0)] [] (fun r h => r = int .i64 ((rnd (l.getD k 0) : Nat) : Int) ∧ h = []) := by rw [Int.toNat_natCast, hg]; exact h1
    refine ⟨⟨by omega, by omega⟩, ?_⟩
    refine ⟨[], _, h1, ?_⟩
    rintro r hh ⟨rfl, rfl⟩
    refine ⟨.inl rfl, ?_⟩
    refine ⟨trivial, k + 1, [], by show k + 1 ≤ l.length; omega, by show l.length - (k + 1) < l.length - k; omega, lehN _, ⟨leRo rfl, leI ?_, leI e1, trivial⟩⟩
    rw [w64 (n := _ + 512) (by omega) (by omega), w64 (by omega) (by omega)]; omega
  · have f1 : ¬ (k : Int) < (nats l).length := no c
    obtain rfl : k = l.length := by omega
    exact ⟨[], [], _, lehN _, leI (by rw [ha]), rfl, rfl⟩

noncomputable instance : DecidableEq Fl := fun _ _ => Classical.propDecidable _
def okBytes (l : List Fl) : Prop := ∀ f ∈ l, ∀ x ∈ f.data, 0 ≤ x ∧ x < 256

theorem deqTu {p : Prop} [Decidable p] (h : p) : bool (decide p) = bool true := by rw [decide_eq_true h]
theorem deqFu {p : Prop} [Decidable p] (h : ¬ p) : bool (decide p) = bool false := by rw [decide_eq_false h]

set_option maxHeartbeats 1000000 in
set_option maxRecDepth 10000 in
theorem same_ref (a b : List Fl) (ha : okBytes a) (hb : okBytes b) (hl : a.length ≤ 281474976710656) (hm : b.length ≤ 281474976710656) : ACalls Tryd.prog 32 [flsV a, flsV b] [] (fun r h => r = bool (decide (a = b)) ∧ h = []) := by
  refine rcalls Tryd.func32 rfl (by decide) ?_
  refine ⟨fun c => ?_, fun c => ?_⟩
  · have f1 : ¬ (a.length : Int) = b.length := yes c
    exact ⟨[], [], _, lehN _, leFP fun h => f1 (by rw [h]), rfl, rfl⟩
  have f1 : (a.length : Int) = b.length := Classical.byContradiction fun x => no c x
  refine ⟨Nat, fun k => [(0, flsV a), (1, flsV b), (5, int .i64 k)], fun _ => [], fun k => k ≤ a.length ∧ ∀ i, i < k → a.getD i fl0 = b.getD i fl0, fun k => a.length - k,
    ⟨0, [], ⟨Nat.zero_le _, fun i hi => by omega⟩, lehN _, ⟨.same _ trivial, .same _ trivial, leI rfl, trivial⟩⟩, ?_⟩
  rintro k ⟨hk, heq⟩
  have e1 : IntKind.i64.wrap ((k : Int) + 1) = ((k + 1 : Nat) : Int) := by rw [w64 (by omega) (by omega)]; omega
  refine ⟨fun c => ?_, fun c => ?_⟩
  · have f2 : (k : Int) < a.length := yes c
    have h1 : ∀ c, c < 2 → rowF a ((k : Int).toNat * 2 + c) = flC (a.getD k fl0) c := fun c hc => by rw [Int.toNat_natCast]; exact rowF_at a hc
    have h2 : ∀ c, c < 2 → rowF b ((k : Int).toNat * 2 + c) = flC (b.getD k fl0) c := fun c hc => by rw [Int.toNat_natCast]; exact rowF_at b hc
    have hA := ha _ (get_mem (l := a) (k := k) (by omega))
    have hB := hb _ (get_mem (l := b) (k := k) (by omega))
    have hab : a = b → a.getD k fl0 = b.getD k fl0 := fun h => by rw [h]
    obtain ⟨F, hF⟩ : ∃ F, a.getD k fl0 = F := ⟨_, rfl⟩
    obtain ⟨G, hG⟩ : ∃ G, b.getD k fl0 = G := ⟨_, rfl⟩
    rw [hF] at h1 hA hab
    rw [hG] at h2 hB hab
    have b1 : 0 ≤ (k : Int) ∧ (k : Int) < a.length := ⟨by omega, f2⟩
    have b2 : 0 ≤ (k : Int) ∧ (k : Int) < b.length := by omega
    by_cases hp : F.path = G.path
    · refine .inr ⟨24, by decide +kernel, ?_⟩
      refine ⟨_, rfl, ?_⟩
      refine ⟨_, rfl, ?_⟩
      refine ⟨_, ⟨b1, flC F, fun c hc => h1 c hc, rfl⟩, ?_⟩
      refine ⟨_, rfl, ?_⟩
      refine ⟨_, rfl, ?_⟩
      refine ⟨_, rfl, ?_⟩
      refine ⟨_, rfl, ?_⟩
      refine ⟨_, ⟨b2, flC G, fun c hc => h2 c hc, rfl⟩, ?_⟩
      refine ⟨_, rfl, ?_⟩
      refine ⟨_, rfl, ?_⟩
      refine ⟨_, deqFu (p := ¬ _) (fun h => h hp), ?_⟩
      refine ⟨_, rfl, ?_⟩
      refine ⟨_, rfl, ?_⟩
      refine ⟨_, rfl, ?_⟩
      refine ⟨_, ⟨b1, flC F, fun c hc => h1 c hc, rfl⟩, ?_⟩
      refine ⟨_, rfl, ?_⟩
      refine ⟨_, rfl, ?_⟩
      refine ⟨_, rfl, ?_⟩
      refine ⟨_, rfl, ?_⟩
      refine ⟨_, rfl, ?_⟩
      refine ⟨_, ⟨b2, flC G, fun c hc => h2 c hc, rfl⟩, ?_⟩
      refine ⟨_, rfl, ?_⟩
      refine ⟨_, rfl, ?_⟩
      refine ⟨_, rfl, ?_⟩
      refine ⟨fun e => (by cases e), fun _ => ?_⟩
      refine ⟨fun c3 => ?_, fun c3 => ?_⟩
      · have f3 : ¬ bytesOf F.data = bytesOf G.data := yes c3
        exact ⟨[], [], _, lehN _, leFP fun h => f3 (by rw [hab h]), rfl, rfl⟩
      · have f3 : bytesOf F.data = bytesOf G.data := Classical.byContradiction fun x => no c3 x
        have f4 := (bytes_eq hA hB).1 f3
        refine ⟨trivial, k + 1, [], ⟨by omega, fun i hi => ?_⟩, by show a.length - (k + 1) < a.length - k; omega, lehN _, ⟨.same _ trivial, .same _ trivial, leI e1, trivial⟩⟩
        by_cases e : i = k
        · rw [e, hF, hG]
          cases F; cases G
          simp only at hp f4
          rw [hp, f4]
        · exact heq i (by omega)
    · refine .inr ⟨24, by decide +kernel, ?_⟩
      refine ⟨_, rfl, ?_⟩
      refine ⟨_, rfl, ?_⟩
      refine ⟨_, ⟨b1, flC F, fun c hc => h1 c hc, rfl⟩, ?_⟩
      refine ⟨_, rfl, ?_⟩
      refine ⟨_, rfl, ?_⟩
      refine ⟨_, rfl, ?_⟩
      refine ⟨_, rfl, ?_⟩
      refine ⟨_, ⟨b2, flC G, fun c hc => h2 c hc, rfl⟩, ?_⟩
      refine ⟨_, rfl, ?_⟩
      refine ⟨_, rfl, ?_⟩
      refine ⟨_, deqTu (p := ¬ _) hp, ?_⟩
      refine ⟨_, rfl, ?_⟩
      refine ⟨_, rfl, ?_⟩
      refine ⟨_, rfl, ?_⟩
      refine ⟨_, rfl, ?_⟩
      refine ⟨_, rfl, ?_⟩
      refine ⟨_, rfl, ?_⟩
      refine ⟨_, rfl, ?_⟩
      refine ⟨_, rfl, ?_⟩
      refine ⟨_, rfl, ?_⟩
      refine ⟨_, rfl, ?_⟩
      refine ⟨_, rfl, ?_⟩
      refine ⟨_, rfl, ?_⟩
      refine ⟨_, rfl, ?_⟩
      refine ⟨fun _ => ?_, fun e => (by cases e)⟩
      exact ⟨[], [], _, lehN _, leFP fun h => hp (by rw [hab h]), rfl, rfl⟩
  · have f2 : ¬ (k : Int) < a.length := no c
    refine ⟨[], [], _, lehN _, leTB (decide_eq_true ?_), rfl, rfl⟩
    apply List.ext_getElem (by omega)
    intro i h1 h2
    have := heq i (by omega)
    rw [List.getD_eq_getElem?_getD, List.getD_eq_getElem?_getD, List.getElem?_eq_getElem h1, List.getElem?_eq_getElem h2] at this
    exact this
end
end Go.Proofs.YtkchfbnkdpdbkaaDoor.Us

/-
  The laws of header, walked: HeaderApart, HeaderTurned, HeaderSums.
-/
set_option linter.unusedVariables false
set_option linter.unusedSectionVars false
namespace Go.Proofs.YtkchfbnkdpdbkaaDoor.Hd
open Go AL Oc Pa Spl
section
variable [Globs]

theorem headR_len (s : ByteArray) (n : Int) : (headR s n).length = (if okHd s n then 512 else 0) := by
  by_cases h : okHd s n
  · rw [head_len h, if_pos h]
  · unfold headR; rw [if_neg h, if_neg h]; rfl


set_option maxHeartbeats 2000000 in
set_option maxRecDepth 10000 in
theorem apart_prog (s t : ByteArray) (xs : List Int) (hs : s.size ≤ 281474976710656) (ht : t.size ≤ 281474976710656) (hx : xs.length = 2) :
    ACalls Tryd.prog 8 [str s, str t, .aggI .i64 xs] [] (fun r h => r = .tt ∧ h = []) := by
  obtain ⟨n, m, rfl⟩ : ∃ n m, xs = [n, m] := by
    match xs, hx with
    | [a, b], _ => exact ⟨a, b, rfl⟩
  have h1 := put_head s n (by omega)
  have h2 := put_head t m (by omega)
  have hr1 := head_range s n
  have hr2 := head_range t m
  have z1 : ¬ headE s n = 0 ↔ (headR s n).length = 0 := by
    rw [headE_iff, headR_len]; split <;> simp_all
  have z2 : ¬ headE t m = 0 ↔ (headR t m).length = 0 := by
    rw [headE_iff, headR_len]; split <;> simp_all
  have k : headE s n = 0 → headE t m = 0 → (headR s n = headR t m ↔ s = t ∧ n = m) := fun e1 e2 =>
    ⟨fun h => head_inj (headE_iff.1 e1) (headE_iff.1 e2) h, fun h => by rw [h.1, h.2]⟩
  unfold HPutR at h1 h2
  generalize headR s n = X at *
  generalize headE s n = E at *
  generalize headR t m = Y at *
  generalize headE t m = F at *
  refine rcalls Tryd.func8 rfl (by decide) ?_
  refine ⟨rfl, ?_⟩
  refine ⟨[], _, hd_awake, ?_⟩
  rintro r hh ⟨rfl, rfl⟩
  refine ⟨.inl rfl, ?_⟩
  refine ⟨⟨by omega, by decide⟩, by show addOff 0 0 1 < 2; decide, ?_⟩
  refine ⟨[], _, h1, ?_⟩
  rintro r hh ⟨rfl, rfl⟩
  refine ⟨.inl rfl, ?_⟩
  refine ⟨⟨by omega, by decide⟩, by show addOff 0 1 1 < 2; decide, ?_⟩
  refine ⟨[], _, h2, ?_⟩
  rintro r hh ⟨rfl, rfl⟩
  refine ⟨.inl rfl, ?_⟩
  have w1 : (decide (¬ E = 0) == decide ((X.length : Int) = 0)) = true := beq_iff_eq.2 (decide_eq_decide.2 (z1.trans (by omega)))
  have w2 : (decide (¬ F = 0) == decide ((Y.length : Int) = 0)) = true := beq_iff_eq.2 (decide_eq_decide.2 (z2.trans (by omega)))
  refine ⟨fun c1 => ?_, fun c1 => ?_⟩
  · refine ⟨fun _ => ?_, fun e => ?_⟩
    · refine ⟨[], [], .tt, lehN _, leTT ?_, rfl, rfl⟩
      exact w2
    · rw [w1] at e; cases e
  refine ⟨fun c2 => ?_, fun c2 => ?_⟩
  · refine ⟨fun _ => ?_, fun e => ?_⟩
    · refine ⟨[], [], .tt, lehN _, leTT ?_, rfl, rfl⟩
      exact w2
    · rw [w1] at e; cases e
  have f1 : E = 0 := Classical.byContradiction fun x => no c1 x
  have f2 : F = 0 := Classical.byContradiction fun x => no c2 x
  have g := k f1 f2
  refine ⟨by omega, by omega, ?_⟩
  refine ⟨fun c3 => ?_, fun c3 => ?_⟩
  · refine ⟨⟨by omega, by decide⟩, by show addOff 0 0 1 < 2; decide, ?_⟩
    refine ⟨⟨by omega, by decide⟩, by show addOff 0 1 1 < 2; decide, ?_⟩
    refine ⟨[], [], .tt, lehN _, leTT ?_, rfl, rfl⟩
    have f3 : s = t := yes c3
    refine beq_iff_eq.2 (decide_eq_decide.2 ?_)
    rw [List.drop_zero, List.take_length, List.drop_zero, List.take_length]
    exact (bytes_eq hr1 hr2).trans (g.trans ⟨fun h => h.2, fun h => ⟨f3, h⟩⟩)
  · refine ⟨[], [], .tt, lehN _, leTT ?_, rfl, rfl⟩
    have f3 : ¬ s = t := no c3
    refine beq_iff_eq.2 (decide_eq_false fun h => ?_)
    rw [List.drop_zero, List.take_length, List.drop_zero, List.take_length] at h
    exact f3 (g.1 ((bytes_eq hr1 hr2).1 h)).1
end
end Go.Proofs.YtkchfbnkdpdbkaaDoor.Hd

/-
  One byte turned, and turned back.
-/
set_option linter.unusedVariables false
namespace Go.Proofs.YtkchfbnkdpdbkaaDoor.Hd
open Go

theorem xor_nat {n m : Nat} (hn : n < 256) (hm : m < 256) : Go.bits .xor .u8 (n : Int) (m : Int) = ((n ^^^ m : Nat) : Int) := by
  have h1 : n % 2 ^ IntKind.u8.bits = n := Nat.mod_eq_of_lt hn
  have h2 : m % 2 ^ IntKind.u8.bits = m := Nat.mod_eq_of_lt hm
  have h3 : n ^^^ m < 2 ^ 8 := Nat.xor_lt_two_pow hn hm
  simp only [Go.bits, BitVec.ofInt_natCast, BitVec.toNat_xor, BitVec.toNat_ofNat, h1, h2]
  rw [IntKind.wrap_u8]
  omega
theorem xor_u8 {a b : Int} (ha : 0 ≤ a ∧ a < 256) (hb : 0 ≤ b ∧ b < 256) :
    (0 ≤ Go.bits .xor .u8 a b ∧ Go.bits .xor .u8 a b < 256) ∧ (b ≠ 0 → Go.bits .xor .u8 a b ≠ a) ∧ Go.bits .xor .u8 (Go.bits .xor .u8 a b) b = a := by
  obtain ⟨n, rfl⟩ : ∃ n : Nat, a = n := ⟨a.toNat, by omega⟩
  obtain ⟨m, rfl⟩ : ∃ m : Nat, b = m := ⟨b.toNat, by omega⟩
  have hn : n < 256 := by omega
  have hm : m < 256 := by omega
  have h3 : n ^^^ m < 256 := Nat.xor_lt_two_pow (n := 8) hn hm
  rw [xor_nat hn hm, xor_nat h3 hm]
  have h4 : (n ^^^ m) ^^^ m = n := by rw [Nat.xor_assoc, Nat.xor_self, Nat.xor_zero]
  refine ⟨⟨by omega, by omega⟩, fun h e => ?_, by rw [h4]⟩
  have e : n ^^^ m = n := by omega
  have : m = 0 := by
    have : n ^^^ (n ^^^ m) = m := by rw [← Nat.xor_assoc, Nat.xor_self, Nat.zero_xor]
    rw [e, Nat.xor_self] at this
    exact this.symm
  exact h (by omega)

end Go.Proofs.YtkchfbnkdpdbkaaDoor.Hd

/-
  The law HeaderTurned, walked.
-/
set_option linter.unusedVariables false
set_option linter.unusedSectionVars false
namespace Go.Proofs.YtkchfbnkdpdbkaaDoor.Hd
open Go AL Oc Pa Spl
section
variable [Globs]

theorem own_cast {k : IntKind} {f : Nat} {xs ys : List Int} {R : AV → List AO → Prop} {tl : List AV} (e : xs = ys) (h : ACalls Tryd.prog f (.roI k ys :: tl) [] R) : ACalls Tryd.prog f (.roI k xs :: tl) [] R := by
  rw [e]; exact h
def turnV (p : ByteArray) (n a m : Int) : AV := .agg 4 fun i => [str p, int .i64 n, int .u16 a, int .u8 m].getD i .top

set_option maxHeartbeats 2000000 in
set_option maxRecDepth 10000 in
theorem turned_prog (s : ByteArray) (n a m : Int) (hs : s.size ≤ 281474976710656) (ha : 0 ≤ a ∧ a < 65536) (hm : 0 ≤ m ∧ m < 256) :
    ACalls Tryd.prog 6 [turnV s n a m] [] (fun r h => r = .tt ∧ h = []) := by
  have h1 := put_head s n (by omega)
  have hr1 := head_range s n
  have hok : headE s n = 0 → okHd s n := fun h => headE_iff.1 h
  have hlen : okHd s n → (headR s n).length = 512 := fun h => head_len h
  have hback := fun (h : okHd s n) => get_head h
  have hturn := fun (h : okHd s n) (b : List Int) (k : Nat) (hk : k < 512) (hl : b.length = 512) (hb : ∀ i, i ≠ k → b.getD i 0 = (headR s n).getD i 0) (hne : b.getD k 0 ≠ (headR s n).getD k 0) => head_turned h hk hl hb hne
  unfold HPutR at h1
  generalize headR s n = X at *
  generalize headE s n = E at *
  refine rcalls Tryd.func6 rfl (by decide) ?_
  refine ⟨[], _, hd_awake, ?_⟩
  rintro r hh ⟨rfl, rfl⟩
  refine ⟨.inl rfl, ?_⟩
  refine ⟨[], _, h1, ?_⟩
  rintro r hh ⟨rfl, rfl⟩
  refine ⟨.inl rfl, ?_⟩
  refine ⟨fun c1 => ?_, fun c1 => ?_⟩
  · exact ⟨[], [], .tt, lehN _, .tt, rfl, rfl⟩
  refine ⟨fun c2 => ?_, fun c2 => ?_⟩
  · exact ⟨[], [], .tt, lehN _, .tt, rfl, rfl⟩
  have f1 : E = 0 := Classical.byContradiction fun x => no c1 x
  have f2 : ¬ m = 0 := no c2
  have ok := hok f1
  have hl := hlen ok
  refine ⟨fun c3 => absurd (yes c3) (by rw [hl]; decide), fun c3 => ?_⟩
  obtain ⟨K, eK, hK⟩ : ∃ K : Nat, (IntKind.i64.wrap a).tmod 512 = (K : Int) ∧ K < 512 := by
    rw [w64 (by omega) (by omega), Int.tmod_eq_emod_of_nonneg ha.1]
    exact ⟨(a % 512).toNat, by omega, by omega⟩
  have kk : addOff 0 ((IntKind.i64.wrap a).tmod 512).toNat 1 = K := by rw [eK]; unfold addOff; omega
  have b1 : 0 ≤ (IntKind.i64.wrap a).tmod 512 ∧ (IntKind.i64.wrap a).tmod 512 < (X.length : Int) := by rw [eK]; omega
  have b2 : addOff 0 ((IntKind.i64.wrap a).tmod 512).toNat 1 < X.length := by rw [kk]; omega
  have hget : ∀ {i : Nat}, i < X.length → X.getD i 0 ∈ X := fun {i} hi => by
    rw [List.getD_eq_getElem?_getD, List.getElem?_eq_getElem hi]; exact List.getElem_mem hi
  obtain ⟨q1, q2, q3⟩ := xor_u8 (hr1 _ (hget b2)) hm
  obtain ⟨Y, eY⟩ : ∃ Y, Y = X.set (addOff 0 ((IntKind.i64.wrap a).tmod 512).toNat 1) (bits BinOp.xor IntKind.u8 (X.getD (addOff 0 ((IntKind.i64.wrap a).tmod 512).toNat 1) 0) m) := ⟨_, rfl⟩
  have yl : Y.length = 512 := by rw [eY, List.length_set, hl]
  have y2 : Y.getD (addOff 0 ((IntKind.i64.wrap a).tmod 512).toNat 1) 0 = bits BinOp.xor IntKind.u8 (X.getD (addOff 0 ((IntKind.i64.wrap a).tmod 512).toNat 1) 0) m := by
    rw [eY, List.getD_eq_getElem?_getD, List.getElem?_set_self b2]; rfl
  have y3 : ∀ i, i ≠ addOff 0 ((IntKind.i64.wrap a).tmod 512).toNat 1 → Y.getD i 0 = X.getD i 0 := fun i hi => by
    rw [eY, List.getD_eq_getElem?_getD, List.getElem?_set_ne (Ne.symm hi), List.getD_eq_getElem?_getD]
  have yr : ∀ x ∈ Y, 0 ≤ x ∧ x < 256 := fun x hx => by
    rw [eY] at hx
    rcases List.mem_or_eq_of_mem_set hx with h | h
    · exact hr1 x h
    · rw [h]; exact q1
  have y4 : Y.set (addOff 0 ((IntKind.i64.wrap a).tmod 512).toNat 1) (bits BinOp.xor IntKind.u8 (Y.getD (addOff 0 ((IntKind.i64.wrap a).tmod 512).toNat 1) 0) m) = X := by
    rw [y2, q3, eY, List.set_set]
    apply List.ext_getElem?
    intro i
    by_cases h : addOff 0 ((IntKind.i64.wrap a).tmod 512).toNat 1 = i
    · subst h
      rw [List.getElem?_set_self b2, List.getD_eq_getElem?_getD, List.getElem?_eq_getElem b2]; rfl
    · rw [List.getElem?_set_ne h]
  have g1 : getEr Y = 2 := hturn ok Y _ (by rw [kk]; exact hK) yl y3 (by rw [y2]; exact q2 f2)
  have c4 := hget_prog Y yr (by omega)
  have g2 : getEr (X ++ [m]) = 2 := get_other (by rw [List.length_append, hl, List.length_singleton]; decide) (by rw [List.length_append, hl, List.length_singleton]; decide)
  have c5 := hget_prog (X ++ [m]) (fun x hx => by
    rcases List.mem_append.1 hx with h | h
    · exact hr1 x h
    · rw [List.mem_singleton.1 h]; exact hm) (by rw [List.length_append, hl, List.length_singleton]; decide)
  have g3 : getEr (X.take K) = 3 := get_len (by rw [List.length_take]; omega)
  have c6 := hget_prog (X.take K) (fun x hx => hr1 x (List.mem_of_mem_take hx)) (by rw [List.length_take]; omega)
  have e1 : (((X.set (addOff 0 ((IntKind.i64.wrap a).tmod 512).toNat 1) (bits BinOp.xor IntKind.u8 (X.getD (addOff 0 ((IntKind.i64.wrap a).tmod 512).toNat 1) 0) m)).drop 0).take X.length) = Y := by
    rw [← eY, List.drop_zero, hl, ← yl, List.take_length]
  unfold HGetR at c4 c5 c6
  rw [g1] at c4
  rw [g2] at c5
  rw [g3] at c6
  refine ⟨by decide, ?_⟩
  refine ⟨b1, b2, b1, b2, ?_⟩
  refine ⟨[], _, by rw [List.length_set]; omega, own_cast e1 c4, ?_⟩
  rintro r hh ⟨rfl, rfl⟩
  refine ⟨.inr ⟨fun i hi => ?_, fun o ho => by cases ho⟩, ?_⟩
  · match i, hi with
    | 0, _ => trivial
    | 1, _ => trivial
    | 2, _ => trivial
  refine ⟨b1, by rw [List.length_set]; exact b2, b1, by rw [List.length_set]; exact b2, ?_⟩
  rw [← eY, y4]
  clear y4 y3 y2 q1 q2 q3 eY g1 g2 g3 hget hturn hback h1 c4 e1
  refine ⟨rfl, by omega, by show (0 + _) * 1 ≤ _; rw [List.length_take, List.length_drop]; omega, ?_⟩
  refine ⟨by simp, by simp, by show _ * 1 ≤ _; simp; omega, ?_⟩
  refine ⟨[], _, by simp, own_cast ?_ c5, ?_⟩
  · simp
    exact List.take_of_length_le (by simp)
  rintro r hh ⟨rfl, rfl⟩
  refine ⟨.inr ⟨fun i hi => ?_, fun o ho => by cases ho⟩, ?_⟩
  · match i, hi with
    | 0, _ => trivial
    | 1, _ => trivial
    | 2, _ => trivial
  refine ⟨⟨b1.1, Int.le_of_lt b1.2⟩, ?_⟩
  refine ⟨[], _, ?_, own_cast ?_ c6, ?_⟩
  · show addOff 0 0 1 + (((IntKind.i64.wrap a).tmod 512).toNat - 0) ≤ X.length
    rw [eK]; unfold addOff; omega
  · show (X.drop (addOff 0 0 1)).take (((IntKind.i64.wrap a).tmod 512).toNat - 0) = _
    rw [eK]; rfl
  rintro r hh ⟨rfl, rfl⟩
  refine ⟨.inr ⟨fun i hi => ?_, fun o ho => by cases ho⟩, ?_⟩
  · match i, hi with
    | 0, _ => trivial
    | 1, _ => trivial
    | 2, _ => trivial
  refine ⟨fun _ => ?_, fun e => absurd rfl (no e)⟩
  refine ⟨fun _ => ?_, fun e => absurd rfl (no e)⟩
  exact ⟨[], [], .tt, lehN _, leTT (decide_eq_true rfl), rfl, rfl⟩
end
end Go.Proofs.YtkchfbnkdpdbkaaDoor.Hd

/-
  The contract of the document's Get.
-/
set_option linter.unusedVariables false
set_option linter.unusedSectionVars false
namespace Go.Proofs.YtkchfbnkdpdbkaaDoor.Us
open Go AL Oc Pa Spl Hd

theorem vrsU {n : Nat} {f : Nat → AV} {l : List Fl} (e : n = l.length) (h : ∀ i, i < n * 2 → f i = rowF l i) : VLe (.ro n 2 f) (flsV l) := fun w S L v hv => by
  subst e
  obtain ⟨A, cap, e, hc, hd⟩ := hv
  refine ⟨A, cap, e, hc, fun i hi => ?_⟩
  obtain ⟨u, h1, h2⟩ := hd i hi
  exact ⟨u, h1, by rw [← h i hi]; exact h2⟩
theorem rowFree (fs : List Fl) (i : Nat) : (rowF fs i).free := flC_free _ _
theorem rowCell1 (fs : List Fl) (i : Nat) : cell1 (rowF fs i) = true := flC_cell1 _ _
theorem lehRow0 {h : List AO} {j : Nat} (hj : h.length ≤ j) (g : Nat → AV) : LeH 0 h [j] [.row 0 g] :=
  ⟨rfl, Nat.zero_le _, fun i hi => absurd hi (Nat.not_lt_zero _), List.nodup_cons.2 ⟨by simp, .nil⟩, fun i m p hi hp => by
    cases i with
    | zero => simp at hi hp; subst hi hp; exact .inr ⟨Nat.zero_le _, hj, .inr (.inr ⟨g, rfl⟩)⟩
    | succ i => simp at hi⟩

/-- What the walk of the document knows: files so far, and where the next one lies. -/
structure InvD (b : List Int) (fs : List Fl) (at' : Nat) : Prop where
  ok : ∀ f ∈ fs, okF f
  bytes : okBytes fs
  size : 512 * fs.length + dataN fs ≤ at'
  most : at' ≤ b.length + 511
  arc : ∀ m, isArc b m → ∃ m', m = fs ++ m' ∧ at' = (bodyR fs).length
theorem inv_zero (b : List Int) : InvD b [] 0 := ⟨fun f hf => (by cases hf), fun f hf => (by cases hf), Nat.le_refl _, Nat.zero_le _, fun m _ => ⟨m, rfl, rfl⟩⟩
theorem inv_arc {b : List Int} {fs : List Fl} {at' : Nat} (h : InvD b fs at') {m : List Fl} (hm : isArc b m) : ∃ m', m = fs ++ m' ∧ at' = (bodyR fs).length ∧ Us.arc (b.drop at') m' := by
  obtain ⟨m', e, ea⟩ := h.arc m hm
  refine ⟨m', e, ea, fun f hf => hm.1.1 f (by rw [e]; exact List.mem_append_right _ hf), ?_⟩
  rw [hm.1.2, e, body_app, List.append_assoc, ea, List.drop_left]
theorem inv_end {b : List Int} {fs : List Fl} {at' : Nat} (h : InvD b fs at') (he : b.length ≤ at' + 1024) {m : List Fl} (hm : isArc b m) : m = fs := by
  obtain ⟨m', e, ea, h2⟩ := inv_arc h hm
  have : m' = [] := Classical.byContradiction fun x => by
    have := (arc_len h2).2.2 x
    rw [List.length_drop] at this
    omega
  rw [e, this, List.append_nil]
theorem inv_one {b : List Int} {fs : List Fl} {at' : Nat} (h : InvD b fs at') (he : at' + 1024 < b.length) {m : List Fl} (hm : isArc b m) : one (b.drop at') := by
  obtain ⟨m', e, ea, h2⟩ := inv_arc h hm
  match m', h2 with
  | [], h2 =>
    have := congrArg List.length (arc_nil.1 h2)
    rw [List.length_drop, zer_len] at this
    omega
  | f :: m', h2 => exact (arc_cons.1 h2).1
theorem inv_step {b : List Int} (hb : ∀ x ∈ b, 0 ≤ x ∧ x < 256) {fs : List Fl} {at' : Nat} (h : InvD b fs at') (he : at' + 1024 < b.length) {N : Nat} {F : Fl} (hE : getEr ((b.drop at').take 512) = 0) (hN : getN ((b.drop at').take 512) = (N : Int)) (hs : at' + 512 + N ≤ b.length)
    (p1 : F.path = getS ((b.drop at').take 512)) (p2 : F.data = (b.take (at' + 512 + N)).drop (at' + 512)) : InvD b (fs ++ [F]) (at' + 512 + rnd N) := by
  have hlen : F.data.length = N := by rw [p2, List.length_drop, List.length_take]; omega
  have hg := get_ok hE
  rw [hN] at hg
  have hF : okF F := by
    show okHd F.path (F.data.length : Int)
    rw [hlen, p1]; exact hg.1
  have hfl := file_len hF
  rw [hlen] at hfl
  have hr := rnd_ge N
  have hr5 : rnd N ≤ N + 511 := by unfold rnd; omega
  have hsz := h.size
  have hd1 : dataN [F] = F.data.length := rfl
  have hb1 : bodyR [F] = fileR F := by unfold bodyR; simp
  have of : one (b.drop at') → oneF (b.drop at') = F := fun _ => by
    have e3 : at' + 512 + N - (at' + 512) = N := by omega
    rw [List.drop_take, e3] at p2
    unfold oneF
    rw [hN, Int.toNat_natCast, List.drop_drop, ← p1, ← p2]
  generalize rnd N = RN at *
  refine ⟨fun f hf => ?_, fun f hf => ?_, ?_, by omega, fun m hm => ?_⟩
  · rcases List.mem_append.1 hf with hf | hf
    · exact h.ok f hf
    · rw [List.mem_singleton.1 hf]; exact hF
  · rcases List.mem_append.1 hf with hf | hf
    · exact h.bytes f hf
    · rw [List.mem_singleton.1 hf, p2]
      exact fun x hx => hb x (List.mem_of_mem_take (List.mem_of_mem_drop hx))
  · rw [data_app, List.length_append, hd1, hlen, List.length_singleton]
    omega
  · have h1 := inv_one h he hm
    obtain ⟨m', e, ea, h2⟩ := inv_arc h hm
    match m', h2 with
    | [], h2 =>
      have := congrArg List.length (arc_nil.1 h2)
      rw [List.length_drop, zer_len] at this
      omega
    | f :: m', h2 =>
      obtain ⟨_, ef, _⟩ := arc_cons.1 h2
      have eF : F = f := (of h1).symm.trans ef
      refine ⟨m', by rw [e, eF, List.append_assoc]; rfl, ?_⟩
      rw [body_app, List.length_append, hb1, hfl]
      omega
theorem put_bytes {l : List Fl} (h : okBytes l) : ∀ x ∈ putR l, 0 ≤ x ∧ x < 256 := by
  have zr : ∀ n, ∀ x ∈ zer n, 0 ≤ x ∧ x < 256 := fun n x hx => by have := (List.mem_replicate.1 hx).2; omega
  intro x hx
  unfold putR at hx
  split at hx
  · rcases List.mem_append.1 hx with hx | hx
    · unfold bodyR at hx
      obtain ⟨f, hf, hx⟩ := List.mem_flatMap.1 hx
      unfold fileR at hx
      rcases List.mem_append.1 hx with hx | hx
      · exact head_range _ _ x hx
      · rcases List.mem_append.1 hx with hx | hx
        · exact h f hf x hx
        · exact zr _ x hx
    · exact zr _ x hx
  · cases hx
section
variable [Globs]

def UGetD (b : List Int) (r : AV) (h : List AO) : Prop := r = .tup 2 (pair (.own 0 0 (getL b).length 2) (int .i64 (getE b))) ∧ h = [.row ((getL b).length * 2) (rowF (getL b))]

set_option maxHeartbeats 4000000 in
set_option maxRecDepth 10000 in
theorem uget_ref (b : List Int) (hb : ∀ x ∈ b, 0 ≤ x ∧ x < 256) (hl : b.length ≤ 60000) : ACalls Tryd.prog 31 [.roI .u8 b] [] (UGetD b) := by
  unfold UGetD
  refine rcalls Tryd.func31 rfl (by decide) ?_
  refine ⟨List Fl × Nat, fun x => [(0, .roI .u8 b), (4, .own 0 0 x.1.length 2), (5, int .i64 (x.2 : Nat))], fun x => [.row (x.1.length * 2) (rowF x.1)], fun x => InvD b x.1 x.2, fun x => b.length + 511 - x.2,
    ⟨([], 0), [0], inv_zero b, lehRow0 (Nat.le_refl _) _, ⟨leRo rfl, .nil _ _ (by decide), leI rfl, trivial⟩⟩, ?_⟩
  rintro ⟨fs, k⟩ hi
  have hi : InvD b fs k := hi
  have hsz := hi.size
  have hmost := hi.most
  have e1 : IntKind.i64.wrap ((k : Int) + 1024) = (k : Int) + 1024 := w64 (by omega) (by omega)
  have e2 : IntKind.i64.wrap ((k : Int) + 512) = ((k + 512 : Nat) : Int) := by rw [w64 (by omega) (by omega)]; omega
  have bad : ∀ (X : List AO), (∀ m, ¬ isArc b m) → ∃ l h1 r, LeH 0 X l h1 ∧ LeV X l (.tup 2 fun i => [.raw (.slice none 0 0), int .i64 2].getD i .top) r ∧ (r = .tup 2 (pair (.own 0 0 (getL b).length 2) (int .i64 (getE b))) ∧ h1 = [.row ((getL b).length * 2) (rowF (getL b))]) := fun X hn => by
    obtain ⟨q1, q2⟩ := get_not (b := b) fun ⟨m, h⟩ => hn m h
    rw [q1, q2]
    exact ⟨[X.length], [.row 0 (rowF [])], _, lehRow0 (Nat.le_refl _) _, le_pair (.nil _ _ (Nat.zero_lt_one)) (leI rfl), rfl, rfl⟩
  refine ⟨fun c => ?_, fun c => ?_⟩
  · have f1 : IntKind.i64.wrap ((k : Int) + 1024) < (b.length : Int) := yes c
    rw [e1] at f1
    have hsl : ((b.take (k + 512)).drop k) = (b.drop k).take 512 := by rw [List.drop_take]; congr 1; omega
    have hNr := getN_range ((b.drop k).take 512)
    obtain ⟨N, hN⟩ : ∃ N : Nat, getN ((b.drop k).take 512) = (N : Int) := ⟨(getN ((b.drop k).take 512)).toNat, by omega⟩
    have h1 := hget_ref ((b.drop k).take 512) (fun x hx => hb x (List.mem_of_mem_drop (List.mem_of_mem_take hx))) (by rw [List.length_take]; omega)
    unfold HGetR at h1
    have hstep := fun (F : Fl) (hE : getEr ((b.drop k).take 512) = 0) (hs : k + 512 + N ≤ b.length) (p1 : F.path = getS ((b.drop k).take 512)) (p2 : F.data = (b.take (k + 512 + N)).drop (k + 512)) => inv_step hb hi (by omega) hE hN hs p1 p2
    have hone := fun (m : List Fl) (h : isArc b m) => inv_one hi (by omega) h
    have hod : ∀ x : one (b.drop k), getEr ((b.drop k).take 512) = 0 ∧ k + 512 + N ≤ b.length := fun x => by
      obtain ⟨_, x2, x3, _⟩ := x
      rw [hN, Int.toNat_natCast, List.length_drop] at x3
      have := rnd_ge N
      exact ⟨x2, by omega⟩
    rw [← hsl] at h1 hN hNr hstep hod
    rw [hN] at h1 hNr
    have h2 := round_ref (N : Int) (by omega)
    rw [rndZ_nat] at h2
    generalize getS ((b.take (k + 512)).drop k) = S at *
    generalize getEr ((b.take (k + 512)).drop k) = E at *
    have E1 : (b.take (IntKind.i64.wrap ((k : Int) + 512)).toNat).drop (k : Int).toNat = (b.take (k + 512)).drop k := by rw [e2]; rfl
    have B1 : 0 ≤ IntKind.i64.wrap ((k : Int) + 512) ∧ IntKind.i64.wrap ((k : Int) + 512) ≤ (b.length : Int) := by rw [e2]; omega
    have B2 : 0 ≤ (k : Int) ∧ (k : Int) ≤ ((IntKind.i64.wrap ((k : Int) + 512)).toNat : Int) := by rw [e2]; omega
    have e3 : IntKind.i64.wrap (IntKind.i64.wrap ((k : Int) + 512) + (N : Int)) = ((k + 512 + N : Nat) : Int) := by rw [e2, w64 (by omega) (by omega)]; omega
    refine ⟨B1, B2, ?_⟩
    refine ⟨[], _, own_cast E1 h1, ?_⟩
    rintro r hh ⟨rfl, rfl⟩
    refine ⟨.inl rfl, ?_⟩
    refine ⟨fun c2 => ?_, fun c2 => ?_⟩
    · have f2 : ¬ E = 0 := yes c2
      exact bad _ fun m h => f2 (hod (hone m h)).1
    have f2 : E = 0 := Classical.byContradiction fun x => no c2 x
    refine ⟨fun c3 => ?_, fun c3 => ?_⟩
    · have f3 : (b.length : Int) < IntKind.i64.wrap (IntKind.i64.wrap ((k : Int) + 512) + (N : Int)) := yes c3
      rw [e3] at f3
      exact bad _ fun m h => by have := (hod (hone m h)).2; omega
    have f3 : ¬ (b.length : Int) < IntKind.i64.wrap (IntKind.i64.wrap ((k : Int) + 512) + (N : Int)) := no c3
    rw [e3] at f3
    have eD : (b.take (IntKind.i64.wrap (IntKind.i64.wrap ((k : Int) + 512) + (N : Int))).toNat).drop (IntKind.i64.wrap ((k : Int) + 512)).toNat = (b.take (k + 512 + N)).drop (k + 512) := by rw [e3, e2]; rfl
    have B3 : 0 ≤ IntKind.i64.wrap (IntKind.i64.wrap ((k : Int) + 512) + (N : Int)) ∧ IntKind.i64.wrap (IntKind.i64.wrap ((k : Int) + 512) + (N : Int)) ≤ (b.length : Int) := by rw [e3]; omega
    have B4 : 0 ≤ IntKind.i64.wrap ((k : Int) + 512) ∧ IntKind.i64.wrap ((k : Int) + 512) ≤ ((IntKind.i64.wrap (IntKind.i64.wrap ((k : Int) + 512) + (N : Int))).toNat : Int) := by rw [e3, e2]; omega
    obtain ⟨F, hF⟩ : ∃ F : Fl, F = ⟨S, (b.take (k + 512 + N)).drop (k + 512)⟩ := ⟨_, rfl⟩
    have hst := hstep F f2 (by omega) (by rw [hF]) (by rw [hF])
    have hF1 : F.path = S := by rw [hF]
    have hF2 : F.data = (b.take (IntKind.i64.wrap (IntKind.i64.wrap ((k : Int) + 512) + (N : Int))).toNat).drop (IntKind.i64.wrap ((k : Int) + 512)).toNat := by rw [eD, hF]
    have hold := fun {i : Nat} (h : i < fs.length * 2) => rowF_old fs F h
    have hnew := fun {i : Nat} (h : i < 2) => rowF_new fs F h
    have hr511 : rnd N ≤ N + 511 := by unfold rnd; omega
    have hr0 := rnd_ge N
    refine ⟨B3, B4, ?_⟩
    refine ⟨rfl, fun i _ => rowCell1 fs i, Nat.le_refl 2, by show (fs.length + 1) * 40 ≤ _; omega, fun i hi => ?_, rowF (fs ++ [F]), fun i hi => hold hi, fun i hi => ?_, ?_⟩
    · match i, hi with
      | 0, _ => rfl
      | 1, _ => rfl
    · show rowF (fs ++ [F]) (fs.length * 2 + i) = _
      rw [hnew (by omega)]
      match i, hi with
      | 0, _ => show AV.raw _ = _; rw [hF1]; rfl
      | 1, _ => show AV.roI _ _ = _; rw [hF2]; rfl
    refine ⟨[], _, h2, ?_⟩
    rintro r hh ⟨rfl, rfl⟩
    refine ⟨.inl rfl, ?_⟩
    refine ⟨trivial, (fs ++ [F], k + 512 + rnd N), [2], hst, by show b.length + 511 - (k + 512 + rnd N) < b.length + 511 - k; omega, leh1 rfl (.row _ _ _ _ ?_ fun i hi => .same _ (rowFree _ i)), ⟨leRo rfl, leOwn rfl rfl ?_, leI ?_, trivial⟩⟩
    · show (fs ++ [F]).length * 2 ≤ (fs.length + 1) * 2
      rw [List.length_append]; exact Nat.le_refl _
    · show fs.length + 1 = (fs ++ [F]).length
      rw [List.length_append]; rfl
    · show IntKind.i64.wrap (IntKind.i64.wrap ((k : Int) + 512) + ((rnd N : Nat) : Int)) = ((k + 512 + rnd N : Nat) : Int)
      rw [e2, w64 (by omega) (by omega)]; omega
  · have f1 : ¬ IntKind.i64.wrap ((k : Int) + 1024) < (b.length : Int) := no c
    rw [e1] at f1
    have hend := fun (m : List Fl) (h : isArc b m) => inv_end hi (by omega) h
    have hfit : fitL fs := ⟨by omega, by omega⟩
    have hsizes : okSizes fs := fun f hf => ⟨by have := (hi.ok f hf).1.2.1; omega, hi.bytes f hf⟩
    have h1 := uput_ref fs hfit hsizes
    have hpb := put_bytes hi.bytes
    have hpg := fun h => put_get (l := fs) hfit h
    have hgp := fun (m : List Fl) (h : isArc b m) => get_put h
    unfold UPutR at h1
    generalize hP : putR fs = P at *
    generalize hE : putE fs = E at *
    refine ⟨[], _, Nat.le_of_eq (Nat.zero_add _), fun i hi => rowFree _ _, h1.args ⟨vrsU rfl fun i hi => by rw [Nat.zero_add], trivial⟩, ?_⟩
    rintro r hh ⟨rfl, rfl⟩
    refine ⟨.inr ⟨fun i hi => ?_, fun o ho => ?_⟩, ?_⟩
    · match i, hi with
      | 0, _ => trivial
      | 1, _ => trivial
    · rw [List.mem_singleton.1 ho]; trivial
    refine ⟨fun c2 => ?_, fun c2 => ?_⟩
    · have f2 : ¬ E = 0 := yes c2
      exact bad _ fun m h => f2 (by rw [← hE, ← hend m h]; exact (hgp m h).1)
    have f2 : E = 0 := Classical.byContradiction fun x => no c2 x
    refine ⟨by omega, ?_⟩
    refine ⟨fun c3 => ?_, fun c3 => ?_⟩
    · have f3 : ¬ bytesOf ((P.drop 0).take P.length) = bytesOf b := yes c3
      rw [List.drop_zero, List.take_length] at f3
      exact bad _ fun m h => f3 (by have := (hgp m h).2; rw [hend m h, hP] at this; rw [this])
    · have f3 : bytesOf ((P.drop 0).take P.length) = bytesOf b := Classical.byContradiction fun x => no c3 x
      rw [List.drop_zero, List.take_length] at f3
      have f4 := (bytes_eq hpb hb).1 f3
      have ha := hpg f2
      rw [f4] at ha
      obtain ⟨q1, q2⟩ := get_is ha
      rw [q1, q2]
      exact ⟨[0], [.row (fs.length * 2) (rowF fs)], _, leh1 rfl (.row _ _ _ _ (Nat.le_refl _) fun i hi => .same _ (rowFree fs i)), le_pair (leOwn rfl rfl rfl) (leI rfl), rfl, rfl⟩
end
end Go.Proofs.YtkchfbnkdpdbkaaDoor.Us

/-
  The laws of archives: what all of them begin with.
-/
set_option linter.unusedVariables false
set_option linter.unusedSectionVars false
namespace Go.Proofs.YtkchfbnkdpdbkaaDoor.Us
open Go AL Oc Pa Spl Hd

def smallL (l : List Fl) : Prop := l.length ≤ 40 ∧ dataN l ≤ 20000
instance (l : List Fl) : Decidable (smallL l) := by unfold smallL; infer_instance
def szL (l : List Fl) : Prop := ∀ f ∈ l, f.data.length ≤ 281474976710656
theorem data_szB {B : Nat} {l : List Fl} (h : ∀ f ∈ l, f.data.length ≤ B) : ∀ k, dataN (l.take k) ≤ k * B
  | 0 => by simp [dataN]
  | k + 1 => by
    have ih := data_szB h k
    rw [Nat.succ_mul]
    rcases Nat.lt_or_ge k l.length with hk | hk
    · rw [data_succ hk]
      have := h _ (get_mem hk)
      omega
    · rw [List.take_of_length_le (by omega)] at ih ⊢
      omega
theorem data_szL {l : List Fl} (h : szL l) (k : Nat) : dataN (l.take k) ≤ k * 281474976710656 := data_szB h k
theorem small_fit {l : List Fl} (h : smallL l) : fitL l := ⟨by have := h.1; omega, by have := h.2; omega⟩
theorem vrsNil : VLe (.raw (.slice none 0 0)) (flsV []) := fun w S L v hv => by
  obtain rfl := hv
  exact ⟨none, 0, rfl, Nat.le_refl _, fun i hi => by simp at hi⟩
def xyz : Fl := ⟨oneA, [120, 121, 122]⟩
theorem nil_put : putE [] = 0 ∧ (putR []).length = 1024 := by
  have e : putE [] = 0 := putE_ok.2 ⟨fun f hf => (by cases hf), fun h => h List.nodup_nil⟩
  refine ⟨e, ?_⟩
  unfold putR; rw [if_pos e, List.length_append, zer_len]; rfl
theorem xyz_put : putE [xyz] = 0 ∧ (putR [xyz]).length = 2048 := by
  letI : Globs := ⟨[]⟩
  have ok : okF xyz := okA
  have e : putE [xyz] = 0 := putE_ok.2 ⟨fun f hf => by rw [List.mem_singleton.1 hf]; exact okA.1, fun h => h (List.nodup_cons.2 ⟨by simp, .nil⟩)⟩
  refine ⟨e, ?_⟩
  have h1 := file_len ok
  have h2 : bodyR [xyz] = fileR xyz := by unfold bodyR; simp
  unfold putR
  rw [if_pos e, List.length_append, zer_len, h2, h1]; rfl
theorem xyz_get : getL (putR [xyz]) = [xyz] ∧ getE (putR [xyz]) = 0 := get_is (put_get ⟨by decide, by decide⟩ xyz_put.1)
theorem ren_row (g : Nat → Nat) (l : List Fl) (i : Nat) : AV.ren g (rowF l i) = rowF l i := by
  unfold rowF
  cases i % 2 <;> rfl
theorem rfree (g : Nat → Nat) (l : List Fl) (i : Nat) : (AV.ren g (rowF l i)).free := by rw [ren_row]; exact rowFree l i
theorem rback (g : Nat → Nat) (l : List Fl) (i : Nat) : (fun i => AV.ren g (rowF l i)) (0 + i) = rowF l i := by
  show AV.ren g (rowF l (0 + i)) = _
  rw [ren_row, Nat.zero_add]
section
variable [Globs]


set_option maxRecDepth 10000 in
theorem small_prog (l : List Fl) (hl : l.length ≤ 281474976710656) (hs : szL l) : ACalls Tryd.prog 33 [flsV l] [] (fun r h => r = bool (decide (smallL l)) ∧ h = []) := by
  have hds := @data_succ l
  have hdl := data_szL hs
  have hat := fun (k : Nat) {c : Nat} (h : c < 2) => rowF_at l (k := k) h
  refine rcalls Tryd.func33 rfl (by decide) ?_
  refine ⟨Nat, fun k => [(0, flsV l), (3, int .i64 (dataN (l.take k) : Nat)), (4, int .i64 k)], fun _ => [], fun k => k ≤ l.length ∧ k ≤ 41, fun k => l.length - k,
    ⟨0, [], ⟨Nat.zero_le _, Nat.zero_le _⟩, lehN _, ⟨.same _ trivial, leI rfl, leI rfl, trivial⟩⟩, ?_⟩
  rintro k ⟨hk, hk41⟩
  have e1 : IntKind.i64.wrap ((k : Int) + 1) = ((k + 1 : Nat) : Int) := by rw [w64 (by omega) (by omega)]; omega
  refine ⟨fun c => ?_, fun c => ?_⟩
  · have f1 : (k : Int) < l.length := yes c
    refine ⟨fun c2 => ?_, fun c2 => ?_⟩
    · have f2 : (k : Int) < 41 := yes c2
      have hds := hds (k := k) (by omega)
      have hle := hdl (k + 1)
      obtain ⟨F, hF⟩ : ∃ F, l.getD k fl0 = F := ⟨_, rfl⟩
      rw [hF] at hds
      have ek : (k : Int).toNat = k := by omega
      refine ⟨⟨by omega, by omega⟩, flC F, fun c hc => by rw [ek, hat k hc, hF], ?_⟩
      refine ⟨trivial, k + 1, [], ⟨by omega, by omega⟩, by show l.length - (k + 1) < l.length - k; omega, lehN _, ⟨.same _ trivial, leI ?_, leI e1, trivial⟩⟩
      rw [w64 (by omega) (by omega)]; omega
    · have f2 : ¬ (k : Int) < 41 := no c2
      refine ⟨fun c3 => ?_, fun c3 => ?_⟩
      · have f3 : (l.length : Int) ≤ 40 := yes c3
        have eT : l.take k = l := List.take_of_length_le (by omega)
        refine ⟨[], [], _, lehN _, leP ?_, rfl, rfl⟩
        rw [eT]
        unfold smallL
        omega
      · have f3 : ¬ (l.length : Int) ≤ 40 := no c3
        exact ⟨[], [], _, lehN _, leFP fun h => by have := h.1; omega, rfl, rfl⟩
  · have f1 : ¬ (k : Int) < l.length := no c
    refine ⟨fun c3 => ?_, fun c3 => ?_⟩
    · have f3 : (l.length : Int) ≤ 40 := yes c3
      have eT : l.take k = l := List.take_of_length_le (by omega)
      refine ⟨[], [], _, lehN _, leP ?_, rfl, rfl⟩
      rw [eT]
      unfold smallL
      omega
    · have f3 : ¬ (l.length : Int) ≤ 40 := no c3
      exact ⟨[], [], _, lehN _, leFP fun h => by have := h.1; omega, rfl, rfl⟩

theorem uget_top (b : List Int) (hb : ∀ x ∈ b, 0 ≤ x ∧ x < 256) (hl : b.length ≤ 281474976710656) : ACalls Tryd.prog 30 [.roI .u8 b] [] (fun r h => r = .tup 2 (pair .top (int .i64 (getE b))) ∧ h = []) :=
  less (uget_prog b hb hl) fun r h' ⟨e1, e2⟩ => by
    subst e1 e2
    exact ⟨[], [], _, lehN _, le_pair (.top _) (leI rfl), rfl, rfl⟩

set_option maxHeartbeats 2000000 in
set_option maxRecDepth 10000 in
theorem us_awake : ACalls Tryd.prog 29 [] [] (fun r h => r = .tt ∧ h = []) := by
  have h1 := uput_prog [] ⟨by decide, by decide⟩ (fun f hf => by cases hf)
  have h2 := uput_prog [xyz] ⟨by decide, by decide⟩ (fun f hf => by rw [List.mem_singleton.1 hf]; decide)
  have hpb : ∀ x ∈ putR [xyz], 0 ≤ x ∧ x < 256 := put_bytes fun f hf => by rw [List.mem_singleton.1 hf]; decide
  have h3 := uget_prog (putR [xyz]) hpb (by rw [xyz_put.2]; decide)
  unfold UPutR at h1 h2
  unfold UGetR at h3
  rw [xyz_get.1, xyz_get.2] at h3
  rw [nil_put.1] at h1
  rw [xyz_put.1] at h2
  have l1 := nil_put.2
  have l2 := xyz_put.2
  generalize putR [xyz] = X at *
  generalize putR [] = Z at *
  refine rcalls Tryd.func29 rfl (by decide) ?_
  refine ⟨[], _, h1.args ⟨vrsNil, trivial⟩, ?_⟩
  rintro r hh ⟨rfl, rfl⟩
  refine ⟨.inl rfl, ?_⟩
  refine ⟨by decide, ?_⟩
  refine ⟨[1002], (fun r h => r = .tup 2 (pair (.own 0 0 X.length 1) (int .i64 0)) ∧ h = [.ints .u8 X]), ?_⟩
  refine ⟨by decide, h2.args ⟨vrsU rfl fun i hi => ?_, trivial⟩, ?_⟩
  · match i, hi with
    | 0, _ => rfl
    | 1, _ => rfl
  rintro r hh ⟨rfl, rfl⟩
  refine ⟨.inl rfl, ?_⟩
  refine ⟨[1003], (fun r h => r = .tup 2 (pair (.own 0 0 [xyz].length 2) (int .i64 0)) ∧ h = [.row ([xyz].length * 2) (rowF [xyz])]), ?_⟩
  refine ⟨by omega, own_take h3, ?_⟩
  rintro r hh ⟨rfl, rfl⟩
  refine ⟨.inl rfl, ?_⟩
  refine ⟨fun _ => ?_, fun e => absurd rfl (no e)⟩
  refine ⟨fun _ => ?_, fun e => absurd rfl (no e)⟩
  refine ⟨fun _ => ?_, fun e => absurd rfl (no e)⟩
  refine ⟨fun _ => ?_, fun e => absurd (show (Z.length : Int) = 1024 by omega) (no e)⟩
  refine ⟨fun _ => ?_, fun e => absurd (show (X.length : Int) = 2048 by omega) (no e)⟩
  refine ⟨fun _ => ?_, fun e => absurd rfl (no e)⟩
  refine ⟨⟨by decide, by decide⟩, ?_⟩
  refine ⟨by decide, ?_⟩
  exact ⟨[], [], .tt, lehN _, leTT (decide_eq_true (by decide)), rfl, rfl⟩
end
end Go.Proofs.YtkchfbnkdpdbkaaDoor.Us

/-
  The laws of archives, walked: UstarGets, UstarOnes, UstarBack, UstarCuts, UstarTurned.
-/
set_option linter.unusedVariables false
set_option linter.unusedSectionVars false
namespace Go.Proofs.YtkchfbnkdpdbkaaDoor.Us
open Go AL Oc Pa Spl Hd

theorem getL_bytes {b : List Int} (hb : ∀ x ∈ b, 0 ≤ x ∧ x < 256) : okBytes (getL b) := by
  rcases getE_cases b with ⟨l, h, e, _⟩ | ⟨_, e, _⟩
  · rw [e]
    intro f hf x hx
    refine hb x ?_
    rw [h.1.2]
    refine List.mem_append_left _ (List.mem_flatMap.2 ⟨f, hf, ?_⟩)
    unfold fileR
    exact List.mem_append_right _ (List.mem_append_left _ hx)
  · rw [e]; intro f hf; cases hf
theorem getL_len (b : List Int) : (getL b).length ≤ 400 := by
  rcases getE_cases b with ⟨l, h, e, _⟩ | ⟨_, e, _⟩
  · rw [e]; exact h.2.2.1
  · rw [e]; exact Nat.zero_le _
theorem getL_sizes {b : List Int} (hb : ∀ x ∈ b, 0 ≤ x ∧ x < 256) : okSizes (getL b) := fun f hf => by
  refine ⟨?_, getL_bytes hb f hf⟩
  rcases getE_cases b with ⟨l, h, e, _⟩ | ⟨_, e, _⟩
  · rw [e] at hf
    have := (h.1.1 f hf).1.2.1
    omega
  · rw [e] at hf; cases hf
section
variable [Globs]

set_option maxHeartbeats 2000000 in
set_option maxRecDepth 10000 in
theorem gets_prog (b : List Int) (hb : ∀ x ∈ b, 0 ≤ x ∧ x < 256) (hl : b.length ≤ 281474976710656) : ACalls Tryd.prog 10 [.roI .u8 b] [] (fun r h => r = .tt ∧ h = []) := by
  have h1 := uget_prog b hb hl
  have h2 := fun h => uget_ref b hb h
  have hbt := getL_bytes hb
  have hln := getL_len b
  have h3 := same_ref (getL b) (getL b) hbt hbt (by omega) (by omega)
  unfold UGetR at h1
  unfold UGetD at h2
  generalize getL b = L at *
  generalize getE b = E at *
  refine rcalls Tryd.func10 rfl (by decide) ?_
  refine ⟨[], _, us_awake, ?_⟩
  rintro r hh ⟨rfl, rfl⟩
  refine ⟨.inl rfl, ?_⟩
  refine ⟨fun c1 => ?_, fun c1 => ?_⟩
  · exact ⟨[], [], .tt, lehN _, .tt, rfl, rfl⟩
  have f1 : ¬ 60000 < (b.length : Int) := no c1
  refine ⟨[], _, h1, ?_⟩
  rintro r hh ⟨rfl, rfl⟩
  refine ⟨.inl rfl, ?_⟩
  refine ⟨[], _, h2 (by omega), ?_⟩
  rintro r hh ⟨rfl, rfl⟩
  refine ⟨.inl rfl, ?_⟩
  refine ⟨[], _, Nat.le_of_eq (Nat.zero_add _), fun i hi => rfree _ _ _, Nat.le_of_eq (Nat.zero_add _), fun i hi => rfree _ _ _, (h3.yes (decide_eq_true rfl)).args ⟨vrsU rfl fun i hi => rback _ _ _, vrsU rfl fun i hi => rback _ _ _, trivial⟩, ?_⟩
  rintro r hh ⟨rfl, rfl⟩
  refine ⟨.inr ⟨trivial, fun o ho => by cases ho⟩, ?_⟩
  exact ⟨[], [], .tt, lehN _, leTT (decide_eq_true rfl), rfl, rfl⟩

set_option maxHeartbeats 2000000 in
set_option maxRecDepth 10000 in
theorem ones_prog (b : List Int) (hb : ∀ x ∈ b, 0 ≤ x ∧ x < 256) (hl : b.length ≤ 281474976710656) : ACalls Tryd.prog 12 [.roI .u8 b] [] (fun r h => r = .tt ∧ h = []) := by
  have h1 := uget_prog b hb hl
  have hsz := getL_sizes hb
  have hcase := getE_cases b
  have hfit : fitL (getL b) := by
    rcases hcase with ⟨l, h, e, _⟩ | ⟨_, e, _⟩
    · rw [e]; exact h.2.2
    · rw [e]; exact ⟨by decide, by decide⟩
  have h2 := uput_prog (getL b) hfit hsz
  have k1 : getE b = 0 → putE (getL b) = 0 ∧ putR (getL b) = b := fun h => by
    rcases hcase with ⟨l, g, e, _⟩ | ⟨_, _, e⟩
    · rw [e]; exact get_put g
    · omega
  have k2 : getE b ≠ 0 → getE b = 2 ∧ getL b = [] := fun h => by
    rcases hcase with ⟨l, g, _, e⟩ | ⟨_, e1, e2⟩
    · exact absurd e h
    · exact ⟨e2, e1⟩
  unfold UGetR at h1
  unfold UPutR at h2
  generalize putR (getL b) = X at *
  generalize putE (getL b) = F at *
  clear hcase hfit hsz
  generalize getL b = L at *
  generalize getE b = E at *
  refine rcalls Tryd.func12 rfl (by decide) ?_
  refine ⟨[], _, us_awake, ?_⟩
  rintro r hh ⟨rfl, rfl⟩
  refine ⟨.inl rfl, ?_⟩
  refine ⟨fun c1 => ?_, fun c1 => ?_⟩
  · exact ⟨[], [], .tt, lehN _, .tt, rfl, rfl⟩
  have f1 : ¬ 60000 < (b.length : Int) := no c1
  refine ⟨[], _, h1, ?_⟩
  rintro r hh ⟨rfl, rfl⟩
  refine ⟨.inl rfl, ?_⟩
  refine ⟨fun c2 => ?_, fun c2 => ?_⟩
  · obtain ⟨q1, q2⟩ := k2 (yes c2)
    refine ⟨fun _ => ?_, fun e => absurd q1 (no e)⟩
    exact ⟨[], [], .tt, lehN _, leTT (decide_eq_true (by rw [q2]; rfl)), rfl, rfl⟩
  have f2 : E = 0 := Classical.byContradiction fun x => no c2 x
  obtain ⟨q1, q2⟩ := k1 f2
  refine ⟨[], _, Nat.le_of_eq (Nat.zero_add _), fun i hi => rfree _ _ _, h2.args ⟨vrsU rfl fun i hi => rback _ _ _, trivial⟩, ?_⟩
  rintro r hh ⟨rfl, rfl⟩
  refine ⟨.inr ⟨fun i hi => ?_, fun o ho => ?_⟩, ?_⟩
  · match i, hi with
    | 0, _ => trivial
    | 1, _ => trivial
  · rw [List.mem_singleton.1 ho]; trivial
  refine ⟨fun _ => ?_, fun e => absurd q1 (no e)⟩
  refine ⟨by omega, ?_⟩
  exact ⟨[], [], .tt, lehN _, leTT (decide_eq_true (by rw [List.drop_zero, List.take_length, q2])), rfl, rfl⟩

set_option maxHeartbeats 2000000 in
set_option maxRecDepth 10000 in
theorem back_uprog (l : List Fl) (hs : okSizes l) (hz : szL l) (hl : l.length ≤ 281474976710656) : ACalls Tryd.prog 11 [flsV l] [] (fun r h => r = .tt ∧ h = []) := by
  have h0 := small_prog l hl hz
  have h1 := fun h : smallL l => uput_prog l (small_fit h) hs
  have hby : okBytes l := fun f hf => (hs f hf).2
  have hpb := put_bytes hby
  have k0 : putE l ≠ 0 → putR l = [] := fun h => by unfold putR; rw [if_neg h]
  have k1 : smallL l → putE l = 0 → getL (putR l) = l ∧ getE (putR l) = 0 ∧ (putR l).length % 512 = 0 ∧ (putR l).length ≤ 281474976710656 := fun h e => by
    have hf := small_fit h
    have ha := put_get hf e
    obtain ⟨q1, q2⟩ := get_is ha
    refine ⟨q1, q2, (arc_len ha.1).2.1, ?_⟩
    have := body_max ha.1.1
    rw [ha.1.2, List.length_append, zer_len]
    have h1 := hf.1
    have h2 := hf.2
    omega
  have h2 := fun h => uget_prog (putR l) hpb h
  have h3 := same_ref l l hby hby hl hl
  unfold UPutR at h1
  unfold UGetR at h2
  generalize putE l = E at *
  generalize putR l = X at *
  refine rcalls Tryd.func11 rfl (by decide) ?_
  refine ⟨[], _, us_awake, ?_⟩
  rintro r hh ⟨rfl, rfl⟩
  refine ⟨.inl rfl, ?_⟩
  refine ⟨[], _, h0, ?_⟩
  rintro r hh ⟨rfl, rfl⟩
  refine ⟨.inl rfl, ?_⟩
  refine ⟨fun c1 => ?_, fun c1 => ?_⟩
  · exact ⟨[], [], .tt, lehN _, .tt, rfl, rfl⟩
  have f1 := notF c1
  refine ⟨[], _, h1 f1, ?_⟩
  rintro r hh ⟨rfl, rfl⟩
  refine ⟨.inl rfl, ?_⟩
  refine ⟨fun c2 => ?_, fun c2 => ?_⟩
  · have f2 := k0 (yes c2)
    exact ⟨[], [], .tt, lehN _, leTT (decide_eq_true (by rw [f2]; rfl)), rfl, rfl⟩
  have f2 : E = 0 := Classical.byContradiction fun x => no c2 x
  obtain ⟨q1, q2, q3, q4⟩ := k1 f1 f2
  have h2 := h2 q4
  rw [q1, q2] at h2
  refine ⟨[1000], (fun r h => r = .tup 2 (pair (.own 0 0 l.length 2) (int .i64 0)) ∧ h = [.row (l.length * 2) (rowF l)]), ?_⟩
  refine ⟨by omega, own_take h2, ?_⟩
  rintro r hh ⟨rfl, rfl⟩
  refine ⟨.inl rfl, ?_⟩
  refine ⟨fun _ => ?_, fun e => absurd rfl (no e)⟩
  refine ⟨[], _, Nat.le_of_eq (Nat.zero_add _), fun i hi => rfree _ _ _, (h3.yes (decide_eq_true rfl)).args ⟨.refl _, vrsU rfl fun i hi => rback _ _ _, trivial⟩, ?_⟩
  rintro r hh ⟨rfl, rfl⟩
  refine ⟨.inr ⟨trivial, fun o ho => by cases ho⟩, ?_⟩
  refine ⟨by decide, ?_⟩
  refine ⟨[], [], .tt, lehN _, leTT (decide_eq_true ?_), rfl, rfl⟩
  rw [Int.tmod_eq_emod_of_nonneg (by omega)]
  omega
end
end Go.Proofs.YtkchfbnkdpdbkaaDoor.Us

/-
  What every row of this program's laws wants: its knobs and its layout.
-/
namespace Go.Proofs.YtkchfbnkdpdbkaaDoor.AL
open Go Go.RowKit Go.ChangeShapes

theorem own : ownKnob Tryd.prog.godebug = none := by kernel_rfl
theorem laidOut : laidOutB Tryd.prog = true := by kernel_rfl
theorem wf_i64 {n : Int} (h : (Lit.int .i64 n).wf = true) : -9223372036854775808 ≤ n ∧ n < 9223372036854775808 := by
  simp only [Lit.wf, Bool.and_eq_true, decide_eq_true_eq] at h; exact ⟨Int.le_trans (by decide) h.1, Int.lt_of_le_of_lt h.2 (by decide)⟩
theorem wf_u8 {n : Int} (h : (Lit.int .u8 n).wf = true) : 0 ≤ n ∧ n < 256 := by
  simp only [Lit.wf, Bool.and_eq_true, decide_eq_true_eq] at h; exact ⟨Int.le_trans (by decide) h.1, Int.lt_of_le_of_lt h.2 (by decide)⟩
theorem wf_u16 {n : Int} (h : (Lit.int .u16 n).wf = true) : 0 ≤ n ∧ n < 65536 := by
  simp only [Lit.wf, Bool.and_eq_true, decide_eq_true_eq] at h; exact ⟨Int.le_trans (by decide) h.1, Int.lt_of_le_of_lt h.2 (by decide)⟩
theorem wf_u32 {n : Int} (h : (Lit.int .u32 n).wf = true) : 0 ≤ n ∧ n < 4294967296 := by
  simp only [Lit.wf, Bool.and_eq_true, decide_eq_true_eq] at h; exact ⟨Int.le_trans (by decide) h.1, Int.lt_of_le_of_lt h.2 (by decide)⟩
end Go.Proofs.YtkchfbnkdpdbkaaDoor.AL

/-
  Files that came in. No program in sight.
-/
set_option linter.unusedVariables false
set_option linter.unusedSectionVars false
namespace Go.Proofs.YtkchfbnkdpdbkaaDoor.AL
open Go Go.ChangeShapes Go.WideShapes Go.ChangeAt Go.RowKit Go.Deep Go.Joins Go.WideElems
open Go.Proofs.YtkchfbnkdpdbkaaDoor.Us

section
variable {H : Type} {enc : TypeId × Value → H} {P : Program}

structure FiT (P : Program) (t e : TypeId) (f0 f1 : Field) : Prop where
  s : P.underlying t = some (.struct #[f0, f1])
  c : P.cellsOf t = 2
  off : f0.offset = 0 ∧ f1.offset = 1
  path : P.underlying f0.type = some .string
  cpath : P.cellsOf f0.type = 1
  data : P.underlying f1.type = some (.slice e)
  cdata : P.cellsOf f1.type = 1
  byte : P.underlying e = some (.int .u8)
  cbyte : P.cellsOf e = 1
  bbyte : P.bytesOf e = 1
theorem fiT : ∃ F : Field × Field, FiT Tryd.prog 64 5 F.1 F.2 :=
  ⟨⟨_, _⟩, { s := Tryd.underlying64, c := (by kernel_rfl), off := ⟨rfl, rfl⟩, path := (by kernel_rfl), cpath := (by kernel_rfl), data := (by kernel_rfl), cdata := (by kernel_rfl), byte := (by kernel_rfl), cbyte := (by kernel_rfl), bbyte := (by kernel_rfl) }⟩

theorem ro_ints {w : World} {S : Nat → Prop} {L : Loc} {xs : List Int} {f : Nat → AV} {v : Value} (h : den w S L (.ro xs.length 1 f) v) (hf : ∀ i, i < xs.length → f i = int .u8 (xs.getD i 0)) : den w S L (.roI .u8 xs) v := by
  obtain ⟨A, cap, e, hc, hd⟩ := h
  refine ⟨A, cap, e, hc, fun i hi => ?_⟩
  obtain ⟨u, h1, h2⟩ := hd i (by omega)
  rw [hf i hi] at h2
  obtain rfl := h2
  exact h1
theorem all_mem {e : TypeId} {d : DataW H} {n : Nat} (hn : n ∈ d.weights P e) : ∀ {es : List (DataW H)}, d ∈ es → n ∈ DataW.weightsAll P e es
  | x :: es, h => by
    unfold DataW.weightsAll
    rcases List.mem_cons.1 h with rfl | h
    · exact List.mem_append_left _ hn
    · exact List.mem_append_right _ (all_mem hn h)

theorem trod_rows2 {W : World} {fuel base c : Nat} {sp : Nat → Bool} {hd : Bool} {t e : TypeId} {u : Value} {x : DataW H × List MemPlace} (ht : P.underlying t = some (.slice e)) (hC : P.cellsOf e = c) (hc : 0 < c)
    (hf : DataW.trod enc P W base sp hd fuel t [u] = some x) (hlt : ∀ p ∈ x.2, p.block < W.heap.size) :
    ∃ (A : Option Addr) (len cap n : Nat) (cs : Nat → List Value) (y : Nat → DataW H × List MemPlace), u = .slice A len cap ∧ len ≤ cap ∧ len ≤ maxLen ∧ (x.1 = .nil ∧ len = 0 ∨ ∃ es rs, x.1 = .slice es rs ∧ es.length = len) ∧
      ∀ i, i < len → DataW.trod enc P W base sp hd n e (cs i) = some (y i) ∧ (cs i).length = c ∧ (∀ p ∈ (y i).2, p ∈ x.2) ∧ (∀ n ∈ (y i).1.weights P e, n ∈ x.1.weights P t) ∧ ∀ j, j < c → ∃ v, (cs i)[j]? = some v ∧ rcell W (allB W) A (i * c + j) v := by
  rcases DataW.trod_slice ht hf with ⟨hcs, rfl⟩ | ⟨a, len, cap, elems, rest, n, _, hcs, rfl, hb, hl, hm, hlen, hel, hsp, hns⟩
  · simp at hcs
    subst hcs
    exact ⟨none, 0, 0, 0, fun _ => [], fun _ => (.nil, []), rfl, Nat.le_refl _, Nat.zero_le _, .inl ⟨rfl, rfl⟩, fun i hi => absurd hi (Nat.not_lt_zero _)⟩
  · simp at hcs
    subst hcs
    have key : ∀ i, ∃ (q : List Value × (DataW H × List MemPlace)), i < len → DataW.trod enc P W base sp hd n e q.1 = some q.2 ∧ q.1.length = c ∧ elems[i]? = some q.2 ∧ ∀ j, j < c → ∃ v, q.1[j]? = some v ∧ W.cell? ((a.add (i * c)).add j) = some v := fun i => by
      by_cases hi : i < len
      · have h2 := hel i hi
        rw [List.getElem?_eq_getElem (by omega), Option.bind_eq_some_iff] at h2
        obtain ⟨cs, hcc, hy⟩ := h2
        rw [hC] at hcc
        obtain ⟨_, hlen2, hcell⟩ := World.cells?_some hcc
        refine ⟨(cs, _), fun _ => ⟨hy, hlen2, by rw [List.getElem?_eq_getElem (by omega)], fun j hj => ⟨cs[j]'(by omega), List.getElem?_eq_getElem (by show j < cs.length; omega), ?_⟩⟩⟩
        rw [hcell j (by omega), List.getElem?_eq_getElem (by omega)]
      · exact ⟨([], (.nil, [])), fun h => absurd h hi⟩
    refine ⟨some a, len, cap, n, fun i => (key i).choose.1, fun i => (key i).choose.2, rfl, hl, by omega, .inr ⟨_, _, rfl, by simp [hlen]⟩, fun i hi => ?_⟩
    obtain ⟨h1, h2, h3, h4⟩ := (key i).choose_spec hi
    refine ⟨h1, h2, fun p hp => ?_, fun n hn => ?_, fun j hj => ?_⟩
    · refine List.mem_append_right _ (List.mem_flatMap.2 ⟨_, List.mem_append_left _ (List.mem_of_getElem? h3), hp⟩)
    · unfold DataW.weights
      rw [ht]
      exact List.mem_cons_of_mem _ (List.mem_append_left _ (all_mem hn (List.mem_map.2 ⟨_, List.mem_of_getElem? h3, rfl⟩)))
    · obtain ⟨v, h5, h6⟩ := h4 j hj
      obtain ⟨_, _, _, k4⟩ := (key 0).choose_spec (by omega)
      obtain ⟨v0, _, k6⟩ := k4 0 hc
      obtain ⟨ab, ao, spot⟩ := a
      have hspot : spot = none := by simpa [Addr.add] using World.cell?_spot k6
      subst hspot
      rw [Addr.add_lit, Addr.add_lit, Nat.add_assoc] at h6
      refine ⟨v, h5, ab, ao, rfl, ?_, h6⟩
      refine hlt (.cell ab (ao + (i * c + j))) (List.mem_append_left _ ?_)
      simp only [MemPlace.row, List.mem_map, List.mem_range]
      refine ⟨i * c + j, ?_, rfl⟩
      rw [hC]
      have : i * c + j < (i + 1) * c := by rw [Nat.add_mul]; omega
      have h7 : (i + 1) * c ≤ elems.length * c := Nat.mul_le_mul_right _ (by omega)
      have h8 : elems.length * c ≤ (elems.length + rest.length) * c := Nat.mul_le_mul_right _ (by omega)
      omega

/-- A list of whatever, its elements' cells known. -/
theorem open_list2 {α : Type} (cell : α → Nat → AV) (dflt : α) (good : DataW H → α → Prop) {W : World} {fuel base c : Nat} {sp : Nat → Bool} {hd : Bool} {t e : TypeId} {u : Value} {x : DataW H × List MemPlace} (ht : P.underlying t = some (.slice e)) (hC : P.cellsOf e = c) (hc : 0 < c)
    (hel : ∀ (n : Nat) (cs : List Value) (y : DataW H × List MemPlace), DataW.trod enc P W base sp hd n e cs = some y → (∀ p ∈ y.2, p.block < W.heap.size) → ∃ a, good y.1 a ∧ ∀ j, j < c → ∀ v, cs[j]? = some v → den W (allB W) .zero (cell a j) v)
    (hf : DataW.trod enc P W base sp hd fuel t [u] = some x) (hlt : ∀ p ∈ x.2, p.block < W.heap.size) :
    ∃ L : List α, (∀ a ∈ L, ∃ z : DataW H, good z a ∧ ∀ n ∈ z.weights P e, n ∈ x.1.weights P t) ∧ L.length ≤ maxLen ∧ den W (allB W) .zero (.ro L.length c fun i => cell (L.getD (i / c) dflt) (i % c)) u ∧ (x.1 = .nil ∧ L = [] ∨ ∃ es rs, x.1 = .slice es rs ∧ es.length = L.length) := by
  obtain ⟨A, len, cap, n, cs, y, rfl, h1, h2, h3, h4⟩ := trod_rows2 ht hC hc hf hlt
  have key : ∀ i, ∃ a, i < len → good (y i).1 a ∧ ∀ j, j < c → ∀ v, (cs i)[j]? = some v → den W (allB W) .zero (cell a j) v := fun i => by
    by_cases hi : i < len
    · obtain ⟨g1, g2, g3, _, g4⟩ := h4 i hi
      obtain ⟨a, k1, k2⟩ := hel n (cs i) (y i) g1 (fun p hp => hlt p (g3 p hp))
      exact ⟨a, fun _ => ⟨k1, k2⟩⟩
    · exact ⟨dflt, fun h => absurd h hi⟩
  let L : List α := (List.range len).map fun i => (key i).choose
  have hL : L.length = len := by simp [L]
  have hget : ∀ i, i < len → L.getD i dflt = (key i).choose := fun i hi => by simp [L, List.getD_eq_getElem?_getD, hi]
  refine ⟨L, fun a ha => ?_, by rw [hL]; exact h2, ⟨A, cap, by rw [hL], by rw [hL]; exact h1, fun i hi => ?_⟩, ?_⟩
  · obtain ⟨i, hi, rfl⟩ := List.mem_map.1 ha
    exact ⟨_, ((key i).choose_spec (List.mem_range.1 hi)).1, (h4 i (List.mem_range.1 hi)).2.2.2.1⟩
  · rw [hL] at hi
    have hi2 : i / c < len := (Nat.div_lt_iff_lt_mul hc).2 hi
    obtain ⟨_, _, _, _, g4⟩ := h4 (i / c) hi2
    obtain ⟨v, g5, g6⟩ := g4 (i % c) (Nat.mod_lt _ hc)
    refine ⟨v, ?_, ?_⟩
    · have e : i / c * c + i % c = i := by rw [Nat.mul_comm]; exact Nat.div_add_mod i c
      rwa [e] at g6
    · show den W (allB W) .zero (cell (L.getD (i / c) dflt) (i % c)) v
      rw [hget _ hi2]
      exact ((key (i / c)).choose_spec hi2).2 _ (Nat.mod_lt _ hc) v g5
  · rcases h3 with ⟨a, b⟩ | ⟨es, rs, a, b⟩
    · exact .inl ⟨a, by apply List.eq_nil_of_length_eq_zero; omega⟩
    · exact .inr ⟨es, rs, a, by omega⟩

/-- A file's cells. -/
theorem open_file_cells {W : World} {n base : Nat} {t e : TypeId} {f0 f1 : Field} {cs : List Value} {y : DataW H × List MemPlace} (T : FiT P t e f0 f1)
    (hf : DataW.trod enc P W base (fun _ => true) true n t cs = some y) (hlt : ∀ p ∈ y.2, p.block < W.heap.size) :
    ∃ f : Fl, (∀ x ∈ f.data, 0 ≤ x ∧ x < 256) ∧ (∀ R, (∀ n ∈ y.1.weights P t, n ≤ R) → f.path.size ≤ R ∧ f.data.length ≤ R) ∧ ∀ j, j < 2 → ∀ v, cs[j]? = some v → den W (allB W) .zero (flC f j) v := by
  obtain ⟨o0, o1⟩ := T.off
  obtain ⟨xs, m, _, hy, hlen, hxl, hfs⟩ := DataW.trod_struct T.s hf
  have hx : xs.length = 2 := hxl
  have e0 := hfs 0 f0 rfl
  have e1 := hfs 1 f1 rfl
  rw [T.cpath, o0, List.getElem?_eq_getElem (by omega)] at e0
  rw [T.cdata, o1, List.getElem?_eq_getElem (by omega)] at e1
  obtain ⟨s, qs, hxs, _⟩ := DataW.trod_string T.path e0
  have hlt1 : ∀ p ∈ (xs[1]'(by omega)).2, p.block < W.heap.size := fun p hp => hlt p (by
    rw [hy]; exact List.mem_flatMap.2 ⟨_, List.getElem_mem (by omega), hp⟩)
  have one : ∃ u, (cs.drop 1).take 1 = [u] := by
    rcases DataW.trod_slice T.data e1 with ⟨hcs, _⟩ | ⟨a, len, cap, elems, rest, n', _, hcs, _⟩
    · exact ⟨_, hcs⟩
    · exact ⟨_, hcs⟩
  obtain ⟨u, hu⟩ := one
  rw [hu] at e1
  obtain ⟨D, d1, d2, d3, d4⟩ := open_list (fun (x : Int) (_ : Nat) => int .u8 x) 0 (fun x => 0 ≤ x ∧ x < 256) (c := 1) T.data T.cbyte (by decide) (fun n cs y h hl => by
    obtain ⟨z, e1, _, hw⟩ := DataW.trod_int T.byte h
    refine ⟨z, wf_u8 hw, fun j hj v hv => ?_⟩
    obtain rfl : j = 0 := by omega
    rw [e1] at hv
    cases hv
    rfl) e1 hlt1
  refine ⟨⟨s, D⟩, d1, fun R hR => ?_, fun j hj v hv => ?_⟩
  · have hy1 : y.1 = .agg (xs.map (·.1)) := by rw [hy]
    rw [hy1] at hR
    have mem : ∀ {j : Nat} {f : Field} {d : DataW H}, (#[f0, f1] : Array Field)[j]? = some f → (xs.map (·.1))[j]? = some d → ∀ n ∈ d.weights P f.type, n ∈ DataW.weights P t (.agg (xs.map (·.1))) := fun {j f d} hj hd n hn => by
      unfold DataW.weights
      rw [T.s]
      refine DataW.weights_mem_each (j := j) (t := f.type) (d := d) ?_ hd n hn
      have h2 : ([f0, f1] : List Field)[j]? = some f := by simpa using hj
      show (([f0, f1] : List Field).map (·.type))[j]? = _
      rw [List.getElem?_map, h2]; rfl
    refine ⟨?_, ?_⟩
    · refine hR _ (mem (j := 0) (f := f0) (d := .lit (.string s.data.toList)) rfl (by rw [List.getElem?_map, List.getElem?_eq_getElem (by omega), hxs]; rfl) _ ?_)
      unfold DataW.weights
      exact List.mem_singleton.2 rfl
    · rcases d4 with ⟨_, rfl⟩ | ⟨es, rs, h1, h2⟩
      · exact Nat.zero_le _
      · have h3 := hR _ (mem (j := 1) (f := f1) (d := (xs[1]'(by omega)).1) rfl (by rw [List.getElem?_map, List.getElem?_eq_getElem (by omega)]; rfl) ((es.length + rs.length) * P.bytesOf e) (by
          rw [h1]
          unfold DataW.weights
          rw [T.data]
          exact List.mem_cons_self ..))
        rw [T.bbyte] at h3
        show D.length ≤ R
        omega
  · match j, hj with
    | 0, _ =>
      have : (cs.drop 0).take 1 = [.string s] := qs
      rw [one_cell this hv]; rfl
    | 1, _ =>
      rw [one_cell hu hv]
      exact ro_ints d3 fun i hi => by
        show int .u8 (D.getD (i / 1) 0) = _
        rw [Nat.div_one]

/-- Files that came in. -/
theorem open_files {W : World} {base : Nat} {tv t e : TypeId} {f0 f1 : Field} {v : Value} {d : DataW H} {ps : List MemPlace} (htv : P.underlying tv = some (.slice t)) (T : FiT P t e f0 f1)
    (hval : Value.okWide P W .any base tv v) (h : DataW.Trod enc P W 0 (fun _ => true) true tv v d ps) (hlt : ∀ x ∈ ps, x.block < W.heap.size) :
    ∃ L : List Fl, den W (allB W) .zero (flsV L) v ∧ (d = .nil ∧ L = [] ∨ ∃ es rs, d = .slice es rs ∧ es.length = L.length) ∧ okBytes L ∧
      ∀ R, (∀ n ∈ d.weights P tv, n ≤ R) → ∀ f ∈ L, f.path.size ≤ R ∧ f.data.length ≤ R := by
  obtain ⟨a1, len, cap, rfl⟩ := okWide_slice htv hval
  obtain ⟨fuel, hf⟩ := h
  obtain ⟨L, h1, _, h2, h3⟩ := open_list2 flC fl0 (fun z f => (∀ x ∈ f.data, 0 ≤ x ∧ x < 256) ∧ ∀ R, (∀ n ∈ z.weights P t, n ≤ R) → f.path.size ≤ R ∧ f.data.length ≤ R) (c := 2) htv T.c (by decide) (fun n cs y hy hl => by
    obtain ⟨f, g1, g2, g3⟩ := open_file_cells T hy hl
    exact ⟨f, ⟨g1, g2⟩, g3⟩) hf hlt
  refine ⟨L, h2, h3, fun f hf => ?_, fun R hR f hf => ?_⟩
  · obtain ⟨z, g, _⟩ := h1 f hf
    exact g.1
  · obtain ⟨z, g, hz⟩ := h1 f hf
    exact g.2 R fun n hn => hR n (hz n hn)
end
end Go.Proofs.YtkchfbnkdpdbkaaDoor.AL

/-
  The laws of archives, walked: UstarCuts, UstarTurned.
-/
set_option linter.unusedVariables false
set_option linter.unusedSectionVars false
namespace Go.Proofs.YtkchfbnkdpdbkaaDoor.Us
open Go AL Oc Pa Spl Hd

theorem putR_len {l : List Fl} (h : smallL l) : (putR l).length ≤ 200000 := by
  unfold putR
  split
  · rename_i e
    have hf := small_fit h
    have := body_max (okF_of hf.2 (putE_ok.1 e).1)
    rw [List.length_append, zer_len]
    have h1 := h.1
    have h2 := h.2
    omega
  · exact Nat.zero_le _
theorem putR_pos {l : List Fl} (e : putE l = 0) : 1024 ≤ (putR l).length := by
  unfold putR
  rw [if_pos e, List.length_append, zer_len]; exact Nat.le_add_left _ _
section
variable [Globs]

set_option maxHeartbeats 2000000 in
set_option maxRecDepth 10000 in
theorem cuts_prog (l : List Fl) (a : Int) (more : List Int) (hs : okSizes l) (hz : szL l) (hl : l.length ≤ 281474976710656) (ha : 0 ≤ a ∧ a < 65536) (hm : ∀ x ∈ more, 0 ≤ x ∧ x < 256) (hml : more.length ≤ 281474976710656) :
    ACalls Tryd.prog 13 [flsV l, int .u16 a, .roI .u8 more] [] (fun r h => r = .tt ∧ h = []) := by
  have h0 := small_prog l hl hz
  have h1 := fun h : smallL l => uput_prog l (small_fit h) hs
  have hby : okBytes l := fun f hf => (hs f hf).2
  have hpb := put_bytes hby
  have k1 : smallL l → putE l = 0 → Us.arc (putR l) l ∧ 1024 ≤ (putR l).length ∧ (putR l).length ≤ 200000 := fun h e =>
    ⟨(put_get (small_fit h) e).1, putR_pos e, putR_len h⟩
  unfold UPutR at h1
  generalize putE l = E at *
  generalize putR l = X at *
  refine rcalls Tryd.func13 rfl (by decide) ?_
  refine ⟨[], _, us_awake, ?_⟩
  rintro r hh ⟨rfl, rfl⟩
  refine ⟨.inl rfl, ?_⟩
  refine ⟨[], _, h0, ?_⟩
  rintro r hh ⟨rfl, rfl⟩
  refine ⟨.inl rfl, ?_⟩
  refine ⟨fun c1 => ?_, fun c1 => ?_⟩
  · exact ⟨[], [], .tt, lehN _, .tt, rfl, rfl⟩
  have f1 := notF c1
  refine ⟨fun c2 => ?_, fun c2 => ?_⟩
  · exact ⟨[], [], .tt, lehN _, .tt, rfl, rfl⟩
  have f2 : ¬ (more.length : Int) = 0 := no c2
  refine ⟨fun c3 => ?_, fun c3 => ?_⟩
  · exact ⟨[], [], .tt, lehN _, .tt, rfl, rfl⟩
  have f3 : ¬ 5000 < (more.length : Int) := no c3
  refine ⟨[], _, h1 f1, ?_⟩
  rintro r hh ⟨rfl, rfl⟩
  refine ⟨.inl rfl, ?_⟩
  refine ⟨fun c4 => ?_, fun c4 => ?_⟩
  · exact ⟨[], [], .tt, lehN _, .tt, rfl, rfl⟩
  have f4 : E = 0 := Classical.byContradiction fun x => no c4 x
  obtain ⟨q1, q2, q3⟩ := k1 f1 f4
  refine ⟨fun c5 => absurd (yes c5) (by omega), fun c5 => ?_⟩
  obtain ⟨K, eK, hK⟩ : ∃ K : Nat, (IntKind.i64.wrap a).tmod (X.length : Int) = (K : Int) ∧ K < X.length := by
    rw [w64 (by omega) (by omega), Int.tmod_eq_emod_of_nonneg ha.1]
    have h1 := Int.emod_nonneg a (b := (X.length : Int)) (by omega)
    have h2 := Int.emod_lt_of_pos a (b := (X.length : Int)) (by omega)
    exact ⟨(a % (X.length : Int)).toNat, by omega, by omega⟩
  have b1 : 0 ≤ (IntKind.i64.wrap a).tmod (X.length : Int) ∧ (IntKind.i64.wrap a).tmod (X.length : Int) ≤ (X.length : Int) := by rw [eK]; omega
  have c6 := uget_top (X.take K) (fun x hx => hpb x (List.mem_of_mem_take hx)) (by rw [List.length_take]; omega)
  have c7 := uget_top (X ++ more) (fun x hx => by
    rcases List.mem_append.1 hx with h | h
    · exact hpb x h
    · exact hm x h) (by rw [List.length_append]; omega)
  rw [cut_none q1 hK] at c6
  rw [more_none q1 (fun h => by rw [h] at f2; exact f2 rfl)] at c7
  refine ⟨by omega, ?_⟩
  refine ⟨b1, ?_⟩
  refine ⟨[], _, ?_, own_cast ?_ c6, ?_⟩
  · show addOff 0 0 1 + (((IntKind.i64.wrap a).tmod (X.length : Int)).toNat - 0) ≤ X.length
    rw [eK]; unfold addOff; omega
  · show (X.drop (addOff 0 0 1)).take (((IntKind.i64.wrap a).tmod (X.length : Int)).toNat - 0) = _
    rw [eK]; rfl
  rintro r hh ⟨rfl, rfl⟩
  refine ⟨.inr ⟨fun i hi => ?_, fun o ho => by cases ho⟩, ?_⟩
  · match i, hi with
    | 0, _ => trivial
    | 1, _ => trivial
  refine ⟨rfl, by omega, by show (0 + _) * 1 ≤ _; rw [List.length_take, List.length_drop]; omega, ?_⟩
  refine ⟨by simp, by show _ * 1 ≤ _; simp; omega, ?_⟩
  refine ⟨[], _, by simp, own_cast ?_ c7, ?_⟩
  · simp
    exact List.take_of_length_le (by simp)
  rintro r hh ⟨rfl, rfl⟩
  refine ⟨.inr ⟨fun i hi => ?_, fun o ho => by cases ho⟩, ?_⟩
  · match i, hi with
    | 0, _ => trivial
    | 1, _ => trivial
  refine ⟨fun _ => ?_, fun e => absurd rfl (no e)⟩
  exact ⟨[], [], .tt, lehN _, leTT (decide_eq_true rfl), rfl, rfl⟩

set_option maxHeartbeats 2000000 in
set_option maxRecDepth 10000 in
theorem turned_uprog (l : List Fl) (a m : Int) (hs : okSizes l) (hz : szL l) (hl : l.length ≤ 281474976710656) (ha : 0 ≤ a ∧ a < 65536) (hm : 0 ≤ m ∧ m < 256) :
    ACalls Tryd.prog 14 [flsV l, int .u16 a, int .u8 m] [] (fun r h => r = .tt ∧ h = []) := by
  have h0 := small_prog l hl hz
  have h1 := fun h : smallL l => uput_prog l (small_fit h) hs
  have hby : okBytes l := fun f hf => (hs f hf).2
  have hpb := put_bytes hby
  have k1 : smallL l → putE l = 0 → 1024 ≤ (putR l).length ∧ (putR l).length ≤ 200000 := fun h e => ⟨putR_pos e, putR_len h⟩
  have k2 : ∀ Y : List Int, Y ≠ putR l → getE Y ≠ 2 → ¬ l = getL Y := fun Y hne hg he => by
    rcases getE_cases Y with ⟨l', h, e, _⟩ | ⟨_, _, e⟩
    · have := (get_put h).2
      rw [← e, ← he] at this
      exact hne this.symm
    · exact hg e
  unfold UPutR at h1
  generalize putE l = E at *
  generalize putR l = X at *
  refine rcalls Tryd.func14 rfl (by decide) ?_
  refine ⟨[], _, us_awake, ?_⟩
  rintro r hh ⟨rfl, rfl⟩
  refine ⟨.inl rfl, ?_⟩
  refine ⟨[], _, h0, ?_⟩
  rintro r hh ⟨rfl, rfl⟩
  refine ⟨.inl rfl, ?_⟩
  refine ⟨fun c1 => ?_, fun c1 => ?_⟩
  · exact ⟨[], [], .tt, lehN _, .tt, rfl, rfl⟩
  have f1 := notF c1
  refine ⟨fun c2 => ?_, fun c2 => ?_⟩
  · exact ⟨[], [], .tt, lehN _, .tt, rfl, rfl⟩
  have f2 : ¬ m = 0 := no c2
  refine ⟨[], _, h1 f1, ?_⟩
  rintro r hh ⟨rfl, rfl⟩
  refine ⟨.inl rfl, ?_⟩
  refine ⟨fun c4 => ?_, fun c4 => ?_⟩
  · exact ⟨[], [], .tt, lehN _, .tt, rfl, rfl⟩
  have f4 : E = 0 := Classical.byContradiction fun x => no c4 x
  obtain ⟨q2, q3⟩ := k1 f1 f4
  refine ⟨fun c5 => absurd (yes c5) (by omega), fun c5 => ?_⟩
  obtain ⟨K, eK, hK⟩ : ∃ K : Nat, (IntKind.i64.wrap a).tmod (X.length : Int) = (K : Int) ∧ K < X.length := by
    rw [w64 (by omega) (by omega), Int.tmod_eq_emod_of_nonneg ha.1]
    have h1 := Int.emod_nonneg a (b := (X.length : Int)) (by omega)
    have h2 := Int.emod_lt_of_pos a (b := (X.length : Int)) (by omega)
    exact ⟨(a % (X.length : Int)).toNat, by omega, by omega⟩
  have kk : addOff 0 ((IntKind.i64.wrap a).tmod (X.length : Int)).toNat 1 = K := by rw [eK]; unfold addOff; omega
  have b1 : 0 ≤ (IntKind.i64.wrap a).tmod (X.length : Int) ∧ (IntKind.i64.wrap a).tmod (X.length : Int) < (X.length : Int) := by rw [eK]; omega
  have b2 : addOff 0 ((IntKind.i64.wrap a).tmod (X.length : Int)).toNat 1 < X.length := by rw [kk]; omega
  have hget : X.getD (addOff 0 ((IntKind.i64.wrap a).tmod (X.length : Int)).toNat 1) 0 ∈ X := by
    rw [List.getD_eq_getElem?_getD, List.getElem?_eq_getElem b2]; exact List.getElem_mem b2
  obtain ⟨p1, p2, p3⟩ := xor_u8 (hpb _ hget) hm
  obtain ⟨Y, eY⟩ : ∃ Y, Y = X.set (addOff 0 ((IntKind.i64.wrap a).tmod (X.length : Int)).toNat 1) (bits BinOp.xor IntKind.u8 (X.getD (addOff 0 ((IntKind.i64.wrap a).tmod (X.length : Int)).toNat 1) 0) m) := ⟨_, rfl⟩
  have yl : Y.length = X.length := by rw [eY, List.length_set]
  have yne : Y ≠ X := fun h => by
    have e : Y.getD (addOff 0 ((IntKind.i64.wrap a).tmod (X.length : Int)).toNat 1) 0 = X.getD (addOff 0 ((IntKind.i64.wrap a).tmod (X.length : Int)).toNat 1) 0 := by rw [h]
    have e2 : Y.getD (addOff 0 ((IntKind.i64.wrap a).tmod (X.length : Int)).toNat 1) 0 = bits BinOp.xor IntKind.u8 (X.getD (addOff 0 ((IntKind.i64.wrap a).tmod (X.length : Int)).toNat 1) 0) m := by
      rw [eY, List.getD_eq_getElem?_getD, List.getElem?_set_self b2]; rfl
    exact p2 f2 (e2.symm.trans e)
  have yr : ∀ x ∈ Y, 0 ≤ x ∧ x < 256 := fun x hx => by
    rw [eY] at hx
    rcases List.mem_or_eq_of_mem_set hx with h | h
    · exact hpb x h
    · rw [h]; exact p1
  have c6 := uget_prog Y yr (by omega)
  have k2 := k2 Y yne
  have c7 := same_ref l (getL Y) hby (getL_bytes yr) hl (by have := getL_len Y; omega)
  unfold UGetR at c6
  generalize getL Y = L at *
  generalize getE Y = G at *
  refine ⟨by omega, ?_⟩
  refine ⟨b1, b2, b1, b2, ?_⟩
  refine ⟨[1000], (fun r h => r = .tup 2 (pair (.own 0 0 L.length 2) (int .i64 G)) ∧ h = [.row (L.length * 2) (rowF L)]), ?_⟩
  refine ⟨by rw [List.length_set]; omega, own_cast (by rw [← eY, List.drop_zero, ← yl, List.take_length]) c6, ?_⟩
  rintro r hh ⟨rfl, rfl⟩
  refine ⟨.inl rfl, ?_⟩
  refine ⟨fun c8 => ?_, fun c8 => ?_⟩
  · exact ⟨[], [], .tt, lehN _, .tt, rfl, rfl⟩
  have f8 : ¬ G = 2 := no c8
  refine ⟨[], _, Nat.le_of_eq (Nat.zero_add _), fun i hi => rfree _ _ _, (c7.not (decide_eq_false (k2 f8))).args ⟨.refl _, vrsU rfl fun i hi => rback _ _ _, trivial⟩, ?_⟩
  rintro r hh ⟨rfl, rfl⟩
  refine ⟨.inr ⟨trivial, fun o ho => by cases ho⟩, ?_⟩
  exact ⟨[], [], .tt, lehN _, .tt, rfl, rfl⟩
end
end Go.Proofs.YtkchfbnkdpdbkaaDoor.Us

/-
  The laws of archives, walked: UstarJoins, UstarPuts.
-/
set_option linter.unusedVariables false
set_option linter.unusedSectionVars false
namespace Go.Proofs.YtkchfbnkdpdbkaaDoor.Us
open Go AL Oc Pa Spl Hd

theorem bytesOf_app (xs ys : List Int) : bytesOf (xs ++ ys) = bytesOf xs ++ bytesOf ys := by
  unfold bytesOf
  apply ByteArray.ext
  simp
theorem rowF_app (l m : List Fl) {i : Nat} : rowF (l ++ m) (l.length * 2 + i) = rowF m i := by
  unfold rowF
  rw [show (l.length * 2 + i) / 2 = l.length + i / 2 by omega, show (l.length * 2 + i) % 2 = i % 2 by omega, List.getD_eq_getElem?_getD, List.getElem?_append_right (by omega), Nat.add_sub_cancel_left, List.getD_eq_getElem?_getD]
theorem rowF_left (l m : List Fl) {i : Nat} (h : i < l.length * 2) : rowF (l ++ m) i = rowF l i := by
  unfold rowF
  rw [List.getD_eq_getElem?_getD, List.getElem?_append_left (by omega), List.getD_eq_getElem?_getD]
section
variable [Globs]

set_option maxHeartbeats 2000000 in
set_option maxRecDepth 10000 in
theorem joins_prog (l m : List Fl) (hs : okSizes l) (hz : szL l) (hl : l.length ≤ 281474976710656) (hs' : okSizes m) (hz' : szL m) (hl' : m.length ≤ 281474976710656) :
    ACalls Tryd.prog 15 [flsV l, flsV m] [] (fun r h => r = .tt ∧ h = []) := by
  have h0 := small_prog l hl hz
  have h0' := small_prog m hl' hz'
  have h1 := fun h : smallL l => uput_prog l (small_fit h) hs
  have h2 := fun h : smallL m => uput_prog m (small_fit h) hs'
  have h3 := fun (h : smallL l) (g : smallL m) => uput_prog (l ++ m) ⟨by rw [List.length_append]; have := h.1; have := g.1; omega, by rw [data_app]; have := h.2; have := g.2; omega⟩ (fun f hf => by
    rcases List.mem_append.1 hf with x | x
    · exact hs f x
    · exact hs' f x)
  have k1 : ¬ (putE l = 0 ∧ putE m = 0) → putE (l ++ m) ≠ 0 := fun h => put_app_no (by omega)
  have k2 : putE l = 0 → putE m = 0 → (putE (l ++ m) = 0 ∧ putR (l ++ m) = (putR l).take ((putR l).length - 1024) ++ putR m ∨ putE (l ++ m) = 7) ∧ 1024 ≤ (putR l).length := fun h g => ⟨put_app h g, putR_pos h⟩
  have k3 := fun h : smallL l => putR_len h
  have k4 := fun h : smallL m => putR_len h
  unfold UPutR at h1 h2 h3
  generalize putE (l ++ m) = G at *
  generalize putR (l ++ m) = Z at *
  generalize putE l = E at *
  generalize putR l = X at *
  generalize putE m = F at *
  generalize putR m = Y at *
  have hold := fun {i : Nat} (h : i < l.length * 2) => rowF_left l m h
  have hnew := fun {i : Nat} => rowF_app l m (i := i)
  have hlen : (l ++ m).length = l.length + m.length := List.length_append
  refine rcalls Tryd.func15 rfl (by decide) ?_
  refine ⟨[], _, us_awake, ?_⟩
  rintro r hh ⟨rfl, rfl⟩
  refine ⟨.inl rfl, ?_⟩
  refine ⟨[], _, h0, ?_⟩
  rintro r hh ⟨rfl, rfl⟩
  refine ⟨.inl rfl, ?_⟩
  refine ⟨fun c1 => ?_, fun c1 => ?_⟩
  · exact ⟨[], [], .tt, lehN _, .tt, rfl, rfl⟩
  have f1 := notF c1
  refine ⟨[], _, h0', ?_⟩
  rintro r hh ⟨rfl, rfl⟩
  refine ⟨.inl rfl, ?_⟩
  refine ⟨fun c2 => ?_, fun c2 => ?_⟩
  · exact ⟨[], [], .tt, lehN _, .tt, rfl, rfl⟩
  have f2 := notF c2
  have l40 : l.length ≤ 40 := f1.1
  have m40 : m.length ≤ 40 := f2.1
  refine ⟨[], _, h1 f1, ?_⟩
  rintro r hh ⟨rfl, rfl⟩
  refine ⟨.inl rfl, ?_⟩
  refine ⟨[], _, h2 f2, ?_⟩
  rintro r hh ⟨rfl, rfl⟩
  refine ⟨.inl rfl, ?_⟩
  refine ⟨rfl, fun i hi => by simp at hi, by show (0 + l.length) * 40 ≤ _; omega, fun i hi => rowCell1 l i, rowF l, fun i hi => by simp at hi, fun i hi => by show rowF l (0 + i) = _; rw [Nat.zero_add], ?_⟩
  refine ⟨rfl, fun i hi => rowCell1 l i, by show (0 + l.length + m.length) * 40 ≤ _; omega, fun i hi => rowCell1 m i, rowF (l ++ m), fun i hi => hold (by rw [Nat.zero_add, Nat.zero_add] at hi; exact hi), fun i hi => ?_, ?_⟩
  · show rowF (l ++ m) ((0 + l.length) * 2 + i) = _
    rw [Nat.zero_add]; exact hnew
  have h3 := h3 f1 f2
  refine ⟨[], _, Nat.le_of_eq (Nat.zero_add _), fun i hi => rowFree _ _, h3.args ⟨vrsU (by rw [hlen, Nat.zero_add]) fun i hi => by rw [Nat.zero_add], trivial⟩, ?_⟩
  rintro r hh ⟨rfl, rfl⟩
  refine ⟨.inr ⟨fun i hi => ?_, fun o ho => ?_⟩, ?_⟩
  · match i, hi with
    | 0, _ => trivial
    | 1, _ => trivial
  · rw [List.mem_singleton.1 ho]; trivial
  refine ⟨fun c3 => ?_, fun c3 => ?_⟩
  · have f3 : ¬ E = 0 := yes c3
    exact ⟨[], [], .tt, lehN _, leTT (decide_eq_true (k1 fun h => f3 h.1)), rfl, rfl⟩
  have f3 : E = 0 := Classical.byContradiction fun x => no c3 x
  refine ⟨fun c4 => ?_, fun c4 => ?_⟩
  · have f4 : ¬ F = 0 := yes c4
    exact ⟨[], [], .tt, lehN _, leTT (decide_eq_true (k1 fun h => f4 h.2)), rfl, rfl⟩
  have f4 : F = 0 := Classical.byContradiction fun x => no c4 x
  obtain ⟨k2, k5⟩ := k2 f3 f4
  refine ⟨fun c5 => ?_, fun c5 => ?_⟩
  · have f5 : ¬ G = 0 := yes c5
    exact ⟨[], [], .tt, lehN _, leTT (decide_eq_true (k2.resolve_left fun h => f5 h.1)), rfl, rfl⟩
  have f5 : G = 0 := Classical.byContradiction fun x => no c5 x
  refine ⟨fun c6 => absurd (yes c6) (by omega), fun c6 => ?_⟩
  have hZ : Z = X.take (X.length - 1024) ++ Y := by
    rcases k2 with h | h
    · exact h.2
    · omega
  have k3 := k3 f1
  have k4 := k4 f2
  have e1 : IntKind.i64.wrap ((X.length : Int) - 1024) = ((X.length - 1024 : Nat) : Int) := by rw [w64 (by omega) (by omega)]; omega
  have b1 : 0 ≤ IntKind.i64.wrap ((X.length : Int) - 1024) ∧ IntKind.i64.wrap ((X.length : Int) - 1024) ≤ (X.length : Int) := by rw [e1]; omega
  refine .inr ⟨13, by decide +kernel, ?_⟩
  refine ⟨_, rfl, ?_⟩
  refine ⟨_, rfl, ?_⟩
  refine ⟨_, rfl, ?_⟩
  refine ⟨_, ⟨Nat.le_of_eq (Nat.zero_add _), rfl⟩, ?_⟩
  refine ⟨_, rfl, ?_⟩
  refine ⟨_, rfl, ?_⟩
  refine ⟨_, rfl, ?_⟩
  refine ⟨_, rfl, ?_⟩
  refine ⟨_, ⟨b1, rfl⟩, ?_⟩
  refine ⟨_, ⟨?_, rfl⟩, ?_⟩
  · show addOff 0 0 1 + ((IntKind.i64.wrap ((X.length : Int) - 1024)).toNat - 0) ≤ X.length
    rw [e1]; unfold addOff; omega
  refine ⟨_, rfl, ?_⟩
  refine ⟨_, ⟨Nat.le_of_eq (Nat.zero_add _), rfl⟩, ?_⟩
  refine ⟨_, ⟨?_, rfl⟩, ?_⟩
  · rw [bytesOf_len, bytesOf_len, List.length_take, List.length_take]; omega
  refine ⟨[], [], .tt, lehN _, leTT (decide_eq_true ?_), rfl, rfl⟩
  have e2 : (X.drop (addOff 0 0 1)).take ((IntKind.i64.wrap ((X.length : Int) - 1024)).toNat - 0) = X.take (X.length - 1024) := by rw [e1]; rfl
  rw [e2, List.drop_zero, List.take_length, List.drop_zero, List.take_length, hZ, bytesOf_app]

def sizesF (l : List Fl) (k : Nat) : List Nat := (l.take k).map fun f => f.data.length
theorem sizesF_succ {l : List Fl} {k : Nat} (h : k < l.length) : sizesF l (k + 1) = sizesF l k ++ [(l.getD k fl0).data.length] := by
  unfold sizesF
  rw [take_succ_fl h, List.map_append]; rfl
theorem nats_app (l m : List Nat) : nats (l ++ m) = nats l ++ nats m := by unfold nats; exact List.map_append ..
theorem leh2E {h : List AO} {a b j : Nat} {o0 o1 p0 p1 : AO} (hab : a ≠ b) (ha : h[a]? = some p0) (hb : h[b]? = some p1) (hj : h.length ≤ j) (l0 : LeO h [a, b, j] p0 o0) (l1 : LeO h [a, b, j] p1 o1) (k : IntKind) : LeH 0 h [a, b, j] [o0, o1, .ints k []] :=
  ⟨rfl, Nat.zero_le _, fun i hi => absurd hi (Nat.not_lt_zero _), by
    have h1 := (List.getElem?_eq_some_iff.1 ha).1
    have h2 := (List.getElem?_eq_some_iff.1 hb).1
    simp; omega, fun i m o' hi ho => by
    match i, hi, ho with
    | 0, hi, ho => cases hi; cases ho; exact .inl ⟨_, ha, l0⟩
    | 1, hi, ho => cases hi; cases ho; exact .inl ⟨_, hb, l1⟩
    | 2, hi, ho => cases hi; cases ho; exact .inr ⟨Nat.zero_le _, hj, .inr (.inl ⟨k, rfl⟩)⟩
    | i + 3, hi, ho => simp at hi⟩

set_option maxHeartbeats 2000000 in
set_option maxRecDepth 10000 in
theorem puts_uprog (l : List Fl) (hs : okSizes l) (hz : szL l) (hl : l.length ≤ 281474976710656) : ACalls Tryd.prog 16 [flsV l] [] (fun r h => r = .tt ∧ h = []) := by
  have h0 := small_prog l hl hz
  have h1 := fun h : smallL l => uput_prog l (small_fit h) hs
  have h2 := fun h : smallL l => uput_ref l (small_fit h) hs
  have hss := fun {k : Nat} (h : k < l.length) => sizesF_succ (l := l) h
  have hna := nats_app
  have hs0 : sizesF l 0 = [] := rfl
  have hsn : sizesF l l.length = l.map fun f => f.data.length := by unfold sizesF; rw [List.take_length]
  have hsl : ∀ k, k ≤ l.length → (sizesF l k).length = k := fun k hk => by unfold sizesF; rw [List.length_map, List.length_take]; omega
  have hsm : smallL l → ∀ n ∈ (l.map fun f => f.data.length), n ≤ 4194304 := fun h n hn => by
    obtain ⟨f, hf, rfl⟩ := List.mem_map.1 hn
    have := data_mem hf
    have := h.2
    omega
  have h3 := fun h : smallL l => usize_prog (l.map fun f => f.data.length) (by rw [List.length_map]; have := h.1; omega) (hsm h)
  have h4 := fun h : smallL l => usize_ref (l.map fun f => f.data.length) (by rw [List.length_map]; have := h.1; omega) (hsm h)
  have k1 := fun (h : smallL l) (e : putE l = 0) => put_size (small_fit h) e
  have hat := fun (k : Nat) {c : Nat} (h : c < 2) => rowF_at l (k := k) h
  unfold UPutR at h1 h2
  generalize putE l = E at *
  generalize putR l = X at *
  generalize sizeN (l.map fun f => f.data.length) = Z at *
  generalize (l.map fun f => f.data.length) = SL at *
  generalize sizesF l = SF at *
  refine rcalls Tryd.func16 rfl (by decide) ?_
  refine ⟨[], _, us_awake, ?_⟩
  rintro r hh ⟨rfl, rfl⟩
  refine ⟨.inl rfl, ?_⟩
  refine ⟨[], _, h0, ?_⟩
  rintro r hh ⟨rfl, rfl⟩
  refine ⟨.inl rfl, ?_⟩
  refine ⟨fun c1 => ?_, fun c1 => ?_⟩
  · exact ⟨[], [], .tt, lehN _, .tt, rfl, rfl⟩
  have f1 := notF c1
  have l40 : l.length ≤ 40 := f1.1
  refine ⟨[], _, h1 f1, ?_⟩
  rintro r hh ⟨rfl, rfl⟩
  refine ⟨.inl rfl, ?_⟩
  refine ⟨[], _, h2 f1, ?_⟩
  rintro r hh ⟨rfl, rfl⟩
  refine ⟨.inl rfl, ?_⟩
  refine ⟨Nat, fun k => [(0, flsV l), (3, .tt), (4, .own 0 0 X.length 1), (5, int .i64 E), (6, .own 1 0 X.length 1), (7, int .i64 E), (8, .own 2 0 k 1), (9, int .i64 k)], fun k => [.ints .u8 X, .ints .u8 X, .ints .i64 (nats (SF k))], fun k => k ≤ l.length, fun k => l.length - k,
    ⟨0, [0, 1, 2], Nat.zero_le _, ?_, ⟨.same _ trivial, .tt, leOwn rfl rfl rfl, leI rfl, leOwn rfl rfl rfl, leI rfl, .nil _ _ (by decide), leI rfl, trivial⟩⟩, ?_⟩
  · show LeH 0 _ [0, 1, 2] [.ints .u8 X, .ints .u8 X, .ints .i64 (nats (SF 0))]
    rw [hs0]
    exact leh2E (by decide) rfl rfl (Nat.le_refl _) (leOint rfl) (leOint rfl) .i64
  intro k hk
  have hk : k ≤ l.length := hk
  have hkl := hsl k hk
  have hnl := nats_len (SF k)
  refine ⟨fun c => ?_, fun c => ?_⟩
  · have f2 : (k : Int) < l.length := yes c
    have e1 : IntKind.i64.wrap ((k : Int) + 1) = ((k + 1 : Nat) : Int) := by rw [w64 (by omega) (by omega)]; omega
    have hss := hss (k := k) (by omega)
    obtain ⟨F, hF⟩ : ∃ F, l.getD k fl0 = F := ⟨_, rfl⟩
    rw [hF] at hss
    have ek : (k : Int).toNat = k := by omega
    refine ⟨⟨by omega, by omega⟩, flC F, fun c hc => by rw [ek, hat k hc, hF], ?_⟩
    refine ⟨by omega, Nat.le_refl 1, by show (_ + 1) * 8 ≤ _; rw [hnl, hkl]; omega, ?_⟩
    refine ⟨trivial, k + 1, [0, 1, 4], by show k + 1 ≤ l.length; omega, by show l.length - (k + 1) < l.length - k; omega, leh3 (by decide) rfl rfl rfl (leOint rfl) (leOint rfl) (leOint ?_), ⟨.same _ trivial, .tt, leOwn rfl rfl rfl, leI rfl, leOwn rfl rfl rfl, leI rfl, leOwn rfl rfl ?_, leI e1, trivial⟩⟩
    · rw [hss, hna]; rfl
    · show (nats (SF k)).length + 1 = k + 1
      rw [hnl, hkl]
  have f2 : ¬ (k : Int) < l.length := no c
  obtain rfl : k = l.length := by omega
  have eC : ((nats (SF l.length)).drop 0).take l.length = nats SL := by
    rw [List.drop_zero, List.take_of_length_le (by omega), hsn]
  have bC : 0 + l.length ≤ (nats (SF l.length)).length := by omega
  refine ⟨[], _, bC, own_cast eC (h3 f1), ?_⟩
  rintro r hh ⟨rfl, rfl⟩
  refine ⟨.inr ⟨trivial, fun o ho => by cases ho⟩, ?_⟩
  refine ⟨by omega, by omega, ?_⟩
  refine ⟨fun _ => ?_, fun e => absurd rfl (no e)⟩
  refine ⟨fun _ => ?_, fun e => absurd rfl (no e)⟩
  refine ⟨[], _, bC, own_cast eC (h4 f1), ?_⟩
  rintro r hh ⟨rfl, rfl⟩
  refine ⟨.inr ⟨trivial, fun o ho => by cases ho⟩, ?_⟩
  refine ⟨fun _ => ?_, fun e => absurd rfl (no e)⟩
  refine ⟨fun c3 => ?_, fun c3 => ?_⟩
  · exact ⟨[], [], .tt, lehN _, .tt, rfl, rfl⟩
  have f3 : E = 0 := Classical.byContradiction fun x => no c3 x
  exact ⟨[], [], .tt, lehN _, leTT (decide_eq_true (by have := k1 f1 f3; omega)), rfl, rfl⟩
end
end Go.Proofs.YtkchfbnkdpdbkaaDoor.Us
