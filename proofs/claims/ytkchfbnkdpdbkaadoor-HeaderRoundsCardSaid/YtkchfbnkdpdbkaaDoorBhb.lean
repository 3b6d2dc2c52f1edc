import Derived.Test.YtkchfbnkdpdbkaaDoorRows
import Derived.Test.YtkchfbnkdpdbkaaDoorFwD
import Derived.Laws.BitsLemmas
import Derived.Test.YtkchfbnkdpdbkaaDoorBha

/-
  The contract of the document's header.
-/
set_option linter.unusedVariables false
set_option linter.unusedSimpArgs false
set_option linter.unusedSectionVars false
namespace Go.Proofs.YtkchfbnkdpdbkaaDoor.Hd
open Go AL Oc Pa
section
variable [Globs]

theorem cat_ref (s : ByteArray) (n : Int) : ((((((((((((((((([] ++ textR (nameS s) 100) ++ putR 420 8) ++ putR 0 8) ++ putR 0 8) ++ putR n 12) ++ putR 0 12) ++ textR ⟨#[32, 32, 32, 32, 32, 32, 32, 32]⟩ 8) ++ textR flagS 1) ++ textR emp 100) ++ textR ustarS 6) ++ textR zzS 2) ++ textR emp 32) ++ textR emp 32) ++ putR 0 8) ++ putR 0 8) ++ textR (preS s) 155) ++ textR emp 12) = headB s n (textR ⟨#[32, 32, 32, 32, 32, 32, 32, 32]⟩ 8) := by
  unfold headB headZ headY headA
  simp only [List.append_assoc, List.nil_append]
def rowJ (B S : List Int) (j : Nat) : List Int := B.take 148 ++ S.take j ++ B.drop (148 + j)
theorem rowJ_len {B S : List Int} {j : Nat} (hb : B.length = 512) (hs : S.length = 8) (hj : j ≤ 8) : (rowJ B S j).length = 512 := by
  unfold rowJ
  simp only [List.length_append, List.length_take, List.length_drop]
  omega
theorem rowJ_set {B S : List Int} {j : Nat} (hb : B.length = 512) (hs : S.length = 8) (hj : j < 8) : (rowJ B S j).set (148 + j) (S.getD j 0) = rowJ B S (j + 1) := by
  unfold rowJ
  have e1 : (B.take 148 ++ S.take j).length = 148 + j := by simp only [List.length_append, List.length_take]; omega
  have e2 : B.drop (148 + j) = B[148 + j]'(by omega) :: B.drop (148 + j + 1) := List.drop_eq_getElem_cons (by omega)
  rw [List.set_append_right _ _ (by omega), e1, Nat.sub_self, e2, List.set_cons_zero]
  have e3 : S.take (j + 1) = S.take j ++ [S.getD j 0] := by
    rw [List.take_add_one, List.getD_eq_getElem?_getD, List.getElem?_eq_getElem (by omega)]; rfl
  rw [e3]
  simp [Nat.add_assoc]
theorem own_text7 (s : ByteArray) (w : Int) (hs : s.size ≤ 9223372036854775806) (hw : (textR s w).length ≤ 1000) (xs : List Int) (hx : xs.length ≤ 1000000) : ACalls Tryd.prog 45 [.roI .u8 ((xs.drop 0).take xs.length), str s, int .i64 w] []
    (fun r h => r = .own 0 0 (xs ++ textR s w).length 1 ∧ h = [.ints .u8 (xs ++ textR s w)]) := by
  rw [List.drop_zero, List.take_length]; exact text7_ref xs s w hs hx hw
theorem own_num7 (n w : Int) (hn : n < 9223372036854775808) (hw : (putR n w).length ≤ 1000) (xs : List Int) (hx : xs.length ≤ 1000000) : ACalls Tryd.prog 46 [.roI .u8 ((xs.drop 0).take xs.length), int .i64 n, int .i64 w] []
    (fun r h => r = .own 0 0 (xs ++ putR n w).length 1 ∧ h = [.ints .u8 (xs ++ putR n w)]) := by
  rw [List.drop_zero, List.take_length]; exact num7_ref xs n w hn hx hw

theorem nil_text7 (s : ByteArray) (w : Int) (hs : s.size ≤ 9223372036854775806) (hw : (textR s w).length ≤ 1000) : ACalls Tryd.prog 45 [.raw (.slice none 0 0), str s, int .i64 w] []
    (fun r h => r = .own 0 0 ([] ++ textR s w).length 1 ∧ h = [.ints .u8 ([] ++ textR s w)]) :=
  (text7_ref [] s w hs (by decide) hw).args ⟨vnil .u8, .refl _, .refl _, trivial⟩
theorem nil_num7 (n w : Int) (hn : n < 9223372036854775808) (hw : (putR n w).length ≤ 1000) : ACalls Tryd.prog 46 [.raw (.slice none 0 0), int .i64 n, int .i64 w] []
    (fun r h => r = .own 0 0 ([] ++ putR n w).length 1 ∧ h = [.ints .u8 ([] ++ putR n w)]) :=
  (num7_ref [] n w hn (by decide) hw).args ⟨vnil .u8, .refl _, .refl _, trivial⟩

set_option maxHeartbeats 4000000 in
set_option maxRecDepth 10000 in
theorem put_rhead (s : ByteArray) (n : Int) (hs : s.size ≤ 9223372036854775805) : ACalls Tryd.prog 22 [str s, int .i64 n] [] (HPutR s n) := by
  have hsp := split_ref s hs
  unfold SplitR at hsp
  have herr : ¬ okHd s n → headR s n = [] := fun h => if_neg h
  have hE : ¬ errS s = 0 → errS s = headE s n := fun h => by
    have : ¬ okSplit s := fun g => h (if_pos g)
    unfold errS headE; rw [if_neg this, if_pos this]
  have hO : errS s = 0 → okSplit s := fun h => Classical.byContradiction fun g => by unfold errS at h; rw [if_neg g] at h; omega
  have hover : errS s = 0 → (n < 0 ∨ n > 4194304) → headE s n = 8 := fun h g => by unfold headE; rw [if_neg fun x => x (hO h), if_pos g]
  have hgood : errS s = 0 → ¬ (n < 0 ∨ n > 4194304) → okHd s n := fun h g => ⟨hO h, by omega, by omega⟩
  have bad : ∀ h, ¬ okHd s n → ∀ e, e = headE s n → ∃ l h1 b, LeH 0 h l h1 ∧ LeV h l (.tup 2 fun i => [.raw (.slice none 0 0), int .i64 e].getD i .top) b ∧ HPutR s n b h1 := fun h g e he => by
    unfold HPutR; rw [herr g, he]
    exact ⟨[h.length], [.ints .u8 []], _, lehE (Nat.le_refl _) .u8, le_pair (.nil 0 1 (by simp)) (leI rfl), rfl, rfl⟩
  refine rcalls Tryd.func22 rfl (by decide) ?_
  refine ⟨[], _, hsp, ?_⟩
  rintro r hh ⟨rfl, rfl⟩
  refine ⟨.inl rfl, ?_⟩
  refine ⟨fun c1 => ?_, fun c1 => ?_⟩
  · exact bad _ (fun h => yes c1 (if_pos h.1)) _ (hE (yes c1))
  have f1 : errS s = 0 := Classical.byContradiction fun x => no c1 x
  refine ⟨fun c2 => ?_, fun c2 => ?_⟩
  · have f2 : n < 0 := yes c2
    exact bad _ (fun h => by have := h.2.1; omega) _ (hover f1 (.inl f2)).symm
  have f2 : ¬ n < 0 := no c2
  refine ⟨fun c3 => ?_, fun c3 => ?_⟩
  · have f3 : n > 4194304 := yes c3
    exact bad _ (fun h => by have := h.2.2; omega) _ (hover f1 (.inr f3)).symm
  have f3 : ¬ n > 4194304 := no c3
  have ok := hgood f1 (by omega)
  obtain ⟨e0, l0, e1, l1, e2, l2, e3, l3, e4, l4, e5, l5, e6, l6, e7, l7, e8, l8, e9, l9, e10, l10, e11, l11, e12, l12, e13, l13, e14, l14, e15, l15, e16, l16⟩ := flds ok
  obtain ⟨p1, p2⟩ := pre_size ok.1
  have m6 : (textR ⟨#[32, 32, 32, 32, 32, 32, 32, 32]⟩ 8).length = 8 := by decide +kernel
  have hcat := cat_ref s n
  have r6 := q_text ⟨#[32, 32, 32, 32, 32, 32, 32, 32]⟩ 8
  have hE0 : headE s n = 0 := headE_iff.2 ok
  have k0 := nil_text7 (nameS s) 100 (by omega) (by omega)
  have k1 := own_num7 420 8 (by omega) (by omega)
  have k2 := own_num7 0 8 (by omega) (by omega)
  have k3 := own_num7 0 8 (by omega) (by omega)
  have k4 := own_num7 n 12 (by omega) (by omega)
  have k5 := own_num7 0 12 (by omega) (by omega)
  have k6 := own_text7 ⟨#[32, 32, 32, 32, 32, 32, 32, 32]⟩ 8 (by decide) (by omega)
  have k7 := own_text7 flagS 1 (by decide) (by omega)
  have k8 := own_text7 emp 100 (by decide) (by omega)
  have k9 := own_text7 ustarS 6 (by decide) (by omega)
  have k10 := own_text7 zzS 2 (by decide) (by omega)
  have k11 := own_text7 emp 32 (by decide) (by omega)
  have k12 := own_text7 emp 32 (by decide) (by omega)
  have k13 := own_num7 0 8 (by omega) (by omega)
  have k14 := own_num7 0 8 (by omega) (by omega)
  have k15 := own_text7 (preS s) 155 (by omega) (by omega)
  have k16 := own_text7 emp 12 (by decide) (by omega)
  clear l6 e6
  have l6 := m6
  generalize textR (nameS s) 100 = F0 at *
  generalize putR 420 8 = F1 at *
  generalize putR 0 8 = F2 at *
  generalize putR n 12 = F4 at *
  generalize putR 0 12 = F5 at *
  generalize textR ⟨#[32, 32, 32, 32, 32, 32, 32, 32]⟩ 8 = F6 at *
  generalize textR flagS 1 = F7 at *
  generalize textR emp 100 = F8 at *
  generalize textR ustarS 6 = F9 at *
  generalize textR zzS 2 = F10 at *
  generalize textR emp 32 = F11 at *
  generalize textR (preS s) 155 = F15 at *
  generalize textR emp 12 = F16 at *
  refine ⟨[], _, k0, ?_⟩
  rintro r hh ⟨rfl, rfl⟩
  refine ⟨.inl rfl, ?_⟩
  refine ⟨[], _, by omega, k1 _ (by simp only [List.length_append, List.length_nil, l0, l1, l2, l4, l5, l6, l7, l8, l9, l10, l11, l15, l16]; decide), ?_⟩
  rintro r hh ⟨rfl, rfl⟩
  refine ⟨.inr ⟨trivial, fun o ho => by obtain rfl := List.mem_singleton.1 ho; trivial⟩, ?_⟩
  refine ⟨[], _, by omega, k2 _ (by simp only [List.length_append, List.length_nil, l0, l1, l2, l4, l5, l6, l7, l8, l9, l10, l11, l15, l16]; decide), ?_⟩
  rintro r hh ⟨rfl, rfl⟩
  refine ⟨.inr ⟨trivial, fun o ho => by obtain rfl := List.mem_singleton.1 ho; trivial⟩, ?_⟩
  refine ⟨[], _, by omega, k3 _ (by simp only [List.length_append, List.length_nil, l0, l1, l2, l4, l5, l6, l7, l8, l9, l10, l11, l15, l16]; decide), ?_⟩
  rintro r hh ⟨rfl, rfl⟩
  refine ⟨.inr ⟨trivial, fun o ho => by obtain rfl := List.mem_singleton.1 ho; trivial⟩, ?_⟩
  refine ⟨[], _, by omega, k4 _ (by simp only [List.length_append, List.length_nil, l0, l1, l2, l4, l5, l6, l7, l8, l9, l10, l11, l15, l16]; decide), ?_⟩
  rintro r hh ⟨rfl, rfl⟩
  refine ⟨.inr ⟨trivial, fun o ho => by obtain rfl := List.mem_singleton.1 ho; trivial⟩, ?_⟩
  refine ⟨[], _, by omega, k5 _ (by simp only [List.length_append, List.length_nil, l0, l1, l2, l4, l5, l6, l7, l8, l9, l10, l11, l15, l16]; decide), ?_⟩
  rintro r hh ⟨rfl, rfl⟩
  refine ⟨.inr ⟨trivial, fun o ho => by obtain rfl := List.mem_singleton.1 ho; trivial⟩, ?_⟩
  refine ⟨[], _, by omega, k6 _ (by simp only [List.length_append, List.length_nil, l0, l1, l2, l4, l5, l6, l7, l8, l9, l10, l11, l15, l16]; decide), ?_⟩
  rintro r hh ⟨rfl, rfl⟩
  refine ⟨.inr ⟨trivial, fun o ho => by obtain rfl := List.mem_singleton.1 ho; trivial⟩, ?_⟩
  refine ⟨[], _, by omega, k7 _ (by simp only [List.length_append, List.length_nil, l0, l1, l2, l4, l5, l6, l7, l8, l9, l10, l11, l15, l16]; decide), ?_⟩
  rintro r hh ⟨rfl, rfl⟩
  refine ⟨.inr ⟨trivial, fun o ho => by obtain rfl := List.mem_singleton.1 ho; trivial⟩, ?_⟩
  refine ⟨[], _, by omega, k8 _ (by simp only [List.length_append, List.length_nil, l0, l1, l2, l4, l5, l6, l7, l8, l9, l10, l11, l15, l16]; decide), ?_⟩
  rintro r hh ⟨rfl, rfl⟩
  refine ⟨.inr ⟨trivial, fun o ho => by obtain rfl := List.mem_singleton.1 ho; trivial⟩, ?_⟩
  refine ⟨[], _, by omega, k9 _ (by simp only [List.length_append, List.length_nil, l0, l1, l2, l4, l5, l6, l7, l8, l9, l10, l11, l15, l16]; decide), ?_⟩
  rintro r hh ⟨rfl, rfl⟩
  refine ⟨.inr ⟨trivial, fun o ho => by obtain rfl := List.mem_singleton.1 ho; trivial⟩, ?_⟩
  refine ⟨[], _, by omega, k10 _ (by simp only [List.length_append, List.length_nil, l0, l1, l2, l4, l5, l6, l7, l8, l9, l10, l11, l15, l16]; decide), ?_⟩
  rintro r hh ⟨rfl, rfl⟩
  refine ⟨.inr ⟨trivial, fun o ho => by obtain rfl := List.mem_singleton.1 ho; trivial⟩, ?_⟩
  refine ⟨[], _, by omega, k11 _ (by simp only [List.length_append, List.length_nil, l0, l1, l2, l4, l5, l6, l7, l8, l9, l10, l11, l15, l16]; decide), ?_⟩
  rintro r hh ⟨rfl, rfl⟩
  refine ⟨.inr ⟨trivial, fun o ho => by obtain rfl := List.mem_singleton.1 ho; trivial⟩, ?_⟩
  refine ⟨[], _, by omega, k12 _ (by simp only [List.length_append, List.length_nil, l0, l1, l2, l4, l5, l6, l7, l8, l9, l10, l11, l15, l16]; decide), ?_⟩
  rintro r hh ⟨rfl, rfl⟩
  refine ⟨.inr ⟨trivial, fun o ho => by obtain rfl := List.mem_singleton.1 ho; trivial⟩, ?_⟩
  refine ⟨[], _, by omega, k13 _ (by simp only [List.length_append, List.length_nil, l0, l1, l2, l4, l5, l6, l7, l8, l9, l10, l11, l15, l16]; decide), ?_⟩
  rintro r hh ⟨rfl, rfl⟩
  refine ⟨.inr ⟨trivial, fun o ho => by obtain rfl := List.mem_singleton.1 ho; trivial⟩, ?_⟩
  refine ⟨[], _, by omega, k14 _ (by simp only [List.length_append, List.length_nil, l0, l1, l2, l4, l5, l6, l7, l8, l9, l10, l11, l15, l16]; decide), ?_⟩
  rintro r hh ⟨rfl, rfl⟩
  refine ⟨.inr ⟨trivial, fun o ho => by obtain rfl := List.mem_singleton.1 ho; trivial⟩, ?_⟩
  refine ⟨[], _, by omega, k15 _ (by simp only [List.length_append, List.length_nil, l0, l1, l2, l4, l5, l6, l7, l8, l9, l10, l11, l15, l16]; decide), ?_⟩
  rintro r hh ⟨rfl, rfl⟩
  refine ⟨.inr ⟨trivial, fun o ho => by obtain rfl := List.mem_singleton.1 ho; trivial⟩, ?_⟩
  refine ⟨[], _, by omega, k16 _ (by simp only [List.length_append, List.length_nil, l0, l1, l2, l4, l5, l6, l7, l8, l9, l10, l11, l15, l16]; decide), ?_⟩
  rintro r hh ⟨rfl, rfl⟩
  refine ⟨.inr ⟨trivial, fun o ho => by obtain rfl := List.mem_singleton.1 ho; trivial⟩, ?_⟩
  rw [hcat]
  have lB := b_len (s := s) (n := n) (m := F6) ok l6
  have rB := b_range (s := s) (n := n) (m := F6) r6
  have cB : chk (headB s n F6) (headB s n F6).length = headS s n := by
    rw [lB]; exact chk_congr fun i _ => head_get ok l6 (by simp) i
  have fB : headR s n = (headB s n F6).take 148 ++ sumF s n ++ (headB s n F6).drop 156 := head_new ok l6
  have hsum := sum_len ok
  have hZ := s_range ok
  have lQ : (putR (headS s n) 7).length = 7 := by have := hsum.2; unfold sumF at this; rw [List.length_append] at this; simpa using this
  have hput := nil_num7 (headS s n) 7 (by omega) (by omega)
  have hchk := check_ref (headB s n F6) rB (by rw [lB]; decide)
  unfold sumF at fB
  rw [cB] at hchk
  clear hcat k0 k1 k2 k3 k4 k5 k6 k7 k8 k9 k10 k11 k12 k13 k14 k15 k16 cB hsum
  unfold HPutR
  rw [hE0]
  generalize headB s n F6 = B at *
  generalize headS s n = Z at *
  generalize putR Z 7 = Q at *
  have hchk2 : ACalls Tryd.prog 25 [.roI .u8 ((B.drop 0).take B.length)] [] (fun r h => r = int .i64 Z ∧ h = []) := by rw [List.drop_zero, List.take_length]; exact hchk
  refine ⟨[], _, by omega, hchk2, ?_⟩
  rintro r hh ⟨rfl, rfl⟩
  refine ⟨.inr ⟨trivial, fun o ho => by cases ho⟩, ?_⟩
  refine ⟨[], _, hput, ?_⟩
  rintro r hh ⟨rfl, rfl⟩
  refine ⟨.inl rfl, ?_⟩
  refine ⟨rfl, by simp, by show (([] ++ Q).length + _) * 1 ≤ _; simp [lQ], ?_⟩
  obtain ⟨SS, hSS⟩ : ∃ SS, SS = Q ++ [(32 : Int)] := ⟨_, rfl⟩
  have lS : SS.length = 8 := by rw [hSS]; simp [lQ]
  refine ⟨Nat, fun j => [(9, .own 0 0 512 1), (10, .own 1 0 8 1), (11, int .i64 j)], fun j => [.ints .u8 (rowJ B SS j), .ints .u8 SS], fun j => j ≤ 8, fun j => 8 - j,
    ⟨0, [16, 19], by omega, leh2 (by decide) rfl rfl (leOint ?_) (leOint ?_), ⟨leOwn rfl rfl ?_, leOwn rfl rfl ?_, leI rfl, trivial⟩⟩, fun j hj => ?_⟩
  · unfold rowJ; rw [List.take_zero, List.append_nil]; exact (List.take_append_drop 148 B).symm
  · rw [hSS]; rfl
  · rw [lB]
  · show ([] ++ Q).length + 1 = 8; simp [lQ]
  have hj : j ≤ 8 := hj
  have hrl := rowJ_len lB lS hj
  refine ⟨fun c4 => ?_, fun c4 => ?_⟩
  · have f4 : (j : Int) < 8 := yes c4
    have e1 : IntKind.i64.wrap ((j : Int) + 1) = ((j + 1 : Nat) : Int) := by rw [w64 (by omega) (by omega)]; omega
    have e2 : IntKind.i64.wrap (148 + (j : Int)) = ((148 + j : Nat) : Int) := by rw [w64 (by omega) (by omega)]; omega
    refine ⟨⟨by omega, by omega⟩, ?_⟩
    have a1 : addOff 0 (j : Int).toNat 1 = j := by unfold addOff; omega
    have a2 : addOff 0 (IntKind.i64.wrap (148 + (j : Int))).toNat 1 = 148 + j := by rw [e2]; unfold addOff; omega
    refine ⟨by rw [a1]; omega, ?_⟩
    refine ⟨⟨by omega, by omega⟩, ?_⟩
    refine ⟨by rw [a2]; omega, ?_⟩
    refine ⟨trivial, j + 1, [0, 1], by show j + 1 ≤ 8; omega, by show 8 - (j + 1) < 8 - j; omega, leh2 (by decide) rfl rfl (leOint ?_) (leOint rfl), ⟨leOwn rfl rfl rfl, leOwn rfl rfl rfl, leI e1, trivial⟩⟩
    rw [a1, a2]; exact rowJ_set lB lS (by omega)
  · have f4 : ¬ (j : Int) < 8 := no c4
    obtain rfl : j = 8 := by omega
    refine ⟨[0], [.ints .u8 (headR s n)], .tup 2 (pair (.own 0 0 (headR s n).length 1) (int .i64 0)), leh1 rfl (leOint ?_), le_pair (leOwn rfl rfl ?_) (leI rfl), rfl, rfl⟩
    · rw [fB, ← hSS]; unfold rowJ; rw [List.take_of_length_le (l := SS) (by omega)]
    · rw [head_len ok]
end
end Go.Proofs.YtkchfbnkdpdbkaaDoor.Hd

/-
  The contract of the reference of octal.Get.
-/
set_option linter.unusedVariables false
set_option linter.unusedSectionVars false
namespace Go.Proofs.YtkchfbnkdpdbkaaDoor.Oc
open Go AL
section
variable [Globs]

set_option maxHeartbeats 1000000 in
set_option maxRecDepth 10000 in
theorem get_ref (xs : List Int) (hx : ∀ x ∈ xs, 0 ≤ x ∧ x < 256) (hl : xs.length ≤ 9223372036854775807) : ACalls Tryd.prog 52 [.roI .u8 xs] [] (GetR xs) := by
  refine rcalls Tryd.func52 rfl (by decide) ?_
  have bad : ∀ h, ¬ valid xs → ∃ l h1 b, LeH 0 h l h1 ∧ LeV h l (.tup 2 fun i => [int .i64 0, int .i64 2].getD i .top) b ∧ GetR xs b h1 := fun h hv =>
    ⟨[], [], _, lehN _, le_pair (leI (get_no hv).1.symm) (leI (get_no hv).2.symm), rfl, rfl⟩
  -- behind the loop
  have back : ∀ k : Nat, k ≤ 12 → (xs.length - 1 ≤ k ∨ k = 12) → (k + 1 ≤ xs.length ∨ k = 0) → putE (acr xs k) xs.length = 0 → putR (acr xs k) xs.length = xs → valid xs ∧ acr xs k = acc xs (xs.length - 1) := fun k hk1 hk2 hk3 he hr => by
    have hf := put_field he
    rw [hr] at hf
    refine ⟨hf.2.1, ?_⟩
    have hkl : k = xs.length - 1 := by have := hf.2.1.1; have := hf.2.1.2.1; omega
    subst hkl
    exact hf.2.2.symm
  have forth : ∀ k : Nat, k ≤ 12 → (xs.length - 1 ≤ k ∨ k = 12) → (k + 1 ≤ xs.length ∨ k = 0) → valid xs → putE (acr xs k) xs.length = 0 ∧ putR (acr xs k) xs.length = xs ∧ acr xs k = getV xs := fun k hk1 hk2 hk3 hv => by
    have hkl : k = xs.length - 1 := by have := hv.1; have := hv.2.1; omega
    subst hkl
    have := put_back hv
    rw [acr_eq hv.2.2.2]
    exact ⟨this.1, this.2, (get_ok hv).1.symm⟩
  refine ⟨Nat, fun k => [(0, .roI .u8 xs), (4, int .i64 (acr xs k)), (5, int .i64 k)], fun _ => [], fun k => k ≤ 12 ∧ (k + 1 ≤ xs.length ∨ k = 0), fun k => 12 - k,
    ⟨0, [], ⟨by omega, .inr rfl⟩, leh0, ⟨leRo rfl, leI rfl, leI rfl, trivial⟩⟩, fun k hk => ?_⟩
  obtain ⟨hk12, hk⟩ := hk
  have hr := acr_range hx k
  have hp := pow8_mono hk12
  have e1 : IntKind.i64.wrap ((k : Int) + 1) = (k : Int) + 1 := w64 (by omega) (by omega)
  refine ⟨fun h => ⟨fun h1 => ?_, fun h1 => ?_⟩, fun h => ?_⟩
  · have f1 := yes h
    have f2 := yes h1
    rw [e1] at f1
    refine ⟨⟨by omega, by omega⟩, by decide, ?_⟩
    have hb := byteAt hx k
    have e2 : (xs.getD (k : Int).toNat 0).tmod 8 = xs.getD k 0 % 8 := Int.tmod_eq_emod_of_nonneg hb.1
    have hp2 := pow8_mono (show k ≤ 11 by omega)
    refine ⟨trivial, k + 1, [], ⟨by omega, by omega⟩, by show 12 - (k + 1) < 12 - k; omega, leh0, ⟨leRo rfl, leI ?_, leI e1, trivial⟩⟩
    rw [e2, w64 (n := 8 * acr xs k) (by omega) (by omega), w64 (n := xs.getD k 0 % 8) (by omega) (by omega), w64 (by omega) (by omega)]
    rfl
  all_goals
    have hk2 : xs.length - 1 ≤ k ∨ k = 12 := by
      first
        | (have := no h1; omega)
        | (have := no h; rw [e1] at this; omega)
    refine ⟨[], PutR (acr xs k) xs.length, put_ref _ _ (by omega), ?_⟩
    rintro r h' ⟨rfl, rfl⟩
    refine ⟨.inl rfl, ?_⟩
    refine ⟨fun h2 => bad _ fun hv => ?_, fun h2 => ⟨fun h3 => bad _ fun hv => ?_, fun h3 => ?_⟩⟩
    · exact yes h2 (forth k hk12 hk2 hk hv).1
    · exact yes h3 (by rw [(forth k hk12 hk2 hk hv).2.1])
    · have g1 : putE (acr xs k) xs.length = 0 := by simpa using no h2
      have g2 : bytesOf (putR (acr xs k) xs.length) = bytesOf xs := by simpa using no h3
      have g3 := back k hk12 hk2 hk g1 (bytesOf_inj (putR_range _ _) hx g2)
      exact ⟨[], [], _, lehN _, le_pair (leI (g3.2.trans (get_ok g3.1).1.symm)) (leI (get_ok g3.1).2.symm), rfl, rfl⟩

end

end Go.Proofs.YtkchfbnkdpdbkaaDoor.Oc

/-
  The contracts of header.Get and of the document's.
-/
set_option linter.unusedVariables false
set_option linter.unusedSectionVars false
namespace Go.Proofs.YtkchfbnkdpdbkaaDoor.Hd
open Go AL Oc Pa
section
variable [Globs]

theorem bytes_eq {xs ys : List Int} (hx : ∀ x ∈ xs, 0 ≤ x ∧ x < 256) (hy : ∀ x ∈ ys, 0 ≤ x ∧ x < 256) : bytesOf xs = bytesOf ys ↔ xs = ys := by
  constructor
  · intro h
    rw [← intsOf_bytesOf hx, ← intsOf_bytesOf hy, h]
  · intro h; rw [h]
theorem bytesOf_len (xs : List Int) : (bytesOf xs).size = xs.length := by simp [bytesOf, ByteArray.size]
theorem name_size (xs : List Int) : (nameR xs).size ≤ xs.length := by
  unfold nameR
  split
  · rw [bytesOf_len, List.length_take]; omega
  · exact Nat.zero_le _
theorem field_range {b : List Int} (hb : ∀ x ∈ b, 0 ≤ x ∧ x < 256) (i j : Nat) : ∀ x ∈ (b.take i).drop j, 0 ≤ x ∧ x < 256 := fun x hx => hb x (List.mem_of_mem_take (List.mem_of_mem_drop hx))
theorem field_len (b : List Int) (i j : Nat) : ((b.take i).drop j).length ≤ i := by
  rw [List.length_drop, List.length_take]; omega
theorem get_fields {b : List Int} (h : okGet b) : nameE (fName b) = 0 ∧ nameE (fPre b) = 0 ∧ Oc.getE (fSize b) = 0 ∧ joinE (nameR (fPre b)) (nameR (fName b)) = 0 := by
  obtain ⟨h1, h2⟩ := h
  obtain ⟨a1, a2, a3, a4, a5, a6, a7⟩ := head_back h1
  rw [h2] at a1 a2 a3 a4 a5
  refine ⟨a1, a3, a5, ?_⟩
  rw [a2, a4]
  exact (okJoin_split h1.1).2.2
theorem get_iff {b : List Int} : okGet b ↔ headE (fS b) (fN b) = 0 ∧ headR (fS b) (fN b) = b := by
  unfold okGet; rw [headE_iff]

set_option maxRecDepth 10000 in
theorem equal_prog (xs ys : List Int) (hx : ∀ x ∈ xs, 0 ≤ x ∧ x < 256) (hy : ∀ x ∈ ys, 0 ≤ x ∧ x < 256) : ACalls Tryd.prog 50 [.roI .u8 xs, .roI .u8 ys] [] (fun r h => r = bool (decide (xs = ys)) ∧ h = []) := by
  refine rcalls Tryd.func50 rfl (by decide) ?_
  exact ⟨[], [], _, leh0, leP (bytes_eq hx hy), rfl, rfl⟩

def HGetR (b : List Int) (r : AV) (h : List AO) : Prop := r = .tup 3 (triple (str (getS b)) (int .i64 (getN b)) (int .i64 (getEr b))) ∧ h = []


set_option maxHeartbeats 4000000 in
set_option maxRecDepth 10000 in
theorem hget_prog (b : List Int) (hb : ∀ x ∈ b, 0 ≤ x ∧ x < 256) (hl : b.length ≤ 281474976710656) : ACalls Tryd.prog 23 [.roI .u8 b] [] (HGetR b) := by
  have hbad : ∀ (X : List AO), ¬ okGet b → ¬ b.length < 512 → ∃ l h1 r, LeH 0 X l h1 ∧ LeV X l (.tup 3 fun i => [str ⟨#[]⟩, int .i64 0, int .i64 2].getD i .top) r ∧ HGetR b r h1 := fun X h g => by
    have e1 : getS b = ByteArray.empty := by unfold getS; rw [if_neg h]
    have e2 : getN b = 0 := by unfold getN; rw [if_neg h]
    have e3 : getEr b = 2 := by unfold getEr; rw [if_neg g, if_neg h]
    unfold HGetR
    rw [e1, e2, e3]
    exact ⟨[], [], _, lehN _, le_triple (leS rfl) (leI rfl) (leI rfl), rfl, rfl⟩
  have hshort : b.length < 512 → getS b = ByteArray.empty ∧ getN b = 0 ∧ getEr b = 3 := fun h => by
    have := get_len h
    exact ⟨(get_no (by rw [this]; decide)).1, (get_no (by rw [this]; decide)).2, this⟩
  have hok : okGet b → ¬ b.length < 512 → getS b = fS b ∧ getN b = fN b ∧ getEr b = 0 := fun h g => by
    unfold getS getN getEr
    rw [if_pos h, if_pos h, if_neg g, if_pos h]; exact ⟨rfl, rfl, rfl⟩
  have z1 := name_size (fName b)
  have z2 := name_size (fPre b)
  have y1 : (fName b).length ≤ 100 := by unfold fName; rw [List.length_take]; omega
  have y2 : (fPre b).length ≤ 500 := field_len b 500 345
  have y3 : (fSize b).length ≤ 136 := field_len b 136 124
  have x1 : ∀ x ∈ fName b, 0 ≤ x ∧ x < 256 := fun x hx => hb x (List.mem_of_mem_take hx)
  have x2 : ∀ x ∈ fPre b, 0 ≤ x ∧ x < 256 := field_range hb 500 345
  have x3 : ∀ x ∈ fSize b, 0 ≤ x ∧ x < 256 := field_range hb 136 124
  have hsz : (fS b).size ≤ 9223372036854775805 := by
    show (joinS _ _).size ≤ _
    unfold joinS
    split
    · unfold joinT
      split
      · omega
      · rw [ByteArray.size_append, ByteArray.size_append]; show (nameR (fPre b)).size + 1 + (nameR (fName b)).size ≤ _; omega
    · exact Nat.zero_le _
  have c1 := name_prog (fName b) x1 (by omega)
  have c2 := name_prog (fPre b) x2 (by omega)
  have c3 := get_prog (fSize b) x3 (by omega)
  have c4 := join_path (nameR (fPre b)) (nameR (fName b)) (by omega) (by omega)
  have c5 := put_head (fS b) (fN b) hsz
  have hr := head_range (fS b) (fN b)
  have c6 := equal_prog (headR (fS b) (fN b)) b hr hb
  have hf := fun h : okGet b => get_fields h
  have hi := get_iff (b := b)
  unfold NameR at c1 c2
  unfold GetR at c3
  unfold JoinR at c4
  unfold HPutR at c5
  have eS : joinS (nameR (fPre b)) (nameR (fName b)) = fS b := rfl
  have eN : Oc.getV (fSize b) = fN b := rfl
  rw [eS] at c4
  rw [eN] at c3
  have c1 : ACalls Tryd.prog 47 [.roI .u8 ((b.take 100).drop 0)] [] _ := c1
  have c2 : ACalls Tryd.prog 47 [.roI .u8 ((b.take 500).drop 345)] [] _ := c2
  have c3 : ACalls Tryd.prog 48 [.roI .u8 ((b.take 136).drop 124)] [] _ := c3
  generalize fS b = S at *
  generalize fN b = M at *
  generalize joinE (nameR (fPre b)) (nameR (fName b)) = JE at *
  generalize nameR (fPre b) = N2 at *
  generalize nameR (fName b) = N1 at *
  generalize nameE (fName b) = E1 at *
  generalize nameE (fPre b) = E2 at *
  generalize Oc.getE (fSize b) = E3 at *
  generalize headR S M = HR at *
  generalize headE S M = HE at *
  refine rcalls Tryd.func23 rfl (by decide) ?_
  refine ⟨fun g1 => ?_, fun g1 => ?_⟩
  · have f1 : b.length < 512 := by have := yes g1; omega
    obtain ⟨q1, q2, q3⟩ := hshort f1
    unfold HGetR
    rw [q1, q2, q3]
    exact ⟨[], [], _, leh0, le_triple (leS rfl) (leI rfl) (leI rfl), rfl, rfl⟩
  have f1 : ¬ b.length < 512 := by have := no g1; omega
  refine ⟨⟨by omega, by omega⟩, ?_⟩
  refine ⟨[], _, c1, ?_⟩
  rintro r hh ⟨rfl, rfl⟩
  refine ⟨.inl rfl, ?_⟩
  refine ⟨⟨by omega, by omega⟩, ⟨by omega, by omega⟩, ?_⟩
  refine ⟨[], _, c2, ?_⟩
  rintro r hh ⟨rfl, rfl⟩
  refine ⟨.inl rfl, ?_⟩
  refine ⟨⟨by omega, by omega⟩, ⟨by omega, by omega⟩, ?_⟩
  refine ⟨[], _, c3, ?_⟩
  rintro r hh ⟨rfl, rfl⟩
  refine ⟨.inl rfl, ?_⟩
  refine ⟨[], _, c4, ?_⟩
  rintro r hh ⟨rfl, rfl⟩
  refine ⟨.inl rfl, ?_⟩
  refine ⟨fun g2 => ?_, fun g2 => ?_⟩
  · exact hbad _ (fun h => yes g2 (hf h).1) f1
  refine ⟨fun g3 => ?_, fun g3 => ?_⟩
  · exact hbad _ (fun h => yes g3 (hf h).2.1) f1
  refine ⟨fun g4 => ?_, fun g4 => ?_⟩
  · exact hbad _ (fun h => yes g4 (hf h).2.2.1) f1
  refine ⟨fun g5 => ?_, fun g5 => ?_⟩
  · exact hbad _ (fun h => yes g5 (hf h).2.2.2) f1
  refine ⟨[], _, c5, ?_⟩
  rintro r hh ⟨rfl, rfl⟩
  refine ⟨.inl rfl, ?_⟩
  refine ⟨fun g6 => ?_, fun g6 => ?_⟩
  · exact hbad _ (fun h => yes g6 (hi.1 h).1) f1
  have f6 : HE = 0 := Classical.byContradiction fun x => no g6 x
  have c7 : ACalls Tryd.prog 50 [.roI .u8 ((HR.drop 0).take HR.length), .roI .u8 b] [] (fun r h => r = bool (decide (HR = b)) ∧ h = []) := by rw [List.drop_zero, List.take_length]; exact c6
  refine ⟨[], _, by omega, c7, ?_⟩
  rintro r hh ⟨rfl, rfl⟩
  refine ⟨.inr ⟨trivial, fun o ho => by cases ho⟩, ?_⟩
  refine ⟨fun g7 => ?_, fun g7 => ?_⟩
  · have f7 : ¬ HR = b := fun x => by rw [decide_eq_true x] at g7; cases g7
    exact hbad _ (fun h => f7 (hi.1 h).2) f1
  have f7 : HR = b := Classical.byContradiction fun x => by rw [decide_eq_false x] at g7; cases g7
  obtain ⟨q1, q2, q3⟩ := hok (hi.2 ⟨f6, f7⟩) f1
  unfold HGetR
  rw [q1, q2, q3]
  exact ⟨[], [], _, lehN _, le_triple (leS rfl) (leI rfl) (leI rfl), rfl, rfl⟩

set_option maxHeartbeats 4000000 in
set_option maxRecDepth 10000 in
theorem hget_ref (b : List Int) (hb : ∀ x ∈ b, 0 ≤ x ∧ x < 256) (hl : b.length ≤ 281474976710656) : ACalls Tryd.prog 24 [.roI .u8 b] [] (HGetR b) := by
  have hbad : ∀ (X : List AO), ¬ okGet b → ¬ b.length < 512 → ∃ l h1 r, LeH 0 X l h1 ∧ LeV X l (.tup 3 fun i => [str ⟨#[]⟩, int .i64 0, int .i64 2].getD i .top) r ∧ HGetR b r h1 := fun X h g => by
    have e1 : getS b = ByteArray.empty := by unfold getS; rw [if_neg h]
    have e2 : getN b = 0 := by unfold getN; rw [if_neg h]
    have e3 : getEr b = 2 := by unfold getEr; rw [if_neg g, if_neg h]
    unfold HGetR
    rw [e1, e2, e3]
    exact ⟨[], [], _, lehN _, le_triple (leS rfl) (leI rfl) (leI rfl), rfl, rfl⟩
  have hshort : b.length < 512 → getS b = ByteArray.empty ∧ getN b = 0 ∧ getEr b = 3 := fun h => by
    have := get_len h
    exact ⟨(get_no (by rw [this]; decide)).1, (get_no (by rw [this]; decide)).2, this⟩
  have hok : okGet b → ¬ b.length < 512 → getS b = fS b ∧ getN b = fN b ∧ getEr b = 0 := fun h g => by
    unfold getS getN getEr
    rw [if_pos h, if_pos h, if_neg g, if_pos h]; exact ⟨rfl, rfl, rfl⟩
  have z1 := name_size (fName b)
  have z2 := name_size (fPre b)
  have y1 : (fName b).length ≤ 100 := by unfold fName; rw [List.length_take]; omega
  have y2 : (fPre b).length ≤ 500 := field_len b 500 345
  have y3 : (fSize b).length ≤ 136 := field_len b 136 124
  have x1 : ∀ x ∈ fName b, 0 ≤ x ∧ x < 256 := fun x hx => hb x (List.mem_of_mem_take hx)
  have x2 : ∀ x ∈ fPre b, 0 ≤ x ∧ x < 256 := field_range hb 500 345
  have x3 : ∀ x ∈ fSize b, 0 ≤ x ∧ x < 256 := field_range hb 136 124
  have hsz : (fS b).size ≤ 9223372036854775805 := by
    show (joinS _ _).size ≤ _
    unfold joinS
    split
    · unfold joinT
      split
      · omega
      · rw [ByteArray.size_append, ByteArray.size_append]; show (nameR (fPre b)).size + 1 + (nameR (fName b)).size ≤ _; omega
    · exact Nat.zero_le _
  have c1 := name_ref (fName b) x1 (by omega)
  have c2 := name_ref (fPre b) x2 (by omega)
  have c3 := get_ref (fSize b) x3 (by omega)
  have c4 := join_ref (nameR (fPre b)) (nameR (fName b)) (by omega) (by omega)
  have c5 := put_rhead (fS b) (fN b) hsz
  have hr := head_range (fS b) (fN b)
  have c6 := bytes_eq hr hb
  have hf := fun h : okGet b => get_fields h
  have hi := get_iff (b := b)
  unfold NameR at c1 c2
  unfold GetR at c3
  unfold JoinR at c4
  unfold HPutR at c5
  have eS : joinS (nameR (fPre b)) (nameR (fName b)) = fS b := rfl
  have eN : Oc.getV (fSize b) = fN b := rfl
  rw [eS] at c4
  rw [eN] at c3
  have c1 : ACalls Tryd.prog 51 [.roI .u8 ((b.take 100).drop 0)] [] _ := c1
  have c2 : ACalls Tryd.prog 51 [.roI .u8 ((b.take 500).drop 345)] [] _ := c2
  have c3 : ACalls Tryd.prog 52 [.roI .u8 ((b.take 136).drop 124)] [] _ := c3
  generalize fS b = S at *
  generalize fN b = M at *
  generalize joinE (nameR (fPre b)) (nameR (fName b)) = JE at *
  generalize nameR (fPre b) = N2 at *
  generalize nameR (fName b) = N1 at *
  generalize nameE (fName b) = E1 at *
  generalize nameE (fPre b) = E2 at *
  generalize Oc.getE (fSize b) = E3 at *
  generalize headR S M = HR at *
  generalize headE S M = HE at *
  refine rcalls Tryd.func24 rfl (by decide) ?_
  refine ⟨fun g1 => ?_, fun g1 => ?_⟩
  · have f1 : b.length < 512 := by have := yes g1; omega
    obtain ⟨q1, q2, q3⟩ := hshort f1
    unfold HGetR
    rw [q1, q2, q3]
    exact ⟨[], [], _, leh0, le_triple (leS rfl) (leI rfl) (leI rfl), rfl, rfl⟩
  have f1 : ¬ b.length < 512 := by have := no g1; omega
  refine ⟨⟨by omega, by omega⟩, ?_⟩
  refine ⟨[], _, c1, ?_⟩
  rintro r hh ⟨rfl, rfl⟩
  refine ⟨.inl rfl, ?_⟩
  refine ⟨⟨by omega, by omega⟩, ⟨by omega, by omega⟩, ?_⟩
  refine ⟨[], _, c2, ?_⟩
  rintro r hh ⟨rfl, rfl⟩
  refine ⟨.inl rfl, ?_⟩
  refine ⟨⟨by omega, by omega⟩, ⟨by omega, by omega⟩, ?_⟩
  refine ⟨[], _, c3, ?_⟩
  rintro r hh ⟨rfl, rfl⟩
  refine ⟨.inl rfl, ?_⟩
  refine ⟨[], _, c4, ?_⟩
  rintro r hh ⟨rfl, rfl⟩
  refine ⟨.inl rfl, ?_⟩
  refine ⟨fun g5 => ?_, fun g5 => ?_⟩
  · exact hbad _ (fun h => yes g5 (hf h).2.2.2) f1
  refine ⟨[], _, c5, ?_⟩
  rintro r hh ⟨rfl, rfl⟩
  refine ⟨.inl rfl, ?_⟩
  refine ⟨fun g6 => ?_, fun g6 => ?_⟩
  · exact hbad _ (fun h => yes g6 (hi.1 h).1) f1
  have f6 : HE = 0 := Classical.byContradiction fun x => no g6 x
  refine ⟨by omega, ?_⟩
  have c7 : bytesOf (List.take HR.length (List.drop 0 HR)) = bytesOf b ↔ HR = b := by rw [List.drop_zero, List.take_length]; exact c6
  refine ⟨fun g7 => ?_, fun g7 => ?_⟩
  · have f7 : ¬ HR = b := fun x => yes g7 (c7.2 x)
    exact hbad _ (fun h => f7 (hi.1 h).2) f1
  have f7 : HR = b := c7.1 (Classical.byContradiction fun x => no g7 x)
  obtain ⟨q1, q2, q3⟩ := hok (hi.2 ⟨f6, f7⟩) f1
  unfold HGetR
  rw [q1, q2, q3]
  exact ⟨[], [], _, lehN _, le_triple (leS rfl) (leI rfl) (leI rfl), rfl, rfl⟩

end
end Go.Proofs.YtkchfbnkdpdbkaaDoor.Hd

/-
  The laws of header, walked.
-/
set_option linter.unusedVariables false
set_option linter.unusedSectionVars false
namespace Go.Proofs.YtkchfbnkdpdbkaaDoor.Hd
open Go AL Oc Pa Spl
section
variable [Globs]

def oneA : ByteArray := ⟨#[97]⟩
theorem okA : okHd oneA 3 := by
  refine ⟨⟨?_, by decide, .inl (by decide)⟩, by decide, by decide⟩
  intro p hp
  have : p = [97] := by
    have : pieces 47 oneA.data.toList = [[97]] := by decide +kernel
    rw [this] at hp
    simpa using hp
  subst this
  decide +kernel
theorem own_take {k : IntKind} {f : Nat} {xs : List Int} {R : AV → List AO → Prop} {tl : List AV} (h : ACalls Tryd.prog f (.roI k xs :: tl) [] R) : ACalls Tryd.prog f (.roI k ((xs.drop 0).take xs.length) :: tl) [] R := by
  rw [List.drop_zero, List.take_length]; exact h

set_option maxHeartbeats 2000000 in
set_option maxRecDepth 10000 in
theorem hd_awake : ACalls Tryd.prog 20 [] [] (fun r h => r = .tt ∧ h = []) := by
  have h1 := put_head oneA 3 (by decide)
  have h2 := hget_prog (headR oneA 3) (head_range _ _) (by rw [head_len okA]; decide)
  obtain ⟨g1, g2, g3, g4⟩ := get_head okA
  have e0 : headE oneA 3 = 0 := headE_iff.2 okA
  have hl := head_len okA
  have s1 : (headR oneA 3).getD 0 0 = 97 := by
    have := head_name okA
    have h : (headR oneA 3).getD 0 0 = ((headR oneA 3).take 100).getD 0 0 := by simp [List.getD_eq_getElem?_getD]
    rw [h, this]
    decide +kernel
  have s2 : bytesOf (((headR oneA 3).take 136).drop 124) = ⟨#[48, 48, 48, 48, 48, 48, 48, 48, 48, 48, 51, 0]⟩ := by
    rw [head_size okA]; decide +kernel
  have s3 : bytesOf (((headR oneA 3).take 263).drop 257) = ⟨#[117, 115, 116, 97, 114, 0]⟩ := by
    have e1 := a_len okA
    have e2 := (sum_len okA).2
    have : headR oneA 3 = (headA oneA 3 ++ sumF oneA 3 ++ textR flagS 1 ++ textR emp 100) ++ textR ustarS 6 ++ (textR zzS 2 ++ textR emp 32 ++ textR emp 32 ++ putR 0 8 ++ putR 0 8 ++ textR (preS oneA) 155 ++ textR emp 12) := by
      unfold headR headB headZ headY
      rw [if_pos okA]
      simp only [List.append_assoc]
    have e3 : (textR flagS 1).length = 1 ∧ (textR emp 100).length = 100 ∧ (textR ustarS 6).length = 6 := by decide +kernel
    rw [this, mid (a := 257) (c := 6) (by simp only [List.length_append]; omega) e3.2.2]
    decide +kernel
  unfold HPutR at h1
  unfold HGetR at h2
  rw [g2, g3, g4] at h2
  rw [e0] at h1
  have h2 := own_take h2
  rw [List.drop_take] at s2 s3
  generalize headR oneA 3 = B at *
  refine rcalls Tryd.func20 rfl (by decide) ?_
  refine ⟨[], _, h1, ?_⟩
  rintro r hh ⟨rfl, rfl⟩
  refine ⟨.inl rfl, ?_⟩
  refine ⟨fun g => absurd (yes g) (by rw [hl]; decide), fun _ => ?_⟩
  refine ⟨[], _, by omega, h2, ?_⟩
  rintro r hh ⟨rfl, rfl⟩
  refine ⟨.inr ⟨fun i hi => ?_, fun o ho => by cases ho⟩, ?_⟩
  · match i, hi with
    | 0, _ => trivial
    | 1, _ => trivial
    | 2, _ => trivial
  refine ⟨fun _ => ?_, fun e => absurd rfl (no e)⟩
  refine ⟨⟨by omega, by omega⟩, ?_⟩
  refine ⟨by show 0 < B.length; omega, ?_⟩
  refine ⟨fun _ => ?_, fun e => absurd s1 (no e)⟩
  refine ⟨⟨by omega, by omega⟩, ⟨by omega, by omega⟩, ?_⟩
  refine ⟨by show addOff 0 124 1 + 12 ≤ B.length; unfold addOff; omega, ?_⟩
  refine ⟨fun _ => ?_, fun e => absurd s2 (no e)⟩
  refine ⟨⟨by omega, by omega⟩, ⟨by omega, by omega⟩, ?_⟩
  refine ⟨by show addOff 0 257 1 + 6 ≤ B.length; unfold addOff; omega, ?_⟩
  refine ⟨fun _ => ?_, fun e => absurd s3 (no e)⟩
  refine ⟨fun _ => ?_, fun e => absurd rfl (no e)⟩
  refine ⟨fun _ => ?_, fun e => absurd rfl (no e)⟩
  exact ⟨[], [], .tt, lehN _, leTT (decide_eq_true rfl), rfl, rfl⟩

set_option maxHeartbeats 2000000 in
set_option maxRecDepth 10000 in
theorem puts_prog (s : ByteArray) (n : Int) (b : List Int) (hs : s.size ≤ 281474976710656) (hn : -9223372036854775808 ≤ n ∧ n < 9223372036854775808) (hb : ∀ x ∈ b, 0 ≤ x ∧ x < 256) (hl : b.length ≤ 281474976710656) :
    ACalls Tryd.prog 4 [str s, int .i64 n, .roI .u8 b] [] (fun r h => r = .tt ∧ h = []) := by
  have h1 := put_head s n (by omega)
  have h2 := put_rhead s n (by omega)
  have h3 := hget_prog b hb hl
  have h4 := hget_ref b hb hl
  unfold HPutR at h1 h2
  unfold HGetR at h3 h4
  generalize headR s n = X at *
  generalize headE s n = E at *
  generalize getS b = S at *
  generalize getN b = M at *
  generalize getEr b = F at *
  refine rcalls Tryd.func4 rfl (by decide) ?_
  refine ⟨[], _, hd_awake, ?_⟩
  rintro r hh ⟨rfl, rfl⟩
  refine ⟨.inl rfl, ?_⟩
  refine ⟨[], _, h1, ?_⟩
  rintro r hh ⟨rfl, rfl⟩
  refine ⟨.inl rfl, ?_⟩
  refine ⟨[], _, h2, ?_⟩
  rintro r hh ⟨rfl, rfl⟩
  refine ⟨.inl rfl, ?_⟩
  refine ⟨[], _, h3, ?_⟩
  rintro r hh ⟨rfl, rfl⟩
  refine ⟨.inl rfl, ?_⟩
  refine ⟨[], _, h4, ?_⟩
  rintro r hh ⟨rfl, rfl⟩
  refine ⟨.inl rfl, ?_⟩
  refine ⟨by omega, ?_⟩
  refine ⟨by omega, ?_⟩
  refine ⟨fun _ => ?_, fun e => absurd rfl (no e)⟩
  refine ⟨fun _ => ?_, fun e => absurd rfl (no e)⟩
  refine ⟨fun _ => ?_, fun e => absurd rfl (no e)⟩
  refine ⟨fun _ => ?_, fun e => absurd rfl (no e)⟩
  exact ⟨[], [], .tt, lehN _, leTT (decide_eq_true rfl), rfl, rfl⟩


set_option maxHeartbeats 2000000 in
set_option maxRecDepth 10000 in
theorem back_prog (s : ByteArray) (n : Int) (b : List Int) (hs : s.size ≤ 281474976710656) (hn : -9223372036854775808 ≤ n ∧ n < 9223372036854775808) (hb : ∀ x ∈ b, 0 ≤ x ∧ x < 256) (hl : b.length ≤ 281474976710656) :
    ACalls Tryd.prog 5 [str s, int .i64 n, .roI .u8 b] [] (fun r h => r = .tt ∧ h = []) := by
  have h1 := put_head s n (by omega)
  have h3 := hget_prog b hb hl
  have hX : (headR s n).length ≤ 512 := by
    by_cases h : okHd s n
    · rw [head_len h]; decide
    · unfold headR; rw [if_neg h]; exact Nat.zero_le _
  have h2 := own_take (hget_prog (headR s n) (head_range s n) (by omega))
  have hgs : (getS b).size ≤ 9223372036854775805 := by
    by_cases h : getEr b = 0
    · have := (get_ok h).1.1.2.1; omega
    · rw [(get_no h).1]; exact Nat.zero_le _
  have h4 := put_head (getS b) (getN b) hgs
  have k1 : headE s n = 0 → (headR s n).length = 512 ∧ getS (headR s n) = s ∧ getN (headR s n) = n ∧ getEr (headR s n) = 0 := fun h => by
    have ok := headE_iff.1 h
    exact ⟨head_len ok, (get_head ok).2⟩
  have k2 : getEr b ≠ 0 → getS b = ByteArray.empty ∧ getN b = 0 := fun h => get_no h
  have k3 : getEr b = 0 → headE (getS b) (getN b) = 0 ∧ headR (getS b) (getN b) = b := fun h => ⟨headE_iff.2 (get_ok h).1, (get_ok h).2.1⟩
  unfold HPutR at h1 h4
  unfold HGetR at h2 h3
  generalize getS (headR s n) = S1 at *
  generalize getN (headR s n) = M1 at *
  generalize getEr (headR s n) = F1 at *
  generalize headR s n = X at *
  generalize headE s n = E at *
  generalize headR (getS b) (getN b) = Y at *
  generalize headE (getS b) (getN b) = G at *
  generalize getS b = S at *
  generalize getN b = M at *
  generalize getEr b = F at *
  refine rcalls Tryd.func5 rfl (by decide) ?_
  refine ⟨[], _, hd_awake, ?_⟩
  rintro r hh ⟨rfl, rfl⟩
  refine ⟨.inl rfl, ?_⟩
  refine ⟨[], _, h1, ?_⟩
  rintro r hh ⟨rfl, rfl⟩
  refine ⟨.inl rfl, ?_⟩
  refine ⟨fun c1 => ?_, fun c1 => ?_⟩
  · obtain ⟨q1, q2, q3, q4⟩ := k1 (yes c1)
    refine ⟨[], _, by omega, h2, ?_⟩
    rintro r hh ⟨rfl, rfl⟩
    refine ⟨.inr ⟨fun i hi => ?_, fun o ho => by cases ho⟩, ?_⟩
    · match i, hi with
      | 0, _ => trivial
      | 1, _ => trivial
      | 2, _ => trivial
    refine ⟨fun c2 => absurd q4 (yes c2), fun c2 => ?_⟩
    refine ⟨fun c3 => absurd q2 (yes c3), fun c3 => ?_⟩
    refine ⟨fun c4 => absurd q3 (yes c4), fun c4 => ?_⟩
    refine ⟨fun c5 => absurd (yes c5) (by rw [q1]; decide), fun c5 => ?_⟩
    refine ⟨[], _, h3, ?_⟩
    rintro r hh ⟨rfl, rfl⟩
    refine ⟨.inl rfl, ?_⟩
    refine ⟨fun c6 => ?_, fun c6 => ?_⟩
    · obtain ⟨q5, q6⟩ := k2 (yes c6)
      refine ⟨fun _ => ?_, fun e => absurd q5 (no e)⟩
      exact ⟨[], [], .tt, lehN _, leTT (decide_eq_true q6), rfl, rfl⟩
    have f6 : F = 0 := Classical.byContradiction fun x => no c6 x
    obtain ⟨q5, q6⟩ := k3 f6
    refine ⟨[], _, h4, ?_⟩
    rintro r hh ⟨rfl, rfl⟩
    refine ⟨.inl rfl, ?_⟩
    refine ⟨fun _ => ?_, fun e => absurd q5 (no e)⟩
    refine ⟨by omega, ?_⟩
    exact ⟨[], [], .tt, lehN _, leTT (decide_eq_true (by rw [List.drop_zero, List.take_length, q6])), rfl, rfl⟩
  · refine ⟨[], _, h3, ?_⟩
    rintro r hh ⟨rfl, rfl⟩
    refine ⟨.inl rfl, ?_⟩
    refine ⟨fun c6 => ?_, fun c6 => ?_⟩
    · obtain ⟨q5, q6⟩ := k2 (yes c6)
      refine ⟨fun _ => ?_, fun e => absurd q5 (no e)⟩
      exact ⟨[], [], .tt, lehN _, leTT (decide_eq_true q6), rfl, rfl⟩
    have f6 : F = 0 := Classical.byContradiction fun x => no c6 x
    obtain ⟨q5, q6⟩ := k3 f6
    refine ⟨[], _, h4, ?_⟩
    rintro r hh ⟨rfl, rfl⟩
    refine ⟨.inl rfl, ?_⟩
    refine ⟨fun _ => ?_, fun e => absurd q5 (no e)⟩
    refine ⟨by omega, ?_⟩
    exact ⟨[], [], .tt, lehN _, leTT (decide_eq_true (by rw [List.drop_zero, List.take_length, q6])), rfl, rfl⟩
end
end Go.Proofs.YtkchfbnkdpdbkaaDoor.Hd

/-
  What every row of this program's laws wants: its knobs and its layout.
-/
namespace Go.Proofs.YtkchfbnkdpdbkaaDoor.AL
open Go Go.RowKit Go.ChangeShapes

theorem own : ownKnob Tryd.prog.godebug = none := by kernel_rfl
theorem laidOut : laidOutB Tryd.prog = true := by kernel_rfl
theorem wf_i64 {n : Int} (h : (Lit.int .i64 n).wf = true) : -9223372036854775808 ≤ n ∧ n < 9223372036854775808 := by
  simp only [Lit.wf, Bool.and_eq_true, decide_eq_true_eq] at h; exact ⟨Int.le_trans (by decide) h.1, Int.lt_of_le_of_lt h.2 (by decide)⟩
theorem wf_u8 {n : Int} (h : (Lit.int .u8 n).wf = true) : 0 ≤ n ∧ n < 256 := by
  simp only [Lit.wf, Bool.and_eq_true, decide_eq_true_eq] at h; exact ⟨Int.le_trans (by decide) h.1, Int.lt_of_le_of_lt h.2 (by decide)⟩
theorem wf_u16 {n : Int} (h : (Lit.int .u16 n).wf = true) : 0 ≤ n ∧ n < 65536 := by
  simp only [Lit.wf, Bool.and_eq_true, decide_eq_true_eq] at h; exact ⟨Int.le_trans (by decide) h.1, Int.lt_of_le_of_lt h.2 (by decide)⟩
theorem wf_u32 {n : Int} (h : (Lit.int .u32 n).wf = true) : 0 ≤ n ∧ n < 4294967296 := by
  simp only [Lit.wf, Bool.and_eq_true, decide_eq_true_eq] at h; exact ⟨Int.le_trans (by decide) h.1, Int.lt_of_le_of_lt h.2 (by decide)⟩
end Go.Proofs.YtkchfbnkdpdbkaaDoor.AL

/-
  The laws of header, walked: HeaderApart, HeaderTurned, HeaderSums.
-/
set_option linter.unusedVariables false
set_option linter.unusedSectionVars false
namespace Go.Proofs.YtkchfbnkdpdbkaaDoor.Hd
open Go AL Oc Pa Spl
section
variable [Globs]

theorem headR_len (s : ByteArray) (n : Int) : (headR s n).length = (if okHd s n then 512 else 0) := by
  by_cases h : okHd s n
  · rw [head_len h, if_pos h]
  · unfold headR; rw [if_neg h, if_neg h]; rfl


set_option maxHeartbeats 2000000 in
set_option maxRecDepth 10000 in
theorem apart_prog (s t : ByteArray) (xs : List Int) (hs : s.size ≤ 281474976710656) (ht : t.size ≤ 281474976710656) (hx : xs.length = 2) :
    ACalls Tryd.prog 8 [str s, str t, .aggI .i64 xs] [] (fun r h => r = .tt ∧ h = []) := by
  obtain ⟨n, m, rfl⟩ : ∃ n m, xs = [n, m] := by
    match xs, hx with
    | [a, b], _ => exact ⟨a, b, rfl⟩
  have h1 := put_head s n (by omega)
  have h2 := put_head t m (by omega)
  have hr1 := head_range s n
  have hr2 := head_range t m
  have z1 : ¬ headE s n = 0 ↔ (headR s n).length = 0 := by
    rw [headE_iff, headR_len]; split <;> simp_all
  have z2 : ¬ headE t m = 0 ↔ (headR t m).length = 0 := by
    rw [headE_iff, headR_len]; split <;> simp_all
  have k : headE s n = 0 → headE t m = 0 → (headR s n = headR t m ↔ s = t ∧ n = m) := fun e1 e2 =>
    ⟨fun h => head_inj (headE_iff.1 e1) (headE_iff.1 e2) h, fun h => by rw [h.1, h.2]⟩
  unfold HPutR at h1 h2
  generalize headR s n = X at *
  generalize headE s n = E at *
  generalize headR t m = Y at *
  generalize headE t m = F at *
  refine rcalls Tryd.func8 rfl (by decide) ?_
  refine ⟨rfl, ?_⟩
  refine ⟨[], _, hd_awake, ?_⟩
  rintro r hh ⟨rfl, rfl⟩
  refine ⟨.inl rfl, ?_⟩
  refine ⟨⟨by omega, by decide⟩, by show addOff 0 0 1 < 2; decide, ?_⟩
  refine ⟨[], _, h1, ?_⟩
  rintro r hh ⟨rfl, rfl⟩
  refine ⟨.inl rfl, ?_⟩
  refine ⟨⟨by omega, by decide⟩, by show addOff 0 1 1 < 2; decide, ?_⟩
  refine ⟨[], _, h2, ?_⟩
  rintro r hh ⟨rfl, rfl⟩
  refine ⟨.inl rfl, ?_⟩
  have w1 : (decide (¬ E = 0) == decide ((X.length : Int) = 0)) = true := beq_iff_eq.2 (decide_eq_decide.2 (z1.trans (by omega)))
  have w2 : (decide (¬ F = 0) == decide ((Y.length : Int) = 0)) = true := beq_iff_eq.2 (decide_eq_decide.2 (z2.trans (by omega)))
  refine ⟨fun c1 => ?_, fun c1 => ?_⟩
  · refine ⟨fun _ => ?_, fun e => ?_⟩
    · refine ⟨[], [], .tt, lehN _, leTT ?_, rfl, rfl⟩
      exact w2
    · rw [w1] at e; cases e
  refine ⟨fun c2 => ?_, fun c2 => ?_⟩
  · refine ⟨fun _ => ?_, fun e => ?_⟩
    · refine ⟨[], [], .tt, lehN _, leTT ?_, rfl, rfl⟩
      exact w2
    · rw [w1] at e; cases e
  have f1 : E = 0 := Classical.byContradiction fun x => no c1 x
  have f2 : F = 0 := Classical.byContradiction fun x => no c2 x
  have g := k f1 f2
  refine ⟨by omega, by omega, ?_⟩
  refine ⟨fun c3 => ?_, fun c3 => ?_⟩
  · refine ⟨⟨by omega, by decide⟩, by show addOff 0 0 1 < 2; decide, ?_⟩
    refine ⟨⟨by omega, by decide⟩, by show addOff 0 1 1 < 2; decide, ?_⟩
    refine ⟨[], [], .tt, lehN _, leTT ?_, rfl, rfl⟩
    have f3 : s = t := yes c3
    refine beq_iff_eq.2 (decide_eq_decide.2 ?_)
    rw [List.drop_zero, List.take_length, List.drop_zero, List.take_length]
    exact (bytes_eq hr1 hr2).trans (g.trans ⟨fun h => h.2, fun h => ⟨f3, h⟩⟩)
  · refine ⟨[], [], .tt, lehN _, leTT ?_, rfl, rfl⟩
    have f3 : ¬ s = t := no c3
    refine beq_iff_eq.2 (decide_eq_false fun h => ?_)
    rw [List.drop_zero, List.take_length, List.drop_zero, List.take_length] at h
    exact f3 (g.1 ((bytes_eq hr1 hr2).1 h)).1
end
end Go.Proofs.YtkchfbnkdpdbkaaDoor.Hd

/-
  One byte turned, and turned back.
-/
set_option linter.unusedVariables false
namespace Go.Proofs.YtkchfbnkdpdbkaaDoor.Hd
open Go

theorem xor_nat {n m : Nat} (hn : n < 256) (hm : m < 256) : Go.bits .xor .u8 (n : Int) (m : Int) = ((n ^^^ m : Nat) : Int) := by
  have h1 : n % 2 ^ IntKind.u8.bits = n := Nat.mod_eq_of_lt hn
  have h2 : m % 2 ^ IntKind.u8.bits = m := Nat.mod_eq_of_lt hm
  have h3 : n ^^^ m < 2 ^ 8 := Nat.xor_lt_two_pow hn hm
  simp only [Go.bits, BitVec.ofInt_natCast, BitVec.toNat_xor, BitVec.toNat_ofNat, h1, h2]
  rw [IntKind.wrap_u8]
  omega
theorem xor_u8 {a b : Int} (ha : 0 ≤ a ∧ a < 256) (hb : 0 ≤ b ∧ b < 256) :
    (0 ≤ Go.bits .xor .u8 a b ∧ Go.bits .xor .u8 a b < 256) ∧ (b ≠ 0 → Go.bits .xor .u8 a b ≠ a) ∧ Go.bits .xor .u8 (Go.bits .xor .u8 a b) b = a := by
  obtain ⟨n, rfl⟩ : ∃ n : Nat, a = n := ⟨a.toNat, by omega⟩
  obtain ⟨m, rfl⟩ : ∃ m : Nat, b = m := ⟨b.toNat, by omega⟩
  have hn : n < 256 := by omega
  have hm : m < 256 := by omega
  have h3 : n ^^^ m < 256 := Nat.xor_lt_two_pow (n := 8) hn hm
  rw [xor_nat hn hm, xor_nat h3 hm]
  have h4 : (n ^^^ m) ^^^ m = n := by rw [Nat.xor_assoc, Nat.xor_self, Nat.xor_zero]
  refine ⟨⟨by omega, by omega⟩, fun h e => ?_, by rw [h4]⟩
  have e : n ^^^ m = n := by omega
  have : m = 0 := by
    have : n ^^^ (n ^^^ m) = m := by rw [← Nat.xor_assoc, Nat.xor_self, Nat.zero_xor]
    rw [e, Nat.xor_self] at this
    exact this.symm
  exact h (by omega)

end Go.Proofs.YtkchfbnkdpdbkaaDoor.Hd

/-
  The law HeaderTurned, walked.
-/
set_option linter.unusedVariables false
set_option linter.unusedSectionVars false
namespace Go.Proofs.YtkchfbnkdpdbkaaDoor.Hd
open Go AL Oc Pa Spl
section
variable [Globs]

theorem own_cast {k : IntKind} {f : Nat} {xs ys : List Int} {R : AV → List AO → Prop} {tl : List AV} (e : xs = ys) (h : ACalls Tryd.prog f (.roI k ys :: tl) [] R) : ACalls Tryd.prog f (.roI k xs :: tl) [] R := by
  rw [e]; exact h
def turnV (p : ByteArray) (n a m : Int) : AV := .agg 4 fun i => [str p, int .i64 n, int .u16 a, int .u8 m].getD i .top

set_option maxHeartbeats 2000000 in
set_option maxRecDepth 10000 in
theorem turned_prog (s : ByteArray) (n a m : Int) (hs : s.size ≤ 281474976710656) (ha : 0 ≤ a ∧ a < 65536) (hm : 0 ≤ m ∧ m < 256) :
    ACalls Tryd.prog 6 [turnV s n a m] [] (fun r h => r = .tt ∧ h = []) := by
  have h1 := put_head s n (by omega)
  have hr1 := head_range s n
  have hok : headE s n = 0 → okHd s n := fun h => headE_iff.1 h
  have hlen : okHd s n → (headR s n).length = 512 := fun h => head_len h
  have hback := fun (h : okHd s n) => get_head h
  have hturn := fun (h : okHd s n) (b : List Int) (k : Nat) (hk : k < 512) (hl : b.length = 512) (hb : ∀ i, i ≠ k → b.getD i 0 = (headR s n).getD i 0) (hne : b.getD k 0 ≠ (headR s n).getD k 0) => head_turned h hk hl hb hne
  unfold HPutR at h1
  generalize headR s n = X at *
  generalize headE s n = E at *
  refine rcalls Tryd.func6 rfl (by decide) ?_
  refine ⟨[], _, hd_awake, ?_⟩
  rintro r hh ⟨rfl, rfl⟩
  refine ⟨.inl rfl, ?_⟩
  refine ⟨[], _, h1, ?_⟩
  rintro r hh ⟨rfl, rfl⟩
  refine ⟨.inl rfl, ?_⟩
  refine ⟨fun c1 => ?_, fun c1 => ?_⟩
  · exact ⟨[], [], .tt, lehN _, .tt, rfl, rfl⟩
  refine ⟨fun c2 => ?_, fun c2 => ?_⟩
  · exact ⟨[], [], .tt, lehN _, .tt, rfl, rfl⟩
  have f1 : E = 0 := Classical.byContradiction fun x => no c1 x
  have f2 : ¬ m = 0 := no c2
  have ok := hok f1
  have hl := hlen ok
  refine ⟨fun c3 => absurd (yes c3) (by rw [hl]; decide), fun c3 => ?_⟩
  obtain ⟨K, eK, hK⟩ : ∃ K : Nat, (IntKind.i64.wrap a).tmod 512 = (K : Int) ∧ K < 512 := by
    rw [w64 (by omega) (by omega), Int.tmod_eq_emod_of_nonneg ha.1]
    exact ⟨(a % 512).toNat, by omega, by omega⟩
  have kk : addOff 0 ((IntKind.i64.wrap a).tmod 512).toNat 1 = K := by rw [eK]; unfold addOff; omega
  have b1 : 0 ≤ (IntKind.i64.wrap a).tmod 512 ∧ (IntKind.i64.wrap a).tmod 512 < (X.length : Int) := by rw [eK]; omega
  have b2 : addOff 0 ((IntKind.i64.wrap a).tmod 512).toNat 1 < X.length := by rw [kk]; omega
  have hget : ∀ {i : Nat}, i < X.length → X.getD i 0 ∈ X := fun {i} hi => by
    rw [List.getD_eq_getElem?_getD, List.getElem?_eq_getElem hi]; exact List.getElem_mem hi
  obtain ⟨q1, q2, q3⟩ := xor_u8 (hr1 _ (hget b2)) hm
  obtain ⟨Y, eY⟩ : ∃ Y, Y = X.set (addOff 0 ((IntKind.i64.wrap a).tmod 512).toNat 1) (bits BinOp.xor IntKind.u8 (X.getD (addOff 0 ((IntKind.i64.wrap a).tmod 512).toNat 1) 0) m) := ⟨_, rfl⟩
  have yl : Y.length = 512 := by rw [eY, List.length_set, hl]
  have y2 : Y.getD (addOff 0 ((IntKind.i64.wrap a).tmod 512).toNat 1) 0 = bits BinOp.xor IntKind.u8 (X.getD (addOff 0 ((IntKind.i64.wrap a).tmod 512).toNat 1) 0) m := by
    rw [eY, List.getD_eq_getElem?_getD, List.getElem?_set_self b2]; rfl
  have y3 : ∀ i, i ≠ addOff 0 ((IntKind.i64.wrap a).tmod 512).toNat 1 → Y.getD i 0 = X.getD i 0 := fun i hi => by
    rw [eY, List.getD_eq_getElem?_getD, List.getElem?_set_ne (Ne.symm hi), List.getD_eq_getElem?_getD]
  have yr : ∀ x ∈ Y, 0 ≤ x ∧ x < 256 := fun x hx => by
    rw [eY] at hx
    rcases List.mem_or_eq_of_mem_set hx with h | h
    · exact hr1 x h
    · rw [h]; exact q1
  have y4 : Y.set (addOff 0 ((IntKind.i64.wrap a).tmod 512).toNat 1) (bits BinOp.xor IntKind.u8 (Y.getD (addOff 0 ((IntKind.i64.wrap a).tmod 512).toNat 1) 0) m) = X := by
    rw [y2, q3, eY, List.set_set]
    apply List.ext_getElem?
    intro i
    by_cases h : addOff 0 ((IntKind.i64.wrap a).tmod 512).toNat 1 = i
    · subst h
      rw [List.getElem?_set_self b2, List.getD_eq_getElem?_getD, List.getElem?_eq_getElem b2]; rfl
    · rw [List.getElem?_set_ne h]
  have g1 : getEr Y = 2 := hturn ok Y _ (by rw [kk]; exact hK) yl y3 (by rw [y2]; exact q2 f2)
  have c4 := hget_prog Y yr (by omega)
  have g2 : getEr (X ++ [m]) = 2 := get_other (by rw [List.length_append, hl, List.length_singleton]; decide) (by rw [List.length_append, hl, List.length_singleton]; decide)
  have c5 := hget_prog (X ++ [m]) (fun x hx => by
    rcases List.mem_append.1 hx with h | h
    · exact hr1 x h
    · rw [List.mem_singleton.1 h]; exact hm) (by rw [List.length_append, hl, List.length_singleton]; decide)
  have g3 : getEr (X.take K) = 3 := get_len (by rw [List.length_take]; omega)
  have c6 := hget_prog (X.take K) (fun x hx => hr1 x (List.mem_of_mem_take hx)) (by rw [List.length_take]; omega)
  have e1 : (((X.set (addOff 0 ((IntKind.i64.wrap a).tmod 512).toNat 1) (bits BinOp.xor IntKind.u8 (X.getD (addOff 0 ((IntKind.i64.wrap a).tmod 512).toNat 1) 0) m)).drop 0).take X.length) = Y := by
    rw [← eY, List.drop_zero, hl, ← yl, List.take_length]
  unfold HGetR at c4 c5 c6
  rw [g1] at c4
  rw [g2] at c5
  rw [g3] at c6
  refine ⟨by decide, ?_⟩
  refine ⟨b1, b2, b1, b2, ?_⟩
  refine ⟨[], _, by rw [List.length_set]; omega, own_cast e1 c4, ?_⟩
  rintro r hh ⟨rfl, rfl⟩
  refine ⟨.inr ⟨fun i hi => ?_, fun o ho => by cases ho⟩, ?_⟩
  · match i, hi with
    | 0, _ => trivial
    | 1, _ => trivial
    | 2, _ => trivial
  refine ⟨b1, by rw [List.length_set]; exact b2, b1, by rw [List.length_set]; exact b2, ?_⟩
  rw [← eY, y4]
  clear y4 y3 y2 q1 q2 q3 eY g1 g2 g3 hget hturn hback h1 c4 e1
  refine ⟨rfl, by omega, by show (0 + _) * 1 ≤ _; rw [List.length_take, List.length_drop]; omega, ?_⟩
  refine ⟨by simp, by simp, by show _ * 1 ≤ _; simp; omega, ?_⟩
  refine ⟨[], _, by simp, own_cast ?_ c5, ?_⟩
  · simp
    exact List.take_of_length_le (by simp)
  rintro r hh ⟨rfl, rfl⟩
  refine ⟨.inr ⟨fun i hi => ?_, fun o ho => by cases ho⟩, ?_⟩
  · match i, hi with
    | 0, _ => trivial
    | 1, _ => trivial
    | 2, _ => trivial
  refine ⟨⟨b1.1, Int.le_of_lt b1.2⟩, ?_⟩
  refine ⟨[], _, ?_, own_cast ?_ c6, ?_⟩
  · show addOff 0 0 1 + (((IntKind.i64.wrap a).tmod 512).toNat - 0) ≤ X.length
    rw [eK]; unfold addOff; omega
  · show (X.drop (addOff 0 0 1)).take (((IntKind.i64.wrap a).tmod 512).toNat - 0) = _
    rw [eK]; rfl
  rintro r hh ⟨rfl, rfl⟩
  refine ⟨.inr ⟨fun i hi => ?_, fun o ho => by cases ho⟩, ?_⟩
  · match i, hi with
    | 0, _ => trivial
    | 1, _ => trivial
    | 2, _ => trivial
  refine ⟨fun _ => ?_, fun e => absurd rfl (no e)⟩
  refine ⟨fun _ => ?_, fun e => absurd rfl (no e)⟩
  exact ⟨[], [], .tt, lehN _, leTT (decide_eq_true rfl), rfl, rfl⟩
end
end Go.Proofs.YtkchfbnkdpdbkaaDoor.Hd

/-
  A Turn that came in by value. No program in sight.
-/
set_option linter.unusedVariables false
namespace Go.Proofs.YtkchfbnkdpdbkaaDoor.AL
open Go Go.ChangeShapes Go.WideShapes Go.ChangeAt Go.RowKit Go.Deep Go.Joins Go.WideElems
open Go.Proofs.YtkchfbnkdpdbkaaDoor.Hd

section
variable {H : Type} {enc : TypeId × Value → H} {P : Program}

structure TnT (P : Program) (t : TypeId) (f0 f1 f2 f3 : Field) : Prop where
  s : P.underlying t = some (.struct #[f0, f1, f2, f3])
  c : P.cellsOf t = 4
  off : f0.offset = 0 ∧ f1.offset = 1 ∧ f2.offset = 2 ∧ f3.offset = 3
  path : P.underlying f0.type = some .string
  cpath : P.cellsOf f0.type = 1
  size : P.underlying f1.type = some (.int .i64)
  csize : P.cellsOf f1.type = 1
  at' : P.underlying f2.type = some (.int .u16)
  cat : P.cellsOf f2.type = 1
  mask : P.underlying f3.type = some (.int .u8)
  cmask : P.cellsOf f3.type = 1
theorem tnT : ∃ F : Field × Field × Field × Field, TnT Tryd.prog 42 F.1 F.2.1 F.2.2.1 F.2.2.2 :=
  ⟨⟨_, _, _, _⟩, { s := Tryd.underlying42, c := (by kernel_rfl), off := ⟨rfl, rfl, rfl, rfl⟩, path := (by kernel_rfl), cpath := (by kernel_rfl), size := (by kernel_rfl), csize := (by kernel_rfl), at' := (by kernel_rfl), cat := (by kernel_rfl), mask := (by kernel_rfl), cmask := (by kernel_rfl) }⟩
theorem one_at {cs : List Value} {off : Nat} {u : Value} (h : (cs.drop off).take 1 = [u]) : cs[off]? = some u := by
  have := congrArg (fun l : List Value => l[0]?) h
  simpa using this
/-- A Turn that came in. -/
theorem open_turn {W : World} {base : Nat} {t : TypeId} {f0 f1 f2 f3 : Field} {v : Value} {d : DataW H} {ps : List MemPlace} (T : TnT P t f0 f1 f2 f3)
    (hval : Value.okWide P W .any base t v) (h : DataW.Trod enc P W 0 (fun _ => true) true t v d ps) (hlt : ∀ x ∈ ps, x.block < W.heap.size) :
    ∃ (s : ByteArray) (n a m : Int), den W (allB W) .zero (turnV s n a m) v ∧ ((∀ n ∈ d.weights P t, n ≤ reachBytes) → s.size ≤ reachBytes) ∧ (Lit.int .i64 n).wf = true ∧ (Lit.int .u16 a).wf = true ∧ (Lit.int .u8 m).wf = true := by
  obtain ⟨cs, rfl, hsz⟩ := okWide_struct T.s hval
  obtain ⟨fuel, hf⟩ := h
  obtain ⟨o0, o1, o2, o3⟩ := T.off
  obtain ⟨m1, z1, e1, p1⟩ := field_at T.s hf hlt 1 (f := f1) rfl
  obtain ⟨m2, z2, e2, p2⟩ := field_at T.s hf hlt 2 (f := f2) rfl
  obtain ⟨m3, z3, e3, p3⟩ := field_at T.s hf hlt 3 (f := f3) rfl
  rw [T.csize, o1] at e1
  rw [T.cat, o2] at e2
  rw [T.cmask, o3] at e3
  obtain ⟨N, qn, _, wn⟩ := DataW.trod_int T.size e1
  obtain ⟨A, qa, _, wa⟩ := DataW.trod_int T.at' e2
  obtain ⟨M, qm, _, wm⟩ := DataW.trod_int T.mask e3
  obtain ⟨xs, m, _, hy, hlen, hxl, hfs⟩ := DataW.trod_struct T.s hf
  have e0 := hfs 0 f0 rfl
  rw [T.cpath, o0] at e0
  have hx0 : 0 < xs.length := by rw [hxl]; show 0 < 4; decide
  rw [List.getElem?_eq_getElem hx0] at e0
  obtain ⟨s, qs, hxs, _⟩ := DataW.trod_string T.path e0
  refine ⟨s, N, A, M, ⟨cs, rfl, hsz.trans T.c, fun i hi => ?_⟩, fun hw => hw _ ?_, wn, wa, wm⟩
  · match i, hi with
    | 0, _ => exact ⟨_, by simpa [Value.cells] using one_at qs, rfl⟩
    | 1, _ => exact ⟨_, by simpa [Value.cells] using one_at qn, rfl⟩
    | 2, _ => exact ⟨_, by simpa [Value.cells] using one_at qa, rfl⟩
    | 3, _ => exact ⟨_, by simpa [Value.cells] using one_at qm, rfl⟩
  · have hy : d = _ := congrArg Prod.fst hy
    rw [hy]
    show s.size ∈ DataW.weights P t (.agg (xs.map (·.1)))
    unfold DataW.weights
    rw [T.s]
    refine DataW.weights_mem_each (j := 0) (t := f0.type) (d := .lit (.string s.data.toList)) rfl ?_ _ ?_
    · rw [List.getElem?_map, List.getElem?_eq_getElem hx0, hxs]; rfl
    · unfold DataW.weights
      exact List.mem_singleton.2 rfl
end
end Go.Proofs.YtkchfbnkdpdbkaaDoor.AL

/-
  The digits of a header's sum.  No program in sight.
-/
set_option linter.unusedVariables false
namespace Go.Proofs.YtkchfbnkdpdbkaaDoor.Hd
open Go AL Spl Oc Pa

theorem acc_congr {xs ys : List Int} : ∀ {m : Nat}, (∀ i, i < m → xs.getD i 0 = ys.getD i 0) → acc xs m = acc ys m
  | 0, _ => rfl
  | m + 1, h => by
    unfold acc
    rw [acc_congr (m := m) fun i hi => h i (by omega), h m (by omega)]
theorem sum_at (xs : List Int) (j : Nat) (hj : j < 8) : ((xs.take 156).drop 148).getD j 0 = xs.getD (148 + j) 0 := by
  rw [List.getD_eq_getElem?_getD, List.getElem?_drop, List.getElem?_take, if_pos (by omega), List.getD_eq_getElem?_getD]
theorem sum_digits {s : ByteArray} {n : Int} (h : okHd s n) : (∀ i, i < 6 → figure ((headR s n).getD (148 + i) 0)) ∧ acc ((headR s n).drop 148) 6 = chk (headR s n) 512 ∧ (headR s n).getD 154 0 = 0 ∧ (headR s n).getD 155 0 = 32 := by
  have e1 := sum_len h
  obtain ⟨e2, e3, e4⟩ := q_field e1.1
  have e5 : (putR (headS s n) 7).length = 7 := by omega
  obtain ⟨v1, v2, v3, v4⟩ := e3
  rw [e5] at v3 v4 e4
  have hf := head_sum h
  have g : ∀ j, j < 7 → (headR s n).getD (148 + j) 0 = (putR (headS s n) 7).getD j 0 := fun j hj => by
    rw [← sum_at _ j (by omega), hf]
    unfold sumF
    exact q_l (by omega)
  refine ⟨fun i hi => by rw [g i (by omega)]; exact v4 i (by omega), ?_, ?_, ?_⟩
  · rw [head_chk h]
    refine Eq.trans (acc_congr fun i hi => ?_) e4
    rw [← g i (by omega), List.getD_eq_getElem?_getD, List.getElem?_drop, List.getD_eq_getElem?_getD]
  · rw [show (154 : Nat) = 148 + 6 from rfl, g 6 (by omega)]; exact v3
  · rw [show (155 : Nat) = 148 + 7 from rfl, ← sum_at _ 7 (by omega), hf]
    unfold sumF
    rw [q_r (by omega), e5]; rfl

end Go.Proofs.YtkchfbnkdpdbkaaDoor.Hd

/-
  The law HeaderSums, walked.
-/
set_option linter.unusedVariables false
set_option linter.unusedSectionVars false
namespace Go.Proofs.YtkchfbnkdpdbkaaDoor.Hd
open Go AL Oc Pa Spl

theorem up_u8 {z : Int} (h : 0 ≤ z ∧ z < 256) : (0 ≤ IntKind.u8.wrap (z + 1) ∧ IntKind.u8.wrap (z + 1) < 256) ∧ IntKind.u8.wrap (z + 1) ≠ z ∧ IntKind.u8.wrap (IntKind.u8.wrap (z + 1) - 1) = z := by
  rw [IntKind.wrap_u8, IntKind.wrap_u8]; omega
section
variable [Globs]

set_option maxHeartbeats 2000000 in
set_option maxRecDepth 10000 in
theorem sums_prog (s : ByteArray) (n a : Int) (hs : s.size ≤ 281474976710656) (hn : -9223372036854775808 ≤ n ∧ n < 9223372036854775808) (ha : 0 ≤ a ∧ a < 65536) :
    ACalls Tryd.prog 7 [str s, int .i64 n, int .u16 a] [] (fun r h => r = .tt ∧ h = []) := by
  have h1 := put_head s n (by omega)
  have hr1 := head_range s n
  have hok : headE s n = 0 → okHd s n := fun h => headE_iff.1 h
  have hlen : okHd s n → (headR s n).length = 512 := fun h => head_len h
  have hdig := fun (h : okHd s n) => sum_digits h
  have hturn := fun (h : okHd s n) (b : List Int) (k : Nat) (hk : k < 512) (hl : b.length = 512) (hb : ∀ i, i ≠ k → b.getD i 0 = (headR s n).getD i 0) (hne : b.getD k 0 ≠ (headR s n).getD k 0) => head_turned h hk hl hb hne
  unfold HPutR at h1
  generalize headR s n = X at *
  generalize headE s n = E at *
  have hchk := check_ref X hr1
  refine rcalls Tryd.func7 rfl (by decide) ?_
  refine ⟨[], _, hd_awake, ?_⟩
  rintro r hh ⟨rfl, rfl⟩
  refine ⟨.inl rfl, ?_⟩
  refine ⟨[], _, h1, ?_⟩
  rintro r hh ⟨rfl, rfl⟩
  refine ⟨.inl rfl, ?_⟩
  refine ⟨fun c1 => ?_, fun c1 => ?_⟩
  · exact ⟨[], [], .tt, lehN _, .tt, rfl, rfl⟩
  have f1 : E = 0 := Classical.byContradiction fun x => no c1 x
  have ok := hok f1
  have hl := hlen ok
  have hchk := hchk (by omega)
  obtain ⟨d1, d2, d3, d4⟩ := hdig ok
  have gD : ∀ i, (X.drop 148).getD i 0 = X.getD (148 + i) 0 := fun i => by
    rw [List.getD_eq_getElem?_getD, List.getElem?_drop, List.getD_eq_getElem?_getD]
  refine ⟨fun c3 => absurd (yes c3) (by rw [hl]; decide), fun c3 => ?_⟩
  refine ⟨Nat, fun k => [(0, str s), (1, int .i64 n), (2, int .u16 a), (7, .tt), (8, .own 0 0 X.length 1), (9, int .i64 0), (10, int .i64 (acc (X.drop 148) k)), (11, int .i64 ((148 + k : Nat) : Int))], fun _ => [.ints .u8 X], fun k => k ≤ 6, fun k => 6 - k,
    ⟨0, [0], Nat.zero_le _, leh1 rfl (.ints _ _), ⟨leS rfl, leI rfl, leI rfl, .tt, leOwn rfl rfl rfl, leI f1, leI rfl, leI rfl, trivial⟩⟩, ?_⟩
  intro k hk
  have hk : k ≤ 6 := hk
  refine ⟨fun c => ?_, fun c => ?_⟩
  · have f2 : ((148 + k : Nat) : Int) < 154 := yes c
    have e1 : IntKind.i64.wrap (((148 + k : Nat) : Int) + 1) = ((148 + (k + 1) : Nat) : Int) := by rw [w64 (by omega) (by omega)]; omega
    have fg := d1 k (by omega)
    unfold figure at fg
    have hr := acc_range (xs := X.drop 148) (m := k) fun i hi => by rw [gD]; exact d1 i (by omega)
    have hp := pow8_mono (show k ≤ 11 by omega)
    have ek : addOff 0 ((148 + k : Nat) : Int).toNat 1 = 148 + k := by unfold addOff; omega
    refine ⟨⟨by omega, by omega⟩, by rw [ek]; omega, ?_⟩
    refine ⟨trivial, k + 1, [0], by show k + 1 ≤ 6; omega, by show 6 - (k + 1) < 6 - k; omega, leh1 rfl (.ints _ _), ⟨leS rfl, leI rfl, leI rfl, .tt, leOwn rfl rfl rfl, leI rfl, leI ?_, leI e1, trivial⟩⟩
    rw [ek, sub8 fg.1 fg.2, w64 (n := 8 * acc (X.drop 148) k) (by omega) (by omega), w64 (n := X.getD (148 + k) 0 - 48) (by omega) (by omega), w64 (by omega) (by omega)]
    show _ = 8 * acc (X.drop 148) k + ((X.drop 148).getD k 0 - 48)
    rw [gD]
  have f2 : ¬ ((148 + k : Nat) : Int) < 154 := no c
  obtain rfl : k = 6 := by omega
  obtain ⟨K, eK, hK⟩ : ∃ K : Nat, (IntKind.i64.wrap a).tmod 512 = (K : Int) ∧ K < 512 := by
    rw [w64 (by omega) (by omega), Int.tmod_eq_emod_of_nonneg ha.1]
    exact ⟨(a % 512).toNat, by omega, by omega⟩
  have kk : addOff 0 ((IntKind.i64.wrap a).tmod 512).toNat 1 = K := by rw [eK]; unfold addOff; omega
  have b1 : 0 ≤ (IntKind.i64.wrap a).tmod 512 ∧ (IntKind.i64.wrap a).tmod 512 < (X.length : Int) := by rw [eK]; omega
  have b2 : addOff 0 ((IntKind.i64.wrap a).tmod 512).toNat 1 < X.length := by rw [kk]; omega
  have hget : ∀ {i : Nat}, i < X.length → X.getD i 0 ∈ X := fun {i} hi => by
    rw [List.getD_eq_getElem?_getD, List.getElem?_eq_getElem hi]; exact List.getElem_mem hi
  obtain ⟨q1, q2, q3⟩ := up_u8 (hr1 _ (hget b2))
  obtain ⟨Y, eY⟩ : ∃ Y, Y = X.set (addOff 0 ((IntKind.i64.wrap a).tmod 512).toNat 1) (IntKind.u8.wrap (X.getD (addOff 0 ((IntKind.i64.wrap a).tmod 512).toNat 1) 0 + 1)) := ⟨_, rfl⟩
  have yl : Y.length = 512 := by rw [eY, List.length_set, hl]
  have y2 : Y.getD (addOff 0 ((IntKind.i64.wrap a).tmod 512).toNat 1) 0 = IntKind.u8.wrap (X.getD (addOff 0 ((IntKind.i64.wrap a).tmod 512).toNat 1) 0 + 1) := by
    rw [eY, List.getD_eq_getElem?_getD, List.getElem?_set_self b2]; rfl
  have y3 : ∀ i, i ≠ addOff 0 ((IntKind.i64.wrap a).tmod 512).toNat 1 → Y.getD i 0 = X.getD i 0 := fun i hi => by
    rw [eY, List.getD_eq_getElem?_getD, List.getElem?_set_ne (Ne.symm hi), List.getD_eq_getElem?_getD]
  have yr : ∀ x ∈ Y, 0 ≤ x ∧ x < 256 := fun x hx => by
    rw [eY] at hx
    rcases List.mem_or_eq_of_mem_set hx with h | h
    · exact hr1 x h
    · rw [h]; exact q1
  have y4 : Y.set (addOff 0 ((IntKind.i64.wrap a).tmod 512).toNat 1) (IntKind.u8.wrap (Y.getD (addOff 0 ((IntKind.i64.wrap a).tmod 512).toNat 1) 0 - 1)) = X := by
    rw [y2, q3, eY, List.set_set]
    apply List.ext_getElem?
    intro i
    by_cases h : addOff 0 ((IntKind.i64.wrap a).tmod 512).toNat 1 = i
    · subst h
      rw [List.getElem?_set_self b2, List.getD_eq_getElem?_getD, List.getElem?_eq_getElem b2]; rfl
    · rw [List.getElem?_set_ne h]
  have g1 : getEr Y = 2 := hturn ok Y _ (by rw [kk]; exact hK) yl y3 (by rw [y2]; exact q2)
  have c4 := hget_prog Y yr (by omega)
  have e1 : (((X.set (addOff 0 ((IntKind.i64.wrap a).tmod 512).toNat 1) (IntKind.u8.wrap (X.getD (addOff 0 ((IntKind.i64.wrap a).tmod 512).toNat 1) 0 + 1))).drop 0).take X.length) = Y := by
    rw [← eY, List.drop_zero, hl, ← yl, List.take_length]
  unfold HGetR at c4
  rw [g1] at c4
  refine ⟨by decide, ?_⟩
  refine ⟨b1, b2, b1, b2, ?_⟩
  refine ⟨[], _, by rw [List.length_set]; omega, own_cast e1 c4, ?_⟩
  rintro r hh ⟨rfl, rfl⟩
  refine ⟨.inr ⟨fun i hi => ?_, fun o ho => by cases ho⟩, ?_⟩
  · match i, hi with
    | 0, _ => trivial
    | 1, _ => trivial
    | 2, _ => trivial
  refine ⟨b1, by rw [List.length_set]; exact b2, b1, by rw [List.length_set]; exact b2, ?_⟩
  rw [← eY, y4]
  clear y4 y3 y2 q1 q2 q3 eY g1 hget hturn h1 c4 e1
  refine ⟨[], _, by omega, own_take hchk, ?_⟩
  rintro r hh ⟨rfl, rfl⟩
  refine ⟨.inr ⟨trivial, fun o ho => by cases ho⟩, ?_⟩
  have d2 : acc (X.drop 148) 6 = chk X X.length := by rw [hl]; exact d2
  refine ⟨fun _ => ?_, fun e => absurd d2 (no e)⟩
  refine ⟨⟨by omega, by omega⟩, by show addOff 0 154 1 < X.length; unfold addOff; omega, ?_⟩
  refine ⟨fun _ => ?_, fun e => absurd d3 (no e)⟩
  refine ⟨⟨by omega, by omega⟩, by show addOff 0 155 1 < X.length; unfold addOff; omega, ?_⟩
  refine ⟨fun _ => ?_, fun e => absurd d4 (no e)⟩
  exact ⟨[], [], .tt, lehN _, leTT (decide_eq_true rfl), rfl, rfl⟩
end
end Go.Proofs.YtkchfbnkdpdbkaaDoor.Hd

/-
  The contracts of header.Round, of header.Blank, and of the document's Round.
-/
set_option linter.unusedVariables false
set_option linter.unusedSectionVars false
namespace Go.Proofs.YtkchfbnkdpdbkaaDoor.Hd
open Go AL Oc Pa Spl

/-- A size up to whole blocks. -/
def rndZ (n : Int) : Int := (max n 0 + 511) / 512 * 512
section
variable [Globs]

set_option maxRecDepth 10000 in
theorem round_prog (n : Int) (hn : n ≤ 4611686018427387904) : ACalls Tryd.prog 26 [int .i64 n] [] (fun r h => r = int .i64 (rndZ n) ∧ h = []) := by
  refine rcalls Tryd.func26 rfl (by decide) ?_
  refine ⟨by decide, ?_⟩
  refine ⟨[], [], _, lehN _, leI ?_, rfl, rfl⟩
  rw [w64 (n := max n 0 + 512) (by omega) (by omega), w64 (n := max n 0 + 512 - 1) (by omega) (by omega), Int.tdiv_eq_ediv_of_nonneg (by omega), w64 (n := (max n 0 + 512 - 1) / 512) (by omega) (by omega), w64 (by omega) (by omega)]
  unfold rndZ
  omega

set_option maxRecDepth 10000 in
theorem round_ref (n : Int) (hn : n ≤ 4611686018427387904) : ACalls Tryd.prog 27 [int .i64 n] [] (fun r h => r = int .i64 (rndZ n) ∧ h = []) := by
  refine rcalls Tryd.func27 rfl (by decide) ?_
  have hR : 0 ≤ rndZ n ∧ rndZ n ≤ 4611686018427388415 ∧ n ≤ rndZ n ∧ rndZ n % 512 = 0 ∧ ∀ z : Int, z % 512 = 0 → 0 ≤ z → n ≤ z → rndZ n ≤ z := by
    unfold rndZ
    refine ⟨by omega, by omega, by omega, by omega, fun z h1 h2 h3 => by omega⟩
  generalize rndZ n = R at *
  obtain ⟨h1, h2, h3, h4, h5⟩ := hR
  refine ⟨Nat, fun k => [(0, int .i64 n), (3, int .i64 (512 * k))], fun _ => [], fun k => (512 * k : Int) ≤ R, fun k => R.toNat - 512 * k,
    ⟨0, [], by omega, lehN _, ⟨leI rfl, leI rfl, trivial⟩⟩, ?_⟩
  intro k hk
  have hk : (512 * k : Int) ≤ R := hk
  refine ⟨fun c => ?_, fun c => ?_⟩
  · have f1 : (512 * k : Int) < n := yes c
    have e1 : IntKind.i64.wrap ((512 * k : Int) + 512) = 512 * ((k + 1 : Nat) : Int) := by rw [w64 (by omega) (by omega)]; omega
    exact ⟨trivial, k + 1, [], by show (512 * ((k + 1 : Nat) : Int)) ≤ R; omega, by show R.toNat - 512 * (k + 1) < R.toNat - 512 * k; omega, lehN _, ⟨leI rfl, leI e1, trivial⟩⟩
  · have f1 : ¬ (512 * k : Int) < n := no c
    have := h5 (512 * k) (by omega) (by omega) (by omega)
    exact ⟨[], [], _, lehN _, leI (by omega), rfl, rfl⟩

set_option maxRecDepth 10000 in
theorem trimR_prog (xs : List Int) (hl : xs.length ≤ 281474976710656) : ACalls Tryd.prog 72 [.roI .u8 xs, int .u8 0] [] (fun r h => (∃ k, k ≤ xs.length ∧ r = .roI .u8 (xs.take k) ∧ (∀ i, k ≤ i → i < xs.length → xs.getD i 0 = 0) ∧ (0 < k → xs.getD (k - 1) 0 ≠ 0)) ∧ h = []) := by
  refine rcalls Tryd.func72 rfl (by decide) ?_
  refine ⟨Nat, fun k => [(0, .roI .u8 (xs.take k)), (1, int .u8 0)], fun _ => [], fun k => k ≤ xs.length ∧ ∀ i, k ≤ i → i < xs.length → xs.getD i 0 = 0, fun k => k,
    ⟨xs.length, [], ⟨Nat.le_refl _, fun i h1 h2 => by omega⟩, lehN _, ⟨leRo (by rw [List.take_length]), leI rfl, trivial⟩⟩, ?_⟩
  rintro k ⟨hk, hz⟩
  have hlen : (xs.take k).length = k := by rw [List.length_take]; omega
  have e1 : 0 < k → IntKind.i64.wrap (((xs.take k).length : Int) - 1) = ((k - 1 : Nat) : Int) := fun h => by rw [hlen, w64 (by omega) (by omega)]; omega
  have gd : 0 < k → (xs.take k).getD (k - 1) 0 = xs.getD (k - 1) 0 := fun h => by
    rw [List.getD_eq_getElem?_getD, List.getElem?_take, if_pos (by omega), List.getD_eq_getElem?_getD]
  refine ⟨fun c => ?_, fun c => ?_⟩
  · have f1 : 0 < ((xs.take k).length : Int) := yes c
    have f2 : 0 < k := by omega
    have e1 := e1 f2
    have gd := gd f2
    refine ⟨⟨by rw [e1]; omega, by rw [e1]; omega⟩, ?_⟩
    refine ⟨fun c2 => ?_, fun c2 => ?_⟩
    · have f3 : (xs.take k).getD (IntKind.i64.wrap (((xs.take k).length : Int) - 1)).toNat 0 = 0 := yes c2
      rw [e1, Int.toNat_natCast, gd] at f3
      refine ⟨⟨by rw [e1]; omega, by rw [e1]; omega⟩, ?_⟩
      refine ⟨trivial, k - 1, [], ⟨by omega, fun i h1 h2 => ?_⟩, by show k - 1 < k; omega, lehN _, ⟨leRo ?_, leI rfl, trivial⟩⟩
      · by_cases h : i = k - 1
        · rw [h]; exact f3
        · exact hz i (by omega) h2
      · rw [e1, Int.toNat_natCast, List.take_take, List.drop_zero, Nat.min_eq_left (by omega)]
    · have f3 : ¬ (xs.take k).getD (IntKind.i64.wrap (((xs.take k).length : Int) - 1)).toNat 0 = 0 := no c2
      rw [e1, Int.toNat_natCast, gd] at f3
      exact ⟨[], [], _, lehN _, .same _ trivial, ⟨k, hk, rfl, hz, fun _ => f3⟩, rfl⟩
  · have f1 : ¬ 0 < ((xs.take k).length : Int) := no c
    exact ⟨[], [], _, lehN _, .same _ trivial, ⟨k, hk, rfl, hz, fun _ => by omega⟩, rfl⟩

set_option maxRecDepth 10000 in
theorem trimL_prog (xs : List Int) (hl : xs.length ≤ 281474976710656) : ACalls Tryd.prog 71 [.roI .u8 xs, int .u8 0] [] (fun r h => (∃ k, k ≤ xs.length ∧ r = .roI .u8 (xs.drop k) ∧ (∀ i, i < k → xs.getD i 0 = 0) ∧ (k < xs.length → xs.getD k 0 ≠ 0)) ∧ h = []) := by
  refine rcalls Tryd.func71 rfl (by decide) ?_
  refine ⟨Nat, fun k => [(0, .roI .u8 (xs.drop k)), (1, int .u8 0)], fun _ => [], fun k => k ≤ xs.length ∧ ∀ i, i < k → xs.getD i 0 = 0, fun k => xs.length - k,
    ⟨0, [], ⟨Nat.zero_le _, fun i h1 => by omega⟩, lehN _, ⟨leRo rfl, leI rfl, trivial⟩⟩, ?_⟩
  rintro k ⟨hk, hz⟩
  have hlen : (xs.drop k).length = xs.length - k := by rw [List.length_drop]
  have gd : k < xs.length → (xs.drop k).getD 0 0 = xs.getD k 0 := fun h => by
    rw [List.getD_eq_getElem?_getD, List.getElem?_drop, List.getD_eq_getElem?_getD]; rfl
  refine ⟨fun c => ?_, fun c => ?_⟩
  · have f1 : 0 < ((xs.drop k).length : Int) := yes c
    have f2 : k < xs.length := by omega
    have gd := gd f2
    refine ⟨⟨by omega, by omega⟩, ?_⟩
    refine ⟨fun c2 => ?_, fun c2 => ?_⟩
    · have f3 : (xs.drop k).getD 0 0 = 0 := yes c2
      rw [gd] at f3
      refine ⟨⟨by omega, by omega⟩, ?_⟩
      refine ⟨trivial, k + 1, [], ⟨by omega, fun i h1 => ?_⟩, by show xs.length - (k + 1) < xs.length - k; omega, lehN _, ⟨leRo ?_, leI rfl, trivial⟩⟩
      · by_cases h : i = k
        · rw [h]; exact f3
        · exact hz i (by omega)
      · rw [List.take_length, List.drop_drop]; rfl
    · have f3 : ¬ (xs.drop k).getD 0 0 = 0 := no c2
      rw [gd] at f3
      refine ⟨fun c3 => ?_, fun c3 => ?_⟩
      · have := yes c3; omega
      exact ⟨[], [], _, lehN _, .same _ trivial, ⟨k, hk, rfl, hz, fun _ => f3⟩, rfl⟩
  · have f1 : ¬ 0 < ((xs.drop k).length : Int) := no c
    refine ⟨fun c3 => ?_, fun c3 => ?_⟩
    · refine ⟨[], [], _, lehN _, .nilI .u8, ⟨k, hk, ?_, hz, fun _ => by omega⟩, rfl⟩
      rw [List.eq_nil_of_length_eq_zero (l := xs.drop k) (by omega)]
    · have := no c3; omega

theorem trimR_eq {xs : List Int} {k : Nat} (h : k ≤ xs.length ∧ (∀ i, k ≤ i → i < xs.length → xs.getD i 0 = 0) ∧ (0 < k → xs.getD (k - 1) 0 ≠ 0)) : k = nameN xs := by
  obtain ⟨h1, h2, h3⟩ := h
  have e : nameN xs = trimN xs k := trimN_zero xs.length h1 fun j a b => h2 j a b
  have hle := trimN_le xs k
  rcases Nat.eq_zero_or_pos k with h0 | h0
  · omega
  · have := trimN_gt (h3 h0) k (by omega)
    omega
theorem trimR_prog' (xs : List Int) (hl : xs.length ≤ 281474976710656) : ACalls Tryd.prog 72 [.roI .u8 xs, int .u8 0] [] (fun r h => r = .roI .u8 (xs.take (nameN xs)) ∧ h = []) :=
  (trimR_prog xs hl).mono fun r h ⟨⟨k, h1, h2, h3, h4⟩, h5⟩ => ⟨by rw [h2, trimR_eq ⟨h1, h3, h4⟩], h5⟩

set_option maxRecDepth 10000 in
theorem trim_prog (xs : List Int) (hl : xs.length ≤ 281474976710656) : ACalls Tryd.prog 54 [.roI .u8 xs, str ⟨#[0]⟩] [] (fun r h => (∃ ys : List Int, r = .roI .u8 ys ∧ (ys.length = 0 ↔ ∀ i, i < xs.length → xs.getD i 0 = 0)) ∧ h = []) := by
  have c1 := trimR_prog' xs hl
  have hN : nameN xs ≤ xs.length := trimN_le _ _
  have hlen : (xs.take (nameN xs)).length = nameN xs := by rw [List.length_take]; omega
  have c2 := trimL_prog (xs.take (nameN xs)) (by omega)
  have gd : ∀ i, i < nameN xs → (xs.take (nameN xs)).getD i 0 = xs.getD i 0 := fun i hi => by
    rw [List.getD_eq_getElem?_getD, List.getElem?_take, if_pos hi, List.getD_eq_getElem?_getD]
  have gz : ∀ i, nameN xs ≤ i → i < xs.length → xs.getD i 0 = 0 := fun i h1 h2 => Classical.byContradiction fun h => by
    have : i < nameN xs := trimN_gt h xs.length h2
    omega
  generalize xs.take (nameN xs) = Y at *
  generalize nameN xs = N at *
  refine rcalls Tryd.func54 rfl (by decide) ?_
  refine ⟨fun c => ?_, fun c => ?_⟩
  · have f1 : (xs.length : Int) = 0 := yes c
    exact ⟨[], [], _, lehN _, .nilI .u8, ⟨[], rfl, fun _ i hi => by omega, fun _ => rfl⟩, rfl⟩
  have f1 : ¬ (xs.length : Int) = 0 := no c
  refine ⟨fun c2 => absurd (yes c2) (by decide), fun _ => ?_⟩
  refine ⟨fun _ => ?_, fun e => absurd rfl (no e)⟩
  refine ⟨⟨by decide, by decide⟩, ?_⟩
  refine ⟨fun _ => ?_, fun e => absurd (by decide) (no e)⟩
  refine .inr ⟨6, by decide +kernel, ?_⟩
  refine ⟨_, rfl, ?_⟩
  refine ⟨_, rfl, ?_⟩
  refine ⟨_, ⟨⟨by decide, by decide⟩, rfl⟩, ?_⟩
  refine ⟨_, ⟨[], _, c1, by rintro r h ⟨rfl, rfl⟩; exact ⟨.inl rfl, rfl, rfl⟩⟩, ?_⟩
  refine ⟨_, rfl, ?_⟩
  refine ⟨_, ⟨⟨by decide, by decide⟩, rfl⟩, ?_⟩
  refine ⟨[], _, c2, ?_⟩
  rintro r hh ⟨⟨k, h1, rfl, h3, h4⟩, rfl⟩
  refine ⟨.inl rfl, ?_⟩
  refine ⟨[], [], _, lehN _, .same _ trivial, ⟨Y.drop k, rfl, fun h i hi => ?_, fun h => ?_⟩, rfl⟩
  · rw [List.length_drop] at h
    rcases Nat.lt_or_ge i N with g | g
    · rw [← gd i g]; exact h3 i (by omega)
    · exact gz i g hi
  · rw [List.length_drop]
    rcases Nat.lt_or_ge k Y.length with g | g
    · exact absurd ((gd k (by omega)).trans (h k (by omega))) (h4 g)
    · omega

set_option maxRecDepth 10000 in
theorem trim_nil : ACalls Tryd.prog 54 [.raw (.slice none 0 0), str ⟨#[0]⟩] [] (fun r h => r = .raw (.slice none 0 0) ∧ h = []) := by
  refine rcalls Tryd.func54 rfl (by decide) ?_
  refine ⟨fun c => ?_, fun c => absurd rfl (no c)⟩
  exact ⟨[], [], _, lehN _, .raw _, rfl, rfl⟩

set_option maxRecDepth 10000 in
theorem blank_prog (xs : List Int) (hl : xs.length ≤ 281474976710656) : ACalls Tryd.prog 28 [.roI .u8 xs] [] (fun r h => r = bool (decide (∀ i, i < xs.length → xs.getD i 0 = 0)) ∧ h = []) := by
  have c1 := trim_prog xs hl
  refine rcalls Tryd.func28 rfl (by decide) ?_
  refine ⟨[], _, c1, ?_⟩
  rintro r hh ⟨⟨ys, rfl, e⟩, rfl⟩
  refine ⟨.inl rfl, ?_⟩
  refine ⟨[], [], _, lehN _, leP ?_, rfl, rfl⟩
  rw [← e]; omega

set_option maxRecDepth 10000 in
theorem blank_nil : ACalls Tryd.prog 28 [.raw (.slice none 0 0)] [] (fun r h => r = .tt ∧ h = []) := by
  have c1 := trim_nil
  refine rcalls Tryd.func28 rfl (by decide) ?_
  refine ⟨[], _, c1, ?_⟩
  rintro r hh ⟨rfl, rfl⟩
  refine ⟨.inl rfl, ?_⟩
  exact ⟨[], [], _, lehN _, leTT rfl, rfl, rfl⟩


set_option maxHeartbeats 2000000 in
set_option maxRecDepth 10000 in
theorem rounds_prog (n : Int) (b : List Int) (hn : -9223372036854775808 ≤ n ∧ n < 9223372036854775808) (hb : ∀ x ∈ b, 0 ≤ x ∧ x < 256) (hl : b.length ≤ 281474976710656) :
    ACalls Tryd.prog 9 [int .i64 n, .roI .u8 b] [] (fun r h => r = .tt ∧ h = []) := by
  obtain ⟨N, eN, hN⟩ : ∃ N : Int, Int.tmod n 100000 = N ∧ -100000 < N ∧ N < 100000 := by
    have h1 := Int.tmod_lt_of_pos n (b := 100000) (by decide)
    have h2 := Int.lt_tmod_of_pos n (b := 100000) (by decide)
    exact ⟨_, rfl, h2, h1⟩
  have h1 := round_prog (n.tmod 100000) (by omega)
  have h2 := round_ref (n.tmod 100000) (by omega)
  have h3 := blank_prog b hl
  have h4 := blank_nil
  have hR : 0 ≤ rndZ (n.tmod 100000) ∧ rndZ (n.tmod 100000) < 200000 ∧ n.tmod 100000 ≤ rndZ (n.tmod 100000) ∧ rndZ (n.tmod 100000) % 512 = 0 ∧ (rndZ (n.tmod 100000) = 0 ∨ rndZ (n.tmod 100000) - 512 < n.tmod 100000) := by
    unfold rndZ
    rw [eN]
    refine ⟨by omega, by omega, by omega, by omega, by omega⟩
  generalize rndZ (n.tmod 100000) = R at *
  refine rcalls Tryd.func9 rfl (by decide) ?_
  refine ⟨[], _, hd_awake, ?_⟩
  rintro r hh ⟨rfl, rfl⟩
  refine ⟨.inl rfl, ?_⟩
  refine ⟨by decide, ?_⟩
  refine ⟨[], _, h1, ?_⟩
  rintro r hh ⟨rfl, rfl⟩
  refine ⟨.inl rfl, ?_⟩
  refine ⟨Nat, fun k => [(0, int .i64 n), (1, .roI .u8 b), (5, .tt), (6, int .i64 R), (7, bool (decide (∀ i, i < k → b.getD i 0 = 0))), (8, int .i64 k)], fun _ => [], fun k => k ≤ b.length, fun k => b.length - k,
    ⟨0, [], Nat.zero_le _, lehN _, ⟨leI rfl, leRo rfl, .tt, leI rfl, ?_, leI rfl, trivial⟩⟩, ?_⟩
  · exact leTB (decide_eq_true fun i hi => by omega)
  intro k hk
  have hk : k ≤ b.length := hk
  refine ⟨fun c => ?_, fun c => ?_⟩
  · have f1 : (k : Int) < b.length := yes c
    have e1 : IntKind.i64.wrap ((k : Int) + 1) = ((k + 1 : Nat) : Int) := by rw [w64 (by omega) (by omega)]; omega
    refine ⟨fun c2 => ?_, fun c2 => ?_⟩
    · have f2 := yes c2
      refine ⟨⟨by omega, by omega⟩, ?_⟩
      refine ⟨trivial, k + 1, [], by show k + 1 ≤ b.length; omega, by show b.length - (k + 1) < b.length - k; omega, lehN _, ⟨leI rfl, leRo rfl, .tt, leI rfl, leP ?_, leI e1, trivial⟩⟩
      show b.getD (k : Int).toNat 0 = 0 ↔ _
      rw [Int.toNat_natCast]
      exact ⟨fun h i hi => if e : i = k then e ▸ h else f2 i (by omega), fun h => h k (Nat.lt_succ_self k)⟩
    · have f2 := no c2
      refine ⟨trivial, k + 1, [], by show k + 1 ≤ b.length; omega, by show b.length - (k + 1) < b.length - k; omega, lehN _, ⟨leI rfl, leRo rfl, .tt, leI rfl, leFP fun h => f2 fun i hi => h i (by omega), leI e1, trivial⟩⟩
  · have f1 : ¬ (k : Int) < b.length := no c
    obtain rfl : k = b.length := by omega
    refine ⟨by decide, ?_⟩
    refine ⟨[], _, h2, ?_⟩
    rintro r hh ⟨rfl, rfl⟩
    refine ⟨.inl rfl, ?_⟩
    obtain ⟨r1, r2, r3, r4, r5⟩ := hR
    have r4 : R.tmod 512 = 0 := by rw [Int.tmod_eq_emod_of_nonneg r1]; exact r4
    refine ⟨fun _ => ?_, fun e => absurd rfl (no e)⟩
    refine ⟨by decide, ?_⟩
    refine ⟨fun _ => ?_, fun e => absurd r4 (no e)⟩
    refine ⟨by decide, ?_⟩
    refine ⟨fun _ => ?_, fun e => absurd r3 (no e)⟩
    refine ⟨fun _ => ?_, fun e => absurd r1 (no e)⟩
    refine ⟨fun c => ?_, fun c => ?_⟩
    · refine ⟨[], _, h3, ?_⟩
      rintro r hh ⟨rfl, rfl⟩
      refine ⟨.inl rfl, ?_⟩
      refine ⟨fun _ => ?_, fun e => absurd (beq_iff_eq.2 rfl) (by rw [e]; decide)⟩
      refine ⟨[], _, h4, ?_⟩
      rintro r hh ⟨rfl, rfl⟩
      refine ⟨.inl rfl, ?_⟩
      exact ⟨[], [], .tt, lehN _, .tt, rfl, rfl⟩
    · refine ⟨by decide, ?_⟩
      refine ⟨fun _ => ?_, fun e => ?_⟩
      · refine ⟨[], _, h3, ?_⟩
        rintro r hh ⟨rfl, rfl⟩
        refine ⟨.inl rfl, ?_⟩
        refine ⟨fun _ => ?_, fun e => absurd (beq_iff_eq.2 rfl) (by rw [e]; decide)⟩
        refine ⟨[], _, h4, ?_⟩
        rintro r hh ⟨rfl, rfl⟩
        refine ⟨.inl rfl, ?_⟩
        exact ⟨[], [], .tt, lehN _, .tt, rfl, rfl⟩
      · have g := no e
        have f3 : ¬ R = 0 := no c
        rw [w64 (by omega) (by omega)] at g
        omega
end
end Go.Proofs.YtkchfbnkdpdbkaaDoor.Hd
