/-
  OctalWidths: for every number, text and width the law answers true, and what it was given reads as it did. No condition.
-/
import Derived.Test.YthfnifkallpmhaaOcGetR
import Derived.Test.YthfnifkallpmhaaOcAwake
import Derived.Test.YthfnifkallpmhaaRow
set_option linter.unusedVariables false
namespace Go.Proofs.Ythfnifkallpmhaa.Oc
open Go AL

theorem wide (w : Int) : 0 ≤ (IntKind.u64.wrap w).tmod 11 ∧ (IntKind.u64.wrap w).tmod 11 ≤ 10 := by
  have h : 0 ≤ IntKind.u64.wrap w := by rw [IntKind.wrap_u64]; omega
  rw [Int.tmod_eq_emod_of_nonneg h]
  omega

theorem top_facts (W : Int) (h0 : 2 ≤ W) (h1 : W ≤ 12) : ∃ T, IntKind.i64.wrap (1 * 2 ^ min (3 * (W - 1)).toNat IntKind.i64.bits) = T ∧ IntKind.i64.wrap (T - 1) = T - 1 ∧ putE T W = 8 ∧ putE (T - 1) W = 0 ∧
    (putR (T - 1) W).length = W ∧ (putR (T - 1) W).getD 0 0 = 55 := by
  have key : ∀ m ∈ List.range 11, (fun W : Int => (fun T : Int => IntKind.i64.wrap (T - 1) = T - 1 ∧ putE T W = 8 ∧ putE (T - 1) W = 0 ∧ (putR (T - 1) W).length = W ∧ (putR (T - 1) W).getD 0 0 = 55)
    (IntKind.i64.wrap (1 * 2 ^ min (3 * (W - 1)).toNat IntKind.i64.bits))) ((m : Int) + 2) := by decide +kernel
  have h := key (W - 2).toNat (by simp; omega)
  rw [show (((W - 2).toNat : Nat) : Int) + 2 = W by omega] at h
  exact ⟨_, rfl, h⟩

set_option maxHeartbeats 1000000 in
set_option maxRecDepth 10000 in
theorem widths_prog (n : Int) (s : ByteArray) (w : Int) (hs : s.size ≤ 9223372036854775807) (hw0 : -9223372036854775808 ≤ w) (hw1 : w < 9223372036854775808) : ACalls Try.prog 6 [int .i64 n, str s, int .i64 w] [] (fun r h => r = .tt ∧ h = []) := by
  refine rcalls Try.func6 rfl (by decide) ?_
  refine ⟨[], _, awake_prog, ?_⟩
  rintro r h ⟨rfl, rfl⟩
  refine ⟨.inl rfl, ?_⟩
  refine ⟨[], _, put_prog n w, ?_⟩
  rintro r h ⟨rfl, rfl⟩
  refine ⟨.inl rfl, ?_⟩
  refine ⟨[], _, text_prog s w hs, ?_⟩
  rintro r h ⟨rfl, rfl⟩
  refine ⟨.inl rfl, ?_⟩
  refine ⟨by decide, ?_⟩
  obtain ⟨W, eW, hW⟩ : ∃ W, IntKind.i64.wrap (2 + IntKind.i64.wrap ((IntKind.u64.wrap w).tmod 11)) = W ∧ 2 ≤ W ∧ W ≤ 12 := ⟨_, rfl, by
    have h1 := wide w
    rw [w64 (n := (IntKind.u64.wrap w).tmod 11) (by omega) (by omega), w64 (by omega) (by omega)]
    omega⟩
  have e1 : IntKind.i64.wrap (W - 1) = W - 1 := w64 (by omega) (by omega)
  have e2 : IntKind.i64.wrap (3 * (W - 1)) = 3 * (W - 1) := w64 (by omega) (by omega)
  obtain ⟨T, eT, e3, p1, p2, p3, p4⟩ := top_facts W hW.1 hW.2
  refine ⟨by rw [eW, e1, e2]; omega, ?_⟩
  rw [eW, e1, e2]
  refine ⟨[], _, put_prog _ W, ?_⟩
  rintro r h ⟨rfl, rfl⟩
  refine ⟨.inl rfl, ?_⟩
  rw [eT]
  refine ⟨[], _, put_prog _ W, ?_⟩
  rw [e3]
  rintro r h ⟨rfl, rfl⟩
  refine ⟨.inl rfl, ?_⟩
  generalize putR (T - 1) W = x1 at *
  generalize putE (T - 1) W = x2 at *
  generalize putR T W = x3 at *
  generalize putE T W = x4 at *
  have hp : putE n w = 1 ↔ (w < 2 ∨ 12 < w) := by unfold putE; split <;> (try split) <;> simp <;> omega
  have ht : textE s w = 1 ↔ (w < 1 ∨ 255 < w) := by unfold textE; split <;> (try split) <;> simp <;> omega
  generalize putR n w = x5 at *
  generalize putE n w = x6 at *
  generalize textR s w = x7 at *
  generalize textE s w = x8 at *
  refine ⟨fun a => ?_, fun a => ?_⟩
  all_goals refine ⟨fun _ => ?_, fun b => by exfalso; simp at a b; omega⟩
  all_goals refine ⟨fun c => ?_, fun c => ?_⟩
  all_goals refine ⟨fun _ => ?_, fun b => by exfalso; simp at c b; omega⟩
  all_goals refine ⟨fun _ => ?_, fun b => absurd p1 (no b)⟩
  all_goals refine ⟨fun _ => ?_, fun b => absurd p2 (no b)⟩
  all_goals refine ⟨fun _ => ?_, fun b => absurd p3 (no b)⟩
  all_goals refine ⟨by omega, ?_⟩
  all_goals exact ⟨[], [], .tt, leh0, leTT (decide_eq_true p4), rfl, rfl⟩

open Go.ChangeShapes Go.WideShapes Go.ChangeAt Go.RowKit
set_option maxRecDepth 100000 in
theorem widths_lifted (os : Os) (started : os.Started) (H : Type) (enc : TypeId × Value → H) :
    ReturnsInHanded {} Try.checked os 6 .any (Rows.octalWidthsSpec.pre6 enc Try.prog Try.f6 Rows.octalWidthsRow.domain false) (Rows.octalWidthsSpec.post enc Try.prog Try.f6 false true false false) := by
  refine returnsInHanded_of_change (C := Try.checked) own started (by kernel_rfl) Try.func6
    (ChangeSpec.witness6 (enc := enc) (C := Try.checked) false ⟨#[], #[.int .i64 0, .string ByteArray.empty, .int .i64 0], []⟩ 8 (by kernel_rfl) (by kernel_rfl) (by kernel_rfl) (by kernel_rfl)) ?_
  intro W base args ds gs before hval0 hW hcnd _
  have hval : ∀ (j : Nat) t v, Try.f6.params[j]? = some t → args[j]? = some v → Value.okWide Try.prog W .any base t v := hval0
  have hW' := hW
  have hlt : ∀ x ∈ before, x.block < W.heap.size := fun x hx => hW.lt x hx
  obtain ⟨p, q, hA0, hV, rfl, hfz, hnd⟩ := hW
  have hA : DataW.TrodAll enc Try.prog W 0 (fun _ => true) true Try.f6.params.toList args.toList ds p := hA0
  rw [Try.params6] at hA hval
  obtain ⟨v0, v1, v2, d0, d1, d2, p0, p1, p2, rfl, rfl, rfl, h0, h1, h2⟩ := trodAll_three hA
  obtain ⟨rfl, rfl⟩ := trodVars_none hV
  clear hA0 hval0
  obtain ⟨n, rfl, e0, rfl, wn⟩ := open_int (k := .i64) (by kernel_rfl) (hval 0 _ v0 rfl rfl) h0
  obtain ⟨s, rfl, e1, rfl, hs⟩ := Go.ChangeMaps.open_string (by kernel_rfl) (hval 1 _ v1 rfl rfl) h1
  obtain ⟨w, rfl, e2, rfl, ww⟩ := open_int (k := .i64) (by kernel_rfl) (hval 2 _ v2 rfl rfl) h2
  refine (calls_of_acalls (widths_prog n s w hs (wf_i64 ww).1 (wf_i64 ww).2) rfl (fun i x hi => ?_)).mono fun e W' he => ?_
  · match i, hi with
    | 0, hi => exact ⟨_, rfl, by cases hi; rfl⟩
    | 1, hi => exact ⟨_, rfl, by cases hi; rfl⟩
    | 2, hi => exact ⟨_, rfl, by cases hi; rfl⟩
  obtain ⟨v, r, h', L', S', rfl, ⟨rfl, rfl⟩, hv, hB⟩ := he
  cases hv
  exact ⟨_, rfl, law_post laidOut (by intro t ht; rw [Try.params6] at ht; revert t; exact (by decide +kernel)) (t := 4) rfl (by kernel_rfl) rfl rfl hW' hB⟩

theorem widths_holds : Rows.OctalWidthsSaid :=
  OpenClaim.holds_of_wide 6 Try.f6 rfl rfl rfl rfl rfl rfl rfl ⟨rfl, rfl, rfl, rfl, rfl⟩ rfl rfl rfl rfl rfl (by kernel_rfl) Try.func6 (by kernel_rfl)
    (of_decide_eq_true (by kernel_rfl)) (by unfold Func.isWrapper; first | (rw [if_pos (by decide +kernel)]; kernel_rfl) | (rw [if_neg (by decide +kernel)]; exact ⟨rfl, rfl⟩))
    (fun os started H enc _ => widths_lifted os started H enc)

end Go.Proofs.Ythfnifkallpmhaa.Oc
