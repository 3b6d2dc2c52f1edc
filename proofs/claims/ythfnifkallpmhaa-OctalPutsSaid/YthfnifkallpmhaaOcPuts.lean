/-
  OctalPuts: for every number, width and bytes the law answers true, and what it was given reads as it did. No condition.
-/
import Derived.Test.YthfnifkallpmhaaOcGetR
import Derived.Test.YthfnifkallpmhaaOcAwake
import Derived.Test.YthfnifkallpmhaaRow
set_option linter.unusedVariables false
namespace Go.Proofs.Ythfnifkallpmhaa.Oc
open Go AL

set_option maxHeartbeats 1000000 in
set_option maxRecDepth 10000 in
theorem puts_prog (n w : Int) (b : List Int) (hn : n < 9223372036854775808) (hb : ∀ x ∈ b, 0 ≤ x ∧ x < 256) (hl : b.length ≤ 9223372036854775807) : ACalls Try.prog 3 [int .i64 n, int .i64 w, .roI .u8 b] [] (fun r h => r = .tt ∧ h = []) := by
  refine rcalls Try.func3 rfl (by decide) ?_
  refine ⟨[], _, awake_prog, ?_⟩
  rintro r h ⟨rfl, rfl⟩
  refine ⟨.inl rfl, ?_⟩
  refine ⟨[], _, put_prog n w, ?_⟩
  rintro r h ⟨rfl, rfl⟩
  refine ⟨.inl rfl, ?_⟩
  refine ⟨[], _, put_ref n w hn, ?_⟩
  rintro r h ⟨rfl, rfl⟩
  refine ⟨.inl rfl, ?_⟩
  refine ⟨[], _, get_prog b hb hl, ?_⟩
  rintro r h ⟨rfl, rfl⟩
  refine ⟨.inl rfl, ?_⟩
  refine ⟨[], _, get_ref b hb hl, ?_⟩
  rintro r h ⟨rfl, rfl⟩
  refine ⟨.inl rfl, ?_⟩
  refine ⟨fun _ => ?_, fun e => absurd rfl (no e)⟩
  refine ⟨fun _ => ?_, fun e => absurd rfl (no e)⟩
  refine ⟨fun _ => ?_, fun e => absurd rfl (no e)⟩
  exact ⟨[], [], .tt, leh0, leTT (by simp), rfl, rfl⟩


open Go.ChangeShapes Go.WideShapes Go.ChangeAt Go.RowKit
set_option maxRecDepth 100000 in
theorem puts_lifted (os : Os) (started : os.Started) (H : Type) (enc : TypeId × Value → H) :
    ReturnsInHanded {} Try.checked os 3 .any (Rows.octalPutsSpec.pre6 enc Try.prog Try.f3 Rows.octalPutsRow.domain false) (Rows.octalPutsSpec.post enc Try.prog Try.f3 false true false false) := by
  refine returnsInHanded_of_change (C := Try.checked) own started (by kernel_rfl) Try.func3
    (ChangeSpec.witness6 (enc := enc) (C := Try.checked) false ⟨#[], #[.int .i64 0, .int .i64 0, .slice none 0 0], []⟩ 8 (by kernel_rfl) (by kernel_rfl) (by kernel_rfl) (by kernel_rfl)) ?_
  intro W base args ds gs before hval0 hW hcnd _
  have hval : ∀ (j : Nat) t v, Try.f3.params[j]? = some t → args[j]? = some v → Value.okWide Try.prog W .any base t v := hval0
  have hW' := hW
  have hlt : ∀ x ∈ before, x.block < W.heap.size := fun x hx => hW.lt x hx
  obtain ⟨p, q, hA0, hV, rfl, hfz, hnd⟩ := hW
  have hA : DataW.TrodAll enc Try.prog W 0 (fun _ => true) true Try.f3.params.toList args.toList ds p := hA0
  rw [Try.params3] at hA hval
  obtain ⟨v0, v1, v2, d0, d1, d2, p0, p1, p2, rfl, rfl, rfl, h0, h1, h2⟩ := trodAll_three hA
  obtain ⟨rfl, rfl⟩ := trodVars_none hV
  clear hA0 hval0
  obtain ⟨n, rfl, e0, rfl, wn⟩ := open_int (k := .i64) (by kernel_rfl) (hval 0 _ v0 rfl rfl) h0
  obtain ⟨w, rfl, e1, rfl, ww⟩ := open_int (k := .i64) (by kernel_rfl) (hval 1 _ v1 rfl rfl) h1
  obtain ⟨xs, hx, hl, hd⟩ := open_roI (k := .u8) (e := 5) (by kernel_rfl) (by kernel_rfl) (by kernel_rfl) (hval 2 _ v2 rfl rfl) h2 (fun x hx => hlt x (by simp [hx]))
  refine (calls_of_acalls (puts_prog n w xs (wf_i64 wn).2 (fun x hm => wf_u8 (hx x hm)) hl) rfl (fun i x hi => ?_)).mono fun e W' he => ?_
  · match i, hi with
    | 0, hi => exact ⟨_, rfl, by cases hi; rfl⟩
    | 1, hi => exact ⟨_, rfl, by cases hi; rfl⟩
    | 2, hi => exact ⟨_, rfl, by cases hi; exact hd⟩
  obtain ⟨v, r, h', L', S', rfl, ⟨rfl, rfl⟩, hv, hB⟩ := he
  cases hv
  exact ⟨_, rfl, law_post laidOut (by intro t ht; rw [Try.params3] at ht; revert t; exact (by decide +kernel)) (t := 4) rfl (by kernel_rfl) rfl rfl hW' hB⟩

theorem puts_holds : Rows.OctalPutsSaid :=
  OpenClaim.holds_of_wide 3 Try.f3 rfl rfl rfl rfl rfl rfl rfl ⟨rfl, rfl, rfl, rfl, rfl⟩ rfl rfl rfl rfl rfl (by kernel_rfl) Try.func3 (by kernel_rfl)
    (of_decide_eq_true (by kernel_rfl)) (by unfold Func.isWrapper; first | (rw [if_pos (by decide +kernel)]; kernel_rfl) | (rw [if_neg (by decide +kernel)]; exact ⟨rfl, rfl⟩))
    (fun os started H enc _ => puts_lifted os started H enc)

end Go.Proofs.Ythfnifkallpmhaa.Oc
