/-
  the law DiskNobody
-/
import Derived.Test.YtflclafbieokiaaDkNo
import Derived.Test.YtflclafbieokiaaRow
import Derived.ProofKit
import Derived.OpenShut
import Derived.LaidMore
import Derived.Lay
import Derived.Deep.DeepHandedRow
import Derived.JoinedCond
set_option linter.unusedVariables false
namespace Go.Proofs.Ytflclafbieokiaa.Dk
open Go AL

open Go.ChangeShapes Go.WideShapes Go.ChangeAt Go.RowKit
set_option maxRecDepth 100000 in
theorem diskNobody_lifted (os : Os) (started : os.Started) (H : Type) (enc : TypeId × Value → H) (F : Stop.Interp) :
    ReturnsInHanded {} Try.checked os 8 .any ((Rows.OpenSpec.upto Rows.diskNobodySpec).preRow enc Try.prog Try.f8 Rows.diskNobodyUptoRow.domain false Rows.diskNobodyUptoRow.laid) (((Rows.OpenSpec.upto Rows.diskNobodySpec).at F).post enc Try.prog Try.f8 false true false false) := by
  letI : Globs := ⟨[]⟩
  have hx : DataW.whole enc Try.prog ((World.laidAll Try.prog os Rows.diskNobodyUptoRow.laid).forCall (fun _ _ => 0) ⟨#[], #[.string .empty, .slice none 0 0], []⟩).memory Try.f8.params.toList Rows.diskNobodySpec.vars false #[(.string .empty : Value), (.slice none 0 0 : Value)].toList 8 = some ([.lit (.string []), .nil], [], []) := by kernel_rfl
  refine returnsInHanded_of_row (C := Try.checked) (s := Rows.OpenSpec.upto Rows.diskNobodySpec) own started (by kernel_rfl) Try.func8
    ⟨World.laidAll Try.prog os Rows.diskNobodyUptoRow.laid, fun _ _ => 0, ⟨#[], #[.string .empty, .slice none 0 0], []⟩, World.laidAll_os _ _ _, World.shaped_of_ZipB (by kernel_rfl) (by kernel_rfl), rfl, (Input.okWide_of_okWideB (by kernel_rfl)).2,
      OpenSpec.preRow_of_cond 8 hx (by kernel_rfl) (fun k hk => by cases hk; kernel_rfl) (by kernel_rfl) (by rw [MakeChecks.laidMetH_plain _ _ _ (by kernel_rfl)]; exact laidMet_laidAll _ (by kernel_rfl) (by kernel_rfl)), by
        simp only [Assume.holds]
        exact ⟨by simp, by simp, fun _ => Modest.zero, by simp, by simp⟩⟩ ?_
  intro W base args ds gs before hval0 hW hcnd hcond hsz hL _ _
  have hval : ∀ (j : Nat) t v, Try.f8.params[j]? = some t → args[j]? = some v → Value.okWide Try.prog W .any base t v := hval0
  have hW' := hW
  have hlt : ∀ x ∈ before, x.block < W.heap.size := fun x hx => hW.lt x hx
  obtain ⟨p, q, hA0, hV, rfl, hfz, hnd⟩ := hW
  have hA : DataW.TrodAll enc Try.prog W 0 (fun _ => true) true Try.f8.params.toList args.toList ds p := hA0
  rw [Try.params8] at hA hval hsz
  obtain ⟨v0, v1, d0, d1, p0, p1, rfl, rfl, rfl, h0, h1⟩ := trodAll_two hA
  obtain ⟨rfl, rfl⟩ := trodVars_none hV
  clear hA0 hval0
  obtain ⟨x0, rfl, e0, rfl, g0⟩ := Go.ChangeMaps.open_string (by kernel_rfl) (hval 0 _ v0 rfl rfl) h0
  obtain ⟨x1, hx1, g1, hd1, dd1⟩ := open_roI (k := .u8) (e := 5) (by kernel_rfl) (by kernel_rfl) (by kernel_rfl) (hval 1 _ v1 rfl rfl) h1 (fun x hx => hlt x (by simp [hx]))
  have l1 : x1.length ≤ reachBytes := roI_len (e := 5) hsz (j := 1) rfl rfl (by kernel_rfl) (by kernel_rfl) dd1
  have h47 := reachBytes_lt
  refine (calls_of_acalls (nobody_p x0 x1 (fun x hm => wf_u8 (hx1 x hm)) (by omega)) rfl (fun i x hi => ?_) glob_none).mono fun e W' he => ?_
  · match i, hi with
    | 0, hi => exact ⟨_, rfl, by cases hi; rfl⟩
    | 1, hi => exact ⟨_, rfl, by cases hi; exact hd1⟩
  obtain ⟨v, r, h', L', S', rfl, ⟨rfl, rfl⟩, hv, hB⟩ := he
  cases hv
  exact ⟨_, rfl, law_post laidOut (by intro t ht; rw [Try.params8] at ht; revert t; exact (by decide +kernel)) (t := 4) rfl (by kernel_rfl) rfl rfl hW' hB⟩

theorem diskNobody_row : Rows.DiskNobodyUptoSaid :=
  OpenClaim.holds_of_cond 8 Try.f8 rfl rfl rfl rfl rfl rfl rfl ⟨rfl, rfl, rfl, rfl, rfl⟩ rfl rfl rfl rfl rfl (by kernel_rfl) Try.func8 (by kernel_rfl)
    (of_decide_eq_true (by kernel_rfl)) (by unfold Func.isWrapper; first | (rw [if_pos (by decide +kernel)]; kernel_rfl) | (rw [if_neg (by decide +kernel)]; exact ⟨rfl, rfl⟩))
    (fun os started H enc _ F => by rw [OpenClaim.pre_eq_preRow]; exact diskNobody_lifted os started H enc F)

end Go.Proofs.Ytflclafbieokiaa.Dk
