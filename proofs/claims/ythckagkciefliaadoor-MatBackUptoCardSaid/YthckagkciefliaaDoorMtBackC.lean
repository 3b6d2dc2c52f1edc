/-
  MatBack: a matrix that may be is parsed as it was; what is parsed may be, and has the very text. For every input of bulk up to 1048576; the listed variables of the library are laid as the text of the program lays them (the tie of the card).
-/
import Derived.Test.YthckagkciefliaaDoorMtLaws
import Derived.Test.YthckagkciefliaaDoorVcRow
import Derived.Test.YthckagkciefliaaDoorVcOpen
import Derived.Test.YthckagkciefliaaDoorMtOpen
import Derived.Test.YthckagkciefliaaDoorRow
import Derived.Test.YthckagkciefliaaDoorTie
import Derived.Test.YthckagkciefliaaDoorCards
import Derived.ProofKit
import Derived.OpenShut
import Derived.LaidMore
import Derived.Lay
import Derived.SevenTiedAt
import Derived.Deep.DeepHandedRow
import Derived.JoinedCond
set_option linter.unusedVariables false
namespace Go.Proofs.YthckagkciefliaaDoor.Mt
open Go AL Hx Dt Vc

open Go.ChangeShapes Go.WideShapes Go.ChangeAt Go.RowKit
set_option maxRecDepth 100000 in
theorem matBack_lifted (os : Os) (started : os.Started) (H : Type) (enc : TypeId × Value → H) (F : Stop.Interp) :
    ReturnsInHanded {} Tryd.checked os 3 .any ((Rows.OpenSpec.upto Rows.matBackSpec).preRow enc Tryd.prog Tryd.f3 Rows.matBackUptoRow.domain false Rows.matBackUptoRow.laid) (((Rows.OpenSpec.upto Rows.matBackSpec).at F).post enc Tryd.prog Tryd.f3 false true false false) := by
  letI : Globs := numGlobs
  have hx : DataW.whole enc Tryd.prog ((World.laidAll Tryd.prog os Rows.matBackUptoRow.laid).forCall (fun _ _ => 0) ⟨#[], #[.slice none 0 0, .string .empty, .int .u8 0], []⟩).memory Tryd.f3.params.toList Rows.matBackSpec.vars false #[(.slice none 0 0 : Value), (.string .empty : Value), (.int .u8 0 : Value)].toList 8 = some ([.nil, .lit (.string []), .lit (.int .u8 0)], [], []) := by kernel_rfl
  refine returnsInHanded_of_row (C := Tryd.checked) (s := Rows.OpenSpec.upto Rows.matBackSpec) own started (by kernel_rfl) Tryd.func3
    ⟨World.laidAll Tryd.prog os Rows.matBackUptoRow.laid, fun _ _ => 0, ⟨#[], #[.slice none 0 0, .string .empty, .int .u8 0], []⟩, World.laidAll_os _ _ _, World.shaped_of_ZipB (by kernel_rfl) (by kernel_rfl), rfl, (Input.okWide_of_okWideB (by kernel_rfl)).2,
      OpenSpec.preRow_of_cond 8 hx (by kernel_rfl) (fun k hk => by cases hk; kernel_rfl) (by kernel_rfl) (by rw [MakeChecks.laidMetH_plain _ _ _ (by kernel_rfl)]; exact laidMet_laidAll _ (by kernel_rfl) (by kernel_rfl)), by
        simp only [Assume.holds]
        exact ⟨by simp, by simp, fun _ => Modest.zero, by simp, by simp⟩⟩ ?_
  intro W base args ds gs before hval0 hW hcnd hcond hsz hL _ _
  have hval : ∀ (j : Nat) t v, Tryd.f3.params[j]? = some t → args[j]? = some v → Value.okWide Tryd.prog W .any base t v := hval0
  have hW' := hW
  have hlt : ∀ x ∈ before, x.block < W.heap.size := fun x hx => hW.lt x hx
  obtain ⟨p, q, hA0, hV, rfl, hfz, hnd⟩ := hW
  have hA : DataW.TrodAll enc Tryd.prog W 0 (fun _ => true) true Tryd.f3.params.toList args.toList ds p := hA0
  rw [Tryd.params3] at hA hval hsz
  obtain ⟨v0, v1, v2, d0, d1, d2, p0, p1, p2, rfl, rfl, rfl, h0, h1, h2⟩ := trodAll_three hA
  obtain ⟨rfl, rfl⟩ := trodVars_none hV
  clear hA0 hval0
  obtain ⟨x0, w0, hd0, dd0⟩ := open_mat (e := 33) (e2 := 45) (by kernel_rfl) (by kernel_rfl) (by kernel_rfl) Tryd.underlying45 (by kernel_rfl) (by kernel_rfl) (by kernel_rfl) (by kernel_rfl) (by kernel_rfl) ⟨rfl, rfl⟩ (hval 0 _ v0 rfl rfl) h0 (fun x hx => hlt x (by simp [hx]))
  obtain ⟨x1, rfl, e1, rfl, g1⟩ := Go.ChangeMaps.open_string (by kernel_rfl) (hval 1 _ v1 rfl rfl) h1
  obtain ⟨x2, rfl, e2, rfl, w2⟩ := open_int (k := .u8) (by kernel_rfl) (hval 2 _ v2 rfl rfl) h2
  have l0 : x0.length ≤ reachBytes := row_len (e := 33) hsz (j := 0) rfl rfl (by kernel_rfl) (by kernel_rfl) dd0
  have l1 : x1.size ≤ reachBytes := by
    have := sized_string hsz (j := 1) rfl (by rw [e1]; rfl)
    simpa using this
  have hq1 : x1.size ≤ 1048576 := by
    have hk := of_decide_eq_true (hcond _ rfl)
    simp only [List.append_nil, Rows.uptoBulkAll, e1, Rows.uptoBulk] at hk
    have e101 : x1.data.toList.length = x1.size := rfl
    omega
  have h47 := reachBytes_lt
  refine (calls_of_acalls (back_mat numG x0 x1 x2 (by omega) (by omega) (wf_u8 w2)) rfl (fun i x hi => ?_) (glob_vec hL)).mono fun e W' he => ?_
  · match i, hi with
    | 0, hi => exact ⟨_, rfl, by cases hi; exact hd0⟩
    | 1, hi => exact ⟨_, rfl, by cases hi; rfl⟩
    | 2, hi => exact ⟨_, rfl, by cases hi; rfl⟩
  obtain ⟨v, r, h', L', S', rfl, ⟨rfl, rfl⟩, hv, hB⟩ := he
  cases hv
  exact ⟨_, rfl, law_post laidOut (by intro t ht; rw [Tryd.params3] at ht; revert t; exact (by decide +kernel)) (t := 4) rfl (by kernel_rfl) rfl rfl hW' hB⟩

theorem matBack_row : Rows.MatBackUptoSaid :=
  OpenClaim.holds_of_cond 3 Tryd.f3 rfl rfl rfl rfl rfl rfl rfl ⟨rfl, rfl, rfl, rfl, rfl⟩ rfl rfl rfl rfl rfl (by kernel_rfl) Tryd.func3 (by kernel_rfl)
    (of_decide_eq_true (by kernel_rfl)) (by unfold Func.isWrapper; first | (rw [if_pos (by decide +kernel)]; kernel_rfl) | (rw [if_neg (by decide +kernel)]; exact ⟨rfl, rfl⟩))
    (fun os started H enc _ F => by rw [OpenClaim.pre_eq_preRow]; exact matBack_lifted os started H enc F)

theorem matBack_card : Rows.MatBackUptoCardSaid :=
  Claim7.holds_tied_plain_at .later [] [.data, .data, .data, .data, .sentinel, .sentinel, .pinned] true _ true matBack_row (fun _ h => by cases h) (by kernel_rfl) (fun _ h => by cases h) matBackUpto_row_tie rfl ⟨rfl, rfl⟩ (by kernel_rfl) rfl
    (fun f fn hf hfn => by
      obtain rfl : f = 3 := Option.some.inj ((show Tryd.prog.funcNamed "bindle/bindlelaw11.MatBack" = some 3 by kernel_rfl).symm.trans hf) |>.symm
      obtain rfl : fn = Tryd.f3 := (Option.some.inj (Tryd.func3.symm.trans hfn)).symm
      refine ⟨by kernel_rfl, fun j t ht => ?_⟩
      have hm : t ∈ Tryd.f3.params.toList := by
        have := Array.mem_of_getElem? ht
        exact Array.mem_toList_iff.2 this
      have hall : (Tryd.f3.params.toList.all fun u => !Tryd.prog.wantsStandIn u) = true := by kernel_rfl
      show Tryd.prog.wantsStandIn t = false
      simpa using List.all_eq_true.1 hall t hm)
    (by kernel_rfl)

end Go.Proofs.YthckagkciefliaaDoor.Mt
