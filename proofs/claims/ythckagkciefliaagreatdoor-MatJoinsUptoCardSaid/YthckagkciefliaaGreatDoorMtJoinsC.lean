/-
  MatJoins: what the pledge joins and writes is what the reference joins and writes, and so is what is read back. For every input of bulk up to 1048576; the listed variables of the library are laid as the text of the program lays them (the tie of the card).
-/
import Derived.Test.YthckagkciefliaaGreatDoorMtRef
import Derived.Test.YthckagkciefliaaGreatDoorVcRow
import Derived.Test.YthckagkciefliaaGreatDoorVcOpen
import Derived.Test.YthckagkciefliaaGreatDoorMtOpen
import Derived.Test.YthckagkciefliaaGreatDoorRow
import Derived.Test.YthckagkciefliaaGreatDoorTie
import Derived.Test.YthckagkciefliaaGreatDoorCards
import Derived.ProofKit
import Derived.OpenShut
import Derived.LaidMore
import Derived.Lay
import Derived.SevenTiedAt
import Derived.Deep.DeepHandedRow
import Derived.JoinedCond
set_option linter.unusedVariables false
namespace Go.Proofs.YthckagkciefliaaGreatDoor.Mt
open Go AL Hx Dt Vc

open Go.ChangeShapes Go.WideShapes Go.ChangeAt Go.RowKit
set_option maxRecDepth 100000 in
theorem matJoins_lifted (os : Os) (started : os.Started) (H : Type) (enc : TypeId × Value → H) (F : Stop.Interp) :
    ReturnsInHanded {} Tryz.checked os 3 .any ((Rows.OpenSpec.upto Rows.matJoinsSpec).preRow enc Tryz.prog Tryz.f3 Rows.matJoinsUptoRow.domain false Rows.matJoinsUptoRow.laid) (((Rows.OpenSpec.upto Rows.matJoinsSpec).at F).post enc Tryz.prog Tryz.f3 false true false false) := by
  letI : Globs := numGlobs
  have hx : DataW.whole enc Tryz.prog ((World.laidAll Tryz.prog os Rows.matJoinsUptoRow.laid).forCall (fun _ _ => 0) ⟨#[], #[.slice none 0 0, .slice none 0 0, .string .empty], []⟩).memory Tryz.f3.params.toList Rows.matJoinsSpec.vars false #[(.slice none 0 0 : Value), (.slice none 0 0 : Value), (.string .empty : Value)].toList 8 = some ([.nil, .nil, .lit (.string [])], [], []) := by kernel_rfl
  refine returnsInHanded_of_row (C := Tryz.checked) (s := Rows.OpenSpec.upto Rows.matJoinsSpec) own started (by kernel_rfl) Tryz.func3
    ⟨World.laidAll Tryz.prog os Rows.matJoinsUptoRow.laid, fun _ _ => 0, ⟨#[], #[.slice none 0 0, .slice none 0 0, .string .empty], []⟩, World.laidAll_os _ _ _, World.shaped_of_ZipB (by kernel_rfl) (by kernel_rfl), rfl, (Input.okWide_of_okWideB (by kernel_rfl)).2,
      OpenSpec.preRow_of_cond 8 hx (by kernel_rfl) (fun k hk => by cases hk; kernel_rfl) (by kernel_rfl) (by rw [MakeChecks.laidMetH_plain _ _ _ (by kernel_rfl)]; exact laidMet_laidAll _ (by kernel_rfl) (by kernel_rfl)), by
        simp only [Assume.holds]
        exact ⟨by simp, by simp, fun _ => Modest.zero, by simp, by simp⟩⟩ ?_
  intro W base args ds gs before hval0 hW hcnd hcond hsz hL _ _
  have hval : ∀ (j : Nat) t v, Tryz.f3.params[j]? = some t → args[j]? = some v → Value.okWide Tryz.prog W .any base t v := hval0
  have hW' := hW
  have hlt : ∀ x ∈ before, x.block < W.heap.size := fun x hx => hW.lt x hx
  obtain ⟨p, q, hA0, hV, rfl, hfz, hnd⟩ := hW
  have hA : DataW.TrodAll enc Tryz.prog W 0 (fun _ => true) true Tryz.f3.params.toList args.toList ds p := hA0
  rw [Tryz.params3] at hA hval hsz
  obtain ⟨v0, v1, v2, d0, d1, d2, p0, p1, p2, rfl, rfl, rfl, h0, h1, h2⟩ := trodAll_three hA
  obtain ⟨rfl, rfl⟩ := trodVars_none hV
  clear hA0 hval0
  obtain ⟨x0, w0, hd0, dd0⟩ := open_mat (e := 37) (e2 := 35) (by kernel_rfl) (by kernel_rfl) (by kernel_rfl) Tryz.underlying35 (by kernel_rfl) (by kernel_rfl) (by kernel_rfl) (by kernel_rfl) (by kernel_rfl) ⟨rfl, rfl⟩ (hval 0 _ v0 rfl rfl) h0 (fun x hx => hlt x (by simp [hx]))
  obtain ⟨x1, w1, hd1, dd1⟩ := open_mat (e := 37) (e2 := 35) (by kernel_rfl) (by kernel_rfl) (by kernel_rfl) Tryz.underlying35 (by kernel_rfl) (by kernel_rfl) (by kernel_rfl) (by kernel_rfl) (by kernel_rfl) ⟨rfl, rfl⟩ (hval 1 _ v1 rfl rfl) h1 (fun x hx => hlt x (by simp [hx]))
  obtain ⟨x2, rfl, e2, rfl, g2⟩ := Go.ChangeMaps.open_string (by kernel_rfl) (hval 2 _ v2 rfl rfl) h2
  have l0 : x0.length ≤ reachBytes := row_len (e := 37) hsz (j := 0) rfl rfl (by kernel_rfl) (by kernel_rfl) dd0
  have l1 : x1.length ≤ reachBytes := row_len (e := 37) hsz (j := 1) rfl rfl (by kernel_rfl) (by kernel_rfl) dd1
  have l2 : x2.size ≤ reachBytes := by
    have := sized_string hsz (j := 2) rfl (by rw [e2]; rfl)
    simpa using this
  have hq2 : x2.size ≤ 1048576 := by
    have hk := of_decide_eq_true (hcond _ rfl)
    simp only [List.append_nil, Rows.uptoBulkAll, e2, Rows.uptoBulk] at hk
    have e102 : x2.data.toList.length = x2.size := rfl
    omega
  have h47 := reachBytes_lt
  refine (calls_of_acalls (joins_mat numG x0 x1 x2 (by omega) (by omega) (by omega)) rfl (fun i x hi => ?_) (glob_vec hL)).mono fun e W' he => ?_
  · match i, hi with
    | 0, hi => exact ⟨_, rfl, by cases hi; exact hd0⟩
    | 1, hi => exact ⟨_, rfl, by cases hi; exact hd1⟩
    | 2, hi => exact ⟨_, rfl, by cases hi; rfl⟩
  obtain ⟨v, r, h', L', S', rfl, ⟨rfl, rfl⟩, hv, hB⟩ := he
  cases hv
  exact ⟨_, rfl, law_post laidOut (by intro t ht; rw [Tryz.params3] at ht; revert t; exact (by decide +kernel)) (t := 4) rfl (by kernel_rfl) rfl rfl hW' hB⟩

theorem matJoins_row : Rows.MatJoinsUptoSaid :=
  OpenClaim.holds_of_cond 3 Tryz.f3 rfl rfl rfl rfl rfl rfl rfl ⟨rfl, rfl, rfl, rfl, rfl⟩ rfl rfl rfl rfl rfl (by kernel_rfl) Tryz.func3 (by kernel_rfl)
    (of_decide_eq_true (by kernel_rfl)) (by unfold Func.isWrapper; first | (rw [if_pos (by decide +kernel)]; kernel_rfl) | (rw [if_neg (by decide +kernel)]; exact ⟨rfl, rfl⟩))
    (fun os started H enc _ F => by rw [OpenClaim.pre_eq_preRow]; exact matJoins_lifted os started H enc F)

theorem matJoins_card : Rows.MatJoinsUptoCardSaid :=
  Claim7.holds_tied_plain_at .later [] [.data, .data, .data, .data, .sentinel, .sentinel, .pinned] true _ true matJoins_row (fun _ h => by cases h) (by kernel_rfl) (fun _ h => by cases h) matJoinsUpto_row_tie rfl ⟨rfl, rfl⟩ (by kernel_rfl) rfl
    (fun f fn hf hfn => by
      obtain rfl : f = 3 := Option.some.inj ((show Tryz.prog.funcNamed "bindle/bindlelaw11.MatJoins" = some 3 by kernel_rfl).symm.trans hf) |>.symm
      obtain rfl : fn = Tryz.f3 := (Option.some.inj (Tryz.func3.symm.trans hfn)).symm
      refine ⟨by kernel_rfl, fun j t ht => ?_⟩
      have hm : t ∈ Tryz.f3.params.toList := by
        have := Array.mem_of_getElem? ht
        exact Array.mem_toList_iff.2 this
      have hall : (Tryz.f3.params.toList.all fun u => !Tryz.prog.wantsStandIn u) = true := by kernel_rfl
      show Tryz.prog.wantsStandIn t = false
      simpa using List.all_eq_true.1 hall t hm)
    (by kernel_rfl)

end Go.Proofs.YthckagkciefliaaGreatDoor.Mt
