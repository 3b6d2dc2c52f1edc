/-
  MatOrder: in whatever order rows are raised, and matrices joined, the matrix is the same. For every input; the listed variables of the library are laid as the text of the program lays them (the tie of the card).
-/
import Derived.Test.YthckagkciefliaaDoorMtOrd
import Derived.Test.YthckagkciefliaaDoorVcRow
import Derived.Test.YthckagkciefliaaDoorVcOpen
import Derived.Test.YthckagkciefliaaDoorMtOpen
import Derived.Test.YthckagkciefliaaDoorRow
import Derived.Test.YthckagkciefliaaDoorTie
import Derived.Test.YthckagkciefliaaDoorCards
import Derived.ProofKit
import Derived.OpenShut
import Derived.LaidMore
import Derived.Lay
import Derived.SevenTiedAt
set_option linter.unusedVariables false
namespace Go.Proofs.YthckagkciefliaaDoor.Mt
open Go AL Hx Dt Vc

open Go.ChangeShapes Go.WideShapes Go.ChangeAt Go.RowKit
set_option maxRecDepth 100000 in
theorem matOrder_lifted (os : Os) (started : os.Started) (H : Type) (enc : TypeId × Value → H) :
    ReturnsInHanded {} Tryd.checked os 5 .any (fun w args => (Rows.matOrderSpec.pre enc Tryd.prog Tryd.f5 Rows.matOrderRow.domain false w args ∧ laidMetH Tryd.prog Rows.matOrderRow.laid w) ∧
      sizedMet enc Tryd.prog Tryd.f5 (OpenSpec.ofChange Rows.matOrderSpec) false w args) (Rows.matOrderSpec.post enc Tryd.prog Tryd.f5 false true false false) := by
  letI : Globs := numGlobs
  refine returnsInHanded_of_change_and (C := Tryd.checked) (X := fun w _ => laidMetH Tryd.prog Rows.matOrderRow.laid w) (fun _ _ _ hh h => h.of_heap hh) own started (by kernel_rfl) Tryd.func5
    (ChangeSpec.witness_shaped (enc := enc) (C := Tryd.checked) (os := os) (X := fun w _ => laidMetH Tryd.prog Rows.matOrderRow.laid w) false (World.laidAll Tryd.prog os Rows.matOrderRow.laid) #[.int .u8 0, .slice none 0 0, .int .u8 0] 8 (World.laidAll_os _ _ _)
      (World.shaped_of_ZipB (by kernel_rfl) (by kernel_rfl)) (by kernel_rfl) (by kernel_rfl) (by kernel_rfl)
      (by rw [MakeChecks.laidMetH_plain _ _ _ (by kernel_rfl)]; exact laidMet_laidAll _ (by kernel_rfl) (by kernel_rfl))) ?_
  intro W base args ds gs before hval0 hW hcnd hsz hL _
  have hval : ∀ (j : Nat) t v, Tryd.f5.params[j]? = some t → args[j]? = some v → Value.okWide Tryd.prog W .any base t v := hval0
  have hW' := hW
  have hlt : ∀ x ∈ before, x.block < W.heap.size := fun x hx => hW.lt x hx
  obtain ⟨p, q, hA0, hV, rfl, hfz, hnd⟩ := hW
  have hA : DataW.TrodAll enc Tryd.prog W 0 (fun _ => true) true Tryd.f5.params.toList args.toList ds p := hA0
  rw [Tryd.params5] at hA hval hsz
  obtain ⟨v0, v1, v2, d0, d1, d2, p0, p1, p2, rfl, rfl, rfl, h0, h1, h2⟩ := trodAll_three hA
  obtain ⟨rfl, rfl⟩ := trodVars_none hV
  clear hA0 hval0
  obtain ⟨x0, rfl, e0, rfl, w0⟩ := open_int (k := .u8) (by kernel_rfl) (hval 0 _ v0 rfl rfl) h0
  obtain ⟨x1, w1, hd1, dd1⟩ := open_rs (e := 41) (e2 := 45) (tv := 33) (by kernel_rfl) Tryd.underlying41 (by kernel_rfl) (by kernel_rfl) (by kernel_rfl) (by kernel_rfl) (by kernel_rfl) ⟨rfl, rfl⟩ Tryd.underlying45 (by kernel_rfl) (by kernel_rfl) (by kernel_rfl) (by kernel_rfl) (by kernel_rfl) ⟨rfl, rfl⟩ (hval 1 _ v1 rfl rfl) h1 (fun x hx => hlt x (by simp [hx]))
  obtain ⟨x2, rfl, e2, rfl, w2⟩ := open_int (k := .u8) (by kernel_rfl) (hval 2 _ v2 rfl rfl) h2
  have l1 : x1.length ≤ reachBytes := row_len (e := 41) hsz (j := 1) rfl rfl (by kernel_rfl) (by kernel_rfl) dd1
  have h47 := reachBytes_lt
  refine (calls_of_acalls (order_prog numG x0 x1 x2 (wf_u8 w0) (fun p hp => wf_u8 (w1 p hp).1) (by omega) (fun k hk => by have := (w1 _ (Mt.rs_mem hk)).2; unfold maxLen at this; omega) (wf_u8 w2)) rfl (fun i x hi => ?_) (glob_vec hL)).mono fun e W' he => ?_
  · match i, hi with
    | 0, hi => exact ⟨_, rfl, by cases hi; rfl⟩
    | 1, hi => exact ⟨_, rfl, by cases hi; exact hd1⟩
    | 2, hi => exact ⟨_, rfl, by cases hi; rfl⟩
  obtain ⟨v, r, h', L', S', rfl, ⟨rfl, rfl⟩, hv, hB⟩ := he
  cases hv
  exact ⟨_, rfl, law_post laidOut (by intro t ht; rw [Tryd.params5] at ht; revert t; exact (by decide +kernel)) (t := 4) rfl (by kernel_rfl) rfl rfl hW' hB⟩

theorem matOrder_row : Rows.MatOrderSaid :=
  OpenClaim.holds_of_wide 5 Tryd.f5 rfl rfl rfl rfl rfl rfl rfl ⟨rfl, rfl, rfl, rfl, rfl⟩ rfl rfl rfl rfl rfl (by kernel_rfl) Tryd.func5 (by kernel_rfl)
    (of_decide_eq_true (by kernel_rfl)) (by unfold Func.isWrapper; first | (rw [if_pos (by decide +kernel)]; kernel_rfl) | (rw [if_neg (by decide +kernel)]; exact ⟨rfl, rfl⟩))
    (fun os started H enc _ => matOrder_lifted os started H enc)

theorem matOrder_card : Rows.MatOrderCardSaid :=
  Claim7.holds_tied_plain_at .later [] [.data, .data, .data, .data, .sentinel, .sentinel, .pinned] true _ true matOrder_row (fun _ h => by cases h) (by kernel_rfl) (fun _ h => by cases h) matOrder_row_tie rfl ⟨rfl, rfl⟩ (by kernel_rfl) rfl
    (fun f fn hf hfn => by
      obtain rfl : f = 5 := Option.some.inj ((show Tryd.prog.funcNamed "bindle/bindlelaw11.MatOrder" = some 5 by kernel_rfl).symm.trans hf) |>.symm
      obtain rfl : fn = Tryd.f5 := (Option.some.inj (Tryd.func5.symm.trans hfn)).symm
      refine ⟨by kernel_rfl, fun j t ht => ?_⟩
      have hm : t ∈ Tryd.f5.params.toList := by
        have := Array.mem_of_getElem? ht
        exact Array.mem_toList_iff.2 this
      have hall : (Tryd.f5.params.toList.all fun u => !Tryd.prog.wantsStandIn u) = true := by kernel_rfl
      show Tryd.prog.wantsStandIn t = false
      simpa using List.all_eq_true.1 hall t hm)
    (by kernel_rfl)

end Go.Proofs.YthckagkciefliaaDoor.Mt
