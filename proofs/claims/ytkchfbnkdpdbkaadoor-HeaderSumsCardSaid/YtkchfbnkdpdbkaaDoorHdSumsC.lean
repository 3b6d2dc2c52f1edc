/-
  HeaderSums: a header's sum is that of all its bytes, its own field counted as blanks; one byte alone that is turned breaks it. For every input; the listed variables of the library are laid as the text of the program lays them (the tie of the card).
-/
import Derived.Test.YtkchfbnkdpdbkaaDoorBhb
import Derived.Test.YtkchfbnkdpdbkaaDoorTie
import Derived.Test.YtkchfbnkdpdbkaaDoorCards
import Derived.ProofKit
import Derived.OpenShut
import Derived.LaidMore
import Derived.Lay
import Derived.SevenTiedAt
set_option linter.unusedVariables false
namespace Go.Proofs.YtkchfbnkdpdbkaaDoor.Hd
open Go AL

open Go.ChangeShapes Go.WideShapes Go.ChangeAt Go.RowKit
set_option maxRecDepth 100000 in
theorem headerSums_lifted (os : Os) (started : os.Started) (H : Type) (enc : TypeId × Value → H) :
    ReturnsInHanded {} Tryd.checked os 7 .any (fun w args => (Rows.headerSumsSpec.pre enc Tryd.prog Tryd.f7 Rows.headerSumsRow.domain false w args ∧ laidMetH Tryd.prog Rows.headerSumsRow.laid w) ∧
      sizedMet enc Tryd.prog Tryd.f7 (OpenSpec.ofChange Rows.headerSumsSpec) false w args) (Rows.headerSumsSpec.post enc Tryd.prog Tryd.f7 false true false false) := by
  letI : Globs := ⟨[]⟩
  refine returnsInHanded_of_change_and (C := Tryd.checked) (X := fun w _ => laidMetH Tryd.prog Rows.headerSumsRow.laid w) (fun _ _ _ hh h => h.of_heap hh) own started (by kernel_rfl) Tryd.func7
    (ChangeSpec.witness_shaped (enc := enc) (C := Tryd.checked) (os := os) (X := fun w _ => laidMetH Tryd.prog Rows.headerSumsRow.laid w) false (World.laidAll Tryd.prog os Rows.headerSumsRow.laid) #[.string .empty, .int .i64 0, .int .u16 0] 8 (World.laidAll_os _ _ _)
      (World.shaped_of_ZipB (by kernel_rfl) (by kernel_rfl)) (by kernel_rfl) (by kernel_rfl) (by kernel_rfl)
      (by rw [MakeChecks.laidMetH_plain _ _ _ (by kernel_rfl)]; exact laidMet_laidAll _ (by kernel_rfl) (by kernel_rfl))) ?_
  intro W base args ds gs before hval0 hW hcnd hsz hL _
  have hval : ∀ (j : Nat) t v, Tryd.f7.params[j]? = some t → args[j]? = some v → Value.okWide Tryd.prog W .any base t v := hval0
  have hW' := hW
  have hlt : ∀ x ∈ before, x.block < W.heap.size := fun x hx => hW.lt x hx
  obtain ⟨p, q, hA0, hV, rfl, hfz, hnd⟩ := hW
  have hA : DataW.TrodAll enc Tryd.prog W 0 (fun _ => true) true Tryd.f7.params.toList args.toList ds p := hA0
  rw [Tryd.params7] at hA hval hsz
  obtain ⟨v0, v1, v2, d0, d1, d2, p0, p1, p2, rfl, rfl, rfl, h0, h1, h2⟩ := trodAll_three hA
  obtain ⟨rfl, rfl⟩ := trodVars_none hV
  clear hA0 hval0
  obtain ⟨x0, rfl, e0, rfl, g0⟩ := Go.ChangeMaps.open_string (by kernel_rfl) (hval 0 _ v0 rfl rfl) h0
  obtain ⟨x1, rfl, e1, rfl, w1⟩ := open_int (k := .i64) (by kernel_rfl) (hval 1 _ v1 rfl rfl) h1
  obtain ⟨x2, rfl, e2, rfl, w2⟩ := open_int (k := .u16) (by kernel_rfl) (hval 2 _ v2 rfl rfl) h2
  have l0 : x0.size ≤ reachBytes := by
    have := sized_string hsz (j := 0) rfl (by rw [e0]; rfl)
    simpa using this
  have h47 := reachBytes_lt
  refine (calls_of_acalls (sums_prog x0 x1 x2 (by omega) (wf_i64 w1) (wf_u16 w2)) rfl (fun i x hi => ?_) glob_none).mono fun e W' he => ?_
  · match i, hi with
    | 0, hi => exact ⟨_, rfl, by cases hi; rfl⟩
    | 1, hi => exact ⟨_, rfl, by cases hi; rfl⟩
    | 2, hi => exact ⟨_, rfl, by cases hi; rfl⟩
  obtain ⟨v, r, h', L', S', rfl, ⟨rfl, rfl⟩, hv, hB⟩ := he
  cases hv
  exact ⟨_, rfl, law_post laidOut (by intro t ht; rw [Tryd.params7] at ht; revert t; exact (by decide +kernel)) (t := 4) rfl (by kernel_rfl) rfl rfl hW' hB⟩

theorem headerSums_row : Rows.HeaderSumsSaid :=
  OpenClaim.holds_of_wide 7 Tryd.f7 rfl rfl rfl rfl rfl rfl rfl ⟨rfl, rfl, rfl, rfl, rfl⟩ rfl rfl rfl rfl rfl (by kernel_rfl) Tryd.func7 (by kernel_rfl)
    (of_decide_eq_true (by kernel_rfl)) (by unfold Func.isWrapper; first | (rw [if_pos (by decide +kernel)]; kernel_rfl) | (rw [if_neg (by decide +kernel)]; exact ⟨rfl, rfl⟩))
    (fun os started H enc _ => headerSums_lifted os started H enc)

theorem headerSums_card : Rows.HeaderSumsCardSaid :=
  Claim7.holds_tied_plain_at .later [] [.data, .pinned] true _ true headerSums_row (fun _ h => by cases h) (by kernel_rfl) (fun _ h => by cases h) headerSums_row_tie rfl ⟨rfl, rfl⟩ (by kernel_rfl) rfl
    (fun f fn hf hfn => by
      obtain rfl : f = 7 := Option.some.inj ((show Tryd.prog.funcNamed "bindle/bindlelaw07.HeaderSums" = some 7 by kernel_rfl).symm.trans hf) |>.symm
      obtain rfl : fn = Tryd.f7 := (Option.some.inj (Tryd.func7.symm.trans hfn)).symm
      refine ⟨by kernel_rfl, fun j t ht => ?_⟩
      have hm : t ∈ Tryd.f7.params.toList := by
        have := Array.mem_of_getElem? ht
        exact Array.mem_toList_iff.2 this
      have hall : (Tryd.f7.params.toList.all fun u => !Tryd.prog.wantsStandIn u) = true := by kernel_rfl
      show Tryd.prog.wantsStandIn t = false
      simpa using List.all_eq_true.1 hall t hm)
    (by kernel_rfl)

end Go.Proofs.YtkchfbnkdpdbkaaDoor.Hd
