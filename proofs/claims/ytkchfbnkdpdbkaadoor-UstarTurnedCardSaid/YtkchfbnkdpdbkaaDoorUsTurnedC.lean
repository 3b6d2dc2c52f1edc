/-
  UstarTurned: with one byte turned it is no archive, or one of other files. For every input; the listed variables of the library are laid as the text of the program lays them (the tie of the card).
-/
import Derived.Test.YtkchfbnkdpdbkaaDoorBub
import Derived.Test.YtkchfbnkdpdbkaaDoorTie
import Derived.Test.YtkchfbnkdpdbkaaDoorCards
import Derived.ProofKit
import Derived.OpenShut
import Derived.LaidMore
import Derived.Lay
import Derived.SevenTiedAt
set_option linter.unusedVariables false
namespace Go.Proofs.YtkchfbnkdpdbkaaDoor.Us
open Go AL

open Go.ChangeShapes Go.WideShapes Go.ChangeAt Go.RowKit
set_option maxRecDepth 100000 in
theorem ustarTurned_lifted (os : Os) (started : os.Started) (H : Type) (enc : TypeId × Value → H) :
    ReturnsInHanded {} Tryd.checked os 14 .any (fun w args => (Rows.ustarTurnedSpec.pre enc Tryd.prog Tryd.f14 Rows.ustarTurnedRow.domain false w args ∧ laidMetH Tryd.prog Rows.ustarTurnedRow.laid w) ∧
      sizedMet enc Tryd.prog Tryd.f14 (OpenSpec.ofChange Rows.ustarTurnedSpec) false w args) (Rows.ustarTurnedSpec.post enc Tryd.prog Tryd.f14 false true false false) := by
  letI : Globs := ⟨[]⟩
  refine returnsInHanded_of_change_and (C := Tryd.checked) (X := fun w _ => laidMetH Tryd.prog Rows.ustarTurnedRow.laid w) (fun _ _ _ hh h => h.of_heap hh) own started (by kernel_rfl) Tryd.func14
    (ChangeSpec.witness_shaped (enc := enc) (C := Tryd.checked) (os := os) (X := fun w _ => laidMetH Tryd.prog Rows.ustarTurnedRow.laid w) false (World.laidAll Tryd.prog os Rows.ustarTurnedRow.laid) #[.slice none 0 0, .int .u16 0, .int .u8 0] 8 (World.laidAll_os _ _ _)
      (World.shaped_of_ZipB (by kernel_rfl) (by kernel_rfl)) (by kernel_rfl) (by kernel_rfl) (by kernel_rfl)
      (by rw [MakeChecks.laidMetH_plain _ _ _ (by kernel_rfl)]; exact laidMet_laidAll _ (by kernel_rfl) (by kernel_rfl))) ?_
  intro W base args ds gs before hval0 hW hcnd hsz hL _
  have hval : ∀ (j : Nat) t v, Tryd.f14.params[j]? = some t → args[j]? = some v → Value.okWide Tryd.prog W .any base t v := hval0
  have hW' := hW
  have hlt : ∀ x ∈ before, x.block < W.heap.size := fun x hx => hW.lt x hx
  obtain ⟨p, q, hA0, hV, rfl, hfz, hnd⟩ := hW
  have hA : DataW.TrodAll enc Tryd.prog W 0 (fun _ => true) true Tryd.f14.params.toList args.toList ds p := hA0
  rw [Tryd.params14] at hA hval hsz
  obtain ⟨v0, v1, v2, d0, d1, d2, p0, p1, p2, rfl, rfl, rfl, h0, h1, h2⟩ := trodAll_three hA
  obtain ⟨rfl, rfl⟩ := trodVars_none hV
  clear hA0 hval0
  obtain ⟨x0, hd0, dd0, bt0, fit0⟩ := open_files (by kernel_rfl) fiT.choose_spec (hval 0 _ v0 rfl rfl) h0 (fun x hx => hlt x (by simp [hx]))
  obtain ⟨x1, rfl, e1, rfl, w1⟩ := open_int (k := .u16) (by kernel_rfl) (hval 1 _ v1 rfl rfl) h1
  obtain ⟨x2, rfl, e2, rfl, w2⟩ := open_int (k := .u8) (by kernel_rfl) (hval 2 _ v2 rfl rfl) h2
  have l0 : x0.length ≤ reachBytes := row_len (e := 64) hsz (j := 0) rfl rfl (by kernel_rfl) (by kernel_rfl) dd0
  have k0 := fit0 reachBytes fun n hn => by
    have := List.all_eq_true.1 hsz _ (DataW.weights_mem_each (j := 0) rfl rfl n hn)
    simpa using this
  have h47 := reachBytes_lt
  refine (calls_of_acalls (turned_uprog x0 x1 x2 (fun f hf => ⟨by have := (k0 f hf).1; omega, bt0 f hf⟩) (fun f hf => by have := (k0 f hf).2; omega) (by omega) (wf_u16 w1) (wf_u8 w2)) rfl (fun i x hi => ?_) glob_none).mono fun e W' he => ?_
  · match i, hi with
    | 0, hi => exact ⟨_, rfl, by cases hi; exact hd0⟩
    | 1, hi => exact ⟨_, rfl, by cases hi; rfl⟩
    | 2, hi => exact ⟨_, rfl, by cases hi; rfl⟩
  obtain ⟨v, r, h', L', S', rfl, ⟨rfl, rfl⟩, hv, hB⟩ := he
  cases hv
  exact ⟨_, rfl, law_post laidOut (by intro t ht; rw [Tryd.params14] at ht; revert t; exact (by decide +kernel)) (t := 4) rfl (by kernel_rfl) rfl rfl hW' hB⟩

theorem ustarTurned_row : Rows.UstarTurnedSaid :=
  OpenClaim.holds_of_wide 14 Tryd.f14 rfl rfl rfl rfl rfl rfl rfl ⟨rfl, rfl, rfl, rfl, rfl⟩ rfl rfl rfl rfl rfl (by kernel_rfl) Tryd.func14 (by kernel_rfl)
    (of_decide_eq_true (by kernel_rfl)) (by unfold Func.isWrapper; first | (rw [if_pos (by decide +kernel)]; kernel_rfl) | (rw [if_neg (by decide +kernel)]; exact ⟨rfl, rfl⟩))
    (fun os started H enc _ => ustarTurned_lifted os started H enc)

theorem ustarTurned_card : Rows.UstarTurnedCardSaid :=
  Claim7.holds_tied_plain_at .later [] [.data, .pinned] true _ true ustarTurned_row (fun _ h => by cases h) (by kernel_rfl) (fun _ h => by cases h) ustarTurned_row_tie rfl ⟨rfl, rfl⟩ (by kernel_rfl) rfl
    (fun f fn hf hfn => by
      obtain rfl : f = 14 := Option.some.inj ((show Tryd.prog.funcNamed "bindle/bindlelaw08.UstarTurned" = some 14 by kernel_rfl).symm.trans hf) |>.symm
      obtain rfl : fn = Tryd.f14 := (Option.some.inj (Tryd.func14.symm.trans hfn)).symm
      refine ⟨by kernel_rfl, fun j t ht => ?_⟩
      have hm : t ∈ Tryd.f14.params.toList := by
        have := Array.mem_of_getElem? ht
        exact Array.mem_toList_iff.2 this
      have hall : (Tryd.f14.params.toList.all fun u => !Tryd.prog.wantsStandIn u) = true := by kernel_rfl
      show Tryd.prog.wantsStandIn t = false
      simpa using List.all_eq_true.1 hall t hm)
    (by kernel_rfl)

end Go.Proofs.YtkchfbnkdpdbkaaDoor.Us
