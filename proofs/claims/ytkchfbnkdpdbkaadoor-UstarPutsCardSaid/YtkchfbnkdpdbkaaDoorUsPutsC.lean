/-
  UstarPuts: any files' archive, or the error, and any archive's size: the program answers as the document does. For every input; the listed variables of the library are laid as the text of the program lays them (the tie of the card).
-/
import Derived.Test.YtkchfbnkdpdbkaaDoorBub
import Derived.Test.YtkchfbnkdpdbkaaDoorTie
import Derived.Test.YtkchfbnkdpdbkaaDoorCards
import Derived.ProofKit
import Derived.OpenShut
import Derived.LaidMore
import Derived.Lay
import Derived.SevenTiedAt
set_option linter.unusedVariables false
namespace Go.Proofs.YtkchfbnkdpdbkaaDoor.Us
open Go AL

open Go.ChangeShapes Go.WideShapes Go.ChangeAt Go.RowKit
set_option maxRecDepth 100000 in
theorem ustarPuts_lifted (os : Os) (started : os.Started) (H : Type) (enc : TypeId × Value → H) :
    ReturnsInHanded {} Tryd.checked os 16 .any (fun w args => (Rows.ustarPutsSpec.pre enc Tryd.prog Tryd.f16 Rows.ustarPutsRow.domain false w args ∧ laidMetH Tryd.prog Rows.ustarPutsRow.laid w) ∧
      sizedMet enc Tryd.prog Tryd.f16 (OpenSpec.ofChange Rows.ustarPutsSpec) false w args) (Rows.ustarPutsSpec.post enc Tryd.prog Tryd.f16 false true false false) := by
  letI : Globs := ⟨[]⟩
  refine returnsInHanded_of_change_and (C := Tryd.checked) (X := fun w _ => laidMetH Tryd.prog Rows.ustarPutsRow.laid w) (fun _ _ _ hh h => h.of_heap hh) own started (by kernel_rfl) Tryd.func16
    (ChangeSpec.witness_shaped (enc := enc) (C := Tryd.checked) (os := os) (X := fun w _ => laidMetH Tryd.prog Rows.ustarPutsRow.laid w) false (World.laidAll Tryd.prog os Rows.ustarPutsRow.laid) #[.slice none 0 0] 8 (World.laidAll_os _ _ _)
      (World.shaped_of_ZipB (by kernel_rfl) (by kernel_rfl)) (by kernel_rfl) (by kernel_rfl) (by kernel_rfl)
      (by rw [MakeChecks.laidMetH_plain _ _ _ (by kernel_rfl)]; exact laidMet_laidAll _ (by kernel_rfl) (by kernel_rfl))) ?_
  intro W base args ds gs before hval0 hW hcnd hsz hL _
  have hval : ∀ (j : Nat) t v, Tryd.f16.params[j]? = some t → args[j]? = some v → Value.okWide Tryd.prog W .any base t v := hval0
  have hW' := hW
  have hlt : ∀ x ∈ before, x.block < W.heap.size := fun x hx => hW.lt x hx
  obtain ⟨p, q, hA0, hV, rfl, hfz, hnd⟩ := hW
  have hA : DataW.TrodAll enc Tryd.prog W 0 (fun _ => true) true Tryd.f16.params.toList args.toList ds p := hA0
  rw [Tryd.params16] at hA hval hsz
  obtain ⟨v0, d0, rfl, rfl, h0⟩ := trodAll_one hA
  obtain ⟨rfl, rfl⟩ := trodVars_none hV
  clear hA0 hval0
  obtain ⟨x0, hd0, dd0, bt0, fit0⟩ := open_files (by kernel_rfl) fiT.choose_spec (hval 0 _ v0 rfl rfl) h0 (fun x hx => hlt x (by simp [hx]))
  have l0 : x0.length ≤ reachBytes := row_len (e := 64) hsz (j := 0) rfl rfl (by kernel_rfl) (by kernel_rfl) dd0
  have k0 := fit0 reachBytes fun n hn => by
    have := List.all_eq_true.1 hsz _ (DataW.weights_mem_each (j := 0) rfl rfl n hn)
    simpa using this
  have h47 := reachBytes_lt
  refine (calls_of_acalls (puts_uprog x0 (fun f hf => ⟨by have := (k0 f hf).1; omega, bt0 f hf⟩) (fun f hf => by have := (k0 f hf).2; omega) (by omega)) rfl (fun i x hi => ?_) glob_none).mono fun e W' he => ?_
  · match i, hi with
    | 0, hi => exact ⟨_, rfl, by cases hi; exact hd0⟩
  obtain ⟨v, r, h', L', S', rfl, ⟨rfl, rfl⟩, hv, hB⟩ := he
  cases hv
  exact ⟨_, rfl, law_post laidOut (by intro t ht; rw [Tryd.params16] at ht; revert t; exact (by decide +kernel)) (t := 4) rfl (by kernel_rfl) rfl rfl hW' hB⟩

theorem ustarPuts_row : Rows.UstarPutsSaid :=
  OpenClaim.holds_of_wide 16 Tryd.f16 rfl rfl rfl rfl rfl rfl rfl ⟨rfl, rfl, rfl, rfl, rfl⟩ rfl rfl rfl rfl rfl (by kernel_rfl) Tryd.func16 (by kernel_rfl)
    (of_decide_eq_true (by kernel_rfl)) (by unfold Func.isWrapper; first | (rw [if_pos (by decide +kernel)]; kernel_rfl) | (rw [if_neg (by decide +kernel)]; exact ⟨rfl, rfl⟩))
    (fun os started H enc _ => ustarPuts_lifted os started H enc)

theorem ustarPuts_card : Rows.UstarPutsCardSaid :=
  Claim7.holds_tied_plain_at .later [] [.data, .pinned] true _ true ustarPuts_row (fun _ h => by cases h) (by kernel_rfl) (fun _ h => by cases h) ustarPuts_row_tie rfl ⟨rfl, rfl⟩ (by kernel_rfl) rfl
    (fun f fn hf hfn => by
      obtain rfl : f = 16 := Option.some.inj ((show Tryd.prog.funcNamed "bindle/bindlelaw08.UstarPuts" = some 16 by kernel_rfl).symm.trans hf) |>.symm
      obtain rfl : fn = Tryd.f16 := (Option.some.inj (Tryd.func16.symm.trans hfn)).symm
      refine ⟨by kernel_rfl, fun j t ht => ?_⟩
      have hm : t ∈ Tryd.f16.params.toList := by
        have := Array.mem_of_getElem? ht
        exact Array.mem_toList_iff.2 this
      have hall : (Tryd.f16.params.toList.all fun u => !Tryd.prog.wantsStandIn u) = true := by kernel_rfl
      show Tryd.prog.wantsStandIn t = false
      simpa using List.all_eq_true.1 hall t hm)
    (by kernel_rfl)

end Go.Proofs.YtkchfbnkdpdbkaaDoor.Us
