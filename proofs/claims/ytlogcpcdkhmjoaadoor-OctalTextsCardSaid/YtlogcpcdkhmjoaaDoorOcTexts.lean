/-
  OctalTexts: any text as a field of any width, any bytes' text, or the error, and any bytes' sum: the program's and the document's are the same. For every input; the listed tables are laid as the program's text lays them (the card's tie).
-/
import Derived.Test.YtlogcpcdkhmjoaaDoorOcName
import Derived.Test.YtlogcpcdkhmjoaaDoorOcTextR
import Derived.Test.YtlogcpcdkhmjoaaDoorOcAwake
import Derived.Test.YtlogcpcdkhmjoaaDoorRow
import Derived.Test.YtlogcpcdkhmjoaaDoorTie
import Derived.Test.YtlogcpcdkhmjoaaDoorCards
import Derived.ProofKit
import Derived.OpenShut
import Derived.LaidMore
import Derived.Lay
import Derived.SevenTiedAt
set_option linter.unusedVariables false
namespace Go.Proofs.YtlogcpcdkhmjoaaDoor.Oc
open Go AL

set_option maxHeartbeats 1000000 in
set_option maxRecDepth 10000 in
theorem texts_prog (s : ByteArray) (w : Int) (xs : List Int) (hs : s.size ≤ 281474976710656) (hx : ∀ x ∈ xs, 0 ≤ x ∧ x < 256) (hl : xs.length ≤ 281474976710656) :
    ACalls Tryd.prog 3 [str s, int .i64 w, .roI .u8 xs] [] (fun r h => r = .tt ∧ h = []) := by
  have h1 := text_prog s w (by omega)
  have h2 := text_ref s w (by omega)
  have h3 := name_prog xs hx hl
  have h4 := name_ref xs hx hl
  have h5 := check_prog xs hx hl
  have h6 := check_ref xs hx hl
  unfold TextR at h1 h2
  unfold NameR at h3 h4
  generalize textR s w = x1 at *
  generalize textE s w = x2 at *
  generalize nameR xs = x3 at *
  generalize nameE xs = x4 at *
  generalize chk xs xs.length = x5 at *
  refine rcalls Tryd.func3 rfl (by decide) ?_
  refine ⟨[], _, awake_prog, ?_⟩
  rintro r h ⟨rfl, rfl⟩
  refine ⟨.inl rfl, ?_⟩
  refine ⟨[], _, h1, ?_⟩
  rintro r h ⟨rfl, rfl⟩
  refine ⟨.inl rfl, ?_⟩
  refine ⟨[], _, h2, ?_⟩
  rintro r h ⟨rfl, rfl⟩
  refine ⟨.inl rfl, ?_⟩
  refine ⟨[], _, h3, ?_⟩
  rintro r h ⟨rfl, rfl⟩
  refine ⟨.inl rfl, ?_⟩
  refine ⟨[], _, h4, ?_⟩
  rintro r h ⟨rfl, rfl⟩
  refine ⟨.inl rfl, ?_⟩
  refine ⟨fun _ => ?_, fun e => absurd rfl (no e)⟩
  refine ⟨fun _ => ?_, fun e => absurd rfl (no e)⟩
  refine ⟨fun _ => ?_, fun e => absurd rfl (no e)⟩
  refine ⟨fun _ => ?_, fun e => absurd rfl (no e)⟩
  refine ⟨[], _, h5, ?_⟩
  rintro r h ⟨rfl, rfl⟩
  refine ⟨.inl rfl, ?_⟩
  refine ⟨[], _, h6, ?_⟩
  rintro r h ⟨rfl, rfl⟩
  refine ⟨.inl rfl, ?_⟩
  exact ⟨[], [], .tt, leh0, leTT (decide_eq_true rfl), rfl, rfl⟩

open Go.ChangeShapes Go.WideShapes Go.ChangeAt Go.RowKit
set_option maxRecDepth 100000 in
theorem texts_lifted (os : Os) (started : os.Started) (H : Type) (enc : TypeId × Value → H) :
    ReturnsInHanded {} Tryd.checked os 3 .any (fun w args => (Rows.octalTextsSpec.pre enc Tryd.prog Tryd.f3 Rows.octalTextsRow.domain false w args ∧ laidMetH Tryd.prog Rows.octalTextsRow.laid w) ∧
      sizedMet enc Tryd.prog Tryd.f3 (OpenSpec.ofChange Rows.octalTextsSpec) false w args) (Rows.octalTextsSpec.post enc Tryd.prog Tryd.f3 false true false false) := by
  refine returnsInHanded_of_change_and (C := Tryd.checked) (X := fun w _ => laidMetH Tryd.prog Rows.octalTextsRow.laid w) (fun _ _ _ hh h => h.of_heap hh) own started (by kernel_rfl) Tryd.func3
    (ChangeSpec.witness_shaped (enc := enc) (C := Tryd.checked) (os := os) (X := fun w _ => laidMetH Tryd.prog Rows.octalTextsRow.laid w) false (World.laidAll Tryd.prog os Rows.octalTextsRow.laid) #[.string .empty, .int .i64 0, .slice none 0 0] 8 (World.laidAll_os _ _ _)
      (World.shaped_of_ZipB (by kernel_rfl) (by kernel_rfl)) (by kernel_rfl) (by kernel_rfl) (by kernel_rfl)
      (by rw [MakeChecks.laidMetH_plain _ _ _ (by kernel_rfl)]; exact laidMet_laidAll _ (by kernel_rfl) (by kernel_rfl))) ?_
  intro W base args ds gs before hval0 hW hcnd hsz hL _
  have hval : ∀ (j : Nat) t v, Tryd.f3.params[j]? = some t → args[j]? = some v → Value.okWide Tryd.prog W .any base t v := hval0
  have hW' := hW
  have hlt : ∀ x ∈ before, x.block < W.heap.size := fun x hx => hW.lt x hx
  obtain ⟨p, q, hA0, hV, rfl, hfz, hnd⟩ := hW
  have hA : DataW.TrodAll enc Tryd.prog W 0 (fun _ => true) true Tryd.f3.params.toList args.toList ds p := hA0
  rw [Tryd.params3] at hA hval hsz
  obtain ⟨v0, v1, v2, d0, d1, d2, p0, p1, p2, rfl, rfl, rfl, h0, h1, h2⟩ := trodAll_three hA
  obtain ⟨rfl, rfl⟩ := trodVars_none hV
  clear hA0 hval0
  obtain ⟨s, rfl, e0, rfl, hs0⟩ := Go.ChangeMaps.open_string (by kernel_rfl) (hval 0 _ v0 rfl rfl) h0
  obtain ⟨w, rfl, e1, rfl, ww⟩ := open_int (k := .i64) (by kernel_rfl) (hval 1 _ v1 rfl rfl) h1
  obtain ⟨xs, hx, hl, hd, hdd⟩ := open_roI (k := .u8) (e := 5) (by kernel_rfl) (by kernel_rfl) (by kernel_rfl) (hval 2 _ v2 rfl rfl) h2 (fun x hx => hlt x (by simp [hx]))
  have hlen : xs.length ≤ reachBytes := roI_len (e := 5) hsz (j := 2) rfl rfl (by kernel_rfl) (by kernel_rfl) hdd
  have hslen : s.size ≤ reachBytes := by
    have := sized_string hsz (j := 0) rfl (by rw [e0]; rfl)
    simpa using this
  have h47 := reachBytes_lt
  refine (calls_of_acalls (texts_prog s w xs (by omega) (fun x hm => wf_u8 (hx x hm)) (by omega)) rfl (fun i x hi => ?_) (fun g hg => by cases hg)).mono fun e W' he => ?_
  · match i, hi with
    | 0, hi => exact ⟨_, rfl, by cases hi; rfl⟩
    | 1, hi => exact ⟨_, rfl, by cases hi; rfl⟩
    | 2, hi => exact ⟨_, rfl, by cases hi; exact hd⟩
  obtain ⟨v, r, h', L', S', rfl, ⟨rfl, rfl⟩, hv, hB⟩ := he
  cases hv
  exact ⟨_, rfl, law_post laidOut (by intro t ht; rw [Tryd.params3] at ht; revert t; exact (by decide +kernel)) (t := 4) rfl (by kernel_rfl) rfl rfl hW' hB⟩

theorem texts_row : Rows.OctalTextsSaid :=
  OpenClaim.holds_of_wide 3 Tryd.f3 rfl rfl rfl rfl rfl rfl rfl ⟨rfl, rfl, rfl, rfl, rfl⟩ rfl rfl rfl rfl rfl (by kernel_rfl) Tryd.func3 (by kernel_rfl)
    (of_decide_eq_true (by kernel_rfl)) (by unfold Func.isWrapper; first | (rw [if_pos (by decide +kernel)]; kernel_rfl) | (rw [if_neg (by decide +kernel)]; exact ⟨rfl, rfl⟩))
    (fun os started H enc _ => texts_lifted os started H enc)

theorem texts_holds : Rows.OctalTextsCardSaid :=
  Claim7.holds_tied_plain_at .later [] [.data, .pinned] true _ true texts_row (fun _ h => by cases h) (by kernel_rfl) (fun _ h => by cases h) octalTexts_row_tie rfl ⟨rfl, rfl⟩ (by kernel_rfl) rfl
    (fun f fn hf hfn => by
      obtain rfl : f = 3 := Option.some.inj ((show Tryd.prog.funcNamed "bindle/bindlelaw05.OctalTexts" = some 3 by kernel_rfl).symm.trans hf) |>.symm
      obtain rfl : fn = Tryd.f3 := (Option.some.inj (Tryd.func3.symm.trans hfn)).symm
      refine ⟨by kernel_rfl, fun j t ht => ?_⟩
      have hm : t ∈ Tryd.f3.params.toList := by
        have := Array.mem_of_getElem? ht
        exact Array.mem_toList_iff.2 this
      have hall : (Tryd.f3.params.toList.all fun u => !Tryd.prog.wantsStandIn u) = true := by kernel_rfl
      show Tryd.prog.wantsStandIn t = false
      simpa using List.all_eq_true.1 hall t hm)
    (by kernel_rfl)

end Go.Proofs.YtlogcpcdkhmjoaaDoor.Oc
