/-
  The laws of octal fields: what they come to.
-/
import Derived.Test.YtlogcpcdkhmjoaaDoorOcGet
import Derived.Test.YtlogcpcdkhmjoaaDoorOcText
import Derived.Test.YtlogcpcdkhmjoaaDoorAlRec
set_option linter.unusedVariables false
set_option linter.unusedSectionVars false
namespace Go.Proofs.YtlogcpcdkhmjoaaDoor.Oc
open Go AL
section
variable [Globs]

theorem val8 : getV [48, 49, 48, 0] = 8 ∧ getE [48, 49, 48, 0] = 0 := by
  have hv : valid [48, 49, 48, 0] := by
    refine ⟨by decide, by decide, by decide, fun i hi => ?_⟩
    match i, hi with
    | 0, _ => exact ⟨by decide, by decide⟩
    | 1, _ => exact ⟨by decide, by decide⟩
    | 2, _ => exact ⟨by decide, by decide⟩
  exact ⟨(get_ok hv).1.trans (by decide), (get_ok hv).2⟩
theorem put8 : putR 8 4 = [48, 49, 48, 0] ∧ putE 8 4 = 0 := by decide
theorem ab : textR ⟨#[97, 98]⟩ 3 = [97, 98, 0] ∧ textE ⟨#[97, 98]⟩ 3 = 0 := by decide


set_option maxHeartbeats 1000000 in
set_option maxRecDepth 10000 in
theorem awake_prog : ACalls Tryd.prog 11 [] [] (fun r h => r = .tt ∧ h = []) := by
  have hp := put_prog 8 4
  have ht := text_prog ⟨#[97, 98]⟩ 3 (by decide)
  have hg := get_prog [48, 49, 48, 0] (by decide) (by decide)
  have hc := check_prog [1, 2] (by decide) (by decide)
  unfold PutR at hp; unfold TextR at ht; unfold GetR at hg
  obtain ⟨h1, h2⟩ := put8
  obtain ⟨h3, h4⟩ := ab
  obtain ⟨h5, h6⟩ := val8
  have h7 : chk [1, 2] ([1, 2] : List Int).length = 3 := by decide
  generalize putR 8 4 = x1 at *
  generalize putE 8 4 = x2 at *
  generalize textR ⟨#[97, 98]⟩ 3 = x3 at *
  generalize textE ⟨#[97, 98]⟩ 3 = x4 at *
  generalize getV [48, 49, 48, 0] = x5 at *
  generalize getE [48, 49, 48, 0] = x6 at *
  generalize chk [1, 2] ([1, 2] : List Int).length = x7 at *
  have d1 : bytesOf x1 = ByteArray.mk #[48, 49, 48, 0] := by rw [h1]; decide
  have d2 : bytesOf x3 = ByteArray.mk #[97, 98, 0] := by rw [h3]; decide
  refine rcalls Tryd.func11 rfl (by decide) ?_
  refine ⟨[], _, hp, ?_⟩
  rintro r h ⟨rfl, rfl⟩
  refine ⟨.inl rfl, ?_⟩
  refine ⟨[], _, ht, ?_⟩
  rintro r h ⟨rfl, rfl⟩
  refine ⟨.inl rfl, ?_⟩
  refine ⟨[], _, by decide, hg, ?_⟩
  rintro r h ⟨rfl, rfl⟩
  refine ⟨.inr ⟨fun i hi => ?_, fun o ho => by simp at ho⟩, ?_⟩
  · match i, hi with
    | 0, _ => trivial
    | 1, _ => trivial
  refine ⟨fun _ => ?_, fun e => absurd d1 (no e)⟩
  refine ⟨fun _ => ?_, fun e => absurd h2 (no e)⟩
  refine ⟨fun _ => ?_, fun e => absurd d2 (no e)⟩
  refine ⟨fun _ => ?_, fun e => absurd h4 (no e)⟩
  refine ⟨fun _ => ?_, fun e => absurd h5 (no e)⟩
  refine ⟨fun _ => ?_, fun e => absurd h6 (no e)⟩
  refine ⟨[], _, by decide, hc, ?_⟩
  rintro r h ⟨rfl, rfl⟩
  refine ⟨.inr ⟨trivial, fun o ho => by simp at ho⟩, ?_⟩
  have d7 : decide (x7 = 3) = true := decide_eq_true h7
  exact ⟨[], [], .tt, lehN _, leTT d7, rfl, rfl⟩

end

end Go.Proofs.YtlogcpcdkhmjoaaDoor.Oc
