/-
  The state's own logic is sound: whole functions. No program in sight.
-/
import Derived.Test.YtmohncaoimeneaaDoorAlSound
import Derived.Scope
set_option linter.unusedVariables false
set_option linter.unusedSimpArgs false
set_option linter.unusedSectionVars false
namespace Go.Proofs.YtmohncaoimeneaaDoor.AL
open Go
variable [Globs]

section
variable {P : Program} {C : Ctx} {t : List AV} {h : List AO} {L : Loc} {a : Act} {w : World}

def Later (w w' : World) : Prop := Ext w w' ∧ Alike w w'

theorem hrel_later {w' : World} (hl : Later w w') (hr : HRel C h L w) : HRel C h L w' := by
  obtain ⟨⟨hsz, hbl⟩, hal⟩ := hl
  refine ⟨⟨hal.os.trans hr.fr.os, hal.tape.trans hr.fr.tape, hal.output.trans hr.fr.output, Nat.le_trans hr.fr.size hsz, fun k hk ho => ?_, hr.fr.glob⟩, hr.n, hr.np, hr.pre, hr.inj, fun i b hi e => ?_, fun i o ho => ?_⟩
  · rw [hbl k (Nat.lt_of_lt_of_le hk hr.fr.size)]; exact hr.fr.block k hk ho
  · have := hr.mine i b hi e
    exact ⟨Nat.lt_of_lt_of_le this.1 hsz, this.2⟩
  · exact objIs_mono (fun b hb => hbl b hb.1) (fun b hb => ⟨Nat.lt_of_lt_of_le hb.1 hsz, hb.2⟩) (.refl _) (fun b hlo e => hbl b (hr.mine i b ⟨o, ho, hlo⟩ e).1) (hr.objs i o ho)
theorem den_later {w' : World} (hl : Later w w') {x : AV} {v : Value} (hx : den w (SS C w h L) L x v) : den w' (SS C w' h L) L x v :=
  den_mono (fun b hb => hl.1.2 b hb.1) (fun b hb => ⟨Nat.lt_of_lt_of_le hb.1 hl.1.1, hb.2⟩) (.refl _) x v hx
theorem rel_later {w' : World} (hl : Later w w') (hr : Rel C t h L a w) : Rel C t h L a w' :=
  ⟨hrel_later hl hr.heap, hr.size, fun i v hi => let ⟨u, h1, h2⟩ := hr.tmps i v hi; ⟨u, h1, den_later hl h2⟩, hr.defers⟩
theorem Later.trans {w1 w2 : World} (h1 : Later w w1) (h2 : Later w1 w2) : Later w w2 :=
  ⟨⟨Nat.le_trans h1.1.1 h2.1.1, fun b hb => (h2.1.2 b (Nat.lt_of_lt_of_le hb h1.1.1)).trans (h1.1.2 b hb)⟩, ⟨h2.2.os.trans h1.2.os, h2.2.tape.trans h1.2.tape, h2.2.output.trans h1.2.output⟩⟩

end
end Go.Proofs.YtmohncaoimeneaaDoor.AL
