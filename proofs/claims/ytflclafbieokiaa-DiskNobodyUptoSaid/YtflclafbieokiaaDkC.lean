/-
  A map cloned; a map's names, sorted: the kit's contracts, as the walk has them.
-/
import Derived.Test.YtflclafbieokiaaDkW
import Derived.Shelf.SlMaps.Clone
set_option linter.unusedVariables false
set_option linter.unusedSectionVars false
namespace Go.Proofs.Ytflclafbieokiaa.Dk
open Go AL Us
section
variable [Globs]

/-- A map, a copy of which is a new block. -/
theorem clone_of {P : Program} {f : FuncId} (hent : Entered P f)
    (hc : ∀ (b : Nat) (es : Array MapEntry) (clock : Nat) (w : World), w.heap[b]? = some (.map es clock) → Calls P f #[.map (some b)] w fun e w' => e = .returned (.map (some w.heap.size)) ∧ w' = w.alloc (.map es clock))
    (m : FM) : ACalls P f [.mp 0] [.map (fmV m)] (fun r h => r = .mp 1 ∧ h = [.map (fmV m), .map (fmV m)]) := by
  refine ⟨hent, fun S0 L w vs hh hS hn hv => ?_⟩
  obtain ⟨v, e0, hv0⟩ := hv 0 (.mp 0) rfl
  obtain ⟨hlt, b, hb, rfl⟩ := hv0
  have hvs : vs = #[.map (some b)] := by
    have hn : vs.size = 1 := hn
    apply Array.ext_getElem?
    intro i
    match i with
    | 0 => rw [e0]; rfl
    | i + 1 => rw [Array.getElem?_eq_none (by omega)]; simp
  subst hvs
  have ho := hh.objs 0 _ rfl
  obtain ⟨b', es, clock, hb', hw, hst, hsz, hes⟩ := ho
  have hb' : L.b 0 = some b' := hb'
  rw [hb] at hb'
  obtain rfl := Option.some.inj hb'
  refine (hc b es clock w hw).mono fun e w' ⟨he, hw'⟩ => ?_
  subst he
  have hp : w'.heap = w.heap.push (.map es clock) := by rw [hw']; rfl
  have al : AL.Alike w w' := by rw [hw']; exact ⟨rfl, rfl, rfl⟩
  have hs := step_new (o := .map (fmV m)) (sz := 0) hh al hp fun L' hL => ⟨w.heap.size, es, clock, rfl, by rw [hp]; simp, hst, hsz, fun i hi => by
    obtain ⟨e, h1, h2, h3⟩ := hes i hi
    exact ⟨e, h1, h2, den_new hh hp hL h3⟩⟩
  exact ⟨_, .mp 1, [.map (fmV m), .map (fmV m)], _, rfl, ⟨rfl, rfl⟩, hs.rel, ⟨push_n hh _ _, _, push_b hh _ _, rfl⟩⟩
end
end Go.Proofs.Ytflclafbieokiaa.Dk
