/-
  The program's disk: its names; synced; a new one.
-/
import Derived.Test.YtflclafbieokiaaDkQ3
import Derived.Test.YtflclafbieokiaaDkC2
set_option linter.unusedVariables false
set_option linter.unusedSectionVars false
set_option linter.unusedSimpArgs false
namespace Go.Proofs.Ytflclafbieokiaa.Dk
open Go AL Us
section
variable [Globs]

/-- Blocks that are kept, and new ones that are empty. -/
def freshO (o : AO) : Prop := o = .dead ∨ (∃ k, o = .ints k []) ∨ ∃ g, o = .row 0 g
def relG (h : List AO) (l : List Nat) : List Nat → List AO → Prop
  | [], [] => True
  | j :: r, o :: s => ((∃ p, h[j]? = some p ∧ LeO h l p o) ∨ (h.length ≤ j ∧ freshO o)) ∧ relG h l r s
  | _, _ => False
theorem relG_at {h : List AO} {l : List Nat} : ∀ {r : List Nat} {s : List AO}, relG h l r s → s.length = r.length ∧ ∀ (i j : Nat) (o : AO), r[i]? = some j → s[i]? = some o → (∃ p, h[j]? = some p ∧ LeO h l p o) ∨ (h.length ≤ j ∧ freshO o)
  | [], [], _ => ⟨rfl, fun i j o hi _ => by simp at hi⟩
  | [], _ :: _, e => e.elim
  | _ :: _, [], e => e.elim
  | j :: r, o :: s, ⟨e1, e2⟩ => by
    obtain ⟨h1, h2⟩ := relG_at e2
    refine ⟨by simp [h1], fun i k q hi hq => ?_⟩
    cases i with
    | zero => cases hi; cases hq; exact e1
    | succ i => exact h2 i k q hi hq
theorem leh_relG {h : List AO} {l : List Nat} {hs : List AO} (hd : l.Nodup) (e : relG h l l hs) : LeH 0 h l hs :=
  ⟨(relG_at e).1, Nat.zero_le _, fun i hi => absurd hi (Nat.not_lt_zero _), hd, fun i j o hi ho => by
    rcases (relG_at e).2 i j o hi ho with h1 | ⟨h1, h2⟩
    · exact .inl h1
    · exact .inr ⟨Nat.zero_le _, h1, h2⟩⟩
abbrev namesV (ns : List ByteArray) : AV := .ro ns.length 1 (fun i => str (ns.getD i ByteArray.empty))
/-- A disk that was synced just now. -/
abbrev dkY (d : DkF) : List AO := [dkA 1 4 3 d, .map (fmV d.now), .dead, .row (d.deeds.length * 4) (rowP d.deeds), .map (fmV d.synced)]
theorem leDkN {h : List AO} {l : List Nat} {a b a' b' c' : Nat} {r s : Int} (ea : l[a']? = some a) (eb : l[b']? = some b) (ec : c' < l.length) (er : r = s) :
    LeO h l (.lst [.mp a, .mp b, .raw (.slice none 0 0), int .i64 r]) (.lst [.mp a', .mp b', .own c' 0 0 4, int .i64 s]) := .lst _ _ rfl fun i hi => by
  have hi : i < 4 := hi
  match i, hi with
  | 0, _ => exact .mp ea
  | 1, _ => exact .mp eb
  | 2, _ => exact .nil _ _ ec
  | 3, _ => exact leI er
theorem leRow0 {h : List AO} {l : List Nat} {n : Nat} {f g : Nat → AV} : LeO h l (.row n f) (.row 0 g) := .row _ _ _ _ (Nat.zero_le _) fun i hi => absurd hi (Nat.not_lt_zero _)

set_option maxHeartbeats 1000000 in
set_option maxRecDepth 10000 in
theorem sync_p (d : DkF) : ACalls Try.prog 13 [.ptr 0 0] (dkH d) (fun r h => r = .top ∧ h = dkY (syncF d)) := by
  have hc := clone_m d.now
  refine rcalls Try.func13 rfl (by decide) ?_
  refine ⟨[1], _, fmVFree _, hc, ?_⟩
  rintro r hh ⟨rfl, rfl⟩
  refine ⟨.inl rfl, ?_⟩
  exact ⟨[0, 1, 2, 3, 4], dkY (syncF d), .top, leh_rel (Nat.le_of_ble_eq_true rfl) (first4 rfl rfl rfl rfl) (by decide)
    ⟨⟨_, rfl, leDkN rfl rfl (by decide) rfl⟩, ⟨_, rfl, leMap (by simp only [ren_fmV]; rfl)⟩, ⟨_, rfl, .dead _⟩, ⟨_, rfl, leRow0⟩, ⟨_, rfl, leMap (by simp only [ren_fmV]; rfl)⟩, trivial⟩, .top _, rfl, rfl⟩

set_option maxHeartbeats 1000000 in
set_option maxRecDepth 10000 in
theorem list_p (d : DkF) (hm : (keysF d.now).Nodup) (hk : ∀ p ∈ d.now, p.1.size ≤ maxLen) (hl : d.now.length ≤ 1000000) : ACalls Try.prog 23 [.ptr 0 0] (dkH d) (fun r h => ∃ ns, NamesOf d.now ns ∧ r = namesV ns ∧ h = dkH d) := by
  have hc := keys_m d.now
  have hs := sorted_m d.now hm hk hl
  refine rcalls Try.func23 rfl (by decide) ?_
  refine ⟨[1], _, fmVFree _, hc, ?_⟩
  rintro r hh ⟨rfl, rfl⟩
  refine ⟨.inl rfl, ?_⟩
  refine ⟨[1, 4], _, (by (try simp only [ren_fmV]); exact fmVFree _), at_h ?_ (hs.args ⟨vclo (vsole (VLe.refl _)), trivial⟩), ?_⟩
  · simp only [ren_fmV]
  rintro r hh ⟨ns, hns, rfl, rfl⟩
  refine ⟨.inl rfl, ?_⟩
  exact ⟨[0, 1, 2, 3], dkH d, _, lehDk rfl rfl rfl rfl (by simp only [ren_fmV]) rfl rfl rfl, .same _ trivial, ns, hns, rfl, rfl⟩

set_option maxHeartbeats 1000000 in
set_option maxRecDepth 10000 in
theorem new_p (room : Int) : ACalls Try.prog 10 [int .i64 room] [] (fun r h => r = .ptr 0 0 ∧ h = dkH (newF room)) := by
  refine rcalls Try.func10 rfl (by decide) ?_
  have e0 : (dkH (newF room)) = [dkA 1 2 3 (newF room), .map (fmV []), .map (fmV []), .row (0 * 4) (rowP [])] := rfl
  rw [e0]
  exact ⟨[2, 0, 1, 3], [dkA 1 2 3 (newF room), .map (fmV []), .map (fmV []), .row (0 * 4) (rowP [])], _, leh_relG (by decide)
    ⟨.inl ⟨_, rfl, leDkN rfl rfl (by decide) rfl⟩, .inl ⟨_, rfl, leMap rfl⟩, .inl ⟨_, rfl, leMap rfl⟩, .inr ⟨Nat.le_refl 3, .inr (.inr ⟨_, rfl⟩)⟩, trivial⟩, .ptr 0 rfl, rfl, rfl⟩
end
end Go.Proofs.Ytflclafbieokiaa.Dk
