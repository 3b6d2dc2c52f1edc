/-
  Structs that are handed over: one form for each. No program in sight.
-/
import Derived.Test.YtmohncaoimeneaaDoorAlRec
set_option linter.unusedVariables false
set_option linter.unusedSectionVars false
namespace Go.Proofs.YtmohncaoimeneaaDoor.AL
open Go
variable [Globs]

/-- What is known of a value, said less sharply, or in other words. -/
def VLe (a b : AV) : Prop := ∀ (w : World) (S : Nat → Prop) (L : Loc) (v : Value), den w S L a v → den w S L b v
theorem VLe.refl (a : AV) : VLe a a := fun _ _ _ _ h => h
def ArgsLe : List AV → List AV → Prop
  | [], [] => True
  | a :: l, b :: m => VLe a b ∧ ArgsLe l m
  | _, _ => False
theorem argsLe_get : ∀ {l m : List AV}, ArgsLe l m → l.length = m.length ∧ ∀ (i : Nat) (b : AV), m[i]? = some b → ∃ a, l[i]? = some a ∧ VLe a b
  | [], [], _ => ⟨rfl, fun i b h => by simp at h⟩
  | a :: l, b :: m, ⟨h1, h2⟩ => by
    obtain ⟨g1, g2⟩ := argsLe_get h2
    refine ⟨by simp [g1], fun i c hc => ?_⟩
    cases i with
    | zero => simp at hc; subst hc; exact ⟨a, rfl, h1⟩
    | succ i => simpa using g2 i c (by simpa using hc)
  | [], _ :: _, h => h.elim
  | _ :: _, [], h => h.elim
theorem ACalls.args {P : Program} {f : FuncId} {as bs : List AV} {h : List AO} {R : AV → List AO → Prop} (hc : ACalls P f bs h R) (hl : ArgsLe as bs) : ACalls P f as h R := by
  obtain ⟨g1, g2⟩ := argsLe_get hl
  refine ⟨hc.1, fun S0 L w vs hh hS hn hv => hc.2 S0 L w vs hh hS (by omega) fun i b hb => ?_⟩
  obtain ⟨a, ha, hab⟩ := g2 i b hb
  obtain ⟨v, h1, h2⟩ := hv i a ha
  exact ⟨v, h1, hab _ _ _ _ h2⟩

theorem vagg {n : Nat} {f g : Nat → AV} (h : ∀ i, i < n → VLe (f i) (g i)) : VLe (.agg n f) (.agg n g) := fun w S L v hv => by
  obtain ⟨vs, e, hn, hd⟩ := hv
  refine ⟨vs, e, hn, fun i hi => ?_⟩
  obtain ⟨u, h1, h2⟩ := hd i hi
  exact ⟨u, h1, h i hi w S L u h2⟩

/-- A struct of two whole numbers. -/
abbrev dotV (a b : Int) : AV := .agg 2 (pair (int .i64 a) (int .i64 b))
theorem vdot {f : Nat → AV} {a b : Int} (h0 : f 0 = int .i64 a) (h1 : f 1 = int .i64 b) : VLe (.agg 2 f) (dotV a b) := vagg fun i hi => by
  match i, hi with
  | 0, _ => rw [h0]; exact .refl _
  | 1, _ => rw [h1]; exact .refl _
theorem dfree {f : Nat → AV} {a b : Int} (h0 : f 0 = int .i64 a) (h1 : f 1 = int .i64 b) : ∀ i, i < 2 → (f i).free := fun i hi => by
  match i, hi with
  | 0, _ => rw [h0]; exact trivial
  | 1, _ => rw [h1]; exact trivial
theorem le_dot {h : List AO} {l : List Nat} {f : Nat → AV} {a b : Int} (h0 : LeV h l (f 0) (int .i64 a)) (h1 : LeV h l (f 1) (int .i64 b)) : LeV h l (.agg 2 f) (dotV a b) :=
  .agg 2 f _ fun i hi => by
    match i, hi with
    | 0, _ => exact h0
    | 1, _ => exact h1

theorem leTB {h : List AO} {l : List Nat} {b : Bool} (e : b = true) : LeV h l .tt (bool b) := by subst e; exact .ttr
theorem leFB {h : List AO} {l : List Nat} {b : Bool} (e : b = false) : LeV h l .ff (bool b) := by subst e; exact .ffr
theorem notT {p : Prop} [Decidable p] (h : (!decide p) = true) : ¬ p := fun hp => by rw [decide_eq_true hp] at h; cases h
theorem notF {p : Prop} [Decidable p] (h : (!decide p) = false) : p := Classical.byContradiction fun hp => by rw [decide_eq_false hp] at h; cases h
/-- A block of plain values. -/
theorem leLst {h : List AO} {l : List Nat} (x : List AV) (hf : ∀ i, i < x.length → (x.getD i .top).free) : LeO h l (.lst x) (.lst x) := .lst x x rfl fun i hi => .same _ (hf i hi)
theorem leLst2 {h : List AO} {l : List Nat} {a b c d : AV} (h0 : LeV h l a c) (h1 : LeV h l b d) : LeO h l (.lst [a, b]) (.lst [c, d]) := .lst _ _ rfl fun i hi => by
  match i, hi with
  | 0, _ => exact h0
  | 1, _ => exact h1
/-- A bool, told by what it says. -/
theorem leP {h : List AO} {l : List Nat} {p q : Prop} [Decidable p] [Decidable q] (e : p ↔ q) : LeV h l (bool (decide p)) (bool (decide q)) := leB (decide_eq_decide.2 e)
theorem leTP {h : List AO} {l : List Nat} {q : Prop} [Decidable q] (e : q) : LeV h l .tt (bool (decide q)) := leTB (decide_eq_true e)
theorem leFP {h : List AO} {l : List Nat} {q : Prop} [Decidable q] (e : ¬ q) : LeV h l .ff (bool (decide q)) := leFB (decide_eq_false e)

theorem unnot : ∀ {b : Bool}, (!b) = false → b = true
  | true, _ => rfl
  | false, h => (by cases h)
theorem nof {b : Bool} (e : b = false) (g : b = true) : False := by rw [e] at g; cases g
theorem eq2 {a b c d : Int} : (leafEq (.int .i64 a) (.int .i64 c) && (leafEq (.int .i64 b) (.int .i64 d) && true)) = true ↔ a = c ∧ b = d := by simp [leafEq]

end Go.Proofs.YtmohncaoimeneaaDoor.AL
