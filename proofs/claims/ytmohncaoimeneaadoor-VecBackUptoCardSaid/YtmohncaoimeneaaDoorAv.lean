/-
  An abstract view of the machine's states (values, rows that the call owns, rows that are only read), and what it says of a world. No program in sight.
-/
import Derived.Below
import Derived.Control
import Derived.Calls
import Derived.Deep.Draws
import Derived.Deep.Quiet
import Derived.Laws.Append
namespace Go.Proofs.YtmohncaoimeneaaDoor.AL
open Go

/-- What is known of a value. -/
inductive AV where
  | top
  | raw (v : Value)
  | tt
  | ff
  | own (id off len sz : Nat)
  | ptr (id off : Nat)
  | rp (n : Nat) (f : Nat → AV)
  | ro (n sz : Nat) (f : Nat → AV)
  | roI (k : IntKind) (xs : List Int)
  | agg (n : Nat) (f : Nat → AV)
  | aggI (k : IntKind) (xs : List Int)
  | tup (n : Nat) (f : Nat → AV)
  | clo (fn : Fn) (n : Nat) (f : Nat → AV)
  | mp (id : Nat)
  | ifc

/-- What is known of a block that the call owns. -/
inductive AO where
  | dead
  | ints (k : IntKind) (xs : List Int)
  | row (n : Nat) (f : Nat → AV)
  | lst (l : List AV)
  | map (n : Nat) (key val : Nat → AV)

abbrev int (k : IntKind) (n : Int) : AV := .raw (.int k n)
abbrev bool (b : Bool) : AV := .raw (.bool b)
abbrev str (s : ByteArray) : AV := .raw (.string s)

/-- Where the call's own blocks lie, and how many cells they have. -/
structure Loc where
  n : Nat
  b : Nat → Option Nat
  sz : Nat → Nat

structure Loc.le (L M : Loc) : Prop where
  n : L.n ≤ M.n
  b : ∀ i, i < L.n → M.b i = L.b i
  sz : ∀ i, i < L.n → M.sz i = L.sz i

/-- No place at all. -/
def Loc.zero : Loc := ⟨0, fun _ => none, fun _ => 0⟩
theorem Loc.zero_le (L : Loc) : Loc.zero.le L := ⟨Nat.zero_le _, fun _ hi => absurd hi (Nat.not_lt_zero _), fun _ hi => absurd hi (Nat.not_lt_zero _)⟩

theorem Loc.le.refl (L : Loc) : L.le L := ⟨Nat.le_refl _, fun _ _ => rfl, fun _ _ => rfl⟩

/-- A cell that may be read: in a block of S. -/
def rcell (w : World) (S : Nat → Prop) (A : Option Addr) (i : Nat) (u : Value) : Prop :=
  ∃ b o, A = some ⟨b, o, none⟩ ∧ S b ∧ w.cell? ⟨b, o + i, none⟩ = some u

def den (w : World) (S : Nat → Prop) (L : Loc) : AV → Value → Prop
  | .top, _ => True
  | .raw u, v => v = u
  | .tt, v => v = .bool true
  | .ff, v => v = .bool false
  | .own id off len sz, v => id < L.n ∧ ((len = 0 ∧ ∃ A, v = .slice A 0 0) ∨
      ∃ b cap, L.b id = some b ∧ v = .slice (some ⟨b, off, none⟩) len cap ∧ len ≤ cap ∧ off + cap * sz ≤ L.sz id)
  | .ptr id off, v => id < L.n ∧ ∃ b, L.b id = some b ∧ v = .pointer (some ⟨b, off, none⟩)
  | .rp n f, v => ∃ A, v = .pointer (some A) ∧ ∀ i, i < n → ∃ u, rcell w S (some A) i u ∧ den w S .zero (f i) u
  | .ro n sz f, v => ∃ A cap, v = .slice A n cap ∧ n ≤ cap ∧ ∀ i, i < n * sz → ∃ u, rcell w S A i u ∧ den w S .zero (f i) u
  | .roI k xs, v => ∃ A cap, v = .slice A xs.length cap ∧ xs.length ≤ cap ∧ ∀ i, i < xs.length → rcell w S A i (.int k (xs.getD i 0))
  | .agg n f, v => ∃ vs, v = .agg vs ∧ vs.size = n ∧ ∀ i, i < n → ∃ u, vs[i]? = some u ∧ den w S L (f i) u
  | .aggI k xs, v => v = .agg (xs.map (Value.int k)).toArray
  | .tup n f, v => ∃ vs, v = .tuple vs ∧ vs.size = n ∧ ∀ i, i < n → ∃ u, vs[i]? = some u ∧ den w S L (f i) u
  | .clo fn n f, v => ∃ vs, v = .func fn #[] vs ∧ vs.size = n ∧ ∀ i, i < n → ∃ u, vs[i]? = some u ∧ den w S L (f i) u
  | .mp id, v => id < L.n ∧ ∃ b, L.b id = some b ∧ v = .map (some b)
  | .ifc, v => ∃ T u, v = .iface T u

/-- One world holds the blocks of S as another one does. -/
def keeps (S : Nat → Prop) (w w' : World) : Prop := ∀ b, S b → w'.heap[b]? = w.heap[b]?

theorem rcell_mono {w w' : World} {S S' : Nat → Prop} (hk : keeps S w w') (hs : ∀ b, S b → S' b) {A : Option Addr} {i : Nat} {u : Value}
    (h : rcell w S A i u) : rcell w' S' A i u := by
  obtain ⟨b, o, e, hb, hc⟩ := h
  refine ⟨b, o, e, hs b hb, ?_⟩
  have := hk b hb
  simpa only [World.cell?, this] using hc

theorem den_mono {w w' : World} {S S' : Nat → Prop} {L L' : Loc} (hk : keeps S w w') (hs : ∀ b, S b → S' b) (hl : L.le L') :
    ∀ (a : AV) (v : Value), den w S L a v → den w' S' L' a v
  | .top, _, _ => trivial
  | .raw _, _, h => h
  | .tt, _, h => h
  | .ff, _, h => h
  | .own id off len sz, v, h => by
    obtain ⟨hi, h⟩ := h
    refine ⟨Nat.lt_of_lt_of_le hi hl.n, ?_⟩
    rcases h with h | ⟨b, cap, h1, h2, h3, h4⟩
    · exact .inl h
    · exact .inr ⟨b, cap, by rw [hl.b _ hi]; exact h1, h2, h3, by rw [hl.sz _ hi]; exact h4⟩
  | .ptr id off, v, h => by
    obtain ⟨hi, b, h1, h2⟩ := h
    exact ⟨Nat.lt_of_lt_of_le hi hl.n, b, by rw [hl.b _ hi]; exact h1, h2⟩
  | .rp n f, v, h => by
    obtain ⟨A, e, h⟩ := h
    refine ⟨A, e, fun i hi => ?_⟩
    obtain ⟨u, h1, h2⟩ := h i hi
    exact ⟨u, rcell_mono hk hs h1, den_mono hk hs (.refl _) (f i) u h2⟩
  | .ro n sz f, v, h => by
    obtain ⟨A, cap, e, hc, h⟩ := h
    refine ⟨A, cap, e, hc, fun i hi => ?_⟩
    obtain ⟨u, h1, h2⟩ := h i hi
    exact ⟨u, rcell_mono hk hs h1, den_mono hk hs (.refl _) (f i) u h2⟩
  | .roI k xs, v, h => by
    obtain ⟨A, cap, e, hc, h⟩ := h
    exact ⟨A, cap, e, hc, fun i hi => rcell_mono hk hs (h i hi)⟩
  | .agg n f, v, h => by
    obtain ⟨vs, e, hn, h⟩ := h
    refine ⟨vs, e, hn, fun i hi => ?_⟩
    obtain ⟨u, h1, h2⟩ := h i hi
    exact ⟨u, h1, den_mono hk hs hl (f i) u h2⟩
  | .aggI _ _, _, h => h
  | .tup n f, v, h => by
    obtain ⟨vs, e, hn, h⟩ := h
    refine ⟨vs, e, hn, fun i hi => ?_⟩
    obtain ⟨u, h1, h2⟩ := h i hi
    exact ⟨u, h1, den_mono hk hs hl (f i) u h2⟩
  | .clo fn n f, v, h => by
    obtain ⟨vs, e, hn, h⟩ := h
    refine ⟨vs, e, hn, fun i hi => ?_⟩
    obtain ⟨u, h1, h2⟩ := h i hi
    exact ⟨u, h1, den_mono hk hs hl (f i) u h2⟩
  | .mp id, v, h => by
    obtain ⟨hi, b, h1, h2⟩ := h
    exact ⟨Nat.lt_of_lt_of_le hi hl.n, b, by rw [hl.b _ hi]; exact h1, h2⟩
  | .ifc, _, h => h

/-- What is known without any place is known with all. -/
theorem den_zero {w : World} {S : Nat → Prop} (L : Loc) {a : AV} {v : Value} (h : den w S .zero a v) : den w S L a v :=
  den_mono (fun _ _ => rfl) (fun _ h => h) (Loc.zero_le L) a v h

end Go.Proofs.YtmohncaoimeneaaDoor.AL
