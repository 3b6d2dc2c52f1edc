/-
  An abstract view of the machine's states (values, rows that the call owns, rows that are only read), and what it says of a world. No program in sight.
-/
import Derived.Below
import Derived.Control
import Derived.Calls
import Derived.Deep.Draws
import Derived.Deep.Quiet
import Derived.Laws.Append
namespace Go.Proofs.Ytlogcpcdkhmjoaa.AL
open Go

/-- What is known of a value. -/
inductive AV where
  | top
  | raw (v : Value)
  | tt
  | ff
  | own (id off len sz : Nat)
  | ptr (id off : Nat)
  | rp (n : Nat) (f : Nat → AV)
  | ro (n sz : Nat) (f : Nat → AV)
  | roI (k : IntKind) (xs : List Int)
  | agg (n : Nat) (f : Nat → AV)
  | aggI (k : IntKind) (xs : List Int)
  | tup (n : Nat) (f : Nat → AV)
  | clo (fn : Fn) (n : Nat) (f : Nat → AV)
  | mp (id : Nat)

/-- What is known of a block that the call owns. -/
inductive AO where
  | dead
  | ints (k : IntKind) (xs : List Int)
  | row (n : Nat) (f : Nat → AV)
  | lst (l : List AV)
  | map (n : Nat) (key val : Nat → AV)

abbrev int (k : IntKind) (n : Int) : AV := .raw (.int k n)
abbrev bool (b : Bool) : AV := .raw (.bool b)
abbrev str (s : ByteArray) : AV := .raw (.string s)

/-- Where the call's own blocks lie, and how many cells they have. -/
structure Loc where
  n : Nat
  b : Nat → Option Nat
  sz : Nat → Nat

structure Loc.le (L M : Loc) : Prop where
  n : L.n ≤ M.n
  b : ∀ i, i < L.n → M.b i = L.b i
  sz : ∀ i, i < L.n → M.sz i = L.sz i

/-- No place at all. -/
def Loc.zero : Loc := ⟨0, fun _ => none, fun _ => 0⟩
theorem Loc.zero_le (L : Loc) : Loc.zero.le L := ⟨Nat.zero_le _, fun _ hi => absurd hi (Nat.not_lt_zero _), fun _ hi => absurd hi (Nat.not_lt_zero _)⟩

theorem Loc.le.refl (L : Loc) : L.le L := ⟨Nat.le_refl _, fun _ _ => rfl, fun _ _ => rfl⟩

/-- A cell that may be read: in a block of S. -/
def rcell (w : World) (S : Nat → Prop) (A : Option Addr) (i : Nat) (u : Value) : Prop :=
  ∃ b o, A = some ⟨b, o, none⟩ ∧ S b ∧ w.cell? ⟨b, o + i, none⟩ = some u

def den (w : World) (S : Nat → Prop) (L : Loc) : AV → Value → Prop
  | .top, _ => True
  | .raw u, v => v = u
  | .tt, v => v = .bool true
  | .ff, v => v = .bool false
  | .own id off len sz, v => id < L.n ∧ ((len = 0 ∧ ∃ A, v = .slice A 0 0) ∨
      ∃ b cap, L.b id = some b ∧ v = .slice (some ⟨b, off, none⟩) len cap ∧ len ≤ cap ∧ off + cap * sz ≤ L.sz id)
  | .ptr id off, v => id < L.n ∧ ∃ b, L.b id = some b ∧ v = .pointer (some ⟨b, off, none⟩)
  | .rp n f, v => ∃ A, v = .pointer (some A) ∧ ∀ i, i < n → ∃ u, rcell w S (some A) i u ∧ den w S .zero (f i) u
  | .ro n sz f, v => ∃ A cap, v = .slice A n cap ∧ n ≤ cap ∧ ∀ i, i < n * sz → ∃ u, rcell w S A i u ∧ den w S .zero (f i) u
  | .roI k xs, v => ∃ A cap, v = .slice A xs.length cap ∧ xs.length ≤ cap ∧ ∀ i, i < xs.length → rcell w S A i (.int k (xs.getD i 0))
  | .agg n f, v => ∃ vs, v = .agg vs ∧ vs.size = n ∧ ∀ i, i < n → ∃ u, vs[i]? = some u ∧ den w S L (f i) u
  | .aggI k xs, v => v = .agg (xs.map (Value.int k)).toArray
  | .tup n f, v => ∃ vs, v = .tuple vs ∧ vs.size = n ∧ ∀ i, i < n → ∃ u, vs[i]? = some u ∧ den w S L (f i) u
  | .clo fn n f, v => ∃ vs, v = .func fn #[] vs ∧ vs.size = n ∧ ∀ i, i < n → ∃ u, vs[i]? = some u ∧ den w S L (f i) u
  | .mp id, v => id < L.n ∧ ∃ b, L.b id = some b ∧ v = .map (some b)

/-- One world holds the blocks of S as another one does. -/
def keeps (S : Nat → Prop) (w w' : World) : Prop := ∀ b, S b → w'.heap[b]? = w.heap[b]?

theorem rcell_mono {w w' : World} {S S' : Nat → Prop} (hk : keeps S w w') (hs : ∀ b, S b → S' b) {A : Option Addr} {i : Nat} {u : Value}
    (h : rcell w S A i u) : rcell w' S' A i u := by
  obtain ⟨b, o, e, hb, hc⟩ := h
  refine ⟨b, o, e, hs b hb, ?_⟩
  have := hk b hb
  simpa only [World.cell?, this] using hc

theorem den_mono {w w' : World} {S S' : Nat → Prop} {L L' : Loc} (hk : keeps S w w') (hs : ∀ b, S b → S' b) (hl : L.le L') :
    ∀ (a : AV) (v : Value), den w S L a v → den w' S' L' a v
  | .top, _, _ => trivial
  | .raw _, _, h => h
  | .tt, _, h => h
  | .ff, _, h => h
  | .own id off len sz, v, h => by
    obtain ⟨hi, h⟩ := h
    refine ⟨Nat.lt_of_lt_of_le hi hl.n, ?_⟩
    rcases h with h | ⟨b, cap, h1, h2, h3, h4⟩
    · exact .inl h
    · exact .inr ⟨b, cap, by rw [hl.b _ hi]; exact h1, h2, h3, by rw [hl.sz _ hi]; exact h4⟩
  | .ptr id off, v, h => by
    obtain ⟨hi, b, h1, h2⟩ := h
    exact ⟨Nat.lt_of_lt_of_le hi hl.n, b, by rw [hl.b _ hi]; exact h1, h2⟩
  | .rp n f, v, h => by
    obtain ⟨A, e, h⟩ := h
    refine ⟨A, e, fun i hi => ?_⟩
    obtain ⟨u, h1, h2⟩ := h i hi
    exact ⟨u, rcell_mono hk hs h1, den_mono hk hs (.refl _) (f i) u h2⟩
  | .ro n sz f, v, h => by
    obtain ⟨A, cap, e, hc, h⟩ := h
    refine ⟨A, cap, e, hc, fun i hi => ?_⟩
    obtain ⟨u, h1, h2⟩ := h i hi
    exact ⟨u, rcell_mono hk hs h1, den_mono hk hs (.refl _) (f i) u h2⟩
  | .roI k xs, v, h => by
    obtain ⟨A, cap, e, hc, h⟩ := h
    exact ⟨A, cap, e, hc, fun i hi => rcell_mono hk hs (h i hi)⟩
  | .agg n f, v, h => by
    obtain ⟨vs, e, hn, h⟩ := h
    refine ⟨vs, e, hn, fun i hi => ?_⟩
    obtain ⟨u, h1, h2⟩ := h i hi
    exact ⟨u, h1, den_mono hk hs hl (f i) u h2⟩
  | .aggI _ _, _, h => h
  | .tup n f, v, h => by
    obtain ⟨vs, e, hn, h⟩ := h
    refine ⟨vs, e, hn, fun i hi => ?_⟩
    obtain ⟨u, h1, h2⟩ := h i hi
    exact ⟨u, h1, den_mono hk hs hl (f i) u h2⟩
  | .clo fn n f, v, h => by
    obtain ⟨vs, e, hn, h⟩ := h
    refine ⟨vs, e, hn, fun i hi => ?_⟩
    obtain ⟨u, h1, h2⟩ := h i hi
    exact ⟨u, h1, den_mono hk hs hl (f i) u h2⟩
  | .mp id, v, h => by
    obtain ⟨hi, b, h1, h2⟩ := h
    exact ⟨Nat.lt_of_lt_of_le hi hl.n, b, by rw [hl.b _ hi]; exact h1, h2⟩

/-- What is known without any place is known with all. -/
theorem den_zero {w : World} {S : Nat → Prop} (L : Loc) {a : AV} {v : Value} (h : den w S .zero a v) : den w S L a v :=
  den_mono (fun _ _ => rfl) (fun _ h => h) (Loc.zero_le L) a v h

/-- A block whose first n cells are so, none of them frozen. -/
def cellsAre (w : World) (B : Option Nat) (sz n : Nat) (p : Nat → Value → Prop) : Prop :=
  (n = 0 ∧ B = none) ∨ ∃ b c el lo hi, B = some b ∧ w.heap[b]? = some (.cells c el (lo, hi)) ∧ c.size = sz ∧ n ≤ sz ∧
    (∀ o, o < c.size → (decide (lo ≤ o) && decide (o < hi)) = false) ∧ ∀ i, i < n → ∃ u, c[i]? = some u ∧ p i u

def objIs (w : World) (S : Nat → Prop) (L : Loc) (B : Option Nat) (sz : Nat) : AO → Prop
  | .dead => True
  | .ints k xs => cellsAre w B sz xs.length fun i u => u = .int k (xs.getD i 0)
  | .row n f => cellsAre w B sz n fun i u => den w S L (f i) u
  | .lst l => cellsAre w B sz l.length fun i u => den w S L (l.getD i .top) u
  | .map n key val => ∃ b es clock, B = some b ∧ w.heap[b]? = some (.map es clock) ∧ es.size = n ∧
      ∀ i, i < n → ∃ e, es[i]? = some e ∧ den w S L (key i) e.key ∧ den w S L (val i) e.val

def AO.live : AO → Prop
  | .dead => False
  | _ => True

theorem cellsAre_mono {w w' : World} {B : Option Nat} {sz n : Nat} {p p' : Nat → Value → Prop} (hB : ∀ b, B = some b → w'.heap[b]? = w.heap[b]?)
    (hp : ∀ i u, i < n → p i u → p' i u) (h : cellsAre w B sz n p) : cellsAre w' B sz n p' := by
  rcases h with h | ⟨b, c, el, lo, hi, e, hb, hs, hn, hf, h⟩
  · exact .inl h
  · refine .inr ⟨b, c, el, lo, hi, e, by rw [hB b e]; exact hb, hs, hn, hf, fun i hi => ?_⟩
    obtain ⟨u, h1, h2⟩ := h i hi
    exact ⟨u, h1, hp i u hi h2⟩

theorem objIs_mono {w w' : World} {S S' : Nat → Prop} {L L' : Loc} {B : Option Nat} {sz : Nat} (hk : keeps S w w') (hs : ∀ b, S b → S' b) (hl : L.le L')
    {o : AO} (hB : ∀ b, o.live → B = some b → w'.heap[b]? = w.heap[b]?) (h : objIs w S L B sz o) : objIs w' S' L' B sz o := by
  cases o with
  | dead => trivial
  | ints k xs => exact cellsAre_mono (fun b => hB b trivial) (fun _ _ _ h => h) h
  | row n f => exact cellsAre_mono (fun b => hB b trivial) (fun _ _ _ h => den_mono hk hs hl _ _ h) h
  | lst l => exact cellsAre_mono (fun b => hB b trivial) (fun _ _ _ h => den_mono hk hs hl _ _ h) h
  | map n key val =>
    obtain ⟨b, es, clock, e, hb, hn, h⟩ := h
    refine ⟨b, es, clock, e, by rw [hB b trivial e]; exact hb, hn, fun i hi => ?_⟩
    obtain ⟨x, h1, h2, h3⟩ := h i hi
    exact ⟨x, h1, den_mono hk hs hl _ _ h2, den_mono hk hs hl _ _ h3⟩

/-- What was when the call began: the world, the blocks that may be read, those that were handed over, the first so many places. -/
structure Ctx where
  w0 : World
  S0 : Nat → Prop
  np : Nat
  L0 : Loc

def Ctx.O0 (C : Ctx) (b : Nat) : Prop := ∃ i, i < C.np ∧ C.L0.b i = some b

def Live (h : List AO) (i : Nat) : Prop := ∃ o, h[i]? = some o ∧ o.live

def SS (C : Ctx) (w : World) (h : List AO) (L : Loc) (b : Nat) : Prop :=
  b < w.heap.size ∧ (C.S0 b ∨ C.w0.heap.size ≤ b ∨ C.O0 b) ∧ ∀ i, Live h i → L.b i ≠ some b

structure Fr (C : Ctx) (w : World) : Prop where
  os : w.os = C.w0.os
  tape : w.tape = C.w0.tape
  output : w.output = C.w0.output
  size : C.w0.heap.size ≤ w.heap.size
  block : ∀ k, k < C.w0.heap.size → ¬ C.O0 k → w.heap[k]? = C.w0.heap[k]?

/-- The heap, as it is known. -/
structure HRel (C : Ctx) (h : List AO) (L : Loc) (w : World) : Prop where
  fr : Fr C w
  n : L.n = h.length
  np : C.np ≤ h.length
  pre : ∀ i, i < C.np → L.b i = C.L0.b i ∧ L.sz i = C.L0.sz i
  inj : ∀ i j b, Live h i → Live h j → L.b i = some b → L.b j = some b → i = j
  mine : ∀ i b, Live h i → L.b i = some b → b < w.heap.size ∧ (C.w0.heap.size ≤ b ∨ C.O0 b)
  objs : ∀ (i : Nat) (o : AO), h[i]? = some o → objIs w (SS C w h L) L (L.b i) (L.sz i) o

/-- A whole state, as it is known. -/
structure Rel (C : Ctx) (t : List AV) (h : List AO) (L : Loc) (a : Act) (w : World) : Prop where
  heap : HRel C h L w
  size : a.tmps.size = t.length
  tmps : ∀ (i : Nat) (v : AV), t[i]? = some v → ∃ u, a.tmps[i]? = some u ∧ den w (SS C w h L) L v u
  defers : a.defers = []

end Go.Proofs.Ytlogcpcdkhmjoaa.AL
