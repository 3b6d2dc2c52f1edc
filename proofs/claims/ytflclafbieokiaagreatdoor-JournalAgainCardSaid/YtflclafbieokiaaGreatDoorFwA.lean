/-
  The state's own logic: what is known of a state, and what code makes of it, by computation.
-/
import Derived.Below
import Derived.MapKept
import Derived.Control
import Derived.Calls
import Derived.Deep.Draws
import Derived.Deep.Quiet
import Derived.Laws.Append
import Derived.Laws.Entries
import Derived.StillTail
set_option linter.unusedSectionVars false

namespace Go.Proofs.YtflclafbieokiaaGreatDoor.AL
open Go

/-- What is known of a value. -/
inductive AV where
  | top
  | raw (v : Value)
  | tt
  | ff
  | own (id off len sz : Nat)
  | ptr (id off : Nat)
  | rp (n : Nat) (f : Nat → AV)
  | ro (n sz : Nat) (f : Nat → AV)
  | rs (n sz : Nat) (f : Nat → AV)
  | roI (k : IntKind) (xs : List Int)
  | agg (n : Nat) (f : Nat → AV)
  | aggI (k : IntKind) (xs : List Int)
  | tup (n : Nat) (f : Nat → AV)
  | clo (fn : Fn) (n : Nat) (f : Nat → AV)
  | mp (id : Nat)
  | ifc
  /-- A cell that is only read, in which there is a pointer to a block of the call's own. -/
  | bx (id : Nat)
  /-- A method, bound to a pointer to a block of the call's own. -/
  | bm (f : FuncId) (id : Nat)

/-- What is known of a block that the call owns. -/
inductive AO where
  | dead
  | ints (k : IntKind) (xs : List Int)
  | row (n : Nat) (f : Nat → AV)
  | lst (l : List AV)
  | map (l : List (ByteArray × AV))
  | mapB (l : List (ByteArray × AV)) (bs : List Nat) (clock : Nat)
  | miter (id since : Nat) (seen : List Nat)
  | siter (s : ByteArray) (pos : Nat)

abbrev int (k : IntKind) (n : Int) : AV := .raw (.int k n)
abbrev bool (b : Bool) : AV := .raw (.bool b)
abbrev str (s : ByteArray) : AV := .raw (.string s)

/-- Where the call's own blocks lie, and how many cells they have. -/
structure Loc where
  n : Nat
  b : Nat → Option Nat
  sz : Nat → Nat

structure Loc.le (L M : Loc) : Prop where
  n : L.n ≤ M.n
  b : ∀ i, i < L.n → M.b i = L.b i
  sz : ∀ i, i < L.n → M.sz i = L.sz i

/-- No place at all. -/
def Loc.zero : Loc := ⟨0, fun _ => none, fun _ => 0⟩
theorem Loc.zero_le (L : Loc) : Loc.zero.le L := ⟨Nat.zero_le _, fun _ hi => absurd hi (Nat.not_lt_zero _), fun _ hi => absurd hi (Nat.not_lt_zero _)⟩

theorem Loc.le.refl (L : Loc) : L.le L := ⟨Nat.le_refl _, fun _ _ => rfl, fun _ _ => rfl⟩

/-- A cell that may be read: in a block of S. -/
def rcell (w : World) (S : Nat → Prop) (A : Option Addr) (i : Nat) (u : Value) : Prop :=
  ∃ b o, A = some ⟨b, o, none⟩ ∧ S b ∧ w.cell? ⟨b, o + i, none⟩ = some u

def den (w : World) (S : Nat → Prop) (L : Loc) : AV → Value → Prop
  | .top, _ => True
  | .raw u, v => v = u
  | .tt, v => v = .bool true
  | .ff, v => v = .bool false
  | .own id off len sz, v => id < L.n ∧ ((len = 0 ∧ ∃ A, v = .slice A 0 0) ∨
      ∃ b cap, L.b id = some b ∧ v = .slice (some ⟨b, off, none⟩) len cap ∧ len ≤ cap ∧ off + cap * sz ≤ L.sz id)
  | .ptr id off, v => id < L.n ∧ ∃ b, L.b id = some b ∧ v = .pointer (some ⟨b, off, none⟩)
  | .rp n f, v => ∃ A, v = .pointer (some A) ∧ ∀ i, i < n → ∃ u, rcell w S (some A) i u ∧ den w S .zero (f i) u
  | .ro n sz f, v => ∃ A cap, v = .slice A n cap ∧ n ≤ cap ∧ ∀ i, i < n * sz → ∃ u, rcell w S A i u ∧ den w S .zero (f i) u
  | .rs n sz f, v => ∃ A cap, v = .slice A n cap ∧ n ≤ cap ∧ ∀ i, i < n * sz → ∃ u, rcell w S A i u ∧ den w S .zero (f i) u
  | .roI k xs, v => ∃ A cap, v = .slice A xs.length cap ∧ xs.length ≤ cap ∧ ∀ i, i < xs.length → rcell w S A i (.int k (xs.getD i 0))
  | .agg n f, v => ∃ vs, v = .agg vs ∧ vs.size = n ∧ ∀ i, i < n → ∃ u, vs[i]? = some u ∧ den w S L (f i) u
  | .aggI k xs, v => v = .agg (xs.map (Value.int k)).toArray
  | .tup n f, v => ∃ vs, v = .tuple vs ∧ vs.size = n ∧ ∀ i, i < n → ∃ u, vs[i]? = some u ∧ den w S L (f i) u
  | .clo fn n f, v => ∃ vs, v = .func fn #[] vs ∧ vs.size = n ∧ ∀ i, i < n → ∃ u, vs[i]? = some u ∧ den w S L (f i) u
  | .mp id, v => id < L.n ∧ ∃ b, L.b id = some b ∧ v = .map (some b)
  | .ifc, v => ∃ T u, v = .iface T u
  | .bx id, v => id < L.n ∧ ∃ A b, v = .pointer (some A) ∧ L.b id = some b ∧ rcell w S (some A) 0 (.pointer (some ⟨b, 0, none⟩))
  | .bm f id, v => id < L.n ∧ ∃ b, L.b id = some b ∧ v = .func (.func f) #[.pointer (some ⟨b, 0, none⟩)] #[]

/-- One world holds the blocks of S as another one does. -/
def keeps (S : Nat → Prop) (w w' : World) : Prop := ∀ b, S b → w'.heap[b]? = w.heap[b]?

theorem rcell_mono {w w' : World} {S S' : Nat → Prop} (hk : keeps S w w') (hs : ∀ b, S b → S' b) {A : Option Addr} {i : Nat} {u : Value}
    (h : rcell w S A i u) : rcell w' S' A i u := by
  obtain ⟨b, o, e, hb, hc⟩ := h
  refine ⟨b, o, e, hs b hb, ?_⟩
  have := hk b hb
  simpa only [World.cell?, this] using hc

theorem den_mono {w w' : World} {S S' : Nat → Prop} {L L' : Loc} (hk : keeps S w w') (hs : ∀ b, S b → S' b) (hl : L.le L') :
    ∀ (a : AV) (v : Value), den w S L a v → den w' S' L' a v
  | .top, _, _ => trivial
  | .raw _, _, h => h
  | .tt, _, h => h
  | .ff, _, h => h
  | .own id off len sz, v, h => by
    obtain ⟨hi, h⟩ := h
    refine ⟨Nat.lt_of_lt_of_le hi hl.n, ?_⟩
    rcases h with h | ⟨b, cap, h1, h2, h3, h4⟩
    · exact .inl h
    · exact .inr ⟨b, cap, by rw [hl.b _ hi]; exact h1, h2, h3, by rw [hl.sz _ hi]; exact h4⟩
  | .ptr id off, v, h => by
    obtain ⟨hi, b, h1, h2⟩ := h
    exact ⟨Nat.lt_of_lt_of_le hi hl.n, b, by rw [hl.b _ hi]; exact h1, h2⟩
  | .rp n f, v, h => by
    obtain ⟨A, e, h⟩ := h
    refine ⟨A, e, fun i hi => ?_⟩
    obtain ⟨u, h1, h2⟩ := h i hi
    exact ⟨u, rcell_mono hk hs h1, den_mono hk hs (.refl _) (f i) u h2⟩
  | .ro n sz f, v, h => by
    obtain ⟨A, cap, e, hc, h⟩ := h
    refine ⟨A, cap, e, hc, fun i hi => ?_⟩
    obtain ⟨u, h1, h2⟩ := h i hi
    exact ⟨u, rcell_mono hk hs h1, den_mono hk hs (.refl _) (f i) u h2⟩
  | .rs n sz f, v, h => by
    obtain ⟨A, cap, e, hc, h⟩ := h
    refine ⟨A, cap, e, hc, fun i hi => ?_⟩
    obtain ⟨u, h1, h2⟩ := h i hi
    exact ⟨u, rcell_mono hk hs h1, den_mono hk hs (.refl _) (f i) u h2⟩
  | .roI k xs, v, h => by
    obtain ⟨A, cap, e, hc, h⟩ := h
    exact ⟨A, cap, e, hc, fun i hi => rcell_mono hk hs (h i hi)⟩
  | .agg n f, v, h => by
    obtain ⟨vs, e, hn, h⟩ := h
    refine ⟨vs, e, hn, fun i hi => ?_⟩
    obtain ⟨u, h1, h2⟩ := h i hi
    exact ⟨u, h1, den_mono hk hs hl (f i) u h2⟩
  | .aggI _ _, _, h => h
  | .tup n f, v, h => by
    obtain ⟨vs, e, hn, h⟩ := h
    refine ⟨vs, e, hn, fun i hi => ?_⟩
    obtain ⟨u, h1, h2⟩ := h i hi
    exact ⟨u, h1, den_mono hk hs hl (f i) u h2⟩
  | .clo fn n f, v, h => by
    obtain ⟨vs, e, hn, h⟩ := h
    refine ⟨vs, e, hn, fun i hi => ?_⟩
    obtain ⟨u, h1, h2⟩ := h i hi
    exact ⟨u, h1, den_mono hk hs hl (f i) u h2⟩
  | .mp id, v, h => by
    obtain ⟨hi, b, h1, h2⟩ := h
    exact ⟨Nat.lt_of_lt_of_le hi hl.n, b, by rw [hl.b _ hi]; exact h1, h2⟩
  | .ifc, _, h => h
  | .bx id, v, h => by
    obtain ⟨hi, A, b, h1, h2, h3⟩ := h
    exact ⟨Nat.lt_of_lt_of_le hi hl.n, A, b, h1, by rw [hl.b _ hi]; exact h2, rcell_mono hk hs h3⟩
  | .bm f id, v, h => by
    obtain ⟨hi, b, h1, h2⟩ := h
    exact ⟨Nat.lt_of_lt_of_le hi hl.n, b, by rw [hl.b _ hi]; exact h1, h2⟩

/-- What is known without any place is known with all. -/
theorem den_zero {w : World} {S : Nat → Prop} (L : Loc) {a : AV} {v : Value} (h : den w S .zero a v) : den w S L a v :=
  den_mono (fun _ _ => rfl) (fun _ h => h) (Loc.zero_le L) a v h

end Go.Proofs.YtflclafbieokiaaGreatDoor.AL

namespace Go.Proofs.YtflclafbieokiaaGreatDoor.AL
open Go

class Globs where
  l : List (Nat × (Array Value → Prop))

end Go.Proofs.YtflclafbieokiaaGreatDoor.AL

namespace Go.Proofs.YtflclafbieokiaaGreatDoor.AL
open Go
variable [Globs]

/-- A block whose first n cells are so, none of them frozen. -/
def cellsAre (w : World) (B : Option Nat) (sz n : Nat) (p : Nat → Value → Prop) : Prop :=
  (n = 0 ∧ B = none) ∨ ∃ b c el lo hi, B = some b ∧ w.heap[b]? = some (.cells c el (lo, hi)) ∧ c.size = sz ∧ n ≤ sz ∧
    (∀ o, o < c.size → (decide (lo ≤ o) && decide (o < hi)) = false) ∧ ∀ i, i < n → ∃ u, c[i]? = some u ∧ p i u

/-- No entry. -/
def mz : ByteArray × AV := (ByteArray.empty, .top)
theorem cellsAre_less {w : World} {B : Option Nat} {sz n m : Nat} {p : Nat → Value → Prop} (hm : m ≤ n) (h : cellsAre w B sz n p) : cellsAre w B sz m p := by
  rcases h with ⟨h1, h2⟩ | ⟨b, c, el, lo, hi, e, h2, h3, h4, h5, h6⟩
  · exact .inl ⟨by omega, h2⟩
  · exact .inr ⟨b, c, el, lo, hi, e, h2, h3, by omega, h5, fun i hi => h6 i (by omega)⟩
def objIs (w : World) (S : Nat → Prop) (L : Loc) (B : Option Nat) (sz : Nat) : AO → Prop
  | .dead => True
  | .ints k xs => cellsAre w B sz xs.length fun i u => u = .int k (xs.getD i 0)
  | .row n f => cellsAre w B sz n fun i u => den w S L (f i) u
  | .lst l => cellsAre w B sz l.length fun i u => den w S L (l.getD i .top) u
  | .map l => ∃ b es clock, B = some b ∧ w.heap[b]? = some (.map es clock) ∧ MapKept.Stamped es clock ∧ es.size = l.length ∧
      ∀ i, i < l.length → ∃ e, es[i]? = some e ∧ e.key = .string (l.getD i mz).1 ∧ den w S L (l.getD i mz).2 e.val
  | .mapB l bs clock => ∃ b es, B = some b ∧ w.heap[b]? = some (.map es clock) ∧ MapKept.Stamped es clock ∧ es.size = l.length ∧
      ∀ i, i < l.length → ∃ e, es[i]? = some e ∧ e.key = .string (l.getD i mz).1 ∧ e.born = bs.getD i 0 ∧ den w S L (l.getD i mz).2 e.val
  | .miter id since seen => ∃ b mb, B = some b ∧ id < L.n ∧ L.b id = some mb ∧ w.heap[b]? = some (.mapIter (some mb) since seen.toArray since)
  | .siter s pos => ∃ b, B = some b ∧ w.heap[b]? = some (.stringIter s pos)

def AO.live : AO → Prop
  | .dead => False
  | _ => True

theorem cellsAre_mono {w w' : World} {B : Option Nat} {sz n : Nat} {p p' : Nat → Value → Prop} (hB : ∀ b, B = some b → w'.heap[b]? = w.heap[b]?)
    (hp : ∀ i u, i < n → p i u → p' i u) (h : cellsAre w B sz n p) : cellsAre w' B sz n p' := by
  rcases h with h | ⟨b, c, el, lo, hi, e, hb, hs, hn, hf, h⟩
  · exact .inl h
  · refine .inr ⟨b, c, el, lo, hi, e, by rw [hB b e]; exact hb, hs, hn, hf, fun i hi => ?_⟩
    obtain ⟨u, h1, h2⟩ := h i hi
    exact ⟨u, h1, hp i u hi h2⟩

theorem objIs_mono {w w' : World} {S S' : Nat → Prop} {L L' : Loc} {B : Option Nat} {sz : Nat} (hk : keeps S w w') (hs : ∀ b, S b → S' b) (hl : L.le L')
    {o : AO} (hB : ∀ b, o.live → B = some b → w'.heap[b]? = w.heap[b]?) (h : objIs w S L B sz o) : objIs w' S' L' B sz o := by
  cases o with
  | dead => trivial
  | ints k xs => exact cellsAre_mono (fun b => hB b trivial) (fun _ _ _ h => h) h
  | row n f => exact cellsAre_mono (fun b => hB b trivial) (fun _ _ _ h => den_mono hk hs hl _ _ h) h
  | lst l => exact cellsAre_mono (fun b => hB b trivial) (fun _ _ _ h => den_mono hk hs hl _ _ h) h
  | map l =>
    obtain ⟨b, es, clock, e, hb, hst, hn, h⟩ := h
    refine ⟨b, es, clock, e, by rw [hB b trivial e]; exact hb, hst, hn, fun i hi => ?_⟩
    obtain ⟨x, h1, h2, h3⟩ := h i hi
    exact ⟨x, h1, h2, den_mono hk hs hl _ _ h3⟩
  | mapB l bs clock =>
    obtain ⟨b, es, e, hb, hst, hn, h⟩ := h
    refine ⟨b, es, e, by rw [hB b trivial e]; exact hb, hst, hn, fun i hi => ?_⟩
    obtain ⟨x, h1, h2, h3, h4⟩ := h i hi
    exact ⟨x, h1, h2, h3, den_mono hk hs hl _ _ h4⟩
  | miter id since seen =>
    obtain ⟨b, mb, e, hid, hm, hb⟩ := h
    exact ⟨b, mb, e, Nat.lt_of_lt_of_le hid hl.n, by rw [hl.b _ hid]; exact hm, by rw [hB b trivial e]; exact hb⟩
  | siter s pos =>
    obtain ⟨b, e, hb⟩ := h
    exact ⟨b, e, by rw [hB b trivial e]; exact hb⟩

/-- What was when the call began: the world, the blocks that may be read, those that were handed over, the first so many places. -/
structure Ctx where
  w0 : World
  S0 : Nat → Prop
  np : Nat
  L0 : Loc

def Ctx.O0 (C : Ctx) (b : Nat) : Prop := ∃ i, i < C.np ∧ C.L0.b i = some b

def Live (h : List AO) (i : Nat) : Prop := ∃ o, h[i]? = some o ∧ o.live

def SS (C : Ctx) (w : World) (h : List AO) (L : Loc) (b : Nat) : Prop :=
  b < w.heap.size ∧ (C.S0 b ∨ C.w0.heap.size ≤ b ∨ C.O0 b) ∧ ∀ i, Live h i → L.b i ≠ some b

/-- The package-level variables that are known are so. -/
def Glob (S : Nat → Prop) (w : World) : Prop := ∀ g ∈ Globs.l, S g.1 ∧ ∃ cs el fr, w.heap[g.1]? = some (.cells cs el fr) ∧ g.2 cs
def GlobC (C : Ctx) : Prop := (∀ b, C.S0 b → b < C.w0.heap.size ∧ ¬ C.O0 b) ∧ Glob C.S0 C.w0

theorem Glob.mono {S S' : Nat → Prop} {w w' : World} (hk : keeps S w w') (hs : ∀ b, S b → S' b) (h : Glob S w) : Glob S' w' :=
  fun g hg => let ⟨h1, cs, el, fr, h2, h3⟩ := h g hg; ⟨hs _ h1, cs, el, fr, by rw [hk _ h1]; exact h2, h3⟩
theorem Glob.var {S : Nat → Prop} {w : World} (h : Glob S w) {P : Program} {n : String} {g : Nat} {p : Array Value → Prop} (hn : P.globalNamed n = some g) (hg : (g, p) ∈ Globs.l) : ∃ cs, w.var? P n = some cs ∧ p cs := by
  obtain ⟨_, cs, el, fr, h2, h3⟩ := h _ hg
  exact ⟨cs, by simp only [World.var?, hn, Option.bind_some, h2], h3⟩

structure Fr (C : Ctx) (w : World) : Prop where
  os : w.os = C.w0.os
  tape : w.tape = C.w0.tape
  output : w.output = C.w0.output
  size : C.w0.heap.size ≤ w.heap.size
  block : ∀ k, k < C.w0.heap.size → ¬ C.O0 k → w.heap[k]? = C.w0.heap[k]?
  glob : GlobC C

/-- The heap, as it is known. -/
structure HRel (C : Ctx) (h : List AO) (L : Loc) (w : World) : Prop where
  fr : Fr C w
  n : L.n = h.length
  np : C.np ≤ h.length
  pre : ∀ i, i < C.np → L.b i = C.L0.b i ∧ L.sz i = C.L0.sz i
  inj : ∀ i j b, Live h i → Live h j → L.b i = some b → L.b j = some b → i = j
  mine : ∀ i b, Live h i → L.b i = some b → b < w.heap.size ∧ (C.w0.heap.size ≤ b ∨ C.O0 b)
  objs : ∀ (i : Nat) (o : AO), h[i]? = some o → objIs w (SS C w h L) L (L.b i) (L.sz i) o

/-- What may be read at the call's beginning may be read now. -/
theorem HRel.s0 {C : Ctx} {h : List AO} {L : Loc} {w : World} (hr : HRel C h L w) : (∀ b, C.S0 b → SS C w h L b) ∧ keeps C.S0 C.w0 w := by
  refine ⟨fun b hb => ?_, fun b hb => ?_⟩
  · obtain ⟨h1, h2⟩ := hr.fr.glob.1 b hb
    refine ⟨Nat.lt_of_lt_of_le h1 hr.fr.size, .inl hb, fun i hi e => ?_⟩
    rcases (hr.mine i b hi e).2 with h3 | h3
    · omega
    · exact h2 h3
  · obtain ⟨h1, h2⟩ := hr.fr.glob.1 b hb
    exact hr.fr.block b h1 h2
theorem HRel.globs {C : Ctx} {h : List AO} {L : Loc} {w : World} (hr : HRel C h L w) : Glob (SS C w h L) w :=
  hr.fr.glob.2.mono hr.s0.2 hr.s0.1

/-- A whole state, as it is known. -/
structure Rel (C : Ctx) (t : List AV) (h : List AO) (L : Loc) (a : Act) (w : World) : Prop where
  heap : HRel C h L w
  size : a.tmps.size = t.length
  tmps : ∀ (i : Nat) (v : AV), t[i]? = some v → ∃ u, a.tmps[i]? = some u ∧ den w (SS C w h L) L v u
  defers : a.defers = []

end Go.Proofs.YtflclafbieokiaaGreatDoor.AL

namespace Go.Proofs.YtflclafbieokiaaGreatDoor.AL
open Go
variable [Globs]

def getK : List AV → Nat → (AV → Prop) → Prop
  | [], _, K => K .top
  | a :: _, 0, K => K a
  | _ :: l, n + 1, K => getK l n K
def setK : List AV → Nat → AV → (List AV → Prop) → Prop
  | [], _, _, K => K []
  | _ :: l, 0, v, K => K (v :: l)
  | a :: l, n + 1, v, K => setK l n v fun l' => K (a :: l')
def getO : List AO → Nat → (AO → Prop) → Prop
  | [], _, _ => False
  | a :: _, 0, K => K a
  | _ :: l, n + 1, K => getO l n K
def setO : List AO → Nat → AO → (List AO → Prop) → Prop
  | [], _, _, _ => False
  | _ :: l, 0, v, K => K (v :: l)
  | a :: l, n + 1, v, K => setO l n v fun l' => K (a :: l')
def lenK : List AO → (Nat → Prop) → Prop
  | [], K => K 0
  | _ :: l, K => lenK l fun n => K (n + 1)
def putK (t : List AV) (d : Option Tmp) (v : AV) (K : List AV → Prop) : Prop :=
  match d with
  | some d => setK t d v K
  | none => K t
def cstK : Value → (AV → Prop) → Prop
  | .bool true, K => K .tt
  | .bool false, K => K .ff
  | v, K => K (.raw v)
def evK (t : List AV) : Operand → (AV → Prop) → Prop
  | .tmp i, K => getK t i K
  | .const v, K => cstK v K
  | .global g, K => K (.raw (.pointer (some ⟨g, 0, none⟩)))
  | .func f, K => K (.raw (.func (.func f) #[] #[]))
def evsK (t : List AV) : List Operand → (List AV → Prop) → Prop
  | [], K => K []
  | x :: l, K => evK t x fun a => evsK t l fun r => K (a :: r)
/-- A test between numerals, taken by computation. -/
def sure (p : Prop) [Decidable p] (k : Prop) : Prop :=
  match decide p with
  | true => k
  | false => False
def sizeK (P : Program) (T : TypeId) (K : Nat → Prop) : Prop :=
  match P.info? T with
  | some i => match i.size with
    | 0 => K 0
    | 1 => K 1
    | n + 2 => K (n + 2)
  | none => False
def aggB (P : Program) (T : TypeId) : Option Bool :=
  match P.underlying T with
  | some (.struct _) | some (.array _ _) => some true
  | some _ => some false
  | none => none

def sameKind (k k' : IntKind) (p : Prop) : Prop :=
  match decide (k = k') with
  | true => p
  | false => False
def intOp (op : BinOp) (k k' : IntKind) (x y : Int) (K : AV → Prop) : Prop :=
  match op with
  | .shl => 0 ≤ y ∧ K (int k (k.wrap (x * 2 ^ (min y.toNat k.bits))))
  | .shr => 0 ≤ y ∧ K (int k (x.fdiv (2 ^ (min y.toNat k.bits))))
  | .add => sameKind k k' (K (int k (k.wrap (x + y))))
  | .sub => sameKind k k' (K (int k (k.wrap (x - y))))
  | .mul => sameKind k k' (K (int k (k.wrap (x * y))))
  | .quo => sameKind k k' (y ≠ 0 ∧ K (int k (k.wrap (x.tdiv y))))
  | .rem => sameKind k k' (y ≠ 0 ∧ K (int k (x.tmod y)))
  | .and => sameKind k k' (K (int k (Go.bits .and k x y)))
  | .or => sameKind k k' (K (int k (Go.bits .or k x y)))
  | .xor => sameKind k k' (K (int k (Go.bits .xor k x y)))
  | .andNot => sameKind k k' (K (int k (Go.bits .andNot k x y)))
  | .eql => sameKind k k' (K (bool (decide (x = y))))
  | .neq => sameKind k k' (K (bool (decide (¬ x = y))))
  | .lss => sameKind k k' (K (bool (decide (x < y))))
  | .leq => sameKind k k' (K (bool (decide (x ≤ y))))
  | .gtr => sameKind k k' (K (bool (decide (y < x))))
  | .geq => sameKind k k' (K (bool (decide (y ≤ x))))
def strOp (op : BinOp) (x y : ByteArray) (K : AV → Prop) : Prop :=
  match op with
  | .add => (x.size + y.size < 9223372036854775808) ∧ K (str (x ++ y))
  | .eql => K (bool (decide (x = y)))
  | .neq => K (bool (decide (¬ x = y)))
  | .lss => K (bool (Op.bytesLess x.toList y.toList))
  | .leq => K (bool (Op.bytesLess x.toList y.toList || decide (x = y)))
  | .gtr => K (bool (!(Op.bytesLess x.toList y.toList || decide (x = y))))
  | .geq => K (bool (!Op.bytesLess x.toList y.toList))
  | _ => False
def boolOp (op : BinOp) (x y : Bool) (K : AV → Prop) : Prop :=
  match op with
  | .eql => K (bool (x == y))
  | .neq => K (bool (x != y))
  | _ => False
/-- A list whose first n entries are told by a function. -/
def tabK (n : Nat) (f : Nat → AV) (K : List AV → Prop) : Prop := K ((List.range n).map f)
def explicitInts (k : IntKind) : List AV → (List Int → Prop) → Prop
  | [], K => K []
  | .raw (.int k' n) :: l, K => sameKind k' k (explicitInts k l fun r => K (n :: r))
  | _ :: _, _ => False
/-- May two cells be compared as leaves of a type? -/
def leafOk (d : Option TypeDesc) : Value → Value → Bool
  | .int k _, .int k' _ => match d with
    | some (.int _) => decide (k = k')
    | _ => false
  | .bool _, .bool _ => match d with
    | some .bool => true
    | _ => false
  | .string _, .string _ => match d with
    | some .string => true
    | _ => false
  | _, _ => false
def leafEq : Value → Value → Bool
  | .int _ x, .int _ y => decide (x = y)
  | .bool x, .bool y => x == y
  | .string x, .string y => decide (x = y)
  | _, _ => false
def eqFieldsK (P : Program) (us vs : List AV) : List Field → (Bool → Prop) → Prop
  | [], K => K true
  | f :: fs, K => getK us f.offset fun a => getK vs f.offset fun b => match a, b with
    | .raw u, .raw v => sure (leafOk (P.underlying f.type) u v = true) <| eqFieldsK P us vs fs fun r => K (leafEq u v && r)
    | _, _ => False
/-- The numbers of an array that is a value. -/
def toIntsK (a : AV) (K : IntKind → List Int → Prop) : Prop :=
  match a with
  | .aggI k xs => K k xs
  | .agg n f => tabK n f fun l => match l with
    | .raw (.int k _) :: _ => explicitInts k l (K k)
    | _ => False
  | _ => False
/-- '==' of structs and of arrays, as a bool. -/
def eqAggK (P : Program) (T : TypeId) (x y : AV) (K : Bool → Prop) : Prop :=
  match P.underlying T with
  | some (.struct fs) => (P.stoodInHeld T = false ∧ P.eqGuardType P.depth T = false ∧ (fs.toList.all fun f => f.name != "_") = true) ∧ match x, y with
    | .agg n f, .agg m g => tabK n f fun us => tabK m g fun vs => eqFieldsK P us vs fs.toList K
    | _, _ => False
  | some (.array n e) => sure (P.eqGuardType P.depth T = false) <| match P.underlying e with
    | some (.int _) => sizeK P e fun s => sure (s = 1) <| toIntsK x fun k xs => toIntsK y fun k' ys => sameKind k' k (xs.length = n ∧ ys.length = n ∧ K (decide (xs = ys)))
    | _ => False
  | _ => False
/-- A value that may be held against another one without further ado. -/
def noAgg : Value → Bool
  | .agg _ => false
  | .nilIface => false
  | _ => true
/-- '==' and '!=' with nothing else than a type's name in sight. -/
def otherOp (P : Program) (op : BinOp) (T : TypeId) (x y : AV) (K : AV → Prop) : Prop :=
  match P.underlying T, op, x, y with
  | some (.struct _), .eql, a, b => eqAggK P T a b fun r => K (bool r)
  | some (.struct _), .neq, a, b => eqAggK P T a b fun r => K (bool (!r))
  | some (.array _ _), .eql, a, b => eqAggK P T a b fun r => K (bool r)
  | some (.array _ _), .neq, a, b => eqAggK P T a b fun r => K (bool (!r))
  | some (.pointer _), .eql, .ptr _ _, .raw (.pointer none) => K .ff
  | some (.pointer _), .neq, .ptr _ _, .raw (.pointer none) => K .tt
  | some (.pointer _), .eql, .raw (.pointer none), .raw (.pointer none) => K .tt
  | some (.pointer _), .neq, .raw (.pointer none), .raw (.pointer none) => K .ff
  | some (.slice _), .eql, .ro n sz _, .raw (.slice none 0 0) => (n * sz = 0 → K .tt) ∧ K .ff
  | some (.slice _), .neq, .ro n sz _, .raw (.slice none 0 0) => (n * sz = 0 → K .ff) ∧ K .tt
  | some (.slice _), .eql, .rs n sz _, .raw (.slice none 0 0) => (n * sz = 0 → K .tt) ∧ K .ff
  | some (.slice _), .neq, .rs n sz _, .raw (.slice none 0 0) => (n * sz = 0 → K .ff) ∧ K .tt
  | some (.slice _), .eql, .roI _ xs, .raw (.slice none 0 0) => (xs.length = 0 → K .tt) ∧ K .ff
  | some (.slice _), .neq, .roI _ xs, .raw (.slice none 0 0) => (xs.length = 0 → K .ff) ∧ K .tt
  | some (.slice _), .eql, .own _ _ len _, .raw (.slice none 0 0) => (len = 0 → K .tt) ∧ K .ff
  | some (.slice _), .neq, .own _ _ len _, .raw (.slice none 0 0) => (len = 0 → K .ff) ∧ K .tt
  | some (.slice _), .eql, .raw (.slice none 0 0), .raw (.slice none 0 0) => K .tt
  | some (.slice _), .neq, .raw (.slice none 0 0), .raw (.slice none 0 0) => K .ff
  | _, op, .raw u, .raw v => sure (noAgg u = true) <| ∃ r : Value, (∀ w, (binOp op T u v).run P w = .ok r w) ∧ K (.raw r)
  | _, _, _, _ => False
/-- '==' and '!=' with nil. -/
def nilOp (P : Program) (op : BinOp) (T : TypeId) (x : AV) (K : AV → Prop) : Prop :=
  match P.underlying T, op, x with
  | some (.interface _), .eql, .ifc => K .ff
  | some (.interface _), .neq, .ifc => K .tt
  | some (.interface _), .eql, .raw .nilIface => K .tt
  | some (.interface _), .neq, .raw .nilIface => K .ff
  | _, _, _ => False
def binK (P : Program) (op : BinOp) (T : TypeId) (a b : AV) (K : AV → Prop) : Prop :=
  match a, b with
  | .raw (.int k x), .raw (.int k' y) => intOp op k k' x y K
  | .raw (.string x), .raw (.string y) => strOp op x y K
  | .raw (.bool x), .raw (.bool y) => match P.underlying T with
    | some .bool => boolOp op x y K
    | _ => False
  | .raw (.bool x), .tt => match P.underlying T with
    | some .bool => boolOp op x true K
    | _ => False
  | .raw (.bool x), .ff => match P.underlying T with
    | some .bool => boolOp op x false K
    | _ => False
  | .tt, .raw (.bool y) => match P.underlying T with
    | some .bool => boolOp op true y K
    | _ => False
  | .ff, .raw (.bool y) => match P.underlying T with
    | some .bool => boolOp op false y K
    | _ => False
  | .tt, .tt => match P.underlying T with
    | some .bool => boolOp op true true K
    | _ => False
  | .tt, .ff => match P.underlying T with
    | some .bool => boolOp op true false K
    | _ => False
  | .ff, .tt => match P.underlying T with
    | some .bool => boolOp op false true K
    | _ => False
  | .ff, .ff => match P.underlying T with
    | some .bool => boolOp op false false K
    | _ => False
  | a, b => otherOp P op T a b K
def unK (op : UnOp) (a : AV) (K : AV → Prop) : Prop :=
  match op, a with
  | .not, .tt => K .ff
  | .not, .ff => K .tt
  | .not, .raw (.bool b) => K (bool (!b))
  | .neg, .raw (.int k n) => K (int k (k.wrap (0 - n)))
  | .xor, .raw (.int k n) => K (int k (Go.bits .xor k (if k.signed then -1 else k.max) n))
  | _, _ => False
def bytesOf (xs : List Int) : ByteArray := ⟨(xs.map fun n => UInt8.ofNat n.toNat).toArray⟩
def intsOf (s : ByteArray) : List Int := s.data.toList.map fun b => (b.toNat : Int)
def convK (P : Program) (h : List AO) (src dst : TypeId) (a : AV) (K : AV → Prop) : Prop :=
  match P.underlying src with
  | none => False
  | some _ => match P.underlying dst, a with
  | some (.int k), .raw (.int _ n) => K (int k (k.wrap n))
  | some .string, .raw (.string s) => K (str s)
  | some .string, .roI .u8 xs => match P.underlying src with
    | some (.slice e) => match P.underlying e with
      | some (.int .u8) => K (str (bytesOf xs))
      | _ => False
    | _ => False
  | some .string, .raw (.slice none _ _) => match P.underlying src with
    | some (.slice e) => match P.underlying e with
      | some (.int .u8) => K (str ByteArray.empty)
      | _ => False
    | _ => False
  | some .string, .own id off len 1 => match P.underlying src with
    | some (.slice e) => match P.underlying e with
      | some (.int .u8) => getO h id fun o => match o with
        | .ints .u8 xs => off + len ≤ xs.length ∧ K (str (bytesOf ((xs.drop off).take len)))
        | _ => False
      | _ => False
    | _ => False
  | some (.float _), .raw v => ∃ r : Value, (∀ w, (convert src dst v).run P w = .ok r w) ∧ K (.raw r)
  | _, _ => False
def boundK (v : Option AV) (dflt : Nat) (most : Nat) (K : Nat → Prop) : Prop :=
  match v with
  | none => K dflt
  | some (.raw (.int _ i)) => (0 ≤ i ∧ i ≤ (most : Int)) ∧ K i.toNat
  | some _ => False
def addOff (off i sz : Nat) : Nat := off + i * sz
def sliceK (P : Program) (T : TypeId) (h : List AO) (x : AV) (lo hi mx : Option AV) (K : AV → Prop) : Prop :=
  match mx, P.underlying T, x with
  | none, some .string, .raw (.string s) => boundK hi s.size s.size fun b => boundK lo 0 b fun a => K (str (s.extract a b))
  | none, some (.slice e), .roI k xs => sizeK P e fun s => sure (s = 1) <| boundK hi xs.length xs.length fun b => boundK lo 0 b fun a => K (.roI k ((xs.take b).drop a))
  | none, some (.slice e), .own id off len sz => sizeK P e fun s => sure (s = sz) <| boundK hi len len fun b => boundK lo 0 b fun a => K (.own id (addOff off a sz) (b - a) sz)
  | none, some (.slice e), .ro n sz f => sizeK P e fun s => sure (s = sz) <| boundK hi n n fun b => boundK lo 0 b fun a => K (.ro (b - a) sz fun i => f (a * sz + i))
  | none, some (.slice e), .rs n sz f => sizeK P e fun s => sure (s = sz) <| boundK hi n n fun b => boundK lo 0 b fun a => K (.rs (b - a) sz fun i => f (a * sz + i))
  | none, some (.slice e), .raw (.slice none 0 0) => sizeK P e fun _ => boundK hi 0 0 fun b => boundK lo 0 b fun _ => K (.raw (.slice none 0 0))
  | none, some (.array n e), .ptr id off => sizeK P e fun s => boundK hi n n fun b => boundK lo 0 b fun a =>
      getO h id fun o => match o with
        | .ints _ xs => off + n * s ≤ xs.length ∧ K (.own id (addOff off a s) (b - a) s)
        | .lst l => off + n * s ≤ l.length ∧ K (.own id (addOff off a s) (b - a) s)
        | .row m _ => off + n * s ≤ m ∧ K (.own id (addOff off a s) (b - a) s)
        | _ => False
  | some (.raw (.int _ c)), some (.slice e), .roI k xs => match lo, hi with
    | none, some (.raw (.int _ n)) => sizeK P e fun s => sure (s = 1) <| (0 ≤ n ∧ n ≤ c ∧ c ≤ (xs.length : Int)) ∧ K (.roI k (xs.take n.toNat))
    | _, _ => False
  | _, _, _ => False
def loadK (P : Program) (T : TypeId) (h : List AO) (a : AV) (K : AV → Prop) : Prop :=
  match a with
  | .rp n f => match aggB P T with
    | some true => sizeK P T fun s => sure (s ≤ n) (K (.agg s f))
    | some false => sure (0 < n) (K (f 0))
    | none => False
  | .ptr id off => getO h id fun o => match o with
    | .lst l => match aggB P T with
      | some true => sizeK P T fun s => sure (off + s ≤ l.length) (K (.agg s fun i => l.getD (off + i) .top))
      | some false => sure (off < l.length) (getK l off K)
      | none => False
    | .ints k xs => match aggB P T with
      | some true => sizeK P T fun s => off + s ≤ xs.length ∧ K (.aggI k ((xs.drop off).take s))
      | some false => off < xs.length ∧ K (int k (xs.getD off 0))
      | none => False
    | .row n f => match aggB P T with
      | some true => sizeK P T fun s => off + s ≤ n ∧ K (.agg s fun i => f (off + i))
      | some false => off < n ∧ K (f off)
      | none => False
    | _ => False
  | .bx id => match aggB P T with
    | some false => K (.ptr id 0)
    | _ => False
  | _ => False
def arrPK (P : Program) (T : TypeId) (x : AV) (K : AV → Prop) : Prop :=
  match P.underlying T, x with
  | some (.array n _), .roI k xs => sure (0 < n) <| n ≤ xs.length ∧ K (.rp n fun i => int k (xs.getD i 0))
  | _, _ => False
def idxAddrK (P : Program) (T : TypeId) (x i : AV) (K : AV → Prop) : Prop :=
  match i with
  | .raw (.int _ j) => match P.underlying T, x with
    | some (.slice e), .roI k xs => sizeK P e fun s => sure (s = 1) <| (0 ≤ j ∧ j < (xs.length : Int)) ∧ K (.rp 1 fun _ => int k (xs.getD j.toNat 0))
    | some (.slice e), .ro n sz f => sizeK P e fun s => sure (s = sz ∧ 0 < sz) <| (0 ≤ j ∧ j < (n : Int)) ∧ K (.rp sz fun c => f (j.toNat * sz + c))
    | some (.slice e), .rs n sz f => sizeK P e fun s => sure (s = sz ∧ 0 < sz) <| (0 ≤ j ∧ j < (n : Int)) ∧ ∃ g : Nat → AV, (∀ c, c < sz → f (j.toNat * sz + c) = g c) ∧ K (.rp sz g)
    | some (.slice e), .own id off len sz => sizeK P e fun s => sure (s = sz) <| (0 ≤ j ∧ j < (len : Int)) ∧ K (.ptr id (addOff off j.toNat sz))
    | some (.array n e), .ptr id off => sizeK P e fun s => (0 ≤ j ∧ j < (n : Int)) ∧ K (.ptr id (addOff off j.toNat s))
    | some (.array n e), .rp m g => sizeK P e fun s => (0 ≤ j ∧ j < (n : Int) ∧ j.toNat * s + s ≤ m) ∧ K (.rp s fun c => g (j.toNat * s + c))
    | _, _ => False
  | _ => False
def idxK (P : Program) (T : TypeId) (x i : AV) (K : AV → Prop) : Prop :=
  match i with
  | .raw (.int _ j) => match P.underlying T, x with
    | some .string, .raw (.string s) => (0 ≤ j ∧ j < (s.size : Int)) ∧ K (int .u8 ((intsOf s).getD j.toNat 0))
    | some (.array n e), .aggI k xs => match aggB P e with
      | some true => False
      | some false => sizeK P e fun s => sure (s = 1) <| (0 ≤ j ∧ j < (n : Int)) ∧ n ≤ xs.length ∧ K (int k (xs.getD j.toNat 0))
      | none => False
    | _, _ => False
  | _ => False
def partK (P : Program) (T : TypeId) (a : AV) (off : Nat) (K : AV → Prop) : Prop :=
  match a with
  | .agg n f => match aggB P T with
    | some true => sizeK P T fun s => sure (off + s ≤ n) (K (.agg s fun i => f (off + i)))
    | some false => sure (off < n) (K (f off))
    | none => False
  | _ => False
def fieldK (P : Program) (T : TypeId) (a : AV) (j : Nat) (K : AV → Prop) : Prop :=
  match P.underlying T with
  | some (.struct fs) => match fs.toList[j]? with
    | some f => partK P f.type a f.offset K
    | none => False
  | _ => False
def fieldAddrK (P : Program) (T : TypeId) (a : AV) (j : Nat) (K : AV → Prop) : Prop :=
  match P.underlying T with
  | some (.struct fs) => match fs.toList[j]? with
    | some f => sizeK P f.type fun s => sure (0 < s) <| match a with
      | .ptr id off => K (.ptr id (off + f.offset))
      | .rp n g => sure (f.offset ≤ n) <| K (.rp (n - f.offset) fun i => g (f.offset + i))
      | _ => False
    | none => False
  | _ => False
def extractK (a : AV) (j : Nat) (K : AV → Prop) : Prop :=
  match a with
  | .tup n f => sure (j < n) (K (f j))
  | _ => False
def lenOfK (P : Program) (T : TypeId) (a : AV) (K : AV → Prop) : Prop :=
  match P.underlying T, a with
  | some .string, .raw (.string s) => K (int .i64 s.size)
  | some (.array n _), _ => K (int .i64 n)
  | some (.slice _), .roI _ xs => K (int .i64 xs.length)
  | some (.slice _), .ro n _ _ => K (int .i64 n)
  | some (.slice _), .rs n _ _ => K (int .i64 n)
  | some (.slice _), .own _ _ len _ => K (int .i64 len)
  | some (.slice _), .raw (.slice none 0 0) => K (int .i64 0)
  | _, _ => False
/-! Maps whose keys are texts. -/
def getM (s : ByteArray) : List (ByteArray × AV) → Option AV
  | [] => none
  | p :: r => if p.1 = s then some p.2 else getM s r
def okV (ok : Bool) (v b : AV) : AV := match ok with | true => .tup 2 fun i => [v, b].getD i .top | false => v
def lookK (P : Program) (T : TypeId) (h : List AO) (m x : AV) (ok : Bool) (K : AV → Prop) : Prop :=
  match P.underlying T with
  | some (.map kt et) => match P.underlying kt with
    | some .string => match P.info? et with
      | some i => match i.zero with
        | some z => match m, x with
          | .mp id, .raw (.string s) => getO h id fun o => match o with
            | .map l => (∀ v, getM s l = some v → K (okV ok v .tt)) ∧ (getM s l = none → K (okV ok (.raw z) .ff))
            | _ => False
          | .raw (.map none), .raw (.string _) => K (okV ok (.raw z) .ff)
          | _, _ => False
        | none => False
      | none => False
    | _ => False
  | _ => False
/-- How long a value is: a map's is asked of the heap. -/
def lenHK (P : Program) (T : TypeId) (h : List AO) (a : AV) (K : AV → Prop) : Prop :=
  match a with
  | .mp id => match P.underlying T with
    | some (.map _ _) => getO h id fun o => match o with
      | .map l => K (int .i64 l.length)
      | _ => False
    | _ => False
  | .raw (.map none) => match P.underlying T with
    | some (.map _ _) => K (int .i64 0)
    | _ => False
  | a => lenOfK P T a K
def optK (t : List AV) (x : Option Operand) (K : Option AV → Prop) : Prop :=
  match x with
  | none => K none
  | some x => evK t x fun a => K (some a)

/-- An operation that only computes and reads. -/
def apure (P : Program) (t : List AV) (h : List AO) (op : Op) (K : AV → Prop) : Prop :=
  match op with
  | .move x | .assign x => evK t x K
  | .pick c a b => evK t c fun c => match c with
    | .tt => evK t a K
    | .ff => evK t b K
    | .raw (.bool true) => evK t a K
    | .raw (.bool false) => evK t b K
    | _ => False
  | .nilCheck x => evK t x fun a => match a with
    | .ptr _ _ => K a
    | .rp _ _ => K a
    | .clo (.func _) _ _ => K a
    | _ => False
  | .load T x => evK t x fun a => loadK P T h a K
  | .binOp op T x (.const .nilIface) _ => evK t x fun a => nilOp P op T a K
  | .binOp op T x y _ => evK t x fun a => evK t y fun b => binK P op T a b K
  | .unOp op _ x => evK t x fun a => unK op a K
  | .convert src dst x => evK t x fun a => convK P h src dst a K
  | .slice T x lo hi mx => evK t x fun a => optK t lo fun lo => optK t hi fun hi => optK t mx fun mx => sliceK P T h a lo hi mx K
  | .fieldAddr T x j => evK t x fun a => fieldAddrK P T a j K
  | .field T x j => evK t x fun a => fieldK P T a j K
  | .indexAddr T x i => evK t x fun a => evK t i fun b => idxAddrK P T a b K
  | .sliceToArrayPointer T x => evK t x fun a => arrPK P T a K
  | .index T x i => evK t x fun a => evK t i fun b => idxK P T a b K
  | .extract x j => evK t x fun a => extractK a j K
  | .lookup T m x ok => evK t m fun m => evK t x fun x => lookK P T h m x ok K
  | .call { callee := .builtin .len, args, argTypes } => match args.toList, argTypes.toList with
    | [x], [T] => evK t x fun a => lenHK P T h a K
    | _, _ => False
  | .call { callee := .builtin .complex, args, .. } => evsK t args.toList fun l => match l with
    | [.raw (.float k x), .raw (.float k' y)] => sure (k = k') <| K (.raw (.complex k x y))
    | _ => False
  | .call { callee := .builtin .real, args, .. } => evsK t args.toList fun l => match l with
    | [.raw (.complex k x _)] => K (.raw (.float k x))
    | _ => False
  | .call { callee := .builtin .imag, args, .. } => evsK t args.toList fun l => match l with
    | [.raw (.complex k _ y)] => K (.raw (.float k y))
    | _ => False
  | .call { callee := .builtin .max, args, .. } => evsK t args.toList fun l => match l with
    | [.raw (.int k x), .raw (.int k' y)] => sameKind k' k (K (int k (max x y)))
    | _ => False
  | .call { callee := .builtin .min, args, .. } => evsK t args.toList fun l => match l with
    | [.raw (.int k x), .raw (.int k' y)] => sameKind k' k (K (int k (min x y)))
    | _ => False
  | _ => False

end Go.Proofs.YtflclafbieokiaaGreatDoor.AL

namespace Go.Proofs.YtflclafbieokiaaGreatDoor.AL
open Go
variable [Globs]

/-- Other places for the call's own blocks. -/
def AV.ren (g : Nat → Nat) : AV → AV
  | .own id off len sz => .own (g id) off len sz
  | .ptr id off => .ptr (g id) off
  | .agg n f => .agg n fun i => (f i).ren g
  | .tup n f => .tup n fun i => (f i).ren g
  | .clo fn n f => .clo fn n fun i => (f i).ren g
  | .mp id => .mp (g id)
  | .bx id => .bx (g id)
  | .bm f id => .bm f (g id)
  | a => a
def AO.ren (g : Nat → Nat) : AO → AO
  | .row n f => .row n fun i => (f i).ren g
  | .lst l => .lst (l.map (AV.ren g))
  | .map l => .map (l.map fun p => (p.1, p.2.ren g))
  | .mapB l bs c => .mapB (l.map fun p => (p.1, p.2.ren g)) bs c
  | .miter id s q => .miter (g id) s q
  | o => o

/-- The function has a body of Go's. -/
def Entered (P : Program) (f : FuncId) : Prop := ∃ fn, P.funcs[f]? = some fn ∧ (fn.name == "runtime.NumGoroutine") = false ∧ fn.body.isNone = false

/-- THE CONTRACT of a function: from arguments that are known so, and blocks that are handed over, to a result, and to what these blocks and new ones then are. -/
def ACalls (P : Program) (f : FuncId) (args : List AV) (h : List AO) (R : AV → List AO → Prop) : Prop :=
  Entered P f ∧ ∀ (S0 : Nat → Prop) (L : Loc) (w : World) (vs : Array Value),
    HRel ⟨w, S0, h.length, L⟩ h L w → (∀ b, S0 b → b < w.heap.size ∧ ∀ i, i < h.length → L.b i ≠ some b) →
    vs.size = args.length → (∀ (i : Nat) (a : AV), args[i]? = some a → ∃ v, vs[i]? = some v ∧ den w S0 L a v) →
    Calls P f vs w fun e w' => ∃ v r h' L', e = .returned v ∧ R r h' ∧ HRel ⟨w, S0, h.length, L⟩ h' L' w' ∧
      den w' (SS ⟨w, S0, h.length, L⟩ w' h' L') L' r v

/-- Numerals, as they are printed. -/
def lits : List Nat := [0, 1, 2, 3, 4, 5, 6, 7, 8, 9, 10, 11, 12, 13, 14, 15, 16, 17, 18, 19, 20, 21, 22, 23, 24, 25, 26, 27, 28, 29, 30, 31, 32, 33, 34, 35, 36, 37, 38, 39, 40, 41, 42, 43, 44, 45, 46, 47, 48, 49, 50, 51, 52, 53, 54, 55, 56, 57, 58, 59, 60, 61, 62, 63, 64, 65, 66, 67, 68, 69, 70, 71, 72, 73, 74, 75, 76, 77, 78, 79, 80, 81, 82, 83, 84, 85, 86, 87, 88, 89, 90, 91, 92, 93, 94, 95, 96, 97, 98, 99]
def addO (h : List AO) (o : AO) (K : Nat → List AO → Prop) : Prop := go o h lits K
where go (o : AO) : List AO → List Nat → (Nat → List AO → Prop) → Prop
  | [], n :: _, K => K n [o]
  | p :: h, _ :: l, K => go o h l fun n r => K n (p :: r)
  | _, [], _ => False

def cell1 : AV → Bool
  | .raw (.agg _) => false
  | .raw (.tuple _) => false
  | .top => false
  | .agg _ _ => false
  | .aggI _ _ => false
  | .tup _ _ => false
  | _ => true

/-- The numbers that a row has. -/
def intsK (h : List AO) (k : IntKind) (x : AV) (K : List Int → Prop) : Prop :=
  match x with
  | .roI k' ys => sameKind k' k (K ys)
  | .own id off len 1 => getO h id fun o => match o with
    | .ints k' ys => sameKind k' k (off + len ≤ ys.length ∧ K ((ys.drop off).take len))
    | _ => False
  | .raw (.slice none 0 0) => K []
  | .raw (.string s) => sameKind .u8 k (K (intsOf s))
  | _ => False
/-- The cells that a row has, as a function. -/
def cellsK (h : List AO) (sz : Nat) (x : AV) (K : Nat → (Nat → AV) → Prop) : Prop :=
  match x with
  | .ro n sz' f => sure (sz' = sz) <| K n f
  | .rs n sz' f => sure (sz' = sz) <| K n f
  | .roI k ys => sure (sz = 1) <| K ys.length fun i => int k (ys.getD i 0)
  | .own id off len sz' => sure (sz' = sz) <| getO h id fun o => match o with
    | .lst l => off + len * sz ≤ l.length ∧ K len fun i => l.getD (off + i) .top
    | .row n f => off + len * sz ≤ n ∧ K len fun i => f (off + i)
    | .ints k ys => off + len * sz ≤ ys.length ∧ K len fun i => int k (ys.getD (off + i) 0)
    | _ => False
  | .raw (.slice none 0 0) => K 0 fun _ => .top
  | _ => False

def zeroK (P : Program) (T : TypeId) (K : Value → Prop) : Prop :=
  match P.info? T with
  | some i => match i.zero with
    | some z => K z
    | none => False
  | none => False
def intB (P : Program) (T : TypeId) : Option IntKind :=
  match P.underlying T with
  | some (.int k) => some k
  | _ => none

def newVarK (P : Program) (E : TypeId) (h : List AO) (a : AV) (K : Nat → List AO → Prop) : Prop :=
  match a with
  | .agg n f => sizeK P E fun s => sure (s = n) <| tabK n f fun l => addO h (.lst l) K
  | .aggI k xs => sizeK P E fun s => s = xs.length ∧ addO h (.ints k xs) K
  | a => match cell1 a with
    | true => sizeK P E fun s => sure (s = 1) <| addO h (.lst [a]) K
    | false => False

def storeK (P : Program) (T : TypeId) (h : List AO) (a v : AV) (K : List AO → Prop) : Prop :=
  match a with
  | .ptr id off => getO h id fun o => match o with
    | .ints k xs => match v with
      | .raw (.int k' n) => sizeK P T fun s => sure (s = 1) <| sameKind k' k (off < xs.length ∧ setO h id (.ints k (xs.set off n)) K)
      | .aggI k' ys => sizeK P T fun s => s = ys.length ∧ sameKind k' k (off + s ≤ xs.length ∧ setO h id (.ints k (xs.take off ++ ys ++ xs.drop (off + ys.length))) K)
      | _ => False
    | .lst l => match v with
      | .agg n f => sizeK P T fun s => sure (s = n ∧ off + n ≤ l.length) <| tabK n f fun m => sure (m.all cell1 = true) <| setO h id (.lst (l.take off ++ m ++ l.drop (off + n))) K
      | .aggI k xs => sizeK P T fun s => xs.length = s ∧ (sure (off + s ≤ l.length) <| tabK s (fun i => int k (xs.getD i 0)) fun m => sure (m.all cell1 = true) <| setO h id (.lst (l.take off ++ m ++ l.drop (off + s))) K)
      | v => match cell1 v with
        | true => sizeK P T fun s => sure (s = 1 ∧ off < l.length) <| setK l off v fun l' => setO h id (.lst l') K
        | false => False
    | .row n f => match v with
      | .agg m f' => sizeK P T fun s => sure (s = m) <| off + m ≤ n ∧ (∀ i, i < m → cell1 (f' i) = true) ∧ ∃ g : Nat → AV, (∀ i, i < n → g i = if off ≤ i ∧ i < off + m then f' (i - off) else f i) ∧ setO h id (.row n g) K
      | v => match cell1 v with
        | true => sizeK P T fun s => sure (s = 1) <| off < n ∧ ∃ g : Nat → AV, (∀ i, i < n → g i = if i = off then v else f i) ∧ setO h id (.row n g) K
        | false => False
    | _ => False
  | _ => False

/-! Maps whose keys are texts. -/
def setM (s : ByteArray) (v : AV) : List (ByteArray × AV) → List (ByteArray × AV)
  | [] => [(s, v)]
  | p :: r => if p.1 = s then (p.1, v) :: r else p :: setM s v r
def delM (s : ByteArray) : List (ByteArray × AV) → List (ByteArray × AV)
  | [] => []
  | p :: r => if p.1 = s then r else p :: delM s r
def mapSetK (P : Program) (T : TypeId) (h : List AO) (m x v : AV) (K : List AO → Prop) : Prop :=
  match P.underlying T with
  | some (.map kt _) => match P.underlying kt with
    | some .string => match m, x with
      | .mp id, .raw (.string s) => getO h id fun o => match o with
        | .map l => setO h id (.map (setM s v l)) K
        | _ => False
      | _, _ => False
    | _ => False
  | _ => False
def mapDelK (P : Program) (T : TypeId) (h : List AO) (m x : AV) (K : List AO → Prop) : Prop :=
  match P.underlying T with
  | some (.map kt _) => match P.underlying kt with
    | some .string => match m, x with
      | .mp id, .raw (.string s) => getO h id fun o => match o with
        | .map l => setO h id (.map (delM s l)) K
        | _ => False
      | _, _ => False
    | _ => False
  | _ => False
/-- A row that is only read, cut with its room: read on, or, if there is no room, to be appended to. -/
def slice3K (P : Program) (T : TypeId) (h : List AO) (x : AV) (n c : AV) (K : AV → List AO → Prop) : Prop :=
  match P.underlying T with
  | some (.slice e) => match intB P e with
    | some k => sizeK P e fun s => sure (s = 1) <| match n, c with
      | .raw (.int _ n), .raw (.int _ c) => match x with
        | .roI k' xs => sameKind k' k ((0 ≤ n ∧ n ≤ c ∧ c ≤ (xs.length : Int)) ∧ (K (.roI k (xs.take n.toNat)) h ∨ (c = 0 ∧ addO h (.ints k []) fun id h' => K (.own id 0 0 1) h')))
        | .raw (.slice none 0 0) => (n = 0 ∧ c = 0) ∧ K (.raw (.slice none 0 0)) h
        | _ => False
      | _, _ => False
    | none => False
  | _ => False
def notInt (d : TypeDesc) : Bool := match d with | .slice _ => true | .string => true | _ => false
/-- What is appended: a row's numbers, or so many zeros. -/
def sourceK (d : TypeDesc) (z : Value) (h : List AO) (k : IntKind) (x : AV) (K : List Int → Prop) : Prop :=
  match d with
  | .int _ => match x with
    | .raw (.int .i64 n) => (0 ≤ n ∧ n ≤ 140737488355328) ∧ z.cells[0]! = .int k 0 ∧ K (List.replicate n.toNat 0)
    | _ => False
  | .slice _ => intsK h k x K
  | .string => intsK h k x K
  | _ => False
def appendK (P : Program) (T T2 : TypeId) (h : List AO) (s x : AV) (K : AV → List AO → Prop) : Prop :=
  match P.underlying T, P.underlying T2 with
  | some (.slice e), some d2 => match P.info? e with
    | some i => sure (0 < i.bytes ∧ 0 < i.size) <| match i.zero with
      | some z => sure (z.cells.size = i.size) <| match intB P e with
        | some k => sure (i.size = 1) <| match s with
          | .raw (.slice none 0 0) => sourceK d2 z h k x fun ys => ys.length * i.bytes ≤ 140737488355328 ∧ addO h (.ints k ys) fun n h' => K (.own n 0 ys.length 1) h'
          | .own id 0 len 1 => getO h id fun o => match o with
            | .ints k' xs => sameKind k' k (len = xs.length ∧ sourceK d2 z h k x fun ys => (xs.length + ys.length) * i.bytes ≤ 140737488355328 ∧
                setO h id .dead fun h1 => addO h1 (.ints k (xs ++ ys)) fun n h' => K (.own n 0 (xs.length + ys.length) 1) h')
            | _ => False
          | _ => False
        | none => sure (notInt d2 = true) <| sizeK P e fun sz => match s with
          | .raw (.slice none 0 0) => cellsK h sz x fun m f => m * i.bytes ≤ 140737488355328 ∧ (∀ i, i < m * sz → cell1 (f i) = true) ∧ ∃ g : Nat → AV, (∀ i, i < m * sz → g i = f i) ∧
              addO h (.row (m * sz) g) fun n h' => K (.own n 0 m sz) h'
          | .own id 0 len sz' => sure (sz' = sz) <| getO h id fun o => match o with
            | .row n f => n = len * sz ∧ (∀ i, i < n → cell1 (f i) = true) ∧ cellsK h sz x fun m f' => (len + m) * i.bytes ≤ 140737488355328 ∧ (∀ i, i < m * sz → cell1 (f' i) = true) ∧
                ∃ g : Nat → AV, (∀ i, i < n → g i = f i) ∧ (∀ i, i < m * sz → g (n + i) = f' i) ∧
                setO h id .dead fun h1 => addO h1 (.row ((len + m) * sz) g) fun n h' => K (.own n 0 (len + m) sz) h'
            | .lst l => l.length = len * sz ∧ (∀ i, i < l.length → cell1 (l.getD i .top) = true) ∧ cellsK h sz x fun m f' => (len + m) * i.bytes ≤ 140737488355328 ∧ (∀ i, i < m * sz → cell1 (f' i) = true) ∧
                ∃ g : Nat → AV, (∀ i, i < l.length → g i = l.getD i .top) ∧ (∀ i, i < m * sz → g (l.length + i) = f' i) ∧
                setO h id .dead fun h1 => addO h1 (.row ((len + m) * sz) g) fun n h' => K (.own n 0 (len + m) sz) h'
            | _ => False
          | _ => False
      | none => False
    | none => False
  | _, _ => False

def copyK (P : Program) (T : TypeId) (h : List AO) (d x : AV) (K : AV → List AO → Prop) : Prop :=
  match P.underlying T with
  | some (.slice e) => match intB P e with
    | some k => sizeK P e fun sz => sure (sz = 1) <| match d with
      | .own id off len 1 => getO h id fun o => match o with
        | .ints k' xs => sameKind k' k (off + len ≤ xs.length ∧ intsK h k x fun ys =>
            setO h id (.ints k (xs.take off ++ ys.take len ++ xs.drop (off + min ys.length len))) fun h' => K (int .i64 (min ys.length len : Nat)) h')
        | .row n f => (off + len ≤ n ∧ 0 < len) ∧ intsK h k x fun ys => ∃ g : Nat → AV, (∀ i, i < n → g i = if off ≤ i ∧ i < off + min ys.length len then int k (ys.getD (i - off) 0) else f i) ∧
            setO h id (.row n g) fun h' => K (int .i64 (min ys.length len : Nat)) h'
        | _ => False
      | _ => False
    | none => False
  | _ => False

def makeK (P : Program) (T : TypeId) (h : List AO) (l c : AV) (K : AV → List AO → Prop) : Prop :=
  match l, c with
  | .raw (.int .i64 n), .raw (.int .i64 m) => match P.underlying T with
    | some (.slice e) => match P.info? e with
      | some i => (0 ≤ n ∧ n ≤ m ∧ m < 9223372036854775808 ∧ m * (i.bytes : Int) ≤ 140737488355328) ∧ match intB P e with
        | some k => sizeK P e fun sz => sure (sz = 1) <| zeroK P e fun z => sure (z.cells.size = 1) <| z.cells[0]! = .int k 0 ∧ addO h (.ints k (List.replicate n.toNat 0)) fun id h' => K (.own id 0 n.toNat 1) h'
        | none => sizeK P e fun sz => sure (0 < sz) <| zeroK P e fun z => sure (z.cells.size = sz) <| addO h (.row (n.toNat * sz) fun i => .raw (z.cells[i % sz]!)) fun id h' => K (.own id 0 n.toNat sz) h'
      | none => False
    | _ => False
  | _, _ => False

/-- The entries of a slice (a struct, an array) that is written out. -/
def fillL (place : Nat → Option (Nat × Nat)) : List (Nat × AV) → List AV → (List AV → Prop) → Prop
  | [], l, K => K l
  | (i, v) :: r, l, K => match place i with
    | none => False
    | some (off, sz) => match v with
      | .agg n f => sure (n = sz) <| tabK n f fun m => sure (off + n ≤ l.length) <| fillL place r (l.take off ++ m ++ l.drop (off + n)) K
      | .aggI k xs => sz = xs.length ∧ sure (off + sz ≤ l.length) (fillL place r (l.take off ++ (List.range sz).map (fun i => int k (xs.getD i 0)) ++ l.drop (off + sz)) K)
      | v => match cell1 v with
        | true => sure (sz = 1) <| sure (off < l.length) <| setK l off v fun l' => fillL place r l' K
        | false => False
def partsK (t : List AV) : List (Nat × Operand) → (List (Nat × AV) → Prop) → Prop
  | [], K => K []
  | (i, x) :: r, K => evK t x fun a => partsK t r fun l => K ((i, a) :: l)
def buildSliceK (P : Program) (T : TypeId) (h : List AO) (len : Nat) (parts : List (Nat × AV)) (K : AV → List AO → Prop) : Prop :=
  match P.underlying T with
  | some (.slice e) => sizeK P e fun sz => sure (0 < sz) <| sure (len * sz ≤ 16777216) <| zeroK P e fun z =>
      sure (z.cells.size = sz) <| fillL (fun i => some (i * sz, sz)) parts ((List.range (len * sz)).map fun i => .raw (z.cells[i % sz]!)) fun l =>
        match intB P e with
        | some k => sure (sz = 1) <| explicitInts k l fun xs => addO h (.ints k xs) fun id h' => K (.own id 0 len 1) h'
        | none => addO h (.lst l) fun id h' => K (.own id 0 len sz) h'
  | _ => False
/-- A struct or an array that is written out. -/
def fieldPlace? (P : Program) (fs : List Field) (i : Nat) : Option (Nat × Nat) :=
  match fs[i]? with
  | some f => match P.info? f.type with
    | some i => some (f.offset, i.size)
    | none => none
  | none => none
def allSized (P : Program) : List Field → Bool
  | [] => true
  | f :: r => match P.info? f.type with
    | some _ => allSized P r
    | none => false
def buildK (P : Program) (T : TypeId) (parts : List (Nat × AV)) (K : AV → Prop) : Prop :=
  zeroK P T fun z => match P.underlying T with
    | some (.array _ e) => sizeK P e fun sz => fillL (fun i => some (i * sz, sz)) parts (z.cells.toList.map .raw) fun l =>
        match intB P e with
        | some k => explicitInts k l fun xs => K (.aggI k xs)
        | none => K (.agg l.length fun i => l.getD i .top)
    | some (.struct fs) => sure (allSized P fs.toList = true) <| fillL (fieldPlace? P fs.toList) parts (z.cells.toList.map .raw) fun l => K (.agg l.length fun i => l.getD i .top)
    | _ => False

/-- A value that leads to no block of the call's own. -/
def AV.free : AV → Prop
  | .own _ _ _ _ | .ptr _ _ | .mp _ | .bx _ | .bm _ _ => False
  | .agg n f | .tup n f | .clo _ n f => ∀ i, i < n → (f i).free
  | _ => True
/-- A value that leads to nothing that is only read. -/
def AV.flat : AV → Prop
  | .rp _ _ | .ro _ _ _ | .rs _ _ _ | .roI _ _ | .bx _ => False
  | .agg n f | .tup n f | .clo _ n f => ∀ i, i < n → (f i).flat
  | _ => True
def AO.flat : AO → Prop
  | .row n f => ∀ i, i < n → (f i).flat
  | .lst l => ∀ i, i < l.length → (l.getD i .top).flat
  | .map l => ∀ i, i < l.length → (l.getD i mz).2.flat
  | .mapB l _ _ => ∀ i, i < l.length → (l.getD i mz).2.flat
  | _ => True
def givesK (gv : AV → (AV → Prop) → Prop) : List AV → (List AV → Prop) → Prop
  | [], K => K []
  | a :: l, K => gv a fun x => givesK gv l fun r => K (x :: r)
/-- What stands in a function value, as the callee gets it. -/
def lowC (pass : List Nat) : Nat → AV → (AV → Prop) → Prop
  | 0, _, _ => False
  | n + 1, a, K => match a with
    | .own id off len sz => match pass.idxOf? id with
      | some p => K (.own p off len sz)
      | none => False
    | .ptr id off => match pass.idxOf? id with
      | some p => K (.ptr p off)
      | none => False
    | .mp id => match pass.idxOf? id with
      | some p => K (.mp p)
      | none => False
    | .bx id => match pass.idxOf? id with
      | some p => K (.bx p)
      | none => False
    | .bm f id => match pass.idxOf? id with
      | some p => K (.bm f p)
      | none => False
    | .clo fn m f => tabK m f fun l => givesK (lowC pass n) l fun r => K (.clo fn m fun i => r.getD i .top)
    | .agg m f => tabK m f fun l => givesK (lowC pass n) l fun r => K (.agg m fun i => r.getD i .top)
    | .tup m f => tabK m f fun l => givesK (lowC pass n) l fun r => K (.tup m fun i => r.getD i .top)
    | a => K a
/-- An argument, as the callee gets it: a row of the call's own that is not handed over is read. -/
def lowK (h : List AO) (pass : List Nat) (a : AV) (K : AV → Prop) : Prop :=
  match a with
  | .own id off len sz => match pass.idxOf? id with
    | some p => K (.own p off len sz)
    | none => getO h id fun o => match o with
      | .ints k xs => sure (sz = 1) <| off + len ≤ xs.length ∧ K (.roI k ((xs.drop off).take len))
      | .row n f => off + len * sz ≤ n ∧ (∀ i, i < len * sz → (f (off + i)).free) ∧ K (.ro len sz fun i => f (off + i))
      | .lst l => off + len * sz ≤ l.length ∧ (∀ i, i < len * sz → (l.getD (off + i) .top).free) ∧ K (.ro len sz fun i => l.getD (off + i) .top)
      | _ => False
  | .ptr id off => match pass.idxOf? id with
    | some p => K (.ptr p off)
    | none => False
  | .mp id => match pass.idxOf? id with
    | some p => K (.mp p)
    | none => False
  | .bx id => match pass.idxOf? id with
    | some p => K (.bx p)
    | none => False
  | .bm f id => match pass.idxOf? id with
    | some p => K (.bm f p)
    | none => False
  | .agg n f => (∀ i, i < n → (f i).free) ∧ K a
  | .tup n f => (∀ i, i < n → (f i).free) ∧ K a
  | .clo fn n f => lowC pass 4 (.clo fn n f) K
  | a => K a
def lowsK (h : List AO) (pass : List Nat) : List AV → (List AV → Prop) → Prop
  | [], K => K []
  | a :: l, K => lowK h pass a fun x => lowsK h pass l fun r => K (x :: r)
/-- Does an argument lead to nothing of the call's own that is not handed over? -/
def noLow1 (pass : List Nat) : AV → Bool
  | .own id _ _ _ => match pass.idxOf? id with
    | some _ => true
    | none => false
  | _ => true
def noLow (pass : List Nat) : List AV → Bool
  | [] => true
  | a :: l => match noLow1 pass a with
    | true => noLow pass l
    | false => false
/-- A block that is handed over, as the callee gets it. -/
def handK (h : List AO) (pass : List Nat) (o : AO) (K : AO → Prop) : Prop :=
  match o with
  | .dead => False
  | .ints k xs => K (.ints k xs)
  | .row n f => (∀ i, i < n → (f i).free) ∧ K (.row n f)
  | .lst l => match noLow pass l with
    | true => lowsK h pass l fun m => K (.lst m)
    | false => False
  | .map l => (∀ i, i < l.length → (l.getD i mz).2.free) ∧ K (.map l)
  | .mapB _ _ _ => False
  | .miter _ _ _ => False
  | .siter _ _ => False
def objsK (h : List AO) (pass : List Nat) : List Nat → (List AO → Prop) → Prop
  | [], K => K []
  | i :: l, K => getO h i fun o => handK h pass o fun p => objsK h pass l fun r => K (p :: r)
def nodupB : List Nat → Bool
  | [] => true
  | i :: l => match l.idxOf? i with
    | none => nodupB l
    | some _ => false
/-- Places, renamed by a list. -/
abbrev rn (l : List Nat) (i : Nat) : Nat := l.getD i 0
def getN : List Nat → Nat → (Nat → Prop) → Prop
  | [], _, _ => False
  | j :: _, 0, K => K j
  | _ :: l, n + 1, K => getN l n K
def renVK (l : List Nat) (a : AV) (K : AV → Prop) : Prop :=
  match a with
  | .own id off len sz => getN l id fun j => K (.own j off len sz)
  | .ptr id off => getN l id fun j => K (.ptr j off)
  | .agg n f => K (.agg n fun i => (f i).ren (rn l))
  | .tup n f => K (.tup n fun i => (f i).ren (rn l))
  | .clo fn n f => K (.clo fn n fun i => (f i).ren (rn l))
  | .mp id => getN l id fun j => K (.mp j)
  | .bx id => getN l id fun j => K (.bx j)
  | .bm f id => getN l id fun j => K (.bm f j)
  | a => K a
def renOK (l : List Nat) (o : AO) (K : AO → Prop) : Prop :=
  match o with
  | .row n f => K (.row n fun i => (f i).ren (rn l))
  | .lst m => K (.lst (m.map (AV.ren (rn l))))
  | .map m => K (.map (m.map fun p => (p.1, p.2.ren (rn l))))
  | .mapB m bs c => K (.mapB (m.map fun p => (p.1, p.2.ren (rn l))) bs c)
  | .miter id s q => K (.miter (rn l id) s q)
  | .ints k xs => K (.ints k xs)
  | .dead => K .dead
  | .siter s p => K (.siter s p)
def renOsK (l : List Nat) : List AO → (List AO → Prop) → Prop
  | [], K => K []
  | o :: r, K => renOK l o fun x => renOsK l r fun y => K (x :: y)
def appK : List AO → List AO → (List AO → Prop) → Prop
  | [], r, K => K r
  | o :: l, r, K => appK l r fun x => K (o :: x)
/-- Blocks handed over come back, the rest are new. -/
def backK : List Nat → List AO → List AO → (List AO → Prop) → Prop
  | [], new, h, K => appK h new K
  | _ :: _, [], _, _ => False
  | i :: l, o :: r, h, K => setO h i o fun h' => backK l r h' K
/-- The numbers of new places: behind those of the list, as many as of the other one. -/
def newsK : List AO → List AO → List Nat → (List Nat → Prop) → Prop
  | [], [], _, K => K []
  | [], _ :: r, n :: l, K => newsK [] r l fun m => K (n :: m)
  | _ :: h, r, _ :: l, K => newsK h r l K
  | _, _, [], _ => False
def dropK : List Nat → List AO → (List AO → Prop) → Prop
  | [], r, K => K r
  | _ :: _, [], _ => False
  | _ :: l, _ :: r, K => dropK l r K

def callB (P : Program) (f : FuncId) (pass : List Nat) (R : AV → List AO → Prop) (args : List AV) (h : List AO) (K : AV → List AO → Prop) : Prop :=
  sure (nodupB pass = true) <| objsK h pass pass fun hp => lowsK h pass args fun as => ACalls P f as hp R ∧
    ∀ r h', R r h' → (noLow pass args = true ∨ r.flat ∧ ∀ o ∈ h', o.flat) ∧
      dropK pass h' fun new => newsK h new lits fun news => renOsK (pass ++ news) h' fun h1 => renVK (pass ++ news) r fun r1 => backK pass h1 h fun h2 => K r1 h2

/-! Own blocks that are let go: what leads to them is only read from now on. -/
def freeB : Nat → AV → Bool
  | 0, _ => false
  | n + 1, a => match a with
    | .own _ _ _ _ => false
    | .ptr _ _ => false
    | .mp _ => false
    | .bx _ => false
    | .bm _ _ => false
    | .clo _ m f => (List.range m).all fun i => freeB n (f i)
    | .agg m f => (List.range m).all fun i => freeB n (f i)
    | .tup m f => (List.range m).all fun i => freeB n (f i)
    | _ => true
def giveV (h : List AO) (g : List Nat) : Nat → AV → (AV → Prop) → Prop
  | 0, a, K => K a
  | n + 1, a, K => match a with
    | .own id off len sz => match g.idxOf? id with
      | none => K (.own id off len sz)
      | some _ => getO h id fun o => match o with
        | .ints k xs => sure (sz = 1) <| off + len ≤ xs.length ∧ K (.roI k ((xs.drop off).take len))
        | .row m f => match (g.erase id).idxOf? id with
          | none => off + len * sz ≤ m ∧ (∀ i, i < len * sz → (f (off + i)).free) ∧ K (.ro len sz fun i => f (off + i))
          | some _ => tabK m f fun l => givesK (giveV h g n) l fun r => sure (r.all (freeB 5) = true) <| off + len * sz ≤ r.length ∧ K (.ro len sz fun i => r.getD (off + i) .top)
        | .lst l => givesK (giveV h g n) l fun m => sure (m.all (freeB 5) = true) <| off + len * sz ≤ m.length ∧ K (.ro len sz fun i => m.getD (off + i) .top)
        | _ => False
    | .ptr id off => match g.idxOf? id with
      | none => K (.ptr id off)
      | some _ => getO h id fun o => match o with
        | .ints k xs => K (.rp (xs.length - off) fun i => int k (xs.getD (off + i) 0))
        | .row m f => (∀ i, i < m - off → (f (off + i)).free) ∧ K (.rp (m - off) fun i => f (off + i))
        | .lst l => givesK (giveV h g n) l fun m => sure (m.all (freeB 5) = true) <| K (.rp (m.length - off) fun i => m.getD (off + i) .top)
        | _ => False
    | .clo fn m f => tabK m f fun l => givesK (giveV h g n) l fun r => K (.clo fn m fun i => r.getD i .top)
    | .agg m f => tabK m f fun l => givesK (giveV h g n) l fun r => K (.agg m fun i => r.getD i .top)
    | a => K a
def killK : List Nat → List AO → (List AO → Prop) → Prop
  | [], h, K => K h
  | i :: l, h, K => setO h i .dead fun h' => killK l h' K
/-- Of the numbers that are named those from 1000 on are let go, the others handed over. -/
def splitG : List Nat → (List Nat → List Nat → Prop) → Prop
  | [], K => K [] []
  | n :: l, K => match Nat.ble 1000 n with
    | true => splitG l fun p g => K p ((n - 1000) :: g)
    | false => splitG l fun p g => K (n :: p) g

def callK (P : Program) (f : FuncId) (args : List AV) (h : List AO) (K : AV → List AO → Prop) : Prop :=
  ∃ (pass : List Nat) (R : AV → List AO → Prop), splitG pass fun ps gs => match gs with
    | [] => callB P f ps R args h K
    | g :: l => givesK (giveV h (g :: l) 5) args fun args' => killK (g :: l) h fun h1 => callB P f ps R args' h1 K

end Go.Proofs.YtflclafbieokiaaGreatDoor.AL

namespace Go.Proofs.YtflclafbieokiaaGreatDoor.AL
open Go
variable [Globs]

def atypesOf (c : Go.Call) : List TypeId := c.argTypes.toList

/-- A function value that is made: with what it captures; or a method bound to a block of the call's own. -/
def makeFuncK (t : List AV) (fn : Fn) (first captured : List Operand) (K : AV → Prop) : Prop :=
  match first with
  | [] => evsK t captured fun l => K (.clo fn l.length fun i => l.getD i .top)
  | [x] => match captured with
    | [] => match fn with
      | .func f => evK t x fun a => match a with
        | .ptr id 0 => K (.bm f id)
        | _ => False
      | _ => False
    | _ => False
  | _ => False
/-- An operation that may act: what it leaves, and the blocks behind it. -/
def aeff (P : Program) (t : List AV) (h : List AO) (o : Oper) (K : AV → List AO → Prop) : Prop :=
  match o.op with
  | .alloc E => zeroK P E fun z => match P.underlying E with
    | some (.array n e) => match intB P e with
      | some k => sizeK P E fun s => sure (s = n) <| z = .agg ((List.replicate n (0 : Int)).map (Value.int k)).toArray ∧ addO h (.ints k (List.replicate n 0)) fun id h' => K (.ptr id 0) h'
      | none => match Nat.blt 64 n with
        | true => zeroK P e fun ze => z = .agg (Array.replicate n ze) ∧ addO h (.row n fun _ => .raw ze) fun id h' => K (.ptr id 0) h'
        | false => addO h (.lst (z.cells.toList.map .raw)) fun id h' => K (.ptr id 0) h'
    | some _ => addO h (.lst (z.cells.toList.map .raw)) fun id h' => K (.ptr id 0) h'
    | none => False
  | .box E x => evK t x fun a => newVarK P E h a fun id h' => K (.ptr id 0) h'
  | .build T parts => partsK t parts.toList fun l => buildK P T l fun a => K a h
  | .buildSlice T len parts => partsK t parts.toList fun l => buildSliceK P T h len l K
  | .store T a x => evK t a fun a => evK t x fun v => storeK P T h a v fun h' => K .top h'
  | .makeSlice T l c => evK t l fun a => evK t c fun b => makeK P T h a b K
  | .convert src dst x => evK t x fun a => match P.underlying dst, a with
    | some (.slice e), .raw (.string s) => match intB P e with
      | some .u8 => match P.underlying src with
        | some _ => addO h (.ints .u8 (intsOf s)) fun id h' => K (.own id 0 s.size 1) h'
        | none => False
      | _ => False
    | some (.slice e), .own id off len 1 => match intB P e with
      | some .u8 => match P.underlying src with
        | some (.slice _) => sure (src = dst ∧ 0 < len) <| getO h id fun o => match o with
          | .ints .u8 xs => off + len ≤ xs.length ∧ setO h id .dead fun h' => K (.roI .u8 ((xs.drop off).take len)) h'
          | _ => False
        | _ => False
      | _ => False
    | _, _ => convK P h src dst a fun v => K v h
  | .makeFunc fn first captured => makeFuncK t fn first.toList captured.toList fun a => K a h
  | .call c => match c.callee with
    | .builtin .append => evsK t c.args.toList fun l => match l, c.argTypes.toList with
      | [s, x], [T, T2] => appendK P T T2 h s x K
      | _, _ => False
    | .builtin .copy => evsK t c.args.toList fun l => match l, c.argTypes.toList with
      | [s, x], [T, _] => copyK P T h s x K
      | _, _ => False
    | .builtin .len => evsK t c.args.toList fun l => match l, c.argTypes.toList with
      | [x], [T] => lenHK P T h x fun a => K a h
      | _, _ => False
    | .builtin .cap => evsK t c.args.toList fun l => match l, c.argTypes.toList with
      | [.raw (.slice none 0 0)], [T] => match P.underlying T with
        | some (.slice _) => K (int .i64 0) h
        | _ => False
      | _, _ => False
    | .builtin .delete => evsK t c.args.toList fun l => match l, c.argTypes.toList with
      | [m, x], [T, _] => mapDelK P T h m x fun h' => K .top h'
      | _, _ => False
    | .builtin .max => evsK t c.args.toList fun l => match l with
      | [.raw (.int k x), .raw (.int k' y)] => sameKind k' k (K (int k (max x y)) h)
      | _ => False
    | .builtin .min => evsK t c.args.toList fun l => match l with
      | [.raw (.int k x), .raw (.int k' y)] => sameKind k' k (K (int k (min x y)) h)
      | _ => False
    | .value x => evK t x fun f => evsK t c.args.toList fun l => match f with
      | .raw (.func (.func f) ⟨[]⟩ ⟨[]⟩) => callK P f l h K
      | .clo (.func f) n g => tabK n g fun caps => callK P f (l ++ caps) h K
      | .bm f id => callK P f (.ptr id 0 :: l) h K
      | _ => False
    | .builtin .complex => apure P t h o.op fun a => K a h
    | .builtin .real => apure P t h o.op fun a => K a h
    | .builtin .imag => apure P t h o.op fun a => K a h
    | _ => False
  | .slice T x none (some n) (some c) => evK t x fun x => evK t n fun n => evK t c fun c => slice3K P T h x n c K
  | .makeMap T none => match P.underlying T with
    | some (.map _ _) => addO h (.map []) fun id h' => K (.mp id) h'
    | _ => False
  | .mapUpdate T m x v => evK t m fun m => evK t x fun x => evK t v fun v => mapSetK P T h m x v fun h' => K .top h'
  | .range T x => evK t x fun a => match P.underlying T, a with
    | some .string, .raw (.string s) => addO h (.siter s 0) fun id h' => K (.ptr id 0) h'
    | some (.map _ _), .mp m => getO h m fun o => match o with
      | .map l => ∀ (bs : List Nat) (clock : Nat), bs.length = l.length → bs.Nodup → setO h m (.mapB l bs clock) fun h1 => addO h1 (.miter m clock []) fun id h' => K (.ptr id 0) h'
      | _ => False
    | _, _ => False
  | .next x isS => evK t x fun a => match a, isS with
    | .ptr id 0, true => getO h id fun o => match o with
      | .siter s p => (p < s.size → ∀ c k : Nat, Utf8.decode s p = (c, k) → setO h id (.siter s (p + k)) fun h' => K (.tup 3 fun i => [.tt, int .i64 p, int .i32 c].getD i .top) h') ∧ (¬ p < s.size → K (.tup 1 fun _ => .ff) h)
      | _ => False
    | .ptr id 0, false => getO h id fun o => match o with
      | .miter m since seen => getO h m fun o => match o with
        | .mapB l bs clock => since = clock ∧ ((∀ i, i < l.length → bs.getD i 0 ∉ seen → setO h id (.miter m since (seen ++ [bs.getD i 0])) fun h' => K (.tup 3 fun j => [.tt, str (l.getD i mz).1, (l.getD i mz).2].getD j .top) h') ∧
            ((∀ i, i < l.length → bs.getD i 0 ∈ seen) → K (.tup 1 fun _ => .ff) h))
        | _ => False
      | _ => False
    | _, _ => False
  | .entry x => evK t x fun a => match a with
    | .ptr id 0 => getO h id fun o => match o with
      | .miter m since seen => getO h m fun o => match o with
        | .mapB l bs clock => since = clock ∧ ∃ i, (i < l.length ∧ seen.getLast? = some (bs.getD i 0)) ∧ K (.tup 2 fun j => [str (l.getD i mz).1, (l.getD i mz).2].getD j .top) h
        | _ => False
      | _ => False
    | _ => False
  | op => apure P t h op fun a => K a h

/-- An operation of a region, its guard held against what is known. -/
def aguard (all : List Oper) (t : List AV) (o : Oper) (run : List AV → Prop) (skip : List AV → Prop) : Prop :=
  match o.guard with
  | none => run t
  | some (j, want) => match all[j]? with
    | some oj => match oj.dst with
      | some d => getK t d fun g => match g, want with
        | .tt, true => run t
        | .ff, false => run t
        | .tt, false => putK t o.dst (.raw undef) skip
        | .ff, true => putK t o.dst (.raw undef) skip
        | .raw (.bool b), true => (b = true → setK t d .tt run) ∧ (b = false → setK t d .ff fun t => putK t o.dst (.raw undef) skip)
        | .raw (.bool b), false => (b = true → setK t d .tt fun t => putK t o.dst (.raw undef) skip) ∧ (b = false → setK t d .ff run)
        | .raw (.tuple _), _ => putK t o.dst (.raw undef) skip
        | _, _ => False
      | none => False
    | none => False

def aops (P : Program) (all : List Oper) (K : List AV → List AO → Prop) : List Oper → List AV → List AO → Prop
  | [], t, h => K t h
  | o :: r, t, h => aguard all t o (fun t => aeff P t h o fun v h' => putK t o.dst v fun t' => aops P all K r t' h') (fun t => aops P all K r t h)

/-- The same for a region whose order is open: each operation only computes, reads, or calls what hands back one value. -/
def aquiet (P : Program) (t : List AV) (h : List AO) (o : Oper) (K : AV → Prop) : Prop :=
  match o.op with
  | .call { callee := .value (.func f), args, .. } => evsK t args.toList fun l => ∃ v : Value, lowsK h [] l fun as =>
      ACalls P f as [] (fun r h' => (r = .raw v ∨ (r = .tt ∧ v = .bool true) ∨ (r = .ff ∧ v = .bool false)) ∧ h' = []) ∧ K (.raw v)
  | op => apure P t h op K
def aqops (P : Program) (all : List Oper) (K : List AV → Prop) : List Oper → List AV → List AO → Prop
  | [], t, _ => K t
  | o :: r, t, h => aguard all t o (fun t => aquiet P t h o fun v => putK t o.dst v fun t' => aqops P all K r t' h) (fun t => aqops P all K r t h)

/-- Cells that lead to no block of the call's own. -/
def allFree : List AV → Prop
  | [] => True
  | a :: l => a.free ∧ allFree l
theorem allFree_at : ∀ {l : List AV}, allFree l → ∀ i, i < l.length → (l.getD i .top).free
  | [], _, _, hi => by cases hi
  | _ :: _, h, 0, _ => h.1
  | _ :: _, h, i + 1, hi => allFree_at h.2 i (Nat.lt_of_succ_lt_succ hi)
/-- A slice of numbers that is written out, seen as a row that is only read. -/
def buildFreshK (P : Program) (T : TypeId) (len : Nat) (parts : List (Nat × AV)) (K : AV → Prop) : Prop :=
  match P.underlying T with
  | some (.slice e) => sizeK P e fun sz => sure (0 < sz) <| sure (len * sz ≤ 16777216) <| zeroK P e fun z =>
      sure (z.cells.size = sz) <| fillL (fun i => some (i * sz, sz)) parts ((List.range (len * sz)).map fun i => .raw (z.cells[i % sz]!)) fun l =>
        match intB P e with
        | some k => sure (sz = 1) <| explicitInts k l fun xs => K (.roI k xs)
        | none => allFree l ∧ K (.ro len sz fun i => l.getD i .top)
  | _ => False
/-- An operation of a region whose order is open, that leaves what is known of the heap: one value of it is asked. -/
def aq1 (P : Program) (t : List AV) (h : List AO) (o : Oper) (K : AV → Prop) : Prop :=
  match o.op with
  | .buildSlice T len parts => partsK t parts.toList fun l => buildFreshK P T len l K
  | .build T parts => partsK t parts.toList fun l => buildK P T l K
  | .call { callee := .value (.func f), args, .. } => evsK t args.toList fun l => callK P f l h fun x h' => h' = h ∧ K x
  | .call { callee := .value (.tmp i), args, .. } => getK t i fun f => evsK t args.toList fun l => match f with
    | .raw (.func (.func f) ⟨[]⟩ ⟨[]⟩) => callK P f l h fun x h' => h' = h ∧ K x
    | .clo (.func f) n g => tabK n g fun caps => callK P f (l ++ caps) h fun x h' => h' = h ∧ K x
    | .bm f id => callK P f (.ptr id 0 :: l) h fun x h' => h' = h ∧ K x
    | _ => False
  | .makeFunc fn first captured => makeFuncK t fn first.toList captured.toList K
  | op => apure P t h op K
/-- May an operation run, as its guard says? -/
def gdK (all : List Oper) (t : List AV) (o : Oper) (run skip : Prop) : Prop :=
  match o.guard with
  | none => run
  | some (j, want) => match all[j]? with
    | some oj => match oj.dst with
      | some d => getK t d fun g => match g, want with
        | .tt, true => run
        | .ff, false => run
        | .tt, false => skip
        | .ff, true => skip
        | .raw (.bool true), true => run
        | .raw (.bool false), false => run
        | .raw (.bool true), false => skip
        | .raw (.bool false), true => skip
        | .raw (.tuple _), _ => skip
        | _, _ => False
      | none => False
    | none => False
/-- An operation that may write, or lay a block, among those whose order is open. -/
def effO (o : Oper) : Bool :=
  match o.guard with
  | none => match o.op with
    | .store _ _ _ => true
    | .alloc _ => true
    | .call { callee := .builtin .append, .. } => true
    | _ => false
  | some _ => false
/-- An operation that looks at slots alone. -/
def tmpO (o : Oper) : Bool :=
  match o.op with
  | .move _ => true
  | .assign _ => true
  | .pick _ _ _ => true
  | .binOp _ _ _ _ _ => true
  | .unOp _ _ _ => true
  | .extract _ _ => true
  | .fieldAddr _ _ _ => true
  | .field _ _ _ => true
  | .indexAddr _ _ _ => true
  | .sliceToArrayPointer _ _ => true
  | .index _ _ _ => true
  | .nilCheck _ => true
  | .build _ _ => true
  | _ => false
/-- A slice of a slice, or of a text: it looks at slots alone. -/
def cutO (P : Program) (o : Oper) : Bool :=
  match o.op with
  | .slice T _ _ _ none => match P.underlying T with
    | some (.slice _) => true
    | _ => false
  | _ => false
def tmpP (P : Program) (o : Oper) : Bool := tmpO o || cutO P o
/-- An operation that loads, or calls; one that lays a block. -/
def loadO (o : Oper) : Bool :=
  match o.op with
  | .load _ _ => true
  | .convert _ _ _ => true
  | .slice _ _ _ _ _ => true
  | .call { callee := .value (.func _), .. } => true
  | .call { callee := .value (.tmp _), .. } => true
  | .buildSlice _ _ _ => true
  | _ => false
def allocO (o : Oper) : Bool :=
  match o.guard with
  | none => match o.op with
    | .alloc _ => true
    | _ => false
  | some _ => false
/-- Is an operation behind the one with number i, by way of a third one? -/
def behind2 (ops : Array Oper) (o : Oper) (i : Nat) : Bool := o.after.any fun e => Region.binds .any e && match ops[e.on]? with
  | some m => m.after.any fun e2 => Region.binds .any e2 && e2.on == i
  | none => false
/-- Is one of the two behind the other one, or do they not meet in the heap? -/
def pairO (P : Program) (ops : Array Oper) (i j : Nat) : Bool :=
  match ops[i]?, ops[j]? with
  | some oi, some oj => (behind2 ops oj i || behind2 ops oi j) || ((oj.after.any fun e => Region.binds .any e && e.on == i) || ((oi.after.any fun e => Region.binds .any e && e.on == j) ||
      ((!effO oi && !effO oj) || ((tmpP P oi || tmpP P oj) || ((decide (i < j) && (loadO oi && allocO oj)) || (decide (j < i) && (loadO oj && allocO oi)))))))
  | _, _ => true
def pairsB (P : Program) (ops : Array Oper) (n : Nat) : Bool := (List.range n).all fun i => (List.range n).all fun j => decide (i = j) || pairO P ops i j
def aq1s (P : Program) (all : List Oper) (Q : List AV → List AO → Prop) : List Oper → List AV → List AO → Prop
  | [], t, h => Q t h
  | o :: r, t, h => match effO o with
    | false => ∃ x, gdK all t o (aq1 P t h o (fun y => y = x)) (x = .raw undef) ∧ putK t o.dst x fun t' => aq1s P all Q r t' h
    | true => ∃ x h', aeff P t h o (fun y k => y = x ∧ k = h') ∧ putK t o.dst x fun t' => aq1s P all Q r t' h'
/-- May the region be taken so: its first n operations in the text's order, the others one behind the other? -/
def drawB (P : Program) (ops : Array Oper) (n : Nat) : Bool :=
  P.follows .mixedOrders && (Region.lexTailB .any ops n && pairsB P ops n)

/-- One known value, seen as another one: of the places l, in this order, the blocks are kept. -/
inductive LeV (h : List AO) (l : List Nat) : AV → AV → Prop
  | top (a : AV) : LeV h l a .top
  | raw (v : Value) : LeV h l (.raw v) (.raw v)
  | tt : LeV h l .tt .tt
  | ff : LeV h l .ff .ff
  | ttr : LeV h l .tt (.raw (.bool true))
  | rtt : LeV h l (.raw (.bool true)) .tt
  | rff : LeV h l (.raw (.bool false)) .ff
  | ffr : LeV h l .ff (.raw (.bool false))
  | own {id id' : Nat} (off len sz : Nat) (e : l[id']? = some id) : LeV h l (.own id off len sz) (.own id' off len sz)
  | nil {id' : Nat} (off sz : Nat) (e : id' < l.length) : LeV h l (.raw (.slice none 0 0)) (.own id' off 0 sz)
  | ptr {id id' : Nat} (off : Nat) (e : l[id']? = some id) : LeV h l (.ptr id off) (.ptr id' off)
  | mp {id id' : Nat} (e : l[id']? = some id) : LeV h l (.mp id) (.mp id')
  | bx {id id' : Nat} (e : l[id']? = some id) : LeV h l (.bx id) (.bx id')
  | bm {id id' : Nat} (f : FuncId) (e : l[id']? = some id) : LeV h l (.bm f id) (.bm f id')
  | giveB {box id id' : Nat} {r : List AV} (e : h[box]? = some (.lst (.ptr id 0 :: r))) (hl : box ∉ l) (e2 : l[id']? = some id) : LeV h l (.ptr box 0) (.bx id')
  | same (a : AV) (hf : a.free) : LeV h l a a
  | seen {a b c : AV} (x : LeV h l a b) (e : ∀ (w : World) (S : Nat → Prop) (L : Loc) (v : Value), den w S L b v → den w S L c v) : LeV h l a c
  | rp (n : Nat) (f g : Nat → AV) (e : ∀ i, i < n → LeV h l (f i) (g i)) (ef : ∀ i, i < n → (g i).free) : LeV h l (.rp n f) (.rp n g)
  | ro (n sz : Nat) (f g : Nat → AV) (e : ∀ i, i < n * sz → LeV h l (f i) (g i)) (ef : ∀ i, i < n * sz → (g i).free) : LeV h l (.ro n sz f) (.ro n sz g)
  | roI (k : IntKind) (xs : List Int) : LeV h l (.roI k xs) (.roI k xs)
  | roOfI (k : IntKind) (xs : List Int) : LeV h l (.roI k xs) (.ro xs.length 1 fun i => .raw (.int k (xs.getD i 0)))
  | aggI (k : IntKind) (xs : List Int) : LeV h l (.aggI k xs) (.aggI k xs)
  | agg (n : Nat) (f g : Nat → AV) (e : ∀ i, i < n → LeV h l (f i) (g i)) : LeV h l (.agg n f) (.agg n g)
  | aggOfI (k : IntKind) (xs : List Int) : LeV h l (.aggI k xs) (.agg xs.length fun i => .raw (.int k (xs.getD i 0)))
  | iOfAgg (k : IntKind) (xs : List Int) (f : Nat → AV) (e : ∀ i, i < xs.length → f i = .raw (.int k (xs.getD i 0))) : LeV h l (.agg xs.length f) (.aggI k xs)
  | tup (n : Nat) (f g : Nat → AV) (e : ∀ i, i < n → LeV h l (f i) (g i)) : LeV h l (.tup n f) (.tup n g)
  | clo (fn : Fn) (n : Nat) (f g : Nat → AV) (e : ∀ i, i < n → LeV h l (f i) (g i)) : LeV h l (.clo fn n f) (.clo fn n g)
  | nilI (k : IntKind) : LeV h l (.raw (.slice none 0 0)) (.roI k [])
  | nilR (sz : Nat) (f : Nat → AV) : LeV h l (.raw (.slice none 0 0)) (.ro 0 sz f)
  | giveI {id off len : Nat} {k : IntKind} {xs : List Int} (ys : List Int) (e : h[id]? = some (.ints k xs)) (hl : id ∉ l) (hb : off + len ≤ xs.length)
      (hy : ys = (xs.drop off).take len) : LeV h l (.own id off len 1) (.roI k ys)
  | giveR {id off len sz n : Nat} {f : Nat → AV} (g : Nat → AV) (e : h[id]? = some (.row n f)) (hl : id ∉ l) (hb : off + len * sz ≤ n)
      (hy : ∀ i, i < len * sz → LeV h l (f (off + i)) (g i)) (hyf : ∀ i, i < len * sz → (g i).free) : LeV h l (.own id off len sz) (.ro len sz g)
  | giveL {id off len sz : Nat} {m : List AV} (g : Nat → AV) (e : h[id]? = some (.lst m)) (hl : id ∉ l) (hb : off + len * sz ≤ m.length)
      (hy : ∀ i, i < len * sz → LeV h l (m.getD (off + i) .top) (g i)) (hyf : ∀ i, i < len * sz → (g i).free) : LeV h l (.own id off len sz) (.ro len sz g)
  | givePL {id off n : Nat} {m : List AV} (g : Nat → AV) (e : h[id]? = some (.lst m)) (hl : id ∉ l) (hb : off + n ≤ m.length)
      (hy : ∀ i, i < n → LeV h l (m.getD (off + i) .top) (g i)) (hyf : ∀ i, i < n → (g i).free) : LeV h l (.ptr id off) (.rp n g)

inductive LeO (h : List AO) (l : List Nat) : AO → AO → Prop
  | dead (o : AO) : LeO h l o .dead
  | ints (k : IntKind) (xs : List Int) : LeO h l (.ints k xs) (.ints k xs)
  | intsT (k : IntKind) (xs ys : List Int) (n : Nat) (e : ys = xs.take n) : LeO h l (.ints k xs) (.ints k ys)
  | row (n m : Nat) (f g : Nat → AV) (hm : m ≤ n) (e : ∀ i, i < m → LeV h l (f i) (g i)) : LeO h l (.row n f) (.row m g)
  | lst (x y : List AV) (hn : y.length = x.length) (e : ∀ i, i < x.length → LeV h l (x.getD i .top) (y.getD i .top)) : LeO h l (.lst x) (.lst y)
  | rowL (x : List AV) (g : Nat → AV) (e : ∀ i, i < x.length → LeV h l (x.getD i .top) (g i)) : LeO h l (.lst x) (.row x.length g)
  | rowI (k : IntKind) (xs : List Int) : LeO h l (.ints k xs) (.row xs.length fun i => .raw (.int k (xs.getD i 0)))
  | map (x y : List (ByteArray × AV)) (hn : y.length = x.length) (e : ∀ i, i < x.length → (y.getD i mz).1 = (x.getD i mz).1 ∧ LeV h l (x.getD i mz).2 (y.getD i mz).2) : LeO h l (.map x) (.map y)
  | mapB (x y : List (ByteArray × AV)) (bs : List Nat) (c : Nat) (hn : y.length = x.length) (e : ∀ i, i < x.length → (y.getD i mz).1 = (x.getD i mz).1 ∧ LeV h l (x.getD i mz).2 (y.getD i mz).2) : LeO h l (.mapB x bs c) (.mapB y bs c)
  | mapOfB (x y : List (ByteArray × AV)) (bs : List Nat) (c : Nat) (hn : y.length = x.length) (e : ∀ i, i < x.length → (y.getD i mz).1 = (x.getD i mz).1 ∧ LeV h l (x.getD i mz).2 (y.getD i mz).2) : LeO h l (.mapB x bs c) (.map y)
  | miter {id id' : Nat} (since : Nat) (seen : List Nat) (e : l[id']? = some id) (hid : id < h.length) : LeO h l (.miter id since seen) (.miter id' since seen)
  | siter (s : ByteArray) (p : Nat) : LeO h l (.siter s p) (.siter s p)

/-- Of the blocks h those of the places l are kept, as h1; the first np stay where they are. A block that is new in h1 (empty, nowhere) has the place of a dead one. -/
structure LeH (np : Nat) (h : List AO) (l : List Nat) (h1 : List AO) : Prop where
  len : h1.length = l.length
  enough : np ≤ l.length
  pre : ∀ (i : Nat), i < np → l[i]? = some i
  dist : l.Nodup
  objs : ∀ (i j : Nat) (o' : AO), l[i]? = some j → h1[i]? = some o' → (∃ o, h[j]? = some o ∧ LeO h l o o') ∨ (np ≤ i ∧ h.length ≤ j ∧ (o' = .dead ∨ (∃ k, o' = .ints k []) ∨ ∃ g, o' = .row 0 g))

/-- Slots, all of them unknown but for a few. -/
def tops : Nat → List AV
  | 0 => []
  | n + 1 => .top :: tops n
def mkK (t : List AV) : List (Nat × AV) → (List AV → Prop) → Prop
  | [], K => K t
  | (i, a) :: l, K => setK t i a fun t' => mkK t' l K
def topsK : List AV → (List AV → Prop) → Prop
  | [], K => K []
  | _ :: l, K => topsK l fun r => K (.top :: r)
def LeT (h : List AO) (l : List Nat) (t : List AV) : List (Nat × AV) → Prop
  | [] => True
  | (i, a) :: r => (getK t i fun b => LeV h l b a) ∧ LeT h l t r

def lenEq : List AV → List AV → Prop
  | [], [] => True
  | _ :: l, _ :: m => lenEq l m
  | _, _ => False

/-- What a piece of code makes of what is known; 'sc': what is said of scopes. -/
def awpS (P : Program) (np : Nat) (sc : Code → (Exit → List AV → List AO → Prop) → List AV → List AO → Prop) : Code → (Exit → List AV → List AO → Prop) → List AV → List AO → Prop
  | .skip, Q, t, h => Q .normal t h
  | .label _, Q, t, h => Q .normal t h
  | .ret, Q, t, h => Q .ret t h
  | .exit id, Q, t, h => Q (.exit id) t h
  | .goto l, Q, t, h => Q (.goto l) t h
  | .scope c, Q, t, h => sc c Q t h
  | .seq a b, Q, t, h => awpS P np sc a (fun e t h => match e with
      | .normal => awpS P np sc b Q t h
      | e => Q e t h) t h
  | .block id c, Q, t, h => awpS P np sc c (fun e t h => match e with
      | .exit id' => match decide (id' = id) with
        | true => Q .normal t h
        | false => Q (.exit id') t h
      | e => Q e t h) t h
  | .cond c x y, Q, t, h => evK t c fun v => match v with
      | .tt => awpS P np sc x Q t h
      | .ff => awpS P np sc y Q t h
      | .raw (.bool b) => (b = true → awpS P np sc x Q t h) ∧ (b = false → awpS P np sc y Q t h)
      | _ => False
  | .region _ ops false, Q, t, h => aops P ops.toList (Q .normal) ops.toList t h
  | .region _ ops true, Q, t, h => ((P.follows .mixedOrders = true ∧ Region.lexB .any ops = true) ∧ aqops P ops.toList (fun t => Q .normal t h) ops.toList t h) ∨
      ∃ n : Nat, drawB P ops n = true ∧ aq1s P ops.toList (fun t h => aops P ops.toList (Q .normal) (ops.toList.drop n) t h) (ops.toList.take n) t h
  | .loop c, Q, t, h => ∃ (X : Type) (sl : X → List (Nat × AV)) (hp : X → List AO) (inv : X → Prop) (μ : X → Nat),
      (∃ x l, inv x ∧ LeH np h l (hp x) ∧ LeT h l t (sl x)) ∧
      ∀ x, inv x → topsK t fun t0 => mkK t0 (sl x) fun t1 => awpS P np sc c (fun e t' h' => match e with
        | .normal => lenEq t t' ∧ ∃ y l, inv y ∧ μ y < μ x ∧ LeH np h' l (hp y) ∧ LeT h' l t' (sl y)
        | e => Q e t' h') t1 (hp x)
  | _, _, _, _ => False

/-- No word on scopes. -/
def noScope : Code → (Exit → List AV → List AO → Prop) → List AV → List AO → Prop := fun _ _ _ _ => False
/-- The same from a label on. -/
def awpAt (P : Program) (np : Nat) (l : Nat) : Code → (Exit → List AV → List AO → Prop) → List AV → List AO → Prop
  | .seq a b, Q, t, h => match (findLabel a l).isSome with
    | true => awpAt P np l a (fun e t h => match e with
      | .normal => awpS P np noScope b Q t h
      | e => Q e t h) t h
    | false => awpAt P np l b Q t h
  | .label l', Q, t, h => match l' == l with
    | true => Q .normal t h
    | false => False
  | _, _, _, _ => False
/-- A scope: what holds at each jump, and a number that sinks from jump to jump. -/
def scopeK (P : Program) (np : Nat) (c : Code) (Q : Exit → List AV → List AO → Prop) (t : List AV) (h : List AO) : Prop :=
  ∃ (X : Type) (lab : X → Nat) (sl : X → List (Nat × AV)) (hp : X → List AO) (inv : X → Prop) (μ : X → Nat),
    awpS P np noScope c (fun e t' h' => match e with
      | .goto l' => lenEq t t' ∧ ∃ y l, lab y = l' ∧ inv y ∧ LeH np h' l (hp y) ∧ LeT h' l t' (sl y)
      | e => Q e t' h') t h ∧
    ∀ x, inv x → topsK t fun t0 => mkK t0 (sl x) fun t1 => awpAt P np (lab x) c (fun e t' h' => match e with
      | .goto l' => lenEq t t' ∧ ∃ y l, lab y = l' ∧ inv y ∧ μ y < μ x ∧ LeH np h' l (hp y) ∧ LeT h' l t' (sl y)
      | e => Q e t' h') t1 (hp x)
abbrev awp (P : Program) (np : Nat) := awpS P np (scopeK P np)

/-- What a function hands back. -/
def resK (P : Program) (h : List AO) (t : List AV) : List ResultVar → (List AV → Prop) → Prop
  | [], K => K []
  | .tmp i :: r, K => getK t i fun a => resK P h t r fun l => K (a :: l)
  | .cell i T :: r, K => getK t i fun a => loadK P T h a fun v => resK P h t r fun l => K (v :: l)
def retK (P : Program) (np : Nat) (rs : List ResultVar) (R : AV → List AO → Prop) (e : Exit) (t : List AV) (h : List AO) : Prop :=
  match e with
  | .ret | .normal => resK P h t rs fun l => match l with
    | [a] => ∃ l h1 b, LeH np h l h1 ∧ LeV h l a b ∧ R b h1
    | m => ∃ l h1 b, LeH np h l h1 ∧ LeV h l (.tup m.length fun i => m.getD i .top) b ∧ R b h1
  | _ => False
/-- A function's frame, as the call begins. -/
def frameK (n : Nat) : List AV → (List AV → Prop) → Prop
  | [], K => go n K
  | a :: l, K => match n with
    | 0 => frameK 0 l fun r => K (a :: r)
    | n + 1 => frameK n l fun r => K (a :: r)
where go : Nat → (List AV → Prop) → Prop
  | 0, K => K []
  | n + 1, K => go n fun r => K (.top :: r)

end Go.Proofs.YtflclafbieokiaaGreatDoor.AL
