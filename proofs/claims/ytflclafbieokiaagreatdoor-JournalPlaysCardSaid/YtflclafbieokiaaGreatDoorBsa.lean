import Derived.Below
import Derived.MapKept
import Derived.Control
import Derived.Calls
import Derived.Deep.Draws
import Derived.Deep.Quiet
import Derived.Laws.Append
import Derived.Laws.Entries
import Derived.StillTail
import Derived.Laws.Sem
import Derived.Laws.Strings
import Derived.Laws.StructEq
import Derived.ChangeKeysEq
import Derived.Lib.ConvBytes

/-
  The state's own logic: what is known of a state, and what code makes of it, by computation.
-/
set_option linter.unusedSectionVars false

namespace Go.Proofs.YtflclafbieokiaaGreatDoor.AL
open Go

inductive AV where
  | top
  | raw (v : Value)
  | tt
  | ff
  | own (id off len sz : Nat)
  | ptr (id off : Nat)
  | rp (n : Nat) (f : Nat → AV)
  | ro (n sz : Nat) (f : Nat → AV)
  | rs (n sz : Nat) (f : Nat → AV)
  | roI (k : IntKind) (xs : List Int)
  | agg (n : Nat) (f : Nat → AV)
  | aggI (k : IntKind) (xs : List Int)
  | tup (n : Nat) (f : Nat → AV)
  | clo (fn : Fn) (n : Nat) (f : Nat → AV)
  | mp (id : Nat)
  | ifc
  /-- A cell that is only read, in which there is a pointer to a block of the call's own. -/
  | bx (id : Nat)
  /-- A method, bound to a pointer to a block of the call's own. -/
  | bm (f : FuncId) (id : Nat)

inductive AO where
  | dead
  | ints (k : IntKind) (xs : List Int)
  | row (n : Nat) (f : Nat → AV)
  | lst (l : List AV)
  | map (l : List (ByteArray × AV))
  | mapB (l : List (ByteArray × AV)) (bs : List Nat) (clock : Nat)
  | miter (id since : Nat) (seen : List Nat)
  | siter (s : ByteArray) (pos : Nat)

abbrev int (k : IntKind) (n : Int) : AV := .raw (.int k n)
abbrev bool (b : Bool) : AV := .raw (.bool b)
abbrev str (s : ByteArray) : AV := .raw (.string s)

structure Loc where
  n : Nat
  b : Nat → Option Nat
  sz : Nat → Nat

structure Loc.le (L M : Loc) : Prop where
  n : L.n ≤ M.n
  b : ∀ i, i < L.n → M.b i = L.b i
  sz : ∀ i, i < L.n → M.sz i = L.sz i

def Loc.zero : Loc := ⟨0, fun _ => none, fun _ => 0⟩
theorem Loc.zero_le (L : Loc) : Loc.zero.le L := ⟨Nat.zero_le _, fun _ hi => absurd hi (Nat.not_lt_zero _), fun _ hi => absurd hi (Nat.not_lt_zero _)⟩

theorem Loc.le.refl (L : Loc) : L.le L := ⟨Nat.le_refl _, fun _ _ => rfl, fun _ _ => rfl⟩

def rcell (w : World) (S : Nat → Prop) (A : Option Addr) (i : Nat) (u : Value) : Prop :=
  ∃ b o, A = some ⟨b, o, none⟩ ∧ S b ∧ w.cell? ⟨b, o + i, none⟩ = some u

def den (w : World) (S : Nat → Prop) (L : Loc) : AV → Value → Prop
  | .top, _ => True
  | .raw u, v => v = u
  | .tt, v => v = .bool true
  | .ff, v => v = .bool false
  | .own id off len sz, v => id < L.n ∧ ((len = 0 ∧ ∃ A, v = .slice A 0 0) ∨
      ∃ b cap, L.b id = some b ∧ v = .slice (some ⟨b, off, none⟩) len cap ∧ len ≤ cap ∧ off + cap * sz ≤ L.sz id)
  | .ptr id off, v => id < L.n ∧ ∃ b, L.b id = some b ∧ v = .pointer (some ⟨b, off, none⟩)
  | .rp n f, v => ∃ A, v = .pointer (some A) ∧ ∀ i, i < n → ∃ u, rcell w S (some A) i u ∧ den w S .zero (f i) u
  | .ro n sz f, v => ∃ A cap, v = .slice A n cap ∧ n ≤ cap ∧ ∀ i, i < n * sz → ∃ u, rcell w S A i u ∧ den w S .zero (f i) u
  | .rs n sz f, v => ∃ A cap, v = .slice A n cap ∧ n ≤ cap ∧ ∀ i, i < n * sz → ∃ u, rcell w S A i u ∧ den w S .zero (f i) u
  | .roI k xs, v => ∃ A cap, v = .slice A xs.length cap ∧ xs.length ≤ cap ∧ ∀ i, i < xs.length → rcell w S A i (.int k (xs.getD i 0))
  | .agg n f, v => ∃ vs, v = .agg vs ∧ vs.size = n ∧ ∀ i, i < n → ∃ u, vs[i]? = some u ∧ den w S L (f i) u
  | .aggI k xs, v => v = .agg (xs.map (Value.int k)).toArray
  | .tup n f, v => ∃ vs, v = .tuple vs ∧ vs.size = n ∧ ∀ i, i < n → ∃ u, vs[i]? = some u ∧ den w S L (f i) u
  | .clo fn n f, v => ∃ vs, v = .func fn #[] vs ∧ vs.size = n ∧ ∀ i, i < n → ∃ u, vs[i]? = some u ∧ den w S L (f i) u
  | .mp id, v => id < L.n ∧ ∃ b, L.b id = some b ∧ v = .map (some b)
  | .ifc, v => ∃ T u, v = .iface T u
  | .bx id, v => id < L.n ∧ ∃ A b, v = .pointer (some A) ∧ L.b id = some b ∧ rcell w S (some A) 0 (.pointer (some ⟨b, 0, none⟩))
  | .bm f id, v => id < L.n ∧ ∃ b, L.b id = some b ∧ v = .func (.func f) #[.pointer (some ⟨b, 0, none⟩)] #[]

def keeps (S : Nat → Prop) (w w' : World) : Prop := ∀ b, S b → w'.heap[b]? = w.heap[b]?

theorem rcell_mono {w w' : World} {S S' : Nat → Prop} (hk : keeps S w w') (hs : ∀ b, S b → S' b) {A : Option Addr} {i : Nat} {u : Value}
    (h : rcell w S A i u) : rcell w' S' A i u := by
  obtain ⟨b, o, e, hb, hc⟩ := h
  refine ⟨b, o, e, hs b hb, ?_⟩
  have := hk b hb
  simpa only [World.cell?, this] using hc

theorem den_mono {w w' : World} {S S' : Nat → Prop} {L L' : Loc} (hk : keeps S w w') (hs : ∀ b, S b → S' b) (hl : L.le L') :
    ∀ (a : AV) (v : Value), den w S L a v → den w' S' L' a v
  | .top, _, _ => trivial
  | .raw _, _, h => h
  | .tt, _, h => h
  | .ff, _, h => h
  | .own id off len sz, v, h => by
    obtain ⟨hi, h⟩ := h
    refine ⟨Nat.lt_of_lt_of_le hi hl.n, ?_⟩
    rcases h with h | ⟨b, cap, h1, h2, h3, h4⟩
    · exact .inl h
    · exact .inr ⟨b, cap, by rw [hl.b _ hi]; exact h1, h2, h3, by rw [hl.sz _ hi]; exact h4⟩
  | .ptr id off, v, h => by
    obtain ⟨hi, b, h1, h2⟩ := h
    exact ⟨Nat.lt_of_lt_of_le hi hl.n, b, by rw [hl.b _ hi]; exact h1, h2⟩
  | .rp n f, v, h => by
    obtain ⟨A, e, h⟩ := h
    refine ⟨A, e, fun i hi => ?_⟩
    obtain ⟨u, h1, h2⟩ := h i hi
    exact ⟨u, rcell_mono hk hs h1, den_mono hk hs (.refl _) (f i) u h2⟩
  | .ro n sz f, v, h => by
    obtain ⟨A, cap, e, hc, h⟩ := h
    refine ⟨A, cap, e, hc, fun i hi => ?_⟩
    obtain ⟨u, h1, h2⟩ := h i hi
    exact ⟨u, rcell_mono hk hs h1, den_mono hk hs (.refl _) (f i) u h2⟩
  | .rs n sz f, v, h => by
    obtain ⟨A, cap, e, hc, h⟩ := h
    refine ⟨A, cap, e, hc, fun i hi => ?_⟩
    obtain ⟨u, h1, h2⟩ := h i hi
    exact ⟨u, rcell_mono hk hs h1, den_mono hk hs (.refl _) (f i) u h2⟩
  | .roI k xs, v, h => by
    obtain ⟨A, cap, e, hc, h⟩ := h
    exact ⟨A, cap, e, hc, fun i hi => rcell_mono hk hs (h i hi)⟩
  | .agg n f, v, h => by
    obtain ⟨vs, e, hn, h⟩ := h
    refine ⟨vs, e, hn, fun i hi => ?_⟩
    obtain ⟨u, h1, h2⟩ := h i hi
    exact ⟨u, h1, den_mono hk hs hl (f i) u h2⟩
  | .aggI _ _, _, h => h
  | .tup n f, v, h => by
    obtain ⟨vs, e, hn, h⟩ := h
    refine ⟨vs, e, hn, fun i hi => ?_⟩
    obtain ⟨u, h1, h2⟩ := h i hi
    exact ⟨u, h1, den_mono hk hs hl (f i) u h2⟩
  | .clo fn n f, v, h => by
    obtain ⟨vs, e, hn, h⟩ := h
    refine ⟨vs, e, hn, fun i hi => ?_⟩
    obtain ⟨u, h1, h2⟩ := h i hi
    exact ⟨u, h1, den_mono hk hs hl (f i) u h2⟩
  | .mp id, v, h => by
    obtain ⟨hi, b, h1, h2⟩ := h
    exact ⟨Nat.lt_of_lt_of_le hi hl.n, b, by rw [hl.b _ hi]; exact h1, h2⟩
  | .ifc, _, h => h
  | .bx id, v, h => by
    obtain ⟨hi, A, b, h1, h2, h3⟩ := h
    exact ⟨Nat.lt_of_lt_of_le hi hl.n, A, b, h1, by rw [hl.b _ hi]; exact h2, rcell_mono hk hs h3⟩
  | .bm f id, v, h => by
    obtain ⟨hi, b, h1, h2⟩ := h
    exact ⟨Nat.lt_of_lt_of_le hi hl.n, b, by rw [hl.b _ hi]; exact h1, h2⟩

theorem den_zero {w : World} {S : Nat → Prop} (L : Loc) {a : AV} {v : Value} (h : den w S .zero a v) : den w S L a v :=
  den_mono (fun _ _ => rfl) (fun _ h => h) (Loc.zero_le L) a v h

end Go.Proofs.YtflclafbieokiaaGreatDoor.AL

namespace Go.Proofs.YtflclafbieokiaaGreatDoor.AL
open Go

class Globs where
  l : List (Nat × (Array Value → Prop))

end Go.Proofs.YtflclafbieokiaaGreatDoor.AL

namespace Go.Proofs.YtflclafbieokiaaGreatDoor.AL
open Go
variable [Globs]

def cellsAre (w : World) (B : Option Nat) (sz n : Nat) (p : Nat → Value → Prop) : Prop :=
  (n = 0 ∧ B = none) ∨ ∃ b c el lo hi, B = some b ∧ w.heap[b]? = some (.cells c el (lo, hi)) ∧ c.size = sz ∧ n ≤ sz ∧
    (∀ o, o < c.size → (decide (lo ≤ o) && decide (o < hi)) = false) ∧ ∀ i, i < n → ∃ u, c[i]? = some u ∧ p i u

def mz : ByteArray × AV := (ByteArray.empty, .top)
theorem cellsAre_less {w : World} {B : Option Nat} {sz n m : Nat} {p : Nat → Value → Prop} (hm : m ≤ n) (h : cellsAre w B sz n p) : cellsAre w B sz m p := by
  rcases h with ⟨h1, h2⟩ | ⟨b, c, el, lo, hi, e, h2, h3, h4, h5, h6⟩
  · exact .inl ⟨by omega, h2⟩
  · exact .inr ⟨b, c, el, lo, hi, e, h2, h3, by omega, h5, fun i hi => h6 i (by omega)⟩
def objIs (w : World) (S : Nat → Prop) (L : Loc) (B : Option Nat) (sz : Nat) : AO → Prop
  | .dead => True
  | .ints k xs => cellsAre w B sz xs.length fun i u => u = .int k (xs.getD i 0)
  | .row n f => cellsAre w B sz n fun i u => den w S L (f i) u
  | .lst l => cellsAre w B sz l.length fun i u => den w S L (l.getD i .top) u
  | .map l => ∃ b es clock, B = some b ∧ w.heap[b]? = some (.map es clock) ∧ MapKept.Stamped es clock ∧ es.size = l.length ∧
      ∀ i, i < l.length → ∃ e, es[i]? = some e ∧ e.key = .string (l.getD i mz).1 ∧ den w S L (l.getD i mz).2 e.val
  | .mapB l bs clock => ∃ b es, B = some b ∧ w.heap[b]? = some (.map es clock) ∧ MapKept.Stamped es clock ∧ es.size = l.length ∧
      ∀ i, i < l.length → ∃ e, es[i]? = some e ∧ e.key = .string (l.getD i mz).1 ∧ e.born = bs.getD i 0 ∧ den w S L (l.getD i mz).2 e.val
  | .miter id since seen => ∃ b mb, B = some b ∧ id < L.n ∧ L.b id = some mb ∧ w.heap[b]? = some (.mapIter (some mb) since seen.toArray since)
  | .siter s pos => ∃ b, B = some b ∧ w.heap[b]? = some (.stringIter s pos)

def AO.live : AO → Prop
  | .dead => False
  | _ => True

theorem cellsAre_mono {w w' : World} {B : Option Nat} {sz n : Nat} {p p' : Nat → Value → Prop} (hB : ∀ b, B = some b → w'.heap[b]? = w.heap[b]?)
    (hp : ∀ i u, i < n → p i u → p' i u) (h : cellsAre w B sz n p) : cellsAre w' B sz n p' := by
  rcases h with h | ⟨b, c, el, lo, hi, e, hb, hs, hn, hf, h⟩
  · exact .inl h
  · refine .inr ⟨b, c, el, lo, hi, e, by rw [hB b e]; exact hb, hs, hn, hf, fun i hi => ?_⟩
    obtain ⟨u, h1, h2⟩ := h i hi
    exact ⟨u, h1, hp i u hi h2⟩

theorem objIs_mono {w w' : World} {S S' : Nat → Prop} {L L' : Loc} {B : Option Nat} {sz : Nat} (hk : keeps S w w') (hs : ∀ b, S b → S' b) (hl : L.le L')
    {o : AO} (hB : ∀ b, o.live → B = some b → w'.heap[b]? = w.heap[b]?) (h : objIs w S L B sz o) : objIs w' S' L' B sz o := by
  cases o with
  | dead => trivial
  | ints k xs => exact cellsAre_mono (fun b => hB b trivial) (fun _ _ _ h => h) h
  | row n f => exact cellsAre_mono (fun b => hB b trivial) (fun _ _ _ h => den_mono hk hs hl _ _ h) h
  | lst l => exact cellsAre_mono (fun b => hB b trivial) (fun _ _ _ h => den_mono hk hs hl _ _ h) h
  | map l =>
    obtain ⟨b, es, clock, e, hb, hst, hn, h⟩ := h
    refine ⟨b, es, clock, e, by rw [hB b trivial e]; exact hb, hst, hn, fun i hi => ?_⟩
    obtain ⟨x, h1, h2, h3⟩ := h i hi
    exact ⟨x, h1, h2, den_mono hk hs hl _ _ h3⟩
  | mapB l bs clock =>
    obtain ⟨b, es, e, hb, hst, hn, h⟩ := h
    refine ⟨b, es, e, by rw [hB b trivial e]; exact hb, hst, hn, fun i hi => ?_⟩
    obtain ⟨x, h1, h2, h3, h4⟩ := h i hi
    exact ⟨x, h1, h2, h3, den_mono hk hs hl _ _ h4⟩
  | miter id since seen =>
    obtain ⟨b, mb, e, hid, hm, hb⟩ := h
    exact ⟨b, mb, e, Nat.lt_of_lt_of_le hid hl.n, by rw [hl.b _ hid]; exact hm, by rw [hB b trivial e]; exact hb⟩
  | siter s pos =>
    obtain ⟨b, e, hb⟩ := h
    exact ⟨b, e, by rw [hB b trivial e]; exact hb⟩

structure Ctx where
  w0 : World
  S0 : Nat → Prop
  np : Nat
  L0 : Loc

def Ctx.O0 (C : Ctx) (b : Nat) : Prop := ∃ i, i < C.np ∧ C.L0.b i = some b

def Live (h : List AO) (i : Nat) : Prop := ∃ o, h[i]? = some o ∧ o.live

def SS (C : Ctx) (w : World) (h : List AO) (L : Loc) (b : Nat) : Prop :=
  b < w.heap.size ∧ (C.S0 b ∨ C.w0.heap.size ≤ b ∨ C.O0 b) ∧ ∀ i, Live h i → L.b i ≠ some b

def Glob (S : Nat → Prop) (w : World) : Prop := ∀ g ∈ Globs.l, S g.1 ∧ ∃ cs el fr, w.heap[g.1]? = some (.cells cs el fr) ∧ g.2 cs
def GlobC (C : Ctx) : Prop := (∀ b, C.S0 b → b < C.w0.heap.size ∧ ¬ C.O0 b) ∧ Glob C.S0 C.w0

theorem Glob.mono {S S' : Nat → Prop} {w w' : World} (hk : keeps S w w') (hs : ∀ b, S b → S' b) (h : Glob S w) : Glob S' w' :=
  fun g hg => let ⟨h1, cs, el, fr, h2, h3⟩ := h g hg; ⟨hs _ h1, cs, el, fr, by rw [hk _ h1]; exact h2, h3⟩
structure Fr (C : Ctx) (w : World) : Prop where
  os : w.os = C.w0.os
  tape : w.tape = C.w0.tape
  output : w.output = C.w0.output
  size : C.w0.heap.size ≤ w.heap.size
  block : ∀ k, k < C.w0.heap.size → ¬ C.O0 k → w.heap[k]? = C.w0.heap[k]?
  glob : GlobC C

structure HRel (C : Ctx) (h : List AO) (L : Loc) (w : World) : Prop where
  fr : Fr C w
  n : L.n = h.length
  np : C.np ≤ h.length
  pre : ∀ i, i < C.np → L.b i = C.L0.b i ∧ L.sz i = C.L0.sz i
  inj : ∀ i j b, Live h i → Live h j → L.b i = some b → L.b j = some b → i = j
  mine : ∀ i b, Live h i → L.b i = some b → b < w.heap.size ∧ (C.w0.heap.size ≤ b ∨ C.O0 b)
  objs : ∀ (i : Nat) (o : AO), h[i]? = some o → objIs w (SS C w h L) L (L.b i) (L.sz i) o

theorem HRel.s0 {C : Ctx} {h : List AO} {L : Loc} {w : World} (hr : HRel C h L w) : (∀ b, C.S0 b → SS C w h L b) ∧ keeps C.S0 C.w0 w := by
  refine ⟨fun b hb => ?_, fun b hb => ?_⟩
  · obtain ⟨h1, h2⟩ := hr.fr.glob.1 b hb
    refine ⟨Nat.lt_of_lt_of_le h1 hr.fr.size, .inl hb, fun i hi e => ?_⟩
    rcases (hr.mine i b hi e).2 with h3 | h3
    · omega
    · exact h2 h3
  · obtain ⟨h1, h2⟩ := hr.fr.glob.1 b hb
    exact hr.fr.block b h1 h2
theorem HRel.globs {C : Ctx} {h : List AO} {L : Loc} {w : World} (hr : HRel C h L w) : Glob (SS C w h L) w :=
  hr.fr.glob.2.mono hr.s0.2 hr.s0.1

structure Rel (C : Ctx) (t : List AV) (h : List AO) (L : Loc) (a : Act) (w : World) : Prop where
  heap : HRel C h L w
  size : a.tmps.size = t.length
  tmps : ∀ (i : Nat) (v : AV), t[i]? = some v → ∃ u, a.tmps[i]? = some u ∧ den w (SS C w h L) L v u
  defers : a.defers = []

end Go.Proofs.YtflclafbieokiaaGreatDoor.AL

namespace Go.Proofs.YtflclafbieokiaaGreatDoor.AL
open Go
variable [Globs]

def getK : List AV → Nat → (AV → Prop) → Prop
  | [], _, K => K .top
  | a :: _, 0, K => K a
  | _ :: l, n + 1, K => getK l n K
def setK : List AV → Nat → AV → (List AV → Prop) → Prop
  | [], _, _, K => K []
  | _ :: l, 0, v, K => K (v :: l)
  | a :: l, n + 1, v, K => setK l n v fun l' => K (a :: l')
def getO : List AO → Nat → (AO → Prop) → Prop
  | [], _, _ => False
  | a :: _, 0, K => K a
  | _ :: l, n + 1, K => getO l n K
def setO : List AO → Nat → AO → (List AO → Prop) → Prop
  | [], _, _, _ => False
  | _ :: l, 0, v, K => K (v :: l)
  | a :: l, n + 1, v, K => setO l n v fun l' => K (a :: l')
def putK (t : List AV) (d : Option Tmp) (v : AV) (K : List AV → Prop) : Prop :=
  match d with
  | some d => setK t d v K
  | none => K t
def cstK : Value → (AV → Prop) → Prop
  | .bool true, K => K .tt
  | .bool false, K => K .ff
  | v, K => K (.raw v)
def evK (t : List AV) : Operand → (AV → Prop) → Prop
  | .tmp i, K => getK t i K
  | .const v, K => cstK v K
  | .global g, K => K (.raw (.pointer (some ⟨g, 0, none⟩)))
  | .func f, K => K (.raw (.func (.func f) #[] #[]))
def evsK (t : List AV) : List Operand → (List AV → Prop) → Prop
  | [], K => K []
  | x :: l, K => evK t x fun a => evsK t l fun r => K (a :: r)
def sure (p : Prop) [Decidable p] (k : Prop) : Prop :=
  match decide p with
  | true => k
  | false => False
def sizeK (P : Program) (T : TypeId) (K : Nat → Prop) : Prop :=
  match P.info? T with
  | some i => match i.size with
    | 0 => K 0
    | 1 => K 1
    | n + 2 => K (n + 2)
  | none => False
def aggB (P : Program) (T : TypeId) : Option Bool :=
  match P.underlying T with
  | some (.struct _) | some (.array _ _) => some true
  | some _ => some false
  | none => none

def sameKind (k k' : IntKind) (p : Prop) : Prop :=
  match decide (k = k') with
  | true => p
  | false => False
def intOp (op : BinOp) (k k' : IntKind) (x y : Int) (K : AV → Prop) : Prop :=
  match op with
  | .shl => 0 ≤ y ∧ K (int k (k.wrap (x * 2 ^ (min y.toNat k.bits))))
  | .shr => 0 ≤ y ∧ K (int k (x.fdiv (2 ^ (min y.toNat k.bits))))
  | .add => sameKind k k' (K (int k (k.wrap (x + y))))
  | .sub => sameKind k k' (K (int k (k.wrap (x - y))))
  | .mul => sameKind k k' (K (int k (k.wrap (x * y))))
  | .quo => sameKind k k' (y ≠ 0 ∧ K (int k (k.wrap (x.tdiv y))))
  | .rem => sameKind k k' (y ≠ 0 ∧ K (int k (x.tmod y)))
  | .and => sameKind k k' (K (int k (Go.bits .and k x y)))
  | .or => sameKind k k' (K (int k (Go.bits .or k x y)))
  | .xor => sameKind k k' (K (int k (Go.bits .xor k x y)))
  | .andNot => sameKind k k' (K (int k (Go.bits .andNot k x y)))
  | .eql => sameKind k k' (K (bool (decide (x = y))))
  | .neq => sameKind k k' (K (bool (decide (¬ x = y))))
  | .lss => sameKind k k' (K (bool (decide (x < y))))
  | .leq => sameKind k k' (K (bool (decide (x ≤ y))))
  | .gtr => sameKind k k' (K (bool (decide (y < x))))
  | .geq => sameKind k k' (K (bool (decide (y ≤ x))))
def strOp (op : BinOp) (x y : ByteArray) (K : AV → Prop) : Prop :=
  match op with
  | .add => (x.size + y.size < 9223372036854775808) ∧ K (str (x ++ y))
  | .eql => K (bool (decide (x = y)))
  | .neq => K (bool (decide (¬ x = y)))
  | .lss => K (bool (Op.bytesLess x.toList y.toList))
  | .leq => K (bool (Op.bytesLess x.toList y.toList || decide (x = y)))
  | .gtr => K (bool (!(Op.bytesLess x.toList y.toList || decide (x = y))))
  | .geq => K (bool (!Op.bytesLess x.toList y.toList))
  | _ => False
def boolOp (op : BinOp) (x y : Bool) (K : AV → Prop) : Prop :=
  match op with
  | .eql => K (bool (x == y))
  | .neq => K (bool (x != y))
  | _ => False
def tabK (n : Nat) (f : Nat → AV) (K : List AV → Prop) : Prop := K ((List.range n).map f)
def explicitInts (k : IntKind) : List AV → (List Int → Prop) → Prop
  | [], K => K []
  | .raw (.int k' n) :: l, K => sameKind k' k (explicitInts k l fun r => K (n :: r))
  | _ :: _, _ => False
def leafOk (d : Option TypeDesc) : Value → Value → Bool
  | .int k _, .int k' _ => match d with
    | some (.int _) => decide (k = k')
    | _ => false
  | .bool _, .bool _ => match d with
    | some .bool => true
    | _ => false
  | .string _, .string _ => match d with
    | some .string => true
    | _ => false
  | _, _ => false
def leafEq : Value → Value → Bool
  | .int _ x, .int _ y => decide (x = y)
  | .bool x, .bool y => x == y
  | .string x, .string y => decide (x = y)
  | _, _ => false
def eqFieldsK (P : Program) (us vs : List AV) : List Field → (Bool → Prop) → Prop
  | [], K => K true
  | f :: fs, K => getK us f.offset fun a => getK vs f.offset fun b => match a, b with
    | .raw u, .raw v => sure (leafOk (P.underlying f.type) u v = true) <| eqFieldsK P us vs fs fun r => K (leafEq u v && r)
    | _, _ => False
def toIntsK (a : AV) (K : IntKind → List Int → Prop) : Prop :=
  match a with
  | .aggI k xs => K k xs
  | .agg n f => tabK n f fun l => match l with
    | .raw (.int k _) :: _ => explicitInts k l (K k)
    | _ => False
  | _ => False
def eqAggK (P : Program) (T : TypeId) (x y : AV) (K : Bool → Prop) : Prop :=
  match P.underlying T with
  | some (.struct fs) => (P.stoodInHeld T = false ∧ P.eqGuardType P.depth T = false ∧ (fs.toList.all fun f => f.name != "_") = true) ∧ match x, y with
    | .agg n f, .agg m g => tabK n f fun us => tabK m g fun vs => eqFieldsK P us vs fs.toList K
    | _, _ => False
  | some (.array n e) => sure (P.eqGuardType P.depth T = false) <| match P.underlying e with
    | some (.int _) => sizeK P e fun s => sure (s = 1) <| toIntsK x fun k xs => toIntsK y fun k' ys => sameKind k' k (xs.length = n ∧ ys.length = n ∧ K (decide (xs = ys)))
    | _ => False
  | _ => False
def noAgg : Value → Bool
  | .agg _ => false
  | .nilIface => false
  | _ => true
def otherOp (P : Program) (op : BinOp) (T : TypeId) (x y : AV) (K : AV → Prop) : Prop :=
  match P.underlying T, op, x, y with
  | some (.struct _), .eql, a, b => eqAggK P T a b fun r => K (bool r)
  | some (.struct _), .neq, a, b => eqAggK P T a b fun r => K (bool (!r))
  | some (.array _ _), .eql, a, b => eqAggK P T a b fun r => K (bool r)
  | some (.array _ _), .neq, a, b => eqAggK P T a b fun r => K (bool (!r))
  | some (.pointer _), .eql, .ptr _ _, .raw (.pointer none) => K .ff
  | some (.pointer _), .neq, .ptr _ _, .raw (.pointer none) => K .tt
  | some (.pointer _), .eql, .raw (.pointer none), .raw (.pointer none) => K .tt
  | some (.pointer _), .neq, .raw (.pointer none), .raw (.pointer none) => K .ff
  | some (.slice _), .eql, .ro n sz _, .raw (.slice none 0 0) => (n * sz = 0 → K .tt) ∧ K .ff
  | some (.slice _), .neq, .ro n sz _, .raw (.slice none 0 0) => (n * sz = 0 → K .ff) ∧ K .tt
  | some (.slice _), .eql, .rs n sz _, .raw (.slice none 0 0) => (n * sz = 0 → K .tt) ∧ K .ff
  | some (.slice _), .neq, .rs n sz _, .raw (.slice none 0 0) => (n * sz = 0 → K .ff) ∧ K .tt
  | some (.slice _), .eql, .roI _ xs, .raw (.slice none 0 0) => (xs.length = 0 → K .tt) ∧ K .ff
  | some (.slice _), .neq, .roI _ xs, .raw (.slice none 0 0) => (xs.length = 0 → K .ff) ∧ K .tt
  | some (.slice _), .eql, .own _ _ len _, .raw (.slice none 0 0) => (len = 0 → K .tt) ∧ K .ff
  | some (.slice _), .neq, .own _ _ len _, .raw (.slice none 0 0) => (len = 0 → K .ff) ∧ K .tt
  | some (.slice _), .eql, .raw (.slice none 0 0), .raw (.slice none 0 0) => K .tt
  | some (.slice _), .neq, .raw (.slice none 0 0), .raw (.slice none 0 0) => K .ff
  | _, op, .raw u, .raw v => sure (noAgg u = true) <| ∃ r : Value, (∀ w, (binOp op T u v).run P w = .ok r w) ∧ K (.raw r)
  | _, _, _, _ => False
def nilOp (P : Program) (op : BinOp) (T : TypeId) (x : AV) (K : AV → Prop) : Prop :=
  match P.underlying T, op, x with
  | some (.interface _), .eql, .ifc => K .ff
  | some (.interface _), .neq, .ifc => K .tt
  | some (.interface _), .eql, .raw .nilIface => K .tt
  | some (.interface _), .neq, .raw .nilIface => K .ff
  | _, _, _ => False
def binK (P : Program) (op : BinOp) (T : TypeId) (a b : AV) (K : AV → Prop) : Prop :=
  match a, b with
  | .raw (.int k x), .raw (.int k' y) => intOp op k k' x y K
  | .raw (.string x), .raw (.string y) => strOp op x y K
  | .raw (.bool x), .raw (.bool y) => match P.underlying T with
    | some .bool => boolOp op x y K
    | _ => False
  | .raw (.bool x), .tt => match P.underlying T with
    | some .bool => boolOp op x true K
    | _ => False
  | .raw (.bool x), .ff => match P.underlying T with
    | some .bool => boolOp op x false K
    | _ => False
  | .tt, .raw (.bool y) => match P.underlying T with
    | some .bool => boolOp op true y K
    | _ => False
  | .ff, .raw (.bool y) => match P.underlying T with
    | some .bool => boolOp op false y K
    | _ => False
  | .tt, .tt => match P.underlying T with
    | some .bool => boolOp op true true K
    | _ => False
  | .tt, .ff => match P.underlying T with
    | some .bool => boolOp op true false K
    | _ => False
  | .ff, .tt => match P.underlying T with
    | some .bool => boolOp op false true K
    | _ => False
  | .ff, .ff => match P.underlying T with
    | some .bool => boolOp op false false K
    | _ => False
  | a, b => otherOp P op T a b K
def unK (op : UnOp) (a : AV) (K : AV → Prop) : Prop :=
  match op, a with
  | .not, .tt => K .ff
  | .not, .ff => K .tt
  | .not, .raw (.bool b) => K (bool (!b))
  | .neg, .raw (.int k n) => K (int k (k.wrap (0 - n)))
  | .xor, .raw (.int k n) => K (int k (Go.bits .xor k (if k.signed then -1 else k.max) n))
  | _, _ => False
def bytesOf (xs : List Int) : ByteArray := ⟨(xs.map fun n => UInt8.ofNat n.toNat).toArray⟩
def intsOf (s : ByteArray) : List Int := s.data.toList.map fun b => (b.toNat : Int)
def convK (P : Program) (h : List AO) (src dst : TypeId) (a : AV) (K : AV → Prop) : Prop :=
  match P.underlying src with
  | none => False
  | some _ => match P.underlying dst, a with
  | some (.int k), .raw (.int _ n) => K (int k (k.wrap n))
  | some .string, .raw (.string s) => K (str s)
  | some .string, .roI .u8 xs => match P.underlying src with
    | some (.slice e) => match P.underlying e with
      | some (.int .u8) => K (str (bytesOf xs))
      | _ => False
    | _ => False
  | some .string, .raw (.slice none _ _) => match P.underlying src with
    | some (.slice e) => match P.underlying e with
      | some (.int .u8) => K (str ByteArray.empty)
      | _ => False
    | _ => False
  | some .string, .own id off len 1 => match P.underlying src with
    | some (.slice e) => match P.underlying e with
      | some (.int .u8) => getO h id fun o => match o with
        | .ints .u8 xs => off + len ≤ xs.length ∧ K (str (bytesOf ((xs.drop off).take len)))
        | _ => False
      | _ => False
    | _ => False
  | some (.float _), .raw v => ∃ r : Value, (∀ w, (convert src dst v).run P w = .ok r w) ∧ K (.raw r)
  | _, _ => False
def boundK (v : Option AV) (dflt : Nat) (most : Nat) (K : Nat → Prop) : Prop :=
  match v with
  | none => K dflt
  | some (.raw (.int _ i)) => (0 ≤ i ∧ i ≤ (most : Int)) ∧ K i.toNat
  | some _ => False
def addOff (off i sz : Nat) : Nat := off + i * sz
def sliceK (P : Program) (T : TypeId) (h : List AO) (x : AV) (lo hi mx : Option AV) (K : AV → Prop) : Prop :=
  match mx, P.underlying T, x with
  | none, some .string, .raw (.string s) => boundK hi s.size s.size fun b => boundK lo 0 b fun a => K (str (s.extract a b))
  | none, some (.slice e), .roI k xs => sizeK P e fun s => sure (s = 1) <| boundK hi xs.length xs.length fun b => boundK lo 0 b fun a => K (.roI k ((xs.take b).drop a))
  | none, some (.slice e), .own id off len sz => sizeK P e fun s => sure (s = sz) <| boundK hi len len fun b => boundK lo 0 b fun a => K (.own id (addOff off a sz) (b - a) sz)
  | none, some (.slice e), .ro n sz f => sizeK P e fun s => sure (s = sz) <| boundK hi n n fun b => boundK lo 0 b fun a => K (.ro (b - a) sz fun i => f (a * sz + i))
  | none, some (.slice e), .rs n sz f => sizeK P e fun s => sure (s = sz) <| boundK hi n n fun b => boundK lo 0 b fun a => K (.rs (b - a) sz fun i => f (a * sz + i))
  | none, some (.slice e), .raw (.slice none 0 0) => sizeK P e fun _ => boundK hi 0 0 fun b => boundK lo 0 b fun _ => K (.raw (.slice none 0 0))
  | none, some (.array n e), .ptr id off => sizeK P e fun s => boundK hi n n fun b => boundK lo 0 b fun a =>
      getO h id fun o => match o with
        | .ints _ xs => off + n * s ≤ xs.length ∧ K (.own id (addOff off a s) (b - a) s)
        | .lst l => off + n * s ≤ l.length ∧ K (.own id (addOff off a s) (b - a) s)
        | .row m _ => off + n * s ≤ m ∧ K (.own id (addOff off a s) (b - a) s)
        | _ => False
  | some (.raw (.int _ c)), some (.slice e), .roI k xs => match lo, hi with
    | none, some (.raw (.int _ n)) => sizeK P e fun s => sure (s = 1) <| (0 ≤ n ∧ n ≤ c ∧ c ≤ (xs.length : Int)) ∧ K (.roI k (xs.take n.toNat))
    | _, _ => False
  | _, _, _ => False
def loadK (P : Program) (T : TypeId) (h : List AO) (a : AV) (K : AV → Prop) : Prop :=
  match a with
  | .rp n f => match aggB P T with
    | some true => sizeK P T fun s => sure (s ≤ n) (K (.agg s f))
    | some false => sure (0 < n) (K (f 0))
    | none => False
  | .ptr id off => getO h id fun o => match o with
    | .lst l => match aggB P T with
      | some true => sizeK P T fun s => sure (off + s ≤ l.length) (K (.agg s fun i => l.getD (off + i) .top))
      | some false => sure (off < l.length) (getK l off K)
      | none => False
    | .ints k xs => match aggB P T with
      | some true => sizeK P T fun s => off + s ≤ xs.length ∧ K (.aggI k ((xs.drop off).take s))
      | some false => off < xs.length ∧ K (int k (xs.getD off 0))
      | none => False
    | .row n f => match aggB P T with
      | some true => sizeK P T fun s => off + s ≤ n ∧ K (.agg s fun i => f (off + i))
      | some false => off < n ∧ K (f off)
      | none => False
    | _ => False
  | .bx id => match aggB P T with
    | some false => K (.ptr id 0)
    | _ => False
  | _ => False
def arrPK (P : Program) (T : TypeId) (x : AV) (K : AV → Prop) : Prop :=
  match P.underlying T, x with
  | some (.array n _), .roI k xs => sure (0 < n) <| n ≤ xs.length ∧ K (.rp n fun i => int k (xs.getD i 0))
  | _, _ => False
def idxAddrK (P : Program) (T : TypeId) (x i : AV) (K : AV → Prop) : Prop :=
  match i with
  | .raw (.int _ j) => match P.underlying T, x with
    | some (.slice e), .roI k xs => sizeK P e fun s => sure (s = 1) <| (0 ≤ j ∧ j < (xs.length : Int)) ∧ K (.rp 1 fun _ => int k (xs.getD j.toNat 0))
    | some (.slice e), .ro n sz f => sizeK P e fun s => sure (s = sz ∧ 0 < sz) <| (0 ≤ j ∧ j < (n : Int)) ∧ K (.rp sz fun c => f (j.toNat * sz + c))
    | some (.slice e), .rs n sz f => sizeK P e fun s => sure (s = sz ∧ 0 < sz) <| (0 ≤ j ∧ j < (n : Int)) ∧ ∃ g : Nat → AV, (∀ c, c < sz → f (j.toNat * sz + c) = g c) ∧ K (.rp sz g)
    | some (.slice e), .own id off len sz => sizeK P e fun s => sure (s = sz) <| (0 ≤ j ∧ j < (len : Int)) ∧ K (.ptr id (addOff off j.toNat sz))
    | some (.array n e), .ptr id off => sizeK P e fun s => (0 ≤ j ∧ j < (n : Int)) ∧ K (.ptr id (addOff off j.toNat s))
    | some (.array n e), .rp m g => sizeK P e fun s => (0 ≤ j ∧ j < (n : Int) ∧ j.toNat * s + s ≤ m) ∧ K (.rp s fun c => g (j.toNat * s + c))
    | _, _ => False
  | _ => False
def idxK (P : Program) (T : TypeId) (x i : AV) (K : AV → Prop) : Prop :=
  match i with
  | .raw (.int _ j) => match P.underlying T, x with
    | some .string, .raw (.string s) => (0 ≤ j ∧ j < (s.size : Int)) ∧ K (int .u8 ((intsOf s).getD j.toNat 0))
    | some (.array n e), .aggI k xs => match aggB P e with
      | some true => False
      | some false => sizeK P e fun s => sure (s = 1) <| (0 ≤ j ∧ j < (n : Int)) ∧ n ≤ xs.length ∧ K (int k (xs.getD j.toNat 0))
      | none => False
    | _, _ => False
  | _ => False
def partK (P : Program) (T : TypeId) (a : AV) (off : Nat) (K : AV → Prop) : Prop :=
  match a with
  | .agg n f => match aggB P T with
    | some true => sizeK P T fun s => sure (off + s ≤ n) (K (.agg s fun i => f (off + i)))
    | some false => sure (off < n) (K (f off))
    | none => False
  | _ => False
def fieldK (P : Program) (T : TypeId) (a : AV) (j : Nat) (K : AV → Prop) : Prop :=
  match P.underlying T with
  | some (.struct fs) => match fs.toList[j]? with
    | some f => partK P f.type a f.offset K
    | none => False
  | _ => False
def fieldAddrK (P : Program) (T : TypeId) (a : AV) (j : Nat) (K : AV → Prop) : Prop :=
  match P.underlying T with
  | some (.struct fs) => match fs.toList[j]? with
    | some f => sizeK P f.type fun s => sure (0 < s) <| match a with
      | .ptr id off => K (.ptr id (off + f.offset))
      | .rp n g => sure (f.offset ≤ n) <| K (.rp (n - f.offset) fun i => g (f.offset + i))
      | _ => False
    | none => False
  | _ => False
def extractK (a : AV) (j : Nat) (K : AV → Prop) : Prop :=
  match a with
  | .tup n f => sure (j < n) (K (f j))
  | _ => False
def lenOfK (P : Program) (T : TypeId) (a : AV) (K : AV → Prop) : Prop :=
  match P.underlying T, a with
  | some .string, .raw (.string s) => K (int .i64 s.size)
  | some (.array n _), _ => K (int .i64 n)
  | some (.slice _), .roI _ xs => K (int .i64 xs.length)
  | some (.slice _), .ro n _ _ => K (int .i64 n)
  | some (.slice _), .rs n _ _ => K (int .i64 n)
  | some (.slice _), .own _ _ len _ => K (int .i64 len)
  | some (.slice _), .raw (.slice none 0 0) => K (int .i64 0)
  | _, _ => False
/-! Maps whose keys are texts. -/
def getM (s : ByteArray) : List (ByteArray × AV) → Option AV
  | [] => none
  | p :: r => if p.1 = s then some p.2 else getM s r
def okV (ok : Bool) (v b : AV) : AV := match ok with | true => .tup 2 fun i => [v, b].getD i .top | false => v
def lookK (P : Program) (T : TypeId) (h : List AO) (m x : AV) (ok : Bool) (K : AV → Prop) : Prop :=
  match P.underlying T with
  | some (.map kt et) => match P.underlying kt with
    | some .string => match P.info? et with
      | some i => match i.zero with
        | some z => match m, x with
          | .mp id, .raw (.string s) => getO h id fun o => match o with
            | .map l => (∀ v, getM s l = some v → K (okV ok v .tt)) ∧ (getM s l = none → K (okV ok (.raw z) .ff))
            | _ => False
          | .raw (.map none), .raw (.string _) => K (okV ok (.raw z) .ff)
          | _, _ => False
        | none => False
      | none => False
    | _ => False
  | _ => False
def lenHK (P : Program) (T : TypeId) (h : List AO) (a : AV) (K : AV → Prop) : Prop :=
  match a with
  | .mp id => match P.underlying T with
    | some (.map _ _) => getO h id fun o => match o with
      | .map l => K (int .i64 l.length)
      | _ => False
    | _ => False
  | .raw (.map none) => match P.underlying T with
    | some (.map _ _) => K (int .i64 0)
    | _ => False
  | a => lenOfK P T a K
def optK (t : List AV) (x : Option Operand) (K : Option AV → Prop) : Prop :=
  match x with
  | none => K none
  | some x => evK t x fun a => K (some a)

def apure (P : Program) (t : List AV) (h : List AO) (op : Op) (K : AV → Prop) : Prop :=
  match op with
  | .move x | .assign x => evK t x K
  | .pick c a b => evK t c fun c => match c with
    | .tt => evK t a K
    | .ff => evK t b K
    | .raw (.bool true) => evK t a K
    | .raw (.bool false) => evK t b K
    | _ => False
  | .nilCheck x => evK t x fun a => match a with
    | .ptr _ _ => K a
    | .rp _ _ => K a
    | .clo (.func _) _ _ => K a
    | _ => False
  | .load T x => evK t x fun a => loadK P T h a K
  | .binOp op T x (.const .nilIface) _ => evK t x fun a => nilOp P op T a K
  | .binOp op T x y _ => evK t x fun a => evK t y fun b => binK P op T a b K
  | .unOp op _ x => evK t x fun a => unK op a K
  | .convert src dst x => evK t x fun a => convK P h src dst a K
  | .slice T x lo hi mx => evK t x fun a => optK t lo fun lo => optK t hi fun hi => optK t mx fun mx => sliceK P T h a lo hi mx K
  | .fieldAddr T x j => evK t x fun a => fieldAddrK P T a j K
  | .field T x j => evK t x fun a => fieldK P T a j K
  | .indexAddr T x i => evK t x fun a => evK t i fun b => idxAddrK P T a b K
  | .sliceToArrayPointer T x => evK t x fun a => arrPK P T a K
  | .index T x i => evK t x fun a => evK t i fun b => idxK P T a b K
  | .extract x j => evK t x fun a => extractK a j K
  | .lookup T m x ok => evK t m fun m => evK t x fun x => lookK P T h m x ok K
  | .call { callee := .builtin .len, args, argTypes } => match args.toList, argTypes.toList with
    | [x], [T] => evK t x fun a => lenHK P T h a K
    | _, _ => False
  | .call { callee := .builtin .complex, args, .. } => evsK t args.toList fun l => match l with
    | [.raw (.float k x), .raw (.float k' y)] => sure (k = k') <| K (.raw (.complex k x y))
    | _ => False
  | .call { callee := .builtin .real, args, .. } => evsK t args.toList fun l => match l with
    | [.raw (.complex k x _)] => K (.raw (.float k x))
    | _ => False
  | .call { callee := .builtin .imag, args, .. } => evsK t args.toList fun l => match l with
    | [.raw (.complex k _ y)] => K (.raw (.float k y))
    | _ => False
  | .call { callee := .builtin .max, args, .. } => evsK t args.toList fun l => match l with
    | [.raw (.int k x), .raw (.int k' y)] => sameKind k' k (K (int k (max x y)))
    | _ => False
  | .call { callee := .builtin .min, args, .. } => evsK t args.toList fun l => match l with
    | [.raw (.int k x), .raw (.int k' y)] => sameKind k' k (K (int k (min x y)))
    | _ => False
  | _ => False

end Go.Proofs.YtflclafbieokiaaGreatDoor.AL

namespace Go.Proofs.YtflclafbieokiaaGreatDoor.AL
open Go
variable [Globs]

def AV.ren (g : Nat → Nat) : AV → AV
  | .own id off len sz => .own (g id) off len sz
  | .ptr id off => .ptr (g id) off
  | .agg n f => .agg n fun i => (f i).ren g
  | .tup n f => .tup n fun i => (f i).ren g
  | .clo fn n f => .clo fn n fun i => (f i).ren g
  | .mp id => .mp (g id)
  | .bx id => .bx (g id)
  | .bm f id => .bm f (g id)
  | a => a
def AO.ren (g : Nat → Nat) : AO → AO
  | .row n f => .row n fun i => (f i).ren g
  | .lst l => .lst (l.map (AV.ren g))
  | .map l => .map (l.map fun p => (p.1, p.2.ren g))
  | .mapB l bs c => .mapB (l.map fun p => (p.1, p.2.ren g)) bs c
  | .miter id s q => .miter (g id) s q
  | o => o

def Entered (P : Program) (f : FuncId) : Prop := ∃ fn, P.funcs[f]? = some fn ∧ (fn.name == "runtime.NumGoroutine") = false ∧ fn.body.isNone = false

def ACalls (P : Program) (f : FuncId) (args : List AV) (h : List AO) (R : AV → List AO → Prop) : Prop :=
  Entered P f ∧ ∀ (S0 : Nat → Prop) (L : Loc) (w : World) (vs : Array Value),
    HRel ⟨w, S0, h.length, L⟩ h L w → (∀ b, S0 b → b < w.heap.size ∧ ∀ i, i < h.length → L.b i ≠ some b) →
    vs.size = args.length → (∀ (i : Nat) (a : AV), args[i]? = some a → ∃ v, vs[i]? = some v ∧ den w S0 L a v) →
    Calls P f vs w fun e w' => ∃ v r h' L', e = .returned v ∧ R r h' ∧ HRel ⟨w, S0, h.length, L⟩ h' L' w' ∧
      den w' (SS ⟨w, S0, h.length, L⟩ w' h' L') L' r v

def lits : List Nat := [0, 1, 2, 3, 4, 5, 6, 7, 8, 9, 10, 11, 12, 13, 14, 15, 16, 17, 18, 19, 20, 21, 22, 23, 24, 25, 26, 27, 28, 29, 30, 31, 32, 33, 34, 35, 36, 37, 38, 39, 40, 41, 42, 43, 44, 45, 46, 47, 48, 49, 50, 51, 52, 53, 54, 55, 56, 57, 58, 59, 60, 61, 62, 63, 64, 65, 66, 67, 68, 69, 70, 71, 72, 73, 74, 75, 76, 77, 78, 79, 80, 81, 82, 83, 84, 85, 86, 87, 88, 89, 90, 91, 92, 93, 94, 95, 96, 97, 98, 99]
def addO (h : List AO) (o : AO) (K : Nat → List AO → Prop) : Prop := go o h lits K
where go (o : AO) : List AO → List Nat → (Nat → List AO → Prop) → Prop
  | [], n :: _, K => K n [o]
  | p :: h, _ :: l, K => go o h l fun n r => K n (p :: r)
  | _, [], _ => False

def cell1 : AV → Bool
  | .raw (.agg _) => false
  | .raw (.tuple _) => false
  | .top => false
  | .agg _ _ => false
  | .aggI _ _ => false
  | .tup _ _ => false
  | _ => true

def intsK (h : List AO) (k : IntKind) (x : AV) (K : List Int → Prop) : Prop :=
  match x with
  | .roI k' ys => sameKind k' k (K ys)
  | .own id off len 1 => getO h id fun o => match o with
    | .ints k' ys => sameKind k' k (off + len ≤ ys.length ∧ K ((ys.drop off).take len))
    | _ => False
  | .raw (.slice none 0 0) => K []
  | .raw (.string s) => sameKind .u8 k (K (intsOf s))
  | _ => False
def cellsK (h : List AO) (sz : Nat) (x : AV) (K : Nat → (Nat → AV) → Prop) : Prop :=
  match x with
  | .ro n sz' f => sure (sz' = sz) <| K n f
  | .rs n sz' f => sure (sz' = sz) <| K n f
  | .roI k ys => sure (sz = 1) <| K ys.length fun i => int k (ys.getD i 0)
  | .own id off len sz' => sure (sz' = sz) <| getO h id fun o => match o with
    | .lst l => off + len * sz ≤ l.length ∧ K len fun i => l.getD (off + i) .top
    | .row n f => off + len * sz ≤ n ∧ K len fun i => f (off + i)
    | .ints k ys => off + len * sz ≤ ys.length ∧ K len fun i => int k (ys.getD (off + i) 0)
    | _ => False
  | .raw (.slice none 0 0) => K 0 fun _ => .top
  | _ => False

def zeroK (P : Program) (T : TypeId) (K : Value → Prop) : Prop :=
  match P.info? T with
  | some i => match i.zero with
    | some z => K z
    | none => False
  | none => False
def intB (P : Program) (T : TypeId) : Option IntKind :=
  match P.underlying T with
  | some (.int k) => some k
  | _ => none

def newVarK (P : Program) (E : TypeId) (h : List AO) (a : AV) (K : Nat → List AO → Prop) : Prop :=
  match a with
  | .agg n f => sizeK P E fun s => sure (s = n) <| tabK n f fun l => addO h (.lst l) K
  | .aggI k xs => sizeK P E fun s => s = xs.length ∧ addO h (.ints k xs) K
  | a => match cell1 a with
    | true => sizeK P E fun s => sure (s = 1) <| addO h (.lst [a]) K
    | false => False

def storeK (P : Program) (T : TypeId) (h : List AO) (a v : AV) (K : List AO → Prop) : Prop :=
  match a with
  | .ptr id off => getO h id fun o => match o with
    | .ints k xs => match v with
      | .raw (.int k' n) => sizeK P T fun s => sure (s = 1) <| sameKind k' k (off < xs.length ∧ setO h id (.ints k (xs.set off n)) K)
      | .aggI k' ys => sizeK P T fun s => s = ys.length ∧ sameKind k' k (off + s ≤ xs.length ∧ setO h id (.ints k (xs.take off ++ ys ++ xs.drop (off + ys.length))) K)
      | _ => False
    | .lst l => match v with
      | .agg n f => sizeK P T fun s => sure (s = n ∧ off + n ≤ l.length) <| tabK n f fun m => sure (m.all cell1 = true) <| setO h id (.lst (l.take off ++ m ++ l.drop (off + n))) K
      | .aggI k xs => sizeK P T fun s => xs.length = s ∧ (sure (off + s ≤ l.length) <| tabK s (fun i => int k (xs.getD i 0)) fun m => sure (m.all cell1 = true) <| setO h id (.lst (l.take off ++ m ++ l.drop (off + s))) K)
      | v => match cell1 v with
        | true => sizeK P T fun s => sure (s = 1 ∧ off < l.length) <| setK l off v fun l' => setO h id (.lst l') K
        | false => False
    | .row n f => match v with
      | .agg m f' => sizeK P T fun s => sure (s = m) <| off + m ≤ n ∧ (∀ i, i < m → cell1 (f' i) = true) ∧ ∃ g : Nat → AV, (∀ i, i < n → g i = if off ≤ i ∧ i < off + m then f' (i - off) else f i) ∧ setO h id (.row n g) K
      | v => match cell1 v with
        | true => sizeK P T fun s => sure (s = 1) <| off < n ∧ ∃ g : Nat → AV, (∀ i, i < n → g i = if i = off then v else f i) ∧ setO h id (.row n g) K
        | false => False
    | _ => False
  | _ => False

/-! Maps whose keys are texts. -/
def setM (s : ByteArray) (v : AV) : List (ByteArray × AV) → List (ByteArray × AV)
  | [] => [(s, v)]
  | p :: r => if p.1 = s then (p.1, v) :: r else p :: setM s v r
def delM (s : ByteArray) : List (ByteArray × AV) → List (ByteArray × AV)
  | [] => []
  | p :: r => if p.1 = s then r else p :: delM s r
def mapSetK (P : Program) (T : TypeId) (h : List AO) (m x v : AV) (K : List AO → Prop) : Prop :=
  match P.underlying T with
  | some (.map kt _) => match P.underlying kt with
    | some .string => match m, x with
      | .mp id, .raw (.string s) => getO h id fun o => match o with
        | .map l => setO h id (.map (setM s v l)) K
        | _ => False
      | _, _ => False
    | _ => False
  | _ => False
def mapDelK (P : Program) (T : TypeId) (h : List AO) (m x : AV) (K : List AO → Prop) : Prop :=
  match P.underlying T with
  | some (.map kt _) => match P.underlying kt with
    | some .string => match m, x with
      | .mp id, .raw (.string s) => getO h id fun o => match o with
        | .map l => setO h id (.map (delM s l)) K
        | _ => False
      | _, _ => False
    | _ => False
  | _ => False
def slice3K (P : Program) (T : TypeId) (h : List AO) (x : AV) (n c : AV) (K : AV → List AO → Prop) : Prop :=
  match P.underlying T with
  | some (.slice e) => match intB P e with
    | some k => sizeK P e fun s => sure (s = 1) <| match n, c with
      | .raw (.int _ n), .raw (.int _ c) => match x with
        | .roI k' xs => sameKind k' k ((0 ≤ n ∧ n ≤ c ∧ c ≤ (xs.length : Int)) ∧ (K (.roI k (xs.take n.toNat)) h ∨ (c = 0 ∧ addO h (.ints k []) fun id h' => K (.own id 0 0 1) h')))
        | .raw (.slice none 0 0) => (n = 0 ∧ c = 0) ∧ K (.raw (.slice none 0 0)) h
        | _ => False
      | _, _ => False
    | none => False
  | _ => False
def notInt (d : TypeDesc) : Bool := match d with | .slice _ => true | .string => true | _ => false
def sourceK (d : TypeDesc) (z : Value) (h : List AO) (k : IntKind) (x : AV) (K : List Int → Prop) : Prop :=
  match d with
  | .int _ => match x with
    | .raw (.int .i64 n) => (0 ≤ n ∧ n ≤ 140737488355328) ∧ z.cells[0]! = .int k 0 ∧ K (List.replicate n.toNat 0)
    | _ => False
  | .slice _ => intsK h k x K
  | .string => intsK h k x K
  | _ => False
def appendK (P : Program) (T T2 : TypeId) (h : List AO) (s x : AV) (K : AV → List AO → Prop) : Prop :=
  match P.underlying T, P.underlying T2 with
  | some (.slice e), some d2 => match P.info? e with
    | some i => sure (0 < i.bytes ∧ 0 < i.size) <| match i.zero with
      | some z => sure (z.cells.size = i.size) <| match intB P e with
        | some k => sure (i.size = 1) <| match s with
          | .raw (.slice none 0 0) => sourceK d2 z h k x fun ys => ys.length * i.bytes ≤ 140737488355328 ∧ addO h (.ints k ys) fun n h' => K (.own n 0 ys.length 1) h'
          | .own id 0 len 1 => getO h id fun o => match o with
            | .ints k' xs => sameKind k' k (len = xs.length ∧ sourceK d2 z h k x fun ys => (xs.length + ys.length) * i.bytes ≤ 140737488355328 ∧
                setO h id .dead fun h1 => addO h1 (.ints k (xs ++ ys)) fun n h' => K (.own n 0 (xs.length + ys.length) 1) h')
            | _ => False
          | _ => False
        | none => sure (notInt d2 = true) <| sizeK P e fun sz => match s with
          | .raw (.slice none 0 0) => cellsK h sz x fun m f => m * i.bytes ≤ 140737488355328 ∧ (∀ i, i < m * sz → cell1 (f i) = true) ∧ ∃ g : Nat → AV, (∀ i, i < m * sz → g i = f i) ∧
              addO h (.row (m * sz) g) fun n h' => K (.own n 0 m sz) h'
          | .own id 0 len sz' => sure (sz' = sz) <| getO h id fun o => match o with
            | .row n f => n = len * sz ∧ (∀ i, i < n → cell1 (f i) = true) ∧ cellsK h sz x fun m f' => (len + m) * i.bytes ≤ 140737488355328 ∧ (∀ i, i < m * sz → cell1 (f' i) = true) ∧
                ∃ g : Nat → AV, (∀ i, i < n → g i = f i) ∧ (∀ i, i < m * sz → g (n + i) = f' i) ∧
                setO h id .dead fun h1 => addO h1 (.row ((len + m) * sz) g) fun n h' => K (.own n 0 (len + m) sz) h'
            | .lst l => l.length = len * sz ∧ (∀ i, i < l.length → cell1 (l.getD i .top) = true) ∧ cellsK h sz x fun m f' => (len + m) * i.bytes ≤ 140737488355328 ∧ (∀ i, i < m * sz → cell1 (f' i) = true) ∧
                ∃ g : Nat → AV, (∀ i, i < l.length → g i = l.getD i .top) ∧ (∀ i, i < m * sz → g (l.length + i) = f' i) ∧
                setO h id .dead fun h1 => addO h1 (.row ((len + m) * sz) g) fun n h' => K (.own n 0 (len + m) sz) h'
            | _ => False
          | _ => False
      | none => False
    | none => False
  | _, _ => False

def copyK (P : Program) (T : TypeId) (h : List AO) (d x : AV) (K : AV → List AO → Prop) : Prop :=
  match P.underlying T with
  | some (.slice e) => match intB P e with
    | some k => sizeK P e fun sz => sure (sz = 1) <| match d with
      | .own id off len 1 => getO h id fun o => match o with
        | .ints k' xs => sameKind k' k (off + len ≤ xs.length ∧ intsK h k x fun ys =>
            setO h id (.ints k (xs.take off ++ ys.take len ++ xs.drop (off + min ys.length len))) fun h' => K (int .i64 (min ys.length len : Nat)) h')
        | .row n f => (off + len ≤ n ∧ 0 < len) ∧ intsK h k x fun ys => ∃ g : Nat → AV, (∀ i, i < n → g i = if off ≤ i ∧ i < off + min ys.length len then int k (ys.getD (i - off) 0) else f i) ∧
            setO h id (.row n g) fun h' => K (int .i64 (min ys.length len : Nat)) h'
        | _ => False
      | _ => False
    | none => False
  | _ => False

def makeK (P : Program) (T : TypeId) (h : List AO) (l c : AV) (K : AV → List AO → Prop) : Prop :=
  match l, c with
  | .raw (.int .i64 n), .raw (.int .i64 m) => match P.underlying T with
    | some (.slice e) => match P.info? e with
      | some i => (0 ≤ n ∧ n ≤ m ∧ m < 9223372036854775808 ∧ m * (i.bytes : Int) ≤ 140737488355328) ∧ match intB P e with
        | some k => sizeK P e fun sz => sure (sz = 1) <| zeroK P e fun z => sure (z.cells.size = 1) <| z.cells[0]! = .int k 0 ∧ addO h (.ints k (List.replicate n.toNat 0)) fun id h' => K (.own id 0 n.toNat 1) h'
        | none => sizeK P e fun sz => sure (0 < sz) <| zeroK P e fun z => sure (z.cells.size = sz) <| addO h (.row (n.toNat * sz) fun i => .raw (z.cells[i % sz]!)) fun id h' => K (.own id 0 n.toNat sz) h'
      | none => False
    | _ => False
  | _, _ => False

def fillL (place : Nat → Option (Nat × Nat)) : List (Nat × AV) → List AV → (List AV → Prop) → Prop
  | [], l, K => K l
  | (i, v) :: r, l, K => match place i with
    | none => False
    | some (off, sz) => match v with
      | .agg n f => sure (n = sz) <| tabK n f fun m => sure (off + n ≤ l.length) <| fillL place r (l.take off ++ m ++ l.drop (off + n)) K
      | .aggI k xs => sz = xs.length ∧ sure (off + sz ≤ l.length) (fillL place r (l.take off ++ (List.range sz).map (fun i => int k (xs.getD i 0)) ++ l.drop (off + sz)) K)
      | v => match cell1 v with
        | true => sure (sz = 1) <| sure (off < l.length) <| setK l off v fun l' => fillL place r l' K
        | false => False
def partsK (t : List AV) : List (Nat × Operand) → (List (Nat × AV) → Prop) → Prop
  | [], K => K []
  | (i, x) :: r, K => evK t x fun a => partsK t r fun l => K ((i, a) :: l)
def buildSliceK (P : Program) (T : TypeId) (h : List AO) (len : Nat) (parts : List (Nat × AV)) (K : AV → List AO → Prop) : Prop :=
  match P.underlying T with
  | some (.slice e) => sizeK P e fun sz => sure (0 < sz) <| sure (len * sz ≤ 16777216) <| zeroK P e fun z =>
      sure (z.cells.size = sz) <| fillL (fun i => some (i * sz, sz)) parts ((List.range (len * sz)).map fun i => .raw (z.cells[i % sz]!)) fun l =>
        match intB P e with
        | some k => sure (sz = 1) <| explicitInts k l fun xs => addO h (.ints k xs) fun id h' => K (.own id 0 len 1) h'
        | none => addO h (.lst l) fun id h' => K (.own id 0 len sz) h'
  | _ => False
def fieldPlace? (P : Program) (fs : List Field) (i : Nat) : Option (Nat × Nat) :=
  match fs[i]? with
  | some f => match P.info? f.type with
    | some i => some (f.offset, i.size)
    | none => none
  | none => none
def allSized (P : Program) : List Field → Bool
  | [] => true
  | f :: r => match P.info? f.type with
    | some _ => allSized P r
    | none => false
def buildK (P : Program) (T : TypeId) (parts : List (Nat × AV)) (K : AV → Prop) : Prop :=
  zeroK P T fun z => match P.underlying T with
    | some (.array _ e) => sizeK P e fun sz => fillL (fun i => some (i * sz, sz)) parts (z.cells.toList.map .raw) fun l =>
        match intB P e with
        | some k => explicitInts k l fun xs => K (.aggI k xs)
        | none => K (.agg l.length fun i => l.getD i .top)
    | some (.struct fs) => sure (allSized P fs.toList = true) <| fillL (fieldPlace? P fs.toList) parts (z.cells.toList.map .raw) fun l => K (.agg l.length fun i => l.getD i .top)
    | _ => False

def AV.free : AV → Prop
  | .own _ _ _ _ | .ptr _ _ | .mp _ | .bx _ | .bm _ _ => False
  | .agg n f | .tup n f | .clo _ n f => ∀ i, i < n → (f i).free
  | _ => True
def AV.flat : AV → Prop
  | .rp _ _ | .ro _ _ _ | .rs _ _ _ | .roI _ _ | .bx _ => False
  | .agg n f | .tup n f | .clo _ n f => ∀ i, i < n → (f i).flat
  | _ => True
def AO.flat : AO → Prop
  | .row n f => ∀ i, i < n → (f i).flat
  | .lst l => ∀ i, i < l.length → (l.getD i .top).flat
  | .map l => ∀ i, i < l.length → (l.getD i mz).2.flat
  | .mapB l _ _ => ∀ i, i < l.length → (l.getD i mz).2.flat
  | _ => True
def givesK (gv : AV → (AV → Prop) → Prop) : List AV → (List AV → Prop) → Prop
  | [], K => K []
  | a :: l, K => gv a fun x => givesK gv l fun r => K (x :: r)
def lowC (pass : List Nat) : Nat → AV → (AV → Prop) → Prop
  | 0, _, _ => False
  | n + 1, a, K => match a with
    | .own id off len sz => match pass.idxOf? id with
      | some p => K (.own p off len sz)
      | none => False
    | .ptr id off => match pass.idxOf? id with
      | some p => K (.ptr p off)
      | none => False
    | .mp id => match pass.idxOf? id with
      | some p => K (.mp p)
      | none => False
    | .bx id => match pass.idxOf? id with
      | some p => K (.bx p)
      | none => False
    | .bm f id => match pass.idxOf? id with
      | some p => K (.bm f p)
      | none => False
    | .clo fn m f => tabK m f fun l => givesK (lowC pass n) l fun r => K (.clo fn m fun i => r.getD i .top)
    | .agg m f => tabK m f fun l => givesK (lowC pass n) l fun r => K (.agg m fun i => r.getD i .top)
    | .tup m f => tabK m f fun l => givesK (lowC pass n) l fun r => K (.tup m fun i => r.getD i .top)
    | a => K a
def lowK (h : List AO) (pass : List Nat) (a : AV) (K : AV → Prop) : Prop :=
  match a with
  | .own id off len sz => match pass.idxOf? id with
    | some p => K (.own p off len sz)
    | none => getO h id fun o => match o with
      | .ints k xs => sure (sz = 1) <| off + len ≤ xs.length ∧ K (.roI k ((xs.drop off).take len))
      | .row n f => off + len * sz ≤ n ∧ (∀ i, i < len * sz → (f (off + i)).free) ∧ K (.ro len sz fun i => f (off + i))
      | .lst l => off + len * sz ≤ l.length ∧ (∀ i, i < len * sz → (l.getD (off + i) .top).free) ∧ K (.ro len sz fun i => l.getD (off + i) .top)
      | _ => False
  | .ptr id off => match pass.idxOf? id with
    | some p => K (.ptr p off)
    | none => False
  | .mp id => match pass.idxOf? id with
    | some p => K (.mp p)
    | none => False
  | .bx id => match pass.idxOf? id with
    | some p => K (.bx p)
    | none => False
  | .bm f id => match pass.idxOf? id with
    | some p => K (.bm f p)
    | none => False
  | .agg n f => (∀ i, i < n → (f i).free) ∧ K a
  | .tup n f => (∀ i, i < n → (f i).free) ∧ K a
  | .clo fn n f => lowC pass 4 (.clo fn n f) K
  | a => K a
def lowsK (h : List AO) (pass : List Nat) : List AV → (List AV → Prop) → Prop
  | [], K => K []
  | a :: l, K => lowK h pass a fun x => lowsK h pass l fun r => K (x :: r)
def noLow1 (pass : List Nat) : AV → Bool
  | .own id _ _ _ => match pass.idxOf? id with
    | some _ => true
    | none => false
  | _ => true
def noLow (pass : List Nat) : List AV → Bool
  | [] => true
  | a :: l => match noLow1 pass a with
    | true => noLow pass l
    | false => false
def handK (h : List AO) (pass : List Nat) (o : AO) (K : AO → Prop) : Prop :=
  match o with
  | .dead => False
  | .ints k xs => K (.ints k xs)
  | .row n f => (∀ i, i < n → (f i).free) ∧ K (.row n f)
  | .lst l => match noLow pass l with
    | true => lowsK h pass l fun m => K (.lst m)
    | false => False
  | .map l => (∀ i, i < l.length → (l.getD i mz).2.free) ∧ K (.map l)
  | .mapB _ _ _ => False
  | .miter _ _ _ => False
  | .siter _ _ => False
def objsK (h : List AO) (pass : List Nat) : List Nat → (List AO → Prop) → Prop
  | [], K => K []
  | i :: l, K => getO h i fun o => handK h pass o fun p => objsK h pass l fun r => K (p :: r)
def nodupB : List Nat → Bool
  | [] => true
  | i :: l => match l.idxOf? i with
    | none => nodupB l
    | some _ => false
abbrev rn (l : List Nat) (i : Nat) : Nat := l.getD i 0
def getN : List Nat → Nat → (Nat → Prop) → Prop
  | [], _, _ => False
  | j :: _, 0, K => K j
  | _ :: l, n + 1, K => getN l n K
def renVK (l : List Nat) (a : AV) (K : AV → Prop) : Prop :=
  match a with
  | .own id off len sz => getN l id fun j => K (.own j off len sz)
  | .ptr id off => getN l id fun j => K (.ptr j off)
  | .agg n f => K (.agg n fun i => (f i).ren (rn l))
  | .tup n f => K (.tup n fun i => (f i).ren (rn l))
  | .clo fn n f => K (.clo fn n fun i => (f i).ren (rn l))
  | .mp id => getN l id fun j => K (.mp j)
  | .bx id => getN l id fun j => K (.bx j)
  | .bm f id => getN l id fun j => K (.bm f j)
  | a => K a
def renOK (l : List Nat) (o : AO) (K : AO → Prop) : Prop :=
  match o with
  | .row n f => K (.row n fun i => (f i).ren (rn l))
  | .lst m => K (.lst (m.map (AV.ren (rn l))))
  | .map m => K (.map (m.map fun p => (p.1, p.2.ren (rn l))))
  | .mapB m bs c => K (.mapB (m.map fun p => (p.1, p.2.ren (rn l))) bs c)
  | .miter id s q => K (.miter (rn l id) s q)
  | .ints k xs => K (.ints k xs)
  | .dead => K .dead
  | .siter s p => K (.siter s p)
def renOsK (l : List Nat) : List AO → (List AO → Prop) → Prop
  | [], K => K []
  | o :: r, K => renOK l o fun x => renOsK l r fun y => K (x :: y)
def appK : List AO → List AO → (List AO → Prop) → Prop
  | [], r, K => K r
  | o :: l, r, K => appK l r fun x => K (o :: x)
def backK : List Nat → List AO → List AO → (List AO → Prop) → Prop
  | [], new, h, K => appK h new K
  | _ :: _, [], _, _ => False
  | i :: l, o :: r, h, K => setO h i o fun h' => backK l r h' K
def newsK : List AO → List AO → List Nat → (List Nat → Prop) → Prop
  | [], [], _, K => K []
  | [], _ :: r, n :: l, K => newsK [] r l fun m => K (n :: m)
  | _ :: h, r, _ :: l, K => newsK h r l K
  | _, _, [], _ => False
def dropK : List Nat → List AO → (List AO → Prop) → Prop
  | [], r, K => K r
  | _ :: _, [], _ => False
  | _ :: l, _ :: r, K => dropK l r K

def callB (P : Program) (f : FuncId) (pass : List Nat) (R : AV → List AO → Prop) (args : List AV) (h : List AO) (K : AV → List AO → Prop) : Prop :=
  sure (nodupB pass = true) <| objsK h pass pass fun hp => lowsK h pass args fun as => ACalls P f as hp R ∧
    ∀ r h', R r h' → (noLow pass args = true ∨ r.flat ∧ ∀ o ∈ h', o.flat) ∧
      dropK pass h' fun new => newsK h new lits fun news => renOsK (pass ++ news) h' fun h1 => renVK (pass ++ news) r fun r1 => backK pass h1 h fun h2 => K r1 h2

/-! Own blocks that are let go: what leads to them is only read from now on. -/
def freeB : Nat → AV → Bool
  | 0, _ => false
  | n + 1, a => match a with
    | .own _ _ _ _ => false
    | .ptr _ _ => false
    | .mp _ => false
    | .bx _ => false
    | .bm _ _ => false
    | .clo _ m f => (List.range m).all fun i => freeB n (f i)
    | .agg m f => (List.range m).all fun i => freeB n (f i)
    | .tup m f => (List.range m).all fun i => freeB n (f i)
    | _ => true
def giveV (h : List AO) (g : List Nat) : Nat → AV → (AV → Prop) → Prop
  | 0, a, K => K a
  | n + 1, a, K => match a with
    | .own id off len sz => match g.idxOf? id with
      | none => K (.own id off len sz)
      | some _ => getO h id fun o => match o with
        | .ints k xs => sure (sz = 1) <| off + len ≤ xs.length ∧ K (.roI k ((xs.drop off).take len))
        | .row m f => match (g.erase id).idxOf? id with
          | none => off + len * sz ≤ m ∧ (∀ i, i < len * sz → (f (off + i)).free) ∧ K (.ro len sz fun i => f (off + i))
          | some _ => tabK m f fun l => givesK (giveV h g n) l fun r => sure (r.all (freeB 5) = true) <| off + len * sz ≤ r.length ∧ K (.ro len sz fun i => r.getD (off + i) .top)
        | .lst l => givesK (giveV h g n) l fun m => sure (m.all (freeB 5) = true) <| off + len * sz ≤ m.length ∧ K (.ro len sz fun i => m.getD (off + i) .top)
        | _ => False
    | .ptr id off => match g.idxOf? id with
      | none => K (.ptr id off)
      | some _ => getO h id fun o => match o with
        | .ints k xs => K (.rp (xs.length - off) fun i => int k (xs.getD (off + i) 0))
        | .row m f => (∀ i, i < m - off → (f (off + i)).free) ∧ K (.rp (m - off) fun i => f (off + i))
        | .lst l => givesK (giveV h g n) l fun m => sure (m.all (freeB 5) = true) <| K (.rp (m.length - off) fun i => m.getD (off + i) .top)
        | _ => False
    | .clo fn m f => tabK m f fun l => givesK (giveV h g n) l fun r => K (.clo fn m fun i => r.getD i .top)
    | .agg m f => tabK m f fun l => givesK (giveV h g n) l fun r => K (.agg m fun i => r.getD i .top)
    | a => K a
def killK : List Nat → List AO → (List AO → Prop) → Prop
  | [], h, K => K h
  | i :: l, h, K => setO h i .dead fun h' => killK l h' K
def splitG : List Nat → (List Nat → List Nat → Prop) → Prop
  | [], K => K [] []
  | n :: l, K => match Nat.ble 1000 n with
    | true => splitG l fun p g => K p ((n - 1000) :: g)
    | false => splitG l fun p g => K (n :: p) g

def callK (P : Program) (f : FuncId) (args : List AV) (h : List AO) (K : AV → List AO → Prop) : Prop :=
  ∃ (pass : List Nat) (R : AV → List AO → Prop), splitG pass fun ps gs => match gs with
    | [] => callB P f ps R args h K
    | g :: l => givesK (giveV h (g :: l) 5) args fun args' => killK (g :: l) h fun h1 => callB P f ps R args' h1 K

end Go.Proofs.YtflclafbieokiaaGreatDoor.AL

namespace Go.Proofs.YtflclafbieokiaaGreatDoor.AL
open Go
variable [Globs]

def makeFuncK (t : List AV) (fn : Fn) (first captured : List Operand) (K : AV → Prop) : Prop :=
  match first with
  | [] => evsK t captured fun l => K (.clo fn l.length fun i => l.getD i .top)
  | [x] => match captured with
    | [] => match fn with
      | .func f => evK t x fun a => match a with
        | .ptr id 0 => K (.bm f id)
        | _ => False
      | _ => False
    | _ => False
  | _ => False
def aeff (P : Program) (t : List AV) (h : List AO) (o : Oper) (K : AV → List AO → Prop) : Prop :=
  match o.op with
  | .alloc E => zeroK P E fun z => match P.underlying E with
    | some (.array n e) => match intB P e with
      | some k => sizeK P E fun s => sure (s = n) <| z = .agg ((List.replicate n (0 : Int)).map (Value.int k)).toArray ∧ addO h (.ints k (List.replicate n 0)) fun id h' => K (.ptr id 0) h'
      | none => match Nat.blt 64 n with
        | true => zeroK P e fun ze => z = .agg (Array.replicate n ze) ∧ addO h (.row n fun _ => .raw ze) fun id h' => K (.ptr id 0) h'
        | false => addO h (.lst (z.cells.toList.map .raw)) fun id h' => K (.ptr id 0) h'
    | some _ => addO h (.lst (z.cells.toList.map .raw)) fun id h' => K (.ptr id 0) h'
    | none => False
  | .box E x => evK t x fun a => newVarK P E h a fun id h' => K (.ptr id 0) h'
  | .build T parts => partsK t parts.toList fun l => buildK P T l fun a => K a h
  | .buildSlice T len parts => partsK t parts.toList fun l => buildSliceK P T h len l K
  | .store T a x => evK t a fun a => evK t x fun v => storeK P T h a v fun h' => K .top h'
  | .makeSlice T l c => evK t l fun a => evK t c fun b => makeK P T h a b K
  | .convert src dst x => evK t x fun a => match P.underlying dst, a with
    | some (.slice e), .raw (.string s) => match intB P e with
      | some .u8 => match P.underlying src with
        | some _ => addO h (.ints .u8 (intsOf s)) fun id h' => K (.own id 0 s.size 1) h'
        | none => False
      | _ => False
    | some (.slice e), .own id off len 1 => match intB P e with
      | some .u8 => match P.underlying src with
        | some (.slice _) => sure (src = dst ∧ 0 < len) <| getO h id fun o => match o with
          | .ints .u8 xs => off + len ≤ xs.length ∧ setO h id .dead fun h' => K (.roI .u8 ((xs.drop off).take len)) h'
          | _ => False
        | _ => False
      | _ => False
    | _, _ => convK P h src dst a fun v => K v h
  | .makeFunc fn first captured => makeFuncK t fn first.toList captured.toList fun a => K a h
  | .call c => match c.callee with
    | .builtin .append => evsK t c.args.toList fun l => match l, c.argTypes.toList with
      | [s, x], [T, T2] => appendK P T T2 h s x K
      | _, _ => False
    | .builtin .copy => evsK t c.args.toList fun l => match l, c.argTypes.toList with
      | [s, x], [T, _] => copyK P T h s x K
      | _, _ => False
    | .builtin .len => evsK t c.args.toList fun l => match l, c.argTypes.toList with
      | [x], [T] => lenHK P T h x fun a => K a h
      | _, _ => False
    | .builtin .cap => evsK t c.args.toList fun l => match l, c.argTypes.toList with
      | [.raw (.slice none 0 0)], [T] => match P.underlying T with
        | some (.slice _) => K (int .i64 0) h
        | _ => False
      | _, _ => False
    | .builtin .delete => evsK t c.args.toList fun l => match l, c.argTypes.toList with
      | [m, x], [T, _] => mapDelK P T h m x fun h' => K .top h'
      | _, _ => False
    | .builtin .max => evsK t c.args.toList fun l => match l with
      | [.raw (.int k x), .raw (.int k' y)] => sameKind k' k (K (int k (max x y)) h)
      | _ => False
    | .builtin .min => evsK t c.args.toList fun l => match l with
      | [.raw (.int k x), .raw (.int k' y)] => sameKind k' k (K (int k (min x y)) h)
      | _ => False
    | .value x => evK t x fun f => evsK t c.args.toList fun l => match f with
      | .raw (.func (.func f) ⟨[]⟩ ⟨[]⟩) => callK P f l h K
      | .clo (.func f) n g => tabK n g fun caps => callK P f (l ++ caps) h K
      | .bm f id => callK P f (.ptr id 0 :: l) h K
      | _ => False
    | .builtin .complex => apure P t h o.op fun a => K a h
    | .builtin .real => apure P t h o.op fun a => K a h
    | .builtin .imag => apure P t h o.op fun a => K a h
    | _ => False
  | .slice T x none (some n) (some c) => evK t x fun x => evK t n fun n => evK t c fun c => slice3K P T h x n c K
  | .makeMap T none => match P.underlying T with
    | some (.map _ _) => addO h (.map []) fun id h' => K (.mp id) h'
    | _ => False
  | .mapUpdate T m x v => evK t m fun m => evK t x fun x => evK t v fun v => mapSetK P T h m x v fun h' => K .top h'
  | .range T x => evK t x fun a => match P.underlying T, a with
    | some .string, .raw (.string s) => addO h (.siter s 0) fun id h' => K (.ptr id 0) h'
    | some (.map _ _), .mp m => getO h m fun o => match o with
      | .map l => ∀ (bs : List Nat) (clock : Nat), bs.length = l.length → bs.Nodup → setO h m (.mapB l bs clock) fun h1 => addO h1 (.miter m clock []) fun id h' => K (.ptr id 0) h'
      | _ => False
    | _, _ => False
  | .next x isS => evK t x fun a => match a, isS with
    | .ptr id 0, true => getO h id fun o => match o with
      | .siter s p => (p < s.size → ∀ c k : Nat, Utf8.decode s p = (c, k) → setO h id (.siter s (p + k)) fun h' => K (.tup 3 fun i => [.tt, int .i64 p, int .i32 c].getD i .top) h') ∧ (¬ p < s.size → K (.tup 1 fun _ => .ff) h)
      | _ => False
    | .ptr id 0, false => getO h id fun o => match o with
      | .miter m since seen => getO h m fun o => match o with
        | .mapB l bs clock => since = clock ∧ ((∀ i, i < l.length → bs.getD i 0 ∉ seen → setO h id (.miter m since (seen ++ [bs.getD i 0])) fun h' => K (.tup 3 fun j => [.tt, str (l.getD i mz).1, (l.getD i mz).2].getD j .top) h') ∧
            ((∀ i, i < l.length → bs.getD i 0 ∈ seen) → K (.tup 1 fun _ => .ff) h))
        | _ => False
      | _ => False
    | _, _ => False
  | .entry x => evK t x fun a => match a with
    | .ptr id 0 => getO h id fun o => match o with
      | .miter m since seen => getO h m fun o => match o with
        | .mapB l bs clock => since = clock ∧ ∃ i, (i < l.length ∧ seen.getLast? = some (bs.getD i 0)) ∧ K (.tup 2 fun j => [str (l.getD i mz).1, (l.getD i mz).2].getD j .top) h
        | _ => False
      | _ => False
    | _ => False
  | op => apure P t h op fun a => K a h

def aguard (all : List Oper) (t : List AV) (o : Oper) (run : List AV → Prop) (skip : List AV → Prop) : Prop :=
  match o.guard with
  | none => run t
  | some (j, want) => match all[j]? with
    | some oj => match oj.dst with
      | some d => getK t d fun g => match g, want with
        | .tt, true => run t
        | .ff, false => run t
        | .tt, false => putK t o.dst (.raw undef) skip
        | .ff, true => putK t o.dst (.raw undef) skip
        | .raw (.bool b), true => (b = true → setK t d .tt run) ∧ (b = false → setK t d .ff fun t => putK t o.dst (.raw undef) skip)
        | .raw (.bool b), false => (b = true → setK t d .tt fun t => putK t o.dst (.raw undef) skip) ∧ (b = false → setK t d .ff run)
        | .raw (.tuple _), _ => putK t o.dst (.raw undef) skip
        | _, _ => False
      | none => False
    | none => False

def aops (P : Program) (all : List Oper) (K : List AV → List AO → Prop) : List Oper → List AV → List AO → Prop
  | [], t, h => K t h
  | o :: r, t, h => aguard all t o (fun t => aeff P t h o fun v h' => putK t o.dst v fun t' => aops P all K r t' h') (fun t => aops P all K r t h)

def aquiet (P : Program) (t : List AV) (h : List AO) (o : Oper) (K : AV → Prop) : Prop :=
  match o.op with
  | .call { callee := .value (.func f), args, .. } => evsK t args.toList fun l => ∃ v : Value, lowsK h [] l fun as =>
      ACalls P f as [] (fun r h' => (r = .raw v ∨ (r = .tt ∧ v = .bool true) ∨ (r = .ff ∧ v = .bool false)) ∧ h' = []) ∧ K (.raw v)
  | op => apure P t h op K
def aqops (P : Program) (all : List Oper) (K : List AV → Prop) : List Oper → List AV → List AO → Prop
  | [], t, _ => K t
  | o :: r, t, h => aguard all t o (fun t => aquiet P t h o fun v => putK t o.dst v fun t' => aqops P all K r t' h) (fun t => aqops P all K r t h)

def allFree : List AV → Prop
  | [] => True
  | a :: l => a.free ∧ allFree l
theorem allFree_at : ∀ {l : List AV}, allFree l → ∀ i, i < l.length → (l.getD i .top).free
  | [], _, _, hi => by cases hi
  | _ :: _, h, 0, _ => h.1
  | _ :: _, h, i + 1, hi => allFree_at h.2 i (Nat.lt_of_succ_lt_succ hi)
def buildFreshK (P : Program) (T : TypeId) (len : Nat) (parts : List (Nat × AV)) (K : AV → Prop) : Prop :=
  match P.underlying T with
  | some (.slice e) => sizeK P e fun sz => sure (0 < sz) <| sure (len * sz ≤ 16777216) <| zeroK P e fun z =>
      sure (z.cells.size = sz) <| fillL (fun i => some (i * sz, sz)) parts ((List.range (len * sz)).map fun i => .raw (z.cells[i % sz]!)) fun l =>
        match intB P e with
        | some k => sure (sz = 1) <| explicitInts k l fun xs => K (.roI k xs)
        | none => allFree l ∧ K (.ro len sz fun i => l.getD i .top)
  | _ => False
def aq1 (P : Program) (t : List AV) (h : List AO) (o : Oper) (K : AV → Prop) : Prop :=
  match o.op with
  | .buildSlice T len parts => partsK t parts.toList fun l => buildFreshK P T len l K
  | .build T parts => partsK t parts.toList fun l => buildK P T l K
  | .call { callee := .value (.func f), args, .. } => evsK t args.toList fun l => callK P f l h fun x h' => h' = h ∧ K x
  | .call { callee := .value (.tmp i), args, .. } => getK t i fun f => evsK t args.toList fun l => match f with
    | .raw (.func (.func f) ⟨[]⟩ ⟨[]⟩) => callK P f l h fun x h' => h' = h ∧ K x
    | .clo (.func f) n g => tabK n g fun caps => callK P f (l ++ caps) h fun x h' => h' = h ∧ K x
    | .bm f id => callK P f (.ptr id 0 :: l) h fun x h' => h' = h ∧ K x
    | _ => False
  | .makeFunc fn first captured => makeFuncK t fn first.toList captured.toList K
  | op => apure P t h op K
def gdK (all : List Oper) (t : List AV) (o : Oper) (run skip : Prop) : Prop :=
  match o.guard with
  | none => run
  | some (j, want) => match all[j]? with
    | some oj => match oj.dst with
      | some d => getK t d fun g => match g, want with
        | .tt, true => run
        | .ff, false => run
        | .tt, false => skip
        | .ff, true => skip
        | .raw (.bool true), true => run
        | .raw (.bool false), false => run
        | .raw (.bool true), false => skip
        | .raw (.bool false), true => skip
        | .raw (.tuple _), _ => skip
        | _, _ => False
      | none => False
    | none => False
def effO (o : Oper) : Bool :=
  match o.guard with
  | none => match o.op with
    | .store _ _ _ => true
    | .alloc _ => true
    | .call { callee := .builtin .append, .. } => true
    | _ => false
  | some _ => false
def tmpO (o : Oper) : Bool :=
  match o.op with
  | .move _ => true
  | .assign _ => true
  | .pick _ _ _ => true
  | .binOp _ _ _ _ _ => true
  | .unOp _ _ _ => true
  | .extract _ _ => true
  | .fieldAddr _ _ _ => true
  | .field _ _ _ => true
  | .indexAddr _ _ _ => true
  | .sliceToArrayPointer _ _ => true
  | .index _ _ _ => true
  | .nilCheck _ => true
  | .build _ _ => true
  | _ => false
def cutO (P : Program) (o : Oper) : Bool :=
  match o.op with
  | .slice T _ _ _ none => match P.underlying T with
    | some (.slice _) => true
    | _ => false
  | _ => false
def tmpP (P : Program) (o : Oper) : Bool := tmpO o || cutO P o
def loadO (o : Oper) : Bool :=
  match o.op with
  | .load _ _ => true
  | .convert _ _ _ => true
  | .slice _ _ _ _ _ => true
  | .call { callee := .value (.func _), .. } => true
  | .call { callee := .value (.tmp _), .. } => true
  | .buildSlice _ _ _ => true
  | _ => false
def allocO (o : Oper) : Bool :=
  match o.guard with
  | none => match o.op with
    | .alloc _ => true
    | _ => false
  | some _ => false
def behind2 (ops : Array Oper) (o : Oper) (i : Nat) : Bool := o.after.any fun e => Region.binds .any e && match ops[e.on]? with
  | some m => m.after.any fun e2 => Region.binds .any e2 && e2.on == i
  | none => false
def pairO (P : Program) (ops : Array Oper) (i j : Nat) : Bool :=
  match ops[i]?, ops[j]? with
  | some oi, some oj => (behind2 ops oj i || behind2 ops oi j) || ((oj.after.any fun e => Region.binds .any e && e.on == i) || ((oi.after.any fun e => Region.binds .any e && e.on == j) ||
      ((!effO oi && !effO oj) || ((tmpP P oi || tmpP P oj) || ((decide (i < j) && (loadO oi && allocO oj)) || (decide (j < i) && (loadO oj && allocO oi)))))))
  | _, _ => true
def pairsB (P : Program) (ops : Array Oper) (n : Nat) : Bool := (List.range n).all fun i => (List.range n).all fun j => decide (i = j) || pairO P ops i j
def aq1s (P : Program) (all : List Oper) (Q : List AV → List AO → Prop) : List Oper → List AV → List AO → Prop
  | [], t, h => Q t h
  | o :: r, t, h => match effO o with
    | false => ∃ x, gdK all t o (aq1 P t h o (fun y => y = x)) (x = .raw undef) ∧ putK t o.dst x fun t' => aq1s P all Q r t' h
    | true => ∃ x h', aeff P t h o (fun y k => y = x ∧ k = h') ∧ putK t o.dst x fun t' => aq1s P all Q r t' h'
def drawB (P : Program) (ops : Array Oper) (n : Nat) : Bool :=
  P.follows .mixedOrders && (Region.lexTailB .any ops n && pairsB P ops n)

inductive LeV (h : List AO) (l : List Nat) : AV → AV → Prop
  | top (a : AV) : LeV h l a .top
  | raw (v : Value) : LeV h l (.raw v) (.raw v)
  | tt : LeV h l .tt .tt
  | ff : LeV h l .ff .ff
  | ttr : LeV h l .tt (.raw (.bool true))
  | rtt : LeV h l (.raw (.bool true)) .tt
  | rff : LeV h l (.raw (.bool false)) .ff
  | ffr : LeV h l .ff (.raw (.bool false))
  | own {id id' : Nat} (off len sz : Nat) (e : l[id']? = some id) : LeV h l (.own id off len sz) (.own id' off len sz)
  | nil {id' : Nat} (off sz : Nat) (e : id' < l.length) : LeV h l (.raw (.slice none 0 0)) (.own id' off 0 sz)
  | ptr {id id' : Nat} (off : Nat) (e : l[id']? = some id) : LeV h l (.ptr id off) (.ptr id' off)
  | mp {id id' : Nat} (e : l[id']? = some id) : LeV h l (.mp id) (.mp id')
  | bx {id id' : Nat} (e : l[id']? = some id) : LeV h l (.bx id) (.bx id')
  | bm {id id' : Nat} (f : FuncId) (e : l[id']? = some id) : LeV h l (.bm f id) (.bm f id')
  | giveB {box id id' : Nat} {r : List AV} (e : h[box]? = some (.lst (.ptr id 0 :: r))) (hl : box ∉ l) (e2 : l[id']? = some id) : LeV h l (.ptr box 0) (.bx id')
  | same (a : AV) (hf : a.free) : LeV h l a a
  | seen {a b c : AV} (x : LeV h l a b) (e : ∀ (w : World) (S : Nat → Prop) (L : Loc) (v : Value), den w S L b v → den w S L c v) : LeV h l a c
  | rp (n : Nat) (f g : Nat → AV) (e : ∀ i, i < n → LeV h l (f i) (g i)) (ef : ∀ i, i < n → (g i).free) : LeV h l (.rp n f) (.rp n g)
  | ro (n sz : Nat) (f g : Nat → AV) (e : ∀ i, i < n * sz → LeV h l (f i) (g i)) (ef : ∀ i, i < n * sz → (g i).free) : LeV h l (.ro n sz f) (.ro n sz g)
  | roI (k : IntKind) (xs : List Int) : LeV h l (.roI k xs) (.roI k xs)
  | roOfI (k : IntKind) (xs : List Int) : LeV h l (.roI k xs) (.ro xs.length 1 fun i => .raw (.int k (xs.getD i 0)))
  | aggI (k : IntKind) (xs : List Int) : LeV h l (.aggI k xs) (.aggI k xs)
  | agg (n : Nat) (f g : Nat → AV) (e : ∀ i, i < n → LeV h l (f i) (g i)) : LeV h l (.agg n f) (.agg n g)
  | aggOfI (k : IntKind) (xs : List Int) : LeV h l (.aggI k xs) (.agg xs.length fun i => .raw (.int k (xs.getD i 0)))
  | iOfAgg (k : IntKind) (xs : List Int) (f : Nat → AV) (e : ∀ i, i < xs.length → f i = .raw (.int k (xs.getD i 0))) : LeV h l (.agg xs.length f) (.aggI k xs)
  | tup (n : Nat) (f g : Nat → AV) (e : ∀ i, i < n → LeV h l (f i) (g i)) : LeV h l (.tup n f) (.tup n g)
  | clo (fn : Fn) (n : Nat) (f g : Nat → AV) (e : ∀ i, i < n → LeV h l (f i) (g i)) : LeV h l (.clo fn n f) (.clo fn n g)
  | nilI (k : IntKind) : LeV h l (.raw (.slice none 0 0)) (.roI k [])
  | nilR (sz : Nat) (f : Nat → AV) : LeV h l (.raw (.slice none 0 0)) (.ro 0 sz f)
  | giveI {id off len : Nat} {k : IntKind} {xs : List Int} (ys : List Int) (e : h[id]? = some (.ints k xs)) (hl : id ∉ l) (hb : off + len ≤ xs.length)
      (hy : ys = (xs.drop off).take len) : LeV h l (.own id off len 1) (.roI k ys)
  | giveR {id off len sz n : Nat} {f : Nat → AV} (g : Nat → AV) (e : h[id]? = some (.row n f)) (hl : id ∉ l) (hb : off + len * sz ≤ n)
      (hy : ∀ i, i < len * sz → LeV h l (f (off + i)) (g i)) (hyf : ∀ i, i < len * sz → (g i).free) : LeV h l (.own id off len sz) (.ro len sz g)
  | giveL {id off len sz : Nat} {m : List AV} (g : Nat → AV) (e : h[id]? = some (.lst m)) (hl : id ∉ l) (hb : off + len * sz ≤ m.length)
      (hy : ∀ i, i < len * sz → LeV h l (m.getD (off + i) .top) (g i)) (hyf : ∀ i, i < len * sz → (g i).free) : LeV h l (.own id off len sz) (.ro len sz g)
  | givePL {id off n : Nat} {m : List AV} (g : Nat → AV) (e : h[id]? = some (.lst m)) (hl : id ∉ l) (hb : off + n ≤ m.length)
      (hy : ∀ i, i < n → LeV h l (m.getD (off + i) .top) (g i)) (hyf : ∀ i, i < n → (g i).free) : LeV h l (.ptr id off) (.rp n g)

inductive LeO (h : List AO) (l : List Nat) : AO → AO → Prop
  | dead (o : AO) : LeO h l o .dead
  | ints (k : IntKind) (xs : List Int) : LeO h l (.ints k xs) (.ints k xs)
  | intsT (k : IntKind) (xs ys : List Int) (n : Nat) (e : ys = xs.take n) : LeO h l (.ints k xs) (.ints k ys)
  | row (n m : Nat) (f g : Nat → AV) (hm : m ≤ n) (e : ∀ i, i < m → LeV h l (f i) (g i)) : LeO h l (.row n f) (.row m g)
  | lst (x y : List AV) (hn : y.length = x.length) (e : ∀ i, i < x.length → LeV h l (x.getD i .top) (y.getD i .top)) : LeO h l (.lst x) (.lst y)
  | rowL (x : List AV) (g : Nat → AV) (e : ∀ i, i < x.length → LeV h l (x.getD i .top) (g i)) : LeO h l (.lst x) (.row x.length g)
  | rowI (k : IntKind) (xs : List Int) : LeO h l (.ints k xs) (.row xs.length fun i => .raw (.int k (xs.getD i 0)))
  | map (x y : List (ByteArray × AV)) (hn : y.length = x.length) (e : ∀ i, i < x.length → (y.getD i mz).1 = (x.getD i mz).1 ∧ LeV h l (x.getD i mz).2 (y.getD i mz).2) : LeO h l (.map x) (.map y)
  | mapB (x y : List (ByteArray × AV)) (bs : List Nat) (c : Nat) (hn : y.length = x.length) (e : ∀ i, i < x.length → (y.getD i mz).1 = (x.getD i mz).1 ∧ LeV h l (x.getD i mz).2 (y.getD i mz).2) : LeO h l (.mapB x bs c) (.mapB y bs c)
  | mapOfB (x y : List (ByteArray × AV)) (bs : List Nat) (c : Nat) (hn : y.length = x.length) (e : ∀ i, i < x.length → (y.getD i mz).1 = (x.getD i mz).1 ∧ LeV h l (x.getD i mz).2 (y.getD i mz).2) : LeO h l (.mapB x bs c) (.map y)
  | miter {id id' : Nat} (since : Nat) (seen : List Nat) (e : l[id']? = some id) (hid : id < h.length) : LeO h l (.miter id since seen) (.miter id' since seen)
  | siter (s : ByteArray) (p : Nat) : LeO h l (.siter s p) (.siter s p)

structure LeH (np : Nat) (h : List AO) (l : List Nat) (h1 : List AO) : Prop where
  len : h1.length = l.length
  enough : np ≤ l.length
  pre : ∀ (i : Nat), i < np → l[i]? = some i
  dist : l.Nodup
  objs : ∀ (i j : Nat) (o' : AO), l[i]? = some j → h1[i]? = some o' → (∃ o, h[j]? = some o ∧ LeO h l o o') ∨ (np ≤ i ∧ h.length ≤ j ∧ (o' = .dead ∨ (∃ k, o' = .ints k []) ∨ ∃ g, o' = .row 0 g))

def tops : Nat → List AV
  | 0 => []
  | n + 1 => .top :: tops n
def mkK (t : List AV) : List (Nat × AV) → (List AV → Prop) → Prop
  | [], K => K t
  | (i, a) :: l, K => setK t i a fun t' => mkK t' l K
def topsK : List AV → (List AV → Prop) → Prop
  | [], K => K []
  | _ :: l, K => topsK l fun r => K (.top :: r)
def LeT (h : List AO) (l : List Nat) (t : List AV) : List (Nat × AV) → Prop
  | [] => True
  | (i, a) :: r => (getK t i fun b => LeV h l b a) ∧ LeT h l t r

def lenEq : List AV → List AV → Prop
  | [], [] => True
  | _ :: l, _ :: m => lenEq l m
  | _, _ => False

def awpS (P : Program) (np : Nat) (sc : Code → (Exit → List AV → List AO → Prop) → List AV → List AO → Prop) : Code → (Exit → List AV → List AO → Prop) → List AV → List AO → Prop
  | .skip, Q, t, h => Q .normal t h
  | .label _, Q, t, h => Q .normal t h
  | .ret, Q, t, h => Q .ret t h
  | .exit id, Q, t, h => Q (.exit id) t h
  | .goto l, Q, t, h => Q (.goto l) t h
  | .scope c, Q, t, h => sc c Q t h
  | .seq a b, Q, t, h => awpS P np sc a (fun e t h => match e with
      | .normal => awpS P np sc b Q t h
      | e => Q e t h) t h
  | .block id c, Q, t, h => awpS P np sc c (fun e t h => match e with
      | .exit id' => match decide (id' = id) with
        | true => Q .normal t h
        | false => Q (.exit id') t h
      | e => Q e t h) t h
  | .cond c x y, Q, t, h => evK t c fun v => match v with
      | .tt => awpS P np sc x Q t h
      | .ff => awpS P np sc y Q t h
      | .raw (.bool b) => (b = true → awpS P np sc x Q t h) ∧ (b = false → awpS P np sc y Q t h)
      | _ => False
  | .region _ ops false, Q, t, h => aops P ops.toList (Q .normal) ops.toList t h
  | .region _ ops true, Q, t, h => ((P.follows .mixedOrders = true ∧ Region.lexB .any ops = true) ∧ aqops P ops.toList (fun t => Q .normal t h) ops.toList t h) ∨
      ∃ n : Nat, drawB P ops n = true ∧ aq1s P ops.toList (fun t h => aops P ops.toList (Q .normal) (ops.toList.drop n) t h) (ops.toList.take n) t h
  | .loop c, Q, t, h => ∃ (X : Type) (sl : X → List (Nat × AV)) (hp : X → List AO) (inv : X → Prop) (μ : X → Nat),
      (∃ x l, inv x ∧ LeH np h l (hp x) ∧ LeT h l t (sl x)) ∧
      ∀ x, inv x → topsK t fun t0 => mkK t0 (sl x) fun t1 => awpS P np sc c (fun e t' h' => match e with
        | .normal => lenEq t t' ∧ ∃ y l, inv y ∧ μ y < μ x ∧ LeH np h' l (hp y) ∧ LeT h' l t' (sl y)
        | e => Q e t' h') t1 (hp x)
  | _, _, _, _ => False

def noScope : Code → (Exit → List AV → List AO → Prop) → List AV → List AO → Prop := fun _ _ _ _ => False
def awpAt (P : Program) (np : Nat) (l : Nat) : Code → (Exit → List AV → List AO → Prop) → List AV → List AO → Prop
  | .seq a b, Q, t, h => match (findLabel a l).isSome with
    | true => awpAt P np l a (fun e t h => match e with
      | .normal => awpS P np noScope b Q t h
      | e => Q e t h) t h
    | false => awpAt P np l b Q t h
  | .label l', Q, t, h => match l' == l with
    | true => Q .normal t h
    | false => False
  | _, _, _, _ => False
def scopeK (P : Program) (np : Nat) (c : Code) (Q : Exit → List AV → List AO → Prop) (t : List AV) (h : List AO) : Prop :=
  ∃ (X : Type) (lab : X → Nat) (sl : X → List (Nat × AV)) (hp : X → List AO) (inv : X → Prop) (μ : X → Nat),
    awpS P np noScope c (fun e t' h' => match e with
      | .goto l' => lenEq t t' ∧ ∃ y l, lab y = l' ∧ inv y ∧ LeH np h' l (hp y) ∧ LeT h' l t' (sl y)
      | e => Q e t' h') t h ∧
    ∀ x, inv x → topsK t fun t0 => mkK t0 (sl x) fun t1 => awpAt P np (lab x) c (fun e t' h' => match e with
      | .goto l' => lenEq t t' ∧ ∃ y l, lab y = l' ∧ inv y ∧ μ y < μ x ∧ LeH np h' l (hp y) ∧ LeT h' l t' (sl y)
      | e => Q e t' h') t1 (hp x)
abbrev awp (P : Program) (np : Nat) := awpS P np (scopeK P np)

def resK (P : Program) (h : List AO) (t : List AV) : List ResultVar → (List AV → Prop) → Prop
  | [], K => K []
  | .tmp i :: r, K => getK t i fun a => resK P h t r fun l => K (a :: l)
  | .cell i T :: r, K => getK t i fun a => loadK P T h a fun v => resK P h t r fun l => K (v :: l)
def retK (P : Program) (np : Nat) (rs : List ResultVar) (R : AV → List AO → Prop) (e : Exit) (t : List AV) (h : List AO) : Prop :=
  match e with
  | .ret | .normal => resK P h t rs fun l => match l with
    | [a] => ∃ l h1 b, LeH np h l h1 ∧ LeV h l a b ∧ R b h1
    | m => ∃ l h1 b, LeH np h l h1 ∧ LeV h l (.tup m.length fun i => m.getD i .top) b ∧ R b h1
  | _ => False
def frameK (n : Nat) : List AV → (List AV → Prop) → Prop
  | [], K => go n K
  | a :: l, K => match n with
    | 0 => frameK 0 l fun r => K (a :: r)
    | n + 1 => frameK n l fun r => K (a :: r)
where go : Nat → (List AV → Prop) → Prop
  | 0, K => K []
  | n + 1, K => go n fun r => K (.top :: r)

end Go.Proofs.YtflclafbieokiaaGreatDoor.AL

/-
  The state's own logic is sound: what an operation computes and reads.
-/
set_option linter.unusedVariables false
set_option linter.unusedSectionVars false

namespace Go.Proofs.YtflclafbieokiaaGreatDoor.AL
open Go
variable [Globs]

theorem getK_iff {K : AV → Prop} : ∀ {t : List AV} {i : Nat}, getK t i K ↔ K (t.getD i .top)
  | [], _ => by simp [getK]
  | a :: _, 0 => by simp [getK]
  | _ :: l, n + 1 => by simp [getK, getK_iff (t := l)]
theorem setK_iff {v : AV} : ∀ {t : List AV} {i : Nat} {K : List AV → Prop}, setK t i v K ↔ K (t.set i v)
  | [], _, _ => by simp [setK]
  | a :: _, 0, _ => by simp [setK]
  | _ :: l, n + 1, _ => by simp [setK, setK_iff (t := l)]
theorem getO_iff {K : AO → Prop} : ∀ {t : List AO} {i : Nat}, getO t i K ↔ ∃ o, t[i]? = some o ∧ K o
  | [], _ => by simp [getO]
  | a :: _, 0 => by simp [getO]
  | _ :: l, n + 1 => by simp [getO, getO_iff (t := l)]
theorem setO_iff {v : AO} : ∀ {t : List AO} {i : Nat} {K : List AO → Prop}, setO t i v K ↔ i < t.length ∧ K (t.set i v)
  | [], _, _ => by simp [setO]
  | a :: _, 0, _ => by simp [setO]
  | _ :: l, n + 1, _ => by simp [setO, setO_iff (t := l)]
theorem lits_get {i n : Nat} (h : lits[i]? = some n) : n = i := by
  have e : lits = List.range 100 := rfl
  rw [e] at h
  rcases Nat.lt_or_ge i 100 with hi | hi
  · rw [List.getElem?_range hi] at h; exact (Option.some.inj h).symm
  · rw [List.getElem?_eq_none (by simpa using hi)] at h; cases h
theorem addO_go {o : AO} : ∀ {h : List AO} {l : List Nat} {m : Nat} {K : Nat → List AO → Prop}, (∀ (i n : Nat), l[i]? = some n → n = m + i) →
    addO.go o h l K → K (m + h.length) (h ++ [o])
  | [], [], _, _, _, hk => by simp [addO.go] at hk
  | [], n :: _, m, K, hl, hk => by
    have := hl 0 n rfl
    simp only [addO.go] at hk
    simpa [this] using hk
  | p :: h, [], _, _, _, hk => by simp [addO.go] at hk
  | p :: h, n :: l, m, K, hl, hk => by
    simp only [addO.go] at hk
    have := addO_go (h := h) (l := l) (m := m + 1) (fun i n hi => by have := hl (i + 1) n (by simpa using hi); omega) hk
    simpa [Nat.add_assoc, Nat.add_comm 1] using this
theorem addO_spec {h : List AO} {o : AO} {K : Nat → List AO → Prop} (hk : addO h o K) : K h.length (h ++ [o]) := by
  have := addO_go (m := 0) (fun i n hi => by simpa using lits_get hi) hk
  simpa using this
theorem sure_iff {p : Prop} [Decidable p] {k : Prop} : sure p k ↔ p ∧ k := by
  unfold sure
  by_cases h : p <;> simp [h]
theorem sameKind_iff {k k' : IntKind} {p : Prop} : sameKind k k' p ↔ k = k' ∧ p := by
  unfold sameKind
  by_cases h : k = k' <;> simp [h]
theorem sizeK_spec {P : Program} {T : TypeId} {K : Nat → Prop} (h : sizeK P T K) : ∃ n, (∀ w, (sizeOf T).run P w = .ok n w) ∧ (∃ i, P.info? T = some i ∧ i.size = n) ∧ K n := by
  unfold sizeK at h
  split at h
  · rename_i i hi
    refine ⟨i.size, fun w => ?_, ⟨i, hi, rfl⟩, ?_⟩
    · simp [sizeOf, typeInfo, program, Sem.run, hi]
    · split at h <;> simp_all
  · exact h.elim
theorem run_underlying {P : Program} {T : TypeId} {d : TypeDesc} (h : P.underlying T = some d) (w : World) : (underlying T).run P w = .ok d w := by
  simp [underlying, program, Sem.run, h]
theorem run_isAgg {P : Program} {T : TypeId} {b : Bool} (h : aggB P T = some b) (w : World) : (isAgg T).run P w = .ok b w := by
  unfold aggB at h
  cases hd : P.underlying T with
  | none => simp [hd] at h
  | some d =>
    rw [hd] at h
    unfold isAgg
    simp only [Sem.run_bind, run_underlying hd, Result.andThen_ok]
    cases d <;> simp at h <;> subst h <;> rfl

section
variable {P : Program} {C : Ctx} {t : List AV} {h : List AO} {L : Loc} {a : Act} {w : World}

def Ext (w w' : World) : Prop := w.heap.size ≤ w'.heap.size ∧ ∀ b, b < w.heap.size → w'.heap[b]? = w.heap[b]?
theorem Ext.refl (w : World) : Ext w w := ⟨Nat.le_refl _, fun _ _ => rfl⟩
theorem Ext.cell {w w' : World} (h : Ext w w') {b o : Nat} {v : Value} (hc : w.cell? ⟨b, o, none⟩ = some v) : w'.cell? ⟨b, o, none⟩ = some v := by
  have hb : b < w.heap.size := by
    rcases Nat.lt_or_ge b w.heap.size with h' | h'
    · exact h'
    · simp [World.cell?, Array.getElem?_eq_none h'] at hc
  have := h.2 b hb
  simpa only [World.cell?, this] using hc

theorem Rel.get (hr : Rel C t h L a w) (i : Nat) : den w (SS C w h L) L (t.getD i .top) (a.tmps.getD i undef) := by
  cases e : t[i]? with
  | none => simp [e, den]
  | some v =>
    obtain ⟨u, h1, h2⟩ := hr.tmps i v e
    simpa [e, h1] using h2
theorem cstK_spec {v : Value} {K : AV → Prop} (h : cstK v K) (w : World) (S : Nat → Prop) (L : Loc) : ∃ x, den w S L x v ∧ K x := by
  unfold cstK at h
  split at h
  · exact ⟨.tt, rfl, h⟩
  · exact ⟨.ff, rfl, h⟩
  · exact ⟨.raw v, rfl, h⟩
theorem evK_spec {K : AV → Prop} (hr : Rel C t h L a w) {x : Operand} (hk : evK t x K) : ∃ v, den w (SS C w h L) L v (a.eval x) ∧ K v := by
  cases x with
  | tmp i => exact ⟨_, hr.get i, getK_iff.1 hk⟩
  | const v => exact cstK_spec hk _ _ _
  | global g => exact ⟨.raw _, rfl, hk⟩
  | func f => exact ⟨.raw _, rfl, hk⟩
theorem evsK_spec (hr : Rel C t h L a w) : ∀ {xs : List Operand} {K : List AV → Prop}, evsK t xs K →
    ∃ vs, vs.length = xs.length ∧ (∀ (i : Nat) (v : AV), vs[i]? = some v → ∃ x, xs[i]? = some x ∧ den w (SS C w h L) L v (a.eval x)) ∧ K vs
  | [], K, hk => ⟨[], rfl, by simp, hk⟩
  | x :: xs, K, hk => by
    obtain ⟨v, h1, h2⟩ := evK_spec hr hk
    obtain ⟨vs, h3, h4, h5⟩ := evsK_spec hr h2
    refine ⟨v :: vs, by simp [h3], fun i u hi => ?_, h5⟩
    cases i with
    | zero => simp at hi; subst hi; exact ⟨x, rfl, h1⟩
    | succ i => simpa using h4 i u (by simpa using hi)

theorem own_cell {B : Option Nat} {sz n : Nat} {p : Nat → Value → Prop} {b : Nat} (h : cellsAre w B sz n p) (hb : B = some b) {i : Nat} (hi : i < n) :
    ∃ u, w.cell? ⟨b, i, none⟩ = some u ∧ p i u := by
  rcases h with ⟨h1, _⟩ | ⟨b', c, el, lo, hi', e, h1, h2, h3, h4, h5⟩
  · omega
  · rw [hb] at e
    obtain rfl := Option.some.inj e
    obtain ⟨u, h6, h7⟩ := h5 i hi
    exact ⟨u, by simp [World.cell?, h1, h6], h7⟩

theorem run_part_one0 {T : TypeId} (hag : aggB P T = some false) {cs : Array Value} {off : Nat} {u : Value} (hc : cs[off]? = some u) (w : World) : (part T cs off).run P w = .ok u w := by
  simp [part, run_isAgg hag, hc]

def Gives (P : Program) (w : World) (D : AV → Value → Prop) (s : Sem Value) (K : AV → Prop) : Prop :=
  ∃ v x, (∀ w', Ext w w' → s.run P w' = .ok v w') ∧ D x v ∧ K x

theorem Gives.of {D : AV → Value → Prop} {s : Sem Value} {K : AV → Prop} {x : AV} {v : Value} (hk : K x) (hd : D x v) (hs : ∀ w', Ext w w' → s.run P w' = .ok v w') : Gives P w D s K :=
  ⟨v, x, hs, hd, hk⟩
theorem Gives.raw {S : Nat → Prop} {s : Sem Value} {K : AV → Prop} {v : Value} (hk : K (.raw v)) (hs : s = Pure.pure v) : Gives P w (den w S L) s K :=
  ⟨v, .raw v, fun w' _ => by rw [hs]; rfl, rfl, hk⟩
theorem Gives.run {S : Nat → Prop} {s : Sem Value} {K : AV → Prop} {v : Value} (hk : K (.raw v)) (hs : ∀ w', s.run P w' = .ok v w') : Gives P w (den w S L) s K :=
  ⟨v, .raw v, fun w' _ => hs w', rfl, hk⟩

theorem intOp_spec {S : Nat → Prop} {op : BinOp} {k k' : IntKind} {x y : Int} {K : AV → Prop} {T : TypeId} (hk : intOp op k k' x y K) :
    Gives P w (den w S L) (binOp op T (.int k x) (.int k' y)) K := by
  cases op <;> simp only [intOp, sameKind_iff] at hk
  case shl =>
    obtain ⟨h1, h2⟩ := hk
    have : ¬ y < 0 := by omega
    exact .raw h2 (by simp only [binOp, Op.shift, this, if_false])
  case shr =>
    obtain ⟨h1, h2⟩ := hk
    have : ¬ y < 0 := by omega
    exact .raw h2 (by simp only [binOp, Op.shift, this, if_false])
  all_goals obtain ⟨rfl, hk⟩ := hk
  case quo => obtain ⟨h1, h2⟩ := hk; exact .raw h2 (by simp [binOp, Op.intDiv, h1])
  case rem => obtain ⟨h1, h2⟩ := hk; exact .raw h2 (by simp [binOp, Op.intDiv, h1])
  case eql => exact .raw hk (by simp [binOp, Op.intCmp]; rfl)
  case neq => exact .raw hk (by simp only [binOp, Op.intCmp, bne, ne_eq, not_true_eq_false, if_false]; congr 2; by_cases e : x = y <;> simp [e])
  case lss => exact .raw hk (by simp [binOp, Op.intCmp])
  case leq => exact .raw hk (by simp [binOp, Op.intCmp])
  case gtr => exact .raw hk (by simp [binOp, Op.intCmp])
  case geq => exact .raw hk (by simp [binOp, Op.intCmp])
  all_goals exact .raw hk (by simp [binOp, Op.intArith, Op.intBits, Go.bits])

theorem toList_eq_iff (x y : ByteArray) : (x.toList == y.toList) = decide (x = y) := by
  have hinj : x.toList = y.toList ↔ x = y := by
    rw [ByteArray.toList_eq, ByteArray.toList_eq]
    constructor
    · intro e; cases x; cases y; simp_all
    · rintro rfl; rfl
  by_cases e : x = y
  · subst e; simp
  · have : ¬ x.toList = y.toList := fun h => e (hinj.1 h)
    simp [e, this]

theorem strOp_spec {S : Nat → Prop} {op : BinOp} {x y : ByteArray} {K : AV → Prop} {T : TypeId} (hk : strOp op x y K) :
    Gives P w (den w S L) (binOp op T (.string x) (.string y)) K := by
  cases op <;> simp only [strOp] at hk
  case add =>
    obtain ⟨h1, h2⟩ := hk
    have hn : ¬ (((x.size + y.size : Nat) : Int) > IntKind.i64.max) := by
      simp [IntKind.max, IntKind.signed, IntKind.bits]; omega
    exact .raw h2 (by simp only [binOp, Op.stringOp, hn, if_false])
  case eql => exact .raw hk (by simp only [binOp, Op.stringOp, toList_eq_iff])
  case neq => exact .raw hk (by simp only [binOp, Op.stringOp, toList_eq_iff]; by_cases e : x = y <;> simp [e])
  case lss => exact .raw hk (by simp only [binOp, Op.stringOp])
  case leq => exact .raw hk (by simp only [binOp, Op.stringOp, toList_eq_iff])
  case gtr => exact .raw hk (by simp only [binOp, Op.stringOp, toList_eq_iff])
  case geq => exact .raw hk (by simp only [binOp, Op.stringOp])

theorem run_equal_bool {T : TypeId} (hu : P.underlying T = some .bool) (x y : Bool) (w : World) : (Op.equal T (.bool x) (.bool y)).run P w = .ok (x == y) w := by
  show (Op.equalIn (9999 + 1) T (.bool x) (.bool y)).run P w = _
  rw [Op.equalIn]
  simp only [Sem.run_bind, run_underlying hu, Result.andThen_ok]
  rfl
theorem run_equal_ptr_nil {T e : TypeId} (hu : P.underlying T = some (.pointer e)) (x : Addr) (w : World) : (Op.equal T (.pointer (some x)) (.pointer none)).run P w = .ok false w := by
  show (Op.equalIn (9999 + 1) T _ _).run P w = _
  rw [Op.equalIn]
  simp only [Sem.run_bind, run_underlying hu, Result.andThen_ok]
  rfl
theorem run_equal_slice {T e : TypeId} (hu : P.underlying T = some (.slice e)) (A : Option Addr) (l c : Nat) (w : World) : (Op.equal T (.slice A l c) (.slice none 0 0)).run P w = .ok A.isNone w := by
  show (Op.equalIn (9999 + 1) T _ _).run P w = _
  rw [Op.equalIn]
  simp only [Sem.run_bind, run_underlying hu, Result.andThen_ok]
  cases A <;> rfl
theorem run_equal_nil_nil {T e : TypeId} (hu : P.underlying T = some (.pointer e)) (w : World) : (Op.equal T (.pointer none) (.pointer none)).run P w = .ok true w := by
  show (Op.equalIn (9999 + 1) T _ _).run P w = _
  rw [Op.equalIn]
  simp only [Sem.run_bind, run_underlying hu, Result.andThen_ok]
  rfl
theorem binOp_eql {T : TypeId} {x y : Value} (hx : (match x with | .int .. | .float .. | .complex .. | .string _ => false | _ => true) = true) :
    (binOp .eql T x y) = (Op.equal T x y >>= fun b => Pure.pure (.bool b)) := by
  cases x <;> simp at hx <;> cases y <;> rfl
theorem binOp_neq {T : TypeId} {x y : Value} (hx : (match x with | .int .. | .float .. | .complex .. | .string _ => false | _ => true) = true) :
    (binOp .neq T x y) = (Op.equal T x y >>= fun b => Pure.pure (.bool !b)) := by
  cases x <;> simp at hx <;> cases y <;> rfl

theorem boolOp_spec {S : Nat → Prop} {op : BinOp} {x y : Bool} {K : AV → Prop} {T : TypeId} (hu : P.underlying T = some .bool) (hk : boolOp op x y K) :
    Gives P w (den w S L) (binOp op T (.bool x) (.bool y)) K := by
  cases op <;> simp only [boolOp] at hk
  case eql => exact .run hk fun w' => by rw [binOp_eql rfl, Sem.run_bind, run_equal_bool hu]; rfl
  case neq => exact .run hk fun w' => by rw [binOp_neq rfl, Sem.run_bind, run_equal_bool hu]; rfl

theorem Gives.tt {S : Nat → Prop} {s : Sem Value} {K : AV → Prop} (hk : K .tt) (hs : ∀ w', s.run P w' = .ok (.bool true) w') : Gives P w (den w S L) s K :=
  ⟨_, .tt, fun w' _ => hs w', rfl, hk⟩
theorem Gives.ff {S : Nat → Prop} {s : Sem Value} {K : AV → Prop} (hk : K .ff) (hs : ∀ w', s.run P w' = .ok (.bool false) w') : Gives P w (den w S L) s K :=
  ⟨_, .ff, fun w' _ => hs w', rfl, hk⟩

theorem explicitInts_iff {k : IntKind} : ∀ {l : List AV} {K : List Int → Prop}, explicitInts k l K → ∃ xs : List Int, l = xs.map (fun n => AV.raw (.int k n)) ∧ K xs
  | [], K, h => ⟨[], rfl, h⟩
  | .raw (.int k' n) :: l, K, h => by
    obtain ⟨rfl, h⟩ := sameKind_iff.1 h
    obtain ⟨xs, rfl, h2⟩ := explicitInts_iff h
    exact ⟨n :: xs, rfl, h2⟩
theorem toIntsK_spec {S : Nat → Prop} {x : AV} {v : Value} {K : IntKind → List Int → Prop} (hx : den w S L x v) (hk : toIntsK x K) : ∃ k xs, v = .agg (xs.map (Value.int k)).toArray ∧ K k xs := by
  unfold toIntsK at hk
  split at hk
  · exact ⟨_, _, hx, hk⟩
  · rename_i n f
    obtain ⟨vs, rfl, hn, hc⟩ := hx
    dsimp only [tabK] at hk
    split at hk
    · rename_i k m r e
      obtain ⟨xs, h1, h2⟩ := explicitInts_iff hk
      refine ⟨k, xs, ?_, h2⟩
      have hlen : n = xs.length := by
        have := congrArg List.length h1
        simpa using this
      congr 1
      apply Array.ext_getElem?
      intro i
      rcases Nat.lt_or_ge i n with hi | hi
      · obtain ⟨u, g1, g2⟩ := hc i hi
        have h3 := congrArg (fun l => l[i]?) h1
        simp only [List.getElem?_map, List.getElem?_range hi, Option.map_some] at h3
        have hi' : i < xs.length := by omega
        rw [List.getElem?_eq_getElem hi'] at h3
        simp only [Option.map_some, Option.some.injEq] at h3
        rw [h3] at g2
        rw [g1, g2]
        simp [hi']
      · rw [Array.getElem?_eq_none (by omega), Array.getElem?_eq_none (by simp; omega)]
    · exact hk.elim
  · exact hk.elim

theorem run_eqItems_ints {d : Nat} {e : TypeId} {k k0 : IntKind} (hu : P.underlying e = some (.int k0)) (w : World) : ∀ (is : List Nat) (xs ys : List Int), (∀ i ∈ is, i < xs.length ∧ i < ys.length) →
    (Op.eqItems (d + 1) e 1 (xs.map (Value.int k)).toArray (ys.map (Value.int k)).toArray is).run P w = .ok (is.all fun i => xs.getD i 0 == ys.getD i 0) w
  | [], _, _, _ => by simp [Op.eqItems]
  | i :: is, xs, ys, h => by
    obtain ⟨h1, h2⟩ := h i (by simp)
    have hag : aggB P e = some false := by simp [aggB, hu]
    have p1 := fun (zs : List Int) (hz : i < zs.length) => run_part_one0 (P := P) hag (cs := (zs.map (Value.int k)).toArray) (off := i * 1) (u := .int k (zs.getD i 0)) (by simp [hz]) w
    have ih := run_eqItems_ints (d := d) (k := k) hu w is xs ys (fun j hj => h j (by simp [hj]))
    simp only [Op.eqItems, Sem.run_bind, p1 xs h1, p1 ys h2, Result.andThen_ok, run_equalIn_int w d e k k0 _ _ hu, List.all_cons]
    cases (xs.getD i 0 == ys.getD i 0)
    · simp
    · simpa using ih

theorem all_get_eq {n : Nat} {xs ys : List Int} (hx : xs.length = n) (hy : ys.length = n) : ((List.range n).all fun i => xs.getD i 0 == ys.getD i 0) = decide (xs = ys) := by
  rw [Bool.eq_iff_iff]
  simp only [List.all_eq_true, List.mem_range, beq_iff_eq, decide_eq_true_eq]
  constructor
  · intro h
    apply List.ext_getElem (by omega)
    intro i h1 h2
    have := h i (by omega)
    simpa [List.getD_eq_getElem?_getD, h1, h2] using this
  · rintro rfl i _; rfl

theorem eqFieldsK_spec {S : Nat → Prop} {d n m : Nat} {f g : Nat → AV} {xs ys : Array Value} (hxs : xs.size = n) (hys : ys.size = m) (hx : ∀ i, i < n → ∃ u, xs[i]? = some u ∧ den w S L (f i) u) (hy : ∀ i, i < m → ∃ u, ys[i]? = some u ∧ den w S L (g i) u) :
    ∀ (fs : List Field) (_ : ∀ f ∈ fs, f.name ≠ "_") (K : Bool → Prop), eqFieldsK P ((List.range n).map f) ((List.range m).map g) fs K → ∃ r, (∀ w', (Op.eqFields (d + 1) xs ys fs).run P w' = .ok r w') ∧ K r
  | [], _, K, hk => ⟨true, fun w' => by simp [Op.eqFields], hk⟩
  | fd :: fs, hnm, K, hk => by
    unfold eqFieldsK at hk
    have hne : fd.name ≠ "_" := hnm fd (by simp)
    have hk := getK_iff.1 hk
    have hk := getK_iff.1 hk
    split at hk
    · rename_i u v e1 e2
      obtain ⟨hok, hk⟩ := sure_iff.1 hk
      have at0 : ∀ {n : Nat} {f : Nat → AV} {xs : Array Value} {u : Value}, (∀ i, i < n → ∃ u, xs[i]? = some u ∧ den w S L (f i) u) → ((List.range n).map f).getD fd.offset .top = .raw u → xs[fd.offset]? = some u := by
        intro n f xs u hx e
        rcases Nat.lt_or_ge fd.offset n with h1 | h1
        · obtain ⟨z, g1, g2⟩ := hx _ h1
          simp [List.getD_eq_getElem?_getD, h1] at e
          rw [e] at g2
          rw [g1, g2]
        · rw [List.getD_eq_getElem?_getD, List.getElem?_eq_none (by simpa using h1)] at e
          cases e
      have hu := at0 hx e1
      have hv := at0 hy e2
      obtain ⟨heq, hag⟩ : (∀ w', (Op.equalIn (d + 1) fd.type u v).run P w' = .ok (leafEq u v) w') ∧ aggB P fd.type = some false := by
        unfold leafOk at hok
        split at hok
        · split at hok
          · rename_i hd
            have hkk := of_decide_eq_true hok
            subst hkk
            exact ⟨fun w' => by rw [run_equalIn_int w' d fd.type _ _ _ _ hd]; rfl, by simp [aggB, hd]⟩
          · cases hok
        · split at hok
          · rename_i hd
            exact ⟨fun w' => by rw [run_equalIn_bool' w' d fd.type _ _ hd]; rfl, by simp [aggB, hd]⟩
          · cases hok
        · split at hok
          · rename_i hd
            exact ⟨fun w' => by rw [run_equalIn_string w' d fd.type _ _ hd, toList_eq_iff]; rfl, by simp [aggB, hd]⟩
          · cases hok
        · cases hok
      have hrec : ∀ (K : Bool → Prop), eqFieldsK P ((List.range n).map f) ((List.range m).map g) fs K → ∃ r, (∀ w', (Op.eqFields (d + 1) xs ys fs).run P w' = .ok r w') ∧ K r := eqFieldsK_spec hxs hys hx hy fs fun f hf => hnm f (by simp [hf])
      have fin : ∀ r, (∀ w', (Op.eqFields (d + 1) xs ys fs).run P w' = .ok r w') → ∀ w', (Op.eqFields (d + 1) xs ys (fd :: fs)).run P w' = .ok (leafEq u v && r) w' := fun r hr w' => by
        have hr' := hr w'
        simp only [Op.eqFields, hne, ne_eq, not_false_eq_true, if_true, Sem.run_bind, run_part_one0 hag hu, run_part_one0 hag hv, heq, Result.andThen_ok]
        cases leafEq u v
        · simp
        · simpa using hr'
      obtain ⟨r, h1, h2⟩ := hrec _ hk
      exact ⟨_, fin r h1, h2⟩
    · exact hk.elim

theorem eqAggK_spec {S : Nat → Prop} {x y : AV} {vx vy : Value} {K : Bool → Prop} {T : TypeId} (hx : den w S L x vx) (hy : den w S L y vy) (hk : eqAggK P T x y K) :
    ∃ r, (∃ xs ys, vx = .agg xs ∧ vy = .agg ys) ∧ P.eqGuardType P.depth T = false ∧ (∀ w', (Op.equal T vx vy).run P w' = .ok r w') ∧ K r := by
  unfold eqAggK at hk
  split at hk
  · rename_i fs hu
    obtain ⟨⟨hst, hgt, hnm⟩, hk⟩ := hk
    split at hk
    · rename_i n f m g
      obtain ⟨xs, rfl, hn, hx⟩ := hx
      obtain ⟨ys, rfl, hm, hy⟩ := hy
      obtain ⟨r, h1, h2⟩ := eqFieldsK_spec (d := 9998) hn hm hx hy _ (fun f hf => by simpa using List.all_eq_true.1 hnm f hf) _ hk
      have hfs : P.fieldsOf T = fs := by simp [Program.fieldsOf, hu]
      refine ⟨r, ⟨_, _, rfl, rfl⟩, hgt, fun w' => ?_, h2⟩
      show (Op.equalIn (9999 + 1) T _ _).run P w' = _
      rw [run_equalIn_struct w' 9999 T xs ys (by rw [hfs]; exact hu) hst, hfs]
      exact h1 w'
    · exact hk.elim
  · rename_i n e hu
    obtain ⟨hgt, hk⟩ := sure_iff.1 hk
    split at hk
    · rename_i k0 he
      obtain ⟨s, hs, ⟨i, hi, hsi⟩, hk⟩ := sizeK_spec hk
      obtain ⟨rfl, hk⟩ := sure_iff.1 hk
      obtain ⟨k, xs, rfl, hk⟩ := toIntsK_spec hx hk
      obtain ⟨k', ys, rfl, hk⟩ := toIntsK_spec hy hk
      obtain ⟨rfl, h1, h2, hk⟩ := sameKind_iff.1 hk
      refine ⟨_, ⟨_, _, rfl, rfl⟩, hgt, fun w' => ?_, hk⟩
      show (Op.equalIn (9999 + 1) T _ _).run P w' = _
      have hc : P.cellsOf e = 1 := by simp [Program.cellsOf, hi, hsi]
      rw [run_equalIn_array w' 9999 _ _ hu hi, hc, run_eqItems_ints he w' _ _ _ (fun i hi => by have := List.mem_range.1 hi; omega), all_get_eq h1 h2]
    · exact hk.elim
  · exact hk.elim

theorem otherOp_spec {S : Nat → Prop} {op : BinOp} {x y : AV} {vx vy : Value} {K : AV → Prop} {T : TypeId} (hx : den w S L x vx) (hy : den w S L y vy) (hk : otherOp P op T x y K) :
    Gives P w (den w S L) (binOp op T vx vy) K := by
  unfold otherOp at hk
  split at hk
  · obtain ⟨r, ⟨xs, ys, rfl, rfl⟩, _, h1, h2⟩ := eqAggK_spec hx hy hk
    exact .run h2 fun w' => by rw [binOp_eql rfl, Sem.run_bind, h1]; rfl
  · obtain ⟨r, ⟨xs, ys, rfl, rfl⟩, _, h1, h2⟩ := eqAggK_spec hx hy hk
    exact .run h2 fun w' => by rw [binOp_neq rfl, Sem.run_bind, h1]; rfl
  · obtain ⟨r, ⟨xs, ys, rfl, rfl⟩, _, h1, h2⟩ := eqAggK_spec hx hy hk
    exact .run h2 fun w' => by rw [binOp_eql rfl, Sem.run_bind, h1]; rfl
  · obtain ⟨r, ⟨xs, ys, rfl, rfl⟩, _, h1, h2⟩ := eqAggK_spec hx hy hk
    exact .run h2 fun w' => by rw [binOp_neq rfl, Sem.run_bind, h1]; rfl
  · obtain ⟨_, b, _, rfl⟩ := hx
    obtain rfl := hy
    exact .ff hk fun w' => by rw [binOp_eql rfl, Sem.run_bind, run_equal_ptr_nil (by assumption)]; rfl
  · obtain ⟨_, b, _, rfl⟩ := hx
    obtain rfl := hy
    exact .tt hk fun w' => by rw [binOp_neq rfl, Sem.run_bind, run_equal_ptr_nil (by assumption)]; rfl
  · obtain rfl := hx
    obtain rfl := hy
    exact .tt hk fun w' => by rw [binOp_eql rfl, Sem.run_bind, run_equal_nil_nil (by assumption)]; rfl
  · obtain rfl := hx
    obtain rfl := hy
    exact .ff hk fun w' => by rw [binOp_neq rfl, Sem.run_bind, run_equal_nil_nil (by assumption)]; rfl
  · obtain rfl := hy
    obtain ⟨A, cap, rfl, _, hc⟩ := hx
    cases A with
    | none => exact .tt (hk.1 (Classical.byContradiction fun h0 => by obtain ⟨b, o, e, _⟩ := (hc 0 (by omega)).choose_spec.1; cases e)) fun w' => by rw [binOp_eql rfl, Sem.run_bind, run_equal_slice (by assumption)]; rfl
    | some A => exact .ff hk.2 fun w' => by rw [binOp_eql rfl, Sem.run_bind, run_equal_slice (by assumption)]; rfl
  · obtain rfl := hy
    obtain ⟨A, cap, rfl, _, hc⟩ := hx
    cases A with
    | none => exact .ff (hk.1 (Classical.byContradiction fun h0 => by obtain ⟨b, o, e, _⟩ := (hc 0 (by omega)).choose_spec.1; cases e)) fun w' => by rw [binOp_neq rfl, Sem.run_bind, run_equal_slice (by assumption)]; rfl
    | some A => exact .tt hk.2 fun w' => by rw [binOp_neq rfl, Sem.run_bind, run_equal_slice (by assumption)]; rfl
  · obtain rfl := hy
    obtain ⟨A, cap, rfl, _, hc⟩ := hx
    cases A with
    | none => exact .tt (hk.1 (Classical.byContradiction fun h0 => by obtain ⟨b, o, e, _⟩ := (hc 0 (by omega)).choose_spec.1; cases e)) fun w' => by rw [binOp_eql rfl, Sem.run_bind, run_equal_slice (by assumption)]; rfl
    | some A => exact .ff hk.2 fun w' => by rw [binOp_eql rfl, Sem.run_bind, run_equal_slice (by assumption)]; rfl
  · obtain rfl := hy
    obtain ⟨A, cap, rfl, _, hc⟩ := hx
    cases A with
    | none => exact .ff (hk.1 (Classical.byContradiction fun h0 => by obtain ⟨b, o, e, _⟩ := (hc 0 (by omega)).choose_spec.1; cases e)) fun w' => by rw [binOp_neq rfl, Sem.run_bind, run_equal_slice (by assumption)]; rfl
    | some A => exact .tt hk.2 fun w' => by rw [binOp_neq rfl, Sem.run_bind, run_equal_slice (by assumption)]; rfl
  · obtain rfl := hy
    obtain ⟨A, cap, rfl, _, hc⟩ := hx
    cases A with
    | none => exact .tt (hk.1 (Classical.byContradiction fun h0 => by obtain ⟨b, o, e, _⟩ := hc 0 (by omega); cases e)) fun w' => by rw [binOp_eql rfl, Sem.run_bind, run_equal_slice (by assumption)]; rfl
    | some A => exact .ff hk.2 fun w' => by rw [binOp_eql rfl, Sem.run_bind, run_equal_slice (by assumption)]; rfl
  · obtain rfl := hy
    obtain ⟨A, cap, rfl, _, hc⟩ := hx
    cases A with
    | none => exact .ff (hk.1 (Classical.byContradiction fun h0 => by obtain ⟨b, o, e, _⟩ := hc 0 (by omega); cases e)) fun w' => by rw [binOp_neq rfl, Sem.run_bind, run_equal_slice (by assumption)]; rfl
    | some A => exact .tt hk.2 fun w' => by rw [binOp_neq rfl, Sem.run_bind, run_equal_slice (by assumption)]; rfl
  · obtain rfl := hy
    obtain ⟨_, ⟨rfl, A, rfl⟩ | ⟨b, cap, _, rfl, _⟩⟩ := hx
    · cases A with
      | none => exact .tt (hk.1 rfl) fun w' => by rw [binOp_eql rfl, Sem.run_bind, run_equal_slice (by assumption)]; rfl
      | some A => exact .ff hk.2 fun w' => by rw [binOp_eql rfl, Sem.run_bind, run_equal_slice (by assumption)]; rfl
    · exact .ff hk.2 fun w' => by rw [binOp_eql rfl, Sem.run_bind, run_equal_slice (by assumption)]; rfl
  · obtain rfl := hy
    obtain ⟨_, ⟨rfl, A, rfl⟩ | ⟨b, cap, _, rfl, _⟩⟩ := hx
    · cases A with
      | none => exact .ff (hk.1 rfl) fun w' => by rw [binOp_neq rfl, Sem.run_bind, run_equal_slice (by assumption)]; rfl
      | some A => exact .tt hk.2 fun w' => by rw [binOp_neq rfl, Sem.run_bind, run_equal_slice (by assumption)]; rfl
    · exact .tt hk.2 fun w' => by rw [binOp_neq rfl, Sem.run_bind, run_equal_slice (by assumption)]; rfl
  · obtain rfl := hx
    obtain rfl := hy
    exact .tt hk fun w' => by rw [binOp_eql rfl, Sem.run_bind, run_equal_slice (by assumption)]; rfl
  · obtain rfl := hx
    obtain rfl := hy
    exact .ff hk fun w' => by rw [binOp_neq rfl, Sem.run_bind, run_equal_slice (by assumption)]; rfl
  · obtain rfl := hx
    obtain rfl := hy
    obtain ⟨_, r, h1, h2⟩ := sure_iff.1 hk
    exact .run h2 h1
  · exact hk.elim

theorem run_equal_iface {T : TypeId} {ms} (hu : P.underlying T = some (.interface ms)) (T' : TypeId) (u : Value) (w : World) : (Op.equal T (.iface T' u) .nilIface).run P w = .ok false w := by
  show (Op.equalIn (9999 + 1) T _ _).run P w = _
  rw [Op.equalIn]
  simp only [Sem.run_bind, run_underlying hu, Result.andThen_ok]
  rfl
theorem run_equal_nil_iface {T : TypeId} {ms} (hu : P.underlying T = some (.interface ms)) (w : World) : (Op.equal T .nilIface .nilIface).run P w = .ok true w := by
  show (Op.equalIn (9999 + 1) T _ _).run P w = _
  rw [Op.equalIn]
  simp only [Sem.run_bind, run_underlying hu, Result.andThen_ok]
  rfl
theorem nilOp_spec {S : Nat → Prop} {op : BinOp} {x : AV} {vx : Value} {K : AV → Prop} {T : TypeId} {ox : Operand} (hx : den w S L x vx) (hk : nilOp P op T x K) :
    Gives P w (den w S L) (do eqGuard op T ox (.const .nilIface) vx .nilIface; binOp op T vx .nilIface) K := by
  unfold nilOp at hk
  split at hk
  · obtain ⟨T', u, rfl⟩ := hx
    exact .ff hk fun w' => by
      rw [binOp_eql rfl]
      simp [eqGuard, run_equal_iface (by assumption)]
  · obtain ⟨T', u, rfl⟩ := hx
    exact .tt hk fun w' => by
      rw [binOp_neq rfl]
      simp [eqGuard, run_equal_iface (by assumption)]
  · obtain rfl := hx
    exact .tt hk fun w' => by
      rw [binOp_eql rfl]
      simp [eqGuard, run_equal_nil_iface (by assumption)]
  · obtain rfl := hx
    exact .ff hk fun w' => by
      rw [binOp_neq rfl]
      simp [eqGuard, run_equal_nil_iface (by assumption)]
  · exact hk.elim

theorem binK_spec {S : Nat → Prop} {op : BinOp} {x y : AV} {vx vy : Value} {K : AV → Prop} {T : TypeId} (hx : den w S L x vx) (hy : den w S L y vy) (hk : binK P op T x y K) :
    Gives P w (den w S L) (binOp op T vx vy) K := by
  unfold binK at hk
  split at hk
  · obtain rfl := hx; obtain rfl := hy; exact intOp_spec hk
  · obtain rfl := hx; obtain rfl := hy; exact strOp_spec hk
  all_goals first
    | exact otherOp_spec hx hy hk
    | (split at hk
       · rename_i hu; obtain rfl := hx; obtain rfl := hy; exact boolOp_spec hu hk
       · exact hk.elim)

theorem unK_spec {S : Nat → Prop} {op : UnOp} {x : AV} {vx : Value} {K : AV → Prop} (hx : den w S L x vx) (hk : unK op x K) : Gives P w (den w S L) (Op.unary op vx) K := by
  unfold unK at hk
  split at hk
  · obtain rfl := hx; exact .ff hk fun _ => rfl
  · obtain rfl := hx; exact .tt hk fun _ => rfl
  · obtain rfl := hx; exact .raw hk rfl
  · obtain rfl := hx; exact .raw hk rfl
  · obtain rfl := hx; exact .raw hk rfl
  · exact hk.elim

theorem eqGuard_ok {op : BinOp} {T : TypeId} {x y : Operand} {vx vy : Value} (hn : vx ≠ .nilIface) (ha : ∀ c, vx ≠ .agg c) (w : World) : (eqGuard op T x y vx vy).run P w = .ok () w := by
  cases op <;> first
    | rfl
    | (cases vx <;> first | rfl | exact absurd rfl hn | exact absurd rfl (ha _))
theorem otherOp_guard {S : Nat → Prop} {op : BinOp} {x y : AV} {vx vy : Value} {K : AV → Prop} {T : TypeId} {ox oy : Operand} (hx : den w S L x vx) (hy : den w S L y vy) (hk : otherOp P op T x y K) (w' : World) :
    (eqGuard op T ox oy vx vy).run P w' = .ok () w' := by
  unfold otherOp at hk
  split at hk
  · obtain ⟨r, ⟨xs, ys, rfl, rfl⟩, h0, _⟩ := eqAggK_spec hx hy hk
    exact run_eqGuard_agg w' _ _ _ _ _ _ h0
  · obtain ⟨r, ⟨xs, ys, rfl, rfl⟩, h0, _⟩ := eqAggK_spec hx hy hk
    exact run_eqGuard_agg w' _ _ _ _ _ _ h0
  · obtain ⟨r, ⟨xs, ys, rfl, rfl⟩, h0, _⟩ := eqAggK_spec hx hy hk
    exact run_eqGuard_agg w' _ _ _ _ _ _ h0
  · obtain ⟨r, ⟨xs, ys, rfl, rfl⟩, h0, _⟩ := eqAggK_spec hx hy hk
    exact run_eqGuard_agg w' _ _ _ _ _ _ h0
  · obtain ⟨_, b, _, rfl⟩ := hx; exact eqGuard_ok (fun h => by cases h) (fun c h => by cases h) w'
  · obtain ⟨_, b, _, rfl⟩ := hx; exact eqGuard_ok (fun h => by cases h) (fun c h => by cases h) w'
  · obtain rfl := hx; exact eqGuard_ok (fun h => by cases h) (fun c h => by cases h) w'
  · obtain rfl := hx; exact eqGuard_ok (fun h => by cases h) (fun c h => by cases h) w'
  · obtain ⟨A, cap, rfl, _⟩ := hx; exact eqGuard_ok (fun h => by cases h) (fun c h => by cases h) w'
  · obtain ⟨A, cap, rfl, _⟩ := hx; exact eqGuard_ok (fun h => by cases h) (fun c h => by cases h) w'
  · obtain ⟨A, cap, rfl, _⟩ := hx; exact eqGuard_ok (fun h => by cases h) (fun c h => by cases h) w'
  · obtain ⟨A, cap, rfl, _⟩ := hx; exact eqGuard_ok (fun h => by cases h) (fun c h => by cases h) w'
  · obtain ⟨A, cap, rfl, _⟩ := hx; exact eqGuard_ok (fun h => by cases h) (fun c h => by cases h) w'
  · obtain ⟨A, cap, rfl, _⟩ := hx; exact eqGuard_ok (fun h => by cases h) (fun c h => by cases h) w'
  · obtain ⟨_, ⟨_, A, rfl⟩ | ⟨b, cap, _, rfl, _⟩⟩ := hx <;> exact eqGuard_ok (fun h => by cases h) (fun c h => by cases h) w'
  · obtain ⟨_, ⟨_, A, rfl⟩ | ⟨b, cap, _, rfl, _⟩⟩ := hx <;> exact eqGuard_ok (fun h => by cases h) (fun c h => by cases h) w'
  · obtain rfl := hx; exact eqGuard_ok (fun h => by cases h) (fun c h => by cases h) w'
  · obtain rfl := hx; exact eqGuard_ok (fun h => by cases h) (fun c h => by cases h) w'
  · obtain rfl := hx
    obtain ⟨h0, _⟩ := sure_iff.1 hk
    exact eqGuard_ok (fun h => by subst h; cases h0) (fun c h => by subst h; cases h0) w'
  · exact hk.elim
theorem binK_guard {S : Nat → Prop} {op : BinOp} {x y : AV} {vx vy : Value} {K : AV → Prop} {T : TypeId} {ox oy : Operand} (hx : den w S L x vx) (hy : den w S L y vy) (hk : binK P op T x y K) (w' : World) :
    (eqGuard op T ox oy vx vy).run P w' = .ok () w' := by
  unfold binK at hk
  split at hk
  all_goals first
    | exact otherOp_guard hx hy hk w'
    | (obtain rfl := hx; exact eqGuard_ok (fun h => by (first | cases h | simp at h)) (fun c h => by (first | cases h | simp at h)) w')

end
end Go.Proofs.YtflclafbieokiaaGreatDoor.AL

namespace Go.Proofs.YtflclafbieokiaaGreatDoor.AL
open Go
variable [Globs]

section
variable {P : Program} {C : Ctx} {t : List AV} {h : List AO} {L : Loc} {a : Act} {w : World}

theorem run_loadCellsFrom (A : Addr) (hA : A.spot = none) : ∀ (n i : Nat) (acc : Array Value) (us : List Value) (w : World), us.length = n →
    (∀ j, j < n → w.cell? ⟨A.block, A.off + i + j, none⟩ = us[j]?) → (loadCellsFrom A i n acc).run P w = .ok (acc ++ us.toArray) w
  | 0, i, acc, us, w, hn, hc => by
    have : us = [] := List.length_eq_zero_iff.1 hn
    subst this
    simp [loadCellsFrom]
  | n + 1, i, acc, us, w, hn, hc => by
    obtain ⟨u, us, rfl⟩ : ∃ u r, us = u :: r := by
      cases us with
      | nil => simp at hn
      | cons u r => exact ⟨u, r, rfl⟩
    have h0 : w.cell? (A.add i) = some u := by
      have := hc 0 (by omega)
      unfold Addr.add
      split
      · rename_i e; subst e; obtain ⟨b, o, sp⟩ := A; simp at hA; subst hA; simpa using this
      · simpa using this
    unfold loadCellsFrom
    simp only [Sem.run_bind, run_load, h0, Result.andThen_ok]
    rw [run_loadCellsFrom A hA n (i + 1) (acc.push u) us w (by simpa using hn) (fun j hj => by
      have := hc (j + 1) (by omega)
      simpa [Nat.add_assoc, Nat.add_comm 1] using this)]
    simp
theorem run_loadCells (A : Addr) (hA : A.spot = none) {us : List Value} {w : World} {n : Nat} (hn : us.length = n)
    (hc : ∀ j, j < n → w.cell? ⟨A.block, A.off + j, none⟩ = us[j]?) : (loadCells A n).run P w = .ok us.toArray w := by
  unfold loadCells
  rw [run_loadCellsFrom A hA n 0 #[] us w hn (by simpa using hc)]
  simp

theorem choose_cells {n : Nat} {p : Nat → Value → Prop} {c : Nat → Option Value} (h : ∀ i, i < n → ∃ u, c i = some u ∧ p i u) :
    ∃ us : List Value, us.length = n ∧ ∀ i, i < n → ∃ u, c i = some u ∧ us[i]? = some u ∧ p i u := by
  induction n with
  | zero => exact ⟨[], rfl, fun i hi => by omega⟩
  | succ n ih =>
    obtain ⟨us, h1, h2⟩ := ih fun i hi => h i (by omega)
    obtain ⟨u, h3, h4⟩ := h n (by omega)
    refine ⟨us ++ [u], by simp [h1], fun i hi => ?_⟩
    rcases Nat.lt_or_ge i n with hi' | hi'
    · obtain ⟨x, h5, h6, h7⟩ := h2 i hi'
      exact ⟨x, h5, by rw [List.getElem?_append_left (by omega)]; exact h6, h7⟩
    · have : i = n := by omega
      subst this
      exact ⟨u, h3, by rw [List.getElem?_append_right (by omega)]; simp [h1], h4⟩

theorem loadVar_agg {T : TypeId} {s : Nat} {A : Addr} (hA : A.spot = none) (hag : aggB P T = some true) (hs : ∀ w, (sizeOf T).run P w = .ok s w) {us : List Value} {w : World} (hn : us.length = s)
    (hc : ∀ j, j < s → w.cell? ⟨A.block, A.off + j, none⟩ = us[j]?) : (loadVar T A).run P w = .ok (.agg us.toArray) w := by
  unfold loadVar
  simp only [Sem.run_bind, run_isAgg hag, Result.andThen_ok, if_true, hs, run_loadCells A hA hn hc]
  rfl
theorem loadVar_one {T : TypeId} {A : Addr} (hag : aggB P T = some false) {u : Value} {w : World}
    (hc : w.cell? A = some u) : (loadVar T A).run P w = .ok u w := by
  unfold loadVar
  simp [Sem.run_bind, run_isAgg hag, Result.andThen_ok, hc]

theorem Rel.obj (hr : HRel C h L w) {id : Nat} {o : AO} (ho : h[id]? = some o) : objIs w (SS C w h L) L (L.b id) (L.sz id) o := hr.objs id o ho

theorem loadK_spec (hr : HRel C h L w) {T : TypeId} {x : AV} {vx : Value} {K : AV → Prop} (hx : den w (SS C w h L) L x vx)
    (hk : loadK P T h x K) : Gives P w (den w (SS C w h L) L) (Instr.loadAt T vx) K := by
  unfold loadK at hk
  split at hk
  · -- rp
    rename_i n f
    obtain ⟨A, rfl, hc⟩ := hx
    split at hk
    · rename_i hag
      obtain ⟨s, hs, _, hk⟩ := sizeK_spec hk
      obtain ⟨hle, hk⟩ := sure_iff.1 hk
      obtain ⟨us, h1, h2⟩ := choose_cells (n := s) (c := fun i => w.cell? ⟨A.block, A.off + i, none⟩) (p := fun i u => rcell w (SS C w h L) (some A) i u ∧ den w (SS C w h L) L (f i) u) (by
        intro i hi
        obtain ⟨u, ⟨b, o, e, hb, hcell⟩, hd⟩ := hc i (by omega)
        cases e
        exact ⟨u, hcell, ⟨b, o, rfl, hb, hcell⟩, den_zero L hd⟩)
      have hsp : A.spot = none ∨ s = 0 := by
        rcases Nat.eq_zero_or_pos s with h0 | h0
        · exact .inr h0
        · obtain ⟨u, ⟨b, o, e, hb, hcell⟩, hd⟩ := hc 0 (by omega)
          cases e; exact .inl rfl
      refine ⟨.agg us.toArray, .agg s f, fun w' hw => ?_, ⟨us.toArray, rfl, by simp [h1], fun i hi => ?_⟩, hk⟩
      · rcases hsp with hsp | hsp
        · show (loadVar T A).run P w' = _
          exact loadVar_agg hsp hag hs h1 fun j hj => by
            obtain ⟨u, h3, h4, _⟩ := h2 j hj
            rw [hw.cell h3, h4]
        · subst hsp
          have : us = [] := List.length_eq_zero_iff.1 h1
          subst this
          show (loadVar T A).run P w' = _
          unfold loadVar
          simp only [Sem.run_bind, run_isAgg hag, Result.andThen_ok, if_true, hs, loadCells, loadCellsFrom]
          rfl
      · obtain ⟨u, h3, h4, _, h5⟩ := h2 i hi
        exact ⟨u, by simpa using h4, h5⟩
    · rename_i hag
      obtain ⟨h0, hk⟩ := sure_iff.1 hk
      obtain ⟨u, ⟨b, o, e, hb, hcell⟩, hd⟩ := hc 0 h0
      cases e
      exact ⟨u, _, fun w' hw => loadVar_one hag (hw.cell (by simpa using hcell)), den_zero L hd, hk⟩
    · exact hk.elim
  · -- ptr
    rename_i id off
    obtain ⟨hid, b, hb, rfl⟩ := hx
    obtain ⟨o, ho, hk⟩ := getO_iff.1 hk
    have hob := hr.objs id o ho
    have get : ∀ {n : Nat} {p : Nat → Value → Prop}, cellsAre w (L.b id) (L.sz id) n p → ∀ i, i < n → ∃ u, w.cell? ⟨b, i, none⟩ = some u ∧ p i u := fun hc i hi => own_cell hc hb hi
    have many : ∀ {n s : Nat} {p : Nat → Value → Prop} (f : Nat → AV), cellsAre w (L.b id) (L.sz id) n p → off + s ≤ n → (∀ w, (sizeOf T).run P w = .ok s w) → aggB P T = some true →
        (∀ i u, i < s → p (off + i) u → den w (SS C w h L) L (f i) u) → ∃ us : List Value, us.length = s ∧
        (∀ w', Ext w w' → (loadVar T ⟨b, off, none⟩).run P w' = .ok (.agg us.toArray) w') ∧ ∀ i, i < s → ∃ u, us.toArray[i]? = some u ∧ p (off + i) u ∧ den w (SS C w h L) L (f i) u := by
      intro n s p f hc hle hs hag hp
      obtain ⟨us, h1, h2⟩ := choose_cells (n := s) (c := fun i => w.cell? ⟨b, off + i, none⟩) (p := fun i u => p (off + i) u ∧ den w (SS C w h L) L (f i) u) (by
        intro i hi
        obtain ⟨u, h3, h4⟩ := get hc (off + i) (by omega)
        exact ⟨u, h3, h4, hp i u hi h4⟩)
      refine ⟨us, h1, fun w' hw => loadVar_agg rfl hag hs h1 fun j hj => ?_, fun i hi => ?_⟩
      · obtain ⟨u, h3, h4, _⟩ := h2 j hj
        rw [hw.cell h3, h4]
      · obtain ⟨u, h3, h4, h5, h6⟩ := h2 i hi
        exact ⟨u, by simpa using h4, h5, h6⟩
    split at hk
    · -- lst
      split at hk
      · rename_i hag
        obtain ⟨s, hs, _, hk⟩ := sizeK_spec hk
        obtain ⟨hle, hk⟩ := sure_iff.1 hk
        obtain ⟨us, h1, h2, h3⟩ := many _ hob hle hs hag (fun i u _ hp => hp)
        exact ⟨_, .agg s _, h2, ⟨_, rfl, by simp [h1], fun i hi => let ⟨u, h4, _, h5⟩ := h3 i hi; ⟨u, h4, h5⟩⟩, hk⟩
      · rename_i hag
        obtain ⟨hle, hk⟩ := sure_iff.1 hk
        have hk := getK_iff.1 hk
        obtain ⟨u, h1, h2⟩ := get hob off hle
        exact ⟨u, _, fun w' hw => loadVar_one hag (hw.cell h1), h2, hk⟩
      · exact hk.elim
    · -- ints
      split at hk
      · rename_i k xs _ hag
        obtain ⟨s, hs, _, hk⟩ := sizeK_spec hk
        obtain ⟨hle, hk⟩ := hk
        obtain ⟨us, h1, h2, h3⟩ := many (fun _ => .top) hob hle hs hag (fun i u _ hp => trivial)
        refine ⟨_, _, h2, ?_, hk⟩
        show Value.agg us.toArray = _
        congr 2
        apply List.ext_getElem?
        intro i
        rcases Nat.lt_or_ge i s with hi | hi
        · obtain ⟨u, h4, h5, _⟩ := h3 i hi
          have h4' : us[i]? = some u := by simpa using h4
          rw [h4', h5, List.getElem?_map, List.getElem?_take_of_lt hi, List.getElem?_drop, List.getD_eq_getElem?_getD, List.getElem?_eq_getElem (by omega)]
          rfl
        · rw [List.getElem?_eq_none (by omega), List.getElem?_eq_none (by simp; omega)]
      · rename_i hag
        obtain ⟨hle, hk⟩ := hk
        obtain ⟨u, h1, rfl⟩ := get hob off hle
        exact ⟨_, .raw _, fun w' hw => loadVar_one hag (hw.cell h1), rfl, hk⟩
      · exact hk.elim
    · -- row
      split at hk
      · rename_i hag
        obtain ⟨s, hs, _, hk⟩ := sizeK_spec hk
        obtain ⟨hle, hk⟩ := hk
        obtain ⟨us, h1, h2, h3⟩ := many _ hob hle hs hag (fun i u _ hp => hp)
        exact ⟨_, .agg s _, h2, ⟨_, rfl, by simp [h1], fun i hi => let ⟨u, h4, _, h5⟩ := h3 i hi; ⟨u, h4, h5⟩⟩, hk⟩
      · rename_i hag
        obtain ⟨hle, hk⟩ := hk
        obtain ⟨u, h1, h2⟩ := get hob off hle
        exact ⟨u, _, fun w' hw => loadVar_one hag (hw.cell h1), h2, hk⟩
      · exact hk.elim
    · exact hk.elim
  · -- bx
    rename_i id
    obtain ⟨hid, A, b, rfl, hb, b', o, e, hS, hcell⟩ := hx
    cases e
    split at hk
    · rename_i hag
      exact ⟨_, .ptr id 0, fun w' hw => loadVar_one hag (hw.cell hcell), ⟨hid, b, hb, rfl⟩, hk⟩
    · exact hk.elim
  · exact hk.elim

end
end Go.Proofs.YtflclafbieokiaaGreatDoor.AL

namespace Go.Proofs.YtflclafbieokiaaGreatDoor.AL
open Go
variable [Globs]

section
variable {P : Program} {C : Ctx} {t : List AV} {h : List AO} {L : Loc} {a : Act} {w : World}

theorem extractK_spec {S : Nat → Prop} {x : AV} {vx : Value} {j : Nat} {K : AV → Prop} (hx : den w S L x vx) (hk : extractK x j K) : Gives P w (den w S L) (Instr.extract vx j) K := by
  unfold extractK at hk
  split at hk
  · obtain ⟨vs, rfl, hn, hc⟩ := hx
    obtain ⟨hj, hk⟩ := sure_iff.1 hk
    obtain ⟨u, h1, h2⟩ := hc j hj
    exact ⟨u, _, fun w' _ => by simp [Instr.extract, h1], h2, hk⟩
  · exact hk.elim

theorem run_part_one {T : TypeId} (hag : aggB P T = some false) {cs : Array Value} {off : Nat} {u : Value} (hc : cs[off]? = some u) (w : World) : (part T cs off).run P w = .ok u w := by
  unfold part
  simp [Sem.run_bind, run_isAgg hag, hc]
theorem run_part_agg {T : TypeId} {s : Nat} (hag : aggB P T = some true) (hs : ∀ w, (sizeOf T).run P w = .ok s w) (cs : Array Value) (off : Nat) (w : World) :
    (part T cs off).run P w = .ok (.agg (cs.extract off (off + s))) w := by
  unfold part
  simp [Sem.run_bind, run_isAgg hag, hs]

theorem partK_spec {S : Nat → Prop} {T : TypeId} {x : AV} {cs : Array Value} {off : Nat} {K : AV → Prop} (hx : den w S L x (.agg cs)) (hk : partK P T x off K) :
    Gives P w (den w S L) (part T cs off) K := by
  unfold partK at hk
  split at hk
  · obtain ⟨vs, e, hn, hc⟩ := hx
    cases e
    split at hk
    · rename_i hag
      obtain ⟨s, hs, _, hk⟩ := sizeK_spec hk
      obtain ⟨hle, hk⟩ := sure_iff.1 hk
      refine .of hk ⟨_, rfl, by simp; omega, fun i hi => ?_⟩ fun w' _ => run_part_agg hag hs cs off w'
      obtain ⟨u, h1, h2⟩ := hc (off + i) (by omega)
      exact ⟨u, by rw [Array.getElem?_extract]; rw [if_pos (by omega)]; exact h1, h2⟩
    · rename_i hag
      obtain ⟨hle, hk⟩ := sure_iff.1 hk
      obtain ⟨u, h1, h2⟩ := hc off hle
      exact ⟨u, _, fun w' _ => run_part_one hag h1 w', h2, hk⟩
    · exact hk.elim
  · exact hk.elim

theorem fieldK_spec {S : Nat → Prop} {T : TypeId} {x : AV} {vx : Value} {j : Nat} {K : AV → Prop} (hx : den w S L x vx) (hk : fieldK P T x j K) :
    Gives P w (den w S L) (Instr.field T vx j) K := by
  unfold fieldK at hk
  split at hk
  · rename_i fs hu
    split at hk
    · rename_i f hf
      have hv : ∃ cs, vx = .agg cs := by
        unfold partK at hk
        split at hk
        · obtain ⟨vs, e, _⟩ := hx; exact ⟨vs, e⟩
        · exact hk.elim
      obtain ⟨cs, rfl⟩ := hv
      obtain ⟨v, y, h1, h2, h3⟩ := partK_spec hx hk
      have hf' : fs[j]? = some f := by simpa using hf
      exact ⟨v, y, fun w' hw => by simp [Instr.field, Sem.run_bind, run_underlying hu, hf', asAgg, h1 w' hw], h2, h3⟩
    · exact hk.elim
  · exact hk.elim

theorem Addr.add_mk (b o n : Nat) : Addr.add ⟨b, o, none⟩ n = ⟨b, o + n, none⟩ := by
  unfold Addr.add
  split
  · rename_i e; subst e; rfl
  · rfl

theorem fieldAddrK_spec {T : TypeId} {x : AV} {vx : Value} {j : Nat} {K : AV → Prop} (hx : den w (SS C w h L) L x vx) (hk : fieldAddrK P T x j K) :
    Gives P w (den w (SS C w h L) L) (Instr.fieldAt T vx j) K := by
  unfold fieldAddrK at hk
  split at hk
  · rename_i fs hu
    split at hk
    · rename_i f hf
      have hf' : fs[j]? = some f := by simpa using hf
      obtain ⟨s, hs, _, hk⟩ := sizeK_spec hk
      obtain ⟨h0, hk⟩ := sure_iff.1 hk
      have run : ∀ (A : Addr) (w' : World), (Instr.fieldAt T (.pointer (some A)) j).run P w' = .ok (.pointer (some (A.add f.offset))) w' := by
        intro A w'
        have : ¬ s = 0 := by omega
        simp [Instr.fieldAt, Sem.run_bind, run_underlying hu, hf', Instr.sureAddr, fieldPlace, hs, this]
      split at hk
      · rename_i id off
        obtain ⟨hid, b, hb, rfl⟩ := hx
        exact .of hk ⟨hid, b, hb, by rw [Addr.add_mk]⟩ fun w' _ => run _ w'
      · rename_i n g
        obtain ⟨A, rfl, hc⟩ := hx
        obtain ⟨hle, hk⟩ := sure_iff.1 hk
        refine .of hk ⟨_, rfl, fun i hi => ?_⟩ fun w' _ => run _ w'
        obtain ⟨u, ⟨b, o, e, hb, hcell⟩, hd⟩ := hc (f.offset + i) (by omega)
        cases e
        exact ⟨u, ⟨b, o + f.offset, by rw [Addr.add_mk], hb, by simpa [Nat.add_assoc] using hcell⟩, hd⟩
      · exact hk.elim
    · exact hk.elim
  · exact hk.elim

theorem rcell_add {S : Nat → Prop} {A : Addr} {i n : Nat} {u : Value} (h : rcell w S (some A) (n + i) u) : rcell w S (some (A.add n)) i u := by
  obtain ⟨b, o, e, hb, hc⟩ := h
  cases e
  exact ⟨b, o + n, by rw [Addr.add_mk], hb, by simpa [Nat.add_assoc] using hc⟩

theorem run_indexAt_slice {T e : TypeId} {s : Nat} (hu : P.underlying T = some (.slice e)) (hs : ∀ w, (sizeOf e).run P w = .ok s w) {A : Addr} {n cap : Nat} {k : IntKind} {j : Int}
    (h0 : 0 ≤ j) (h1 : j < (n : Int)) (w : World) : (Instr.indexAt T (.slice (some A) n cap) (.int k j)).run P w = .ok (.pointer (some (A.add (j.toNat * s)))) w := by
  have h2 : 0 ≤ j ∧ j < (n : Int) := ⟨h0, h1⟩
  simp [Instr.indexAt, Sem.run_bind, asIntOf, run_underlying hu, h2, hs]
theorem run_indexAt_array {T e : TypeId} {s n : Nat} (hu : P.underlying T = some (.array n e)) (hs : ∀ w, (sizeOf e).run P w = .ok s w) {A : Addr} {k : IntKind} {j : Int}
    (h0 : 0 ≤ j) (h1 : j < (n : Int)) (w : World) : (Instr.indexAt T (.pointer (some A)) (.int k j)).run P w = .ok (.pointer (some (A.add (j.toNat * s)))) w := by
  have h2 : 0 ≤ j ∧ j < (n : Int) := ⟨h0, h1⟩
  simp [Instr.indexAt, Sem.run_bind, asIntOf, run_underlying hu, h2, hs, Instr.sureAddr]

theorem arrPK_spec {T : TypeId} {x : AV} {vx : Value} {K : AV → Prop} (hx : den w (SS C w h L) L x vx) (hk : arrPK P T x K) :
    Gives P w (den w (SS C w h L) L) (Instr.arrayAt T vx) K := by
  unfold arrPK at hk
  split at hk
  · rename_i n e k xs hu
    obtain ⟨A, cap, rfl, hcap, hc⟩ := hx
    obtain ⟨hpos, hn, hk⟩ := sure_iff.1 hk
    obtain ⟨b, o, e', hb, hcell⟩ := hc 0 (by omega)
    subst e'
    refine .of hk ⟨_, rfl, fun i hi => ⟨_, hc i (by omega), rfl⟩⟩ fun w' _ => ?_
    have h2 : ¬ xs.length < n := by omega
    simp [Instr.arrayAt, Sem.run_bind, run_underlying hu, h2]
  · exact hk.elim

theorem idxAddrK_spec {T : TypeId} {x i : AV} {vx vi : Value} {K : AV → Prop} (hx : den w (SS C w h L) L x vx) (hi : den w (SS C w h L) L i vi) (hk : idxAddrK P T x i K) :
    Gives P w (den w (SS C w h L) L) (Instr.indexAt T vx vi) K := by
  unfold idxAddrK at hk
  split at hk
  · rename_i ki j
    obtain rfl := hi
    split at hk
    · -- roI
      rename_i e k xs hu
      obtain ⟨A, cap, rfl, hcap, hc⟩ := hx
      obtain ⟨s, hs, _, hk⟩ := sizeK_spec hk
      obtain ⟨rfl, hk⟩ := sure_iff.1 hk
      obtain ⟨⟨h0, h1⟩, hk⟩ := hk
      obtain ⟨b, o, e', hb, hcell⟩ := hc j.toNat (by omega)
      subst e'
      refine .of hk ⟨_, rfl, fun i hi => ?_⟩ fun w' _ => run_indexAt_slice hu hs h0 h1 w'
      obtain rfl : i = 0 := by omega
      exact ⟨_, ⟨b, o + j.toNat, by rw [Addr.add_mk, Nat.mul_one], hb, by simpa using hcell⟩, rfl⟩
    · -- ro
      rename_i e n sz f hu
      obtain ⟨A, cap, rfl, hcap, hc⟩ := hx
      obtain ⟨s, hs, _, hk⟩ := sizeK_spec hk
      obtain ⟨⟨rfl, hpos⟩, hk⟩ := sure_iff.1 hk
      obtain ⟨⟨h0, h1⟩, hk⟩ := hk
      have hlt : j.toNat * s + s ≤ n * s := by
        have : (j.toNat + 1) * s ≤ n * s := Nat.mul_le_mul_right _ (by omega)
        rw [Nat.add_mul] at this; omega
      obtain ⟨u0, ⟨b, o, e', hb, hcell⟩, _⟩ := hc (j.toNat * s) (by omega)
      subst e'
      refine .of hk ⟨_, rfl, fun i hi => ?_⟩ fun w' _ => run_indexAt_slice hu hs h0 h1 w'
      obtain ⟨u, h3, h4⟩ := hc (j.toNat * s + i) (by omega)
      exact ⟨u, rcell_add h3, h4⟩
    · -- ro, told
      rename_i e n sz f hu
      obtain ⟨A, cap, rfl, hcap, hc⟩ := hx
      obtain ⟨s, hs, _, hk⟩ := sizeK_spec hk
      obtain ⟨⟨rfl, hpos⟩, hk⟩ := sure_iff.1 hk
      obtain ⟨⟨h0, h1⟩, g, hg, hk⟩ := hk
      have hlt : j.toNat * s + s ≤ n * s := by
        have : (j.toNat + 1) * s ≤ n * s := Nat.mul_le_mul_right _ (by omega)
        rw [Nat.add_mul] at this; omega
      obtain ⟨u0, ⟨b, o, e', hb, hcell⟩, _⟩ := hc (j.toNat * s) (by omega)
      subst e'
      refine .of hk ⟨_, rfl, fun i hi => ?_⟩ fun w' _ => run_indexAt_slice hu hs h0 h1 w'
      obtain ⟨u, h3, h4⟩ := hc (j.toNat * s + i) (by omega)
      exact ⟨u, rcell_add h3, by rw [← hg i hi]; exact h4⟩
    · -- own
      rename_i e id off len sz hu
      obtain ⟨s, hs, _, hk⟩ := sizeK_spec hk
      obtain ⟨rfl, hk⟩ := sure_iff.1 hk
      obtain ⟨⟨h0, h1⟩, hk⟩ := hk
      obtain ⟨hid, hx⟩ := hx
      rcases hx with ⟨rfl, _, rfl⟩ | ⟨b, cap, hb, rfl, hcap, hsz⟩
      · omega
      · exact .of hk ⟨hid, b, hb, by rw [Addr.add_mk]; rfl⟩ fun w' _ => run_indexAt_slice hu hs h0 h1 w'
    · -- an array's address
      rename_i n e id off hu
      obtain ⟨s, hs, _, hk⟩ := sizeK_spec hk
      obtain ⟨⟨h0, h1⟩, hk⟩ := hk
      obtain ⟨hid, b, hb, rfl⟩ := hx
      exact .of hk ⟨hid, b, hb, by rw [Addr.add_mk]; rfl⟩ fun w' _ => run_indexAt_array hu hs h0 h1 w'
    · -- the address of an array that is read only
      rename_i n e m g hu
      obtain ⟨s, hs, _, hk⟩ := sizeK_spec hk
      obtain ⟨⟨h0, h1, h2⟩, hk⟩ := hk
      obtain ⟨A, rfl, hc⟩ := hx
      refine .of hk ⟨_, rfl, fun i hi => ?_⟩ fun w' _ => run_indexAt_array hu hs h0 h1 w'
      obtain ⟨u, h3, h4⟩ := hc (j.toNat * s + i) (by omega)
      exact ⟨u, rcell_add h3, h4⟩
    · exact hk.elim
  · exact hk.elim

theorem intsOf_get {s : ByteArray} {i : Nat} (h : i < s.size) : ∃ b, s[i]? = some b ∧ (intsOf s).getD i 0 = (b.toNat : Int) := by
  have hb : i < s.data.size := h
  refine ⟨s[i], getElem?_pos s i h, ?_⟩
  unfold intsOf
  rw [List.getD_eq_getElem?_getD, List.getElem?_map]
  have : s.data.toList[i]? = some s[i] := by
    rw [Array.getElem?_toList, Array.getElem?_eq_getElem hb]; rfl
  rw [this]; rfl
theorem intsOf_length (s : ByteArray) : (intsOf s).length = s.size := by
  unfold intsOf; rw [List.length_map, Array.length_toList]; rfl

theorem idxK_spec {S : Nat → Prop} {T : TypeId} {x i : AV} {vx vi : Value} {K : AV → Prop} (hx : den w S L x vx) (hi : den w S L i vi) (hk : idxK P T x i K) :
    Gives P w (den w S L) (Instr.index T vx vi) K := by
  unfold idxK at hk
  split at hk
  · rename_i ki j
    obtain rfl := hi
    split at hk
    · rename_i s hu
      obtain rfl := hx
      obtain ⟨⟨h0, h1⟩, hk⟩ := hk
      obtain ⟨b, hb, e⟩ := intsOf_get (s := s) (i := j.toNat) (by omega)
      rw [e] at hk
      refine .run hk fun w' => ?_
      simp [Instr.index, Sem.run_bind, asIntOf, run_underlying hu, h0, hb]
    · rename_i n e k xs hu
      obtain rfl := hx
      split at hk
      · exact hk.elim
      · rename_i hag
        obtain ⟨s, hs, _, hk⟩ := sizeK_spec hk
        obtain ⟨rfl, hk⟩ := sure_iff.1 hk
        obtain ⟨⟨h0, h1⟩, hn, hk⟩ := hk
        have h2 : 0 ≤ j ∧ j < (n : Int) := ⟨h0, h1⟩
        have hc : (xs.map (Value.int k)).toArray[j.toNat]? = some (.int k (xs.getD j.toNat 0)) := by
          have hj : j.toNat < xs.length := by omega
          simp [hj]
        refine .run hk fun w' => ?_
        simp [Instr.index, Sem.run_bind, asIntOf, run_underlying hu, h2, hs, run_part_one hag hc]
      · exact hk.elim
    · exact hk.elim
  · exact hk.elim

theorem lenOfK_spec {S : Nat → Prop} {T : TypeId} {x : AV} {vx : Value} {K : AV → Prop} (hx : den w S L x vx) (hk : lenOfK P T x K) {ty : TypeId} :
    Gives P w (den w S L) (Builtin.len_ #[T] ty #[vx]) K := by
  unfold lenOfK at hk
  split at hk
  · rename_i hu; obtain rfl := hx; exact .run hk fun w' => by simp [Builtin.len_, Sem.run_bind, run_underlying hu, goInt]
  · rename_i hu; exact .run hk fun w' => by simp [Builtin.len_, Sem.run_bind, run_underlying hu, goInt]
  · rename_i hu; obtain ⟨A, cap, rfl, _⟩ := hx; exact .run hk fun w' => by simp [Builtin.len_, Sem.run_bind, run_underlying hu, goInt]
  · rename_i hu; obtain ⟨A, cap, rfl, _⟩ := hx; exact .run hk fun w' => by simp [Builtin.len_, Sem.run_bind, run_underlying hu, goInt]
  · rename_i hu; obtain ⟨A, cap, rfl, _⟩ := hx; exact .run hk fun w' => by simp [Builtin.len_, Sem.run_bind, run_underlying hu, goInt]
  · rename_i hu
    obtain ⟨_, ⟨rfl, _, rfl⟩ | ⟨b, cap, _, rfl, _⟩⟩ := hx
    · exact .run hk fun w' => by simp [Builtin.len_, Sem.run_bind, run_underlying hu, goInt]
    · exact .run hk fun w' => by simp [Builtin.len_, Sem.run_bind, run_underlying hu, goInt]
  · rename_i hu; obtain rfl := hx; exact .run hk fun w' => by simp [Builtin.len_, Sem.run_bind, run_underlying hu, goInt]
  · exact hk.elim

end
end Go.Proofs.YtflclafbieokiaaGreatDoor.AL

namespace Go.Proofs.YtflclafbieokiaaGreatDoor.AL
open Go
variable [Globs]

section
variable {P : Program} {C : Ctx} {t : List AV} {h : List AO} {L : Loc} {a : Act} {w : World}

theorem bq (x y : ByteArray) : (x == y) = true ↔ x = y := MapKept.bytes_beq x y
theorem find_map {s : ByteArray} : ∀ {es : List MapEntry} {l : List (ByteArray × AV)} (i : Nat), es.length = l.length → (∀ j, j < l.length → ∃ e, es[j]? = some e ∧ e.key = .string (l.getD j mz).1) →
    (∃ j e, j < l.length ∧ es[j]? = some e ∧ e.key = .string s ∧ Instr.findNow .string (.string s) es i = some (some (i + j, e.val)) ∧ getM s l = some (l.getD j mz).2 ∧ (∀ v, setM s v l = l.set j ((l.getD j mz).1, v)) ∧ delM s l = l.eraseIdx j) ∨
      (Instr.findNow .string (.string s) es i = some none ∧ getM s l = none ∧ (∀ v, setM s v l = l ++ [(s, v)]) ∧ delM s l = l ∧ ∀ e ∈ es, e.key ≠ .string s)
  | [], [], i, _, _ => .inr ⟨rfl, rfl, fun _ => rfl, rfl, fun e he => by cases he⟩
  | [], _ :: _, i, hl, _ => by simp at hl
  | _ :: _, [], i, hl, _ => by simp at hl
  | e :: es, p :: l, i, hl, hk => by
    obtain ⟨e', h1, h2⟩ := hk 0 (by simp)
    cases h1
    have h2 : e.key = .string p.1 := h2
    by_cases hp : p.1 = s
    · left
      refine ⟨0, e, by simp, rfl, by rw [h2, hp], ?_, ?_, fun v => ?_, ?_⟩
      · have hss : (s == s) = true := (bq s s).2 rfl
        simp only [Instr.findNow, Instr.sameNow, h2, hp, hss]
        rfl
      · unfold getM; rw [if_pos hp]; rfl
      · unfold setM; rw [if_pos hp]; rfl
      · unfold delM; rw [if_pos hp]; rfl
    · have hb : (s == p.1) = false := by
        rw [Bool.eq_false_iff]
        intro hb
        exact hp ((bq _ _).1 hb).symm
      rcases find_map (s := s) (es := es) (l := l) (i + 1) (by simpa using hl) (fun j hj => by
        obtain ⟨e', g1, g2⟩ := hk (j + 1) (by simpa using hj)
        exact ⟨e', by simpa using g1, by simpa using g2⟩) with ⟨j, x, q0, q1, q2, q3, q4, q5, q6⟩ | ⟨q1, q2, q3, q4, q5⟩
      · left
        refine ⟨j + 1, x, by simpa using q0, by simpa using q1, q2, ?_, ?_, fun v => ?_, ?_⟩
        · simp only [Instr.findNow, Instr.sameNow, h2, hb]
          rw [q3, Nat.add_assoc, Nat.add_comm 1 j]
        · unfold getM; rw [if_neg hp, q4]; simp
        · unfold setM; rw [if_neg hp, q5 v]; simp
        · unfold delM; rw [if_neg hp, q6]; simp
      · right
        refine ⟨?_, ?_, fun v => ?_, ?_, fun x hx => ?_⟩
        · simp only [Instr.findNow, Instr.sameNow, h2, hb]
          exact q1
        · unfold getM; rw [if_neg hp, q2]
        · unfold setM; rw [if_neg hp, q3 v]; rfl
        · unfold delM; rw [if_neg hp, q4]
        · rcases List.mem_cons.1 hx with rfl | hx
          · rw [h2]; intro e; injection e with e; exact hp e
          · exact q5 x hx

theorem key_is (s : ByteArray) : MapKept.IsKey .string (.string s) := trivial
theorem map_keys {es : Array MapEntry} {l : List (ByteArray × AV)} {q : AV → Value → Prop} (hn : es.size = l.length) (hc : ∀ i, i < l.length → ∃ e, es[i]? = some e ∧ e.key = .string (l.getD i mz).1 ∧ q (l.getD i mz).2 e.val) :
    es.toList.length = l.length ∧ (∀ j, j < l.length → ∃ e, es.toList[j]? = some e ∧ e.key = .string (l.getD j mz).1) ∧ ∀ x ∈ es.toList, MapKept.IsKey .string x.key := by
  refine ⟨by simpa using hn, fun j hj => ?_, fun x hx => ?_⟩
  · obtain ⟨e, h1, h2, _⟩ := hc j hj
    exact ⟨e, by simpa using h1, h2⟩
  · obtain ⟨i, hi, rfl⟩ := List.mem_iff_getElem.1 hx
    have hi' : i < es.size := by simpa using hi
    obtain ⟨e, h1, h2, _⟩ := hc i (by omega)
    rw [Array.getElem?_eq_getElem hi'] at h1
    have h1 := Option.some.inj h1
    rw [Array.getElem_toList, h1, h2]
    trivial

theorem den_okV {w : World} {S : Nat → Prop} {ok : Bool} {x : AV} {v : Value} {c : Bool} (hx : den w S L x v) : den w S L (okV ok x (if c then .tt else .ff)) (if ok then .tuple #[v, .bool c] else v) := by
  cases ok
  · exact hx
  · refine ⟨_, rfl, rfl, fun i hi => ?_⟩
    match i, hi with
    | 0, _ => exact ⟨_, rfl, hx⟩
    | 1, _ => refine ⟨_, rfl, ?_⟩; cases c <;> exact rfl

theorem lookK_spec (hr : HRel C h L w) {T : TypeId} {x y : AV} {vx vy : Value} {ok : Bool} {K : AV → Prop} (hx : den w (SS C w h L) L x vx) (hy : den w (SS C w h L) L y vy) (hk : lookK P T h x y ok K) :
    Gives P w (den w (SS C w h L) L) (Instr.lookup T vx vy ok) K := by
  unfold lookK at hk
  split at hk
  · rename_i kt et hT
    split at hk
    · rename_i hK
      split at hk
      · rename_i inf hi
        split at hk
        · rename_i z hz
          have zero : ∀ w', (zeroValue et).run P w' = .ok z w' := fun w' => by simp [zeroValue, typeInfo, hi, hz]
          split at hk
          · rename_i id s
            obtain rfl := hy
            obtain ⟨hid, b, hb, rfl⟩ := hx
            obtain ⟨o, ho, hk⟩ := getO_iff.1 hk
            have hob := hr.objs id o ho
            split at hk
            · rename_i l
              obtain ⟨b', es, clock, e, hes, hst, hn, hc⟩ := hob
              rw [hb] at e
              cases e
              obtain ⟨m1, m2, m3⟩ := map_keys hn hc
              have hes' : ∀ w', Ext w w' → w'.heap[b]? = some (.map es clock) := fun w' hw => (hw.2 b (Array.getElem?_eq_some_iff.1 hes).1).trans hes
              rcases find_map (s := s) 0 m1 m2 with ⟨j, e, q0, q1, q2, q3, q4, _, _⟩ | ⟨q1, q2, _, _, _⟩
              · obtain ⟨e', g1, g2, g3⟩ := hc j q0
                have : e' = e := by
                  have g1 : es.toList[j]? = some e' := by simpa using g1
                  rw [q1] at g1
                  exact (Option.some.inj g1).symm
                subst this
                refine Gives.of (hk.1 _ q4) (v := if ok then .tuple #[e'.val, .bool true] else e'.val) (den_okV (c := true) g3) fun w' hw => ?_
                simp [Instr.lookup, run_underlying hT, MapKept.run_getObj_map (hes' w' hw), MapKept.run_checkKey hK (key_is s), MapKept.run_findKey hK q3, Result.andThen]
              · refine Gives.of (hk.2 q2) (v := if ok then .tuple #[z, .bool false] else z) (den_okV (c := false) (x := .raw z) rfl) fun w' hw => ?_
                simp [Instr.lookup, run_underlying hT, MapKept.run_getObj_map (hes' w' hw), MapKept.run_checkKey hK (key_is s), MapKept.run_findKey hK q1, zero, Result.andThen]
            · exact hk.elim
          · rename_i s
            obtain rfl := hy
            obtain rfl := hx
            have q1 : Instr.findNow .string (.string s) [] 0 = some none := rfl
            refine Gives.of hk (v := if ok then .tuple #[z, .bool false] else z) (den_okV (c := false) (x := .raw z) rfl) fun w' hw => ?_
            simp [Instr.lookup, run_underlying hT, MapKept.run_checkKey hK (key_is s), MapKept.run_findKey hK q1, zero, Result.andThen]
          · exact hk.elim
        · exact hk.elim
      · exact hk.elim
    · exact hk.elim
  · exact hk.elim

theorem lenHK_spec (hr : HRel C h L w) {T : TypeId} {x : AV} {vx : Value} {K : AV → Prop} (hx : den w (SS C w h L) L x vx) (hk : lenHK P T h x K) {ty : TypeId} :
    Gives P w (den w (SS C w h L) L) (Builtin.len_ #[T] ty #[vx]) K := by
  unfold lenHK at hk
  split at hk
  · rename_i id
    split at hk
    · rename_i kt et hT
      obtain ⟨hid, b, hb, rfl⟩ := hx
      obtain ⟨o, ho, hk⟩ := getO_iff.1 hk
      have hob := hr.objs id o ho
      split at hk
      · rename_i l
        obtain ⟨b', es, clock, e, hes, hst, hn, hc⟩ := hob
        rw [hb] at e
        cases e
        have hes' : ∀ w', Ext w w' → w'.heap[b]? = some (.map es clock) := fun w' hw => (hw.2 b (Array.getElem?_eq_some_iff.1 hes).1).trans hes
        refine Gives.of hk (v := goInt es.size) (by rw [hn]; rfl) fun w' hw => ?_
        simp [Builtin.len_, run_underlying hT, MapKept.run_getObj_map (hes' w' hw), Result.andThen]
      · exact hk.elim
    · exact hk.elim
  · split at hk
    · rename_i kt et hT
      obtain rfl := hx
      refine Gives.of hk (v := goInt 0) rfl fun w' hw => ?_
      simp [Builtin.len_, run_underlying hT, Result.andThen]
    · exact hk.elim
  · exact lenOfK_spec hx hk

end
end Go.Proofs.YtflclafbieokiaaGreatDoor.AL

namespace Go.Proofs.YtflclafbieokiaaGreatDoor.AL
open Go
variable [Globs]

section
variable {P : Program} {C : Ctx} {t : List AV} {h : List AO} {L : Loc} {a : Act} {w : World}

theorem bytesToString_loop (f : Value → ByteArray → Sem (ForInStep ByteArray)) (hf : ∀ n s, f (.int .u8 n) s = pure (ForInStep.yield (s.push (UInt8.ofNat n.toNat))))
    (l : List Int) (w : World) : ∀ (s : ByteArray), (forIn (m := Sem) (l.map (Value.int .u8)) s f).run P w = .ok ⟨s.data ++ (l.map fun n => UInt8.ofNat n.toNat).toArray⟩ w := by
  induction l with
  | nil => intro s; simp [forIn]
  | cons n l ih =>
    intro s
    simp only [List.map_cons, List.forIn_cons, Sem.run_bind, hf, Sem.run_pure, Result.andThen_ok]
    rw [ih]
    simp [ByteArray.push]

theorem run_bytesToString {A : Addr} (hA : A.spot = none) {xs : List Int} {cap : Nat} {w : World}
    (hc : ∀ j, j < xs.length → w.cell? ⟨A.block, A.off + j, none⟩ = some (.int .u8 (xs.getD j 0))) :
    (Conv.bytesToString (.slice (some A) xs.length cap)).run P w = .ok (.string (bytesOf xs)) w := by
  unfold Conv.bytesToString
  have h1 := run_loadCells (P := P) A hA (us := xs.map (Value.int .u8)) (w := w) (n := xs.length) (by simp) (by
    intro j hj
    rw [hc j hj, List.getElem?_map, List.getElem?_eq_getElem hj, List.getD_eq_getElem?_getD, List.getElem?_eq_getElem hj]; rfl)
  simp only [Sem.run_bind, h1, Result.andThen_ok]
  rw [← Array.forIn_toList, bytesToString_loop _ (fun _ _ => rfl)]
  simp [bytesOf, ByteArray.empty, ByteArray.emptyWithCapacity]
  rfl

theorem own_ints {C : Ctx} (hr : HRel C h L w) {id off len b cap : Nat} {k : IntKind} {xs : List Int} (ho : h[id]? = some (.ints k xs)) (hb : L.b id = some b) (hle : off + len ≤ xs.length) :
    ∀ j, j < len → w.cell? ⟨b, off + j, none⟩ = some (.int k (((xs.drop off).take len).getD j 0)) := by
  intro j hj
  obtain ⟨u, h1, rfl⟩ := own_cell (hr.objs id _ ho) hb (i := off + j) (by omega)
  rw [h1, List.getD_eq_getElem?_getD, List.getD_eq_getElem?_getD, List.getElem?_take_of_lt hj, List.getElem?_drop]

theorem run_convert_bytes {src dst e : TypeId} {x : Value} (hd : P.underlying dst = some .string) (hs : P.underlying src = some (.slice e)) (he : P.underlying e = some (.int .u8))
    {A : Option Addr} {n cap : Nat} (hx : x = .slice A n cap) {v : Value} {w : World} (hr : (Conv.bytesToString x).run P w = .ok v w) : (convert src dst x).run P w = .ok v w := by
  subst hx
  unfold convert
  simp only [Sem.run_bind, run_underlying hd, run_underlying hs, Result.andThen_ok, run_underlying he, hr]

theorem convK_spec (hr : HRel C h L w) {src dst : TypeId} {x : AV} {vx : Value} {K : AV → Prop} (hx : den w (SS C w h L) L x vx) (hk : convK P h src dst x K) : Gives P w (den w (SS C w h L) L) (convert src dst vx) K := by
  unfold convK at hk
  split at hk
  · exact hk.elim
  rename_i ds hsrc
  split at hk
  · rename_i hu; obtain rfl := hx
    exact .run hk fun w' => by unfold convert; simp only [Sem.run_bind, run_underlying hu, run_underlying hsrc, Result.andThen_ok]; cases ds <;> rfl
  · rename_i hu; obtain rfl := hx
    exact .run hk fun w' => by unfold convert; simp only [Sem.run_bind, run_underlying hu, run_underlying hsrc, Result.andThen_ok]; cases ds <;> rfl
  · rename_i xs hu
    split at hk
    · rename_i e hs
      split at hk
      · rename_i he
        obtain ⟨A, cap, rfl, hcap, hc⟩ := hx
        refine .of hk rfl fun w' hw => run_convert_bytes hu hs he rfl ?_
        cases xs with
        | nil =>
          cases A with
          | none => simp [Conv.bytesToString, bytesOf]; rfl
          | some A => simp [Conv.bytesToString, bytesOf, loadCells, loadCellsFrom]; rfl
        | cons y ys =>
          obtain ⟨b, o, e', _, _⟩ := hc 0 (by simp)
          subst e'
          exact run_bytesToString rfl fun j hj => by
            obtain ⟨b', o', e', _, h1⟩ := hc j hj
            cases e'
            exact hw.cell h1
      · exact hk.elim
    · exact hk.elim
  · rename_i hu
    split at hk
    · rename_i e hs
      split at hk
      · rename_i he
        obtain rfl := hx
        exact .run hk fun w' => run_convert_bytes hu hs he rfl rfl
      · exact hk.elim
    · exact hk.elim
  · rename_i id off len hu
    split at hk
    · rename_i e hs
      split at hk
      · rename_i he
        obtain ⟨o, ho, hk⟩ := getO_iff.1 hk
        split at hk
        · rename_i xs
          obtain ⟨hle, hk⟩ := hk
          have hlen : ((xs.drop off).take len).length = len := by simp; omega
          obtain ⟨_, ⟨rfl, A, rfl⟩ | ⟨b, cap, hb, rfl, hcap, hsz⟩⟩ := hx
          · refine .of hk rfl fun w' hw => run_convert_bytes hu hs he rfl ?_
            cases A with
            | none => simp [Conv.bytesToString, bytesOf]; rfl
            | some A => simp [Conv.bytesToString, bytesOf, loadCells, loadCellsFrom]; rfl
          · refine .of hk rfl fun w' hw => run_convert_bytes hu hs he rfl ?_
            have := run_bytesToString (P := P) (A := ⟨b, off, none⟩) rfl (xs := (xs.drop off).take len) (cap := cap) (w := w') (by
              rw [hlen]
              exact fun j hj => hw.cell (own_ints (cap := cap) hr ho hb hle j hj))
            rw [hlen] at this
            exact this
        · exact hk.elim
      · exact hk.elim
    · exact hk.elim
  · obtain ⟨r, h1, h2⟩ := hk
    obtain rfl := hx
    exact .run h2 h1
  · exact hk.elim

theorem run_complex (ts : Array TypeId) (ty : TypeId) (k : FloatKind) (x y : Nat) (w : World) : (Builtin.complex_ ts ty #[.float k x, .float k y]).run P w = .ok (.complex k x y) w := by cases k <;> rfl
theorem run_real (ts : Array TypeId) (ty : TypeId) (k : FloatKind) (x y : Nat) (w : World) : (Builtin.real_ ts ty #[.complex k x y]).run P w = .ok (.float k x) w := rfl
theorem run_imag (ts : Array TypeId) (ty : TypeId) (k : FloatKind) (x y : Nat) (w : World) : (Builtin.imag_ ts ty #[.complex k x y]).run P w = .ok (.float k y) w := rfl

def denO (w : World) (S : Nat → Prop) (L : Loc) : Option AV → Option Value → Prop
  | none, none => True
  | some a, some v => den w S L a v
  | _, _ => False

theorem boundK_spec {S : Nat → Prop} {v : Option AV} {u : Option Value} {dflt most : Nat} {K : Nat → Prop} (hd : denO w S L v u) (hm : dflt ≤ most) (hk : boundK v dflt most K) :
    ∃ n, K n ∧ n ≤ most ∧ ((u = none ∧ n = dflt) ∨ ∃ x, u = some x ∧ ∀ (most' : Nat) (code : BoundsCode) (w' : World), most ≤ most' → (Instr.sliceBound x most' code).run P w' = .ok n w') := by
  unfold boundK at hk
  split at hk
  · cases u with
    | none => exact ⟨dflt, hk, hm, .inl ⟨rfl, rfl⟩⟩
    | some u => exact hd.elim
  · rename_i k i
    cases u with
    | none => exact hd.elim
    | some u =>
      obtain rfl : u = .int k i := hd
      obtain ⟨⟨h0, h1⟩, hk⟩ := hk
      refine ⟨i.toNat, hk, by omega, .inr ⟨_, rfl, fun most' code w' hmm => ?_⟩⟩
      have h2 : 0 ≤ i ∧ i ≤ (most' : Int) := ⟨h0, by omega⟩
      simp [Instr.sliceBound, asIntOf, h2]
  · exact hk.elim

theorem sliceBounds_spec {S : Nat → Prop} {lo hi : Option AV} {ulo uhi : Option Value} {isSlice : Bool} {len cap most : Nat} {K : Nat → Nat → Prop}
    (hlo : denO w S L lo ulo) (hhi : denO w S L hi uhi) (hm : len ≤ most) (hcm : most ≤ cap) (hk : boundK hi len most fun b => boundK lo 0 b fun a => K a b) :
    ∃ a b, K a b ∧ a ≤ b ∧ b ≤ most ∧ ∀ w', (Instr.sliceBounds isSlice len cap ulo uhi none).run P w' = .ok (a, b, cap) w' := by
  obtain ⟨b, hk, hb, h1⟩ := boundK_spec (P := P) hhi hm hk
  obtain ⟨a, hk, ha, h2⟩ := boundK_spec (P := P) hlo (Nat.zero_le _) hk
  refine ⟨a, b, hk, ha, hb, fun w' => ?_⟩
  unfold Instr.sliceBounds
  rcases h1 with ⟨rfl, rfl⟩ | ⟨x, rfl, h1⟩
  · rcases h2 with ⟨rfl, rfl⟩ | ⟨y, rfl, h2⟩
    · rfl
    · simp only [Sem.run_bind, Sem.run_pure, Result.andThen_ok, h2 _ _ _ (Nat.le_refl _)]
  · rcases h2 with ⟨rfl, rfl⟩ | ⟨y, rfl, h2⟩
    · simp only [Sem.run_bind, Sem.run_pure, Result.andThen_ok, h1 _ _ _ hcm]
    · simp only [Sem.run_bind, Sem.run_pure, Result.andThen_ok, h1 _ _ _ hcm, h2 _ _ _ (Nat.le_refl _)]

theorem sliceAt_slice {T e : TypeId} (hu : P.underlying T = some (.slice e)) (x : Value) (lo hi mx : Option Value) (w : World) :
    (Instr.sliceAt T x lo hi mx).run P w = (Instr.slice T x lo hi mx).run P w := by
  unfold Instr.sliceAt
  simp only [Sem.run_bind, run_underlying hu, Result.andThen_ok]
theorem sliceAt_string {T : TypeId} (hu : P.underlying T = some .string) (x : Value) (lo hi mx : Option Value) (w : World) :
    (Instr.sliceAt T x lo hi mx).run P w = (Instr.slice T x lo hi mx).run P w := by
  unfold Instr.sliceAt
  simp only [Sem.run_bind, run_underlying hu, Result.andThen_ok]

theorem run_slice_slice {T e : TypeId} {s : Nat} (hu : P.underlying T = some (.slice e)) (hs : ∀ w, (sizeOf e).run P w = .ok s w) {A : Option Addr} {len cap a b : Nat} {lo hi : Option Value} {w : World}
    (hb : (Instr.sliceBounds true len cap lo hi none).run P w = .ok (a, b, cap) w) :
    (Instr.sliceAt T (.slice A len cap) lo hi none).run P w = .ok (.slice (if cap = a then A else A.map (·.add (a * s))) (b - a) (cap - a)) w := by
  rw [sliceAt_slice hu]
  unfold Instr.slice
  simp only [Sem.run_bind, run_underlying hu, Result.andThen_ok, hb, hs, Sem.run_pure]

theorem run_slice_slice3 {T e : TypeId} {s : Nat} (hu : P.underlying T = some (.slice e)) (hs : ∀ w, (sizeOf e).run P w = .ok s w) {A : Option Addr} {len cap a b c : Nat} {lo hi mx : Option Value} {w : World}
    (hb : (Instr.sliceBounds true len cap lo hi mx).run P w = .ok (a, b, c) w) :
    (Instr.sliceAt T (.slice A len cap) lo hi mx).run P w = .ok (.slice (if c = a then A else A.map (·.add (a * s))) (b - a) (c - a)) w := by
  rw [sliceAt_slice hu]
  unfold Instr.slice
  simp only [Sem.run_bind, run_underlying hu, Result.andThen_ok, hb, hs, Sem.run_pure]

theorem rcell_ite {S : Nat → Prop} {A : Option Addr} {i n : Nat} {u : Value} {p : Prop} [Decidable p] (hp : ¬ p) (h : rcell w S A (n + i) u) : rcell w S (if p then A else A.map (·.add n)) i u := by
  rw [if_neg hp]
  obtain ⟨b, o, e, hb, hc⟩ := h
  subst e
  exact rcell_add ⟨b, o, rfl, hb, hc⟩

theorem slice3_boundsQ {n c : Int} {k1 k2 : IntKind} {len cap : Nat} (h0 : 0 ≤ n) (h1 : n ≤ c) (h2 : c ≤ (cap : Int)) (w : World) :
    (Instr.sliceBounds true len cap none (some (.int k1 n)) (some (.int k2 c))).run P w = .ok (0, n.toNat, c.toNat) w := by
  have e1 : 0 ≤ c ∧ c ≤ (cap : Int) := ⟨by omega, h2⟩
  have e2 : 0 ≤ n ∧ n ≤ (c.toNat : Int) := ⟨h0, by omega⟩
  have e3 : n ≤ max c 0 := by omega
  simp [Instr.sliceBounds, Instr.sliceBound, asIntOf, e1, e2, e3]
theorem slice3Q_spec (hr : HRel C h L w) {T : TypeId} {x m : AV} {vx : Value} {lo hi : Option AV} {ulo uhi umx : Option Value} {K : AV → Prop} (hx : den w (SS C w h L) L x vx)
    (hlo : denO w (SS C w h L) L lo ulo) (hhi : denO w (SS C w h L) L hi uhi) (hmx : denO w (SS C w h L) L (some m) umx) (hk : sliceK P T h x lo hi (some m) K) :
    Gives P w (den w (SS C w h L) L) (Instr.sliceAt T vx ulo uhi umx) K := by
  cases umx with
  | none => exact hmx.elim
  | some vm =>
  unfold sliceK at hk
  split at hk
  all_goals first
    | exact hk.elim
    | (exfalso; rename_i hx1; cases hx1; done)
    | (exfalso; rename_i hx1 _; cases hx1; done)
    | (exfalso; rename_i hx1 _ _; cases hx1; done)
    | skip
  rename_i k1 c e k xs hm hu
  cases hm
  split at hk
  · rename_i k2 n
    cases ulo with
    | some _ => exact hlo.elim
    | none =>
    cases uhi with
    | none => exact hhi.elim
    | some vh =>
    obtain rfl : vm = .int k1 c := hmx
    obtain rfl : vh = .int k2 n := hhi
    obtain ⟨A, cap, rfl, hcap, hc⟩ := hx
    obtain ⟨s, hs, _, hk⟩ := sizeK_spec hk
    obtain ⟨rfl, hk1⟩ := sure_iff.1 hk
    obtain ⟨⟨b1, b2, b3⟩, hk2⟩ := hk1
    have hlen : (xs.take n.toNat).length = n.toNat := by rw [List.length_take]; omega
    refine .of hk2 ⟨_, c.toNat - 0, by rw [hlen, Nat.sub_zero], by rw [hlen]; omega, fun i hi => ?_⟩ fun w' _ => run_slice_slice3 hu hs (slice3_boundsQ b1 b2 (by omega) w')
    rw [hlen] at hi
    have h1 := hc i (by omega)
    have h2 : (xs.take n.toNat).getD i 0 = xs.getD i 0 := by
      rw [List.getD_eq_getElem?_getD, List.getD_eq_getElem?_getD, List.getElem?_take_of_lt (by omega)]
    rw [h2]
    refine rcell_ite (n := 0 * 1) (by omega) ?_
    rw [Nat.zero_mul, Nat.zero_add]
    exact h1
  · exact hk.elim

theorem sliceK_spec (hr : HRel C h L w) {T : TypeId} {x : AV} {vx : Value} {lo hi mx : Option AV} {ulo uhi umx : Option Value} {K : AV → Prop} (hx : den w (SS C w h L) L x vx)
    (hlo : denO w (SS C w h L) L lo ulo) (hhi : denO w (SS C w h L) L hi uhi) (hmx : denO w (SS C w h L) L mx umx) (hk : sliceK P T h x lo hi mx K) :
    Gives P w (den w (SS C w h L) L) (Instr.sliceAt T vx ulo uhi umx) K := by
  rcases mx with _ | m
  rotate_left
  · exact slice3Q_spec hr hx hlo hhi hmx hk
  obtain rfl : umx = none := by
    cases umx with
    | some _ => exact hmx.elim
    | none => rfl
  unfold sliceK at hk
  split at hk
  · -- a string
    rename_i s _ hu
    obtain rfl := hx
    obtain ⟨a, b, hk, hab, hbs, hrun⟩ := sliceBounds_spec (P := P) (isSlice := false) (cap := s.size) hlo hhi (Nat.le_refl _) (Nat.le_refl _) hk
    refine .of hk rfl fun w' _ => ?_
    rw [sliceAt_string hu]
    unfold Instr.slice
    simp only [Sem.run_bind, run_underlying hu, Result.andThen_ok, hrun, Sem.run_pure, Option.isSome_none, Bool.false_eq_true, if_false]
  · -- numbers that are read
    rename_i e k xs _ hu
    obtain ⟨A, cap, rfl, hcap, hc⟩ := hx
    obtain ⟨s, hs, _, hk⟩ := sizeK_spec hk
    obtain ⟨rfl, hk1⟩ := sure_iff.1 hk
    obtain ⟨a, b, hk2, hab, hbs, hrun⟩ := sliceBounds_spec (P := P) (isSlice := true) (cap := cap) hlo hhi (Nat.le_refl _) hcap hk1
    have hlen : ((xs.take b).drop a).length = b - a := by simp; omega
    refine .of hk2 ⟨_, cap - a, by rw [hlen], by rw [hlen]; omega, fun i hi => ?_⟩ fun w' _ => run_slice_slice hu hs (hrun w')
    rw [hlen] at hi
    have h1 := hc (a + i) (by omega)
    have h2 : ((xs.take b).drop a).getD i 0 = xs.getD (a + i) 0 := by
      rw [List.getD_eq_getElem?_getD, List.getD_eq_getElem?_getD, List.getElem?_drop, List.getElem?_take_of_lt (by omega)]
    rw [h2]
    exact rcell_ite (by omega) (by rw [Nat.mul_one]; exact h1)
  · -- a row of the call's own
    rename_i e id off len sz _ hu
    obtain ⟨s, hs, _, hk⟩ := sizeK_spec hk
    obtain ⟨rfl, hk⟩ := sure_iff.1 hk
    obtain ⟨hid, ⟨rfl, A, rfl⟩ | ⟨b, cap, hb, rfl, hcap, hsz⟩⟩ := hx
    · obtain ⟨a, b, hk, hab, hbs, hrun⟩ := sliceBounds_spec (P := P) (isSlice := true) (cap := 0) hlo hhi (Nat.le_refl _) (Nat.le_refl _) hk
      obtain rfl : b = 0 := by omega
      obtain rfl : a = 0 := by omega
      exact .of hk ⟨hid, .inl ⟨rfl, _, rfl⟩⟩ fun w' _ => run_slice_slice hu hs (hrun w')
    · obtain ⟨a, b', hk, hab, hbs, hrun⟩ := sliceBounds_spec (P := P) (isSlice := true) (cap := cap) hlo hhi (Nat.le_refl _) hcap hk
      refine .of hk ⟨hid, ?_⟩ fun w' _ => run_slice_slice hu hs (hrun w')
      by_cases he : cap = a
      · exact .inl ⟨by omega, by rw [if_pos he]; exact ⟨_, by congr 1 <;> omega⟩⟩
      · refine .inr ⟨b, cap - a, hb, ?_, by omega, ?_⟩
        · rw [if_neg he]; simp [Addr.add_mk, addOff]
        · have : a * s + (cap - a) * s = cap * s := by rw [← Nat.add_mul]; congr 1; omega
          unfold addOff; omega
  · -- a row that is read
    rename_i e n sz f _ hu
    obtain ⟨A, cap, rfl, hcap, hc⟩ := hx
    obtain ⟨s, hs, _, hk⟩ := sizeK_spec hk
    obtain ⟨rfl, hk⟩ := sure_iff.1 hk
    obtain ⟨a, b, hk, hab, hbs, hrun⟩ := sliceBounds_spec (P := P) (isSlice := true) (cap := cap) hlo hhi (Nat.le_refl _) hcap hk
    refine .of hk ⟨_, cap - a, rfl, by omega, fun i hi => ?_⟩ fun w' _ => run_slice_slice hu hs (hrun w')
    have hab' : a < b := by
      rcases Nat.lt_or_ge a b with h | h
      · exact h
      · rw [Nat.sub_eq_zero_of_le h, Nat.zero_mul] at hi; omega
    have hlt : a * s + i < n * s := by
      have h1 : (b - a) * s + a * s = b * s := by rw [← Nat.add_mul]; congr 1; omega
      have h2 : b * s ≤ n * s := Nat.mul_le_mul_right _ hbs
      omega
    obtain ⟨u, h1, h2⟩ := hc (a * s + i) hlt
    exact ⟨u, rcell_ite (by omega) h1, h2⟩
  · -- a row that is read
    rename_i e n sz f _ hu
    obtain ⟨A, cap, rfl, hcap, hc⟩ := hx
    obtain ⟨s, hs, _, hk⟩ := sizeK_spec hk
    obtain ⟨rfl, hk⟩ := sure_iff.1 hk
    obtain ⟨a, b, hk, hab, hbs, hrun⟩ := sliceBounds_spec (P := P) (isSlice := true) (cap := cap) hlo hhi (Nat.le_refl _) hcap hk
    refine .of hk ⟨_, cap - a, rfl, by omega, fun i hi => ?_⟩ fun w' _ => run_slice_slice hu hs (hrun w')
    have hab' : a < b := by
      rcases Nat.lt_or_ge a b with h | h
      · exact h
      · rw [Nat.sub_eq_zero_of_le h, Nat.zero_mul] at hi; omega
    have hlt : a * s + i < n * s := by
      have h1 : (b - a) * s + a * s = b * s := by rw [← Nat.add_mul]; congr 1; omega
      have h2 : b * s ≤ n * s := Nat.mul_le_mul_right _ hbs
      omega
    obtain ⟨u, h1, h2⟩ := hc (a * s + i) hlt
    exact ⟨u, rcell_ite (by omega) h1, h2⟩
  · -- nothing
    rename_i e _ hu
    obtain rfl := hx
    obtain ⟨s, hs, _, hk⟩ := sizeK_spec hk
    obtain ⟨a, b, hk, hab, hbs, hrun⟩ := sliceBounds_spec (P := P) (isSlice := true) (cap := 0) hlo hhi (Nat.le_refl _) (Nat.le_refl _) hk
    obtain rfl : b = 0 := by omega
    obtain rfl : a = 0 := by omega
    refine .of hk rfl fun w' _ => ?_
    rw [sliceAt_slice hu]
    unfold Instr.slice
    simp only [Sem.run_bind, run_underlying hu, Result.andThen_ok, hrun, hs, Sem.run_pure]
    rfl
  · -- an array of the call's own
    rename_i n e id off _ hu
    obtain ⟨s, hs, _, hk⟩ := sizeK_spec hk
    obtain ⟨hid, b, hb, rfl⟩ := hx
    obtain ⟨a, b', hk, hab, hbs, hrun⟩ := sliceBounds_spec (P := P) (isSlice := false) (cap := n) (K := fun a b => getO h id fun o => match o with
        | .ints _ xs => off + n * s ≤ xs.length ∧ K (.own id (addOff off a s) (b - a) s)
        | .lst l => off + n * s ≤ l.length ∧ K (.own id (addOff off a s) (b - a) s)
        | .row m _ => off + n * s ≤ m ∧ K (.own id (addOff off a s) (b - a) s)
        | _ => False) hlo hhi (Nat.le_refl _) (Nat.le_refl _) hk
    obtain ⟨o, ho, hk⟩ := getO_iff.1 hk
    have hk' : off + n * s ≤ L.sz id ∧ K (.own id (addOff off a s) (b' - a) s) := by
      have hob := hr.objs id o ho
      split at hk
      · refine ⟨?_, hk.2⟩
        rcases hob with ⟨_, h2⟩ | ⟨_, _, _, _, _, _, _, h2, h3, _⟩
        · rw [hb] at h2; cases h2
        · exact Nat.le_trans hk.1 h3
      · refine ⟨?_, hk.2⟩
        rcases hob with ⟨_, h2⟩ | ⟨_, _, _, _, _, _, _, h2, h3, _⟩
        · rw [hb] at h2; cases h2
        · exact Nat.le_trans hk.1 h3
      · refine ⟨?_, hk.2⟩
        rcases hob with ⟨_, h2⟩ | ⟨_, _, _, _, _, _, _, h2, h3, _⟩
        · rw [hb] at h2; cases h2
        · exact Nat.le_trans hk.1 h3
      · exact hk.elim
    refine .of hk'.2 ⟨hid, ?_⟩ fun w' _ => (by
      unfold Instr.sliceAt
      simp only [Sem.run_bind, run_underlying hu, Result.andThen_ok, Instr.sureAddr, Sem.run_pure, hrun, hs]
      rfl)
    by_cases he : n = a
    · exact .inl ⟨by omega, by rw [if_pos he]; exact ⟨_, by congr 1 <;> omega⟩⟩
    · refine .inr ⟨b, n - a, hb, ?_, by omega, ?_⟩
      · rw [if_neg he]; simp [Addr.add_mk, addOff]
      · have : a * s + (n - a) * s = n * s := by rw [← Nat.add_mul]; congr 1; omega
        unfold addOff; omega
  · rename_i hm _
    cases hm
  · exact hk.elim

theorem optK_spec (hr : Rel C t h L a w) {x : Option Operand} {K : Option AV → Prop} (hk : optK t x K) : ∃ v, denO w (SS C w h L) L v (x.map a.eval) ∧ K v := by
  cases x with
  | none => exact ⟨none, trivial, hk⟩
  | some x =>
    obtain ⟨v, h1, h2⟩ := evK_spec hr hk
    exact ⟨some v, h1, h2⟩

theorem arr_two {xs : Array Operand} {vs : List AV} {x y : AV} (hl : vs.length = xs.toList.length) (e : vs = [x, y]) : ∃ p q, xs = #[p, q] := by
  subst e
  obtain ⟨l⟩ := xs
  match l, hl with
  | [p, q], _ => exact ⟨p, q, rfl⟩
theorem arr_one {xs : Array Operand} {vs : List AV} {x : AV} (hl : vs.length = xs.toList.length) (e : vs = [x]) : ∃ p, xs = #[p] := by
  subst e
  obtain ⟨l⟩ := xs
  match l, hl with
  | [p], _ => exact ⟨p, rfl⟩

def GivesN (P : Program) (w : World) (D : AV → Value → Prop) (s : Sem Next) (K : AV → Prop) : Prop :=
  ∃ v x, (∀ w', Ext w w' → s.run P w' = .ok (.value v) w') ∧ D x v ∧ K x
theorem Gives.next {D : AV → Value → Prop} {s : Sem Value} {K : AV → Prop} (h : Gives P w D s K) : GivesN P w D (do pure (.value (← s))) K := by
  obtain ⟨v, x, h1, h2, h3⟩ := h
  exact ⟨v, x, fun w' hw => by simp [h1 w' hw], h2, h3⟩

theorem apure_spec (hr : Rel C t h L a w) {o : Oper} {op : Op} (ho : o.op = op) {K : AV → Prop} (hk : apure P t h op K) : GivesN P w (den w (SS C w h L) L) (execOp a.eval o) K := by
  unfold execOp
  rw [ho]
  unfold apure at hk
  split at hk
  · obtain ⟨v, h1, h2⟩ := evK_spec hr hk
    exact ⟨_, v, fun w' _ => rfl, h1, h2⟩
  · obtain ⟨v, h1, h2⟩ := evK_spec hr hk
    exact ⟨_, v, fun w' _ => rfl, h1, h2⟩
  · obtain ⟨c, h1, h2⟩ := evK_spec hr hk
    split at h2
    · obtain ⟨v, h3, h4⟩ := evK_spec hr h2
      exact ⟨_, v, fun w' _ => by dsimp only; rw [h1]; rfl, h3, h4⟩
    · obtain ⟨v, h3, h4⟩ := evK_spec hr h2
      exact ⟨_, v, fun w' _ => by dsimp only; rw [h1]; rfl, h3, h4⟩
    · obtain ⟨v, h3, h4⟩ := evK_spec hr h2
      exact ⟨_, v, fun w' _ => by dsimp only; rw [h1]; rfl, h3, h4⟩
    · obtain ⟨v, h3, h4⟩ := evK_spec hr h2
      exact ⟨_, v, fun w' _ => by dsimp only; rw [h1]; rfl, h3, h4⟩
    · exact h2.elim
  · obtain ⟨x, h1, h2⟩ := evK_spec hr hk
    split at h2
    · exact ⟨_, _, fun w' _ => by obtain ⟨_, b, _, e⟩ := h1; dsimp only; rw [e]; rfl, h1, h2⟩
    · exact ⟨_, _, fun w' _ => by obtain ⟨A, e, _⟩ := h1; dsimp only; rw [e]; rfl, h1, h2⟩
    · exact ⟨_, _, fun w' _ => by obtain ⟨vs, e, _⟩ := h1; dsimp only; rw [e]; rfl, h1, h2⟩
    · exact h2.elim
  · obtain ⟨x, h1, h2⟩ := evK_spec hr hk
    exact (loadK_spec hr.heap h1 h2).next
  · obtain ⟨x, h1, h2⟩ := evK_spec hr hk
    obtain ⟨v, z, h5, h6, h7⟩ := nilOp_spec h1 h2
    refine ⟨v, z, fun w' hw => ?_, h6, h7⟩
    · rename_i op T xo yt
      show Sem.run P (do pure (Next.value (← (do eqGuard op T xo (.const .nilIface) (a.eval xo) .nilIface; binOp op T (a.eval xo) .nilIface)))) w' = _
      rw [Sem.run_bind, h5 w' hw]
      rfl
  · obtain ⟨x, h1, h2⟩ := evK_spec hr hk
    obtain ⟨y, h3, h4⟩ := evK_spec hr h2
    obtain ⟨v, z, h5, h6, h7⟩ := binK_spec h1 h3 h4
    exact ⟨v, z, fun w' hw => by simp [binK_guard h1 h3 h4 w', h5 w' hw], h6, h7⟩
  · obtain ⟨x, h1, h2⟩ := evK_spec hr hk
    exact (unK_spec h1 h2).next
  · obtain ⟨x, h1, h2⟩ := evK_spec hr hk
    exact (convK_spec hr.heap h1 h2).next
  · obtain ⟨x, h1, h2⟩ := evK_spec hr hk
    obtain ⟨lo, h3, h4⟩ := optK_spec hr h2
    obtain ⟨hi, h5, h6⟩ := optK_spec hr h4
    obtain ⟨mx, h7, h8⟩ := optK_spec hr h6
    exact (sliceK_spec hr.heap h1 h3 h5 h7 h8).next
  · obtain ⟨x, h1, h2⟩ := evK_spec hr hk
    exact (fieldAddrK_spec h1 h2).next
  · obtain ⟨x, h1, h2⟩ := evK_spec hr hk
    exact (fieldK_spec h1 h2).next
  · obtain ⟨x, h1, h2⟩ := evK_spec hr hk
    obtain ⟨y, h3, h4⟩ := evK_spec hr h2
    exact (idxAddrK_spec h1 h3 h4).next
  · obtain ⟨x, h1, h2⟩ := evK_spec hr hk
    exact (arrPK_spec h1 h2).next
  · obtain ⟨x, h1, h2⟩ := evK_spec hr hk
    obtain ⟨y, h3, h4⟩ := evK_spec hr h2
    exact (idxK_spec h1 h3 h4).next
  · obtain ⟨x, h1, h2⟩ := evK_spec hr hk
    exact (extractK_spec h1 h2).next
  · obtain ⟨x, h1, h2⟩ := evK_spec hr hk
    obtain ⟨y, h3, h4⟩ := evK_spec hr h2
    exact (lookK_spec hr.heap h1 h3 h4).next
  · rename_i args types
    split at hk
    · rename_i x T e1 e2
      obtain ⟨y, h1, h2⟩ := evK_spec hr hk
      have e1' : args = #[x] := by cases args; simp at e1; subst e1; rfl
      have e2' : types = #[T] := by cases types; simp at e2; subst e2; rfl
      subst e1' e2'
      obtain ⟨v, z, h5, h6, h7⟩ := lenHK_spec hr.heap (ty := o.type) h1 h2
      refine ⟨v, z, fun w' hw => ?_, h6, h7⟩
      have := h5 w' hw
      simp [resolve, invoke, builtin, this]
    · exact hk.elim
  · obtain ⟨vs, h1, h2, h3⟩ := evsK_spec hr hk
    split at h3
    · rename_i args _ k x k' y
      obtain ⟨rfl, _⟩ := sure_iff.1 h3
      obtain ⟨p, q, rfl⟩ := arr_two h1 rfl
      obtain ⟨x', g1, g2⟩ := h2 0 _ rfl
      obtain ⟨y', g3, g4⟩ := h2 1 _ rfl
      simp at g1 g3
      subst g1 g3
      have g2' : a.eval p = .float k x := g2
      have g4' : a.eval q = .float k y := g4
      obtain ⟨_, h4⟩ := sure_iff.1 h3
      exact ⟨_, .raw _, fun w' hw => by simp [resolve, invoke, builtin, run_complex, g2', g4'], rfl, h4⟩
    · exact h3.elim
  · obtain ⟨vs, h1, h2, h3⟩ := evsK_spec hr hk
    split at h3
    · rename_i args _ k x y
      obtain ⟨p, rfl⟩ := arr_one h1 rfl
      obtain ⟨x', g1, g2⟩ := h2 0 _ rfl
      simp at g1
      subst g1
      have g2' : a.eval p = .complex k x y := g2
      exact ⟨_, .raw _, fun w' hw => by simp [resolve, invoke, builtin, run_real, g2'], rfl, h3⟩
    · exact h3.elim
  · obtain ⟨vs, h1, h2, h3⟩ := evsK_spec hr hk
    split at h3
    · rename_i args _ k x y
      obtain ⟨p, rfl⟩ := arr_one h1 rfl
      obtain ⟨x', g1, g2⟩ := h2 0 _ rfl
      simp at g1
      subst g1
      have g2' : a.eval p = .complex k x y := g2
      exact ⟨_, .raw _, fun w' hw => by simp [resolve, invoke, builtin, run_imag, g2'], rfl, h3⟩
    · exact h3.elim
  · obtain ⟨vs, h1, h2, h3⟩ := evsK_spec hr hk
    split at h3
    · rename_i args _ k x k' y
      obtain ⟨rfl, h4⟩ := sameKind_iff.1 h3
      obtain ⟨p, q, rfl⟩ := arr_two h1 rfl
      obtain ⟨x', g1, g2⟩ := h2 0 _ rfl
      obtain ⟨y', g3, g4⟩ := h2 1 _ rfl
      simp at g1 g3
      subst g1 g3
      have g2' : a.eval p = .int k' x := g2
      have g4' : a.eval q = .int k' y := g4
      have : (if x < y then y else x) = max x y := by rw [Int.max_def]; split <;> split <;> omega
      exact ⟨_, .raw _, fun w' hw => by simp [resolve, invoke, builtin, Builtin.max_, Builtin.max2, g2', g4', this], rfl, h4⟩
    · exact h3.elim
  · obtain ⟨vs, h1, h2, h3⟩ := evsK_spec hr hk
    split at h3
    · rename_i args _ k x k' y
      obtain ⟨rfl, h4⟩ := sameKind_iff.1 h3
      obtain ⟨p, q, rfl⟩ := arr_two h1 rfl
      obtain ⟨x', g1, g2⟩ := h2 0 _ rfl
      obtain ⟨y', g3, g4⟩ := h2 1 _ rfl
      simp at g1 g3
      subst g1 g3
      have g2' : a.eval p = .int k' x := g2
      have g4' : a.eval q = .int k' y := g4
      have : (if y < x then y else x) = min x y := by rw [Int.min_def]; split <;> split <;> omega
      exact ⟨_, .raw _, fun w' hw => by simp [resolve, invoke, builtin, Builtin.min_, Builtin.min2, g2', g4', this], rfl, h4⟩
    · exact h3.elim
  · exact hk.elim

end
end Go.Proofs.YtflclafbieokiaaGreatDoor.AL

namespace Go.Proofs.YtflclafbieokiaaGreatDoor.AL
open Go
variable [Globs]

section
variable {P : Program} {C : Ctx} {t : List AV} {h : List AO} {L : Loc} {a : Act} {w : World}

structure Step (C : Ctx) (h : List AO) (L : Loc) (w : World) (h' : List AO) (L' : Loc) (w' : World) : Prop where
  rel : HRel C h' L' w'
  le : L.le L'
  keeps : keeps (SS C w h L) w w'
  ss : ∀ b, SS C w h L b → SS C w' h' L' b

theorem Step.refl (hr : HRel C h L w) : Step C h L w h L w := ⟨hr, .refl _, fun _ _ => rfl, fun _ h => h⟩
theorem Loc.le.trans {L M N : Loc} (h1 : L.le M) (h2 : M.le N) : L.le N :=
  ⟨Nat.le_trans h1.n h2.n, fun i hi => (h2.b i (Nat.lt_of_lt_of_le hi h1.n)).trans (h1.b i hi), fun i hi => (h2.sz i (Nat.lt_of_lt_of_le hi h1.n)).trans (h1.sz i hi)⟩
theorem Step.trans {h1 h2 : List AO} {L1 L2 : Loc} {w1 w2 : World} (s1 : Step C h L w h1 L1 w1) (s2 : Step C h1 L1 w1 h2 L2 w2) : Step C h L w h2 L2 w2 :=
  ⟨s2.rel, s1.le.trans s2.le, fun b hb => (s2.keeps b (s1.ss b hb)).trans (s1.keeps b hb), fun b hb => s2.ss b (s1.ss b hb)⟩
theorem Step.den {h' : List AO} {L' : Loc} {w' : World} (s : Step C h L w h' L' w') {x : AV} {v : Value} (hx : den w (SS C w h L) L x v) : den w' (SS C w' h' L') L' x v :=
  den_mono s.keeps s.ss s.le x v hx
theorem Step.relT {h' : List AO} {L' : Loc} {w' : World} (s : Step C h L w h' L' w') (hr : Rel C t h L a w) : Rel C t h' L' a w' :=
  ⟨s.rel, hr.size, fun i v hi => let ⟨u, h1, h2⟩ := hr.tmps i v hi; ⟨u, h1, s.den h2⟩, hr.defers⟩
theorem Rel.put (hr : Rel C t h L a w) {d : Option Tmp} {x : AV} {v : Value} (hx : den w (SS C w h L) L x v) {K : List AV → Prop} (hk : putK t d x K) :
    ∃ t', Rel C t' h L (a.put d v) w ∧ K t' := by
  cases d with
  | none => exact ⟨t, hr, hk⟩
  | some d =>
    refine ⟨t.set d x, ⟨hr.heap, by simp [Act.put, hr.size], fun i y hi => ?_, hr.defers⟩, setK_iff.1 hk⟩
    by_cases e : d = i
    · subst e
      have hlt : d < t.length := by
        rcases Nat.lt_or_ge d t.length with h' | h'
        · exact h'
        · rw [List.getElem?_eq_none (by simpa using h')] at hi; cases hi
      rw [List.getElem?_set_self (by simpa using hlt)] at hi
      obtain rfl := Option.some.inj hi
      exact ⟨v, by simp [Act.put, hr.size, hlt], hx⟩
    · rw [List.getElem?_set_ne e] at hi
      obtain ⟨u, h1, h2⟩ := hr.tmps i y hi
      exact ⟨u, by simp [Act.put, Array.getElem?_setIfInBounds_ne e, h1], h2⟩

structure Alike (w w' : World) : Prop where
  os : w'.os = w.os
  tape : w'.tape = w.tape
  output : w'.output = w.output
theorem Alike.refl (w : World) : Alike w w := ⟨rfl, rfl, rfl⟩

theorem step_of2 (hr : HRel C h L w) {h' : List AO} {L' : Loc} {w' : World} (hs : Alike w w') (hsize : w.heap.size ≤ w'.heap.size) (hle : L.le L') (hn : L'.n = h'.length)
    (hlen : h.length ≤ h'.length)
    (hch : ∀ k, k < w.heap.size → w'.heap[k]? = w.heap[k]? ∨ ∃ i, Live h i ∧ L.b i = some k)
    (hlive : ∀ i b, Live h' i → L'.b i = some b → b < w'.heap.size ∧ (w.heap.size ≤ b ∨ ∃ j, Live h j ∧ L.b j = some b))
    (hinj : ∀ i j b, Live h' i → Live h' j → L'.b i = some b → L'.b j = some b → i = j)
    (hobj : (∀ b, SS C w h L b → SS C w' h' L' b) → AL.keeps (SS C w h L) w w' → ∀ (i : Nat) (o : AO), h'[i]? = some o → objIs w' (SS C w' h' L') L' (L'.b i) (L'.sz i) o) : Step C h L w h' L' w' := by
  have hk : AL.keeps (SS C w h L) w w' := fun b hb => (hch b hb.1).resolve_right fun ⟨i, hi, e⟩ => hb.2.2 i hi e
  have hss : ∀ b, SS C w h L b → SS C w' h' L' b := fun b hb => ⟨Nat.lt_of_lt_of_le hb.1 hsize, hb.2.1, fun i hi e => by
    rcases (hlive i b hi e).2 with h1 | ⟨j, hj, e'⟩
    · exact absurd hb.1 (by omega)
    · exact hb.2.2 j hj e'⟩
  refine ⟨⟨⟨hs.os.trans hr.fr.os, hs.tape.trans hr.fr.tape, hs.output.trans hr.fr.output, Nat.le_trans hr.fr.size hsize, fun k hk0 ho => ?_, hr.fr.glob⟩, hn, Nat.le_trans hr.np hlen, fun i hi => ?_, hinj, fun i b hi e => ?_, fun i o ho => ?_⟩, hle, hk, hss⟩
  · rcases hch k (Nat.lt_of_lt_of_le hk0 hr.fr.size) with h1 | ⟨i, hi, e⟩
    · rw [h1]; exact hr.fr.block k hk0 ho
    · rcases (hr.mine i k hi e).2 with h2 | h2
      · omega
      · exact absurd h2 ho
  · have h1 : i < L.n := by rw [hr.n]; exact Nat.lt_of_lt_of_le hi hr.np
    have := hr.pre i hi
    exact ⟨by rw [hle.b i h1]; exact this.1, by rw [hle.sz i h1]; exact this.2⟩
  · obtain ⟨h1, h2⟩ := hlive i b hi e
    refine ⟨h1, ?_⟩
    rcases h2 with h2 | ⟨j, hj, e'⟩
    · exact .inl (Nat.le_trans hr.fr.size h2)
    · exact (hr.mine j b hj e').2
  · exact hobj hss hk i o ho

theorem step_of (hr : HRel C h L w) {h' : List AO} {L' : Loc} {w' : World} (hs : Alike w w') (hsize : w.heap.size ≤ w'.heap.size) (hle : L.le L') (hn : L'.n = h'.length)
    (hlen : h.length ≤ h'.length)
    (hch : ∀ k, k < w.heap.size → w'.heap[k]? = w.heap[k]? ∨ ∃ i, Live h i ∧ L.b i = some k)
    (hlive : ∀ i b, Live h' i → L'.b i = some b → b < w'.heap.size ∧ (w.heap.size ≤ b ∨ ∃ j, Live h j ∧ L.b j = some b))
    (hinj : ∀ i j b, Live h' i → Live h' j → L'.b i = some b → L'.b j = some b → i = j)
    (hobj : ∀ (i : Nat) (o : AO), h'[i]? = some o → objIs w' (SS C w h L) L' (L'.b i) (L'.sz i) o) : Step C h L w h' L' w' := by
  exact step_of2 hr hs hsize hle hn hlen hch hlive hinj fun hss _ i o ho => objIs_mono (fun _ _ => rfl) hss (.refl _) (fun _ _ _ => rfl) (hobj i o ho)

def Loc.push (L : Loc) (b : Option Nat) (sz : Nat) : Loc := ⟨L.n + 1, fun i => if i = L.n then b else L.b i, fun i => if i = L.n then sz else L.sz i⟩
theorem Loc.push_le (L : Loc) (b : Option Nat) (sz : Nat) : L.le (L.push b sz) :=
  ⟨Nat.le_succ _, fun i hi => if_neg (by omega), fun i hi => if_neg (by omega)⟩
theorem live_lt {i : Nat} (hl : Live h i) : i < h.length := by
  obtain ⟨o, ho, _⟩ := hl
  exact (List.getElem?_eq_some_iff.1 ho).1
theorem live_append {o : AO} {i : Nat} (hl : Live (h ++ [o]) i) : (i < h.length ∧ Live h i) ∨ i = h.length := by
  obtain ⟨p, hp, hl⟩ := hl
  rcases Nat.lt_or_ge i h.length with h1 | h1
  · rw [List.getElem?_append_left h1] at hp; exact .inl ⟨h1, p, hp, hl⟩
  · have := (List.getElem?_eq_some_iff.1 hp).1
    simp at this
    exact .inr (by omega)
theorem get_append {o p : AO} {i : Nat} (hp : (h ++ [o])[i]? = some p) : (i < h.length ∧ h[i]? = some p) ∨ (i = h.length ∧ p = o) := by
  rcases Nat.lt_or_ge i h.length with h1 | h1
  · rw [List.getElem?_append_left h1] at hp; exact .inl ⟨h1, hp⟩
  · have := (List.getElem?_eq_some_iff.1 hp).1
    simp at this
    have e : i = h.length := by omega
    subst e
    simp at hp
    exact .inr ⟨rfl, hp.symm⟩
theorem get_set {o p : AO} {i id : Nat} (hp : (h.set id o)[i]? = some p) : (i = id ∧ p = o) ∨ (i ≠ id ∧ h[i]? = some p) := by
  by_cases e : id = i
  · subst e
    have := (List.getElem?_eq_some_iff.1 hp).1
    rw [List.getElem?_set_self (by simpa using this)] at hp
    exact .inl ⟨rfl, (Option.some.inj hp).symm⟩
  · rw [List.getElem?_set_ne e] at hp
    exact .inr ⟨fun h => e h.symm, hp⟩
theorem live_set {o : AO} {i id : Nat} (hl : Live (h.set id o) i) : (i = id ∧ o.live) ∨ (i ≠ id ∧ Live h i) := by
  obtain ⟨p, hp, hl⟩ := hl
  rcases get_set hp with ⟨h1, h2⟩ | ⟨h1, h2⟩
  · exact .inl ⟨h1, h2 ▸ hl⟩
  · exact .inr ⟨h1, p, h2, hl⟩

theorem old_obj (hr : HRel C h L w) {L' : Loc} {w' : World} (hle : L.le L') {i : Nat} {o : AO} (ho : h[i]? = some o)
    (hk : ∀ k, SS C w h L k → w'.heap[k]? = w.heap[k]?) (hb : ∀ b, o.live → L.b i = some b → w'.heap[b]? = w.heap[b]?) : objIs w' (SS C w h L) L' (L'.b i) (L'.sz i) o := by
  have hi : i < L.n := by rw [hr.n]; exact (List.getElem?_eq_some_iff.1 ho).1
  rw [hle.b i hi, hle.sz i hi]
  exact objIs_mono (fun b hb => hk b hb) (fun _ h => h) hle (fun b hl e => hb b hl e) (hr.objs i o ho)

theorem step_new (hr : HRel C h L w) {w' : World} {ob : Obj} (hs : Alike w w') (hw : w'.heap = w.heap.push ob) {o : AO} {sz : Nat}
    (ho : ∀ L', L.le L' → objIs w' (SS C w h L) L' (some w.heap.size) sz o) : Step C h L w (h ++ [o]) (L.push (some w.heap.size) sz) w' := by
  have hold : ∀ k, k < w.heap.size → w'.heap[k]? = w.heap[k]? := fun k hk => by rw [hw, Array.getElem?_push_lt hk, Array.getElem?_eq_getElem hk]
  have hL := L.push_le (some w.heap.size) sz
  have hn := hr.n
  refine step_of hr hs (by rw [hw]; simp) hL (by simp [Loc.push, hn]) (by simp) (fun k hk => .inl (hold k hk)) (fun i b hi e => ?_) (fun i j b hi hj ei ej => ?_) (fun i p hp => ?_)
  · rcases live_append hi with ⟨h1, h2⟩ | h1
    · rw [hL.b i (by omega)] at e
      exact ⟨by rw [hw]; have := (hr.mine i b h2 e).1; simp; omega, .inr ⟨i, h2, e⟩⟩
    · subst h1
      simp [Loc.push, hn] at e
      subst e
      exact ⟨by rw [hw]; simp, .inl (Nat.le_refl _)⟩
  · rcases live_append hi with ⟨h1, h2⟩ | h1
    · rw [hL.b i (by omega)] at ei
      rcases live_append hj with ⟨h3, h4⟩ | h3
      · rw [hL.b j (by omega)] at ej
        exact hr.inj i j b h2 h4 ei ej
      · subst h3
        simp [Loc.push, hn] at ej
        have := (hr.mine i b h2 ei).1
        omega
    · subst h1
      simp [Loc.push, hn] at ei
      rcases live_append hj with ⟨h3, h4⟩ | h3
      · rw [hL.b j (by omega)] at ej
        have := (hr.mine j b h4 ej).1
        omega
      · exact h3.symm
  · rcases get_append hp with ⟨h1, h2⟩ | ⟨h1, h2⟩
    · exact old_obj hr hL h2 (fun k hk => hold k hk.1) (fun b hl e => hold b (hr.mine i b ⟨p, h2, hl⟩ e).1)
    · subst h1 h2
      have := ho (L.push (some w.heap.size) sz) hL
      simpa [Loc.push, hn] using this

theorem step_upd (hr : HRel C h L w) {w' : World} {id b : Nat} (hs : Alike w w') (hsz : w'.heap.size = w.heap.size) (hl : Live h id) (hb : L.b id = some b)
    (hw : ∀ k, k ≠ b → w'.heap[k]? = w.heap[k]?) {o : AO} (ho : objIs w' (SS C w h L) L (L.b id) (L.sz id) o) : Step C h L w (h.set id o) L w' := by
  have ne : ∀ i k, i ≠ id → Live h i → L.b i = some k → k ≠ b := fun i k hi hli e hkb => hi (hr.inj i id b hli hl (hkb ▸ e) hb)
  have nss : ∀ k, SS C w h L k → k ≠ b := fun k hk e => hk.2.2 id hl (e ▸ hb)
  refine step_of hr hs (by omega) (.refl _) (by simp [hr.n]) (by simp) (fun k hk => ?_) (fun i k hi e => ?_) (fun i j k hi hj ei ej => ?_) (fun i p hp => ?_)
  · by_cases e : k = b
    · exact .inr ⟨id, hl, e ▸ hb⟩
    · exact .inl (hw k e)
  · rcases live_set hi with ⟨rfl, h1⟩ | ⟨h1, h2⟩
    · exact ⟨by rw [hsz]; exact (hr.mine i k hl e).1, .inr ⟨i, hl, e⟩⟩
    · exact ⟨by rw [hsz]; exact (hr.mine i k h2 e).1, .inr ⟨i, h2, e⟩⟩
  · have g : ∀ i, Live (h.set id o) i → Live h i := fun i hi => by
      rcases live_set hi with ⟨rfl, h1⟩ | ⟨h1, h2⟩
      · exact hl
      · exact h2
    exact hr.inj i j k (g i hi) (g j hj) ei ej
  · rcases get_set hp with ⟨rfl, rfl⟩ | ⟨h1, h2⟩
    · exact ho
    · exact old_obj hr (.refl _) h2 (fun k hk => hw k (nss k hk)) (fun k hlp e => hw k (ne i k h1 ⟨p, h2, hlp⟩ e))

theorem step_kill (hr : HRel C h L w) {w' : World} {id : Nat} (hs : Alike w w') (hw : w'.heap = w.heap) : Step C h L w (h.set id .dead) L w' := by
  have g : ∀ i, Live (h.set id .dead) i → Live h i := fun i hi => by
    rcases live_set hi with ⟨rfl, h1⟩ | ⟨h1, h2⟩
    · exact h1.elim
    · exact h2
  refine step_of hr hs (by rw [hw]; exact Nat.le_refl _) (.refl _) (by simp [hr.n]) (by simp) (fun k hk => .inl (by rw [hw])) (fun i k hi e => ?_) (fun i j k hi hj ei ej => ?_) (fun i p hp => ?_)
  · exact ⟨by rw [hw]; exact (hr.mine i k (g i hi) e).1, .inr ⟨i, g i hi, e⟩⟩
  · exact hr.inj i j k (g i hi) (g j hj) ei ej
  · rcases get_set hp with ⟨rfl, rfl⟩ | ⟨h1, h2⟩
    · trivial
    · exact old_obj hr (.refl _) h2 (fun k _ => by rw [hw]) (fun k _ _ => by rw [hw])

theorem step_move (hr : HRel C h L w) {w' : World} {id b : Nat} (hs : Alike w w') (hsz : w'.heap.size = w.heap.size) (hl : Live h id) (hb : L.b id = some b)
    (hw : ∀ k, k ≠ b → w'.heap[k]? = w.heap[k]?) {o : AO} (ho : ∀ L', L.le L' → objIs w' (SS C w h L) L' (some b) (L.sz id) o) :
    Step C h L w (h.set id .dead ++ [o]) (L.push (some b) (L.sz id)) w' := by
  have ne : ∀ i k, i ≠ id → Live h i → L.b i = some k → k ≠ b := fun i k hi hli e hkb => hi (hr.inj i id b hli hl (hkb ▸ e) hb)
  have nss : ∀ k, SS C w h L k → k ≠ b := fun k hk e => hk.2.2 id hl (e ▸ hb)
  have hL := L.push_le (some b) (L.sz id)
  have hn := hr.n
  have g : ∀ i, Live (h.set id .dead) i → i ≠ id ∧ Live h i := fun i hi => by
    rcases live_set hi with ⟨rfl, h1⟩ | h1
    · exact h1.elim
    · exact h1
  refine step_of hr hs (by omega) hL (by simp [Loc.push, hn]) (by simp) (fun k hk => ?_) (fun i k hi e => ?_) (fun i j k hi hj ei ej => ?_) (fun i p hp => ?_)
  · by_cases e : k = b
    · exact .inr ⟨id, hl, e ▸ hb⟩
    · exact .inl (hw k e)
  · rcases live_append hi with ⟨h1, h2⟩ | h1
    · simp at h1
      rw [hL.b i (by omega)] at e
      exact ⟨by rw [hsz]; exact (hr.mine i k (g i h2).2 e).1, .inr ⟨i, (g i h2).2, e⟩⟩
    · simp at h1
      subst h1
      simp [Loc.push, hn] at e
      subst e
      exact ⟨by rw [hsz]; exact (hr.mine id b hl hb).1, .inr ⟨id, hl, hb⟩⟩
  · rcases live_append hi with ⟨h1, h2⟩ | h1
    · simp at h1
      rw [hL.b i (by omega)] at ei
      rcases live_append hj with ⟨h3, h4⟩ | h3
      · simp at h3
        rw [hL.b j (by omega)] at ej
        exact hr.inj i j k (g i h2).2 (g j h4).2 ei ej
      · simp at h3
        subst h3
        simp [Loc.push, hn] at ej
        exact absurd ej.symm (ne i k (g i h2).1 (g i h2).2 ei)
    · simp at h1
      subst h1
      simp [Loc.push, hn] at ei
      rcases live_append hj with ⟨h3, h4⟩ | h3
      · simp at h3
        rw [hL.b j (by omega)] at ej
        exact absurd ei.symm (ne j k (g j h4).1 (g j h4).2 ej)
      · simp at h3
        exact h3.symm
  · rcases get_append hp with ⟨h1, h2⟩ | ⟨h1, h2⟩
    · rcases get_set h2 with ⟨rfl, rfl⟩ | ⟨h3, h4⟩
      · trivial
      · exact old_obj hr hL h4 (fun k hk => hw k (nss k hk)) (fun k hlp e => hw k (ne i k h3 ⟨p, h4, hlp⟩ e))
    · simp at h1
      subst h1 h2
      have := ho (L.push (some b) (L.sz id)) hL
      simpa [Loc.push, hn] using this

end
end Go.Proofs.YtflclafbieokiaaGreatDoor.AL
