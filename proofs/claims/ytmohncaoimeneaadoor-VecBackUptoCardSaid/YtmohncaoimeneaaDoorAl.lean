/-
  An abstract view of the machine's states: heaps and whole states. No program in sight but for the package-level variables that are known.
-/
import Derived.Test.YtmohncaoimeneaaDoorGl
set_option linter.unusedSectionVars false
namespace Go.Proofs.YtmohncaoimeneaaDoor.AL
open Go
variable [Globs]

/-- A block whose first n cells are so, none of them frozen. -/
def cellsAre (w : World) (B : Option Nat) (sz n : Nat) (p : Nat → Value → Prop) : Prop :=
  (n = 0 ∧ B = none) ∨ ∃ b c el lo hi, B = some b ∧ w.heap[b]? = some (.cells c el (lo, hi)) ∧ c.size = sz ∧ n ≤ sz ∧
    (∀ o, o < c.size → (decide (lo ≤ o) && decide (o < hi)) = false) ∧ ∀ i, i < n → ∃ u, c[i]? = some u ∧ p i u

def objIs (w : World) (S : Nat → Prop) (L : Loc) (B : Option Nat) (sz : Nat) : AO → Prop
  | .dead => True
  | .ints k xs => cellsAre w B sz xs.length fun i u => u = .int k (xs.getD i 0)
  | .row n f => cellsAre w B sz n fun i u => den w S L (f i) u
  | .lst l => cellsAre w B sz l.length fun i u => den w S L (l.getD i .top) u
  | .map n key val => ∃ b es clock, B = some b ∧ w.heap[b]? = some (.map es clock) ∧ es.size = n ∧
      ∀ i, i < n → ∃ e, es[i]? = some e ∧ den w S L (key i) e.key ∧ den w S L (val i) e.val

def AO.live : AO → Prop
  | .dead => False
  | _ => True

theorem cellsAre_mono {w w' : World} {B : Option Nat} {sz n : Nat} {p p' : Nat → Value → Prop} (hB : ∀ b, B = some b → w'.heap[b]? = w.heap[b]?)
    (hp : ∀ i u, i < n → p i u → p' i u) (h : cellsAre w B sz n p) : cellsAre w' B sz n p' := by
  rcases h with h | ⟨b, c, el, lo, hi, e, hb, hs, hn, hf, h⟩
  · exact .inl h
  · refine .inr ⟨b, c, el, lo, hi, e, by rw [hB b e]; exact hb, hs, hn, hf, fun i hi => ?_⟩
    obtain ⟨u, h1, h2⟩ := h i hi
    exact ⟨u, h1, hp i u hi h2⟩

theorem objIs_mono {w w' : World} {S S' : Nat → Prop} {L L' : Loc} {B : Option Nat} {sz : Nat} (hk : keeps S w w') (hs : ∀ b, S b → S' b) (hl : L.le L')
    {o : AO} (hB : ∀ b, o.live → B = some b → w'.heap[b]? = w.heap[b]?) (h : objIs w S L B sz o) : objIs w' S' L' B sz o := by
  cases o with
  | dead => trivial
  | ints k xs => exact cellsAre_mono (fun b => hB b trivial) (fun _ _ _ h => h) h
  | row n f => exact cellsAre_mono (fun b => hB b trivial) (fun _ _ _ h => den_mono hk hs hl _ _ h) h
  | lst l => exact cellsAre_mono (fun b => hB b trivial) (fun _ _ _ h => den_mono hk hs hl _ _ h) h
  | map n key val =>
    obtain ⟨b, es, clock, e, hb, hn, h⟩ := h
    refine ⟨b, es, clock, e, by rw [hB b trivial e]; exact hb, hn, fun i hi => ?_⟩
    obtain ⟨x, h1, h2, h3⟩ := h i hi
    exact ⟨x, h1, den_mono hk hs hl _ _ h2, den_mono hk hs hl _ _ h3⟩

/-- What was when the call began: the world, the blocks that may be read, those that were handed over, the first so many places. -/
structure Ctx where
  w0 : World
  S0 : Nat → Prop
  np : Nat
  L0 : Loc

def Ctx.O0 (C : Ctx) (b : Nat) : Prop := ∃ i, i < C.np ∧ C.L0.b i = some b

def Live (h : List AO) (i : Nat) : Prop := ∃ o, h[i]? = some o ∧ o.live

def SS (C : Ctx) (w : World) (h : List AO) (L : Loc) (b : Nat) : Prop :=
  b < w.heap.size ∧ (C.S0 b ∨ C.w0.heap.size ≤ b ∨ C.O0 b) ∧ ∀ i, Live h i → L.b i ≠ some b

/-- The package-level variables that are known are so. -/
def Glob (S : Nat → Prop) (w : World) : Prop := ∀ g ∈ Globs.l, S g.1 ∧ ∃ cs el fr, w.heap[g.1]? = some (.cells cs el fr) ∧ g.2 cs
def GlobC (C : Ctx) : Prop := (∀ b, C.S0 b → b < C.w0.heap.size ∧ ¬ C.O0 b) ∧ Glob C.S0 C.w0

theorem Glob.mono {S S' : Nat → Prop} {w w' : World} (hk : keeps S w w') (hs : ∀ b, S b → S' b) (h : Glob S w) : Glob S' w' :=
  fun g hg => let ⟨h1, cs, el, fr, h2, h3⟩ := h g hg; ⟨hs _ h1, cs, el, fr, by rw [hk _ h1]; exact h2, h3⟩
theorem Glob.var {S : Nat → Prop} {w : World} (h : Glob S w) {P : Program} {n : String} {g : Nat} {p : Array Value → Prop} (hn : P.globalNamed n = some g) (hg : (g, p) ∈ Globs.l) : ∃ cs, w.var? P n = some cs ∧ p cs := by
  obtain ⟨_, cs, el, fr, h2, h3⟩ := h _ hg
  exact ⟨cs, by simp only [World.var?, hn, Option.bind_some, h2], h3⟩

structure Fr (C : Ctx) (w : World) : Prop where
  os : w.os = C.w0.os
  tape : w.tape = C.w0.tape
  output : w.output = C.w0.output
  size : C.w0.heap.size ≤ w.heap.size
  block : ∀ k, k < C.w0.heap.size → ¬ C.O0 k → w.heap[k]? = C.w0.heap[k]?
  glob : GlobC C

/-- The heap, as it is known. -/
structure HRel (C : Ctx) (h : List AO) (L : Loc) (w : World) : Prop where
  fr : Fr C w
  n : L.n = h.length
  np : C.np ≤ h.length
  pre : ∀ i, i < C.np → L.b i = C.L0.b i ∧ L.sz i = C.L0.sz i
  inj : ∀ i j b, Live h i → Live h j → L.b i = some b → L.b j = some b → i = j
  mine : ∀ i b, Live h i → L.b i = some b → b < w.heap.size ∧ (C.w0.heap.size ≤ b ∨ C.O0 b)
  objs : ∀ (i : Nat) (o : AO), h[i]? = some o → objIs w (SS C w h L) L (L.b i) (L.sz i) o

/-- What may be read at the call's beginning may be read now. -/
theorem HRel.s0 {C : Ctx} {h : List AO} {L : Loc} {w : World} (hr : HRel C h L w) : (∀ b, C.S0 b → SS C w h L b) ∧ keeps C.S0 C.w0 w := by
  refine ⟨fun b hb => ?_, fun b hb => ?_⟩
  · obtain ⟨h1, h2⟩ := hr.fr.glob.1 b hb
    refine ⟨Nat.lt_of_lt_of_le h1 hr.fr.size, .inl hb, fun i hi e => ?_⟩
    rcases (hr.mine i b hi e).2 with h3 | h3
    · omega
    · exact h2 h3
  · obtain ⟨h1, h2⟩ := hr.fr.glob.1 b hb
    exact hr.fr.block b h1 h2
theorem HRel.globs {C : Ctx} {h : List AO} {L : Loc} {w : World} (hr : HRel C h L w) : Glob (SS C w h L) w :=
  hr.fr.glob.2.mono hr.s0.2 hr.s0.1

/-- A whole state, as it is known. -/
structure Rel (C : Ctx) (t : List AV) (h : List AO) (L : Loc) (a : Act) (w : World) : Prop where
  heap : HRel C h L w
  size : a.tmps.size = t.length
  tmps : ∀ (i : Nat) (v : AV), t[i]? = some v → ∃ u, a.tmps[i]? = some u ∧ den w (SS C w h L) L v u
  defers : a.defers = []

end Go.Proofs.YtmohncaoimeneaaDoor.AL
