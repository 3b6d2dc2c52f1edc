/-
  The state's own logic, in use: small lemmas. No program in sight.
-/
import Derived.Test.YtmohncaoimeneaaDoorAlMain
import Derived.Test.YtmohncaoimeneaaDoorAlPlain
import Derived.Laws.BitsLemmas
set_option linter.unusedVariables false
set_option linter.unusedSectionVars false
namespace Go.Proofs.YtmohncaoimeneaaDoor.AL
open Go
variable [Globs]

def pair (a b : AV) : Nat → AV := fun i => [a, b].getD i .top
def triple (a b c : AV) : Nat → AV := fun i => [a, b, c].getD i .top

section
variable {P : Program} {h : List AO} {l : List Nat}

theorem leh0 : LeH 0 [] [] [] := ⟨rfl, Nat.le_refl _, fun i hi => absurd hi (Nat.not_lt_zero _), .nil, fun i j o' hj => by simp at hj⟩
/-- No block is kept. -/
theorem lehN (h : List AO) : LeH 0 h [] [] := ⟨rfl, Nat.le_refl _, fun i hi => absurd hi (Nat.not_lt_zero _), .nil, fun i j o' hj => by simp at hj⟩
/-- One block is kept. -/
theorem leh1 {h : List AO} {j : Nat} {o o' : AO} (ho : h[j]? = some o) (hle : LeO h [j] o o') : LeH 0 h [j] [o'] :=
  ⟨rfl, Nat.zero_le _, fun i hi => absurd hi (Nat.not_lt_zero _), List.nodup_cons.2 ⟨by simp, .nil⟩, fun i k p hi hp => by
    cases i with
    | zero => simp at hi hp; subst hi hp; exact .inl ⟨o, ho, hle⟩
    | succ i => simp at hi⟩
/-- Two blocks are kept. -/
theorem leh2 {h : List AO} {j k : Nat} {o o' p p' : AO} (hjk : j ≠ k) (ho : h[j]? = some o) (hp : h[k]? = some p) (hle : LeO h [j, k] o o') (hlp : LeO h [j, k] p p') : LeH 0 h [j, k] [o', p'] :=
  ⟨rfl, Nat.zero_le _, fun i hi => absurd hi (Nat.not_lt_zero _), List.nodup_cons.2 ⟨by simpa using hjk, List.nodup_cons.2 ⟨by simp, .nil⟩⟩, fun i m q hi hq => by
    match i with
    | 0 => simp at hi hq; subst hi hq; exact .inl ⟨o, ho, hle⟩
    | 1 => simp at hi hq; subst hi hq; exact .inl ⟨p, hp, hlp⟩
    | i + 2 => simp at hi⟩
/-- A place for a row that is not yet made. -/
theorem lehE {h : List AO} {j : Nat} (hj : h.length ≤ j) (k : IntKind) : LeH 0 h [j] [.ints k []] :=
  ⟨rfl, Nat.zero_le _, fun i hi => absurd hi (Nat.not_lt_zero _), List.nodup_cons.2 ⟨by simp, .nil⟩, fun i m p hi hp => by
    cases i with
    | zero => simp at hi hp; subst hi hp; exact .inr ⟨Nat.zero_le _, hj, .inr (.inl ⟨k, rfl⟩)⟩
    | succ i => simp at hi⟩

/-- One block is kept, and a place for a row that is not yet made. -/
theorem leh1E {h : List AO} {j j' : Nat} {o o' : AO} (ho : h[j]? = some o) (hle : LeO h [j, j'] o o') (hj : h.length ≤ j') (k : IntKind) : LeH 0 h [j, j'] [o', .ints k []] :=
  ⟨rfl, Nat.zero_le _, fun i hi => absurd hi (Nat.not_lt_zero _), List.nodup_cons.2 ⟨by
    have := (List.getElem?_eq_some_iff.1 ho).1
    simp; omega, List.nodup_cons.2 ⟨by simp, .nil⟩⟩, fun i m p hi hp => by
    match i with
    | 0 => simp at hi hp; subst hi hp; exact .inl ⟨o, ho, hle⟩
    | 1 => simp at hi hp; subst hi hp; exact .inr ⟨Nat.zero_le _, hj, .inr (.inl ⟨k, rfl⟩)⟩
    | i + 2 => simp at hi⟩

theorem bt {b : Bool} {A B : Prop} (hb : b = true) (ha : A) : (b = true → A) ∧ (b = false → B) := ⟨fun _ => ha, fun e => by rw [hb] at e; cases e⟩
theorem bf {b : Bool} {A B : Prop} (hb : b = false) (h2 : B) : (b = true → A) ∧ (b = false → B) := ⟨fun e => (by rw [hb] at e; cases e), fun _ => h2⟩
/-- What a test says. -/
theorem yes {p : Prop} [Decidable p] (h : decide p = true) : p := of_decide_eq_true h
theorem no {p : Prop} [Decidable p] (h : decide p = false) : ¬ p := of_decide_eq_false h

theorem leTT {b : Bool} (e : b = true) : LeV h l (bool b) .tt := by subst e; exact .rtt
theorem leI {k : IntKind} {x y : Int} (e : x = y) : LeV h l (int k x) (int k y) := by subst e; exact .raw _
theorem leB {x y : Bool} (e : x = y) : LeV h l (bool x) (bool y) := by subst e; exact .raw _
theorem leS {x y : ByteArray} (e : x = y) : LeV h l (str x) (str y) := by subst e; exact .raw _
theorem leRo {k : IntKind} {x y : List Int} (e : x = y) : LeV h l (.roI k x) (.roI k y) := by subst e; exact .roI _ _
theorem leOwn {id id' off off' len len' sz : Nat} (e : l[id']? = some id) (eo : off = off') (el : len = len') : LeV h l (.own id off len sz) (.own id' off' len' sz) := by
  subst eo el; exact .own _ _ _ e
theorem leOint {k : IntKind} {x y : List Int} (e : x = y) : LeO h l (.ints k x) (.ints k y) := by subst e; exact .ints _ _
theorem le_pair {f : Nat → AV} {a b : AV} (h0 : LeV h l (f 0) a) (h1 : LeV h l (f 1) b) : LeV h l (.tup 2 f) (.tup 2 (pair a b)) :=
  .tup 2 f _ fun i hi => by
    match i, hi with
    | 0, _ => exact h0
    | 1, _ => exact h1
theorem le_triple {f : Nat → AV} {a b c : AV} (h0 : LeV h l (f 0) a) (h1 : LeV h l (f 1) b) (h2 : LeV h l (f 2) c) : LeV h l (.tup 3 f) (.tup 3 (triple a b c)) :=
  .tup 3 f _ fun i hi => by
    match i, hi with
    | 0, _ => exact h0
    | 1, _ => exact h1
    | 2, _ => exact h2

/-- A contract of the shelf's that leaves the world alone, over plain values. -/
theorem acalls_same {f : FuncId} {args : List Value} {v : Value} (hent : Entered P f) (hc : ∀ w, Calls P f args.toArray w fun e w' => e = .returned v ∧ w' = w) :
    ACalls P f (args.map .raw) [] (fun r h => r = .raw v ∧ h = []) := by
  refine ⟨hent, fun S0 L w vs hh hS hn hv => ?_⟩
  have hvs : vs = args.toArray := by
    apply Array.ext_getElem?
    intro i
    rcases Nat.lt_or_ge i args.length with hi | hi
    · obtain ⟨u, h1, h2⟩ := hv i (.raw args[i]) (by simp [hi])
      rw [h1]
      have : u = args[i] := h2
      simp [this, hi]
    · rw [Array.getElem?_eq_none (by simp at hn; omega), Array.getElem?_eq_none (by simpa using hi)]
  subst hvs
  refine (hc w).mono fun e w' he => ?_
  obtain ⟨rfl, rfl⟩ := he
  exact ⟨v, .raw v, [], L, rfl, ⟨rfl, rfl⟩, hh, rfl⟩

/-- The arguments, where all of them are plain values. -/
theorem raw_args {args : List Value} {vs : Array Value} {w : World} {S0 : Nat → Prop} {L : Loc} (hn : vs.size = (args.map AV.raw).length)
    (hv : ∀ (i : Nat) (a : AV), (args.map AV.raw)[i]? = some a → ∃ v, vs[i]? = some v ∧ den w S0 L a v) : vs = args.toArray := by
  apply Array.ext_getElem?
  intro i
  rcases Nat.lt_or_ge i args.length with hi | hi
  · obtain ⟨u, h1, h2⟩ := hv i (.raw args[i]) (by simp [hi])
    rw [h1]
    have : u = args[i] := h2
    simp [this, hi]
  · rw [Array.getElem?_eq_none (by simp at hn; omega), Array.getElem?_eq_none (by simpa using hi)]

/-- A contract of the kit's that makes new blocks at most, over plain values, in a world whose package-level variables are known. -/
theorem acalls_below {f : FuncId} {args : List Value} {r : AV} (hent : Entered P f) (hfree : r.free) (hflat : r.flat)
    (hc : ∀ (S : Nat → Prop) w, Glob S w → Calls P f args.toArray w fun e w' => ∃ v, e = .returned v ∧ den w' (fun _ => False) .zero r v ∧ RowKit.Below w.heap.size w w') :
    ACalls P f (args.map .raw) [] (fun r' h => r' = r ∧ h = []) := by
  refine ⟨hent, fun S0 L w vs hh hS hn hv => ?_⟩
  obtain rfl := raw_args hn hv
  refine (hc S0 w hh.fr.glob.2).mono fun e w' he => ?_
  obtain ⟨v, rfl, hd, hb⟩ := he
  refine ⟨v, r, [], L, rfl, ⟨rfl, rfl⟩, ⟨⟨hb.os, hb.tape, hb.output, hb.size, fun k hk _ => hb.block k hk, hh.fr.glob⟩, hh.n, Nat.le_refl _, fun i hi => absurd hi (Nat.not_lt_zero _),
    fun i j b hi => by obtain ⟨o, ho, _⟩ := hi; simp at ho, fun i b hi => by obtain ⟨o, ho, _⟩ := hi; simp at ho, fun i o ho => by simp at ho⟩, ?_⟩
  exact den_mono (fun _ _ => rfl) (fun _ h => h.elim) (Loc.zero_le L) r v hd

theorem ACalls.mono {f : FuncId} {args : List AV} {hp : List AO} {R R' : AV → List AO → Prop} (hc : ACalls P f args hp R) (hr : ∀ r h, R r h → R' r h) : ACalls P f args hp R' :=
  ⟨hc.1, fun S0 L w vs hh hS hn hv => (hc.2 S0 L w vs hh hS hn hv).mono fun e w' ⟨v, r, h', L', h1, h2, h3⟩ => ⟨v, r, h', L', h1, hr _ _ h2, h3⟩⟩

/-- A contract whose answer is known. -/
theorem ACalls.yes {f : FuncId} {args : List AV} {hp : List AO} {b : Bool} (hc : ACalls P f args hp (fun r h' => r = bool b ∧ h' = [])) (hb : b = true) : ACalls P f args hp (fun r h' => r = .tt ∧ h' = []) :=
  ⟨hc.1, fun S0 L w vs hh hS hn hv => (hc.2 S0 L w vs hh hS hn hv).mono fun e w' ⟨v, r, h', L', h1, ⟨h2, h5⟩, h3, h4⟩ => ⟨v, .tt, h', L', h1, ⟨rfl, h5⟩, h3, by rw [h2, hb] at h4; exact h4⟩⟩
theorem ACalls.not {f : FuncId} {args : List AV} {hp : List AO} {b : Bool} (hc : ACalls P f args hp (fun r h' => r = bool b ∧ h' = [])) (hb : b = false) : ACalls P f args hp (fun r h' => r = .ff ∧ h' = []) :=
  ⟨hc.1, fun S0 L w vs hh hS hn hv => (hc.2 S0 L w vs hh hS hn hv).mono fun e w' ⟨v, r, h', L', h1, ⟨h2, h5⟩, h3, h4⟩ => ⟨v, .ff, h', L', h1, ⟨rfl, h5⟩, h3, by rw [h2, hb] at h4; exact h4⟩⟩

/-- A bool, as the walk knows it best. -/
def tf : Bool → AV
  | true => .tt
  | false => .ff
theorem ACalls.tf {f : FuncId} {args : List AV} {hp : List AO} {b : Bool} (hc : ACalls P f args hp (fun r h' => r = bool b ∧ h' = [])) : ACalls P f args hp (fun r h' => r = AL.tf b ∧ h' = []) := by
  cases b
  · exact hc.not rfl
  · exact hc.yes rfl

omit [Globs] in
theorem glob_none {S : Nat → Prop} {w : World} : @Glob ⟨[]⟩ S w := fun g hg => by cases hg

theorem calls_of_acalls {f : FuncId} {args : List AV} {R : AV → List AO → Prop} (hc : ACalls P f args [] R) {w : World} {vs : Array Value} (hn : vs.size = args.length)
    (hv : ∀ (i : Nat) (x : AV), args[i]? = some x → ∃ v, vs[i]? = some v ∧ den w (fun b => b < w.heap.size) .zero x v) (hg : Glob (fun b => b < w.heap.size) w) :
    Calls P f vs w fun e w' => ∃ v r h' L' S', e = .returned v ∧ R r h' ∧ den w' S' L' r v ∧ RowKit.Below w.heap.size w w' := by
  refine (hc.2 (fun b => b < w.heap.size) .zero w vs ⟨⟨rfl, rfl, rfl, Nat.le_refl _, fun _ _ _ => rfl, fun b hb => ⟨hb, fun ⟨i, hi, _⟩ => absurd hi (Nat.not_lt_zero _)⟩, hg⟩, rfl, Nat.le_refl _, fun i hi => absurd hi (Nat.not_lt_zero _),
    fun i j b hi => by obtain ⟨o, ho, _⟩ := hi; simp at ho, fun i b hi => by obtain ⟨o, ho, _⟩ := hi; simp at ho, fun i o ho => by simp at ho⟩ (fun b hb => ⟨hb, fun i hi => absurd hi (Nat.not_lt_zero _)⟩) hn hv).mono fun e w' he => ?_
  obtain ⟨v, r, h', L', rfl, h1, h2, h3⟩ := he
  exact ⟨v, r, h', L', _, rfl, h1, h3, ⟨h2.fr.os, h2.fr.tape, h2.fr.output, h2.fr.size, fun k hk => h2.fr.block k hk fun ⟨i, hi, _⟩ => absurd hi (Nat.not_lt_zero _)⟩⟩

end
end Go.Proofs.YtmohncaoimeneaaDoor.AL
