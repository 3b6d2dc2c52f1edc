/-
  How what is known of a heap goes on: new blocks, blocks that are written, blocks that are let go. No program in sight.
-/
import Derived.Test.YtmohncaoimeneaaDoorAlSnd4
set_option linter.unusedVariables false
set_option linter.unusedSectionVars false
namespace Go.Proofs.YtmohncaoimeneaaDoor.AL
open Go
variable [Globs]

section
variable {P : Program} {C : Ctx} {t : List AV} {h : List AO} {L : Loc} {a : Act} {w : World}

/-- From one heap, as it is known, to another one. -/
structure Step (C : Ctx) (h : List AO) (L : Loc) (w : World) (h' : List AO) (L' : Loc) (w' : World) : Prop where
  rel : HRel C h' L' w'
  le : L.le L'
  keeps : keeps (SS C w h L) w w'
  ss : ∀ b, SS C w h L b → SS C w' h' L' b

theorem Step.refl (hr : HRel C h L w) : Step C h L w h L w := ⟨hr, .refl _, fun _ _ => rfl, fun _ h => h⟩
theorem Loc.le.trans {L M N : Loc} (h1 : L.le M) (h2 : M.le N) : L.le N :=
  ⟨Nat.le_trans h1.n h2.n, fun i hi => (h2.b i (Nat.lt_of_lt_of_le hi h1.n)).trans (h1.b i hi), fun i hi => (h2.sz i (Nat.lt_of_lt_of_le hi h1.n)).trans (h1.sz i hi)⟩
theorem Step.trans {h1 h2 : List AO} {L1 L2 : Loc} {w1 w2 : World} (s1 : Step C h L w h1 L1 w1) (s2 : Step C h1 L1 w1 h2 L2 w2) : Step C h L w h2 L2 w2 :=
  ⟨s2.rel, s1.le.trans s2.le, fun b hb => (s2.keeps b (s1.ss b hb)).trans (s1.keeps b hb), fun b hb => s2.ss b (s1.ss b hb)⟩
theorem Step.den {h' : List AO} {L' : Loc} {w' : World} (s : Step C h L w h' L' w') {x : AV} {v : Value} (hx : den w (SS C w h L) L x v) : den w' (SS C w' h' L') L' x v :=
  den_mono s.keeps s.ss s.le x v hx
theorem Step.relT {h' : List AO} {L' : Loc} {w' : World} (s : Step C h L w h' L' w') (hr : Rel C t h L a w) : Rel C t h' L' a w' :=
  ⟨s.rel, hr.size, fun i v hi => let ⟨u, h1, h2⟩ := hr.tmps i v hi; ⟨u, h1, s.den h2⟩, hr.defers⟩
theorem Rel.put (hr : Rel C t h L a w) {d : Option Tmp} {x : AV} {v : Value} (hx : den w (SS C w h L) L x v) {K : List AV → Prop} (hk : putK t d x K) :
    ∃ t', Rel C t' h L (a.put d v) w ∧ K t' := by
  cases d with
  | none => exact ⟨t, hr, hk⟩
  | some d =>
    refine ⟨t.set d x, ⟨hr.heap, by simp [Act.put, hr.size], fun i y hi => ?_, hr.defers⟩, setK_iff.1 hk⟩
    by_cases e : d = i
    · subst e
      have hlt : d < t.length := by
        rcases Nat.lt_or_ge d t.length with h' | h'
        · exact h'
        · rw [List.getElem?_eq_none (by simpa using h')] at hi; cases hi
      rw [List.getElem?_set_self (by simpa using hlt)] at hi
      obtain rfl := Option.some.inj hi
      exact ⟨v, by simp [Act.put, hr.size, hlt], hx⟩
    · rw [List.getElem?_set_ne e] at hi
      obtain ⟨u, h1, h2⟩ := hr.tmps i y hi
      exact ⟨u, by simp [Act.put, Array.getElem?_setIfInBounds_ne e, h1], h2⟩

structure Alike (w w' : World) : Prop where
  os : w'.os = w.os
  tape : w'.tape = w.tape
  output : w'.output = w.output
theorem Alike.refl (w : World) : Alike w w := ⟨rfl, rfl, rfl⟩

theorem step_of2 (hr : HRel C h L w) {h' : List AO} {L' : Loc} {w' : World} (hs : Alike w w') (hsize : w.heap.size ≤ w'.heap.size) (hle : L.le L') (hn : L'.n = h'.length)
    (hlen : h.length ≤ h'.length)
    (hch : ∀ k, k < w.heap.size → w'.heap[k]? = w.heap[k]? ∨ ∃ i, Live h i ∧ L.b i = some k)
    (hlive : ∀ i b, Live h' i → L'.b i = some b → b < w'.heap.size ∧ (w.heap.size ≤ b ∨ ∃ j, Live h j ∧ L.b j = some b))
    (hinj : ∀ i j b, Live h' i → Live h' j → L'.b i = some b → L'.b j = some b → i = j)
    (hobj : (∀ b, SS C w h L b → SS C w' h' L' b) → AL.keeps (SS C w h L) w w' → ∀ (i : Nat) (o : AO), h'[i]? = some o → objIs w' (SS C w' h' L') L' (L'.b i) (L'.sz i) o) : Step C h L w h' L' w' := by
  have hk : AL.keeps (SS C w h L) w w' := fun b hb => (hch b hb.1).resolve_right fun ⟨i, hi, e⟩ => hb.2.2 i hi e
  have hss : ∀ b, SS C w h L b → SS C w' h' L' b := fun b hb => ⟨Nat.lt_of_lt_of_le hb.1 hsize, hb.2.1, fun i hi e => by
    rcases (hlive i b hi e).2 with h1 | ⟨j, hj, e'⟩
    · exact absurd hb.1 (by omega)
    · exact hb.2.2 j hj e'⟩
  refine ⟨⟨⟨hs.os.trans hr.fr.os, hs.tape.trans hr.fr.tape, hs.output.trans hr.fr.output, Nat.le_trans hr.fr.size hsize, fun k hk0 ho => ?_, hr.fr.glob⟩, hn, Nat.le_trans hr.np hlen, fun i hi => ?_, hinj, fun i b hi e => ?_, fun i o ho => ?_⟩, hle, hk, hss⟩
  · rcases hch k (Nat.lt_of_lt_of_le hk0 hr.fr.size) with h1 | ⟨i, hi, e⟩
    · rw [h1]; exact hr.fr.block k hk0 ho
    · rcases (hr.mine i k hi e).2 with h2 | h2
      · omega
      · exact absurd h2 ho
  · have h1 : i < L.n := by rw [hr.n]; exact Nat.lt_of_lt_of_le hi hr.np
    have := hr.pre i hi
    exact ⟨by rw [hle.b i h1]; exact this.1, by rw [hle.sz i h1]; exact this.2⟩
  · obtain ⟨h1, h2⟩ := hlive i b hi e
    refine ⟨h1, ?_⟩
    rcases h2 with h2 | ⟨j, hj, e'⟩
    · exact .inl (Nat.le_trans hr.fr.size h2)
    · exact (hr.mine j b hj e').2
  · exact hobj hss hk i o ho

theorem step_of (hr : HRel C h L w) {h' : List AO} {L' : Loc} {w' : World} (hs : Alike w w') (hsize : w.heap.size ≤ w'.heap.size) (hle : L.le L') (hn : L'.n = h'.length)
    (hlen : h.length ≤ h'.length)
    (hch : ∀ k, k < w.heap.size → w'.heap[k]? = w.heap[k]? ∨ ∃ i, Live h i ∧ L.b i = some k)
    (hlive : ∀ i b, Live h' i → L'.b i = some b → b < w'.heap.size ∧ (w.heap.size ≤ b ∨ ∃ j, Live h j ∧ L.b j = some b))
    (hinj : ∀ i j b, Live h' i → Live h' j → L'.b i = some b → L'.b j = some b → i = j)
    (hobj : ∀ (i : Nat) (o : AO), h'[i]? = some o → objIs w' (SS C w h L) L' (L'.b i) (L'.sz i) o) : Step C h L w h' L' w' := by
  exact step_of2 hr hs hsize hle hn hlen hch hlive hinj fun hss _ i o ho => objIs_mono (fun _ _ => rfl) hss (.refl _) (fun _ _ _ => rfl) (hobj i o ho)

/-- One place more. -/
def Loc.push (L : Loc) (b : Option Nat) (sz : Nat) : Loc := ⟨L.n + 1, fun i => if i = L.n then b else L.b i, fun i => if i = L.n then sz else L.sz i⟩
theorem Loc.push_le (L : Loc) (b : Option Nat) (sz : Nat) : L.le (L.push b sz) :=
  ⟨Nat.le_succ _, fun i hi => if_neg (by omega), fun i hi => if_neg (by omega)⟩
theorem live_lt {i : Nat} (hl : Live h i) : i < h.length := by
  obtain ⟨o, ho, _⟩ := hl
  exact (List.getElem?_eq_some_iff.1 ho).1
theorem live_append {o : AO} {i : Nat} (hl : Live (h ++ [o]) i) : (i < h.length ∧ Live h i) ∨ i = h.length := by
  obtain ⟨p, hp, hl⟩ := hl
  rcases Nat.lt_or_ge i h.length with h1 | h1
  · rw [List.getElem?_append_left h1] at hp; exact .inl ⟨h1, p, hp, hl⟩
  · have := (List.getElem?_eq_some_iff.1 hp).1
    simp at this
    exact .inr (by omega)
theorem get_append {o p : AO} {i : Nat} (hp : (h ++ [o])[i]? = some p) : (i < h.length ∧ h[i]? = some p) ∨ (i = h.length ∧ p = o) := by
  rcases Nat.lt_or_ge i h.length with h1 | h1
  · rw [List.getElem?_append_left h1] at hp; exact .inl ⟨h1, hp⟩
  · have := (List.getElem?_eq_some_iff.1 hp).1
    simp at this
    have e : i = h.length := by omega
    subst e
    simp at hp
    exact .inr ⟨rfl, hp.symm⟩
theorem get_set {o p : AO} {i id : Nat} (hp : (h.set id o)[i]? = some p) : (i = id ∧ p = o) ∨ (i ≠ id ∧ h[i]? = some p) := by
  by_cases e : id = i
  · subst e
    have := (List.getElem?_eq_some_iff.1 hp).1
    rw [List.getElem?_set_self (by simpa using this)] at hp
    exact .inl ⟨rfl, (Option.some.inj hp).symm⟩
  · rw [List.getElem?_set_ne e] at hp
    exact .inr ⟨fun h => e h.symm, hp⟩
theorem live_set {o : AO} {i id : Nat} (hl : Live (h.set id o) i) : (i = id ∧ o.live) ∨ (i ≠ id ∧ Live h i) := by
  obtain ⟨p, hp, hl⟩ := hl
  rcases get_set hp with ⟨h1, h2⟩ | ⟨h1, h2⟩
  · exact .inl ⟨h1, h2 ▸ hl⟩
  · exact .inr ⟨h1, p, h2, hl⟩

/-- A block of the call's own that is not the block b reads as it did. -/
theorem old_obj (hr : HRel C h L w) {L' : Loc} {w' : World} (hle : L.le L') {i : Nat} {o : AO} (ho : h[i]? = some o)
    (hk : ∀ k, SS C w h L k → w'.heap[k]? = w.heap[k]?) (hb : ∀ b, o.live → L.b i = some b → w'.heap[b]? = w.heap[b]?) : objIs w' (SS C w h L) L' (L'.b i) (L'.sz i) o := by
  have hi : i < L.n := by rw [hr.n]; exact (List.getElem?_eq_some_iff.1 ho).1
  rw [hle.b i hi, hle.sz i hi]
  exact objIs_mono (fun b hb => hk b hb) (fun _ h => h) hle (fun b hl e => hb b hl e) (hr.objs i o ho)

/-- A new block. -/
theorem step_new (hr : HRel C h L w) {w' : World} {ob : Obj} (hs : Alike w w') (hw : w'.heap = w.heap.push ob) {o : AO} {sz : Nat}
    (ho : ∀ L', L.le L' → objIs w' (SS C w h L) L' (some w.heap.size) sz o) : Step C h L w (h ++ [o]) (L.push (some w.heap.size) sz) w' := by
  have hold : ∀ k, k < w.heap.size → w'.heap[k]? = w.heap[k]? := fun k hk => by rw [hw, Array.getElem?_push_lt hk, Array.getElem?_eq_getElem hk]
  have hL := L.push_le (some w.heap.size) sz
  have hn := hr.n
  refine step_of hr hs (by rw [hw]; simp) hL (by simp [Loc.push, hn]) (by simp) (fun k hk => .inl (hold k hk)) (fun i b hi e => ?_) (fun i j b hi hj ei ej => ?_) (fun i p hp => ?_)
  · rcases live_append hi with ⟨h1, h2⟩ | h1
    · rw [hL.b i (by omega)] at e
      exact ⟨by rw [hw]; have := (hr.mine i b h2 e).1; simp; omega, .inr ⟨i, h2, e⟩⟩
    · subst h1
      simp [Loc.push, hn] at e
      subst e
      exact ⟨by rw [hw]; simp, .inl (Nat.le_refl _)⟩
  · rcases live_append hi with ⟨h1, h2⟩ | h1
    · rw [hL.b i (by omega)] at ei
      rcases live_append hj with ⟨h3, h4⟩ | h3
      · rw [hL.b j (by omega)] at ej
        exact hr.inj i j b h2 h4 ei ej
      · subst h3
        simp [Loc.push, hn] at ej
        have := (hr.mine i b h2 ei).1
        omega
    · subst h1
      simp [Loc.push, hn] at ei
      rcases live_append hj with ⟨h3, h4⟩ | h3
      · rw [hL.b j (by omega)] at ej
        have := (hr.mine j b h4 ej).1
        omega
      · exact h3.symm
  · rcases get_append hp with ⟨h1, h2⟩ | ⟨h1, h2⟩
    · exact old_obj hr hL h2 (fun k hk => hold k hk.1) (fun b hl e => hold b (hr.mine i b ⟨p, h2, hl⟩ e).1)
    · subst h1 h2
      have := ho (L.push (some w.heap.size) sz) hL
      simpa [Loc.push, hn] using this

/-- A block of the call's own is written. -/
theorem step_upd (hr : HRel C h L w) {w' : World} {id b : Nat} (hs : Alike w w') (hsz : w'.heap.size = w.heap.size) (hl : Live h id) (hb : L.b id = some b)
    (hw : ∀ k, k ≠ b → w'.heap[k]? = w.heap[k]?) {o : AO} (ho : objIs w' (SS C w h L) L (L.b id) (L.sz id) o) : Step C h L w (h.set id o) L w' := by
  have ne : ∀ i k, i ≠ id → Live h i → L.b i = some k → k ≠ b := fun i k hi hli e hkb => hi (hr.inj i id b hli hl (hkb ▸ e) hb)
  have nss : ∀ k, SS C w h L k → k ≠ b := fun k hk e => hk.2.2 id hl (e ▸ hb)
  refine step_of hr hs (by omega) (.refl _) (by simp [hr.n]) (by simp) (fun k hk => ?_) (fun i k hi e => ?_) (fun i j k hi hj ei ej => ?_) (fun i p hp => ?_)
  · by_cases e : k = b
    · exact .inr ⟨id, hl, e ▸ hb⟩
    · exact .inl (hw k e)
  · rcases live_set hi with ⟨rfl, h1⟩ | ⟨h1, h2⟩
    · exact ⟨by rw [hsz]; exact (hr.mine i k hl e).1, .inr ⟨i, hl, e⟩⟩
    · exact ⟨by rw [hsz]; exact (hr.mine i k h2 e).1, .inr ⟨i, h2, e⟩⟩
  · have g : ∀ i, Live (h.set id o) i → Live h i := fun i hi => by
      rcases live_set hi with ⟨rfl, h1⟩ | ⟨h1, h2⟩
      · exact hl
      · exact h2
    exact hr.inj i j k (g i hi) (g j hj) ei ej
  · rcases get_set hp with ⟨rfl, rfl⟩ | ⟨h1, h2⟩
    · exact ho
    · exact old_obj hr (.refl _) h2 (fun k hk => hw k (nss k hk)) (fun k hlp e => hw k (ne i k h1 ⟨p, h2, hlp⟩ e))

/-- A block of the call's own is let go. -/
theorem step_kill (hr : HRel C h L w) {w' : World} {id : Nat} (hs : Alike w w') (hw : w'.heap = w.heap) : Step C h L w (h.set id .dead) L w' := by
  have g : ∀ i, Live (h.set id .dead) i → Live h i := fun i hi => by
    rcases live_set hi with ⟨rfl, h1⟩ | ⟨h1, h2⟩
    · exact h1.elim
    · exact h2
  refine step_of hr hs (by rw [hw]; exact Nat.le_refl _) (.refl _) (by simp [hr.n]) (by simp) (fun k hk => .inl (by rw [hw])) (fun i k hi e => ?_) (fun i j k hi hj ei ej => ?_) (fun i p hp => ?_)
  · exact ⟨by rw [hw]; exact (hr.mine i k (g i hi) e).1, .inr ⟨i, g i hi, e⟩⟩
  · exact hr.inj i j k (g i hi) (g j hj) ei ej
  · rcases get_set hp with ⟨rfl, rfl⟩ | ⟨h1, h2⟩
    · trivial
    · exact old_obj hr (.refl _) h2 (fun k _ => by rw [hw]) (fun k _ _ => by rw [hw])

/-- A block of the call's own is written, and has another place from now on. -/
theorem step_move (hr : HRel C h L w) {w' : World} {id b : Nat} (hs : Alike w w') (hsz : w'.heap.size = w.heap.size) (hl : Live h id) (hb : L.b id = some b)
    (hw : ∀ k, k ≠ b → w'.heap[k]? = w.heap[k]?) {o : AO} (ho : ∀ L', L.le L' → objIs w' (SS C w h L) L' (some b) (L.sz id) o) :
    Step C h L w (h.set id .dead ++ [o]) (L.push (some b) (L.sz id)) w' := by
  have ne : ∀ i k, i ≠ id → Live h i → L.b i = some k → k ≠ b := fun i k hi hli e hkb => hi (hr.inj i id b hli hl (hkb ▸ e) hb)
  have nss : ∀ k, SS C w h L k → k ≠ b := fun k hk e => hk.2.2 id hl (e ▸ hb)
  have hL := L.push_le (some b) (L.sz id)
  have hn := hr.n
  have g : ∀ i, Live (h.set id .dead) i → i ≠ id ∧ Live h i := fun i hi => by
    rcases live_set hi with ⟨rfl, h1⟩ | h1
    · exact h1.elim
    · exact h1
  refine step_of hr hs (by omega) hL (by simp [Loc.push, hn]) (by simp) (fun k hk => ?_) (fun i k hi e => ?_) (fun i j k hi hj ei ej => ?_) (fun i p hp => ?_)
  · by_cases e : k = b
    · exact .inr ⟨id, hl, e ▸ hb⟩
    · exact .inl (hw k e)
  · rcases live_append hi with ⟨h1, h2⟩ | h1
    · simp at h1
      rw [hL.b i (by omega)] at e
      exact ⟨by rw [hsz]; exact (hr.mine i k (g i h2).2 e).1, .inr ⟨i, (g i h2).2, e⟩⟩
    · simp at h1
      subst h1
      simp [Loc.push, hn] at e
      subst e
      exact ⟨by rw [hsz]; exact (hr.mine id b hl hb).1, .inr ⟨id, hl, hb⟩⟩
  · rcases live_append hi with ⟨h1, h2⟩ | h1
    · simp at h1
      rw [hL.b i (by omega)] at ei
      rcases live_append hj with ⟨h3, h4⟩ | h3
      · simp at h3
        rw [hL.b j (by omega)] at ej
        exact hr.inj i j k (g i h2).2 (g j h4).2 ei ej
      · simp at h3
        subst h3
        simp [Loc.push, hn] at ej
        exact absurd ej.symm (ne i k (g i h2).1 (g i h2).2 ei)
    · simp at h1
      subst h1
      simp [Loc.push, hn] at ei
      rcases live_append hj with ⟨h3, h4⟩ | h3
      · simp at h3
        rw [hL.b j (by omega)] at ej
        exact absurd ei.symm (ne j k (g j h4).1 (g j h4).2 ej)
      · simp at h3
        exact h3.symm
  · rcases get_append hp with ⟨h1, h2⟩ | ⟨h1, h2⟩
    · rcases get_set h2 with ⟨rfl, rfl⟩ | ⟨h3, h4⟩
      · trivial
      · exact old_obj hr hL h4 (fun k hk => hw k (nss k hk)) (fun k hlp e => hw k (ne i k h3 ⟨p, h4, hlp⟩ e))
    · simp at h1
      subst h1 h2
      have := ho (L.push (some b) (L.sz id)) hL
      simpa [Loc.push, hn] using this

end
end Go.Proofs.YtmohncaoimeneaaDoor.AL
