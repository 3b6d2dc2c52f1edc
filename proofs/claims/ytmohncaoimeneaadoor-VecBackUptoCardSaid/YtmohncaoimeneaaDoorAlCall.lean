/-
  The state's own logic is sound: calls by their contracts. No program in sight.
-/
import Derived.Test.YtmohncaoimeneaaDoorAlEff4
set_option linter.unusedVariables false
set_option linter.unusedSimpArgs false
set_option linter.unusedSectionVars false
namespace Go.Proofs.YtmohncaoimeneaaDoor.AL
open Go
variable [Globs]

section
variable {P : Program} {C : Ctx} {t : List AV} {h : List AO} {L : Loc} {a : Act} {w : World}

theorem den_free {w : World} {S : Nat → Prop} {L : Loc} (M : Loc) : ∀ (a : AV) (v : Value), a.free → den w S L a v → den w S M a v
  | .top, _, _, _ => trivial
  | .raw _, _, _, h => h
  | .tt, _, _, h => h
  | .ff, _, _, h => h
  | .own _ _ _ _, _, h, _ => h.elim
  | .ptr _ _, _, h, _ => h.elim
  | .mp _, _, h, _ => h.elim
  | .rp _ _, _, _, h => h
  | .ro _ _ _, _, _, h => h
  | .roI _ _, _, _, h => h
  | .aggI _ _, _, _, h => h
  | .ifc, _, _, h => h
  | .agg n f, v, hf, h => by
    obtain ⟨vs, e, hn, h⟩ := h
    exact ⟨vs, e, hn, fun i hi => let ⟨u, h1, h2⟩ := h i hi; ⟨u, h1, den_free M (f i) u (hf i hi) h2⟩⟩
  | .tup n f, v, hf, h => by
    obtain ⟨vs, e, hn, h⟩ := h
    exact ⟨vs, e, hn, fun i hi => let ⟨u, h1, h2⟩ := h i hi; ⟨u, h1, den_free M (f i) u (hf i hi) h2⟩⟩
  | .clo fn n f, v, hf, h => by
    obtain ⟨vs, e, hn, h⟩ := h
    exact ⟨vs, e, hn, fun i hi => let ⟨u, h1, h2⟩ := h i hi; ⟨u, h1, den_free M (f i) u (hf i hi) h2⟩⟩

theorem den_flat {w : World} {S : Nat → Prop} {L : Loc} (S' : Nat → Prop) : ∀ (a : AV) (v : Value), a.flat → den w S L a v → den w S' L a v
  | .top, _, _, _ => trivial
  | .raw _, _, _, h => h
  | .tt, _, _, h => h
  | .ff, _, _, h => h
  | .own _ _ _ _, _, _, h => h
  | .ptr _ _, _, _, h => h
  | .mp _, _, _, h => h
  | .rp _ _, _, h, _ => h.elim
  | .ro _ _ _, _, h, _ => h.elim
  | .roI _ _, _, h, _ => h.elim
  | .aggI _ _, _, _, h => h
  | .ifc, _, _, h => h
  | .agg n f, v, hf, h => by
    obtain ⟨vs, e, hn, h⟩ := h
    exact ⟨vs, e, hn, fun i hi => let ⟨u, h1, h2⟩ := h i hi; ⟨u, h1, den_flat S' (f i) u (hf i hi) h2⟩⟩
  | .tup n f, v, hf, h => by
    obtain ⟨vs, e, hn, h⟩ := h
    exact ⟨vs, e, hn, fun i hi => let ⟨u, h1, h2⟩ := h i hi; ⟨u, h1, den_flat S' (f i) u (hf i hi) h2⟩⟩
  | .clo fn n f, v, hf, h => by
    obtain ⟨vs, e, hn, h⟩ := h
    exact ⟨vs, e, hn, fun i hi => let ⟨u, h1, h2⟩ := h i hi; ⟨u, h1, den_flat S' (f i) u (hf i hi) h2⟩⟩

theorem den_ren {w : World} {S : Nat → Prop} {M N : Loc} {g : Nat → Nat} (hg : ∀ p, p < M.n → g p < N.n ∧ N.b (g p) = M.b p ∧ N.sz (g p) = M.sz p) :
    ∀ (a : AV) (v : Value), den w S M a v → den w S N (a.ren g) v
  | .top, _, _ => trivial
  | .raw _, _, h => h
  | .tt, _, h => h
  | .ff, _, h => h
  | .own id off len sz, v, h => by
    obtain ⟨hi, h⟩ := h
    obtain ⟨g1, g2, g3⟩ := hg id hi
    refine ⟨g1, ?_⟩
    rcases h with h | ⟨b, cap, h1, h2, h3, h4⟩
    · exact .inl h
    · exact .inr ⟨b, cap, by rw [g2]; exact h1, h2, h3, by rw [g3]; exact h4⟩
  | .ptr id off, v, h => by
    obtain ⟨hi, b, h1, h2⟩ := h
    obtain ⟨g1, g2, g3⟩ := hg id hi
    exact ⟨g1, b, by rw [g2]; exact h1, h2⟩
  | .mp id, v, h => by
    obtain ⟨hi, b, h1, h2⟩ := h
    obtain ⟨g1, g2, g3⟩ := hg id hi
    exact ⟨g1, b, by rw [g2]; exact h1, h2⟩
  | .ifc, _, h => h
  | .rp _ _, _, h => h
  | .ro _ _ _, _, h => h
  | .roI _ _, _, h => h
  | .aggI _ _, _, h => h
  | .agg n f, v, h => by
    obtain ⟨vs, e, hn, h⟩ := h
    exact ⟨vs, e, hn, fun i hi => let ⟨u, h1, h2⟩ := h i hi; ⟨u, h1, den_ren hg (f i) u h2⟩⟩
  | .tup n f, v, h => by
    obtain ⟨vs, e, hn, h⟩ := h
    exact ⟨vs, e, hn, fun i hi => let ⟨u, h1, h2⟩ := h i hi; ⟨u, h1, den_ren hg (f i) u h2⟩⟩
  | .clo fn n f, v, h => by
    obtain ⟨vs, e, hn, h⟩ := h
    exact ⟨vs, e, hn, fun i hi => let ⟨u, h1, h2⟩ := h i hi; ⟨u, h1, den_ren hg (f i) u h2⟩⟩

/-- Places, some of them, in a new order. -/
def Loc.sel (L : Loc) (l : List Nat) : Loc :=
  ⟨l.length, fun i => match l[i]? with | some j => L.b j | none => none, fun i => match l[i]? with | some j => L.sz j | none => 0⟩
theorem sel_b {l : List Nat} {i j : Nat} (e : l[i]? = some j) : (L.sel l).b i = L.b j := by simp [Loc.sel, e]
theorem sel_sz {l : List Nat} {i j : Nat} (e : l[i]? = some j) : (L.sel l).sz i = L.sz j := by simp [Loc.sel, e]

theorem idxOf_some {l : List Nat} {id p : Nat} (h : l.idxOf? id = some p) : l[p]? = some id := by
  rw [List.idxOf?_eq_some_iff] at h
  obtain ⟨hp, e, _⟩ := h
  rw [List.getElem?_eq_getElem hp, e]
theorem idxOf_none {l : List Nat} {id : Nat} (h : l.idxOf? id = none) : id ∉ l := by
  rwa [List.idxOf?_eq_none_iff] at h

theorem givesK_spec {w : World} {S S' : Nat → Prop} {M N : Loc} {gv : AV → (AV → Prop) → Prop} (hg : ∀ {a v K}, den w S M a v → gv a K → ∃ y, K y ∧ den w S' N y v) :
    ∀ {l : List AV} {vs : List Value} {K : List AV → Prop}, (∀ i, i < l.length → ∃ u, vs[i]? = some u ∧ den w S M (l.getD i .top) u) → givesK gv l K →
    ∃ r, K r ∧ r.length = l.length ∧ ∀ i, i < l.length → ∃ u, vs[i]? = some u ∧ den w S' N (r.getD i .top) u
  | [], vs, K, _, hk => ⟨[], hk, rfl, fun i hi => absurd hi (by simp)⟩
  | a :: l, vs, K, hv, hk => by
    obtain ⟨u, h1, h2⟩ := hv 0 (by simp)
    obtain ⟨y, hk1, hy⟩ := hg h2 hk
    obtain ⟨r, hk2, h3, h4⟩ := givesK_spec hg (l := l) (vs := vs.drop 1) (fun i hi => by
      obtain ⟨u, g1, g2⟩ := hv (i + 1) (by simp; omega)
      exact ⟨u, by rw [List.getElem?_drop, Nat.add_comm]; exact g1, by simpa using g2⟩) hk1
    refine ⟨y :: r, hk2, by simp [h3], fun i hi => ?_⟩
    cases i with
    | zero => exact ⟨u, h1, hy⟩
    | succ i =>
      obtain ⟨u, g1, g2⟩ := h4 i (by simpa using hi)
      rw [List.getElem?_drop, Nat.add_comm] at g1
      exact ⟨u, g1, by simpa using g2⟩

theorem tab_den {w : World} {S : Nat → Prop} {M : Loc} {n : Nat} {f : Nat → AV} {vs : Array Value} (h : ∀ i, i < n → ∃ u, vs[i]? = some u ∧ den w S M (f i) u) :
    ∀ i, i < ((List.range n).map f).length → ∃ u, vs.toList[i]? = some u ∧ den w S M (((List.range n).map f).getD i .top) u := fun i hi => by
  simp at hi
  obtain ⟨u, g1, g2⟩ := h i hi
  exact ⟨u, by simpa using g1, by simpa [List.getD_eq_getElem?_getD, hi] using g2⟩
theorem den_tab {w : World} {S : Nat → Prop} {M : Loc} {n : Nat} {f : Nat → AV} {r : List AV} {vs : Array Value} (hn : r.length = ((List.range n).map f).length) (h : ∀ i, i < ((List.range n).map f).length → ∃ u, vs.toList[i]? = some u ∧ den w S M (r.getD i .top) u) :
    ∀ i, i < n → ∃ u, vs[i]? = some u ∧ den w S M (r.getD i .top) u := fun i hi => by
  obtain ⟨u, g1, g2⟩ := h i (by simpa using hi)
  exact ⟨u, by simpa using g1, g2⟩

theorem lowC_spec {w : World} {S S1 : Nat → Prop} {pass : List Nat} (hS : ∀ b, S b → S1 b) : ∀ (n : Nat) {a : AV} {v : Value} {K : AV → Prop}, den w S L a v → lowC pass n a K → ∃ y, K y ∧ den w S1 (L.sel pass) y v
  | 0, _, _, _, _, hk => hk.elim
  | n + 1, a, v, K, hx, hk => by
    have mono : ∀ (y : AV), y.free → den w S L y v → den w S1 (L.sel pass) y v := fun y hf hy => den_free _ y v hf (den_mono (fun _ _ => rfl) hS (.refl _) y v hy)
    unfold lowC at hk
    split at hk
    · rename_i id off len sz
      split at hk
      · rename_i p hp
        have e := idxOf_some hp
        obtain ⟨hid, hx⟩ := hx
        refine ⟨_, hk, (List.getElem?_eq_some_iff.1 e).1, ?_⟩
        rcases hx with h1 | ⟨b, cap, h1, h2, h3, h4⟩
        · exact .inl h1
        · exact .inr ⟨b, cap, by rw [sel_b e]; exact h1, h2, h3, by rw [sel_sz e]; exact h4⟩
      · exact hk.elim
    · rename_i id off
      split at hk
      · rename_i p hp
        have e := idxOf_some hp
        obtain ⟨hid, b, h1, h2⟩ := hx
        exact ⟨_, hk, (List.getElem?_eq_some_iff.1 e).1, b, by rw [sel_b e]; exact h1, h2⟩
      · exact hk.elim
    · rename_i id
      split at hk
      · rename_i p hp
        have e := idxOf_some hp
        obtain ⟨hid, b, h1, h2⟩ := hx
        exact ⟨_, hk, (List.getElem?_eq_some_iff.1 e).1, b, by rw [sel_b e]; exact h1, h2⟩
      · exact hk.elim
    · obtain ⟨vs, rfl, hn, hc⟩ := hx
      obtain ⟨r, hk2, h1, h2⟩ := givesK_spec (fun hd hk => lowC_spec hS n hd hk) (tab_den hc) hk
      exact ⟨_, hk2, vs, rfl, hn, den_tab h1 h2⟩
    · obtain ⟨vs, rfl, hn, hc⟩ := hx
      obtain ⟨r, hk2, h1, h2⟩ := givesK_spec (fun hd hk => lowC_spec hS n hd hk) (tab_den hc) hk
      exact ⟨_, hk2, vs, rfl, hn, den_tab h1 h2⟩
    · obtain ⟨vs, rfl, hn, hc⟩ := hx
      obtain ⟨r, hk2, h1, h2⟩ := givesK_spec (fun hd hk => lowC_spec hS n hd hk) (tab_den hc) hk
      exact ⟨_, hk2, vs, rfl, hn, den_tab h1 h2⟩
    · rename_i h1 h2 h3 h4 h5 h6
      refine ⟨a, hk, mono a ?_ hx⟩
      cases a <;> first
        | trivial
        | exact absurd rfl (h1 _ _ _ _)
        | exact absurd rfl (h2 _ _)
        | exact absurd rfl (h3 _)
        | exact absurd rfl (h4 _ _ _)
        | exact absurd rfl (h5 _ _)
        | exact absurd rfl (h6 _ _)

theorem lowK_spec (hr : HRel C h L w) {pass : List Nat} {S1 : Nat → Prop} (hS : ∀ b, SS C w h L b → S1 b) {x : AV} {v : Value} {K : AV → Prop}
    (hlet : noLow1 pass x = false → ∀ id b, Live h id → id ∉ pass → L.b id = some b → S1 b) (hx : den w (SS C w h L) L x v) (hk : lowK h pass x K) :
    ∃ y, K y ∧ den w S1 (L.sel pass) y v := by
  have mono : ∀ (y : AV), y.free → den w (SS C w h L) L y v → den w S1 (L.sel pass) y v := fun y hf hy => den_free _ y v hf (den_mono (fun _ _ => rfl) hS (.refl _) y v hy)
  unfold lowK at hk
  split at hk
  · rename_i id off len sz
    split at hk
    · rename_i p hp
      have e := idxOf_some hp
      have hlt : p < pass.length := (List.getElem?_eq_some_iff.1 e).1
      obtain ⟨hid, hx⟩ := hx
      refine ⟨_, hk, hlt, ?_⟩
      rcases hx with h1 | ⟨b, cap, h1, h2, h3, h4⟩
      · exact .inl h1
      · exact .inr ⟨b, cap, by rw [sel_b e]; exact h1, h2, h3, by rw [sel_sz e]; exact h4⟩
    · rename_i hp
      have hnp := idxOf_none hp
      have hlet' := hlet (by simp [noLow1, hp])
      replace hk := getO_iff.1 hk
      obtain ⟨o, ho, hk⟩ := hk
      have hob := hr.objs id o ho
      obtain ⟨hid, hx⟩ := hx
      cases o with
      | dead => exact hk.elim
      | map n key val => exact hk.elim
      | ints k xs =>
        obtain ⟨rfl, hle, hk2⟩ := sure_iff.1 hk
        refine ⟨_, hk2, ?_⟩
        have hl : ((xs.drop off).take len).length = len := by simp; omega
        rcases hx with ⟨rfl, A, rfl⟩ | ⟨b, cap, hb, rfl, hcap, hsz⟩
        · exact ⟨A, 0, by simp, by simp, fun i hi => by simp at hi⟩
        · refine ⟨_, cap, by rw [hl], by rw [hl]; exact hcap, fun i hi => ⟨b, off, rfl, hlet' id b ⟨_, ho, trivial⟩ hnp hb, ?_⟩⟩
          rw [hl] at hi
          exact own_ints (len := len) (cap := cap) hr ho hb hle i hi
      | row n f =>
        obtain ⟨hle, hf, hk2⟩ := hk
        refine ⟨_, hk2, ?_⟩
        rcases hx with ⟨rfl, A, rfl⟩ | ⟨b, cap, hb, rfl, hcap, hsz⟩
        · exact ⟨A, 0, rfl, Nat.le_refl _, fun i hi => by simp at hi⟩
        · refine ⟨_, cap, rfl, hcap, fun i hi => ?_⟩
          obtain ⟨u, h1, h2⟩ := own_cell hob hb (i := off + i) (by omega)
          exact ⟨u, ⟨b, off, rfl, hlet' id b ⟨_, ho, trivial⟩ hnp hb, h1⟩, den_free _ _ _ (hf i hi) (den_mono (fun _ _ => rfl) hS (.refl _) _ _ h2)⟩
      | lst l =>
        obtain ⟨hle, hf, hk2⟩ := hk
        refine ⟨_, hk2, ?_⟩
        rcases hx with ⟨rfl, A, rfl⟩ | ⟨b, cap, hb, rfl, hcap, hsz⟩
        · exact ⟨A, 0, rfl, Nat.le_refl _, fun i hi => by simp at hi⟩
        · refine ⟨_, cap, rfl, hcap, fun i hi => ?_⟩
          obtain ⟨u, h1, h2⟩ := own_cell hob hb (i := off + i) (by omega)
          exact ⟨u, ⟨b, off, rfl, hlet' id b ⟨_, ho, trivial⟩ hnp hb, h1⟩, den_free _ _ _ (hf i hi) (den_mono (fun _ _ => rfl) hS (.refl _) _ _ h2)⟩
  · rename_i id off
    split at hk
    · rename_i p hp
      have e := idxOf_some hp
      obtain ⟨hid, b, h1, h2⟩ := hx
      exact ⟨_, hk, (List.getElem?_eq_some_iff.1 e).1, b, by rw [sel_b e]; exact h1, h2⟩
    · exact hk.elim
  · rename_i id
    split at hk
    · rename_i p hp
      have e := idxOf_some hp
      obtain ⟨hid, b, h1, h2⟩ := hx
      exact ⟨_, hk, (List.getElem?_eq_some_iff.1 e).1, b, by rw [sel_b e]; exact h1, h2⟩
    · exact hk.elim
  · exact ⟨_, hk.2, mono _ hk.1 hx⟩
  · exact ⟨_, hk.2, mono _ hk.1 hx⟩
  · exact lowC_spec hS 4 hx hk
  · rename_i h1 h2 h3 h4 h5 h6
    refine ⟨x, hk, mono x ?_ hx⟩
    cases x <;> first
      | trivial
      | exact absurd rfl (h1 _ _ _ _)
      | exact absurd rfl (h2 _ _)
      | exact absurd rfl (h3 _)
      | exact absurd rfl (h4 _ _)
      | exact absurd rfl (h5 _ _)
      | exact absurd rfl (h6 _ _ _)

theorem lowsK_spec (hr : HRel C h L w) {pass : List Nat} {S1 : Nat → Prop} (hS : ∀ b, SS C w h L b → S1 b) : ∀ {xs : List AV} {vs : List Value} {K : List AV → Prop},
    (noLow pass xs = false → ∀ id b, Live h id → id ∉ pass → L.b id = some b → S1 b) → vs.length = xs.length → (∀ i, i < xs.length → ∃ v, vs[i]? = some v ∧ den w (SS C w h L) L (xs.getD i .top) v) → lowsK h pass xs K →
    ∃ ys, K ys ∧ ys.length = xs.length ∧ ∀ i, i < xs.length → ∃ v, vs[i]? = some v ∧ den w S1 (L.sel pass) (ys.getD i .top) v
  | [], _, K, _, _, _, hk => ⟨[], hk, rfl, by simp⟩
  | x :: xs, [], K, _, hl, _, _ => by simp at hl
  | x :: xs, v :: vs, K, hlet, hl, hv, hk => by
    obtain ⟨v', e, hx⟩ := hv 0 (by simp)
    simp at e
    subst e
    have hlow : noLow1 pass x = false ∨ noLow pass xs = false → ∀ id b, Live h id → id ∉ pass → L.b id = some b → S1 b := fun ho => hlet (by
      unfold noLow
      rcases ho with h1 | h1
      · simp [h1]
      · split <;> first | exact h1 | rfl)
    obtain ⟨y, hk1, hy⟩ := lowK_spec hr hS (fun h1 => hlow (.inl h1)) hx hk
    obtain ⟨ys, hk2, h1, h2⟩ := lowsK_spec hr hS (xs := xs) (vs := vs) (fun h1 => hlow (.inr h1)) (by simpa using hl) (fun i hi => by simpa using hv (i + 1) (by simp; omega)) hk1
    refine ⟨y :: ys, hk2, by simp [h1], fun i hi => ?_⟩
    cases i with
    | zero => exact ⟨v, rfl, hy⟩
    | succ i => simpa using h2 i (by simpa using hi)

theorem handK_spec (hr : HRel C h L w) {pass : List Nat} {S1 : Nat → Prop} (hS : ∀ b, SS C w h L b → S1 b) {B : Option Nat} {sz : Nat} {o : AO} {K : AO → Prop} (ho : objIs w (SS C w h L) L B sz o) (hk : handK h pass o K) :
    o.live ∧ ∃ p, K p ∧ objIs w S1 (L.sel pass) B sz p := by
  have mono : ∀ (y : AV) (v : Value), y.free → den w (SS C w h L) L y v → den w S1 (L.sel pass) y v := fun y v hf hy => den_free _ y v hf (den_mono (fun _ _ => rfl) hS (.refl _) y v hy)
  cases o with
  | dead => exact hk.elim
  | ints k xs => exact ⟨trivial, _, hk, ho⟩
  | row n f => exact ⟨trivial, _, hk.2, cellsAre_mono (fun _ _ => rfl) (fun i u hi hu => mono _ _ (hk.1 i hi) hu) ho⟩
  | map n key val =>
    obtain ⟨b, es, clock, e, hb, hn, hc⟩ := ho
    exact ⟨trivial, _, hk.2, b, es, clock, e, hb, hn, fun i hi => let ⟨x, h1, h2, h3⟩ := hc i hi; ⟨x, h1, mono _ _ (hk.1 i hi).1 h2, mono _ _ (hk.1 i hi).2 h3⟩⟩
  | lst l =>
    refine ⟨trivial, ?_⟩
    change (match noLow pass l with | true => lowsK h pass l fun m => K (.lst m) | false => False) at hk
    split at hk
    · rename_i hno
      rcases ho with ⟨h1, h2⟩ | ⟨b, c, el, lo, hi, e, h1, h2, h3, h4, h5⟩
      · have : l = [] := List.length_eq_zero_iff.1 h1
        subst this
        exact ⟨.lst [], hk, Or.inl ⟨rfl, h2⟩⟩
      · obtain ⟨us, g1, g2⟩ := choose_cells h5
        obtain ⟨m, hk2, g3, g4⟩ := lowsK_spec hr hS (xs := l) (vs := us) (fun h1 => by rw [hno] at h1; cases h1) g1 (fun i hi => let ⟨u, _, q2, q3⟩ := g2 i hi; ⟨u, q2, q3⟩) hk
        refine ⟨.lst m, hk2, Or.inr ⟨b, c, el, lo, hi, e, h1, h2, by omega, h4, fun i hi' => ?_⟩⟩
        obtain ⟨u, q1, q2, _⟩ := g2 i (by omega)
        obtain ⟨u', q3, q4⟩ := g4 i (by omega)
        rw [q2] at q3
        cases q3
        exact ⟨u, q1, q4⟩
    · exact hk.elim

theorem objsK_spec (hr : HRel C h L w) {pass : List Nat} {S1 : Nat → Prop} (hS : ∀ b, SS C w h L b → S1 b) : ∀ {ids : List Nat} {K : List AO → Prop}, objsK h pass ids K →
    ∃ hp, K hp ∧ hp.length = ids.length ∧ ∀ (i id : Nat), ids[i]? = some id → Live h id ∧ ∃ p, hp[i]? = some p ∧ objIs w S1 (L.sel pass) (L.b id) (L.sz id) p
  | [], K, hk => ⟨[], hk, rfl, by simp⟩
  | id :: ids, K, hk => by
    obtain ⟨o, ho, hk⟩ := getO_iff.1 hk
    obtain ⟨hl, p, hk1, hp⟩ := handK_spec hr hS (hr.objs id o ho) hk
    obtain ⟨hp', hk2, h1, h2⟩ := objsK_spec hr hS hk1
    refine ⟨p :: hp', hk2, by simp [h1], fun i j hj => ?_⟩
    cases i with
    | zero => simp at hj; subst hj; exact ⟨⟨o, ho, hl⟩, p, rfl, hp⟩
    | succ i => simpa using h2 i j (by simpa using hj)

theorem nodupB_spec : ∀ {l : List Nat}, nodupB l = true → l.Nodup
  | [], _ => .nil
  | i :: l, h => by
    unfold nodupB at h
    split at h
    · rename_i e
      exact List.nodup_cons.2 ⟨idxOf_none e, nodupB_spec h⟩
    · cases h

theorem getN_iff {K : Nat → Prop} : ∀ {l : List Nat} {i : Nat}, getN l i K ↔ ∃ j, l[i]? = some j ∧ K j
  | [], _ => by simp [getN]
  | j :: _, 0 => by simp [getN]
  | _ :: l, n + 1 => by simp [getN, getN_iff (l := l)]
theorem renVK_spec {l : List Nat} {x : AV} {K : AV → Prop} (hk : renVK l x K) : K (x.ren (rn l)) := by
  unfold renVK at hk
  split at hk
  · obtain ⟨j, h1, h2⟩ := getN_iff.1 hk
    simpa [AV.ren, rn, List.getD_eq_getElem?_getD, h1] using h2
  · obtain ⟨j, h1, h2⟩ := getN_iff.1 hk
    simpa [AV.ren, rn, List.getD_eq_getElem?_getD, h1] using h2
  · exact hk
  · exact hk
  · exact hk
  · obtain ⟨j, h1, h2⟩ := getN_iff.1 hk
    simpa [AV.ren, rn, List.getD_eq_getElem?_getD, h1] using h2
  · rename_i h1 h2 h3 h4 h5 h6
    cases x <;> first
      | exact hk
      | exact absurd rfl (h1 _ _ _ _)
      | exact absurd rfl (h2 _ _)
      | exact absurd rfl (h3 _ _)
      | exact absurd rfl (h4 _ _)
      | exact absurd rfl (h5 _ _ _)
      | exact absurd rfl (h6 _)
theorem renOK_spec {l : List Nat} {o : AO} {K : AO → Prop} (hk : renOK l o K) : K (o.ren (rn l)) := by
  cases o <;> exact hk
theorem renOsK_spec {l : List Nat} : ∀ {os : List AO} {K : List AO → Prop}, renOsK l os K → K (os.map (AO.ren (rn l)))
  | [], _, hk => hk
  | o :: os, K, hk => renOsK_spec (os := os) (K := fun y => K (o.ren (rn l) :: y)) (renOK_spec (K := fun x => renOsK l os fun y => K (x :: y)) hk)
theorem appK_spec : ∀ {l r : List AO} {K : List AO → Prop}, appK l r K → K (l ++ r)
  | [], _, _, hk => hk
  | o :: l, r, K, hk => appK_spec (l := l) hk
theorem dropK_spec : ∀ {l : List Nat} {r : List AO} {K : List AO → Prop}, dropK l r K → l.length ≤ r.length ∧ K (r.drop l.length)
  | [], r, K, hk => ⟨Nat.zero_le _, hk⟩
  | _ :: _, [], _, hk => hk.elim
  | _ :: l, _ :: r, K, hk => by
    obtain ⟨h1, h2⟩ := dropK_spec (l := l) hk
    exact ⟨by simpa using h1, h2⟩
theorem newsK_spec : ∀ {h r : List AO} {l : List Nat} {m : Nat} {K : List Nat → Prop}, (∀ (i n : Nat), l[i]? = some n → n = m + i) → newsK h r l K →
    ∃ news, K news ∧ news.length = r.length ∧ ∀ i, i < r.length → news[i]? = some (m + h.length + i)
  | [], [], _, _, _, _, hk => ⟨[], by unfold newsK at hk; exact hk, rfl, by simp⟩
  | [], _ :: r, [], _, _, _, hk => by simp [newsK] at hk
  | [], _ :: r, n :: l, m, K, hl, hk => by
    have hn := hl 0 n rfl
    simp only [newsK] at hk
    obtain ⟨news, h1, h2, h3⟩ := newsK_spec (h := []) (r := r) (l := l) (m := m + 1) (fun i n hi => by have := hl (i + 1) n (by simpa using hi); omega) hk
    refine ⟨n :: news, h1, by simp [h2], fun i hi => ?_⟩
    cases i with
    | zero => simp [hn]
    | succ i =>
      have := h3 i (by simpa using hi)
      simp at this ⊢
      rw [this]
      congr 1
      omega
  | _ :: h, r, [], _, _, _, hk => by cases r <;> simp [newsK] at hk
  | _ :: h, r, n :: l, m, K, hl, hk => by
    have hk' : newsK h r l K := by cases r <;> simpa only [newsK] using hk
    obtain ⟨news, h1, h2, h3⟩ := newsK_spec (h := h) (r := r) (l := l) (m := m + 1) (fun i n hi => by have := hl (i + 1) n (by simpa using hi); omega) hk'
    refine ⟨news, h1, h2, fun i hi => ?_⟩
    rw [h3 i hi]
    simp
    omega

theorem backK_spec : ∀ {l : List Nat} {r h : List AO} {K : List AO → Prop}, l.Nodup → backK l r h K →
    ∃ h2, K h2 ∧ h2.length = h.length + (r.length - l.length) ∧ l.length ≤ r.length ∧ (∀ (p i : Nat), l[p]? = some i → i < h.length ∧ h2[i]? = r[p]?) ∧ (∀ i, i < h.length → i ∉ l → h2[i]? = h[i]?) ∧
      ∀ j, j < r.length - l.length → h2[h.length + j]? = r[l.length + j]?
  | [], r, h, K, _, hk => ⟨h ++ r, appK_spec hk, by simp, Nat.zero_le _, by simp, fun i hi _ => List.getElem?_append_left hi, fun j _ => by rw [List.getElem?_append_right (by omega)]; simp⟩
  | _ :: _, [], _, _, _, hk => hk.elim
  | i :: l, o :: r, h, K, hn, hk => by
    obtain ⟨hi, hk1⟩ := setO_iff.1 hk
    obtain ⟨hnot, hn'⟩ := List.nodup_cons.1 hn
    obtain ⟨h2, h3, h4, h5, h6, h7, h8⟩ := backK_spec hn' hk1
    simp at h4
    refine ⟨h2, h3, by rw [h4]; simp, by simpa using h5, fun p j hj => ?_, fun j hj hjn => ?_, fun j hj => ?_⟩
    · cases p with
      | zero =>
        simp at hj; subst hj
        refine ⟨hi, ?_⟩
        rw [h7 i (by simpa using hi) hnot]
        simp [hi]
      | succ p =>
        have := h6 p j (by simpa using hj)
        exact ⟨by simpa using this.1, by simpa using this.2⟩
    · simp at hjn
      rw [h7 j (by simpa using hj) hjn.2, List.getElem?_set_ne (fun e => hjn.1 e.symm)]
    · have := h8 j (by simpa using hj)
      simp only [List.length_set] at this
      rw [this]
      simp only [List.length_cons]
      rw [show l.length + 1 + j = (l.length + j) + 1 by omega, List.getElem?_cons_succ]

theorem ao_live_ren {g : Nat → Nat} {o : AO} : (o.ren g).live ↔ o.live := by cases o <;> exact Iff.rfl

theorem objIs_ren {w : World} {S S' : Nat → Prop} {M N : Loc} {g : Nat → Nat} (hg : ∀ p, p < M.n → g p < N.n ∧ N.b (g p) = M.b p ∧ N.sz (g p) = M.sz p) {B : Option Nat} {sz : Nat} {o : AO}
    (hS : (∀ b, S b → S' b) ∨ o.flat) (h : objIs w S M B sz o) : objIs w S' N B sz (o.ren g) := by
  have go : ∀ (x : AV) (v : Value), ((∀ b, S b → S' b) ∨ x.flat) → den w S M x v → den w S' N (x.ren g) v := fun x v hx hd => by
    refine den_ren hg x v ?_
    rcases hx with hx | hx
    · exact den_mono (fun _ _ => rfl) hx (.refl _) x v hd
    · exact den_flat S' x v hx hd
  cases o with
  | dead => trivial
  | ints k xs => exact h
  | row n f => exact cellsAre_mono (fun _ _ => rfl) (fun i u hi hu => go _ _ (hS.imp id fun hf => hf i hi) hu) h
  | lst l =>
    show cellsAre _ _ _ _ _
    rw [List.length_map]
    refine cellsAre_mono (fun _ _ => rfl) (fun i u hi hu => ?_) h
    have : (l.map (AV.ren g)).getD i .top = (l.getD i .top).ren g := by
      simp [List.getD_eq_getElem?_getD, hi]
    rw [this]
    exact go _ _ (hS.imp id fun hf => hf i hi) hu
  | map n key val =>
    obtain ⟨b, es, clock, e, hb, hn, hc⟩ := h
    exact ⟨b, es, clock, e, hb, hn, fun i hi => let ⟨x, h1, h2, h3⟩ := hc i hi; ⟨x, h1, go _ _ (hS.imp id fun hf => (hf i hi).1) h2, go _ _ (hS.imp id fun hf => (hf i hi).2) h3⟩⟩

theorem nodup_inj {l : List Nat} (hl : l.Nodup) {i j x : Nat} (hi : l[i]? = some x) (hj : l[j]? = some x) : i = j := by
  obtain ⟨h1, e1⟩ := List.getElem?_eq_some_iff.1 hi
  obtain ⟨h2, e2⟩ := List.getElem?_eq_some_iff.1 hj
  rcases Nat.lt_trichotomy i j with h | h | h
  · exact absurd (e1.trans e2.symm) (List.pairwise_iff_getElem.1 hl i j h1 h2 h)
  · exact h
  · exact absurd (e2.trans e1.symm) (List.pairwise_iff_getElem.1 hl j i h2 h1 h)

theorem callB_spec (hr : HRel C h L w) {f : FuncId} {pass : List Nat} {R : AV → List AO → Prop} {args : List AV} {vs : Array Value} {K : AV → List AO → Prop} (hn : vs.size = args.length)
    (hv : ∀ (i : Nat) (x : AV), args[i]? = some x → ∃ v, vs[i]? = some v ∧ den w (SS C w h L) L x v) (hk1 : callB P f pass R args h K) :
    Entered P f ∧ Calls P f vs w fun e w' => ∃ v x h' L', e = .returned v ∧ Step C h L w h' L' w' ∧ den w' (SS C w' h' L') L' x v ∧ K x h' := by
  obtain ⟨hnd, hk2⟩ := sure_iff.1 hk1
  have hnodup := nodupB_spec hnd
  clear hk1
  -- what the callee may read
  let S0c : Nat → Prop := fun b => SS C w h L b ∨ (noLow pass args = false ∧ ∃ i, Live h i ∧ i ∉ pass ∧ L.b i = some b)
  have hSS : ∀ b, SS C w h L b → S0c b := fun b hb => .inl hb
  obtain ⟨hp, hk3, hpl, hpo⟩ := objsK_spec (S1 := S0c) hr hSS hk2
  have hvs : ∀ i, i < args.length → ∃ v, vs.toList[i]? = some v ∧ den w (SS C w h L) L (args.getD i .top) v := fun i hi => by
    obtain ⟨v, h1, h2⟩ := hv i args[i] (by simp [hi])
    exact ⟨v, by simpa using h1, by simpa [List.getD_eq_getElem?_getD, hi] using h2⟩
  obtain ⟨as, ⟨⟨hent, hcall⟩, hk4⟩, hal, has⟩ := lowsK_spec (S1 := S0c) hr hSS (fun hlow id b hl hnp e => .inr ⟨hlow, id, hl, hnp, e⟩) (by simpa using hn) hvs hk3
  have hplen : hp.length = pass.length := hpl
  have hpget : ∀ i, i < pass.length → ∃ id, pass[i]? = some id ∧ Live h id ∧ ∃ p, hp[i]? = some p ∧ objIs w S0c (L.sel pass) (L.b id) (L.sz id) p := fun i hi => ⟨pass[i], by simp [hi], hpo i pass[i] (by simp [hi])⟩
  have selinj : ∀ i j b, i < pass.length → j < pass.length → (L.sel pass).b i = some b → (L.sel pass).b j = some b → i = j := fun i j b hi hj ei ej => by
    obtain ⟨id, e1, l1, _⟩ := hpget i hi
    obtain ⟨jd, e2, l2, _⟩ := hpget j hj
    rw [sel_b e1] at ei
    rw [sel_b e2] at ej
    have := hr.inj id jd b l1 l2 ei ej
    subst this
    exact nodup_inj hnodup e1 e2
  -- no block that may be read is handed over
  have hS0c : ∀ b, S0c b → b < w.heap.size ∧ ∀ i, i < hp.length → (L.sel pass).b i ≠ some b := fun b hb => by
    have hown : ∀ i, i < hp.length → (L.sel pass).b i = some b → ∃ id, id ∈ pass ∧ Live h id ∧ L.b id = some b := fun i hi e => by
      obtain ⟨id, e1, l1, _⟩ := hpget i (by omega)
      exact ⟨id, List.mem_of_getElem? e1, l1, by rw [← sel_b e1]; exact e⟩
    rcases hb with hb | ⟨_, i, hi, hni, e⟩
    · exact ⟨hb.1, fun j hj ej => by
        obtain ⟨id, _, l1, e1⟩ := hown j hj ej
        exact hb.2.2 id l1 e1⟩
    · exact ⟨(hr.mine i b hi e).1, fun j hj ej => by
        obtain ⟨id, m1, l1, e1⟩ := hown j hj ej
        have := hr.inj i id b hi l1 e e1
        subst this
        exact hni m1⟩
  have hctx : HRel ⟨w, S0c, hp.length, L.sel pass⟩ hp (L.sel pass) w := by
    have hlt : ∀ i, Live hp i → i < pass.length := fun i hi => by rw [← hplen]; exact live_lt hi
    refine ⟨⟨rfl, rfl, rfl, Nat.le_refl _, fun _ _ _ => rfl, fun b hb => ⟨(hS0c b hb).1, fun ⟨i, hi, e⟩ => (hS0c b hb).2 i hi e⟩, hr.globs.mono (fun _ _ => rfl) hSS⟩, by simp [Loc.sel, hplen], Nat.le_refl _, fun _ _ => ⟨rfl, rfl⟩, fun i j b hi hj ei ej => selinj i j b (hlt i hi) (hlt j hj) ei ej, fun i b hi e => ?_, fun i o ho => ?_⟩
    · obtain ⟨id, e1, l1, _⟩ := hpget i (hlt i hi)
      have e2 : L.b id = some b := by rw [← sel_b e1]; exact e
      exact ⟨(hr.mine id b l1 e2).1, .inr ⟨i, by rw [hplen]; exact hlt i hi, e⟩⟩
    · have hi : i < pass.length := by rw [← hplen]; exact (List.getElem?_eq_some_iff.1 ho).1
      obtain ⟨id, e1, l1, p, e2, e3⟩ := hpget i hi
      rw [ho] at e2
      cases e2
      rw [sel_b e1, sel_sz e1]
      exact objIs_mono (fun _ _ => rfl) (fun b hb => ⟨(hS0c b hb).1, .inl hb, fun j hj => (hS0c b hb).2 j (live_lt hj)⟩) (.refl _) (fun _ _ _ => rfl) e3
  refine ⟨hent, ?_⟩
  refine (hcall S0c (L.sel pass) w vs hctx hS0c (by rw [hal]; exact hn) (fun i x hx => ?_)).mono fun e w' he => ?_
  · have hi : i < args.length := by rw [← hal]; exact (List.getElem?_eq_some_iff.1 hx).1
    obtain ⟨v, h1, h2⟩ := has i hi
    exact ⟨v, by simpa using h1, by simpa [List.getD_eq_getElem?_getD, hx] using h2⟩
  obtain ⟨v, r, h', M, rfl, hR, hM, hden⟩ := he
  obtain ⟨hflat, hk5⟩ := hk4 r h' hR
  obtain ⟨hdl, hk6⟩ := dropK_spec hk5
  obtain ⟨news, hk7, hnl, hng⟩ := newsK_spec (m := 0) (fun i n hi => by simpa using lits_get hi) hk6
  have hk8 := renOsK_spec hk7
  have hk9 := renVK_spec hk8
  obtain ⟨h2, hk10, b1, b2, b3, b4, b5⟩ := backK_spec hnodup hk9
  simp only [List.length_drop, Nat.zero_add, List.length_map] at hnl hng b1 b2 b5
  have hLn := hr.n
  have hMn := hM.n
  -- the places behind the call
  let N : Loc := ⟨h.length + (h'.length - pass.length), fun i => if i < h.length then L.b i else M.b (pass.length + (i - h.length)), fun i => if i < h.length then L.sz i else M.sz (pass.length + (i - h.length))⟩
  have hNle : L.le N := ⟨by rw [hLn]; exact Nat.le_add_right _ _, fun i hi => if_pos (by omega), fun i hi => if_pos (by omega)⟩
  -- a place of the callee's, as the caller sees it
  have hgp : ∀ p, p < M.n → (p < pass.length ∧ ∃ id, pass[p]? = some id ∧ rn (pass ++ news) p = id ∧ id < h.length ∧ N.b id = M.b p ∧ N.sz id = M.sz p) ∨
      (pass.length ≤ p ∧ rn (pass ++ news) p = h.length + (p - pass.length) ∧ N.b (h.length + (p - pass.length)) = M.b p ∧ N.sz (h.length + (p - pass.length)) = M.sz p) := fun p hp' => by
    rw [hMn] at hp'
    rcases Nat.lt_or_ge p pass.length with hlt | hge
    · obtain ⟨id, e1, l1, _⟩ := hpget p hlt
      have hid := live_lt l1
      refine .inl ⟨hlt, id, e1, by simp [rn, List.getD_eq_getElem?_getD, List.getElem?_append_left hlt, e1], hid, ?_, ?_⟩
      · rw [(hM.pre p (by simpa [hplen] using hlt)).1]
        simp only [N, hid, if_true]
        exact (sel_b e1).symm
      · rw [(hM.pre p (by simpa [hplen] using hlt)).2]
        simp only [N, hid, if_true]
        exact (sel_sz e1).symm
    · refine .inr ⟨hge, ?_, ?_, ?_⟩
      · have := hng (p - pass.length) (by omega)
        simp [rn, List.getD_eq_getElem?_getD, List.getElem?_append_right hge, this]
      · simp only [N]
        rw [if_neg (by omega)]
        congr 1
        omega
      · simp only [N]
        rw [if_neg (by omega)]
        congr 1
        omega
  have hg : ∀ p, p < M.n → rn (pass ++ news) p < N.n ∧ N.b (rn (pass ++ news) p) = M.b p ∧ N.sz (rn (pass ++ news) p) = M.sz p := fun p hp' => by
    rcases hgp p hp' with ⟨_, id, _, e, hid, e1, e2⟩ | ⟨hge, e, e1, e2⟩
    · rw [e]; exact ⟨by show id < h.length + _; omega, e1, e2⟩
    · rw [e]; exact ⟨by show _ < h.length + (h'.length - pass.length); omega, e1, e2⟩
  -- whence a live place comes
  have horg : ∀ i, Live h2 i → (∃ p, Live h' p ∧ N.b i = M.b p ∧ rn (pass ++ news) p = i) ∨ (Live h i ∧ i ∉ pass ∧ N.b i = L.b i) := fun i hi => by
    obtain ⟨o, ho, hlo⟩ := hi
    rcases Nat.lt_or_ge i h.length with hlt | hge
    · by_cases hm : i ∈ pass
      · obtain ⟨p, hpp, e⟩ := List.getElem_of_mem hm
        have e1 : pass[p]? = some i := by rw [List.getElem?_eq_getElem hpp, e]
        have := (b3 p i e1).2
        rw [ho, List.getElem?_map] at this
        obtain ⟨o', e2, e3⟩ := Option.map_eq_some_iff.1 this.symm
        refine .inl ⟨p, ⟨o', e2, by rw [← e3] at hlo; exact ao_live_ren.1 hlo⟩, ?_, by simp [rn, List.getD_eq_getElem?_getD, List.getElem?_append_left hpp, e1]⟩
        rw [(hM.pre p (by simpa [hplen] using hpp)).1]
        simp only [N, hlt, if_true]
        exact (sel_b e1).symm
      · refine .inr ⟨⟨o, by rw [← b4 i hlt hm]; exact ho, hlo⟩, hm, by simp only [N, hlt, if_true]⟩
    · have hi2 := (List.getElem?_eq_some_iff.1 ho).1
      have hj : i - h.length < h'.length - pass.length := by omega
      have := b5 (i - h.length) hj
      rw [show h.length + (i - h.length) = i by omega, ho, List.getElem?_map] at this
      obtain ⟨o', e2, e3⟩ := Option.map_eq_some_iff.1 this.symm
      refine .inl ⟨pass.length + (i - h.length), ⟨o', e2, by rw [← e3] at hlo; exact ao_live_ren.1 hlo⟩, ?_, ?_⟩
      · simp only [N]
        rw [if_neg (by omega)]
      · have h3 := hng (i - h.length) hj
        have h4 : (pass ++ news)[pass.length + (i - h.length)]? = some (h.length + (i - h.length)) := by
          rw [List.getElem?_append_right (by omega)]
          simpa using h3
        rw [rn, List.getD_eq_getElem?_getD, h4, Option.getD_some]
        omega
  have hO0 : ∀ k, (Ctx.mk w S0c hp.length (L.sel pass)).O0 k → ∃ id, id ∈ pass ∧ Live h id ∧ L.b id = some k := fun k ⟨i, hi, e⟩ => by
    obtain ⟨id, e1, l1, _⟩ := hpget i (by simpa [hplen] using hi)
    exact ⟨id, List.mem_of_getElem? e1, l1, by rw [← sel_b e1]; exact e⟩
  -- what may be read behind the call
  have hread : noLow pass args = true → ∀ b, SS ⟨w, S0c, hp.length, L.sel pass⟩ w' h' M b → SS C w' h2 N b := fun hno b ⟨c1, c2, c3⟩ => by
    have hcb : SS C w h L b ∨ w.heap.size ≤ b ∨ ∃ id, id ∈ pass ∧ Live h id ∧ L.b id = some b := by
      rcases c2 with (c2 | ⟨c2, _⟩) | c2 | c2
      · exact .inl c2
      · rw [hno] at c2; cases c2
      · exact .inr (.inl c2)
      · exact .inr (.inr (hO0 b c2))
    refine ⟨c1, ?_, fun i hi e => ?_⟩
    · rcases hcb with c4 | c4 | ⟨id, _, l1, e1⟩
      · exact c4.2.1
      · exact .inr (.inl (Nat.le_trans hr.fr.size c4))
      · exact .inr (hr.mine id b l1 e1).2
    · rcases horg i hi with ⟨p, hp', e1, _⟩ | ⟨l1, ni, e1⟩
      · exact c3 p hp' (by rw [← e1]; exact e)
      · rw [e1] at e
        rcases hcb with c4 | c4 | ⟨id, m1, l2, e2⟩
        · exact c4.2.2 i l1 e
        · have := (hr.mine i b l1 e).1
          omega
        · have := hr.inj i id b l1 l2 e e2
          subst this
          exact ni m1
  have hst : Step C h L w h2 N w' := by
    refine step_of2 hr ⟨hM.fr.os, hM.fr.tape, hM.fr.output⟩ hM.fr.size hNle (by simp only [N]; omega) (by omega) (fun k hk' => ?_) (fun i b hi e => ?_) (fun i j b hi hj ei ej => ?_) (fun hss hke i o ho => ?_)
    · by_cases ho : (Ctx.mk w S0c hp.length (L.sel pass)).O0 k
      · obtain ⟨id, _, l1, e⟩ := hO0 k ho
        exact .inr ⟨id, l1, e⟩
      · exact .inl (hM.fr.block k hk' ho)
    · rcases horg i hi with ⟨p, hp', e1, _⟩ | ⟨l1, _, e1⟩
      · obtain ⟨q1, q2⟩ := hM.mine p b hp' (by rw [← e1]; exact e)
        refine ⟨q1, ?_⟩
        rcases q2 with q2 | q2
        · exact .inl q2
        · obtain ⟨id, _, l1, e2⟩ := hO0 b q2
          exact .inr ⟨id, l1, e2⟩
      · rw [e1] at e
        exact ⟨Nat.lt_of_lt_of_le (hr.mine i b l1 e).1 hM.fr.size, .inr ⟨i, l1, e⟩⟩
    · have cross : ∀ p i b, Live h' p → M.b p = some b → Live h i → i ∉ pass → L.b i = some b → False := fun p i b hp' e1 l1 hni e2 => by
        rcases (hM.mine p b hp' e1).2 with q | q
        · have := (hr.mine i b l1 e2).1
          have : w.heap.size ≤ b := q
          omega
        · obtain ⟨id, m1, l2, e3⟩ := hO0 b q
          have := hr.inj i id b l1 l2 e2 e3
          subst this
          exact hni m1
      rcases horg i hi with ⟨p, hp', e1, g1⟩ | ⟨l1, n1, e1⟩
      · rcases horg j hj with ⟨q, hq', e2, g2⟩ | ⟨l2, n2, e2⟩
        · have := hM.inj p q b hp' hq' (by rw [← e1]; exact ei) (by rw [← e2]; exact ej)
          subst this
          exact g1.symm.trans g2
        · exact (cross p j b hp' (by rw [← e1]; exact ei) l2 n2 (by rw [← e2]; exact ej)).elim
      · rcases horg j hj with ⟨q, hq', e2, g2⟩ | ⟨l2, n2, e2⟩
        · exact (cross q i b hq' (by rw [← e2]; exact ej) l1 n1 (by rw [← e1]; exact ei)).elim
        · exact hr.inj i j b l1 l2 (by rw [← e1]; exact ei) (by rw [← e2]; exact ej)
    · -- what the blocks hold
      have fromCallee : ∀ p o', h'[p]? = some o' → o = o'.ren (rn (pass ++ news)) → N.b i = M.b p → N.sz i = M.sz p → objIs w' (SS C w' h2 N) N (N.b i) (N.sz i) o := fun p o' e1 e2 e3 e4 => by
        rw [e2, e3, e4]
        refine objIs_ren hg ?_ (hM.objs p o' e1)
        rcases hflat with hf | ⟨_, hf⟩
        · exact .inl (hread hf)
        · exact .inr (hf o' (List.mem_of_getElem? e1))
      rcases Nat.lt_or_ge i h.length with hlt | hge
      · by_cases hm : i ∈ pass
        · obtain ⟨p, hpp, e⟩ := List.getElem_of_mem hm
          have e1 : pass[p]? = some i := by rw [List.getElem?_eq_getElem hpp, e]
          have := (b3 p i e1).2
          rw [ho, List.getElem?_map] at this
          obtain ⟨o', e2, e3⟩ := Option.map_eq_some_iff.1 this.symm
          have e4 := (hM.pre p (by simpa [hplen] using hpp))
          refine fromCallee p o' e2 e3.symm ?_ ?_
          · rw [e4.1]; simp only [N, hlt, if_true]; exact (sel_b e1).symm
          · rw [e4.2]; simp only [N, hlt, if_true]; exact (sel_sz e1).symm
        · have ho' : h[i]? = some o := by rw [← b4 i hlt hm]; exact ho
          have : objIs w' (SS C w' h2 N) N (L.b i) (L.sz i) o := by
            refine objIs_mono hke hss hNle (fun b hlo e => ?_) (hr.objs i o ho')
            refine hM.fr.block b (hr.mine i b ⟨o, ho', hlo⟩ e).1 fun hO => ?_
            obtain ⟨id, m1, l2, e3⟩ := hO0 b hO
            have := hr.inj i id b ⟨o, ho', hlo⟩ l2 e e3
            subst this
            exact hm m1
          simpa only [N, hlt, if_true] using this
      · have hi2 := (List.getElem?_eq_some_iff.1 ho).1
        have hj : i - h.length < h'.length - pass.length := by omega
        have := b5 (i - h.length) hj
        rw [show h.length + (i - h.length) = i by omega, ho, List.getElem?_map] at this
        obtain ⟨o', e2, e3⟩ := Option.map_eq_some_iff.1 this.symm
        refine fromCallee (pass.length + (i - h.length)) o' e2 e3.symm ?_ ?_
        · simp only [N]; rw [if_neg (by omega)]
        · simp only [N]; rw [if_neg (by omega)]
  refine ⟨v, _, h2, N, rfl, hst, ?_, hk10⟩
  refine den_ren hg r v ?_
  rcases hflat with hf | ⟨hf, _⟩
  · exact den_mono (fun _ _ => rfl) (hread hf) (.refl _) r v hden
  · exact den_flat _ r v hf hden

theorem freeB_spec : ∀ {n : Nat} {a : AV}, freeB n a = true → a.free
  | 0, _, h => by simp [freeB] at h
  | n + 1, a, h => by
    cases a with
    | own _ _ _ _ => simp [freeB] at h
    | ptr _ _ => simp [freeB] at h
    | mp _ => simp [freeB] at h
    | clo fn m f =>
      intro i hi
      have : freeB n (f i) = true := List.all_eq_true.1 h i (List.mem_range.2 hi)
      exact freeB_spec this
    | agg m f =>
      intro i hi
      have : freeB n (f i) = true := List.all_eq_true.1 h i (List.mem_range.2 hi)
      exact freeB_spec this
    | tup m f =>
      intro i hi
      have : freeB n (f i) = true := List.all_eq_true.1 h i (List.mem_range.2 hi)
      exact freeB_spec this
    | _ => trivial
theorem frees_spec {l : List AV} {k : Nat} (h : l.all (freeB k) = true) (i : Nat) (hi : i < l.length) : (l.getD i .top).free := by
  rw [List.getD_eq_getElem?_getD, List.getElem?_eq_getElem hi]
  exact freeB_spec (List.all_eq_true.1 h _ (List.getElem_mem _))

theorem giveV_spec (hr : HRel C h L w) {S1 : Nat → Prop} {g : List Nat} (hS : ∀ b, SS C w h L b → S1 b) (hG : ∀ id b, Live h id → id ∈ g → L.b id = some b → S1 b) :
    ∀ (n : Nat) {a : AV} {v : Value} {K : AV → Prop}, den w (SS C w h L) L a v → giveV h g n a K → ∃ y, K y ∧ den w S1 L y v
  | 0, a, v, K, hx, hk => ⟨a, hk, den_mono (fun _ _ => rfl) hS (.refl _) a v hx⟩
  | n + 1, a, v, K, hx, hk => by
    have mono : ∀ (y : AV) (v : Value), den w (SS C w h L) L y v → den w S1 L y v := fun y v hy => den_mono (fun _ _ => rfl) hS (.refl _) y v hy
    unfold giveV at hk
    split at hk
    · rename_i id off len sz
      split at hk
      · exact ⟨_, hk, mono _ _ hx⟩
      · rename_i p hp
        have hm : id ∈ g := List.mem_of_getElem? (idxOf_some hp)
        obtain ⟨o, ho, hk⟩ := getO_iff.1 hk
        have hob := hr.objs id o ho
        obtain ⟨hid, hx⟩ := hx
        cases o with
        | dead => exact hk.elim
        | map n key val => exact hk.elim
        | ints k xs =>
          obtain ⟨rfl, hle, hk2⟩ := sure_iff.1 hk
          refine ⟨_, hk2, ?_⟩
          have hl : ((xs.drop off).take len).length = len := by simp; omega
          rcases hx with ⟨rfl, A, rfl⟩ | ⟨b, cap, hb, rfl, hcap, hsz⟩
          · exact ⟨A, 0, by simp, by simp, fun i hi => by simp at hi⟩
          · refine ⟨_, cap, by rw [hl], by rw [hl]; exact hcap, fun i hi => ⟨b, off, rfl, hG id b ⟨_, ho, trivial⟩ hm hb, ?_⟩⟩
            rw [hl] at hi
            exact own_ints (len := len) (cap := cap) hr ho hb hle i hi
        | row m f =>
          obtain ⟨hle, hf, hk2⟩ := hk
          refine ⟨_, hk2, ?_⟩
          rcases hx with ⟨rfl, A, rfl⟩ | ⟨b, cap, hb, rfl, hcap, hsz⟩
          · exact ⟨A, 0, rfl, Nat.le_refl _, fun i hi => by simp at hi⟩
          · refine ⟨_, cap, rfl, hcap, fun i hi => ?_⟩
            obtain ⟨u, h1, h2⟩ := own_cell hob hb (i := off + i) (by omega)
            exact ⟨u, ⟨b, off, rfl, hG id b ⟨_, ho, trivial⟩ hm hb, h1⟩, den_free _ _ _ (hf i hi) (mono _ _ h2)⟩
        | lst l =>
          rcases hx with ⟨rfl, A, rfl⟩ | ⟨b, cap, hb, rfl, hcap, hsz⟩
          · have hall : ∀ {l : List AV} {K : List AV → Prop}, givesK (giveV h g n) l K → ∃ r, K r := by
              intro l
              induction l with
              | nil => intro K hk; exact ⟨[], hk⟩
              | cons a l ih =>
                intro K hk
                have one : ∀ (n : Nat) (a : AV) (K : AV → Prop), giveV h g n a K → ∃ y, K y := by
                  intro n
                  induction n with
                  | zero => intro a K hk; exact ⟨a, hk⟩
                  | succ n ihn =>
                    have many : ∀ {l : List AV} {K : List AV → Prop}, givesK (giveV h g n) l K → ∃ r, K r := by
                      intro l
                      induction l with
                      | nil => intro K hk; exact ⟨[], hk⟩
                      | cons a l ih2 => intro K hk; obtain ⟨y, h1⟩ := ihn a _ hk; obtain ⟨r, h2⟩ := ih2 h1; exact ⟨_, h2⟩
                    intro a K hk
                    unfold giveV at hk
                    split at hk
                    · split at hk
                      · exact ⟨_, hk⟩
                      · obtain ⟨o, _, hk⟩ := getO_iff.1 hk
                        cases o with
                        | dead => exact hk.elim
                        | map _ _ _ => exact hk.elim
                        | ints _ _ => exact ⟨_, (sure_iff.1 hk).2.2⟩
                        | row _ _ => exact ⟨_, hk.2.2⟩
                        | lst _ => obtain ⟨r, h1⟩ := many hk; exact ⟨_, (sure_iff.1 h1).2.2⟩
                    · split at hk
                      · exact ⟨_, hk⟩
                      · obtain ⟨o, _, hk⟩ := getO_iff.1 hk
                        cases o with
                        | dead => exact hk.elim
                        | map _ _ _ => exact hk.elim
                        | ints _ _ => exact ⟨_, hk⟩
                        | row _ _ => exact ⟨_, hk.2⟩
                        | lst _ => obtain ⟨r, h1⟩ := many hk; exact ⟨_, (sure_iff.1 h1).2⟩
                    · obtain ⟨r, h1⟩ := many hk; exact ⟨_, h1⟩
                    · obtain ⟨r, h1⟩ := many hk; exact ⟨_, h1⟩
                    · exact ⟨_, hk⟩
                obtain ⟨y, h1⟩ := one n a _ hk
                obtain ⟨r, h2⟩ := ih h1
                exact ⟨_, h2⟩
            obtain ⟨r, hk2⟩ := hall hk
            exact ⟨_, (sure_iff.1 hk2).2.2, A, 0, rfl, Nat.le_refl _, fun i hi => by simp at hi⟩
          · rcases hob with ⟨h1, h2⟩ | ⟨b', c, el, lo, hi, e, h1, h2, h3, h4, h5⟩
            · obtain rfl : l = [] := List.length_eq_zero_iff.1 h1
              have hk' : sure (([] : List AV).all (freeB 5) = true) (off + len * sz ≤ ([] : List AV).length ∧ K (.ro len sz fun i => ([] : List AV).getD (off + i) .top)) := hk
              obtain ⟨hf, hle, hk2⟩ := sure_iff.1 hk'
              refine ⟨_, hk2, _, cap, rfl, hcap, fun i hi => ?_⟩
              simp at hle
              omega
            · rw [hb] at e
              obtain rfl := Option.some.inj e
              obtain ⟨us, g1, g2⟩ := choose_cells h5
              obtain ⟨m, hk2, g3, g4⟩ := givesK_spec (S' := S1) (N := L) (fun hd hk => giveV_spec hr hS hG n hd hk) (l := l) (vs := us) (fun i hi => let ⟨u, _, q2, q3⟩ := g2 i hi; ⟨u, q2, q3⟩) hk
              obtain ⟨hf, hle, hk3⟩ := sure_iff.1 hk2
              refine ⟨_, hk3, _, cap, rfl, hcap, fun i hi => ?_⟩
              obtain ⟨u, q1, q2, _⟩ := g2 (off + i) (by omega)
              obtain ⟨u', q3, q4⟩ := g4 (off + i) (by omega)
              rw [q2] at q3
              cases q3
              refine ⟨u, ⟨b, off, rfl, hG id b ⟨_, ho, trivial⟩ hm hb, ?_⟩, den_free _ _ _ (frees_spec hf (off + i) (by omega)) q4⟩
              simp [World.cell?, h1, q1]
    · rename_i id off
      split at hk
      · exact ⟨_, hk, mono _ _ hx⟩
      · rename_i p hp
        have hm : id ∈ g := List.mem_of_getElem? (idxOf_some hp)
        obtain ⟨o, ho, hk⟩ := getO_iff.1 hk
        have hob := hr.objs id o ho
        obtain ⟨hid, b, hb, rfl⟩ := hx
        cases o with
        | dead => exact hk.elim
        | map n key val => exact hk.elim
        | ints k xs =>
          refine ⟨_, hk, _, rfl, fun i hi => ?_⟩
          obtain ⟨u, h1, h2⟩ := own_cell hob hb (i := off + i) (by omega)
          exact ⟨u, ⟨b, off, rfl, hG id b ⟨_, ho, trivial⟩ hm hb, h1⟩, h2⟩
        | row m f =>
          refine ⟨_, hk.2, _, rfl, fun i hi => ?_⟩
          obtain ⟨u, h1, h2⟩ := own_cell hob hb (i := off + i) (by omega)
          exact ⟨u, ⟨b, off, rfl, hG id b ⟨_, ho, trivial⟩ hm hb, h1⟩, den_free _ _ _ (hk.1 i hi) (mono _ _ h2)⟩
        | lst l =>
          rcases hob with ⟨h1, h2⟩ | ⟨b', c, el, lo, hi, e, h1, h2, h3, h4, h5⟩
          · rw [hb] at h2; cases h2
          · rw [hb] at e
            obtain rfl := Option.some.inj e
            obtain ⟨us, g1, g2⟩ := choose_cells h5
            obtain ⟨m, hk2, g3, g4⟩ := givesK_spec (S' := S1) (N := L) (fun hd hk => giveV_spec hr hS hG n hd hk) (l := l) (vs := us) (fun i hi => let ⟨u, _, q2, q3⟩ := g2 i hi; ⟨u, q2, q3⟩) hk
            obtain ⟨hf, hk3⟩ := sure_iff.1 hk2
            refine ⟨_, hk3, _, rfl, fun i hi => ?_⟩
            obtain ⟨u, q1, q2, _⟩ := g2 (off + i) (by omega)
            obtain ⟨u', q3, q4⟩ := g4 (off + i) (by omega)
            rw [q2] at q3
            cases q3
            refine ⟨u, ⟨b, off, rfl, hG id b ⟨_, ho, trivial⟩ hm hb, ?_⟩, den_free _ _ _ (frees_spec hf (off + i) (by omega)) q4⟩
            simp [World.cell?, h1, q1]
    · obtain ⟨vs, rfl, hn, hc⟩ := hx
      obtain ⟨r, hk2, h1, h2⟩ := givesK_spec (fun hd hk => giveV_spec hr hS hG n hd hk) (tab_den hc) hk
      exact ⟨_, hk2, vs, rfl, hn, den_tab h1 h2⟩
    · obtain ⟨vs, rfl, hn, hc⟩ := hx
      obtain ⟨r, hk2, h1, h2⟩ := givesK_spec (fun hd hk => giveV_spec hr hS hG n hd hk) (tab_den hc) hk
      exact ⟨_, hk2, vs, rfl, hn, den_tab h1 h2⟩
    · exact ⟨_, hk, mono _ _ hx⟩

theorem killK_spec : ∀ {g : List Nat} {h : List AO} {K : List AO → Prop}, HRel C h L w → killK g h K →
    ∃ h1, K h1 ∧ Step C h L w h1 L w ∧ (∀ i, i ∈ g → h1[i]? = some .dead) ∧ ∀ i, Live h1 i → Live h i
  | [], h, K, hr, hk => ⟨h, hk, .refl hr, by simp, fun _ hi => hi⟩
  | j :: g, h, K, hr, hk => by
    obtain ⟨hj, hk1⟩ := setO_iff.1 hk
    have s1 : Step C h L w (h.set j .dead) L w := step_kill hr ⟨rfl, rfl, rfl⟩ rfl
    obtain ⟨h1, hk2, s2, h2, h3⟩ := killK_spec s1.rel hk1
    have hlen : h1.length = h.length := by
      have e1 := s2.rel.n
      have e2 := s1.rel.n
      simp at e2
      omega
    have back : ∀ i, Live h1 i → Live h i := fun i hi => by
      rcases live_set (h3 i hi) with ⟨_, h4⟩ | ⟨_, h4⟩
      · exact h4.elim
      · exact h4
    refine ⟨h1, hk2, s1.trans s2, fun i hi => ?_, back⟩
    rcases List.mem_cons.1 hi with rfl | hi
    · cases e : h1[i]? with
      | none =>
        rw [List.getElem?_eq_none_iff] at e
        omega
      | some o =>
        by_cases ho : o.live
        · rcases live_set (h3 i ⟨o, e, ho⟩) with ⟨_, h4⟩ | ⟨h4, _⟩
          · exact h4.elim
          · exact absurd rfl h4
        · cases o <;> first | rfl | exact absurd trivial ho
    · exact h2 i hi

theorem splitG_spec : ∀ {l : List Nat} {K : List Nat → List Nat → Prop}, splitG l K → ∃ p g, K p g
  | [], K, hk => ⟨_, _, hk⟩
  | n :: l, K, hk => by
    unfold splitG at hk
    split at hk
    · obtain ⟨p, g, h⟩ := splitG_spec hk; exact ⟨_, _, h⟩
    · obtain ⟨p, g, h⟩ := splitG_spec hk; exact ⟨_, _, h⟩

theorem callK_spec (hr : HRel C h L w) {f : FuncId} {args : List AV} {vs : Array Value} {K : AV → List AO → Prop} (hn : vs.size = args.length)
    (hv : ∀ (i : Nat) (x : AV), args[i]? = some x → ∃ v, vs[i]? = some v ∧ den w (SS C w h L) L x v) (hk : callK P f args h K) :
    Entered P f ∧ Calls P f vs w fun e w' => ∃ v x h' L', e = .returned v ∧ Step C h L w h' L' w' ∧ den w' (SS C w' h' L') L' x v ∧ K x h' := by
  obtain ⟨pass0, R, hk0⟩ := hk
  obtain ⟨pass, gs, hk1⟩ := splitG_spec hk0
  split at hk1
  · exact callB_spec hr hn hv hk1
  · rename_i g l
    have hvs : ∀ i, i < args.length → ∃ v, vs.toList[i]? = some v ∧ den w (SS C w h L) L (args.getD i .top) v := fun i hi => by
      obtain ⟨v, h1, h2⟩ := hv i args[i] (by simp [hi])
      exact ⟨v, by simpa using h1, by simpa [List.getD_eq_getElem?_getD, hi] using h2⟩
    -- what may be read once the blocks are let go
    let S1 : Nat → Prop := fun b => SS C w h L b ∨ ∃ id, Live h id ∧ id ∈ g :: l ∧ L.b id = some b
    obtain ⟨args', hk2, h1, h2⟩ := givesK_spec (S' := S1) (N := L) (fun hd hk => giveV_spec hr (fun b hb => .inl hb) (fun id b hl hm e => .inr ⟨id, hl, hm, e⟩) 5 hd hk) (l := args) (vs := vs.toList) hvs hk1
    obtain ⟨h1', hk3, hst, hdead, hback⟩ := killK_spec hr hk2
    have hSS : ∀ b, S1 b → SS C w h1' L b := fun b hb => by
      rcases hb with hb | ⟨id, hl, hm, e⟩
      · exact hst.ss b hb
      · refine ⟨(hr.mine id b hl e).1, .inr (hr.mine id b hl e).2, fun i hi e2 => ?_⟩
        have := hr.inj id i b hl (hback i hi) e e2
        subst this
        obtain ⟨o, ho, hlo⟩ := hi
        rw [hdead id hm] at ho
        cases ho
        exact hlo
    obtain ⟨hent, hcall⟩ := callB_spec hst.rel (vs := vs) (by omega) (fun i x hx => by
      have hi : i < args.length := by rw [← h1]; exact (List.getElem?_eq_some_iff.1 hx).1
      obtain ⟨u, g1, g2⟩ := h2 i hi
      have : args'.getD i .top = x := by simp [List.getD_eq_getElem?_getD, hx]
      rw [this] at g2
      exact ⟨u, by simpa using g1, den_mono (fun _ _ => rfl) hSS (.refl _) _ _ g2⟩) hk3
    exact ⟨hent, hcall.mono fun e w' ⟨v, x, h', L', e1, e2, e3, e4⟩ => ⟨v, x, h', L', e1, hst.trans e2, e3, e4⟩⟩

end
end Go.Proofs.YtmohncaoimeneaaDoor.AL
