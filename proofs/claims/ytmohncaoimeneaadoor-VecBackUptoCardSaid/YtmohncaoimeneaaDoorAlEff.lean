/-
  The state's own logic is sound: new memory, and what is written. No program in sight.
-/
import Derived.Test.YtmohncaoimeneaaDoorAlStep
set_option linter.unusedVariables false
set_option linter.unusedSectionVars false
namespace Go.Proofs.YtmohncaoimeneaaDoor.AL
open Go
variable [Globs]

section
variable {P : Program} {C : Ctx} {t : List AV} {h : List AO} {L : Loc} {a : Act} {w : World}

/-- What an operation gives that may act. -/
def EffV (P : Program) (C : Ctx) (h : List AO) (L : Loc) (w : World) (s : Sem Value) (K : AV → List AO → Prop) : Prop :=
  ∃ v x h' L' w', s.run P w = .ok v w' ∧ Step C h L w h' L' w' ∧ den w' (SS C w' h' L') L' x v ∧ K x h'
def EffU (P : Program) (C : Ctx) (h : List AO) (L : Loc) (w : World) (s : Sem Unit) (K : List AO → Prop) : Prop :=
  ∃ h' L' w', s.run P w = .ok () w' ∧ Step C h L w h' L' w' ∧ K h'

theorem Gives.eff {s : Sem Value} {K : AV → List AO → Prop} (hr : HRel C h L w) (hg : Gives P w (den w (SS C w h L) L) s (fun x => K x h)) : EffV P C h L w s K := by
  obtain ⟨v, x, h1, h2, h3⟩ := hg
  exact ⟨v, x, h, L, w, h1 w (Ext.refl w), .refl hr, h2, h3⟩

theorem cells_new {w' : World} {c : Array Value} {E : TypeId} {lo hi n : Nat} {p : Nat → Value → Prop} (hw : w'.heap = w.heap.push (.cells c E (lo, hi)))
    (hf : ∀ o, o < c.size → (decide (lo ≤ o) && decide (o < hi)) = false) (hn : n ≤ c.size) (hc : ∀ i, i < n → ∃ u, c[i]? = some u ∧ p i u) :
    cellsAre w' (some w.heap.size) c.size n p :=
  .inr ⟨_, c, E, lo, hi, rfl, by rw [hw]; simp, rfl, hn, hf, hc⟩
theorem no_frozen (n : Nat) : ∀ o, o < n → (decide (0 ≤ o) && decide (o < 0)) = false := fun o _ => by simp

theorem zeroK_spec {T : TypeId} {K : Value → Prop} (hk : zeroK P T K) : ∃ z, (∀ w, (zeroValue T).run P w = .ok z w) ∧ K z := by
  unfold zeroK at hk
  split at hk
  · rename_i i hi
    split at hk
    · rename_i z hz
      exact ⟨z, fun w => by simp [zeroValue, typeInfo, hi, hz], hk⟩
    · exact hk.elim
  · exact hk.elim

theorem run_newVar (E : TypeId) (v : Value) (w : World) : (newVar E v).run P w = .ok ⟨w.heap.size, 0, none⟩ { w with heap := w.heap.push (.cells v.cells E) } := rfl
theorem run_newRow (E : TypeId) (c : Array Value) (w : World) : (newRow E c).run P w = .ok ⟨w.heap.size, 0, none⟩ { w with heap := w.heap.push (.cells c E) } := rfl

theorem tab_get {n : Nat} {f : Nat → AV} {i : Nat} (hi : i < n) : ((List.range n).map f).getD i .top = f i := by
  rw [List.getD_eq_getElem?_getD, List.getElem?_map, List.getElem?_range hi]; rfl

theorem push_place (hr : HRel C h L w) (sz : Nat) : (L.push (some w.heap.size) sz).b h.length = some w.heap.size := by simp [Loc.push, hr.n]
theorem push_sz (hr : HRel C h L w) (b : Option Nat) (sz : Nat) : (L.push b sz).sz h.length = sz := by simp [Loc.push, hr.n]
theorem push_b (hr : HRel C h L w) (b : Option Nat) (sz : Nat) : (L.push b sz).b h.length = b := by simp [Loc.push, hr.n]
theorem push_n (hr : HRel C h L w) (b : Option Nat) (sz : Nat) : h.length < (L.push b sz).n := by simp [Loc.push, hr.n]

/-- A new variable. -/
theorem new_var {E : TypeId} {z : Value} {o : AO} {K : AV → List AO → Prop} (hr : HRel C h L w)
    (ho : ∀ w' L', w'.heap = w.heap.push (.cells z.cells E) → L.le L' → objIs w' (SS C w h L) L' (some w.heap.size) z.cells.size o)
    (hk : addO h o fun id h' => K (.ptr id 0) h') : EffV P C h L w (do pure (.pointer (some (← newVar E z)))) K := by
  have hs := step_new (w' := { w with heap := w.heap.push (.cells z.cells E) }) hr ⟨rfl, rfl, rfl⟩ rfl (fun L' hL => ho _ L' rfl hL)
  exact ⟨_, .ptr h.length 0, _, _, _, by simp [run_newVar], hs, ⟨push_n hr _ _, _, push_b hr _ _, rfl⟩, addO_spec hk⟩

/-- What is known in the world before is known behind a new block, too. -/
theorem den_new (hr : HRel C h L w) {w' : World} {ob : Obj} (hw : w'.heap = w.heap.push ob) {L' : Loc} (hL : L.le L') {x : AV} {v : Value} (hx : den w (SS C w h L) L x v) :
    den w' (SS C w h L) L' x v :=
  den_mono (fun b hb => by rw [hw, Array.getElem?_push_lt hb.1, Array.getElem?_eq_getElem hb.1]) (fun _ h => h) hL x v hx

theorem raws_cells (z : Value) {w' : World} {S : Nat → Prop} {L' : Loc} : ∀ i, i < (z.cells.toList.map AV.raw).length → ∃ u, z.cells[i]? = some u ∧ den w' S L' ((z.cells.toList.map AV.raw).getD i .top) u := by
  intro i hi
  simp at hi
  refine ⟨z.cells[i], by simp [hi], ?_⟩
  rw [List.getD_eq_getElem?_getD, List.getElem?_map, Array.getElem?_toList, Array.getElem?_eq_getElem hi]
  rfl

theorem alloc_spec {E : TypeId} {K : AV → List AO → Prop} (hr : HRel C h L w)
    (hk : zeroK P E fun z => match P.underlying E with
    | some (.array n e) => match intB P e with
      | some k => sizeK P E fun s => sure (s = n) <| z = .agg ((List.replicate n (0 : Int)).map (Value.int k)).toArray ∧ addO h (.ints k (List.replicate n 0)) fun id h' => K (.ptr id 0) h'
      | none => addO h (.lst (z.cells.toList.map .raw)) fun id h' => K (.ptr id 0) h'
    | some _ => addO h (.lst (z.cells.toList.map .raw)) fun id h' => K (.ptr id 0) h'
    | none => False) : EffV P C h L w (Instr.alloc E true (.tuple #[])) K := by
  obtain ⟨z, hz, hk⟩ := zeroK_spec hk
  have run : ∀ {K : AV → List AO → Prop}, EffV P C h L w (do pure (.pointer (some (← newVar E z)))) K → EffV P C h L w (Instr.alloc E true (.tuple #[])) K := by
    rintro K ⟨v, x, h', L', w', h1, h2⟩
    refine ⟨v, x, h', L', w', ?_, h2⟩
    rw [← h1]
    simp [Instr.alloc, hz]
  have plain : (addO h (.lst (z.cells.toList.map .raw)) fun id h' => K (.ptr id 0) h') → EffV P C h L w (Instr.alloc E true (.tuple #[])) K := fun hk =>
    run (new_var (o := .lst (z.cells.toList.map .raw)) hr (fun w' L' hw hL => cells_new hw (no_frozen _) (by simp) (raws_cells z)) hk)
  split at hk
  · split at hk
    · rename_i n e _ k _
      obtain ⟨s, hs, _, hk⟩ := sizeK_spec hk
      obtain ⟨rfl, rfl, hk2⟩ := sure_iff.1 hk
      refine run (new_var hr (fun w' L' hw hL => ?_) hk2)
      refine cells_new hw (no_frozen _) (by simp [Value.cells]) fun i hi => ⟨.int k 0, ?_, ?_⟩
      · simp at hi; simp [Value.cells, hi]
      · simp at hi; simp [List.getD_eq_getElem?_getD, hi]
    · exact plain hk
  · exact plain hk
  · exact hk.elim

theorem cell1_cells {x : AV} (hc : cell1 x = true) {v : Value} {S : Nat → Prop} (hx : den w S L x v) : v.cells = #[v] ∧ v.oneCell' = true := by
  cases x with
  | raw u => obtain rfl := hx; cases v <;> simp [cell1] at hc <;> exact ⟨rfl, rfl⟩
  | top => simp [cell1] at hc
  | agg => simp [cell1] at hc
  | aggI => simp [cell1] at hc
  | tup => simp [cell1] at hc
  | tt => obtain rfl := hx; exact ⟨rfl, rfl⟩
  | ff => obtain rfl := hx; exact ⟨rfl, rfl⟩
  | own => obtain ⟨_, ⟨_, _, rfl⟩ | ⟨_, _, _, rfl, _⟩⟩ := hx <;> exact ⟨rfl, rfl⟩
  | ptr => obtain ⟨_, _, _, rfl⟩ := hx; exact ⟨rfl, rfl⟩
  | rp => obtain ⟨_, rfl, _⟩ := hx; exact ⟨rfl, rfl⟩
  | ro => obtain ⟨_, _, rfl, _⟩ := hx; exact ⟨rfl, rfl⟩
  | roI => obtain ⟨_, _, rfl, _⟩ := hx; exact ⟨rfl, rfl⟩
  | clo => obtain ⟨_, rfl, _⟩ := hx; exact ⟨rfl, rfl⟩
  | mp => obtain ⟨_, _, _, rfl⟩ := hx; exact ⟨rfl, rfl⟩
  | ifc => obtain ⟨_, _, rfl⟩ := hx; exact ⟨rfl, rfl⟩

theorem newVarK_spec {E : TypeId} {x : AV} {v : Value} {K : AV → List AO → Prop} (hr : HRel C h L w) (hx : den w (SS C w h L) L x v)
    (hk : newVarK P E h x fun id h' => K (.ptr id 0) h') : EffV P C h L w (Instr.box E v) K := by
  unfold newVarK at hk
  split at hk
  · rename_i n f
    obtain ⟨s, hs, _, hk⟩ := sizeK_spec hk
    obtain ⟨rfl, hk⟩ := sure_iff.1 hk
    obtain ⟨vs, rfl, hn, hc⟩ := hx
    refine new_var hr (fun w' L' hw hL => ?_) hk
    refine cells_new hw (no_frozen _) (by simp [Value.cells, hn]) fun i hi => ?_
    simp at hi
    obtain ⟨u, h1, h2⟩ := hc i hi
    exact ⟨u, h1, by rw [tab_get hi]; exact den_new hr hw hL h2⟩
  · rename_i k xs
    obtain ⟨s, hs, _, hk⟩ := sizeK_spec hk
    obtain ⟨_, hk2⟩ := hk
    obtain rfl := hx
    refine new_var hr (fun w' L' hw hL => ?_) hk2
    refine cells_new hw (no_frozen _) (by simp [Value.cells]) fun i hi => ⟨.int k (xs.getD i 0), ?_, rfl⟩
    simp [Value.cells, hi]
  · split at hk
    · rename_i hc
      obtain ⟨s, hs, _, hk⟩ := sizeK_spec hk
      obtain ⟨rfl, hk⟩ := sure_iff.1 hk
      obtain ⟨h1, _⟩ := cell1_cells hc hx
      refine new_var hr (fun w' L' hw hL => ?_) hk
      refine cells_new hw (no_frozen _) (by simp [h1]) fun i hi => ⟨v, ?_, ?_⟩
      · simp at hi; subst hi; simp [h1]
      · simp at hi; subst hi; exact den_new hr hw hL hx
    · exact hk.elim

/-- Cells that are written, one behind the other. -/
theorem run_storeCells {b : Nat} : ∀ (vs : List Value) (o i : Nat) (w : World) (c : Array Value) (E : TypeId) (lo hi : Nat), (∀ v ∈ vs, v.oneCell' = true) →
    w.heap[b]? = some (.cells c E (lo, hi)) → (∀ o, o < c.size → (decide (lo ≤ o) && decide (o < hi)) = false) → o + i + vs.length ≤ c.size →
    ∃ w' c', (storeCells ⟨b, o, none⟩ vs i).run P w = .ok () w' ∧ Alike w w' ∧ w'.heap.size = w.heap.size ∧ (∀ k, k ≠ b → w'.heap[k]? = w.heap[k]?) ∧
      w'.heap[b]? = some (.cells c' E (lo, hi)) ∧ c'.size = c.size ∧ ∀ j, c'[j]? = if o + i ≤ j ∧ j < o + i + vs.length then vs[j - (o + i)]? else c[j]?
  | [], o, i, w, c, E, lo, hi, _, hb, _, _ => ⟨w, c, rfl, .refl _, rfl, fun _ _ => rfl, hb, rfl, fun j => by rw [if_neg]; simp⟩
  | v :: vs, o, i, w, c, E, lo, hi, hone, hb, hf, hle => by
    simp at hle
    have hlt : o + i < c.size := by omega
    have hblt : b < w.heap.size := (Array.getElem?_eq_some_iff.1 hb).1
    have hcell : ∃ u, w.cell? ⟨b, o + i, none⟩ = some u := ⟨c[o + i], by simp [World.cell?, hb, hlt]⟩
    obtain ⟨u, hu⟩ := hcell
    have hfr : w.frozen? ⟨b, o + i, none⟩ = false := by
      have := hf (o + i) hlt
      simpa [World.frozen?, hb] using this
    have hset : (w.setCell ⟨b, o + i, none⟩ v).heap[b]? = some (.cells (c.setIfInBounds (o + i) v) E (lo, hi)) := by
      simp [World.setCell, Array.getElem?_modify, hb]
    obtain ⟨w', c', h1, h2, h3, h4, h5, h6, h7⟩ := run_storeCells vs o (i + 1) (w.setCell ⟨b, o + i, none⟩ v) (c.setIfInBounds (o + i) v) E lo hi (fun x hx => hone x (List.mem_cons_of_mem _ hx)) hset
      (fun x hx => hf x (by simpa using hx)) (by simp; omega)
    refine ⟨w', c', ?_, ⟨h2.os, h2.tape, h2.output⟩, ?_, fun k hk => ?_, h5, by rw [h6]; simp, fun j => ?_⟩
    · unfold storeCells
      rw [Sem.run_bind, Addr.add_mk, run_store P w _ v _ (hone v List.mem_cons_self), hu]
      simp only [hfr, Bool.false_eq_true, if_false, Result.andThen_ok]
      exact h1
    · rw [h3]; simp [World.setCell]
    · rw [h4 k hk]; simp [World.setCell, Array.getElem?_modify, Ne.symm hk]
    · rw [h7 j]
      by_cases hj : o + i ≤ j ∧ j < o + i + (vs.length + 1)
      · by_cases e : j = o + i
        · subst e
          rw [if_neg (by omega), if_pos (by simp)]
          simp [hlt]
        · rw [if_pos (by omega), if_pos (by simp; omega)]
          rw [show j - (o + i) = (j - (o + (i + 1))) + 1 by omega, List.getElem?_cons_succ]
      · rw [if_neg (by omega), if_neg (by simpa using hj)]
        rw [Array.getElem?_setIfInBounds_ne (by omega)]

/-- A block of the call's own, cells of it written. -/
theorem store_block (hr : HRel C h L w) {id b n off sz : Nat} {p : Nat → Value → Prop} (hl : Live h id) (hb : L.b id = some b) (hc : cellsAre w (L.b id) sz n p) {vs : List Value}
    (hone : ∀ v ∈ vs, v.oneCell' = true) (hle : off + vs.length ≤ sz) :
    ∃ w', (storeCells ⟨b, off, none⟩ vs).run P w = .ok () w' ∧ Alike w w' ∧ w'.heap.size = w.heap.size ∧ (∀ k, k ≠ b → w'.heap[k]? = w.heap[k]?) ∧
      ∀ (m : Nat) (q : Nat → Value → Prop), m ≤ sz → (∀ i, i < m → (off ≤ i ∧ i < off + vs.length ∧ ∃ u, vs[i - off]? = some u ∧ q i u) ∨ (¬ (off ≤ i ∧ i < off + vs.length) ∧ i < n ∧ ∀ u, p i u → q i u)) →
        cellsAre w' (some b) sz m q := by
  rcases hc with ⟨_, h2⟩ | ⟨b', c, E, lo, hi, e, h1, h2, h3, h4, h5⟩
  · rw [hb] at h2; cases h2
  · rw [hb] at e
    obtain rfl := Option.some.inj e
    obtain ⟨w', c', g1, g2, g3, g4, g5, g6, g7⟩ := run_storeCells (P := P) (b := b) vs off 0 w c E lo hi hone h1 h4 (by omega)
    refine ⟨w', g1, g2, g3, g4, fun m q hm hq => .inr ⟨b, c', E, lo, hi, rfl, g5, by rw [g6, h2], hm, fun o ho => h4 o (by rw [g6] at ho; exact ho), fun i hi' => ?_⟩⟩
    rcases hq i hi' with ⟨q1, q2, u, q3, q4⟩ | ⟨q1, q2, q3⟩
    · exact ⟨u, by rw [g7, if_pos (by omega)]; simpa using q3, q4⟩
    · obtain ⟨u, u1, u2⟩ := h5 i q2
      exact ⟨u, by rw [g7, if_neg (by omega)]; exact u1, q3 u u2⟩

theorem storeVar_run {T : TypeId} {s : Nat} {A : Addr} {v : Value} (hs : ∀ w, (sizeOf T).run P w = .ok s w) (hv : v.cells.size = s) {w w' : World}
    (hr : (storeCells A v.cells.toList).run P w = .ok () w') : (storeVar T A v).run P w = .ok () w' := by
  unfold storeVar
  have : ¬ (v.cells.size ≠ s) := by simpa using hv
  simp only [Sem.run_bind, hs, Result.andThen_ok, this, if_false, hr]

/-- What is known of values in the world before, in a world in which a block of the call's own is written. -/
theorem den_upd (hr : HRel C h L w) {w' : World} {id b : Nat} (hl : Live h id) (hb : L.b id = some b) (hw : ∀ k, k ≠ b → w'.heap[k]? = w.heap[k]?) {L' : Loc} (hL : L.le L')
    {x : AV} {v : Value} (hx : den w (SS C w h L) L x v) : den w' (SS C w h L) L' x v :=
  den_mono (fun k hk => hw k fun e => hk.2.2 id hl (e ▸ hb)) (fun _ h => h) hL x v hx

theorem storeK_spec {T : TypeId} {x y : AV} {vx vy : Value} {K : List AO → Prop} (hr : HRel C h L w) (hx : den w (SS C w h L) L x vx) (hy : den w (SS C w h L) L y vy)
    (hk : storeK P T h x y K) : EffU P C h L w (Instr.storeAt T vx vy) K := by
  unfold storeK at hk
  split at hk
  · rename_i id off
    obtain ⟨hid, b, hb, rfl⟩ := hx
    replace hk := getO_iff.1 hk
    obtain ⟨o, ho, hk⟩ := hk
    have hob := hr.objs id o ho
    -- the common end
    have fin : ∀ {n s : Nat} {p : Nat → Value → Prop} {o' : AO} (vs : List Value), o.live → cellsAre w (L.b id) (L.sz id) n p → (∀ w, (sizeOf T).run P w = .ok s w) → vy.cells.toList = vs → vs.length = s →
        (∀ v ∈ vs, v.oneCell' = true) → off + s ≤ n → (∀ w', (∀ (x : AV) (v : Value), den w (SS C w h L) L x v → den w' (SS C w h L) L x v) → cellsAre w' (some b) (L.sz id) n (fun i u => if off ≤ i ∧ i < off + s then vs[i - off]? = some u else p i u) → objIs w' (SS C w h L) L (some b) (L.sz id) o') →
        K (h.set id o') → EffU P C h L w (Instr.storeAt T (.pointer (some ⟨b, off, none⟩)) vy) K := by
      intro n s p o' vs hlive hc hs hvs hvl hone hle hobj hk
      have hl : Live h id := ⟨o, ho, hlive⟩
      have hn : n ≤ L.sz id := by
        rcases hc with ⟨_, h2⟩ | ⟨_, _, _, _, _, _, _, h2, h3, _⟩
        · rw [hb] at h2; cases h2
        · exact h3
      obtain ⟨w', g1, g2, g3, g4, g5⟩ := store_block (P := P) hr hl hb hc hone (off := off) (by omega)
      have hd : ∀ (x : AV) (v : Value), den w (SS C w h L) L x v → den w' (SS C w h L) L x v := fun x v hx => den_upd hr hl hb g4 (.refl _) hx
      have hcs : cellsAre w' (some b) (L.sz id) n (fun i u => if off ≤ i ∧ i < off + s then vs[i - off]? = some u else p i u) := ?_
      refine ⟨h.set id o', L, w', ?_, step_upd hr g2 g3 hl hb g4 (by rw [hb]; exact hobj w' hd hcs), hk⟩
      · show (storeVar T ⟨b, off, none⟩ vy).run P w = _
        exact storeVar_run hs (by rw [← Array.length_toList, hvs, hvl]) (by rw [hvs]; exact g1)
      · refine g5 n _ hn fun i hi => ?_
        by_cases e : off ≤ i ∧ i < off + s
        · have hlt : i - off < vs.length := by omega
          exact .inl ⟨e.1, by omega, vs[i - off], by simp [hlt], by rw [if_pos e]; simp [hlt]⟩
        · exact .inr ⟨by omega, hi, fun u hu => by rw [if_neg e]; exact hu⟩
    cases o with
    | dead => exact hk.elim
    | map n key val => exact hk.elim
    | ints k xs =>
      simp only [] at hk
      split at hk
      · rename_i k' n
        obtain rfl := hy
        obtain ⟨s, hs, _, hk⟩ := sizeK_spec hk
        obtain ⟨rfl, hk1⟩ := sure_iff.1 hk
        obtain ⟨rfl, hlt, hk2⟩ := sameKind_iff.1 hk1
        obtain ⟨_, hk2⟩ := setO_iff.1 hk2
        refine fin [.int k' n] trivial hob hs rfl rfl (by simp [Value.oneCell']) (by omega) (fun w' _ hc => ?_) hk2
        refine cellsAre_mono (fun _ _ => rfl) (fun i u hi hu => ?_) (by simpa using hc)
        by_cases e : off ≤ i ∧ i < off + 1
        · obtain rfl : i = off := by omega
          rw [if_pos e] at hu
          simp at hu
          simp [← hu, List.getD_eq_getElem?_getD, hlt]
        · rw [if_neg e] at hu
          rw [hu]
          simp only [List.getD_eq_getElem?_getD]
          rw [List.getElem?_set_ne (by omega)]
      · rename_i k' ys
        obtain rfl := hy
        obtain ⟨s, hs, _, hk⟩ := sizeK_spec hk
        obtain ⟨rfl, hk1⟩ := hk
        obtain ⟨rfl, hlt, hk2⟩ := sameKind_iff.1 hk1
        obtain ⟨_, hk2⟩ := setO_iff.1 hk2
        have hlen : (xs.take off ++ ys ++ xs.drop (off + ys.length)).length = xs.length := by simp; omega
        refine fin (ys.map (Value.int k')) trivial hob hs rfl (by simp) (by simp [Value.oneCell']) hlt (fun w' _ hc => ?_) hk2
        show cellsAre w' (some b) (L.sz id) _ _
        rw [hlen]
        refine cellsAre_mono (fun _ _ => rfl) (fun i u hi hu => ?_) hc
        by_cases e : off ≤ i ∧ i < off + ys.length
        · rw [if_pos e] at hu
          have h1 : i - off < ys.length := by omega
          simp [h1] at hu
          rw [← hu, List.getD_eq_getElem?_getD, List.append_assoc, List.getElem?_append_right (by simp; omega), List.getElem?_append_left (by simp; omega)]
          simp
          rw [List.getElem?_eq_getElem (by omega)]
          simp
          congr 1
          omega
        · rw [if_neg e] at hu
          rw [hu, List.getD_eq_getElem?_getD, List.getD_eq_getElem?_getD]
          rcases Nat.lt_or_ge i off with h1 | h1
          · rw [List.append_assoc, List.getElem?_append_left (by simp; omega), List.getElem?_take_of_lt h1]
          · have hm : min off xs.length = off := by omega
            rw [List.getElem?_append_right (by simp; omega), List.getElem?_drop, List.length_append, List.length_take, hm]
            congr 3
            omega
      · exact hk.elim
    | lst l =>
      simp only [] at hk
      split at hk
      · rename_i n f
        obtain ⟨vs, rfl, hn, hcs⟩ := hy
        obtain ⟨s, hs, _, hk⟩ := sizeK_spec hk
        obtain ⟨⟨rfl, hle⟩, hk1⟩ := sure_iff.1 hk
        obtain ⟨hall, hk2⟩ := sure_iff.1 hk1
        obtain ⟨_, hk2⟩ := setO_iff.1 hk2
        have hlen : (l.take off ++ (List.range s).map f ++ l.drop (off + s)).length = l.length := by simp; omega
        refine fin vs.toList trivial hob hs rfl (by simpa using hn) (fun v hv => ?_) hle (fun w' hd hc => ?_) hk2
        · obtain ⟨i, hi, e⟩ := List.getElem_of_mem hv
          simp at hi
          obtain ⟨u, h1, h2⟩ := hcs i (by omega)
          have : u = v := by
            rw [Array.getElem?_eq_getElem hi] at h1
            simpa [← e] using (Option.some.inj h1).symm
          subst this
          have hc1 : cell1 (f i) = true := List.all_eq_true.1 hall (f i) (by simp; exact ⟨i, by omega, rfl⟩)
          exact (cell1_cells hc1 h2).2
        · show cellsAre w' (some b) (L.sz id) _ _
          rw [hlen]
          refine cellsAre_mono (fun _ _ => rfl) (fun i u hi hu => ?_) hc
          by_cases e : off ≤ i ∧ i < off + s
          · rw [if_pos e] at hu
            obtain ⟨u', h1, h2⟩ := hcs (i - off) (by omega)
            have : u' = u := by
              simp at hu
              rw [h1] at hu; exact Option.some.inj hu
            subst this
            have : (l.take off ++ (List.range s).map f ++ l.drop (off + s)).getD i .top = f (i - off) := by
              rw [List.getD_eq_getElem?_getD, List.append_assoc, List.getElem?_append_right (by simp; omega), List.getElem?_append_left (by simp; omega)]
              have h3 : i - off < s := by omega
              have h4 : min off l.length = off := by omega
              simp [h3, h4]
            rw [this]
            exact hd _ _ h2
          · rw [if_neg e] at hu
            have : (l.take off ++ (List.range s).map f ++ l.drop (off + s)).getD i .top = l.getD i .top := by
              rw [List.getD_eq_getElem?_getD, List.getD_eq_getElem?_getD]
              rcases Nat.lt_or_ge i off with h1 | h1
              · rw [List.append_assoc, List.getElem?_append_left (by simp; omega), List.getElem?_take_of_lt h1]
              · rw [List.getElem?_append_right (by simp; omega), List.getElem?_drop]
                congr 2
                simp
                omega
            rw [this]
            exact hd _ _ hu
      · split at hk
        · rename_i hc1
          obtain ⟨s, hs, _, hk⟩ := sizeK_spec hk
          obtain ⟨⟨rfl, hlt⟩, hk1⟩ := sure_iff.1 hk
          have hk2 := setK_iff.1 hk1
          obtain ⟨_, hk2⟩ := setO_iff.1 hk2
          obtain ⟨g1, g2⟩ := cell1_cells hc1 hy
          refine fin [vy] trivial hob hs (by rw [g1]) rfl (by simpa using g2) (by omega) (fun w' hd hc => ?_) hk2
          show cellsAre w' (some b) (L.sz id) _ _
          rw [List.length_set]
          refine cellsAre_mono (fun _ _ => rfl) (fun i u hi hu => ?_) hc
          by_cases e : off ≤ i ∧ i < off + 1
          · obtain rfl : i = off := by omega
            rw [if_pos e] at hu
            simp at hu
            subst hu
            have : (l.set i y).getD i .top = y := by simp [List.getD_eq_getElem?_getD, hlt]
            rw [this]
            exact hd _ _ hy
          · rw [if_neg e] at hu
            have : (l.set off y).getD i .top = l.getD i .top := by rw [List.getD_eq_getElem?_getD, List.getD_eq_getElem?_getD, List.getElem?_set_ne (by omega)]
            rw [this]
            exact hd _ _ hu
        · exact hk.elim
    | row n f =>
      simp only [] at hk
      split at hk
      · rename_i hc1
        obtain ⟨s, hs, _, hk⟩ := sizeK_spec hk
        obtain ⟨rfl, hlt, g, hg, hk1⟩ := sure_iff.1 hk
        obtain ⟨_, hk2⟩ := setO_iff.1 hk1
        obtain ⟨g1, g2⟩ := cell1_cells hc1 hy
        refine fin [vy] trivial hob hs (by rw [g1]) rfl (by simpa using g2) (by omega) (fun w' hd hc => ?_) hk2
        refine cellsAre_mono (fun _ _ => rfl) (fun i u hi hu => ?_) hc
        rw [hg i hi]
        by_cases e : off ≤ i ∧ i < off + 1
        · obtain rfl : i = off := by omega
          rw [if_pos e] at hu
          simp at hu
          subst hu
          rw [if_pos rfl]
          exact hd _ _ hy
        · rw [if_neg e] at hu
          rw [if_neg (by omega)]
          exact hd _ _ hu
      · exact hk.elim
  · exact hk.elim

end
end Go.Proofs.YtmohncaoimeneaaDoor.AL
