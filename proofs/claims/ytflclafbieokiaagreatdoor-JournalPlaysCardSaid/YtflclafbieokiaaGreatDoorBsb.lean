import Derived.Test.YtflclafbieokiaaGreatDoorBsa

/-
  The state's own logic is sound: operations that act, calls by their contracts.
-/
set_option linter.unusedVariables false
set_option linter.unusedSectionVars false
set_option linter.unusedSimpArgs false

namespace Go.Proofs.YtflclafbieokiaaGreatDoor.AL
open Go
variable [Globs]

section
variable {P : Program} {C : Ctx} {t : List AV} {h : List AO} {L : Loc} {a : Act} {w : World}

def EffV (P : Program) (C : Ctx) (h : List AO) (L : Loc) (w : World) (s : Sem Value) (K : AV → List AO → Prop) : Prop :=
  ∃ v x h' L' w', s.run P w = .ok v w' ∧ Step C h L w h' L' w' ∧ den w' (SS C w' h' L') L' x v ∧ K x h'
def EffU (P : Program) (C : Ctx) (h : List AO) (L : Loc) (w : World) (s : Sem Unit) (K : List AO → Prop) : Prop :=
  ∃ h' L' w', s.run P w = .ok () w' ∧ Step C h L w h' L' w' ∧ K h'

theorem Gives.eff {s : Sem Value} {K : AV → List AO → Prop} (hr : HRel C h L w) (hg : Gives P w (den w (SS C w h L) L) s (fun x => K x h)) : EffV P C h L w s K := by
  obtain ⟨v, x, h1, h2, h3⟩ := hg
  exact ⟨v, x, h, L, w, h1 w (Ext.refl w), .refl hr, h2, h3⟩

theorem cells_new {w' : World} {c : Array Value} {E : TypeId} {lo hi n : Nat} {p : Nat → Value → Prop} (hw : w'.heap = w.heap.push (.cells c E (lo, hi)))
    (hf : ∀ o, o < c.size → (decide (lo ≤ o) && decide (o < hi)) = false) (hn : n ≤ c.size) (hc : ∀ i, i < n → ∃ u, c[i]? = some u ∧ p i u) :
    cellsAre w' (some w.heap.size) c.size n p :=
  .inr ⟨_, c, E, lo, hi, rfl, by rw [hw]; simp, rfl, hn, hf, hc⟩
theorem no_frozen (n : Nat) : ∀ o, o < n → (decide (0 ≤ o) && decide (o < 0)) = false := fun o _ => by simp

theorem zeroK_spec {T : TypeId} {K : Value → Prop} (hk : zeroK P T K) : ∃ z, (∀ w, (zeroValue T).run P w = .ok z w) ∧ K z := by
  unfold zeroK at hk
  split at hk
  · rename_i i hi
    split at hk
    · rename_i z hz
      exact ⟨z, fun w => by simp [zeroValue, typeInfo, hi, hz], hk⟩
    · exact hk.elim
  · exact hk.elim

theorem run_newVar (E : TypeId) (v : Value) (w : World) : (newVar E v).run P w = .ok ⟨w.heap.size, 0, none⟩ { w with heap := w.heap.push (.cells v.cells E) } := rfl
theorem run_newRow (E : TypeId) (c : Array Value) (w : World) : (newRow E c).run P w = .ok ⟨w.heap.size, 0, none⟩ { w with heap := w.heap.push (.cells c E) } := rfl

theorem tab_get {n : Nat} {f : Nat → AV} {i : Nat} (hi : i < n) : ((List.range n).map f).getD i .top = f i := by
  rw [List.getD_eq_getElem?_getD, List.getElem?_map, List.getElem?_range hi]; rfl

theorem push_sz (hr : HRel C h L w) (b : Option Nat) (sz : Nat) : (L.push b sz).sz h.length = sz := by simp [Loc.push, hr.n]
theorem push_b (hr : HRel C h L w) (b : Option Nat) (sz : Nat) : (L.push b sz).b h.length = b := by simp [Loc.push, hr.n]
theorem push_n (hr : HRel C h L w) (b : Option Nat) (sz : Nat) : h.length < (L.push b sz).n := by simp [Loc.push, hr.n]

theorem new_var {E : TypeId} {z : Value} {o : AO} {K : AV → List AO → Prop} (hr : HRel C h L w)
    (ho : ∀ w' L', w'.heap = w.heap.push (.cells z.cells E) → L.le L' → objIs w' (SS C w h L) L' (some w.heap.size) z.cells.size o)
    (hk : addO h o fun id h' => K (.ptr id 0) h') : EffV P C h L w (do pure (.pointer (some (← newVar E z)))) K := by
  have hs := step_new (w' := { w with heap := w.heap.push (.cells z.cells E) }) hr ⟨rfl, rfl, rfl⟩ rfl (fun L' hL => ho _ L' rfl hL)
  exact ⟨_, .ptr h.length 0, _, _, _, by simp [run_newVar], hs, ⟨push_n hr _ _, _, push_b hr _ _, rfl⟩, addO_spec hk⟩

theorem den_new (hr : HRel C h L w) {w' : World} {ob : Obj} (hw : w'.heap = w.heap.push ob) {L' : Loc} (hL : L.le L') {x : AV} {v : Value} (hx : den w (SS C w h L) L x v) :
    den w' (SS C w h L) L' x v :=
  den_mono (fun b hb => by rw [hw, Array.getElem?_push_lt hb.1, Array.getElem?_eq_getElem hb.1]) (fun _ h => h) hL x v hx

theorem raws_cells (z : Value) {w' : World} {S : Nat → Prop} {L' : Loc} : ∀ i, i < (z.cells.toList.map AV.raw).length → ∃ u, z.cells[i]? = some u ∧ den w' S L' ((z.cells.toList.map AV.raw).getD i .top) u := by
  intro i hi
  simp at hi
  refine ⟨z.cells[i], by simp [hi], ?_⟩
  rw [List.getD_eq_getElem?_getD, List.getElem?_map, Array.getElem?_toList, Array.getElem?_eq_getElem hi]
  rfl

theorem alloc_spec {E : TypeId} {K : AV → List AO → Prop} (hr : HRel C h L w)
    (hk : zeroK P E fun z => match P.underlying E with
    | some (.array n e) => match intB P e with
      | some k => sizeK P E fun s => sure (s = n) <| z = .agg ((List.replicate n (0 : Int)).map (Value.int k)).toArray ∧ addO h (.ints k (List.replicate n 0)) fun id h' => K (.ptr id 0) h'
      | none => match Nat.blt 64 n with
        | true => zeroK P e fun ze => z = .agg (Array.replicate n ze) ∧ addO h (.row n fun _ => .raw ze) fun id h' => K (.ptr id 0) h'
        | false => addO h (.lst (z.cells.toList.map .raw)) fun id h' => K (.ptr id 0) h'
    | some _ => addO h (.lst (z.cells.toList.map .raw)) fun id h' => K (.ptr id 0) h'
    | none => False) : EffV P C h L w (Instr.alloc E true (.tuple #[])) K := by
  obtain ⟨z, hz, hk⟩ := zeroK_spec hk
  have run : ∀ {K : AV → List AO → Prop}, EffV P C h L w (do pure (.pointer (some (← newVar E z)))) K → EffV P C h L w (Instr.alloc E true (.tuple #[])) K := by
    rintro K ⟨v, x, h', L', w', h1, h2⟩
    refine ⟨v, x, h', L', w', ?_, h2⟩
    rw [← h1]
    simp [Instr.alloc, hz]
  have plain : (addO h (.lst (z.cells.toList.map .raw)) fun id h' => K (.ptr id 0) h') → EffV P C h L w (Instr.alloc E true (.tuple #[])) K := fun hk =>
    run (new_var (o := .lst (z.cells.toList.map .raw)) hr (fun w' L' hw hL => cells_new hw (no_frozen _) (by simp) (raws_cells z)) hk)
  split at hk
  · split at hk
    · rename_i n e _ k _
      obtain ⟨s, hs, _, hk⟩ := sizeK_spec hk
      obtain ⟨rfl, rfl, hk2⟩ := sure_iff.1 hk
      refine run (new_var hr (fun w' L' hw hL => ?_) hk2)
      refine cells_new hw (no_frozen _) (by simp [Value.cells]) fun i hi => ⟨.int k 0, ?_, ?_⟩
      · simp at hi; simp [Value.cells, hi]
      · simp at hi; simp [List.getD_eq_getElem?_getD, hi]
    · split at hk
      · rename_i n e _ _ _ _ _
        obtain ⟨ze, _, rfl, hk2⟩ := zeroK_spec hk
        refine run (new_var hr (fun w' L' hw hL => ?_) hk2)
        have hsz : (Value.agg (Array.replicate n ze)).cells.size = n := by simp [Value.cells]
        have := cells_new (n := n) (p := fun _ u => u = ze) hw (no_frozen _) (by rw [hsz]; exact Nat.le_refl _) fun i hi => ⟨ze, by simp [Value.cells, hi], rfl⟩
        exact cellsAre_mono (fun _ _ => rfl) (fun i u hi hu => hu) this
      · exact plain hk
  · exact plain hk
  · exact hk.elim

theorem cell1_cells {x : AV} (hc : cell1 x = true) {v : Value} {S : Nat → Prop} (hx : den w S L x v) : v.cells = #[v] ∧ v.oneCell' = true := by
  cases x with
  | raw u => obtain rfl := hx; cases v <;> simp [cell1] at hc <;> exact ⟨rfl, rfl⟩
  | top => simp [cell1] at hc
  | agg => simp [cell1] at hc
  | aggI => simp [cell1] at hc
  | tup => simp [cell1] at hc
  | tt => obtain rfl := hx; exact ⟨rfl, rfl⟩
  | ff => obtain rfl := hx; exact ⟨rfl, rfl⟩
  | own => obtain ⟨_, ⟨_, _, rfl⟩ | ⟨_, _, _, rfl, _⟩⟩ := hx <;> exact ⟨rfl, rfl⟩
  | ptr => obtain ⟨_, _, _, rfl⟩ := hx; exact ⟨rfl, rfl⟩
  | rp => obtain ⟨_, rfl, _⟩ := hx; exact ⟨rfl, rfl⟩
  | ro => obtain ⟨_, _, rfl, _⟩ := hx; exact ⟨rfl, rfl⟩
  | rs => obtain ⟨_, _, rfl, _⟩ := hx; exact ⟨rfl, rfl⟩
  | roI => obtain ⟨_, _, rfl, _⟩ := hx; exact ⟨rfl, rfl⟩
  | clo => obtain ⟨_, rfl, _⟩ := hx; exact ⟨rfl, rfl⟩
  | mp => obtain ⟨_, _, _, rfl⟩ := hx; exact ⟨rfl, rfl⟩
  | ifc => obtain ⟨_, _, rfl⟩ := hx; exact ⟨rfl, rfl⟩
  | bx => obtain ⟨_, _, _, rfl, _⟩ := hx; exact ⟨rfl, rfl⟩
  | bm => obtain ⟨_, _, _, rfl⟩ := hx; exact ⟨rfl, rfl⟩

theorem newVarK_spec {E : TypeId} {x : AV} {v : Value} {K : AV → List AO → Prop} (hr : HRel C h L w) (hx : den w (SS C w h L) L x v)
    (hk : newVarK P E h x fun id h' => K (.ptr id 0) h') : EffV P C h L w (Instr.box E v) K := by
  unfold newVarK at hk
  split at hk
  · rename_i n f
    obtain ⟨s, hs, _, hk⟩ := sizeK_spec hk
    obtain ⟨rfl, hk⟩ := sure_iff.1 hk
    obtain ⟨vs, rfl, hn, hc⟩ := hx
    refine new_var hr (fun w' L' hw hL => ?_) hk
    refine cells_new hw (no_frozen _) (by simp [Value.cells, hn]) fun i hi => ?_
    simp at hi
    obtain ⟨u, h1, h2⟩ := hc i hi
    exact ⟨u, h1, by rw [tab_get hi]; exact den_new hr hw hL h2⟩
  · rename_i k xs
    obtain ⟨s, hs, _, hk⟩ := sizeK_spec hk
    obtain ⟨_, hk2⟩ := hk
    obtain rfl := hx
    refine new_var hr (fun w' L' hw hL => ?_) hk2
    refine cells_new hw (no_frozen _) (by simp [Value.cells]) fun i hi => ⟨.int k (xs.getD i 0), ?_, rfl⟩
    simp [Value.cells, hi]
  · split at hk
    · rename_i hc
      obtain ⟨s, hs, _, hk⟩ := sizeK_spec hk
      obtain ⟨rfl, hk⟩ := sure_iff.1 hk
      obtain ⟨h1, _⟩ := cell1_cells hc hx
      refine new_var hr (fun w' L' hw hL => ?_) hk
      refine cells_new hw (no_frozen _) (by simp [h1]) fun i hi => ⟨v, ?_, ?_⟩
      · simp at hi; subst hi; simp [h1]
      · simp at hi; subst hi; exact den_new hr hw hL hx
    · exact hk.elim

theorem run_storeCells {b : Nat} : ∀ (vs : List Value) (o i : Nat) (w : World) (c : Array Value) (E : TypeId) (lo hi : Nat), (∀ v ∈ vs, v.oneCell' = true) →
    w.heap[b]? = some (.cells c E (lo, hi)) → (∀ o, o < c.size → (decide (lo ≤ o) && decide (o < hi)) = false) → o + i + vs.length ≤ c.size →
    ∃ w' c', (storeCells ⟨b, o, none⟩ vs i).run P w = .ok () w' ∧ Alike w w' ∧ w'.heap.size = w.heap.size ∧ (∀ k, k ≠ b → w'.heap[k]? = w.heap[k]?) ∧
      w'.heap[b]? = some (.cells c' E (lo, hi)) ∧ c'.size = c.size ∧ ∀ j, c'[j]? = if o + i ≤ j ∧ j < o + i + vs.length then vs[j - (o + i)]? else c[j]?
  | [], o, i, w, c, E, lo, hi, _, hb, _, _ => ⟨w, c, rfl, .refl _, rfl, fun _ _ => rfl, hb, rfl, fun j => by rw [if_neg]; simp⟩
  | v :: vs, o, i, w, c, E, lo, hi, hone, hb, hf, hle => by
    simp at hle
    have hlt : o + i < c.size := by omega
    have hblt : b < w.heap.size := (Array.getElem?_eq_some_iff.1 hb).1
    have hcell : ∃ u, w.cell? ⟨b, o + i, none⟩ = some u := ⟨c[o + i], by simp [World.cell?, hb, hlt]⟩
    obtain ⟨u, hu⟩ := hcell
    have hfr : w.frozen? ⟨b, o + i, none⟩ = false := by
      have := hf (o + i) hlt
      simpa [World.frozen?, hb] using this
    have hset : (w.setCell ⟨b, o + i, none⟩ v).heap[b]? = some (.cells (c.setIfInBounds (o + i) v) E (lo, hi)) := by
      simp [World.setCell, Array.getElem?_modify, hb]
    obtain ⟨w', c', h1, h2, h3, h4, h5, h6, h7⟩ := run_storeCells vs o (i + 1) (w.setCell ⟨b, o + i, none⟩ v) (c.setIfInBounds (o + i) v) E lo hi (fun x hx => hone x (List.mem_cons_of_mem _ hx)) hset
      (fun x hx => hf x (by simpa using hx)) (by simp; omega)
    refine ⟨w', c', ?_, ⟨h2.os, h2.tape, h2.output⟩, ?_, fun k hk => ?_, h5, by rw [h6]; simp, fun j => ?_⟩
    · unfold storeCells
      rw [Sem.run_bind, Addr.add_mk, run_store P w _ v _ (hone v List.mem_cons_self), hu]
      simp only [hfr, Bool.false_eq_true, if_false, Result.andThen_ok]
      exact h1
    · rw [h3]; simp [World.setCell]
    · rw [h4 k hk]; simp [World.setCell, Array.getElem?_modify, Ne.symm hk]
    · rw [h7 j]
      by_cases hj : o + i ≤ j ∧ j < o + i + (vs.length + 1)
      · by_cases e : j = o + i
        · subst e
          rw [if_neg (by omega), if_pos (by simp)]
          simp [hlt]
        · rw [if_pos (by omega), if_pos (by simp; omega)]
          rw [show j - (o + i) = (j - (o + (i + 1))) + 1 by omega, List.getElem?_cons_succ]
      · rw [if_neg (by omega), if_neg (by simpa using hj)]
        rw [Array.getElem?_setIfInBounds_ne (by omega)]

theorem store_block (hr : HRel C h L w) {id b n off sz : Nat} {p : Nat → Value → Prop} (hl : Live h id) (hb : L.b id = some b) (hc : cellsAre w (L.b id) sz n p) {vs : List Value}
    (hone : ∀ v ∈ vs, v.oneCell' = true) (hle : off + vs.length ≤ sz) :
    ∃ w', (storeCells ⟨b, off, none⟩ vs).run P w = .ok () w' ∧ Alike w w' ∧ w'.heap.size = w.heap.size ∧ (∀ k, k ≠ b → w'.heap[k]? = w.heap[k]?) ∧
      ∀ (m : Nat) (q : Nat → Value → Prop), m ≤ sz → (∀ i, i < m → (off ≤ i ∧ i < off + vs.length ∧ ∃ u, vs[i - off]? = some u ∧ q i u) ∨ (¬ (off ≤ i ∧ i < off + vs.length) ∧ i < n ∧ ∀ u, p i u → q i u)) →
        cellsAre w' (some b) sz m q := by
  rcases hc with ⟨_, h2⟩ | ⟨b', c, E, lo, hi, e, h1, h2, h3, h4, h5⟩
  · rw [hb] at h2; cases h2
  · rw [hb] at e
    obtain rfl := Option.some.inj e
    obtain ⟨w', c', g1, g2, g3, g4, g5, g6, g7⟩ := run_storeCells (P := P) (b := b) vs off 0 w c E lo hi hone h1 h4 (by omega)
    refine ⟨w', g1, g2, g3, g4, fun m q hm hq => .inr ⟨b, c', E, lo, hi, rfl, g5, by rw [g6, h2], hm, fun o ho => h4 o (by rw [g6] at ho; exact ho), fun i hi' => ?_⟩⟩
    rcases hq i hi' with ⟨q1, q2, u, q3, q4⟩ | ⟨q1, q2, q3⟩
    · exact ⟨u, by rw [g7, if_pos (by omega)]; simpa using q3, q4⟩
    · obtain ⟨u, u1, u2⟩ := h5 i q2
      exact ⟨u, by rw [g7, if_neg (by omega)]; exact u1, q3 u u2⟩

theorem storeVar_run {T : TypeId} {s : Nat} {A : Addr} {v : Value} (hs : ∀ w, (sizeOf T).run P w = .ok s w) (hv : v.cells.size = s) {w w' : World}
    (hr : (storeCells A v.cells.toList).run P w = .ok () w') : (storeVar T A v).run P w = .ok () w' := by
  unfold storeVar
  have : ¬ (v.cells.size ≠ s) := by simpa using hv
  simp only [Sem.run_bind, hs, Result.andThen_ok, this, if_false, hr]

theorem den_upd (hr : HRel C h L w) {w' : World} {id b : Nat} (hl : Live h id) (hb : L.b id = some b) (hw : ∀ k, k ≠ b → w'.heap[k]? = w.heap[k]?) {L' : Loc} (hL : L.le L')
    {x : AV} {v : Value} (hx : den w (SS C w h L) L x v) : den w' (SS C w h L) L' x v :=
  den_mono (fun k hk => hw k fun e => hk.2.2 id hl (e ▸ hb)) (fun _ h => h) hL x v hx

theorem storeK_spec {T : TypeId} {x y : AV} {vx vy : Value} {K : List AO → Prop} (hr : HRel C h L w) (hx : den w (SS C w h L) L x vx) (hy : den w (SS C w h L) L y vy)
    (hk : storeK P T h x y K) : EffU P C h L w (Instr.storeAt T vx vy) K := by
  unfold storeK at hk
  split at hk
  · rename_i id off
    obtain ⟨hid, b, hb, rfl⟩ := hx
    replace hk := getO_iff.1 hk
    obtain ⟨o, ho, hk⟩ := hk
    have hob := hr.objs id o ho
    -- the common end
    have fin : ∀ {n s : Nat} {p : Nat → Value → Prop} {o' : AO} (vs : List Value), o.live → cellsAre w (L.b id) (L.sz id) n p → (∀ w, (sizeOf T).run P w = .ok s w) → vy.cells.toList = vs → vs.length = s →
        (∀ v ∈ vs, v.oneCell' = true) → off + s ≤ n → (∀ w', (∀ (x : AV) (v : Value), den w (SS C w h L) L x v → den w' (SS C w h L) L x v) → cellsAre w' (some b) (L.sz id) n (fun i u => if off ≤ i ∧ i < off + s then vs[i - off]? = some u else p i u) → objIs w' (SS C w h L) L (some b) (L.sz id) o') →
        K (h.set id o') → EffU P C h L w (Instr.storeAt T (.pointer (some ⟨b, off, none⟩)) vy) K := by
      intro n s p o' vs hlive hc hs hvs hvl hone hle hobj hk
      have hl : Live h id := ⟨o, ho, hlive⟩
      have hn : n ≤ L.sz id := by
        rcases hc with ⟨_, h2⟩ | ⟨_, _, _, _, _, _, _, h2, h3, _⟩
        · rw [hb] at h2; cases h2
        · exact h3
      obtain ⟨w', g1, g2, g3, g4, g5⟩ := store_block (P := P) hr hl hb hc hone (off := off) (by omega)
      have hd : ∀ (x : AV) (v : Value), den w (SS C w h L) L x v → den w' (SS C w h L) L x v := fun x v hx => den_upd hr hl hb g4 (.refl _) hx
      have hcs : cellsAre w' (some b) (L.sz id) n (fun i u => if off ≤ i ∧ i < off + s then vs[i - off]? = some u else p i u) := ?_
      refine ⟨h.set id o', L, w', ?_, step_upd hr g2 g3 hl hb g4 (by rw [hb]; exact hobj w' hd hcs), hk⟩
      · show (storeVar T ⟨b, off, none⟩ vy).run P w = _
        exact storeVar_run hs (by rw [← Array.length_toList, hvs, hvl]) (by rw [hvs]; exact g1)
      · refine g5 n _ hn fun i hi => ?_
        by_cases e : off ≤ i ∧ i < off + s
        · have hlt : i - off < vs.length := by omega
          exact .inl ⟨e.1, by omega, vs[i - off], by simp [hlt], by rw [if_pos e]; simp [hlt]⟩
        · exact .inr ⟨by omega, hi, fun u hu => by rw [if_neg e]; exact hu⟩
    cases o with
    | dead => exact hk.elim
    | map _ => exact hk.elim
    | mapB _ _ _ => exact hk.elim
    | miter _ _ _ => exact hk.elim
    | siter _ _ => exact hk.elim
    | ints k xs =>
      simp only [] at hk
      split at hk
      · rename_i k' n
        obtain rfl := hy
        obtain ⟨s, hs, _, hk⟩ := sizeK_spec hk
        obtain ⟨rfl, hk1⟩ := sure_iff.1 hk
        obtain ⟨rfl, hlt, hk2⟩ := sameKind_iff.1 hk1
        obtain ⟨_, hk2⟩ := setO_iff.1 hk2
        refine fin [.int k' n] trivial hob hs rfl rfl (by simp [Value.oneCell']) (by omega) (fun w' _ hc => ?_) hk2
        refine cellsAre_mono (fun _ _ => rfl) (fun i u hi hu => ?_) (by simpa using hc)
        by_cases e : off ≤ i ∧ i < off + 1
        · obtain rfl : i = off := by omega
          rw [if_pos e] at hu
          simp at hu
          simp [← hu, List.getD_eq_getElem?_getD, hlt]
        · rw [if_neg e] at hu
          rw [hu]
          simp only [List.getD_eq_getElem?_getD]
          rw [List.getElem?_set_ne (by omega)]
      · rename_i k' ys
        obtain rfl := hy
        obtain ⟨s, hs, _, hk⟩ := sizeK_spec hk
        obtain ⟨rfl, hk1⟩ := hk
        obtain ⟨rfl, hlt, hk2⟩ := sameKind_iff.1 hk1
        obtain ⟨_, hk2⟩ := setO_iff.1 hk2
        have hlen : (xs.take off ++ ys ++ xs.drop (off + ys.length)).length = xs.length := by simp; omega
        refine fin (ys.map (Value.int k')) trivial hob hs rfl (by simp) (by simp [Value.oneCell']) hlt (fun w' _ hc => ?_) hk2
        show cellsAre w' (some b) (L.sz id) _ _
        rw [hlen]
        refine cellsAre_mono (fun _ _ => rfl) (fun i u hi hu => ?_) hc
        by_cases e : off ≤ i ∧ i < off + ys.length
        · rw [if_pos e] at hu
          have h1 : i - off < ys.length := by omega
          simp [h1] at hu
          rw [← hu, List.getD_eq_getElem?_getD, List.append_assoc, List.getElem?_append_right (by simp; omega), List.getElem?_append_left (by simp; omega)]
          simp
          rw [List.getElem?_eq_getElem (by omega)]
          simp
          congr 1
          omega
        · rw [if_neg e] at hu
          rw [hu, List.getD_eq_getElem?_getD, List.getD_eq_getElem?_getD]
          rcases Nat.lt_or_ge i off with h1 | h1
          · rw [List.append_assoc, List.getElem?_append_left (by simp; omega), List.getElem?_take_of_lt h1]
          · have hm : min off xs.length = off := by omega
            rw [List.getElem?_append_right (by simp; omega), List.getElem?_drop, List.length_append, List.length_take, hm]
            congr 3
            omega
      · exact hk.elim
    | lst l =>
      simp only [] at hk
      have aggCase : ∀ {s : Nat} {f : Nat → AV} {vs : Array Value}, vy = .agg vs → vs.size = s → (∀ i, i < s → ∃ u, vs[i]? = some u ∧ den w (SS C w h L) L (f i) u) → (∀ w, (sizeOf T).run P w = .ok s w) → off + s ≤ l.length → ((List.range s).map f).all cell1 = true →
          K (h.set id (.lst (l.take off ++ (List.range s).map f ++ l.drop (off + s)))) → EffU P C h L w (Instr.storeAt T (.pointer (some ⟨b, off, none⟩)) vy) K := by
        intro s f vs hvy hn hcs hs hle hall hk2
        subst hvy
        have hlen : (l.take off ++ (List.range s).map f ++ l.drop (off + s)).length = l.length := by simp; omega
        refine fin vs.toList trivial hob hs rfl (by simpa using hn) (fun v hv => ?_) hle (fun w' hd hc => ?_) hk2
        · obtain ⟨i, hi, e⟩ := List.getElem_of_mem hv
          simp at hi
          obtain ⟨u, h1, h2⟩ := hcs i (by omega)
          have : u = v := by
            rw [Array.getElem?_eq_getElem hi] at h1
            simpa [← e] using (Option.some.inj h1).symm
          subst this
          have hc1 : cell1 (f i) = true := List.all_eq_true.1 hall (f i) (by simp; exact ⟨i, by omega, rfl⟩)
          exact (cell1_cells hc1 h2).2
        · show cellsAre w' (some b) (L.sz id) _ _
          rw [hlen]
          refine cellsAre_mono (fun _ _ => rfl) (fun i u hi hu => ?_) hc
          by_cases e : off ≤ i ∧ i < off + s
          · rw [if_pos e] at hu
            obtain ⟨u', h1, h2⟩ := hcs (i - off) (by omega)
            have : u' = u := by
              simp at hu
              rw [h1] at hu; exact Option.some.inj hu
            subst this
            have : (l.take off ++ (List.range s).map f ++ l.drop (off + s)).getD i .top = f (i - off) := by
              rw [List.getD_eq_getElem?_getD, List.append_assoc, List.getElem?_append_right (by simp; omega), List.getElem?_append_left (by simp; omega)]
              have h3 : i - off < s := by omega
              have h4 : min off l.length = off := by omega
              simp [h3, h4]
            rw [this]
            exact hd _ _ h2
          · rw [if_neg e] at hu
            have : (l.take off ++ (List.range s).map f ++ l.drop (off + s)).getD i .top = l.getD i .top := by
              rw [List.getD_eq_getElem?_getD, List.getD_eq_getElem?_getD]
              rcases Nat.lt_or_ge i off with h1 | h1
              · rw [List.append_assoc, List.getElem?_append_left (by simp; omega), List.getElem?_take_of_lt h1]
              · rw [List.getElem?_append_right (by simp; omega), List.getElem?_drop]
                congr 2
                simp
                omega
            rw [this]
            exact hd _ _ hu
      split at hk
      · rename_i n f
        obtain ⟨vs, hvy, hn, hcs⟩ := hy
        obtain ⟨s, hs, _, hk⟩ := sizeK_spec hk
        obtain ⟨⟨rfl, hle⟩, hk1⟩ := sure_iff.1 hk
        obtain ⟨hall, hk2⟩ := sure_iff.1 hk1
        obtain ⟨_, hk2⟩ := setO_iff.1 hk2
        exact aggCase hvy hn hcs hs hle hall hk2
      · rename_i k' xs
        obtain ⟨s, hs, _, hk⟩ := sizeK_spec hk
        obtain ⟨hxs, hk0⟩ := hk
        obtain ⟨hle, hk1⟩ := sure_iff.1 hk0
        obtain ⟨hall, hk2⟩ := sure_iff.1 hk1
        obtain ⟨_, hk2⟩ := setO_iff.1 hk2
        refine aggCase (s := s) (f := fun i => int k' (xs.getD i 0)) (vs := (xs.map (Value.int k')).toArray) hy (by simp [hxs]) (fun i hi => ⟨.int k' (xs.getD i 0), ?_, rfl⟩) hs hle hall hk2
        have hi' : i < xs.length := by omega
        simp [hi', List.getD_eq_getElem?_getD]
      · split at hk
        · rename_i hc1
          obtain ⟨s, hs, _, hk⟩ := sizeK_spec hk
          obtain ⟨⟨rfl, hlt⟩, hk1⟩ := sure_iff.1 hk
          have hk2 := setK_iff.1 hk1
          obtain ⟨_, hk2⟩ := setO_iff.1 hk2
          obtain ⟨g1, g2⟩ := cell1_cells hc1 hy
          refine fin [vy] trivial hob hs (by rw [g1]) rfl (by simpa using g2) (by omega) (fun w' hd hc => ?_) hk2
          show cellsAre w' (some b) (L.sz id) _ _
          rw [List.length_set]
          refine cellsAre_mono (fun _ _ => rfl) (fun i u hi hu => ?_) hc
          by_cases e : off ≤ i ∧ i < off + 1
          · obtain rfl : i = off := by omega
            rw [if_pos e] at hu
            simp at hu
            subst hu
            have : (l.set i y).getD i .top = y := by simp [List.getD_eq_getElem?_getD, hlt]
            rw [this]
            exact hd _ _ hy
          · rw [if_neg e] at hu
            have : (l.set off y).getD i .top = l.getD i .top := by rw [List.getD_eq_getElem?_getD, List.getD_eq_getElem?_getD, List.getElem?_set_ne (by omega)]
            rw [this]
            exact hd _ _ hu
        · exact hk.elim
    | row n f =>
      simp only [] at hk
      split at hk
      · rename_i m f'
        obtain ⟨vs, rfl, hn, hcs⟩ := hy
        obtain ⟨s, hs, _, hk⟩ := sizeK_spec hk
        obtain ⟨rfl, hle, hall, g, hg, hk1⟩ := sure_iff.1 hk
        obtain ⟨_, hk2⟩ := setO_iff.1 hk1
        refine fin vs.toList trivial hob hs rfl (by simpa using hn) (fun v hv => ?_) hle (fun w' hd hc => ?_) hk2
        · obtain ⟨i, hi, e⟩ := List.getElem_of_mem hv
          simp at hi
          obtain ⟨u, h1, h2⟩ := hcs i (by omega)
          have : u = v := by
            rw [Array.getElem?_eq_getElem hi] at h1
            simpa [← e] using (Option.some.inj h1).symm
          subst this
          exact (cell1_cells (hall i (by omega)) h2).2
        · refine cellsAre_mono (fun _ _ => rfl) (fun i u hi hu => ?_) hc
          rw [hg i hi]
          by_cases e : off ≤ i ∧ i < off + s
          · rw [if_pos e] at hu
            rw [if_pos e]
            obtain ⟨u', h1, h2⟩ := hcs (i - off) (by omega)
            have : u' = u := by
              simp at hu
              rw [h1] at hu; exact Option.some.inj hu
            subst this
            exact hd _ _ h2
          · rw [if_neg e] at hu
            rw [if_neg e]
            exact hd _ _ hu
      split at hk
      · rename_i hc1
        obtain ⟨s, hs, _, hk⟩ := sizeK_spec hk
        obtain ⟨rfl, hlt, g, hg, hk1⟩ := sure_iff.1 hk
        obtain ⟨_, hk2⟩ := setO_iff.1 hk1
        obtain ⟨g1, g2⟩ := cell1_cells hc1 hy
        refine fin [vy] trivial hob hs (by rw [g1]) rfl (by simpa using g2) (by omega) (fun w' hd hc => ?_) hk2
        refine cellsAre_mono (fun _ _ => rfl) (fun i u hi hu => ?_) hc
        rw [hg i hi]
        by_cases e : off ≤ i ∧ i < off + 1
        · obtain rfl : i = off := by omega
          rw [if_pos e] at hu
          simp at hu
          subst hu
          rw [if_pos rfl]
          exact hd _ _ hy
        · rw [if_neg e] at hu
          rw [if_neg (by omega)]
          exact hd _ _ hu
      · exact hk.elim
  · exact hk.elim

end
end Go.Proofs.YtflclafbieokiaaGreatDoor.AL

namespace Go.Proofs.YtflclafbieokiaaGreatDoor.AL
open Go
variable [Globs]

section
variable {P : Program} {C : Ctx} {t : List AV} {h : List AO} {L : Loc} {a : Act} {w : World}

theorem intB_spec {T : TypeId} {k : IntKind} (hi : intB P T = some k) : P.underlying T = some (.int k) := by
  unfold intB at hi
  split at hi
  · rename_i k' h; cases hi; exact h
  · cases hi

theorem new_row {E : TypeId} {c : Array Value} {o : AO} {len sz : Nat} {s : Sem Value} {K : AV → List AO → Prop} (hr : HRel C h L w) {w2 : World} {cap : Nat}
    (hs : s.run P w = .ok (.slice (some ⟨w.heap.size, 0, none⟩) len cap) w2)
    {lo hi : Nat} (hf : ∀ o, o < c.size → (decide (lo ≤ o) && decide (o < hi)) = false) (h2 : w2.heap = w.heap.push (.cells c E (lo, hi))) (hal2 : Alike w w2) (hcap : len ≤ cap) (hsz : cap * sz ≤ c.size)
    (ho : ∀ w' L', w'.heap = w.heap.push (.cells c E (lo, hi)) → L.le L' → objIs w' (SS C w h L) L' (some w.heap.size) c.size o)
    (hk : addO h o fun id h' => K (.own id 0 len sz) h') : EffV P C h L w s K := by
  have hst := step_new (w' := w2) (sz := c.size) hr hal2 h2 (fun L' hL => ho _ L' h2 hL)
  refine ⟨_, .own h.length 0 len sz, _, _, _, hs, hst, ⟨push_n hr _ _, .inr ⟨_, cap, push_b hr _ _, rfl, hcap, ?_⟩⟩, addO_spec hk⟩
  rw [push_sz hr]
  omega

theorem makeK_spec {T : TypeId} {x y : AV} {vx vy : Value} {K : AV → List AO → Prop} (hr : HRel C h L w) (hx : den w (SS C w h L) L x vx) (hy : den w (SS C w h L) L y vy)
    (hk : makeK P T h x y K) : EffV P C h L w (Instr.makeSlice T vx vy) K := by
  unfold makeK at hk
  split at hk
  · rename_i n m
    obtain rfl := hx
    obtain rfl := hy
    split at hk
    · rename_i e hu
      split at hk
      · rename_i i hi
        obtain ⟨⟨h0, h1, h2, h3⟩, hk⟩ := hk
        -- the run, but for the cells
        have wrap : ∀ j : Int, 0 ≤ j → j < 9223372036854775808 → IntKind.i64.wrap j = j := fun j a b => by
          simp [IntKind.wrap, IntKind.bits, IntKind.signed]
          omega
        have wn := wrap n h0 (by omega)
        have wm := wrap m (by omega) h2
        have hfit : ¬ ((decide (m < 0) || decide ((i.bytes : Int) * m > 2 ^ 48)) = true ∨ n < 0 ∨ n > m) := by
          have : (i.bytes : Int) * m ≤ 140737488355328 := by rw [Int.mul_comm]; exact h3
          simp
          omega
        have run : ∀ {s : Nat} {z : Value}, (∀ w, (sizeOf e).run P w = .ok s w) → (∀ w, (zeroValue e).run P w = .ok z w) → 0 < s → z.cells.size = s →
            (Instr.makeSlice T (.int .i64 n) (.int .i64 m)).run P w = .ok (.slice (some ⟨w.heap.size, 0, none⟩) n.toNat m.toNat)
              { w with heap := w.heap.push (.cells ((Array.range (m.toNat * s)).map (z.cells[· % z.cells.size]!)) e) } := by
          intro s z hs hz hpos hzs
          have hinfo : (typeInfo e).run P w = .ok i w := by simp [typeInfo, hi]
          unfold Instr.makeSlice
          simp only [Sem.run_bind, run_underlying hu, Result.andThen_ok, asInt, asIntOf, Sem.run_pure, hinfo, wn, wm]
          have e1 : (decide (m < 0) || decide ((i.bytes : Int) * m > 2 ^ 48) || decide (n < 0) || decide (n > m)) = false := by
            have : (i.bytes : Int) * m ≤ 140737488355328 := by rw [Int.mul_comm]; exact h3
            simp
            omega
          simp only [e1, Bool.false_eq_true, if_false]
          simp only [Sem.run_bind, run_askRoom, Result.andThen_ok, hs]
          by_cases hz0 : m.toNat * s = 0
          · have : m.toNat = 0 := by
              rcases Nat.mul_eq_zero.1 hz0 with h | h
              · exact h
              · omega
            have h00 : ∀ f : Nat → Value, Array.map f (Array.range 0) = #[] := fun f => Array.eq_empty_of_size_eq_zero (by simp)
            simp [this, run_newRow, h00]
          · simp only [hz0, if_false, Sem.run_bind, hz, Result.andThen_ok, Sem.run_pure, run_newRow]
        have hcells : ∀ {s : Nat} {z : Value}, 0 < s → z.cells.size = s → ∀ i, i < m.toNat * s → ((Array.range (m.toNat * s)).map (z.cells[· % z.cells.size]!))[i]? = some (z.cells[i % s]!) := by
          intro s z hpos hzs i hi
          simp [hi, hzs]
        have hle : ∀ s, n.toNat * s ≤ m.toNat * s := fun s => Nat.mul_le_mul_right _ (by omega)
        split at hk
        · rename_i k hik
          obtain ⟨s, hs, _, hk⟩ := sizeK_spec hk
          obtain ⟨rfl, hk1⟩ := sure_iff.1 hk
          obtain ⟨z, hz, hk2⟩ := zeroK_spec hk1
          obtain ⟨hzs, hz0, hk3⟩ := sure_iff.1 hk2
          refine new_row hr (run hs hz (by omega) hzs) (no_frozen _) rfl ⟨rfl, rfl, rfl⟩ (by omega) (by simp) (fun w' L' hw hL => ?_) hk3
          refine cells_new hw (no_frozen _) (by simp; omega) fun i hi => ⟨_, hcells (s := 1) (z := z) (by omega) hzs i (by simp at hi; omega), ?_⟩
          simp at hi
          rw [Nat.mod_one, hz0]
          simp [List.getD_eq_getElem?_getD, hi]
        · obtain ⟨s, hs, _, hk⟩ := sizeK_spec hk
          obtain ⟨hpos, hk1⟩ := sure_iff.1 hk
          obtain ⟨z, hz, hk2⟩ := zeroK_spec hk1
          obtain ⟨hzs, hk3⟩ := sure_iff.1 hk2
          refine new_row hr (run hs hz hpos hzs) (no_frozen _) rfl ⟨rfl, rfl, rfl⟩ (by omega) (by simp) (fun w' L' hw hL => ?_) hk3
          refine cells_new hw (no_frozen _) (by simpa using hle s) fun i hi => ⟨_, hcells (z := z) hpos hzs i (by have := hle s; omega), rfl⟩
      · exact hk.elim
    · exact hk.elim
  · exact hk.elim

theorem bytes_world (w : World) (e : TypeId) (s : ByteArray) : (Lib.bytesWorld w e s).heap = w.heap.push (.cells (Lib.bytesCells w e s) e ((Lib.bytesCells w e s).size, (Lib.bytesCells w e s).size + 1)) := by
  apply Array.ext_getElem?
  intro i
  rcases Nat.lt_or_ge i w.heap.size with h1 | h1
  · rw [Lib.bytesWorld_at_old w e s i h1, Array.getElem?_push_lt h1, Array.getElem?_eq_getElem h1]
  · rcases Nat.eq_or_lt_of_le h1 with h2 | h2
    · subst h2
      rw [Lib.bytesWorld_at_new]; simp
    · rw [Array.getElem?_eq_none (by rw [Lib.bytesWorld_size]; omega), Array.getElem?_eq_none (by simp; omega)]

theorem stringToBytes_spec {src dst e : TypeId} {s : ByteArray} {d : TypeDesc} {K : AV → List AO → Prop} (hr : HRel C h L w) (hs : P.underlying src = some d) (hd : P.underlying dst = some (.slice e))
    (he : P.underlying e = some (.int .u8)) (hk : addO h (.ints .u8 (intsOf s)) fun id h' => K (.own id 0 s.size 1) h') : EffV P C h L w (convert src dst (.string s)) K := by
  have hcap : s.size ≤ grownCap w s.size 0 e := by simp [grownCap, Question.cut]
  have hsz : (Lib.bytesCells w e s).size = grownCap w s.size 0 e := by
    have : s.data.size = s.size := rfl
    simp [Lib.bytesCells]; omega
  refine new_row hr (Lib.run_convert_string_bytes w src dst e s hs hd he) (fun o ho => by simp; omega) (bytes_world w e s) ⟨rfl, rfl, rfl⟩ hcap (by omega) (fun w' L' hw hL => ?_) hk
  refine cells_new hw (fun o ho => by simp; omega) (by rw [intsOf_length]; omega) fun i hi => ⟨_, ?_, rfl⟩
  rw [intsOf_length] at hi
  obtain ⟨b, hb, e1⟩ := intsOf_get hi
  have hi' : i < s.data.size := hi
  have h2 : s[i]? = some s.data[i] := getElem?_pos s i hi
  rw [e1]
  rw [h2] at hb
  cases hb
  have h3 : s.data[i]? = some s.data[i] := Array.getElem?_eq_getElem hi'
  unfold Lib.bytesCells
  rw [Array.getElem?_append_left (by simpa using hi'), Array.getElem?_map, h3]
  rfl

theorem markBytes_spec (hr : HRel C h L w) {src dst e e' : TypeId} {id off len : Nat} {xs : List Int} {v : Value} {K : AV → List AO → Prop} (hs : P.underlying src = some (.slice e')) (hd : P.underlying dst = some (.slice e)) (he : P.underlying e = some (.int .u8))
    (heq : src = dst) (hlen : 0 < len) (ho : h[id]? = some (.ints .u8 xs)) (hle : off + len ≤ xs.length) (hv : den w (SS C w h L) L (.own id off len 1) v) (hk : setO h id .dead fun h' => K (.roI .u8 ((xs.drop off).take len)) h') :
    EffV P C h L w (convert src dst v) K := by
  obtain ⟨hid, hk1⟩ := setO_iff.1 hk
  obtain ⟨_, ⟨h0, _⟩ | ⟨b, cap, hb, rfl, hcap, hsz⟩⟩ := hv
  · omega
  have hc : cellsAre w (L.b id) (L.sz id) xs.length fun i u => u = .int .u8 (xs.getD i 0) := hr.objs id _ ho
  rcases hc with ⟨_, h2⟩ | ⟨b', c, E, lo, hi, e1, h1, h2, h3, h4, h5⟩
  · rw [hb] at h2; cases h2
  rw [hb] at e1
  obtain rfl := Option.some.inj e1
  have hlive : Live h id := ⟨_, ho, trivial⟩
  obtain ⟨m1, m2⟩ := hr.mine id b hlive hb
  have hother : ∀ k, k ≠ b → (w.freeze ⟨b, c.size, none⟩ 1).heap[k]? = w.heap[k]? := fun k hk => by
    simp [World.freeze, Array.getElem?_modify, Ne.symm hk]
  have hsame : (w.freeze ⟨b, c.size, none⟩ 1).heap.size = w.heap.size := by simp [World.freeze]
  have hcell : ∀ j, (w.freeze ⟨b, c.size, none⟩ 1).cell? ⟨b, j, none⟩ = w.cell? ⟨b, j, none⟩ := fun j => by
    simp [World.freeze, World.cell?, Array.getElem?_modify, h1]
  have hrun : (convert src dst (.slice (some ⟨b, off, none⟩) len cap)).run P w = .ok (.slice (some ⟨b, off, none⟩) len cap) (w.freeze ⟨b, c.size, none⟩ 1) := by
    subst heq
    unfold convert
    simp only [Sem.run_bind, run_underlying hs, Result.andThen_ok]
    rw [hs] at hd
    cases hd
    simp [run_underlying he, markStringish, shape, freeze, Sem.run, World.shape?, h1]
  have st := step_upd (w' := w.freeze ⟨b, c.size, none⟩ 1) (o := .dead) hr ⟨rfl, rfl, rfl⟩ hsame hlive hb hother trivial
  refine ⟨_, .roI .u8 ((xs.drop off).take len), h.set id .dead, L, _, hrun, st, ?_, hk1⟩
  have hl2 : ((xs.drop off).take len).length = len := by simp; omega
  refine ⟨_, cap, by rw [hl2], by rw [hl2]; exact hcap, fun i hi => ⟨b, off, rfl, ⟨by rw [hsame]; exact m1, .inr m2, fun j hj ej => ?_⟩, ?_⟩⟩
  · rcases live_set hj with ⟨rfl, hd⟩ | ⟨g1, g2⟩
    · exact hd.elim
    · exact g1 (hr.inj j id b g2 hlive ej hb)
  · rw [hl2] at hi
    rw [hcell]
    obtain ⟨u, g1, g2⟩ := h5 (off + i) (by omega)
    have : w.cell? ⟨b, off + i, none⟩ = c[off + i]? := by simp [World.cell?, h1]
    rw [this, g1, g2, List.getD_eq_getElem?_getD, List.getD_eq_getElem?_getD, List.getElem?_take_of_lt hi, List.getElem?_drop]

theorem step_none (hr : HRel C h L w) {w' : World} (hs : Alike w w') (hw : w'.heap = w.heap) {o : AO} (ho : ∀ L', L.le L' → objIs w' (SS C w h L) L' none 0 o) : Step C h L w (h ++ [o]) (L.push none 0) w' := by
  have hL := L.push_le none 0
  have hn := hr.n
  refine step_of hr hs (by rw [hw]; exact Nat.le_refl _) hL (by simp [Loc.push, hn]) (by simp) (fun k hk => .inl (by rw [hw])) (fun i b hi e => ?_) (fun i j b hi hj ei ej => ?_) (fun i p hp => ?_)
  · rcases live_append hi with ⟨h1, h2⟩ | h1
    · rw [hL.b i (by omega)] at e
      exact ⟨by rw [hw]; exact (hr.mine i b h2 e).1, .inr ⟨i, h2, e⟩⟩
    · subst h1; simp [Loc.push, hn] at e
  · rcases live_append hi with ⟨h1, h2⟩ | h1
    · rcases live_append hj with ⟨h3, h4⟩ | h3
      · rw [hL.b i (by omega)] at ei
        rw [hL.b j (by omega)] at ej
        exact hr.inj i j b h2 h4 ei ej
      · subst h3; simp [Loc.push, hn] at ej
    · subst h1; simp [Loc.push, hn] at ei
  · rcases get_append hp with ⟨h1, h2⟩ | ⟨h1, h2⟩
    · exact old_obj hr hL h2 (fun k _ => by rw [hw]) (fun k _ _ => by rw [hw])
    · subst h1 h2
      have := ho (L.push none 0) hL
      simpa [Loc.push, hn] using this

theorem run_append_fits {T T2 ty e : TypeId} {d : TypeDesc} {sz m sLen sCap : Nat} {base : Option Addr} {x : Value} {us : List Value} {w w' : World} (ht : P.underlying T = some (.slice e))
    (hs : ∀ w, (sizeOf e).run P w = .ok sz w) (h2 : P.underlying T2 = some d) (hd : notInt d = true) (hlen : ∀ w, (Builtin.lenOf x).run P w = .ok m w)
    (hfirst : (Builtin.firstCells sz m x).run P w = .ok us.toArray w) (hfit : sLen + m ≤ sCap)
    (hstore : ∀ a, base = some a → (storeCells (a.add (sLen * sz)) us).run P w = .ok () w') (hnone : base = none → w' = w) :
    (Builtin.append_ #[T, T2] ty #[.slice base sLen sCap, x]).run P w = .ok (.slice base (sLen + m) sCap) w' := by
  cases base with
  | none =>
    obtain rfl := hnone rfl
    cases d <;> simp [notInt] at hd <;> simp [Builtin.append_, run_underlying ht, run_underlying h2, hs, hlen, hfirst, hfit]
  | some a =>
    have := hstore a rfl
    cases d <;> simp [notInt] at hd <;> simp [Builtin.append_, run_underlying ht, run_underlying h2, hs, hlen, hfirst, hfit, this]

theorem run_append_more {T T2 ty e : TypeId} {d : TypeDesc} {i : TypeInfo} {z : Value} {m sLen sCap : Nat} {base : Option Addr} {x : Value} {us olds : List Value} {w : World} (ht : P.underlying T = some (.slice e))
    (hi : P.info? e = some i) (hz : i.zero = some z) (h2 : P.underlying T2 = some d) (hd : notInt d = true) (hlen : ∀ w, (Builtin.lenOf x).run P w = .ok m w)
    (hfirst : ∀ w', w'.heap = w.heap → (Builtin.firstCells i.size m x).run P w' = .ok us.toArray w') (holds : ∀ w', w'.heap = w.heap → (Builtin.firstCells i.size sLen (.slice base sLen sCap)).run P w' = .ok olds.toArray w')
    (hfit : sCap < sLen + m) (hb : (sLen + m) * i.bytes ≤ 140737488355328) (h63 : sLen + m < 9223372036854775808) :
    (Builtin.append_ #[T, T2] ty #[.slice base sLen sCap, x]).run P w =
      .ok (.slice (some ⟨w.heap.size, 0, none⟩) (sLen + m) (grownCap w (sLen + m) sCap e))
        (w.drew.alloc (.cells ((olds ++ us).toArray ++ Builtin.zeroCells z.cells (grownCap w (sLen + m) sCap e - (sLen + m))) e)) := by
  have hn : ¬ (sLen + m ≤ sCap) := by omega
  have h48 : ¬ (281474976710656 < Builtin.nextslicecap (sLen + m) sCap * i.bytes) := by
    have := growslice_fits (need := sLen + m) (old := sCap) (bytes := i.bytes) hfit hb
    omega
  have f1 := hfirst w.drew rfl
  have f2 := holds w.drew rfl
  have h63' : ¬ (9223372036854775807 < ((sLen : Int) + (m : Int))) := by omega
  cases d <;> simp [notInt] at hd <;>
    simp [Builtin.append_, run_underlying ht, run_underlying h2, sizeOf, typeInfo, zeroValue, hi, hz, hlen, hn, h48, h63', Question.forced, f1, f2, newRow, grownCap, Array.append_assoc] <;>
    rw [← List.append_toArray, Array.append_assoc]

structure Src (P : Program) (w : World) (sz : Nat) (x : Value) (m : Nat) (q : Nat → Value → Prop) : Prop where
  len : ∀ w, (Builtin.lenOf x).run P w = .ok m w
  cells : ∃ us : List Value, us.length = m * sz ∧ (∀ w' n, w'.heap = w.heap → n ≤ m → (Builtin.firstCells sz n x).run P w' = .ok (us.take (n * sz)).toArray w') ∧ (∀ u ∈ us, u.oneCell' = true) ∧ ∀ i, i < m * sz → ∃ u, us[i]? = some u ∧ q i u

theorem Src.full {sz m : Nat} {x : Value} {q : Nat → Value → Prop} (hx : Src P w sz x m q) : ∃ us : List Value, us.length = m * sz ∧ (∀ w', w'.heap = w.heap → (Builtin.firstCells sz m x).run P w' = .ok us.toArray w') ∧ (∀ u ∈ us, u.oneCell' = true) ∧ ∀ i, i < m * sz → ∃ u, us[i]? = some u ∧ q i u := by
  obtain ⟨us, h1, h2, h3, h4⟩ := hx.cells
  exact ⟨us, h1, fun w' hw => by rw [h2 w' m hw (Nat.le_refl _), ← h1, List.take_length], h3, h4⟩

theorem run_firstCells {A : Option Addr} {sz n m cap : Nat} {us : List Value} {w : World} (hl : us.length = n * sz)
    (hc : ∀ j, j < n * sz → ∃ b o, A = some ⟨b, o, none⟩ ∧ w.cell? ⟨b, o + j, none⟩ = us[j]?) : (Builtin.firstCells sz n (.slice A m cap)).run P w = .ok us.toArray w := by
  rcases Nat.eq_zero_or_pos (n * sz) with h0 | h0
  · have : us = [] := List.length_eq_zero_iff.1 (by omega)
    subst this
    cases A with
    | none => rfl
    | some A => simp [Builtin.firstCells, loadCells, h0, loadCellsFrom]
  · obtain ⟨b, o, rfl, _⟩ := hc 0 h0
    simp only [Builtin.firstCells]
    exact run_loadCells ⟨b, o, none⟩ rfl hl fun j hj => by
      obtain ⟨b', o', e, h1⟩ := hc j hj
      cases e
      exact h1

theorem src_empty (A : Option Addr) (cap : Nat) {sz : Nat} {q : Nat → Value → Prop} : Src P w sz (.slice A 0 cap) 0 q := by
  refine ⟨fun w => rfl, [], by simp, fun w' n' _ hn' => ?_, by simp, fun i hi => by omega⟩
  obtain rfl : n' = 0 := by omega
  cases A with
  | none => simp [Builtin.firstCells]
  | some A => simp [Builtin.firstCells, loadCells, loadCellsFrom]

theorem src_of_rcells {S : Nat → Prop} {A : Option Addr} {sz n cap : Nat} {q : Nat → Value → Prop} (hc : ∀ i, i < n * sz → ∃ u, rcell w S A i u ∧ u.oneCell' = true ∧ q i u) : Src P w sz (.slice A n cap) n q := by
  obtain ⟨us, h1, h2⟩ := choose_cells (n := n * sz) (c := fun i => match A with | some ⟨b, o, none⟩ => w.cell? ⟨b, o + i, none⟩ | _ => none) (p := fun i u => rcell w S A i u ∧ u.oneCell' = true ∧ q i u) (by
    intro i hi
    obtain ⟨u, ⟨b, o, e, hb, hcell⟩, h2⟩ := hc i hi
    subst e
    exact ⟨u, hcell, ⟨b, o, rfl, hb, hcell⟩, h2⟩)
  refine ⟨fun w => rfl, us, h1, fun w' n' hw hn' => run_firstCells (by rw [List.length_take]; have := Nat.mul_le_mul_right sz hn'; omega) fun j hj => ?_, fun u hu => ?_, fun i hi => ?_⟩
  · have hjn : j < n * sz := Nat.lt_of_lt_of_le hj (Nat.mul_le_mul_right sz hn')
    obtain ⟨u, h3, h4, ⟨b, o, e, _, hcell⟩, _⟩ := h2 j hjn
    exact ⟨b, o, e, by rw [List.getElem?_take_of_lt hj, h4]; simpa only [World.cell?, hw] using hcell⟩
  · obtain ⟨i, hi, e⟩ := List.getElem_of_mem hu
    obtain ⟨u', h3, h4, _, h5, _⟩ := h2 i (by omega)
    rw [List.getElem?_eq_getElem hi, e] at h4
    cases h4
    exact h5
  · obtain ⟨u, h3, h4, _, _, h5⟩ := h2 i hi
    exact ⟨u, h4, h5⟩

theorem own_src (hr : HRel C h L w) {id off len sz n : Nat} {o : AO} {v : Value} {p : Nat → Value → Prop} (ho : h[id]? = some o) (hc : cellsAre w (L.b id) (L.sz id) n p) (hv : den w (SS C w h L) L (.own id off len sz) v)
    (hle : off + len * sz ≤ n) (hone : ∀ i u, i < n → p i u → u.oneCell' = true) : Src P w sz v len (fun i u => p (off + i) u) := by
  obtain ⟨_, ⟨rfl, A, rfl⟩ | ⟨b, cap, hb, rfl, hcap, hsz⟩⟩ := hv
  · exact src_empty A 0
  · exact src_of_rcells (S := fun _ => True) fun i hi => by
      obtain ⟨u, h1, h2⟩ := own_cell hc hb (i := off + i) (by omega)
      exact ⟨u, ⟨b, off, rfl, trivial, h1⟩, hone _ _ (by omega) h2, h2⟩

def AppSrc (P : Program) (w : World) (T T2 ty e : TypeId) (i : TypeInfo) (z : Value) (sz : Nat) (x : Value) (m : Nat) (q : Nat → Value → Prop) : Prop :=
  ∃ us : List Value, us.length = m * sz ∧ (∀ u ∈ us, u.oneCell' = true) ∧ (∀ i, i < m * sz → ∃ u, us[i]? = some u ∧ q i u) ∧
    (m * i.bytes ≤ 140737488355328 → ∀ (base : Option Addr) (sLen sCap : Nat) (w' : World), sLen + m ≤ sCap → (∀ a, base = some a → (storeCells (a.add (sLen * sz)) us).run P w = .ok () w') → (base = none → w' = w) →
      (Builtin.append_ #[T, T2] ty #[.slice base sLen sCap, x]).run P w = .ok (.slice base (sLen + m) sCap) w') ∧
    (∀ (base : Option Addr) (sLen sCap : Nat) (olds : List Value), (∀ w', w'.heap = w.heap → (Builtin.firstCells i.size sLen (.slice base sLen sCap)).run P w' = .ok olds.toArray w') → sCap < sLen + m →
      (sLen + m) * i.bytes ≤ 140737488355328 → sLen + m < 9223372036854775808 →
      (Builtin.append_ #[T, T2] ty #[.slice base sLen sCap, x]).run P w =
      .ok (.slice (some ⟨w.heap.size, 0, none⟩) (sLen + m) (grownCap w (sLen + m) sCap e))
        (w.drew.alloc (.cells ((olds ++ us).toArray ++ Builtin.zeroCells z.cells (grownCap w (sLen + m) sCap e - (sLen + m))) e)))
theorem Src.app {T T2 ty e : TypeId} {d : TypeDesc} {i : TypeInfo} {z : Value} {m sz : Nat} {x : Value} {q : Nat → Value → Prop} (hx : Src P w sz x m q) (ht : P.underlying T = some (.slice e)) (hi : P.info? e = some i) (hz : i.zero = some z) (hsz : i.size = sz)
    (h2 : P.underlying T2 = some d) (hd : notInt d = true) : AppSrc P w T T2 ty e i z sz x m q := by
  obtain ⟨us, u1, u2, u3, u4⟩ := hx.full
  have hss : ∀ w, (sizeOf e).run P w = .ok sz w := fun w => by simp [sizeOf, typeInfo, hi, hsz]
  exact ⟨us, u1, u3, u4, fun _ base sLen sCap w' hle hs hn => run_append_fits (P := P) (ty := ty) (us := us) ht hss h2 hd hx.len (u2 w rfl) hle hs hn,
    fun base sLen sCap olds ho hlt hb h63 => run_append_more (P := P) (ty := ty) (w := w) (us := us) (olds := olds) ht hi hz h2 hd hx.len (by rw [hsz]; exact u2) ho hlt hb h63⟩
theorem zeroCells_one {z : Value} {v : Value} (h1 : z.cells.size = 1) (hv : z.cells[0]! = v) (n : Nat) : Builtin.zeroCells z.cells n = (List.replicate n v).toArray := by
  unfold Builtin.zeroCells
  rw [h1, Nat.mul_one]
  apply Array.ext
  · simp
  · intro i h1 h2
    simp only [Array.getElem_map, Array.getElem_range, Nat.mod_one, hv, List.getElem_toArray, List.getElem_replicate]
theorem zeros_app {T T2 ty e : TypeId} {k2 k : IntKind} {i : TypeInfo} {z : Value} {n : Int} (ht : P.underlying T = some (.slice e)) (hi : P.info? e = some i) (hz : i.zero = some z) (hsz : i.size = 1) (hzc : z.cells.size = 1)
    (h2 : P.underlying T2 = some (.int k2)) (hn : 0 ≤ n ∧ n ≤ 140737488355328) (hv : z.cells[0]! = .int k 0) :
    AppSrc P w T T2 ty e i z 1 (.int .i64 n) (List.replicate n.toNat (0 : Int)).length (fun j u => u = .int k ((List.replicate n.toNat (0 : Int)).getD j 0)) := by
  have hl : (List.replicate n.toNat (0 : Int)).length = n.toNat := List.length_replicate
  rw [hl]
  have hw : IntKind.i64.wrap n = n := by rw [IntKind.wrap_i64, Int.emod_eq_of_lt (by omega) (by omega)]; omega
  have e1 : ((n.toNat : Nat) : Int) = n := by omega
  have hneg : ¬ n < 0 := by omega
  have bnd : n.toNat * i.bytes ≤ 140737488355328 → ¬ (281474976710656 < n * (i.bytes : Int)) := fun h => by
    have : n * (i.bytes : Int) = ((n.toNat * i.bytes : Nat) : Int) := by rw [Int.natCast_mul, e1]
    omega
  refine ⟨List.replicate n.toNat (.int k 0), by simp, fun u hu => by rw [(List.mem_replicate.1 hu).2]; rfl, fun j hj => ⟨.int k 0, by rw [List.getElem?_replicate, if_pos (by omega)], by
    show Value.int k 0 = Value.int k ((List.replicate n.toNat (0 : Int)).getD j 0)
    rw [List.getD_eq_getElem?_getD, List.getElem?_replicate]; split <;> rfl⟩, fun hb base sLen sCap w' hle hs hno => ?_, fun base sLen sCap olds ho hlt hb h63 => ?_⟩
  · have b1 := bnd hb
    rcases Int.lt_or_le 0 n with hp | hp
    · have hp' : ¬ n ≤ 0 := by omega
      cases base with
      | none =>
        obtain rfl := hno rfl
        simp [Builtin.append_, run_underlying ht, run_underlying h2, sizeOf, typeInfo, zeroValue, hi, hz, hsz, asInt, asIntOf, hw, hneg, b1, hle, hp', zeroCells_one hzc hv]
      | some a =>
        have := hs a rfl
        rw [Nat.mul_one] at this
        simp [Builtin.append_, run_underlying ht, run_underlying h2, sizeOf, typeInfo, zeroValue, hi, hz, hsz, asInt, asIntOf, hw, hneg, b1, hle, hp', zeroCells_one hzc hv, this]
    · obtain rfl : n = 0 := by omega
      cases base with
      | none =>
        obtain rfl := hno rfl
        have hle : sLen ≤ sCap := by simpa using hle
        simp [Builtin.append_, run_underlying ht, run_underlying h2, sizeOf, typeInfo, zeroValue, hi, hz, hsz, asInt, asIntOf, hw, hneg, b1, hle]
      | some a =>
        have := hs a rfl
        have hle : sLen ≤ sCap := by simpa using hle
        simp at this
        simp [Builtin.append_, run_underlying ht, run_underlying h2, sizeOf, typeInfo, zeroValue, hi, hz, hsz, asInt, asIntOf, hw, hneg, b1, hle, this]
  · have b1 := bnd (by have : n.toNat * i.bytes ≤ (sLen + n.toNat) * i.bytes := Nat.mul_le_mul_right _ (by omega); omega)
    have hn : ¬ (sLen + n.toNat ≤ sCap) := by omega
    have h48 : ¬ (281474976710656 < Builtin.nextslicecap (sLen + n.toNat) sCap * i.bytes) := by
      have := growslice_fits (need := sLen + n.toNat) (old := sCap) (bytes := i.bytes) hlt hb
      omega
    have f2 := ho w.drew rfl
    have h63' : ¬ (9223372036854775807 < ((sLen : Int) + max n 0)) := by omega
    rw [hsz] at f2
    rcases Int.lt_or_le 0 n with hp | hp
    · have hp' : ¬ n ≤ 0 := by omega
      simp [Builtin.append_, run_underlying ht, run_underlying h2, sizeOf, typeInfo, zeroValue, hi, hz, hsz, asInt, asIntOf, hw, hneg, b1, hn, hp', h48, h63', Question.forced, zeroCells_one hzc hv, f2, newRow, grownCap, Array.append_assoc]
      refine congrArg (fun a => w.drew.alloc (Obj.cells a e)) (Array.ext' ?_)
      simp only [Array.toList_append, Array.toList_replicate, List.append_assoc, ← List.replicate_append_replicate]
    · obtain rfl : n = 0 := by omega
      have hn0 : ¬ (sLen ≤ sCap) := by simpa using hn
      have h480 : ¬ (281474976710656 < Builtin.nextslicecap sLen sCap * i.bytes) := by simpa using h48
      have h630 : ¬ (9223372036854775807 < (sLen : Int)) := by omega
      simp [Builtin.append_, run_underlying ht, run_underlying h2, sizeOf, typeInfo, zeroValue, hi, hz, hsz, asInt, asIntOf, hw, hneg, b1, hn0, h480, h630, Question.forced, f2, newRow, grownCap]

theorem intsK_spec (hr : HRel C h L w) {k : IntKind} {x : AV} {vx : Value} {K : List Int → Prop} (hx : den w (SS C w h L) L x vx) (hk : intsK h k x K) :
    ∃ ys, K ys ∧ Src P w 1 vx ys.length (fun i u => u = .int k (ys.getD i 0)) := by
  unfold intsK at hk
  split at hk
  · rename_i k' ys
    obtain ⟨rfl, hk2⟩ := sameKind_iff.1 hk
    obtain ⟨A, cap, rfl, hcap, hc⟩ := hx
    exact ⟨ys, hk2, src_of_rcells fun i hi => ⟨_, hc i (by omega), rfl, rfl⟩⟩
  · rename_i id off len
    replace hk := getO_iff.1 hk
    obtain ⟨o, ho, hk⟩ := hk
    split at hk
    · rename_i k' ys
      obtain ⟨rfl, hle, hk2⟩ := sameKind_iff.1 hk
      refine ⟨_, hk2, ?_⟩
      have hl : ((ys.drop off).take len).length = len := by simp; omega
      rw [hl]
      obtain ⟨h1, us, h2, h3, h4, h5⟩ := own_src (P := P) hr ho (hr.objs id _ ho) hx (by omega) (fun i u _ hu => by subst hu; rfl)
      refine ⟨h1, us, h2, h3, h4, fun i hi => ?_⟩
      obtain ⟨u, g1, g2⟩ := h5 i hi
      refine ⟨u, g1, ?_⟩
      rw [g2, List.getD_eq_getElem?_getD, List.getD_eq_getElem?_getD, List.getElem?_take_of_lt (by omega), List.getElem?_drop]
    · exact hk.elim
  · obtain rfl := hx
    exact ⟨[], hk, src_empty none 0⟩
  · rename_i s
    obtain ⟨rfl, hk2⟩ := sameKind_iff.1 hk
    obtain rfl := hx
    refine ⟨_, hk2, ⟨fun w => by rw [intsOf_length]; rfl, (intsOf s).map (Value.int .u8), by simp, fun w' n' _ hn' => ?_, by simp [Value.oneCell'], fun i hi => ?_⟩⟩
    · simp only [Builtin.firstCells, Sem.run_pure]
      congr 1
      apply Array.ext'
      simp [intsOf, ByteArray.data_extract]
      rfl
    · have hi' : i < (intsOf s).length := by omega
      exact ⟨.int .u8 ((intsOf s).getD i 0), by simp [List.getD_eq_getElem?_getD, hi'], rfl⟩
  · exact hk.elim

end
end Go.Proofs.YtflclafbieokiaaGreatDoor.AL

namespace Go.Proofs.YtflclafbieokiaaGreatDoor.AL
open Go
variable [Globs]

section
variable {P : Program} {C : Ctx} {t : List AV} {h : List AO} {L : Loc} {a : Act} {w : World}

theorem cells1 {S : Nat → Prop} {x : AV} {v : Value} (hc : cell1 x = true) (hx : den w S L x v) : v.oneCell' = true := (cell1_cells hc hx).2

theorem cellsK_spec (hr : HRel C h L w) {sz : Nat} {x : AV} {vx : Value} {K : Nat → (Nat → AV) → Prop} (hx : den w (SS C w h L) L x vx) (hk : cellsK h sz x K) :
    ∃ m f, K m f ∧ ((∀ i, i < m * sz → cell1 (f i) = true) → Src P w sz vx m (fun i u => den w (SS C w h L) L (f i) u)) := by
  unfold cellsK at hk
  split at hk
  · rename_i n sz' f
    obtain ⟨rfl, hk2⟩ := sure_iff.1 hk
    obtain ⟨A, cap, rfl, hcap, hc⟩ := hx
    exact ⟨n, f, hk2, fun hone => src_of_rcells fun i hi => let ⟨u, h1, h2⟩ := hc i hi; ⟨u, h1, cells1 (hone i hi) h2, den_zero L h2⟩⟩
  · rename_i n sz' f
    obtain ⟨rfl, hk2⟩ := sure_iff.1 hk
    obtain ⟨A, cap, rfl, hcap, hc⟩ := hx
    exact ⟨n, f, hk2, fun hone => src_of_rcells fun i hi => let ⟨u, h1, h2⟩ := hc i hi; ⟨u, h1, cells1 (hone i hi) h2, den_zero L h2⟩⟩
  · rename_i k ys
    obtain ⟨rfl, hk2⟩ := sure_iff.1 hk
    obtain ⟨A, cap, rfl, hcap, hc⟩ := hx
    exact ⟨_, _, hk2, fun hone => src_of_rcells fun i hi => ⟨_, hc i (by omega), rfl, rfl⟩⟩
  · rename_i id off len sz'
    obtain ⟨rfl, hk2⟩ := sure_iff.1 hk
    replace hk2 := getO_iff.1 hk2
    obtain ⟨o, ho, hk2⟩ := hk2
    have hob := hr.objs id o ho
    -- the cells of the row, those that matter being one cell each
    have go : ∀ {n : Nat} {f : Nat → AV}, cellsAre w (L.b id) (L.sz id) n (fun i u => den w (SS C w h L) L (f i) u) → off + len * sz' ≤ n → (∀ i, i < len * sz' → cell1 (f (off + i)) = true) →
        Src P w sz' vx len (fun i u => den w (SS C w h L) L (f (off + i)) u) := by
      intro n f hc hle hone
      obtain ⟨_, ⟨rfl, A, rfl⟩ | ⟨b, cap, hb, rfl, hcap, hsz⟩⟩ := hx
      · exact src_empty A 0
      · exact src_of_rcells (S := fun _ => True) fun i hi => by
          obtain ⟨u, h1, h2⟩ := own_cell hc hb (i := off + i) (by omega)
          exact ⟨u, ⟨b, off, rfl, trivial, h1⟩, cells1 (hone i hi) h2, h2⟩
    cases o with
    | dead => exact hk2.elim
    | map _ => exact hk2.elim
    | mapB _ _ _ => exact hk2.elim
    | miter _ _ _ => exact hk2.elim
    | siter _ _ => exact hk2.elim
    | lst l =>
      obtain ⟨hle, hk3⟩ := hk2
      exact ⟨_, _, hk3, fun hone => go (f := fun i => l.getD i .top) hob hle hone⟩
    | row n f =>
      obtain ⟨hle, hk3⟩ := hk2
      exact ⟨_, _, hk3, fun hone => go hob hle hone⟩
    | ints k ys =>
      obtain ⟨hle, hk3⟩ := hk2
      exact ⟨_, _, hk3, fun hone => go (f := fun i => int k (ys.getD i 0)) hob hle hone⟩
  · obtain rfl := hx
    exact ⟨_, _, hk, fun _ => src_empty none 0⟩
  · exact hk.elim

theorem den_drew (hr : HRel C h L w) {ob : Obj} {L' : Loc} (hL : L.le L') {x : AV} {v : Value} (hx : den w (SS C w h L) L x v) : den (w.drew.alloc ob) (SS C w h L) L' x v :=
  den_new hr (w' := w.drew.alloc ob) rfl hL hx

theorem both_cells {n k : Nat} {us os : List Value} {zs : Array Value} {p q : Nat → Value → Prop} (ho : os.length = n) (hu : us.length = k) (hp : ∀ i, i < n → ∃ u, os[i]? = some u ∧ p i u) (hq : ∀ i, i < k → ∃ u, us[i]? = some u ∧ q i u) :
    ∀ j, j < n + k → ∃ u, ((os ++ us).toArray ++ zs)[j]? = some u ∧ (if j < n then p j u else q (j - n) u) := by
  intro j hj
  rw [Array.getElem?_append_left (by simp; omega)]
  rcases Nat.lt_or_ge j n with h1 | h1
  · obtain ⟨u, h2, h3⟩ := hp j h1
    exact ⟨u, by simp [List.getElem?_append_left (show j < os.length by omega), h2], by rw [if_pos h1]; exact h3⟩
  · obtain ⟨u, h2, h3⟩ := hq (j - n) (by omega)
    exact ⟨u, by simp only [List.getElem?_toArray]; rw [List.getElem?_append_right (by omega), ho]; exact h2, by rw [if_neg (by omega)]; exact h3⟩

theorem append_core (hr : HRel C h L w) {T T2 ty e : TypeId} {i : TypeInfo} {z : Value} {m len sz n id : Nat} {o o' : AO} {vs vx : Value} {p q : Nat → Value → Prop} {K : AV → List AO → Prop}
    (hi : P.info? e = some i) (hz : i.zero = some z) (hsz : i.size = sz)
    (hx : AppSrc P w T T2 ty e i z sz vx m q) (hb : (len + m) * i.bytes ≤ 140737488355328) (hbp : 0 < i.bytes) (hzc : z.cells.size = sz)
    (ho : h[id]? = some o) (hl : o.live) (hc : cellsAre w (L.b id) (L.sz id) n p) (hn : n = len * sz) (hv : den w (SS C w h L) L (.own id 0 len sz) vs) (hone : ∀ i u, i < n → p i u → u.oneCell' = true)
    (ho' : ∀ w' L' B szB, L.le L' → (∀ (x : AV) (v : Value), den w (SS C w h L) L x v → den w' (SS C w h L) L' x v) →
      cellsAre w' B szB ((len + m) * sz) (fun j u => if j < n then p j u else q (j - n) u) → objIs w' (SS C w h L) L' B szB o')
    (hk : setO h id .dead fun h1 => addO h1 o' fun n h' => K (.own n 0 (len + m) sz) h') : EffV P C h L w (Builtin.append_ #[T, T2] ty #[vs, vx]) K := by
  obtain ⟨hid, hk1⟩ := setO_iff.1 hk
  have hk2 := addO_spec hk1
  have hlen1 : (h.set id .dead).length = h.length := by simp
  rw [hlen1] at hk2
  have hsrc := own_src (P := P) hr ho hc hv (by omega) (fun i u hi hp => hone i u hi hp)
  obtain ⟨us, u1, u3, u4, ufit, umore⟩ := hx
  obtain ⟨os, o1, o2, o3, o4⟩ := hsrc.full
  have hsum : (len + m) * sz = n + m * sz := by rw [Nat.add_mul, hn]
  have hss : ∀ w, (sizeOf e).run P w = .ok sz w := fun w => by simp [sizeOf, typeInfo, hi, hsz]
  have hlive : Live h id := ⟨o, ho, hl⟩
  have h63 : len + m < 9223372036854775808 := by
    have : (len + m) * 1 ≤ (len + m) * i.bytes := Nat.mul_le_mul_left _ hbp
    omega
  have hLn : L.n = h.length := hr.n
  have hbm : m * i.bytes ≤ 140737488355328 := by
    have : m * i.bytes ≤ (len + m) * i.bytes := Nat.mul_le_mul_right _ (by omega)
    omega
  -- it grows into a new block
  have more : ∀ {base : Option Addr} {sCap : Nat}, vs = .slice base len sCap → sCap < len + m → EffV P C h L w (Builtin.append_ #[T, T2] ty #[vs, vx]) K := by
    intro base sCap e1 hlt
    subst e1
    have hrun := umore base len sCap os (by rw [hsz]; exact o2) hlt hb h63
    have s1 := step_kill (w' := w) (id := id) hr (.refl w) rfl
    have hge := grownCap_ge w (len + m) sCap e
    have hcs : grownCap w (len + m) sCap e * sz ≤ ((os ++ us).toArray ++ Builtin.zeroCells z.cells (grownCap w (len + m) sCap e - (len + m))).size := by
      have : (grownCap w (len + m) sCap e - (len + m)) * sz + (len + m) * sz = grownCap w (len + m) sCap e * sz := by rw [← Nat.add_mul]; congr 1; omega
      simp [size_zeroCells, hzc, o1, u1]
      omega
    have hcell := both_cells (n := n) (zs := Builtin.zeroCells z.cells (grownCap w (len + m) sCap e - (len + m))) (p := p) (q := q) (by rw [o1, hn]) u1 (fun i hi => by
      obtain ⟨u, h1, h2⟩ := o4 i (by omega)
      exact ⟨u, h1, by simpa using h2⟩) u4
    have hmono : ∀ (L' : Loc), L.le L' → ∀ (x : AV) (v : Value), den w (SS C w h L) L x v →
        den (w.drew.alloc (.cells ((os ++ us).toArray ++ Builtin.zeroCells z.cells (grownCap w (len + m) sCap e - (len + m))) e)) (SS C w h L) L' x v := fun L' hL x v hx => den_drew hr hL hx
    have s2 := step_new (w' := w.drew.alloc (.cells ((os ++ us).toArray ++ Builtin.zeroCells z.cells (grownCap w (len + m) sCap e - (len + m))) e)) (o := o') (sz := ((os ++ us).toArray ++ Builtin.zeroCells z.cells (grownCap w (len + m) sCap e - (len + m))).size)
      s1.rel ⟨rfl, rfl, rfl⟩ rfl (fun L' hL => objIs_mono (fun _ _ => rfl) s1.ss (.refl _) (fun _ _ _ => rfl) (ho' _ L' _ _ hL (hmono L' hL)
        (cells_new (w := w) rfl (no_frozen _) (by rw [hsum]; simp [o1, u1]; omega) (by rw [hsum]; exact hcell))))
    refine ⟨_, .own h.length 0 (len + m) sz, _, _, _, hrun, s1.trans s2, ⟨by simp [Loc.push, hLn], .inr ⟨_, _, by simp [Loc.push, hLn], rfl, hge, ?_⟩⟩, hk2⟩
    simp only [Loc.push, hLn, if_true, Nat.zero_add]
    exact hcs
  obtain ⟨_, ⟨e0, A, rfl⟩ | ⟨b, cap, hbk, rfl, hcap, hszb⟩⟩ := hv
  · subst e0
    rcases Nat.eq_zero_or_pos m with hm | hm
    · -- nothing is appended to nothing
      subst hm
      have hus : us = [] := List.length_eq_zero_iff.1 (by simpa using u1)
      have hn0 : n = 0 := by omega
      have hrun : (Builtin.append_ #[T, T2] ty #[.slice A 0 0, vx]).run P w = .ok (.slice A 0 0) w :=
        ufit (by simp) A 0 0 w (Nat.le_refl _) (fun a _ => by rw [hus]; rfl) (fun _ => rfl)
      have s1 := step_kill (w' := w) (id := id) hr (.refl w) rfl
      have s2 := step_none (w' := w) (o := o') s1.rel (.refl w) rfl (fun L' hL => objIs_mono (fun _ _ => rfl) s1.ss (.refl _) (fun _ _ _ => rfl) (ho' w L' none 0 hL (fun x v hx => den_mono (fun _ _ => rfl) (fun _ h => h) hL x v hx)
        (.inl ⟨by simp, rfl⟩)))
      exact ⟨_, .own h.length 0 0 sz, _, _, _, hrun, s1.trans s2, ⟨by simp [Loc.push, hLn], .inl ⟨rfl, A, rfl⟩⟩, hk2⟩
    · exact more rfl (by omega)
  · rcases Nat.lt_or_ge cap (len + m) with hlt | hge
    · exact more rfl hlt
    · -- there is room
      have hle : n + us.length ≤ L.sz id := by
        have : (len + m) * sz ≤ cap * sz := Nat.mul_le_mul_right _ hge
        omega
      obtain ⟨w', g1, g2, g3, g4, g5⟩ := store_block (P := P) hr hlive hbk hc u3 hle
      have hrun : (Builtin.append_ #[T, T2] ty #[.slice (some ⟨b, 0, none⟩) len cap, vx]).run P w = .ok (.slice (some ⟨b, 0, none⟩) (len + m) cap) w' :=
        ufit hbm (some ⟨b, 0, none⟩) len cap w' hge (fun a ha => by
          cases ha
          rw [Addr.add_mk, Nat.zero_add, ← hn]
          exact g1) (fun h => by cases h)
      have hcn := g5 ((len + m) * sz) (fun j u => if j < n then p j u else q (j - n) u) (by rw [hsum]; omega) (fun j hj => by
        rw [hsum] at hj
        rcases Nat.lt_or_ge j n with h1 | h1
        · exact .inr ⟨by omega, h1, fun u hu => by rw [if_pos h1]; exact hu⟩
        · obtain ⟨u, h3, h4⟩ := u4 (j - n) (by omega)
          exact .inl ⟨h1, by omega, u, h3, by rw [if_neg (by omega)]; exact h4⟩)
      have s := step_move (w' := w') (id := id) (o := o') hr g2 g3 hlive hbk g4 (fun L' hL => ho' w' L' _ _ hL (fun x v hx => den_upd hr hlive hbk g4 hL hx) hcn)
      refine ⟨_, .own h.length 0 (len + m) sz, _, _, _, hrun, s, ⟨by simp [Loc.push, hLn], .inr ⟨b, cap, by simp [Loc.push, hLn], rfl, hge, ?_⟩⟩, hk2⟩
      simp only [Loc.push, hLn, if_true, Nat.zero_add]
      omega

theorem append_nil_core (hr : HRel C h L w) {T T2 ty e : TypeId} {i : TypeInfo} {z : Value} {m sz : Nat} {o' : AO} {vx : Value} {q : Nat → Value → Prop} {K : AV → List AO → Prop}
    (hi : P.info? e = some i) (hz : i.zero = some z) (hsz : i.size = sz)
    (hx : AppSrc P w T T2 ty e i z sz vx m q) (hb : m * i.bytes ≤ 140737488355328) (hbp : 0 < i.bytes) (hzc : z.cells.size = sz)
    (ho' : ∀ w' L' B szB, L.le L' → (∀ (x : AV) (v : Value), den w (SS C w h L) L x v → den w' (SS C w h L) L' x v) →
      cellsAre w' B szB (m * sz) q → objIs w' (SS C w h L) L' B szB o')
    (hk : addO h o' fun n h' => K (.own n 0 m sz) h') : EffV P C h L w (Builtin.append_ #[T, T2] ty #[.slice none 0 0, vx]) K := by
  have hk2 := addO_spec hk
  obtain ⟨us, u1, u3, u4, ufit, umore⟩ := hx
  have hss : ∀ w, (sizeOf e).run P w = .ok sz w := fun w => by simp [sizeOf, typeInfo, hi, hsz]
  have h63 : 0 + m < 9223372036854775808 := by
    have : m * 1 ≤ m * i.bytes := Nat.mul_le_mul_left _ hbp
    omega
  have hLn : L.n = h.length := hr.n
  rcases Nat.eq_zero_or_pos m with hm | hm
  · subst hm
    have hus : us = [] := List.length_eq_zero_iff.1 (by simpa using u1)
    have hrun : (Builtin.append_ #[T, T2] ty #[.slice none 0 0, vx]).run P w = .ok (.slice none 0 0) w :=
      ufit (by simp) none 0 0 w (Nat.le_refl _) (fun a ha => by cases ha) (fun _ => rfl)
    have s2 := step_none (w' := w) (o := o') hr (.refl w) rfl (fun L' hL => (ho' w L' none 0 hL (fun x v hx => den_mono (fun _ _ => rfl) (fun _ h => h) hL x v hx) (.inl ⟨by simp, rfl⟩)))
    exact ⟨_, .own h.length 0 0 sz, _, _, _, hrun, s2, ⟨by simp [Loc.push, hLn], .inl ⟨rfl, none, rfl⟩⟩, hk2⟩
  · have hrun := umore none 0 0 [] (fun w' _ => by rfl) (by omega) (by rw [Nat.zero_add]; exact hb) h63
    rw [Nat.zero_add] at hrun
    have hge := grownCap_ge w m 0 e
    have hcs : grownCap w m 0 e * sz ≤ (([] ++ us).toArray ++ Builtin.zeroCells z.cells (grownCap w m 0 e - m)).size := by
      have : (grownCap w m 0 e - m) * sz + m * sz = grownCap w m 0 e * sz := by rw [← Nat.add_mul]; congr 1; omega
      simp [size_zeroCells, hzc, u1]
      omega
    have hcell := both_cells (n := 0) (os := []) (zs := Builtin.zeroCells z.cells (grownCap w m 0 e - m)) (p := fun _ _ => True) (q := q) rfl u1 (fun i hi => by omega) u4
    have s2 := step_new (w' := w.drew.alloc (.cells (([] ++ us).toArray ++ Builtin.zeroCells z.cells (grownCap w m 0 e - m)) e)) (o := o') (sz := (([] ++ us).toArray ++ Builtin.zeroCells z.cells (grownCap w m 0 e - m)).size)
      hr ⟨rfl, rfl, rfl⟩ rfl (fun L' hL => ho' _ L' _ _ hL (fun x v hx => den_drew hr hL hx)
        (cells_new (w := w) rfl (no_frozen _) (by simp [u1]) (fun i hi => by
          obtain ⟨u, h1, h2⟩ := hcell i (by omega)
          exact ⟨u, h1, by simpa using h2⟩)))
    refine ⟨_, .own h.length 0 m sz, _, _, _, hrun, s2, ⟨by simp [Loc.push, hLn], .inr ⟨_, _, by simp [Loc.push, hLn], rfl, hge, ?_⟩⟩, hk2⟩
    simp only [Loc.push, hLn, if_true, Nat.zero_add]
    exact hcs

theorem getD_append (xs ys : List Int) (j : Nat) : (xs ++ ys).getD j 0 = if j < xs.length then xs.getD j 0 else ys.getD (j - xs.length) 0 := by
  simp only [List.getD_eq_getElem?_getD]
  by_cases h : j < xs.length
  · rw [if_pos h, List.getElem?_append_left h]
  · rw [if_neg h, List.getElem?_append_right (by omega)]

theorem sourceK_spec (hr : HRel C h L w) {T T2 ty e : TypeId} {d : TypeDesc} {i : TypeInfo} {z : Value} {k : IntKind} {x : AV} {vx : Value} {K : List Int → Prop} (ht : P.underlying T = some (.slice e)) (hi : P.info? e = some i) (hz : i.zero = some z) (hsz : i.size = 1) (hzc : z.cells.size = i.size)
    (h2 : P.underlying T2 = some d) (hx : den w (SS C w h L) L x vx) (hk : sourceK d z h k x K) :
    ∃ ys, K ys ∧ AppSrc P w T T2 ty e i z 1 vx ys.length (fun i u => u = .int k (ys.getD i 0)) := by
  unfold sourceK at hk
  split at hk
  · split at hk
    · obtain ⟨hn, hv, hk⟩ := hk
      obtain rfl := hx
      exact ⟨_, hk, zeros_app ht hi hz hsz (by rw [hzc, hsz]) h2 hn hv⟩
    · exact hk.elim
  · obtain ⟨ys, hk, hs⟩ := intsK_spec (P := P) hr hx hk
    exact ⟨ys, hk, hs.app ht hi hz hsz h2 rfl⟩
  · obtain ⟨ys, hk, hs⟩ := intsK_spec (P := P) hr hx hk
    exact ⟨ys, hk, hs.app ht hi hz hsz h2 rfl⟩
  · exact hk.elim

theorem appendK_spec (hr : HRel C h L w) {T T2 ty : TypeId} {s x : AV} {vs vx : Value} {K : AV → List AO → Prop} (hs : den w (SS C w h L) L s vs) (hx : den w (SS C w h L) L x vx)
    (hk : appendK P T T2 h s x K) : EffV P C h L w (Builtin.append_ #[T, T2] ty #[vs, vx]) K := by
  unfold appendK at hk
  split at hk
  · rename_i e d2 ht h2
    have hk1 := hk
    clear hk
    split at hk1
    · rename_i i hi
      obtain ⟨⟨hbp, hsp⟩, hk2⟩ := sure_iff.1 hk1
      clear hk1
      split at hk2
      · rename_i z hz
        obtain ⟨hzc, hk3⟩ := sure_iff.1 hk2
        clear hk2
        split at hk3
        · rename_i k hik
          obtain ⟨hs1, hk4⟩ := sure_iff.1 hk3
          clear hk3
          split at hk4
          · obtain rfl := hs
            obtain ⟨ys, ⟨hb, hk5⟩, hsrc⟩ := sourceK_spec (P := P) (ty := ty) hr ht hi hz hs1 hzc h2 hx hk4
            exact append_nil_core hr hi hz hs1 hsrc hb hbp (by rw [hzc, hs1]) (fun w' L' B szB _ _ hc => by rw [Nat.mul_one] at hc; exact hc) hk5
          · rename_i id len
            replace hk4 := getO_iff.1 hk4
            obtain ⟨o, ho, hk4⟩ := hk4
            split at hk4
            · rename_i k' xs
              obtain ⟨rfl, hlen, hk5⟩ := sameKind_iff.1 hk4
              subst hlen
              obtain ⟨ys, ⟨hb, hk6⟩, hsrc⟩ := sourceK_spec (P := P) (ty := ty) hr ht hi hz hs1 hzc h2 hx hk5
              refine append_core hr hi hz hs1 hsrc hb hbp (by rw [hzc, hs1]) ho trivial (hr.objs id _ ho) (by omega) hs (fun i u _ hu => by subst hu; rfl) (fun w' L' B szB _ _ hc => ?_) hk6
              rw [Nat.mul_one] at hc
              have hl : (xs ++ ys).length = xs.length + ys.length := List.length_append
              show cellsAre w' B szB _ _
              rw [hl]
              refine cellsAre_mono (fun _ _ => rfl) (fun i u hi hu => ?_) hc
              rw [getD_append]
              by_cases e1 : i < xs.length
              · rw [if_pos e1] at hu ⊢; exact hu
              · rw [if_neg e1] at hu ⊢; exact hu
            · exact hk4.elim
          · exact hk4.elim
        · obtain ⟨hd, hk3⟩ := sure_iff.1 hk3
          obtain ⟨sz, hss, ⟨i', hi', hsz⟩, hk4⟩ := sizeK_spec hk3
          rw [hi] at hi'
          cases hi'
          clear hk3
          split at hk4
          · obtain rfl := hs
            obtain ⟨m, f, ⟨hb, hone, g, hg, hk5⟩, hsrc⟩ := cellsK_spec (P := P) hr hx hk4
            refine append_nil_core (q := fun i u => den w (SS C w h L) L (f i) u) hr hi hz hsz ((hsrc hone).app ht hi hz hsz h2 hd) hb hbp (by rw [hzc, hsz]) (fun w' L' B szB _ hd hc => ?_) hk5
            exact cellsAre_mono (p := fun i u => den w (SS C w h L) L (f i) u) (fun _ _ => rfl) (fun i u hi hu => by rw [hg i hi]; exact hd _ _ hu) hc
          · rename_i id len sz'
            obtain ⟨rfl, hk5⟩ := sure_iff.1 hk4
            replace hk5 := getO_iff.1 hk5
            obtain ⟨o, ho, hk5⟩ := hk5
            split at hk5
            · rename_i n f
              obtain ⟨hn, hone1, hk6⟩ := hk5
              obtain ⟨m, f', ⟨hb, hone, g, hg1, hg2, hk7⟩, hsrc⟩ := cellsK_spec (P := P) hr hx hk6
              refine append_core hr hi hz hsz ((hsrc hone).app ht hi hz hsz h2 hd) hb hbp (by rw [hzc, hsz]) ho trivial (hr.objs id _ ho) hn hs (fun i u hi hu => cells1 (hone1 i hi) hu) (fun w' L' B szB _ hd hc => ?_) hk7
              refine cellsAre_mono (fun _ _ => rfl) (fun i u hi hu => ?_) hc
              have hsum : (len + m) * sz' = n + m * sz' := by rw [Nat.add_mul, hn]
              by_cases e1 : i < n
              · rw [if_pos e1] at hu
                rw [hg1 i e1]; exact hd _ _ hu
              · rw [if_neg e1] at hu
                have := hg2 (i - n) (by omega)
                rw [show n + (i - n) = i by omega] at this
                rw [this]; exact hd _ _ hu
            · rename_i l
              obtain ⟨hn, hone1, hk6⟩ := hk5
              obtain ⟨m, f', ⟨hb, hone, g, hg1, hg2, hk7⟩, hsrc⟩ := cellsK_spec (P := P) hr hx hk6
              refine append_core hr hi hz hsz ((hsrc hone).app ht hi hz hsz h2 hd) hb hbp (by rw [hzc, hsz]) ho trivial (hr.objs id _ ho) hn hs (fun i u hi hu => cells1 (hone1 i hi) hu) (fun w' L' B szB _ hd hc => ?_) hk7
              refine cellsAre_mono (fun _ _ => rfl) (fun i u hi hu => ?_) hc
              have hsum : (len + m) * sz' = l.length + m * sz' := by rw [Nat.add_mul, hn]
              by_cases e1 : i < l.length
              · rw [if_pos e1] at hu
                rw [hg1 i e1]; exact hd _ _ hu
              · rw [if_neg e1] at hu
                have := hg2 (i - l.length) (by omega)
                rw [show l.length + (i - l.length) = i by omega] at this
                rw [this]; exact hd _ _ hu
            · exact hk5.elim
          · exact hk4.elim
      · exact hk2.elim
    · exact hk1.elim
  · exact hk.elim

end
end Go.Proofs.YtflclafbieokiaaGreatDoor.AL

namespace Go.Proofs.YtflclafbieokiaaGreatDoor.AL
open Go
variable [Globs]

section
variable {P : Program} {C : Ctx} {t : List AV} {h : List AO} {L : Loc} {a : Act} {w : World}

theorem copyK_spec (hr : HRel C h L w) {T T2 ty : TypeId} {s x : AV} {vs vx : Value} {K : AV → List AO → Prop} (hs : den w (SS C w h L) L s vs) (hx : den w (SS C w h L) L x vx)
    (hk : copyK P T h s x K) : EffV P C h L w (Builtin.copy_ #[T, T2] ty #[vs, vx]) K := by
  unfold copyK at hk
  split at hk
  · rename_i e ht
    split at hk
    · rename_i k hik
      obtain ⟨sz, hss, _, hk1⟩ := sizeK_spec hk
      obtain ⟨rfl, hk2⟩ := sure_iff.1 hk1
      clear hk hk1
      split at hk2
      · rename_i id off len
        replace hk2 := getO_iff.1 hk2
        obtain ⟨o, ho, hk2⟩ := hk2
        split at hk2
        · rename_i k' xs
          obtain ⟨rfl, hle, hk3⟩ := sameKind_iff.1 hk2
          obtain ⟨ys, hk4, hsrc⟩ := intsK_spec (P := P) hr hx hk3
          obtain ⟨_, hk5⟩ := setO_iff.1 hk4
          obtain ⟨us, u1, u2, u3, u4⟩ := hsrc.cells
          have hrun : ∀ {base : Option Addr} {cap : Nat} {w' : World}, vs = .slice base len cap → (∀ a, base = some a → (storeCells a (us.take (min ys.length len * 1))).run P w = .ok () w') → (base = none → w' = w) →
              (Builtin.copy_ #[T, T2] ty #[vs, vx]).run P w = .ok (.int .i64 (min ys.length len : Nat)) w' := by
            intro base cap w' e1 hst hno
            subst e1
            have := u2 w (min ys.length len) rfl (Nat.min_le_left _ _)
            cases base with
            | none =>
              obtain rfl := hno rfl
              simp [Builtin.copy_, run_underlying ht, hsrc.len, hss, this, goInt]
            | some a =>
              have h1 := hst a rfl
              rw [Nat.mul_one] at h1 this
              simp [Builtin.copy_, run_underlying ht, hsrc.len, hss, this, goInt, h1]
          have hlen : (xs.take off ++ ys.take len ++ xs.drop (off + min ys.length len)).length = xs.length := by simp; omega
          obtain ⟨_, ⟨e0, A, rfl⟩ | ⟨b, cap, hb, rfl, hcap, hszb⟩⟩ := hs
          · subst e0
            have hxs : xs.take off ++ ys.take 0 ++ xs.drop (off + min ys.length 0) = xs := by simp
            rw [hxs] at hk5
            have hset : h.set id (.ints k' xs) = h := by
              apply List.ext_getElem?
              intro j
              by_cases e : id = j
              · subst e; rw [List.getElem?_set_self (by assumption), ho]
              · rw [List.getElem?_set_ne e]
            rw [hset] at hk5
            exact ⟨_, .raw _, _, _, _, hrun rfl (fun a _ => by simp [storeCells]) (fun _ => rfl), .refl hr, rfl, hk5⟩
          · have hlive : Live h id := ⟨_, ho, trivial⟩
            have hn : xs.length ≤ L.sz id := by
              rcases hr.objs id _ ho with ⟨_, h2⟩ | ⟨_, _, _, _, _, _, _, h2, h3, _⟩
              · rw [hb] at h2; cases h2
              · exact h3
            have htl : (us.take (min ys.length len * 1)).length = min ys.length len := by simp; omega
            obtain ⟨w', g1, g2, g3, g4, g5⟩ := store_block (P := P) (vs := us.take (min ys.length len * 1)) hr hlive hb (hr.objs id _ ho) (fun v hv => u3 v (List.mem_of_mem_take hv)) (off := off) (by rw [htl]; omega)
            have hobj : objIs w' (SS C w h L) L (L.b id) (L.sz id) (.ints k' (xs.take off ++ ys.take len ++ xs.drop (off + min ys.length len))) := by
              show cellsAre _ _ _ _ _
              rw [hlen, hb]
              refine g5 _ _ hn fun i hi => ?_
              rw [htl]
              simp only [List.getD_eq_getElem?_getD]
              by_cases e : off ≤ i ∧ i < off + min ys.length len
              · obtain ⟨u, h3, h4⟩ := u4 (i - off) (by omega)
                refine .inl ⟨e.1, e.2, u, by rw [List.getElem?_take_of_lt (by omega)]; exact h3, ?_⟩
                rw [h4, List.append_assoc, List.getElem?_append_right (by simp; omega), List.getElem?_append_left (by simp; omega)]
                have hm : min off xs.length = off := by omega
                rw [List.length_take, hm, List.getElem?_take_of_lt (by omega), List.getD_eq_getElem?_getD]
              · refine .inr ⟨e, hi, fun u hu => ?_⟩
                rw [hu]
                congr 2
                rcases Nat.lt_or_ge i off with h1 | h1
                · rw [List.append_assoc, List.getElem?_append_left (by simp; omega), List.getElem?_take_of_lt h1]
                · have hm : min off xs.length = off := by omega
                  rw [List.getElem?_append_right (by simp; omega), List.getElem?_drop, List.length_append, List.length_take, List.length_take, hm]
                  congr 1
                  omega
            exact ⟨_, .raw _, _, _, _, hrun rfl (fun a ha => by cases ha; exact g1) (fun h => by cases h), step_upd hr g2 g3 hlive hb g4 hobj, rfl, hk5⟩
        · rename_i n f
          obtain ⟨⟨hle, hpos⟩, hk3⟩ := hk2
          obtain ⟨ys, hk4, hsrc⟩ := intsK_spec (P := P) hr hx hk3
          obtain ⟨g, hg, hk4⟩ := hk4
          obtain ⟨_, hk5⟩ := setO_iff.1 hk4
          obtain ⟨us, u1, u2, u3, u4⟩ := hsrc.cells
          obtain ⟨_, ⟨e0, A, rfl⟩ | ⟨b, cap, hb, rfl, hcap, hszb⟩⟩ := hs
          · omega
          · have hrun : ∀ {w' : World}, (storeCells ⟨b, off, none⟩ (us.take (min ys.length len * 1))).run P w = .ok () w' → (Builtin.copy_ #[T, T2] ty #[.slice (some ⟨b, off, none⟩) len cap, vx]).run P w = .ok (.int .i64 (min ys.length len : Nat)) w' := by
              intro w' h1
              have := u2 w (min ys.length len) rfl (Nat.min_le_left _ _)
              rw [Nat.mul_one] at h1 this
              simp [Builtin.copy_, run_underlying ht, hsrc.len, hss, this, goInt, h1]
            have hlive : Live h id := ⟨_, ho, trivial⟩
            have hob := hr.objs id _ ho
            have hn : n ≤ L.sz id := by
              rcases hob with ⟨_, h2⟩ | ⟨_, _, _, _, _, _, _, h2, h3, _⟩
              · rw [hb] at h2; cases h2
              · exact h3
            have htl : (us.take (min ys.length len * 1)).length = min ys.length len := by simp; omega
            obtain ⟨w', g1, g2, g3, g4, g5⟩ := store_block (P := P) (vs := us.take (min ys.length len * 1)) hr hlive hb hob (fun v hv => u3 v (List.mem_of_mem_take hv)) (off := off) (by rw [htl]; omega)
            have hobj : objIs w' (SS C w h L) L (L.b id) (L.sz id) (.row n g) := by
              show cellsAre _ _ _ _ _
              rw [hb]
              refine g5 _ _ hn fun i hi => ?_
              rw [htl]
              by_cases e : off ≤ i ∧ i < off + min ys.length len
              · obtain ⟨u, h3, h4⟩ := u4 (i - off) (by omega)
                refine .inl ⟨e.1, e.2, u, by rw [List.getElem?_take_of_lt (by omega)]; exact h3, ?_⟩
                rw [hg i hi, if_pos e]
                exact h4
              · refine .inr ⟨e, hi, fun u hu => ?_⟩
                rw [hg i hi, if_neg e]
                exact den_upd hr hlive hb g4 (.refl _) hu
            exact ⟨_, .raw _, _, _, _, hrun g1, step_upd hr g2 g3 hlive hb g4 hobj, rfl, hk5⟩
        · exact hk2.elim
      · exact hk2.elim
    · exact hk.elim
  · exact hk.elim

def denL (w : World) (S : Nat → Prop) (L : Loc) (l : List AV) (c : Array Value) : Prop := c.size = l.length ∧ ∀ i, i < l.length → ∃ u, c[i]? = some u ∧ den w S L (l.getD i .top) u

theorem fold_set (off : Nat) : ∀ (vs : List Value) (k : Nat) (c : Array Value), (((vs.zipIdx k).foldl (fun cs (x : Value × Nat) => cs.setIfInBounds (off + x.2) x.1) c).size = c.size) ∧
    ∀ j, off + k + vs.length ≤ c.size → ((vs.zipIdx k).foldl (fun cs (x : Value × Nat) => cs.setIfInBounds (off + x.2) x.1) c)[j]? = if off + k ≤ j ∧ j < off + k + vs.length then vs[j - (off + k)]? else c[j]?
  | [], k, c => ⟨rfl, fun j _ => by rw [if_neg (by simp)]; rfl⟩
  | v :: vs, k, c => by
    obtain ⟨h1, h2⟩ := fold_set off vs (k + 1) (c.setIfInBounds (off + k) v)
    simp only [List.zipIdx_cons, List.foldl_cons]
    refine ⟨by rw [h1]; simp, fun j hj => ?_⟩
    simp only [List.length_cons] at hj ⊢
    rw [h2 j (by simp; omega)]
    by_cases e : off + k ≤ j ∧ j < off + k + (vs.length + 1)
    · rw [if_pos e]
      by_cases e1 : j = off + k
      · subst e1
        have hlt : off + k < c.size := by omega
        rw [if_neg (by omega)]
        simp [hlt]
      · rw [if_pos (by omega), show j - (off + k) = (j - (off + (k + 1))) + 1 by omega, List.getElem?_cons_succ]
    · rw [if_neg e, if_neg (by omega), Array.getElem?_setIfInBounds_ne (by omega)]

def denP (w : World) (S : Nat → Prop) (L : Loc) (l : List (Nat × AV)) (p : List (Nat × Value)) : Prop :=
  l.length = p.length ∧ ∀ (i : Nat) (x : Nat × AV), l[i]? = some x → ∃ y, p[i]? = some y ∧ y.1 = x.1 ∧ den w S L x.2 y.2

theorem fillL_spec {S : Nat → Prop} {place : Nat → Option (Nat × Nat)} : ∀ {parts : List (Nat × AV)} {ps : List (Nat × Value)} {l : List AV} {c : Array Value} {K : List AV → Prop}, denP w S L parts ps → denL w S L l c → fillL place parts l K →
    ∃ l' c', Instr.fill place c ps = some c' ∧ denL w S L l' c' ∧ l'.length = l.length ∧ K l'
  | [], [], l, c, K, _, hl, hk => ⟨l, c, rfl, hl, rfl, hk⟩
  | [], _ :: _, _, _, _, hp, _, _ => by simp [denP] at hp
  | _ :: _, [], _, _, _, hp, _, _ => by simp [denP] at hp
  | (i, x) :: parts, (j, v) :: ps, l, c, K, hp, hl, hk => by
    obtain ⟨hp1, hp2⟩ := hp
    obtain ⟨y, hy1, hy2, hx⟩ := hp2 0 (i, x) rfl
    simp at hy1
    subst hy1
    simp at hy2
    subst hy2
    have hrest : denP w S L parts ps := ⟨by simpa using hp1, fun k z hz => by
      obtain ⟨y, h1, h2⟩ := hp2 (k + 1) z (by simpa using hz)
      exact ⟨y, by simpa using h1, h2⟩⟩
    -- one part laid
    have lay : ∀ {vs : List Value} {m : List AV} {l' : List AV} {off sz : Nat}, place j = some (off, sz) → v.cells.toList = vs → vs.length = sz → m.length = sz → (∀ k, k < sz → ∃ u, vs[k]? = some u ∧ den w S L (m.getD k .top) u) → off + sz ≤ l.length →
        l' = l.take off ++ m ++ l.drop (off + sz) → fillL place parts l' K →
        ∃ l' c', Instr.fill place c ((j, v) :: ps) = some c' ∧ denL w S L l' c' ∧ l'.length = l.length ∧ K l' := by
      intro vs m l' off sz hpl hv hvl hml hcells hle hl' hk
      have hsz : v.cells.size = sz := by rw [← Array.length_toList, hv, hvl]
      obtain ⟨g1, g2⟩ := fold_set off vs 0 c
      have hlen : l'.length = l.length := by rw [hl']; simp; omega
      have hcs : c.size = l.length := hl.1
      let c1 := ((vs.zipIdx 0).foldl (fun cs (x : Value × Nat) => cs.setIfInBounds (off + x.2) x.1) c)
      have hl1 : denL w S L l' c1 := by
        refine ⟨by rw [g1, hcs, hlen], fun k hk' => ?_⟩
        have := g2 k (by omega)
        simp only [Nat.add_zero] at this
        by_cases e : off ≤ k ∧ k < off + vs.length
        · rw [if_pos e] at this
          obtain ⟨u, h1, h2⟩ := hcells (k - off) (by omega)
          refine ⟨u, by rw [this]; exact h1, ?_⟩
          have hm : min off l.length = off := by omega
          have : l'.getD k .top = m.getD (k - off) .top := by
            rw [hl', List.getD_eq_getElem?_getD, List.getD_eq_getElem?_getD, List.append_assoc, List.getElem?_append_right (by simp; omega), List.getElem?_append_left (by simp; omega), List.length_take, hm]
          rw [this]; exact h2
        · rw [if_neg e] at this
          obtain ⟨u, h1, h2⟩ := hl.2 k (by omega)
          refine ⟨u, by rw [this]; exact h1, ?_⟩
          have hm : min off l.length = off := by omega
          have : l'.getD k .top = l.getD k .top := by
            rw [hl', List.getD_eq_getElem?_getD, List.getD_eq_getElem?_getD]
            rcases Nat.lt_or_ge k off with h3 | h3
            · rw [List.append_assoc, List.getElem?_append_left (by simp; omega), List.getElem?_take_of_lt h3]
            · rw [List.getElem?_append_right (by simp; omega), List.getElem?_drop, List.length_append, List.length_take, hm, hml]
              congr 2
              omega
          rw [this]; exact h2
      obtain ⟨l2, c2, h1, h2, h3, h4⟩ := fillL_spec hrest hl1 hk
      refine ⟨l2, c2, ?_, h2, by rw [h3, hlen], h4⟩
      unfold Instr.fill
      have e1 : ¬ ((v.cells.size ≠ sz || decide (off + v.cells.size > c.size)) = true) := by
        simp [hsz]; omega
      simp only [hpl, e1, if_false]
      have e2 : (v.cells.zipIdx.foldl (fun cs (x : Value × Nat) => cs.setIfInBounds (off + x.2) x.1) c) = c1 := by
        rw [← Array.foldl_toList, Array.toList_zipIdx, hv]
      simp only [e2]
      exact h1
    unfold fillL at hk
    split at hk
    · exact hk.elim
    · rename_i off sz hpl
      split at hk
      · rename_i n f
        obtain ⟨rfl, hk1⟩ := sure_iff.1 hk
        obtain ⟨hle, hk2⟩ := sure_iff.1 hk1
        obtain ⟨vs, e, hn, hc⟩ := hx
        simp at e
        subst e
        refine lay (vs := vs.toList) (m := (List.range n).map f) hpl rfl (by simpa using hn) (by simp) (fun k hk' => ?_) hle rfl hk2
        obtain ⟨u, h1, h2⟩ := hc k hk'
        exact ⟨u, by simpa using h1, by rw [tab_get hk']; exact h2⟩
      · rename_i k xs
        obtain ⟨e0, hk1⟩ := hk
        obtain ⟨hle, hk2⟩ := sure_iff.1 hk1
        have e : v = .agg (xs.map (Value.int k)).toArray := hx
        subst e
        refine lay (vs := xs.map (Value.int k)) hpl rfl (by simpa using e0.symm) (by simp) (fun j hj => ⟨.int k (xs.getD j 0), ?_, ?_⟩) hle rfl hk2
        · have : j < xs.length := by omega
          simp [this]
        · rw [tab_get hj]; rfl
      · split at hk
        · rename_i hc1
          obtain ⟨rfl, hk1⟩ := sure_iff.1 hk
          obtain ⟨hlt, hk2⟩ := sure_iff.1 hk1
          have hk3 := setK_iff.1 hk2
          obtain ⟨g1, g2⟩ := cell1_cells hc1 hx
          refine lay (vs := [v]) (m := [x]) hpl (by rw [g1]) rfl rfl (fun k hk' => ?_) (by omega) ?_ hk3
          · obtain rfl : k = 0 := by omega
            exact ⟨v, rfl, hx⟩
          exact List.set_eq_take_append_cons_drop.trans (by rw [if_pos hlt]; simp)
        · exact hk.elim

theorem explicitInts_spec {S : Nat → Prop} {k : IntKind} : ∀ {l : List AV} {K : List Int → Prop}, explicitInts k l K → ∃ xs, K xs ∧ xs.length = l.length ∧ ∀ i, i < l.length → l.getD i .top = int k (xs.getD i 0)
  | [], K, hk => ⟨[], hk, rfl, fun i hi => by simp at hi⟩
  | .raw (.int k' n) :: l, K, hk => by
    obtain ⟨rfl, hk1⟩ := sameKind_iff.1 hk
    obtain ⟨xs, h1, h2, h3⟩ := explicitInts_spec (S := S) hk1
    refine ⟨n :: xs, h1, by simp [h2], fun i hi => ?_⟩
    cases i with
    | zero => rfl
    | succ i => simpa using h3 i (by simpa using hi)

theorem partsK_spec (hr : Rel C t h L a w) : ∀ {xs : List (Nat × Operand)} {K : List (Nat × AV) → Prop}, partsK t xs K →
    ∃ vs, denP w (SS C w h L) L vs (xs.map fun x => (x.1, a.eval x.2)) ∧ K vs
  | [], K, hk => ⟨[], ⟨rfl, by simp⟩, hk⟩
  | (i, x) :: xs, K, hk => by
    obtain ⟨v, h1, h2⟩ := evK_spec hr hk
    obtain ⟨vs, ⟨h3, h4⟩, h5⟩ := partsK_spec hr h2
    refine ⟨(i, v) :: vs, ⟨by simpa using h3, fun j y hj => ?_⟩, h5⟩
    cases j with
    | zero => simp at hj; subst hj; exact ⟨_, rfl, rfl, h1⟩
    | succ j => simpa using h4 j y (by simpa using hj)

theorem denL_new (hr : HRel C h L w) {w' : World} {ob : Obj} (hw : w'.heap = w.heap.push ob) {L' : Loc} (hL : L.le L') {l : List AV} {c : Array Value} (hx : denL w (SS C w h L) L l c) : denL w' (SS C w h L) L' l c :=
  ⟨hx.1, fun i hi => let ⟨u, h1, h2⟩ := hx.2 i hi; ⟨u, h1, den_new hr hw hL h2⟩⟩

theorem buildSliceK_spec (hr : HRel C h L w) {T : TypeId} {len : Nat} {parts : List (Nat × AV)} {ps : Array (Nat × Value)} {K : AV → List AO → Prop} (hp : denP w (SS C w h L) L parts ps.toList)
    (hk : buildSliceK P T h len parts K) : EffV P C h L w (Instr.buildSlice T len ps) K := by
  unfold buildSliceK at hk
  split at hk
  · rename_i e hu
    obtain ⟨sz, hss, _, hk1⟩ := sizeK_spec hk
    obtain ⟨hpos, hk2⟩ := sure_iff.1 hk1
    obtain ⟨hlim, hk3⟩ := sure_iff.1 hk2
    obtain ⟨z, hz, hk4⟩ := zeroK_spec hk3
    obtain ⟨hzs, hk5⟩ := sure_iff.1 hk4
    have hl0 : denL w (SS C w h L) L ((List.range (len * sz)).map fun i => .raw (z.cells[i % sz]!)) ((Array.range (len * sz)).map (z.cells[· % z.cells.size]!)) := by
      refine ⟨by simp, fun i hi => ?_⟩
      simp at hi
      exact ⟨z.cells[i % sz]!, by simp [hi, hzs], by rw [tab_get hi]; rfl⟩
    obtain ⟨l, c, h1, h2, h3, hk6⟩ := fillL_spec hp hl0 hk5
    have hlen : l.length = len * sz := by rw [h3]; simp
    have hrun : (Instr.buildSlice T len ps).run P w = .ok (.slice (some ⟨w.heap.size, 0, none⟩) len len) { w with heap := w.heap.push (.cells c e) } := by
      unfold Instr.buildSlice
      have e1 : ¬ (len * sz > 2 ^ 24) := by omega
      simp only [Sem.run_bind, run_underlying hu, Result.andThen_ok, hss, e1, if_false, Sem.run_pure]
      by_cases e0 : len * sz = 0
      · have h00 : ∀ f : Nat → Value, Array.map f (Array.range (len * sz)) = #[] := fun f => Array.eq_empty_of_size_eq_zero (by simpa using e0)
        rw [h00] at h1
        simp only [e0, if_true, Sem.run_pure, Result.andThen_ok]
        have h01 : ∀ f : Nat → Value, Array.map f (Array.range 0) = #[] := fun f => Array.eq_empty_of_size_eq_zero (by simp)
        simp only [h01, h1, run_newRow, Sem.run_bind, Result.andThen_ok, Sem.run_pure]
      · simp only [e0, if_false, Sem.run_bind, hz, Result.andThen_ok, Sem.run_pure, h1, run_newRow]
    split at hk6
    · rename_i k hik
      obtain ⟨hs1, hk6⟩ := sure_iff.1 hk6
      obtain ⟨xs, hk7, hxl, hxs⟩ := explicitInts_spec (S := SS C w h L) hk6
      refine new_row hr hrun (no_frozen _) rfl ⟨rfl, rfl, rfl⟩ (Nat.le_refl _) (Nat.le_of_eq (by rw [h2.1, hlen, hs1])) (fun w' L' hw hL => ?_) hk7
      refine cells_new hw (no_frozen _) (Nat.le_of_eq (by rw [h2.1, hxl])) fun i hi => ?_
      obtain ⟨u, g1, g2⟩ := h2.2 i (by omega)
      rw [hxs i (by omega)] at g2
      exact ⟨u, g1, g2⟩
    · refine new_row hr hrun (no_frozen _) rfl ⟨rfl, rfl, rfl⟩ (Nat.le_refl _) (Nat.le_of_eq (by rw [h2.1, hlen])) (fun w' L' hw hL => ?_) hk6
      exact cells_new hw (no_frozen _) (Nat.le_of_eq (by rw [h2.1])) (denL_new hr hw hL h2).2
  · exact hk.elim

theorem run_mapM_list {α β : Type} (f : α → Sem β) (g : α → β) : ∀ (l : List α) (w : World), (∀ x ∈ l, ∀ w, (f x).run P w = .ok (g x) w) → (l.mapM f).run P w = .ok (l.map g) w
  | [], w, _ => rfl
  | x :: l, w, h => by
    rw [List.mapM_cons]
    simp only [Sem.run_bind, h x List.mem_cons_self, Result.andThen_ok, run_mapM_list f g l w (fun y hy => h y (List.mem_cons_of_mem _ hy)), Sem.run_pure, List.map_cons]
theorem run_mapM_array {α β : Type} (f : α → Sem β) (g : α → β) (l : Array α) (w : World) (h : ∀ x ∈ l.toList, ∀ w, (f x).run P w = .ok (g x) w) : (l.mapM f).run P w = .ok (l.map g) w := by
  rw [Array.mapM_eq_mapM_toList, Sem.run_map, run_mapM_list f g l.toList w h]
  simp only [Result.andThen_ok]
  congr 1
  apply Array.ext'
  simp

theorem buildK_spec {S : Nat → Prop} {T : TypeId} {parts : List (Nat × AV)} {ps : Array (Nat × Value)} {K : AV → Prop} (hp : denP w S L parts ps.toList) (hk : buildK P T parts K) :
    Gives P w (den w S L) (Instr.build T ps) K := by
  unfold buildK at hk
  obtain ⟨z, hz, hk1⟩ := zeroK_spec hk
  have hl0 : denL w S L (z.cells.toList.map .raw) z.cells := ⟨by simp, raws_cells z⟩
  split at hk1
  · rename_i n e hu
    obtain ⟨sz, hss, _, hk2⟩ := sizeK_spec hk1
    obtain ⟨l, c, h1, h2, h3, hk3⟩ := fillL_spec hp hl0 hk2
    have hrun : ∀ w', (Instr.build T ps).run P w' = .ok (.agg c) w' := fun w' => by
      unfold Instr.build
      simp only [Sem.run_bind, hz, run_underlying hu, Result.andThen_ok, hss, h1, Sem.run_pure]
    split at hk3
    · rename_i k hik
      obtain ⟨xs, hk4, hxl, hxs⟩ := explicitInts_spec (S := S) hk3
      refine .of hk4 ?_ fun w' _ => hrun w'
      show Value.agg c = _
      congr 1
      apply Array.ext_getElem?
      intro i
      rcases Nat.lt_or_ge i l.length with hi | hi
      · obtain ⟨u, g1, g2⟩ := h2.2 i hi
        rw [hxs i hi] at g2
        rw [g1, g2]
        have : i < xs.length := by omega
        simp [List.getD_eq_getElem?_getD, this]
      · rw [Array.getElem?_eq_none (by rw [h2.1]; omega), Array.getElem?_eq_none (by simp; omega)]
    · exact .of hk3 ⟨c, rfl, h2.1, h2.2⟩ fun w' _ => hrun w'
  · rename_i fs hu
    obtain ⟨hall, hk2⟩ := sure_iff.1 hk1
    obtain ⟨l, c, h1, h2, h3, hk3⟩ := fillL_spec hp hl0 hk2
    have hsz : ∀ (fs : List Field), allSized P fs = true → ∀ f ∈ fs, ∃ i, P.info? f.type = some i := by
      intro fs
      induction fs with
      | nil => intro _ f hf; cases hf
      | cons f r ih =>
        intro ha g hg
        unfold allSized at ha
        split at ha
        · rename_i i hi
          cases hg with
          | head => exact ⟨i, hi⟩
          | tail _ hg => exact ih ha g hg
        · cases ha
    have hm : ∀ w', (fs.mapM (fun (f : Field) => (do pure (f.offset, ← sizeOf f.type) : Sem (Nat × Nat)))).run P w' = .ok (fs.map fun f => (f.offset, ((P.info? f.type).map (·.size)).getD 0)) w' := fun w' =>
      run_mapM_array _ _ fs w' fun f hf w => by
        obtain ⟨i, hi⟩ := hsz fs.toList hall f hf
        simp [sizeOf, typeInfo, hi]
    have hplace : (fun i => (fs.map fun f => (f.offset, ((P.info? f.type).map (·.size)).getD 0))[i]?) = fieldPlace? P fs.toList := by
      funext i
      unfold fieldPlace?
      rw [Array.getElem?_map, Array.getElem?_toList]
      cases e : fs[i]? with
      | none => rfl
      | some f =>
        obtain ⟨j, hj⟩ := hsz fs.toList hall f (by
          have := Array.getElem?_eq_some_iff.1 e
          obtain ⟨h1, h2⟩ := this
          rw [← h2]; exact Array.getElem_mem_toList h1)
        simp [hj]
    refine .of hk3 ⟨c, rfl, h2.1, h2.2⟩ fun w' _ => ?_
    unfold Instr.build
    simp only [Sem.run_bind, hz, run_underlying hu, Result.andThen_ok, hm, hplace, h1, Sem.run_pure]
  · exact hk1.elim

end
end Go.Proofs.YtflclafbieokiaaGreatDoor.AL

namespace Go.Proofs.YtflclafbieokiaaGreatDoor.AL
open Go
variable [Globs]

section
variable {P : Program} {C : Ctx} {t : List AV} {h : List AO} {L : Loc} {a : Act} {w : World}

theorem makeMap_spec {T : TypeId} {K : AV → List AO → Prop} (hr : HRel C h L w) (hk : addO h (.map []) fun id h' => K (.mp id) h') : EffV P C h L w (Instr.makeMap T none) K := by
  have hs := step_new (o := .map []) (sz := 0) (ob := .map #[] 0) (w' := { w with heap := w.heap.push (.map #[] 0) }) hr ⟨rfl, rfl, rfl⟩ rfl (fun L' hL => ⟨w.heap.size, #[], 0, rfl, by simp, MapKept.stamped_empty 0, rfl, fun i hi => absurd hi (Nat.not_lt_zero _)⟩)
  refine ⟨.map (some w.heap.size), .mp h.length, _, _, _, ?_, hs, ⟨push_n hr _ _, _, push_b hr _ _, rfl⟩, addO_spec hk⟩
  unfold Instr.makeMap
  simp [newObj, Sem.run]

theorem mapSetK_spec {T : TypeId} {x y z : AV} {vx vy vz : Value} {K : List AO → Prop} (hr : HRel C h L w) (hx : den w (SS C w h L) L x vx) (hy : den w (SS C w h L) L y vy) (hz : den w (SS C w h L) L z vz)
    (hk : mapSetK P T h x y z K) : EffU P C h L w (Instr.mapUpdate T vx vy vz) K := by
  unfold mapSetK at hk
  split at hk
  · rename_i kt et hT
    split at hk
    · rename_i hK
      split at hk
      · rename_i id s
        obtain rfl := hy
        obtain ⟨hid, b, hb, rfl⟩ := hx
        obtain ⟨o, ho, hk⟩ := getO_iff.1 hk
        have hob := hr.objs id o ho
        split at hk
        · rename_i l
          obtain ⟨hlt, hk⟩ := setO_iff.1 hk
          have hl : Live h id := ⟨_, ho, trivial⟩
          obtain ⟨b', es, clock, e, hes, hst, hn, hc⟩ := hob
          rw [hb] at e
          cases e
          obtain ⟨m1, m2, m3⟩ := map_keys hn hc
          have hbl : b < w.heap.size := (Array.getElem?_eq_some_iff.1 hes).1
          have others : ∀ (ob : Obj) k, k ≠ b → (w.heap.setIfInBounds b ob)[k]? = w.heap[k]? := fun ob k hk => by simp [Array.getElem?_setIfInBounds, Ne.symm hk]
          rcases find_map (s := s) 0 m1 m2 with ⟨j, e, q0, q1, q2, q3, q4, q5, _⟩ | ⟨q1, q2, q3, _, q5⟩
          · have hj : es[j]? = some e := by simpa using q1
            obtain ⟨e', g1, g2, g3⟩ := hc j q0
            rw [hj] at g1
            cases g1
            have hkey : (l.getD j mz).1 = s := by
              rw [q2] at g2
              injection g2 with g2
              exact g2.symm
            have hset : (w.heap.setIfInBounds b (.map (es.modify j fun e => { e with key := .string s, val := vz }) clock))[b]? = some (.map (es.modify j fun e => { e with key := .string s, val := vz }) clock) := by simp [hbl]
            refine ⟨_, L, _, ?_, step_upd (id := id) (b := b) (o := .map (setM s z l)) (w' := { w with heap := w.heap.setIfInBounds b (.map (es.modify j fun e => { e with key := .string s, val := vz }) clock) }) hr ⟨rfl, rfl, rfl⟩ (by simp) hl hb (others _) ?_, hk⟩
            · simp [Instr.mapUpdate, run_underlying hT, MapKept.run_getObj_map hes, MapKept.run_checkKey hK (key_is s), MapKept.run_findKey hK q3, hj, q2, MapKept.run_keyThatStays (key_is s), MapKept.run_setObj_map _ hes, Result.andThen]
            · rw [q5]
              refine ⟨b, _, clock, hb, hset, MapKept.stamped_modify hst _ _ (fun _ _ => rfl) (fun e' he' hj' => ?_), by simp [hn], fun i hi => ?_⟩
              · rw [hj] at hj'
                cases hj'
                exact q2.symm
              · rw [List.length_set] at hi
                by_cases hij : j = i
                · subst hij
                  refine ⟨{ e with key := .string s, val := vz }, by simp [Array.getElem?_modify, hj], ?_, ?_⟩
                  · rw [List.getD_eq_getElem?_getD, List.getElem?_set_self q0]; show Value.string s = Value.string _; rw [← hkey]; rfl
                  · rw [List.getD_eq_getElem?_getD, List.getElem?_set_self q0]
                    exact den_upd hr hl hb (others _) (.refl _) hz
                · obtain ⟨e', r1, r2, r3⟩ := hc i hi
                  refine ⟨e', by simp [Array.getElem?_modify, hij, r1], ?_, ?_⟩
                  · rw [List.getD_eq_getElem?_getD, List.getElem?_set_ne hij, ← List.getD_eq_getElem?_getD]; exact r2
                  · rw [List.getD_eq_getElem?_getD, List.getElem?_set_ne hij, ← List.getD_eq_getElem?_getD]
                    exact den_upd hr hl hb (others _) (.refl _) r3
          · have hset : (w.heap.setIfInBounds b (.map (es.push ⟨.string s, vz, clock⟩) (clock + 1)))[b]? = some (.map (es.push ⟨.string s, vz, clock⟩) (clock + 1)) := by simp [hbl]
            refine ⟨_, L, _, ?_, step_upd (id := id) (b := b) (o := .map (setM s z l)) (w' := { w with heap := w.heap.setIfInBounds b (.map (es.push ⟨.string s, vz, clock⟩) (clock + 1)) }) hr ⟨rfl, rfl, rfl⟩ (by simp) hl hb (others _) ?_, hk⟩
            · simp [Instr.mapUpdate, run_underlying hT, MapKept.run_getObj_map hes, MapKept.run_checkKey hK (key_is s), MapKept.run_findKey hK q1, MapKept.run_setObj_map _ hes, Result.andThen]
            · rw [q3]
              refine ⟨b, _, _, hb, hset, MapKept.stamped_push hst q5, by simp [hn], fun i hi => ?_⟩
              rw [List.length_append, List.length_singleton] at hi
              rcases Nat.lt_or_ge i l.length with hil | hil
              · obtain ⟨e', r1, r2, r3⟩ := hc i hil
                refine ⟨e', by rw [Array.getElem?_push, if_neg (by omega)]; exact r1, ?_, ?_⟩
                · rw [List.getD_eq_getElem?_getD, List.getElem?_append_left hil, ← List.getD_eq_getElem?_getD]; exact r2
                · rw [List.getD_eq_getElem?_getD, List.getElem?_append_left hil, ← List.getD_eq_getElem?_getD]
                  exact den_upd hr hl hb (others _) (.refl _) r3
              · obtain rfl : i = l.length := by omega
                refine ⟨⟨.string s, vz, clock⟩, by rw [Array.getElem?_push, if_pos hn.symm], ?_, ?_⟩
                · rw [List.getD_eq_getElem?_getD, List.getElem?_append_right (Nat.le_refl _), Nat.sub_self]; rfl
                · rw [List.getD_eq_getElem?_getD, List.getElem?_append_right (Nat.le_refl _), Nat.sub_self]
                  exact den_upd hr hl hb (others _) (.refl _) hz
        · exact hk.elim
      · exact hk.elim
    · exact hk.elim
  · exact hk.elim

theorem erase_get {es : Array MapEntry} {j i : Nat} (hj : j < es.size) : (es.eraseIdxIfInBounds j)[i]? = if i < j then es[i]? else es[i + 1]? := by
  unfold Array.eraseIdxIfInBounds
  rw [dif_pos hj, ← Array.getElem?_toList, Array.toList_eraseIdx, List.getElem?_eraseIdx]
  simp

theorem mapDelK_spec {T T2 ty : TypeId} {x y : AV} {vx vy : Value} {K : List AO → Prop} (hr : HRel C h L w) (hx : den w (SS C w h L) L x vx) (hy : den w (SS C w h L) L y vy)
    (hk : mapDelK P T h x y K) : EffV P C h L w (Builtin.delete_ #[T, T2] ty #[vx, vy]) (fun v h' => v = .top ∧ K h') := by
  unfold mapDelK at hk
  split at hk
  · rename_i kt et hT
    split at hk
    · rename_i hK
      split at hk
      · rename_i id s
        obtain rfl := hy
        obtain ⟨hid, b, hb, rfl⟩ := hx
        obtain ⟨o, ho, hk⟩ := getO_iff.1 hk
        have hob := hr.objs id o ho
        split at hk
        · rename_i l
          obtain ⟨hlt, hk⟩ := setO_iff.1 hk
          have hl : Live h id := ⟨_, ho, trivial⟩
          obtain ⟨b', es, clock, e, hes, hst, hn, hc⟩ := hob
          rw [hb] at e
          cases e
          obtain ⟨m1, m2, m3⟩ := map_keys hn hc
          have hbl : b < w.heap.size := (Array.getElem?_eq_some_iff.1 hes).1
          have others : ∀ (ob : Obj) k, k ≠ b → (w.heap.setIfInBounds b ob)[k]? = w.heap[k]? := fun ob k hk => by simp [Array.getElem?_setIfInBounds, Ne.symm hk]
          rcases find_map (s := s) 0 m1 m2 with ⟨j, e, q0, q1, q2, q3, q4, _, q6⟩ | ⟨q1, q2, _, q4, q5⟩
          · have hset : (w.heap.setIfInBounds b (.map (es.eraseIdxIfInBounds j) clock))[b]? = some (.map (es.eraseIdxIfInBounds j) clock) := by simp [hbl]
            refine ⟨.tuple #[], .top, _, L, _, ?_, step_upd (id := id) (b := b) (o := .map (delM s l)) (w' := { w with heap := w.heap.setIfInBounds b (.map (es.eraseIdxIfInBounds j) clock) }) hr ⟨rfl, rfl, rfl⟩ (by simp) hl hb (others _) ?_, trivial, rfl, hk⟩
            · simp [Builtin.delete_, run_underlying hT, MapKept.run_getObj_map hes, MapKept.run_checkKey hK (key_is s), MapKept.run_findKey hK q3, MapKept.run_setObj_map _ hes, Result.andThen]
            · rw [q6]
              refine ⟨b, _, clock, hb, hset, MapKept.stamped_erase hst j, ?_, fun i hi => ?_⟩
              · unfold Array.eraseIdxIfInBounds
                rw [dif_pos (by omega), Array.size_eraseIdx, List.length_eraseIdx, if_pos q0, hn]
              · rw [List.length_eraseIdx, if_pos q0] at hi
                rw [erase_get (by omega), List.getD_eq_getElem?_getD, List.getElem?_eraseIdx]
                by_cases hij : i < j
                · obtain ⟨e', r1, r2, r3⟩ := hc i (by omega)
                  rw [if_pos hij, if_pos hij, ← List.getD_eq_getElem?_getD]
                  exact ⟨e', r1, r2, den_upd hr hl hb (others _) (.refl _) r3⟩
                · obtain ⟨e', r1, r2, r3⟩ := hc (i + 1) (by omega)
                  rw [if_neg hij, if_neg hij, ← List.getD_eq_getElem?_getD]
                  exact ⟨e', r1, r2, den_upd hr hl hb (others _) (.refl _) r3⟩
          · have hset : (w.heap.setIfInBounds b (.map es clock))[b]? = some (.map es clock) := by simp [hbl]
            refine ⟨.tuple #[], .top, _, L, _, ?_, step_upd (id := id) (b := b) (o := .map (delM s l)) (w' := { w with heap := w.heap.setIfInBounds b (.map es clock) }) hr ⟨rfl, rfl, rfl⟩ (by simp) hl hb (others _) ?_, trivial, rfl, hk⟩
            · simp [Builtin.delete_, run_underlying hT, MapKept.run_getObj_map hes, MapKept.run_checkKey hK (key_is s), MapKept.run_findKey hK q1, MapKept.run_setObj_map _ hes, Result.andThen]
            · rw [q4]
              refine ⟨b, es, clock, hb, hset, hst, hn, fun i hi => ?_⟩
              obtain ⟨e', r1, r2, r3⟩ := hc i hi
              exact ⟨e', r1, r2, den_upd hr hl hb (others _) (.refl _) r3⟩
        · exact hk.elim
      · exact hk.elim
    · exact hk.elim
  · exact hk.elim

theorem slice3_bounds {n c : Int} {k1 k2 : IntKind} {len cap : Nat} (h0 : 0 ≤ n) (h1 : n ≤ c) (h2 : c ≤ (cap : Int)) (w : World) :
    (Instr.sliceBounds true len cap none (some (.int k1 n)) (some (.int k2 c))).run P w = .ok (0, n.toNat, c.toNat) w := by
  have e1 : 0 ≤ c ∧ c ≤ (cap : Int) := ⟨by omega, h2⟩
  have e2 : 0 ≤ n ∧ n ≤ (c.toNat : Int) := ⟨h0, by omega⟩
  have e3 : n ≤ max c 0 := by omega
  simp [Instr.sliceBounds, Instr.sliceBound, asIntOf, e1, e2, e3, h0, Result.andThen]
theorem run_slice3 {T e : TypeId} {s : Nat} (hu : P.underlying T = some (.slice e)) (hs : ∀ w, (sizeOf e).run P w = .ok s w) {A : Option Addr} {len cap a b c : Nat} {lo hi mx : Option Value} {w : World}
    (hb : (Instr.sliceBounds true len cap lo hi mx).run P w = .ok (a, b, c) w) :
    (Instr.sliceAt T (.slice A len cap) lo hi mx).run P w = .ok (.slice (if c = a then A else A.map (·.add (a * s))) (b - a) (c - a)) w := by
  have h0 : (Instr.sliceAt T (.slice A len cap) lo hi mx).run P w = (Instr.slice T (.slice A len cap) lo hi mx).run P w := by
    unfold Instr.sliceAt
    simp only [Sem.run_bind, run_underlying hu, Result.andThen_ok]
  rw [h0]
  unfold Instr.slice
  simp only [Sem.run_bind, run_underlying hu, Result.andThen_ok, hb, hs, Sem.run_pure]
theorem slice3K_spec {T : TypeId} {x y z : AV} {vx vy vz : Value} {K : AV → List AO → Prop} (hr : HRel C h L w) (hx : den w (SS C w h L) L x vx) (hy : den w (SS C w h L) L y vy) (hz : den w (SS C w h L) L z vz)
    (hk : slice3K P T h x y z K) : EffV P C h L w (Instr.sliceAt T vx none (some vy) (some vz)) K := by
  unfold slice3K at hk
  split at hk
  · rename_i e hT
    split at hk
    · rename_i k hik
      obtain ⟨s, hs, _, hk⟩ := sizeK_spec hk
      obtain ⟨rfl, hk⟩ := sure_iff.1 hk
      split at hk
      · rename_i k1 n k2 c hq hq2
        obtain rfl := hy
        obtain rfl := hz
        split at hk
        · rename_i k' xs
          obtain ⟨rfl, ⟨h0, h1, h2⟩, hk⟩ := sameKind_iff.1 hk
          obtain ⟨A, cap, rfl, hcap, hc⟩ := hx
          have hrun := run_slice3 (P := P) (A := A) (len := xs.length) hT hs (slice3_bounds (P := P) (k1 := k1) (k2 := k2) (len := xs.length) (cap := cap) h0 h1 (by omega) w)
          rcases hk with hkk | ⟨rfl, hkk⟩
          · refine ⟨_, _, h, L, w, hrun, .refl hr, ?_, hkk⟩
            have hl : (xs.take n.toNat).length = n.toNat := by rw [List.length_take]; omega
            refine ⟨_, c.toNat - 0, by rw [hl, Nat.sub_zero], by rw [hl]; omega, fun i hi => ?_⟩
            rw [hl] at hi
            have h3 := hc i (by omega)
            rw [List.getD_eq_getElem?_getD, List.getElem?_take_of_lt hi, ← List.getD_eq_getElem?_getD]
            rw [if_neg (by omega), Nat.zero_mul]
            obtain ⟨b, o, e1, e2, e3⟩ := h3
            refine ⟨b, o, ?_, e2, e3⟩
            rw [e1]
            simp [Addr.add]
          · obtain rfl : n = 0 := by omega
            have s2 := step_none (w' := w) (o := .ints k' []) hr (.refl w) rfl (fun L' hL => .inl ⟨rfl, rfl⟩)
            have hLn : L.n = h.length := hr.n
            refine ⟨_, .own h.length 0 0 1, _, _, _, hrun, s2, ⟨by simp [Loc.push, hLn], .inl ⟨rfl, A, ?_⟩⟩, addO_spec hkk⟩
            simp
        · obtain rfl := hx
          obtain ⟨⟨rfl, rfl⟩, hk⟩ := hk
          have hrun := run_slice3 (P := P) (A := none) (len := 0) hT hs (slice3_bounds (P := P) (n := 0) (c := 0) (k1 := k1) (k2 := k2) (len := 0) (cap := 0) (by omega) (by omega) (by omega) w)
          exact ⟨_, .raw (.slice none 0 0), h, L, w, hrun, .refl hr, by simp [den], hk⟩
        · exact hk.elim
      · exact hk.elim
    · exact hk.elim
  · exact hk.elim

end
end Go.Proofs.YtflclafbieokiaaGreatDoor.AL

namespace Go.Proofs.YtflclafbieokiaaGreatDoor.AL
open Go
variable [Globs]

section
variable {P : Program} {C : Ctx} {t : List AV} {h : List AO} {L : Loc} {a : Act} {w : World}

theorem den_free {w : World} {S : Nat → Prop} {L : Loc} (M : Loc) : ∀ (a : AV) (v : Value), a.free → den w S L a v → den w S M a v
  | .top, _, _, _ => trivial
  | .raw _, _, _, h => h
  | .tt, _, _, h => h
  | .ff, _, _, h => h
  | .own _ _ _ _, _, h, _ => h.elim
  | .ptr _ _, _, h, _ => h.elim
  | .mp _, _, h, _ => h.elim
  | .bx _, _, h, _ => h.elim
  | .bm _ _, _, h, _ => h.elim
  | .rp _ _, _, _, h => h
  | .ro _ _ _, _, _, h => h
  | .rs _ _ _, _, _, h => h
  | .roI _ _, _, _, h => h
  | .aggI _ _, _, _, h => h
  | .ifc, _, _, h => h
  | .agg n f, v, hf, h => by
    obtain ⟨vs, e, hn, h⟩ := h
    exact ⟨vs, e, hn, fun i hi => let ⟨u, h1, h2⟩ := h i hi; ⟨u, h1, den_free M (f i) u (hf i hi) h2⟩⟩
  | .tup n f, v, hf, h => by
    obtain ⟨vs, e, hn, h⟩ := h
    exact ⟨vs, e, hn, fun i hi => let ⟨u, h1, h2⟩ := h i hi; ⟨u, h1, den_free M (f i) u (hf i hi) h2⟩⟩
  | .clo fn n f, v, hf, h => by
    obtain ⟨vs, e, hn, h⟩ := h
    exact ⟨vs, e, hn, fun i hi => let ⟨u, h1, h2⟩ := h i hi; ⟨u, h1, den_free M (f i) u (hf i hi) h2⟩⟩

theorem den_flat {w : World} {S : Nat → Prop} {L : Loc} (S' : Nat → Prop) : ∀ (a : AV) (v : Value), a.flat → den w S L a v → den w S' L a v
  | .top, _, _, _ => trivial
  | .raw _, _, _, h => h
  | .tt, _, _, h => h
  | .ff, _, _, h => h
  | .own _ _ _ _, _, _, h => h
  | .ptr _ _, _, _, h => h
  | .mp _, _, _, h => h
  | .rp _ _, _, h, _ => h.elim
  | .bx _, _, h, _ => h.elim
  | .bm _ _, _, _, h => h
  | .ro _ _ _, _, h, _ => h.elim
  | .rs _ _ _, _, h, _ => h.elim
  | .roI _ _, _, h, _ => h.elim
  | .aggI _ _, _, _, h => h
  | .ifc, _, _, h => h
  | .agg n f, v, hf, h => by
    obtain ⟨vs, e, hn, h⟩ := h
    exact ⟨vs, e, hn, fun i hi => let ⟨u, h1, h2⟩ := h i hi; ⟨u, h1, den_flat S' (f i) u (hf i hi) h2⟩⟩
  | .tup n f, v, hf, h => by
    obtain ⟨vs, e, hn, h⟩ := h
    exact ⟨vs, e, hn, fun i hi => let ⟨u, h1, h2⟩ := h i hi; ⟨u, h1, den_flat S' (f i) u (hf i hi) h2⟩⟩
  | .clo fn n f, v, hf, h => by
    obtain ⟨vs, e, hn, h⟩ := h
    exact ⟨vs, e, hn, fun i hi => let ⟨u, h1, h2⟩ := h i hi; ⟨u, h1, den_flat S' (f i) u (hf i hi) h2⟩⟩

theorem den_ren {w : World} {S : Nat → Prop} {M N : Loc} {g : Nat → Nat} (hg : ∀ p, p < M.n → g p < N.n ∧ N.b (g p) = M.b p ∧ N.sz (g p) = M.sz p) :
    ∀ (a : AV) (v : Value), den w S M a v → den w S N (a.ren g) v
  | .top, _, _ => trivial
  | .raw _, _, h => h
  | .tt, _, h => h
  | .ff, _, h => h
  | .own id off len sz, v, h => by
    obtain ⟨hi, h⟩ := h
    obtain ⟨g1, g2, g3⟩ := hg id hi
    refine ⟨g1, ?_⟩
    rcases h with h | ⟨b, cap, h1, h2, h3, h4⟩
    · exact .inl h
    · exact .inr ⟨b, cap, by rw [g2]; exact h1, h2, h3, by rw [g3]; exact h4⟩
  | .ptr id off, v, h => by
    obtain ⟨hi, b, h1, h2⟩ := h
    obtain ⟨g1, g2, g3⟩ := hg id hi
    exact ⟨g1, b, by rw [g2]; exact h1, h2⟩
  | .mp id, v, h => by
    obtain ⟨hi, b, h1, h2⟩ := h
    obtain ⟨g1, g2, g3⟩ := hg id hi
    exact ⟨g1, b, by rw [g2]; exact h1, h2⟩
  | .bx id, v, h => by
    obtain ⟨hi, A, b, h1, h2, h3⟩ := h
    obtain ⟨g1, g2, g3⟩ := hg id hi
    exact ⟨g1, A, b, h1, by rw [g2]; exact h2, h3⟩
  | .bm f id, v, h => by
    obtain ⟨hi, b, h1, h2⟩ := h
    obtain ⟨g1, g2, g3⟩ := hg id hi
    exact ⟨g1, b, by rw [g2]; exact h1, h2⟩
  | .ifc, _, h => h
  | .rp _ _, _, h => h
  | .ro _ _ _, _, h => h
  | .rs _ _ _, _, h => h
  | .roI _ _, _, h => h
  | .aggI _ _, _, h => h
  | .agg n f, v, h => by
    obtain ⟨vs, e, hn, h⟩ := h
    exact ⟨vs, e, hn, fun i hi => let ⟨u, h1, h2⟩ := h i hi; ⟨u, h1, den_ren hg (f i) u h2⟩⟩
  | .tup n f, v, h => by
    obtain ⟨vs, e, hn, h⟩ := h
    exact ⟨vs, e, hn, fun i hi => let ⟨u, h1, h2⟩ := h i hi; ⟨u, h1, den_ren hg (f i) u h2⟩⟩
  | .clo fn n f, v, h => by
    obtain ⟨vs, e, hn, h⟩ := h
    exact ⟨vs, e, hn, fun i hi => let ⟨u, h1, h2⟩ := h i hi; ⟨u, h1, den_ren hg (f i) u h2⟩⟩

def Loc.sel (L : Loc) (l : List Nat) : Loc :=
  ⟨l.length, fun i => match l[i]? with | some j => L.b j | none => none, fun i => match l[i]? with | some j => L.sz j | none => 0⟩
theorem sel_b {l : List Nat} {i j : Nat} (e : l[i]? = some j) : (L.sel l).b i = L.b j := by simp [Loc.sel, e]
theorem sel_sz {l : List Nat} {i j : Nat} (e : l[i]? = some j) : (L.sel l).sz i = L.sz j := by simp [Loc.sel, e]

theorem idxOf_some {l : List Nat} {id p : Nat} (h : l.idxOf? id = some p) : l[p]? = some id := by
  rw [List.idxOf?_eq_some_iff] at h
  obtain ⟨hp, e, _⟩ := h
  rw [List.getElem?_eq_getElem hp, e]
theorem idxOf_none {l : List Nat} {id : Nat} (h : l.idxOf? id = none) : id ∉ l := by
  rwa [List.idxOf?_eq_none_iff] at h

theorem givesK_spec {w : World} {S S' : Nat → Prop} {M N : Loc} {gv : AV → (AV → Prop) → Prop} (hg : ∀ {a v K}, den w S M a v → gv a K → ∃ y, K y ∧ den w S' N y v) :
    ∀ {l : List AV} {vs : List Value} {K : List AV → Prop}, (∀ i, i < l.length → ∃ u, vs[i]? = some u ∧ den w S M (l.getD i .top) u) → givesK gv l K →
    ∃ r, K r ∧ r.length = l.length ∧ ∀ i, i < l.length → ∃ u, vs[i]? = some u ∧ den w S' N (r.getD i .top) u
  | [], vs, K, _, hk => ⟨[], hk, rfl, fun i hi => absurd hi (by simp)⟩
  | a :: l, vs, K, hv, hk => by
    obtain ⟨u, h1, h2⟩ := hv 0 (by simp)
    obtain ⟨y, hk1, hy⟩ := hg h2 hk
    obtain ⟨r, hk2, h3, h4⟩ := givesK_spec hg (l := l) (vs := vs.drop 1) (fun i hi => by
      obtain ⟨u, g1, g2⟩ := hv (i + 1) (by simp; omega)
      exact ⟨u, by rw [List.getElem?_drop, Nat.add_comm]; exact g1, by simpa using g2⟩) hk1
    refine ⟨y :: r, hk2, by simp [h3], fun i hi => ?_⟩
    cases i with
    | zero => exact ⟨u, h1, hy⟩
    | succ i =>
      obtain ⟨u, g1, g2⟩ := h4 i (by simpa using hi)
      rw [List.getElem?_drop, Nat.add_comm] at g1
      exact ⟨u, g1, by simpa using g2⟩

theorem tab_den {w : World} {S : Nat → Prop} {M : Loc} {n : Nat} {f : Nat → AV} {vs : Array Value} (h : ∀ i, i < n → ∃ u, vs[i]? = some u ∧ den w S M (f i) u) :
    ∀ i, i < ((List.range n).map f).length → ∃ u, vs.toList[i]? = some u ∧ den w S M (((List.range n).map f).getD i .top) u := fun i hi => by
  simp at hi
  obtain ⟨u, g1, g2⟩ := h i hi
  exact ⟨u, by simpa using g1, by simpa [List.getD_eq_getElem?_getD, hi] using g2⟩
theorem den_tab {w : World} {S : Nat → Prop} {M : Loc} {n : Nat} {f : Nat → AV} {r : List AV} {vs : Array Value} (hn : r.length = ((List.range n).map f).length) (h : ∀ i, i < ((List.range n).map f).length → ∃ u, vs.toList[i]? = some u ∧ den w S M (r.getD i .top) u) :
    ∀ i, i < n → ∃ u, vs[i]? = some u ∧ den w S M (r.getD i .top) u := fun i hi => by
  obtain ⟨u, g1, g2⟩ := h i (by simpa using hi)
  exact ⟨u, by simpa using g1, g2⟩

theorem lowC_spec {w : World} {S S1 : Nat → Prop} {pass : List Nat} (hS : ∀ b, S b → S1 b) : ∀ (n : Nat) {a : AV} {v : Value} {K : AV → Prop}, den w S L a v → lowC pass n a K → ∃ y, K y ∧ den w S1 (L.sel pass) y v
  | 0, _, _, _, _, hk => hk.elim
  | n + 1, a, v, K, hx, hk => by
    have mono : ∀ (y : AV), y.free → den w S L y v → den w S1 (L.sel pass) y v := fun y hf hy => den_free _ y v hf (den_mono (fun _ _ => rfl) hS (.refl _) y v hy)
    unfold lowC at hk
    split at hk
    · rename_i id off len sz
      split at hk
      · rename_i p hp
        have e := idxOf_some hp
        obtain ⟨hid, hx⟩ := hx
        refine ⟨_, hk, (List.getElem?_eq_some_iff.1 e).1, ?_⟩
        rcases hx with h1 | ⟨b, cap, h1, h2, h3, h4⟩
        · exact .inl h1
        · exact .inr ⟨b, cap, by rw [sel_b e]; exact h1, h2, h3, by rw [sel_sz e]; exact h4⟩
      · exact hk.elim
    · rename_i id off
      split at hk
      · rename_i p hp
        have e := idxOf_some hp
        obtain ⟨hid, b, h1, h2⟩ := hx
        exact ⟨_, hk, (List.getElem?_eq_some_iff.1 e).1, b, by rw [sel_b e]; exact h1, h2⟩
      · exact hk.elim
    · rename_i id
      split at hk
      · rename_i p hp
        have e := idxOf_some hp
        obtain ⟨hid, b, h1, h2⟩ := hx
        exact ⟨_, hk, (List.getElem?_eq_some_iff.1 e).1, b, by rw [sel_b e]; exact h1, h2⟩
      · exact hk.elim
    · rename_i id
      split at hk
      · rename_i p hp
        have e := idxOf_some hp
        obtain ⟨hid, A, b, h1, h2, h3⟩ := hx
        exact ⟨_, hk, (List.getElem?_eq_some_iff.1 e).1, A, b, h1, by rw [sel_b e]; exact h2, rcell_mono (fun _ _ => rfl) hS h3⟩
      · exact hk.elim
    · rename_i f id
      split at hk
      · rename_i p hp
        have e := idxOf_some hp
        obtain ⟨hid, b, h1, h2⟩ := hx
        exact ⟨_, hk, (List.getElem?_eq_some_iff.1 e).1, b, by rw [sel_b e]; exact h1, h2⟩
      · exact hk.elim
    · obtain ⟨vs, rfl, hn, hc⟩ := hx
      obtain ⟨r, hk2, h1, h2⟩ := givesK_spec (fun hd hk => lowC_spec hS n hd hk) (tab_den hc) hk
      exact ⟨_, hk2, vs, rfl, hn, den_tab h1 h2⟩
    · obtain ⟨vs, rfl, hn, hc⟩ := hx
      obtain ⟨r, hk2, h1, h2⟩ := givesK_spec (fun hd hk => lowC_spec hS n hd hk) (tab_den hc) hk
      exact ⟨_, hk2, vs, rfl, hn, den_tab h1 h2⟩
    · obtain ⟨vs, rfl, hn, hc⟩ := hx
      obtain ⟨r, hk2, h1, h2⟩ := givesK_spec (fun hd hk => lowC_spec hS n hd hk) (tab_den hc) hk
      exact ⟨_, hk2, vs, rfl, hn, den_tab h1 h2⟩
    · rename_i h1 h2 h3 h7 h8 h4 h5 h6
      refine ⟨a, hk, mono a ?_ hx⟩
      cases a <;> first
        | trivial
        | exact absurd rfl (h1 _ _ _ _)
        | exact absurd rfl (h2 _ _)
        | exact absurd rfl (h3 _)
        | exact absurd rfl (h7 _)
        | exact absurd rfl (h8 _ _)
        | exact absurd rfl (h4 _ _ _)
        | exact absurd rfl (h5 _ _)
        | exact absurd rfl (h6 _ _)

theorem lowK_spec (hr : HRel C h L w) {pass : List Nat} {S1 : Nat → Prop} (hS : ∀ b, SS C w h L b → S1 b) {x : AV} {v : Value} {K : AV → Prop}
    (hlet : noLow1 pass x = false → ∀ id b, Live h id → id ∉ pass → L.b id = some b → S1 b) (hx : den w (SS C w h L) L x v) (hk : lowK h pass x K) :
    ∃ y, K y ∧ den w S1 (L.sel pass) y v := by
  have mono : ∀ (y : AV), y.free → den w (SS C w h L) L y v → den w S1 (L.sel pass) y v := fun y hf hy => den_free _ y v hf (den_mono (fun _ _ => rfl) hS (.refl _) y v hy)
  unfold lowK at hk
  split at hk
  · rename_i id off len sz
    split at hk
    · rename_i p hp
      have e := idxOf_some hp
      have hlt : p < pass.length := (List.getElem?_eq_some_iff.1 e).1
      obtain ⟨hid, hx⟩ := hx
      refine ⟨_, hk, hlt, ?_⟩
      rcases hx with h1 | ⟨b, cap, h1, h2, h3, h4⟩
      · exact .inl h1
      · exact .inr ⟨b, cap, by rw [sel_b e]; exact h1, h2, h3, by rw [sel_sz e]; exact h4⟩
    · rename_i hp
      have hnp := idxOf_none hp
      have hlet' := hlet (by simp [noLow1, hp])
      replace hk := getO_iff.1 hk
      obtain ⟨o, ho, hk⟩ := hk
      have hob := hr.objs id o ho
      obtain ⟨hid, hx⟩ := hx
      cases o with
      | dead => exact hk.elim
      | map _ => exact hk.elim
      | mapB _ _ _ => exact hk.elim
      | miter _ _ _ => exact hk.elim
      | siter _ _ => exact hk.elim
      | ints k xs =>
        obtain ⟨rfl, hle, hk2⟩ := sure_iff.1 hk
        refine ⟨_, hk2, ?_⟩
        have hl : ((xs.drop off).take len).length = len := by simp; omega
        rcases hx with ⟨rfl, A, rfl⟩ | ⟨b, cap, hb, rfl, hcap, hsz⟩
        · exact ⟨A, 0, by simp, by simp, fun i hi => by simp at hi⟩
        · refine ⟨_, cap, by rw [hl], by rw [hl]; exact hcap, fun i hi => ⟨b, off, rfl, hlet' id b ⟨_, ho, trivial⟩ hnp hb, ?_⟩⟩
          rw [hl] at hi
          exact own_ints (len := len) (cap := cap) hr ho hb hle i hi
      | row n f =>
        obtain ⟨hle, hf, hk2⟩ := hk
        refine ⟨_, hk2, ?_⟩
        rcases hx with ⟨rfl, A, rfl⟩ | ⟨b, cap, hb, rfl, hcap, hsz⟩
        · exact ⟨A, 0, rfl, Nat.le_refl _, fun i hi => by simp at hi⟩
        · refine ⟨_, cap, rfl, hcap, fun i hi => ?_⟩
          obtain ⟨u, h1, h2⟩ := own_cell hob hb (i := off + i) (by omega)
          exact ⟨u, ⟨b, off, rfl, hlet' id b ⟨_, ho, trivial⟩ hnp hb, h1⟩, den_free _ _ _ (hf i hi) (den_mono (fun _ _ => rfl) hS (.refl _) _ _ h2)⟩
      | lst l =>
        obtain ⟨hle, hf, hk2⟩ := hk
        refine ⟨_, hk2, ?_⟩
        rcases hx with ⟨rfl, A, rfl⟩ | ⟨b, cap, hb, rfl, hcap, hsz⟩
        · exact ⟨A, 0, rfl, Nat.le_refl _, fun i hi => by simp at hi⟩
        · refine ⟨_, cap, rfl, hcap, fun i hi => ?_⟩
          obtain ⟨u, h1, h2⟩ := own_cell hob hb (i := off + i) (by omega)
          exact ⟨u, ⟨b, off, rfl, hlet' id b ⟨_, ho, trivial⟩ hnp hb, h1⟩, den_free _ _ _ (hf i hi) (den_mono (fun _ _ => rfl) hS (.refl _) _ _ h2)⟩
  · rename_i id off
    split at hk
    · rename_i p hp
      have e := idxOf_some hp
      obtain ⟨hid, b, h1, h2⟩ := hx
      exact ⟨_, hk, (List.getElem?_eq_some_iff.1 e).1, b, by rw [sel_b e]; exact h1, h2⟩
    · exact hk.elim
  · rename_i id
    split at hk
    · rename_i p hp
      have e := idxOf_some hp
      obtain ⟨hid, b, h1, h2⟩ := hx
      exact ⟨_, hk, (List.getElem?_eq_some_iff.1 e).1, b, by rw [sel_b e]; exact h1, h2⟩
    · exact hk.elim
  · rename_i id
    split at hk
    · rename_i p hp
      have e := idxOf_some hp
      obtain ⟨hid, A, b, h1, h2, h3⟩ := hx
      exact ⟨_, hk, (List.getElem?_eq_some_iff.1 e).1, A, b, h1, by rw [sel_b e]; exact h2, rcell_mono (fun _ _ => rfl) hS h3⟩
    · exact hk.elim
  · rename_i f id
    split at hk
    · rename_i p hp
      have e := idxOf_some hp
      obtain ⟨hid, b, h1, h2⟩ := hx
      exact ⟨_, hk, (List.getElem?_eq_some_iff.1 e).1, b, by rw [sel_b e]; exact h1, h2⟩
    · exact hk.elim
  · exact ⟨_, hk.2, mono _ hk.1 hx⟩
  · exact ⟨_, hk.2, mono _ hk.1 hx⟩
  · exact lowC_spec hS 4 hx hk
  · rename_i h1 h2 h3 h7 h8 h4 h5 h6
    refine ⟨x, hk, mono x ?_ hx⟩
    cases x <;> first
      | trivial
      | exact absurd rfl (h1 _ _ _ _)
      | exact absurd rfl (h2 _ _)
      | exact absurd rfl (h3 _)
      | exact absurd rfl (h7 _)
      | exact absurd rfl (h8 _ _)
      | exact absurd rfl (h4 _ _)
      | exact absurd rfl (h5 _ _)
      | exact absurd rfl (h6 _ _ _)

theorem lowsK_spec (hr : HRel C h L w) {pass : List Nat} {S1 : Nat → Prop} (hS : ∀ b, SS C w h L b → S1 b) : ∀ {xs : List AV} {vs : List Value} {K : List AV → Prop},
    (noLow pass xs = false → ∀ id b, Live h id → id ∉ pass → L.b id = some b → S1 b) → vs.length = xs.length → (∀ i, i < xs.length → ∃ v, vs[i]? = some v ∧ den w (SS C w h L) L (xs.getD i .top) v) → lowsK h pass xs K →
    ∃ ys, K ys ∧ ys.length = xs.length ∧ ∀ i, i < xs.length → ∃ v, vs[i]? = some v ∧ den w S1 (L.sel pass) (ys.getD i .top) v
  | [], _, K, _, _, _, hk => ⟨[], hk, rfl, by simp⟩
  | x :: xs, [], K, _, hl, _, _ => by simp at hl
  | x :: xs, v :: vs, K, hlet, hl, hv, hk => by
    obtain ⟨v', e, hx⟩ := hv 0 (by simp)
    simp at e
    subst e
    have hlow : noLow1 pass x = false ∨ noLow pass xs = false → ∀ id b, Live h id → id ∉ pass → L.b id = some b → S1 b := fun ho => hlet (by
      unfold noLow
      rcases ho with h1 | h1
      · simp [h1]
      · split <;> first | exact h1 | rfl)
    obtain ⟨y, hk1, hy⟩ := lowK_spec hr hS (fun h1 => hlow (.inl h1)) hx hk
    obtain ⟨ys, hk2, h1, h2⟩ := lowsK_spec hr hS (xs := xs) (vs := vs) (fun h1 => hlow (.inr h1)) (by simpa using hl) (fun i hi => by simpa using hv (i + 1) (by simp; omega)) hk1
    refine ⟨y :: ys, hk2, by simp [h1], fun i hi => ?_⟩
    cases i with
    | zero => exact ⟨v, rfl, hy⟩
    | succ i => simpa using h2 i (by simpa using hi)

theorem handK_spec (hr : HRel C h L w) {pass : List Nat} {S1 : Nat → Prop} (hS : ∀ b, SS C w h L b → S1 b) {B : Option Nat} {sz : Nat} {o : AO} {K : AO → Prop} (ho : objIs w (SS C w h L) L B sz o) (hk : handK h pass o K) :
    o.live ∧ ∃ p, K p ∧ objIs w S1 (L.sel pass) B sz p := by
  have mono : ∀ (y : AV) (v : Value), y.free → den w (SS C w h L) L y v → den w S1 (L.sel pass) y v := fun y v hf hy => den_free _ y v hf (den_mono (fun _ _ => rfl) hS (.refl _) y v hy)
  cases o with
  | dead => exact hk.elim
  | mapB _ _ _ => exact hk.elim
  | miter _ _ _ => exact hk.elim
  | siter s p => exact hk.elim
  | ints k xs => exact ⟨trivial, _, hk, ho⟩
  | row n f => exact ⟨trivial, _, hk.2, cellsAre_mono (fun _ _ => rfl) (fun i u hi hu => mono _ _ (hk.1 i hi) hu) ho⟩
  | map l =>
    obtain ⟨b, es, clock, e, hb, hst, hn, hc⟩ := ho
    exact ⟨trivial, _, hk.2, b, es, clock, e, hb, hst, hn, fun i hi => let ⟨x, h1, h2, h3⟩ := hc i hi; ⟨x, h1, h2, mono _ _ (hk.1 i hi) h3⟩⟩
  | lst l =>
    refine ⟨trivial, ?_⟩
    change (match noLow pass l with | true => lowsK h pass l fun m => K (.lst m) | false => False) at hk
    split at hk
    · rename_i hno
      rcases ho with ⟨h1, h2⟩ | ⟨b, c, el, lo, hi, e, h1, h2, h3, h4, h5⟩
      · have : l = [] := List.length_eq_zero_iff.1 h1
        subst this
        exact ⟨.lst [], hk, Or.inl ⟨rfl, h2⟩⟩
      · obtain ⟨us, g1, g2⟩ := choose_cells h5
        obtain ⟨m, hk2, g3, g4⟩ := lowsK_spec hr hS (xs := l) (vs := us) (fun h1 => by rw [hno] at h1; cases h1) g1 (fun i hi => let ⟨u, _, q2, q3⟩ := g2 i hi; ⟨u, q2, q3⟩) hk
        refine ⟨.lst m, hk2, Or.inr ⟨b, c, el, lo, hi, e, h1, h2, by omega, h4, fun i hi' => ?_⟩⟩
        obtain ⟨u, q1, q2, _⟩ := g2 i (by omega)
        obtain ⟨u', q3, q4⟩ := g4 i (by omega)
        rw [q2] at q3
        cases q3
        exact ⟨u, q1, q4⟩
    · exact hk.elim

theorem objsK_spec (hr : HRel C h L w) {pass : List Nat} {S1 : Nat → Prop} (hS : ∀ b, SS C w h L b → S1 b) : ∀ {ids : List Nat} {K : List AO → Prop}, objsK h pass ids K →
    ∃ hp, K hp ∧ hp.length = ids.length ∧ ∀ (i id : Nat), ids[i]? = some id → Live h id ∧ ∃ p, hp[i]? = some p ∧ objIs w S1 (L.sel pass) (L.b id) (L.sz id) p
  | [], K, hk => ⟨[], hk, rfl, by simp⟩
  | id :: ids, K, hk => by
    obtain ⟨o, ho, hk⟩ := getO_iff.1 hk
    obtain ⟨hl, p, hk1, hp⟩ := handK_spec hr hS (hr.objs id o ho) hk
    obtain ⟨hp', hk2, h1, h2⟩ := objsK_spec hr hS hk1
    refine ⟨p :: hp', hk2, by simp [h1], fun i j hj => ?_⟩
    cases i with
    | zero => simp at hj; subst hj; exact ⟨⟨o, ho, hl⟩, p, rfl, hp⟩
    | succ i => simpa using h2 i j (by simpa using hj)

theorem nodupB_spec : ∀ {l : List Nat}, nodupB l = true → l.Nodup
  | [], _ => .nil
  | i :: l, h => by
    unfold nodupB at h
    split at h
    · rename_i e
      exact List.nodup_cons.2 ⟨idxOf_none e, nodupB_spec h⟩
    · cases h

theorem getN_iff {K : Nat → Prop} : ∀ {l : List Nat} {i : Nat}, getN l i K ↔ ∃ j, l[i]? = some j ∧ K j
  | [], _ => by simp [getN]
  | j :: _, 0 => by simp [getN]
  | _ :: l, n + 1 => by simp [getN, getN_iff (l := l)]
theorem renVK_spec {l : List Nat} {x : AV} {K : AV → Prop} (hk : renVK l x K) : K (x.ren (rn l)) := by
  unfold renVK at hk
  split at hk
  · obtain ⟨j, h1, h2⟩ := getN_iff.1 hk
    simpa [AV.ren, rn, List.getD_eq_getElem?_getD, h1] using h2
  · obtain ⟨j, h1, h2⟩ := getN_iff.1 hk
    simpa [AV.ren, rn, List.getD_eq_getElem?_getD, h1] using h2
  · exact hk
  · exact hk
  · exact hk
  · obtain ⟨j, h1, h2⟩ := getN_iff.1 hk
    simpa [AV.ren, rn, List.getD_eq_getElem?_getD, h1] using h2
  · obtain ⟨j, h1, h2⟩ := getN_iff.1 hk
    simpa [AV.ren, rn, List.getD_eq_getElem?_getD, h1] using h2
  · obtain ⟨j, h1, h2⟩ := getN_iff.1 hk
    simpa [AV.ren, rn, List.getD_eq_getElem?_getD, h1] using h2
  · rename_i h1 h2 h3 h4 h5 h6 h7 h8
    cases x <;> first
      | exact hk
      | exact absurd rfl (h7 _)
      | exact absurd rfl (h8 _ _)
      | exact absurd rfl (h1 _ _ _ _)
      | exact absurd rfl (h2 _ _)
      | exact absurd rfl (h3 _ _)
      | exact absurd rfl (h4 _ _)
      | exact absurd rfl (h5 _ _ _)
      | exact absurd rfl (h6 _)
theorem renOK_spec {l : List Nat} {o : AO} {K : AO → Prop} (hk : renOK l o K) : K (o.ren (rn l)) := by
  cases o <;> exact hk
theorem renOsK_spec {l : List Nat} : ∀ {os : List AO} {K : List AO → Prop}, renOsK l os K → K (os.map (AO.ren (rn l)))
  | [], _, hk => hk
  | o :: os, K, hk => renOsK_spec (os := os) (K := fun y => K (o.ren (rn l) :: y)) (renOK_spec (K := fun x => renOsK l os fun y => K (x :: y)) hk)
theorem appK_spec : ∀ {l r : List AO} {K : List AO → Prop}, appK l r K → K (l ++ r)
  | [], _, _, hk => hk
  | o :: l, r, K, hk => appK_spec (l := l) hk
theorem dropK_spec : ∀ {l : List Nat} {r : List AO} {K : List AO → Prop}, dropK l r K → l.length ≤ r.length ∧ K (r.drop l.length)
  | [], r, K, hk => ⟨Nat.zero_le _, hk⟩
  | _ :: _, [], _, hk => hk.elim
  | _ :: l, _ :: r, K, hk => by
    obtain ⟨h1, h2⟩ := dropK_spec (l := l) hk
    exact ⟨by simpa using h1, h2⟩
theorem newsK_spec : ∀ {h r : List AO} {l : List Nat} {m : Nat} {K : List Nat → Prop}, (∀ (i n : Nat), l[i]? = some n → n = m + i) → newsK h r l K →
    ∃ news, K news ∧ news.length = r.length ∧ ∀ i, i < r.length → news[i]? = some (m + h.length + i)
  | [], [], _, _, _, _, hk => ⟨[], by unfold newsK at hk; exact hk, rfl, by simp⟩
  | [], _ :: r, [], _, _, _, hk => by simp [newsK] at hk
  | [], _ :: r, n :: l, m, K, hl, hk => by
    have hn := hl 0 n rfl
    simp only [newsK] at hk
    obtain ⟨news, h1, h2, h3⟩ := newsK_spec (h := []) (r := r) (l := l) (m := m + 1) (fun i n hi => by have := hl (i + 1) n (by simpa using hi); omega) hk
    refine ⟨n :: news, h1, by simp [h2], fun i hi => ?_⟩
    cases i with
    | zero => simp [hn]
    | succ i =>
      have := h3 i (by simpa using hi)
      simp at this ⊢
      rw [this]
      congr 1
      omega
  | _ :: h, r, [], _, _, _, hk => by cases r <;> simp [newsK] at hk
  | _ :: h, r, n :: l, m, K, hl, hk => by
    have hk' : newsK h r l K := by cases r <;> simpa only [newsK] using hk
    obtain ⟨news, h1, h2, h3⟩ := newsK_spec (h := h) (r := r) (l := l) (m := m + 1) (fun i n hi => by have := hl (i + 1) n (by simpa using hi); omega) hk'
    refine ⟨news, h1, h2, fun i hi => ?_⟩
    rw [h3 i hi]
    simp
    omega

theorem backK_spec : ∀ {l : List Nat} {r h : List AO} {K : List AO → Prop}, l.Nodup → backK l r h K →
    ∃ h2, K h2 ∧ h2.length = h.length + (r.length - l.length) ∧ l.length ≤ r.length ∧ (∀ (p i : Nat), l[p]? = some i → i < h.length ∧ h2[i]? = r[p]?) ∧ (∀ i, i < h.length → i ∉ l → h2[i]? = h[i]?) ∧
      ∀ j, j < r.length - l.length → h2[h.length + j]? = r[l.length + j]?
  | [], r, h, K, _, hk => ⟨h ++ r, appK_spec hk, by simp, Nat.zero_le _, by simp, fun i hi _ => List.getElem?_append_left hi, fun j _ => by rw [List.getElem?_append_right (by omega)]; simp⟩
  | _ :: _, [], _, _, _, hk => hk.elim
  | i :: l, o :: r, h, K, hn, hk => by
    obtain ⟨hi, hk1⟩ := setO_iff.1 hk
    obtain ⟨hnot, hn'⟩ := List.nodup_cons.1 hn
    obtain ⟨h2, h3, h4, h5, h6, h7, h8⟩ := backK_spec hn' hk1
    simp at h4
    refine ⟨h2, h3, by rw [h4]; simp, by simpa using h5, fun p j hj => ?_, fun j hj hjn => ?_, fun j hj => ?_⟩
    · cases p with
      | zero =>
        simp at hj; subst hj
        refine ⟨hi, ?_⟩
        rw [h7 i (by simpa using hi) hnot]
        simp [hi]
      | succ p =>
        have := h6 p j (by simpa using hj)
        exact ⟨by simpa using this.1, by simpa using this.2⟩
    · simp at hjn
      rw [h7 j (by simpa using hj) hjn.2, List.getElem?_set_ne (fun e => hjn.1 e.symm)]
    · have := h8 j (by simpa using hj)
      simp only [List.length_set] at this
      rw [this]
      simp only [List.length_cons]
      rw [show l.length + 1 + j = (l.length + j) + 1 by omega, List.getElem?_cons_succ]

theorem ao_live_ren {g : Nat → Nat} {o : AO} : (o.ren g).live ↔ o.live := by cases o <;> exact Iff.rfl

theorem objIs_ren {w : World} {S S' : Nat → Prop} {M N : Loc} {g : Nat → Nat} (hg : ∀ p, p < M.n → g p < N.n ∧ N.b (g p) = M.b p ∧ N.sz (g p) = M.sz p) {B : Option Nat} {sz : Nat} {o : AO}
    (hS : (∀ b, S b → S' b) ∨ o.flat) (h : objIs w S M B sz o) : objIs w S' N B sz (o.ren g) := by
  have go : ∀ (x : AV) (v : Value), ((∀ b, S b → S' b) ∨ x.flat) → den w S M x v → den w S' N (x.ren g) v := fun x v hx hd => by
    refine den_ren hg x v ?_
    rcases hx with hx | hx
    · exact den_mono (fun _ _ => rfl) hx (.refl _) x v hd
    · exact den_flat S' x v hx hd
  cases o with
  | dead => trivial
  | mapB l bs c =>
    obtain ⟨b, es, e, hb, hst, hn, hc⟩ := h
    refine ⟨b, es, e, hb, hst, by rw [List.length_map]; exact hn, fun i hi => ?_⟩
    rw [List.length_map] at hi
    obtain ⟨x, h1, h2, h4, h3⟩ := hc i hi
    have : (l.map fun p => (p.1, p.2.ren g)).getD i mz = ((l.getD i mz).1, (l.getD i mz).2.ren g) := by
      simp [List.getD_eq_getElem?_getD, hi]
    rw [this]
    exact ⟨x, h1, h2, h4, go _ _ (hS.imp id fun hf => hf i hi) h3⟩
  | miter id s q =>
    obtain ⟨b, mb, e, hid, hm, hb⟩ := h
    obtain ⟨g1, g2, _⟩ := hg id hid
    exact ⟨b, mb, e, g1, g2.trans hm, hb⟩
  | siter _ _ => exact h
  | ints k xs => exact h
  | row n f => exact cellsAre_mono (fun _ _ => rfl) (fun i u hi hu => go _ _ (hS.imp id fun hf => hf i hi) hu) h
  | lst l =>
    show cellsAre _ _ _ _ _
    rw [List.length_map]
    refine cellsAre_mono (fun _ _ => rfl) (fun i u hi hu => ?_) h
    have : (l.map (AV.ren g)).getD i .top = (l.getD i .top).ren g := by
      simp [List.getD_eq_getElem?_getD, hi]
    rw [this]
    exact go _ _ (hS.imp id fun hf => hf i hi) hu
  | map l =>
    obtain ⟨b, es, clock, e, hb, hst, hn, hc⟩ := h
    refine ⟨b, es, clock, e, hb, hst, by rw [List.length_map]; exact hn, fun i hi => ?_⟩
    rw [List.length_map] at hi
    obtain ⟨x, h1, h2, h3⟩ := hc i hi
    have : (l.map fun p => (p.1, p.2.ren g)).getD i mz = ((l.getD i mz).1, (l.getD i mz).2.ren g) := by
      simp [List.getD_eq_getElem?_getD, hi]
    rw [this]
    exact ⟨x, h1, h2, go _ _ (hS.imp id fun hf => hf i hi) h3⟩

theorem nodup_inj {l : List Nat} (hl : l.Nodup) {i j x : Nat} (hi : l[i]? = some x) (hj : l[j]? = some x) : i = j := by
  obtain ⟨h1, e1⟩ := List.getElem?_eq_some_iff.1 hi
  obtain ⟨h2, e2⟩ := List.getElem?_eq_some_iff.1 hj
  rcases Nat.lt_trichotomy i j with h | h | h
  · exact absurd (e1.trans e2.symm) (List.pairwise_iff_getElem.1 hl i j h1 h2 h)
  · exact h
  · exact absurd (e2.trans e1.symm) (List.pairwise_iff_getElem.1 hl j i h2 h1 h)

theorem callB_spec (hr : HRel C h L w) {f : FuncId} {pass : List Nat} {R : AV → List AO → Prop} {args : List AV} {vs : Array Value} {K : AV → List AO → Prop} (hn : vs.size = args.length)
    (hv : ∀ (i : Nat) (x : AV), args[i]? = some x → ∃ v, vs[i]? = some v ∧ den w (SS C w h L) L x v) (hk1 : callB P f pass R args h K) :
    Entered P f ∧ Calls P f vs w fun e w' => ∃ v x h' L', e = .returned v ∧ Step C h L w h' L' w' ∧ den w' (SS C w' h' L') L' x v ∧ K x h' := by
  obtain ⟨hnd, hk2⟩ := sure_iff.1 hk1
  have hnodup := nodupB_spec hnd
  clear hk1
  -- what the callee may read
  let S0c : Nat → Prop := fun b => SS C w h L b ∨ (noLow pass args = false ∧ ∃ i, Live h i ∧ i ∉ pass ∧ L.b i = some b)
  have hSS : ∀ b, SS C w h L b → S0c b := fun b hb => .inl hb
  obtain ⟨hp, hk3, hpl, hpo⟩ := objsK_spec (S1 := S0c) hr hSS hk2
  have hvs : ∀ i, i < args.length → ∃ v, vs.toList[i]? = some v ∧ den w (SS C w h L) L (args.getD i .top) v := fun i hi => by
    obtain ⟨v, h1, h2⟩ := hv i args[i] (by simp [hi])
    exact ⟨v, by simpa using h1, by simpa [List.getD_eq_getElem?_getD, hi] using h2⟩
  obtain ⟨as, ⟨⟨hent, hcall⟩, hk4⟩, hal, has⟩ := lowsK_spec (S1 := S0c) hr hSS (fun hlow id b hl hnp e => .inr ⟨hlow, id, hl, hnp, e⟩) (by simpa using hn) hvs hk3
  have hplen : hp.length = pass.length := hpl
  have hpget : ∀ i, i < pass.length → ∃ id, pass[i]? = some id ∧ Live h id ∧ ∃ p, hp[i]? = some p ∧ objIs w S0c (L.sel pass) (L.b id) (L.sz id) p := fun i hi => ⟨pass[i], by simp [hi], hpo i pass[i] (by simp [hi])⟩
  have selinj : ∀ i j b, i < pass.length → j < pass.length → (L.sel pass).b i = some b → (L.sel pass).b j = some b → i = j := fun i j b hi hj ei ej => by
    obtain ⟨id, e1, l1, _⟩ := hpget i hi
    obtain ⟨jd, e2, l2, _⟩ := hpget j hj
    rw [sel_b e1] at ei
    rw [sel_b e2] at ej
    have := hr.inj id jd b l1 l2 ei ej
    subst this
    exact nodup_inj hnodup e1 e2
  -- no block that may be read is handed over
  have hS0c : ∀ b, S0c b → b < w.heap.size ∧ ∀ i, i < hp.length → (L.sel pass).b i ≠ some b := fun b hb => by
    have hown : ∀ i, i < hp.length → (L.sel pass).b i = some b → ∃ id, id ∈ pass ∧ Live h id ∧ L.b id = some b := fun i hi e => by
      obtain ⟨id, e1, l1, _⟩ := hpget i (by omega)
      exact ⟨id, List.mem_of_getElem? e1, l1, by rw [← sel_b e1]; exact e⟩
    rcases hb with hb | ⟨_, i, hi, hni, e⟩
    · exact ⟨hb.1, fun j hj ej => by
        obtain ⟨id, _, l1, e1⟩ := hown j hj ej
        exact hb.2.2 id l1 e1⟩
    · exact ⟨(hr.mine i b hi e).1, fun j hj ej => by
        obtain ⟨id, m1, l1, e1⟩ := hown j hj ej
        have := hr.inj i id b hi l1 e e1
        subst this
        exact hni m1⟩
  have hctx : HRel ⟨w, S0c, hp.length, L.sel pass⟩ hp (L.sel pass) w := by
    have hlt : ∀ i, Live hp i → i < pass.length := fun i hi => by rw [← hplen]; exact live_lt hi
    refine ⟨⟨rfl, rfl, rfl, Nat.le_refl _, fun _ _ _ => rfl, fun b hb => ⟨(hS0c b hb).1, fun ⟨i, hi, e⟩ => (hS0c b hb).2 i hi e⟩, hr.globs.mono (fun _ _ => rfl) hSS⟩, by simp [Loc.sel, hplen], Nat.le_refl _, fun _ _ => ⟨rfl, rfl⟩, fun i j b hi hj ei ej => selinj i j b (hlt i hi) (hlt j hj) ei ej, fun i b hi e => ?_, fun i o ho => ?_⟩
    · obtain ⟨id, e1, l1, _⟩ := hpget i (hlt i hi)
      have e2 : L.b id = some b := by rw [← sel_b e1]; exact e
      exact ⟨(hr.mine id b l1 e2).1, .inr ⟨i, by rw [hplen]; exact hlt i hi, e⟩⟩
    · have hi : i < pass.length := by rw [← hplen]; exact (List.getElem?_eq_some_iff.1 ho).1
      obtain ⟨id, e1, l1, p, e2, e3⟩ := hpget i hi
      rw [ho] at e2
      cases e2
      rw [sel_b e1, sel_sz e1]
      exact objIs_mono (fun _ _ => rfl) (fun b hb => ⟨(hS0c b hb).1, .inl hb, fun j hj => (hS0c b hb).2 j (live_lt hj)⟩) (.refl _) (fun _ _ _ => rfl) e3
  refine ⟨hent, ?_⟩
  refine (hcall S0c (L.sel pass) w vs hctx hS0c (by rw [hal]; exact hn) (fun i x hx => ?_)).mono fun e w' he => ?_
  · have hi : i < args.length := by rw [← hal]; exact (List.getElem?_eq_some_iff.1 hx).1
    obtain ⟨v, h1, h2⟩ := has i hi
    exact ⟨v, by simpa using h1, by simpa [List.getD_eq_getElem?_getD, hx] using h2⟩
  obtain ⟨v, r, h', M, rfl, hR, hM, hden⟩ := he
  obtain ⟨hflat, hk5⟩ := hk4 r h' hR
  obtain ⟨hdl, hk6⟩ := dropK_spec hk5
  obtain ⟨news, hk7, hnl, hng⟩ := newsK_spec (m := 0) (fun i n hi => by simpa using lits_get hi) hk6
  have hk8 := renOsK_spec hk7
  have hk9 := renVK_spec hk8
  obtain ⟨h2, hk10, b1, b2, b3, b4, b5⟩ := backK_spec hnodup hk9
  simp only [List.length_drop, Nat.zero_add, List.length_map] at hnl hng b1 b2 b5
  have hLn := hr.n
  have hMn := hM.n
  -- the places behind the call
  let N : Loc := ⟨h.length + (h'.length - pass.length), fun i => if i < h.length then L.b i else M.b (pass.length + (i - h.length)), fun i => if i < h.length then L.sz i else M.sz (pass.length + (i - h.length))⟩
  have hNle : L.le N := ⟨by rw [hLn]; exact Nat.le_add_right _ _, fun i hi => if_pos (by omega), fun i hi => if_pos (by omega)⟩
  -- a place of the callee's, as the caller sees it
  have hgp : ∀ p, p < M.n → (p < pass.length ∧ ∃ id, pass[p]? = some id ∧ rn (pass ++ news) p = id ∧ id < h.length ∧ N.b id = M.b p ∧ N.sz id = M.sz p) ∨
      (pass.length ≤ p ∧ rn (pass ++ news) p = h.length + (p - pass.length) ∧ N.b (h.length + (p - pass.length)) = M.b p ∧ N.sz (h.length + (p - pass.length)) = M.sz p) := fun p hp' => by
    rw [hMn] at hp'
    rcases Nat.lt_or_ge p pass.length with hlt | hge
    · obtain ⟨id, e1, l1, _⟩ := hpget p hlt
      have hid := live_lt l1
      refine .inl ⟨hlt, id, e1, by simp [rn, List.getD_eq_getElem?_getD, List.getElem?_append_left hlt, e1], hid, ?_, ?_⟩
      · rw [(hM.pre p (by simpa [hplen] using hlt)).1]
        simp only [N, hid, if_true]
        exact (sel_b e1).symm
      · rw [(hM.pre p (by simpa [hplen] using hlt)).2]
        simp only [N, hid, if_true]
        exact (sel_sz e1).symm
    · refine .inr ⟨hge, ?_, ?_, ?_⟩
      · have := hng (p - pass.length) (by omega)
        simp [rn, List.getD_eq_getElem?_getD, List.getElem?_append_right hge, this]
      · simp only [N]
        rw [if_neg (by omega)]
        congr 1
        omega
      · simp only [N]
        rw [if_neg (by omega)]
        congr 1
        omega
  have hg : ∀ p, p < M.n → rn (pass ++ news) p < N.n ∧ N.b (rn (pass ++ news) p) = M.b p ∧ N.sz (rn (pass ++ news) p) = M.sz p := fun p hp' => by
    rcases hgp p hp' with ⟨_, id, _, e, hid, e1, e2⟩ | ⟨hge, e, e1, e2⟩
    · rw [e]; exact ⟨by show id < h.length + _; omega, e1, e2⟩
    · rw [e]; exact ⟨by show _ < h.length + (h'.length - pass.length); omega, e1, e2⟩
  -- whence a live place comes
  have horg : ∀ i, Live h2 i → (∃ p, Live h' p ∧ N.b i = M.b p ∧ rn (pass ++ news) p = i) ∨ (Live h i ∧ i ∉ pass ∧ N.b i = L.b i) := fun i hi => by
    obtain ⟨o, ho, hlo⟩ := hi
    rcases Nat.lt_or_ge i h.length with hlt | hge
    · by_cases hm : i ∈ pass
      · obtain ⟨p, hpp, e⟩ := List.getElem_of_mem hm
        have e1 : pass[p]? = some i := by rw [List.getElem?_eq_getElem hpp, e]
        have := (b3 p i e1).2
        rw [ho, List.getElem?_map] at this
        obtain ⟨o', e2, e3⟩ := Option.map_eq_some_iff.1 this.symm
        refine .inl ⟨p, ⟨o', e2, by rw [← e3] at hlo; exact ao_live_ren.1 hlo⟩, ?_, by simp [rn, List.getD_eq_getElem?_getD, List.getElem?_append_left hpp, e1]⟩
        rw [(hM.pre p (by simpa [hplen] using hpp)).1]
        simp only [N, hlt, if_true]
        exact (sel_b e1).symm
      · refine .inr ⟨⟨o, by rw [← b4 i hlt hm]; exact ho, hlo⟩, hm, by simp only [N, hlt, if_true]⟩
    · have hi2 := (List.getElem?_eq_some_iff.1 ho).1
      have hj : i - h.length < h'.length - pass.length := by omega
      have := b5 (i - h.length) hj
      rw [show h.length + (i - h.length) = i by omega, ho, List.getElem?_map] at this
      obtain ⟨o', e2, e3⟩ := Option.map_eq_some_iff.1 this.symm
      refine .inl ⟨pass.length + (i - h.length), ⟨o', e2, by rw [← e3] at hlo; exact ao_live_ren.1 hlo⟩, ?_, ?_⟩
      · simp only [N]
        rw [if_neg (by omega)]
      · have h3 := hng (i - h.length) hj
        have h4 : (pass ++ news)[pass.length + (i - h.length)]? = some (h.length + (i - h.length)) := by
          rw [List.getElem?_append_right (by omega)]
          simpa using h3
        rw [rn, List.getD_eq_getElem?_getD, h4, Option.getD_some]
        omega
  have hO0 : ∀ k, (Ctx.mk w S0c hp.length (L.sel pass)).O0 k → ∃ id, id ∈ pass ∧ Live h id ∧ L.b id = some k := fun k ⟨i, hi, e⟩ => by
    obtain ⟨id, e1, l1, _⟩ := hpget i (by simpa [hplen] using hi)
    exact ⟨id, List.mem_of_getElem? e1, l1, by rw [← sel_b e1]; exact e⟩
  -- what may be read behind the call
  have hread : noLow pass args = true → ∀ b, SS ⟨w, S0c, hp.length, L.sel pass⟩ w' h' M b → SS C w' h2 N b := fun hno b ⟨c1, c2, c3⟩ => by
    have hcb : SS C w h L b ∨ w.heap.size ≤ b ∨ ∃ id, id ∈ pass ∧ Live h id ∧ L.b id = some b := by
      rcases c2 with (c2 | ⟨c2, _⟩) | c2 | c2
      · exact .inl c2
      · rw [hno] at c2; cases c2
      · exact .inr (.inl c2)
      · exact .inr (.inr (hO0 b c2))
    refine ⟨c1, ?_, fun i hi e => ?_⟩
    · rcases hcb with c4 | c4 | ⟨id, _, l1, e1⟩
      · exact c4.2.1
      · exact .inr (.inl (Nat.le_trans hr.fr.size c4))
      · exact .inr (hr.mine id b l1 e1).2
    · rcases horg i hi with ⟨p, hp', e1, _⟩ | ⟨l1, ni, e1⟩
      · exact c3 p hp' (by rw [← e1]; exact e)
      · rw [e1] at e
        rcases hcb with c4 | c4 | ⟨id, m1, l2, e2⟩
        · exact c4.2.2 i l1 e
        · have := (hr.mine i b l1 e).1
          omega
        · have := hr.inj i id b l1 l2 e e2
          subst this
          exact ni m1
  have hst : Step C h L w h2 N w' := by
    refine step_of2 hr ⟨hM.fr.os, hM.fr.tape, hM.fr.output⟩ hM.fr.size hNle (by simp only [N]; omega) (by omega) (fun k hk' => ?_) (fun i b hi e => ?_) (fun i j b hi hj ei ej => ?_) (fun hss hke i o ho => ?_)
    · by_cases ho : (Ctx.mk w S0c hp.length (L.sel pass)).O0 k
      · obtain ⟨id, _, l1, e⟩ := hO0 k ho
        exact .inr ⟨id, l1, e⟩
      · exact .inl (hM.fr.block k hk' ho)
    · rcases horg i hi with ⟨p, hp', e1, _⟩ | ⟨l1, _, e1⟩
      · obtain ⟨q1, q2⟩ := hM.mine p b hp' (by rw [← e1]; exact e)
        refine ⟨q1, ?_⟩
        rcases q2 with q2 | q2
        · exact .inl q2
        · obtain ⟨id, _, l1, e2⟩ := hO0 b q2
          exact .inr ⟨id, l1, e2⟩
      · rw [e1] at e
        exact ⟨Nat.lt_of_lt_of_le (hr.mine i b l1 e).1 hM.fr.size, .inr ⟨i, l1, e⟩⟩
    · have cross : ∀ p i b, Live h' p → M.b p = some b → Live h i → i ∉ pass → L.b i = some b → False := fun p i b hp' e1 l1 hni e2 => by
        rcases (hM.mine p b hp' e1).2 with q | q
        · have := (hr.mine i b l1 e2).1
          have : w.heap.size ≤ b := q
          omega
        · obtain ⟨id, m1, l2, e3⟩ := hO0 b q
          have := hr.inj i id b l1 l2 e2 e3
          subst this
          exact hni m1
      rcases horg i hi with ⟨p, hp', e1, g1⟩ | ⟨l1, n1, e1⟩
      · rcases horg j hj with ⟨q, hq', e2, g2⟩ | ⟨l2, n2, e2⟩
        · have := hM.inj p q b hp' hq' (by rw [← e1]; exact ei) (by rw [← e2]; exact ej)
          subst this
          exact g1.symm.trans g2
        · exact (cross p j b hp' (by rw [← e1]; exact ei) l2 n2 (by rw [← e2]; exact ej)).elim
      · rcases horg j hj with ⟨q, hq', e2, g2⟩ | ⟨l2, n2, e2⟩
        · exact (cross q i b hq' (by rw [← e2]; exact ej) l1 n1 (by rw [← e1]; exact ei)).elim
        · exact hr.inj i j b l1 l2 (by rw [← e1]; exact ei) (by rw [← e2]; exact ej)
    · -- what the blocks hold
      have fromCallee : ∀ p o', h'[p]? = some o' → o = o'.ren (rn (pass ++ news)) → N.b i = M.b p → N.sz i = M.sz p → objIs w' (SS C w' h2 N) N (N.b i) (N.sz i) o := fun p o' e1 e2 e3 e4 => by
        rw [e2, e3, e4]
        refine objIs_ren hg ?_ (hM.objs p o' e1)
        rcases hflat with hf | ⟨_, hf⟩
        · exact .inl (hread hf)
        · exact .inr (hf o' (List.mem_of_getElem? e1))
      rcases Nat.lt_or_ge i h.length with hlt | hge
      · by_cases hm : i ∈ pass
        · obtain ⟨p, hpp, e⟩ := List.getElem_of_mem hm
          have e1 : pass[p]? = some i := by rw [List.getElem?_eq_getElem hpp, e]
          have := (b3 p i e1).2
          rw [ho, List.getElem?_map] at this
          obtain ⟨o', e2, e3⟩ := Option.map_eq_some_iff.1 this.symm
          have e4 := (hM.pre p (by simpa [hplen] using hpp))
          refine fromCallee p o' e2 e3.symm ?_ ?_
          · rw [e4.1]; simp only [N, hlt, if_true]; exact (sel_b e1).symm
          · rw [e4.2]; simp only [N, hlt, if_true]; exact (sel_sz e1).symm
        · have ho' : h[i]? = some o := by rw [← b4 i hlt hm]; exact ho
          have : objIs w' (SS C w' h2 N) N (L.b i) (L.sz i) o := by
            refine objIs_mono hke hss hNle (fun b hlo e => ?_) (hr.objs i o ho')
            refine hM.fr.block b (hr.mine i b ⟨o, ho', hlo⟩ e).1 fun hO => ?_
            obtain ⟨id, m1, l2, e3⟩ := hO0 b hO
            have := hr.inj i id b ⟨o, ho', hlo⟩ l2 e e3
            subst this
            exact hm m1
          simpa only [N, hlt, if_true] using this
      · have hi2 := (List.getElem?_eq_some_iff.1 ho).1
        have hj : i - h.length < h'.length - pass.length := by omega
        have := b5 (i - h.length) hj
        rw [show h.length + (i - h.length) = i by omega, ho, List.getElem?_map] at this
        obtain ⟨o', e2, e3⟩ := Option.map_eq_some_iff.1 this.symm
        refine fromCallee (pass.length + (i - h.length)) o' e2 e3.symm ?_ ?_
        · simp only [N]; rw [if_neg (by omega)]
        · simp only [N]; rw [if_neg (by omega)]
  refine ⟨v, _, h2, N, rfl, hst, ?_, hk10⟩
  refine den_ren hg r v ?_
  rcases hflat with hf | ⟨hf, _⟩
  · exact den_mono (fun _ _ => rfl) (hread hf) (.refl _) r v hden
  · exact den_flat _ r v hf hden

theorem freeB_spec : ∀ {n : Nat} {a : AV}, freeB n a = true → a.free
  | 0, _, h => by simp [freeB] at h
  | n + 1, a, h => by
    cases a with
    | own _ _ _ _ => simp [freeB] at h
    | ptr _ _ => simp [freeB] at h
    | mp _ => simp [freeB] at h
    | bx _ => simp [freeB] at h
    | bm _ _ => simp [freeB] at h
    | clo fn m f =>
      intro i hi
      have : freeB n (f i) = true := List.all_eq_true.1 h i (List.mem_range.2 hi)
      exact freeB_spec this
    | agg m f =>
      intro i hi
      have : freeB n (f i) = true := List.all_eq_true.1 h i (List.mem_range.2 hi)
      exact freeB_spec this
    | tup m f =>
      intro i hi
      have : freeB n (f i) = true := List.all_eq_true.1 h i (List.mem_range.2 hi)
      exact freeB_spec this
    | _ => trivial
theorem frees_spec {l : List AV} {k : Nat} (h : l.all (freeB k) = true) (i : Nat) (hi : i < l.length) : (l.getD i .top).free := by
  rw [List.getD_eq_getElem?_getD, List.getElem?_eq_getElem hi]
  exact freeB_spec (List.all_eq_true.1 h _ (List.getElem_mem _))

theorem giveV_some {g : List Nat} : ∀ (n : Nat) (a : AV) (K : AV → Prop), giveV h g n a K → ∃ y, K y := by
  intro n
  induction n with
  | zero => intro a K hk; exact ⟨a, hk⟩
  | succ n ihn =>
    have many : ∀ {l : List AV} {K : List AV → Prop}, givesK (giveV h g n) l K → ∃ r, K r := by
      intro l
      induction l with
      | nil => intro K hk; exact ⟨[], hk⟩
      | cons a l ih2 => intro K hk; obtain ⟨y, h1⟩ := ihn a _ hk; obtain ⟨r, h2⟩ := ih2 h1; exact ⟨_, h2⟩
    intro a K hk
    unfold giveV at hk
    split at hk
    · split at hk
      · exact ⟨_, hk⟩
      · obtain ⟨o, _, hk⟩ := getO_iff.1 hk
        cases o with
        | dead => exact hk.elim
        | map _ => exact hk.elim
        | mapB _ _ _ => exact hk.elim
        | miter _ _ _ => exact hk.elim
        | siter _ _ => exact hk.elim
        | ints _ _ => exact ⟨_, (sure_iff.1 hk).2.2⟩
        | row _ _ =>
          dsimp only at hk
          split at hk
          · exact ⟨_, hk.2.2⟩
          · obtain ⟨r, h1⟩ := many hk; exact ⟨_, (sure_iff.1 h1).2.2⟩
        | lst _ => obtain ⟨r, h1⟩ := many hk; exact ⟨_, (sure_iff.1 h1).2.2⟩
    · split at hk
      · exact ⟨_, hk⟩
      · obtain ⟨o, _, hk⟩ := getO_iff.1 hk
        cases o with
        | dead => exact hk.elim
        | map _ => exact hk.elim
        | mapB _ _ _ => exact hk.elim
        | miter _ _ _ => exact hk.elim
        | siter _ _ => exact hk.elim
        | ints _ _ => exact ⟨_, hk⟩
        | row _ _ => exact ⟨_, hk.2⟩
        | lst _ => obtain ⟨r, h1⟩ := many hk; exact ⟨_, (sure_iff.1 h1).2⟩
    · obtain ⟨r, h1⟩ := many hk; exact ⟨_, h1⟩
    · obtain ⟨r, h1⟩ := many hk; exact ⟨_, h1⟩
    · exact ⟨_, hk⟩
theorem givesK_some {g : List Nat} {n : Nat} : ∀ {l : List AV} {K : List AV → Prop}, givesK (giveV h g n) l K → ∃ r, K r
  | [], K, hk => ⟨[], hk⟩
  | a :: l, K, hk => by
    obtain ⟨y, h1⟩ := giveV_some n a _ hk
    obtain ⟨r, h2⟩ := givesK_some h1
    exact ⟨_, h2⟩

theorem giveV_spec (hr : HRel C h L w) {S1 : Nat → Prop} {g : List Nat} (hS : ∀ b, SS C w h L b → S1 b) (hG : ∀ id b, Live h id → id ∈ g → L.b id = some b → S1 b) :
    ∀ (n : Nat) {a : AV} {v : Value} {K : AV → Prop}, den w (SS C w h L) L a v → giveV h g n a K → ∃ y, K y ∧ den w S1 L y v
  | 0, a, v, K, hx, hk => ⟨a, hk, den_mono (fun _ _ => rfl) hS (.refl _) a v hx⟩
  | n + 1, a, v, K, hx, hk => by
    have mono : ∀ (y : AV) (v : Value), den w (SS C w h L) L y v → den w S1 L y v := fun y v hy => den_mono (fun _ _ => rfl) hS (.refl _) y v hy
    unfold giveV at hk
    split at hk
    · rename_i id off len sz
      split at hk
      · exact ⟨_, hk, mono _ _ hx⟩
      · rename_i p hp
        have hm : id ∈ g := List.mem_of_getElem? (idxOf_some hp)
        obtain ⟨o, ho, hk⟩ := getO_iff.1 hk
        have hob := hr.objs id o ho
        obtain ⟨hid, hx⟩ := hx
        cases o with
        | dead => exact hk.elim
        | map _ => exact hk.elim
        | mapB _ _ _ => exact hk.elim
        | miter _ _ _ => exact hk.elim
        | siter _ _ => exact hk.elim
        | ints k xs =>
          obtain ⟨rfl, hle, hk2⟩ := sure_iff.1 hk
          refine ⟨_, hk2, ?_⟩
          have hl : ((xs.drop off).take len).length = len := by simp; omega
          rcases hx with ⟨rfl, A, rfl⟩ | ⟨b, cap, hb, rfl, hcap, hsz⟩
          · exact ⟨A, 0, by simp, by simp, fun i hi => by simp at hi⟩
          · refine ⟨_, cap, by rw [hl], by rw [hl]; exact hcap, fun i hi => ⟨b, off, rfl, hG id b ⟨_, ho, trivial⟩ hm hb, ?_⟩⟩
            rw [hl] at hi
            exact own_ints (len := len) (cap := cap) hr ho hb hle i hi
        | row m f =>
          dsimp only at hk
          split at hk
          · obtain ⟨hle, hf, hk2⟩ := hk
            refine ⟨_, hk2, ?_⟩
            rcases hx with ⟨rfl, A, rfl⟩ | ⟨b, cap, hb, rfl, hcap, hsz⟩
            · exact ⟨A, 0, rfl, Nat.le_refl _, fun i hi => by simp at hi⟩
            · refine ⟨_, cap, rfl, hcap, fun i hi => ?_⟩
              obtain ⟨u, h1, h2⟩ := own_cell hob hb (i := off + i) (by omega)
              exact ⟨u, ⟨b, off, rfl, hG id b ⟨_, ho, trivial⟩ hm hb, h1⟩, den_free _ _ _ (hf i hi) (mono _ _ h2)⟩
          · rcases hx with ⟨rfl, A, rfl⟩ | ⟨b, cap, hb, rfl, hcap, hsz⟩
            · obtain ⟨r, hk2⟩ := givesK_some hk
              exact ⟨_, (sure_iff.1 hk2).2.2, A, 0, rfl, Nat.le_refl _, fun i hi => by simp at hi⟩
            · obtain ⟨us, g1, g2⟩ := choose_cells (n := m) (c := fun i => w.cell? ⟨b, i, none⟩) (p := fun i u => den w (SS C w h L) L (f i) u) fun i hi => own_cell hob hb hi
              obtain ⟨r, hk2, g3, g4⟩ := givesK_spec (S' := S1) (N := L) (fun hd hk => giveV_spec hr hS hG n hd hk) (tab_den (vs := us.toArray) fun i hi => let ⟨u, _, q2, q3⟩ := g2 i hi; ⟨u, by simpa using q2, q3⟩) hk
              obtain ⟨hf, hle, hk3⟩ := sure_iff.1 hk2
              have hrl : r.length = m := by rw [g3]; simp
              refine ⟨_, hk3, _, cap, rfl, hcap, fun i hi => ?_⟩
              obtain ⟨u, q1, q2, _⟩ := g2 (off + i) (by omega)
              obtain ⟨u', q3, q4⟩ := g4 (off + i) (by simp; omega)
              have q3 : us[off + i]? = some u' := by simpa using q3
              rw [q2] at q3
              cases q3
              exact ⟨u, ⟨b, off, rfl, hG id b ⟨_, ho, trivial⟩ hm hb, q1⟩, den_free _ _ _ (frees_spec hf (off + i) (by omega)) q4⟩
        | lst l =>
          rcases hx with ⟨rfl, A, rfl⟩ | ⟨b, cap, hb, rfl, hcap, hsz⟩
          · obtain ⟨r, hk2⟩ := givesK_some hk
            exact ⟨_, (sure_iff.1 hk2).2.2, A, 0, rfl, Nat.le_refl _, fun i hi => by simp at hi⟩
          · rcases hob with ⟨h1, h2⟩ | ⟨b', c, el, lo, hi, e, h1, h2, h3, h4, h5⟩
            · obtain rfl : l = [] := List.length_eq_zero_iff.1 h1
              have hk' : sure (([] : List AV).all (freeB 5) = true) (off + len * sz ≤ ([] : List AV).length ∧ K (.ro len sz fun i => ([] : List AV).getD (off + i) .top)) := hk
              obtain ⟨hf, hle, hk2⟩ := sure_iff.1 hk'
              refine ⟨_, hk2, _, cap, rfl, hcap, fun i hi => ?_⟩
              simp at hle
              omega
            · rw [hb] at e
              obtain rfl := Option.some.inj e
              obtain ⟨us, g1, g2⟩ := choose_cells h5
              obtain ⟨m, hk2, g3, g4⟩ := givesK_spec (S' := S1) (N := L) (fun hd hk => giveV_spec hr hS hG n hd hk) (l := l) (vs := us) (fun i hi => let ⟨u, _, q2, q3⟩ := g2 i hi; ⟨u, q2, q3⟩) hk
              obtain ⟨hf, hle, hk3⟩ := sure_iff.1 hk2
              refine ⟨_, hk3, _, cap, rfl, hcap, fun i hi => ?_⟩
              obtain ⟨u, q1, q2, _⟩ := g2 (off + i) (by omega)
              obtain ⟨u', q3, q4⟩ := g4 (off + i) (by omega)
              rw [q2] at q3
              cases q3
              refine ⟨u, ⟨b, off, rfl, hG id b ⟨_, ho, trivial⟩ hm hb, ?_⟩, den_free _ _ _ (frees_spec hf (off + i) (by omega)) q4⟩
              simp [World.cell?, h1, q1]
    · rename_i id off
      split at hk
      · exact ⟨_, hk, mono _ _ hx⟩
      · rename_i p hp
        have hm : id ∈ g := List.mem_of_getElem? (idxOf_some hp)
        obtain ⟨o, ho, hk⟩ := getO_iff.1 hk
        have hob := hr.objs id o ho
        obtain ⟨hid, b, hb, rfl⟩ := hx
        cases o with
        | dead => exact hk.elim
        | map _ => exact hk.elim
        | mapB _ _ _ => exact hk.elim
        | miter _ _ _ => exact hk.elim
        | siter _ _ => exact hk.elim
        | ints k xs =>
          refine ⟨_, hk, _, rfl, fun i hi => ?_⟩
          obtain ⟨u, h1, h2⟩ := own_cell hob hb (i := off + i) (by omega)
          exact ⟨u, ⟨b, off, rfl, hG id b ⟨_, ho, trivial⟩ hm hb, h1⟩, h2⟩
        | row m f =>
          refine ⟨_, hk.2, _, rfl, fun i hi => ?_⟩
          obtain ⟨u, h1, h2⟩ := own_cell hob hb (i := off + i) (by omega)
          exact ⟨u, ⟨b, off, rfl, hG id b ⟨_, ho, trivial⟩ hm hb, h1⟩, den_free _ _ _ (hk.1 i hi) (mono _ _ h2)⟩
        | lst l =>
          rcases hob with ⟨h1, h2⟩ | ⟨b', c, el, lo, hi, e, h1, h2, h3, h4, h5⟩
          · rw [hb] at h2; cases h2
          · rw [hb] at e
            obtain rfl := Option.some.inj e
            obtain ⟨us, g1, g2⟩ := choose_cells h5
            obtain ⟨m, hk2, g3, g4⟩ := givesK_spec (S' := S1) (N := L) (fun hd hk => giveV_spec hr hS hG n hd hk) (l := l) (vs := us) (fun i hi => let ⟨u, _, q2, q3⟩ := g2 i hi; ⟨u, q2, q3⟩) hk
            obtain ⟨hf, hk3⟩ := sure_iff.1 hk2
            refine ⟨_, hk3, _, rfl, fun i hi => ?_⟩
            obtain ⟨u, q1, q2, _⟩ := g2 (off + i) (by omega)
            obtain ⟨u', q3, q4⟩ := g4 (off + i) (by omega)
            rw [q2] at q3
            cases q3
            refine ⟨u, ⟨b, off, rfl, hG id b ⟨_, ho, trivial⟩ hm hb, ?_⟩, den_free _ _ _ (frees_spec hf (off + i) (by omega)) q4⟩
            simp [World.cell?, h1, q1]
    · obtain ⟨vs, rfl, hn, hc⟩ := hx
      obtain ⟨r, hk2, h1, h2⟩ := givesK_spec (fun hd hk => giveV_spec hr hS hG n hd hk) (tab_den hc) hk
      exact ⟨_, hk2, vs, rfl, hn, den_tab h1 h2⟩
    · obtain ⟨vs, rfl, hn, hc⟩ := hx
      obtain ⟨r, hk2, h1, h2⟩ := givesK_spec (fun hd hk => giveV_spec hr hS hG n hd hk) (tab_den hc) hk
      exact ⟨_, hk2, vs, rfl, hn, den_tab h1 h2⟩
    · exact ⟨_, hk, mono _ _ hx⟩

theorem killK_spec : ∀ {g : List Nat} {h : List AO} {K : List AO → Prop}, HRel C h L w → killK g h K →
    ∃ h1, K h1 ∧ Step C h L w h1 L w ∧ (∀ i, i ∈ g → h1[i]? = some .dead) ∧ ∀ i, Live h1 i → Live h i
  | [], h, K, hr, hk => ⟨h, hk, .refl hr, by simp, fun _ hi => hi⟩
  | j :: g, h, K, hr, hk => by
    obtain ⟨hj, hk1⟩ := setO_iff.1 hk
    have s1 : Step C h L w (h.set j .dead) L w := step_kill hr ⟨rfl, rfl, rfl⟩ rfl
    obtain ⟨h1, hk2, s2, h2, h3⟩ := killK_spec s1.rel hk1
    have hlen : h1.length = h.length := by
      have e1 := s2.rel.n
      have e2 := s1.rel.n
      simp at e2
      omega
    have back : ∀ i, Live h1 i → Live h i := fun i hi => by
      rcases live_set (h3 i hi) with ⟨_, h4⟩ | ⟨_, h4⟩
      · exact h4.elim
      · exact h4
    refine ⟨h1, hk2, s1.trans s2, fun i hi => ?_, back⟩
    rcases List.mem_cons.1 hi with rfl | hi
    · cases e : h1[i]? with
      | none =>
        rw [List.getElem?_eq_none_iff] at e
        omega
      | some o =>
        by_cases ho : o.live
        · rcases live_set (h3 i ⟨o, e, ho⟩) with ⟨_, h4⟩ | ⟨h4, _⟩
          · exact h4.elim
          · exact absurd rfl h4
        · cases o <;> first | rfl | exact absurd trivial ho
    · exact h2 i hi

theorem splitG_spec : ∀ {l : List Nat} {K : List Nat → List Nat → Prop}, splitG l K → ∃ p g, K p g
  | [], K, hk => ⟨_, _, hk⟩
  | n :: l, K, hk => by
    unfold splitG at hk
    split at hk
    · obtain ⟨p, g, h⟩ := splitG_spec hk; exact ⟨_, _, h⟩
    · obtain ⟨p, g, h⟩ := splitG_spec hk; exact ⟨_, _, h⟩

theorem callK_spec (hr : HRel C h L w) {f : FuncId} {args : List AV} {vs : Array Value} {K : AV → List AO → Prop} (hn : vs.size = args.length)
    (hv : ∀ (i : Nat) (x : AV), args[i]? = some x → ∃ v, vs[i]? = some v ∧ den w (SS C w h L) L x v) (hk : callK P f args h K) :
    Entered P f ∧ Calls P f vs w fun e w' => ∃ v x h' L', e = .returned v ∧ Step C h L w h' L' w' ∧ den w' (SS C w' h' L') L' x v ∧ K x h' := by
  obtain ⟨pass0, R, hk0⟩ := hk
  obtain ⟨pass, gs, hk1⟩ := splitG_spec hk0
  split at hk1
  · exact callB_spec hr hn hv hk1
  · rename_i g l
    have hvs : ∀ i, i < args.length → ∃ v, vs.toList[i]? = some v ∧ den w (SS C w h L) L (args.getD i .top) v := fun i hi => by
      obtain ⟨v, h1, h2⟩ := hv i args[i] (by simp [hi])
      exact ⟨v, by simpa using h1, by simpa [List.getD_eq_getElem?_getD, hi] using h2⟩
    -- what may be read once the blocks are let go
    let S1 : Nat → Prop := fun b => SS C w h L b ∨ ∃ id, Live h id ∧ id ∈ g :: l ∧ L.b id = some b
    obtain ⟨args', hk2, h1, h2⟩ := givesK_spec (S' := S1) (N := L) (fun hd hk => giveV_spec hr (fun b hb => .inl hb) (fun id b hl hm e => .inr ⟨id, hl, hm, e⟩) 5 hd hk) (l := args) (vs := vs.toList) hvs hk1
    obtain ⟨h1', hk3, hst, hdead, hback⟩ := killK_spec hr hk2
    have hSS : ∀ b, S1 b → SS C w h1' L b := fun b hb => by
      rcases hb with hb | ⟨id, hl, hm, e⟩
      · exact hst.ss b hb
      · refine ⟨(hr.mine id b hl e).1, .inr (hr.mine id b hl e).2, fun i hi e2 => ?_⟩
        have := hr.inj id i b hl (hback i hi) e e2
        subst this
        obtain ⟨o, ho, hlo⟩ := hi
        rw [hdead id hm] at ho
        cases ho
        exact hlo
    obtain ⟨hent, hcall⟩ := callB_spec hst.rel (vs := vs) (by omega) (fun i x hx => by
      have hi : i < args.length := by rw [← h1]; exact (List.getElem?_eq_some_iff.1 hx).1
      obtain ⟨u, g1, g2⟩ := h2 i hi
      have : args'.getD i .top = x := by simp [List.getD_eq_getElem?_getD, hx]
      rw [this] at g2
      exact ⟨u, by simpa using g1, den_mono (fun _ _ => rfl) hSS (.refl _) _ _ g2⟩) hk3
    exact ⟨hent, hcall.mono fun e w' ⟨v, x, h', L', e1, e2, e3, e4⟩ => ⟨v, x, h', L', e1, hst.trans e2, e3, e4⟩⟩

end
end Go.Proofs.YtflclafbieokiaaGreatDoor.AL
