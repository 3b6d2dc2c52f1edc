/-
  The state's own logic is sound: rows that are made, grown, copied. No program in sight.
-/
import Derived.Test.YtmohncaoimeneaaDoorAlEff
set_option linter.unusedVariables false
set_option linter.unusedSectionVars false
namespace Go.Proofs.YtmohncaoimeneaaDoor.AL
open Go
variable [Globs]

section
variable {P : Program} {C : Ctx} {t : List AV} {h : List AO} {L : Loc} {a : Act} {w : World}

theorem intB_spec {T : TypeId} {k : IntKind} (hi : intB P T = some k) : P.underlying T = some (.int k) := by
  unfold intB at hi
  split at hi
  · rename_i k' h; cases hi; exact h
  · cases hi

/-- A new row. -/
theorem new_row {E : TypeId} {c : Array Value} {o : AO} {len sz : Nat} {s : Sem Value} {K : AV → List AO → Prop} (hr : HRel C h L w) {w2 : World} {cap : Nat}
    (hs : s.run P w = .ok (.slice (some ⟨w.heap.size, 0, none⟩) len cap) w2)
    {lo hi : Nat} (hf : ∀ o, o < c.size → (decide (lo ≤ o) && decide (o < hi)) = false) (h2 : w2.heap = w.heap.push (.cells c E (lo, hi))) (hal2 : Alike w w2) (hcap : len ≤ cap) (hsz : cap * sz ≤ c.size)
    (ho : ∀ w' L', w'.heap = w.heap.push (.cells c E (lo, hi)) → L.le L' → objIs w' (SS C w h L) L' (some w.heap.size) c.size o)
    (hk : addO h o fun id h' => K (.own id 0 len sz) h') : EffV P C h L w s K := by
  have hst := step_new (w' := w2) (sz := c.size) hr hal2 h2 (fun L' hL => ho _ L' h2 hL)
  refine ⟨_, .own h.length 0 len sz, _, _, _, hs, hst, ⟨push_n hr _ _, .inr ⟨_, cap, push_b hr _ _, rfl, hcap, ?_⟩⟩, addO_spec hk⟩
  rw [push_sz hr]
  omega

theorem range_cells {n s : Nat} {z : Array Value} (hz : z.size = s) {i : Nat} (hi : i < n) : ((Array.range n).map (z[· % z.size]!))[i]? = some (z[i % z.size]!) := by
  simp [hi]

theorem makeK_spec {T : TypeId} {x y : AV} {vx vy : Value} {K : AV → List AO → Prop} (hr : HRel C h L w) (hx : den w (SS C w h L) L x vx) (hy : den w (SS C w h L) L y vy)
    (hk : makeK P T h x y K) : EffV P C h L w (Instr.makeSlice T vx vy) K := by
  unfold makeK at hk
  split at hk
  · rename_i n m
    obtain rfl := hx
    obtain rfl := hy
    split at hk
    · rename_i e hu
      split at hk
      · rename_i i hi
        obtain ⟨⟨h0, h1, h2, h3⟩, hk⟩ := hk
        -- the run, but for the cells
        have wrap : ∀ j : Int, 0 ≤ j → j < 9223372036854775808 → IntKind.i64.wrap j = j := fun j a b => by
          simp [IntKind.wrap, IntKind.bits, IntKind.signed]
          omega
        have wn := wrap n h0 (by omega)
        have wm := wrap m (by omega) h2
        have hfit : ¬ ((decide (m < 0) || decide ((i.bytes : Int) * m > 2 ^ 48)) = true ∨ n < 0 ∨ n > m) := by
          have : (i.bytes : Int) * m ≤ 140737488355328 := by rw [Int.mul_comm]; exact h3
          simp
          omega
        have run : ∀ {s : Nat} {z : Value}, (∀ w, (sizeOf e).run P w = .ok s w) → (∀ w, (zeroValue e).run P w = .ok z w) → 0 < s → z.cells.size = s →
            (Instr.makeSlice T (.int .i64 n) (.int .i64 m)).run P w = .ok (.slice (some ⟨w.heap.size, 0, none⟩) n.toNat m.toNat)
              { w with heap := w.heap.push (.cells ((Array.range (m.toNat * s)).map (z.cells[· % z.cells.size]!)) e) } := by
          intro s z hs hz hpos hzs
          have hinfo : (typeInfo e).run P w = .ok i w := by simp [typeInfo, hi]
          unfold Instr.makeSlice
          simp only [Sem.run_bind, run_underlying hu, Result.andThen_ok, asInt, asIntOf, Sem.run_pure, hinfo, wn, wm]
          have e1 : (decide (m < 0) || decide ((i.bytes : Int) * m > 2 ^ 48) || decide (n < 0) || decide (n > m)) = false := by
            have : (i.bytes : Int) * m ≤ 140737488355328 := by rw [Int.mul_comm]; exact h3
            simp
            omega
          simp only [e1, Bool.false_eq_true, if_false]
          simp only [Sem.run_bind, run_askRoom, Result.andThen_ok, hs]
          by_cases hz0 : m.toNat * s = 0
          · have : m.toNat = 0 := by
              rcases Nat.mul_eq_zero.1 hz0 with h | h
              · exact h
              · omega
            have h00 : ∀ f : Nat → Value, Array.map f (Array.range 0) = #[] := fun f => Array.eq_empty_of_size_eq_zero (by simp)
            simp [this, run_newRow, h00]
          · simp only [hz0, if_false, Sem.run_bind, hz, Result.andThen_ok, Sem.run_pure, run_newRow]
        have hcells : ∀ {s : Nat} {z : Value}, 0 < s → z.cells.size = s → ∀ i, i < m.toNat * s → ((Array.range (m.toNat * s)).map (z.cells[· % z.cells.size]!))[i]? = some (z.cells[i % s]!) := by
          intro s z hpos hzs i hi
          simp [hi, hzs]
        have hle : ∀ s, n.toNat * s ≤ m.toNat * s := fun s => Nat.mul_le_mul_right _ (by omega)
        split at hk
        · rename_i k hik
          obtain ⟨s, hs, _, hk⟩ := sizeK_spec hk
          obtain ⟨rfl, hk1⟩ := sure_iff.1 hk
          obtain ⟨z, hz, hk2⟩ := zeroK_spec hk1
          obtain ⟨hzs, hz0, hk3⟩ := sure_iff.1 hk2
          refine new_row hr (run hs hz (by omega) hzs) (no_frozen _) rfl ⟨rfl, rfl, rfl⟩ (by omega) (by simp) (fun w' L' hw hL => ?_) hk3
          refine cells_new hw (no_frozen _) (by simp; omega) fun i hi => ⟨_, hcells (s := 1) (z := z) (by omega) hzs i (by simp at hi; omega), ?_⟩
          simp at hi
          rw [Nat.mod_one, hz0]
          simp [List.getD_eq_getElem?_getD, hi]
        · obtain ⟨s, hs, _, hk⟩ := sizeK_spec hk
          obtain ⟨hpos, hk1⟩ := sure_iff.1 hk
          obtain ⟨z, hz, hk2⟩ := zeroK_spec hk1
          obtain ⟨hzs, hk3⟩ := sure_iff.1 hk2
          refine new_row hr (run hs hz hpos hzs) (no_frozen _) rfl ⟨rfl, rfl, rfl⟩ (by omega) (by simp) (fun w' L' hw hL => ?_) hk3
          refine cells_new hw (no_frozen _) (by simpa using hle s) fun i hi => ⟨_, hcells (z := z) hpos hzs i (by have := hle s; omega), rfl⟩
      · exact hk.elim
    · exact hk.elim
  · exact hk.elim

theorem bytes_world (w : World) (e : TypeId) (s : ByteArray) : (Lib.bytesWorld w e s).heap = w.heap.push (.cells (Lib.bytesCells w e s) e ((Lib.bytesCells w e s).size, (Lib.bytesCells w e s).size + 1)) := by
  apply Array.ext_getElem?
  intro i
  rcases Nat.lt_or_ge i w.heap.size with h1 | h1
  · rw [Lib.bytesWorld_at_old w e s i h1, Array.getElem?_push_lt h1, Array.getElem?_eq_getElem h1]
  · rcases Nat.eq_or_lt_of_le h1 with h2 | h2
    · subst h2
      rw [Lib.bytesWorld_at_new]; simp
    · rw [Array.getElem?_eq_none (by rw [Lib.bytesWorld_size]; omega), Array.getElem?_eq_none (by simp; omega)]

theorem stringToBytes_spec {src dst e : TypeId} {s : ByteArray} {d : TypeDesc} {K : AV → List AO → Prop} (hr : HRel C h L w) (hs : P.underlying src = some d) (hd : P.underlying dst = some (.slice e))
    (he : P.underlying e = some (.int .u8)) (hk : addO h (.ints .u8 (intsOf s)) fun id h' => K (.own id 0 s.size 1) h') : EffV P C h L w (convert src dst (.string s)) K := by
  have hcap : s.size ≤ grownCap w s.size 0 e := by simp [grownCap, Question.cut]
  have hsz : (Lib.bytesCells w e s).size = grownCap w s.size 0 e := by
    have : s.data.size = s.size := rfl
    simp [Lib.bytesCells]; omega
  refine new_row hr (Lib.run_convert_string_bytes w src dst e s hs hd he) (fun o ho => by simp; omega) (bytes_world w e s) ⟨rfl, rfl, rfl⟩ hcap (by omega) (fun w' L' hw hL => ?_) hk
  refine cells_new hw (fun o ho => by simp; omega) (by rw [intsOf_length]; omega) fun i hi => ⟨_, ?_, rfl⟩
  rw [intsOf_length] at hi
  obtain ⟨b, hb, e1⟩ := intsOf_get hi
  have hi' : i < s.data.size := hi
  have h2 : s[i]? = some s.data[i] := getElem?_pos s i hi
  rw [e1]
  rw [h2] at hb
  cases hb
  have h3 : s.data[i]? = some s.data[i] := Array.getElem?_eq_getElem hi'
  unfold Lib.bytesCells
  rw [Array.getElem?_append_left (by simpa using hi'), Array.getElem?_map, h3]
  rfl

/-- A place without a block. -/
theorem step_none (hr : HRel C h L w) {w' : World} (hs : Alike w w') (hw : w'.heap = w.heap) {o : AO} (ho : ∀ L', L.le L' → objIs w' (SS C w h L) L' none 0 o) : Step C h L w (h ++ [o]) (L.push none 0) w' := by
  have hL := L.push_le none 0
  have hn := hr.n
  refine step_of hr hs (by rw [hw]; exact Nat.le_refl _) hL (by simp [Loc.push, hn]) (by simp) (fun k hk => .inl (by rw [hw])) (fun i b hi e => ?_) (fun i j b hi hj ei ej => ?_) (fun i p hp => ?_)
  · rcases live_append hi with ⟨h1, h2⟩ | h1
    · rw [hL.b i (by omega)] at e
      exact ⟨by rw [hw]; exact (hr.mine i b h2 e).1, .inr ⟨i, h2, e⟩⟩
    · subst h1; simp [Loc.push, hn] at e
  · rcases live_append hi with ⟨h1, h2⟩ | h1
    · rcases live_append hj with ⟨h3, h4⟩ | h3
      · rw [hL.b i (by omega)] at ei
        rw [hL.b j (by omega)] at ej
        exact hr.inj i j b h2 h4 ei ej
      · subst h3; simp [Loc.push, hn] at ej
    · subst h1; simp [Loc.push, hn] at ei
  · rcases get_append hp with ⟨h1, h2⟩ | ⟨h1, h2⟩
    · exact old_obj hr hL h2 (fun k _ => by rw [hw]) (fun k _ _ => by rw [hw])
    · subst h1 h2
      have := ho (L.push none 0) hL
      simpa [Loc.push, hn] using this


theorem run_append_fits {T T2 ty e : TypeId} {d : TypeDesc} {sz m sLen sCap : Nat} {base : Option Addr} {x : Value} {us : List Value} {w w' : World} (ht : P.underlying T = some (.slice e))
    (hs : ∀ w, (sizeOf e).run P w = .ok sz w) (h2 : P.underlying T2 = some d) (hd : notInt d = true) (hlen : ∀ w, (Builtin.lenOf x).run P w = .ok m w)
    (hfirst : (Builtin.firstCells sz m x).run P w = .ok us.toArray w) (hfit : sLen + m ≤ sCap)
    (hstore : ∀ a, base = some a → (storeCells (a.add (sLen * sz)) us).run P w = .ok () w') (hnone : base = none → w' = w) :
    (Builtin.append_ #[T, T2] ty #[.slice base sLen sCap, x]).run P w = .ok (.slice base (sLen + m) sCap) w' := by
  cases base with
  | none =>
    obtain rfl := hnone rfl
    cases d <;> simp [notInt] at hd <;> simp [Builtin.append_, run_underlying ht, run_underlying h2, hs, hlen, hfirst, hfit]
  | some a =>
    have := hstore a rfl
    cases d <;> simp [notInt] at hd <;> simp [Builtin.append_, run_underlying ht, run_underlying h2, hs, hlen, hfirst, hfit, this]

theorem run_append_more {T T2 ty e : TypeId} {d : TypeDesc} {i : TypeInfo} {z : Value} {m sLen sCap : Nat} {base : Option Addr} {x : Value} {us olds : List Value} {w : World} (ht : P.underlying T = some (.slice e))
    (hi : P.info? e = some i) (hz : i.zero = some z) (h2 : P.underlying T2 = some d) (hd : notInt d = true) (hlen : ∀ w, (Builtin.lenOf x).run P w = .ok m w)
    (hfirst : ∀ w', w'.heap = w.heap → (Builtin.firstCells i.size m x).run P w' = .ok us.toArray w') (holds : ∀ w', w'.heap = w.heap → (Builtin.firstCells i.size sLen (.slice base sLen sCap)).run P w' = .ok olds.toArray w')
    (hfit : sCap < sLen + m) (hb : (sLen + m) * i.bytes ≤ 140737488355328) (h63 : sLen + m < 9223372036854775808) :
    (Builtin.append_ #[T, T2] ty #[.slice base sLen sCap, x]).run P w =
      .ok (.slice (some ⟨w.heap.size, 0, none⟩) (sLen + m) (grownCap w (sLen + m) sCap e))
        (w.drew.alloc (.cells ((olds ++ us).toArray ++ Builtin.zeroCells z.cells (grownCap w (sLen + m) sCap e - (sLen + m))) e)) := by
  have hn : ¬ (sLen + m ≤ sCap) := by omega
  have h48 : ¬ (281474976710656 < Builtin.nextslicecap (sLen + m) sCap * i.bytes) := by
    have := growslice_fits (need := sLen + m) (old := sCap) (bytes := i.bytes) hfit hb
    omega
  have f1 := hfirst w.drew rfl
  have f2 := holds w.drew rfl
  have h63' : ¬ (9223372036854775807 < ((sLen : Int) + (m : Int))) := by omega
  cases d <;> simp [notInt] at hd <;>
    simp [Builtin.append_, run_underlying ht, run_underlying h2, sizeOf, typeInfo, zeroValue, hi, hz, hlen, hn, h48, h63', Question.forced, f1, f2, newRow, grownCap, Array.append_assoc] <;>
    rw [← List.append_toArray, Array.append_assoc]

/-- What an appended row is: how many, and their cells. -/
structure Src (P : Program) (w : World) (sz : Nat) (x : Value) (m : Nat) (q : Nat → Value → Prop) : Prop where
  len : ∀ w, (Builtin.lenOf x).run P w = .ok m w
  cells : ∃ us : List Value, us.length = m * sz ∧ (∀ w' n, w'.heap = w.heap → n ≤ m → (Builtin.firstCells sz n x).run P w' = .ok (us.take (n * sz)).toArray w') ∧ (∀ u ∈ us, u.oneCell' = true) ∧ ∀ i, i < m * sz → ∃ u, us[i]? = some u ∧ q i u

theorem Src.full {sz m : Nat} {x : Value} {q : Nat → Value → Prop} (hx : Src P w sz x m q) : ∃ us : List Value, us.length = m * sz ∧ (∀ w', w'.heap = w.heap → (Builtin.firstCells sz m x).run P w' = .ok us.toArray w') ∧ (∀ u ∈ us, u.oneCell' = true) ∧ ∀ i, i < m * sz → ∃ u, us[i]? = some u ∧ q i u := by
  obtain ⟨us, h1, h2, h3, h4⟩ := hx.cells
  exact ⟨us, h1, fun w' hw => by rw [h2 w' m hw (Nat.le_refl _), ← h1, List.take_length], h3, h4⟩

theorem run_firstCells {A : Option Addr} {sz n m cap : Nat} {us : List Value} {w : World} (hl : us.length = n * sz)
    (hc : ∀ j, j < n * sz → ∃ b o, A = some ⟨b, o, none⟩ ∧ w.cell? ⟨b, o + j, none⟩ = us[j]?) : (Builtin.firstCells sz n (.slice A m cap)).run P w = .ok us.toArray w := by
  rcases Nat.eq_zero_or_pos (n * sz) with h0 | h0
  · have : us = [] := List.length_eq_zero_iff.1 (by omega)
    subst this
    cases A with
    | none => rfl
    | some A => simp [Builtin.firstCells, loadCells, h0, loadCellsFrom]
  · obtain ⟨b, o, rfl, _⟩ := hc 0 h0
    simp only [Builtin.firstCells]
    exact run_loadCells ⟨b, o, none⟩ rfl hl fun j hj => by
      obtain ⟨b', o', e, h1⟩ := hc j hj
      cases e
      exact h1

theorem src_empty (A : Option Addr) (cap : Nat) {sz : Nat} {q : Nat → Value → Prop} : Src P w sz (.slice A 0 cap) 0 q := by
  refine ⟨fun w => rfl, [], by simp, fun w' n' _ hn' => ?_, by simp, fun i hi => by omega⟩
  obtain rfl : n' = 0 := by omega
  cases A with
  | none => simp [Builtin.firstCells]
  | some A => simp [Builtin.firstCells, loadCells, loadCellsFrom]

theorem src_of_rcells {S : Nat → Prop} {A : Option Addr} {sz n cap : Nat} {q : Nat → Value → Prop} (hc : ∀ i, i < n * sz → ∃ u, rcell w S A i u ∧ u.oneCell' = true ∧ q i u) : Src P w sz (.slice A n cap) n q := by
  obtain ⟨us, h1, h2⟩ := choose_cells (n := n * sz) (c := fun i => match A with | some ⟨b, o, none⟩ => w.cell? ⟨b, o + i, none⟩ | _ => none) (p := fun i u => rcell w S A i u ∧ u.oneCell' = true ∧ q i u) (by
    intro i hi
    obtain ⟨u, ⟨b, o, e, hb, hcell⟩, h2⟩ := hc i hi
    subst e
    exact ⟨u, hcell, ⟨b, o, rfl, hb, hcell⟩, h2⟩)
  refine ⟨fun w => rfl, us, h1, fun w' n' hw hn' => run_firstCells (by rw [List.length_take]; have := Nat.mul_le_mul_right sz hn'; omega) fun j hj => ?_, fun u hu => ?_, fun i hi => ?_⟩
  · have hjn : j < n * sz := Nat.lt_of_lt_of_le hj (Nat.mul_le_mul_right sz hn')
    obtain ⟨u, h3, h4, ⟨b, o, e, _, hcell⟩, _⟩ := h2 j hjn
    exact ⟨b, o, e, by rw [List.getElem?_take_of_lt hj, h4]; simpa only [World.cell?, hw] using hcell⟩
  · obtain ⟨i, hi, e⟩ := List.getElem_of_mem hu
    obtain ⟨u', h3, h4, _, h5, _⟩ := h2 i (by omega)
    rw [List.getElem?_eq_getElem hi, e] at h4
    cases h4
    exact h5
  · obtain ⟨u, h3, h4, _, _, h5⟩ := h2 i hi
    exact ⟨u, h4, h5⟩

theorem own_src (hr : HRel C h L w) {id off len sz n : Nat} {o : AO} {v : Value} {p : Nat → Value → Prop} (ho : h[id]? = some o) (hc : cellsAre w (L.b id) (L.sz id) n p) (hv : den w (SS C w h L) L (.own id off len sz) v)
    (hle : off + len * sz ≤ n) (hone : ∀ i u, i < n → p i u → u.oneCell' = true) : Src P w sz v len (fun i u => p (off + i) u) := by
  obtain ⟨_, ⟨rfl, A, rfl⟩ | ⟨b, cap, hb, rfl, hcap, hsz⟩⟩ := hv
  · exact src_empty A 0
  · exact src_of_rcells (S := fun _ => True) fun i hi => by
      obtain ⟨u, h1, h2⟩ := own_cell hc hb (i := off + i) (by omega)
      exact ⟨u, ⟨b, off, rfl, trivial, h1⟩, hone _ _ (by omega) h2, h2⟩

theorem intsK_spec (hr : HRel C h L w) {k : IntKind} {x : AV} {vx : Value} {K : List Int → Prop} (hx : den w (SS C w h L) L x vx) (hk : intsK h k x K) :
    ∃ ys, K ys ∧ Src P w 1 vx ys.length (fun i u => u = .int k (ys.getD i 0)) := by
  unfold intsK at hk
  split at hk
  · rename_i k' ys
    obtain ⟨rfl, hk2⟩ := sameKind_iff.1 hk
    obtain ⟨A, cap, rfl, hcap, hc⟩ := hx
    exact ⟨ys, hk2, src_of_rcells fun i hi => ⟨_, hc i (by omega), rfl, rfl⟩⟩
  · rename_i id off len
    replace hk := getO_iff.1 hk
    obtain ⟨o, ho, hk⟩ := hk
    split at hk
    · rename_i k' ys
      obtain ⟨rfl, hle, hk2⟩ := sameKind_iff.1 hk
      refine ⟨_, hk2, ?_⟩
      have hl : ((ys.drop off).take len).length = len := by simp; omega
      rw [hl]
      obtain ⟨h1, us, h2, h3, h4, h5⟩ := own_src (P := P) hr ho (hr.objs id _ ho) hx (by omega) (fun i u _ hu => by subst hu; rfl)
      refine ⟨h1, us, h2, h3, h4, fun i hi => ?_⟩
      obtain ⟨u, g1, g2⟩ := h5 i hi
      refine ⟨u, g1, ?_⟩
      rw [g2, List.getD_eq_getElem?_getD, List.getD_eq_getElem?_getD, List.getElem?_take_of_lt (by omega), List.getElem?_drop]
    · exact hk.elim
  · obtain rfl := hx
    exact ⟨[], hk, src_empty none 0⟩
  · rename_i s
    obtain ⟨rfl, hk2⟩ := sameKind_iff.1 hk
    obtain rfl := hx
    refine ⟨_, hk2, ⟨fun w => by rw [intsOf_length]; rfl, (intsOf s).map (Value.int .u8), by simp, fun w' n' _ hn' => ?_, by simp [Value.oneCell'], fun i hi => ?_⟩⟩
    · simp only [Builtin.firstCells, Sem.run_pure]
      congr 1
      apply Array.ext'
      simp [intsOf, ByteArray.data_extract]
      rfl
    · have hi' : i < (intsOf s).length := by omega
      exact ⟨.int .u8 ((intsOf s).getD i 0), by simp [List.getD_eq_getElem?_getD, hi'], rfl⟩
  · exact hk.elim

end
end Go.Proofs.YtmohncaoimeneaaDoor.AL
